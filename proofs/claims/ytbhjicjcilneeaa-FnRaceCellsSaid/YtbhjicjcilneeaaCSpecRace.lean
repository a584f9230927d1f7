/-
  Contract of the reference's RaceCells: the cells of the accesses that clash with an earlier one, in ascending order, each once.
-/
import Derived.Test.YtbhjicjcilneeaaCRaceCells
import Derived.Test.YtbhjicjcilneeaaCSpecCells
namespace Go.Proofs.Ytbhjicjcilneeaa
open Go.RowKit
set_option maxHeartbeats 800000
set_option linter.unusedVariables false

/-- what the reference notes for access b against the first i. -/
def fnd (xs : List Acc) (i : Nat) (b : Acc) : List Acc := ((xs.take i).filter fun a => clash a b).map fun _ => ⟨0, b.cell, true, 0⟩
def foundUpto (xs : List Acc) : Nat → List Acc
  | 0 => []
  | j + 1 => foundUpto xs j ++ (match xs[j]? with | some b => fnd xs j b | none => [])
theorem foundUpto_succ (xs : List Acc) (j : Nat) (h : j < xs.length) : foundUpto xs (j + 1) = foundUpto xs j ++ fnd xs j xs[j] := by
  rw [foundUpto, List.getElem?_eq_getElem h]
theorem fnd_succ (xs : List Acc) (i : Nat) (b : Acc) (h : i < xs.length) : fnd xs (i + 1) b = fnd xs i b ++ if clash xs[i] b = true then [⟨0, b.cell, true, 0⟩] else [] := by
  unfold fnd
  rw [List.take_succ_eq_append_getElem h, List.filter_append, List.map_append]
  congr 1
  by_cases e : clash xs[i] b = true
  · rw [if_pos e, List.filter_cons_of_pos (by simpa using e)]; rfl
  · rw [if_neg e, List.filter_cons_of_neg (by simpa using e)]; rfl
theorem fnd_le (xs : List Acc) (i : Nat) (b : Acc) : (fnd xs i b).length ≤ i := by
  unfold fnd
  rw [List.length_map]
  exact Nat.le_trans (List.length_filter_le _ _) (List.length_take_le _ _)
theorem foundUpto_le (xs : List Acc) (j : Nat) (n : Nat) (hn : j ≤ n) : (foundUpto xs j).length ≤ j * n := by
  induction j with
  | zero => simp [foundUpto]
  | succ j ih =>
    rw [foundUpto, List.length_append]
    have := ih (by omega)
    have h1 : (j + 1) * n = j * n + n := Nat.succ_mul j n
    split
    · rename_i b _
      have := fnd_le xs j b
      omega
    · simp; omega
theorem found_race (xs : List Acc) (j : Nat) (hj : j ≤ xs.length) (z : Int) : z ∈ writtenCells (foundUpto xs j) ↔ z ∈ raceUpto xs j := by
  induction j with
  | zero => simp [foundUpto, raceUpto, writtenCells]
  | succ j ih =>
    have hlt : j < xs.length := by omega
    rw [foundUpto_succ xs j hlt, raceUpto_succ xs j hlt]
    have e : writtenCells (foundUpto xs j ++ fnd xs j xs[j]) = writtenCells (foundUpto xs j) ++ writtenCells (fnd xs j xs[j]) := by simp [writtenCells]
    rw [e, List.mem_append, List.mem_append, ih (by omega)]
    have e2 : z ∈ writtenCells (fnd xs j xs[j]) ↔ z ∈ (if hits xs j xs[j] = true then [xs[j].cell] else []) := by
      constructor
      · intro h
        simp only [writtenCells, fnd, List.mem_map, List.mem_filter] at h
        obtain ⟨a, ⟨⟨b, ⟨hb, hc⟩, rfl⟩, _⟩, rfl⟩ := h
        have : hits xs j xs[j] = true := by
          unfold hits; rw [List.any_eq_true]; exact ⟨b, hb, hc⟩
        rw [if_pos this]; simp
      · intro h
        split at h
        · rename_i hh
          unfold hits at hh
          rw [List.any_eq_true] at hh
          obtain ⟨b, hb, hc⟩ := hh
          simp only [List.mem_singleton] at h
          subst h
          simp only [writtenCells, fnd, List.mem_map, List.mem_filter]
          exact ⟨_, ⟨⟨b, ⟨hb, hc⟩, rfl⟩, rfl⟩, rfl⟩
        · cases h
    rw [e2]

theorem specRaceCells_any (A : Option Addr) (c : Nat) (xs : List Acc) (w : World) (hl : xs.length ≤ 1048576) (hs : Sl w A (flat xs)) :
    Calls Try.prog 34 #[.slice A xs.length c] w (RetInts (asc (raceUpto xs xs.length)) w) := by
  have hq : ∀ j, j ≤ xs.length → (foundUpto xs j).length ≤ 1099511627776 := fun j hj => by
    have h1 := foundUpto_le xs j xs.length hj
    have h2 : j * xs.length ≤ 1048576 * 1048576 := Nat.mul_le_mul (by omega) hl
    omega
  have HQ := mkHid hq
  clear hq
  go_enter Try.func34, Try.ntmps34
  go_wp2_with fail
  go_loopw [3, 4] (fun v jv wr => ∃ j : Nat, j ≤ xs.length ∧ jv = .int .i64 j ∧ (∃ A c, v = .slice A (foundUpto xs j).length c ∧ wr.ownsRow w.heap.size 35 4 (.slice A (foundUpto xs j).length c) (foundUpto xs j).length (flat (foundUpto xs j))) ∧ Below w.heap.size w wr) (fun _ jv _ => xs.length - (intOf jv).toNat)
  case atStart => exact ⟨0, by omega, rfl, ⟨_, 0, rfl, own_empty w _ _⟩, (Below.refl _ _).alloc (Nat.le_refl _) _⟩
  case round =>
    obtain ⟨j, hj, rfl, ⟨A1, c1, rfl, hown⟩, hb⟩ := hrel
    obtain ⟨wo, rfl⟩ : ∃ wo : World, wo = wr := ⟨_, rfl⟩
    have hsz := hb.size
    have HB := mkHid hb
    have HO := mkHid hown
    have hs1 := hs.below hb
    clear hb hown
    by_cases hlt : j < xs.length
    · have HT := mkHid (foundUpto_succ xs j hlt)
      have hq0 := HQ.out j hj
      go_wp2_with fail
      go_loopw [3, 5] (fun v iv wr => ∃ i : Nat, i ≤ j ∧ iv = .int .i64 i ∧ (∃ A c, ∃ fs : List Acc, Hid (fs = foundUpto xs j ++ fnd xs i xs[j]) ∧ v = .slice A fs.length c ∧ wr.ownsRow w.heap.size 35 4 (.slice A fs.length c) fs.length (flat fs)) ∧ Below w.heap.size w wr) (fun _ iv _ => j - (intOf iv).toNat)
      case atStart =>
        have e : foundUpto xs j ++ fnd xs 0 xs[j] = foundUpto xs j := by simp [fnd]
        exact ⟨0, by omega, rfl, ⟨A1, c1, foundUpto xs j, mkHid e.symm, rfl, HO.out⟩, HB.out⟩
      case round =>
        obtain ⟨i, hi, rfl, ⟨A2, c2, fs, HE, rfl, hown2⟩, hb2⟩ := hrel
        have HB2 := mkHid hb2
        have HO2 := mkHid hown2
        have hs2 := hs.below hb2
        have hsz2 := hb2.size
        have hle := fnd_le xs i xs[j]
        have hlen : (foundUpto xs j ++ fnd xs i xs[j]).length = (foundUpto xs j).length + (fnd xs i xs[j]).length := List.length_append
        have hlb : fs.length ≤ 1099512676352 := by rw [HE.out]; omega
        clear hb2 hown2 hlen
        by_cases hlt2 : i < j
        · have hil : i < xs.length := by omega
          obtain ⟨b, off, rfl, h0, h1, h2, h3⟩ := hs2.acc hil
          obtain ⟨b', off', hbb, g0, g1, g2, g3⟩ := hs2.acc hlt
          injection hbb with hbb
          injection hbb with e1 e2
          subst e1
          subst e2
          have HC0 := mkHid g0
          have HC1 := mkHid g1
          have h0 := fun u : Ext wr => u.keeps h0
          have h1 := fun u : Ext wr => u.keeps h1
          have h2 := fun u : Ext wr => u.keeps h2
          have h3 := fun u : Ext wr => u.keeps h3
          have g0 := fun u : Ext wr => u.keeps g0
          have g1 := fun u : Ext wr => u.keeps g1
          have g2 := fun u : Ext wr => u.keeps g2
          have g3 := fun u : Ext wr => u.keeps g3
          have HS := mkHid (fnd_succ xs i xs[j] hil)
          clear hs hs1 hs2
          cases hc : clash xs[i] xs[j] with
          | true =>
            have HC := mkHid hc
            clear hc
            go_wp2_with fail
            refine wp_region_ext (by kernel_rfl) (by kernel_rfl) ?_
            repeat (go_big_quiet_step ((go_at_call 35; with_reducible exact ext_call (specClash_w xs[i] xs[j] _ HC.out))))
            refine wpQuiet_nil (ext_end fun X hX => ?_)
            clear h0 h1 h2 h3 g0 g1 g2 g3
            have HX := mkHid hX
            have hszX := hX.size
            have c0 : X.cell? ⟨b, off + j * 4, none⟩ = some (.int .i64 xs[j].who) := (hX.cell (World.block_lt_of_cell? wr _ HC0.out)).trans HC0.out
            have c1 : X.cell? ⟨b, off + j * 4 + 1, none⟩ = some (.int .i64 xs[j].cell) := (hX.cell (World.block_lt_of_cell? wr _ HC1.out)).trans HC1.out
            have HO3 := mkHid (own_below HO2.out hX)
            clear hX
            go_wp2_with (at_builtin; refine wpList_app Ea (HO3.out.alloc _) (newCells _ _ _) rfl (by simp [Value.oneCell']) (by omega) (by omega) (by simp; omega) rfl rfl rfl rfl ?_; intro A' c' w6 hown6 hg6; have HO6 := mkHid hown6; have HG6 := mkHid hg6; clear hown6 hg6)
            go_roundw
            case rel =>
              refine ⟨i + 1, by omega, by go_num, ?_, ?_⟩
              · refine ⟨A', c', fs ++ [⟨0, xs[j].cell, true, 0⟩], mkHid ?_, by simp, ?_⟩
                · rw [HE.out, HS.out, if_pos HC.out, List.append_assoc]
                · have := HO6.out
                  rw [flat_append, List.length_append]
                  exact this
              · exact ((below_then HB2.out HX.out).alloc (by omega) _).grown HG6.out (by simp; omega) (fun g hg => (HO3.out.lt g hg).1)
            case measure => simp [intOf]; omega
          | false =>
            have HC := mkHid hc
            clear hc
            go_wp2_with fail
            refine wp_region_ext (by kernel_rfl) (by kernel_rfl) ?_
            repeat (go_big_quiet_step ((go_at_call 35; with_reducible exact ext_call (specClash_w xs[i] xs[j] _ HC.out))))
            refine wpQuiet_nil (ext_end fun X hX => ?_)
            clear h0 h1 h2 h3 g0 g1 g2 g3
            have HX := mkHid hX
            have HO3 := mkHid (own_below HO2.out hX)
            clear hX
            go_wp2_with fail
            go_roundw
            case rel =>
              refine ⟨i + 1, by omega, by go_num, ⟨A2, c2, fs, mkHid ?_, rfl, HO3.out⟩, below_then HB2.out HX.out⟩
              rw [HE.out, HS.out, if_neg (by rw [HC.out]; simp), List.append_nil]
            case measure => simp [intOf]; omega
        · have : i = j := by omega
          subst this
          go_wp2_with fail
          go_roundw
          case rel =>
            refine ⟨i + 1, by omega, by go_num, ?_, HB2.out⟩
            rw [HT.out, ← HE.out]
            exact ⟨A2, c2, rfl, HO2.out⟩
          case measure => simp [intOf]; omega
    · have : j = xs.length := by omega
      subst this
      have hq0 := HQ.out _ hj
      have hC := specCellsWritten_any A1 c1 (foundUpto xs xs.length) wo (by omega) (Sl.of_own HO.out)
      rw [asc_congr (found_race xs xs.length (Nat.le_refl _))] at hC
      have HC := mkHid hC
      clear hC
      go_wp2_with fail
      refine HC.out.mono ?_
      rintro e w2 ⟨A2, c2, rfl, ho2, hb2⟩
      have HR := mkHid (And.intro (own_base ho2 hsz) (below_then HB.out hb2))
      clear ho2 hb2
      go_wp2_with fail
      go_ret
      exact ⟨A2, c2, rfl, HR.out.1, HR.out.2⟩
end Go.Proofs.Ytbhjicjcilneeaa
