/-
  Contract of the program's RaceCells: the cells of the accesses that clash with an earlier one, in ascending order, each once.
-/
import Derived.Test.YtbhjicjcilneeaaCRace
import Derived.Test.YtbhjicjcilneeaaCCells
namespace Go.Proofs.Ytbhjicjcilneeaa
open Go.RowKit
set_option maxHeartbeats 800000
set_option linter.unusedVariables false

def hits (xs : List Acc) (k : Nat) (b : Acc) : Bool := (xs.take k).any fun a => clash a b
def raceUpto (xs : List Acc) : Nat → List Int
  | 0 => []
  | k + 1 => raceUpto xs k ++ (match xs[k]? with | some b => if hits xs k b = true then [b.cell] else [] | none => [])
theorem raceUpto_succ (xs : List Acc) (k : Nat) (h : k < xs.length) : raceUpto xs (k + 1) = raceUpto xs k ++ if hits xs k xs[k] = true then [xs[k].cell] else [] := by
  rw [raceUpto, List.getElem?_eq_getElem h]
theorem raceUpto_le (xs : List Acc) (k : Nat) : (raceUpto xs k).length ≤ k := by
  induction k with
  | zero => simp [raceUpto]
  | succ k ih =>
    rw [raceUpto, List.length_append]
    split
    · split <;> simp <;> omega
    · simp; omega
theorem hits_succ (xs : List Acc) (i : Nat) (b : Acc) (h : i < xs.length) : hits xs (i + 1) b = (hits xs i b || clash xs[i] b) := by
  unfold hits
  rw [List.take_succ_eq_append_getElem h, List.any_append]
  simp
theorem hits_mono (xs : List Acc) (i k : Nat) (b : Acc) (hik : i ≤ k) (h : hits xs i b = true) : hits xs k b = true := by
  unfold hits at *
  rw [List.any_eq_true] at *
  obtain ⟨a, ha, hc⟩ := h
  exact ⟨a, (List.take_subset_take_left xs hik) ha, hc⟩
theorem clash_cell {a b : Acc} (h : clash a b = true) : a.cell = b.cell := by
  simp [clash] at h
  exact h.1.2

theorem implRaceCells_any (A : Option Addr) (c : Nat) (xs : List Acc) (w : World) (hl : xs.length ≤ 1000000000) (hcap : xs.length ≤ c) (hs : Sl w A (flat xs)) :
    Calls Try.prog 31 #[.slice A xs.length c] w (RetInts (asc (raceUpto xs xs.length)) w) := by
  go_enter Try.func31, Try.ntmps31
  go_wp2_with fail
  go_loopw [3, 10] (fun v kv wr => ∃ k : Nat, k ≤ xs.length ∧ kv = .int .i64 k ∧ (∃ A c, v = .slice A (raceUpto xs k).length c ∧ wr.ownsRow w.heap.size 3 1 (.slice A (raceUpto xs k).length c) (raceUpto xs k).length (ints (raceUpto xs k))) ∧ Below w.heap.size w wr) (fun _ kv _ => xs.length - (intOf kv).toNat)
  case atStart => exact ⟨0, by omega, rfl, ⟨none, 0, rfl, World.ownsRow_nil _ _ _ _⟩, Below.refl _ _⟩
  case round =>
    obtain ⟨k, hk, rfl, ⟨A1, c1, rfl, hown⟩, hb⟩ := hrel
    obtain ⟨wo, rfl⟩ : ∃ wo : World, wo = wr := ⟨_, rfl⟩
    have hsz := hb.size
    have hle := raceUpto_le xs k
    have HB := mkHid hb
    have HO := mkHid hown
    have hs1 := hs.below hb
    clear hb hown
    by_cases hlt : k < xs.length
    · obtain ⟨b, off, rfl, g0, g1, g2, g3⟩ := hs1.acc hlt
      have HT := mkHid (raceUpto_succ xs k hlt)
      have hs1' := mkHid (hs1.alloc (.cells #[.int .i64 xs[k].who, .int .i64 xs[k].cell, .bool xs[k].write, .int .i64 xs[k].phase] 35))
      have HBw := mkHid ((Below.refl wo.heap.size wo).alloc (Nat.le_refl _) (.cells #[.int .i64 xs[k].who, .int .i64 xs[k].cell, .bool xs[k].write, .int .i64 xs[k].phase] 35))
      have HOw := mkHid (HO.out.alloc (.cells #[.int .i64 xs[k].who, .int .i64 xs[k].cell, .bool xs[k].write, .int .i64 xs[k].phase] 35))
      clear hs1 hs
      go_wp2_with fail
      clear g0 g1 g2 g3
      go_loopw [3, 19] (fun v iv wr => v = .slice A1 (raceUpto xs k).length c1 ∧ ∃ i : Nat, i ≤ k ∧ iv = .int .i64 i ∧ Hid (hits xs i xs[k] = false) ∧ Below (wo.heap.size + 1) (wo.alloc (.cells #[.int .i64 xs[k].who, .int .i64 xs[k].cell, .bool xs[k].write, .int .i64 xs[k].phase] 35)) wr) (fun _ iv _ => k - (intOf iv).toNat)
      case atStart => exact ⟨rfl, 0, by omega, rfl, mkHid (by simp [hits]), Below.refl _ _⟩
      case round =>
        obtain ⟨rfl, i, hi, rfl, HH, hb2⟩ := hrel
        have HB2 := mkHid hb2
        have hsz2 := hb2.size
        simp only [World.size_alloc] at hsz2
        have hs2 := hs1'.out.below (by simpa using hb2)
        have HO2 := mkHid (own_below HOw.out (by simpa using hb2))
        obtain ⟨g0, g1, g2, g3⟩ := box_acc xs[k] hb2
        have g0 := fun o : Obj => (World.cell?_alloc_lt wr o ⟨wo.heap.size, 0, none⟩ hsz2).trans g0
        have g1 := fun o : Obj => (World.cell?_alloc_lt wr o ⟨wo.heap.size, 1, none⟩ hsz2).trans g1
        have g2 := fun o : Obj => (World.cell?_alloc_lt wr o ⟨wo.heap.size, 2, none⟩ hsz2).trans g2
        have g3 := fun o : Obj => (World.cell?_alloc_lt wr o ⟨wo.heap.size, 3, none⟩ hsz2).trans g3
        clear hb2
        by_cases hlt2 : i < k
        · have hil : i < xs.length := by omega
          obtain ⟨b', off', hbb, h0, h1, h2, h3⟩ := hs2.acc hil
          injection hbb with hbb
          injection hbb with e1 e2
          subst e1
          subst e2
          clear hs2
          have HS := mkHid (hits_succ xs i xs[k] hil)
          have HM := mkHid (hits_mono xs (i + 1) k xs[k] hlt2)
          cases hc : clash xs[i] xs[k] with
          | true =>
            have HC := mkHid hc
            have HD := mkHid (clash_cell hc)
            clear hc
            have hbox : ∀ X : World, Below (wr.heap.size + 1) (wr.alloc (.cells #[.int .i64 xs[i].who, .int .i64 xs[i].cell, .bool xs[i].write, .int .i64 xs[i].phase] 35)) X → X.cell? ⟨wr.heap.size, 1, none⟩ = some (.int .i64 xs[i].cell) := fun X h => (box_acc xs[i] h).2.1
            have HX0 := mkHid hbox
            clear hbox
            go_wp2_with (first | (go_at_call 32; refine (implClash_w xs[i] xs[k] _ HC.out).mono ?_; rintro e X ⟨rfl, hX⟩; have HX := mkHid hX; have hszX := hX.size; simp only [World.size_alloc] at hszX; have hcx := HX0.out X (by simpa using hX); clear hX g0 g1 g2 g3 h0 h1 h2 h3; have HOX := mkHid (own_below (HO2.out.alloc _) HX.out)) | (at_builtin; refine wpList_app Ei (HOX.out.alloc _) (newCellsAt _ _ _ (by simp)) rfl (by simp [Value.oneCell']) (by omega) (by omega) (by simp only [World.size_alloc]; omega) rfl rfl rfl rfl ?_; intro A' c' w1 hown1 hg1; have HO1 := mkHid hown1; have HG1 := mkHid hg1; clear hown1 hg1))
            go_roundw
            case rel =>
              have hh : hits xs k xs[k] = true := HM.out (by rw [HS.out, HC.out]; simp)
              refine ⟨k + 1, by omega, by go_num, ?_, ?_⟩
              · rw [HT.out, if_pos hh]
                refine ⟨A', c', by simp, ?_⟩
                have := HO1.out
                rw [List.length_append]
                rw [← HD.out]
                simpa [ints] using this
              · exact (((((HB.out.trans (HBw.out.mono hsz)).trans ((HB2.out.alloc hsz2 _).mono (by omega)))).trans (HX.out.mono (by simp; omega))).alloc (by omega) _).grown HG1.out (by simp only [World.size_alloc]; omega) (fun g hg => (HO.out.lt g hg).1)
            case measure => simp [intOf]; omega
          | false =>
            have HC := mkHid hc
            clear hc
            go_wp2_with (go_at_call 32; refine (implClash_w xs[i] xs[k] _ HC.out).mono ?_; rintro e X ⟨rfl, hX⟩; have HX := mkHid hX; clear hX)
            go_roundw
            case rel => exact ⟨rfl, i + 1, by omega, by go_num, mkHid (by rw [HS.out, HC.out, HH.out]; rfl), (HB2.out.alloc hsz2 _).trans (HX.out.mono (by simp; omega))⟩
            case measure => simp [intOf]; omega
        · have : i = k := by omega
          subst this
          go_wp2_with fail
          go_roundw
          case rel =>
            refine ⟨i + 1, by omega, by go_num, ?_, (HB.out.trans (HBw.out.mono hsz)).trans (HB2.out.mono (by omega))⟩
            rw [HT.out, if_neg (by rw [HH.out]; simp), List.append_nil]
            exact ⟨A1, c1, rfl, HO2.out⟩
          case measure => simp [intOf]; omega
    · have : k = xs.length := by omega
      subst this
      go_wp2_with fail
      refine (ascending_any _ _ _ _ _ (by omega) HO.out).mono ?_
      intro e w2 hR
      have hR2 := RetInts_asc hR HB.out HO.out
      obtain ⟨A2, c2, rfl, ho2, hb2⟩ := hR2
      have HR := mkHid (And.intro ho2 hb2)
      clear ho2 hb2 hR
      go_wp2_with fail
      go_ret
      exact ⟨A2, c2, rfl, HR.out.1, HR.out.2⟩
end Go.Proofs.Ytbhjicjcilneeaa
