/-
  Contracts of the laws' helpers on slices of ints: eqIntS, markIntS, heldIntS, toIntS.
-/
import Derived.Test.YtabpcbikbhbcaaaRows
import Derived.Test.YtabpcbikbhbcaaaLib
namespace Go.Proofs.Ytabpcbikbhbcaaa
open Go.RowKit

abbrev ints (zs : List Int) : List Value := zs.map (Value.int .i64)
theorem ints_at {zs : List Int} {k : Nat} (h : k < zs.length) : (ints zs)[k]? = some (.int .i64 zs[k]) := by simp [ints, h]
theorem ints_one (zs : List Int) : ∀ u ∈ ints zs, u.oneCell' = true := by
  intro u hu
  simp only [ints, List.mem_map] at hu
  obtain ⟨z, _, rfl⟩ := hu
  rfl
theorem Ei : ElemI Try.prog 30 3 (.int .i64 0) 1 8 := ⟨Try.underlying30, by kernel_rfl, rfl, by omega⟩

/-- the call hands back a slice of ints in memory of its own. -/
def RetInts (zs : List Int) (w : World) (e : Ending) (w' : World) : Prop :=
  ∃ A c, e = .returned (.slice A zs.length c) ∧ w'.ownsRow w.heap.size 3 1 (.slice A zs.length c) zs.length (ints zs) ∧ Below w.heap.size w w'

set_option maxHeartbeats 400000
set_option linter.unusedVariables false
/-! ### eqIntS -/
theorem eqIntS_ne (A B : Option Addr) (n m c d : Nat) (w : World) (hn : n ≤ 9223372036854775807) (hm : m ≤ 9223372036854775807) (hne : n ≠ m) :
    Calls Try.prog 36 #[.slice A n c, .slice B m d] w fun e w' => e = .returned (.bool false) ∧ ∃ k, w' = w.drewN k := by
  have h : (((n : Int) != (m : Int))) = true := by rw [bne_iff_ne]; omega
  clear hne
  go_enter Try.func36, Try.ntmps36
  go_wp2
  all_goals go_ret
  all_goals exact ⟨rfl, 0, rfl⟩
theorem take_succ_eq {xs ys : List Int} {k : Nat} (h : xs.take k = ys.take k) (hx : k < xs.length) (hy : k < ys.length) (he : xs[k] = ys[k]) : xs.take (k + 1) = ys.take (k + 1) := by
  rw [List.take_succ_eq_append_getElem hx, List.take_succ_eq_append_getElem hy, h, he]
theorem eqIntS_len (A B : Option Addr) (c d : Nat) (xs ys : List Int) (w : World) (hl : xs.length = ys.length) (hn : xs.length ≤ 9223372036854775807) (hx : Sl w A (ints xs)) (hy : Sl w B (ints ys)) :
    Calls Try.prog 36 #[.slice A xs.length c, .slice B xs.length d] w fun e w' => e = .returned (.bool (decide (xs = ys))) ∧ ∃ k, w' = w.drewN k := by
  have HL := mkHid hl
  clear hl
  go_enter Try.func36, Try.ntmps36
  go_wp2
  go_loopw [5] (fun i wr => ∃ k : Nat, k ≤ xs.length ∧ i = .int .i64 k ∧ Hid (xs.take k = ys.take k) ∧ ∃ n, wr = w.drewN n) (fun i _ => xs.length - (intOf i).toNat)
  case atStart => exact ⟨0, by omega, rfl, mkHid (by simp), 0, rfl⟩
  case round =>
    obtain ⟨k, hk, rfl, HT, n, rfl⟩ := hrel
    by_cases hlt : k < xs.length
    · have hky : k < ys.length := by have := HL.out; omega
      obtain ⟨b, off, rfl, hcx⟩ := hx.at_ (k := k) (by simpa using hlt)
      obtain ⟨b', off', rfl, hcy⟩ := hy.at_ (k := k) (by simpa using hky)
      have h1 : w.cell? ⟨b, off + k, none⟩ = some (.int .i64 xs[k]) := hcx k _ (ints_at hlt)
      have h2 : w.cell? ⟨b', off' + k, none⟩ = some (.int .i64 ys[k]) := hcy k _ (ints_at hky)
      clear hcx hcy hx hy
      by_cases he : xs[k] = ys[k]
      · have hb : (xs[k] != ys[k]) = false := by simp [he]
        have HE := mkHid he
        clear he
        go_wp2
        go_quiet (fail)
        go_wp2
        go_roundw
        case rel => exact ⟨k + 1, by omega, by go_num, mkHid (take_succ_eq HT.out hlt hky HE.out), _, by first | rfl | exact World.drewN_drewN _ _ _⟩
        case measure => simp [intOf]; omega
      · have hb : (xs[k] != ys[k]) = true := by simp [he]
        have HE := mkHid he
        clear he
        go_wp2
        go_quiet (fail)
        go_wp2
        go_ret
        refine ⟨ret_bool ?_, _, by first | rfl | exact World.drewN_drewN _ _ _⟩
        symm
        simp only [decide_eq_false_iff_not]
        intro h
        exact HE.out (by simp [h])
    · go_wp2
      go_ret
      refine ⟨ret_bool ?_, _, rfl⟩
      symm
      simp only [decide_eq_true_eq]
      have := HT.out
      rwa [List.take_of_length_le (by omega), List.take_of_length_le (by have := HL.out; omega)] at this
theorem eqIntS_any (A B : Option Addr) (c d : Nat) (xs ys : List Int) (w : World) (hn : xs.length ≤ 9223372036854775807) (hm : ys.length ≤ 9223372036854775807) (hx : Sl w A (ints xs)) (hy : Sl w B (ints ys)) :
    Calls Try.prog 36 #[.slice A xs.length c, .slice B ys.length d] w fun e w' => e = .returned (.bool (decide (xs = ys))) ∧ ∃ k, w' = w.drewN k := by
  by_cases hl : xs.length = ys.length
  · rw [← hl]
    exact eqIntS_len A B c d xs ys w hl hn hx hy
  · refine (eqIntS_ne A B _ _ c d w hn hm hl).mono fun e w' ⟨he, hw⟩ => ⟨?_, hw⟩
    rw [he]
    refine ret_bool ?_
    symm
    simp only [decide_eq_false_iff_not]
    rintro rfl
    exact hl rfl

theorem eqIntS_same (A B : Option Addr) (c d : Nat) (xs : List Int) (w : World) (hn : xs.length ≤ 9223372036854775807) (hx : Sl w A (ints xs)) (hy : Sl w B (ints xs)) :
    Calls Try.prog 36 #[.slice A xs.length c, .slice B xs.length d] w fun e w' => e = .returned (.bool true) ∧ ∃ k, w' = w.drewN k :=
  (eqIntS_any A B c d xs xs w hn hn hx hy).mono fun e w' ⟨he, hw⟩ => ⟨by rw [he]; simp, hw⟩

/-! ### markIntS, heldIntS -/
def marks (k : Int) (n : Nat) : List Int := (List.range n).map fun i : Nat => k + (i : Int)
theorem marks_length (k : Int) (n : Nat) : (marks k n).length = n := by simp [marks]
theorem marks_succ (k : Int) (n : Nat) : marks k (n + 1) = marks k n ++ [k + (n : Int)] := by simp [marks, List.range_succ]
theorem mark_step (k : Int) (zs : List Int) (i : Nat) (h : i < zs.length) :
    (ints (marks k i ++ zs.drop i)).set i (.int .i64 (k + i)) = ints (marks k (i + 1) ++ zs.drop (i + 1)) := by
  have h1 : zs.drop i = zs[i] :: zs.drop (i + 1) := List.drop_eq_getElem_cons h
  rw [h1, marks_succ, ints, ints, List.map_append, List.map_append, List.set_append_right _ _ (by simp [marks_length])]
  simp only [List.map_cons, marks_length, List.length_map, Nat.sub_self, List.set_cons_zero, List.map_append, List.append_assoc, List.map_nil, List.cons_append, List.nil_append]

theorem markIntS_any (A : Option Addr) (c : Nat) (zs : List Int) (k0 : Int) (base : Nat) (w : World) (hk0 : 0 ≤ k0) (hk1 : k0 ≤ 2000000000) (hn : zs.length ≤ 2000000000)
    (hown : w.ownsRow base 3 1 (.slice A zs.length c) zs.length (ints zs)) :
    Calls Try.prog 40 #[.slice A zs.length c, .int .i64 k0] w fun e w' =>
      e = .returned (.int .i64 (k0 + zs.length)) ∧ w'.ownsRow base 3 1 (.slice A zs.length c) zs.length (ints (marks k0 zs.length)) ∧ w.grownBy w' (Value.slice A zs.length c).ownBlock := by
  go_enter Try.func40, Try.ntmps40
  go_wp2
  go_loopw [1, 5] (fun kv i wr => ∃ k : Nat, k ≤ zs.length ∧ i = .int .i64 k ∧ kv = .int .i64 (k0 + k) ∧ wr.ownsRow base 3 1 (.slice A zs.length c) zs.length (ints (marks k0 k ++ zs.drop k)) ∧ w.grownBy wr (Value.slice A zs.length c).ownBlock) (fun _ i _ => zs.length - (intOf i).toNat)
  case atStart => exact ⟨0, by omega, rfl, by simp, by simpa [marks] using hown, World.grownBy.refl _ _⟩
  case round =>
    obtain ⟨k, hk, rfl, rfl, hownr, hgr⟩ := hrel
    clear hown
    by_cases hlt : k < zs.length
    · obtain ⟨g, rfl, hgb, hgs, hcell, hfr, hst⟩ := own_open hownr (i := k) (by simp [marks_length]; omega)
      have HS := mkHid (hst (.int .i64 (k0 + k)))
      have HG := mkHid (grown_setCell' hgr k (.int .i64 (k0 + k)))
      clear hst hgr hownr
      go_wp2
      go_roundw
      case rel => exact ⟨k + 1, by omega, by go_num, by congr 1; omega, by rw [← mark_step k0 zs k hlt]; exact HS.out, HG.out⟩
      case measure => simp [intOf]; omega
    · have : k = zs.length := by omega
      subst this
      have HO := mkHid hownr
      have HG := mkHid hgr
      clear hownr hgr
      go_wp2
      go_ret
      exact ⟨rfl, by simpa using HO.out, HG.out⟩
theorem heldIntS_any (A : Option Addr) (c : Nat) (n : Nat) (k0 : Int) (w : World) (hk0 : 0 ≤ k0) (hk1 : k0 ≤ 2000000000) (hn : n ≤ 2000000000) (hs : Sl w A (ints (marks k0 n))) :
    Calls Try.prog 41 #[.slice A n c, .int .i64 k0] w fun e w' => e = .returned (.int .i64 (k0 + n)) ∧ w = w' := by
  go_enter Try.func41, Try.ntmps41
  go_wp2
  go_loop [1, 5] (fun kv i => ∃ k : Nat, k ≤ n ∧ i = .int .i64 k ∧ kv = .int .i64 (k0 + k)) (fun _ i => n - (intOf i).toNat)
  case atStart => exact ⟨0, by omega, rfl, by simp⟩
  case round =>
    obtain ⟨k, hk, rfl, rfl⟩ := hrel
    by_cases hlt : k < n
    · obtain ⟨b, off, rfl, hc⟩ := hs.at_ (k := k) (by simpa [marks_length] using hlt)
      have h1 : w.cell? ⟨b, off + k, none⟩ = some (.int .i64 (k0 + k)) := hc k _ (by simp [marks, hlt])
      clear hc hs
      go_wp2
      go_round
      case rel => exact ⟨k + 1, by omega, by go_num, by congr 1; omega⟩
      case measure => simp [intOf]; omega
    · have : k = n := by omega
      subst this
      go_wp2
      go_ret
      exact ⟨rfl, rfl⟩
/-- what stands marked is held. -/
theorem ints_marked {w : World} {base : Nat} {e : TypeId} {A : Option Addr} {n c : Nat} {k : Int} (h : w.ownsRow base e 1 (.slice A n c) n (ints (marks k n))) : Sl w A (ints (marks k n)) := Sl.of_own h
end Go.Proofs.Ytabpcbikbhbcaaa
