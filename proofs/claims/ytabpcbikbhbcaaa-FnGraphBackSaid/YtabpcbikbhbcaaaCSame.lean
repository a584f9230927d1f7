/-
  Contracts of the laws' helper sameInts.
-/
import Derived.Test.YtabpcbikbhbcaaaCInts
namespace Go.Proofs.Ytabpcbikbhbcaaa
open Go.RowKit
set_option maxHeartbeats 400000
set_option linter.unusedVariables false
/-! ### sameInts -/
theorem sameInts_ne (A B : Option Addr) (n m c d : Nat) (w : World) (hn : n ≤ 9223372036854775807) (hm : m ≤ 9223372036854775807) (hne : n ≠ m) :
    Calls Try.prog 42 #[.slice A n c, .slice B m d] w fun e w' => e = .returned (.bool false) ∧ ∃ k, w' = w.drewN k := by
  have h : (((n : Int) != (m : Int))) = true := by rw [bne_iff_ne]; omega
  clear hne
  go_enter Try.func42, Try.ntmps42
  go_wp2
  all_goals go_ret
  all_goals exact ⟨rfl, 0, rfl⟩
theorem sameInts_len (A B : Option Addr) (c d : Nat) (xs ys : List Int) (w : World) (hl : xs.length = ys.length) (hn : xs.length ≤ 9223372036854775807) (hx : Sl w A (ints xs)) (hy : Sl w B (ints ys)) :
    Calls Try.prog 42 #[.slice A xs.length c, .slice B xs.length d] w fun e w' => e = .returned (.bool (decide (xs = ys))) ∧ ∃ k, w' = w.drewN k := by
  have HL := mkHid hl
  clear hl
  go_enter Try.func42, Try.ntmps42
  go_wp2
  go_loopw [5] (fun i wr => ∃ k : Nat, k ≤ xs.length ∧ i = .int .i64 k ∧ Hid (xs.take k = ys.take k) ∧ ∃ n, wr = w.drewN n) (fun i _ => xs.length - (intOf i).toNat)
  case atStart => exact ⟨0, by omega, rfl, mkHid (by simp), 0, rfl⟩
  case round =>
    obtain ⟨k, hk, rfl, HT, n, rfl⟩ := hrel
    by_cases hlt : k < xs.length
    · have hky : k < ys.length := by have := HL.out; omega
      obtain ⟨b, off, rfl, hcx⟩ := hx.at_ (k := k) (by simpa using hlt)
      obtain ⟨b', off', rfl, hcy⟩ := hy.at_ (k := k) (by simpa using hky)
      have h1 : w.cell? ⟨b, off + k, none⟩ = some (.int .i64 xs[k]) := hcx k _ (ints_at hlt)
      have h2 : w.cell? ⟨b', off' + k, none⟩ = some (.int .i64 ys[k]) := hcy k _ (ints_at hky)
      clear hcx hcy hx hy
      by_cases he : xs[k] = ys[k]
      · have hb : (xs[k] != ys[k]) = false := by simp [he]
        have HE := mkHid he
        clear he
        go_wp2
        go_quiet (fail)
        go_wp2
        go_roundw
        case rel => exact ⟨k + 1, by omega, by go_num, mkHid (take_succ_eq HT.out hlt hky HE.out), _, by first | rfl | exact World.drewN_drewN _ _ _⟩
        case measure => simp [intOf]; omega
      · have hb : (xs[k] != ys[k]) = true := by simp [he]
        have HE := mkHid he
        clear he
        go_wp2
        go_quiet (fail)
        go_wp2
        go_ret
        refine ⟨ret_bool ?_, _, by first | rfl | exact World.drewN_drewN _ _ _⟩
        symm
        simp only [decide_eq_false_iff_not]
        intro h
        exact HE.out (by simp [h])
    · go_wp2
      go_ret
      refine ⟨ret_bool ?_, _, rfl⟩
      symm
      simp only [decide_eq_true_eq]
      have := HT.out
      rwa [List.take_of_length_le (by omega), List.take_of_length_le (by have := HL.out; omega)] at this
theorem sameInts_any (A B : Option Addr) (c d : Nat) (xs ys : List Int) (w : World) (hn : xs.length ≤ 9223372036854775807) (hm : ys.length ≤ 9223372036854775807) (hx : Sl w A (ints xs)) (hy : Sl w B (ints ys)) :
    Calls Try.prog 42 #[.slice A xs.length c, .slice B ys.length d] w fun e w' => e = .returned (.bool (decide (xs = ys))) ∧ ∃ k, w' = w.drewN k := by
  by_cases hl : xs.length = ys.length
  · rw [← hl]
    exact sameInts_len A B c d xs ys w hl hn hx hy
  · refine (sameInts_ne A B _ _ c d w hn hm hl).mono fun e w' ⟨he, hw⟩ => ⟨?_, hw⟩
    rw [he]
    refine ret_bool ?_
    symm
    simp only [decide_eq_false_iff_not]
    rintro rfl
    exact hl rfl

theorem sameInts_same (A B : Option Addr) (c d : Nat) (xs : List Int) (w : World) (hn : xs.length ≤ 9223372036854775807) (hx : Sl w A (ints xs)) (hy : Sl w B (ints xs)) :
    Calls Try.prog 42 #[.slice A xs.length c, .slice B xs.length d] w fun e w' => e = .returned (.bool true) ∧ ∃ k, w' = w.drewN k :=
  (sameInts_any A B c d xs xs w hn hn hx hy).mono fun e w' ⟨he, hw⟩ => ⟨by rw [he]; simp, hw⟩

end Go.Proofs.Ytabpcbikbhbcaaa
