/-
  Contracts of the small functions that only reckon: each returns the number or the bool that is named, and the world is as it was.
-/
import Derived.Test.YtjgmghlgjjfifaaRows
import Derived.Test.YtjgmghlgjjfifaaLib
namespace Go.Proofs.Ytjgmghlgjjfifaa
open Go.RowKit

set_option maxHeartbeats 400000
theorem within_any (a b c : Int) (w : World) :
    Calls Try.prog 58 #[.int .i64 a, .int .i64 b, .int .i64 c] w fun e w' => e = .returned (.bool (inB a b c)) ∧ w = w' := by
  go_enter Try.func58, Try.ntmps58
  go_wp2
  all_goals go_ret
  all_goals exact ⟨ret_bool (by simp [inB]; try omega), rfl⟩
theorem ways_of {f : FuncId} {args : Array Value} {a b c : Int} {w : World} (h : Calls Try.prog f args w fun e w' => e = .returned (.bool (inB a b c)) ∧ w = w') :
    Calls Try.prog f args w fun e w' => (((b ≤ a ∧ a ≤ c) ∧ e = .returned (.bool true)) ∨ ((a < b ∨ c < a) ∧ e = .returned (.bool false))) ∧ w = w' :=
  h.mono fun e w' ⟨he, hw⟩ => ⟨by
    cases h : inB a b c with
    | true => exact .inl ⟨inB_t h, by rw [he, h]⟩
    | false => exact .inr ⟨inB_f h, by rw [he, h]⟩, hw⟩
theorem within_ways (a b c : Int) (w : World) :
    Calls Try.prog 58 #[.int .i64 a, .int .i64 b, .int .i64 c] w fun e w' => (((b ≤ a ∧ a ≤ c) ∧ e = .returned (.bool true)) ∨ ((a < b ∨ c < a) ∧ e = .returned (.bool false))) ∧ w = w' :=
  ways_of (within_any a b c w)
theorem l1In_any (a b c : Int) (w : World) :
    Calls Try.prog 41 #[.int .i64 a, .int .i64 b, .int .i64 c] w fun e w' => e = .returned (.bool (inB a b c)) ∧ w = w' := by
  go_enter Try.func41, Try.ntmps41
  go_wp2
  all_goals go_ret
  all_goals exact ⟨ret_bool (by simp [inB]; try omega), rfl⟩
theorem l1In_ways (a b c : Int) (w : World) :
    Calls Try.prog 41 #[.int .i64 a, .int .i64 b, .int .i64 c] w fun e w' => (((b ≤ a ∧ a ≤ c) ∧ e = .returned (.bool true)) ∨ ((a < b ∨ c < a) ∧ e = .returned (.bool false))) ∧ w = w' :=
  ways_of (l1In_any a b c w)
theorem isLineSize_any (a : Int) (w : World) :
    Calls Try.prog 51 #[.int .i64 a] w fun e w' => e = .returned (.bool (inB a 1 64)) ∧ w = w' := by
  go_enter Try.func51, Try.ntmps51
  go_wp2_with (go_at_call 58; refine (within_any _ _ _ _).mono ?_; rintro e w' ⟨rfl, rfl⟩)
  go_ret
  exact ⟨rfl, rfl⟩
theorem isLineSize_ways (a : Int) (w : World) :
    Calls Try.prog 51 #[.int .i64 a] w fun e w' => (((1 ≤ a ∧ a ≤ 64) ∧ e = .returned (.bool true)) ∨ ((a < 1 ∨ 64 < a) ∧ e = .returned (.bool false))) ∧ w = w' :=
  ways_of (isLineSize_any a w)
theorem isCell_any (a : Int) (w : World) :
    Calls Try.prog 48 #[.int .i64 a] w fun e w' => e = .returned (.bool (inB a 0 255)) ∧ w = w' := by
  go_enter Try.func48, Try.ntmps48
  go_wp2_with (go_at_call 58; refine (within_any _ _ _ _).mono ?_; rintro e w' ⟨rfl, rfl⟩)
  go_ret
  exact ⟨rfl, rfl⟩
theorem isCell_ways (a : Int) (w : World) :
    Calls Try.prog 48 #[.int .i64 a] w fun e w' => (((0 ≤ a ∧ a ≤ 255) ∧ e = .returned (.bool true)) ∨ ((a < 0 ∨ 255 < a) ∧ e = .returned (.bool false))) ∧ w = w' :=
  ways_of (isCell_any a w)
theorem isBanks_any (a : Int) (w : World) :
    Calls Try.prog 37 #[.int .i64 a] w fun e w' => e = .returned (.bool (inB a 1 32)) ∧ w = w' := by
  go_enter Try.func37, Try.ntmps37
  go_wp2_with (go_at_call 58; refine (within_any _ _ _ _).mono ?_; rintro e w' ⟨rfl, rfl⟩)
  go_ret
  exact ⟨rfl, rfl⟩
theorem isBanks_ways (a : Int) (w : World) :
    Calls Try.prog 37 #[.int .i64 a] w fun e w' => (((1 ≤ a ∧ a ≤ 32) ∧ e = .returned (.bool true)) ∨ ((a < 1 ∨ 32 < a) ∧ e = .returned (.bool false))) ∧ w = w' :=
  ways_of (isBanks_any a w)
theorem isLanes_any (a : Int) (w : World) :
    Calls Try.prog 49 #[.int .i64 a] w fun e w' => e = .returned (.bool (inB a 1 8)) ∧ w = w' := by
  go_enter Try.func49, Try.ntmps49
  go_wp2_with (go_at_call 58; refine (within_any _ _ _ _).mono ?_; rintro e w' ⟨rfl, rfl⟩)
  go_ret
  exact ⟨rfl, rfl⟩
theorem isLanes_ways (a : Int) (w : World) :
    Calls Try.prog 49 #[.int .i64 a] w fun e w' => (((1 ≤ a ∧ a ≤ 8) ∧ e = .returned (.bool true)) ∨ ((a < 1 ∨ 8 < a) ∧ e = .returned (.bool false))) ∧ w = w' :=
  ways_of (isLanes_any a w)
theorem alive_any (w : World) :
    Calls Try.prog 27 #[] w fun e w' => e = .returned (.bool true) ∧ w = w' := by
  go_enter Try.func27, Try.ntmps27
  go_wp2
  go_ret
  exact ⟨rfl, rfl⟩
def linesLeast (many size : Int) : Int := if inB many 0 8 && inB size 1 64 then (many + size - 1) / size else -1
theorem linesLeast_yes {many size : Int} (h : 0 ≤ many ∧ many ≤ 8) (k : 1 ≤ size ∧ size ≤ 64) : linesLeast many size = (many + size - 1) / size := by
  simp [linesLeast, inB_of h.1 h.2, inB_of k.1 k.2]
theorem linesLeast_no {many size : Int} (h : many < 0 ∨ 8 < many ∨ size < 1 ∨ 64 < size) : linesLeast many size = -1 := by
  unfold linesLeast
  rw [if_neg]
  intro k
  simp only [Bool.and_eq_true] at k
  have h1 := inB_t k.1
  have h2 := inB_t k.2
  omega
theorem implLinesLeast_any (a b : Int) (w : World) :
    Calls Try.prog 35 #[.int .i64 a, .int .i64 b] w fun e w' => e = .returned (.int .i64 (linesLeast a b)) ∧ w = w' := by
  go_enter Try.func35, Try.ntmps35
  go_wp2_with (first | (go_at_call 58; refine (within_ways _ _ _ _).mono ?_; rintro e w' ⟨⟨hh, rfl⟩ | ⟨hh, rfl⟩, rfl⟩) | (go_at_call 51; refine (isLineSize_ways _ _).mono ?_; rintro e w' ⟨⟨hh, rfl⟩ | ⟨hh, rfl⟩, rfl⟩))
  all_goals go_ret
  all_goals refine ⟨ret_int ?_, rfl⟩
  all_goals first | exact (linesLeast_no (by omega)).symm | exact (linesLeast_yes (by omega) (by omega)).symm
theorem specLinesLeast_any (a b : Int) (w : World) :
    Calls Try.prog 57 #[.int .i64 a, .int .i64 b] w fun e w' => e = .returned (.int .i64 (linesLeast a b)) ∧ w = w' := by
  go_enter Try.func57, Try.ntmps57
  go_wp2_with (go_at_call 41; refine (l1In_ways _ _ _ _).mono ?_; rintro e w' ⟨⟨hh, rfl⟩ | ⟨hh, rfl⟩, rfl⟩)
  all_goals go_ret
  all_goals refine ⟨ret_int ?_, rfl⟩
  all_goals first | exact (linesLeast_no (by omega)).symm | exact (linesLeast_yes (by omega) (by omega)).symm
end Go.Proofs.Ytjgmghlgjjfifaa
