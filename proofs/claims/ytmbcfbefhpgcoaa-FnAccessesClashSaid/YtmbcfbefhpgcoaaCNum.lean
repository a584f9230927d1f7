/-
  Contracts of the small functions that only reckon: each returns the number or the bool that is named, and the world is as it was.
-/
import Derived.Test.YtmbcfbefhpgcoaaRows
import Derived.Test.YtmbcfbefhpgcoaaLib
namespace Go.Proofs.Ytmbcfbefhpgcoaa
open Go.RowKit

set_option maxHeartbeats 400000
theorem within_any (a b c : Int) (w : World) :
    Calls Try.prog 25 #[.int .i64 a, .int .i64 b, .int .i64 c] w fun e w' => e = .returned (.bool (inB a b c)) ∧ w = w' := by
  go_enter Try.func25, Try.ntmps25
  go_wp2
  all_goals go_ret
  all_goals exact ⟨ret_bool (by simp [inB]; try omega), rfl⟩
theorem ways_of {f : FuncId} {args : Array Value} {a b c : Int} {w : World} (h : Calls Try.prog f args w fun e w' => e = .returned (.bool (inB a b c)) ∧ w = w') :
    Calls Try.prog f args w fun e w' => (((b ≤ a ∧ a ≤ c) ∧ e = .returned (.bool true)) ∨ ((a < b ∨ c < a) ∧ e = .returned (.bool false))) ∧ w = w' :=
  h.mono fun e w' ⟨he, hw⟩ => ⟨by
    cases h : inB a b c with
    | true => exact .inl ⟨inB_t h, by rw [he, h]⟩
    | false => exact .inr ⟨inB_f h, by rw [he, h]⟩, hw⟩
theorem within_ways (a b c : Int) (w : World) :
    Calls Try.prog 25 #[.int .i64 a, .int .i64 b, .int .i64 c] w fun e w' => (((b ≤ a ∧ a ≤ c) ∧ e = .returned (.bool true)) ∨ ((a < b ∨ c < a) ∧ e = .returned (.bool false))) ∧ w = w' :=
  ways_of (within_any a b c w)
theorem l1In_any (a b c : Int) (w : World) :
    Calls Try.prog 24 #[.int .i64 a, .int .i64 b, .int .i64 c] w fun e w' => e = .returned (.bool (inB a b c)) ∧ w = w' := by
  go_enter Try.func24, Try.ntmps24
  go_wp2
  all_goals go_ret
  all_goals exact ⟨ret_bool (by simp [inB]; try omega), rfl⟩
theorem l1In_ways (a b c : Int) (w : World) :
    Calls Try.prog 24 #[.int .i64 a, .int .i64 b, .int .i64 c] w fun e w' => (((b ≤ a ∧ a ≤ c) ∧ e = .returned (.bool true)) ∨ ((a < b ∨ c < a) ∧ e = .returned (.bool false))) ∧ w = w' :=
  ways_of (l1In_any a b c w)
theorem isLineSize_any (a : Int) (w : World) :
    Calls Try.prog 26 #[.int .i64 a] w fun e w' => e = .returned (.bool (inB a 1 64)) ∧ w = w' := by
  go_enter Try.func26, Try.ntmps26
  go_wp2_with (go_at_call 25; refine (within_any _ _ _ _).mono ?_; rintro e w' ⟨rfl, rfl⟩)
  go_ret
  exact ⟨rfl, rfl⟩
theorem isLineSize_ways (a : Int) (w : World) :
    Calls Try.prog 26 #[.int .i64 a] w fun e w' => (((1 ≤ a ∧ a ≤ 64) ∧ e = .returned (.bool true)) ∨ ((a < 1 ∨ 64 < a) ∧ e = .returned (.bool false))) ∧ w = w' :=
  ways_of (isLineSize_any a w)
theorem isCell_any (a : Int) (w : World) :
    Calls Try.prog 27 #[.int .i64 a] w fun e w' => e = .returned (.bool (inB a 0 255)) ∧ w = w' := by
  go_enter Try.func27, Try.ntmps27
  go_wp2_with (go_at_call 25; refine (within_any _ _ _ _).mono ?_; rintro e w' ⟨rfl, rfl⟩)
  go_ret
  exact ⟨rfl, rfl⟩
theorem isCell_ways (a : Int) (w : World) :
    Calls Try.prog 27 #[.int .i64 a] w fun e w' => (((0 ≤ a ∧ a ≤ 255) ∧ e = .returned (.bool true)) ∨ ((a < 0 ∨ 255 < a) ∧ e = .returned (.bool false))) ∧ w = w' :=
  ways_of (isCell_any a w)
theorem isBanks_any (a : Int) (w : World) :
    Calls Try.prog 28 #[.int .i64 a] w fun e w' => e = .returned (.bool (inB a 1 32)) ∧ w = w' := by
  go_enter Try.func28, Try.ntmps28
  go_wp2_with (go_at_call 25; refine (within_any _ _ _ _).mono ?_; rintro e w' ⟨rfl, rfl⟩)
  go_ret
  exact ⟨rfl, rfl⟩
theorem isBanks_ways (a : Int) (w : World) :
    Calls Try.prog 28 #[.int .i64 a] w fun e w' => (((1 ≤ a ∧ a ≤ 32) ∧ e = .returned (.bool true)) ∨ ((a < 1 ∨ 32 < a) ∧ e = .returned (.bool false))) ∧ w = w' :=
  ways_of (isBanks_any a w)
theorem isLanes_any (a : Int) (w : World) :
    Calls Try.prog 32 #[.int .i64 a] w fun e w' => e = .returned (.bool (inB a 1 8)) ∧ w = w' := by
  go_enter Try.func32, Try.ntmps32
  go_wp2_with (go_at_call 25; refine (within_any _ _ _ _).mono ?_; rintro e w' ⟨rfl, rfl⟩)
  go_ret
  exact ⟨rfl, rfl⟩
theorem isLanes_ways (a : Int) (w : World) :
    Calls Try.prog 32 #[.int .i64 a] w fun e w' => (((1 ≤ a ∧ a ≤ 8) ∧ e = .returned (.bool true)) ∨ ((a < 1 ∨ 8 < a) ∧ e = .returned (.bool false))) ∧ w = w' :=
  ways_of (isLanes_any a w)
theorem alive_any (w : World) :
    Calls Try.prog 17 #[] w fun e w' => e = .returned (.bool true) ∧ w = w' := by
  go_enter Try.func17, Try.ntmps17
  go_wp2
  go_ret
  exact ⟨rfl, rfl⟩
def linesLeast (many size : Int) : Int := if inB many 0 8 && inB size 1 64 then (many + size - 1) / size else -1
theorem linesLeast_yes {many size : Int} (h : 0 ≤ many ∧ many ≤ 8) (k : 1 ≤ size ∧ size ≤ 64) : linesLeast many size = (many + size - 1) / size := by
  simp [linesLeast, inB_of h.1 h.2, inB_of k.1 k.2]
theorem linesLeast_no {many size : Int} (h : many < 0 ∨ 8 < many ∨ size < 1 ∨ 64 < size) : linesLeast many size = -1 := by
  unfold linesLeast
  rw [if_neg]
  intro k
  simp only [Bool.and_eq_true] at k
  have h1 := inB_t k.1
  have h2 := inB_t k.2
  omega
theorem implLinesLeast_any (a b : Int) (w : World) :
    Calls Try.prog 13 #[.int .i64 a, .int .i64 b] w fun e w' => e = .returned (.int .i64 (linesLeast a b)) ∧ w = w' := by
  go_enter Try.func13, Try.ntmps13
  go_wp2_with (first | (go_at_call 25; refine (within_ways _ _ _ _).mono ?_; rintro e w' ⟨⟨hh, rfl⟩ | ⟨hh, rfl⟩, rfl⟩) | (go_at_call 26; refine (isLineSize_ways _ _).mono ?_; rintro e w' ⟨⟨hh, rfl⟩ | ⟨hh, rfl⟩, rfl⟩))
  all_goals go_ret
  all_goals refine ⟨ret_int ?_, rfl⟩
  all_goals first | exact (linesLeast_no (by omega)).symm | exact (linesLeast_yes (by omega) (by omega)).symm
theorem specLinesLeast_any (a b : Int) (w : World) :
    Calls Try.prog 12 #[.int .i64 a, .int .i64 b] w fun e w' => e = .returned (.int .i64 (linesLeast a b)) ∧ w = w' := by
  go_enter Try.func12, Try.ntmps12
  go_wp2_with (go_at_call 24; refine (l1In_ways _ _ _ _).mono ?_; rintro e w' ⟨⟨hh, rfl⟩ | ⟨hh, rfl⟩, rfl⟩)
  all_goals go_ret
  all_goals refine ⟨ret_int ?_, rfl⟩
  all_goals first | exact (linesLeast_no (by omega)).symm | exact (linesLeast_yes (by omega) (by omega)).symm
def bankOf (cell banks : Int) : Int := if inB cell 0 255 && inB banks 1 32 then cell % banks else -1
theorem bankOf_yes {c b : Int} (h : 0 ≤ c ∧ c ≤ 255) (k : 1 ≤ b ∧ b ≤ 32) : bankOf c b = c % b := by
  simp [bankOf, inB_of h.1 h.2, inB_of k.1 k.2]
theorem bankOf_no {c b : Int} (h : c < 0 ∨ 255 < c ∨ b < 1 ∨ 32 < b) : bankOf c b = -1 := by
  unfold bankOf
  rw [if_neg]
  intro k
  simp only [Bool.and_eq_true] at k
  have h1 := inB_t k.1
  have h2 := inB_t k.2
  omega
theorem implBankOf_any (a b : Int) (w : World) :
    Calls Try.prog 15 #[.int .i64 a, .int .i64 b] w fun e w' => e = .returned (.int .i64 (bankOf a b)) ∧ w = w' := by
  go_enter Try.func15, Try.ntmps15
  go_wp2_with (first | (go_at_call 27; refine (isCell_ways _ _).mono ?_; rintro e w' ⟨⟨hh, rfl⟩ | ⟨hh, rfl⟩, rfl⟩) | (go_at_call 28; refine (isBanks_ways _ _).mono ?_; rintro e w' ⟨⟨hh, rfl⟩ | ⟨hh, rfl⟩, rfl⟩))
  all_goals go_ret
  all_goals refine ⟨ret_int ?_, rfl⟩
  all_goals first | exact (bankOf_no (by omega)).symm | exact (bankOf_yes (by omega) (by omega)).symm
theorem specBankOf_any (a b : Int) (w : World) :
    Calls Try.prog 14 #[.int .i64 a, .int .i64 b] w fun e w' => e = .returned (.int .i64 (bankOf a b)) ∧ w = w' := by
  go_enter Try.func14, Try.ntmps14
  go_wp2_with (go_at_call 24; refine (l1In_ways _ _ _ _).mono ?_; rintro e w' ⟨⟨hh, rfl⟩ | ⟨hh, rfl⟩, rfl⟩)
  all_goals go_ret
  all_goals refine ⟨ret_int ?_, rfl⟩
  all_goals first | exact (bankOf_no (by omega)).symm | exact (bankOf_yes (by omega) (by omega)).symm
end Go.Proofs.Ytmbcfbefhpgcoaa
