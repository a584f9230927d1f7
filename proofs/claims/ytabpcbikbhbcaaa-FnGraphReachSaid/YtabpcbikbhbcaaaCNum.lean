/-
  Contracts of the small functions that only reckon: each returns the number or the bool that is named, and the world is as it was.
-/
import Derived.Test.YtabpcbikbhbcaaaRows
import Derived.Test.YtabpcbikbhbcaaaLib
namespace Go.Proofs.Ytabpcbikbhbcaaa
open Go.RowKit

set_option maxHeartbeats 400000
theorem within_any (a b c : Int) (w : World) :
    Calls Try.prog 34 #[.int .i64 a, .int .i64 b, .int .i64 c] w fun e w' => e = .returned (.bool (inB a b c)) ∧ w = w' := by
  go_enter Try.func34, Try.ntmps34
  go_wp2
  all_goals go_ret
  all_goals exact ⟨ret_bool (by simp [inB]; try omega), rfl⟩
theorem ways_of {f : FuncId} {args : Array Value} {a b c : Int} {w : World} (h : Calls Try.prog f args w fun e w' => e = .returned (.bool (inB a b c)) ∧ w = w') :
    Calls Try.prog f args w fun e w' => (((b ≤ a ∧ a ≤ c) ∧ e = .returned (.bool true)) ∨ ((a < b ∨ c < a) ∧ e = .returned (.bool false))) ∧ w = w' :=
  h.mono fun e w' ⟨he, hw⟩ => ⟨by
    cases h : inB a b c with
    | true => exact .inl ⟨inB_t h, by rw [he, h]⟩
    | false => exact .inr ⟨inB_f h, by rw [he, h]⟩, hw⟩
theorem within_ways (a b c : Int) (w : World) :
    Calls Try.prog 34 #[.int .i64 a, .int .i64 b, .int .i64 c] w fun e w' => (((b ≤ a ∧ a ≤ c) ∧ e = .returned (.bool true)) ∨ ((a < b ∨ c < a) ∧ e = .returned (.bool false))) ∧ w = w' :=
  ways_of (within_any a b c w)
theorem l1In_any (a b c : Int) (w : World) :
    Calls Try.prog 32 #[.int .i64 a, .int .i64 b, .int .i64 c] w fun e w' => e = .returned (.bool (inB a b c)) ∧ w = w' := by
  go_enter Try.func32, Try.ntmps32
  go_wp2
  all_goals go_ret
  all_goals exact ⟨ret_bool (by simp [inB]; try omega), rfl⟩
theorem l1In_ways (a b c : Int) (w : World) :
    Calls Try.prog 32 #[.int .i64 a, .int .i64 b, .int .i64 c] w fun e w' => (((b ≤ a ∧ a ≤ c) ∧ e = .returned (.bool true)) ∨ ((a < b ∨ c < a) ∧ e = .returned (.bool false))) ∧ w = w' :=
  ways_of (l1In_any a b c w)
theorem isLanes_any (a : Int) (w : World) :
    Calls Try.prog 52 #[.int .i64 a] w fun e w' => e = .returned (.bool (inB a 1 8)) ∧ w = w' := by
  go_enter Try.func52, Try.ntmps52
  go_wp2_with (go_at_call 34; refine (within_any _ _ _ _).mono ?_; rintro e w' ⟨rfl, rfl⟩)
  go_ret
  exact ⟨rfl, rfl⟩
theorem isLanes_ways (a : Int) (w : World) :
    Calls Try.prog 52 #[.int .i64 a] w fun e w' => (((1 ≤ a ∧ a ≤ 8) ∧ e = .returned (.bool true)) ∨ ((a < 1 ∨ 8 < a) ∧ e = .returned (.bool false))) ∧ w = w' :=
  ways_of (isLanes_any a w)
theorem alive_any (w : World) :
    Calls Try.prog 16 #[] w fun e w' => e = .returned (.bool true) ∧ w = w' := by
  go_enter Try.func16, Try.ntmps16
  go_wp2
  go_ret
  exact ⟨rfl, rfl⟩
end Go.Proofs.Ytabpcbikbhbcaaa
