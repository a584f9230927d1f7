/-
  Contracts of BarriersFlat, of the program and of the reference.
-/
import Derived.Test.YtabpcbikbhbcaaaCProg2
import Derived.Test.YtabpcbikbhbcaaaCAround
namespace Go.Proofs.Ytabpcbikbhbcaaa
open Go.RowKit
set_option maxHeartbeats 2000000
set_option linter.unusedVariables false

def barAt (os : List Int) (k : Nat) : Bool := opAt os k == 10 && !(stk os k).isEmpty
def barUpto (os : List Int) (k : Nat) : Bool := (List.range k).all fun j => !barAt os j
theorem barUpto_s (os : List Int) (k : Nat) : barUpto os (k + 1) = (barUpto os k && !barAt os k) := by simp [barUpto, List.range_succ, List.all_append]
def barFlat (xs : List Cd) : Bool := progValid xs && barUpto (ops xs) xs.length
theorem barFlat_no {xs : List Cd} {k : Nat} (hk : k < xs.length) (h : barAt (ops xs) k = true) : barFlat xs = false := by
  unfold barFlat
  have : barUpto (ops xs) xs.length = false := by
    unfold barUpto
    rw [List.all_eq_false]
    exact ⟨k, List.mem_range.2 hk, by simp [h]⟩
  rw [this, Bool.and_false]
theorem flat_top {os : List Int} {k : Nat} (h : okUpto os k = true) : decide (0 ≤ arnd os k 0) = !(stk os k).isEmpty := by
  rw [arnd_top h]
  unfold topOf
  cases hl : (stk os k).getLast? with
  | none => rw [stk_some hl]; rfl
  | some b =>
    cases hq : stk os k with
    | nil => rw [hq] at hl; cases hl
    | cons a t => simp
theorem progValid_ok {xs : List Cd} (h : progValid xs = true) {k : Nat} (hk : k ≤ xs.length) : okUpto (ops xs) k = true := by
  have := (progValid_yes h).2.2
  unfold balB at this
  rw [Bool.and_eq_true, ops_len] at this
  exact okUpto_le this.1 hk
end Go.Proofs.Ytabpcbikbhbcaaa
