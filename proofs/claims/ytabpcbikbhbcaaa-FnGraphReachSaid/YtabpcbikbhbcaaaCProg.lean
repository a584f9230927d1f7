/-
  Contracts of ProgramValid, of the program and of the reference, and of the reference's l4Opens, l4Around, l4End.
-/
import Derived.Test.YtabpcbikbhbcaaaCBlk2
namespace Go.Proofs.Ytabpcbikbhbcaaa
open Go.RowKit
set_option maxHeartbeats 2000000
set_option linter.unusedVariables false

def progValid (xs : List Cd) : Bool := decide (xs.length ≤ 40) && xs.all codeValid && balB (ops xs)
theorem progValid_no {xs : List Cd} {k : Nat} (hk : k < xs.length) (h : codeValid xs[k] = false) : progValid xs = false := by
  unfold progValid
  have : xs.all codeValid = false := by
    rw [List.all_eq_false]
    exact ⟨xs[k], List.getElem_mem hk, by simp [h]⟩
  rw [this, Bool.and_false, Bool.false_and]
theorem progValid_yes {xs : List Cd} (h : progValid xs = true) : xs.length ≤ 40 ∧ (∀ x ∈ xs, codeValid x = true) ∧ balB (ops xs) = true := by
  unfold progValid at h
  rw [Bool.and_eq_true, Bool.and_eq_true, decide_eq_true_eq, List.all_eq_true] at h
  exact ⟨h.1.1, h.1.2, h.2⟩
theorem l4Opens_any (x : Cd) (w : World) : Calls Try.prog 60 #[cdV x] w fun e w' => e = .returned (.bool (opensB x.op)) ∧ Below w.heap.size w w' := by
  obtain ⟨op, a, b, c⟩ := x
  by_cases h11 : op = 11
  · subst h11
    go_enter Try.func60, Try.ntmps60
    go_wp2_with fail
    go_ret
    exact ⟨rfl, (Below.refl _ _).alloc (Nat.le_refl _) _⟩
  · by_cases h13 : op = 13
    · subst h13
      go_enter Try.func60, Try.ntmps60
      go_wp2_with fail
      go_ret
      exact ⟨rfl, (Below.refl _ _).alloc (Nat.le_refl _) _⟩
    · have n11 : (op == 11) = false := by simpa using h11
      have n13 : (op == 13) = false := by simpa using h13
      have HE := mkHid (show opensB op = false from by unfold opensB; rw [n11, n13]; rfl)
      clear h11 h13
      go_enter Try.func60, Try.ntmps60
      go_wp2_with fail
      go_ret
      exact ⟨ret_bool HE.out.symm, (Below.refl _ _).alloc (Nat.le_refl _) _⟩
end Go.Proofs.Ytabpcbikbhbcaaa
