/-
  Plain law of the graph of a program: without the end of a block it is a line; every node is reached from the first one; from every node the end is reached.
-/
import Derived.Test.YtabpcbikbhbcaaaCGraphOf2
namespace Go.Proofs.Ytabpcbikbhbcaaa
set_option maxHeartbeats 1000000
set_option linter.unusedVariables false

theorem end_none {os : List Int} (h : ∀ k, k < os.length → opAt os k ≠ 14) (b k : Nat) (hk : k ≤ os.length) : endOf os b k = -1 := by
  induction k with
  | zero => rfl
  | succ k ih => rw [end_s, if_neg (fun e => h k (by omega) e.1)]; exact ih (by omega)
theorem line_open {os : List Int} (hb : balB os = true) (h : ∀ k, k < os.length → opAt os k ≠ 14) {k : Nat} (hk : k < os.length) : opensB (opAt os k) = false := by
  cases ho : opensB (opAt os k) with
  | false => rfl
  | true =>
    have h1 := bal_end hb ho hk
    rw [end_none h k os.length (Nat.le_refl _)] at h1
    omega
theorem line_stk {os : List Int} (hb : balB os = true) (h : ∀ k, k < os.length → opAt os k ≠ 14) (k : Nat) (hk : k ≤ os.length) : stk os k = [] := by
  induction k with
  | zero => rfl
  | succ k ih => rw [stk_s, if_neg (by rw [line_open hb h (by omega)]; decide), if_neg (h k (by omega))]; exact ih (by omega)
theorem line_else {os : List Int} (hb : balB os = true) (h : ∀ k, k < os.length → opAt os k ≠ 14) {k : Nat} (hk : k < os.length) : opAt os k ≠ 12 := by
  intro e
  obtain ⟨b, hl⟩ := bal_top hb hk (.inl e)
  rw [line_stk hb h k (by omega)] at hl
  cases hl
theorem line_succs {os : List Int} (hb : balB os = true) (h : ∀ k, k < os.length → opAt os k ≠ 14) {k : Nat} (hk : k < os.length) : succs os k = [(k : Int) + 1] :=
  succs_other (line_open hb h hk) (line_else hb h hk) (h k hk)
theorem graphOf_at {os : List Int} {k : Nat} (hk : k < os.length) : (graphOf os)[k]'(by rw [graphOf_len]; omega) = succs os k := by
  unfold graphOf
  rw [List.getElem_append_left (by simpa using hk)]
  simp
end Go.Proofs.Ytabpcbikbhbcaaa
