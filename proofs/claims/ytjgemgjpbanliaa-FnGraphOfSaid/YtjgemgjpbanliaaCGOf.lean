/-
  Bounds of the graph of a program.
-/
import Derived.Test.YtjgemgjpbanliaaCGraphOf2
namespace Go.Proofs.Ytjgemgjpbanliaa
set_option linter.unusedVariables false

theorem gOf_small {xs : List Cd} {qs : List Row} (h : graph qs = gOf xs) : ∀ r ∈ qs, r.zs.length ≤ 9223372036854775807 := fun r hr => by
  have hm : r.zs ∈ gOf xs := by rw [← h]; exact List.mem_map_of_mem hr
  cases hv : progValid xs with
  | false => rw [gOf_no hv] at hm; simp at hm
  | true =>
    rw [gOf_yes hv] at hm
    unfold graphOf at hm
    rcases List.mem_append.1 hm with h | h
    · obtain ⟨a, _, hz⟩ := List.mem_map.1 h
      have := succs_len (ops xs) a
      rw [← hz]; omega
    · rw [List.mem_singleton] at h; rw [h]; simp
theorem gOf_le (xs : List Cd) : (gOf xs).length ≤ 41 := by
  cases hv : progValid xs with
  | false => rw [gOf_no hv]; simp
  | true =>
    rw [gOf_yes hv, graphOf_len, ops_len]
    have := (progValid_yes hv).1
    omega
end Go.Proofs.Ytjgemgjpbanliaa
