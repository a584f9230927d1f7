/-
  Contract of GraphBack of the reference; GraphBack of the program for all graphs.
-/
import Derived.Test.YtjgemgjpbanliaaCBack2
namespace Go.Proofs.Ytjgemgjpbanliaa
open Go.RowKit
set_option maxHeartbeats 2000000
set_option linter.unusedVariables false

theorem back_length (g : List (List Int)) (h : graphValid g = true) : (back g).length = g.length := by unfold back; rw [if_pos h]; simp
theorem back_rows (rs : List Row) : ∀ z ∈ back (graph rs), z.length ≤ total rs := by
  intro z hz
  unfold back at hz
  split at hz
  · obtain ⟨a, ha, rfl⟩ := List.mem_map.1 hz
    have h1 := back_len rs a rs.length (Nat.le_refl _)
    rw [List.take_length] at h1
    simpa using h1
  · simp at hz
theorem back_le (g : List (List Int)) : (back g).length ≤ 64 := by
  unfold back
  split
  · rename_i h; simpa using (graph_nodes h).1
  · simp
theorem total_bound (qs : List Row) (T : Nat) (h : ∀ r ∈ qs, r.zs.length ≤ T) : total qs ≤ qs.length * T := by
  unfold total
  induction qs with
  | nil => simp
  | cons r qs ih =>
    have h1 := ih fun s hs => h s (List.mem_cons_of_mem _ hs)
    have h2 := h r List.mem_cons_self
    simp only [List.map_cons, List.sum_cons, List.length_cons, Nat.add_mul]
    omega
theorem total_back {rs qs : List Row} (h : graph qs = back (graph rs)) : total qs ≤ 64 * total rs := by
  have h1 := total_bound qs (total rs) fun r hr => back_rows rs _ (by rw [← h]; exact List.mem_map_of_mem hr)
  have h2 := back_le (graph rs)
  rw [← graph_length h] at h2
  exact Nat.le_trans h1 (Nat.mul_le_mul_right _ h2)
/-- the call hands back rows that can be read. -/
def RetGrid (g : List (List Int)) (w : World) (e : Ending) (w' : World) : Prop :=
  ∃ A c qs, e = .returned (.slice A g.length c) ∧ graph qs = g ∧ Grid w' A qs ∧ Below w.heap.size w w'
end Go.Proofs.Ytjgemgjpbanliaa
