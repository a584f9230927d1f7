/-
  Contract of GraphBack of the program.
-/
import Derived.Test.YtjgemgjpbanliaaCBack
import Derived.Deep.AppendLies
namespace Go.Proofs.Ytjgemgjpbanliaa
open Go.RowKit
set_option maxHeartbeats 2000000
set_option linter.unusedVariables false

def backs (g : List (List Int)) (k j : Nat) : List (List Int) := (List.range g.length).map fun a : Nat => backCur g k j a
theorem backs_full (g : List (List Int)) (k j : Nat) (h : (g.getD k []).length ≤ j) : backs g k j = backs g (k + 1) 0 := by
  unfold backs
  exact List.map_congr_left fun a _ => by rw [backCur_full g k a j h, backCur_zero]
theorem backs_done {g : List (List Int)} (h : graphValid g = true) : backs g g.length 0 = back g := by
  unfold backs back
  rw [if_pos h]
  exact List.map_congr_left fun a _ => backCur_zero _ _ _
theorem backs_zero (g : List (List Int)) : backs g 0 0 = List.replicate g.length [] := by
  unfold backs
  rw [List.eq_replicate_iff]
  refine ⟨by simp, fun x hx => ?_⟩
  obtain ⟨a, _, rfl⟩ := List.mem_map.1 hx
  rfl
theorem backs_step (g : List (List Int)) (k j t : Nat) (h : j < (g.getD k []).length) (ht : t < g.length) (he : (g.getD k [])[j] = (t : Int)) : (backs g k j).set t (backCur g k j t ++ [(k : Int)]) = backs g k (j + 1) := by
  apply List.ext_getElem?
  intro i
  rw [List.getElem?_set]
  by_cases e : t = i
  · subst e
    rw [if_pos rfl, if_pos (by simp [backs, ht])]
    simp only [backs, List.getElem?_map, List.getElem?_range ht, Option.map_some]
    rw [backCur_succ g k j t h, he]
    simp
  · rw [if_neg e]
    simp only [backs, List.getElem?_map]
    by_cases hi : i < g.length
    · rw [List.getElem?_range hi]
      simp only [Option.map_some]
      rw [backCur_succ g k j i h, he]
      have : ((t : Int) == (i : Int)) = false := by rw [beq_eq_false_iff_ne]; omega
      rw [this]
      simp
    · rw [List.getElem?_eq_none (by simp; omega)]; rfl
theorem own_types' {w : World} {b1 b2 s1 s2 B g n c m : Nat} {e1 e2 : TypeId} {v : Value} {xs ys : List Value} (h : w.ownsRow b1 e1 s1 (.slice (some ⟨B, 0, none⟩) n c) n xs) (k : w.ownsRow b2 e2 s2 v m ys) (hne : e1 ≠ e2) (hv : v.ownBlock = some g) : g ≠ B := by
  intro e
  subst e
  rcases k.2 with ⟨h1, _⟩ | ⟨g2, c2, cur2, hv2, _⟩
  · rw [h1] at hv; cases hv
  · rw [hv2] at hv k
    have : g2 = g := by simpa [Value.ownBlock] using hv
    subst this
    exact hne (own_types h k)
/-- the call hands back rows in blocks of their own, in whatever order. -/
def RetApart (g : List (List Int)) (w : World) (e : Ending) (w' : World) : Prop :=
  ∃ A c qs, e = .returned (.slice A g.length c) ∧ graph qs = g ∧ w'.ownsRow w.heap.size 38 1 (.slice A g.length c) g.length (rowVs qs) ∧ RowsApart w' w.heap.size qs ∧ Below w.heap.size w w'
theorem RowsApart.nils (w : World) (lo n : Nat) : RowsApart w lo (List.replicate n nilRow) := by
  refine ⟨fun r hr => ?_, fun i j hi hj _ g h1 _ => ?_⟩
  · rw [List.eq_of_mem_replicate hr]; exact World.ownsRow_nil _ _ _ _
  · rw [List.getElem_replicate] at h1; cases h1
theorem rows_set (qs : List Row) (t : Nat) (r : Row) : (rowVs qs).set t (rowV r) = rowVs (qs.set t r) := by
  simp [rowVs, List.map_set]
theorem graph_set (qs : List Row) (t : Nat) (r : Row) : graph (qs.set t r) = (graph qs).set t r.zs := by
  simp [graph, List.map_set]
end Go.Proofs.Ytjgemgjpbanliaa
