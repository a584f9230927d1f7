/-
  Plain words on the written cells of a list of accesses.
-/
import Derived.Test.YtjgmghlgjjfifaaPlainAsc
import Derived.Test.YtjgmghlgjjfifaaCAccS
namespace Go.Proofs.Ytjgmghlgjjfifaa
open Go.RowKit
set_option linter.unusedVariables false

def writtenCells (xs : List Acc) : List Int := (xs.filter (·.write)).map (·.cell)
theorem writtenCells_take (xs : List Acc) (k : Nat) (h : k < xs.length) : writtenCells (xs.take (k + 1)) = writtenCells (xs.take k) ++ if xs[k].write = true then [xs[k].cell] else [] := by
  rw [List.take_succ_eq_append_getElem h]
  unfold writtenCells
  rw [List.filter_append, List.map_append]
  congr 1
  by_cases e : xs[k].write = true
  · rw [if_pos e, List.filter_cons_of_pos (by simpa using e)]; rfl
  · rw [if_neg e, List.filter_cons_of_neg (by simpa using e)]; rfl
theorem writtenCells_le (xs : List Acc) (k : Nat) : (writtenCells (xs.take k)).length ≤ k := by
  unfold writtenCells
  rw [List.length_map]
  exact Nat.le_trans (List.length_filter_le _ _) (List.length_take_le _ _)

/-- z's place in ys: what lies behind is not less. -/
def Place (ys : List Int) (z : Int) (a : Nat) : Prop := ∀ j, a ≤ j → ∀ y, ys[j]? = some y → z ≤ y
theorem Place.end_ (ys : List Int) (z : Int) : Place ys z ys.length := fun j hj y hy => by
  rw [List.getElem?_eq_none hj] at hy; cases hy
theorem Place.down {ys : List Int} {z : Int} {a : Nat} (h : Place ys z a) (ha : 0 < a) (hl : a - 1 < ys.length) (hz : z ≤ ys[a - 1]) : Place ys z (a - 1) := fun j hj y hy => by
  by_cases e : j = a - 1
  · subst e
    rw [List.getElem?_eq_getElem hl] at hy
    injection hy with hy
    omega
  · exact h j (by omega) y hy
/-- z stands at its place already. -/
theorem place_mem {ys : List Int} {z : Int} {a : Nat} (hl : a < ys.length) (h : ys[a] = z) : z ∈ ys := h ▸ List.getElem_mem hl
theorem place_ins {ys : List Int} {z : Int} {a : Nat} (hu : Up ys) (hp : Place ys z a) (ha : a ≤ ys.length) (hlo : a = 0 ∨ ∃ h : a - 1 < ys.length, ys[a - 1] < z) (hne : ∀ h : a < ys.length, ys[a] ≠ z) :
    Up (ys.take a ++ [z] ++ ys.drop a) ∧ ∀ x, x ∈ ys.take a ++ [z] ++ ys.drop a ↔ x ∈ ys ∨ x = z := by
  have hlow : ∀ x ∈ ys.take a, x < z := by
    intro x hx
    obtain ⟨j, hj, rfl⟩ := List.mem_iff_getElem.1 hx
    have hj' : j < a := by have := List.length_take_le a ys; omega
    rw [List.getElem_take]
    rcases hlo with h0 | ⟨h1, h2⟩
    · omega
    · by_cases e : j = a - 1
      · subst e; exact h2
      · have := List.pairwise_iff_getElem.1 hu j (a - 1) (by omega) h1 (by omega)
        omega
  have hhigh : ∀ x ∈ ys.drop a, z < x := by
    intro x hx
    obtain ⟨j, hj, rfl⟩ := List.mem_iff_getElem.1 hx
    have hj' : a + j < ys.length := by simp at hj; omega
    rw [List.getElem_drop]
    have h1 := hp (a + j) (by omega) _ (List.getElem?_eq_getElem hj')
    have h2 : ys[a + j] ≠ z := by
      intro e
      by_cases h0 : j = 0
      · subst h0; exact hne (by omega) e
      · have h3 := List.pairwise_iff_getElem.1 hu a (a + j) (by omega) hj' (by omega)
        have h4 := hp a (by omega) _ (List.getElem?_eq_getElem (by omega))
        omega
    omega
  refine ⟨?_, fun x => ?_⟩
  · unfold Up
    rw [List.append_assoc, List.pairwise_append]
    refine ⟨List.Pairwise.sublist (List.take_sublist a ys) hu, ?_, ?_⟩
    · rw [List.singleton_append, List.pairwise_cons]
      exact ⟨fun x hx => hhigh x hx, List.Pairwise.sublist (List.drop_sublist a ys) hu⟩
    · intro x hx y hy
      have h1 := hlow x hx
      rcases List.mem_append.1 hy with h | h
      · simp only [List.mem_singleton] at h; omega
      · have := hhigh y h; omega
  · simp only [List.mem_append, List.mem_singleton]
    constructor
    · rintro ((h | h) | h)
      · exact .inl (List.mem_of_mem_take h)
      · exact .inr h
      · exact .inl (List.mem_of_mem_drop h)
    · rintro (h | h)
      · rw [← List.take_append_drop a ys] at h
        rcases List.mem_append.1 h with h | h
        · exact .inl (.inl h)
        · exact .inr h
      · exact .inl (.inr h)
end Go.Proofs.Ytjgmghlgjjfifaa
