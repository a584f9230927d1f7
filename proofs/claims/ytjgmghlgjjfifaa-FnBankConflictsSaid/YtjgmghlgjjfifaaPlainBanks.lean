/-
  Plain words on the loads of banks and on conflicts.
-/
import Derived.Test.YtjgmghlgjjfifaaPlainCard
namespace Go.Proofs.Ytjgmghlgjjfifaa
set_option linter.unusedVariables false

/-- how many of the numbers are in each bank. -/
def cnt (ys : List Int) (b : Int) : List Int := (List.range b.toNat).map fun i : Nat => ((ys.filter fun y => y % b == (i : Int)).length : Int)
theorem cnt_length (ys : List Int) (b : Int) : (cnt ys b).length = b.toNat := by simp [cnt]
theorem cnt_at (ys : List Int) (b : Int) (i : Nat) (h : i < (cnt ys b).length) : (cnt ys b)[i] = ((ys.filter fun y => y % b == (i : Int)).length : Int) := by simp [cnt]
theorem cnt_nil (b : Int) : cnt [] b = List.replicate b.toNat 0 := by
  apply List.ext_getElem
  · simp [cnt]
  · intro i h1 h2
    simp [cnt]
theorem cnt_snoc (ys : List Int) (c b : Int) (j : Nat) (hj : c % b = (j : Int)) (h : j < (cnt ys b).length) : cnt (ys ++ [c]) b = (cnt ys b).set j ((cnt ys b)[j] + 1) := by
  apply List.ext_getElem
  · simp [cnt]
  · intro i h1 h2
    rw [cnt_at, List.getElem_set, List.filter_append, List.length_append]
    by_cases e : j = i
    · subst e
      rw [if_pos rfl, cnt_at, List.filter_cons_of_pos (by simpa using hj)]
      simp
    · rw [if_neg e, cnt_at, List.filter_cons_of_neg (by simp [hj]; omega)]
      simp
theorem cnt_bound (ys : List Int) (b : Int) (i : Nat) (h : i < (cnt ys b).length) : 0 ≤ (cnt ys b)[i] ∧ (cnt ys b)[i] ≤ ys.length := by
  rw [cnt_at]
  have := List.length_filter_le (fun y => y % b == (i : Int)) ys
  omega
theorem cnt_mem_bound {ys : List Int} {b z : Int} (h : z ∈ cnt ys b) : 0 ≤ z ∧ z ≤ ys.length := by
  obtain ⟨i, hi, rfl⟩ := List.mem_iff_getElem.1 h
  exact cnt_bound ys b i hi

/-- the greatest one, at least -1. -/
def maxOf (zs : List Int) : Int := zs.foldl max (-1)
theorem maxOf_snoc (zs : List Int) (z : Int) : maxOf (zs ++ [z]) = max (maxOf zs) z := by simp [maxOf]
theorem foldl_max_le (zs : List Int) (a m : Int) (ha : a ≤ m) (h : ∀ z ∈ zs, z ≤ m) : zs.foldl max a ≤ m := by
  induction zs generalizing a with
  | nil => exact ha
  | cons z zs ih => exact ih (max a z) (by have := h z (List.mem_cons_self ..); omega) fun y hy => h y (List.mem_cons_of_mem _ hy)
theorem le_foldl_max (zs : List Int) (a : Int) : a ≤ zs.foldl max a ∧ ∀ z ∈ zs, z ≤ zs.foldl max a := by
  induction zs generalizing a with
  | nil => exact ⟨Int.le_refl _, by simp⟩
  | cons z zs ih =>
    have h := ih (max a z)
    refine ⟨by have := h.1; show a ≤ zs.foldl max (max a z); omega, fun y hy => ?_⟩
    rw [List.mem_cons] at hy
    rcases hy with rfl | hy
    · have := h.1; show y ≤ zs.foldl max (max a y); omega
    · exact h.2 y hy
theorem maxOf_ge {zs : List Int} {z : Int} (h : z ∈ zs) : z ≤ maxOf zs := (le_foldl_max zs (-1)).2 z h
theorem maxOf_le {zs : List Int} {m : Int} (hm : -1 ≤ m) (h : ∀ z ∈ zs, z ≤ m) : maxOf zs ≤ m := foldl_max_le zs (-1) m hm h
theorem maxOf_low (zs : List Int) : -1 ≤ maxOf zs := (le_foldl_max zs (-1)).1
theorem foldl_max_mem (zs : List Int) (a : Int) : zs.foldl max a = a ∨ zs.foldl max a ∈ zs := by
  induction zs generalizing a with
  | nil => exact .inl rfl
  | cons z zs ih =>
    rcases ih (max a z) with h | h
    · have : max a z = a ∨ max a z = z := by omega
      rcases this with e | e
      · left; show zs.foldl max (max a z) = a; omega
      · right; rw [List.mem_cons]; left; show zs.foldl max (max a z) = z; omega
    · right; exact List.mem_cons_of_mem _ h
theorem maxOf_mem {zs : List Int} (h : zs ≠ []) (h' : ∀ z ∈ zs, 0 ≤ z) : maxOf zs ∈ zs := by
  rcases foldl_max_mem zs (-1) with e | e
  · exfalso
    cases zs with
    | nil => exact h rfl
    | cons z zs =>
      have h1 := maxOf_ge (zs := z :: zs) (z := z) (List.mem_cons_self ..)
      have h2 := h' z (List.mem_cons_self ..)
      have : maxOf (z :: zs) = -1 := e
      omega
  · exact e

/-- lane k is not served first. -/
def late (zs : List Int) (b c : Int) : Bool := zs.any fun o => decide (o < c) && (o % b == c % b)
def confUpto (zs : List Int) (b : Int) : Nat → List Int
  | 0 => []
  | k + 1 => confUpto zs b k ++ (match zs[k]? with | some c => if late zs b c = true then [(k : Int)] else [] | none => [])
theorem confUpto_succ (zs : List Int) (b : Int) (k : Nat) (h : k < zs.length) : confUpto zs b (k + 1) = confUpto zs b k ++ if late zs b zs[k] = true then [(k : Int)] else [] := by
  rw [confUpto, List.getElem?_eq_getElem h]
theorem confUpto_le (zs : List Int) (b : Int) (k : Nat) : (confUpto zs b k).length ≤ k := by
  induction k with
  | zero => simp [confUpto]
  | succ k ih =>
    rw [confUpto, List.length_append]
    split
    · split <;> simp <;> omega
    · simp; omega
theorem confUpto_mem (zs : List Int) (b : Int) (k : Nat) (hk : k ≤ zs.length) (z : Int) : z ∈ confUpto zs b k ↔ ∃ i, ∃ h : i < zs.length, i < k ∧ z = (i : Int) ∧ late zs b zs[i] = true := by
  induction k with
  | zero => simp [confUpto]
  | succ k ih =>
    have hlt : k < zs.length := by omega
    rw [confUpto_succ zs b k hlt, List.mem_append, ih (by omega)]
    constructor
    · rintro (⟨i, h, h1, h2, h3⟩ | h)
      · exact ⟨i, h, by omega, h2, h3⟩
      · split at h
        · rename_i hl
          simp only [List.mem_singleton] at h
          exact ⟨k, hlt, by omega, h, hl⟩
        · cases h
    · rintro ⟨i, h, h1, h2, h3⟩
      by_cases e : i = k
      · subst e
        right
        rw [if_pos h3]
        simpa using h2
      · exact .inl ⟨i, h, by omega, h2, h3⟩
theorem confUpto_up (zs : List Int) (b : Int) (k : Nat) (hk : k ≤ zs.length) : Up (confUpto zs b k) := by
  induction k with
  | zero => exact List.Pairwise.nil
  | succ k ih =>
    have hlt : k < zs.length := by omega
    rw [confUpto_succ zs b k hlt]
    unfold Up
    rw [List.pairwise_append]
    refine ⟨ih (by omega), by split <;> simp, fun x hx y hy => ?_⟩
    obtain ⟨i, h, h1, rfl, h3⟩ := (confUpto_mem zs b k (by omega) x).1 hx
    split at hy
    · simp only [List.mem_singleton] at hy
      omega
    · cases hy
end Go.Proofs.Ytjgmghlgjjfifaa
