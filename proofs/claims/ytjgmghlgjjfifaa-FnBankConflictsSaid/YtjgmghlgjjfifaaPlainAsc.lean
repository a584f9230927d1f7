/-
  Plain laws on lists of numbers in ascending order, each once: asc zs is the one such list with the numbers of zs.
-/
import Derived.Test.YtjgmghlgjjfifaaCAsc
namespace Go.Proofs.Ytjgmghlgjjfifaa
set_option linter.unusedVariables false

def Up (xs : List Int) : Prop := xs.Pairwise (· < ·)
theorem up_unique : ∀ (xs ys : List Int), Up xs → Up ys → (∀ z, z ∈ xs ↔ z ∈ ys) → xs = ys
  | [], [], _, _, _ => rfl
  | [], y :: ys, _, _, h => by have := (h y).2 (List.mem_cons_self ..); simp at this
  | x :: xs, [], _, _, h => by have := (h x).1 (List.mem_cons_self ..); simp at this
  | x :: xs, y :: ys, hx, hy, h => by
    have hx1 := List.pairwise_cons.1 hx
    have hy1 := List.pairwise_cons.1 hy
    have hxy : x = y := by
      have h1 := (h x).1 (List.mem_cons_self ..)
      have h2 := (h y).2 (List.mem_cons_self ..)
      rcases List.mem_cons.1 h1 with e | e
      · exact e
      · rcases List.mem_cons.1 h2 with e' | e'
        · exact e'.symm
        · have a := hy1.1 x e
          have b := hx1.1 y e'
          omega
    subst hxy
    rw [up_unique xs ys hx1.2 hy1.2 (fun z => ?_)]
    constructor
    · intro hz
      have a := hx1.1 z hz
      rcases List.mem_cons.1 ((h z).1 (List.mem_cons_of_mem _ hz)) with e | e
      · omega
      · exact e
    · intro hz
      have a := hy1.1 z hz
      rcases List.mem_cons.1 ((h z).2 (List.mem_cons_of_mem _ hz)) with e | e
      · omega
      · exact e

theorem compactUpTo_spec (d : Array Int) (hd : ∀ i j, i ≤ j → j < d.size → d[i]! ≤ d[j]!) (m : Nat) (hm : m ≤ d.size) :
    Up (Lib.compactUpTo d m) ∧ (∀ z, z ∈ Lib.compactUpTo d m ↔ ∃ j, j < m ∧ d[j]! = z) := by
  induction m with
  | zero => exact ⟨by simp [Lib.compactUpTo, Up], fun z => by simp [Lib.compactUpTo]⟩
  | succ m ih =>
    obtain ⟨h1, h2⟩ := ih (by omega)
    rw [Lib.compactUpTo_succ]
    cases hk : Lib.keeps d m with
    | true =>
      simp only [if_true]
      constructor
      · unfold Up
        rw [List.pairwise_append]
        refine ⟨h1, by simp, fun a ha b hb => ?_⟩
        simp only [List.mem_singleton] at hb
        subst hb
        obtain ⟨j, hj, rfl⟩ := (h2 a).1 ha
        have hle := hd j (m - 1) (by omega) (by omega)
        have hle2 := hd (m - 1) m (by omega) (by omega)
        have hne : d[m]! ≠ d[m - 1]! := by
          simp [Lib.keeps] at hk
          rcases hk with hk | hk
          · omega
          · exact hk
        omega
      · intro z
        rw [List.mem_append, h2 z]
        constructor
        · rintro (⟨j, hj, rfl⟩ | hz)
          · exact ⟨j, by omega, rfl⟩
          · simp only [List.mem_singleton] at hz
            exact ⟨m, by omega, hz.symm⟩
        · rintro ⟨j, hj, rfl⟩
          by_cases e : j = m
          · right; subst e; simp
          · left; exact ⟨j, by omega, rfl⟩
    | false =>
      simp only [Bool.false_eq_true, if_false, List.append_nil]
      refine ⟨h1, fun z => ?_⟩
      rw [h2 z]
      constructor
      · rintro ⟨j, hj, rfl⟩; exact ⟨j, by omega, rfl⟩
      · rintro ⟨j, hj, rfl⟩
        by_cases e : j = m
        · subst e
          simp [Lib.keeps] at hk
          exact ⟨j - 1, by omega, hk.2.symm⟩
        · exact ⟨j, by omega, rfl⟩
theorem asc_spec (zs : List Int) : Up (asc zs) ∧ ∀ z, z ∈ asc zs ↔ z ∈ zs := by
  have hs : (zs.mergeSort fun x y => decide (x ≤ y)).Pairwise (fun x y => decide (x ≤ y) = true) :=
    List.pairwise_mergeSort (fun a b c h1 h2 => by simp at *; omega) (fun a b => by simp; omega) zs
  generalize hm : (zs.mergeSort fun x y => decide (x ≤ y)) = ys at hs
  have hmem : ∀ z, z ∈ ys ↔ z ∈ zs := fun z => by rw [← hm]; exact List.mem_mergeSort
  have ha : asc zs = Lib.compactUpTo ys.toArray ys.length := by unfold asc; rw [hm]; rfl
  rw [ha]
  obtain ⟨h1, h2⟩ := compactUpTo_spec ys.toArray (fun i j hij hj => by
    by_cases e : i = j
    · subst e; exact Int.le_refl _
    · have hj' : j < ys.length := by simpa using hj
      have := List.pairwise_iff_getElem.1 hs i j (by omega) hj' (by omega)
      simp [getElem!_pos, show i < ys.length by omega, hj']
      simpa using this) ys.length (by simp)
  refine ⟨h1, fun z => ?_⟩
  rw [h2 z, ← hmem z, List.mem_iff_getElem]
  constructor
  · rintro ⟨j, hj, rfl⟩; exact ⟨j, hj, by simp [getElem!_pos, hj]⟩
  · rintro ⟨j, hj, rfl⟩; exact ⟨j, hj, by simp [getElem!_pos, hj]⟩
theorem asc_eq {zs xs : List Int} (h : Up xs) (hm : ∀ z, z ∈ xs ↔ z ∈ zs) : asc zs = xs :=
  up_unique _ _ (asc_spec zs).1 h fun z => ((asc_spec zs).2 z).trans (hm z).symm
theorem asc_congr {zs zs' : List Int} (h : ∀ z, z ∈ zs ↔ z ∈ zs') : asc zs = asc zs' :=
  asc_eq (asc_spec zs').1 fun z => ((asc_spec zs').2 z).trans (h z).symm
theorem asc_le (zs : List Int) : (asc zs).length ≤ zs.length := by
  unfold asc
  exact Nat.le_trans (compact_le _) (by simp)
end Go.Proofs.Ytjgmghlgjjfifaa
