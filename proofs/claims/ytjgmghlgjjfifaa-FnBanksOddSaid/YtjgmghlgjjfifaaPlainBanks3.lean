/-
  Plain law of neighbouring cells and of odd strides.
-/
import Derived.Test.YtjgmghlgjjfifaaPlainBanks2
import Derived.Test.YtjgmghlgjjfifaaCStride
namespace Go.Proofs.Ytjgmghlgjjfifaa
set_option maxHeartbeats 1000000
set_option linter.unusedVariables false

theorem strideAt (b s : Int) (n k : Nat) (h : k < (strideUpto b s n).length) : (strideUpto b s n)[k] = (b + (k : Int) * s) % 256 := by simp [strideUpto]
theorem stride_areCells (b s : Int) (n : Nat) (hn : n ≤ 8) : areCells (strideUpto b s n) = true :=
  areCells_of (by simp [strideUpto_length]; exact hn) fun z hz => by
    obtain ⟨k, hk, rfl⟩ := List.mem_iff_getElem.1 hz
    rw [strideAt]
    have h1 := Int.emod_nonneg (b + (k : Int) * s) (show (256 : Int) ≠ 0 by omega)
    have h2 := Int.emod_lt_of_pos (b + (k : Int) * s) (show (0 : Int) < 256 by omega)
    omega
theorem stride_mem {b s : Int} {n : Nat} {z : Int} (h : z ∈ strideUpto b s n) : ∃ k : Nat, k < n ∧ z = (b + (k : Int) * s) % 256 := by
  obtain ⟨k, hk, rfl⟩ := List.mem_iff_getElem.1 h
  rw [strideAt]
  exact ⟨k, by simpa [strideUpto_length] using hk, rfl⟩
/-- one and the next cells, one to one. -/
theorem stride_nodup (b s : Int) (n : Nat) (h : ∀ i j : Nat, i < n → j < n → (b + (i : Int) * s) % 256 = (b + (j : Int) * s) % 256 → i = j) : (strideUpto b s n).Nodup := by
  unfold strideUpto
  rw [List.Nodup, List.pairwise_map]
  refine List.Pairwise.imp_of_mem ?_ (List.nodup_range (n := n))
  intro i j hi hj hne e
  exact hne (h i j (List.mem_range.1 hi) (List.mem_range.1 hj) e)
theorem linesOf_ones (zs : List Int) : linesOf zs 1 = asc zs := by unfold linesOf; rw [map_div_one]
theorem gathered_of {zs : List Int} {s : Int} {n : Nat} (h : areCells zs = true) (hs : 1 ≤ s ∧ s ≤ 64) (hc : card zs = n) (hn : n ≤ 8) (hl : ((linesOf zs s).length : Int) = ((n : Int) + s - 1) / s) : gathered zs s = true := by
  unfold gathered
  rw [linesOf_ones, show (asc zs).length = n from hc, linesLeast_yes (by omega) hs]
  simp [h, inB_of hs.1 hs.2, hl]
theorem near_check : ∀ k ∈ List.range 64, (((List.range (((k : Int) + 1 + 7) / ((k : Int) + 1)).toNat).map fun j : Nat => (j : Int) + 1).Pairwise (· < ·)) ∧
    (∀ z ∈ ((List.range (((k : Int) + 1 + 7) / ((k : Int) + 1)).toNat).map fun j : Nat => (j : Int) + 1), z ∈ (strideUpto ((k : Int) + 1) 1 8).map (· / ((k : Int) + 1))) ∧
    (∀ z ∈ (strideUpto ((k : Int) + 1) 1 8).map (· / ((k : Int) + 1)), z ∈ ((List.range (((k : Int) + 1 + 7) / ((k : Int) + 1)).toNat).map fun j : Nat => (j : Int) + 1)) := by decide +kernel
theorem near_gathered (s : Int) (hs : 1 ≤ s ∧ s ≤ 64) : gathered (strideUpto s 1 8) s = true := by
  obtain ⟨k, rfl⟩ : ∃ k : Nat, s = (k : Int) + 1 := ⟨(s - 1).toNat, by omega⟩
  obtain ⟨h1, h2, h3⟩ := near_check k (List.mem_range.2 (by omega))
  refine gathered_of (n := 8) (stride_areCells _ _ _ (by omega)) hs ?_ (by omega) ?_
  · rw [card_nodup (stride_nodup _ _ _ fun i j hi hj e => by omega), strideUpto_length]
  · unfold linesOf
    rw [asc_eq h1 fun z => ⟨h2 z, h3 z⟩, List.length_map, List.length_range]
    have h4 : 0 ≤ ((k : Int) + 1 + 7) / ((k : Int) + 1) := Int.ediv_nonneg (by omega) (by omega)
    rw [Int.toNat_of_nonneg h4]
    congr 1; omega
theorem asc_apart {b s : Int} {n : Nat} {m : Int} (hm : 1 ≤ m) (hn : 1 ≤ n) (h : ∀ i j : Nat, i < n → j < n → ((b + (i : Int) * s) % 256) % m = ((b + (j : Int) * s) % 256) % m → i = j) :
    maxOf (cnt (asc (strideUpto b s n)) m) = 1 := by
  refine rounds_apart _ _ hm ?_ ?_ (up_nodup (asc_spec _).1)
  · intro e
    have h0 := card_nodup (stride_nodup b s n fun i j hi hj e => h i j hi hj (by rw [e]))
    rw [card, e, strideUpto_length] at h0
    simp at h0; omega
  · intro x hx y hy hxy
    obtain ⟨i, hi, rfl⟩ := stride_mem (((asc_spec _).2 x).1 hx)
    obtain ⟨j, hj, rfl⟩ := stride_mem (((asc_spec _).2 y).1 hy)
    rw [h i j hi hj hxy]
theorem near_rounds (b : Int) (n : Nat) (hb : 0 ≤ b ∧ b ≤ 200) (hn : 1 ≤ n ∧ n ≤ 8) : bankRounds (strideUpto b 1 n) n = 1 := by
  rw [bankRounds_yes (stride_areCells _ _ _ hn.2) (inB_of (by omega) (by omega))]
  refine asc_apart (by omega) hn.1 ?_
  intro i j hi hj e
  have e1 : (b + (i : Int) * 1) % 256 = b + i := by omega
  have e2 : (b + (j : Int) * 1) % 256 = b + j := by omega
  rw [e1, e2] at e
  have : n = 1 ∨ n = 2 ∨ n = 3 ∨ n = 4 ∨ n = 5 ∨ n = 6 ∨ n = 7 ∨ n = 8 := by omega
  rcases this with rfl | rfl | rfl | rfl | rfl | rfl | rfl | rfl <;> omega
theorem near_line (b : Int) (n : Nat) (hb : 0 ≤ b ∧ b ≤ 200) (hn : 1 ≤ n ∧ n ≤ 8) : gathered (strideUpto (b - b % 8) 1 n) 8 = true := by
  refine gathered_of (n := n) (stride_areCells _ _ _ hn.2) (by omega) ?_ hn.2 ?_
  · rw [card_nodup (stride_nodup _ _ _ fun i j hi hj e => by omega), strideUpto_length]
  · unfold linesOf
    rw [asc_eq (xs := [b / 8]) (by simp [Up]) fun z => ?_]
    · simp; omega
    · constructor
      · intro hz
        rw [List.mem_singleton] at hz
        refine List.mem_map.2 ⟨(b - b % 8 + ((0 : Nat) : Int) * 1) % 256, ?_, by omega⟩
        rw [← strideAt (b - b % 8) 1 n 0 (by rw [strideUpto_length]; omega)]
        exact List.getElem_mem _
      · intro hz
        obtain ⟨y, hy, rfl⟩ := List.mem_map.1 hz
        obtain ⟨k, hk, rfl⟩ := stride_mem hy
        rw [List.mem_singleton]; omega
theorem odd_apart : ∀ i, i < 8 → ∀ j, j < 8 → ∀ r, r < 8 → r % 2 = 1 → (i * r) % 8 = (j * r) % 8 → i = j := by decide
theorem odd_mod (b s m : Int) (hs : 0 ≤ s) (hodd : s % 2 = 1) (hm : m = 8 ∨ m = 16 ∨ m = 32) (i j : Nat) (hi : i < 8) (hj : j < 8) (e : ((b + (i : Int) * s) % 256) % m = ((b + (j : Int) * s) % 256) % m) : i = j := by
  obtain ⟨t, rfl⟩ := Int.eq_ofNat_of_zero_le hs
  have e8 : (b + (i : Int) * t) % 8 = (b + (j : Int) * t) % 8 := by
    generalize (b + (i : Int) * t) = x at *
    generalize (b + (j : Int) * t) = y at *
    rcases hm with rfl | rfl | rfl <;> omega
  have e9 : ((i : Int) * t) % 8 = ((j : Int) * t) % 8 := by
    generalize ((i : Int) * t) = x at *
    generalize ((j : Int) * t) = y at *
    omega
  have e10 : (i * t) % 8 = (j * t) % 8 := by
    have : (((i * t) % 8 : Nat) : Int) = (((j * t) % 8 : Nat) : Int) := by
      rw [Int.natCast_emod, Int.natCast_emod, Int.natCast_mul, Int.natCast_mul]; exact e9
    omega
  refine odd_apart i hi j hj (t % 8) (by omega) (by omega) ?_
  rw [← Nat.mul_mod_mod, ← Nat.mul_mod_mod] at e10
  rw [Nat.mul_mod, Nat.mul_mod j]
  rw [Nat.mul_mod, Nat.mul_mod j] at e10
  simpa using e10
theorem odd_rounds (b s m : Int) (n : Nat) (hs : 0 ≤ s) (hodd : s % 2 = 1) (hm : m = 8 ∨ m = 16 ∨ m = 32) (hn : 1 ≤ n ∧ n ≤ 8) : bankRounds (strideUpto b s n) m = 1 ∧ bankConflicts (strideUpto b s n) m = [] := by
  have hi : inB m 1 32 = true := inB_of (by omega) (by omega)
  have hr : bankRounds (strideUpto b s n) m = 1 := by
    rw [bankRounds_yes (stride_areCells _ _ _ hn.2) hi]
    exact asc_apart (by omega) hn.1 fun i j hi hj e => odd_mod b s m hs hodd hm i j (by omega) (by omega) e
  refine ⟨hr, ?_⟩
  unfold bankConflicts
  rw [stride_areCells _ _ _ hn.2, hi]
  simp only [Bool.and_self, if_true]
  rw [conf_rounds _ _ (by omega), ← bankRounds_yes (stride_areCells _ _ _ hn.2) hi, hr]
  omega
end Go.Proofs.Ytjgmghlgjjfifaa
