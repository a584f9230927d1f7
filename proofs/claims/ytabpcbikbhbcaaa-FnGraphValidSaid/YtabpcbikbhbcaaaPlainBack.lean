/-
  Plain law: predecessors. Two lists of predecessors in turn lead back; there are as many predecessors as successors.
-/
import Derived.Test.YtabpcbikbhbcaaaPlainReach3
import Derived.Test.YtabpcbikbhbcaaaCBack
namespace Go.Proofs.Ytabpcbikbhbcaaa
set_option maxHeartbeats 1000000
set_option linter.unusedVariables false

/-! ### sums -/
def sumTo (f : Nat → Nat) : Nat → Nat
  | 0 => 0
  | k + 1 => sumTo f k + f k
theorem sumTo_congr {f h : Nat → Nat} {n : Nat} (hc : ∀ a, a < n → f a = h a) : sumTo f n = sumTo h n := by
  induction n with
  | zero => rfl
  | succ n ih => rw [sumTo, sumTo, ih (fun a ha => hc a (by omega)), hc n (by omega)]
theorem sumTo_add (f h : Nat → Nat) (n : Nat) : sumTo (fun a => f a + h a) n = sumTo f n + sumTo h n := by
  induction n with
  | zero => rfl
  | succ n ih => rw [sumTo, sumTo, sumTo, ih]; omega
theorem sumTo_zero (n : Nat) : sumTo (fun _ => 0) n = 0 := by
  induction n with
  | zero => rfl
  | succ n ih => rw [sumTo, ih]
theorem sumTo_one (z : Int) (n : Nat) : sumTo (fun a => if z = (a : Int) then 1 else 0) n = if 0 ≤ z ∧ z < n then 1 else 0 := by
  induction n with
  | zero => rw [sumTo, if_neg (by omega)]
  | succ n ih =>
    rw [sumTo, ih]
    by_cases h1 : z = (n : Int)
    · rw [if_pos h1, if_neg (by omega), if_pos (by omega)]
    · rw [if_neg h1]
      by_cases h2 : 0 ≤ z ∧ z < n
      · rw [if_pos h2, if_pos (by omega)]
      · rw [if_neg h2, if_neg (by omega)]
theorem hits_cons (z : Int) (row : List Int) (a b : Int) : (rowHits (z :: row) a b).length = (if z = a then 1 else 0) + (rowHits row a b).length := by
  unfold rowHits
  rw [List.length_map, List.length_map, List.filter_cons]
  by_cases h : z = a
  · rw [if_pos (by simpa using h), if_pos h, List.length_cons]; omega
  · rw [if_neg (by simpa using h), if_neg h]; omega
theorem hits_sum (n : Nat) (b : Int) (row : List Int) (h : ∀ v ∈ row, 0 ≤ v ∧ v < (n : Int)) : sumTo (fun a => (rowHits row a b).length) n = row.length := by
  induction row with
  | nil =>
    rw [sumTo_congr (h := fun _ => 0) (fun a _ => by simp [rowHits]), sumTo_zero]; rfl
  | cons z row ih =>
    rw [sumTo_congr (h := fun a => (if z = (a : Int) then 1 else 0) + (rowHits row a b).length) (fun a _ => hits_cons z row a b), sumTo_add, sumTo_one, ih (fun v hv => h v (List.mem_cons_of_mem _ hv)), if_pos (h z (List.mem_cons_self ..)), List.length_cons]
    omega
theorem back_at {g : List (List Int)} (hv : graphValid g = true) {a : Nat} (ha : a < g.length) : (back g).getD a [] = backUpto g a g.length := by
  unfold back
  rw [if_pos hv]
  simp [List.getD, ha]
/-- there are as many predecessors as successors. -/
theorem edges_sum {g : List (List Int)} (hv : graphValid g = true) : sumTo (fun a => ((back g).getD a []).length) g.length = sumTo (fun a => (g.getD a []).length) g.length := by
  rw [sumTo_congr (h := fun a => (backUpto g a g.length).length) (fun a ha => by rw [back_at hv ha])]
  have hk : ∀ k, k ≤ g.length → sumTo (fun a => (backUpto g a k).length) g.length = sumTo (fun a => (g.getD a []).length) k := by
    intro k hk
    induction k with
    | zero => rw [sumTo_congr (h := fun _ => 0) (fun a _ => by simp [backUpto]), sumTo_zero]; rfl
    | succ k ih =>
      rw [sumTo_congr (h := fun a => (backUpto g a k).length + (rowHits (g.getD k []) a k).length) (fun a _ => by rw [backUpto_succ, List.length_append]), sumTo_add, ih (by omega), hits_sum]
      · rfl
      · intro v hv'
        have := (graph_nodes hv).2 k (by omega) v (by rwa [List.getD, List.getElem?_eq_getElem (show k < g.length by omega)] at hv')
        exact this
  exact hk _ (Nat.le_refl _)
/-- what the loop over the nodes adds up. -/
def dTo (g x : List (List Int)) : Nat → Int
  | 0 => 0
  | k + 1 => dTo g x k + (g.getD k []).length - (x.getD k []).length
theorem dTo_sum (g x : List (List Int)) (k : Nat) : dTo g x k = (sumTo (fun a => (g.getD a []).length) k : Int) - (sumTo (fun a => (x.getD a []).length) k : Int) := by
  induction k with
  | zero => rfl
  | succ k ih => rw [dTo, ih, sumTo, sumTo]; simp; omega
theorem dTo_end {g : List (List Int)} (hv : graphValid g = true) : dTo g (back g) g.length = 0 := by rw [dTo_sum, edges_sum hv]; omega
/-! ### rows without a number twice -/
theorem rowOk_nodup {n : Nat} {row : List Int} (h : rowOk n row = true) : row.Pairwise (· ≠ ·) := by
  rw [List.pairwise_iff_getElem]
  intro i j hi hj hij e
  unfold rowOk rowUpto at h
  have h1 := List.all_eq_true.1 h j (List.mem_range.2 hj)
  unfold nodeOk at h1
  rw [Bool.and_eq_true] at h1
  have h2 := h1.2
  have he : row.getD j 0 = row[j] := by rw [List.getD, List.getElem?_eq_getElem hj]; rfl
  rw [he, Bool.not_eq_true'] at h2
  unfold hasB at h2
  rw [List.any_eq_false] at h2
  exact h2 row[i] (List.mem_iff_getElem.2 ⟨i, by simp; omega, by simp⟩) (by simpa using e)
theorem valid_row {g : List (List Int)} (hv : graphValid g = true) {b : Nat} (hb : b < g.length) : rowOk g.length (g.getD b []) = true := by
  unfold graphValid at hv
  rw [Bool.and_eq_true] at hv
  exact List.all_eq_true.1 hv.1 b (List.mem_range.2 hb)
theorem hits_nodup {row : List Int} (h : row.Pairwise (· ≠ ·)) (a b : Int) : rowHits row a b = if a ∈ row then [b] else [] := by
  induction row with
  | nil => simp [rowHits]
  | cons z row ih =>
    have ⟨h1, h2⟩ := List.pairwise_cons.1 h
    have ih := ih h2
    unfold rowHits at ih ⊢
    rw [List.filter_cons]
    by_cases e : z = a
    · subst e
      have hn : z ∉ row := fun hm => h1 z hm rfl
      rw [if_neg hn] at ih
      rw [if_pos (by simp), List.map_cons, ih, if_pos (List.mem_cons_self ..)]
    · rw [if_neg (by simpa using e), ih]
      by_cases hm : a ∈ row
      · rw [if_pos hm, if_pos (List.mem_cons_of_mem _ hm)]
      · rw [if_neg hm, if_neg (fun h' => by rcases List.mem_cons.1 h' with h' | h'; exact e h'.symm; exact hm h')]
/-! ### graphs as tables -/
/-- the b-th node is a successor of the a-th one where M b a. -/
def matG (n : Nat) (M : Nat → Nat → Bool) : List (List Int) := (List.range n).map fun a => ((List.range n).filter fun b => M b a).map fun b : Nat => (b : Int)
theorem matG_len (n : Nat) (M : Nat → Nat → Bool) : (matG n M).length = n := by simp [matG]
theorem matG_at {n : Nat} (M : Nat → Nat → Bool) {a : Nat} (h : a < n) : (matG n M).getD a [] = ((List.range n).filter fun b => M b a).map fun b : Nat => (b : Int) := by simp [matG, List.getD, h]
theorem matG_mem {n : Nat} (M : Nat → Nat → Bool) {a b : Nat} (ha : a < n) (hb : b < n) : (b : Int) ∈ (matG n M).getD a [] ↔ M b a = true := by
  rw [matG_at M ha, List.mem_map]
  constructor
  · rintro ⟨c, hc, he⟩
    have hcb : c = b := by omega
    subst hcb
    exact (List.mem_filter.1 hc).2
  · intro h
    exact ⟨b, List.mem_filter.2 ⟨List.mem_range.2 hb, h⟩, rfl⟩
theorem matG_congr {n : Nat} {M M' : Nat → Nat → Bool} (h : ∀ a b, a < n → b < n → M b a = M' b a) : matG n M = matG n M' := by
  unfold matG
  refine List.map_congr_left fun a ha => ?_
  congr 1
  exact List.filter_congr fun b hb => h a b (List.mem_range.1 ha) (List.mem_range.1 hb)
theorem matG_valid {n : Nat} (hn : n ≤ 64) (M : Nat → Nat → Bool) : graphValid (matG n M) = true := by
  unfold graphValid
  rw [Bool.and_eq_true, decide_eq_true_eq, matG_len]
  refine ⟨?_, hn⟩
  unfold rowsUpto
  rw [List.all_eq_true]
  intro i hi
  have hi := List.mem_range.1 hi
  rw [matG_len, matG_at M hi]
  refine rowOk_of (fun v hv => ?_) ?_
  · obtain ⟨b, hb, rfl⟩ := List.mem_map.1 hv
    have := List.mem_range.1 (List.mem_filter.1 hb).1
    omega
  · rw [List.pairwise_map]
    refine List.Pairwise.imp (R := (· < ·)) (fun {x y} hxy => by omega) ?_
    exact List.Pairwise.filter _ List.pairwise_lt_range
theorem flat_filter (p : Nat → Bool) (l : List Nat) : (l.flatMap fun b => if p b = true then [(b : Int)] else []) = (l.filter p).map fun b : Nat => (b : Int) := by
  induction l with
  | nil => rfl
  | cons x l ih =>
    rw [List.flatMap_cons, ih, List.filter_cons]
    by_cases h : p x = true
    · rw [if_pos h, if_pos h]; rfl
    · rw [if_neg h, if_neg h]; rfl
theorem flat_congr {f h : Nat → List Int} {l : List Nat} (hc : ∀ b ∈ l, f b = h b) : l.flatMap f = l.flatMap h := by
  induction l with
  | nil => rfl
  | cons x l ih => rw [List.flatMap_cons, List.flatMap_cons, hc x (List.mem_cons_self ..), ih (fun b hb => hc b (List.mem_cons_of_mem _ hb))]
theorem back_mat {g : List (List Int)} (hv : graphValid g = true) : back g = matG g.length fun b a => decide ((a : Int) ∈ g.getD b []) := by
  unfold back matG
  rw [if_pos hv]
  refine List.map_congr_left fun a ha => ?_
  rw [← flat_filter]
  unfold backUpto
  refine flat_congr fun b hb => ?_
  rw [hits_nodup (rowOk_nodup (valid_row hv (List.mem_range.1 hb)))]
  simp
theorem back_matG {n : Nat} (hn : n ≤ 64) (M : Nat → Nat → Bool) : back (matG n M) = matG n fun b a => M a b := by
  rw [back_mat (matG_valid hn M), matG_len]
  refine matG_congr fun a b ha hb => ?_
  have := matG_mem M hb ha
  by_cases h : M a b = true
  · rw [h, decide_eq_true (this.2 h)]
  · rw [decide_eq_false (fun h' => h (this.1 h'))]
    simpa using (Bool.eq_false_iff.2 h).symm
/-- predecessors make a graph, and the predecessors of their predecessors are they. -/
theorem back_valid {g : List (List Int)} (hv : graphValid g = true) : graphValid (back g) = true := by
  rw [back_mat hv]; exact matG_valid (graph_nodes hv).1 _
theorem back_back {g : List (List Int)} (hv : graphValid g = true) : back (back (back g)) = back g := by
  have h64 := (graph_nodes hv).1
  rw [back_mat hv, back_matG h64, back_matG h64]
theorem back_row_le {g : List (List Int)} (hv : graphValid g = true) {z : List Int} (hz : z ∈ back g) : z.length ≤ 64 := by
  rw [back_mat hv] at hz
  unfold matG at hz
  obtain ⟨a, _, rfl⟩ := List.mem_map.1 hz
  rw [List.length_map]
  refine Nat.le_trans (List.length_filter_le _ _) ?_
  rw [List.length_range]
  exact (graph_nodes hv).1
end Go.Proofs.Ytabpcbikbhbcaaa
