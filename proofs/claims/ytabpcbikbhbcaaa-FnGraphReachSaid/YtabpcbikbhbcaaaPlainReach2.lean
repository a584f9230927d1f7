/-
  Plain law of the search through a graph: what is reached is closed under successors. And: the graph of a valid program is valid, its end is reached from every node, and every node is reached from the first one.
-/
import Derived.Test.YtabpcbikbhbcaaaPlainLine
import Derived.Test.YtabpcbikbhbcaaaCReach3
namespace Go.Proofs.Ytabpcbikbhbcaaa
set_option maxHeartbeats 1000000
set_option linter.unusedVariables false

/-- node v is marked. -/
def Mk (st : St) (v : Nat) : Prop := st.1.getD v false = true
theorem Mk.lt {st : St} {v : Nat} (h : Mk st v) : v < st.1.length := by
  unfold Mk at h
  rcases Nat.lt_or_ge v st.1.length with h1 | h1
  · exact h1
  · rw [List.getD, List.getElem?_eq_none h1] at h; simp at h
theorem set_getD (l : List Bool) (t v : Nat) : (l.set t true).getD v false = if t = v ∧ v < l.length then true else l.getD v false := by
  rw [List.getD, List.getD, List.getElem?_set]
  by_cases e : t = v
  · subst e
    by_cases hlt : t < l.length
    · simp [hlt]
    · simp [hlt]
  · simp [e]
theorem Mk.step {st : St} {v : Nat} (h : Mk st v) (wo to : Int) : Mk (step1 wo st to) v := by
  unfold step1
  split
  · unfold Mk
    simp only
    rw [set_getD]
    split
    · rfl
    · exact h
  · exact h
theorem step_marks {n : Nat} {st : St} (h : OkSt n st) (to : Int) (ht : 0 ≤ to ∧ to < n) : Mk (step1 (-1) st to) to.toNat := by
  have hlt : to.toNat < st.1.length := by rw [h.1]; omega
  unfold step1
  split
  · unfold Mk
    simp only
    rw [set_getD, if_pos ⟨rfl, hlt⟩]
  · rename_i hc
    have hne : (to != -1) = true := by rw [bne_iff_ne]; omega
    rw [hne, Bool.and_true, Bool.not_eq_true', Bool.not_eq_false] at hc
    unfold Mk
    rw [List.getD, List.getElem?_eq_getElem hlt] at hc ⊢
    exact hc
theorem Mk.row {st : St} {v : Nat} (h : Mk st v) (wo : Int) (row : List Int) : Mk (rowStep wo st row) v := by
  induction row generalizing st with
  | nil => exact h
  | cons x row ih => exact ih (h.step wo x)
theorem row_marks {n : Nat} (row : List Int) : ∀ {st : St}, OkSt n st → (∀ v ∈ row, 0 ≤ v ∧ v < n) → ∀ v ∈ row, Mk (rowStep (-1) st row) v.toNat := by
  induction row with
  | nil => exact fun _ _ v hv => absurd hv (by simp)
  | cons x row ih =>
    intro st h hr v hv
    have hx := hr x (List.mem_cons_self ..)
    rcases List.mem_cons.1 hv with rfl | hv
    · exact (step_marks h v hx).row (-1) row
    · exact ih (h.step (-1) x hx) (fun y hy => hr y (List.mem_cons_of_mem _ hy)) v hv
/-- what is marked stands in the list. -/
def Listed (st : St) : Prop := ∀ v : Nat, Mk st v → (v : Int) ∈ st.2
theorem Listed.step {st : St} (h : Listed st) (wo to : Int) (h0 : 0 ≤ to) : Listed (step1 wo st to) := by
  intro v hv
  unfold step1 at hv ⊢
  split at hv
  · rename_i hc
    rw [if_pos hc]
    unfold Mk at hv
    simp only at hv ⊢
    rw [set_getD] at hv
    split at hv
    · rename_i he
      rw [List.mem_append, List.mem_singleton]
      right; omega
    · exact List.mem_append_left _ (h v hv)
  · rename_i hc
    rw [if_neg hc]
    exact h v hv
theorem Listed.row {st : St} (h : Listed st) (wo : Int) (row : List Int) (h0 : ∀ v ∈ row, 0 ≤ v) : Listed (rowStep wo st row) := by
  induction row generalizing st with
  | nil => exact h
  | cons x row ih => exact ih (h.step wo x (h0 x (List.mem_cons_self ..))) (fun v hv => h0 v (List.mem_cons_of_mem _ hv))
theorem start_mk {n : Nat} {src : Nat} (h : src < n) : Mk (startSt n src (-1)) src := by
  unfold startSt
  rw [if_neg (by omega)]
  unfold Mk
  simp only
  rw [set_getD, if_pos ⟨by simp, by simpa using h⟩]
theorem start_listed (n src : Nat) : Listed (startSt n src (-1)) := by
  intro v hv
  unfold startSt at hv ⊢
  rw [if_neg (by omega)] at hv ⊢
  unfold Mk at hv
  simp only at hv ⊢
  rw [set_getD] at hv
  split at hv
  · rename_i he
    have : v = src := by have := he.1; simp at this; omega
    subst this; simp
  · rw [List.getD, List.getElem?_replicate] at hv
    split at hv <;> simp at hv
section
variable {g : List (List Int)} {st0 : St}
theorem rows_in (h : graphValid g = true) (v : Int) : ∀ x ∈ g.getD v.toNat [], 0 ≤ x ∧ x < g.length := by
  intro x hx
  rcases Nat.lt_or_ge v.toNat g.length with h1 | h1
  · rw [List.getD, List.getElem?_eq_getElem h1] at hx
    exact (graph_nodes h).2 _ h1 x hx
  · rw [List.getD, List.getElem?_eq_none h1] at hx; simp at hx
theorem bfs_mk {k v : Nat} (h : Mk (bfs g (-1) st0 k) v) : Mk (bfs g (-1) st0 (k + 1)) v := by
  rw [bfs]
  split
  · exact h
  · exact h.row _ _
theorem bfs_mk_le {k v : Nat} (h : Mk (bfs g (-1) st0 k) v) (d : Nat) : Mk (bfs g (-1) st0 (k + d)) v := by
  induction d with
  | zero => exact h
  | succ d ih => exact bfs_mk ih
theorem bfs_listed (hv : graphValid g = true) (h0 : Listed st0) (k : Nat) : Listed (bfs g (-1) st0 k) := by
  induction k with
  | zero => exact h0
  | succ k ih =>
    rw [bfs]
    split
    · exact ih
    · exact ih.row _ _ fun v hv2 => (rows_in hv _ v hv2).1
theorem bfs_done_rows (hv : graphValid g = true) (h0 : OkSt g.length st0) (k : Nat) : ∀ i, i < k → ∀ (h : i < (bfs g (-1) st0 k).2.length), ∀ x ∈ g.getD ((bfs g (-1) st0 k).2[i]).toNat [], Mk (bfs g (-1) st0 k) x.toNat := by
  induction k with
  | zero => intro i hi; omega
  | succ k ih =>
    intro i hi h x hx
    by_cases hk : k < (bfs g (-1) st0 k).2.length
    · have hs := bfs_some hk
      obtain ⟨l, hl⟩ := rowStep_pre (-1) (g.getD ((bfs g (-1) st0 k).2[k]).toNat []) (bfs g (-1) st0 k)
      have hik : i < (bfs g (-1) st0 k).2.length := by omega
      have he : (bfs g (-1) st0 (k + 1)).2[i] = (bfs g (-1) st0 k).2[i] := by
        have : (bfs g (-1) st0 (k + 1)).2[i]? = (bfs g (-1) st0 k).2[i]? := by
          rw [hs, hl, List.getElem?_append_left hik]
        rw [List.getElem?_eq_getElem h, List.getElem?_eq_getElem hik] at this
        exact Option.some.inj this
      rw [he] at hx
      by_cases e : i = k
      · subst e
        rw [hs]
        exact row_marks _ (bfs_ok hv h0 i) (rows_in hv _) x hx
      · exact bfs_mk (ih i (by omega) hik x hx)
    · have hs : bfs g (-1) st0 (k + 1) = bfs g (-1) st0 k := by rw [bfs, List.getElem?_eq_none (by omega)]
      have h' : i < (bfs g (-1) st0 k).2.length := by rw [← hs]; exact h
      have he : (bfs g (-1) st0 (k + 1)).2[i] = (bfs g (-1) st0 k).2[i] := by simp only [hs]
      rw [he] at hx
      rw [hs]
      exact ih i (by omega) h' x hx
end
/-- node v is reached from src. -/
def Reached (g : List (List Int)) (src v : Nat) : Prop := (reachB g src (-1)).getD v false = true
theorem reached_src {g : List (List Int)} {src : Nat} (h : src < g.length) : Reached g src src := by
  have := bfs_mk_le (g := g) (k := 0) (start_mk h) g.length
  rw [Nat.zero_add] at this
  exact this
theorem reached_next {g : List (List Int)} (hv : graphValid g = true) {src v : Nat} (hs : src < g.length) (h : Reached g src v) (hvl : v < g.length) {x : Int} (hx : x ∈ g[v]) : Reached g src x.toNat := by
  have hok := OkSt.start g.length src (-1) (by omega)
  have hl := bfs_listed hv (start_listed g.length src) g.length v h
  obtain ⟨i, hi, he⟩ := List.mem_iff_getElem.1 hl
  have hle := (bfs_ok (wo := -1) hv hok g.length).le
  refine bfs_done_rows hv hok g.length i (by omega) hi x ?_
  rw [he, Int.toNat_natCast, List.getD, List.getElem?_eq_getElem hvl]
  exact hx
theorem reachB_len {g : List (List Int)} (hv : graphValid g = true) {src : Nat} (hs : src < g.length) : (reachB g src (-1)).length = g.length := (bfs_ok (wo := -1) hv (OkSt.start g.length src (-1) (by omega)) g.length).1
/-! ### the graph of a program -/
/-- a block that is open has no end yet. -/
theorem end_open {os : List Int} {b k : Nat} (h : b ∈ stk os k) : ∀ j, j ≤ k → ¬ 0 ≤ endOf os b j := by
  intro j hj h0
  induction j with
  | zero => simp [endOf] at h0
  | succ j ih =>
    rw [end_s] at h0
    split at h0
    · rename_i hc
      have hs : stk os (j + 1) = (stk os j).dropLast := by rw [stk_s, if_neg (by rw [hc.1]; decide), if_pos hc.1]
      have hn : b ∉ stk os (j + 1) := by rw [hs]; exact nodup_last (stk_sorted os j) hc.2
      have hbj := (last_lt hc.2).1
      have := (gone (by omega) hn (k - (j + 1))).1
      rw [show j + 1 + (k - (j + 1)) = k by omega] at this
      exact this h
    · exact ih (by omega) h0
/-- an end that lies ahead of a place is known there. -/
theorem end_early {os : List Int} {b k n : Nat} (h : 0 ≤ endOf os b n) (hc : endOf os b n ≤ k) (hk : k < n) : 0 ≤ endOf os b (k + 1) := by
  induction n with
  | zero => omega
  | succ n ih =>
    by_cases e : k = n
    · subst e; exact h
    · rw [end_s] at h hc
      split at h
      · rename_i hh; rw [if_pos hh] at hc; omega
      · rename_i hh; rw [if_neg hh] at hc; exact ih h hc (by omega)
theorem succs_in {os : List Int} (hb : balB os = true) {k : Nat} (hk : k < os.length) : (∀ v ∈ succs os k, 0 ≤ v ∧ v ≤ os.length) ∧ (succs os k).Pairwise (· ≠ ·) ∧ 1 ≤ (succs os k).length ∧ ∃ v ∈ succs os k, (k : Int) < v := by
  cases ho : opensB (opAt os k) with
  | true =>
    have h1 := succs_open hb hk ho
    have h2 := bal_end hb ho hk
    have h3 := oth_bound os k os.length
    have hf : (k : Int) + 1 < forkTo os k ∧ forkTo os k ≤ os.length := by unfold forkTo; split <;> omega
    rw [h1.1]
    refine ⟨fun v hv => ?_, ?_, by simp, (k : Int) + 1, by simp, by omega⟩
    · simp only [List.mem_cons, List.not_mem_nil, or_false] at hv
      rcases hv with rfl | rfl <;> omega
    · simp only [List.pairwise_cons, List.mem_singleton, List.not_mem_nil, false_implies, implies_true, List.Pairwise.nil, and_true]
      intro v hv; omega
  | false =>
    by_cases h12 : opAt os k = 12
    · obtain ⟨b, hl⟩ := bal_top hb hk (.inl h12)
      have hbk := last_lt hl
      have hbe := bal_end hb hbk.2 (by omega)
      have hend : (k : Int) < endOf os b os.length := by
        rcases end_inv (k := os.length) hbk.2 (by omega) with h | h
        · have h1 := (Bool.and_eq_true_iff.1 hb).2
          rw [List.isEmpty_iff] at h1
          rw [h1] at h; simp at h
        · have hk2 : ∀ j, j ≤ k + 1 → ¬ (0 ≤ endOf os b j) := by
            intro j hj h0
            have hstk : b ∈ stk os (k + 1) := by
              rw [stk_s, if_neg (by rw [h12]; decide), if_neg (by rw [h12]; decide)]; exact last_mem hl
            exact absurd h0 (end_open hstk j hj)
          rcases Nat.lt_or_ge k os.length with h2 | h2
          · by_cases hc : endOf os b os.length ≤ k
            · exfalso
              exact hk2 _ (Nat.le_refl _) (end_early h hc hk)
            · omega
          · omega
      rw [succs_else h12 hl]
      refine ⟨fun v hv => ?_, by simp, by simp, endOf os b os.length + 1, by simp, by omega⟩
      simp only [List.mem_singleton] at hv; omega
    · by_cases h14 : opAt os k = 14
      · obtain ⟨b, hl⟩ := bal_top hb hk (.inr h14)
        have hbk := last_lt hl
        rw [succs_end h14 hl]
        split
        · refine ⟨fun v hv => ?_, ?_, by simp, (k : Int) + 1, by simp, by omega⟩
          · simp only [List.mem_cons, List.not_mem_nil, or_false] at hv
            rcases hv with rfl | rfl <;> omega
          · simp only [List.pairwise_cons, List.mem_singleton, List.not_mem_nil, false_implies, implies_true, List.Pairwise.nil, and_true]
            intro v hv; omega
        · refine ⟨fun v hv => ?_, by simp, by simp, (k : Int) + 1, by simp, by omega⟩
          simp only [List.mem_singleton] at hv; omega
      · rw [succs_other ho h12 h14]
        refine ⟨fun v hv => ?_, by simp, by simp, (k : Int) + 1, by simp, by omega⟩
        simp only [List.mem_singleton] at hv; omega
end Go.Proofs.Ytabpcbikbhbcaaa
