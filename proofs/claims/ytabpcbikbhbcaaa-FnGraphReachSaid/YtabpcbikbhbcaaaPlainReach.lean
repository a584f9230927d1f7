/-
  Plain law of the search through a graph.
-/
import Derived.Test.YtabpcbikbhbcaaaCGraph
namespace Go.Proofs.Ytabpcbikbhbcaaa
set_option maxHeartbeats 1000000
set_option linter.unusedVariables false

/-- which nodes are marked, and the nodes in the order in which they were. -/
abbrev St := List Bool × List Int
def step1 (wo : Int) (st : St) (to : Int) : St := if (!(st.1.getD to.toNat true) && (to != wo)) = true then (st.1.set to.toNat true, st.2 ++ [to]) else st
def rowStep (wo : Int) (st : St) (row : List Int) : St := row.foldl (step1 wo) st
def bfs (g : List (List Int)) (wo : Int) (st0 : St) : Nat → St
  | 0 => st0
  | k + 1 => match (bfs g wo st0 k).2[k]? with
    | none => bfs g wo st0 k
    | some v => rowStep wo (bfs g wo st0 k) (g.getD v.toNat [])
def startSt (n : Nat) (src wo : Int) : St := if src = wo then (List.replicate n false, []) else ((List.replicate n false).set src.toNat true, [src])
def reachB (g : List (List Int)) (src wo : Int) : List Bool := (bfs g wo (startSt g.length src wo) g.length).1
/-- what holds of every state. -/
def OkSt (n : Nat) (st : St) : Prop := st.1.length = n ∧ (∀ v ∈ st.2, 0 ≤ v ∧ v < n) ∧ st.2.length = st.1.count true
theorem OkSt.le {n : Nat} {st : St} (h : OkSt n st) : st.2.length ≤ n := by
  obtain ⟨h1, _, h3⟩ := h
  rw [h3, ← h1]; exact List.count_le_length
theorem OkSt.step {n : Nat} {st : St} (h : OkSt n st) (wo to : Int) (ht : 0 ≤ to ∧ to < n) : OkSt n (step1 wo st to) := by
  obtain ⟨h1, h2, h3⟩ := h
  unfold step1
  split
  · rename_i hc
    rw [Bool.and_eq_true] at hc
    have hlt : to.toNat < st.1.length := by omega
    have hf : st.1[to.toNat] = false := by
      have := hc.1
      simp only [List.getD, List.getElem?_eq_getElem hlt, Option.getD_some] at this
      simpa using this
    refine ⟨by simp [h1], fun v hv => ?_, ?_⟩
    · rcases List.mem_append.1 hv with h | h
      · exact h2 v h
      · rw [List.mem_singleton] at h; subst h; exact ht
    · rw [List.length_append, h3, List.count_set hlt, hf]
      simp
  · exact ⟨h1, h2, h3⟩
theorem OkSt.row {n : Nat} (wo : Int) (row : List Int) : ∀ {st : St}, OkSt n st → (∀ v ∈ row, 0 ≤ v ∧ v < n) → OkSt n (rowStep wo st row) := by
  induction row with
  | nil => exact fun h _ => h
  | cons v row ih => exact fun h hr => ih (h.step wo v (hr v (List.mem_cons_self ..))) (fun x hx => hr x (List.mem_cons_of_mem _ hx))
theorem OkSt.start (n : Nat) (src wo : Int) (hs : 0 ≤ src ∧ src < n) : OkSt n (startSt n src wo) := by
  unfold startSt
  split
  · exact ⟨by simp, by simp, by simp [List.count_replicate]⟩
  · refine ⟨by simp, fun v hv => ?_, ?_⟩
    · rw [List.mem_singleton] at hv; subst hv; exact hs
    · rw [List.count_set (by simp; omega)]
      simp [List.count_replicate]
theorem rowStep_take (wo : Int) (st : St) (row : List Int) (j : Nat) (h : j < row.length) : rowStep wo st (row.take (j + 1)) = step1 wo (rowStep wo st (row.take j)) row[j] := by
  unfold rowStep
  rw [List.take_succ_eq_append_getElem h, List.foldl_append]; rfl
/-- what is once in the list stays at its place. -/
theorem step1_pre (wo : Int) (st : St) (to : Int) : ∃ l, (step1 wo st to).2 = st.2 ++ l := by
  unfold step1
  split
  · exact ⟨[to], rfl⟩
  · exact ⟨[], by simp⟩
theorem rowStep_pre (wo : Int) (row : List Int) : ∀ (st : St), ∃ l, (rowStep wo st row).2 = st.2 ++ l := by
  induction row with
  | nil => exact fun st => ⟨[], by simp [rowStep]⟩
  | cons v row ih =>
    intro st
    obtain ⟨l1, h1⟩ := step1_pre wo st v
    obtain ⟨l2, h2⟩ := ih (step1 wo st v)
    exact ⟨l1 ++ l2, by show (rowStep wo (step1 wo st v) row).2 = _; rw [h2, h1, List.append_assoc]⟩
theorem bfs_some {g : List (List Int)} {wo : Int} {st0 : St} {k : Nat} (h : k < (bfs g wo st0 k).2.length) : bfs g wo st0 (k + 1) = rowStep wo (bfs g wo st0 k) (g.getD ((bfs g wo st0 k).2[k]).toNat []) := by
  rw [bfs, List.getElem?_eq_getElem h]
theorem bfs_done {g : List (List Int)} {wo : Int} {st0 : St} {k : Nat} (h : k = (bfs g wo st0 k).2.length) : ∀ m, k ≤ m → bfs g wo st0 m = bfs g wo st0 k := by
  intro m hm
  induction m with
  | zero => have : k = 0 := by omega
            rw [this]
  | succ m ih =>
    by_cases e : k = m + 1
    · rw [e]
    · have h1 := ih (by omega)
      rw [bfs, h1, List.getElem?_eq_none (by omega)]
theorem reach_done {g : List (List Int)} {src wo : Int} {k : Nat} (hk : k = (bfs g wo (startSt g.length src wo) k).2.length) (hn : k ≤ g.length) : (bfs g wo (startSt g.length src wo) k).1 = reachB g src wo := by
  unfold reachB
  rw [bfs_done hk g.length hn]
/-- of a valid graph: every successor is a node. -/
theorem graph_nodes {g : List (List Int)} (h : graphValid g = true) : g.length ≤ 64 ∧ ∀ i, (hi : i < g.length) → ∀ v ∈ g[i], 0 ≤ v ∧ v < g.length := by
  unfold graphValid at h
  rw [Bool.and_eq_true] at h
  refine ⟨of_decide_eq_true h.2, fun i hi v hv => ?_⟩
  have h1 := List.all_eq_true.1 h.1 i (List.mem_range.2 hi)
  simp only [List.getD, List.getElem?_eq_getElem hi, Option.getD_some] at h1
  obtain ⟨j, hj, rfl⟩ := List.mem_iff_getElem.1 hv
  have h2 := List.all_eq_true.1 h1 j (List.mem_range.2 hj)
  unfold nodeOk at h2
  rw [Bool.and_eq_true] at h2
  have h3 := inB_t h2.1
  simp only [List.getD, List.getElem?_eq_getElem hj, Option.getD_some] at h3
  omega
theorem bfs_ok {g : List (List Int)} {wo : Int} {st0 : St} (h : graphValid g = true) (h0 : OkSt g.length st0) : ∀ k, OkSt g.length (bfs g wo st0 k) := by
  intro k
  induction k with
  | zero => exact h0
  | succ k ih =>
    by_cases hk : k < (bfs g wo st0 k).2.length
    · rw [bfs_some hk]
      have hv := ih.2.1 _ (List.getElem_mem hk)
      refine OkSt.row wo _ ih fun v hv2 => ?_
      have hi : ((bfs g wo st0 k).2[k]).toNat < g.length := by omega
      rw [List.getD, List.getElem?_eq_getElem hi, Option.getD_some] at hv2
      exact (graph_nodes h).2 _ hi v hv2
    · rw [bfs, List.getElem?_eq_none (by omega)]
      exact ih
end Go.Proofs.Ytabpcbikbhbcaaa
