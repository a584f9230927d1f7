/-
  Plain law of the search through a graph that leaves one node out: the excluded node is not reached, what is reached is reached without the exclusion too, and successors of what is reached are reached, but for the excluded one.
-/
import Derived.Test.YtabpcbikbhbcaaaPlainReach2
namespace Go.Proofs.Ytabpcbikbhbcaaa
set_option maxHeartbeats 1000000
set_option linter.unusedVariables false

theorem step_marksW {n : Nat} {st : St} (h : OkSt n st) (wo to : Int) (ht : 0 ≤ to ∧ to < n) (hw : to ≠ wo) : Mk (step1 wo st to) to.toNat := by
  have hlt : to.toNat < st.1.length := by rw [h.1]; omega
  unfold step1
  split
  · unfold Mk
    simp only
    rw [set_getD, if_pos ⟨rfl, hlt⟩]
  · rename_i hc
    have hne : (to != wo) = true := by rw [bne_iff_ne]; exact hw
    rw [hne, Bool.and_true, Bool.not_eq_true', Bool.not_eq_false] at hc
    unfold Mk
    rw [List.getD, List.getElem?_eq_getElem hlt] at hc ⊢
    exact hc
theorem row_marksW {n : Nat} (wo : Int) (row : List Int) : ∀ {st : St}, OkSt n st → (∀ v ∈ row, 0 ≤ v ∧ v < n) → ∀ v ∈ row, v ≠ wo → Mk (rowStep wo st row) v.toNat := by
  induction row with
  | nil => exact fun _ _ v hv => absurd hv (by simp)
  | cons x row ih =>
    intro st h hr v hv hw
    have hx := hr x (List.mem_cons_self ..)
    rcases List.mem_cons.1 hv with rfl | hv
    · exact (step_marksW h wo v hx hw).row wo row
    · exact ih (h.step wo x hx) (fun y hy => hr y (List.mem_cons_of_mem _ hy)) v hv hw
/-- a property of every marked node stays, if the row's nodes have it. -/
theorem mk_step {P : Nat → Prop} {st : St} (wo to : Int) (h : ∀ v, Mk st v → P v) (ht : to ≠ wo → P to.toNat) : ∀ v, Mk (step1 wo st to) v → P v := by
  intro v hv
  unfold step1 at hv
  split at hv
  · rename_i hc
    rw [Bool.and_eq_true] at hc
    unfold Mk at hv
    simp only at hv
    rw [set_getD] at hv
    split at hv
    · rename_i he
      rw [← he.1]
      exact ht (by simpa using hc.2)
    · exact h v hv
  · exact h v hv
theorem mk_row {P : Nat → Prop} (wo : Int) (row : List Int) : ∀ {st : St}, (∀ v, Mk st v → P v) → (∀ x ∈ row, x ≠ wo → P x.toNat) → ∀ v, Mk (rowStep wo st row) v → P v := by
  induction row with
  | nil => exact fun h _ => h
  | cons x row ih => exact fun h hr => ih (mk_step wo x h (hr x (List.mem_cons_self ..))) (fun y hy => hr y (List.mem_cons_of_mem _ hy))
section
variable {g : List (List Int)} {st0 : St} {wo : Int}
theorem bfs_mkW {k v : Nat} (h : Mk (bfs g wo st0 k) v) : Mk (bfs g wo st0 (k + 1)) v := by
  rw [bfs]
  split
  · exact h
  · exact h.row _ _
theorem bfs_mkW_le {k v : Nat} (h : Mk (bfs g wo st0 k) v) (d : Nat) : Mk (bfs g wo st0 (k + d)) v := by
  induction d with
  | zero => exact h
  | succ d ih => exact bfs_mkW ih
theorem bfs_listedW (hv : graphValid g = true) (h0 : Listed st0) (k : Nat) : Listed (bfs g wo st0 k) := by
  induction k with
  | zero => exact h0
  | succ k ih =>
    rw [bfs]
    split
    · exact ih
    · exact ih.row _ _ fun v hv2 => (rows_in hv _ v hv2).1
theorem bfs_done_rowsW (hv : graphValid g = true) (h0 : OkSt g.length st0) (k : Nat) : ∀ i, i < k → ∀ (h : i < (bfs g wo st0 k).2.length), ∀ x ∈ g.getD ((bfs g wo st0 k).2[i]).toNat [], x ≠ wo → Mk (bfs g wo st0 k) x.toNat := by
  induction k with
  | zero => intro i hi; omega
  | succ k ih =>
    intro i hi h x hx hw
    by_cases hk : k < (bfs g wo st0 k).2.length
    · have hs := bfs_some hk
      obtain ⟨l, hl⟩ := rowStep_pre wo (g.getD ((bfs g wo st0 k).2[k]).toNat []) (bfs g wo st0 k)
      have hik : i < (bfs g wo st0 k).2.length := by
        by_cases e : i = k
        · omega
        · omega
      have he : (bfs g wo st0 (k + 1)).2[i] = (bfs g wo st0 k).2[i] := by
        have : (bfs g wo st0 (k + 1)).2[i]? = (bfs g wo st0 k).2[i]? := by
          rw [hs, hl, List.getElem?_append_left hik]
        rw [List.getElem?_eq_getElem h, List.getElem?_eq_getElem hik] at this
        exact Option.some.inj this
      rw [he] at hx
      by_cases e : i = k
      · subst e
        rw [hs]
        exact row_marksW wo _ (bfs_ok hv h0 i) (rows_in hv _) x hx hw
      · exact bfs_mkW (ih i (by omega) hik x hx hw)
    · have hs : bfs g wo st0 (k + 1) = bfs g wo st0 k := by rw [bfs, List.getElem?_eq_none (by omega)]
      have h' : i < (bfs g wo st0 k).2.length := by rw [← hs]; exact h
      have he : (bfs g wo st0 (k + 1)).2[i] = (bfs g wo st0 k).2[i] := by simp only [hs]
      rw [he] at hx
      rw [hs]
      exact ih i (by omega) h' x hx hw
/-- the listed nodes are marked. -/
def Both (st : St) : Prop := ∀ v ∈ st.2, 0 ≤ v ∧ Mk st v.toNat
theorem Both.step {n : Nat} {st : St} (h : Both st) (hok : OkSt n st) (to : Int) (ht : 0 ≤ to ∧ to < n) : Both (step1 wo st to) := by
  intro v hv
  have hlt : to.toNat < st.1.length := by rw [hok.1]; omega
  by_cases hc : (!(st.1.getD to.toNat true) && (to != wo)) = true
  · have e : step1 wo st to = (st.1.set to.toNat true, st.2 ++ [to]) := by unfold step1; rw [if_pos hc]
    rw [e] at hv ⊢
    rcases List.mem_append.1 hv with h1 | h1
    · have := h v h1
      refine ⟨this.1, ?_⟩
      rw [← e]; exact this.2.step wo to
    · rw [List.mem_singleton] at h1
      subst h1
      refine ⟨ht.1, ?_⟩
      unfold Mk
      simp only
      rw [set_getD, if_pos ⟨rfl, hlt⟩]
  · have e : step1 wo st to = st := by unfold step1; rw [if_neg hc]
    rw [e] at hv ⊢
    exact h v hv
theorem Both.row {n : Nat} (row : List Int) : ∀ {st : St}, Both st → OkSt n st → (∀ v ∈ row, 0 ≤ v ∧ v < n) → Both (rowStep wo st row) := by
  induction row with
  | nil => exact fun h _ _ => h
  | cons x row ih => exact fun h hok hr => ih (h.step hok x (hr x (List.mem_cons_self ..))) (hok.step wo x (hr x (List.mem_cons_self ..))) (fun y hy => hr y (List.mem_cons_of_mem _ hy))
theorem bfs_both (hv : graphValid g = true) (h0 : OkSt g.length st0) (hb : Both st0) (k : Nat) : Both (bfs g wo st0 k) := by
  induction k with
  | zero => exact hb
  | succ k ih =>
    rw [bfs]
    split
    · exact ih
    · exact Both.row _ ih (bfs_ok hv h0 k) (rows_in hv _)
end
section
variable {g : List (List Int)} {src : Nat} {wo : Int}
theorem start_mkW {n : Nat} (h : src < n) (hw : (src : Int) ≠ wo) : Mk (startSt n src wo) src := by
  unfold startSt
  rw [if_neg hw]
  unfold Mk
  simp only
  rw [set_getD, if_pos ⟨by simp, by simpa using h⟩]
theorem start_of {n : Nat} {v : Nat} (h : Mk (startSt n src wo) v) : v = src ∧ (src : Int) ≠ wo := by
  unfold startSt at h
  split at h
  · unfold Mk at h
    simp only at h
    rw [List.getD, List.getElem?_replicate] at h
    split at h <;> simp at h
  · rename_i hw
    unfold Mk at h
    simp only at h
    rw [set_getD] at h
    split at h
    · rename_i he
      exact ⟨by have := he.1; simp at this; omega, hw⟩
    · rw [List.getD, List.getElem?_replicate] at h
      split at h <;> simp at h
theorem start_listedW (n : Nat) : Listed (startSt n src wo) := by
  intro v hv
  obtain ⟨rfl, hw⟩ := start_of hv
  unfold startSt
  rw [if_neg hw]
  simp
theorem start_both {n : Nat} (h : src < n) : Both (startSt n src wo) := by
  intro v hv
  by_cases hw : (src : Int) = wo
  · unfold startSt at hv
    rw [if_pos hw] at hv
    cases hv
  · have : v = (src : Int) := by
      unfold startSt at hv
      rw [if_neg hw] at hv
      simpa using hv
    subst this
    exact ⟨by omega, start_mkW h hw⟩
/-- node v is reached from src without wo. -/
def ReachW (g : List (List Int)) (src : Nat) (wo : Int) (v : Nat) : Prop := (reachB g src wo).getD v false = true
theorem reachW_src (h : src < g.length) (hw : (src : Int) ≠ wo) : ReachW g src wo src := by
  have := bfs_mkW_le (g := g) (wo := wo) (k := 0) (start_mkW h hw) g.length
  rw [Nat.zero_add] at this
  exact this
theorem reachW_next (hv : graphValid g = true) (hs : src < g.length) {v : Nat} (h : ReachW g src wo v) (hvl : v < g.length) {x : Int} (hx : x ∈ g[v]) (hw : x ≠ wo) : ReachW g src wo x.toNat := by
  have hok := OkSt.start g.length src wo (by omega)
  have hl := bfs_listedW (wo := wo) hv (start_listedW g.length) g.length v h
  obtain ⟨i, hi, he⟩ := List.mem_iff_getElem.1 hl
  have hle := (bfs_ok (wo := wo) hv hok g.length).le
  refine bfs_done_rowsW hv hok g.length i (by omega) hi x ?_ hw
  rw [he, Int.toNat_natCast, List.getD, List.getElem?_eq_getElem hvl]
  exact hx
/-- what is marked at any time: not the excluded node, and reached without the exclusion. -/
theorem reachW_mk (hv : graphValid g = true) (hs : src < g.length) (k : Nat) : ∀ v, Mk (bfs g wo (startSt g.length src wo) k) v → (v : Int) ≠ wo ∧ Reached g src v := by
  induction k with
  | zero =>
    intro v h
    obtain ⟨rfl, hw⟩ := start_of h
    exact ⟨hw, reached_src hs⟩
  | succ k ih =>
    intro v h
    have hok := OkSt.start g.length src wo (by omega)
    have hb := bfs_both (wo := wo) hv hok (start_both hs) k
    by_cases hk : k < (bfs g wo (startSt g.length src wo) k).2.length
    · rw [bfs_some hk] at h
      have hm := hb _ (List.getElem_mem hk)
      have hr := (ih _ hm.2).2
      have hlt : ((bfs g wo (startSt g.length src wo) k).2[k]).toNat < g.length := by
        have := hm.2.lt
        rw [(bfs_ok hv hok k).1] at this
        exact this
      refine mk_row wo _ (P := fun v => (v : Int) ≠ wo ∧ Reached g src v) ih (fun x hx hw => ⟨?_, ?_⟩) v h
      · have := (rows_in hv _ x hx).1
        omega
      · rw [List.getD, List.getElem?_eq_getElem hlt] at hx
        exact reached_next hv hs hr hlt hx
    · rw [bfs, List.getElem?_eq_none (by omega)] at h
      exact ih v h
theorem reachW_not (hv : graphValid g = true) (hs : src < g.length) {v : Nat} (h : ReachW g src wo v) : (v : Int) ≠ wo ∧ Reached g src v := reachW_mk hv hs _ v h
theorem reachW_self (hv : graphValid g = true) (hs : src < g.length) : (reachB g src wo).getD src false = !((src : Int) == wo) := by
  by_cases hw : (src : Int) = wo
  · have hb : ((src : Int) == wo) = true := by simpa using hw
    rw [hb]
    cases h : (reachB g src wo).getD src false with
    | false => rfl
    | true => exact absurd hw (reachW_not hv hs h).1
  · have h1 : (reachB g src wo).getD src false = true := reachW_src hs hw
    rw [h1]
    simp [hw]
end
end Go.Proofs.Ytabpcbikbhbcaaa
