/-
  Plain law: the graph of a valid program is valid, its end is reached from every node, and every node is reached from the first one.
-/
import Derived.Test.YtabpcbikbhbcaaaPlainReach2
namespace Go.Proofs.Ytabpcbikbhbcaaa
set_option maxHeartbeats 1000000
set_option linter.unusedVariables false

theorem rowOk_of {n : Nat} {row : List Int} (h1 : ∀ v ∈ row, 0 ≤ v ∧ v < (n : Int)) (h2 : row.Pairwise (· ≠ ·)) : rowOk n row = true := by
  unfold rowOk rowUpto
  rw [List.all_eq_true]
  intro i hi
  have hi := List.mem_range.1 hi
  unfold nodeOk
  have he : row.getD i 0 = row[i] := by rw [List.getD, List.getElem?_eq_getElem hi]; rfl
  rw [he]
  have hb := h1 row[i] (List.getElem_mem hi)
  rw [Bool.and_eq_true]
  refine ⟨by unfold inB; simp; omega, ?_⟩
  rw [Bool.not_eq_true']
  unfold hasB
  rw [List.any_eq_false]
  intro x hx
  obtain ⟨j, hj, rfl⟩ := List.mem_iff_getElem.1 hx
  rw [List.length_take] at hj
  rw [List.getElem_take]
  have := List.pairwise_iff_getElem.1 h2 j i (by omega) hi (by omega)
  simpa using this
theorem graph_valid {os : List Int} (hb : balB os = true) (hl : os.length ≤ 40) : graphValid (graphOf os) = true := by
  unfold graphValid
  rw [Bool.and_eq_true, decide_eq_true_eq, graphOf_len]
  refine ⟨?_, by omega⟩
  unfold rowsUpto
  rw [List.all_eq_true]
  intro i hi
  have hi := List.mem_range.1 hi
  have hgl := graphOf_len os
  rcases Nat.lt_or_ge i os.length with h | h
  · have he : (graphOf os).getD i [] = succs os i := by rw [List.getD, List.getElem?_eq_getElem (by rw [graphOf_len]; omega), graphOf_at h]; rfl
    rw [he]
    obtain ⟨h1, h2, _⟩ := succs_in hb h
    exact rowOk_of (fun v hv => by have := h1 v hv; rw [hgl]; omega) h2
  · have hie : i = os.length := by omega
    have he : (graphOf os).getD i [] = [] := by
      unfold graphOf
      rw [List.getD, List.getElem?_append_right (by simp; omega)]
      simp [hie]
    rw [he]; rfl
theorem reach_up {os : List Int} (hb : balB os = true) (hl : os.length ≤ 40) {s : Nat} (hs : s ≤ os.length) (d : Nat) : ∀ v, v ≤ os.length → os.length - v = d → Reached (graphOf os) s v → Reached (graphOf os) s os.length := by
  induction d using Nat.strongRecOn with
  | _ d ih =>
    intro v hv hd hr
    rcases Nat.lt_or_ge v os.length with h | h
    · obtain ⟨h1, _, _, x, hx, hlt⟩ := succs_in hb h
      have hxb := h1 x hx
      have hr2 := reached_next (graph_valid hb hl) (by rw [graphOf_len]; omega) hr (by rw [graphOf_len]; omega) (x := x) (by rw [graphOf_at h]; exact hx)
      exact ih (os.length - x.toNat) (by omega) x.toNat (by omega) rfl hr2
    · have : v = os.length := by omega
      rw [this] at hr; exact hr
theorem reach_end {os : List Int} (hb : balB os = true) (hl : os.length ≤ 40) {s : Nat} (hs : s ≤ os.length) : Reached (graphOf os) s os.length :=
  reach_up hb hl hs _ s hs rfl (reached_src (by rw [graphOf_len]; omega))
theorem oth_final {os : List Int} (hok : okUpto os os.length = true) {j b : Nat} (hl : (stk os j).getLast? = some b) (h12 : opAt os j = 12) (m : Nat) (hm : m ≤ os.length) (hj : j < m) : oth os b m = j := by
  induction m with
  | zero => omega
  | succ m ih =>
    by_cases e : j = m
    · subst e; rw [oth_s, if_pos ⟨h12, hl⟩]
    · have h1 := ih (by omega) (by omega)
      rw [oth_s]
      split
      · rename_i hc
        have h2 := okUpto_step hok (show m < os.length by omega)
        rw [stepOk_else hc.1] at h2
        unfold elseOk at h2
        rw [hc.2] at h2
        simp only [Bool.and_eq_true, decide_eq_true_eq] at h2
        omega
      · exact h1
theorem reach_all {os : List Int} (hb : balB os = true) (hl : os.length ≤ 40) (m : Nat) : m ≤ os.length → Reached (graphOf os) 0 m := by
  induction m using Nat.strongRecOn with
  | _ m ih =>
    intro hm
    have hgv := graph_valid hb hl
    cases m with
    | zero => exact reached_src (by rw [graphOf_len]; omega)
    | succ j =>
      have hj : j < os.length := by omega
      have step : ∀ v, v < j + 1 → ∀ x ∈ succs os v, x = (j : Int) + 1 → Reached (graphOf os) 0 (j + 1) := fun v hv x hx he => by
        have := reached_next hgv (by rw [graphOf_len]; omega) (ih v hv (by omega)) (by rw [graphOf_len]; omega) (x := x) (by rw [graphOf_at (by omega)]; exact hx)
        rw [he] at this
        have e2 : ((j : Int) + 1).toNat = j + 1 := by omega
        rwa [e2] at this
      by_cases h12 : opAt os j = 12
      · obtain ⟨b, hlast⟩ := bal_top hb hj (.inl h12)
        have hbk := last_lt hlast
        have ho := oth_final (Bool.and_eq_true_iff.1 hb).1 hlast h12 os.length (Nat.le_refl _) hj
        have hso := succs_open hb (show b < os.length by omega) hbk.2
        refine step b (by omega) (forkTo os b) (by rw [hso.1]; simp) ?_
        unfold forkTo
        rw [ho, if_pos (by omega)]
      · refine step j (by omega) ((j : Int) + 1) ?_ rfl
        cases hop : opensB (opAt os j) with
        | true => rw [(succs_open hb hj hop).1]; simp
        | false =>
          by_cases h14 : opAt os j = 14
          · obtain ⟨b, hlast⟩ := bal_top hb hj (.inr h14)
            rw [succs_end h14 hlast]
            split <;> simp
          · rw [succs_other hop h12 h14]; simp
theorem reached_at {g : List (List Int)} {src v : Nat} (h : Reached g src v) (hv : v < (reachB g src (-1)).length) : (reachB g src (-1))[v] = true := by
  unfold Reached at h
  rw [List.getD, List.getElem?_eq_getElem hv] at h
  exact h
/-- what the search from the first node hands back: all nodes, of a valid program; none, of another one. -/
theorem whole_reach (xs : List Cd) : (graphReach (gOf xs) 0 (-1)).length = (gOf xs).length ∧ ∀ k (h : k < (graphReach (gOf xs) 0 (-1)).length), (graphReach (gOf xs) 0 (-1))[k] = true := by
  cases hv : progValid xs with
  | false =>
    rw [gOf_no hv]
    have : graphReach [] 0 (-1) = [] := by decide
    rw [this]
    exact ⟨rfl, fun k h => absurd h (by simp)⟩
  | true =>
    rw [gOf_yes hv]
    have hb := (progValid_yes hv).2.2
    have hl : (ops xs).length ≤ 40 := by rw [ops_len]; exact (progValid_yes hv).1
    have hgv := graph_valid hb hl
    have hlen := graphOf_len (ops xs)
    have hro : reachOk (graphOf (ops xs)) 0 (-1) = true := by
      unfold reachOk
      rw [hgv]
      unfold inB
      simp; omega
    have he : graphReach (graphOf (ops xs)) 0 (-1) = reachB (graphOf (ops xs)) 0 (-1) := by unfold graphReach; rw [if_pos hro]
    rw [he]
    have hrl := reachB_len hgv (src := 0) (by rw [hlen]; omega)
    exact ⟨hrl, fun k h => reached_at (reach_all hb hl k (by rw [show (reachB (graphOf (ops xs)) 0 (-1)).length = (graphOf (ops xs)).length from hrl, hlen] at h; omega)) h⟩
theorem end_reach {xs : List Cd} (hv : progValid xs = true) {s : Nat} (hs : s < xs.length) : (graphReach (gOf xs) s (-1)).length = xs.length + 1 ∧ ∀ h : xs.length < (graphReach (gOf xs) s (-1)).length, (graphReach (gOf xs) s (-1))[xs.length] = true := by
  rw [gOf_yes hv]
  have hb := (progValid_yes hv).2.2
  have hn := ops_len xs
  have hl : (ops xs).length ≤ 40 := by rw [ops_len]; exact (progValid_yes hv).1
  have hgv := graph_valid hb hl
  have hlen := graphOf_len (ops xs)
  have hro : reachOk (graphOf (ops xs)) s (-1) = true := by
    unfold reachOk
    rw [hgv]
    unfold inB
    simp; omega
  have he : graphReach (graphOf (ops xs)) s (-1) = reachB (graphOf (ops xs)) s (-1) := by unfold graphReach; rw [if_pos hro]
  rw [he]
  have hrl := reachB_len hgv (src := s) (by rw [hlen]; omega)
  refine ⟨by rw [hrl, hlen, hn], fun h => reached_at ?_ h⟩
  have := reach_end hb hl (s := s) (by omega)
  rwa [hn] at this
end Go.Proofs.Ytabpcbikbhbcaaa
