/-
  Parts of a proof: CGraphOf2.
-/
import Derived.Test.YtjmiilneennjaaaPart31
namespace Go.Proofs.Ytjmiilneennjaaa
open Go.RowKit
set_option maxHeartbeats 4000000
set_option maxRecDepth 100000
set_option linter.unusedVariables false

theorem succs_open {os : List Int} (h : balB os = true) {k : Nat} (hk : k < os.length) (ho : opensB (opAt os k) = true) : succs os k = [(k : Int) + 1, forkTo os k] ∧ (forkTo os k != (k : Int) + 1) = true ∧ forkTo os k ≤ os.length := by
  have h1 := bal_end h ho hk
  have h2 := oth_bound os k os.length
  have h3 : (k : Int) + 1 < forkTo os k ∧ forkTo os k ≤ os.length := by unfold forkTo; split <;> omega
  have h4 := opens_not ho
  unfold succs
  rw [if_neg (by simpa using h4.2), if_pos ho, if_neg (by omega)]
  exact ⟨rfl, by rw [bne_iff_ne]; omega, h3.2⟩
theorem succs_else {os : List Int} {k b : Nat} (hop : opAt os k = 12) (hl : (stk os k).getLast? = some b) : succs os k = [endOf os b os.length + 1] := by
  unfold succs
  rw [if_pos hop, topOf_some hl]; rfl
theorem succs_end {os : List Int} {k b : Nat} (hop : opAt os k = 14) (hl : (stk os k).getLast? = some b) : succs os k = if opAt os b = 13 then [(b : Int) + 1, (k : Int) + 1] else [(k : Int) + 1] := by
  unfold succs
  rw [if_neg (by rw [hop]; decide), if_neg (by rw [hop]; decide), if_pos hop, topOf_some hl]; rfl
theorem succs_other {os : List Int} {k : Nat} (ho : opensB (opAt os k) = false) (h12 : opAt os k ≠ 12) (h14 : opAt os k ≠ 14) : succs os k = [(k : Int) + 1] := by
  unfold succs
  rw [if_neg h12, if_neg (by rw [ho]; decide), if_neg h14]
theorem succs_len (os : List Int) (k : Nat) : (succs os k).length ≤ 2 := by
  unfold succs
  repeat' split
  all_goals simp
theorem graph_snoc (os : List Int) (k : Nat) (qs : List Row) (r : Row) (h : graph qs = (List.range k).map (succs os)) (hr : r.zs = succs os k) : graph (qs ++ [r]) = (List.range (k + 1)).map (succs os) := by
  rw [List.range_succ, List.map_append, ← h, List.map_cons, List.map_nil, ← hr, graph, List.map_append]; rfl
/-- two rows that lie in blocks of their own share none. -/
def Apart (r s : Row) : Prop := ∀ g h, (rowV r).ownBlock = some g → (rowV s).ownBlock = some h → g ≠ h
theorem pw_snoc {w2 w' : World} {lo : Nat} {qs : List Row} {r : Row} (h : qs.Pairwise Apart) (h1 : ∀ s ∈ qs, w2.ownsRow lo 3 1 (rowV s) s.zs.length (ints s.zs)) (h2 : w'.ownsRow w2.heap.size 3 1 (rowV r) r.zs.length (ints r.zs)) : (qs ++ [r]).Pairwise Apart := by
  rw [List.pairwise_append]
  refine ⟨h, List.pairwise_singleton _ _, fun s hs t ht g k hg hk => ?_⟩
  rw [List.mem_singleton] at ht
  subst ht
  have h3 := ((h1 s hs).lt g hg).2
  have h4 := (h2.lt k hk).1
  omega
/-- the call hands back rows that lie apart, all in memory of its own. -/
def RetGridO (g : List (List Int)) (w : World) (e : Ending) (w' : World) : Prop :=
  ∃ g0 c qs, e = .returned (.slice (some ⟨g0, 0, none⟩) g.length c) ∧ graph qs = g ∧ w'.ownsRow w.heap.size 23 1 (.slice (some ⟨g0, 0, none⟩) g.length c) g.length (rowVs qs) ∧ (∀ r ∈ qs, w'.ownsRow w.heap.size 3 1 (rowV r) r.zs.length (ints r.zs)) ∧ qs.Pairwise Apart ∧ Below w.heap.size w w'
theorem gOf_rows {xs : List Cd} (hv : progValid xs = true) : ∀ z ∈ gOf xs, z.length ≤ 2 := by
  intro z hz
  rw [gOf_yes hv] at hz
  unfold graphOf at hz
  rcases List.mem_append.1 hz with h | h
  · obtain ⟨a, _, rfl⟩ := List.mem_map.1 h
    exact succs_len _ _
  · rw [List.mem_singleton] at h; subst h; simp
end Go.Proofs.Ytjmiilneennjaaa
