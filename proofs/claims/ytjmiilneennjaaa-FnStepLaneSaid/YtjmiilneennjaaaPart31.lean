/-
  Parts of a proof: CRows, CHas, CGraph, PlainReach, CReach, CReach2, CReach3, CMarks, CBack, CBack2, CBack3, CGraphOf.
-/
import Derived.Test.YtjmiilneennjaaaPart03
import Derived.Test.YtjmiilneennjaaaPart01
import Derived.ArgAppend
import Derived.Deep.LoopGhost
import Derived.Deep.AppendLies
import Derived.Test.YtjmiilneennjaaaPart06
namespace Go.Proofs.Ytjmiilneennjaaa
open Go.RowKit
set_option maxHeartbeats 1000000
set_option linter.unusedVariables false

structure Row where
  a : Option Addr
  c : Nat
  zs : List Int
abbrev rowV (r : Row) : Value := .slice r.a r.zs.length r.c
abbrev rowVs (rs : List Row) : List Value := rs.map rowV
/-- the rows lie in w. -/
def Grid (w : World) (A : Option Addr) (rs : List Row) : Prop :=
  Sl w A (rowVs rs) ∧ ∀ r ∈ rs, Sl w r.a (ints r.zs) ∧ r.zs.length ≤ r.c ∧ r.zs.length ≤ 9223372036854775807
abbrev graph (rs : List Row) : List (List Int) := rs.map Row.zs
theorem Grid.below {w w' : World} {A : Option Addr} {rs : List Row} (h : Grid w A rs) (hb : Below w.heap.size w w') : Grid w' A rs :=
  ⟨h.1.below hb, fun r hr => ⟨(h.2 r hr).1.below hb, (h.2 r hr).2⟩⟩
theorem Grid.drewN {w : World} {A : Option Addr} {rs : List Row} (h : Grid w A rs) (n : Nat) : Grid (w.drewN n) A rs := h
theorem Grid.at_ {w : World} {A : Option Addr} {rs : List Row} (h : Grid w A rs) {k : Nat} (hk : k < rs.length) :
    ∃ b off, A = some ⟨b, off, none⟩ ∧ w.cell? ⟨b, off + k, none⟩ = some (.slice rs[k].a rs[k].zs.length rs[k].c) ∧ Sl w rs[k].a (ints rs[k].zs) ∧ rs[k].zs.length ≤ rs[k].c ∧ rs[k].zs.length ≤ 9223372036854775807 := by
  obtain ⟨b, off, rfl, hc⟩ := h.1.at_ (k := k) (by simpa using hk)
  exact ⟨b, off, rfl, hc k _ (by rw [List.getElem?_map, List.getElem?_eq_getElem hk]; rfl), h.2 _ (List.getElem_mem hk)⟩
/-- the rows are the call's own: each in a block of its own, in ascending order, from lo on. -/
def RowsOwn (w : World) (lo : Nat) (rs : List Row) : Prop :=
  (∀ r ∈ rs, w.ownsRow lo 3 1 (rowV r) r.zs.length (ints r.zs)) ∧ rs.Pairwise (fun r s => ∀ g h, (rowV r).ownBlock = some g → (rowV s).ownBlock = some h → g < h)
theorem RowsOwn.nil (w : World) (lo : Nat) : RowsOwn w lo [] := ⟨fun r hr => absurd hr (by simp), List.Pairwise.nil⟩
theorem RowsOwn.rows {w : World} {lo : Nat} {rs : List Row} (h : RowsOwn w lo rs) {A : Option Addr} (hA : Sl w A (rowVs rs)) (hl : ∀ r ∈ rs, r.zs.length ≤ 9223372036854775807) : Grid w A rs :=
  ⟨hA, fun r hr => ⟨Sl.of_own (h.1 r hr), own_cap (h.1 r hr), hl r hr⟩⟩
theorem RowsOwn.below {w w' : World} {lo : Nat} {rs : List Row} (h : RowsOwn w lo rs) (hb : Below w.heap.size w w') : RowsOwn w' lo rs :=
  ⟨fun r hr => own_below (h.1 r hr) hb, h.2⟩
theorem RowsOwn.apart {w w' : World} {lo : Nat} {rs : List Row} {row : Option Nat} (h : RowsOwn w lo rs) (hg : w.grownBy w' row) (hr : ∀ g, row = some g → g < lo) : RowsOwn w' lo rs :=
  ⟨fun r hr' => own_apart (h.1 r hr') hg hr, h.2⟩
/-- one more row, younger than all others. -/
theorem RowsOwn.snoc {w w' : World} {lo : Nat} {rs : List Row} (h : RowsOwn w lo rs) (hb : Below w.heap.size w w') (hlo : lo ≤ w.heap.size) (r : Row) (hr : w'.ownsRow w.heap.size 3 1 (rowV r) r.zs.length (ints r.zs)) : RowsOwn w' lo (rs ++ [r]) := by
  refine ⟨fun s hs => ?_, ?_⟩
  · rcases List.mem_append.1 hs with h1 | h1
    · exact own_below (h.1 s h1) hb
    · rw [List.mem_singleton] at h1
      subst h1
      exact own_base hr hlo
  · rw [List.pairwise_append]
    refine ⟨h.2, List.pairwise_singleton _ _, fun s hs t ht g k hg hk => ?_⟩
    rw [List.mem_singleton] at ht
    subst ht
    have h1 := ((h.1 s hs).lt g hg).2
    have h2 := (hr.lt k hk).1
    omega
theorem Er : ElemI Try.prog 59 23 (.slice none 0 0) 1 24 := ⟨Try.underlying59, by kernel_rfl, rfl, by omega⟩
/-- the call hands back a slice of slices of ints in memory of its own. -/
def RetRows (g : List (List Int)) (w : World) (e : Ending) (w' : World) : Prop :=
  ∃ A c rs, e = .returned (.slice A g.length c) ∧ graph rs = g ∧ w'.ownsRow w.heap.size 23 1 (.slice A g.length c) g.length (rowVs rs) ∧ (∀ b, (Value.slice A g.length c).ownBlock = some b → RowsOwn w' (b + 1) rs) ∧ (A = none → rs = []) ∧ Below w.heap.size w w'
theorem graph_length {rs : List Row} {g : List (List Int)} (h : graph rs = g) : rs.length = g.length := by rw [← h]; simp
theorem RetRows.grid {g : List (List Int)} {w w' : World} {A : Option Addr} {c : Nat} {rs : List Row} (h1 : graph rs = g) (h2 : w'.ownsRow w.heap.size 23 1 (.slice A g.length c) g.length (rowVs rs)) (h3 : ∀ b, (Value.slice A g.length c).ownBlock = some b → RowsOwn w' (b + 1) rs) (h4 : A = none → rs = []) (hl : ∀ z ∈ g, z.length ≤ 9223372036854775807) : Grid w' A rs := by
  have hl' : ∀ r ∈ rs, r.zs.length ≤ 9223372036854775807 := fun r hr => hl _ (by rw [← h1]; exact List.mem_map_of_mem hr)
  cases A with
  | none => rw [h4 rfl]; exact ⟨Sl.nil _ _, fun r hr => absurd hr (by simp)⟩
  | some a => exact (h3 a.block rfl).rows (Sl.of_own h2) hl'

theorem szIntS_any (A : Option Addr) (n c : Nat) (l : Int) (w : World) (hl : 0 ≤ l ∧ l ≤ 1048576) (hn : n ≤ 9223372036854775807) :
    Calls Try.prog 38 #[.slice A n c, .int .i64 l] w (LeftOver n l w) := by
  by_cases h : (n : Int) ≤ l
  · go_enter Try.func38, Try.ntmps38
    go_wp2
    go_ret
    exact ⟨.inl ⟨h, rfl⟩, rfl⟩
  · go_enter Try.func38, Try.ntmps38
    go_wp2
    go_ret
    exact ⟨.inr ⟨by omega, rfl⟩, rfl⟩
def nilRow : Row := ⟨none, 0, []⟩
theorem rows_nils (n : Nat) : (madeCells (Value.slice none 0 0).cells (n * 1)).toList = rowVs (List.replicate n nilRow) := by
  apply List.ext_getElem?
  intro i
  by_cases h : i < n
  · simp [madeCells, h, Value.cells, rowVs, rowV, nilRow, Nat.mod_one]
  · rw [List.getElem?_eq_none (by simp [madeCells]; omega), List.getElem?_eq_none (by simp; omega)]
end Go.Proofs.Ytjmiilneennjaaa

namespace Go.Proofs.Ytjmiilneennjaaa
open Go.RowKit
set_option maxHeartbeats 1000000
set_option linter.unusedVariables false

def hasH (ys : List Int) (z : Int) : Bool := ys.any fun y => y == z
end Go.Proofs.Ytjmiilneennjaaa

namespace Go.Proofs.Ytjmiilneennjaaa
open Go.RowKit
set_option maxHeartbeats 1000000
set_option linter.unusedVariables false

def nodeOk (n : Nat) (row : List Int) (i : Nat) : Bool := inB (row.getD i 0) 0 ((n : Int) - 1) && !hasH (row.take i) (row.getD i 0)
def rowUpto (n : Nat) (row : List Int) (k : Nat) : Bool := (List.range k).all fun i => nodeOk n row i
def rowOk (n : Nat) (row : List Int) : Bool := rowUpto n row row.length
def rowsUpto (g : List (List Int)) (k : Nat) : Bool := (List.range k).all fun i => rowOk g.length (g.getD i [])
def graphValid (g : List (List Int)) : Bool := rowsUpto g g.length && decide (g.length ≤ 64)
theorem rowUpto_succ (n : Nat) (row : List Int) (k : Nat) : rowUpto n row (k + 1) = (rowUpto n row k && nodeOk n row k) := by simp [rowUpto, List.range_succ, List.all_append]
theorem rowsUpto_succ (g : List (List Int)) (k : Nat) : rowsUpto g (k + 1) = (rowsUpto g k && rowOk g.length (g.getD k [])) := by simp [rowsUpto, List.range_succ, List.all_append]
theorem rowUpto_fail {n : Nat} {row : List Int} {k : Nat} (hk : k < row.length) (h : nodeOk n row k = false) : rowOk n row = false := by
  unfold rowOk rowUpto
  rw [List.all_eq_false]
  exact ⟨k, List.mem_range.2 hk, by simp [h]⟩
theorem graph_fail {g : List (List Int)} {k : Nat} (hk : k < g.length) (h : rowOk g.length (g.getD k []) = false) : graphValid g = false := by
  have : rowsUpto g g.length = false := by
    unfold rowsUpto
    rw [List.all_eq_false]
    exact ⟨k, List.mem_range.2 hk, by rw [h]; simp⟩
  simp [graphValid, this]
theorem graph_at {rs : List Row} {k : Nat} (hk : k < rs.length) : (graph rs).getD k [] = rs[k].zs := by simp [List.getD, hk]

end Go.Proofs.Ytjmiilneennjaaa

namespace Go.Proofs.Ytjmiilneennjaaa
set_option maxHeartbeats 1000000
set_option linter.unusedVariables false

/-- which nodes are marked, and the nodes in the order in which they were. -/
abbrev St := List Bool × List Int
def step1 (wo : Int) (st : St) (to : Int) : St := if (!(st.1.getD to.toNat true) && (to != wo)) = true then (st.1.set to.toNat true, st.2 ++ [to]) else st
def rowStep (wo : Int) (st : St) (row : List Int) : St := row.foldl (step1 wo) st
def bfs (g : List (List Int)) (wo : Int) (st0 : St) : Nat → St
  | 0 => st0
  | k + 1 => match (bfs g wo st0 k).2[k]? with
    | none => bfs g wo st0 k
    | some v => rowStep wo (bfs g wo st0 k) (g.getD v.toNat [])
def startSt (n : Nat) (src wo : Int) : St := if src = wo then (List.replicate n false, []) else ((List.replicate n false).set src.toNat true, [src])
def reachB (g : List (List Int)) (src wo : Int) : List Bool := (bfs g wo (startSt g.length src wo) g.length).1
/-- what holds of every state. -/
def OkSt (n : Nat) (st : St) : Prop := st.1.length = n ∧ (∀ v ∈ st.2, 0 ≤ v ∧ v < n) ∧ st.2.length = st.1.count true
theorem OkSt.le {n : Nat} {st : St} (h : OkSt n st) : st.2.length ≤ n := by
  obtain ⟨h1, _, h3⟩ := h
  rw [h3, ← h1]; exact List.count_le_length
theorem OkSt.step {n : Nat} {st : St} (h : OkSt n st) (wo to : Int) (ht : 0 ≤ to ∧ to < n) : OkSt n (step1 wo st to) := by
  obtain ⟨h1, h2, h3⟩ := h
  unfold step1
  split
  · rename_i hc
    rw [Bool.and_eq_true] at hc
    have hlt : to.toNat < st.1.length := by omega
    have hf : st.1[to.toNat] = false := by
      have := hc.1
      simp only [List.getD, List.getElem?_eq_getElem hlt, Option.getD_some] at this
      simpa using this
    refine ⟨by simp [h1], fun v hv => ?_, ?_⟩
    · rcases List.mem_append.1 hv with h | h
      · exact h2 v h
      · rw [List.mem_singleton] at h; subst h; exact ht
    · rw [List.length_append, h3, List.count_set hlt, hf]
      simp
  · exact ⟨h1, h2, h3⟩
theorem OkSt.row {n : Nat} (wo : Int) (row : List Int) : ∀ {st : St}, OkSt n st → (∀ v ∈ row, 0 ≤ v ∧ v < n) → OkSt n (rowStep wo st row) := by
  induction row with
  | nil => exact fun h _ => h
  | cons v row ih => exact fun h hr => ih (h.step wo v (hr v (List.mem_cons_self ..))) (fun x hx => hr x (List.mem_cons_of_mem _ hx))
theorem OkSt.start (n : Nat) (src wo : Int) (hs : 0 ≤ src ∧ src < n) : OkSt n (startSt n src wo) := by
  unfold startSt
  split
  · exact ⟨by simp, by simp, by simp [List.count_replicate]⟩
  · refine ⟨by simp, fun v hv => ?_, ?_⟩
    · rw [List.mem_singleton] at hv; subst hv; exact hs
    · rw [List.count_set (by simp; omega)]
      simp [List.count_replicate]
theorem rowStep_take (wo : Int) (st : St) (row : List Int) (j : Nat) (h : j < row.length) : rowStep wo st (row.take (j + 1)) = step1 wo (rowStep wo st (row.take j)) row[j] := by
  unfold rowStep
  rw [List.take_succ_eq_append_getElem h, List.foldl_append]; rfl
/-- what is once in the list stays at its place. -/
theorem step1_pre (wo : Int) (st : St) (to : Int) : ∃ l, (step1 wo st to).2 = st.2 ++ l := by
  unfold step1
  split
  · exact ⟨[to], rfl⟩
  · exact ⟨[], by simp⟩
theorem rowStep_pre (wo : Int) (row : List Int) : ∀ (st : St), ∃ l, (rowStep wo st row).2 = st.2 ++ l := by
  induction row with
  | nil => exact fun st => ⟨[], by simp [rowStep]⟩
  | cons v row ih =>
    intro st
    obtain ⟨l1, h1⟩ := step1_pre wo st v
    obtain ⟨l2, h2⟩ := ih (step1 wo st v)
    exact ⟨l1 ++ l2, by show (rowStep wo (step1 wo st v) row).2 = _; rw [h2, h1, List.append_assoc]⟩
theorem bfs_some {g : List (List Int)} {wo : Int} {st0 : St} {k : Nat} (h : k < (bfs g wo st0 k).2.length) : bfs g wo st0 (k + 1) = rowStep wo (bfs g wo st0 k) (g.getD ((bfs g wo st0 k).2[k]).toNat []) := by
  rw [bfs, List.getElem?_eq_getElem h]
theorem bfs_done {g : List (List Int)} {wo : Int} {st0 : St} {k : Nat} (h : k = (bfs g wo st0 k).2.length) : ∀ m, k ≤ m → bfs g wo st0 m = bfs g wo st0 k := by
  intro m hm
  induction m with
  | zero => have : k = 0 := by omega
            rw [this]
  | succ m ih =>
    by_cases e : k = m + 1
    · rw [e]
    · have h1 := ih (by omega)
      rw [bfs, h1, List.getElem?_eq_none (by omega)]
theorem reach_done {g : List (List Int)} {src wo : Int} {k : Nat} (hk : k = (bfs g wo (startSt g.length src wo) k).2.length) (hn : k ≤ g.length) : (bfs g wo (startSt g.length src wo) k).1 = reachB g src wo := by
  unfold reachB
  rw [bfs_done hk g.length hn]
/-- of a valid graph: every successor is a node. -/
theorem graph_nodes {g : List (List Int)} (h : graphValid g = true) : g.length ≤ 64 ∧ ∀ i, (hi : i < g.length) → ∀ v ∈ g[i], 0 ≤ v ∧ v < g.length := by
  unfold graphValid at h
  rw [Bool.and_eq_true] at h
  refine ⟨of_decide_eq_true h.2, fun i hi v hv => ?_⟩
  have h1 := List.all_eq_true.1 h.1 i (List.mem_range.2 hi)
  simp only [List.getD, List.getElem?_eq_getElem hi, Option.getD_some] at h1
  obtain ⟨j, hj, rfl⟩ := List.mem_iff_getElem.1 hv
  have h2 := List.all_eq_true.1 h1 j (List.mem_range.2 hj)
  unfold nodeOk at h2
  rw [Bool.and_eq_true] at h2
  have h3 := inB_t h2.1
  simp only [List.getD, List.getElem?_eq_getElem hj, Option.getD_some] at h3
  omega
theorem bfs_ok {g : List (List Int)} {wo : Int} {st0 : St} (h : graphValid g = true) (h0 : OkSt g.length st0) : ∀ k, OkSt g.length (bfs g wo st0 k) := by
  intro k
  induction k with
  | zero => exact h0
  | succ k ih =>
    by_cases hk : k < (bfs g wo st0 k).2.length
    · rw [bfs_some hk]
      have hv := ih.2.1 _ (List.getElem_mem hk)
      refine OkSt.row wo _ ih fun v hv2 => ?_
      have hi : ((bfs g wo st0 k).2[k]).toNat < g.length := by omega
      rw [List.getD, List.getElem?_eq_getElem hi, Option.getD_some] at hv2
      exact (graph_nodes h).2 _ hi v hv2
    · rw [bfs, List.getElem?_eq_none (by omega)]
      exact ih
end Go.Proofs.Ytjmiilneennjaaa

namespace Go.Proofs.Ytjmiilneennjaaa
open Go.RowKit
set_option maxHeartbeats 2000000
set_option linter.unusedVariables false

abbrev bools (bs : List Bool) : List Value := bs.map Value.bool
theorem bools_at {bs : List Bool} {k : Nat} (h : k < bs.length) : (bools bs)[k]? = some (.bool bs[k]) := by simp [bools, h]
theorem madeBools (n : Nat) : (madeCells (Value.bool false).cells (n * 1)).toList = bools (List.replicate n false) := by
  apply List.ext_getElem?
  intro i
  by_cases h : i < n
  · simp [madeCells, h, Value.cells, bools, Nat.mod_one]
  · rw [List.getElem?_eq_none (by simp [madeCells]; omega), List.getElem?_eq_none (by simp [bools]; omega)]
def RetBools (bs : List Bool) (w : World) (e : Ending) (w' : World) : Prop :=
  ∃ A c, e = .returned (.slice A bs.length c) ∧ w'.ownsRow w.heap.size 4 1 (.slice A bs.length c) bs.length (bools bs) ∧ Below w.heap.size w w'

/-! ### a queue: what is left of a row whose head has been cut off -/
def QOwn (w : World) (base gs : Nat) (A : Option Addr) (c : Nat) (xs : List Int) : Prop :=
  ∃ g off cur, A = some ⟨g, off, none⟩ ∧ base ≤ g ∧ g ≠ gs ∧ w.heap[g]? = some (.cells cur 3 (0, 0)) ∧ cur.size = off + c ∧ xs.length ≤ c ∧ c ≤ 9223372036854775807 ∧ ∀ j (h : j < xs.length), cur[off + j]? = some (.int .i64 xs[j])
theorem QOwn.of_own {w : World} {base gs c : Nat} {A : Option Addr} {n : Nat} {xs : List Int} (h : w.ownsRow base 3 1 (.slice A n c) n (ints xs)) (hn : xs.length = n) (h0 : 0 < n) (hg : ∀ g, (Value.slice A n c).ownBlock = some g → g ≠ gs) : QOwn w base gs A c xs := by
  have hl := h.1
  rcases h.2 with ⟨hv, hz⟩ | ⟨g, cap, cur, hv, hb, hgc, hnc, hm, hs, ht⟩
  · omega
  · injection hv with h1 h2 h3
    subst h1 h3
    refine ⟨g, 0, cur, rfl, hb, hg g rfl, hgc, by omega, by omega, by unfold maxLen at hm; omega, fun j hj => ?_⟩
    have h4 : (cur.toList.take (n * 1))[j]? = (ints xs)[j]? := by rw [ht]
    rw [List.getElem?_take, if_pos (by omega), ints_at hj] at h4
    simpa using h4
theorem QOwn.cell {w : World} {base gs : Nat} {A : Option Addr} {c : Nat} {xs : List Int} (h : QOwn w base gs A c xs) {j : Nat} (hj : j < xs.length) : ∃ g off, A = some ⟨g, off, none⟩ ∧ w.cell? ⟨g, off + j, none⟩ = some (.int .i64 xs[j]) := by
  obtain ⟨g, off, cur, rfl, _, _, hc, _, _, _, hx⟩ := h
  exact ⟨g, off, rfl, by rw [cell_of_row _ _ _ _ _ _ hc]; exact hx j hj⟩
theorem QOwn.tail {w : World} {base gs g off : Nat} {c : Nat} {x : Int} {xs : List Int} (h : QOwn w base gs (some ⟨g, off, none⟩) c (x :: xs)) (hc : 0 < xs.length) : QOwn w base gs (some ⟨g, off + 1, none⟩) (c - 1) xs := by
  obtain ⟨g', off', cur, hA, hb, hg, hgc, hs, hl, hm, hx⟩ := h
  injection hA with hA
  injection hA with h1 h2
  subst h1 h2
  simp only [List.length_cons] at hl hx
  refine ⟨g, off + 1, cur, rfl, hb, hg, hgc, by omega, by omega, by omega, fun j hj => ?_⟩
  have := hx (j + 1) (by omega)
  simpa [Nat.add_assoc, Nat.add_comm 1 j] using this
theorem QOwn.grown {w w' : World} {base gs : Nat} {A : Option Addr} {c : Nat} {xs : List Int} {row : Option Nat} (h : QOwn w base gs A c xs) (hg : w.grownBy w' row) (hr : ∀ g, row = some g → g = gs) : QOwn w' base gs A c xs := by
  obtain ⟨g, off, cur, hA, hb, hne, hgc, h'⟩ := h
  exact ⟨g, off, cur, hA, hb, hne, (hg.block g (Array.getElem?_eq_some_iff.1 hgc).1 (fun e => hne (hr g e.symm))).trans hgc, h'⟩
/-- append of one number onto a queue that is not empty. -/
theorem queue_app {w : World} {ops : Array Oper} {rest : List Oper} {o : Oper} {a : Act} {Q : Exit → Act → World → Prop} {base gs : Nat} {A : Option Addr} {c : Nat} {xs : List Int} {y : Int} {ad : Addr}
    (hq : QOwn w base gs A c xs) (hxl : xs.length ≤ 1000000) (hb : base ≤ w.heap.size) (hgs : gs < w.heap.size) (hy : w.cell? ad = some (.int .i64 y)) (had : ad.add 0 = ad)
    {s x : Operand} (hgd : o.guard = none) (ho : o.op = .call { callee := .builtin .append, args := #[s, x], argTypes := #[23, 23] }) (hs : a.eval s = .slice A xs.length c) (hx : a.eval x = .slice (some ad) 1 1)
    (h : ∀ A' c' w', QOwn w' base gs A' c' (xs ++ [y]) → (∀ g, g = gs ∨ g < base → g < w.heap.size → w'.heap[g]? = w.heap[g]?) → w.heap.size ≤ w'.heap.size → Below base w w' → wpList Try.prog ops Q rest (a.put o.dst (.slice A' (xs.length + 1) c')) w') : wpList Try.prog ops Q (o :: rest) a w := by
  obtain ⟨i, hi, hz0, hz1, hz2⟩ := info_parts Ei.hi
  have hq' := hq
  obtain ⟨g, off, cur, rfl, hbg, hne, hgc, hcs, hxc, hcm, hcur⟩ := hq
  have hgl := (Array.getElem?_eq_some_iff.1 hgc).1
  refine wpList_append_arg w hgd s x 23 ho 3 i _ 1 8 Ei.ht hi hz0 hz1 hz2 rfl (by omega) g off xs.length c (ints xs) hs (by simp) (fun j u hu => ?_) ad 1 1 [.int .i64 y] hx rfl (fun j u hu => ?_) (by simp [Value.oneCell']) (fun hroom j hj => ?_) (by unfold maxLen; omega) (by omega) (fun hroom => ?_) (fun hgrow v' w' hown hg => ?_)
  · have hj : j < xs.length := by
      have := (List.getElem?_eq_some_iff.1 hu).1
      simpa using this
    rw [cell_of_row _ _ _ _ _ _ hgc, hcur j hj, ← hu, ints_at hj]
  · cases j with
    | zero =>
      rw [had, hy]
      simpa using hu
    | succ j => simp at hu
  · have hj0 : j = 0 := by simpa using hj
    subst hj0
    refine ⟨?_, frozen_of_row w g _ _ _ hgc⟩
    rw [cell_of_row _ _ _ _ _ _ hgc]
    rw [Array.getElem?_eq_getElem (by omega)]; rfl
  · have hst : (w.setCells g (off + xs.length * 1) [.int .i64 y]) = w.setCell ⟨g, off + xs.length, none⟩ (.int .i64 y) := by rw [Nat.mul_one]; rfl
    rw [hst]
    refine h (some ⟨g, off, none⟩) c _ ⟨g, off, cur.setIfInBounds (off + xs.length) (.int .i64 y), rfl, hbg, hne, heap_setCell_same w g _ _ _ _ hgc, by simpa using hcs, by simp; omega, hcm, fun j hj => ?_⟩ ?_ ?_ ?_
    · simp only [List.length_append, List.length_cons, List.length_nil] at hj
      rw [Array.getElem?_setIfInBounds]
      by_cases e : j = xs.length
      · subst e
        rw [if_pos rfl, if_pos (by omega)]
        simp
      · rw [if_neg (by omega), hcur j (by omega)]
        rw [List.getElem_append_left (by omega)]
    · intro k hk hkl
      exact (grown_setCell w g (off + xs.length) (.int .i64 y)).block k hkl (fun e => by injection e with e; omega)
    · exact (grown_setCell w g (off + xs.length) (.int .i64 y)).size
    · exact ⟨rfl, rfl, rfl, (grown_setCell w g (off + xs.length) (.int .i64 y)).size, fun k hk => (grown_setCell w g (off + xs.length) (.int .i64 y)).block k (by omega) (fun e => by injection e with e; omega)⟩
  · obtain ⟨A', c', rfl⟩ := own_form hown
    have hblk : ∀ k, (Value.slice A' (xs.length + 1) c').ownBlock = some k → k ≠ gs := fun k hk e => by have := (hown.lt k hk).1; omega
    refine h A' c' w' (QOwn.of_own (own_base (by simpa [ints] using hown) hb) (by simp) (by omega) hblk) (fun k hk hkl => hg.block k hkl (by simp)) hg.size ⟨hg.os, hg.tape, hg.output, hg.size, fun k hk => hg.block k (by omega) (by simp)⟩
end Go.Proofs.Ytjmiilneennjaaa

namespace Go.Proofs.Ytjmiilneennjaaa
open Go.RowKit
set_option maxHeartbeats 2000000
set_option linter.unusedVariables false

theorem own_block {w w' : World} {base : Nat} {e : TypeId} {size g n c : Nat} {xs : List Value} (h : w.ownsRow base e size (.slice (some ⟨g, 0, none⟩) n c) n xs) (hb : w'.heap[g]? = w.heap[g]?) : w'.ownsRow base e size (.slice (some ⟨g, 0, none⟩) n c) n xs := by
  refine ⟨h.1, ?_⟩
  rcases h.2 with ⟨hv, _⟩ | ⟨g', cap, cur, hv, h1, h2, h3⟩
  · cases hv
  · right
    have : g' = g := by injection hv with hv; injection hv with hv; injection hv with hv; exact hv.symm
    subst this
    exact ⟨g', cap, cur, hv, h1, hb.trans h2, h3⟩
theorem bools_set (bs : List Bool) (t : Nat) : (bools bs).set t (.bool true) = bools (bs.set t true) := by rw [bools, bools, List.map_set]
theorem own_bools {w : World} {base g n c : Nat} {bs : List Bool} (h : w.ownsRow base 4 1 (.slice (some ⟨g, 0, none⟩) n c) n (bools bs)) {t : Nat} (ht : t < bs.length) :
    w.cell? ⟨g, t, none⟩ = some (.bool bs[t]) ∧ w.frozen? ⟨g, t, none⟩ = false ∧ (w.setCell ⟨g, t, none⟩ (.bool true)).ownsRow base 4 1 (.slice (some ⟨g, 0, none⟩) n c) n (bools (bs.set t true)) := by
  obtain ⟨g', hg, _, _, hc, hf, hst⟩ := own_open h (i := t) (by simpa using ht)
  injection hg with hg
  injection hg with hg
  subst hg
  refine ⟨by rw [hc]; simp, hf, ?_⟩
  have := hst (.bool true)
  rwa [bools_set] at this
end Go.Proofs.Ytjmiilneennjaaa

namespace Go.Proofs.Ytjmiilneennjaaa
open Go.RowKit
set_option maxHeartbeats 2000000
set_option linter.unusedVariables false

def reachOk (g : List (List Int)) (src wo : Int) : Bool := graphValid g && inB src 0 ((g.length : Int) - 1) && inB wo (-1) ((g.length : Int) - 1)
def graphReach (g : List (List Int)) (src wo : Int) : List Bool := if reachOk g src wo then reachB g src wo else []
theorem reachB_length {g : List (List Int)} {src wo : Int} (h : graphValid g = true) (hs : 0 ≤ src ∧ src < g.length) : (reachB g src wo).length = g.length := (bfs_ok (wo := wo) h (OkSt.start g.length src wo hs) g.length).1
theorem wo_split (wo : Int) (n : Nat) : inB wo (-1) ((n : Int) - 1) = (wo == -1 || inB wo 0 ((n : Int) - 1)) := by
  by_cases h : wo = -1
  · subst h; simp [inB]; omega
  · have : (wo == -1) = false := by simpa using h
    rw [this, Bool.false_or]
    unfold inB
    congr 1
    exact decide_eq_decide.2 (by omega)
theorem own_types {w : World} {b1 b2 s1 s2 g n c m d : Nat} {e1 e2 : TypeId} {xs ys : List Value} (h : w.ownsRow b1 e1 s1 (.slice (some ⟨g, 0, none⟩) n c) n xs) (k : w.ownsRow b2 e2 s2 (.slice (some ⟨g, 0, none⟩) m d) m ys) : e1 = e2 := by
  rcases h.2 with ⟨hv, _⟩ | ⟨g1, c1, cur1, hv1, _, hg1, _⟩
  · cases hv
  · rcases k.2 with ⟨hv, _⟩ | ⟨g2, c2, cur2, hv2, _, hg2, _⟩
    · cases hv
    · have e1 : g = g1 := by injection hv1 with hv; injection hv with hv; injection hv
      have e2 : g = g2 := by injection hv2 with hv; injection hv with hv; injection hv
      rw [← e1] at hg1
      rw [← e2] at hg2
      rw [hg1] at hg2
      injection hg2 with hg2
      injection hg2
end Go.Proofs.Ytjmiilneennjaaa

namespace Go.Proofs.Ytjmiilneennjaaa
open Go.RowKit
set_option maxHeartbeats 2000000
set_option linter.unusedVariables false

def total (rs : List Row) : Nat := (rs.map fun r => r.zs.length).sum
theorem total_take (rs : List Row) (k : Nat) (h : k < rs.length) : total (rs.take (k + 1)) = total (rs.take k) + rs[k].zs.length := by
  unfold total
  rw [List.take_succ_eq_append_getElem h]
  simp only [List.map_append, List.sum_append, List.map_cons, List.map_nil, List.sum_cons, List.sum_nil, Nat.add_zero]
theorem total_le {rs : List Row} {r : Row} (h : r ∈ rs) : r.zs.length ≤ total rs := by
  unfold total
  induction rs with
  | nil => cases h
  | cons x rs ih =>
    simp only [List.map_cons, List.sum_cons]
    rcases List.mem_cons.1 h with h | h
    · subst h; omega
    · have := ih h; omega
/-! ### only these rows' blocks have turned -/
def Onl (w w' : World) (rs : List Row) : Prop :=
  w'.os = w.os ∧ w'.tape = w.tape ∧ w'.output = w.output ∧ w.heap.size ≤ w'.heap.size ∧ ∀ i, i < w.heap.size → (∀ r ∈ rs, (rowV r).ownBlock ≠ some i) → w'.heap[i]? = w.heap[i]?
theorem Onl.refl (w : World) (rs : List Row) : Onl w w rs := ⟨rfl, rfl, rfl, Nat.le_refl _, fun _ _ _ => rfl⟩
theorem Onl.step {w w1 w2 : World} {rs : List Row} {r : Row} (h : Onl w w1 rs) (hr : r ∈ rs) (hg : w1.grownBy w2 (rowV r).ownBlock) : Onl w w2 rs :=
  ⟨hg.os.trans h.1, hg.tape.trans h.2.1, hg.output.trans h.2.2.1, Nat.le_trans h.2.2.2.1 hg.size, fun i hi hn => (hg.block i (Nat.lt_of_lt_of_le hi h.2.2.2.1) (fun e => hn r hr e.symm)).trans (h.2.2.2.2 i hi hn)⟩
theorem Onl.below {w w' : World} {rs : List Row} {lo base : Nat} (h : Onl w w' rs) (hown : RowsOwn w lo rs) (hb : base ≤ lo) (hbw : base ≤ w.heap.size) : Below base w w' :=
  ⟨h.1, h.2.1, h.2.2.1, h.2.2.2.1, fun i hi => h.2.2.2.2 i (by omega) (fun r hr e => by have := ((hown.1 r hr).lt i e).1; omega)⟩
theorem cell_block {w w' : World} {b o : Nat} (h : w'.heap[b]? = w.heap[b]?) : w'.cell? ⟨b, o, none⟩ = w.cell? ⟨b, o, none⟩ := by simp [World.cell?, h]
theorem RowsOwn.block_ne {w : World} {lo : Nat} {rs : List Row} (h : RowsOwn w lo rs) {i j : Nat} (hij : i < j) (hj : j < rs.length) {g : Nat} (h1 : (rowV (rs[i]'(by omega))).ownBlock = some g) : (rowV rs[j]).ownBlock ≠ some g := fun h2 => by
  have := List.pairwise_iff_getElem.1 h.2 i j (by omega) hj hij g g h1 h2
  omega
/-! ### bools -/
def markBs (k : Int) (n : Nat) : List Bool := (List.range n).map fun i : Nat => (k + (i : Int)) % 3 == 0
theorem markBs_length (k : Int) (n : Nat) : (markBs k n).length = n := by simp [markBs]
theorem markB_step (k : Int) (bs : List Bool) (i : Nat) (h : i < bs.length) : (bools (markBs k i ++ bs.drop i)).set i (.bool ((k + (i : Int)) % 3 == 0)) = bools (markBs k (i + 1) ++ bs.drop (i + 1)) := by
  have h1 : bs.drop i = bs[i] :: bs.drop (i + 1) := List.drop_eq_getElem_cons h
  have h2 : markBs k (i + 1) = markBs k i ++ [(k + (i : Int)) % 3 == 0] := by simp [markBs, List.range_succ]
  rw [h1, h2, bools, bools, List.map_append, List.map_append, List.set_append_right _ _ (by simp [markBs_length])]
  simp only [List.map_cons, markBs_length, List.length_map, Nat.sub_self, List.set_cons_zero, List.map_append, List.append_assoc, List.map_nil, List.cons_append, List.nil_append]
end Go.Proofs.Ytjmiilneennjaaa

namespace Go.Proofs.Ytjmiilneennjaaa
open Go.RowKit
set_option maxHeartbeats 2000000
set_option linter.unusedVariables false

/-! ### predecessors -/
def rowHits (row : List Int) (a b : Int) : List Int := (row.filter fun v => v == a).map fun _ => b
def backUpto (g : List (List Int)) (a : Int) (k : Nat) : List Int := (List.range k).flatMap fun b : Nat => rowHits (g.getD b []) a b
def back (g : List (List Int)) : List (List Int) := if graphValid g then (List.range g.length).map fun a : Nat => backUpto g a g.length else []
def backCur (g : List (List Int)) (k j : Nat) (a : Int) : List Int := backUpto g a k ++ rowHits ((g.getD k []).take j) a k
theorem backCur_zero (g : List (List Int)) (k : Nat) (a : Int) : backCur g k 0 a = backUpto g a k := by simp [backCur, rowHits]
theorem backUpto_succ (g : List (List Int)) (a : Int) (k : Nat) : backUpto g a (k + 1) = backUpto g a k ++ rowHits (g.getD k []) a k := by simp [backUpto, List.range_succ]
theorem backCur_succ (g : List (List Int)) (k j : Nat) (a : Int) (h : j < (g.getD k []).length) : backCur g k (j + 1) a = backCur g k j a ++ if ((g.getD k [])[j] == a) = true then [(k : Int)] else [] := by
  unfold backCur rowHits
  rw [List.take_succ_eq_append_getElem h, List.filter_append, List.map_append, List.append_assoc]
  congr 2
  generalize (g.getD k [])[j] = x
  cases e : x == a <;> simp [e]
theorem backCur_full (g : List (List Int)) (k : Nat) (a : Int) (j : Nat) (h : (g.getD k []).length ≤ j) : backCur g k j a = backUpto g a (k + 1) := by
  unfold backCur
  rw [List.take_of_length_le h, backUpto_succ]
theorem rowHits_le (row : List Int) (a b : Int) : (rowHits row a b).length ≤ row.length := by
  unfold rowHits; rw [List.length_map]; exact List.length_filter_le _ _
theorem back_len (rs : List Row) (a : Int) (k : Nat) (hk : k ≤ rs.length) : (backUpto (graph rs) a k).length ≤ total (rs.take k) := by
  induction k with
  | zero => simp [backUpto]
  | succ k ih =>
    rw [backUpto_succ, List.length_append, total_take rs k (by omega), graph_at (show k < rs.length by omega)]
    have h1 := ih (by omega)
    have h2 := rowHits_le (rs[k]'(by omega)).zs a k
    omega
theorem total_take_le (rs : List Row) (k : Nat) : total (rs.take k) ≤ total rs := by
  unfold total
  have e : rs = rs.take k ++ rs.drop k := (List.take_append_drop _ _).symm
  have : (rs.map fun r => r.zs.length).sum = ((rs.take k).map fun r => r.zs.length).sum + ((rs.drop k).map fun r => r.zs.length).sum := by
    conv => lhs; rw [e]
    rw [List.map_append, List.sum_append]
  omega
theorem backCur_len (rs : List Row) (a : Int) (k j : Nat) (hk : k < rs.length) : (backCur (graph rs) k j a).length ≤ total rs := by
  have h1 := back_len rs a k (by omega)
  have h2 := rowHits_le (((graph rs).getD k []).take j) a k
  have h3 := total_take_le rs (k + 1)
  rw [total_take rs k hk] at h3
  rw [graph_at hk] at h2
  have h4 : ((rs[k]).zs.take j).length ≤ rs[k].zs.length := List.length_take_le' _ _
  unfold backCur
  rw [List.length_append, graph_at hk]
  omega
/-! ### rows in blocks of their own -/
def RowsApart (w : World) (lo : Nat) (rs : List Row) : Prop :=
  (∀ r ∈ rs, w.ownsRow lo 3 1 (rowV r) r.zs.length (ints r.zs)) ∧ ∀ i j (hi : i < rs.length) (hj : j < rs.length), i ≠ j → ∀ g, (rowV rs[i]).ownBlock = some g → (rowV rs[j]).ownBlock ≠ some g
theorem RowsOwn.apart' {w : World} {lo : Nat} {rs : List Row} (h : RowsOwn w lo rs) : RowsApart w lo rs := by
  refine ⟨h.1, fun i j hi hj hne g h1 h2 => ?_⟩
  rcases Nat.lt_or_gt_of_ne hne with h3 | h3
  · exact h.block_ne h3 hj h1 h2
  · exact h.block_ne h3 hi h2 h1
theorem RowsApart.kept {w w' : World} {lo : Nat} {rs : List Row} {row : Option Nat} (h : RowsApart w lo rs) (hg : w.grownBy w' row) (hne : ∀ r ∈ rs, ∀ g, (rowV r).ownBlock = some g → row ≠ some g) : RowsApart w' lo rs :=
  ⟨fun r hr => own_grown' (h.1 r hr) hg (fun g e1 e2 => hne r hr g e1 e2), h.2⟩
theorem RowsApart.below {w w' : World} {lo : Nat} {rs : List Row} (h : RowsApart w lo rs) (hb : Below w.heap.size w w') : RowsApart w' lo rs :=
  ⟨fun r hr => own_below (h.1 r hr) hb, h.2⟩
theorem RowsApart.set {w w' : World} {lo t : Nat} {rs : List Row} (h : RowsApart w lo rs) (ht : t < rs.length) (r : Row) (hg : w.grownBy w' (rowV rs[t]).ownBlock) (hr : w'.ownsRow lo 3 1 (rowV r) r.zs.length (ints r.zs))
    (hb : ∀ g, (rowV r).ownBlock = some g → (rowV rs[t]).ownBlock = some g ∨ w.heap.size ≤ g) : RowsApart w' lo (rs.set t r) := by
  refine ⟨fun s hs => ?_, fun i j hi hj hne g h1 h2 => ?_⟩
  · obtain ⟨i, hi, rfl⟩ := List.mem_iff_getElem.1 hs
    rw [List.length_set] at hi
    rw [List.getElem_set]
    split
    · exact hr
    · rename_i hne
      exact own_grown' (h.1 _ (List.getElem_mem hi)) hg (fun g e1 e2 => h.2 i t hi ht (fun e => hne e.symm) g e1 e2)
  · rw [List.length_set] at hi hj
    have hlt : ∀ k (hk : k < rs.length) g, (rowV rs[k]).ownBlock = some g → g < w.heap.size := fun k hk g e => ((h.1 _ (List.getElem_mem hk)).lt g e).2
    rw [List.getElem_set] at h1 h2
    by_cases e1 : t = i
    · by_cases e2 : t = j
      · omega
      · rw [if_pos e1] at h1
        rw [if_neg e2] at h2
        rcases hb g h1 with h3 | h3
        · exact h.2 t j ht hj e2 g h3 h2
        · have := hlt j hj g h2; omega
    · rw [if_neg e1] at h1
      by_cases e2 : t = j
      · rw [if_pos e2] at h2
        rcases hb g h2 with h3 | h3
        · exact h.2 t i ht hi e1 g h3 h1
        · have := hlt i hi g h1; omega
      · rw [if_neg e2] at h2
        exact h.2 i j hi hj hne g h1 h2
theorem RowsApart.grid {w : World} {lo : Nat} {rs : List Row} {A : Option Addr} (h : RowsApart w lo rs) (hA : Sl w A (rowVs rs)) (hl : ∀ r ∈ rs, r.zs.length ≤ 9223372036854775807) : Grid w A rs :=
  ⟨hA, fun r hr => ⟨Sl.of_own (h.1 r hr), own_cap (h.1 r hr), hl r hr⟩⟩
end Go.Proofs.Ytjmiilneennjaaa

namespace Go.Proofs.Ytjmiilneennjaaa
open Go.RowKit
set_option maxHeartbeats 2000000
set_option linter.unusedVariables false

def backs (g : List (List Int)) (k j : Nat) : List (List Int) := (List.range g.length).map fun a : Nat => backCur g k j a
theorem backs_full (g : List (List Int)) (k j : Nat) (h : (g.getD k []).length ≤ j) : backs g k j = backs g (k + 1) 0 := by
  unfold backs
  exact List.map_congr_left fun a _ => by rw [backCur_full g k a j h, backCur_zero]
theorem backs_done {g : List (List Int)} (h : graphValid g = true) : backs g g.length 0 = back g := by
  unfold backs back
  rw [if_pos h]
  exact List.map_congr_left fun a _ => backCur_zero _ _ _
theorem backs_zero (g : List (List Int)) : backs g 0 0 = List.replicate g.length [] := by
  unfold backs
  rw [List.eq_replicate_iff]
  refine ⟨by simp, fun x hx => ?_⟩
  obtain ⟨a, _, rfl⟩ := List.mem_map.1 hx
  rfl
theorem backs_step (g : List (List Int)) (k j t : Nat) (h : j < (g.getD k []).length) (ht : t < g.length) (he : (g.getD k [])[j] = (t : Int)) : (backs g k j).set t (backCur g k j t ++ [(k : Int)]) = backs g k (j + 1) := by
  apply List.ext_getElem?
  intro i
  rw [List.getElem?_set]
  by_cases e : t = i
  · subst e
    rw [if_pos rfl, if_pos (by simp [backs, ht])]
    simp only [backs, List.getElem?_map, List.getElem?_range ht, Option.map_some]
    rw [backCur_succ g k j t h, he]
    simp
  · rw [if_neg e]
    simp only [backs, List.getElem?_map]
    by_cases hi : i < g.length
    · rw [List.getElem?_range hi]
      simp only [Option.map_some]
      rw [backCur_succ g k j i h, he]
      have : ((t : Int) == (i : Int)) = false := by rw [beq_eq_false_iff_ne]; omega
      rw [this]
      simp
    · rw [List.getElem?_eq_none (by simp; omega)]; rfl
theorem own_types' {w : World} {b1 b2 s1 s2 B g n c m : Nat} {e1 e2 : TypeId} {v : Value} {xs ys : List Value} (h : w.ownsRow b1 e1 s1 (.slice (some ⟨B, 0, none⟩) n c) n xs) (k : w.ownsRow b2 e2 s2 v m ys) (hne : e1 ≠ e2) (hv : v.ownBlock = some g) : g ≠ B := by
  intro e
  subst e
  rcases k.2 with ⟨h1, _⟩ | ⟨g2, c2, cur2, hv2, _⟩
  · rw [h1] at hv; cases hv
  · rw [hv2] at hv k
    have : g2 = g := by simpa [Value.ownBlock] using hv
    subst this
    exact hne (own_types h k)
/-- the call hands back rows in blocks of their own, in whatever order. -/
def RetApart (g : List (List Int)) (w : World) (e : Ending) (w' : World) : Prop :=
  ∃ A c qs, e = .returned (.slice A g.length c) ∧ graph qs = g ∧ w'.ownsRow w.heap.size 23 1 (.slice A g.length c) g.length (rowVs qs) ∧ RowsApart w' w.heap.size qs ∧ Below w.heap.size w w'
theorem RowsApart.nils (w : World) (lo n : Nat) : RowsApart w lo (List.replicate n nilRow) := by
  refine ⟨fun r hr => ?_, fun i j hi hj _ g h1 _ => ?_⟩
  · rw [List.eq_of_mem_replicate hr]; exact World.ownsRow_nil _ _ _ _
  · rw [List.getElem_replicate] at h1; cases h1
theorem rows_set (qs : List Row) (t : Nat) (r : Row) : (rowVs qs).set t (rowV r) = rowVs (qs.set t r) := by
  simp [rowVs, List.map_set]
theorem graph_set (qs : List Row) (t : Nat) (r : Row) : graph (qs.set t r) = (graph qs).set t r.zs := by
  simp [graph, List.map_set]
end Go.Proofs.Ytjmiilneennjaaa

namespace Go.Proofs.Ytjmiilneennjaaa
open Go.RowKit
set_option maxHeartbeats 2000000
set_option linter.unusedVariables false

theorem back_length (g : List (List Int)) (h : graphValid g = true) : (back g).length = g.length := by unfold back; rw [if_pos h]; simp
theorem back_rows (rs : List Row) : ∀ z ∈ back (graph rs), z.length ≤ total rs := by
  intro z hz
  unfold back at hz
  split at hz
  · obtain ⟨a, ha, rfl⟩ := List.mem_map.1 hz
    have h1 := back_len rs a rs.length (Nat.le_refl _)
    rw [List.take_length] at h1
    simpa using h1
  · simp at hz
theorem back_le (g : List (List Int)) : (back g).length ≤ 64 := by
  unfold back
  split
  · rename_i h; simpa using (graph_nodes h).1
  · simp
theorem total_bound (qs : List Row) (T : Nat) (h : ∀ r ∈ qs, r.zs.length ≤ T) : total qs ≤ qs.length * T := by
  unfold total
  induction qs with
  | nil => simp
  | cons r qs ih =>
    have h1 := ih fun s hs => h s (List.mem_cons_of_mem _ hs)
    have h2 := h r List.mem_cons_self
    simp only [List.map_cons, List.sum_cons, List.length_cons, Nat.add_mul]
    omega
theorem total_back {rs qs : List Row} (h : graph qs = back (graph rs)) : total qs ≤ 64 * total rs := by
  have h1 := total_bound qs (total rs) fun r hr => back_rows rs _ (by rw [← h]; exact List.mem_map_of_mem hr)
  have h2 := back_le (graph rs)
  rw [← graph_length h] at h2
  exact Nat.le_trans h1 (Nat.mul_le_mul_right _ h2)
/-- the call hands back rows that can be read. -/
def RetGrid (g : List (List Int)) (w : World) (e : Ending) (w' : World) : Prop :=
  ∃ A c qs, e = .returned (.slice A g.length c) ∧ graph qs = g ∧ Grid w' A qs ∧ Below w.heap.size w w'
end Go.Proofs.Ytjmiilneennjaaa

namespace Go.Proofs.Ytjmiilneennjaaa
open Go.RowKit
set_option maxHeartbeats 2000000
set_option linter.unusedVariables false

def gOf (xs : List Cd) : List (List Int) := if progValid xs then graphOf (ops xs) else []
theorem gOf_no {xs : List Cd} (h : progValid xs = false) : gOf xs = [] := by unfold gOf; rw [h]; rfl
theorem gOf_yes {xs : List Cd} (h : progValid xs = true) : gOf xs = graphOf (ops xs) := by unfold gOf; rw [h]; rfl
theorem graphOf_len (os : List Int) : (graphOf os).length = os.length + 1 := by simp [graphOf]
theorem gFill (os : List Int) {k n : Nat} (h : k < n) : (((List.range k).map (succs os) ++ List.replicate (n - k) []).set k (succs os k)) = (List.range (k + 1)).map (succs os) ++ List.replicate (n - (k + 1)) [] := fill_set (succs os) [] h
theorem implgraphOf_any (A : Option Addr) (c : Nat) (xs : List Cd) (w : World) (hv : progValid xs = true) (hs : Sl w A (cflat xs)) :
    Calls Try.prog 78 #[.slice A xs.length c] w (RetApart (graphOf (ops xs)) w) := by
  obtain ⟨i0, hi0, hz0, hz1, hz2⟩ := info_parts Er.hi
  have h40 := (progValid_yes hv).1
  have HBAL := mkHid (progValid_yes hv).2.2
  have HBL := mkHid (blocks_any A c xs w (by omega) hs)
  have HS0 := mkHid hs
  have HON := mkHid (ops_len xs)
  clear hs hv
  go_enter Try.func78, Try.ntmps78
  go_wp2_with fail
  refine HBL.out.mono ?_
  rintro e w2 ⟨Av, Ov, rfl, b2, hbr⟩
  obtain ⟨R, O, P, Rw, S, rfl, rfl, hI⟩ := hbr HBAL.out
  have HB2 := mkHid b2
  have HI := mkHid hI
  have hsz2 := b2.size
  rw [HBAL.out]
  clear b2 hbr hI HBL
  go_wp2_with (at_make; refine wpList_make_full _ rfl _ _ _ rfl w2.heap.size _ i0 _ 1 Er.ht hi0 hz0 hz1 _ _ _ _ (xs.length + 1) rfl rfl rfl rfl (by rw [hz2]; omega) (by simp only [maxLen]; omega) (Nat.le_refl _) ?_; intro w3 hown3 hg3; have HO3 := mkHid hown3; have HG3 := mkHid hg3; clear hown3 hg3)
  go_loopw [20] (fun i wr => ∃ k : Nat, k ≤ xs.length ∧ i = .int .i64 k ∧ ∃ qs : List Row, qs.length = xs.length + 1 ∧ Hid (graph qs = (List.range k).map (succs (ops xs)) ++ List.replicate (xs.length + 1 - k) []) ∧ wr.ownsRow w2.heap.size 23 1 (.slice (some ⟨w2.heap.size, 0, none⟩) (xs.length + 1) (xs.length + 1)) (xs.length + 1) (rowVs qs) ∧ RowsApart wr w2.heap.size qs ∧ Below w2.heap.size w2 wr) (fun i _ => xs.length - (intOf i).toNat)
  case atStart =>
    refine ⟨0, by omega, rfl, List.replicate (xs.length + 1) nilRow, by simp, mkHid ?_, ?_, RowsApart.nils _ _ _, (Below.refl _ _).grown HG3.out (Nat.le_refl _) (by simp)⟩
    · simp [graph, nilRow]
    · have := HO3.out
      rwa [rows_nils] at this
  case round =>
    clear HO3 HG3
    obtain ⟨k, hk, rfl, qs, hq, HQ, hown, hrows, hb⟩ := hrel
    have HB := mkHid hb
    by_cases hlt : k < xs.length
    · have hC := successors_any A c xs k wr (by omega) hlt HBAL.out (HS0.out.below (below_then HB2.out hb)) (HI.out.below hb)
      obtain ⟨ss, hss⟩ : ∃ ss, ss = succs (ops xs) k := ⟨_, rfl⟩
      rw [← hss] at hC
      have HC := mkHid hC
      have HSS := mkHid hss
      have HOW := mkHid hown
      have HRO := mkHid hrows
      clear hC hss hown hrows hb
      go_wp2_with fail
      refine HC.out.mono ?_
      rintro e w4 ⟨g, cc, rfl, ow, b4⟩
      have hklen : k < qs.length := by omega
      have HOW4 := mkHid (own_below HOW.out b4)
      have hset : RowsApart w4 w2.heap.size (qs.set k ⟨some ⟨g, 0, none⟩, cc, ss⟩) := by
        refine HRO.out.set hklen _ (grown_of_below b4 _) ?_ ?_
        · exact own_base ow HB.out.size
        · intro g' hg'
          right
          exact (ow.lt g' hg').1
      have HSET := mkHid hset
      have HB4 := mkHid (below_then HB.out b4)
      obtain ⟨G, hG, hgb2, hgs2, hcell2, hfr2, hst2⟩ := own_open HOW4.out (i := k) (by simpa using hklen)
      injection hG with hG
      injection hG with hG
      subst hG
      have HST := mkHid (hst2 (.slice (some ⟨g, 0, none⟩) ss.length cc))
      clear hst2 hset ow b4 HC HB HOW HRO
      go_wp2_with fail
      go_roundw
      case rel =>
        have hgr := grown_setCell w4 w2.heap.size k (.slice (some ⟨g, 0, none⟩) ss.length cc)
        refine ⟨k + 1, by omega, by go_num, qs.set k ⟨some ⟨g, 0, none⟩, cc, ss⟩, by simpa using hq, mkHid ?_, ?_, HSET.out.kept hgr (fun r hr g' hg' e => by
          injection e with e
          exact own_types' HOW4.out (HSET.out.1 r hr) (by decide) hg' e.symm), HB4.out.grown hgr HB4.out.size (fun g' hg' => by injection hg' with hg'; omega)⟩
        · rw [graph_set, HQ.out, HSS.out]
          exact gFill (ops xs) (by omega)
        · have := HST.out
          rw [← rows_set]
          exact this
      case measure => simp [intOf] <;> omega
    · have hke : k = xs.length := by omega
      have HOW := mkHid hown
      have HRO := mkHid hrows
      subst hke
      clear hown hrows hb
      go_wp2_with fail
      go_ret
      have hgq := HQ.out
      rw [show xs.length + 1 - xs.length = 1 by omega] at hgq
      have hg2 : graph qs = graphOf (ops xs) := by rw [hgq]; unfold graphOf; rw [HON.out]; rfl
      have hlen : (graphOf (ops xs)).length = xs.length + 1 := by rw [graphOf_len, HON.out]
      exact ⟨some ⟨w2.heap.size, 0, none⟩, xs.length + 1, qs, by rw [hlen]; rfl, hg2, by rw [hlen]; exact own_base HOW.out hsz2, ⟨fun r hr => own_base (HRO.out.1 r hr) hsz2, HRO.out.2⟩, below_then HB2.out HB.out⟩
theorem implGraphOf_any (A : Option Addr) (c : Nat) (xs : List Cd) (w : World) (hl : xs.length ≤ 1048576) (hs : Sl w A (cflat xs)) :
    Calls Try.prog 35 #[.slice A xs.length c] w (RetApart (gOf xs) w) := by
  have hV := implProgramValid_any A c xs w hl hs
  obtain ⟨gg, hgg⟩ : ∃ gg, gg = gOf xs := ⟨_, rfl⟩
  rw [← hgg]
  have HGG := mkHid hgg
  clear hgg
  obtain ⟨v, hv⟩ : ∃ v, v = progValid xs := ⟨_, rfl⟩
  rw [← hv] at hV
  have HPV := mkHid hV
  have HVV := mkHid hv
  have HS0 := mkHid hs
  clear hs hV hv
  go_enter Try.func35, Try.ntmps35
  go_wp2_with fail
  refine HPV.out.mono ?_
  rintro e w1 ⟨rfl, b1⟩
  have HB1 := mkHid b1
  have hsz := b1.size
  clear b1
  cases v with
  | false =>
    have HG := mkHid (HGG.out.trans (gOf_no HVV.out.symm))
    go_wp2_with fail
    go_ret
    rw [HG.out]
    exact ⟨none, 0, [], rfl, rfl, World.ownsRow_nil _ _ _ _, RowsApart.nils _ _ 0, HB1.out⟩
  | true =>
    have hC := implgraphOf_any A c xs w1 HVV.out.symm (HS0.out.below HB1.out)
    rw [← gOf_yes HVV.out.symm, ← HGG.out] at hC
    have HC := mkHid hC
    clear hC
    go_wp2_with fail
    refine HC.out.mono ?_
    rintro e w2 ⟨A2, c2, qs, rfl, hg, ho, ha, b2⟩
    have HO := mkHid (own_base ho hsz)
    have HA := mkHid (show RowsApart w2 w.heap.size qs from ⟨fun r hr => own_base (ha.1 r hr) hsz, ha.2⟩)
    have HB2 := mkHid (below_then HB1.out b2)
    have HG2 := mkHid hg
    clear ho ha b2 hg
    go_wp2_with fail
    go_ret
    exact ⟨A2, c2, qs, rfl, HG2.out, HO.out, HA.out, HB2.out⟩
end Go.Proofs.Ytjmiilneennjaaa
