/-
  Contract of reach: the search through a graph with a queue whose head is cut off.
-/
import Derived.Test.YtabpcbikbhbcaaaPlainReach
import Derived.Test.YtabpcbikbhbcaaaLibApp
import Derived.ArgAppend
namespace Go.Proofs.Ytabpcbikbhbcaaa
open Go.RowKit
set_option maxHeartbeats 2000000
set_option linter.unusedVariables false

abbrev bools (bs : List Bool) : List Value := bs.map Value.bool
theorem bools_at {bs : List Bool} {k : Nat} (h : k < bs.length) : (bools bs)[k]? = some (.bool bs[k]) := by simp [bools, h]
theorem Eb : ElemI Try.prog 32 4 (.bool false) 1 1 := ⟨Try.underlying32, by kernel_rfl, rfl, by omega⟩
theorem madeBools (n : Nat) : (madeCells (Value.bool false).cells (n * 1)).toList = bools (List.replicate n false) := by
  apply List.ext_getElem?
  intro i
  by_cases h : i < n
  · simp [madeCells, h, Value.cells, bools, Nat.mod_one]
  · rw [List.getElem?_eq_none (by simp [madeCells]; omega), List.getElem?_eq_none (by simp [bools]; omega)]
def RetBools (bs : List Bool) (w : World) (e : Ending) (w' : World) : Prop :=
  ∃ A c, e = .returned (.slice A bs.length c) ∧ w'.ownsRow w.heap.size 4 1 (.slice A bs.length c) bs.length (bools bs) ∧ Below w.heap.size w w'

/-! ### a queue: what is left of a row whose head has been cut off -/
def QOwn (w : World) (base gs : Nat) (A : Option Addr) (c : Nat) (xs : List Int) : Prop :=
  ∃ g off cur, A = some ⟨g, off, none⟩ ∧ base ≤ g ∧ g ≠ gs ∧ w.heap[g]? = some (.cells cur 3 (0, 0)) ∧ cur.size = off + c ∧ xs.length ≤ c ∧ c ≤ 9223372036854775807 ∧ ∀ j (h : j < xs.length), cur[off + j]? = some (.int .i64 xs[j])
theorem QOwn.of_own {w : World} {base gs c : Nat} {A : Option Addr} {n : Nat} {xs : List Int} (h : w.ownsRow base 3 1 (.slice A n c) n (ints xs)) (hn : xs.length = n) (h0 : 0 < n) (hg : ∀ g, (Value.slice A n c).ownBlock = some g → g ≠ gs) : QOwn w base gs A c xs := by
  have hl := h.1
  rcases h.2 with ⟨hv, hz⟩ | ⟨g, cap, cur, hv, hb, hgc, hnc, hm, hs, ht⟩
  · omega
  · injection hv with h1 h2 h3
    subst h1 h3
    refine ⟨g, 0, cur, rfl, hb, hg g rfl, hgc, by omega, by omega, by unfold maxLen at hm; omega, fun j hj => ?_⟩
    have h4 : (cur.toList.take (n * 1))[j]? = (ints xs)[j]? := by rw [ht]
    rw [List.getElem?_take, if_pos (by omega), ints_at hj] at h4
    simpa using h4
theorem QOwn.cell {w : World} {base gs : Nat} {A : Option Addr} {c : Nat} {xs : List Int} (h : QOwn w base gs A c xs) {j : Nat} (hj : j < xs.length) : ∃ g off, A = some ⟨g, off, none⟩ ∧ w.cell? ⟨g, off + j, none⟩ = some (.int .i64 xs[j]) := by
  obtain ⟨g, off, cur, rfl, _, _, hc, _, _, _, hx⟩ := h
  exact ⟨g, off, rfl, by rw [cell_of_row _ _ _ _ _ _ hc]; exact hx j hj⟩
theorem QOwn.tail {w : World} {base gs g off : Nat} {c : Nat} {x : Int} {xs : List Int} (h : QOwn w base gs (some ⟨g, off, none⟩) c (x :: xs)) (hc : 0 < xs.length) : QOwn w base gs (some ⟨g, off + 1, none⟩) (c - 1) xs := by
  obtain ⟨g', off', cur, hA, hb, hg, hgc, hs, hl, hm, hx⟩ := h
  injection hA with hA
  injection hA with h1 h2
  subst h1 h2
  simp only [List.length_cons] at hl hx
  refine ⟨g, off + 1, cur, rfl, hb, hg, hgc, by omega, by omega, by omega, fun j hj => ?_⟩
  have := hx (j + 1) (by omega)
  simpa [Nat.add_assoc, Nat.add_comm 1 j] using this
theorem QOwn.grown {w w' : World} {base gs : Nat} {A : Option Addr} {c : Nat} {xs : List Int} {row : Option Nat} (h : QOwn w base gs A c xs) (hg : w.grownBy w' row) (hr : ∀ g, row = some g → g = gs) : QOwn w' base gs A c xs := by
  obtain ⟨g, off, cur, hA, hb, hne, hgc, h'⟩ := h
  exact ⟨g, off, cur, hA, hb, hne, (hg.block g (Array.getElem?_eq_some_iff.1 hgc).1 (fun e => hne (hr g e.symm))).trans hgc, h'⟩
/-- append of one number onto a queue that is not empty. -/
theorem queue_app {w : World} {ops : Array Oper} {rest : List Oper} {o : Oper} {a : Act} {Q : Exit → Act → World → Prop} {base gs : Nat} {A : Option Addr} {c : Nat} {xs : List Int} {y : Int} {ad : Addr}
    (hq : QOwn w base gs A c xs) (hxl : xs.length ≤ 1000000) (hb : base ≤ w.heap.size) (hgs : gs < w.heap.size) (hy : w.cell? ad = some (.int .i64 y)) (had : ad.add 0 = ad)
    {s x : Operand} (hgd : o.guard = none) (ho : o.op = .call { callee := .builtin .append, args := #[s, x], argTypes := #[30, 30] }) (hs : a.eval s = .slice A xs.length c) (hx : a.eval x = .slice (some ad) 1 1)
    (h : ∀ A' c' w', QOwn w' base gs A' c' (xs ++ [y]) → (∀ g, g = gs ∨ g < base → g < w.heap.size → w'.heap[g]? = w.heap[g]?) → w.heap.size ≤ w'.heap.size → Below base w w' → wpList Try.prog ops Q rest (a.put o.dst (.slice A' (xs.length + 1) c')) w') : wpList Try.prog ops Q (o :: rest) a w := by
  obtain ⟨i, hi, hz0, hz1, hz2⟩ := info_parts Ei.hi
  have hq' := hq
  obtain ⟨g, off, cur, rfl, hbg, hne, hgc, hcs, hxc, hcm, hcur⟩ := hq
  have hgl := (Array.getElem?_eq_some_iff.1 hgc).1
  refine wpList_append_arg w hgd s x 30 ho 3 i _ 1 8 Ei.ht hi hz0 hz1 hz2 rfl (by omega) g off xs.length c (ints xs) hs (by simp) (fun j u hu => ?_) ad 1 1 [.int .i64 y] hx rfl (fun j u hu => ?_) (by simp [Value.oneCell']) (fun hroom j hj => ?_) (by unfold maxLen; omega) (by omega) (fun hroom => ?_) (fun hgrow v' w' hown hg => ?_)
  · have hj : j < xs.length := by
      have := (List.getElem?_eq_some_iff.1 hu).1
      simpa using this
    rw [cell_of_row _ _ _ _ _ _ hgc, hcur j hj, ← hu, ints_at hj]
  · cases j with
    | zero =>
      rw [had, hy]
      simpa using hu
    | succ j => simp at hu
  · have hj0 : j = 0 := by simpa using hj
    subst hj0
    refine ⟨?_, frozen_of_row w g _ _ _ hgc⟩
    rw [cell_of_row _ _ _ _ _ _ hgc]
    rw [Array.getElem?_eq_getElem (by omega)]; rfl
  · have hst : (w.setCells g (off + xs.length * 1) [.int .i64 y]) = w.setCell ⟨g, off + xs.length, none⟩ (.int .i64 y) := by rw [Nat.mul_one]; rfl
    rw [hst]
    refine h (some ⟨g, off, none⟩) c _ ⟨g, off, cur.setIfInBounds (off + xs.length) (.int .i64 y), rfl, hbg, hne, heap_setCell_same w g _ _ _ _ hgc, by simpa using hcs, by simp; omega, hcm, fun j hj => ?_⟩ ?_ ?_ ?_
    · simp only [List.length_append, List.length_cons, List.length_nil] at hj
      rw [Array.getElem?_setIfInBounds]
      by_cases e : j = xs.length
      · subst e
        rw [if_pos rfl, if_pos (by omega)]
        simp
      · rw [if_neg (by omega), hcur j (by omega)]
        rw [List.getElem_append_left (by omega)]
    · intro k hk hkl
      exact (grown_setCell w g (off + xs.length) (.int .i64 y)).block k hkl (fun e => by injection e with e; omega)
    · exact (grown_setCell w g (off + xs.length) (.int .i64 y)).size
    · exact ⟨rfl, rfl, rfl, (grown_setCell w g (off + xs.length) (.int .i64 y)).size, fun k hk => (grown_setCell w g (off + xs.length) (.int .i64 y)).block k (by omega) (fun e => by injection e with e; omega)⟩
  · obtain ⟨A', c', rfl⟩ := own_form hown
    have hblk : ∀ k, (Value.slice A' (xs.length + 1) c').ownBlock = some k → k ≠ gs := fun k hk e => by have := (hown.lt k hk).1; omega
    refine h A' c' w' (QOwn.of_own (own_base (by simpa [ints] using hown) hb) (by simp) (by omega) hblk) (fun k hk hkl => hg.block k hkl (by simp)) hg.size ⟨hg.os, hg.tape, hg.output, hg.size, fun k hk => hg.block k (by omega) (by simp)⟩
end Go.Proofs.Ytabpcbikbhbcaaa
