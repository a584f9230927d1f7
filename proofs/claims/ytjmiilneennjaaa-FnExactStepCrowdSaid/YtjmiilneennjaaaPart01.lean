/-
  Parts of a proof: Lib, CNum, CInts.
-/
import Derived.WalkKit
import Derived.WalkSpells
import Derived.WalkLawsBesides
import Derived.BigQuiet
import Derived.Deep.QuietTactic
import Derived.Test.YtjmiilneennjaaaRows
namespace Go.Proofs.Ytjmiilneennjaaa
open Go.RowKit

theorem mkHid {p : Prop} (h : p) : Hid p := h
theorem unHid {p : Prop} (h : Hid p) : p := h
theorem ret_bool {a b : Bool} (h : a = b) : Ending.returned (.bool a) = .returned (.bool b) := by rw [h]
theorem ret_int {k : IntKind} {a b : Int} (h : a = b) : Ending.returned (.int k a) = .returned (.int k b) := by rw [h]
theorem ret_eq {a b : Value} (h : a = b) : Ending.returned a = .returned b := by rw [h]

/-! ### a number within bounds -/
def inB (a b c : Int) : Bool := decide (b ≤ a) && decide (a ≤ c)
theorem inB_t {a b c : Int} (h : inB a b c = true) : b ≤ a ∧ a ≤ c := by simpa [inB] using h
theorem inB_f {a b c : Int} (h : inB a b c = false) : a < b ∨ c < a := by
  simp [inB] at h; omega
theorem inB_of {a b c : Int} (h : b ≤ a) (h' : a ≤ c) : inB a b c = true := by simp [inB, h, h']
theorem inB_not {a b c : Int} (h : a < b ∨ c < a) : inB a b c = false := by
  simp [inB]; omega

/-! ### what only adds to the world: 'Below' at the heap's own size -/
theorem below_drewN {B : Nat} {a w : World} (h : Below B a w) (n : Nat) : Below B a (w.drewN n) := ⟨h.os, h.tape, h.output, h.size, h.block⟩
theorem below_same {a w : World} (h : a = w) : Below a.heap.size a w := h ▸ Below.refl _ _
theorem below_then {a b c : World} (h : Below a.heap.size a b) (k : Below b.heap.size b c) : Below a.heap.size a c := h.trans (k.mono h.size)
theorem grown_drewN {a w : World} {row : Option Nat} (h : a.grownBy w row) (n : Nat) : a.grownBy (w.drewN n) row := ⟨h.os, h.tape, h.output, h.size, h.block⟩
theorem grown_of_below {a w : World} (h : Below a.heap.size a w) (row : Option Nat) : a.grownBy w row := ⟨h.os, h.tape, h.output, h.size, fun i hi _ => h.block i hi⟩
theorem grown_trans {a b c : World} {row : Option Nat} (h : a.grownBy b row) (k : b.grownBy c row) : a.grownBy c row :=
  ⟨k.os.trans h.os, k.tape.trans h.tape, k.output.trans h.output, Nat.le_trans h.size k.size, fun i hi hn => (k.block i (Nat.lt_of_lt_of_le hi h.size) hn).trans (h.block i hi hn)⟩
/-- what has turned one block of a later world's own only adds to an earlier one. -/
theorem below_grown {a b c : World} {row : Option Nat} (h : Below a.heap.size a b) (k : b.grownBy c row) (hr : ∀ g, row = some g → a.heap.size ≤ g) : Below a.heap.size a c :=
  h.grown k h.size hr

theorem add_flat (b off j : Nat) : (⟨b, off, none⟩ : Addr).add j = ⟨b, off + j, none⟩ := by unfold Addr.add; split <;> simp_all

theorem bcell {W w1 : World} (hb : Below W.heap.size W w1) : (∀ b o, b < W.heap.size → w1.cell? ⟨b, o, none⟩ = W.cell? ⟨b, o, none⟩) ∧ (∀ b o, b < W.heap.size → w1.frozen? ⟨b, o, none⟩ = W.frozen? ⟨b, o, none⟩) :=
  ⟨fun b o h => hb.cell (p := ⟨b, o, none⟩) h, fun b o h => hb.frozen (p := ⟨b, o, none⟩) h⟩

/-! ### a run of cells that is read -/
/-- At 'A' (if there is anything) the cells 'xs' lie in w. -/
def Sl (w : World) (A : Option Addr) (xs : List Value) : Prop :=
  xs = [] ∨ ∃ b off, A = some ⟨b, off, none⟩ ∧ ∀ j u, xs[j]? = some u → w.cell? ⟨b, off + j, none⟩ = some u

theorem Sl.nil (w : World) (A : Option Addr) : Sl w A [] := .inl rfl
theorem Sl.at_ {w : World} {A : Option Addr} {xs : List Value} (h : Sl w A xs) {k : Nat} (hk : k < xs.length) :
    ∃ b off, A = some ⟨b, off, none⟩ ∧ ∀ j u, xs[j]? = some u → w.cell? ⟨b, off + j, none⟩ = some u := by
  rcases h with rfl | h
  · simp at hk
  · exact h
theorem Sl.keep {w w' : World} {A : Option Addr} {xs : List Value} (h : Sl w A xs) (hk : ∀ p u, w.cell? p = some u → w'.cell? p = some u) : Sl w' A xs := by
  rcases h with rfl | ⟨b, off, rfl, hc⟩
  · exact .inl rfl
  · exact .inr ⟨b, off, rfl, fun j u hu => hk _ _ (hc j u hu)⟩
theorem Sl.below {w w' : World} {A : Option Addr} {xs : List Value} (h : Sl w A xs) (hb : Below w.heap.size w w') : Sl w' A xs :=
  h.keep fun p _ hp => (hb.cell (World.block_lt_of_cell? w p hp)).trans hp
theorem Sl.drewN {w : World} {A : Option Addr} {xs : List Value} (h : Sl w A xs) (n : Nat) : Sl (w.drewN n) A xs := h
theorem Sl.drew {w : World} {A : Option Addr} {xs : List Value} (h : Sl w A xs) : Sl w.drew A xs := h
theorem Sl.alloc {w : World} {A : Option Addr} {xs : List Value} (h : Sl w A xs) (o : Obj) : Sl (w.alloc o) A xs :=
  h.below ((Below.refl _ _).alloc (Nat.le_refl _) o)
/-- Where one block has turned: the cells lie in another. -/
theorem Sl.grown {w w' : World} {A : Option Addr} {xs : List Value} {row : Option Nat} (h : Sl w A xs) (hg : w.grownBy w' row) (hne : ∀ a, A = some a → some a.block ≠ row) : Sl w' A xs := by
  rcases h with rfl | ⟨b, off, rfl, hc⟩
  · exact .inl rfl
  · exact .inr ⟨b, off, rfl, fun j u hu => hg.cell (hc j u hu) (hne ⟨b, off, none⟩ rfl)⟩
/-- Two rows, the second one younger than the world in which the first lay: what turns the second leaves the first. -/
theorem Sl.apart {w w' w'' : World} {A : Option Addr} {xs : List Value} {base : Nat} {e : TypeId} {size n : Nat} {v : Value} {ys : List Value} (h : Sl w A xs) (hb : Below w.heap.size w w') (hbase : w.heap.size ≤ base)
    (hown : w'.ownsRow base e size v n ys) (hg : w'.grownBy w'' v.ownBlock) : Sl w'' A xs := by
  rcases h with rfl | ⟨b, off, rfl, hc⟩
  · exact .inl rfl
  · refine .inr ⟨b, off, rfl, fun j u hu => ?_⟩
    have h0 := hc j u hu
    have hlt := World.block_lt_of_cell? w _ h0
    have h1 := (hb.cell hlt).trans h0
    refine hg.cell h1 (fun e => ?_)
    have := (hown.lt b e.symm).1
    simp at hlt
    omega
theorem Sl.of_own {w : World} {base : Nat} {e : TypeId} {size n c : Nat} {A : Option Addr} {xs : List Value} (h : w.ownsRow base e size (.slice A n c) n xs) : Sl w A xs := by
  rcases h.2 with ⟨_, h0⟩ | ⟨g, cap, cur, hv, _⟩
  · subst h0
    exact .inl (List.eq_nil_of_length_eq_zero (by simpa using h.1))
  · injection hv with hA _ _
    subst hA
    refine .inr ⟨g, 0, rfl, fun j u hu => ?_⟩
    have := h.cells (g := g) rfl j u hu
    simpa [add_flat] using this
theorem own_form {w : World} {base : Nat} {e : TypeId} {size n : Nat} {v : Value} {xs : List Value} (h : w.ownsRow base e size v n xs) : ∃ A c, v = .slice A n c := by
  rcases h.2 with ⟨rfl, rfl⟩ | ⟨g, cap, cur, rfl, _⟩
  · exact ⟨none, 0, rfl⟩
  · exact ⟨_, cap, rfl⟩

theorem own_drewN {w : World} {base : Nat} {e : TypeId} {size n : Nat} {v : Value} {xs : List Value} (h : w.ownsRow base e size v n xs) (k : Nat) : (w.drewN k).ownsRow base e size v n xs := h
theorem grown_setCell (w : World) (g i : Nat) (u : Value) : w.grownBy (w.setCell ⟨g, i, none⟩ u) (some g) :=
  ⟨rfl, rfl, rfl, by simp [World.setCell], fun k _ hne => Below.heap_setCell w ⟨g, i, none⟩ u k (fun e => hne (by rw [e]))⟩
theorem grown_setCell' {w w1 : World} {g : Nat} (h : w.grownBy w1 (some g)) (i : Nat) (u : Value) : w.grownBy (w1.setCell ⟨g, i, none⟩ u) (some g) :=
  grown_trans h (grown_setCell w1 g i u)
/-- an owned row, opened at one of its cells: the address, the cell, and what a store makes of the row. -/
theorem own_open {w : World} {base : Nat} {e : TypeId} {size n c : Nat} {A : Option Addr} {xs : List Value} (h : w.ownsRow base e size (.slice A n c) n xs) {i : Nat} (hi : i < xs.length) :
    ∃ g, A = some ⟨g, 0, none⟩ ∧ base ≤ g ∧ g < w.heap.size ∧ w.cell? ⟨g, i, none⟩ = some xs[i] ∧ w.frozen? ⟨g, i, none⟩ = false ∧
      ∀ u, (w.setCell ⟨g, i, none⟩ u).ownsRow base e size (.slice A n c) n (xs.set i u) := by
  have hlen := h.1
  rcases h.2 with ⟨_, h0⟩ | ⟨g, cap, cur, hv, hg⟩
  · subst h0; simp at hlen; subst hlen; simp at hi
  · have hv0 := hv
    injection hv with hA _ hc
    subst hA
    subst hc
    have hlt := h.lt g rfl
    refine ⟨g, rfl, hlt.1, hlt.2, ?_, h.frozenAt i, fun u => (h.stored i u).1⟩
    rw [h.cellAt i (by omega)]
    simp [hi]

theorem own_below {w w' : World} {base : Nat} {e : TypeId} {size n : Nat} {v : Value} {xs : List Value} (h : w.ownsRow base e size v n xs) (hb : Below w.heap.size w w') : w'.ownsRow base e size v n xs :=
  h.kept (grown_of_below hb none) (by cases hv : v.ownBlock <;> simp)
/-- what the laws' size counters hand back: what is left of l behind n, or -1. -/
def LeftOver (n : Nat) (l : Int) (w : World) (e : Ending) (w' : World) : Prop :=
  (((n : Int) ≤ l ∧ e = .returned (.int .i64 (l - n))) ∨ (l < n ∧ e = .returned (.int .i64 (-1)))) ∧ w = w'

theorem set_take_fill {α : Type} (xs : List α) (z : α) (k : Nat) (h : k < xs.length) : (xs.take k ++ List.replicate (xs.length - k) z).set k xs[k] = xs.take (k + 1) ++ List.replicate (xs.length - (k + 1)) z := by
  have hl : (xs.take k).length = k := by simp; omega
  rw [List.set_append_right _ _ (by omega), List.take_succ_eq_append_getElem h, hl, Nat.sub_self, show xs.length - k = (xs.length - (k + 1)) + 1 from by omega, List.replicate_succ]
  simp only [List.set_cons_zero, List.append_assoc, List.cons_append, List.nil_append]

theorem grown_below {a b c : World} {row : Option Nat} (h : a.grownBy b row) (k : Below b.heap.size b c) : a.grownBy c row := grown_trans h (grown_of_below k row)
theorem grown_app {a b c : World} {br : Nat} {v : Value} {base : Nat} {e : TypeId} {size n : Nat} {xs : List Value} (h : a.grownBy b (some br)) (hown : b.ownsRow base e size v n xs) (hbase : a.heap.size ≤ base) (k : b.grownBy c v.ownBlock) : a.grownBy c (some br) :=
  ⟨k.os.trans h.os, k.tape.trans h.tape, k.output.trans h.output, Nat.le_trans h.size k.size, fun i hi hn =>
    (k.block i (Nat.lt_of_lt_of_le hi h.size) (fun e => by have := (hown.lt i e.symm).1; omega)).trans (h.block i hi hn)⟩
/-! ### the row of an element's type -/
structure ElemI (P : Program) (t e : TypeId) (z : Value) (size bytes : Nat) : Prop where
  ht : P.underlying t = some (.slice e)
  hi : (P.info? e).map (fun i => (i.zero, i.size, i.bytes)) = some (some z, size, bytes)
  hz : z.cells.size = size
  hs : 0 < size

/-- append onto a row of the call's own. -/
theorem wpList_app {P : Program} {w : World} {ops : Array Oper} {rest : List Oper} {o : Oper} {a : Act} {Q : Exit → Act → World → Prop} {t e : TypeId} {z : Value} {size bytes : Nat} (I : ElemI P t e z size bytes)
    {base : Nat} {v : Value} {n : Nat} {xs : List Value} (hown : w.ownsRow base e size v n xs)
    {ad : Addr} {m c : Nat} {news : List Value} (hnews : ∀ j u, news[j]? = some u → w.cell? (ad.add j) = some u) (hl : news.length = m * size) (h1 : ∀ u ∈ news, u.oneCell' = true)
    (hbytes : (n + m) * bytes ≤ 140737488355328) (h63 : n + m ≤ 9223372036854775807) (hbase : base ≤ w.heap.size)
    {s x : Operand} (hgd : o.guard = none) (ho : o.op = .call { callee := .builtin .append, args := #[s, x], argTypes := #[t, t] }) (hs : a.eval s = v) (hx : a.eval x = .slice (some ad) m c)
    (h : ∀ A' c' w', w'.ownsRow base e size (.slice A' (n + m) c') (n + m) (xs ++ news) → w.grownBy w' v.ownBlock → wpList P ops Q rest (a.put o.dst (.slice A' (n + m) c')) w') : wpList P ops Q (o :: rest) a w := by
  obtain ⟨i, hi, hz0, hz1, hz2⟩ := info_parts I.hi
  refine wpList_append_own w hgd s x t ho base e i z size bytes I.ht hi hz0 hz1 hz2 I.hz I.hs v n xs hs hown ad m c news hx hl hnews h1 (by simp only [maxLen]; omega) hbytes hbase ?_
  intro v' w' hown' hg _
  obtain ⟨A', c', rfl⟩ := own_form hown'
  exact h A' c' w' hown' hg

/-- the cells of a new block. -/
theorem newCells (w : World) (us : List Value) (e : TypeId) : ∀ j x, us[j]? = some x → (w.alloc (.cells us.toArray e)).cell? ((⟨w.heap.size, 0, none⟩ : Addr).add j) = some x := by
  intro j x hx
  rw [add_flat, cell_of_row _ w.heap.size _ us.toArray e (0, 0) (heap_alloc_new w _)]
  simpa using hx

/-! ### a region that draws its order, all of whose operations yield the same in every world that adds to this one -/
set_option linter.unusedVariables false
/-- the worlds that add to w. -/
def Ext (w : World) : Type := { u : World // Below w.heap.size w u }
instance extNonempty (w : World) : Nonempty (Ext w) := ⟨⟨w, Below.refl _ _⟩⟩
theorem Ext.keeps {w : World} (u : Ext w) {p : Addr} {v : Value} (h : w.cell? p = some v) : u.1.cell? p = some v :=
  (u.2.cell (World.block_lt_of_cell? w p h)).trans h
theorem wp_region_ext {P : Program} {id : Nat} {Q : Exit → Act → World → Prop} {a : Act} {w : World} {l : List Oper} (hm : P.follows .mixedOrders = true) (hB : Region.lexB .any l.toArray = true)
    (h : wpQuiet P l.toArray (fun w' => ∃ u : Ext w, w' = u.1) (fun a' => ∀ w', (∃ u : Ext w, w' = u.1) → Q .normal a' w') l a) : (Code.region id l.toArray true).wp P Q a w :=
  wp_region_quiet (C := fun w' => ∃ u : Ext w, w' = u.1) hm hB ⟨⟨{ w with drawn := w.drawn + 1 }, ⟨rfl, rfl, rfl, Nat.le_refl _, fun _ _ => rfl⟩⟩, rfl⟩ (by simpa using h)
/-- a callee's contract, met in such a world. -/
theorem ext_call {P : Program} {f : FuncId} {args : Array Value} {w : World} {u : Ext w} {v : Value} (h : Calls P f args u.1 fun e w' => e = .returned v ∧ Below u.1.heap.size u.1 w') :
    Calls P f args u.1 fun e w' => e = .returned v ∧ ∃ u' : Ext w, w' = u'.1 :=
  h.mono fun e w' ⟨he, hb⟩ => ⟨he, ⟨w', below_then u.2 hb⟩, rfl⟩
theorem ext_call_same {P : Program} {f : FuncId} {args : Array Value} {w : World} {u : Ext w} {v : Value} (h : Calls P f args u.1 fun e w' => e = .returned v ∧ u.1 = w') :
    Calls P f args u.1 fun e w' => e = .returned v ∧ ∃ u' : Ext w, w' = u'.1 :=
  h.mono fun e w' ⟨he, hb⟩ => ⟨he, u, hb.symm⟩
theorem ext_call_drewN {P : Program} {f : FuncId} {args : Array Value} {w : World} {u : Ext w} {v : Value} (h : Calls P f args u.1 fun e w' => e = .returned v ∧ ∃ k, w' = u.1.drewN k) :
    Calls P f args u.1 fun e w' => e = .returned v ∧ ∃ u' : Ext w, w' = u'.1 :=
  h.mono fun e w' ⟨he, k, hk⟩ => ⟨he, ⟨w', by rw [hk]; exact below_drewN u.2 k⟩, rfl⟩
theorem ext_end {w : World} {Q : World → Prop} (h : ∀ X, Below w.heap.size w X → Q X) : ∀ w', (∃ u : Ext w, w' = u.1) → Q w' := by
  rintro _ ⟨u, rfl⟩
  exact h u.1 u.2
/-- the world gets a name. -/
theorem name_world {P : Program} {c : Code} {Q : Exit → Act → World → Prop} {a : Act} {w : World} (h : ∀ W, W = w → c.wp P Q a W) : c.wp P Q a w := h w rfl

end Go.Proofs.Ytjmiilneennjaaa

namespace Go.Proofs.Ytjmiilneennjaaa
open Go.RowKit

set_option maxHeartbeats 400000
theorem within_any (a b c : Int) (w : World) :
    Calls Try.prog 59 #[.int .i64 a, .int .i64 b, .int .i64 c] w fun e w' => e = .returned (.bool (inB a b c)) ∧ w = w' := by
  go_enter Try.func59, Try.ntmps59
  go_wp2
  all_goals go_ret
  all_goals exact ⟨ret_bool (by simp [inB]; try omega), rfl⟩
theorem ways_of {f : FuncId} {args : Array Value} {a b c : Int} {w : World} (h : Calls Try.prog f args w fun e w' => e = .returned (.bool (inB a b c)) ∧ w = w') :
    Calls Try.prog f args w fun e w' => (((b ≤ a ∧ a ≤ c) ∧ e = .returned (.bool true)) ∨ ((a < b ∨ c < a) ∧ e = .returned (.bool false))) ∧ w = w' :=
  h.mono fun e w' ⟨he, hw⟩ => ⟨by
    cases h : inB a b c with
    | true => exact .inl ⟨inB_t h, by rw [he, h]⟩
    | false => exact .inr ⟨inB_f h, by rw [he, h]⟩, hw⟩
theorem within_ways (a b c : Int) (w : World) :
    Calls Try.prog 59 #[.int .i64 a, .int .i64 b, .int .i64 c] w fun e w' => (((b ≤ a ∧ a ≤ c) ∧ e = .returned (.bool true)) ∨ ((a < b ∨ c < a) ∧ e = .returned (.bool false))) ∧ w = w' :=
  ways_of (within_any a b c w)
theorem l1In_any (a b c : Int) (w : World) :
    Calls Try.prog 41 #[.int .i64 a, .int .i64 b, .int .i64 c] w fun e w' => e = .returned (.bool (inB a b c)) ∧ w = w' := by
  go_enter Try.func41, Try.ntmps41
  go_wp2
  all_goals go_ret
  all_goals exact ⟨ret_bool (by simp [inB]; try omega), rfl⟩
theorem l1In_ways (a b c : Int) (w : World) :
    Calls Try.prog 41 #[.int .i64 a, .int .i64 b, .int .i64 c] w fun e w' => (((b ≤ a ∧ a ≤ c) ∧ e = .returned (.bool true)) ∨ ((a < b ∨ c < a) ∧ e = .returned (.bool false))) ∧ w = w' :=
  ways_of (l1In_any a b c w)
theorem isLanes_any (a : Int) (w : World) :
    Calls Try.prog 46 #[.int .i64 a] w fun e w' => e = .returned (.bool (inB a 1 8)) ∧ w = w' := by
  go_enter Try.func46, Try.ntmps46
  go_wp2_with (go_at_call 59; refine (within_any _ _ _ _).mono ?_; rintro e w' ⟨rfl, rfl⟩)
  go_ret
  exact ⟨rfl, rfl⟩
theorem isLanes_ways (a : Int) (w : World) :
    Calls Try.prog 46 #[.int .i64 a] w fun e w' => (((1 ≤ a ∧ a ≤ 8) ∧ e = .returned (.bool true)) ∨ ((a < 1 ∨ 8 < a) ∧ e = .returned (.bool false))) ∧ w = w' :=
  ways_of (isLanes_any a w)
theorem alive_any (w : World) :
    Calls Try.prog 18 #[] w fun e w' => e = .returned (.bool true) ∧ w = w' := by
  go_enter Try.func18, Try.ntmps18
  go_wp2
  go_ret
  exact ⟨rfl, rfl⟩
end Go.Proofs.Ytjmiilneennjaaa

namespace Go.Proofs.Ytjmiilneennjaaa
open Go.RowKit

abbrev ints (zs : List Int) : List Value := zs.map (Value.int .i64)
theorem ints_at {zs : List Int} {k : Nat} (h : k < zs.length) : (ints zs)[k]? = some (.int .i64 zs[k]) := by simp [ints, h]
theorem ints_one (zs : List Int) : ∀ u ∈ ints zs, u.oneCell' = true := by
  intro u hu
  simp only [ints, List.mem_map] at hu
  obtain ⟨z, _, rfl⟩ := hu
  rfl
theorem Ei : ElemI Try.prog 23 3 (.int .i64 0) 1 8 := ⟨Try.underlying23, by kernel_rfl, rfl, by omega⟩

/-- the call hands back a slice of ints in memory of its own. -/
def RetInts (zs : List Int) (w : World) (e : Ending) (w' : World) : Prop :=
  ∃ A c, e = .returned (.slice A zs.length c) ∧ w'.ownsRow w.heap.size 3 1 (.slice A zs.length c) zs.length (ints zs) ∧ Below w.heap.size w w'

set_option maxHeartbeats 400000
set_option linter.unusedVariables false
/-! ### eqIntS -/
theorem eqIntS_ne (A B : Option Addr) (n m c d : Nat) (w : World) (hn : n ≤ 9223372036854775807) (hm : m ≤ 9223372036854775807) (hne : n ≠ m) :
    Calls Try.prog 51 #[.slice A n c, .slice B m d] w fun e w' => e = .returned (.bool false) ∧ ∃ k, w' = w.drewN k := by
  have h : (((n : Int) != (m : Int))) = true := by rw [bne_iff_ne]; omega
  clear hne
  go_enter Try.func51, Try.ntmps51
  go_wp2
  all_goals go_ret
  all_goals exact ⟨rfl, 0, rfl⟩
theorem take_succ_eq {xs ys : List Int} {k : Nat} (h : xs.take k = ys.take k) (hx : k < xs.length) (hy : k < ys.length) (he : xs[k] = ys[k]) : xs.take (k + 1) = ys.take (k + 1) := by
  rw [List.take_succ_eq_append_getElem hx, List.take_succ_eq_append_getElem hy, h, he]
theorem eqIntS_len (A B : Option Addr) (c d : Nat) (xs ys : List Int) (w : World) (hl : xs.length = ys.length) (hn : xs.length ≤ 9223372036854775807) (hx : Sl w A (ints xs)) (hy : Sl w B (ints ys)) :
    Calls Try.prog 51 #[.slice A xs.length c, .slice B xs.length d] w fun e w' => e = .returned (.bool (decide (xs = ys))) ∧ ∃ k, w' = w.drewN k := by
  have HL := mkHid hl
  clear hl
  go_enter Try.func51, Try.ntmps51
  go_wp2
  go_loopw [5] (fun i wr => ∃ k : Nat, k ≤ xs.length ∧ i = .int .i64 k ∧ Hid (xs.take k = ys.take k) ∧ ∃ n, wr = w.drewN n) (fun i _ => xs.length - (intOf i).toNat)
  case atStart => exact ⟨0, by omega, rfl, mkHid (by simp), 0, rfl⟩
  case round =>
    obtain ⟨k, hk, rfl, HT, n, rfl⟩ := hrel
    by_cases hlt : k < xs.length
    · have hky : k < ys.length := by have := HL.out; omega
      obtain ⟨b, off, rfl, hcx⟩ := hx.at_ (k := k) (by simpa using hlt)
      obtain ⟨b', off', rfl, hcy⟩ := hy.at_ (k := k) (by simpa using hky)
      have h1 : w.cell? ⟨b, off + k, none⟩ = some (.int .i64 xs[k]) := hcx k _ (ints_at hlt)
      have h2 : w.cell? ⟨b', off' + k, none⟩ = some (.int .i64 ys[k]) := hcy k _ (ints_at hky)
      clear hcx hcy hx hy
      by_cases he : xs[k] = ys[k]
      · have hb : (xs[k] != ys[k]) = false := by simp [he]
        have HE := mkHid he
        clear he
        go_wp2
        go_quiet (fail)
        go_wp2
        go_roundw
        case rel => exact ⟨k + 1, by omega, by go_num, mkHid (take_succ_eq HT.out hlt hky HE.out), _, by first | rfl | exact World.drewN_drewN _ _ _⟩
        case measure => simp [intOf]; omega
      · have hb : (xs[k] != ys[k]) = true := by simp [he]
        have HE := mkHid he
        clear he
        go_wp2
        go_quiet (fail)
        go_wp2
        go_ret
        refine ⟨ret_bool ?_, _, by first | rfl | exact World.drewN_drewN _ _ _⟩
        symm
        simp only [decide_eq_false_iff_not]
        intro h
        exact HE.out (by simp [h])
    · go_wp2
      go_ret
      refine ⟨ret_bool ?_, _, rfl⟩
      symm
      simp only [decide_eq_true_eq]
      have := HT.out
      rwa [List.take_of_length_le (by omega), List.take_of_length_le (by have := HL.out; omega)] at this
theorem eqIntS_any (A B : Option Addr) (c d : Nat) (xs ys : List Int) (w : World) (hn : xs.length ≤ 9223372036854775807) (hm : ys.length ≤ 9223372036854775807) (hx : Sl w A (ints xs)) (hy : Sl w B (ints ys)) :
    Calls Try.prog 51 #[.slice A xs.length c, .slice B ys.length d] w fun e w' => e = .returned (.bool (decide (xs = ys))) ∧ ∃ k, w' = w.drewN k := by
  by_cases hl : xs.length = ys.length
  · rw [← hl]
    exact eqIntS_len A B c d xs ys w hl hn hx hy
  · refine (eqIntS_ne A B _ _ c d w hn hm hl).mono fun e w' ⟨he, hw⟩ => ⟨?_, hw⟩
    rw [he]
    refine ret_bool ?_
    symm
    simp only [decide_eq_false_iff_not]
    rintro rfl
    exact hl rfl

theorem eqIntS_same (A B : Option Addr) (c d : Nat) (xs : List Int) (w : World) (hn : xs.length ≤ 9223372036854775807) (hx : Sl w A (ints xs)) (hy : Sl w B (ints xs)) :
    Calls Try.prog 51 #[.slice A xs.length c, .slice B xs.length d] w fun e w' => e = .returned (.bool true) ∧ ∃ k, w' = w.drewN k :=
  (eqIntS_any A B c d xs xs w hn hn hx hy).mono fun e w' ⟨he, hw⟩ => ⟨by rw [he]; simp, hw⟩

/-! ### markIntS, heldIntS -/
def marks (k : Int) (n : Nat) : List Int := (List.range n).map fun i : Nat => k + (i : Int)
theorem marks_length (k : Int) (n : Nat) : (marks k n).length = n := by simp [marks]
theorem marks_succ (k : Int) (n : Nat) : marks k (n + 1) = marks k n ++ [k + (n : Int)] := by simp [marks, List.range_succ]
theorem mark_step (k : Int) (zs : List Int) (i : Nat) (h : i < zs.length) :
    (ints (marks k i ++ zs.drop i)).set i (.int .i64 (k + i)) = ints (marks k (i + 1) ++ zs.drop (i + 1)) := by
  have h1 : zs.drop i = zs[i] :: zs.drop (i + 1) := List.drop_eq_getElem_cons h
  rw [h1, marks_succ, ints, ints, List.map_append, List.map_append, List.set_append_right _ _ (by simp [marks_length])]
  simp only [List.map_cons, marks_length, List.length_map, Nat.sub_self, List.set_cons_zero, List.map_append, List.append_assoc, List.map_nil, List.cons_append, List.nil_append]

theorem markIntS_any (A : Option Addr) (c : Nat) (zs : List Int) (k0 : Int) (base : Nat) (w : World) (hk0 : 0 ≤ k0) (hk1 : k0 ≤ 4000000000000000) (hn : zs.length ≤ 2000000000)
    (hown : w.ownsRow base 3 1 (.slice A zs.length c) zs.length (ints zs)) :
    Calls Try.prog 65 #[.slice A zs.length c, .int .i64 k0] w fun e w' =>
      e = .returned (.int .i64 (k0 + zs.length)) ∧ w'.ownsRow base 3 1 (.slice A zs.length c) zs.length (ints (marks k0 zs.length)) ∧ w.grownBy w' (Value.slice A zs.length c).ownBlock := by
  go_enter Try.func65, Try.ntmps65
  go_wp2
  go_loopw [1, 5] (fun kv i wr => ∃ k : Nat, k ≤ zs.length ∧ i = .int .i64 k ∧ kv = .int .i64 (k0 + k) ∧ wr.ownsRow base 3 1 (.slice A zs.length c) zs.length (ints (marks k0 k ++ zs.drop k)) ∧ w.grownBy wr (Value.slice A zs.length c).ownBlock) (fun _ i _ => zs.length - (intOf i).toNat)
  case atStart => exact ⟨0, by omega, rfl, by simp, by simpa [marks] using hown, World.grownBy.refl _ _⟩
  case round =>
    obtain ⟨k, hk, rfl, rfl, hownr, hgr⟩ := hrel
    clear hown
    by_cases hlt : k < zs.length
    · obtain ⟨g, rfl, hgb, hgs, hcell, hfr, hst⟩ := own_open hownr (i := k) (by simp [marks_length]; omega)
      have HS := mkHid (hst (.int .i64 (k0 + k)))
      have HG := mkHid (grown_setCell' hgr k (.int .i64 (k0 + k)))
      clear hst hgr hownr
      go_wp2
      go_roundw
      case rel => exact ⟨k + 1, by omega, by go_num, by congr 1; omega, by rw [← mark_step k0 zs k hlt]; exact HS.out, HG.out⟩
      case measure => simp [intOf]; omega
    · have : k = zs.length := by omega
      subst this
      have HO := mkHid hownr
      have HG := mkHid hgr
      clear hownr hgr
      go_wp2
      go_ret
      exact ⟨rfl, by simpa using HO.out, HG.out⟩
theorem heldIntS_any (A : Option Addr) (c : Nat) (n : Nat) (k0 : Int) (w : World) (hk0 : 0 ≤ k0) (hk1 : k0 ≤ 4000000000000000) (hn : n ≤ 2000000000) (hs : Sl w A (ints (marks k0 n))) :
    Calls Try.prog 67 #[.slice A n c, .int .i64 k0] w fun e w' => e = .returned (.int .i64 (k0 + n)) ∧ w = w' := by
  go_enter Try.func67, Try.ntmps67
  go_wp2
  go_loop [1, 5] (fun kv i => ∃ k : Nat, k ≤ n ∧ i = .int .i64 k ∧ kv = .int .i64 (k0 + k)) (fun _ i => n - (intOf i).toNat)
  case atStart => exact ⟨0, by omega, rfl, by simp⟩
  case round =>
    obtain ⟨k, hk, rfl, rfl⟩ := hrel
    by_cases hlt : k < n
    · obtain ⟨b, off, rfl, hc⟩ := hs.at_ (k := k) (by simpa [marks_length] using hlt)
      have h1 : w.cell? ⟨b, off + k, none⟩ = some (.int .i64 (k0 + k)) := hc k _ (by simp [marks, hlt])
      clear hc hs
      go_wp2
      go_round
      case rel => exact ⟨k + 1, by omega, by go_num, by congr 1; omega⟩
      case measure => simp [intOf]; omega
    · have : k = n := by omega
      subst this
      go_wp2
      go_ret
      exact ⟨rfl, rfl⟩
/-- what stands marked is held. -/
theorem ints_marked {w : World} {base : Nat} {e : TypeId} {A : Option Addr} {n c : Nat} {k : Int} (h : w.ownsRow base e 1 (.slice A n c) n (ints (marks k n))) : Sl w A (ints (marks k n)) := Sl.of_own h
end Go.Proofs.Ytjmiilneennjaaa
