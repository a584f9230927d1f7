/-
  Plain words on worlds, and laws of the walk in the form that the contracts of this seat use. No function of the program stands here.
-/
import Derived.WalkKit
import Derived.WalkSpells
import Derived.WalkLawsBesides
import Derived.BigQuiet
import Derived.Deep.QuietTactic
namespace Go.Proofs.Ytabpcbikbhbcaaa
open Go.RowKit

theorem mkHid {p : Prop} (h : p) : Hid p := h
theorem unHid {p : Prop} (h : Hid p) : p := h
theorem ret_bool {a b : Bool} (h : a = b) : Ending.returned (.bool a) = .returned (.bool b) := by rw [h]
theorem ret_int {k : IntKind} {a b : Int} (h : a = b) : Ending.returned (.int k a) = .returned (.int k b) := by rw [h]
theorem ret_eq {a b : Value} (h : a = b) : Ending.returned a = .returned b := by rw [h]

/-! ### a number within bounds -/
def inB (a b c : Int) : Bool := decide (b ≤ a) && decide (a ≤ c)
theorem inB_t {a b c : Int} (h : inB a b c = true) : b ≤ a ∧ a ≤ c := by simpa [inB] using h
theorem inB_f {a b c : Int} (h : inB a b c = false) : a < b ∨ c < a := by
  simp [inB] at h; omega
theorem inB_of {a b c : Int} (h : b ≤ a) (h' : a ≤ c) : inB a b c = true := by simp [inB, h, h']
theorem inB_not {a b c : Int} (h : a < b ∨ c < a) : inB a b c = false := by
  simp [inB]; omega

/-! ### what only adds to the world: 'Below' at the heap's own size -/
theorem below_drewN {B : Nat} {a w : World} (h : Below B a w) (n : Nat) : Below B a (w.drewN n) := ⟨h.os, h.tape, h.output, h.size, h.block⟩
theorem below_same {a w : World} (h : a = w) : Below a.heap.size a w := h ▸ Below.refl _ _
theorem below_then {a b c : World} (h : Below a.heap.size a b) (k : Below b.heap.size b c) : Below a.heap.size a c := h.trans (k.mono h.size)
theorem grown_drewN {a w : World} {row : Option Nat} (h : a.grownBy w row) (n : Nat) : a.grownBy (w.drewN n) row := ⟨h.os, h.tape, h.output, h.size, h.block⟩
theorem grown_of_below {a w : World} (h : Below a.heap.size a w) (row : Option Nat) : a.grownBy w row := ⟨h.os, h.tape, h.output, h.size, fun i hi _ => h.block i hi⟩
theorem grown_trans {a b c : World} {row : Option Nat} (h : a.grownBy b row) (k : b.grownBy c row) : a.grownBy c row :=
  ⟨k.os.trans h.os, k.tape.trans h.tape, k.output.trans h.output, Nat.le_trans h.size k.size, fun i hi hn => (k.block i (Nat.lt_of_lt_of_le hi h.size) hn).trans (h.block i hi hn)⟩
/-- what has turned one block of a later world's own only adds to an earlier one. -/
theorem below_grown {a b c : World} {row : Option Nat} (h : Below a.heap.size a b) (k : b.grownBy c row) (hr : ∀ g, row = some g → a.heap.size ≤ g) : Below a.heap.size a c :=
  h.grown k h.size hr

theorem add_flat (b off j : Nat) : (⟨b, off, none⟩ : Addr).add j = ⟨b, off + j, none⟩ := by unfold Addr.add; split <;> simp_all

theorem bcell {W w1 : World} (hb : Below W.heap.size W w1) : (∀ b o, b < W.heap.size → w1.cell? ⟨b, o, none⟩ = W.cell? ⟨b, o, none⟩) ∧ (∀ b o, b < W.heap.size → w1.frozen? ⟨b, o, none⟩ = W.frozen? ⟨b, o, none⟩) :=
  ⟨fun b o h => hb.cell (p := ⟨b, o, none⟩) h, fun b o h => hb.frozen (p := ⟨b, o, none⟩) h⟩

/-! ### a run of cells that is read -/
/-- At 'A' (if there is anything) the cells 'xs' lie in w. -/
def Sl (w : World) (A : Option Addr) (xs : List Value) : Prop :=
  xs = [] ∨ ∃ b off, A = some ⟨b, off, none⟩ ∧ ∀ j u, xs[j]? = some u → w.cell? ⟨b, off + j, none⟩ = some u

theorem Sl.nil (w : World) (A : Option Addr) : Sl w A [] := .inl rfl
theorem Sl.at_ {w : World} {A : Option Addr} {xs : List Value} (h : Sl w A xs) {k : Nat} (hk : k < xs.length) :
    ∃ b off, A = some ⟨b, off, none⟩ ∧ ∀ j u, xs[j]? = some u → w.cell? ⟨b, off + j, none⟩ = some u := by
  rcases h with rfl | h
  · simp at hk
  · exact h
theorem Sl.keep {w w' : World} {A : Option Addr} {xs : List Value} (h : Sl w A xs) (hk : ∀ p u, w.cell? p = some u → w'.cell? p = some u) : Sl w' A xs := by
  rcases h with rfl | ⟨b, off, rfl, hc⟩
  · exact .inl rfl
  · exact .inr ⟨b, off, rfl, fun j u hu => hk _ _ (hc j u hu)⟩
theorem Sl.below {w w' : World} {A : Option Addr} {xs : List Value} (h : Sl w A xs) (hb : Below w.heap.size w w') : Sl w' A xs :=
  h.keep fun p _ hp => (hb.cell (World.block_lt_of_cell? w p hp)).trans hp
theorem Sl.drewN {w : World} {A : Option Addr} {xs : List Value} (h : Sl w A xs) (n : Nat) : Sl (w.drewN n) A xs := h
theorem Sl.drew {w : World} {A : Option Addr} {xs : List Value} (h : Sl w A xs) : Sl w.drew A xs := h
theorem Sl.alloc {w : World} {A : Option Addr} {xs : List Value} (h : Sl w A xs) (o : Obj) : Sl (w.alloc o) A xs :=
  h.below ((Below.refl _ _).alloc (Nat.le_refl _) o)
/-- Where one block has turned: the cells lie in another. -/
theorem Sl.grown {w w' : World} {A : Option Addr} {xs : List Value} {row : Option Nat} (h : Sl w A xs) (hg : w.grownBy w' row) (hne : ∀ a, A = some a → some a.block ≠ row) : Sl w' A xs := by
  rcases h with rfl | ⟨b, off, rfl, hc⟩
  · exact .inl rfl
  · exact .inr ⟨b, off, rfl, fun j u hu => hg.cell (hc j u hu) (hne ⟨b, off, none⟩ rfl)⟩
/-- Two rows, the second one younger than the world in which the first lay: what turns the second leaves the first. -/
theorem Sl.apart {w w' w'' : World} {A : Option Addr} {xs : List Value} {base : Nat} {e : TypeId} {size n : Nat} {v : Value} {ys : List Value} (h : Sl w A xs) (hb : Below w.heap.size w w') (hbase : w.heap.size ≤ base)
    (hown : w'.ownsRow base e size v n ys) (hg : w'.grownBy w'' v.ownBlock) : Sl w'' A xs := by
  rcases h with rfl | ⟨b, off, rfl, hc⟩
  · exact .inl rfl
  · refine .inr ⟨b, off, rfl, fun j u hu => ?_⟩
    have h0 := hc j u hu
    have hlt := World.block_lt_of_cell? w _ h0
    have h1 := (hb.cell hlt).trans h0
    refine hg.cell h1 (fun e => ?_)
    have := (hown.lt b e.symm).1
    simp at hlt
    omega
theorem Sl.of_own {w : World} {base : Nat} {e : TypeId} {size n c : Nat} {A : Option Addr} {xs : List Value} (h : w.ownsRow base e size (.slice A n c) n xs) : Sl w A xs := by
  rcases h.2 with ⟨_, h0⟩ | ⟨g, cap, cur, hv, _⟩
  · subst h0
    exact .inl (List.eq_nil_of_length_eq_zero (by simpa using h.1))
  · injection hv with hA _ _
    subst hA
    refine .inr ⟨g, 0, rfl, fun j u hu => ?_⟩
    have := h.cells (g := g) rfl j u hu
    simpa [add_flat] using this
theorem own_form {w : World} {base : Nat} {e : TypeId} {size n : Nat} {v : Value} {xs : List Value} (h : w.ownsRow base e size v n xs) : ∃ A c, v = .slice A n c := by
  rcases h.2 with ⟨rfl, rfl⟩ | ⟨g, cap, cur, rfl, _⟩
  · exact ⟨none, 0, rfl⟩
  · exact ⟨_, cap, rfl⟩

theorem own_drewN {w : World} {base : Nat} {e : TypeId} {size n : Nat} {v : Value} {xs : List Value} (h : w.ownsRow base e size v n xs) (k : Nat) : (w.drewN k).ownsRow base e size v n xs := h
theorem grown_setCell (w : World) (g i : Nat) (u : Value) : w.grownBy (w.setCell ⟨g, i, none⟩ u) (some g) :=
  ⟨rfl, rfl, rfl, by simp [World.setCell], fun k _ hne => Below.heap_setCell w ⟨g, i, none⟩ u k (fun e => hne (by rw [e]))⟩
theorem grown_setCell' {w w1 : World} {g : Nat} (h : w.grownBy w1 (some g)) (i : Nat) (u : Value) : w.grownBy (w1.setCell ⟨g, i, none⟩ u) (some g) :=
  grown_trans h (grown_setCell w1 g i u)
/-- an owned row, opened at one of its cells: the address, the cell, and what a store makes of the row. -/
theorem own_open {w : World} {base : Nat} {e : TypeId} {size n c : Nat} {A : Option Addr} {xs : List Value} (h : w.ownsRow base e size (.slice A n c) n xs) {i : Nat} (hi : i < xs.length) :
    ∃ g, A = some ⟨g, 0, none⟩ ∧ base ≤ g ∧ g < w.heap.size ∧ w.cell? ⟨g, i, none⟩ = some xs[i] ∧ w.frozen? ⟨g, i, none⟩ = false ∧
      ∀ u, (w.setCell ⟨g, i, none⟩ u).ownsRow base e size (.slice A n c) n (xs.set i u) := by
  have hlen := h.1
  rcases h.2 with ⟨_, h0⟩ | ⟨g, cap, cur, hv, hg⟩
  · subst h0; simp at hlen; subst hlen; simp at hi
  · have hv0 := hv
    injection hv with hA _ hc
    subst hA
    subst hc
    have hlt := h.lt g rfl
    refine ⟨g, rfl, hlt.1, hlt.2, ?_, h.frozenAt i, fun u => (h.stored i u).1⟩
    rw [h.cellAt i (by omega)]
    simp [hi]

theorem own_below {w w' : World} {base : Nat} {e : TypeId} {size n : Nat} {v : Value} {xs : List Value} (h : w.ownsRow base e size v n xs) (hb : Below w.heap.size w w') : w'.ownsRow base e size v n xs :=
  h.kept (grown_of_below hb none) (by cases hv : v.ownBlock <;> simp)
/-- what the laws' size counters hand back: what is left of l behind n, or -1. -/
def LeftOver (n : Nat) (l : Int) (w : World) (e : Ending) (w' : World) : Prop :=
  (((n : Int) ≤ l ∧ e = .returned (.int .i64 (l - n))) ∨ (l < n ∧ e = .returned (.int .i64 (-1)))) ∧ w = w'

theorem set_take_fill {α : Type} (xs : List α) (z : α) (k : Nat) (h : k < xs.length) : (xs.take k ++ List.replicate (xs.length - k) z).set k xs[k] = xs.take (k + 1) ++ List.replicate (xs.length - (k + 1)) z := by
  have hl : (xs.take k).length = k := by simp; omega
  rw [List.set_append_right _ _ (by omega), List.take_succ_eq_append_getElem h, hl, Nat.sub_self, show xs.length - k = (xs.length - (k + 1)) + 1 from by omega, List.replicate_succ]
  simp only [List.set_cons_zero, List.append_assoc, List.cons_append, List.nil_append]

theorem grown_below {a b c : World} {row : Option Nat} (h : a.grownBy b row) (k : Below b.heap.size b c) : a.grownBy c row := grown_trans h (grown_of_below k row)
theorem grown_app {a b c : World} {br : Nat} {v : Value} {base : Nat} {e : TypeId} {size n : Nat} {xs : List Value} (h : a.grownBy b (some br)) (hown : b.ownsRow base e size v n xs) (hbase : a.heap.size ≤ base) (k : b.grownBy c v.ownBlock) : a.grownBy c (some br) :=
  ⟨k.os.trans h.os, k.tape.trans h.tape, k.output.trans h.output, Nat.le_trans h.size k.size, fun i hi hn =>
    (k.block i (Nat.lt_of_lt_of_le hi h.size) (fun e => by have := (hown.lt i e.symm).1; omega)).trans (h.block i hi hn)⟩
/-! ### the row of an element's type -/
structure ElemI (P : Program) (t e : TypeId) (z : Value) (size bytes : Nat) : Prop where
  ht : P.underlying t = some (.slice e)
  hi : (P.info? e).map (fun i => (i.zero, i.size, i.bytes)) = some (some z, size, bytes)
  hz : z.cells.size = size
  hs : 0 < size

/-- append onto a row of the call's own. -/
theorem wpList_app {P : Program} {w : World} {ops : Array Oper} {rest : List Oper} {o : Oper} {a : Act} {Q : Exit → Act → World → Prop} {t e : TypeId} {z : Value} {size bytes : Nat} (I : ElemI P t e z size bytes)
    {base : Nat} {v : Value} {n : Nat} {xs : List Value} (hown : w.ownsRow base e size v n xs)
    {ad : Addr} {m c : Nat} {news : List Value} (hnews : ∀ j u, news[j]? = some u → w.cell? (ad.add j) = some u) (hl : news.length = m * size) (h1 : ∀ u ∈ news, u.oneCell' = true)
    (hbytes : (n + m) * bytes ≤ 140737488355328) (h63 : n + m ≤ 9223372036854775807) (hbase : base ≤ w.heap.size)
    {s x : Operand} (hgd : o.guard = none) (ho : o.op = .call { callee := .builtin .append, args := #[s, x], argTypes := #[t, t] }) (hs : a.eval s = v) (hx : a.eval x = .slice (some ad) m c)
    (h : ∀ A' c' w', w'.ownsRow base e size (.slice A' (n + m) c') (n + m) (xs ++ news) → w.grownBy w' v.ownBlock → wpList P ops Q rest (a.put o.dst (.slice A' (n + m) c')) w') : wpList P ops Q (o :: rest) a w := by
  obtain ⟨i, hi, hz0, hz1, hz2⟩ := info_parts I.hi
  refine wpList_append_own w hgd s x t ho base e i z size bytes I.ht hi hz0 hz1 hz2 I.hz I.hs v n xs hs hown ad m c news hx hl hnews h1 (by simp only [maxLen]; omega) hbytes hbase ?_
  intro v' w' hown' hg _
  obtain ⟨A', c', rfl⟩ := own_form hown'
  exact h A' c' w' hown' hg

/-- the cells of a new block. -/
theorem newCells (w : World) (us : List Value) (e : TypeId) : ∀ j x, us[j]? = some x → (w.alloc (.cells us.toArray e)).cell? ((⟨w.heap.size, 0, none⟩ : Addr).add j) = some x := by
  intro j x hx
  rw [add_flat, cell_of_row _ w.heap.size _ us.toArray e (0, 0) (heap_alloc_new w _)]
  simpa using hx

/-! ### a region that draws its order, all of whose operations yield the same in every world that adds to this one -/
set_option linter.unusedVariables false
/-- the worlds that add to w. -/
def Ext (w : World) : Type := { u : World // Below w.heap.size w u }
instance extNonempty (w : World) : Nonempty (Ext w) := ⟨⟨w, Below.refl _ _⟩⟩
theorem Ext.keeps {w : World} (u : Ext w) {p : Addr} {v : Value} (h : w.cell? p = some v) : u.1.cell? p = some v :=
  (u.2.cell (World.block_lt_of_cell? w p h)).trans h
theorem wp_region_ext {P : Program} {id : Nat} {Q : Exit → Act → World → Prop} {a : Act} {w : World} {l : List Oper} (hm : P.follows .mixedOrders = true) (hB : Region.lexB .any l.toArray = true)
    (h : wpQuiet P l.toArray (fun w' => ∃ u : Ext w, w' = u.1) (fun a' => ∀ w', (∃ u : Ext w, w' = u.1) → Q .normal a' w') l a) : (Code.region id l.toArray true).wp P Q a w :=
  wp_region_quiet (C := fun w' => ∃ u : Ext w, w' = u.1) hm hB ⟨⟨{ w with drawn := w.drawn + 1 }, ⟨rfl, rfl, rfl, Nat.le_refl _, fun _ _ => rfl⟩⟩, rfl⟩ (by simpa using h)
/-- a callee's contract, met in such a world. -/
theorem ext_call {P : Program} {f : FuncId} {args : Array Value} {w : World} {u : Ext w} {v : Value} (h : Calls P f args u.1 fun e w' => e = .returned v ∧ Below u.1.heap.size u.1 w') :
    Calls P f args u.1 fun e w' => e = .returned v ∧ ∃ u' : Ext w, w' = u'.1 :=
  h.mono fun e w' ⟨he, hb⟩ => ⟨he, ⟨w', below_then u.2 hb⟩, rfl⟩
theorem ext_call_same {P : Program} {f : FuncId} {args : Array Value} {w : World} {u : Ext w} {v : Value} (h : Calls P f args u.1 fun e w' => e = .returned v ∧ u.1 = w') :
    Calls P f args u.1 fun e w' => e = .returned v ∧ ∃ u' : Ext w, w' = u'.1 :=
  h.mono fun e w' ⟨he, hb⟩ => ⟨he, u, hb.symm⟩
theorem ext_call_drewN {P : Program} {f : FuncId} {args : Array Value} {w : World} {u : Ext w} {v : Value} (h : Calls P f args u.1 fun e w' => e = .returned v ∧ ∃ k, w' = u.1.drewN k) :
    Calls P f args u.1 fun e w' => e = .returned v ∧ ∃ u' : Ext w, w' = u'.1 :=
  h.mono fun e w' ⟨he, k, hk⟩ => ⟨he, ⟨w', by rw [hk]; exact below_drewN u.2 k⟩, rfl⟩
theorem ext_end {w : World} {Q : World → Prop} (h : ∀ X, Below w.heap.size w X → Q X) : ∀ w', (∃ u : Ext w, w' = u.1) → Q w' := by
  rintro _ ⟨u, rfl⟩
  exact h u.1 u.2
/-- the world gets a name. -/
theorem name_world {P : Program} {c : Code} {Q : Exit → Act → World → Prop} {a : Act} {w : World} (h : ∀ W, W = w → c.wp P Q a W) : c.wp P Q a w := h w rfl

end Go.Proofs.Ytabpcbikbhbcaaa
