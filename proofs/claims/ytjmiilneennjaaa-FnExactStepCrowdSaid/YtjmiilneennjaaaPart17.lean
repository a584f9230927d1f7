/-
  Parts of a proof: CSpecStep.
-/
import Derived.Test.YtjmiilneennjaaaPart15
import Derived.Test.YtjmiilneennjaaaPart16
import Derived.Test.YtjmiilneennjaaaPart06
import Derived.Test.YtjmiilneennjaaaPart10
import Derived.Deep.Cut
import Derived.Maps.AppendAt
import Derived.StillTailTactics
namespace Go.Proofs.Ytjmiilneennjaaa
open Go.RowKit
set_option maxHeartbeats 2000000
set_option maxRecDepth 100000
set_option linter.unusedVariables false

/-- a lane in memory of one's own; the memory has turned in its row. -/
def StepRet (base : Nat) (m : IR) (s' : LS) (mem' : List Int) (w : World) (e : Ending) (w' : World) : Prop :=
  ∃ l' : Lt, e = .returned (ltV l') ∧ l'.st = s' ∧ Apt w' w.heap.size [irR l', irT l'] ∧ w'.ownsRow base 3 1 (irV ⟨m.a, m.c, mem'⟩) mem'.length (ints mem') ∧ mem'.length = m.zs.length ∧ w.grownBy w' (irV m).ownBlock
abbrev nilIR : IR := ⟨none, 0, []⟩
theorem grown_thenB {w W W' : World} {row : Option Nat} (h : w.grownBy W row) (hb : Below w.heap.size W W') : w.grownBy W' row :=
  ⟨hb.os.trans h.os, hb.tape.trans h.tape, hb.output.trans h.output, Nat.le_trans h.size hb.size, fun i hi hn => (hb.block i hi).trans (h.block i hi hn)⟩
theorem below_grownAny {w w' : World} {row : Option Nat} (h : Below w.heap.size w w') : w.grownBy w' row := ⟨h.os, h.tape, h.output, h.size, fun i hi _ => h.block i hi⟩
/-- the box of a lane, as a crowd of one lane. -/
theorem one_crowd {w : World} {ws X : Nat} {l : Lt} (h : w.heap[X]? = some (.cells #[ltR l, .int .i64 l.at_, ltT l, .bool l.wt] 52 (0, 0))) (hX : ws ≤ X) (ha : Apt w ws [irR l, irT l]) : CrAt w ws (some ⟨X, 0, none⟩) 1 [l] nilIR := by
  refine ⟨⟨by rw [tflat_length], .inr ⟨X, 1, #[ltR l, .int .i64 l.at_, ltT l, .bool l.wt], rfl, hX, h, by simp, by simp [maxLen], by simp, ?_⟩⟩, ?_⟩
  · simp [tflat, ltCells]
  · refine ⟨fun r hr => ?_, fun i j hi hj hne g h1 h2 => ?_⟩
    · rcases List.mem_cons.1 hr with rfl | hr
      · exact World.ownsRow_nil _ _ _ _
      · exact ha.1 r hr
    · cases i with
      | zero => cases h1
      | succ i =>
        cases j with
        | zero => cases h2
        | succ j =>
          simp only [List.getElem_cons_succ] at h1 h2
          exact ha.2 i j (by simp [rowsL] at hi ⊢; omega) (by simp [rowsL] at hj ⊢; omega) (by omega) g h1 h2
theorem CrAt.one {w : World} {ws X c : Nat} {l : Lt} {m : IR} (h : CrAt w ws (some ⟨X, 0, none⟩) c [l] m) : Apt w ws [irR l, irT l] :=
  h.2.sub (fun i => i + 1) (fun i hi => ⟨by simp [rowsL] at hi ⊢; omega, rfl⟩) (fun i j _ _ e => by omega)
/-- how the world of a step looks: the box of x, the result's, that of the copy l, the instruction's. -/
structure Mid (w W : World) (x l : Lt) (X Y : Nat) (y : Cd) : Prop where
  cr : CrAt W w.heap.size (some ⟨X, 0, none⟩) 1 [l] nilIR
  b4 : W.heap[w.heap.size]? = some (.cells #[ltR x, .int .i64 x.at_, ltT x, .bool x.wt] 52 (0, 0))
  b8 : W.heap[w.heap.size + 1]? = some (.cells #[.slice none 0 0, .int .i64 0, .slice none 0 0, .bool false] 52 (0, 0))
  bY : W.heap[Y]? = some (.cells #[.int .i64 y.op, .int .i64 y.a, .int .i64 y.b, .int .i64 y.c] 69 (0, 0))
  hX : w.heap.size + 1 < X
  hb : Below w.heap.size w W
section
variable {w W W' : World} {x l : Lt} {X Y base : Nat} {y : Cd} {m : IR}
theorem Mid.below (h : Mid w W x l X Y y) (hb : Below W.heap.size W W') : Mid w W' x l X Y y :=
  ⟨h.cr.below hb, (hb.block _ (Array.getElem?_eq_some_iff.1 h.b4).1).trans h.b4, (hb.block _ (Array.getElem?_eq_some_iff.1 h.b8).1).trans h.b8, (hb.block _ (Array.getElem?_eq_some_iff.1 h.bY).1).trans h.bY, h.hX, h.hb.trans (hb.mono h.hb.size)⟩
theorem Mid.cx (h : Mid w W x l X Y y) : (W.cell? ⟨w.heap.size, 0, none⟩ = some (ltR x) ∧ W.cell? ⟨w.heap.size, 1, none⟩ = some (.int .i64 x.at_) ∧ W.cell? ⟨w.heap.size, 2, none⟩ = some (ltT x) ∧ W.cell? ⟨w.heap.size, 3, none⟩ = some (.bool x.wt)) := (box4e h.b4).1
theorem Mid.f8 (h : Mid w W x l X Y y) : W.frozen? ⟨w.heap.size + 1, 0, none⟩ = false ∧ W.frozen? ⟨w.heap.size + 1, 1, none⟩ = false ∧ W.frozen? ⟨w.heap.size + 1, 2, none⟩ = false ∧ W.frozen? ⟨w.heap.size + 1, 3, none⟩ = false := (box4e h.b8).2
theorem Mid.cY (h : Mid w W x l X Y y) : W.cell? ⟨Y, 0, none⟩ = some (.int .i64 y.op) ∧ W.cell? ⟨Y, 1, none⟩ = some (.int .i64 y.a) ∧ W.cell? ⟨Y, 2, none⟩ = some (.int .i64 y.b) ∧ W.cell? ⟨Y, 3, none⟩ = some (.int .i64 y.c) := (box4e h.bY).1
theorem Mid.cX (h : Mid w W x l X Y y) : (W.cell? ⟨X, 0, none⟩ = some (ltR l) ∧ W.cell? ⟨X, 1, none⟩ = some (.int .i64 l.at_) ∧ W.cell? ⟨X, 2, none⟩ = some (ltT l) ∧ W.cell? ⟨X, 3, none⟩ = some (.bool l.wt)) ∧
    (W.frozen? ⟨X, 0, none⟩ = false ∧ W.frozen? ⟨X, 1, none⟩ = false ∧ W.frozen? ⟨X, 2, none⟩ = false ∧ W.frozen? ⟨X, 3, none⟩ = false) := by
  have := h.cr.cells (k := 0) (by simp)
  simpa using this
theorem grown_at {w a b : World} {g : Nat} (h : Below w.heap.size w a) (k : a.grownBy b (some g)) (hg : w.heap.size ≤ g) : Below w.heap.size w b := h.grown k h.size (fun g' e => by injection e with e; omega)
/-- the lane is handed back. -/
theorem step_end {s' : LS} {mem' : List Int} (hc : CrAt W w.heap.size (some ⟨X, 0, none⟩) 1 [l] nilIR) (h8 : ∃ cs, W.heap[w.heap.size + 1]? = some (.cells cs 52 (0, 0))) (hs : l.st = s')
    (hm : W.ownsRow base 3 1 (irV ⟨m.a, m.c, mem'⟩) mem'.length (ints mem')) (hl : mem'.length = m.zs.length) (hg : w.grownBy W (irV m).ownBlock) (a b c d : Value) :
    StepRet base m s' mem' w (.returned (ltV l)) ((((W.setCell ⟨w.heap.size + 1, 0, none⟩ a).setCell ⟨w.heap.size + 1, 1, none⟩ b).setCell ⟨w.heap.size + 1, 2, none⟩ c).setCell ⟨w.heap.size + 1, 3, none⟩ d) := by
  obtain ⟨cs, h8⟩ := h8
  have hgs := grown_setCell' (grown_setCell' (grown_setCell' (grown_setCell W (w.heap.size + 1) 0 a) 1 b) 2 c) 3 d
  refine ⟨l, rfl, hs, hc.one.other hgs h8 (by decide), own_grown' hm hgs (fun g e1 e2 => by injection e2 with e2; subst e2; exact own_ne_heapA hm h8 (by decide) e1), hl, ?_⟩
  have hsz := hg.size
  exact ⟨hgs.os.trans hg.os, hgs.tape.trans hg.tape, hgs.output.trans hg.output, Nat.le_trans hg.size hgs.size, fun i hi hn => (hgs.block i (by omega) (fun e => by injection e with e; omega)).trans (hg.block i hi hn)⟩
theorem step_endB {s' : LS} (hm0 : w.ownsRow base 3 1 (irV m) m.zs.length (ints m.zs)) (hM : Mid w W x l X Y y) (hs : l.st = s') (a b c d : Value) :
    StepRet base m s' m.zs w (.returned (ltV l)) ((((W.setCell ⟨w.heap.size + 1, 0, none⟩ a).setCell ⟨w.heap.size + 1, 1, none⟩ b).setCell ⟨w.heap.size + 1, 2, none⟩ c).setCell ⟨w.heap.size + 1, 3, none⟩ d) :=
  step_end hM.cr ⟨_, hM.b8⟩ hs (own_below hm0 hM.hb) rfl (below_grownAny hM.hb) a b c d
/-- a store into the copy's own cells that leaves its rows. -/
theorem Mid.put (h : Mid w W x l X Y y) (l' : Lt) (j : Nat) (v : Value) (hj : j < 4) (hc : ltCells l' = (ltCells l).set j v) (h1 : irR l' = irR l) (h2 : irT l' = irT l) (hY : X ≠ Y) : Mid w (W.setCell ⟨X, j, none⟩ v) x l' X Y y := by
  have hX := h.hX
  have hg := grown_setCell W X j v
  have h0 := h.cr.put (k := 0) (by simp) l' j v hj hc h1 h2
  simp only [Nat.zero_mul, Nat.zero_add, List.set_cons_zero] at h0
  refine ⟨h0, (hg.block _ (Array.getElem?_eq_some_iff.1 h.b4).1 (fun e => by injection e with e; omega)).trans h.b4, (hg.block _ (Array.getElem?_eq_some_iff.1 h.b8).1 (fun e => by injection e with e; omega)).trans h.b8, (hg.block _ (Array.getElem?_eq_some_iff.1 h.bY).1 (fun e => by injection e with e; omega)).trans h.bY, h.hX, ?_⟩
  exact grown_at h.hb hg (by omega)
theorem Mid.pc (h : Mid w W x l X Y y) (z : Int) (hY : X ≠ Y) : Mid w (W.setCell ⟨X, 1, none⟩ (.int .i64 z)) x ⟨l.ra, l.rc, l.zs, z, l.ta, l.tc, l.ts, l.wt⟩ X Y y := h.put _ 1 _ (by omega) rfl rfl rfl hY
theorem Mid.wt (h : Mid w W x l X Y y) (b : Bool) (hY : X ≠ Y) : Mid w (W.setCell ⟨X, 3, none⟩ (.bool b)) x ⟨l.ra, l.rc, l.zs, l.at_, l.ta, l.tc, l.ts, b⟩ X Y y := h.put _ 3 _ (by omega) rfl rfl rfl hY
end
/-- where a block ends and is divided, as the reference reckons it. -/
theorem l4End_at {A : Option Addr} {c : Nat} {xs : List Cd} {p : Nat} {w : World} (hv : progValid xs = true) (hp : p < xs.length) (ho : opensB (opAt (ops xs) p) = true) (hs : Sl w A (cflat xs)) :
    ∃ (e : Nat) (ot : Int), Calls Try.prog 92 #[.slice A xs.length c, .int .i64 p] w (fun r w' => r = .returned (.tuple #[.int .i64 e, .int .i64 ot]) ∧ Below w.heap.size w w') ∧ endAt xs p = e ∧ e ≤ 40 ∧ -1 ≤ ot ∧ ot ≤ 40 ∧ forkTo (ops xs) p = (if 0 ≤ ot then ot + 1 else (e : Int) + 1) := by
  have h40 := (progValid_yes hv).1
  have hbal := (progValid_yes hv).2.2
  obtain ⟨e, e1, e2, e3, _, _⟩ := open_end hv hp ho
  have hoth := oth_bound (ops xs) p (ops xs).length
  have hlen := ops_len xs
  refine ⟨e, oth (ops xs) p (ops xs).length, ?_, e1, by omega, by omega, by omega, ?_⟩
  · have h := l4End_any A c xs p w (by omega) hbal hp ho hs
    unfold endAt at e1
    rw [e1] at h
    exact h
  · unfold forkTo
    unfold endAt at e1
    rw [e1]
theorem l4Around_at {A : Option Addr} {c : Nat} {xs : List Cd} {p b : Nat} {w : World} (hv : progValid xs = true) (hp : p < xs.length) (hl : (stk (ops xs) p).getLast? = some b) (hs : Sl w A (cflat xs)) :
    Calls Try.prog 93 #[.slice A xs.length c, .int .i64 p] w (fun r w' => r = .returned (.int .i64 b) ∧ Below w.heap.size w w') := by
  have h40 := (progValid_yes hv).1
  have h := l4Around_any A c xs p w (by omega) (by omega) hs
  rw [arnd_top (progValid_ok hv (by omega)), topOf_some hl] at h
  exact h
theorem reg_at {w W : World} {x : Lt} (hi : LaneIn w x) (h4 : x.zs.length = 4) (hb : Below w.heap.size w W) {r : Nat} (hr : r ≤ 3) : ∃ b off, x.ra = some ⟨b, off, none⟩ ∧ W.cell? ⟨b, off + r, none⟩ = some (.int .i64 (rg x.zs r)) := by
  obtain ⟨b, off, h1, h2⟩ := (hi.1.1.below hb).at_ (k := r) (by simp [ints]; omega)
  have hlt : r < x.zs.length := by omega
  refine ⟨b, off, h1, ?_⟩
  rw [h2 r _ (ints_at hlt)]
  unfold rg
  rw [Int.toNat_natCast, List.getD, List.getElem?_eq_getElem hlt]
  rfl
theorem code_cells {W : World} {lb lo : Nat} {xs : List Cd} (h : Sl W (some ⟨lb, lo, none⟩) (cflat xs)) {k : Nat} (hk : k < xs.length) : W.cell? ⟨lb, lo + k * 4, none⟩ = some (.int .i64 (codeAt xs k).op) ∧ W.cell? ⟨lb, lo + k * 4 + 1, none⟩ = some (.int .i64 (codeAt xs k).a) ∧ W.cell? ⟨lb, lo + k * 4 + 2, none⟩ = some (.int .i64 (codeAt xs k).b) ∧ W.cell? ⟨lb, lo + k * 4 + 3, none⟩ = some (.int .i64 (codeAt xs k).c) := by
  obtain ⟨b, off, hA, e0, e1, e2, e3⟩ := h.cd hk
  rw [← codeAt_at hk] at e0 e1 e2 e3
  injection hA with hA
  injection hA with h1 h2
  subst h1 h2
  exact ⟨e0, e1, e2, e3⟩
/-- a row of numbers of the copy's has turned. -/
theorem Mid.turned {w W W' : World} {x l l' : Lt} {X Y T : Nat} {y : Cd} (h : Mid w W x l X Y y) (hc : CrAt W' w.heap.size (some ⟨X, 0, none⟩) 1 [l'] nilIR) (hg : W.grownBy W' (some T)) {cs : Array Value} {fr : Nat × Nat} (hT : W.heap[T]? = some (.cells cs 3 fr)) (hTw : w.heap.size ≤ T) : Mid w W' x l' X Y y := by
  have hk : ∀ {i : Nat} {cs' : Array Value} {ty : TypeId}, W.heap[i]? = some (.cells cs' ty (0, 0)) → ty ≠ 3 → W'.heap[i]? = some (.cells cs' ty (0, 0)) := fun {i cs' ty} hi hne =>
    (hg.block i (Array.getElem?_eq_some_iff.1 hi).1 (fun e => by
      injection e with e
      subst e
      rw [hi] at hT
      simp only [Option.some.injEq, Obj.cells.injEq] at hT
      exact hne hT.2.1)).trans hi
  exact ⟨hc, hk h.b4 (by decide), hk h.b8 (by decide), hk h.bY (by decide), h.hX, grown_at h.hb hg hTw⟩
/-- the turns of the copy lie in another row, and its cell is set to it. -/
theorem Mid.turnsTo {w W W' : World} {x l : Lt} {X Y : Nat} {y : Cd} (h : Mid w W x l X Y y) {A' : Option Addr} {c' : Nat} {ts : List Int} (hg : W.grownBy W' (ltT l).ownBlock) (ho : W'.ownsRow w.heap.size 3 1 (.slice A' ts.length c') ts.length (ints ts))
    (hb : ∀ g, (Value.slice A' ts.length c').ownBlock = some g → (ltT l).ownBlock = some g ∨ W.heap.size ≤ g) (hY : X ≠ Y) : Mid w (W'.setCell ⟨X, 2, none⟩ (.slice A' ts.length c')) x ⟨l.ra, l.rc, l.zs, l.at_, A', c', ts, l.wt⟩ X Y y := by
  have h1 := h.cr.turns (k := 0) (by simp) hg ho hb
  simp only [List.getElem_cons_zero, List.set_cons_zero, Nat.zero_mul, Nat.zero_add] at h1
  have ht : W.ownsRow w.heap.size 3 1 (ltT l) l.ts.length (ints l.ts) := h.cr.t (k := 0) (by simp)
  have hX := h.hX
  have hk : ∀ {i : Nat} {cs' : Array Value} {ty : TypeId}, W.heap[i]? = some (.cells cs' ty (0, 0)) → ty ≠ 3 → i ≠ X → (W'.setCell ⟨X, 2, none⟩ (.slice A' ts.length c')).heap[i]? = some (.cells cs' ty (0, 0)) := fun {i cs' ty} hi hne hiX => by
    have e1 : W'.heap[i]? = some (.cells cs' ty (0, 0)) := (hg.block i (Array.getElem?_eq_some_iff.1 hi).1 (fun e => own_ne_heapA ht hi (fun e' => hne e'.symm) e.symm)).trans hi
    exact ((grown_setCell W' X 2 (.slice A' ts.length c')).block i (Array.getElem?_eq_some_iff.1 e1).1 (fun e => by injection e with e; exact hiX e)).trans e1
  refine ⟨h1, hk h.b4 (by decide) (by omega), hk h.b8 (by decide) (by omega), hk h.bY (by decide) (fun e => hY e.symm), h.hX, ?_⟩
  have hb1 : Below w.heap.size w W' := h.hb.grown hg h.hb.size (fun g e => (ht.lt g e).1)
  exact grown_at hb1 (grown_setCell W' X 2 _) (by omega)
theorem Mid.pop {w W : World} {x l : Lt} {X Y T : Nat} {y : Cd} (h : Mid w W x l X Y y) (hT : l.ta = some ⟨T, 0, none⟩) {d : List Int} (hd : d = l.ts.dropLast) (hn : l.ts ≠ []) (hY : X ≠ Y) : Mid w (W.setCell ⟨X, 2, none⟩ (.slice (some ⟨T, 0, none⟩) d.length l.tc)) x ⟨l.ra, l.rc, l.zs, l.at_, some ⟨T, 0, none⟩, l.tc, d, l.wt⟩ X Y y := by
  have ho : W.ownsRow w.heap.size 3 1 (ltT l) l.ts.length (ints l.ts) := h.cr.t (k := 0) (by simp)
  have hdl : l.ts.length = d.length + 1 := by
    have := List.length_pos_iff.2 hn
    rw [hd, List.length_dropLast]; omega
  have hpop : W.ownsRow w.heap.size 3 1 (.slice (some ⟨T, 0, none⟩) d.length l.tc) d.length (ints d) := by
    have ho2 : W.ownsRow w.heap.size 3 1 (.slice (some ⟨T, 0, none⟩) (d.length + 1) l.tc) (d.length + 1) (ints d ++ [.int .i64 (l.ts.getLast hn)]) := by
      have e1 : ints l.ts = ints d ++ [.int .i64 (l.ts.getLast hn)] := by
        conv => lhs; rw [← List.dropLast_concat_getLast hn]
        rw [hd]
        simp [ints]
      rw [← e1, ← hdl, ← hT]
      exact ho
    exact ownsRow_pop (by simp [ints]) ho2
  exact h.turnsTo (World.grownBy.refl _ _) hpop (fun g e => .inl (by rw [ltT, hT]; exact e)) hY
/-- a store into the turns of the copy. -/
theorem Mid.turn {w W : World} {x l : Lt} {X Y T : Nat} {y : Cd} (h : Mid w W x l X Y y) (hT : l.ta = some ⟨T, 0, none⟩) (i : Nat) (z : Int) : Mid w (W.setCell ⟨T, i, none⟩ (.int .i64 z)) x ⟨l.ra, l.rc, l.zs, l.at_, l.ta, l.tc, l.ts.set i z, l.wt⟩ X Y y := by
  have ho : W.ownsRow w.heap.size 3 1 (ltT l) l.ts.length (ints l.ts) := h.cr.t (k := 0) (by simp)
  have hblk : (ltT l).ownBlock = some T := by rw [ltT, hT]; rfl
  obtain ⟨cs, hc⟩ := own_heapA ho hblk
  have h1 := h.cr.turn (k := 0) (by simp) hT i z
  simp only [List.getElem_cons_zero, List.set_cons_zero] at h1
  exact h.turned h1 (grown_setCell W T i _) hc (ho.lt T hblk).1
/-- append onto a row of one's own, with the place where it lies afterwards. -/
theorem wpList_appAt {P : Program} {w : World} {ops : Array Oper} {rest : List Oper} {o : Oper} {a : Act} {Q : Exit → Act → World → Prop} {t e : TypeId} {z : Value} {size bytes : Nat} (I : ElemI P t e z size bytes)
    {base n q : Nat} {v : Value} {xs ys : List Value} (hown : w.ownsRow base e size v n xs)
    {ad : Addr} {m c : Nat} {news : List Value} (hq : n + m = q) (hys : xs ++ news = ys) (hnews : ∀ j u, news[j]? = some u → w.cell? (ad.add j) = some u) (hl : news.length = m * size) (h1 : ∀ u ∈ news, u.oneCell' = true)
    (hbytes : (n + m) * bytes ≤ 140737488355328) (h63 : n + m ≤ 9223372036854775807) (hbase : base ≤ w.heap.size)
    {s x : Operand} (hgd : o.guard = none) (ho : o.op = .call { callee := .builtin .append, args := #[s, x], argTypes := #[t, t] }) (hs : a.eval s = v) (hx : a.eval x = .slice (some ad) m c)
    (h : ∀ A' c' w', w'.ownsRow base e size (.slice A' q c') q ys → w.grownBy w' v.ownBlock → ((Value.slice A' q c').ownBlock = v.ownBlock ∨ (Value.slice A' q c').ownBlock = some w.heap.size) → wpList P ops Q rest (a.put o.dst (.slice A' q c')) w') : wpList P ops Q (o :: rest) a w := by
  obtain ⟨i, hi, hz0, hz1, hz2⟩ := info_parts I.hi
  refine wpList_append_own_at w hgd s x t ho base e i z size bytes I.ht hi hz0 hz1 hz2 I.hz I.hs v n xs hs hown ad m c news hx hl hnews h1 (by simp only [maxLen]; omega) hbytes hbase ?_
  intro v' w' hown' hg _ hat
  rw [hq, hys] at hown'
  obtain ⟨A', c', rfl⟩ := own_form hown'
  exact h A' c' w' hown' hg hat
theorem turns_small {xs : List Cd} {s : LS} (hv : progValid xs = true) (h : LaneOk xs s) : ∀ t ∈ s.turns, 0 ≤ t ∧ t ≤ 3 := fun t ht => by
  have hpc := h.pc
  obtain ⟨i, hi, rfl⟩ := List.mem_iff_getElem.1 ht
  have hi2 : i < (loopsAt xs s.pc.toNat).length := by rw [h.len]; exact hi
  have h4 := h.turns i hi hi2
  have hm := loops_mem (List.getElem_mem hi2)
  have hbl : (loopsAt xs s.pc.toNat)[i] < xs.length := by have := hm.2.2; omega
  have h5 := (valid_nums (codeAt_valid hv hbl)).2.2.2.2.1 (by rw [← codeAt_op hbl]; exact hm.2.1)
  omega
theorem own_raise {w : World} {b lo s n R k c : Nat} {e : TypeId} {xs : List Value} (h : w.ownsRow b e s (.slice (some ⟨R, 0, none⟩) k c) n xs) (hR : lo ≤ R) : w.ownsRow lo e s (.slice (some ⟨R, 0, none⟩) k c) n xs := by
  refine ⟨h.1, ?_⟩
  rcases h.2 with ⟨h1, _⟩ | ⟨g, cap, cur, hv, h1, h2⟩
  · cases h1
  · injection hv with hv1 hv2 hv3
    injection hv1 with hv1
    injection hv1 with hv1
    subst hv1
    exact .inr ⟨R, cap, cur, by rw [hv2, hv3], hR, h2⟩
theorem Mid.drew {w W : World} {x l : Lt} {X Y : Nat} {y : Cd} (h : Mid w W x l X Y y) : Mid w W.drew x l X Y y := h.below ⟨rfl, rfl, rfl, Nat.le_refl _, fun i hi => rfl⟩
theorem l6Step_any (x : Lt) (LA : Option Addr) (lc : Nat) (xs : List Cd) (id : Int) (base : Nat) (m : IR) (w : World) (hv : progValid xs = true) (hid : 0 ≤ id ∧ id ≤ 7) (hb : base ≤ w.heap.size) (hmv : memValid m.zs = true) (hs : Sl w LA (cflat xs)) (hi : LaneIn w x) (hok : LaneOk xs x.st) (p : Nat) (hp : x.at_ = p) (hpl : p < xs.length) (hwt : x.wt = false)
    (hm : w.ownsRow base 3 1 (irV m) m.zs.length (ints m.zs)) :
    Calls Try.prog 57 #[ltV x, .slice LA xs.length lc, .int .i64 id, .slice m.a m.zs.length m.c] w (StepRet base m (doStep xs id p (codeAt xs p) x.st m.zs).1 (doStep xs id p (codeAt xs p) x.st m.zs).2 w) := by
  have h3 : x.ts.length ≤ 3 := by
    have := hok.len
    have h2 := loops_three hv (k := x.st.pc.toNat) (by show x.at_.toNat ≤ _; omega)
    have e : x.st.turns.length = x.ts.length := rfl
    omega
  have h4 : x.zs.length = 4 := hok.regs
  have h40 := (progValid_yes hv).1
  obtain ⟨res, hres⟩ : ∃ res, res = doStep xs id p (codeAt xs p) x.st m.zs := ⟨_, rfl⟩
  have HRES := mkHid hres
  rw [← hres]
  clear hres
  obtain ⟨ra, rc, zs, at_, ta, tc, ts, wt⟩ := x
  simp only at hp hwt h3 h4
  subst hwt hp
  have H4 := mkHid h4
  obtain ⟨o1, ho1⟩ : ∃ o1, o1 = Obj.cells #[.slice ra zs.length rc, .int .i64 p, .slice ta ts.length tc, .bool false] 52 := ⟨_, rfl⟩
  obtain ⟨o2, ho2⟩ : ∃ o2, o2 = Obj.cells #[.slice none 0 0, .int .i64 0, .slice none 0 0, .bool false] 52 := ⟨_, rfl⟩
  have hbl : Below w.heap.size w ((w.alloc o1).alloc o2) := ((Below.refl _ _).alloc (Nat.le_refl _) _).alloc (by simp) _
  have q1 : ((w.alloc o1).alloc o2).heap[w.heap.size]? = some o1 := by
    rw [heap_alloc_old _ _ (by simp)]; exact heap_alloc_new _ _
  have q2 : ((w.alloc o1).alloc o2).heap[w.heap.size + 1]? = some o2 := by
    have := heap_alloc_new (w.alloc o1) o2
    simpa using this
  have HCP := mkHid (l6Copy_any ⟨ra, rc, zs, p, ta, tc, ts, false⟩ ((w.alloc o1).alloc o2) (by simp only; omega) (by simp only; omega) (hi.1.1.below hbl) (hi.2.1.below hbl))
  have HBL := mkHid hbl
  have HSZ := mkHid (show ((w.alloc o1).alloc o2).heap.size = w.heap.size + 2 from by simp)
  subst ho1 ho2
  have HQ1 := mkHid q1
  have HQ2 := mkHid q2
  obtain ⟨⟨c0, c1, c2, c3⟩, _⟩ := box4e q1
  have HS := mkHid hs
  have HM := mkHid hm
  have HI := mkHid hi
  have HOK := mkHid hok
  have HV := mkHid hv
  clear q1 q2 hbl hs hm hi hok hv h4
  go_enter Try.func57, Try.ntmps57
  go_wp2_with fail
  refine HCP.out.mono ?_
  rintro e w2 ⟨l, rfl, hst, hap, b2⟩
  have HST := mkHid hst
  have HAP := mkHid hap
  have HB2 := mkHid b2
  obtain ⟨⟨c0, c1, c2, c3⟩, _⟩ := box4e ((b2.block _ (by rw [HSZ.out]; omega)).trans HQ1.out)
  obtain ⟨lb, lo, hLA, e0, e1, e2, e3⟩ := ((HS.out.below HBL.out).below b2).cd hpl
  rw [← codeAt_at hpl] at e0 e1 e2 e3
  obtain ⟨y, hy⟩ : ∃ y, y = codeAt xs p := ⟨_, rfl⟩
  rw [← hy] at e0 e1 e2 e3
  have HY := mkHid hy
  obtain ⟨op, a, yb, yc⟩ := y
  have HLA := mkHid hLA
  subst hLA
  have e0 := keepA' e0 (.cells #[ltR l, .int .i64 l.at_, ltT l, .bool l.wt] 52)
  have e1 := keepA' e1 (.cells #[ltR l, .int .i64 l.at_, ltT l, .bool l.wt] 52)
  have e2 := keepA' e2 (.cells #[ltR l, .int .i64 l.at_, ltT l, .bool l.wt] 52)
  have e3 := keepA' e3 (.cells #[ltR l, .int .i64 l.at_, ltT l, .bool l.wt] 52)
  have c1 := keepA' c1 (.cells #[ltR l, .int .i64 l.at_, ltT l, .bool l.wt] 52)
  clear c0 c2 c3 hst hap b2 hy
  have hpi : (p : Int) < (xs.length : Int) := by omega
  have hp0 : (0 : Int) ≤ (p : Int) := by omega
  generalize hn : xs.length = n at *
  have HNN := mkHid hn
  clear hn
  go_upto_region 3 with fail
  refine name_world ?_
  intro W hW
  obtain ⟨x, hx⟩ : ∃ x : Lt, x = ⟨ra, rc, zs, p, ta, tc, ts, false⟩ := ⟨_, rfl⟩
  have hMid : Mid w W x l w2.heap.size (w2.heap.size + 1) ⟨op, a, yb, yc⟩ := by
    have hal1 : Below w2.heap.size w2 (w2.alloc (.cells #[ltR l, .int .i64 l.at_, ltT l, .bool l.wt] 52)) := (Below.refl _ _).alloc (Nat.le_refl _) _
    have hal2 : Below (w2.alloc (.cells #[ltR l, .int .i64 l.at_, ltT l, .bool l.wt] 52)).heap.size (w2.alloc (.cells #[ltR l, .int .i64 l.at_, ltT l, .bool l.wt] 52)) W := by rw [hW]; exact (Below.refl _ _).alloc (Nat.le_refl _) _
    have hal : Below w2.heap.size w2 W := below_then hal1 hal2
    have hsz := HB2.out.size
    rw [HSZ.out] at hsz
    have hz2 : (w2.alloc (.cells #[ltR l, .int .i64 l.at_, ltT l, .bool l.wt] 52)).heap.size = w2.heap.size + 1 := by simp
    have hbw : Below w.heap.size w w2 := HBL.out.trans (HB2.out.mono (by rw [HSZ.out]; omega))
    have e1 : W.heap[w2.heap.size]? = some (.cells #[ltR l, .int .i64 l.at_, ltT l, .bool l.wt] 52 (0, 0)) := (hal2.block _ (by rw [hz2]; omega)).trans (heap_alloc_new w2 _)
    have e2 : W.heap[w2.heap.size + 1]? = some (.cells #[.int .i64 op, .int .i64 a, .int .i64 yb, .int .i64 yc] 69 (0, 0)) := by
      rw [hW, ← hz2]; exact heap_alloc_new _ _
    subst hx
    refine ⟨one_crowd e1 (by omega) ((HAP.out.below hal).lower (by rw [HSZ.out]; omega)), ?_, ?_, e2, by omega, hbw.trans (hal.mono (by omega))⟩
    · exact (hal.block _ (by omega)).trans ((HB2.out.block _ (by rw [HSZ.out]; omega)).trans HQ1.out)
    · exact (hal.block _ (by omega)).trans ((HB2.out.block _ (by rw [HSZ.out]; omega)).trans HQ2.out)
  have HST2 : Hid (l.st = x.st) := mkHid (by rw [hx]; exact HST.out)
  have HXX := mkHid hx
  have HSW := mkHid (HS.out.below hMid.hb)
  clear hW e0 e1 e2 e3 c1 HCP HB2 HAP HST HSZ HBL HQ1 HQ2 hx
  generalize hXe : w2.heap.size = X at *
  clear hXe
  have HMID := mkHid hMid
  obtain ⟨c0, c1, c2, c3⟩ := hMid.cx
  obtain ⟨⟨x0, x1, x2, x3⟩, f0, f1, f2, f3⟩ := hMid.cX
  have hX := hMid.hX
  have hne : ¬ w.heap.size = X := by omega
  rw [HXX.out] at c0 c1 c2 c3
  simp only at c0 c1 c2 c3
  clear hMid
  go_upto_region 5 with fail
  refine name_world ?_
  intro W2 hW2
  have hMid := HMID.out.pc ((p : Int) + 1) (by omega)
  rw [← hW2] at hMid
  clear c0 c1 c2 c3 x0 x1 x2 x3 f0 f1 f2 f3
  have HMID2 := mkHid hMid
  have HSW2 := mkHid (HS.out.below hMid.hb)
  clear hW2 HMID HSW
  obtain ⟨c0, c1, c2, c3⟩ := hMid.cx
  obtain ⟨⟨x0, x1, x2, x3⟩, f0, f1, f2, f3⟩ := hMid.cX
  obtain ⟨⟨d0, d1, d2, d3⟩, g0, g1, g2, g3⟩ := box4e hMid.b8
  obtain ⟨y0, y1, y2, y3⟩ := hMid.cY
  rw [HXX.out] at c0 c1 c2 c3
  simp only [ltR, ltT] at c0 c1 c2 c3 x0 x1 x2 x3 y0 y1 y2 y3
  clear hMid
  have hop := (valid_nums (show codeValid ⟨op, a, yb, yc⟩ = true from by rw [HY.out]; exact codeAt_valid HV.out (by rw [HNN.out]; omega))).2.2.2.2.2
  simp only at hop
  have HR : Hid (res = doStep xs id p ⟨op, a, yb, yc⟩ ⟨zs, p, ts, false⟩ m.zs) := mkHid (by rw [HRES.out, ← HY.out])
  have HL : Hid (l.zs = zs ∧ l.at_ = p ∧ l.ts = ts ∧ l.wt = false) := mkHid (by
    have h := HST2.out
    rw [HXX.out] at h
    simp only [Lt.st, LS.mk.injEq] at h
    exact h)
  clear HRES HST2
  by_cases h10 : op = 10
  · subst h10
    obtain rfl : res = (⟨zs, (p : Int) + 1, ts, true⟩, m.zs) := by
      rw [HR.out, doStep_comp (show (10 : Int) ≤ 10 by decide)]
      simp [comp]
    go_upto_region 30 with fail
    refine name_world ?_
    intro W9 hW9
    have hMid9 := (HMID2.out.wt true (by omega))
    try rw [← hW9] at hMid9
    have HMID9 := mkHid hMid9
    obtain ⟨⟨x0, x1, x2, x3⟩, _⟩ := hMid9.cX
    obtain ⟨⟨d0, d1, d2, d3⟩, g0, g1, g2, g3⟩ := box4e hMid9.b8
    simp only [ltR, ltT] at x0 x1 x2 x3
    clear hMid9 hW9
    go_wp2_with fail
    refine bodyPost_ret (v := ltV ⟨l.ra, l.rc, l.zs, (p : Int) + 1, l.ta, l.tc, l.ts, true⟩) (by simp [results, Try.results57, go_sem, d0, d1, d2, d3]) rfl ?_
    refine step_endB HM.out HMID9.out ?_ _ _ _ _
    simp only [Lt.st, LS.mk.injEq]
    exact ⟨HL.out.1, trivial, HL.out.2.2.1, trivial⟩
  have HP : Hid (p < xs.length) := mkHid (by rw [HNN.out]; omega)
  have HOPP : Hid (opAt (ops xs) p = op) := mkHid (by rw [codeAt_op HP.out, ← HY.out])
  by_cases h11 : op = 11
  · subst h11
    obtain ⟨e, ot, hE, he, he40, hot1, hot2, hfk⟩ := l4End_at (c := lc) HV.out HP.out (by rw [HOPP.out]; decide) HSW2.out
    rw [HNN.out] at hE
    have HE := mkHid hE
    have hva := (valid_nums (show codeValid ⟨11, a, yb, yc⟩ = true from by rw [HY.out]; exact codeAt_valid HV.out HP.out)).1 (show regs 11 ≥ 1 by decide)
    simp only at hva
    obtain ⟨an, rfl⟩ := Int.eq_ofNat_of_zero_le hva.1
    have HF := mkHid hfk
    have HAN : Hid (an ≤ 3) := mkHid (by omega)
    clear hE he hfk h10 hva
    go_wp2_with fail
    refine HE.out.mono ?_
    rintro r w3 ⟨rfl, b3⟩
    have hMid := HMID2.out.below b3
    have HMID3 := mkHid hMid
    clear c0 c1 c2 c3 x0 x1 x2 x3 f0 f1 f2 f3 d0 d1 d2 d3 g0 g1 g2 g3 y0 y1 y2 y3 b3
    obtain ⟨c0, c1, c2, c3⟩ := hMid.cx
    obtain ⟨⟨x0, x1, x2, x3⟩, f0, f1, f2, f3⟩ := hMid.cX
    obtain ⟨⟨d0, d1, d2, d3⟩, g0, g1, g2, g3⟩ := box4e hMid.b8
    obtain ⟨y0, y1, y2, y3⟩ := hMid.cY
    obtain ⟨rb, ro, hra, hr⟩ := reg_at HI.out H4.out hMid.hb HAN.out
    rw [HXX.out] at c0 c1 c2 c3
    simp only [ltR, ltT] at c0 c1 c2 c3 x0 x1 x2 x3 y0 y1 y2 y3 hra hr
    subst hra
    have han : (an : Int) < (zs.length : Int) := by rw [H4.out]; have := HAN.out; omega
    obtain ⟨v, hv⟩ : ∃ v, v = rg zs an := ⟨_, rfl⟩
    have HVV := mkHid hv
    rw [← hv] at hr
    clear hMid hv
    by_cases h0 : v = 0
    · subst h0
      by_cases ho0 : 0 ≤ ot
      · obtain rfl : res = (⟨zs, ot + 1, ts, false⟩, m.zs) := by
          rw [HR.out]
          unfold doStep
          rw [if_pos rfl, if_pos HVV.out.symm, HF.out, if_pos ho0]
        go_upto_region 30 with fail
        refine name_world ?_
        intro W9 hW9
        have hMid9 := ((HMID3.out.pc ((e : Int) + 1) (by omega)).pc (ot + 1) (by omega))
        try rw [← hW9] at hMid9
        have HMID9 := mkHid hMid9
        obtain ⟨⟨x0, x1, x2, x3⟩, _⟩ := hMid9.cX
        obtain ⟨⟨d0, d1, d2, d3⟩, g0, g1, g2, g3⟩ := box4e hMid9.b8
        simp only [ltR, ltT] at x0 x1 x2 x3
        clear hMid9 hW9
        go_wp2_with fail
        refine bodyPost_ret (v := ltV ⟨l.ra, l.rc, l.zs, ot + 1, l.ta, l.tc, l.ts, l.wt⟩) (by simp [results, Try.results57, go_sem, d0, d1, d2, d3]) rfl ?_
        refine step_endB HM.out HMID9.out ?_ _ _ _ _
        simp only [Lt.st, LS.mk.injEq]
        exact ⟨HL.out.1, trivial, HL.out.2.2.1, HL.out.2.2.2⟩
      · obtain rfl : res = (⟨zs, (e : Int) + 1, ts, false⟩, m.zs) := by
          rw [HR.out]
          unfold doStep
          rw [if_pos rfl, if_pos HVV.out.symm, HF.out, if_neg ho0]
        go_upto_region 30 with fail
        refine name_world ?_
        intro W9 hW9
        have hMid9 := (HMID3.out.pc ((e : Int) + 1) (by omega))
        try rw [← hW9] at hMid9
        have HMID9 := mkHid hMid9
        obtain ⟨⟨x0, x1, x2, x3⟩, _⟩ := hMid9.cX
        obtain ⟨⟨d0, d1, d2, d3⟩, g0, g1, g2, g3⟩ := box4e hMid9.b8
        simp only [ltR, ltT] at x0 x1 x2 x3
        clear hMid9 hW9
        go_wp2_with fail
        refine bodyPost_ret (v := ltV ⟨l.ra, l.rc, l.zs, (e : Int) + 1, l.ta, l.tc, l.ts, l.wt⟩) (by simp [results, Try.results57, go_sem, d0, d1, d2, d3]) rfl ?_
        refine step_endB HM.out HMID9.out ?_ _ _ _ _
        simp only [Lt.st, LS.mk.injEq]
        exact ⟨HL.out.1, trivial, HL.out.2.2.1, HL.out.2.2.2⟩
    · have hb0 : (v == 0) = false := by simpa using h0
      obtain rfl : res = (⟨zs, (p : Int) + 1, ts, false⟩, m.zs) := by
        rw [HR.out]
        unfold doStep
        rw [if_pos rfl, if_neg (by rw [← HVV.out]; exact h0)]
      clear h0
      go_upto_region 30 with fail
      refine name_world ?_
      intro W9 hW9
      have hMid9 := HMID3.out
      try rw [← hW9] at hMid9
      have HMID9 := mkHid hMid9
      obtain ⟨⟨x0, x1, x2, x3⟩, _⟩ := hMid9.cX
      obtain ⟨⟨d0, d1, d2, d3⟩, g0, g1, g2, g3⟩ := box4e hMid9.b8
      simp only [ltR, ltT] at x0 x1 x2 x3
      clear hMid9 hW9
      go_wp2_with fail
      refine bodyPost_ret (v := ltV ⟨l.ra, l.rc, l.zs, (p : Int) + 1, l.ta, l.tc, l.ts, l.wt⟩) (by simp [results, Try.results57, go_sem, d0, d1, d2, d3]) rfl ?_
      refine step_endB HM.out HMID9.out ?_ _ _ _ _
      simp only [Lt.st, LS.mk.injEq]
      exact ⟨HL.out.1, trivial, HL.out.2.2.1, HL.out.2.2.2⟩
  by_cases h12 : op = 12
  · subst h12
    obtain ⟨b, b1, b2, b3, b4, b5⟩ := top_is HV.out HP.out (.inl HOPP.out)
    have hbx : b < xs.length := by have := HP.out; omega
    have hA := l4Around_at (c := lc) HV.out HP.out b2 HSW2.out
    rw [HNN.out] at hA
    have HA := mkHid hA
    obtain ⟨e, ot, _, he, he40, _⟩ := l4End_at (c := lc) HV.out hbx b4 HSW2.out
    have HE : Hid (∀ W, Sl W (some ⟨lb, lo, none⟩) (cflat xs) → ∃ ot, Calls Try.prog 92 #[.slice (some ⟨lb, lo, none⟩) n lc, .int .i64 b] W (fun r w' => r = .returned (.tuple #[.int .i64 e, .int .i64 ot]) ∧ Below W.heap.size W w')) := mkHid (fun W hW => by
      obtain ⟨e', ot, h1, h2, _⟩ := l4End_at (c := lc) HV.out hbx b4 hW
      rw [HNN.out] at h1
      have : e' = e := by omega
      subst this
      exact ⟨ot, h1⟩)
    obtain rfl : res = (⟨zs, (e : Int) + 1, ts, false⟩, m.zs) := by
      rw [HR.out]
      unfold doStep
      rw [if_neg (by simp), if_pos rfl, b1, he]
    clear hA he h10 h11 b1 b2 b3 b4 b5
    go_wp2_with fail
    refine HA.out.mono ?_
    rintro r w3 ⟨rfl, q3⟩
    obtain ⟨ot3, hE⟩ := HE.out w3 (HSW2.out.below q3)
    have HE3 := mkHid hE
    have Q3 := mkHid q3
    clear hE q3
    go_wp2_with fail
    refine HE3.out.mono ?_
    rintro r w4 ⟨rfl, q4⟩
    have hMid := HMID2.out.below (below_then Q3.out q4)
    have HMID3 := mkHid hMid
    clear c0 c1 c2 c3 x0 x1 x2 x3 f0 f1 f2 f3 d0 d1 d2 d3 g0 g1 g2 g3 y0 y1 y2 y3 q4
    obtain ⟨⟨x0, x1, x2, x3⟩, f0, f1, f2, f3⟩ := hMid.cX
    obtain ⟨⟨d0, d1, d2, d3⟩, g0, g1, g2, g3⟩ := box4e hMid.b8
    simp only [ltR, ltT] at x0 x1 x2 x3
    clear hMid
    go_upto_region 30 with fail
    refine name_world ?_
    intro W9 hW9
    have hMid9 := (HMID3.out.pc ((e : Int) + 1) (by omega))
    try rw [← hW9] at hMid9
    have HMID9 := mkHid hMid9
    obtain ⟨⟨x0, x1, x2, x3⟩, _⟩ := hMid9.cX
    obtain ⟨⟨d0, d1, d2, d3⟩, g0, g1, g2, g3⟩ := box4e hMid9.b8
    simp only [ltR, ltT] at x0 x1 x2 x3
    clear hMid9 hW9
    go_wp2_with fail
    refine bodyPost_ret (v := ltV ⟨l.ra, l.rc, l.zs, (e : Int) + 1, l.ta, l.tc, l.ts, l.wt⟩) (by simp [results, Try.results57, go_sem, d0, d1, d2, d3]) rfl ?_
    refine step_endB HM.out HMID9.out ?_ _ _ _ _
    simp only [Lt.st, LS.mk.injEq]
    exact ⟨HL.out.1, trivial, HL.out.2.2.1, HL.out.2.2.2⟩
  by_cases h13 : op = 13
  · subst h13
    obtain ⟨e, ot, hE, he, he40, _, _, _⟩ := l4End_at (c := lc) HV.out HP.out (by rw [HOPP.out]; decide) HSW2.out
    rw [HNN.out] at hE
    have HE := mkHid hE
    have hvn := valid_nums (show codeValid ⟨13, a, yb, yc⟩ = true from by rw [HY.out]; exact codeAt_valid HV.out HP.out)
    have hva := hvn.1 (show regs 13 ≥ 1 by decide)
    have hvb := hvn.2.2.2.2.1 rfl
    simp only at hva hvb
    obtain ⟨an, rfl⟩ := Int.eq_ofNat_of_zero_le hva.1
    have HEE := mkHid he
    obtain ⟨rb, ro, hra, hr⟩ := reg_at HI.out H4.out HMID2.out.hb (r := an) (by omega)
    simp only at hra hr
    subst hra
    have han : (an : Int) < (zs.length : Int) := by rw [H4.out]; omega
    obtain ⟨v, hv⟩ : ∃ v, v = rg zs an := ⟨_, rfl⟩
    have HVV := mkHid hv
    rw [← hv] at hr
    clear hE he h10 h11 h12 hv hvn
    by_cases h0 : v = 0
    · subst h0
      obtain rfl : res = (⟨zs, (e : Int) + 1, ts, false⟩, m.zs) := by
        rw [HR.out]
        unfold doStep
        rw [if_neg (by simp), if_neg (by simp), if_pos rfl, if_pos HVV.out.symm, HEE.out]
      go_wp2_with fail
      refine HE.out.mono ?_
      rintro r w3 ⟨rfl, b3⟩
      have hMid := HMID2.out.below b3
      have HMID3 := mkHid hMid
      clear c0 c1 c2 c3 x0 x1 x2 x3 f0 f1 f2 f3 d0 d1 d2 d3 g0 g1 g2 g3 y0 y1 y2 y3 b3
      obtain ⟨⟨x0, x1, x2, x3⟩, f0, f1, f2, f3⟩ := hMid.cX
      obtain ⟨⟨d0, d1, d2, d3⟩, g0, g1, g2, g3⟩ := box4e hMid.b8
      simp only [ltR, ltT] at x0 x1 x2 x3
      clear hMid
      go_upto_region 30 with fail
      refine name_world ?_
      intro W9 hW9
      have hMid9 := (HMID3.out.pc ((e : Int) + 1) (by omega))
      try rw [← hW9] at hMid9
      have HMID9 := mkHid hMid9
      obtain ⟨⟨x0, x1, x2, x3⟩, _⟩ := hMid9.cX
      obtain ⟨⟨d0, d1, d2, d3⟩, g0, g1, g2, g3⟩ := box4e hMid9.b8
      simp only [ltR, ltT] at x0 x1 x2 x3
      clear hMid9 hW9
      go_wp2_with fail
      refine bodyPost_ret (v := ltV ⟨l.ra, l.rc, l.zs, (e : Int) + 1, l.ta, l.tc, l.ts, l.wt⟩) (by simp [results, Try.results57, go_sem, d0, d1, d2, d3]) rfl ?_
      refine step_endB HM.out HMID9.out ?_ _ _ _ _
      simp only [Lt.st, LS.mk.injEq]
      exact ⟨HL.out.1, trivial, HL.out.2.2.1, HL.out.2.2.2⟩
    · have hb0 : (v != 0) = true := by simpa using h0
      obtain rfl : res = (⟨zs, (p : Int) + 1, ts ++ [yb - 1], false⟩, m.zs) := by
        rw [HR.out]
        unfold doStep
        rw [if_neg (by simp), if_neg (by simp), if_pos rfl, if_neg (by rw [← HVV.out]; exact h0)]
      have hwx : IntKind.i64.wrap (yb - 1) = yb - 1 := IntWalk.i64_in _ (by omega)
      obtain ⟨t4, ht4⟩ : ∃ t4, t4 = l.ts ++ [yb - 1] := ⟨_, rfl⟩
      have HT4 := mkHid ht4
      have HQ4 : Hid (l.ts.length + 1 = t4.length) := mkHid (by rw [ht4]; simp)
      have hl3 : l.ts.length ≤ 3 := by rw [HL.out.2.2.1]; exact h3
      have hto : W2.ownsRow w.heap.size 3 1 (.slice l.ta l.ts.length l.tc) l.ts.length (ints l.ts) := HMID2.out.cr.t (k := 0) (by simp)
      have HTO := mkHid hto
      have hwz := HMID2.out.hb.size
      have HNX : Hid ((Value.slice l.ta l.ts.length l.tc).ownBlock ≠ some X) := mkHid (by
        obtain ⟨cs, hq⟩ := HMID2.out.cr.heapG
        exact own_ne_heapA hto hq (by decide))
      clear h0 ht4 hto
      go_upto_region 30 with (at_builtin
                              refine wpList_appAt Ei (HTO.out.alloc _) HQ4.out (show _ = ints t4 from by rw [HT4.out]; simp [ints]) (newCellsAt _ _ _ (by simp)) rfl (by simp [Value.oneCell']) (by omega) (by omega) (by simp; omega) rfl rfl rfl rfl ?_
                              intro A4 c4 w4 hown4 hg4 hat4
                              have HO4 := mkHid hown4
                              have HG4 := mkHid hg4
                              have HA4 := mkHid hat4
                              have k2 := hg4.cell (a := ⟨X, 2, none⟩) (keepA x2 _) (fun e => HNX.out e.symm)
                              have kf := (hg4.frozen_far ⟨X, 2, none⟩ (World.block_lt_of_cell? _ _ (keepA x2 _)) (fun e => HNX.out e.symm)).trans (keepF x2 f2 _)
                              clear hown4 hg4 hat4 x2 f2)
      refine name_world ?_
      intro W9 hW9
      have hMid9 := ((HMID2.out.below ((Below.refl _ _).alloc (Nat.le_refl _) _)).turnsTo HG4.out HO4.out (fun g e => by rcases HA4.out with h | h <;> rw [e] at h; exact .inl h.symm; exact .inr (by injection h with h; omega)) (by omega))
      try rw [← hW9] at hMid9
      have HMID9 := mkHid hMid9
      obtain ⟨⟨x0, x1, x2, x3⟩, _⟩ := hMid9.cX
      obtain ⟨⟨d0, d1, d2, d3⟩, g0, g1, g2, g3⟩ := box4e hMid9.b8
      simp only [ltR, ltT] at x0 x1 x2 x3
      clear hMid9 hW9
      go_wp2_with fail
      refine bodyPost_ret (v := ltV ⟨l.ra, l.rc, l.zs, (p : Int) + 1, A4, c4, t4, l.wt⟩) (by simp [results, Try.results57, go_sem, d0, d1, d2, d3]) rfl ?_
      refine step_endB HM.out HMID9.out ?_ _ _ _ _
      simp only [Lt.st, LS.mk.injEq]
      exact ⟨HL.out.1, trivial, by rw [HT4.out, HL.out.2.2.1], HL.out.2.2.2⟩
  by_cases h14 : op = 14
  · subst h14
    obtain ⟨b, b1, b2, b3, b4, b5, b6, b7⟩ := HOK.out.atEnd HV.out HP.out rfl (by rw [← HY.out])
    have hbx : b < xs.length := by have := HP.out; omega
    have hA := l4Around_at (c := lc) HV.out HP.out b2 HSW2.out
    rw [HNN.out] at hA
    have HA := mkHid hA
    have hbn : (b : Int) < (n : Int) := by have := HNN.out; omega
    have hb0 : (0 : Int) ≤ (b : Int) := by omega
    have hvn := valid_nums (codeAt_valid HV.out hbx)
    have hva := hvn.1 (by rcases b5 with h | h <;> rw [h] <;> decide)
    have hcode := fun W (hW : Sl W (some ⟨lb, lo, none⟩) (cflat xs)) => code_cells hW hbx
    obtain ⟨z, hz⟩ : ∃ z, z = codeAt xs b := ⟨_, rfl⟩
    have HZ := mkHid hz
    have HRZ : Hid (res = ((if z.op = 13 then (if rg zs z.a ≠ 0 ∧ 0 < ts.getLastD 0 then ⟨zs, (b : Int) + 1, ts.dropLast ++ [ts.getLastD 0 - 1], false⟩ else ⟨zs, (p : Int) + 1, ts.dropLast, false⟩) else ⟨zs, (p : Int) + 1, ts, false⟩), m.zs)) := mkHid (by
      rw [HR.out]
      unfold doStep
      rw [if_neg (by simp), if_neg (by simp), if_neg (by simp), if_pos rfl, b1, hz])
    rw [← hz] at b5 b7 hva hcode
    obtain ⟨zo, za, zb, zc⟩ := z
    simp only at b5 b7 hva hcode HRZ
    have HCODE := mkHid hcode
    have H7 : Hid (zo = 13 → ∃ n, ts.length = n + 1) := mkHid (fun e => by
      obtain ⟨_, _, _, n, h, _⟩ := b7 e
      exact ⟨n, h⟩)
    clear hA h10 h11 h12 h13 b1 b2 b3 b4 b6 b7 hvn hcode hz
    go_wp2_with fail
    refine HA.out.mono ?_
    rintro r w3 ⟨rfl, q3⟩
    have hMid := HMID2.out.below q3
    have HMID3 := mkHid hMid
    obtain ⟨e0, e1, e2, e3⟩ := HCODE.out w3 (HSW2.out.below q3)
    clear c0 c1 c2 c3 x0 x1 x2 x3 f0 f1 f2 f3 d0 d1 d2 d3 g0 g1 g2 g3 y0 y1 y2 y3 q3
    obtain ⟨c0, c1, c2, c3⟩ := hMid.cx
    obtain ⟨⟨x0, x1, x2, x3⟩, f0, f1, f2, f3⟩ := hMid.cX
    obtain ⟨⟨d0, d1, d2, d3⟩, g0, g1, g2, g3⟩ := box4e hMid.b8
    rw [HXX.out] at c0 c1 c2 c3
    simp only [ltR, ltT] at c0 c1 c2 c3 x0 x1 x2 x3
    clear hMid
    rcases b5 with rfl | rfl
    · obtain rfl : res = (⟨zs, (p : Int) + 1, ts, false⟩, m.zs) := by rw [HRZ.out, if_neg (by decide)]
      go_upto_region 30 with fail
      refine name_world ?_
      intro W9 hW9
      have hMid9 := HMID3.out
      try rw [← hW9] at hMid9
      have HMID9 := mkHid hMid9
      obtain ⟨⟨x0, x1, x2, x3⟩, _⟩ := hMid9.cX
      obtain ⟨⟨d0, d1, d2, d3⟩, g0, g1, g2, g3⟩ := box4e hMid9.b8
      simp only [ltR, ltT] at x0 x1 x2 x3
      clear hMid9 hW9
      go_wp2_with fail
      refine bodyPost_ret (v := ltV ⟨l.ra, l.rc, l.zs, (p : Int) + 1, l.ta, l.tc, l.ts, l.wt⟩) (by simp [results, Try.results57, go_sem, d0, d1, d2, d3]) rfl ?_
      refine step_endB HM.out HMID9.out ?_ _ _ _ _
      simp only [Lt.st, LS.mk.injEq]
      exact ⟨HL.out.1, trivial, HL.out.2.2.1, HL.out.2.2.2⟩
    · obtain ⟨q, hq⟩ := H7.out rfl
      obtain ⟨d, hd⟩ : ∃ d, d = ts.dropLast := ⟨_, rfl⟩
      have HD := mkHid hd
      have hdq : ts.length = d.length + 1 := by rw [hd, List.length_dropLast]; omega
      have HNE : Hid (ts ≠ []) := mkHid (fun e => by rw [e] at hdq; simp at hdq)
      have hlast := getLastD_of hdq
      have hdlt : d.length < ts.length := by omega
      obtain ⟨t, ht⟩ : ∃ t, t = ts[d.length] := ⟨_, rfl⟩
      rw [← ht] at hlast
      have htb := turns_small HV.out HOK.out t (show t ∈ ts from by rw [ht]; exact List.getElem_mem hdlt)
      obtain ⟨tb, tf, hta, htc0⟩ := ((HI.out.below HMID3.out.hb).2.1).at_ (k := d.length) (by simp only [ints, List.length_map]; exact hdlt)
      have htc := htc0 _ _ (ints_at (show d.length < ts.length from hdlt))
      simp only [← ht] at hta htc
      subst hta
      clear htc0
      have HTC := mkHid htc
      have hto : w3.ownsRow w.heap.size 3 1 (.slice l.ta l.ts.length l.tc) l.ts.length (ints l.ts) := HMID3.out.cr.t (k := 0) (by simp)
      have hlts : l.ts.length = d.length + 1 := by rw [HL.out.2.2.1]; exact hdq
      obtain ⟨T, hT, _, _, hTc0, hTf, _⟩ := own_open hto (i := d.length) (by simp [ints]; omega)
      have hTc : w3.cell? ⟨T, d.length, none⟩ = some (.int .i64 t) := by
        have e : (ints l.ts)[d.length]? = some (.int .i64 t) := by rw [HL.out.2.2.1, ints_at hdlt, ht]
        rw [hTc0, ← List.getElem?_eq_getElem, e]
      have HTX : Hid (¬ T = X) := mkHid (fun e => by
        obtain ⟨cs, hcs⟩ := HMID3.out.cr.heapG
        exact own_ne_heapA hto hcs (by decide) (by rw [hT, ← e]; rfl))
      have hTcap : d.length + 1 ≤ l.tc := by
        have := own_cap hto
        omega
      have hld : (d.length : Int) < (l.ts.length : Int) := by omega
      have htd : (d.length : Int) < (ts.length : Int) := by omega
      have hd0 : (0 : Int) ≤ (d.length : Int) := by omega
      rw [hT] at x2
      obtain ⟨zn, rfl⟩ := Int.eq_ofNat_of_zero_le hva.1
      obtain ⟨rb, ro, hra, hr⟩ := reg_at HI.out H4.out HMID3.out.hb (r := zn) (by omega)
      simp only at hra hr
      subst hra
      have han : (zn : Int) < (zs.length : Int) := by rw [H4.out]; omega
      have hzn0 : (0 : Int) ≤ (zn : Int) := by omega
      obtain ⟨v, hv⟩ : ∃ v, v = rg zs zn := ⟨_, rfl⟩
      have HVV := mkHid hv
      rw [← hv] at hr
      have HLAST := mkHid hlast
      rw [show ((ts.length : Int) - 1) = (d.length : Int) from by omega]
      have hdd : d.length ≤ 3 := by omega
      clear hq hd hlast ht hto hv hva H7
      have HHQ := mkHid hdq
      clear hTc0 hdq hlts
      by_cases hts : 0 < t
      · have hdt : decide (0 < t) = true := by simpa using hts
        by_cases h0 : v = 0
        · have hb1 : (v != 0) = false := by simp [h0]
          obtain rfl : res = (⟨zs, (p : Int) + 1, d, false⟩, m.zs) := by
            rw [HRZ.out, if_pos rfl, if_neg (fun h => h.1 (by rw [← HVV.out]; exact h0)), HD.out]
          clear h0
          go_wp2_with fail
          go_quiet (fail)
          go_upto_region 29 with fail
          refine name_world ?_
          intro W8 hW8
          have hMid8 : Mid w W8 x ⟨l.ra, l.rc, l.zs, (p : Int) + 1, l.ta, l.tc, l.ts, l.wt⟩ X (X + 1) ⟨14, a, yb, yc⟩ := by rw [hW8]; exact HMID3.out.below (below_drewN (Below.refl _ _) _)
          have HMID8 := mkHid hMid8
          clear c0 c1 c2 c3 x0 x1 x2 x3 f0 f1 f2 f3 d0 d1 d2 d3 g0 g1 g2 g3 e0 e1 e2 e3 hr htc hTc hTf hW8
          obtain ⟨⟨x0, x1, x2, x3⟩, f0, f1, f2, f3⟩ := hMid8.cX
          obtain ⟨⟨d0, d1, d2, d3⟩, g0, g1, g2, g3⟩ := box4e hMid8.b8
          simp only [ltR, ltT, hT] at x0 x1 x2 x3
          clear hMid8
          go_upto_region 30 with fail
          refine name_world ?_
          intro W9 hW9
          have hMid9 := (HMID8.out.pop hT (HD.out.trans (by rw [HL.out.2.2.1])) (by rw [HL.out.2.2.1]; exact HNE.out) (by omega))
          try rw [← hW9] at hMid9
          have HMID9 := mkHid hMid9
          obtain ⟨⟨x0, x1, x2, x3⟩, _⟩ := hMid9.cX
          obtain ⟨⟨d0, d1, d2, d3⟩, g0, g1, g2, g3⟩ := box4e hMid9.b8
          simp only [ltR, ltT] at x0 x1 x2 x3
          clear hMid9 hW9
          go_wp2_with fail
          refine bodyPost_ret (v := ltV ⟨l.ra, l.rc, l.zs, (p : Int) + 1, some ⟨T, 0, none⟩, l.tc, d, l.wt⟩) (by simp [results, Try.results57, go_sem, d0, d1, d2, d3]) rfl ?_
          refine step_endB HM.out HMID9.out ?_ _ _ _ _
          simp only [Lt.st, LS.mk.injEq]
          exact ⟨HL.out.1, trivial, trivial, HL.out.2.2.2⟩

        · have hb1 : (v != 0) = true := by simpa using h0
          obtain rfl : res = (⟨zs, (b : Int) + 1, ts.set d.length (t - 1), false⟩, m.zs) := by
            rw [HRZ.out, if_pos rfl, HLAST.out, if_pos ⟨by rw [← HVV.out]; exact h0, hts⟩]
            simp only [set_last HHQ.out]
          clear h0
          go_wp2_with fail
          go_quiet (fail)
          go_wp2_with fail
          refine name_world ?_
          intro W8 hW8
          have hMid8 : Mid w W8 x ⟨l.ra, l.rc, l.zs, (p : Int) + 1, l.ta, l.tc, l.ts, l.wt⟩ X (X + 1) ⟨14, a, yb, yc⟩ := by rw [hW8]; exact HMID3.out.below (below_drewN (Below.refl _ _) _)
          have HMID8 := mkHid hMid8
          have htc8 : W8.cell? ⟨tb, tf + d.length, none⟩ = some (.int .i64 t) := by rw [hW8]; exact HTC.out
          have hTc8 : W8.cell? ⟨T, d.length, none⟩ = some (.int .i64 t) := by rw [hW8]; exact hTc
          have hTf8 : W8.frozen? ⟨T, d.length, none⟩ = false := by rw [hW8]; exact hTf
          clear c0 c1 c2 c3 x0 x1 x2 x3 f0 f1 f2 f3 d0 d1 d2 d3 g0 g1 g2 g3 e0 e1 e2 e3 hr htc hTc hTf hW8
          obtain ⟨c0, c1, c2, c3⟩ := hMid8.cx
          obtain ⟨⟨x0, x1, x2, x3⟩, f0, f1, f2, f3⟩ := hMid8.cX
          rw [HXX.out] at c0 c1 c2 c3
          simp only [ltR, ltT, hT] at c0 c1 c2 c3 x0 x1 x2 x3
          have hTX := HTX.out
          have hwx : IntKind.i64.wrap (t - 1) = t - 1 := IntWalk.i64_in _ (by omega)
          clear hMid8
          refine wp_region_still_tail 10 (by kernel_rfl) (by kernel_rfl) ?_
          simp only [List.take_succ_cons, List.take_zero, List.drop_succ_cons, List.drop_zero]
          change wpStill _ _ (World.drew _) _ _ _
          repeat still_step
          refine wpStill_nil ?_
          change wpList _ _ _ _ _ (World.drew _)
          go_upto_region 30 with fail
          refine name_world ?_
          intro W9 hW9
          have hMid9 : Mid w W9 x ⟨l.ra, l.rc, l.zs, (b : Int) + 1, l.ta, l.tc, l.ts.set d.length (t - 1), l.wt⟩ X (X + 1) ⟨14, a, yb, yc⟩ := by rw [hW9]; exact ((HMID8.out.drew.turn hT d.length (t - 1)).pc ((b : Int) + 1) (by omega))
          have HMID9 := mkHid hMid9
          obtain ⟨⟨x0, x1, x2, x3⟩, _⟩ := hMid9.cX
          obtain ⟨⟨d0, d1, d2, d3⟩, g0, g1, g2, g3⟩ := box4e hMid9.b8
          simp only [ltR, ltT] at x0 x1 x2 x3
          clear hMid9 hW9
          go_wp2_with fail
          refine bodyPost_ret (v := ltV ⟨l.ra, l.rc, l.zs, (b : Int) + 1, l.ta, l.tc, l.ts.set d.length (t - 1), l.wt⟩) (by simp [results, Try.results57, go_sem, d0, d1, d2, d3, hT]) rfl ?_
          refine step_endB HM.out HMID9.out ?_ _ _ _ _
          simp only [Lt.st, LS.mk.injEq]
          exact ⟨HL.out.1, trivial, by rw [HL.out.2.2.1], HL.out.2.2.2⟩
      · have hdt : decide (0 < t) = false := by simpa using hts
        obtain rfl : res = (⟨zs, (p : Int) + 1, d, false⟩, m.zs) := by
          rw [HRZ.out, if_pos rfl, HLAST.out, if_neg (fun h => hts h.2), HD.out]
        go_wp2_with fail
        go_quiet (fail)
        go_upto_region 29 with fail
        refine name_world ?_
        intro W8 hW8
        have hMid8 : Mid w W8 x ⟨l.ra, l.rc, l.zs, (p : Int) + 1, l.ta, l.tc, l.ts, l.wt⟩ X (X + 1) ⟨14, a, yb, yc⟩ := by rw [hW8]; exact HMID3.out.below (below_drewN (Below.refl _ _) _)
        have HMID8 := mkHid hMid8
        clear c0 c1 c2 c3 x0 x1 x2 x3 f0 f1 f2 f3 d0 d1 d2 d3 g0 g1 g2 g3 e0 e1 e2 e3 hr htc hTc hTf hW8
        obtain ⟨⟨x0, x1, x2, x3⟩, f0, f1, f2, f3⟩ := hMid8.cX
        obtain ⟨⟨d0, d1, d2, d3⟩, g0, g1, g2, g3⟩ := box4e hMid8.b8
        simp only [ltR, ltT, hT] at x0 x1 x2 x3
        clear hMid8
        go_upto_region 30 with fail
        refine name_world ?_
        intro W9 hW9
        have hMid9 := (HMID8.out.pop hT (HD.out.trans (by rw [HL.out.2.2.1])) (by rw [HL.out.2.2.1]; exact HNE.out) (by omega))
        try rw [← hW9] at hMid9
        have HMID9 := mkHid hMid9
        obtain ⟨⟨x0, x1, x2, x3⟩, _⟩ := hMid9.cX
        obtain ⟨⟨d0, d1, d2, d3⟩, g0, g1, g2, g3⟩ := box4e hMid9.b8
        simp only [ltR, ltT] at x0 x1 x2 x3
        clear hMid9 hW9
        go_wp2_with fail
        refine bodyPost_ret (v := ltV ⟨l.ra, l.rc, l.zs, (p : Int) + 1, some ⟨T, 0, none⟩, l.tc, d, l.wt⟩) (by simp [results, Try.results57, go_sem, d0, d1, d2, d3]) rfl ?_
        refine step_endB HM.out HMID9.out ?_ _ _ _ _
        simp only [Lt.st, LS.mk.injEq]
        exact ⟨HL.out.1, trivial, trivial, HL.out.2.2.2⟩
  have hop9 : op ≤ 10 := by omega
  obtain rfl : res = (⟨(comp ⟨op, a, yb, yc⟩ id zs m.zs).1, (p : Int) + 1, ts, false⟩, (comp ⟨op, a, yb, yc⟩ id zs m.zs).2) := by
    rw [HR.out, doStep_comp hop9]
    simp [h10]
  have hmm := memValid_parts.1 hmv
  have hcv : codeValid ⟨op, a, yb, yc⟩ = true := by rw [HY.out]; exact codeAt_valid HV.out HP.out
  have hcok := comp_ok hcv hid H4.out HOK.out.words hmm.1.1 hmm.2
  have hro : W2.ownsRow w.heap.size 3 1 (.slice l.ra l.zs.length l.rc) l.zs.length (ints l.zs) := HMID2.out.cr.r (k := 0) (by simp)
  have hl4 : l.zs.length = 4 := by rw [HL.out.1]; exact H4.out
  obtain ⟨R, hR, hRb, hRl, _⟩ := own_open hro (i := 0) (by simp [ints]; omega)
  have hmo : w.ownsRow base 3 1 (.slice m.a m.zs.length m.c) m.zs.length (ints m.zs) := HM.out
  obtain ⟨B, hB, hBb, hBl, _⟩ := own_open hmo (i := 0) (by simp [ints]; omega)
  obtain ⟨ma, mc, mz⟩ := m
  simp only at hB hmo hmm hcok hmv HM ⊢
  subst hB
  have HRO : Hid (W2.ownsRow w.heap.size 3 1 (rowAt R 4 l.rc) 4 (ints zs)) := mkHid (by
    have h := hro
    rw [hR, hl4, HL.out.1] at h
    exact h)
  have HMO2 := mkHid (own_below hmo HMID2.out.hb)
  have HC := mkHid (specCompute_any ⟨op, a, yb, yc⟩ id base R l.rc B mc zs mz W2 hcv hop9 H4.out HOK.out.words hmm.1 (own_base HRO.out hb) HMO2.out (by omega))
  have HCOK := mkHid hcok
  have HRR := mkHid (And.intro hR hRb)
  have HBB := mkHid hBl
  rw [hR, hl4] at x0
  have hcm : (comp ⟨op, a, yb, yc⟩ id zs mz).2.length = mz.length := hcok.mlen
  have HCM := mkHid hcm
  clear hop9 hcv hcok hro hmo hRl hcm
  go_wp2_with fail
  refine HC.out.mono ?_
  rintro r w3 ⟨rfl, o1, o2, h3⟩
  obtain ⟨l9, hl9, hM9, hm9, hg9⟩ : ∃ l9 : Lt, l9.st = (⟨(comp ⟨op, a, yb, yc⟩ id zs mz).1, (p : Int) + 1, ts, false⟩ : LS) ∧ CrAt w3 w.heap.size (some ⟨X, 0, none⟩) 1 [l9] nilIR ∧ w3.heap[w.heap.size + 1]? = some (.cells #[.slice none 0 0, .int .i64 0, .slice none 0 0, .bool false] 52 (0, 0)) ∧ w.grownBy w3 (some B) := by
    have hregs : (comp ⟨op, a, yb, yc⟩ id zs mz).1.length = 4 := HCOK.out.len
    rcases h3 with ⟨_, g⟩ | ⟨e1, g⟩
    · have h := HMID2.out.cr.regs (k := 0) (w' := w3) (by simp) (rs := (comp ⟨op, a, yb, yc⟩ id zs mz).1) (by simp only [List.getElem_cons_zero]; rw [hregs, hl4]) (by simp only [List.getElem_cons_zero, ltR]; rw [HRR.out.1]; exact g) (by simp only [List.getElem_cons_zero, ltR]; rw [HRR.out.1, hl4]; exact own_raise o1 HRR.out.2)
      simp only [List.getElem_cons_zero, List.set_cons_zero] at h
      refine ⟨_, ?_, h, (g.block _ (Array.getElem?_eq_some_iff.1 HMID2.out.b8).1 (fun e => own_ne_heapA HRO.out HMID2.out.b8 (by decide) (by rw [e]; rfl))).trans HMID2.out.b8, grown_of_below (grown_at HMID2.out.hb g HRR.out.2) _⟩
      simp only [Lt.st, LS.mk.injEq]
      exact ⟨trivial, trivial, HL.out.2.2.1, HL.out.2.2.2⟩
    · refine ⟨_, ?_, HMID2.out.cr.old g (fun g' e => by injection e with e; have := HBB.out; omega), (g.block _ (Array.getElem?_eq_some_iff.1 HMID2.out.b8).1 (fun e => by injection e with e; have := HBB.out; omega)).trans HMID2.out.b8, grown_trans (grown_of_below HMID2.out.hb _) g⟩
      simp only [Lt.st, LS.mk.injEq]
      exact ⟨by rw [e1]; exact HL.out.1, trivial, HL.out.2.2.1, HL.out.2.2.2⟩
  have HL9 := mkHid hl9
  have HM9 := mkHid hM9
  have H89 := mkHid hm9
  have HG9 := mkHid hg9
  have HO2 := mkHid o2
  have hcx := hM9.cells (k := 0) (by simp)
  simp only [Nat.zero_mul, Nat.zero_add, List.getElem_cons_zero, ltR, ltT] at hcx
  clear c0 c1 c2 c3 x0 x1 x2 x3 f0 f1 f2 f3 d0 d1 d2 d3 g0 g1 g2 g3 y0 y1 y2 y3 hl9 hM9 hg9 o1 o2 h3
  obtain ⟨⟨x0, x1, x2, x3⟩, _⟩ := hcx
  obtain ⟨⟨d0, d1, d2, d3⟩, g0, g1, g2, g3⟩ := box4e hm9
  clear hm9
  go_wp2_with fail
  refine bodyPost_ret (v := ltV l9) (by simp [results, Try.results57, go_sem, d0, d1, d2, d3]) rfl ?_
  refine step_end (base := base) (m := ⟨some ⟨B, 0, none⟩, mc, mz⟩) HM9.out ⟨_, H89.out⟩ HL9.out ?_ HCM.out HG9.out _ _ _ _
  simp only [irV, HCM.out]
  exact HO2.out
end Go.Proofs.Ytjmiilneennjaaa
