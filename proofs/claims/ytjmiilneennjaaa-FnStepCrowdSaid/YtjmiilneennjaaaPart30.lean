/-
  Parts of a proof: DLane, CSameT.
-/
import Derived.Test.YtjmiilneennjaaaPart26
import Derived.Test.YtjmiilneennjaaaPart27
import Derived.Test.YtjmiilneennjaaaPart29
import Derived.Test.YtjmiilneennjaaaPart19
import Derived.Test.YtjmiilneennjaaaPart22
import Derived.Deep.Cut
import Derived.Deep.LoopGhost
import Derived.Test.YtjmiilneennjaaaPart12
import Derived.Test.YtjmiilneennjaaaPart18
namespace Go.Proofs.Ytjmiilneennjaaa
open Go.RowKit
set_option maxHeartbeats 2000000
set_option maxRecDepth 100000
set_option linter.unusedVariables false

/-- a lane in the making, with the program and the memory drawn ahead of it. -/
structure LaneSt (w wr : World) (br N X g c : Nat) (ys : List Cd) (m : IR) (l : Lt) : Prop where
  cr : CrAt wr w.heap.size (some ⟨X, 0, none⟩) 1 [l] m
  code : wr.ownsRow w.heap.size 69 4 (.slice (some ⟨g, 0, none⟩) ys.length c) ys.length (cflat ys)
  rd : Rd wr br N
  gr : w.grownBy wr (some br)
  lt : br < w.heap.size
section
variable {w wr w' : World} {br N X g c : Nat} {ys : List Cd} {m : IR} {l l' : Lt}
theorem LaneSt.pick {M : Nat} (h : LaneSt w wr br N X g c ys m l) (hr : Rd w' br M) (hg : wr.grownBy w' (some br)) : LaneSt w w' br M X g c ys m l :=
  ⟨h.cr.old hg (fun z e => by injection e with e; have := h.lt; omega), own_apart h.code hg (fun z e => by injection e with e; have := h.lt; omega), hr, grown_trans h.gr hg, h.lt⟩
theorem LaneSt.below (h : LaneSt w wr br N X g c ys m l) (hb : Below wr.heap.size wr w') : LaneSt w w' br N X g c ys m l :=
  ⟨h.cr.below hb, own_below h.code hb, h.rd.below hb, grown_below h.gr hb, h.lt⟩
theorem LaneSt.more {M : Nat} (h : LaneSt w wr br N X g c ys m l) (hM : N ≤ M) : LaneSt w wr br M X g c ys m l := ⟨h.cr, h.code, h.rd.mono hM, h.gr, h.lt⟩
theorem LaneSt.chg (h : LaneSt w wr br N X g c ys m l) {Z : Nat} (hc : CrAt w' w.heap.size (some ⟨X, 0, none⟩) 1 [l'] m) (hg : wr.grownBy w' (some Z)) (hZ : w.heap.size ≤ Z) {cs : Array Value} {ty : TypeId} {fr : Nat × Nat} (hq : wr.heap[Z]? = some (.cells cs ty fr)) (hty : 69 ≠ ty) : LaneSt w w' br N X g c ys m l' := by
  have hlt := h.lt
  refine ⟨hc, own_grown' h.code hg (fun z e1 e2 => by injection e2 with e2; subst e2; exact own_ne_heapA h.code hq hty e1), h.rd.grown hg (fun z e => by injection e with e; omega), ?_, h.lt⟩
  exact ⟨hg.os.trans h.gr.os, hg.tape.trans h.gr.tape, hg.output.trans h.gr.output, Nat.le_trans h.gr.size hg.size, fun i hi hn => (hg.block i (Nat.lt_of_lt_of_le hi h.gr.size) (fun e => by injection e with e; omega)).trans (h.gr.block i hi hn)⟩
theorem LaneSt.hX (h : LaneSt w wr br N X g c ys m l) : w.heap.size ≤ X ∧ X < wr.heap.size := by
  have := h.cr.1.lt X rfl
  exact this
theorem LaneSt.cells (h : LaneSt w wr br N X g c ys m l) : (wr.cell? ⟨X, 0, none⟩ = some (ltR l) ∧ wr.cell? ⟨X, 1, none⟩ = some (.int .i64 l.at_) ∧ wr.cell? ⟨X, 2, none⟩ = some (ltT l) ∧ wr.cell? ⟨X, 3, none⟩ = some (.bool l.wt)) ∧
    (wr.frozen? ⟨X, 0, none⟩ = false ∧ wr.frozen? ⟨X, 1, none⟩ = false ∧ wr.frozen? ⟨X, 2, none⟩ = false ∧ wr.frozen? ⟨X, 3, none⟩ = false) := by
  have := h.cr.cells (k := 0) (by simp)
  simpa using this
theorem LaneSt.put (h : LaneSt w wr br N X g c ys m l) (j : Nat) (v : Value) (hj : j < 4) (hc : ltCells l' = (ltCells l).set j v) (h1 : irR l' = irR l) (h2 : irT l' = irT l) : LaneSt w (wr.setCell ⟨X, j, none⟩ v) br N X g c ys m l' := by
  have h0 := h.cr.put (k := 0) (by simp) l' j v hj hc h1 h2
  simp only [Nat.zero_mul, Nat.zero_add, List.set_cons_zero] at h0
  obtain ⟨cs, hq⟩ := h.cr.heapG
  exact h.chg h0 (grown_setCell wr X j v) h.hX.1 hq (by decide)
theorem LaneSt.wait (h : LaneSt w wr br N X g c ys m l) (b : Bool) : LaneSt w (wr.setCell ⟨X, 3, none⟩ (.bool b)) br N X g c ys m ⟨l.ra, l.rc, l.zs, l.at_, l.ta, l.tc, l.ts, b⟩ := h.put 3 _ (by omega) rfl rfl rfl
theorem LaneSt.place (h : LaneSt w wr br N X g c ys m l) (z : Int) : LaneSt w (wr.setCell ⟨X, 1, none⟩ (.int .i64 z)) br N X g c ys m ⟨l.ra, l.rc, l.zs, z, l.ta, l.tc, l.ts, l.wt⟩ := h.put 1 _ (by omega) rfl rfl rfl
/-- another lane is stored. -/
theorem LaneSt.store {q : IR} (h : LaneSt w wr br N X g c ys m l) (hb : Below wr.heap.size wr w') (hap : Apt w' wr.heap.size [q, irR l', irT l']) : LaneSt w ((((w'.setCell ⟨X, 0, none⟩ (ltR l')).setCell ⟨X, 1, none⟩ (.int .i64 l'.at_)).setCell ⟨X, 2, none⟩ (ltT l')).setCell ⟨X, 3, none⟩ (.bool l'.wt)) br N X g c ys m l' := by
  have h2 : Apt w' wr.heap.size [irR l', irT l'] := hap.sub (fun i => i + 1) (fun i hi => ⟨by simp at hi ⊢; omega, rfl⟩) (fun i j _ _ e => by omega)
  have h0 := (h.cr.swap (k := 0) (by simp) h.gr.size h2 (own_below h.cr.mem hb) rfl (grown_of_below hb _)).2.1
  simp only [Nat.zero_mul, Nat.zero_add, List.set_cons_zero] at h0
  have hw := h.below hb
  obtain ⟨cs, hq⟩ := hw.cr.heapG
  exact hw.chg h0 (grown_s4 w' X _ _ _ _) hw.hX.1 hq (by decide)
/-- a register is stored. -/
theorem LaneSt.reg (h : LaneSt w wr br N X g c ys m l) {R : Nat} (hR : l.ra = some ⟨R, 0, none⟩) {i : Nat} (hi : i < l.zs.length) (z : Int) : LaneSt w (wr.setCell ⟨R, i, none⟩ (.int .i64 z)) br N X g c ys m ⟨l.ra, l.rc, l.zs.set i z, l.at_, l.ta, l.tc, l.ts, l.wt⟩ := by
  have ho := h.cr.r (k := 0) (by simp)
  simp only [List.getElem_cons_zero] at ho
  have hblk : (ltR l).ownBlock = some R := by unfold ltR; rw [hR]; rfl
  obtain ⟨cs, hq⟩ := own_heapA ho hblk
  have hst : (wr.setCell ⟨R, i, none⟩ (.int .i64 z)).ownsRow w.heap.size 3 1 (ltR l) l.zs.length (ints (l.zs.set i z)) := by
    obtain ⟨g', hg', hgb, hgs, hcell, hfr, hst⟩ := own_open (show wr.ownsRow w.heap.size 3 1 (.slice l.ra l.zs.length l.rc) l.zs.length (ints l.zs) from ho) (i := i) (by simp [ints]; omega)
    rw [hR] at hg'
    injection hg' with hg'
    injection hg' with hg'
    subst hg'
    have := hst (.int .i64 z)
    rw [show (ltR l) = .slice l.ra l.zs.length l.rc from rfl]
    simpa [ints, List.map_set] using this
  have h0 := h.cr.regs (k := 0) (w' := wr.setCell ⟨R, i, none⟩ (.int .i64 z)) (by simp) (rs := l.zs.set i z) (by simp) (by rw [List.getElem_cons_zero, hblk]; exact grown_setCell wr R i _) (by simpa using hst)
  simp only [List.getElem_cons_zero, List.set_cons_zero] at h0
  exact h.chg h0 (grown_setCell wr R i _) ((ho.lt R hblk).1) hq (by decide)
/-- the turns lie in another row. -/
theorem LaneSt.turns (h : LaneSt w wr br N X g c ys m l) {A' : Option Addr} {c' : Nat} {ts : List Int} (hg : wr.grownBy w' (ltT l).ownBlock) (ho : w'.ownsRow w.heap.size 3 1 (.slice A' ts.length c') ts.length (ints ts)) (hb : ∀ g, (Value.slice A' ts.length c').ownBlock = some g → (ltT l).ownBlock = some g ∨ wr.heap.size ≤ g) : LaneSt w (w'.setCell ⟨X, 2, none⟩ (.slice A' ts.length c')) br N X g c ys m ⟨l.ra, l.rc, l.zs, l.at_, A', c', ts, l.wt⟩ := by
  have hlt := h.lt
  have h0 := h.cr.turns (k := 0) (w' := w') (by simp) (A' := A') (c' := c') (ts := ts) (by simpa using hg) ho (by simpa using hb)
  simp only [Nat.zero_mul, Nat.zero_add, List.set_cons_zero, List.getElem_cons_zero] at h0
  have ht := h.cr.t (k := 0) (by simp)
  simp only [List.getElem_cons_zero] at ht
  obtain ⟨cs, hq⟩ := h.cr.heapG
  have hX := h.hX
  have hne : (ltT l).ownBlock ≠ some X := own_ne_heapA ht hq (by decide)
  have hq' : w'.heap[X]? = some (.cells cs 52 (0, 0)) := (hg.block X hX.2 (fun e => hne e.symm)).trans hq
  have hg2 := grown_setCell w' X 2 (.slice A' ts.length c')
  have hcode : w'.ownsRow w.heap.size 69 4 (.slice (some ⟨g, 0, none⟩) ys.length c) ys.length (cflat ys) := own_grown' h.code hg (fun z e1 e2 => by
    obtain ⟨cs2, hq2⟩ := own_heapA ht e2
    exact own_ne_heapA h.code hq2 (by decide) e1)
  have hgr1 : w.grownBy w' (some br) := ⟨hg.os.trans h.gr.os, hg.tape.trans h.gr.tape, hg.output.trans h.gr.output, Nat.le_trans h.gr.size hg.size, fun i hi hn => (hg.block i (Nat.lt_of_lt_of_le hi h.gr.size) (fun e => by have := (ht.lt i e.symm).1; omega)).trans (h.gr.block i hi hn)⟩
  refine ⟨h0, own_grown' hcode hg2 (fun z e1 e2 => by injection e2 with e2; subst e2; exact own_ne_heapA hcode hq' (by decide) e1), (h.rd.grown hg (fun z e => by have := (ht.lt z e).1; omega)).grown hg2 (fun z e => by injection e with e; omega), ?_, h.lt⟩
  exact ⟨hg2.os.trans hgr1.os, hg2.tape.trans hgr1.tape, hg2.output.trans hgr1.output, Nat.le_trans hgr1.size hg2.size, fun i hi hn => (hg2.block i (Nat.lt_of_lt_of_le hi hgr1.size) (fun e => by injection e with e; omega)).trans (hgr1.block i hi hn)⟩
theorem LaneSt.laneIn (h : LaneSt w wr br N X g c ys m l) : LaneIn wr l := by
  have h1 := h.cr.r (k := 0) (by simp)
  have h2 := h.cr.t (k := 0) (by simp)
  simp only [List.getElem_cons_zero] at h1 h2
  exact ⟨⟨Sl.of_own h1, own_max h1⟩, ⟨Sl.of_own h2, own_max h2⟩⟩
theorem LaneSt.fin {v : World} (h : LaneSt w wr br N X g c ys m l) (hv : v.grownBy w (some br)) (hsz : v.heap.size < w.heap.size) (hbr : br < v.heap.size) (hw : wr.grownBy w' (some v.heap.size)) : Apt w' v.heap.size [m, irR l, irT l] ∧ w'.ownsRow v.heap.size 69 4 (.slice (some ⟨g, 0, none⟩) ys.length c) ys.length (cflat ys) ∧ v.grownBy w' (some br) := by
  have hc := h.cr.old hw (fun z e => by injection e with e; omega)
  have hcode := own_apart h.code hw (fun z e => by injection e with e; omega)
  refine ⟨hc.2.lower (by omega), own_base hcode (by omega), ?_⟩
  have h3 := grown_trans hv h.gr
  exact ⟨hw.os.trans h3.os, hw.tape.trans h3.tape, hw.output.trans h3.output, Nat.le_trans h3.size hw.size, fun i hi hn => (hw.block i (Nat.lt_of_lt_of_le hi h3.size) (fun e => by injection e with e; omega)).trans (h3.block i hi hn)⟩
theorem Apt.laneW {W : World} {lo : Nat} {m : IR} {l : Lt} (h : Apt W lo [m, irR l, irT l]) : LaneIn W l ∧ Sl W m.a (ints m.zs) :=
  ⟨⟨⟨Sl.of_own (h.1 (irR l) (by simp)), own_max (h.1 (irR l) (by simp))⟩, ⟨Sl.of_own (h.1 (irT l) (by simp)), own_max (h.1 (irT l) (by simp))⟩⟩, Sl.of_own (h.1 m (by simp))⟩
theorem LaneSt.box {v : World} (h : LaneSt w wr br N X g c ys m l) (hsz : v.heap.size < w.heap.size) (hbr : br < v.heap.size) {o : Obj} (hq : w.heap[v.heap.size]? = some o) : wr.heap[v.heap.size]? = some o := (h.gr.block _ hsz (fun e => by injection e with e; omega)).trans hq
end
theorem stepTo_turns (xs : List Cd) (s : LS) (id : Int) (mem : List Int) : (stepTo xs s id mem).1.turns.length ≤ 3 := by
  unfold stepTo
  split
  · rename_i h
    have ho := okS_iff.1 h
    have h2 := (stepS_ok ho.prog ho.id8 ho.lane ho.mem).1
    have h1 := h2.len
    have h3 := loops_three ho.prog (k := (stepS xs id s mem).1.pc.toNat) (by have := h2.pc; omega)
    omega
  · simp [lsNil]
def regLaneR (br N : Nat) (w0 : World) : Reg where
  nd := [4, 5, 7, 9]
  K := fun
    | 4 => kInt 0 255
    | 5 => kLit w0.heap.size 3 0 255
    | 7 => kInt 0 2
    | 9 => kInt 0 255
    | _ => kNone
  ne := fun i => by
    split <;> first | exact kInt_ne _ _ (by omega) | exact kLit_ne _ _ _ _ | exact ⟨()⟩
  I := drawI br N w0
  mono := drawI_mono br N w0
  hy := fun
    | 9 => [5]
    | _ => []
  kills := fun _ => []
  live := []
theorem regLaneR_keeps (br N : Nat) (w0 : World) (hlt : br < w0.heap.size) {w w' : World} (hg : w.grownBy w' (some br)) (i : Nat) : (regLaneR br N w0).keeps i w w' := by
  intro k hk _ _
  simp only [regLaneR, List.mem_cons, List.not_mem_nil, or_false] at hk
  rcases hk with rfl | rfl | rfl | rfl
  all_goals first | exact fun y h => h | exact fun y h => LitAt.grown h hlt hg
def DrawnLane (br : Nat) (w : World) (e : Ending) (w' : World) : Prop :=
  ∃ x : Lt, ∃ g c, ∃ ys : List Cd, ∃ id : Int, ∃ g2 c2, ∃ ms : List Int, e = .returned (.tuple #[ltV x, .slice (some ⟨g, 0, none⟩) ys.length c, .int .i64 id, .slice (some ⟨g2, 0, none⟩) ms.length c2]) ∧ Apt w' w.heap.size [⟨some ⟨g2, 0, none⟩, c2, ms⟩, irR x, irT x] ∧ w'.ownsRow w.heap.size 69 4 (.slice (some ⟨g, 0, none⟩) ys.length c) ys.length (cflat ys) ∧ ys.length ≤ 50 ∧ ms.length ≤ 33 ∧ w.grownBy w' (some br)
theorem l20Lane_any (n : Int) (br N : Nat) (w : World) (hn : 1 ≤ n ∧ n ≤ 1000000) (hN : N ≤ 1000000) (h : Rd w br N) :
    Calls Try.prog 69 #[.pointer (some ⟨br, 0, none⟩), .int .i64 n] w (DrawnLane br w) := by
  have hltw := h.lt
  obtain ⟨o2, ho2⟩ : ∃ o2, o2 = Obj.cells #[.slice none 0 0, .int .i64 0, .slice none 0 0, .bool false] 52 := ⟨_, rfl⟩
  have hal : Below w.heap.size w (w.alloc o2) := (Below.refl _ _).alloc (Nat.le_refl _) _
  have h0 := h.below hal
  have hlt : br < (w.alloc o2).heap.size := h0.lt
  have hsz : w.heap.size < (w.alloc o2).heap.size := by simp
  have HSZ := mkHid hsz
  have hq := heap_alloc_new w o2
  have HGW := mkHid (World.grownBy_alloc w o2 (some br))
  subst ho2
  have HQ := mkHid hq
  clear hal h hsz hq
  go_enter Try.func69, Try.ntmps69
  go_wp2_with fail
  generalize w.alloc (.cells #[.slice none 0 0, .int .i64 0, .slice none 0 0, .bool false] 52) = w0 at *
  refine (l20Program_any n br N w0 hn hN h0).mono ?_
  rintro e w1 ⟨g, c, ys, rfl, hy, ho⟩
  have HO := mkHid ho.2.1
  have HG := mkHid ho.2.2.2.2.1
  have HR := mkHid ho.2.2.2.1
  clear ho h0
  go_wp2_with fail
  refine (l20Memory_any n _ _ _ hn (by omega) HR.out).mono ?_
  rintro e w2 ⟨g2, c2, ms, rfl, o2, hm2, _, r2, gg2⟩
  have HO2 := mkHid (own_apart HO.out gg2 (fun z e => by injection e with e; omega))
  have HM2 := mkHid (own_base o2 HG.out.size)
  have HG2 := mkHid (grown_trans HG.out gg2)
  have HR2 := mkHid r2
  clear o2 r2 gg2 HO HG HR
  go_wp2_with fail
  refine (pick_any _ _ _ _ (by omega) HR2.out).mono ?_
  rintro e w3 ⟨id, rfl, i0, i1, hr, hg⟩
  have HID : Hid (0 ≤ id ∧ id < 8) := mkHid ⟨i0, i1 (by omega)⟩
  have HO3 := mkHid (own_apart HO2.out hg (fun z e => by injection e with e; omega))
  have HM3 := mkHid (own_apart HM2.out hg (fun z e => by injection e with e; omega))
  have HG3 := mkHid (grown_trans HG2.out hg)
  have HR3 := mkHid hr
  clear i0 i1 hr hg HO2 HM2 HG2 HR2
  go_wp2_with fail
  refine (specNewLane_any _).mono ?_
  rintro e w4 ⟨ln, rfl, hf, ol, b4⟩
  obtain ⟨l0, hl0⟩ : ∃ l0, l0 = ltOf ln := ⟨_, rfl⟩
  have hv0 : lnV ln = ltV l0 := by rw [hl0]; rfl
  have h40 : l0.zs.length = 4 ∧ l0.ts.length ≤ 3 := ⟨by rw [hl0]; show ln.zs.length = 4; rw [hf.1]; rfl, by rw [hl0]; simp [ltOf]⟩
  obtain ⟨m, hm⟩ : ∃ m : IR, m = ⟨some ⟨g2, 0, none⟩, c2, ms⟩ := ⟨_, rfl⟩
  have hap4 : Apt w4 w0.heap.size [m, irR l0, irT l0] := by
    have hR : w4.ownsRow w3.heap.size 3 1 (irV (irR l0)) (irR l0).zs.length (ints (irR l0).zs) := by rw [hl0]; exact ol
    have hT : w4.ownsRow w3.heap.size 3 1 (irV (irT l0)) (irT l0).zs.length (ints (irT l0).zs) := by rw [hl0]; exact World.ownsRow_nil _ _ _ _
    have h1 := Apt.two' hR hT (fun z _ e => by rw [hl0] at e; cases e)
    rw [hm]
    exact h1.cons_old HG3.out.size (own_below HM3.out b4) (fun z e => (HM3.out.lt z e).2)
  have hst4 : LaneSt w0 (w4.alloc (.cells #[ltR l0, .int .i64 l0.at_, ltT l0, .bool l0.wt] 52)) br 900000201 w4.heap.size g c ys m l0 :=
    ⟨one_crowdM hap4 (Nat.le_trans HG3.out.size b4.size), own_below (own_below HO3.out b4) ((Below.refl _ _).alloc (Nat.le_refl _) _), (HR3.out.below b4).below ((Below.refl _ _).alloc (Nat.le_refl _) _), grown_below (grown_below HG3.out b4) ((Below.refl _ _).alloc (Nat.le_refl _) _), hlt⟩
  have HS4 := mkHid hst4
  have HMM := mkHid hm
  rw [hv0]
  have H40 := mkHid h40
  clear hap4 hst4 hf ol b4 hl0 hv0 hm HO3 HM3 HG3 HR3 h40
  go_wp2_with fail
  generalize w4.alloc (.cells #[ltR l0, .int .i64 l0.at_, ltT l0, .bool l0.wt] 52) = W4 at *
  generalize w4.heap.size = X at *
  go_loopg [12] 4 (fun gk iv wr => ∃ k : Nat, k ≤ 4 ∧ gk = 4 - k ∧ iv = .int .i64 k ∧ ∃ l' : Lt, (l'.zs.length = 4 ∧ l'.ts.length ≤ 3) ∧ LaneSt w0 wr br (900000201 + 12 * k) X g c ys m l')
  case atStart => exact ⟨0, by omega, by omega, rfl, l0, H40.out, HS4.out⟩
  case round =>
    clear HS4 H40
    obtain ⟨k, hk, rfl, rfl, l1, hl1, hst⟩ := hrel
    have HS := mkHid hst
    by_cases hlt4 : k < 4
    · obtain ⟨⟨x0, x1, x2, x3⟩, _⟩ := hst.cells
      have hrow := hst.cr.r (k := 0) (by simp)
      simp only [List.getElem_cons_zero] at hrow
      obtain ⟨ra, rc, zs, at_, ta, tc, ts, wt⟩ := l1
      simp only [ltR, ltT] at x0 x1 x2 x3 hl1
      obtain ⟨R, hR, -, -, -, -, -⟩ := own_open (show wr.ownsRow w0.heap.size 3 1 (.slice ra zs.length rc) zs.length (ints zs) from hrow) (i := k) (by simp [ints]; omega)
      subst hR
      have HL1 := mkHid hl1
      have h14 : k < zs.length := by have : zs.length = 4 := hl1.1; omega
      have H14 := mkHid h14
      clear hst hrow hl1 h14
      go_upto_region 8 with fail
      have hrd := HS.out.rd
      have hltr := hrd.lt
      have hkeep := @regLaneR_keeps br (900000201 + 12 * k) wr hltr
      have hXlt := HS.out.hX
      have hXb : X ≠ br := by omega
      have xX0 : ∀ u : (regLaneR br (900000201 + 12 * k) wr).W, u.1.cell? ⟨X, 0, none⟩ = some (.slice (some ⟨R, 0, none⟩) zs.length rc) := fun u => by
        obtain ⟨w', m', hw'⟩ := u
        exact hw'.2.cell x0 (fun e => by injection e with e; exact hXb e)
      have h14 := H14.out
      have h14' : (k : Int) < (zs.length : Int) := by omega
      clear x0 x1 x2 x3
      refine wp_region_lastL (regLaneR br (900000201 + 12 * k) wr) rfl (by kernel_rfl) (by kernel_rfl) (by kernel_rfl) (by kernel_rfl) (drawI_start hrd) (fun xs => ?_)
      simp only [List.dropLast]
      refine wpN_det rfl rfl rfl (fun K hK => ?_); go_big_quiet_op; first | (refine hK _ ?_; clear hK K) | (refine ⟨_, fun _ => rfl, hK _ ?_⟩; clear hK K)
      refine wpN_det rfl rfl rfl (fun K hK => ?_); go_big_quiet_op; first | (refine hK _ ?_; clear hK K) | (refine ⟨_, fun _ => rfl, hK _ ?_⟩; clear hK K)
      refine wpN_det rfl rfl rfl (fun K hK => ?_); go_big_quiet_op; first | (refine hK _ ?_; clear hK K) | (refine ⟨_, fun _ => rfl, hK _ ?_⟩; clear hK K)
      refine wpN_det rfl rfl rfl (fun K hK => ?_); go_big_quiet_op; first | (refine hK _ ?_; clear hK K) | (refine ⟨_, fun _ => rfl, hK _ ?_⟩; clear hK K)
      refine wpN_nd rfl rfl ?_ (fun x hx4 => ?_)
      · intro m w hm hI hh
        simp [yields, go_sem]
        refine (pick_any _ _ _ _ (by omega) hI.1).mono ?_
        rintro e w' ⟨r, rfl, h0, h1, hr, hg⟩
        exact ⟨_, rfl, ⟨r, h0, by omega⟩, rfl, trivial, drawI_pick hI hr hg, hkeep hg _⟩
      obtain ⟨r4, p4⟩ := x
      obtain ⟨n4, rfl⟩ := Int.eq_ofNat_of_zero_le p4.1
      show wpN _ _ _ _ _ _ _ (Act.put _ _ (.int .i64 n4))
      simp only [Act.put, List.setIfInBounds_toArray, List.set_cons_succ, List.set_cons_zero]
      have p4' : (n4 : Int) ≤ 255 := p4.2
      refine wpN_nd rfl rfl ?_ (fun x hx5 => ?_)
      · intro m w hm hI hh
        simp [yields, go_sem]
        exact ⟨(w.heap.size : Nat), rfl, LitAt.new w [0, n4, 1] _ hI.2.size (by simp; omega), drawI_alloc hI _, hkeep (World.grownBy_alloc _ _ _) _⟩
      obtain ⟨g5, rfl⟩ : ∃ g : Nat, g = x := ⟨x, rfl⟩
      show wpN _ _ _ _ _ _ _ (Act.put _ _ (.slice (some ⟨g5, 0, none⟩) 3 3))
      simp only [Act.put, List.setIfInBounds_toArray, List.set_cons_succ, List.set_cons_zero]
      refine wpN_det rfl rfl rfl (fun K hK => ?_); go_big_quiet_op; first | (refine hK _ ?_; clear hK K) | (refine ⟨_, fun _ => rfl, hK _ ?_⟩; clear hK K)
      refine wpN_nd rfl rfl ?_ (fun x hx7 => ?_)
      · intro m w hm hI hh
        simp [yields, go_sem]
        refine (pick_any _ _ _ _ (by omega) hI.1).mono ?_
        rintro e w' ⟨r, rfl, h0, h1, hr, hg⟩
        exact ⟨_, rfl, ⟨r, h0, by omega⟩, rfl, trivial, drawI_pick hI hr hg, hkeep hg _⟩
      obtain ⟨r7, p7⟩ := x
      obtain ⟨n7, rfl⟩ := Int.eq_ofNat_of_zero_le p7.1
      show wpN _ _ _ _ _ _ _ (Act.put _ _ (.int .i64 n7))
      simp only [Act.put, List.setIfInBounds_toArray, List.set_cons_succ, List.set_cons_zero]
      have p7' : (n7 : Int) < 3 := by have : (n7 : Int) ≤ 2 := p7.2; omega
      refine wpN_det rfl rfl rfl (fun K hK => ?_); go_big_quiet_op; first | (refine hK _ ?_; clear hK K) | (refine ⟨_, fun _ => rfl, hK _ ?_⟩; clear hK K)
      refine wpN_nd rfl rfl ?_ (fun x hx9 => ?_)
      · intro m w hm hI hh
        have hl := hh 5 (List.mem_singleton_self 5)
        rw [hx5] at hl
        obtain ⟨z, z0, z1, hc⟩ := LitAt.at_ hl (j := n7) (by omega)
        simp only [Nat.zero_add] at hc
        simp [yields, go_sem, hc]
        exact ⟨⟨z, z0, z1⟩, rfl, trivial, drawI_mono _ _ _ _ _ hI, hkeep (World.grownBy.refl _ _) _⟩
      obtain ⟨z, pz⟩ := x
      show wpN _ _ _ _ _ _ _ (Act.put _ _ (.int .i64 z))
      simp only [Act.put, List.setIfInBounds_toArray, List.set_cons_succ, List.set_cons_zero]
      refine wpN_det rfl rfl rfl (fun K hK => ?_); go_big_quiet_op; first | (refine hK _ ?_; clear hK K) | (refine ⟨_, fun _ => rfl, hK _ ?_⟩; clear hK K)
      refine wpN_end (fun w2 hI hV => ?_)
      have HS6 := mkHid (HS.out.pick (M := 900000201 + 12 * k + 11) hI.1 hI.2)
      have hrow := HS6.out.cr.r (k := 0) (by simp)
      simp only [List.getElem_cons_zero] at hrow
      obtain ⟨R', hR', -, -, hcell, hfr, -⟩ := own_open (show w2.ownsRow w0.heap.size 3 1 (.slice (some ⟨R, 0, none⟩) zs.length rc) zs.length (ints zs) from hrow) (i := k) (by simp [ints]; omega)
      injection hR' with hR'
      injection hR' with hR'
      subst hR'
      clear hrow hI hV hkeep xX0 hx4 hx5 hx7 hx9 p4 p7
      show wpList _ _ _ _ _ _
      go_wp2_with fail
      go_roundg (4 - (k + 1))
      case rel => exact ⟨k + 1, by omega, rfl, by go_num, ⟨some ⟨R, 0, none⟩, rc, zs.set k z, at_, ta, tc, ts, wt⟩, ⟨by simpa using HL1.out.1, HL1.out.2⟩, (HS6.out.reg rfl H14.out z).more (by omega)⟩
      case measure => omega
    · have hk4 : k = 4 := by omega
      subst hk4
      have HSX := mkHid (HS.out.more (M := 900000260) (by omega))
      have HT1 := mkHid hl1.2
      clear hst HS hlt4 hk hl1
      go_wp2_with fail
      refine (pick_any _ _ _ _ (by omega) HSX.out.rd).mono ?_
      rintro e w5 ⟨j0, rfl, j00, j01, r5, g5⟩
      have j01 := j01 (by omega)
      obtain ⟨jn, rfl⟩ := Int.eq_ofNat_of_zero_le j00
      have HS5 := mkHid (HSX.out.pick r5 g5)
      have hjn : jn < 30 := by omega
      clear r5 g5 HSX j00 j01
      go_wp2_with fail
      go_loopg [13] jn (fun gk iv wr => ∃ j : Nat, j ≤ jn ∧ gk = 0 + j ∧ iv = .int .i64 j ∧ ∃ l' : Lt, l'.ts.length ≤ 3 ∧ LaneSt w0 wr br (900000300 + (jn - j)) X g c ys m l')
      case atStart => exact ⟨jn, Nat.le_refl _, by omega, rfl, l1, HT1.out, HS5.out.more (by omega)⟩
      case round =>
        clear HS5 HT1
        obtain ⟨j, hj, rfl, rfl, l2, ht2, hst⟩ := hrel
        have HS := mkHid hst
        have HT2 := mkHid ht2
        by_cases hj0 : 0 < j
        · obtain ⟨⟨x0, x1, x2, x3⟩, f0, f1, f2, f3⟩ := hst.cells
          have HSL := mkHid (specStepLane_any l2 (some ⟨g, 0, none⟩) c ys id (some ⟨g2, 0, none⟩) c2 ms wr (by omega) (by omega) (Sl.of_own hst.code) hst.laneIn (by have := Sl.of_own hst.cr.mem; rw [HMM.out] at this; exact this))
          have HTR := mkHid (stepTo_turns ys l2.st id ms)
          obtain ⟨r, hr⟩ : ∃ r, r = stepTo ys l2.st id ms := ⟨_, rfl⟩
          rw [← hr] at HSL HTR
          simp only [ltR, ltT] at x0 x2
          clear hst hr ht2
          go_wp2_with fail
          refine HSL.out.mono ?_
          rintro e w6 ⟨l3, A3, c3, rfl, hst3, hap3, b6⟩
          have HSS := mkHid (HS.out.store b6 hap3)
          have HT3 : Hid (l3.ts.length ≤ 3) := mkHid (by
            have e : l3.ts = r.1.turns := by rw [← hst3]
            rw [e]; exact HTR.out)
          clear x0 x1 x2 x3 f0 f1 f2 f3
          obtain ⟨⟨x0, x1, x2, x3⟩, f0, f1, f2, f3⟩ := (HS.out.below b6).cells
          simp only [ltR, ltT] at x0 x2
          clear b6 hap3 hst3 HSL HTR
          go_upto_region 13 with fail
          refine name_world ?_
          intro W7 hW7
          have HS7 := mkHid (show LaneSt w0 W7 br (900000300 + (jn - j)) X g c ys m l3 from by rw [hW7]; exact HSS.out)
          clear hW7 HSS x0 x1 x2 x3 f0 f1 f2 f3
          go_wp2_with fail
          refine (pick_any _ _ _ _ (by omega) HS7.out.rd).mono ?_
          rintro e w8 ⟨q, rfl, q0, q1, r8, g8⟩
          have q1 := q1 (by omega)
          have HS8 := mkHid (HS7.out.pick r8 g8)
          clear r8 g8
          have hq01 : q = 0 ∨ q = 1 := by omega
          clear q0 q1
          rcases hq01 with rfl | rfl
          · obtain ⟨⟨-, -, -, x3⟩, -, -, -, f3⟩ := HS8.out.cells
            go_wp2_with fail
            go_roundg (j - 1)
            case rel => exact ⟨j - 1, by omega, by omega, by congr 1; omega, ⟨l3.ra, l3.rc, l3.zs, l3.at_, l3.ta, l3.tc, l3.ts, false⟩, HT3.out, (HS8.out.wait false).more (by omega)⟩
            case measure => omega
          · go_wp2_with fail
            go_roundg (j - 1)
            case rel => exact ⟨j - 1, by omega, by omega, by congr 1; omega, l3, HT3.out, HS8.out.more (by omega)⟩
            case measure => omega
        · have hj0' : j = 0 := by omega
          subst hj0'
          have HSO := mkHid (HS.out.more (M := 900000400) (by omega))
          clear hst HS hj0 hj ht2
          go_wp2_with fail
          refine (oddAny _ _ _ _ hn.1 hn.2 (by omega) HSO.out.rd).mono ?_
          rintro e w6 ⟨b, rfl, r6, g6⟩
          have HS6 := mkHid (HSO.out.pick r6 g6)
          clear r6 g6 HSO
          obtain ⟨ra, rc, zs, at_, ta, tc, ts, wt⟩ := l2
          cases b with
          | false =>
            have HSE := mkHid HS6.out
            obtain ⟨⟨x0, x1, x2, x3⟩, -⟩ := HSE.out.cells
            simp only [ltR, ltT] at x0 x2
            obtain ⟨⟨d0, d1, d2, d3⟩, e0, e1, e2, e3⟩ := box4e (HSE.out.box HSZ.out hltw HQ.out)
            have HFIN := mkHid (fun a b c d => HSE.out.fin HGW.out HSZ.out hltw (grown_s4 _ w.heap.size a b c d))
            go_wp2_with fail
            refine bodyPost_ret (v := .tuple #[ltV ⟨ra, rc, zs, at_, ta, tc, ts, wt⟩, .slice (some ⟨g, 0, none⟩) ys.length c, .int .i64 id, .slice (some ⟨g2, 0, none⟩) ms.length c2]) (by simp [results, Try.results69, go_sem, d0, d1, d2, d3]) rfl ?_
            obtain ⟨q1, q2, q4⟩ := HFIN.out _ _ _ _
            exact ⟨⟨ra, rc, zs, at_, ta, tc, ts, wt⟩, g, c, ys, id, g2, c2, ms, rfl, by (rw [HMM.out] at q1; exact q1), q2, hy, hm2, q4⟩
          | true =>
            by_cases hz0 : 0 < (zs.length : Int)
            · obtain ⟨⟨x0, x1, x2, x3⟩, f0, f1, f2, f3⟩ := HS6.out.cells
              simp only [ltR, ltT] at x0 x2
              go_wp2_with fail
              refine (pick_any _ _ _ _ (by omega) HS6.out.rd).mono ?_
              rintro e w7 ⟨q, rfl, q0, q1, r7, g7⟩
              have q1 := q1 (by omega)
              have HS7 := mkHid (HS6.out.pick r7 g7)
              clear r7 g7 x0 x1 x2 x3 f0 f1 f2 f3 HS6
              have hq : q = 0 ∨ q = 1 ∨ q = 2 ∨ q = 3 ∨ q = 4 := by omega
              clear q0 q1
              obtain ⟨⟨x0, x1, x2, x3⟩, f0, f1, f2, f3⟩ := HS7.out.cells
              simp only [ltR, ltT] at x0 x2
              rcases hq with rfl | rfl | rfl | rfl | rfl
              · have hrow := HS7.out.cr.r (k := 0) (by simp)
                simp only [List.getElem_cons_zero] at hrow
                obtain ⟨R, hR, -, -, hcell, hfr, -⟩ := own_open (show w7.ownsRow w0.heap.size 3 1 (.slice ra zs.length rc) zs.length (ints zs) from hrow) (i := 0) (by simp [ints]; omega)
                subst hR
                clear hrow
                go_upto_region 26 with fail
                refine name_world ?_
                intro WE hWE
                have HSE := mkHid (show LaneSt w0 WE br (900000400 + 1 + 1) X g c ys m ⟨some ⟨R, 0, none⟩, rc, zs.set 0 256, at_, ta, tc, ts, wt⟩ from by rw [hWE]; exact HS7.out.reg rfl (by show 0 < zs.length; omega) 256)
                have hzl : (zs.set 0 256).length = zs.length := by simp
                clear x0 x1 x2 x3 f0 f1 f2 f3 hcell hfr hWE
                obtain ⟨⟨x0, x1, x2, x3⟩, -⟩ := HSE.out.cells
                simp only [ltR, ltT] at x0 x2
                obtain ⟨⟨d0, d1, d2, d3⟩, e0, e1, e2, e3⟩ := box4e (HSE.out.box HSZ.out hltw HQ.out)
                have HFIN := mkHid (fun a b c d => HSE.out.fin HGW.out HSZ.out hltw (grown_s4 _ w.heap.size a b c d))
                go_wp2_with fail
                refine bodyPost_ret (v := .tuple #[ltV ⟨some ⟨R, 0, none⟩, rc, zs.set 0 256, at_, ta, tc, ts, wt⟩, .slice (some ⟨g, 0, none⟩) ys.length c, .int .i64 id, .slice (some ⟨g2, 0, none⟩) ms.length c2]) (by simp [results, Try.results69, go_sem, d0, d1, d2, d3]) rfl ?_
                obtain ⟨q1, q2, q4⟩ := HFIN.out _ _ _ _
                exact ⟨⟨some ⟨R, 0, none⟩, rc, zs.set 0 256, at_, ta, tc, ts, wt⟩, g, c, ys, id, g2, c2, ms, rfl, by (rw [HMM.out] at q1; exact q1), q2, hy, hm2, q4⟩
              · have hlit := LitAt.new (base := w7.heap.size) (lo := -1) (hi := 51) w7 [-1, ys.length + 1] 3 (Nat.le_refl _) (by simp; omega)
                have HL := mkHid hlit
                have hlt7 := HS7.out.rd.lt
                have HS8 := mkHid (HS7.out.below ((Below.refl _ _).alloc (Nat.le_refl _) (.cells #[.int .i64 (-1), .int .i64 ((ys.length : Int) + 1)] 3)))
                clear hlit
                go_wp2_with fail
                refine (pick_any _ _ _ _ (by omega) HS8.out.rd).mono ?_
                rintro e w9 ⟨p, rfl, p0, p1, r9, g9⟩
                have p1 := p1 (by omega)
                obtain ⟨pn, rfl⟩ := Int.eq_ofNat_of_zero_le p0
                obtain ⟨z, z0, z1, hc⟩ := (HL.out.grown hlt7 g9).at_ (j := pn) (by simp; omega)
                simp only [Nat.zero_add] at hc
                have HS9 := mkHid (HS8.out.pick r9 g9)
                clear r9 g9 x0 x1 x2 x3 f0 f1 f2 f3
                obtain ⟨⟨x0, x1, x2, x3⟩, f0, f1, f2, f3⟩ := HS9.out.cells
                go_upto_region 26 with fail
                refine name_world ?_
                intro WE hWE
                have HSE := mkHid (show LaneSt w0 WE br _ X g c ys m ⟨ra, rc, zs, z, ta, tc, ts, wt⟩ from by rw [hWE]; exact HS9.out.place z)
                clear x0 x1 x2 x3 f0 f1 f2 f3 hWE hc
                obtain ⟨⟨x0, x1, x2, x3⟩, -⟩ := HSE.out.cells
                simp only [ltR, ltT] at x0 x2
                obtain ⟨⟨d0, d1, d2, d3⟩, e0, e1, e2, e3⟩ := box4e (HSE.out.box HSZ.out hltw HQ.out)
                have HFIN := mkHid (fun a b c d => HSE.out.fin HGW.out HSZ.out hltw (grown_s4 _ w.heap.size a b c d))
                go_wp2_with fail
                refine bodyPost_ret (v := .tuple #[ltV ⟨ra, rc, zs, z, ta, tc, ts, wt⟩, .slice (some ⟨g, 0, none⟩) ys.length c, .int .i64 id, .slice (some ⟨g2, 0, none⟩) ms.length c2]) (by simp [results, Try.results69, go_sem, d0, d1, d2, d3]) rfl ?_
                obtain ⟨q1, q2, q4⟩ := HFIN.out _ _ _ _
                exact ⟨⟨ra, rc, zs, z, ta, tc, ts, wt⟩, g, c, ys, id, g2, c2, ms, rfl, by (rw [HMM.out] at q1; exact q1), q2, hy, hm2, q4⟩
              · have HT7 := mkHid (show w7.ownsRow w0.heap.size 3 1 (.slice ta ts.length tc) ts.length (ints ts) from by
                  have := HS7.out.cr.t (k := 0) (by simp)
                  simpa using this)
                have ht3 : ts.length ≤ 3 := HT2.out
                have hsz7 := HS7.out.gr.size
                have HNX := mkHid (own_ne_heapA HT7.out HS7.out.cr.heapG.choose_spec (by decide))
                obtain ⟨t4, ht4⟩ : ∃ t4, t4 = ts ++ [(1 : Int)] := ⟨_, rfl⟩
                have HT4 := mkHid ht4
                have ht4l : ts.length + 1 = t4.length := by rw [ht4]; simp
                have HT4L := mkHid ht4l
                clear ht4 ht4l
                go_upto_region 26 with (at_builtin
                                        refine wpList_appAt Ei (HT7.out.alloc _) HT4L.out (show _ = ints t4 from by rw [HT4.out]; simp [ints]) (newCellsAt _ _ _ (by simp)) rfl (by simp [Value.oneCell']) (by omega) (by omega) (by simp; omega) rfl rfl rfl rfl ?_
                                        intro A4 c4 w9 hown4 hg4 hat4
                                        have HO4 := mkHid hown4
                                        have HG4 := mkHid hg4
                                        have HA4 := mkHid hat4
                                        have k2 := hg4.cell (a := ⟨X, 2, none⟩) (keepA x2 _) (fun e => HNX.out e.symm)
                                        have kf := (hg4.frozen_far ⟨X, 2, none⟩ (World.block_lt_of_cell? _ _ (keepA x2 _)) (fun e => HNX.out e.symm)).trans (keepF x2 f2 _)
                                        clear hown4 hg4 hat4 x2 f2)
                refine name_world ?_
                intro WE hWE
                have hst9 := ((HS7.out.below ((Below.refl _ _).alloc (Nat.le_refl _) _)).turns HG4.out HO4.out (fun g e => by rcases HA4.out with h | h <;> rw [e] at h; exact .inl h.symm; exact .inr (by injection h with h; omega)))
                try rw [← hWE] at hst9
                have HSE := mkHid (show LaneSt w0 WE br _ X g c ys m ⟨ra, rc, zs, at_, A4, c4, t4, wt⟩ from hst9)
                clear x0 x1 x3 f0 f1 f3 k2 kf hst9 hWE
                obtain ⟨⟨x0, x1, x2, x3⟩, -⟩ := HSE.out.cells
                simp only [ltR, ltT] at x0 x2
                obtain ⟨⟨d0, d1, d2, d3⟩, e0, e1, e2, e3⟩ := box4e (HSE.out.box HSZ.out hltw HQ.out)
                have HFIN := mkHid (fun a b c d => HSE.out.fin HGW.out HSZ.out hltw (grown_s4 _ w.heap.size a b c d))
                go_wp2_with fail
                refine bodyPost_ret (v := .tuple #[ltV ⟨ra, rc, zs, at_, A4, c4, t4, wt⟩, .slice (some ⟨g, 0, none⟩) ys.length c, .int .i64 id, .slice (some ⟨g2, 0, none⟩) ms.length c2]) (by simp [results, Try.results69, go_sem, d0, d1, d2, d3]) rfl ?_
                obtain ⟨q1, q2, q4⟩ := HFIN.out _ _ _ _
                exact ⟨⟨ra, rc, zs, at_, A4, c4, t4, wt⟩, g, c, ys, id, g2, c2, ms, rfl, by (rw [HMM.out] at q1; exact q1), q2, hy, hm2, q4⟩
              · go_upto_region 26 with fail
                refine name_world ?_
                intro WE hWE
                have HSE := mkHid (show LaneSt w0 WE br _ X g c ys m ⟨ra, rc, zs, at_, ta, tc, ts, true⟩ from by rw [hWE]; exact HS7.out.wait true)
                clear x0 x1 x2 x3 f0 f1 f2 f3 hWE
                obtain ⟨⟨x0, x1, x2, x3⟩, -⟩ := HSE.out.cells
                simp only [ltR, ltT] at x0 x2
                obtain ⟨⟨d0, d1, d2, d3⟩, e0, e1, e2, e3⟩ := box4e (HSE.out.box HSZ.out hltw HQ.out)
                have HFIN := mkHid (fun a b c d => HSE.out.fin HGW.out HSZ.out hltw (grown_s4 _ w.heap.size a b c d))
                go_wp2_with fail
                refine bodyPost_ret (v := .tuple #[ltV ⟨ra, rc, zs, at_, ta, tc, ts, true⟩, .slice (some ⟨g, 0, none⟩) ys.length c, .int .i64 id, .slice (some ⟨g2, 0, none⟩) ms.length c2]) (by simp [results, Try.results69, go_sem, d0, d1, d2, d3]) rfl ?_
                obtain ⟨q1, q2, q4⟩ := HFIN.out _ _ _ _
                exact ⟨⟨ra, rc, zs, at_, ta, tc, ts, true⟩, g, c, ys, id, g2, c2, ms, rfl, by (rw [HMM.out] at q1; exact q1), q2, hy, hm2, q4⟩
              · have hlit := LitAt.new (base := w7.heap.size) (lo := -1) (hi := 8) w7 [-1, 8] 3 (Nat.le_refl _) (by simp)
                have HL := mkHid hlit
                have hlt7 := HS7.out.rd.lt
                have HS8 := mkHid (HS7.out.below ((Below.refl _ _).alloc (Nat.le_refl _) (.cells #[.int .i64 (-1), .int .i64 8] 3)))
                clear hlit
                go_wp2_with fail
                refine (pick_any _ _ _ _ (by omega) HS8.out.rd).mono ?_
                rintro e w9 ⟨p, rfl, p0, p1, r9, g9⟩
                have p1 := p1 (by omega)
                obtain ⟨pn, rfl⟩ := Int.eq_ofNat_of_zero_le p0
                obtain ⟨z, z0, z1, hc⟩ := (HL.out.grown hlt7 g9).at_ (j := pn) (by simp; omega)
                simp only [Nat.zero_add] at hc
                have HSE := mkHid (HS8.out.pick r9 g9)
                clear r9 g9 x0 x1 x2 x3 f0 f1 f2 f3
                obtain ⟨⟨x0, x1, x2, x3⟩, -⟩ := HSE.out.cells
                simp only [ltR, ltT] at x0 x2
                obtain ⟨⟨d0, d1, d2, d3⟩, e0, e1, e2, e3⟩ := box4e (HSE.out.box HSZ.out hltw HQ.out)
                have HFIN := mkHid (fun a b c d => HSE.out.fin HGW.out HSZ.out hltw (grown_s4 _ w.heap.size a b c d))
                go_wp2_with fail
                refine bodyPost_ret (v := .tuple #[ltV ⟨ra, rc, zs, at_, ta, tc, ts, wt⟩, .slice (some ⟨g, 0, none⟩) ys.length c, .int .i64 z, .slice (some ⟨g2, 0, none⟩) ms.length c2]) (by simp [results, Try.results69, go_sem, d0, d1, d2, d3]) rfl ?_
                obtain ⟨q1, q2, q4⟩ := HFIN.out _ _ _ _
                exact ⟨⟨ra, rc, zs, at_, ta, tc, ts, wt⟩, g, c, ys, z, g2, c2, ms, rfl, by (rw [HMM.out] at q1; exact q1), q2, hy, hm2, q4⟩
            · obtain ⟨⟨x0, x1, x2, x3⟩, f0, f1, f2, f3⟩ := HS6.out.cells
              simp only [ltR, ltT] at x0 x2
              have HSE := mkHid HS6.out
              clear x1 x2 x3 f0 f1 f2 f3
              obtain ⟨⟨x0, x1, x2, x3⟩, -⟩ := HSE.out.cells
              simp only [ltR, ltT] at x0 x2
              obtain ⟨⟨d0, d1, d2, d3⟩, e0, e1, e2, e3⟩ := box4e (HSE.out.box HSZ.out hltw HQ.out)
              have HFIN := mkHid (fun a b c d => HSE.out.fin HGW.out HSZ.out hltw (grown_s4 _ w.heap.size a b c d))
              go_wp2_with fail
              refine bodyPost_ret (v := .tuple #[ltV ⟨ra, rc, zs, at_, ta, tc, ts, wt⟩, .slice (some ⟨g, 0, none⟩) ys.length c, .int .i64 id, .slice (some ⟨g2, 0, none⟩) ms.length c2]) (by simp [results, Try.results69, go_sem, d0, d1, d2, d3]) rfl ?_
              obtain ⟨q1, q2, q4⟩ := HFIN.out _ _ _ _
              exact ⟨⟨ra, rc, zs, at_, ta, tc, ts, wt⟩, g, c, ys, id, g2, c2, ms, rfl, by (rw [HMM.out] at q1; exact q1), q2, hy, hm2, q4⟩
/-- a lane, a program, a number and a memory are drawn. -/
def DrawnLaneW (w : World) (e : Ending) (w' : World) : Prop :=
  ∃ x : Lt, ∃ g c, ∃ ys : List Cd, ∃ id : Int, ∃ g2 c2, ∃ ms : List Int, e = .returned (.tuple #[ltV x, .slice (some ⟨g, 0, none⟩) ys.length c, .int .i64 id, .slice (some ⟨g2, 0, none⟩) ms.length c2]) ∧ LaneIn w' x ∧ Sl w' (some ⟨g, 0, none⟩) (cflat ys) ∧ ys.length ≤ 50 ∧ Sl w' (some ⟨g2, 0, none⟩) (ints ms) ∧ ms.length ≤ 33 ∧ Below w.heap.size w w'
theorem drawStepLane_any (A : Option Addr) (c : Nat) (zs : List Int) (w : World) (hl : zs.length ≤ 9223372036854775807) (hcap : zs.length ≤ c) (hs : Sl w A (u8s zs)) (hz : ∀ z ∈ zs, 0 ≤ z ∧ z ≤ 255) :
    Calls Try.prog 33 #[.slice A zs.length c] w (DrawnLaneW w) := by
  obtain ⟨o2, ho2⟩ : ∃ o2, o2 = Obj.cells #[.slice none 0 0, .int .i64 0, .slice none 0 0, .bool false] 52 := ⟨_, rfl⟩
  have hal : Below w.heap.size w (w.alloc o2) := (Below.refl _ _).alloc (Nat.le_refl _) _
  have hs0 := hs.below hal
  have hsz : w.heap.size < (w.alloc o2).heap.size := by simp
  have HSZ := mkHid hsz
  have HB0 := mkHid hal
  have hq := heap_alloc_new w o2
  subst ho2
  have HQ := mkHid hq
  clear hal hs hsz hq
  go_enter Try.func33, Try.ntmps33
  go_wp2_with fail
  generalize w.alloc (.cells #[.slice none 0 0, .int .i64 0, .slice none 0 0, .bool false] 52) = w0 at *
  refine (l20Open_any _ _ _ _ hl hcap hs0 hz).mono ?_
  rintro e w1 ⟨br, rfl, hbr, r1, b1⟩
  have HB1 := mkHid b1
  have HR1 := mkHid r1
  have hlt := r1.lt
  clear b1 hs0 hz r1
  go_wp2_with fail
  refine (l20Lane_any 16 br 0 w1 (by omega) (by omega) HR1.out).mono ?_
  rintro e w2 ⟨x, g, c', ys, id, g2, c2, ms, rfl, q1, q2, hy, hm, q4⟩
  have hb02 : Below w0.heap.size w0 w2 := HB1.out.grown q4 HB1.out.size (fun g e => by injection e with e; omega)
  have hq2 := (hb02.block _ (Array.getElem?_eq_some_iff.1 HQ.out).1).trans HQ.out
  have HB2 := mkHid (HB0.out.trans (hb02.mono HB0.out.size))
  have HZ1 := mkHid HB1.out.size
  have Q1 := mkHid q1
  have Q2 := mkHid q2
  obtain ⟨⟨d0, d1, d2, d3⟩, e0, e1, e2, e3⟩ := box4e hq2
  clear q1 q2 q4 hb02 hq2
  go_wp2_with fail
  refine bodyPost_ret (v := .tuple #[ltV x, .slice (some ⟨g, 0, none⟩) ys.length c', .int .i64 id, .slice (some ⟨g2, 0, none⟩) ms.length c2]) (by simp [results, Try.results33, go_sem, d0, d1, d2, d3]) rfl ?_
  have hgs := grown_s4 w2 w.heap.size (ltR x) (.int .i64 x.at_) (ltT x) (.bool x.wt)
  have hlt1 : w.heap.size < w1.heap.size := Nat.lt_of_lt_of_le HSZ.out HZ1.out
  have q1 := (Q1.out.old hgs (fun z e => by injection e with e; omega)).laneW
  exact ⟨x, g, c', ys, id, g2, c2, ms, rfl, q1.1, Sl.of_own (own_apart Q2.out hgs (fun z e => by injection e with e; omega)), hy, q1.2, hm, HB2.out.grown hgs HB2.out.size (fun z e => by injection e with e; omega)⟩
theorem drawRunLane_any (A : Option Addr) (c : Nat) (zs : List Int) (w : World) (hl : zs.length ≤ 9223372036854775807) (hcap : zs.length ≤ c) (hs : Sl w A (u8s zs)) (hz : ∀ z ∈ zs, 0 ≤ z ∧ z ≤ 255) :
    Calls Try.prog 27 #[.slice A zs.length c] w (DrawnLaneW w) := by
  obtain ⟨o2, ho2⟩ : ∃ o2, o2 = Obj.cells #[.slice none 0 0, .int .i64 0, .slice none 0 0, .bool false] 52 := ⟨_, rfl⟩
  have hal : Below w.heap.size w (w.alloc o2) := (Below.refl _ _).alloc (Nat.le_refl _) _
  have hs0 := hs.below hal
  have hsz : w.heap.size < (w.alloc o2).heap.size := by simp
  have HSZ := mkHid hsz
  have HB0 := mkHid hal
  have hq := heap_alloc_new w o2
  subst ho2
  have HQ := mkHid hq
  clear hal hs hsz hq
  go_enter Try.func27, Try.ntmps27
  go_wp2_with fail
  generalize w.alloc (.cells #[.slice none 0 0, .int .i64 0, .slice none 0 0, .bool false] 52) = w0 at *
  refine (l20Open_any _ _ _ _ hl hcap hs0 hz).mono ?_
  rintro e w1 ⟨br, rfl, hbr, r1, b1⟩
  have HB1 := mkHid b1
  have HR1 := mkHid r1
  have hlt := r1.lt
  clear b1 hs0 hz r1
  go_wp2_with fail
  refine (l20Lane_any 16 br 0 w1 (by omega) (by omega) HR1.out).mono ?_
  rintro e w2 ⟨x, g, c', ys, id, g2, c2, ms, rfl, q1, q2, hy, hm, q4⟩
  have hb02 : Below w0.heap.size w0 w2 := HB1.out.grown q4 HB1.out.size (fun g e => by injection e with e; omega)
  have hq2 := (hb02.block _ (Array.getElem?_eq_some_iff.1 HQ.out).1).trans HQ.out
  have HB2 := mkHid (HB0.out.trans (hb02.mono HB0.out.size))
  have HZ1 := mkHid HB1.out.size
  have Q1 := mkHid q1
  have Q2 := mkHid q2
  obtain ⟨⟨d0, d1, d2, d3⟩, e0, e1, e2, e3⟩ := box4e hq2
  clear q1 q2 q4 hb02 hq2
  go_wp2_with fail
  refine bodyPost_ret (v := .tuple #[ltV x, .slice (some ⟨g, 0, none⟩) ys.length c', .int .i64 id, .slice (some ⟨g2, 0, none⟩) ms.length c2]) (by simp [results, Try.results27, go_sem, d0, d1, d2, d3]) rfl ?_
  have hgs := grown_s4 w2 w.heap.size (ltR x) (.int .i64 x.at_) (ltT x) (.bool x.wt)
  have hlt1 : w.heap.size < w1.heap.size := Nat.lt_of_lt_of_le HSZ.out HZ1.out
  have q1 := (Q1.out.old hgs (fun z e => by injection e with e; omega)).laneW
  exact ⟨x, g, c', ys, id, g2, c2, ms, rfl, q1.1, Sl.of_own (own_apart Q2.out hgs (fun z e => by injection e with e; omega)), hy, q1.2, hm, HB2.out.grown hgs HB2.out.size (fun z e => by injection e with e; omega)⟩
end Go.Proofs.Ytjmiilneennjaaa

namespace Go.Proofs.Ytjmiilneennjaaa
open Go.RowKit
set_option maxHeartbeats 2000000
set_option maxRecDepth 100000
set_option linter.unusedVariables false

theorem sameLt_same (x y : Lt) (w : World) (he : x.st = y.st) (hx : LaneIn w x) (hy : LaneIn w y) :
    Calls Try.prog 30 #[ltV x, ltV y] w fun e w' => e = .returned (.bool true) ∧ Below w.heap.size w w' := by
  obtain ⟨ra, ca, zs, t, ta, ea, ts, b⟩ := x
  obtain ⟨rb, cb, zs', t', tb, eb, ts', b'⟩ := y
  simp only [Lt.st, LS.mk.injEq] at he
  obtain ⟨rfl, rfl, rfl, rfl⟩ := he
  obtain ⟨o1, ho1⟩ : ∃ o1, o1 = Obj.cells #[.slice ra zs.length ca, .int .i64 t, .slice ta ts.length ea, .bool b] 52 := ⟨_, rfl⟩
  obtain ⟨o2, ho2⟩ : ∃ o2, o2 = Obj.cells #[.slice rb zs.length cb, .int .i64 t, .slice tb ts.length eb, .bool b] 52 := ⟨_, rfl⟩
  have hb : Below w.heap.size w ((w.alloc o1).alloc o2) := ((Below.refl _ _).alloc (Nat.le_refl _) _).alloc (by simp) _
  have hE := sameInts_same ra rb ca cb zs ((w.alloc o1).alloc o2) hx.1.2 (hx.1.1.below hb) (hy.1.1.below hb)
  have hN := fun X : World => fun hX : Below w.heap.size w X => sameInts_same ta tb ea eb ts X hx.2.2 (hx.2.1.below hX) (hy.2.1.below hX)
  have q1 : ∀ k, (((w.alloc o1).alloc o2).drewN k).heap[w.heap.size]? = some o1 := fun k => by
    show ((w.alloc o1).alloc o2).heap[w.heap.size]? = some o1
    rw [heap_alloc_old _ _ (by simp)]; exact heap_alloc_new _ _
  have q2 : ∀ k, (((w.alloc o1).alloc o2).drewN k).heap[w.heap.size + 1]? = some o2 := fun k => by
    show ((w.alloc o1).alloc o2).heap[w.heap.size + 1]? = some o2
    have := heap_alloc_new (w.alloc o1) o2
    simpa using this
  have HB := mkHid hb
  subst ho1 ho2
  have HE := mkHid hE
  have HN := mkHid hN
  have p1 := fun k => (box4t (q1 k)).1
  have p2 := fun k => (box4t (q2 k)).1
  have P1 := mkHid p1
  have P2 := mkHid p2
  clear hE hN q1 q2 hb hx hy p1 p2
  go_enter Try.func30, Try.ntmps30
  go_wp2_with fail
  refine HE.out.mono ?_
  rintro e w2 ⟨rfl, k, rfl⟩
  obtain ⟨a0, a1, a2, a3⟩ := P1.out k
  obtain ⟨b0, b1, b2, b3⟩ := P2.out k
  have HB2 := mkHid (below_drewN HB.out k)
  go_wp2_with fail
  refine (HN.out _ HB2.out).mono ?_
  rintro e w2 ⟨rfl, k2, rfl⟩
  have HB3 := mkHid (below_drewN HB2.out k2)
  rw [World.drewN_drewN] at HB3 ⊢
  obtain ⟨a0, a1, a2, a3⟩ := P1.out (k + k2)
  obtain ⟨b0, b1, b2, b3⟩ := P2.out (k + k2)
  go_wp2_with fail
  go_ret
  exact ⟨rfl, HB3.out⟩
theorem sameCr_same (A B : Option Addr) (c d : Nat) (m n : IR) (xs ys : List Lt) (w : World) (hl : xs.length ≤ 9223372036854775807) (hz : m.zs.length ≤ 9223372036854775807) (hs : sts xs = sts ys) (hm : m.zs = n.zs) (hx : TGrid w A xs) (hy : TGrid w B ys) (h1 : Sl w m.a (ints m.zs)) (h2 : Sl w n.a (ints n.zs)) :
    Calls Try.prog 25 #[.agg #[.slice A xs.length c, .slice m.a m.zs.length m.c], .agg #[.slice B ys.length d, .slice n.a n.zs.length n.c]] w fun e w' => e = .returned (.bool true) ∧ Below w.heap.size w w' := by
  obtain ⟨MA, mc, zs⟩ := m
  obtain ⟨MB, md, zs'⟩ := n
  simp only at hm hz h1 h2 ⊢
  subst hm
  have hlen : ys.length = xs.length := by have := congrArg List.length hs; simpa using this.symm
  rw [hlen]
  obtain ⟨o1, ho1⟩ : ∃ o1, o1 = Obj.cells #[.slice A xs.length c, .slice MA zs.length mc] 32 := ⟨_, rfl⟩
  obtain ⟨o2, ho2⟩ : ∃ o2, o2 = Obj.cells #[.slice B xs.length d, .slice MB zs.length md] 32 := ⟨_, rfl⟩
  have hb : Below w.heap.size w ((w.alloc o1).alloc o2) := ((Below.refl _ _).alloc (Nat.le_refl _) _).alloc (by simp) _
  have q1 : ((w.alloc o1).alloc o2).heap[w.heap.size]? = some o1 := by
    rw [heap_alloc_old _ _ (by simp)]; exact heap_alloc_new _ _
  have q2 : ((w.alloc o1).alloc o2).heap[w.heap.size + 1]? = some o2 := by
    have := heap_alloc_new (w.alloc o1) o2
    simpa using this
  have HB := mkHid hb
  have Q1 := mkHid (fun X (hX : Below ((w.alloc o1).alloc o2).heap.size ((w.alloc o1).alloc o2) X) => (hX.block w.heap.size (by simp; omega)).trans q1)
  have Q2 := mkHid (fun X (hX : Below ((w.alloc o1).alloc o2).heap.size ((w.alloc o1).alloc o2) X) => (hX.block (w.heap.size + 1) (by simp)).trans q2)
  subst ho1 ho2
  obtain ⟨p0, p1⟩ := box2t (Q1.out _ (Below.refl _ _))
  obtain ⟨r0, r1⟩ := box2t (Q2.out _ (Below.refl _ _))
  have H1 := mkHid h1
  have H2 := mkHid h2
  have HX := mkHid (hx.below hb)
  have HY := mkHid (hy.below hb)
  have HS := mkHid hs
  have HL := mkHid hlen.symm
  clear hb q1 q2 hx hy h1 h2 hs hlen
  go_enter Try.func25, Try.ntmps25
  go_wp2_with fail
  clear p0 p1 r0 r1
  generalize ((w.alloc (.cells #[.slice A xs.length c, .slice MA zs.length mc] 32)).alloc (.cells #[.slice B xs.length d, .slice MB zs.length md] 32)) = w2 at *
  go_loopw [5] (fun i wr => ∃ k : Nat, k ≤ xs.length ∧ i = .int .i64 k ∧ Below w2.heap.size w2 wr) (fun i _ => xs.length - (intOf i).toNat)
  case atStart => exact ⟨0, by omega, rfl, Below.refl _ _⟩
  case round =>
    obtain ⟨k, hk, rfl, hb⟩ := hrel
    have HBR := mkHid hb
    have hx' := HX.out.below hb
    have hy' := HY.out.below hb
    obtain ⟨p0, p1⟩ := box2t (Q1.out _ hb)
    obtain ⟨r0, r1⟩ := box2t (Q2.out _ hb)
    clear hb
    by_cases hlt : k < xs.length
    · have hlt2 : k < ys.length := by rw [← HL.out]; exact hlt
      have he : xs[k].st = ys[k].st := by
        have := congrArg (fun z => z[k]?) HS.out
        simpa [hlt, hlt2] using this
      obtain ⟨b, off, hA, h0, h1, h2, h3⟩ := hx'.1.lt hlt
      obtain ⟨b', off', hA', g0, g1, g2, g3⟩ := hy'.1.lt hlt2
      have s1 : LaneIn wr xs[k] := hx'.lane hlt
      have s2 : LaneIn wr ys[k] := hy'.lane hlt2
      generalize ys[k] = y at *
      generalize xs[k] = x at *
      have HC := mkHid (fun u : Ext wr => sameLt_same x y u.1 he (s1.below u.2) (s2.below u.2))
      obtain ⟨ra, ca, zs, t, ta, ea, ts, wt⟩ := x
      obtain ⟨rb, cb, zs', t', tb, eb, ts', wt'⟩ := y
      simp only at h0 h1 h2 h3 g0 g1 g2 g3 HC
      subst hA hA'
      have h0 := fun u : Ext wr => u.keeps h0
      have h1 := fun u : Ext wr => u.keeps h1
      have h2 := fun u : Ext wr => u.keeps h2
      have h3 := fun u : Ext wr => u.keeps h3
      have g0 := fun u : Ext wr => u.keeps g0
      have g1 := fun u : Ext wr => u.keeps g1
      have g2 := fun u : Ext wr => u.keeps g2
      have g3 := fun u : Ext wr => u.keeps g3
      have p0' := fun u : Ext wr => u.keeps p0
      have r0' := fun u : Ext wr => u.keeps r0
      clear hx' hy' s1 s2 he
      go_wp2_with fail
      clear p0 p1 r0 r1
      refine wp_region_ext (by kernel_rfl) (by kernel_rfl) ?_
      repeat (go_big_quiet_step ((go_at_call 30; with_reducible exact ext_call (HC.out _))))
      refine wpQuiet_nil (ext_end fun X hX => ?_)
      clear h0 h1 h2 h3 g0 g1 g2 g3 p0' r0'
      have HXX := mkHid hX
      clear hX HC
      go_wp2_with fail
      go_roundw
      case rel => exact ⟨k + 1, by omega, by go_num, below_then HBR.out HXX.out⟩
      case measure => simp [intOf] <;> omega
    · clear hx' hy'
      have HBB := mkHid (HB.out.trans (HBR.out.mono HB.out.size))
      have HC := mkHid (sameInts_same MA MB mc md zs wr hz (H1.out.below HBB.out) (H2.out.below HBB.out))
      go_wp2_with fail
      refine HC.out.mono ?_
      rintro e w3 ⟨rfl, k3, rfl⟩
      have HB3 := mkHid (below_drewN HBB.out k3)
      go_wp2_with fail
      go_ret
      exact ⟨rfl, HB3.out⟩
end Go.Proofs.Ytjmiilneennjaaa
