/-
  Parts of a proof: CEnter.
-/
import Derived.Test.YtjmiilneennjaaaPart12
import Derived.Deep.RegionHeld3
import Derived.Deep.RegionLaw
import Derived.Deep.AppendLies
import Derived.IntWalk
namespace Go.Proofs.Ytjmiilneennjaaa
open Go.RowKit
set_option maxHeartbeats 1000000
set_option maxRecDepth 100000
set_option linter.unusedVariables false

theorem CrAt.drew {w : World} {base c : Nat} {A : Option Addr} {ls : List Lt} {m : IR} (h : CrAt w base A c ls m) : CrAt w.drew base A c ls m := h
theorem CrAt.drewN {w : World} {base c : Nat} {A : Option Addr} {ls : List Lt} {m : IR} (h : CrAt w base A c ls m) (n : Nat) : CrAt (w.drewN n) base A c ls m := h
theorem Frm.drewN {lo : Nat} {a b : World} (h : Frm lo a b) (n : Nat) : Frm lo a (b.drewN n) := ⟨⟨h.1.os, h.1.tape, h.1.output, h.1.size, h.1.block⟩, h.2⟩
/-- what a call that steps a lane hands back. -/
def LanePost (base G c : Nat) (ls : List Lt) (m : IR) (k : Nat) (s' : LS) (mem' : List Int) (w : World) (e : Ending) (w' : World) : Prop :=
  e = .returned (.tuple #[]) ∧ ∃ l' : Lt, l'.st = s' ∧ CrAt w' base (some ⟨G, 0, none⟩) c (ls.set k l') ⟨m.a, m.c, mem'⟩ ∧ Frm base w w'
theorem LanePost.drew {base G c : Nat} {ls : List Lt} {m : IR} {k : Nat} {s' : LS} {mem' : List Int} {w w' : World} {e : Ending} (h : LanePost base G c ls m k s' mem' w e w') : LanePost base G c ls m k s' mem' w e w'.drew := by
  obtain ⟨h1, l', h2, h3, h4⟩ := h
  exact ⟨h1, l', h2, h3, h4.drew⟩
theorem isDone_any (M lo lc O : Nat) (LA : Option Addr) (xs : List Cd) (P : Nat → Nat) (b o : Nat) (z : Int) (w : World) (hM : MachAt w lo M LA lc xs O P) (hc : w.cell? ⟨b, o + 1, none⟩ = some (.int .i64 z)) :
    Calls Try.prog 71 #[.pointer (some ⟨M, 0, none⟩), .pointer (some ⟨b, o, none⟩)] w fun e w' => e = .returned (.bool (z == (xs.length : Int))) ∧ ∃ n, w' = w.drewN n := by
  have m0 := hM.m2.1
  clear hM
  generalize xs.length = n at *
  go_enter Try.func71, Try.ntmps71
  go_wp2_with fail
  go_quiet (fail)
  go_wp2_with fail
  go_ret
  exact ⟨rfl, _, rfl⟩
theorem goes_any (M lo lc O : Nat) (LA : Option Addr) (xs : List Cd) (P : Nat → Nat) (b o : Nat) (s : LS) (w : World) (hM : MachAt w lo M LA lc xs O P) (hc : w.cell? ⟨b, o + 1, none⟩ = some (.int .i64 s.pc)) (hw : w.cell? ⟨b, o + 3, none⟩ = some (.bool s.wait)) :
    Calls Try.prog 111 #[.pointer (some ⟨M, 0, none⟩), .pointer (some ⟨b, o, none⟩)] w fun e w' => e = .returned (.bool (goesB xs.length s)) ∧ ∃ n, w' = w.drewN n := by
  have HD := mkHid (isDone_any M lo lc O LA xs P b o s.pc w hM hc)
  obtain ⟨rs, pc, ts, wt⟩ := s
  simp only at hw hc HD ⊢
  have HG : ∀ q, Hid (goesB xs.length ⟨rs, pc, ts, q⟩ = (!q && !(pc == (xs.length : Int)))) := fun q => mkHid rfl
  clear hM hc
  generalize (pc == (xs.length : Int)) = d at *
  cases wt with
  | true =>
    have HG := HG true
    go_enter Try.func111, Try.ntmps111
    go_wp2_with fail
    go_ret
    exact ⟨ret_bool HG.out.symm, 0, rfl⟩
  | false =>
    have HG := HG false
    go_enter Try.func111, Try.ntmps111
    go_wp2_with fail
    refine HD.out.mono ?_
    rintro e w' ⟨rfl, n, rfl⟩
    go_wp2_with fail
    go_ret
    exact ⟨ret_bool (by rw [HG.out]; simp), _, rfl⟩
theorem keepA {w : World} {p : Addr} {v : Value} (h : w.cell? p = some v) (o : Obj) : (w.alloc o).cell? p = some v := (World.cell?_alloc_lt w o p (World.block_lt_of_cell? w _ h)).trans h
theorem keepF {w : World} {p : Addr} {v : Value} (h : w.cell? p = some v) (hf : w.frozen? p = false) (o : Obj) : (w.alloc o).frozen? p = false :=
  ((Below.refl w.heap.size w).alloc (Nat.le_refl _) o).frozen (World.block_lt_of_cell? w _ h) |>.trans hf
/-- what is known of a lane at a place of a program. -/
structure AtPlace (xs : List Cd) (l : Lt) (p : Nat) (x : Cd) : Prop where
  hp : p < xs.length
  pc : l.at_ = p
  x : codeAt xs p = x
  ok : LaneOk xs l.st
theorem AtPlace.n40 {xs : List Cd} {l : Lt} {p : Nat} {x : Cd} (h : AtPlace xs l p x) (hv : progValid xs = true) : xs.length ≤ 40 := (progValid_yes hv).1
theorem MachAt.code {w : World} {lo M lc O : Nat} {LA : Option Addr} {xs : List Cd} {P : Nat → Nat} (h : MachAt w lo M LA lc xs O P) {p : Nat} (hp : p < xs.length) :
    ∃ b off, LA = some ⟨b, off, none⟩ ∧ w.cell? ⟨b, off + p * 4, none⟩ = some (.int .i64 (codeAt xs p).op) ∧ w.cell? ⟨b, off + p * 4 + 1, none⟩ = some (.int .i64 (codeAt xs p).a) ∧ w.cell? ⟨b, off + p * 4 + 2, none⟩ = some (.int .i64 (codeAt xs p).b) ∧ w.cell? ⟨b, off + p * 4 + 3, none⟩ = some (.int .i64 (codeAt xs p).c) := by
  obtain ⟨b, off, hA, e0, e1, e2, e3⟩ := h.hl.cd hp
  rw [← codeAt_at hp] at e0 e1 e2 e3
  exact ⟨b, off, hA, e0, e1, e2, e3⟩
/-- the cells of a new block, behind a draw. -/
theorem newCellsD (w : World) (us : List Value) (e : TypeId) {B : Nat} (hB : B = w.heap.size) : ∀ j x, us[j]? = some x → (w.alloc (.cells us.toArray e)).drew.cell? ((⟨B, 0, none⟩ : Addr).add j) = some x := newCellsAt w us e hB
theorem below_new1 (w : World) (o : Obj) : Below w.heap.size w (w.alloc o).drew := ⟨rfl, rfl, rfl, by simp [World.drew], fun i hi => ((Below.refl w.heap.size w).alloc (Nat.le_refl _) o).block i hi⟩
/-- what the walk asks of a lane of a crowd. -/
structure LaneCells (w : World) (base G k R : Nat) (l : Lt) : Prop where
  g0 : w.cell? ⟨G, k * 4, none⟩ = some (.slice l.ra l.zs.length l.rc)
  g1 : w.cell? ⟨G, k * 4 + 1, none⟩ = some (.int .i64 l.at_)
  g2 : w.cell? ⟨G, k * 4 + 2, none⟩ = some (.slice l.ta l.ts.length l.tc)
  g3 : w.cell? ⟨G, k * 4 + 3, none⟩ = some (.bool l.wt)
  f0 : w.frozen? ⟨G, k * 4, none⟩ = false
  f1 : w.frozen? ⟨G, k * 4 + 1, none⟩ = false
  f2 : w.frozen? ⟨G, k * 4 + 2, none⟩ = false
  f3 : w.frozen? ⟨G, k * 4 + 3, none⟩ = false
  hR : l.ra = some ⟨R, 0, none⟩
  hRb : base ≤ R
  hRl : R < w.heap.size
  hRo : w.ownsRow base 3 1 (rowAt R 4 l.rc) 4 (ints l.zs)
  hRc : ∀ r, r ≤ 3 → w.cell? ⟨R, r, none⟩ = some (.int .i64 (rg l.zs r)) ∧ w.frozen? ⟨R, r, none⟩ = false
  hT : w.ownsRow base 3 1 (.slice l.ta l.ts.length l.tc) l.ts.length (ints l.ts)
theorem CrAt.lane {w : World} {base c G k : Nat} {ls : List Lt} {m : IR} (h : CrAt w base (some ⟨G, 0, none⟩) c ls m) (hk : k < ls.length) (h4 : ls[k].zs.length = 4) {l : Lt} (hl : ls[k] = l) :
    ∃ R, LaneCells w base G k R l := by
  subst hl
  have ho : w.ownsRow base 3 1 (.slice ls[k].ra ls[k].zs.length ls[k].rc) ls[k].zs.length (ints ls[k].zs) := h.r hk
  obtain ⟨R, hR, h1, h2, _⟩ := own_open ho (i := 0) (by simp [ints]; omega)
  obtain ⟨⟨g0, g1, g2, g3⟩, f0, f1, f2, f3⟩ := h.cells hk
  rw [hR, h4] at ho
  refine ⟨R, g0, g1, g2, g3, f0, f1, f2, f3, hR, h1, h2, ho, fun r hr => ⟨?_, ho.frozenAt r⟩, h.t hk⟩
  have hlt : r < ls[k].zs.length := by omega
  rw [ho.cellAt r (by omega), ints_at hlt]
  unfold rg
  rw [Int.toNat_natCast, List.getD, List.getElem?_eq_getElem hlt]
  rfl
section
variable {w W : World} {base c G k : Nat} {ls : List Lt} {m : IR} {l : Lt}
/-- a lane goes on to another place. -/
theorem LanePost.pcAt (hC : CrAt w base (some ⟨G, 0, none⟩) c ls m) (hk : k < ls.length) (hll : ls[k] = l) (hb : base ≤ w.heap.size) (hW : Below w.heap.size w W) (z : Int) {s' : LS} (hs : s' = ⟨l.zs, z, l.ts, l.wt⟩) :
    LanePost base G c ls m k s' m.zs w (.returned (.tuple #[])) (W.setCell ⟨G, k * 4 + 1, none⟩ (.int .i64 z)) := by
  have h1 := hC.below hW
  have h2 := h1.pc hk z
  rw [hll] at h2
  exact ⟨rfl, _, hs.symm, h2, (Frm.below hW hb).trans (h1.frmG (Nat.le_trans hb hW.size) _ _)⟩
end
theorem Frm.rowOf {lo base s n : Nat} {a b : World} {e : TypeId} {v : Value} {xs : List Value} (h : a.grownBy b v.ownBlock) (hlo : lo ≤ a.heap.size) (ho : a.ownsRow base e s v n xs) (hb : lo ≤ base) (hty : e = 3 ∨ e = 52) : Frm lo a b := by
  cases hv : v.ownBlock with
  | none =>
    rw [hv] at h
    exact Frm.below (grown_belowNone h) hlo
  | some g =>
    rw [hv] at h
    exact Frm.own h hlo ho hv hb hty
/-- a lane's turns lie in another row, and it goes on to another place. -/
theorem LanePost.turnsAt {w W w3 : World} {base c G k : Nat} {ls : List Lt} {m : IR} {l : Lt} (hC : CrAt w base (some ⟨G, 0, none⟩) c ls m) (hk : k < ls.length) (hll : ls[k] = l) (hb : base ≤ w.heap.size) (hW : Below w.heap.size w W) {A' : Option Addr} {n' c' : Nat} {ts : List Int} (hn : n' = ts.length)
    (hg : W.grownBy w3 (ltT l).ownBlock) (ho : w3.ownsRow base 3 1 (.slice A' n' c') n' (ints ts)) (hat : ∀ g, (Value.slice A' n' c').ownBlock = some g → (ltT l).ownBlock = some g ∨ W.heap.size ≤ g) (z : Int) {s' : LS} (hs : s' = ⟨l.zs, z, ts, l.wt⟩) :
    LanePost base G c ls m k s' m.zs w (.returned (.tuple #[])) ((w3.setCell ⟨G, k * 4 + 2, none⟩ (.slice A' n' c')).setCell ⟨G, k * 4 + 1, none⟩ (.int .i64 z)) := by
  subst hn hll
  have h1 := hC.below hW
  have h2 := h1.turns hk hg ho hat
  have h3 := h2.pc (by rw [set_len]; exact hk) z
  simp only [List.getElem_set_self, List.set_set] at h3
  have hsz := Nat.le_trans hb hW.size
  have f1 : Frm base w W := Frm.below hW hb
  have f2 : Frm base W w3 := Frm.rowOf hg hsz (h1.t hk) (Nat.le_refl _) (.inl rfl)
  have hl3 : w3.ownsRow base 52 4 (.slice (some ⟨G, 0, none⟩) ls.length c) ls.length (tflat ls) := own_grown' h1.1 hg (fun g e1 e2 => own_typesA h1.1 (h1.t hk) (by decide) e1 e2)
  have f3 : Frm base w3 (w3.setCell ⟨G, k * 4 + 2, none⟩ (.slice A' ts.length c')) := Frm.own (grown_setCell _ _ _ _) (Nat.le_trans hsz hg.size) hl3 rfl (Nat.le_refl _) (.inr rfl)
  have f4 := h2.frmG (Nat.le_trans hsz (by rw [setCell_size]; exact hg.size)) (k * 4 + 1) (.int .i64 z)
  exact ⟨rfl, _, hs.symm, h3, ((f1.trans f2).trans f3).trans f4⟩
theorem enter_any (M lc O : Nat) (LA : Option Addr) (xs : List Cd) (P : Nat → Nat) (base G c k : Nat) (ls : List Lt) (m : IR) (w : World) (hk : k < ls.length) (p : Nat) (x : Cd) (id : Int) (mem : List Int) (l : Lt) (hll : ls[k] = l) (hv : progValid xs = true) (hb : base ≤ w.heap.size)
    (hM : MachAt w base M LA lc xs O P) (hC : CrAt w base (some ⟨G, 0, none⟩) c ls m) (hl : AtPlace xs l p x) (hop : x.op = 11 ∨ x.op = 13) :
    Calls Try.prog 97 #[.pointer (some ⟨M, 0, none⟩), .pointer (some ⟨G, k * 4, none⟩)] w (LanePost base G c ls m k (doStep xs id p x l.st mem).1 m.zs w) := by
  obtain ⟨hp, hpc, hx, hok⟩ := hl
  have h40 := (progValid_yes hv).1
  have hcv := codeAt_valid hv hp
  have ho : opensB (opAt (ops xs) p) = true := by
    rw [codeAt_op hp, hx]
    rcases hop with h | h <;> rw [h] <;> decide
  obtain ⟨lb, lo, rfl, c0, c1, c2, c3⟩ := hM.code hp
  obtain ⟨m0, m1⟩ := hM.m2
  have o0 := hM.own hp
  rw [ownV_open ho] at o0
  obtain ⟨b0, b1, b2⟩ := hM.blk hp ho
  obtain ⟨R, g0, g1, g2, g3, f0, f1, f2, f3, hR, hRb, hRl, hRo, hRc, hT⟩ := hC.lane hk (by rw [hll]; exact hok.regs) hll
  rw [hx] at c0 c1 c2 c3 hcv
  obtain ⟨v1, _, _, _, v5, _, _⟩ := valid_nums hcv
  have ha : 0 ≤ x.a ∧ x.a ≤ 3 := v1 (by rcases hop with h | h <;> rw [h] <;> decide)
  obtain ⟨e, e1, e2, e3, _, _⟩ := open_end hv hp ho
  have hoth := oth_bound (ops xs) p (ops xs).length
  have hfork : forkTo (ops xs) p = if 0 ≤ oth (ops xs) p (ops xs).length then oth (ops xs) p (ops xs).length + 1 else endAt xs p + 1 := rfl
  have hlop : x.op = 13 → oth (ops xs) p (ops xs).length < 0 := fun h => by
    by_cases h1 : oth (ops xs) p (ops xs).length < 0
    · exact h1
    · have hbal := (progValid_yes hv).2.2
      have := oth_if (Bool.and_eq_true_iff.1 hbal).1 (by omega : 0 ≤ oth (ops xs) p (ops xs).length)
      rw [codeAt_op hp, hx, h] at this
      exact absurd this (by decide)
  have h5 : x.op = 13 → 1 ≤ x.b ∧ x.b ≤ 4 := v5
  have htn : l.ts.length ≤ 3 := by
    have h1 := hok.len
    have h2 := loops_three hv (k := l.at_.toNat) (by rw [hpc]; omega)
    have h3 : (loopsAt xs l.at_.toNat).length = l.ts.length := h1
    omega
  obtain ⟨ra, rc, zs, at_, ta, tc, ts, wt⟩ := l
  obtain ⟨op, a, xb, xc⟩ := x
  simp only at c0 c1 c2 c3 ha hop hlop h5 g0 g1 g2 g3 hR hpc htn hT hRc hRo
  obtain ⟨an, rfl⟩ := Int.eq_ofNat_of_zero_le ha.1
  have r1 := (hRc an (by omega)).1
  have h4 : zs.length = 4 := hok.regs
  rw [h4] at g0
  rw [e1] at b2 hfork
  rw [ops_len] at hoth hfork hlop b1
  subst hpc hR
  have hel : (e : Int) ≤ 40 := by omega
  have hot : -1 ≤ oth (ops xs) p xs.length ∧ oth (ops xs) p xs.length ≤ 40 := by omega
  generalize oth (ops xs) p xs.length = ot at *
  have HC := mkHid hC
  have HTN := mkHid hT
  have HF := mkHid hfork
  have HE := mkHid e1
  have HLL := mkHid hll
  have hn : (p : Int) < (xs.length : Int) := by omega
  have hp0 : (0 : Int) ≤ (p : Int) := by omega
  have ha4 : (an : Int) < 4 := by omega
  have ha0 : (0 : Int) ≤ (an : Int) := by omega
  have hN := mkHid (show ∃ n, n = xs.length from ⟨_, rfl⟩)
  obtain ⟨n, hn'⟩ := hN.out
  have HNN := mkHid hn'
  rw [← hn'] at m0 m1 hn h40
  clear hN hn' hRo hRc hT hok hll hcv v1 v5 hM hC h4 hfork e1 hoth hp e3 hx ho
  have A := fun {q : Addr} {v : Value} (h : w.cell? q = some v) => keepA h
  have Ar := A r1
  have Ag0 := A g0
  have Ag1 := A g1
  have Ag2 := A g2
  have Ab1 := A b1
  have Ab2 := A b2
  have Fg1 := keepF g1 f1
  have Fg2 := keepF g2 f2
  go_enter Try.func97, Try.ntmps97
  go_wp2_with fail
  go_region_held3 (fun w' => w'.cell? ⟨M, 0, none⟩ = some (.slice (some ⟨lb, lo, none⟩) n lc) ∧ w'.cell? ⟨M, 1, none⟩ = some (rowAt O n n) ∧ w'.cell? ⟨G, k * 4 + 1, none⟩ = some (.int .i64 p) ∧ w'.cell? ⟨O, p, none⟩ = some (ptrV (P p)) ∧ w'.cell? ⟨lb, lo + p * 4, none⟩ = some (.int .i64 op) ∧ w'.cell? ⟨lb, lo + p * 4 + 1, none⟩ = some (.int .i64 an) ∧ w'.cell? ⟨lb, lo + p * 4 + 2, none⟩ = some (.int .i64 xb) ∧ w'.cell? ⟨lb, lo + p * 4 + 3, none⟩ = some (.int .i64 xc)) (go_keep) (first | fail)
  obtain ⟨v, hv'⟩ : ∃ v, v = rg zs an := ⟨_, rfl⟩
  have HV := mkHid hv'
  rw [← hv'] at Ar
  clear hv' r1 A c0 c1 c2 c3 o0 b0 g0 g1 g2 g3 f0 f1 f2 f3 b1 b2
  by_cases h0 : v = 0
  · subst h0
    have HD := mkHid (show (doStep xs id p ⟨op, an, xb, xc⟩ (⟨some ⟨R, 0, none⟩, rc, zs, p, ta, tc, ts, wt⟩ : Lt).st mem).1 = ⟨zs, if 0 ≤ ot then ot + 1 else (e : Int) + 1, ts, wt⟩ from by
      rcases hop with rfl | rfl
      · unfold doStep
        rw [if_pos rfl]
        simp only [← HV.out, if_pos, HF.out]
      · have := hlop rfl
        unfold doStep
        rw [if_neg (show ¬ (13 : Int) = 11 by decide), if_neg (show ¬ (13 : Int) = 12 by decide), if_pos rfl]
        simp only [← HV.out, if_pos, HE.out]
        rw [if_neg (by omega)])
    by_cases ho0 : 0 ≤ ot
    · rw [if_pos ho0] at HD
      go_wp2_with fail
      go_quiet (fail)
      go_wp2_with fail
      go_end0
      exact LanePost.pcAt HC.out hk HLL.out hb (below_drewN ((Below.refl _ _).alloc (Nat.le_refl _) _) _) _ HD.out
    · rw [if_neg ho0] at HD
      go_wp2_with fail
      go_quiet (fail)
      go_wp2_with fail
      go_end0
      exact LanePost.pcAt HC.out hk HLL.out hb (below_drewN ((Below.refl _ _).alloc (Nat.le_refl _) _) _) _ HD.out
  · have hb0 : (v != 0) = true := by simpa using h0
    have hb1 : (v == 0) = false := by simpa using h0
    have H0 := mkHid h0
    clear h0
    rcases hop with rfl | rfl
    · have HD := mkHid (show (doStep xs id p ⟨11, an, xb, xc⟩ (⟨some ⟨R, 0, none⟩, rc, zs, p, ta, tc, ts, wt⟩ : Lt).st mem).1 = ⟨zs, (p : Int) + 1, ts, wt⟩ from by
        unfold doStep
        rw [if_pos rfl]
        simp only [← HV.out, if_neg H0.out])
      go_wp2_with fail
      go_quiet (fail)
      go_wp2_with fail
      go_end0
      exact LanePost.pcAt HC.out hk HLL.out hb (below_drewN ((Below.refl _ _).alloc (Nat.le_refl _) _) _) _ HD.out
    · have h5 := h5 rfl
      have HD := mkHid (show (doStep xs id p ⟨13, an, xb, xc⟩ (⟨some ⟨R, 0, none⟩, rc, zs, p, ta, tc, ts, wt⟩ : Lt).st mem).1 = ⟨zs, (p : Int) + 1, ts ++ [xb - 1], wt⟩ from by
        unfold doStep
        rw [if_neg (show ¬ (13 : Int) = 11 by decide), if_neg (show ¬ (13 : Int) = 12 by decide), if_pos rfl]
        simp only [← HV.out, if_neg H0.out])
      obtain ⟨i0, hi0, hz0, hz1, hz2⟩ := info_parts Ei.hi
      go_wp2_with fail
      go_quiet (fail)
      go_wp2_with fail
      refine name_world ?_
      intro W hW
      have hB : Below w.heap.size w W := by rw [hW]; exact below_drewN ((Below.refl _ _).alloc (Nat.le_refl _) _) _
      have hsz : W.heap.size = w.heap.size + 1 := by rw [hW]; simp
      have d2 : W.cell? ⟨w.heap.size, 2, none⟩ = some (.int .i64 xb) := by
        rw [hW]
        exact cell_of_row _ _ _ _ _ _ (heap_alloc_new w _)
      have W2 : W.cell? ⟨G, k * 4 + 2, none⟩ = some (.slice ta ts.length tc) := by rw [hW]; exact Ag2 _
      have F2 : W.frozen? ⟨G, k * 4 + 2, none⟩ = false := by rw [hW]; exact Fg2 _
      have D2 := keepA d2
      have W2' := keepA W2
      have F2' := keepF W2 F2
      have V2 : W.cell? ⟨G, k * 4 + 1, none⟩ = some (.int .i64 p) := by rw [hW]; exact Ag1 _
      have E2 : W.frozen? ⟨G, k * 4 + 1, none⟩ = false := by rw [hW]; exact Fg1 _
      have V2' := keepA V2
      have E2' := keepF V2 E2
      have HNG : Hid ((Value.slice ta ts.length tc).ownBlock ≠ some G) := mkHid (by
        obtain ⟨cs, hq⟩ := HC.out.heapG
        exact own_ne_heapA HTN.out hq (by decide))
      have HT1 := mkHid (own_below HTN.out hB)
      have HB := mkHid hB
      have hbW : base ≤ W.heap.size := Nat.le_trans hb hB.size
      have HSZ := mkHid hsz
      have hwx : IntKind.i64.wrap (xb - 1) = xb - 1 := IntWalk.i64_in _ (by omega)
      clear hW hB hsz
      go_region_law (first
        | (refine step_append_lies _ rfl _ _ _ rfl base _ i0 _ 1 8 Ei.ht hi0 hz0 hz1 hz2 rfl (by omega) _ _ _ rfl (HT1.out.alloc _) _ 1 1 [.int .i64 (xb - 1)] rfl rfl (newCellsD _ _ _ (by simp)) (by simp [Value.oneCell']) (by omega) (by simp only [maxLen]; omega) (by omega) (by simp; omega) _ rfl ?_
           intro g3 c3 w3 hown3 hg3 hat3 hlt3
           have HO3 := mkHid hown3
           have HG3 := mkHid hg3
           have HA3 := mkHid hat3
           have W3 := hg3.cell (a := ⟨G, k * 4 + 2, none⟩) (W2' _) (fun e => HNG.out e.symm)
           have F3 := (hg3.frozen_far ⟨G, k * 4 + 2, none⟩ (World.block_lt_of_cell? _ _ (W2' _)) (fun e => HNG.out e.symm)).trans (F2' _)
           have V3 := hg3.cell (a := ⟨G, k * 4 + 1, none⟩) (V2' _) (fun e => HNG.out e.symm)
           have E3 := (hg3.frozen_far ⟨G, k * 4 + 1, none⟩ (World.block_lt_of_cell? _ _ (V2' _)) (fun e => HNG.out e.symm)).trans (E2' _)
           clear hown3 hg3 hat3 W2' F2' V2' E2'))
      all_goals (
        go_wp2_with fail
        go_end0
        refine LanePost.turnsAt HC.out hk HLL.out hb (below_then HB.out (below_new1 W _)) (by simp) HG3.out (by simpa [ints] using HO3.out) (fun g e => ?_) _ HD.out
        have e : g3 = g := by simpa [Value.ownBlock] using e
        subst e
        rcases HA3.out with h | h
        · exact .inl h
        · exact .inr (Nat.le_of_eq h.symm))
end Go.Proofs.Ytjmiilneennjaaa
