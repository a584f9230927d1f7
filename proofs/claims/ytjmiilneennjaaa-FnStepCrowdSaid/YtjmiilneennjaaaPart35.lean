/-
  Parts of a proof: DCrowdL, DCrowdD.
-/
import Derived.Test.YtjmiilneennjaaaPart30
import Derived.Test.YtjmiilneennjaaaPart34
import Derived.Test.YtjmiilneennjaaaPart19
namespace Go.Proofs.Ytjmiilneennjaaa
open Go.RowKit
set_option maxHeartbeats 2000000
set_option maxRecDepth 100000
set_option linter.unusedVariables false
set_option linter.unusedSimpArgs false

/-- a crowd in the making, with the program drawn ahead of it. -/
structure CrSt (w wr : World) (br N X g c : Nat) (ys : List Cd) (A : Option Addr) (a : Nat) (ls : List Lt) (m : IR) : Prop where
  cr : CrAt wr w.heap.size A a ls m
  box : wr.heap[X]? = some (.cells #[.slice A ls.length a, .slice m.a m.zs.length m.c] 32 (0, 0))
  hX : w.heap.size ≤ X
  code : wr.ownsRow w.heap.size 69 4 (.slice (some ⟨g, 0, none⟩) ys.length c) ys.length (cflat ys)
  rd : Rd wr br N
  gr : w.grownBy wr (some br)
  lt : br < w.heap.size
section
variable {w wr w' : World} {br N X g c a : Nat} {ys : List Cd} {A : Option Addr} {ls : List Lt} {m : IR}
theorem CrSt.pick {M : Nat} (h : CrSt w wr br N X g c ys A a ls m) (hr : Rd w' br M) (hg : wr.grownBy w' (some br)) : CrSt w w' br M X g c ys A a ls m :=
  ⟨h.cr.old hg (fun z e => by injection e with e; have := h.lt; omega), (hg.block _ (Array.getElem?_eq_some_iff.1 h.box).1 (fun e => by injection e with e; have := h.lt; have := h.hX; omega)).trans h.box, h.hX, own_apart h.code hg (fun z e => by injection e with e; have := h.lt; omega), hr, grown_trans h.gr hg, h.lt⟩
theorem CrSt.below (h : CrSt w wr br N X g c ys A a ls m) (hb : Below wr.heap.size wr w') : CrSt w w' br N X g c ys A a ls m :=
  ⟨h.cr.below hb, (hb.block _ (Array.getElem?_eq_some_iff.1 h.box).1).trans h.box, h.hX, own_below h.code hb, h.rd.below hb, grown_below h.gr hb, h.lt⟩
theorem CrSt.more {M : Nat} (h : CrSt w wr br N X g c ys A a ls m) (hM : N ≤ M) : CrSt w wr br M X g c ys A a ls m := ⟨h.cr, h.box, h.hX, h.code, h.rd.mono hM, h.gr, h.lt⟩
/-- another crowd is stored. -/
theorem CrSt.store {A' : Option Addr} {a' : Nat} {ls' : List Lt} {m' : IR} (h : CrSt w wr br N X g c ys A a ls m) (hb : Below wr.heap.size wr w') (hcr : CrAt w' wr.heap.size A' a' ls' m') : CrSt w ((w'.setCell ⟨X, 0, none⟩ (.slice A' ls'.length a')).setCell ⟨X, 1, none⟩ (.slice m'.a m'.zs.length m'.c)) br N X g c ys A' a' ls' m' := by
  have hw := h.below hb
  have hlt := h.lt
  have hX := h.hX
  have hg := grown_2 w' X (.slice A' ls'.length a') (.slice m'.a m'.zs.length m'.c)
  have h1 : (w'.setCell ⟨X, 0, none⟩ (.slice A' ls'.length a')).heap[X]? = some (.cells #[.slice A' ls'.length a', .slice m.a m.zs.length m.c] 32 (0, 0)) := by simpa using heap_setCell_same w' X 0 _ _ (.slice A' ls'.length a') hw.box
  refine ⟨(hcr.lower h.gr.size).other hg hw.box (by decide) (by decide), by simpa using heap_setCell_same _ X 1 _ _ (.slice m'.a m'.zs.length m'.c) h1, hX, own_grown' hw.code hg (fun z e1 e2 => by injection e2 with e2; subst e2; exact own_ne_heapA hw.code hw.box (by decide) e1), hw.rd.grown hg (fun z e => by injection e with e; omega), ?_, hlt⟩
  exact ⟨hg.os.trans hw.gr.os, hg.tape.trans hw.gr.tape, hg.output.trans hw.gr.output, Nat.le_trans hw.gr.size hg.size, fun i hi hn => (hg.block i (Nat.lt_of_lt_of_le hi hw.gr.size) (fun e => by injection e with e; omega)).trans (hw.gr.block i hi hn)⟩
theorem CrSt.res {v : World} (h : CrSt w wr br N X g c ys A a ls m) (hsz : v.heap.size < w.heap.size) (hbr : br < v.heap.size) {o : Obj} (hq : w.heap[v.heap.size]? = some o) : wr.heap[v.heap.size]? = some o := (h.gr.block _ hsz (fun e => by injection e with e; omega)).trans hq
theorem CrSt.fin {v : World} (h : CrSt w wr br N X g c ys A a ls m) (hv : v.grownBy w (some br)) (hsz : v.heap.size < w.heap.size) (hbr : br < v.heap.size) (hw : wr.grownBy w' (some v.heap.size)) : CrAt w' v.heap.size A a ls m ∧ w'.ownsRow v.heap.size 69 4 (.slice (some ⟨g, 0, none⟩) ys.length c) ys.length (cflat ys) ∧ v.grownBy w' (some br) := by
  have hc := h.cr.old hw (fun z e => by injection e with e; omega)
  have hcode := own_apart h.code hw (fun z e => by injection e with e; omega)
  refine ⟨hc.lower (by omega), own_base hcode (by omega), ?_⟩
  have h3 := grown_trans hv h.gr
  exact ⟨hw.os.trans h3.os, hw.tape.trans h3.tape, hw.output.trans h3.output, Nat.le_trans h3.size hw.size, fun i hi hn => (hw.block i (Nat.lt_of_lt_of_le hi h3.size) (fun e => by injection e with e; omega)).trans (h3.block i hi hn)⟩
/-- a block other than the program's has turned. -/
theorem CrSt.chg {A' : Option Addr} {a' : Nat} {ls' : List Lt} {m' : IR} {Z : Nat} (h : CrSt w wr br N X g c ys A a ls m) (hc : CrAt w' w.heap.size A' a' ls' m') (hbx : w'.heap[X]? = some (.cells #[.slice A' ls'.length a', .slice m'.a m'.zs.length m'.c] 32 (0, 0))) (hg : wr.grownBy w' (some Z)) (hZ : w.heap.size ≤ Z) {cs : Array Value} {ty : TypeId} {fr : Nat × Nat} (hq : wr.heap[Z]? = some (.cells cs ty fr)) (hty : 69 ≠ ty) : CrSt w w' br N X g c ys A' a' ls' m' := by
  have hlt := h.lt
  refine ⟨hc, hbx, h.hX, own_grown' h.code hg (fun z e1 e2 => by injection e2 with e2; subst e2; exact own_ne_heapA h.code hq hty e1), h.rd.grown hg (fun z e => by injection e with e; omega), ?_, h.lt⟩
  exact ⟨hg.os.trans h.gr.os, hg.tape.trans h.gr.tape, hg.output.trans h.gr.output, Nat.le_trans h.gr.size hg.size, fun i hi hn => (hg.block i (Nat.lt_of_lt_of_le hi h.gr.size) (fun e => by injection e with e; omega)).trans (h.gr.block i hi hn)⟩
/-- the lanes are cut off. -/
theorem CrSt.bare (h : CrSt w wr br N X g c ys A a ls m) : CrSt w ((wr.alloc (.cells #[] 52)).setCell ⟨X, 0, none⟩ (.slice (some ⟨wr.heap.size, 0, none⟩) 0 0)) br N X g c ys (some ⟨wr.heap.size, 0, none⟩) 0 [] m := by
  have h1 := h.below ((Below.refl wr.heap.size wr).alloc (Nat.le_refl _) (.cells #[] 52))
  have hsz := h.gr.size
  have hc : CrAt (wr.alloc (.cells #[] 52)) w.heap.size (some ⟨wr.heap.size, 0, none⟩) 0 [] m :=
    ⟨own_emptyAt wr 52 4 hsz rfl, h1.cr.2.sub (fun _ => 0) (fun i hi => ⟨by simp, by simp [rowsL] at hi; subst hi; rfl⟩) (fun i j hi hj _ => by simp [rowsL] at hi hj; omega)⟩
  refine h1.chg (hc.other (grown_setCell _ X 0 _) h1.box (by decide) (by decide)) ?_ (grown_setCell _ X 0 _) h1.hX h1.box (by decide)
  have := heap_setCell_same _ X 0 _ _ (.slice (some ⟨wr.heap.size, 0, none⟩) 0 0) h1.box
  simpa using this
/-- the first lane is placed elsewhere. -/
theorem CrSt.place {G : Nat} {l : Lt} (h : CrSt w wr br N X g c ys (some ⟨G, 0, none⟩) a (l :: ls) m) (z : Int) : CrSt w (wr.setCell ⟨G, 1, none⟩ (.int .i64 z)) br N X g c ys (some ⟨G, 0, none⟩) a (⟨l.ra, l.rc, l.zs, z, l.ta, l.tc, l.ts, l.wt⟩ :: ls) m := by
  have hc := h.cr.pc (k := 0) (by simp) z
  simp only [Nat.zero_mul, Nat.zero_add, List.getElem_cons_zero, List.set_cons_zero] at hc
  obtain ⟨cs, hq⟩ := h.cr.heapG
  have hne : G ≠ X := fun e => own_ne_heapA h.cr.1 h.box (by decide) (by rw [← e]; rfl)
  have hg := grown_setCell wr G 1 (.int .i64 z)
  refine h.chg hc ?_ hg (h.cr.1.lt G rfl).1 hq (by decide)
  exact (hg.block X (Array.getElem?_eq_some_iff.1 h.box).1 (fun e => by injection e with e; exact hne e.symm)).trans h.box
/-- the memory lies in another row. -/
theorem CrSt.memo (h : CrSt w wr br N X g c ys A a ls m) {m' : IR} (hg : wr.grownBy w' (irV m).ownBlock) (ho : w'.ownsRow w.heap.size 3 1 (irV m') m'.zs.length (ints m'.zs)) (hb : ∀ g, (irV m').ownBlock = some g → (irV m).ownBlock = some g ∨ wr.heap.size ≤ g) : CrSt w (w'.setCell ⟨X, 1, none⟩ (.slice m'.a m'.zs.length m'.c)) br N X g c ys A a ls m' := by
  have hlt := h.lt
  have hm := h.cr.mem
  have hne : (irV m).ownBlock ≠ some X := own_ne_heapA hm h.box (by decide)
  have hq' : w'.heap[X]? = some (.cells #[.slice A ls.length a, .slice m.a m.zs.length m.c] 32 (0, 0)) := (hg.block X (Array.getElem?_eq_some_iff.1 h.box).1 (fun e => hne e.symm)).trans h.box
  have hc : CrAt w' w.heap.size A a ls m' := ⟨own_grown' h.cr.1 hg (fun g e1 e2 => own_typesA h.cr.1 hm (by decide) e1 e2), h.cr.2.set (t := 0) (by simp) m' hg ho hb⟩
  have hg2 := grown_setCell w' X 1 (.slice m'.a m'.zs.length m'.c)
  have hcode : w'.ownsRow w.heap.size 69 4 (.slice (some ⟨g, 0, none⟩) ys.length c) ys.length (cflat ys) := own_grown' h.code hg (fun z e1 e2 => by
    obtain ⟨cs2, hq2⟩ := own_heapA hm e2
    exact own_ne_heapA h.code hq2 (by decide) e1)
  have hgr1 : w.grownBy w' (some br) := ⟨hg.os.trans h.gr.os, hg.tape.trans h.gr.tape, hg.output.trans h.gr.output, Nat.le_trans h.gr.size hg.size, fun i hi hn => (hg.block i (Nat.lt_of_lt_of_le hi h.gr.size) (fun e => by have := (hm.lt i e.symm).1; omega)).trans (h.gr.block i hi hn)⟩
  have hX := h.hX
  refine ⟨hc.other hg2 hq' (by decide) (by decide), by simpa using heap_setCell_same w' X 1 _ _ (.slice m'.a m'.zs.length m'.c) hq', h.hX, own_grown' hcode hg2 (fun z e1 e2 => by injection e2 with e2; subst e2; exact own_ne_heapA hcode hq' (by decide) e1), (h.rd.grown hg (fun z e => by have := (hm.lt z e).1; omega)).grown hg2 (fun z e => by injection e with e; omega), ?_, h.lt⟩
  exact ⟨hg2.os.trans hgr1.os, hg2.tape.trans hgr1.tape, hg2.output.trans hgr1.output, Nat.le_trans hgr1.size hg2.size, fun i hi hn => (hg2.block i (Nat.lt_of_lt_of_le hi hgr1.size) (fun e => by injection e with e; omega)).trans (hgr1.block i hi hn)⟩
end
/-- what a step hands back is small, if what it was given was. -/
theorem crTo_small {xs : List Cd} {ss : List LS} {z : Int} {mem : List Int} (h1 : ss.length ≤ 8) (h2 : mem.length ≤ 33) : (crTo xs ss z mem).1.length ≤ 8 ∧ (crTo xs ss z mem).2.length ≤ 33 := by
  unfold crTo
  split
  · rename_i h
    obtain ⟨_, h3, h4, h5⟩ := crOk_yes h
    obtain ⟨k, rfl⟩ := Int.eq_ofNat_of_zero_le h4
    have h6 := stepC_ok h3 (k := k) (by omega)
    have h7 := h6.1.len
    simp only [Int.toNat_natCast]
    omega
  · simp
def DrawnCrowd (br : Nat) (w : World) (e : Ending) (w' : World) : Prop :=
  ∃ A a, ∃ ls : List Lt, ∃ m : IR, ∃ g c, ∃ ys : List Cd, e = .returned (.tuple #[.agg #[.slice A ls.length a, .slice m.a m.zs.length m.c], .slice (some ⟨g, 0, none⟩) ys.length c]) ∧ (ls.length ≤ 8 ∧ m.zs.length ≤ 34) ∧ CrAt w' w.heap.size A a ls m ∧ w'.ownsRow w.heap.size 69 4 (.slice (some ⟨g, 0, none⟩) ys.length c) ys.length (cflat ys) ∧ ys.length ≤ 50 ∧ w.grownBy w' (some br) ∧ Rd w' br 900000600
theorem l20Crowd_any (n : Int) (br N : Nat) (w : World) (hn : 1 ≤ n ∧ n ≤ 1000000) (hN : N ≤ 1000000) (h : Rd w br N) :
    Calls Try.prog 53 #[.pointer (some ⟨br, 0, none⟩), .int .i64 n] w (DrawnCrowd br w) := by
  have hltw := h.lt
  obtain ⟨o2, ho2⟩ : ∃ o2, o2 = Obj.cells #[.slice none 0 0, .slice none 0 0] 32 := ⟨_, rfl⟩
  have hal : Below w.heap.size w (w.alloc o2) := (Below.refl _ _).alloc (Nat.le_refl _) _
  have h0 := h.below hal
  have hlt : br < (w.alloc o2).heap.size := h0.lt
  have hsz : w.heap.size < (w.alloc o2).heap.size := by simp
  have HSZ := mkHid hsz
  have hq := heap_alloc_new w o2
  have HGW := mkHid (World.grownBy_alloc w o2 (some br))
  subst ho2
  have HQ := mkHid hq
  clear hal h hsz hq
  go_enter Try.func53, Try.ntmps53
  go_wp2_with fail
  generalize w.alloc (.cells #[.slice none 0 0, .slice none 0 0] 32) = w0 at *
  refine (l20Program_any n br N w0 hn hN h0).mono ?_
  rintro e w1 ⟨g, c, ys, rfl, hy, ho⟩
  have HO := mkHid ho.2.1
  have HG := mkHid ho.2.2.2.2.1
  have HR := mkHid ho.2.2.2.1
  clear ho h0
  go_wp2_with fail
  refine (pick_any _ _ _ _ (by omega) HR.out).mono ?_
  rintro e w2 ⟨r, rfl, i0, i1, hr, hg⟩
  have i1 := i1 (by omega)
  have HO2 := mkHid (own_apart HO.out hg (fun z e => by injection e with e; omega))
  have HG2 := mkHid (grown_trans HG.out hg)
  have HR2 := mkHid hr
  clear hr hg HO HG HR
  go_wp2_with fail
  refine (l20Memory_any n _ _ _ hn (by omega) HR2.out).mono ?_
  rintro e w3 ⟨g2, c2, ms, rfl, o3, hm2, _, r3, gg3⟩
  have HO3 := mkHid (own_apart HO2.out gg3 (fun z e => by injection e with e; omega))
  have HM3 := mkHid (Sl.of_own o3)
  have HG3 := mkHid (grown_trans HG2.out gg3)
  have HR3 := mkHid r3
  clear o3 r3 gg3 HO2 HG2 HR2
  go_wp2_with fail
  refine (specNewCrowd_any (1 + r) (some ⟨g2, 0, none⟩) c2 ms w3 (by omega) HM3.out).mono ?_
  rintro e w4 ⟨A1, a1, ln, B1, d1, rfl, hln, hfr, hcr, b4⟩
  obtain ⟨ls0, hls0⟩ : ∃ ls0, ls0 = ln.map ltOf := ⟨_, rfl⟩
  obtain ⟨m0, hm0⟩ : ∃ m0 : IR, m0 = ⟨B1, d1, crowdZ (1 + r) ms⟩ := ⟨_, rfl⟩
  have hl8 : ls0.length ≤ 8 := by rw [hls0, List.length_map, hln]; exact crowdN_le _ _
  have hm32 : m0.zs.length ≤ 32 := by rw [hm0]; exact crowdZ_le _ _
  have hc0 : CrAt w4 w0.heap.size A1 a1 ls0 m0 := by rw [hls0, hm0]; exact hcr.cr.lower HG3.out.size
  have hlen : ln.length = ls0.length := by rw [hls0, List.length_map]
  have hal4 : ∀ o, Below w4.heap.size w4 (w4.alloc o) := fun o => (Below.refl _ _).alloc (Nat.le_refl _) _
  have hst : CrSt w0 (w4.alloc (.cells #[.slice A1 ls0.length a1, .slice m0.a m0.zs.length m0.c] 32)) br (900000001 + 200) w4.heap.size g c ys A1 a1 ls0 m0 :=
    ⟨hc0.below (hal4 _), heap_alloc_new w4 _, Nat.le_trans HG3.out.size b4.size, own_below (own_below HO3.out b4) (hal4 _), (HR3.out.below b4).below (hal4 _), grown_below (grown_below HG3.out b4) (hal4 _), hlt⟩
  have HST := mkHid hst
  have HL8 := mkHid (And.intro hl8 hm32)
  rw [hlen]
  rw [show Value.slice B1 (crowdZ (1 + r) ms).length d1 = .slice m0.a m0.zs.length m0.c by rw [hm0]]
  clear hst hal4 hlen hc0 hm32 hl8 hm0 hls0 hcr hfr hln b4 HO3 HM3 HG3 HR3
  go_wp2_with fail
  generalize w4.alloc (.cells #[.slice A1 ls0.length a1, .slice m0.a m0.zs.length m0.c] 32) = W4 at *
  generalize w4.heap.size = X at *
  refine (pick_any _ _ _ _ (by omega) HST.out.rd).mono ?_
  rintro e w5 ⟨j0, rfl, j00, j01, r5, g5⟩
  have j01 := j01 (by omega)
  obtain ⟨jn, rfl⟩ := Int.eq_ofNat_of_zero_le j00
  have hjn : jn < 40 := by omega
  have HS5 := mkHid ((HST.out.pick r5 g5).more (M := 900000300) (by omega))
  clear r5 g5 HST j00 j01
  go_wp2_with fail
  go_loopg [8] jn (fun gk iv wr => ∃ j : Nat, j ≤ jn ∧ gk = 0 + j ∧ iv = .int .i64 j ∧ ∃ A a, ∃ ls : List Lt, ∃ m : IR, (ls.length ≤ 8 ∧ m.zs.length ≤ 33) ∧ CrSt w0 wr br (900000300 + (jn - j)) X g c ys A a ls m)
  case atStart => exact ⟨jn, Nat.le_refl _, by omega, rfl, A1, a1, ls0, m0, ⟨HL8.out.1, by have := HL8.out.2; omega⟩, HS5.out.more (by omega)⟩
  case round =>
    clear HS5 HL8
    obtain ⟨j, hj, hgk, rfl, A2, a2, ls, m, ⟨hl8, hm33⟩, hst⟩ := hrel
    have HST := mkHid hst
    have HL8 := mkHid (And.intro hl8 hm33)
    by_cases hl0 : 0 < (ls.length : Int)
    · by_cases hj0 : 0 < j
      · have hjj : 0 < (j : Int) := by omega
        obtain ⟨⟨x0, x1⟩, f0, f1⟩ := box2 hst.box
        have HSD := mkHid (hst.below (w' := wr.drew) ⟨rfl, rfl, rfl, Nat.le_refl _, fun i hi => rfl⟩)
        clear hst
        go_wp2_with fail
        go_region_law (first
          | (go_simp
             go_at_call 68
             refine (pick_any _ _ _ _ (by omega) HSD.out.rd).mono ?_
             rintro e w6 ⟨r, rfl, r0, r1, r6, g6⟩
             have HS6 := mkHid (HSD.out.pick r6 g6)
             obtain ⟨⟨y0, y1⟩, z0, z1⟩ := box2 HS6.out.box
             have HC := mkHid (specStepCrowd_any A2 a2 ls m (some ⟨g, 0, none⟩) c ys r w6 (by omega) (by omega) (by omega) (Sl.of_own HS6.out.code) HS6.out.cr.grid' (Sl.of_own HS6.out.cr.mem))
             clear r6 g6)
          | (go_simp
             go_at_call 19
             refine HC.out.mono ?_
             rintro e w7 ⟨A7, a7, ls7, m7, rfl, hs7, hm7, hc7, b7⟩
             have HS7 := mkHid (HS6.out.store b7 hc7)
             have HL7 : Hid (ls7.length ≤ 8 ∧ m7.zs.length ≤ 33) := mkHid (by
               have h := crTo_small (xs := ys) (ss := sts ls) (z := r) (mem := m.zs) (by simpa using HL8.out.1) HL8.out.2
               rw [← hs7, ← hm7] at h
               simpa using h)
             obtain ⟨⟨v0, v1⟩, k0, k1⟩ := box2 (HS6.out.below b7).box
             clear hs7 hm7 hc7 b7))
        all_goals (
          clear x0 x1 f0 f1 y0 y1 z0 z1 v0 v1 k0 k1 HC HSD HST HS6
          go_wp2_with fail
          go_roundg (j - 1)
          case rel => exact ⟨j - 1, by omega, by omega, by congr 1; omega, A7, a7, ls7, m7, HL7.out, HS7.out.more (by omega)⟩
          case measure => omega)
      · have hj00 : j = 0 := by omega
        subst hj00
        obtain ⟨⟨x0, x1⟩, f0, f1⟩ := box2 hst.box
        clear hst
        go_wp2_with fail
        refine (oddAny _ _ _ _ hn.1 hn.2 (by omega) HST.out.rd).mono ?_
        rintro e w6 ⟨b, rfl, r6, g6⟩
        have HS6 := mkHid ((HST.out.pick r6 g6).more (M := 900000500) (by omega))
        clear r6 g6 HST x0 x1 f0 f1 hj0
        cases b with
        | false =>
          have HSE := HS6
          obtain ⟨⟨x0, x1⟩, -⟩ := box2 HSE.out.box
          obtain ⟨⟨d0, d1⟩, e0, e1⟩ := box2 (HSE.out.res HSZ.out hltw HQ.out)
          have HFIN := mkHid (fun u v => HSE.out.fin HGW.out HSZ.out hltw (grown_2 _ w.heap.size u v))
          go_wp2_with fail
          refine bodyPost_ret (v := .tuple #[.agg #[.slice A2 ls.length a2, .slice m.a m.zs.length m.c], .slice (some ⟨g, 0, none⟩) ys.length c]) (by simp [results, Try.results53, go_sem, d0, d1]) rfl ?_
          obtain ⟨q1, q2, q4⟩ := HFIN.out _ _
          exact ⟨A2, a2, ls, m, g, c, ys, rfl, ⟨HL8.out.1, Nat.le_trans HL8.out.2 (by omega)⟩, q1, q2, hy, q4, (HSE.out.rd.mono (by omega)).grown (grown_2 _ w.heap.size _ _) (fun z e => by injection e with e; omega)⟩
        | true =>
          obtain ⟨⟨x0, x1⟩, f0, f1⟩ := box2 HS6.out.box
          go_wp2_with fail
          refine (pick_any _ _ _ _ (by omega) HS6.out.rd).mono ?_
          rintro e w7 ⟨q, rfl, q0, q1, r7, g7⟩
          have q1 := q1 (by omega)
          have HS7 := mkHid (HS6.out.pick r7 g7)
          clear r7 g7 x0 x1 f0 f1 HS6
          have hq : q = 0 ∨ q = 1 ∨ q = 2 := by omega
          clear q0 q1
          obtain ⟨⟨x0, x1⟩, f0, f1⟩ := box2 HS7.out.box
          rcases hq with rfl | rfl | rfl
          · have z0 := keepA x0 (.cells #[] 52)
            have z1 := keepF x0 f0 (.cells #[] 52)
            go_upto_region 14 with fail
            refine name_world ?_
            intro WE hWE
            have HSE : Hid (CrSt w0 WE br _ X g c ys (some ⟨w7.heap.size, 0, none⟩) 0 [] m) := mkHid (by rw [hWE]; exact HS7.out.bare)
            have HL8 : Hid (([] : List Lt).length ≤ 8 ∧ m.zs.length ≤ 33) := mkHid ⟨by simp, HL8.out.2⟩
            clear x0 x1 f0 f1 z0 z1 hWE
            obtain ⟨⟨x0, x1⟩, -⟩ := box2 HSE.out.box
            obtain ⟨⟨d0, d1⟩, e0, e1⟩ := box2 (HSE.out.res HSZ.out hltw HQ.out)
            have HFIN := mkHid (fun u v => HSE.out.fin HGW.out HSZ.out hltw (grown_2 _ w.heap.size u v))
            go_wp2_with fail
            refine bodyPost_ret (v := .tuple #[.agg #[.slice (some ⟨w7.heap.size, 0, none⟩) ([] : List Lt).length 0, .slice m.a m.zs.length m.c], .slice (some ⟨g, 0, none⟩) ys.length c]) (by simp [results, Try.results53, go_sem, d0, d1]) rfl ?_
            obtain ⟨q1, q2, q4⟩ := HFIN.out _ _
            exact ⟨(some ⟨w7.heap.size, 0, none⟩), 0, ([] : List Lt), m, g, c, ys, rfl, ⟨HL8.out.1, Nat.le_trans HL8.out.2 (by omega)⟩, q1, q2, hy, q4, (HSE.out.rd.mono (by omega)).grown (grown_2 _ w.heap.size _ _) (fun z e => by injection e with e; omega)⟩
          · cases ls with
            | nil => exfalso; simp at hl0
            | cons l ls =>
              obtain ⟨G, rfl, _, _⟩ := HS7.out.cr.castA (k := 0) (by simp)
              obtain ⟨⟨g0, g1, g2, g3⟩, k0, k1, k2, k3⟩ := HS7.out.cr.cells (k := 0) (by simp)
              simp only [List.getElem_cons_zero, Nat.zero_mul, Nat.zero_add] at g0 g1 g2 g3 k0 k1 k2 k3
              go_upto_region 14 with fail
              refine name_world ?_
              intro WE hWE
              have HSE : Hid (CrSt w0 WE br _ X g c ys (some ⟨G, 0, none⟩) a2 (⟨l.ra, l.rc, l.zs, -1, l.ta, l.tc, l.ts, l.wt⟩ :: ls) m) := mkHid (by rw [hWE]; exact HS7.out.place (-1))
              have HL8 : Hid ((⟨l.ra, l.rc, l.zs, -1, l.ta, l.tc, l.ts, l.wt⟩ :: ls : List Lt).length ≤ 8 ∧ m.zs.length ≤ 33) := mkHid HL8.out
              clear x0 x1 f0 f1 g0 g1 g2 g3 k0 k1 k2 k3 hWE
              obtain ⟨⟨x0, x1⟩, -⟩ := box2 HSE.out.box
              obtain ⟨⟨d0, d1⟩, e0, e1⟩ := box2 (HSE.out.res HSZ.out hltw HQ.out)
              have HFIN := mkHid (fun u v => HSE.out.fin HGW.out HSZ.out hltw (grown_2 _ w.heap.size u v))
              go_wp2_with fail
              refine bodyPost_ret (v := .tuple #[.agg #[.slice (some ⟨G, 0, none⟩) (⟨l.ra, l.rc, l.zs, -1, l.ta, l.tc, l.ts, l.wt⟩ :: ls : List Lt).length a2, .slice m.a m.zs.length m.c], .slice (some ⟨g, 0, none⟩) ys.length c]) (by simp [results, Try.results53, go_sem, d0, d1]) rfl ?_
              obtain ⟨q1, q2, q4⟩ := HFIN.out _ _
              exact ⟨(some ⟨G, 0, none⟩), a2, (⟨l.ra, l.rc, l.zs, -1, l.ta, l.tc, l.ts, l.wt⟩ :: ls : List Lt), m, g, c, ys, rfl, ⟨HL8.out.1, Nat.le_trans HL8.out.2 (by omega)⟩, q1, q2, hy, q4, (HSE.out.rd.mono (by omega)).grown (grown_2 _ w.heap.size _ _) (fun z e => by injection e with e; omega)⟩
          · have HM7 := mkHid (show w7.ownsRow w0.heap.size 3 1 (.slice m.a m.zs.length m.c) m.zs.length (ints m.zs) from HS7.out.cr.mem)
            have hsz7 := HS7.out.gr.size
            have hm34 : m.zs.length ≤ 33 := HL8.out.2
            have HNX := mkHid (own_ne_heapA HM7.out HS7.out.box (by decide))
            obtain ⟨t4, ht4⟩ : ∃ t4, t4 = m.zs ++ [(256 : Int)] := ⟨_, rfl⟩
            have HT4 := mkHid ht4
            have ht4l : m.zs.length + 1 = t4.length := by rw [ht4]; simp
            have HT4L := mkHid ht4l
            clear ht4 ht4l
            go_upto_region 14 with (at_builtin
                                    refine wpList_appAt Ei (HM7.out.alloc _) HT4L.out (show _ = ints t4 from by rw [HT4.out]; simp [ints]) (newCellsAt _ _ _ (by simp)) rfl (by simp [Value.oneCell']) (by omega) (by omega) (by simp; omega) rfl rfl rfl rfl ?_
                                    intro A4 c4 w9 hown4 hg4 hat4
                                    have HO4 := mkHid hown4
                                    have HG4 := mkHid hg4
                                    have HA4 := mkHid hat4
                                    have k1 := hg4.cell (a := ⟨X, 1, none⟩) (keepA x1 _) (fun e => HNX.out e.symm)
                                    have kf := (hg4.frozen_far ⟨X, 1, none⟩ (World.block_lt_of_cell? _ _ (keepA x1 _)) (fun e => HNX.out e.symm)).trans (keepF x1 f1 _)
                                    clear hown4 hg4 hat4 x1 f1)
            refine name_world ?_
            intro WE hWE
            have hst9 := (HS7.out.below ((Below.refl _ _).alloc (Nat.le_refl _) _)).memo (m' := ⟨A4, c4, t4⟩) HG4.out HO4.out (fun g e => by rcases HA4.out with h | h <;> rw [e] at h; exact .inl h.symm; exact .inr (by injection h with h; omega))
            try rw [← hWE] at hst9
            have HSE := mkHid (show CrSt w0 WE br _ X g c ys A2 a2 ls ⟨A4, c4, t4⟩ from hst9)
            clear x0 f0 k1 kf hst9 hWE
            have HL8 : Hid (ls.length ≤ 8 ∧ t4.length ≤ 34) := mkHid ⟨HL8.out.1, by have := HT4L.out; omega⟩
            obtain ⟨⟨x0, x1⟩, -⟩ := box2 HSE.out.box
            obtain ⟨⟨d0, d1⟩, e0, e1⟩ := box2 (HSE.out.res HSZ.out hltw HQ.out)
            have HFIN := mkHid (fun u v => HSE.out.fin HGW.out HSZ.out hltw (grown_2 _ w.heap.size u v))
            go_wp2_with fail
            refine bodyPost_ret (v := .tuple #[.agg #[.slice A2 ls.length a2, .slice (⟨A4, c4, t4⟩ : IR).a (⟨A4, c4, t4⟩ : IR).zs.length (⟨A4, c4, t4⟩ : IR).c], .slice (some ⟨g, 0, none⟩) ys.length c]) (by simp [results, Try.results53, go_sem, d0, d1]) rfl ?_
            obtain ⟨q1, q2, q4⟩ := HFIN.out _ _
            exact ⟨A2, a2, ls, (⟨A4, c4, t4⟩ : IR), g, c, ys, rfl, ⟨HL8.out.1, Nat.le_trans HL8.out.2 (by omega)⟩, q1, q2, hy, q4, (HSE.out.rd.mono (by omega)).grown (grown_2 _ w.heap.size _ _) (fun z e => by injection e with e; omega)⟩
    · have hl00 : ls.length = 0 := by omega
      have hls : ls = [] := List.eq_nil_of_length_eq_zero hl00
      subst hls
      have HSE := mkHid (HST.out.more (M := 900000500) (by omega))
      clear hst HST hl00
      by_cases hj0 : 0 < j
      · have hjj : 0 < (j : Int) := by omega
        obtain ⟨⟨x0, x1⟩, -⟩ := box2 HSE.out.box
        obtain ⟨⟨d0, d1⟩, e0, e1⟩ := box2 (HSE.out.res HSZ.out hltw HQ.out)
        have HFIN := mkHid (fun u v => HSE.out.fin HGW.out HSZ.out hltw (grown_2 _ w.heap.size u v))
        go_wp2_with fail
        refine bodyPost_ret (v := .tuple #[.agg #[.slice A2 ([] : List Lt).length a2, .slice m.a m.zs.length m.c], .slice (some ⟨g, 0, none⟩) ys.length c]) (by simp [results, Try.results53, go_sem, d0, d1]) rfl ?_
        obtain ⟨q1, q2, q4⟩ := HFIN.out _ _
        exact ⟨A2, a2, ([] : List Lt), m, g, c, ys, rfl, ⟨HL8.out.1, Nat.le_trans HL8.out.2 (by omega)⟩, q1, q2, hy, q4, (HSE.out.rd.mono (by omega)).grown (grown_2 _ w.heap.size _ _) (fun z e => by injection e with e; omega)⟩
      · have hj00 : j = 0 := by omega
        subst hj00
        obtain ⟨⟨x0, x1⟩, -⟩ := box2 HSE.out.box
        obtain ⟨⟨d0, d1⟩, e0, e1⟩ := box2 (HSE.out.res HSZ.out hltw HQ.out)
        have HFIN := mkHid (fun u v => HSE.out.fin HGW.out HSZ.out hltw (grown_2 _ w.heap.size u v))
        go_wp2_with fail
        refine bodyPost_ret (v := .tuple #[.agg #[.slice A2 ([] : List Lt).length a2, .slice m.a m.zs.length m.c], .slice (some ⟨g, 0, none⟩) ys.length c]) (by simp [results, Try.results53, go_sem, d0, d1]) rfl ?_
        obtain ⟨q1, q2, q4⟩ := HFIN.out _ _
        exact ⟨A2, a2, ([] : List Lt), m, g, c, ys, rfl, ⟨HL8.out.1, Nat.le_trans HL8.out.2 (by omega)⟩, q1, q2, hy, q4, (HSE.out.rd.mono (by omega)).grown (grown_2 _ w.heap.size _ _) (fun z e => by injection e with e; omega)⟩
end Go.Proofs.Ytjmiilneennjaaa

namespace Go.Proofs.Ytjmiilneennjaaa
open Go.RowKit
set_option maxHeartbeats 2000000
set_option maxRecDepth 100000
set_option linter.unusedVariables false
set_option linter.unusedSimpArgs false

/-- a crowd and a program are drawn. -/
structure CrIn (w w' : World) (A : Option Addr) (a : Nat) (ls : List Lt) (m : IR) (g c : Nat) (ys : List Cd) : Prop where
  sm : ls.length ≤ 8 ∧ m.zs.length ≤ 34
  grid : TGrid w' A ls
  mem : Sl w' m.a (ints m.zs)
  code : Sl w' (some ⟨g, 0, none⟩) (cflat ys)
  len : ys.length ≤ 50
  hb : Below w.heap.size w w'
theorem CrIn.below {w w' w2 : World} {A : Option Addr} {a : Nat} {ls : List Lt} {m : IR} {g c : Nat} {ys : List Cd} (h : CrIn w w' A a ls m g c ys) (k : Below w'.heap.size w' w2) : CrIn w w2 A a ls m g c ys :=
  ⟨h.sm, h.grid.below k, h.mem.below k, h.code.below k, h.len, below_then h.hb k⟩
theorem drawCrowdValid_any (A : Option Addr) (c : Nat) (zs : List Int) (w : World) (hl : zs.length ≤ 9223372036854775807) (hcap : zs.length ≤ c) (hs : Sl w A (u8s zs)) (hz : ∀ z ∈ zs, 0 ≤ z ∧ z ≤ 255) :
    Calls Try.prog 17 #[.slice A zs.length c] w fun e w' => ∃ A a, ∃ ls : List Lt, ∃ m : IR, ∃ g c, ∃ ys : List Cd, e = .returned (.tuple #[.agg #[.slice A ls.length a, .slice m.a m.zs.length m.c], .slice (some ⟨g, 0, none⟩) ys.length c]) ∧ CrIn w w' A a ls m g c ys := by
  obtain ⟨o2, ho2⟩ : ∃ o2, o2 = Obj.cells #[.slice none 0 0, .slice none 0 0] 32 := ⟨_, rfl⟩
  have hal : Below w.heap.size w (w.alloc o2) := (Below.refl _ _).alloc (Nat.le_refl _) _
  have hs0 := hs.below hal
  have hsz : w.heap.size < (w.alloc o2).heap.size := by simp
  have HSZ := mkHid hsz
  have HB0 := mkHid hal
  have hq := heap_alloc_new w o2
  subst ho2
  have HQ := mkHid hq
  clear hal hs hsz hq
  go_enter Try.func17, Try.ntmps17
  go_wp2_with fail
  generalize w.alloc (.cells #[.slice none 0 0, .slice none 0 0] 32) = w0 at *
  refine (l20Open_any _ _ _ _ hl hcap hs0 hz).mono ?_
  rintro e w1 ⟨br, rfl, hbr, r1, b1⟩
  have HB1 := mkHid b1
  have HR1 := mkHid r1
  have hlt := r1.lt
  clear b1 hs0 hz r1
  go_wp2_with fail
  refine (l20Crowd_any 4 br 0 w1 (by omega) (by omega) HR1.out).mono ?_
  rintro e w2 ⟨A2, a2, ls, m, g, c', ys, rfl, hsm, q1, q2, hy, q4, q5⟩
  have hb02 : Below w0.heap.size w0 w2 := HB1.out.grown q4 HB1.out.size (fun g e => by injection e with e; omega)
  have hq2 := (hb02.block _ (Array.getElem?_eq_some_iff.1 HQ.out).1).trans HQ.out
  have HB2 := mkHid (HB0.out.trans (hb02.mono HB0.out.size))
  have HZ1 := mkHid HB1.out.size
  have Q1 := mkHid q1
  have Q2 := mkHid q2
  have HSM := mkHid hsm
  obtain ⟨⟨d0, d1⟩, e0, e1⟩ := box2 hq2
  clear q1 q2 q4 hb02 hq2 hsm
  go_wp2_with fail
  refine bodyPost_ret (v := .tuple #[.agg #[.slice A2 ls.length a2, .slice m.a m.zs.length m.c], .slice (some ⟨g, 0, none⟩) ys.length c']) (by simp [results, Try.results17, go_sem, d0, d1]) rfl ?_
  have hgs := grown_2 w2 w.heap.size (.slice A2 ls.length a2) (.slice m.a m.zs.length m.c)
  have hlt1 : w.heap.size < w1.heap.size := Nat.lt_of_lt_of_le HSZ.out HZ1.out
  have hc := Q1.out.old hgs (fun z e => by injection e with e; omega)
  exact ⟨A2, a2, ls, m, g, c', ys, rfl, HSM.out, hc.grid', Sl.of_own hc.mem, Sl.of_own (own_apart Q2.out hgs (fun z e => by injection e with e; omega)), hy, HB2.out.grown hgs HB2.out.size (fun z e => by injection e with e; omega)⟩
theorem drawStepCrowd_any (A : Option Addr) (c : Nat) (zs : List Int) (w : World) (hl : zs.length ≤ 9223372036854775807) (hcap : zs.length ≤ c) (hs : Sl w A (u8s zs)) (hz : ∀ z ∈ zs, 0 ≤ z ∧ z ≤ 255) :
    Calls Try.prog 24 #[.slice A zs.length c] w fun e w' => ∃ A a, ∃ ls : List Lt, ∃ m : IR, ∃ g c, ∃ ys : List Cd, ∃ z : Int, e = .returned (.tuple #[.agg #[.slice A ls.length a, .slice m.a m.zs.length m.c], .slice (some ⟨g, 0, none⟩) ys.length c, .int .i64 z]) ∧ (-1 ≤ z ∧ z ≤ 8) ∧ CrIn w w' A a ls m g c ys := by
  obtain ⟨o2, ho2⟩ : ∃ o2, o2 = Obj.cells #[.slice none 0 0, .slice none 0 0] 32 := ⟨_, rfl⟩
  have hal : Below w.heap.size w (w.alloc o2) := (Below.refl _ _).alloc (Nat.le_refl _) _
  have hs0 := hs.below hal
  have hsz : w.heap.size < (w.alloc o2).heap.size := by simp
  have HSZ := mkHid hsz
  have HB0 := mkHid hal
  have hq := heap_alloc_new w o2
  subst ho2
  have HQ := mkHid hq
  clear hal hs hsz hq
  go_enter Try.func24, Try.ntmps24
  go_wp2_with fail
  generalize w.alloc (.cells #[.slice none 0 0, .slice none 0 0] 32) = w0 at *
  refine (l20Open_any _ _ _ _ hl hcap hs0 hz).mono ?_
  rintro e w1 ⟨br, rfl, hbr, r1, b1⟩
  have HB1 := mkHid b1
  have HR1 := mkHid r1
  have hlt := r1.lt
  clear b1 hs0 hz r1
  go_wp2_with fail
  refine (l20Crowd_any 16 br 0 w1 (by omega) (by omega) HR1.out).mono ?_
  rintro e w2 ⟨A2, a2, ls, m, g, c', ys, rfl, hsm, q1, q2, hy, q4, q5⟩
  have hb02 : Below w0.heap.size w0 w2 := HB1.out.grown q4 HB1.out.size (fun g e => by injection e with e; omega)
  obtain ⟨o6, ho6⟩ : ∃ o6, o6 = Obj.cells #[.slice A2 ls.length a2, .slice m.a m.zs.length m.c] 32 := ⟨_, rfl⟩
  have hal6 : Below w2.heap.size w2 (w2.alloc o6) := (Below.refl _ _).alloc (Nat.le_refl _) _
  have hq6 : (w2.alloc o6).heap[w2.heap.size]? = some o6 := heap_alloc_new w2 o6
  have hq2 := (hal6.block _ (Array.getElem?_eq_some_iff.1 ((hb02.block _ (Array.getElem?_eq_some_iff.1 HQ.out).1).trans HQ.out)).1).trans ((hb02.block _ (Array.getElem?_eq_some_iff.1 HQ.out).1).trans HQ.out)
  have HB2 := mkHid (HB0.out.trans ((below_then hb02 hal6).mono HB0.out.size))
  have HZ1 := mkHid HB1.out.size
  have Q1 := mkHid (q1.below hal6)
  have Q2 := mkHid (own_below q2 hal6)
  have Q5 := mkHid ((q5.below hal6).below (w' := (w2.alloc o6).drew) ⟨rfl, rfl, rfl, Nat.le_refl _, fun i hi => rfl⟩)
  have HSM := mkHid hsm
  have hsz6 : w1.heap.size ≤ w2.heap.size := q4.size
  have HQ2 := mkHid hq2
  subst ho6
  have HQ6 := mkHid hq6
  clear q1 q2 q4 q5 hb02 hq2 hq6 hal6
  go_upto_region 3 with fail
  generalize w2.alloc (.cells #[.slice A2 ls.length a2, .slice m.a m.zs.length m.c] 32) = W2 at *
  generalize w2.heap.size = X at *
  have hXb : X ≠ br := by omega
  have hwb : w.heap.size ≠ br := by have := HSZ.out; have := HB0.out.size; have := HZ1.out; omega
  obtain ⟨⟨x0, x1⟩, f0, f1⟩ := box2 HQ6.out
  obtain ⟨⟨d0, d1⟩, e0, e1⟩ := box2 HQ2.out
  have hls8 := HSM.out.1
  have hw8 := IntWalk.i64_in ((ls.length : Int) + 1) (by omega)
  clear hsm
  go_region_law (first
    | (go_simp
       go_at_call 68
       refine (pick_any _ _ _ _ (by omega) Q5.out).mono ?_
       rintro e w4 ⟨r, rfl, r0, r1, r4, g4⟩
       have r1 := r1 (by omega)
       have R4 := mkHid r4
       have G4 := mkHid (show W2.grownBy w4 (some br) from ⟨g4.os, g4.tape, g4.output, g4.size, g4.block⟩)
       obtain ⟨⟨y0, y1⟩, h0, h1⟩ := box2 ((G4.out.block X (Array.getElem?_eq_some_iff.1 HQ6.out).1 (fun e => by injection e with e; exact hXb e)).trans HQ6.out)
       obtain ⟨⟨s0, s1⟩, t0, t1⟩ := box2 ((G4.out.block w.heap.size (Array.getElem?_eq_some_iff.1 HQ2.out).1 (fun e => by injection e with e; exact hwb e)).trans HQ2.out)
       clear r4 g4)
    | (go_simp
       go_at_call 68
       refine (pick_any _ _ _ _ (by omega) R4.out).mono ?_
       rintro e w5 ⟨r', rfl, r0', r1', r5, g5⟩
       have r1' := r1' (by omega)
       have hd13 : 0 ≤ r'.tdiv 13 ∧ r'.tdiv 13 ≤ 1 := by rw [Int.tdiv_eq_ediv_of_nonneg r0']; omega
       have hw13 := IntWalk.i64_in (r'.tdiv 13) (by omega)
       have hw14 := IntWalk.i64_in (r - r'.tdiv 13) (by omega)
       have G5 := mkHid (grown_trans G4.out g5)
       obtain ⟨⟨z0, z1⟩, k0, k1⟩ := box2 ((G5.out.block X (Array.getElem?_eq_some_iff.1 HQ6.out).1 (fun e => by injection e with e; exact hXb e)).trans HQ6.out)
       obtain ⟨⟨u0, u1⟩, v0, v1⟩ := box2 ((G5.out.block w.heap.size (Array.getElem?_eq_some_iff.1 HQ2.out).1 (fun e => by injection e with e; exact hwb e)).trans HQ2.out)
       clear r5 g5))
  all_goals (
    clear x0 x1 f0 f1 y0 y1 h0 h1 z0 z1 k0 k1 d0 d1 e0 e1 s0 s1 t0 t1 R4 G4
    go_wp2_with fail
    refine bodyPost_ret (v := .tuple #[.agg #[.slice A2 ls.length a2, .slice m.a m.zs.length m.c], .slice (some ⟨g, 0, none⟩) ys.length c', .int .i64 (r - r'.tdiv 13)]) (by simp [results, Try.results24, go_sem, u0, u1, hw13, hw14]) rfl ?_
    have hgs := grown_2 w5 w.heap.size (.slice A2 ls.length a2) (.slice m.a m.zs.length m.c)
    have hlt1 : w.heap.size < w1.heap.size := Nat.lt_of_lt_of_le HSZ.out HZ1.out
    have hc := (Q1.out.old G5.out (fun z e => by injection e with e; omega)).old hgs (fun z e => by injection e with e; omega)
    have hd := own_apart (own_apart Q2.out G5.out (fun z e => by injection e with e; omega)) hgs (fun z e => by injection e with e; omega)
    have hb5 := HB2.out.grown G5.out HB2.out.size (fun z e => by injection e with e; have := HB0.out.size; omega)
    exact ⟨A2, a2, ls, m, g, c', ys, _, rfl, ⟨by omega, by omega⟩, HSM.out, hc.grid', Sl.of_own hc.mem, Sl.of_own hd, hy, hb5.grown hgs hb5.size (fun z e => by injection e with e; omega)⟩)
end Go.Proofs.Ytjmiilneennjaaa
