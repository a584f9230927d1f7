/-
  Parts of a proof: CSpecRunL, TRegLast.
-/
import Derived.Test.YtjmiilneennjaaaPart28
import Derived.Test.YtjmiilneennjaaaPart17
import Derived.Test.YtjmiilneennjaaaPart11
import Derived.Deep.LoopGhost
import Derived.Test.YtjmiilneennjaaaPart21
namespace Go.Proofs.Ytjmiilneennjaaa
open Go.RowKit
set_option maxHeartbeats 2000000
set_option maxRecDepth 100000
set_option linter.unusedVariables false

theorem apt_e3 {w : World} {lo : Nat} {m : IR} (h : w.ownsRow lo 3 1 (irV m) m.zs.length (ints m.zs)) : Apt w lo [m, ⟨none, 0, []⟩, ⟨none, 0, []⟩] := by
  refine ⟨fun r hr => ?_, fun i j hi hj hne g e1 e2 => ?_⟩
  · rcases List.mem_cons.1 hr with rfl | hr
    · exact h
    · simp at hr; subst hr; exact World.ownsRow_nil _ _ _ _
  · match i, j with
    | 0, 0 => exact hne rfl
    | 1, _ => cases e1
    | 2, _ => cases e1
    | 0, 1 => cases e2
    | 0, 2 => cases e2
    | n + 3, _ => simp at hi; omega
    | 0, n + 3 => simp at hj; omega
/-- one more row, older than all others, ahead of them. -/
theorem Apt.cons_old {w' : World} {lo mid : Nat} {rs : List IR} {m : IR} (h : Apt w' mid rs) (hlo : lo ≤ mid) (hm : w'.ownsRow lo 3 1 (irV m) m.zs.length (ints m.zs)) (hlt : ∀ g, (irV m).ownBlock = some g → g < mid) : Apt w' lo (m :: rs) := by
  have hge : ∀ k (hk : k < rs.length) g, (irV rs[k]).ownBlock = some g → mid ≤ g := fun k hk g e => ((h.1 _ (List.getElem_mem hk)).lt g e).1
  refine ⟨fun r hr => ?_, fun i j hi hj hne g e1 e2 => ?_⟩
  · rcases List.mem_cons.1 hr with rfl | hr
    · exact hm
    · exact own_base (h.1 r hr) hlo
  · cases i with
    | zero =>
      cases j with
      | zero => exact hne rfl
      | succ j =>
        have a1 := hlt g e1
        have a2 := hge j (by simpa using hj) g e2
        omega
    | succ i =>
      cases j with
      | zero =>
        have a1 := hlt g e2
        have a2 := hge i (by simpa using hi) g e1
        omega
      | succ j => exact h.2 i j (by simpa using hi) (by simpa using hj) (fun e => hne (by omega)) g e1 e2
theorem box_set4L {W : World} {X : Nat} {a0 a1 a2 a3 : Value} {ty : TypeId} (h : W.heap[X]? = some (.cells #[a0, a1, a2, a3] ty (0, 0))) (b0 b1 b2 b3 : Value) : ((((W.setCell ⟨X, 0, none⟩ b0).setCell ⟨X, 1, none⟩ b1).setCell ⟨X, 2, none⟩ b2).setCell ⟨X, 3, none⟩ b3).heap[X]? = some (.cells #[b0, b1, b2, b3] ty (0, 0)) := by
  have h1 : (W.setCell ⟨X, 0, none⟩ b0).heap[X]? = some (.cells #[b0, a1, a2, a3] ty (0, 0)) := by simpa using heap_setCell_same W X 0 _ _ b0 h
  have h2 : ((W.setCell ⟨X, 0, none⟩ b0).setCell ⟨X, 1, none⟩ b1).heap[X]? = some (.cells #[b0, b1, a2, a3] ty (0, 0)) := by simpa using heap_setCell_same _ X 1 _ _ b1 h1
  have h3 : (((W.setCell ⟨X, 0, none⟩ b0).setCell ⟨X, 1, none⟩ b1).setCell ⟨X, 2, none⟩ b2).heap[X]? = some (.cells #[b0, b1, b2, a3] ty (0, 0)) := by simpa using heap_setCell_same _ X 2 _ _ b2 h2
  simpa using heap_setCell_same _ X 3 _ _ b3 h3
/-- a step of the reference is a step. -/
theorem stepS_go {xs : List Cd} {id : Int} {s : LS} {mem : List Int} (hg : goesB xs.length s = true) : stepS xs id s mem = doStep xs id s.pc.toNat (codeAt xs s.pc.toNat) s mem := by
  unfold stepS
  rw [if_pos hg]
theorem stepS_rest {xs : List Cd} {id : Int} {s : LS} {mem : List Int} (hg : goesB xs.length s = false) : stepS xs id s mem = (s, mem) := by
  unfold stepS
  rw [if_neg (by rw [hg]; simp)]
theorem specStepLane_no (x : Lt) (LA : Option Addr) (lc : Nat) (xs : List Cd) (id : Int) (A : Option Addr) (c : Nat) (zs : List Int) (w : World) (hl : xs.length ≤ 1048576) (hz : zs.length ≤ 1000000000) (hs : Sl w LA (cflat xs)) (hi : LaneIn w x) (h2 : Sl w A (ints zs)) (hno : okS xs x.st id zs = false) :
    Calls Try.prog 34 #[ltV x, .slice LA xs.length lc, .int .i64 id, .slice A zs.length c] w (RetLM (lsNil, []) w) := by
  obtain ⟨o1, ho1⟩ : ∃ o1, o1 = Obj.cells #[.slice x.ra x.zs.length x.rc, .int .i64 x.at_, .slice x.ta x.ts.length x.tc, .bool x.wt] 52 := ⟨_, rfl⟩
  obtain ⟨o2, ho2⟩ : ∃ o2, o2 = Obj.cells #[.slice none 0 0, .int .i64 0, .slice none 0 0, .bool false] 52 := ⟨_, rfl⟩
  have hbl : Below w.heap.size w ((w.alloc o1).alloc o2) := ((Below.refl _ _).alloc (Nat.le_refl _) _).alloc (by simp) _
  have q2 : ((w.alloc o1).alloc o2).heap[w.heap.size + 1]? = some o2 := by
    have := heap_alloc_new (w.alloc o1) o2
    simpa using this
  have HL := mkHid (specLaneValid_any x LA lc xs _ hl (hs.below hbl) (hi.below hbl))
  have HM := mkHid (fun X (hX : Below w.heap.size w X) => specMemoryValid_any A c zs X hz (h2.below hX))
  have HW := mkHid (fun X => l1In_any id 0 7 X)
  have HB := mkHid hbl
  subst ho1 ho2
  have HQ2 := mkHid q2
  unfold okS at hno
  obtain ⟨v1, hv1⟩ : ∃ v, v = laneValid xs x.st := ⟨_, rfl⟩
  obtain ⟨v2, hv2⟩ : ∃ v, v = inB id 0 7 := ⟨_, rfl⟩
  obtain ⟨v3, hv3⟩ : ∃ v, v = memValid zs := ⟨_, rfl⟩
  rw [← hv1] at HL hno
  rw [← hv2] at HW hno
  rw [← hv3] at HM hno
  clear hv1 hv2 hv3 hs hi h2 hbl q2
  cases v1 with
  | false =>
    clear hno
    go_enter Try.func34, Try.ntmps34
    go_wp2_with fail
    refine HL.out.mono ?_
    rintro e w2 ⟨rfl, b2⟩
    have hq := (b2.block _ (Array.getElem?_eq_some_iff.1 HQ2.out).1).trans HQ2.out
    have HB2 := mkHid (HB.out.trans (b2.mono HB.out.size))
    have hal : Below w2.heap.size w2 (w2.alloc (.cells #[] 3)) := (Below.refl _ _).alloc (Nat.le_refl _) _
    have hqa := (hal.block _ (Array.getElem?_eq_some_iff.1 hq).1).trans hq
    have HQA := mkHid hqa
    have HBA := mkHid (below_then HB2.out hal)
    obtain ⟨⟨d0, d1, d2, d3⟩, g0, g1, g2, g3⟩ := box4e hqa
    clear b2 hq hal hqa
    go_wp2_with fail
    refine bodyPost_ret (v := .tuple #[ltV ⟨none, 0, [], 0, none, 0, [], false⟩, .slice (some ⟨w2.heap.size, 0, none⟩) 0 0]) (by simp [results, Try.results34, go_sem, d0, d1, d2, d3]) rfl ⟨_, some ⟨w2.heap.size, 0, none⟩, 0, rfl, rfl, ?_, ?_⟩
    · have ho : (w2.alloc (.cells #[] 3)).ownsRow w.heap.size 3 1 (irV ⟨some ⟨w2.heap.size, 0, none⟩, 0, []⟩) 0 (ints []) := own_base (own_empty w2 _ _) HB2.out.size
      exact (apt_e3 ho).other (grown_s4 _ _ _ _ _ _) HQA.out (by decide)
    · exact HBA.out.grown (grown_s4 _ _ _ _ _ _) HBA.out.size (fun g e => by injection e with e; omega)
  | true =>
    cases v3 with
    | false =>
      clear hno
      go_enter Try.func34, Try.ntmps34
      go_wp2_with fail
      refine HL.out.mono ?_
      rintro e w2 ⟨rfl, b2⟩
      have B2 := mkHid (HB.out.trans (b2.mono HB.out.size))
      go_wp2_with fail
      refine (HM.out _ B2.out).mono ?_
      rintro e w3 ⟨rfl, rfl⟩
      have hq := (b2.block _ (Array.getElem?_eq_some_iff.1 HQ2.out).1).trans HQ2.out
      have HB2 := mkHid (HB.out.trans (b2.mono HB.out.size))
      have hal : Below w2.heap.size w2 (w2.alloc (.cells #[] 3)) := (Below.refl _ _).alloc (Nat.le_refl _) _
      have hqa := (hal.block _ (Array.getElem?_eq_some_iff.1 hq).1).trans hq
      have HQA := mkHid hqa
      have HBA := mkHid (below_then HB2.out hal)
      obtain ⟨⟨d0, d1, d2, d3⟩, g0, g1, g2, g3⟩ := box4e hqa
      clear b2 hq hal hqa
      go_wp2_with fail
      refine bodyPost_ret (v := .tuple #[ltV ⟨none, 0, [], 0, none, 0, [], false⟩, .slice (some ⟨w2.heap.size, 0, none⟩) 0 0]) (by simp [results, Try.results34, go_sem, d0, d1, d2, d3]) rfl ⟨_, some ⟨w2.heap.size, 0, none⟩, 0, rfl, rfl, ?_, ?_⟩
      · have ho : (w2.alloc (.cells #[] 3)).ownsRow w.heap.size 3 1 (irV ⟨some ⟨w2.heap.size, 0, none⟩, 0, []⟩) 0 (ints []) := own_base (own_empty w2 _ _) HB2.out.size
        exact (apt_e3 ho).other (grown_s4 _ _ _ _ _ _) HQA.out (by decide)
      · exact HBA.out.grown (grown_s4 _ _ _ _ _ _) HBA.out.size (fun g e => by injection e with e; omega)
    | true =>
      cases v2 with
      | true => cases hno
      | false =>
        clear hno
        go_enter Try.func34, Try.ntmps34
        go_wp2_with fail
        refine HL.out.mono ?_
        rintro e w2 ⟨rfl, b2⟩
        have B2 := mkHid (HB.out.trans (b2.mono HB.out.size))
        go_wp2_with fail
        refine (HM.out _ B2.out).mono ?_
        rintro e w3 ⟨rfl, rfl⟩
        go_wp2_with fail
        refine (HW.out _).mono ?_
        rintro e w3 ⟨rfl, rfl⟩
        have hq := (b2.block _ (Array.getElem?_eq_some_iff.1 HQ2.out).1).trans HQ2.out
        have HB2 := mkHid (HB.out.trans (b2.mono HB.out.size))
        have hal : Below w2.heap.size w2 (w2.alloc (.cells #[] 3)) := (Below.refl _ _).alloc (Nat.le_refl _) _
        have hqa := (hal.block _ (Array.getElem?_eq_some_iff.1 hq).1).trans hq
        have HQA := mkHid hqa
        have HBA := mkHid (below_then HB2.out hal)
        obtain ⟨⟨d0, d1, d2, d3⟩, g0, g1, g2, g3⟩ := box4e hqa
        clear b2 hq hal hqa
        go_wp2_with fail
        refine bodyPost_ret (v := .tuple #[ltV ⟨none, 0, [], 0, none, 0, [], false⟩, .slice (some ⟨w2.heap.size, 0, none⟩) 0 0]) (by simp [results, Try.results34, go_sem, d0, d1, d2, d3]) rfl ⟨_, some ⟨w2.heap.size, 0, none⟩, 0, rfl, rfl, ?_, ?_⟩
        · have ho : (w2.alloc (.cells #[] 3)).ownsRow w.heap.size 3 1 (irV ⟨some ⟨w2.heap.size, 0, none⟩, 0, []⟩) 0 (ints []) := own_base (own_empty w2 _ _) HB2.out.size
          exact (apt_e3 ho).other (grown_s4 _ _ _ _ _ _) HQA.out (by decide)
        · exact HBA.out.grown (grown_s4 _ _ _ _ _ _) HBA.out.size (fun g e => by injection e with e; omega)
theorem specStepLane_yes (x : Lt) (LA : Option Addr) (lc : Nat) (xs : List Cd) (id : Int) (A : Option Addr) (c : Nat) (zs : List Int) (w : World) (hl : xs.length ≤ 1048576) (hz : zs.length ≤ 1000000000) (hs : Sl w LA (cflat xs)) (hi : LaneIn w x) (h2 : Sl w A (ints zs)) (hok : okS xs x.st id zs = true) :
    Calls Try.prog 34 #[ltV x, .slice LA xs.length lc, .int .i64 id, .slice A zs.length c] w (RetLM (stepS xs id x.st zs) w) := by
  obtain ⟨o1, ho1⟩ : ∃ o1, o1 = Obj.cells #[.slice x.ra x.zs.length x.rc, .int .i64 x.at_, .slice x.ta x.ts.length x.tc, .bool x.wt] 52 := ⟨_, rfl⟩
  obtain ⟨o2, ho2⟩ : ∃ o2, o2 = Obj.cells #[.slice none 0 0, .int .i64 0, .slice none 0 0, .bool false] 52 := ⟨_, rfl⟩
  have hbl : Below w.heap.size w ((w.alloc o1).alloc o2) := ((Below.refl _ _).alloc (Nat.le_refl _) _).alloc (by simp) _
  have q1 : ((w.alloc o1).alloc o2).heap[w.heap.size]? = some o1 := by
    rw [heap_alloc_old _ _ (by simp)]; exact heap_alloc_new _ _
  have q2 : ((w.alloc o1).alloc o2).heap[w.heap.size + 1]? = some o2 := by
    have := heap_alloc_new (w.alloc o1) o2
    simpa using this
  have hsz : ((w.alloc o1).alloc o2).heap.size = w.heap.size + 2 := by simp
  have ho := okS_iff.1 hok
  have hok' := hok
  unfold okS at hok'
  simp only [Bool.and_eq_true] at hok'
  have HL := mkHid (specLaneValid_any x LA lc xs _ hl (hs.below hbl) (hi.below hbl))
  have HM := mkHid (fun X (hX : Below w.heap.size w X) => specMemoryValid_any A c zs X hz (h2.below hX))
  have HW := mkHid (fun X => l1In_any id 0 7 X)
  rw [hok'.1.1] at HL
  rw [hok'.1.2] at HW
  rw [hok'.2] at HM
  have HOK := mkHid ho
  have h4 : x.zs.length = 4 := ho.lane.regs
  have h3 : x.ts.length ≤ 3 := by
    have h1 := ho.lane.len
    have h2 := loops_three ho.prog (k := x.st.pc.toNat) (by have := ho.lane.pc; omega)
    have e : x.st.turns.length = x.ts.length := rfl
    omega
  have hpc : 0 ≤ x.at_ ∧ x.at_ ≤ (xs.length : Int) := ho.lane.pc
  have h40 := (progValid_yes ho.prog).1
  have hz32 := (memValid_parts.1 ho.mem).1
  have HB := mkHid hbl
  have HS := mkHid hs
  have HI := mkHid hi
  have H2 := mkHid h2
  have H34 := mkHid (And.intro h3 h4)
  obtain ⟨⟨u0, u1, u2, u3⟩, e0, e1, e2, e3⟩ := box4e (q1.trans (congrArg some ho1))
  subst ho1 ho2
  have HQ1 := mkHid q1
  have HQ2 := mkHid q2
  have HSZ := mkHid hsz
  have HPC := mkHid hpc
  clear hs hi h2 hok hok' hbl q1 q2 hsz ho h3 h4 hpc
  go_enter Try.func34, Try.ntmps34
  go_wp2_with fail
  generalize (w.alloc (.cells #[.slice x.ra x.zs.length x.rc, .int .i64 x.at_, .slice x.ta x.ts.length x.tc, .bool x.wt] 52)).alloc (.cells #[.slice none 0 0, .int .i64 0, .slice none 0 0, .bool false] 52) = W0 at *
  refine HL.out.mono ?_
  rintro e w2 ⟨rfl, b2⟩
  have B02 := mkHid b2
  have HB2 := mkHid (HB.out.trans (b2.mono HB.out.size))
  clear b2
  go_wp2_with fail
  refine (HM.out _ HB2.out).mono ?_
  rintro e w3 ⟨rfl, rfl⟩
  go_wp2_with fail
  refine (HW.out _).mono ?_
  rintro e w3 ⟨rfl, rfl⟩
  have hq1 := (B02.out.block _ (Array.getElem?_eq_some_iff.1 HQ1.out).1).trans HQ1.out
  clear u0 u1 u2 u3 e0 e1 e2 e3 HL HM HW
  obtain ⟨⟨u0, u1, u2, u3⟩, _⟩ := box4e hq1
  clear hq1
  go_upto_region 4 with (at_builtin; refine wpList_copyS rfl Ei (own_empty w2 _ _) ((H2.out.below HB2.out).alloc _) (by simp [ints]) (ints_one _) (by omega) (by omega) (by simp) rfl rfl rfl ?_
                         intro r5 c5 w5 hown5 hg5 hat5
                         have HO5 := mkHid hown5
                         have HB25 := mkHid (below_grown ((Below.refl w2.heap.size w2).alloc (Nat.le_refl _) _) hg5 (fun g hg => by injection hg with hg; omega))
                         clear hown5 hg5 hat5)
  have HB5 := mkHid (below_then HB2.out HB25.out)
  have hb05 := B02.out.trans (HB25.out.mono B02.out.size)
  have B05 := mkHid hb05
  have hq1 := (hb05.block _ (Array.getElem?_eq_some_iff.1 HQ1.out).1).trans HQ1.out
  clear u0 u1 u2 u3
  obtain ⟨⟨u0, u1, u2, u3⟩, _⟩ := box4e hq1
  have hsz5 : w.heap.size + 2 ≤ w5.heap.size := by have := hb05.size; rw [HSZ.out] at this; exact this
  clear hq1 hb05
  have HSZ5 := mkHid hsz5
  obtain ⟨wt, hwt⟩ : ∃ wt, wt = x.wt := ⟨_, rfl⟩
  have HWT := mkHid hwt
  rw [← hwt] at u3
  clear hwt hsz5
  cases wt with
  | true =>
    have HG : Hid (goesB xs.length x.st = false) := mkHid (goesB_no.2 (.inl HWT.out.symm))
    go_wp2_with fail
    refine (l6Copy_any ⟨x.ra, x.rc, x.zs, x.at_, x.ta, x.tc, x.ts, true⟩ w5 (show x.zs.length ≤ 1048576 by have := H34.out; omega) (show x.ts.length ≤ 1048576 by have := H34.out; omega) (HI.out.below HB5.out).1.1 (HI.out.below HB5.out).2.1).mono ?_
    rintro e w6 ⟨l, rfl, hst, hap, b6⟩
    have hq2 := ((B05.out.trans (b6.mono B05.out.size)).block _ (Array.getElem?_eq_some_iff.1 HQ2.out).1).trans HQ2.out
    have HQ6 := mkHid hq2
    have HST := mkHid (hst.trans (show (⟨x.zs, x.at_, x.ts, true⟩ : LS) = x.st by rw [HWT.out]))
    have HAP := mkHid (Apt.cons_old (m := ⟨some ⟨r5, 0, none⟩, c5, zs⟩) hap (show w.heap.size ≤ w5.heap.size from HB5.out.size) (own_base (own_below HO5.out b6) HB2.out.size) (fun g e => (HO5.out.lt g e).2))
    have HB6 := mkHid (below_then HB5.out b6)
    obtain ⟨⟨d0, d1, d2, d3⟩, g0, g1, g2, g3⟩ := box4e hq2
    clear hst hap b6 hq2
    go_wp2_with fail
    refine bodyPost_ret (v := .tuple #[ltV l, .slice (some ⟨r5, 0, none⟩) zs.length c5]) (by simp [results, Try.results34, go_sem, d0, d1, d2, d3]) rfl ?_
    rw [stepS_rest HG.out]
    exact ⟨l, some ⟨r5, 0, none⟩, c5, rfl, HST.out, HAP.out.other (grown_s4 _ _ _ _ _ _) HQ6.out (by decide), HB6.out.grown (grown_s4 _ _ _ _ _ _) HB6.out.size (fun g e => by injection e with e; omega)⟩
  | false =>
    by_cases hat : x.at_ = (xs.length : Int)
    · have HG : Hid (goesB xs.length x.st = false) := mkHid (goesB_no.2 (.inr hat))
      have HAT := mkHid hat
      clear hat
      have hbt : (x.at_ == (xs.length : Int)) = true := by simpa using HAT.out
      go_wp2_with fail
      refine (l6Copy_any ⟨x.ra, x.rc, x.zs, x.at_, x.ta, x.tc, x.ts, false⟩ w5 (show x.zs.length ≤ 1048576 by have := H34.out; omega) (show x.ts.length ≤ 1048576 by have := H34.out; omega) (HI.out.below HB5.out).1.1 (HI.out.below HB5.out).2.1).mono ?_
      rintro e w6 ⟨l, rfl, hst, hap, b6⟩
      have hq2 := ((B05.out.trans (b6.mono B05.out.size)).block _ (Array.getElem?_eq_some_iff.1 HQ2.out).1).trans HQ2.out
      have HQ6 := mkHid hq2
      have HST := mkHid (hst.trans (show (⟨x.zs, x.at_, x.ts, false⟩ : LS) = x.st by rw [HWT.out]))
      have HAP := mkHid (Apt.cons_old (m := ⟨some ⟨r5, 0, none⟩, c5, zs⟩) hap (show w.heap.size ≤ w5.heap.size from HB5.out.size) (own_base (own_below HO5.out b6) HB2.out.size) (fun g e => (HO5.out.lt g e).2))
      have HB6 := mkHid (below_then HB5.out b6)
      obtain ⟨⟨d0, d1, d2, d3⟩, g0, g1, g2, g3⟩ := box4e hq2
      clear hst hap b6 hq2
      go_wp2_with fail
      refine bodyPost_ret (v := .tuple #[ltV l, .slice (some ⟨r5, 0, none⟩) zs.length c5]) (by simp [results, Try.results34, go_sem, d0, d1, d2, d3]) rfl ?_
      rw [stepS_rest HG.out]
      exact ⟨l, some ⟨r5, 0, none⟩, c5, rfl, HST.out, HAP.out.other (grown_s4 _ _ _ _ _ _) HQ6.out (by decide), HB6.out.grown (grown_s4 _ _ _ _ _ _) HB6.out.size (fun g e => by injection e with e; omega)⟩
    · have hbt : (x.at_ == (xs.length : Int)) = false := by simpa using hat
      have HG : Hid (goesB xs.length x.st = true) := mkHid (goesB_parts.2 ⟨HWT.out.symm, hat⟩)
      clear hat
      obtain ⟨p, hp⟩ : ∃ p : Nat, x.at_ = p := ⟨x.at_.toNat, by have := HPC.out; omega⟩
      have hpl : p < xs.length := by
        have h1 := HPC.out.2
        have h2 : ¬ x.at_ = (xs.length : Int) := by simpa using hbt
        omega
      have hst5 := l6Step_any ⟨x.ra, x.rc, x.zs, x.at_, x.ta, x.tc, x.ts, false⟩ LA lc xs id w2.heap.size ⟨some ⟨r5, 0, none⟩, c5, zs⟩ w5 HOK.out.prog HOK.out.id8 HB25.out.size HOK.out.mem (HS.out.below HB5.out) (HI.out.below HB5.out) (by have := HOK.out.lane; rw [show x.st = (⟨x.zs, x.at_, x.ts, false⟩ : LS) by rw [HWT.out]] at this; exact this) p hp hpl rfl HO5.out
      have HSP := mkHid hst5
      have HST0 : Hid (stepS xs id x.st zs = doStep xs id p (codeAt xs p) (Lt.st ⟨x.ra, x.rc, x.zs, x.at_, x.ta, x.tc, x.ts, false⟩) zs) := mkHid (by
        rw [stepS_go HG.out, show x.st.pc.toNat = p from by show x.at_.toNat = p; omega, show x.st = (⟨x.zs, x.at_, x.ts, false⟩ : LS) by rw [HWT.out]])
      obtain ⟨r, hr⟩ : ∃ r, r = doStep xs id p (codeAt xs p) (Lt.st ⟨x.ra, x.rc, x.zs, x.at_, x.ta, x.tc, x.ts, false⟩) zs := ⟨_, rfl⟩
      rw [← hr] at HSP HST0
      clear hst5 hr hp hpl
      go_wp2_with fail
      refine HSP.out.mono ?_
      rintro e w6 ⟨l, rfl, hst, hap, hm6, hl6, hg6⟩
      have hlt5 := HO5.out.lt
      have hbw6 := HB5.out.grown hg6 HB5.out.size (fun g e => by have := hlt5 g e; have := HB2.out.size; omega)
      have hq2 := (hg6.block _ (Array.getElem?_eq_some_iff.1 ((B05.out.block _ (Array.getElem?_eq_some_iff.1 HQ2.out).1).trans HQ2.out)).1 (fun e => by have := (hlt5 _ e.symm).1; have := B02.out.size; have := HSZ.out; omega)).trans ((B05.out.block _ (Array.getElem?_eq_some_iff.1 HQ2.out).1).trans HQ2.out)
      have HQ6 := mkHid hq2
      have HST := mkHid hst
      have HAP := mkHid (Apt.cons_old (m := ⟨some ⟨r5, 0, none⟩, c5, r.2⟩) hap (show w.heap.size ≤ w5.heap.size from HB5.out.size) (own_base hm6 HB2.out.size) (fun g e => (hlt5 g e).2))
      have HB6 := mkHid hbw6
      have HL6 := mkHid hl6
      clear hst hap hm6 hl6 hg6 hq2 hbw6 hlt5
      go_upto_region 7 with fail
      refine name_world ?_
      intro W7 hW7
      have hal7 : Below w6.heap.size w6 W7 := by rw [hW7]; exact (Below.refl _ _).alloc (Nat.le_refl _) _
      have hq7 := (hal7.block _ (Array.getElem?_eq_some_iff.1 HQ6.out).1).trans HQ6.out
      have hY7 : W7.heap[w6.heap.size]? = some (.cells #[ltR l, .int .i64 l.at_, ltT l, .bool l.wt] 52) := by rw [hW7]; exact heap_alloc_new w6 _
      have HQ7 := mkHid hq7
      have HAP7 := mkHid (HAP.out.below hal7)
      have HB7 := mkHid (below_then HB6.out hal7)
      obtain ⟨⟨d0, d1, d2, d3⟩, g0, g1, g2, g3⟩ := box4e hq7
      obtain ⟨⟨y0, y1, y2, y3⟩, _⟩ := box4e hY7
      simp only [ltR, ltT] at y0 y2
      clear hal7 hq7 hY7 hW7
      generalize w6.heap.size = Y at *
      go_wp2_with fail
      refine bodyPost_ret (v := .tuple #[ltV l, .slice (some ⟨r5, 0, none⟩) r.2.length c5]) (by simp [results, Try.results34, go_sem, d0, d1, d2, d3, HL6.out]) rfl ?_
      rw [HST0.out]
      exact ⟨l, some ⟨r5, 0, none⟩, c5, rfl, HST.out, HAP7.out.other (grown_s4 _ _ _ _ _ _) HQ7.out (by decide), HB7.out.grown (grown_s4 _ _ _ _ _ _) HB7.out.size (fun g e => by injection e with e; omega)⟩
theorem specStepLane_any (x : Lt) (LA : Option Addr) (lc : Nat) (xs : List Cd) (id : Int) (A : Option Addr) (c : Nat) (zs : List Int) (w : World) (hl : xs.length ≤ 1048576) (hz : zs.length ≤ 1000000000) (hs : Sl w LA (cflat xs)) (hi : LaneIn w x) (h2 : Sl w A (ints zs)) :
    Calls Try.prog 34 #[ltV x, .slice LA xs.length lc, .int .i64 id, .slice A zs.length c] w (RetLM (stepTo xs x.st id zs) w) := by
  unfold stepTo
  cases h : okS xs x.st id zs with
  | false => exact specStepLane_no x LA lc xs id A c zs w hl hz hs hi h2 h
  | true => exact specStepLane_yes x LA lc xs id A c zs w hl hz hs hi h2 h
theorem specRunLane_no (x : Lt) (LA : Option Addr) (lc : Nat) (xs : List Cd) (id : Int) (A : Option Addr) (c : Nat) (zs : List Int) (w : World) (hl : xs.length ≤ 1048576) (hz : zs.length ≤ 1000000000) (hs : Sl w LA (cflat xs)) (hi : LaneIn w x) (h2 : Sl w A (ints zs)) (hno : okS xs x.st id zs = false) :
    Calls Try.prog 29 #[ltV x, .slice LA xs.length lc, .int .i64 id, .slice A zs.length c] w (RetLM (lsNil, []) w) := by
  obtain ⟨o1, ho1⟩ : ∃ o1, o1 = Obj.cells #[.slice x.ra x.zs.length x.rc, .int .i64 x.at_, .slice x.ta x.ts.length x.tc, .bool x.wt] 52 := ⟨_, rfl⟩
  obtain ⟨o2, ho2⟩ : ∃ o2, o2 = Obj.cells #[.slice none 0 0, .int .i64 0, .slice none 0 0, .bool false] 52 := ⟨_, rfl⟩
  have hbl : Below w.heap.size w ((w.alloc o1).alloc o2) := ((Below.refl _ _).alloc (Nat.le_refl _) _).alloc (by simp) _
  have q2 : ((w.alloc o1).alloc o2).heap[w.heap.size + 1]? = some o2 := by
    have := heap_alloc_new (w.alloc o1) o2
    simpa using this
  have HL := mkHid (specLaneValid_any x LA lc xs _ hl (hs.below hbl) (hi.below hbl))
  have HM := mkHid (fun X (hX : Below w.heap.size w X) => specMemoryValid_any A c zs X hz (h2.below hX))
  have HW := mkHid (fun X => l1In_any id 0 7 X)
  have HB := mkHid hbl
  subst ho1 ho2
  have HQ2 := mkHid q2
  unfold okS at hno
  obtain ⟨v1, hv1⟩ : ∃ v, v = laneValid xs x.st := ⟨_, rfl⟩
  obtain ⟨v2, hv2⟩ : ∃ v, v = inB id 0 7 := ⟨_, rfl⟩
  obtain ⟨v3, hv3⟩ : ∃ v, v = memValid zs := ⟨_, rfl⟩
  rw [← hv1] at HL hno
  rw [← hv2] at HW hno
  rw [← hv3] at HM hno
  clear hv1 hv2 hv3 hs hi h2 hbl q2
  cases v1 with
  | false =>
    clear hno
    go_enter Try.func29, Try.ntmps29
    go_wp2_with fail
    refine HL.out.mono ?_
    rintro e w2 ⟨rfl, b2⟩
    have hq := (b2.block _ (Array.getElem?_eq_some_iff.1 HQ2.out).1).trans HQ2.out
    have HB2 := mkHid (HB.out.trans (b2.mono HB.out.size))
    have hal : Below w2.heap.size w2 (w2.alloc (.cells #[] 3)) := (Below.refl _ _).alloc (Nat.le_refl _) _
    have hqa := (hal.block _ (Array.getElem?_eq_some_iff.1 hq).1).trans hq
    have HQA := mkHid hqa
    have HBA := mkHid (below_then HB2.out hal)
    obtain ⟨⟨d0, d1, d2, d3⟩, g0, g1, g2, g3⟩ := box4e hqa
    clear b2 hq hal hqa
    go_wp2_with fail
    refine bodyPost_ret (v := .tuple #[ltV ⟨none, 0, [], 0, none, 0, [], false⟩, .slice (some ⟨w2.heap.size, 0, none⟩) 0 0]) (by simp [results, Try.results29, go_sem, d0, d1, d2, d3]) rfl ⟨_, some ⟨w2.heap.size, 0, none⟩, 0, rfl, rfl, ?_, ?_⟩
    · have ho : (w2.alloc (.cells #[] 3)).ownsRow w.heap.size 3 1 (irV ⟨some ⟨w2.heap.size, 0, none⟩, 0, []⟩) 0 (ints []) := own_base (own_empty w2 _ _) HB2.out.size
      exact (apt_e3 ho).other (grown_s4 _ _ _ _ _ _) HQA.out (by decide)
    · exact HBA.out.grown (grown_s4 _ _ _ _ _ _) HBA.out.size (fun g e => by injection e with e; omega)
  | true =>
    cases v3 with
    | false =>
      clear hno
      go_enter Try.func29, Try.ntmps29
      go_wp2_with fail
      refine HL.out.mono ?_
      rintro e w2 ⟨rfl, b2⟩
      have B2 := mkHid (HB.out.trans (b2.mono HB.out.size))
      go_wp2_with fail
      refine (HM.out _ B2.out).mono ?_
      rintro e w3 ⟨rfl, rfl⟩
      have hq := (b2.block _ (Array.getElem?_eq_some_iff.1 HQ2.out).1).trans HQ2.out
      have HB2 := mkHid (HB.out.trans (b2.mono HB.out.size))
      have hal : Below w2.heap.size w2 (w2.alloc (.cells #[] 3)) := (Below.refl _ _).alloc (Nat.le_refl _) _
      have hqa := (hal.block _ (Array.getElem?_eq_some_iff.1 hq).1).trans hq
      have HQA := mkHid hqa
      have HBA := mkHid (below_then HB2.out hal)
      obtain ⟨⟨d0, d1, d2, d3⟩, g0, g1, g2, g3⟩ := box4e hqa
      clear b2 hq hal hqa
      go_wp2_with fail
      refine bodyPost_ret (v := .tuple #[ltV ⟨none, 0, [], 0, none, 0, [], false⟩, .slice (some ⟨w2.heap.size, 0, none⟩) 0 0]) (by simp [results, Try.results29, go_sem, d0, d1, d2, d3]) rfl ⟨_, some ⟨w2.heap.size, 0, none⟩, 0, rfl, rfl, ?_, ?_⟩
      · have ho : (w2.alloc (.cells #[] 3)).ownsRow w.heap.size 3 1 (irV ⟨some ⟨w2.heap.size, 0, none⟩, 0, []⟩) 0 (ints []) := own_base (own_empty w2 _ _) HB2.out.size
        exact (apt_e3 ho).other (grown_s4 _ _ _ _ _ _) HQA.out (by decide)
      · exact HBA.out.grown (grown_s4 _ _ _ _ _ _) HBA.out.size (fun g e => by injection e with e; omega)
    | true =>
      cases v2 with
      | true => cases hno
      | false =>
        clear hno
        go_enter Try.func29, Try.ntmps29
        go_wp2_with fail
        refine HL.out.mono ?_
        rintro e w2 ⟨rfl, b2⟩
        have B2 := mkHid (HB.out.trans (b2.mono HB.out.size))
        go_wp2_with fail
        refine (HM.out _ B2.out).mono ?_
        rintro e w3 ⟨rfl, rfl⟩
        go_wp2_with fail
        refine (HW.out _).mono ?_
        rintro e w3 ⟨rfl, rfl⟩
        have hq := (b2.block _ (Array.getElem?_eq_some_iff.1 HQ2.out).1).trans HQ2.out
        have HB2 := mkHid (HB.out.trans (b2.mono HB.out.size))
        have hal : Below w2.heap.size w2 (w2.alloc (.cells #[] 3)) := (Below.refl _ _).alloc (Nat.le_refl _) _
        have hqa := (hal.block _ (Array.getElem?_eq_some_iff.1 hq).1).trans hq
        have HQA := mkHid hqa
        have HBA := mkHid (below_then HB2.out hal)
        obtain ⟨⟨d0, d1, d2, d3⟩, g0, g1, g2, g3⟩ := box4e hqa
        clear b2 hq hal hqa
        go_wp2_with fail
        refine bodyPost_ret (v := .tuple #[ltV ⟨none, 0, [], 0, none, 0, [], false⟩, .slice (some ⟨w2.heap.size, 0, none⟩) 0 0]) (by simp [results, Try.results29, go_sem, d0, d1, d2, d3]) rfl ⟨_, some ⟨w2.heap.size, 0, none⟩, 0, rfl, rfl, ?_, ?_⟩
        · have ho : (w2.alloc (.cells #[] 3)).ownsRow w.heap.size 3 1 (irV ⟨some ⟨w2.heap.size, 0, none⟩, 0, []⟩) 0 (ints []) := own_base (own_empty w2 _ _) HB2.out.size
          exact (apt_e3 ho).other (grown_s4 _ _ _ _ _ _) HQA.out (by decide)
        · exact HBA.out.grown (grown_s4 _ _ _ _ _ _) HBA.out.size (fun g e => by injection e with e; omega)
theorem specRunLane_yes (x : Lt) (LA : Option Addr) (lc : Nat) (xs : List Cd) (id : Int) (A : Option Addr) (c : Nat) (zs : List Int) (w : World) (hl : xs.length ≤ 1048576) (hz : zs.length ≤ 1000000000) (hs : Sl w LA (cflat xs)) (hi : LaneIn w x) (h2 : Sl w A (ints zs)) (hok : okS xs x.st id zs = true) (N : Nat) (hN : RunsL xs id (clearW x.st) zs N) :
    Calls Try.prog 29 #[ltV x, .slice LA xs.length lc, .int .i64 id, .slice A zs.length c] w (RetLM (iterS xs id (clearW x.st) zs N) w) := by
  obtain ⟨o1, ho1⟩ : ∃ o1, o1 = Obj.cells #[.slice x.ra x.zs.length x.rc, .int .i64 x.at_, .slice x.ta x.ts.length x.tc, .bool x.wt] 52 := ⟨_, rfl⟩
  obtain ⟨o2, ho2⟩ : ∃ o2, o2 = Obj.cells #[.slice none 0 0, .int .i64 0, .slice none 0 0, .bool false] 52 := ⟨_, rfl⟩
  have hbl : Below w.heap.size w ((w.alloc o1).alloc o2) := ((Below.refl _ _).alloc (Nat.le_refl _) _).alloc (by simp) _
  have q1 : ((w.alloc o1).alloc o2).heap[w.heap.size]? = some o1 := by
    rw [heap_alloc_old _ _ (by simp)]; exact heap_alloc_new _ _
  have q2 : ((w.alloc o1).alloc o2).heap[w.heap.size + 1]? = some o2 := by
    have := heap_alloc_new (w.alloc o1) o2
    simpa using this
  have hsz : ((w.alloc o1).alloc o2).heap.size = w.heap.size + 2 := by simp
  have ho := okS_iff.1 hok
  have hok' := hok
  unfold okS at hok'
  simp only [Bool.and_eq_true] at hok'
  have HL := mkHid (specLaneValid_any x LA lc xs _ hl (hs.below hbl) (hi.below hbl))
  have HM := mkHid (fun X (hX : Below w.heap.size w X) => specMemoryValid_any A c zs X hz (h2.below hX))
  have HW := mkHid (fun X => l1In_any id 0 7 X)
  rw [hok'.1.1] at HL
  rw [hok'.1.2] at HW
  rw [hok'.2] at HM
  have HOK := mkHid ho
  have h4 : x.zs.length = 4 := ho.lane.regs
  have h3 : x.ts.length ≤ 3 := by
    have h1 := ho.lane.len
    have h2 := loops_three ho.prog (k := x.st.pc.toNat) (by have := ho.lane.pc; omega)
    have e : x.st.turns.length = x.ts.length := rfl
    omega
  have hpc : 0 ≤ x.at_ ∧ x.at_ ≤ (xs.length : Int) := ho.lane.pc
  have h40 := (progValid_yes ho.prog).1
  have hz32 := (memValid_parts.1 ho.mem).1
  have HB := mkHid hbl
  have HS := mkHid hs
  have HI := mkHid hi
  have H2 := mkHid h2
  have H34 := mkHid (And.intro h3 h4)
  obtain ⟨⟨u0, u1, u2, u3⟩, e0, e1, e2, e3⟩ := box4e (q1.trans (congrArg some ho1))
  subst ho1 ho2
  have HQ1 := mkHid q1
  have HQ2 := mkHid q2
  have HSZ := mkHid hsz
  have HPC := mkHid hpc
  clear hs hi h2 hok hok' hbl q1 q2 hsz ho h3 h4 hpc
  go_enter Try.func29, Try.ntmps29
  go_wp2_with fail
  generalize (w.alloc (.cells #[.slice x.ra x.zs.length x.rc, .int .i64 x.at_, .slice x.ta x.ts.length x.tc, .bool x.wt] 52)).alloc (.cells #[.slice none 0 0, .int .i64 0, .slice none 0 0, .bool false] 52) = W0 at *
  refine HL.out.mono ?_
  rintro e w2 ⟨rfl, b2⟩
  have B02 := mkHid b2
  have HB2 := mkHid (HB.out.trans (b2.mono HB.out.size))
  clear b2
  go_wp2_with fail
  refine (HM.out _ HB2.out).mono ?_
  rintro e w3 ⟨rfl, rfl⟩
  go_wp2_with fail
  refine (HW.out _).mono ?_
  rintro e w3 ⟨rfl, rfl⟩
  have hq1 := (B02.out.block _ (Array.getElem?_eq_some_iff.1 HQ1.out).1).trans HQ1.out
  clear u0 u1 u2 u3 e0 e1 e2 e3 HL HM HW
  obtain ⟨⟨u0, u1, u2, u3⟩, _⟩ := box4e hq1
  clear hq1
  go_wp2_with fail
  refine (l6Copy_any x w2 (show x.zs.length ≤ 1048576 by have := H34.out; omega) (show x.ts.length ≤ 1048576 by have := H34.out; omega) (HI.out.below HB2.out).1.1 (HI.out.below HB2.out).2.1).mono ?_
  rintro e w5 ⟨l, rfl, hst, hap, b5⟩
  have HST := mkHid hst
  have HAP := mkHid hap
  have B25 := mkHid b5
  clear hst hap b5 u0 u1 u2 u3
  go_upto_region 5 with fail
  refine name_world ?_
  intro W6 hW6
  obtain ⟨l0, hl0⟩ : ∃ l0 : Lt, l0 = ⟨l.ra, l.rc, l.zs, l.at_, l.ta, l.tc, l.ts, false⟩ := ⟨_, rfl⟩
  have hal6 : Below w5.heap.size w5 W6 := by rw [hW6]; exact (Below.refl _ _).alloc (Nat.le_refl _) _
  have hX6 : W6.heap[w5.heap.size]? = some (.cells #[ltR l0, .int .i64 l0.at_, ltT l0, .bool l0.wt] 52) := by rw [hW6, hl0]; exact heap_alloc_new w5 _
  have HX6 := mkHid hX6
  have HL0 : Hid (l0.st = clearW x.st) := mkHid (by rw [hl0, ← HST.out]; rfl)
  have HAP6 : Hid (Apt W6 w2.heap.size [irR l0, irT l0]) := mkHid (by rw [hl0]; exact HAP.out.below hal6)
  have B26 := mkHid (B25.out.trans (hal6.mono B25.out.size))
  have HB6 := mkHid (below_then HB2.out B26.out)
  have HX2 := mkHid B25.out.size
  have HS02 := mkHid (show w.heap.size + 2 ≤ w2.heap.size from by have := B02.out.size; rw [HSZ.out] at this; exact this)
  clear hal6 hX6 hW6 HAP
  clear hl0
  clear B25 HST
  generalize w5.heap.size = X at *
  go_wp2_with (at_builtin; refine wpList_copyS rfl Ei (own_empty W6 _ _) ((H2.out.below HB6.out).alloc _) (by simp [ints]) (ints_one _) (by omega) (by omega) (by simp) rfl rfl rfl ?_
               intro r5 c5 w7 hown5 hg5 hat5
               have HO5 := mkHid hown5
               have HB67 := mkHid (below_grown ((Below.refl W6.heap.size W6).alloc (Nat.le_refl _) _) hg5 (fun g hg => by injection hg with hg; omega))
               clear hown5 hg5 hat5)
  have hb67 := HB67.out
  have HX7 := mkHid ((hb67.block _ (Array.getElem?_eq_some_iff.1 HX6.out).1).trans HX6.out)
  have HAP7 := mkHid ((HAP6.out.cons_new (m := ⟨some ⟨r5, 0, none⟩, c5, zs⟩) hb67 B26.out.size HO5.out).lower (show w.heap.size ≤ w2.heap.size from HB2.out.size))
  have B07 := mkHid ((B02.out.trans (B26.out.mono B02.out.size)).trans (hb67.mono (B02.out.trans (B26.out.mono B02.out.size)).size))
  have HQ7 := mkHid ((B07.out.block _ (Array.getElem?_eq_some_iff.1 HQ2.out).1).trans HQ2.out)
  have HB7 := mkHid (below_then HB6.out hb67)
  have hXw : w.heap.size + 2 ≤ X := Nat.le_trans HS02.out HX2.out
  have HXW := mkHid hXw
  clear hb67 hXw HAP6 B26 HX6 HO5
  have hN6 := hN.le
  have HN := mkHid hN
  have HIT := mkHid (fun i => iterS_ok (id := id) HOK.out.prog HOK.out.id8 HOK.out.lane.clear HOK.out.mem i)
  clear hN
  go_loopg [] N (fun gk wr => ∃ i : Nat, i ≤ N ∧ gk = N - i ∧ ∃ l' : Lt, l'.st = (iterS xs id (clearW x.st) zs i).1 ∧ Apt wr w.heap.size [⟨some ⟨r5, 0, none⟩, c5, (iterS xs id (clearW x.st) zs i).2⟩, irR l', irT l'] ∧ wr.heap[X]? = some (.cells #[ltR l', .int .i64 l'.at_, ltT l', .bool l'.wt] 52) ∧ wr.heap[w.heap.size + 1]? = some (.cells #[.slice none 0 0, .int .i64 0, .slice none 0 0, .bool false] 52) ∧ Below w.heap.size w wr)
  case atStart => exact ⟨0, by omega, by omega, l0, HL0.out, HAP7.out, HX7.out, HQ7.out, HB7.out⟩
  case round =>
    clear HAP7 HX7 HQ7 HB7 HQ2 HQ1 B07 HB67
    obtain ⟨i, hi, rfl, l', hst', hap, hx, hq, hb⟩ := hrel
    have HAPR := mkHid hap
    have HXR := mkHid hx
    have HQR := mkHid hq
    have HBW := mkHid hb
    have HST' := mkHid hst'
    have HIOK := mkHid (HIT.out i)
    obtain ⟨mi, hmi⟩ : ∃ mi, mi = (iterS xs id (clearW x.st) zs i).2 := ⟨_, rfl⟩
    have HMI := mkHid hmi
    rw [← hmi] at HAPR HIOK
    have HML := mkHid (show mi.length = zs.length from HIOK.out.2.2)
    have HG : Hid (goesB xs.length (iterS xs id (clearW x.st) zs i).1 = (!l'.wt && !(l'.at_ == (xs.length : Int)))) := mkHid (by rw [← hst']; rfl)
    have HEX : Hid (goesB xs.length (iterS xs id (clearW x.st) zs i).1 = false → i = N) := mkHid (fun h => by
      rcases Nat.lt_or_ge i N with h1 | h1
      · have := HN.out.before i h1; rw [h] at this; cases this
      · omega)
    have HGO : Hid (goesB xs.length (iterS xs id (clearW x.st) zs i).1 = true → i < N) := mkHid (fun h => by
      rcases Nat.lt_or_ge i N with h1 | h1
      · exact h1
      · have e : i = N := by omega
        have := HN.out.stop; rw [← e, h] at this; cases this)
    have hpc' : 0 ≤ l'.at_ ∧ l'.at_ ≤ (xs.length : Int) := by have := HIOK.out.1.pc; rw [← hst'] at this; exact this
    obtain ⟨⟨x0, x1, x2, x3⟩, f0, f1, f2, f3⟩ := box4e hx
    obtain ⟨⟨d0, d1, d2, d3⟩, g0, g1, g2, g3⟩ := box4e hq
    obtain ⟨la, lrc, lzs, lat, lta, ltc, lts, lwt⟩ := l'
    simp only [ltR, ltT] at x0 x1 x2 x3 hpc' HG
    clear hap hx hq hb hst' hmi
    cases lwt with
    | true =>
      clear hpc'
      have hie := HEX.out (by rw [HG.out]; rfl)
      subst hie
      go_wp2_with fail
      refine bodyPost_ret (v := .tuple #[ltV ⟨la, lrc, lzs, lat, lta, ltc, lts, true⟩, .slice (some ⟨r5, 0, none⟩) zs.length c5]) (by simp [results, Try.results29, go_sem, d0, d1, d2, d3]) rfl ?_
      refine ⟨⟨la, lrc, lzs, lat, lta, ltc, lts, true⟩, some ⟨r5, 0, none⟩, c5, ?_, HST'.out, ?_, ?_⟩
      · rw [← HMI.out, HML.out]
      · rw [← HMI.out]
        exact HAPR.out.other (grown_s4 _ _ _ _ _ _) HQR.out (by decide)
      · exact HBW.out.grown (grown_s4 _ _ _ _ _ _) HBW.out.size (fun g e => by injection e with e; omega)
    | false =>
      by_cases hdn : lat < (xs.length : Int)
      · have hbt : (lat == (xs.length : Int)) = false := by
          have : ¬ lat = (xs.length : Int) := by omega
          simpa using this
        rw [hbt] at HG
        have hin := HGO.out (by rw [HG.out]; rfl)
        obtain ⟨p, hp⟩ : ∃ p : Nat, lat = p := ⟨lat.toNat, by omega⟩
        have hpl : p < xs.length := by omega
        have hm5 : wr.ownsRow w.heap.size 3 1 (irV ⟨some ⟨r5, 0, none⟩, c5, mi⟩) mi.length (ints mi) := HAPR.out.1 _ (by simp)
        have hli : LaneIn wr ⟨la, lrc, lzs, lat, lta, ltc, lts, false⟩ := ⟨⟨Sl.of_own (HAPR.out.1 (irR ⟨la, lrc, lzs, lat, lta, ltc, lts, false⟩) (by simp)), own_max (HAPR.out.1 (irR ⟨la, lrc, lzs, lat, lta, ltc, lts, false⟩) (by simp))⟩, ⟨Sl.of_own (HAPR.out.1 (irT ⟨la, lrc, lzs, lat, lta, ltc, lts, false⟩) (by simp)), own_max (HAPR.out.1 (irT ⟨la, lrc, lzs, lat, lta, ltc, lts, false⟩) (by simp))⟩⟩
        have hst5 := l6Step_any ⟨la, lrc, lzs, lat, lta, ltc, lts, false⟩ LA lc xs id w.heap.size ⟨some ⟨r5, 0, none⟩, c5, mi⟩ wr HOK.out.prog HOK.out.id8 HBW.out.size HIOK.out.2.1 (HS.out.below HBW.out) hli (by rw [HST'.out]; exact HIOK.out.1) p hp hpl rfl hm5
        simp only [HML.out] at hst5
        have HSP := mkHid hst5
        have HNX : Hid (iterS xs id (clearW x.st) zs (i + 1) = doStep xs id p (codeAt xs p) (Lt.st ⟨la, lrc, lzs, lat, lta, ltc, lts, false⟩) mi) := mkHid (by
          show stepS xs id (iterS xs id (clearW x.st) zs i).1 (iterS xs id (clearW x.st) zs i).2 = _
          rw [stepS_go (by rw [HG.out]; rfl), ← HMI.out, ← HST'.out, show (Lt.st ⟨la, lrc, lzs, lat, lta, ltc, lts, false⟩).pc.toNat = p from by show lat.toNat = p; omega])
        have HLT := mkHid (fun g e => (hm5.lt g e))
        rw [← HNX.out] at HSP
        have HNB := mkHid (fun e => own_ne_heapA hm5 HXR.out (by decide) e)
        have HNQ := mkHid (fun e => own_ne_heapA hm5 HQR.out (by decide) e)
        clear hst5 hli hm5 hp hpl hbt d0 d1 d2 d3 g0 g1 g2 g3 HST'
        go_wp2_with fail
        refine HSP.out.mono ?_
        rintro e w9 ⟨l9, rfl, hst9, hap9, hm9, hl9, hg9⟩
        have hx9 := (hg9.block _ (Array.getElem?_eq_some_iff.1 HXR.out).1 (fun e => HNB.out e.symm)).trans HXR.out
        have hq9 := (hg9.block _ (Array.getElem?_eq_some_iff.1 HQR.out).1 (fun e => HNQ.out e.symm)).trans HQR.out
        have hb9 := HBW.out.grown hg9 HBW.out.size (fun g e => (HLT.out g e).1)
        have HAP9 := mkHid ((Apt.cons_old (m := ⟨some ⟨r5, 0, none⟩, c5, (iterS xs id (clearW x.st) zs (i + 1)).2⟩) hap9 (show w.heap.size ≤ wr.heap.size from HBW.out.size) hm9 (fun g e => (HLT.out g e).2)).other (grown_s4 w9 X (ltR l9) (.int .i64 l9.at_) (ltT l9) (.bool l9.wt)) hx9 (by decide))
        have HX9 := mkHid (box_set4L hx9 (ltR l9) (.int .i64 l9.at_) (ltT l9) (.bool l9.wt))
        have HQ9 := mkHid (((grown_s4 w9 X (ltR l9) (.int .i64 l9.at_) (ltT l9) (.bool l9.wt)).block _ (Array.getElem?_eq_some_iff.1 hq9).1 (fun e => by injection e with e; have := HXW.out; omega)).trans hq9)
        have HB9 := mkHid (hb9.grown (grown_s4 w9 X (ltR l9) (.int .i64 l9.at_) (ltT l9) (.bool l9.wt)) hb9.size (fun g e => by injection e with e; have := HXW.out; omega))
        have HST9 := mkHid hst9
        clear x0 x1 x2 x3 f0 f1 f2 f3
        obtain ⟨⟨x0, x1, x2, x3⟩, f0, f1, f2, f3⟩ := box4e hx9
        clear hst9 hap9 hm9 hl9 hg9 hx9 hq9 hb9
        go_wp2_with fail
        go_roundg (N - (i + 1))
        case rel => exact ⟨i + 1, by omega, rfl, l9, HST9.out, HAP9.out, HX9.out, HQ9.out, HB9.out⟩
        case measure => omega
      · have hbt : (lat == (xs.length : Int)) = true := by
          have : lat = (xs.length : Int) := by omega
          simpa using this
        rw [hbt] at HG
        have hie := HEX.out (by rw [HG.out]; rfl)
        clear hbt
        subst hie
        go_wp2_with fail
        refine bodyPost_ret (v := .tuple #[ltV ⟨la, lrc, lzs, lat, lta, ltc, lts, false⟩, .slice (some ⟨r5, 0, none⟩) zs.length c5]) (by simp [results, Try.results29, go_sem, d0, d1, d2, d3]) rfl ?_
        refine ⟨⟨la, lrc, lzs, lat, lta, ltc, lts, false⟩, some ⟨r5, 0, none⟩, c5, ?_, HST'.out, ?_, ?_⟩
        · rw [← HMI.out, HML.out]
        · rw [← HMI.out]
          exact HAPR.out.other (grown_s4 _ _ _ _ _ _) HQR.out (by decide)
        · exact HBW.out.grown (grown_s4 _ _ _ _ _ _) HBW.out.size (fun g e => by injection e with e; omega)
theorem specRunLane_any (x : Lt) (LA : Option Addr) (lc : Nat) (xs : List Cd) (id : Int) (A : Option Addr) (c : Nat) (zs : List Int) (r : LS × List Int) (w : World) (hl : xs.length ≤ 1048576) (hz : zs.length ≤ 1000000000) (hs : Sl w LA (cflat xs)) (hi : LaneIn w x) (h2 : Sl w A (ints zs)) (hr : RunTo xs x.st id zs r) :
    Calls Try.prog 29 #[ltV x, .slice LA xs.length lc, .int .i64 id, .slice A zs.length c] w (RetLM r w) := by
  rcases hr with ⟨h1, rfl⟩ | ⟨h1, N, hN, rfl⟩
  · exact specRunLane_no x LA lc xs id A c zs w hl hz hs hi h2 h1
  · exact specRunLane_yes x LA lc xs id A c zs w hl hz hs hi h2 h1 N hN
end Go.Proofs.Ytjmiilneennjaaa

namespace Go.Proofs.Ytjmiilneennjaaa
open Go.RowKit
set_option linter.unusedVariables false

section
variable {P : Program} {R : Reg} {Q : Exit → Act → World → Prop}

/-- the region's last operation, kept for the end. -/
def lastQ (P : Program) (ops : Array Oper) (o : Oper) (Q : Exit → Act → World → Prop) : Exit → Act → World → Prop
  | .normal => wpList P ops Q [o]
  | e => Q e
theorem lastQ_outs {ops : Array Oper} {o : Oper} (h : LetsOut (lastQ P ops o Q)) : LetsOut Q := by
  obtain ⟨a, w, h⟩ := h
  exact ⟨a, w, h⟩
theorem oper_last {ops : Array Oper} {o o' : Oper} {a : Act} {w : World} {K K' : Act → World → Prop} (h : ∀ a w, K a w → K' a w) (hh : o'.wp P a w K (lastQ P ops o Q)) : o'.wp P a w K' Q := by
  unfold Oper.wp at *
  generalize (execOp a.eval o').run P w = r at *
  cases r with
  | ok n w' =>
    cases n <;> simp only [Oper.upon] at hh ⊢ <;>
      first
        | exact h _ _ hh
        | exact Calls.mono hh (fun e w'' he => by cases e <;> first | exact h _ _ he | exact he | exact lastQ_outs he)
        | exact Rows.mono hh (fun _ _ he => h _ _ he)
  | halt x w' => cases x <;> simp only [Oper.upon] at hh ⊢ <;> exact hh
theorem pushD (listed : Array Bool) (b d : Bool) (i : Nat) : (listed.push b).getD i d = if i = listed.size then b else listed.getD i d := by
  rw [Array.getD_eq_getD_getElem?, Array.getD_eq_getD_getElem?, Array.getElem?_push]
  by_cases h : i = listed.size
  · simp [h]
  · simp [h]
theorem push_set (listed : Array Bool) (i : Nat) (h : i < listed.size) : (listed.push false).setIfInBounds i true = (listed.setIfInBounds i true).push false := by
  apply Array.ext_getElem?
  intro j
  simp only [Array.getElem?_setIfInBounds, Array.getElem?_push, Array.size_push, Array.size_setIfInBounds]
  by_cases e : i = j
  · subst e
    simp [h, Nat.ne_of_lt h]
    omega
  · simp [e]
theorem push_last (listed : Array Bool) : (listed.push false).setIfInBounds listed.size true = listed.push true := by
  apply Array.ext_getElem?
  intro j
  simp only [Array.getElem?_setIfInBounds, Array.getElem?_push, Array.size_push]
  by_cases e : listed.size = j
  · subst e; simp
  · simp [e, Ne.symm e]
theorem getD_ft {listed : Array Bool} {i : Nat} (hi : i < listed.size) : listed.getD i true = listed.getD i false := by simp [hi]
end
section
variable {P : Program} {Q : Exit → Act → World → Prop} {l : List Oper} {o : Oper}

theorem ops_lt {i : Nat} (h : i < l.length) : (l ++ [o]).toArray[i]? = l.toArray[i]? := by
  simp only [List.getElem?_toArray]
  rw [List.getElem?_append_left h]
theorem ops_last : (l ++ [o]).toArray[l.length]? = some o := by
  simp
theorem all_listed (hlow : lowB (l ++ [o]) 0 = true) {listed : Array Bool} (hs : listed.size = l.length) (hr : Region.ready .any l.toArray listed = []) : ∀ i, i < l.length → listed.getD i false = true := by
  intro i
  induction i using Nat.strongRecOn with
  | _ i ih =>
    intro hi
    cases hl : listed.getD i false with
    | true => rfl
    | false =>
      exfalso
      have : i ∈ Region.ready .any l.toArray listed := by
        rw [mem_ready]
        refine ⟨by rw [getD_ft (by omega)]; exact hl, l[i], by simp [hi], fun e he hb => ?_⟩
        have := lowB_spec (l ++ [o]) 0 hlow i l[i] (by rw [List.getElem?_append_left hi]; exact List.getElem?_eq_getElem hi) e he hb
        exact ih e.on (by omega) (by omega)
      rw [hr] at this
      cases this
theorem wpAny_last (hg : ∀ x ∈ l ++ [o], x.guard = none) (hlow : lowB (l ++ [o]) 0 = true) (hlast : ∀ j, j < l.length → (avoid j (l ++ [o]) 0 []).getD l.length false = false) :
    ∀ (fuel : Nat) (listed : Array Bool) (a : Act) (w : World), listed.size = l.length → Down l.toArray listed → wpAny P .any l.toArray (lastQ P (l ++ [o]).toArray o Q) fuel listed a w → wpAny P .any (l ++ [o]).toArray Q (fuel + 1) (listed.push false) a w := by
  have hw : ∀ (x : Oper), x ∈ l ++ [o] → ∀ y, Region.wanted x y = true := fun x hx y => by simp [Region.wanted, hg x hx]
  have wantO := hw o (by simp)
  -- once all others are listed
  have fin : ∀ (fuel : Nat) (listed : Array Bool) (a : Act) (w : World), listed.size = l.length → (∀ i, i < l.length → listed.getD i false = true) → lastQ P (l ++ [o]).toArray o Q .normal a w → wpOp P (l ++ [o]).toArray Q l.length (wpAny P .any (l ++ [o]).toArray Q fuel ((listed.push false).setIfInBounds l.length true)) a w := by
    intro fuel listed a w hs hall hq
    have hnil : Region.ready .any (l ++ [o]).toArray (listed.push true) = [] := by
      rw [List.eq_nil_iff_forall_not_mem]
      intro j hj
      obtain ⟨h0, x, hx, _⟩ := mem_ready.1 hj
      rw [pushD] at h0
      split at h0
      · cases h0
      · rename_i hne
        have hjl := (Array.getElem?_eq_some_iff.1 hx).1
        simp at hjl
        have h1 := hall j (by omega)
        rw [getD_ft (by omega), h1] at h0
        cases h0
    unfold wpOp
    simp only [ops_last]
    rw [if_pos (wantO _)]
    change wpList P (l ++ [o]).toArray Q [o] a w at hq
    unfold wpList at hq
    rw [if_pos (wantO _)] at hq
    refine hq.imp (Oper.wp_mono fun a' w' h => ?_) id
    rw [← hs, push_last]
    cases fuel with
    | zero => exact ⟨hnil, h⟩
    | succ f => exact ⟨fun _ => h, fun i hi => by rw [hnil] at hi; cases hi⟩
  intro fuel
  induction fuel with
  | zero =>
    intro listed a w hs hD h
    have hall := all_listed hlow hs h.1
    refine ⟨fun hr => ?_, fun i hi => ?_⟩
    · exfalso
      have : l.length ∈ Region.ready .any (l ++ [o]).toArray (listed.push false) := by
        rw [mem_ready]
        refine ⟨by rw [pushD, if_pos hs.symm], o, ops_last, fun e he hb => ?_⟩
        have := lowB_spec (l ++ [o]) 0 hlow l.length o (by simp) e he hb
        rw [pushD, if_neg (by omega)]
        exact hall e.on (by omega)
      rw [hr] at this
      cases this
    · obtain ⟨h0, x, hx, hal⟩ := mem_ready.1 hi
      have hjl := (Array.getElem?_eq_some_iff.1 hx).1
      simp at hjl
      by_cases e : i = l.length
      · subst e
        exact fin 0 listed a w hs hall h.2
      · exfalso
        rw [pushD, if_neg (by omega), getD_ft (by omega), hall i (by omega)] at h0
        cases h0
  | succ f ih =>
    intro listed a w hs hD h
    refine ⟨fun hr => ?_, fun i hi => ?_⟩
    · exfalso
      have hr' : Region.ready .any l.toArray listed = [] := by
        rw [List.eq_nil_iff_forall_not_mem]
        intro j hj
        obtain ⟨h0, x, hx, hal⟩ := mem_ready.1 hj
        have hjl := (Array.getElem?_eq_some_iff.1 hx).1
        simp at hjl
        have : j ∈ Region.ready .any (l ++ [o]).toArray (listed.push false) := by
          rw [mem_ready]
          refine ⟨by rw [pushD, if_neg (by omega)]; exact h0, x, by rw [ops_lt hjl]; exact hx, fun e he hb => ?_⟩
          have := lowB_spec (l ++ [o]) 0 hlow j x (by rw [List.getElem?_append_left hjl]; simpa using hx) e he hb
          rw [pushD, if_neg (by omega)]
          exact hal e he hb
        rw [hr] at this
        cases this
      have hall := all_listed hlow hs hr'
      have : l.length ∈ Region.ready .any (l ++ [o]).toArray (listed.push false) := by
        rw [mem_ready]
        refine ⟨by rw [pushD, if_pos hs.symm], o, ops_last, fun e he hb => ?_⟩
        have := lowB_spec (l ++ [o]) 0 hlow l.length o (by simp) e he hb
        rw [pushD, if_neg (by omega)]
        exact hall e.on (by omega)
      rw [hr] at this
      cases this
    · obtain ⟨h0, x, hx, hal⟩ := mem_ready.1 hi
      have hjl := (Array.getElem?_eq_some_iff.1 hx).1
      simp at hjl
      by_cases e : i = l.length
      · subst e
        -- the last one is ready: all others are listed
        have hD2 : Down (l ++ [o]).toArray (listed.push true) := by
          intro j oj hj hjl2 e he hb
          have hlt := lowB_spec (l ++ [o]) 0 hlow j oj (by simpa using hj) e he hb
          have hjn := (Array.getElem?_eq_some_iff.1 hj).1
          simp at hjn
          rw [pushD, if_neg (by omega)]
          by_cases ej : j = l.length
          · subst ej
            rw [ops_last] at hj
            injection hj with hj
            rw [ops_last] at hx
            injection hx with hx
            subst hj hx
            have := hal e he hb
            rwa [pushD, if_neg (by omega)] at this
          · rw [pushD, if_neg (by omega)] at hjl2
            exact hD j oj (by rw [← ops_lt (by omega)]; exact hj) hjl2 e he hb
        have hall : ∀ j, j < l.length → listed.getD j false = true := by
          intro j hj
          cases hk : listed.getD j false with
          | true => rfl
          | false =>
            exfalso
            have hk2 : (listed.push true).getD j false = false := by rw [pushD, if_neg (by omega)]; exact hk
            have := avoid_spec j hD2 hk2 (l ++ [o]) 0 [] rfl (by simp) hlow (by simp) l.length (by simp) (by rw [pushD, if_pos hs.symm])
            rw [hlast j hj] at this
            cases this
        have hr' : Region.ready .any l.toArray listed = [] := by
          rw [List.eq_nil_iff_forall_not_mem]
          intro j hj
          obtain ⟨h1, y, hy, _⟩ := mem_ready.1 hj
          have hjl3 := (Array.getElem?_eq_some_iff.1 hy).1
          simp at hjl3
          rw [getD_ft (by omega), hall j hjl3] at h1
          cases h1
        exact fin (f + 1) listed a w hs hall (h.1 hr')
      · have hil : i < l.length := by omega
        have hri : i ∈ Region.ready .any l.toArray listed := by
          rw [mem_ready]
          refine ⟨by rw [pushD, if_neg (by omega)] at h0; exact h0, x, by rw [← ops_lt (o := o) hil]; exact hx, fun e he hb => ?_⟩
          have := lowB_spec (l ++ [o]) 0 hlow i x (by simpa using hx) e he hb
          have h2 := hal e he hb
          rwa [pushD, if_neg (by omega)] at h2
        have h1 := h.2 i hri
        have hx' : l.toArray[i]? = some x := by rw [← ops_lt (o := o) hil]; exact hx
        have hxm : x ∈ l ++ [o] := by
          have h9 := hx
          simp only [List.getElem?_toArray] at h9
          exact List.mem_of_getElem? h9
        unfold wpOp at h1 ⊢
        simp only [hx'] at h1
        simp only [hx]
        rw [if_pos (hw x hxm _)] at h1 ⊢
        rw [push_set listed i (by omega)]
        have hD' : Down l.toArray (listed.setIfInBounds i true) := by
          intro j oj hj hl ed he hb
          by_cases e1 : j = i
          · rw [e1, hx'] at hj; injection hj with hj; subst hj
            exact getD_set_true ((mem_ready.1 hri).2.elim fun y ⟨hy, hyl⟩ => by rw [hx'] at hy; injection hy with hy; subst hy; exact hyl ed he hb)
          · rw [getD_set_ne false (Ne.symm e1)] at hl
            exact getD_set_true (hD j oj hj hl ed he hb)
        rcases h1 with h1 | ⟨h1, h2⟩
        · exact .inl (oper_last (fun a' w' hh => ih _ a' w' (by simpa using hs) hD' hh) h1)
        · exact .inr ⟨h1, lastQ_outs h2⟩
/-- the static look at the last operation. -/
def lastChk (l : List Oper) (o : Oper) : Bool := (l ++ [o]).all (fun x => x.guard.isNone) && lowB (l ++ [o]) 0 && (List.range l.length).all fun j => !(avoid j (l ++ [o]) 0 []).getD l.length false
theorem wp_region_last (R : Reg) {id : Nat} {a : Act} {w : World} (l : List Oper) (o : Oper) (hm : P.follows .mixedOrders = true) (hB : Region.lexB .any l.toArray = true) (hc : (R.chk l && R.chkLive l) = true) (hl : lastChk l o = true)
    (hI : R.I 0 { w with drawn := w.drawn + 1 }) (h : ∀ xs, wpN P l.toArray R (lastQ P (l ++ [o]).toArray o Q) xs 0 l a) : (Code.region id (l ++ [o]).toArray true).wp P Q a w := by
  simp only [Region.lexB, Bool.and_eq_true] at hB
  rw [Bool.and_eq_true] at hc
  simp only [lastChk, Bool.and_eq_true, List.all_eq_true, List.mem_range, Bool.not_eq_true', Option.isNone_iff_eq_none] at hl
  refine wp_region_any hm ?_
  have hlx := wpAnyN_lex (P := P) (R := R) (Q := lastQ P (l ++ [o]).toArray o Q) hB.1 l 0 (Array.replicate l.toArray.size false) (fun _ => a) (by simp) (by simpa using hB.2) h
  have hxs : Nonempty R.Ch := ⟨fun i => Classical.choice (R.ne i)⟩
  obtain ⟨xs⟩ := hxs
  have hdown : Down l.toArray (Array.replicate l.toArray.size false) := by
    intro j o ho hl'
    exfalso
    simp [Array.getElem?_replicate] at hl'
    split at hl' <;> simp at hl'
  have := wpAny_of_N (chk_spec hc.1 hc.2) l.length (Array.replicate l.toArray.size false) (fun _ => a) xs _ 0 (by simp) (by simp) hdown hI ?_ (fun _ _ => rfl) hlx
  · have h2 := wpAny_last hl.1.1 hl.1.2 hl.2 l.length _ a _ (by simp) hdown this
    have he : (Array.replicate l.toArray.size false).push false = Array.replicate (l ++ [o]).toArray.size false := by
      rw [show (l ++ [o]).toArray.size = l.toArray.size + 1 from by simp, Array.replicate_succ]
    rw [he] at h2
    simpa using h2
  · intro k hk hl'
    exfalso
    simp [Array.getElem?_replicate] at hl'
    split at hl' <;> simp at hl'
theorem wp_region_lastL (R : Reg) {id : Nat} {a : Act} {w : World} {L : List Oper} {o : Oper} (hL : L = L.dropLast ++ [o]) (hm : P.follows .mixedOrders = true) (hB : Region.lexB .any L.dropLast.toArray = true) (hc : (R.chk L.dropLast && R.chkLive L.dropLast) = true) (hl : lastChk L.dropLast o = true)
    (hI : R.I 0 { w with drawn := w.drawn + 1 }) (h : ∀ xs, wpN P L.dropLast.toArray R (lastQ P L.toArray o Q) xs 0 L.dropLast a) : (Code.region id L.toArray true).wp P Q a w := by
  have := wp_region_last (Q := Q) R (id := id) L.dropLast o hm hB hc hl hI (by rw [← hL]; exact h)
  rw [← hL] at this
  exact this
end
end Go.Proofs.Ytjmiilneennjaaa
