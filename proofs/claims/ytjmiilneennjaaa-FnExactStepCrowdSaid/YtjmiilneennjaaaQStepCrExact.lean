/-
  Proved: FnExactStepCrowd returns true for all arguments.
-/
import Derived.Test.YtjmiilneennjaaaPart03
import Derived.Test.YtjmiilneennjaaaPart20
import Derived.Test.YtjmiilneennjaaaPart39
import Derived.Test.YtjmiilneennjaaaPart38
namespace Go.Proofs.Ytjmiilneennjaaa
open Go.ChangeShapes Go.WideShapes Go.ChangeAt Go.RowKit
set_option maxHeartbeats 2000000
set_option maxRecDepth 100000
set_option linter.unusedVariables false
set_option linter.unusedSimpArgs false

theorem RetCr.split {ss : List LS} {zs : List Int} {w w' : World} {e : Ending} (h : RetCr ss zs w e w') : ∃ A c, ∃ ls : List Lt, ∃ a d, e = .returned (.agg #[.slice A ls.length c, .slice a zs.length d]) ∧ sts ls = ss ∧ CrAt w' w.heap.size A c ls ⟨a, d, zs⟩ ∧ Below w.heap.size w w' := by
  obtain ⟨A, c, ls, ⟨a, d, zs'⟩, rfl, h1, rfl, h2, h3⟩ := h
  exact ⟨A, c, ls, a, d, rfl, h1, h2, h3⟩
theorem small_of {l5 ls : List Lt} (h : sts l5 = sts ls) (hl : ∀ x ∈ ls, x.zs.length ≤ 1048576 ∧ x.ts.length ≤ 1048576) : ∀ x ∈ l5, x.zs.length ≤ 1048576 ∧ x.ts.length ≤ 1048576 := fun l hl' => by
  have h1 : l.st ∈ sts ls := by rw [← h]; exact List.mem_map_of_mem hl'
  obtain ⟨x, hx, e⟩ := List.mem_map.1 h1
  have e1 : x.zs = l.zs := congrArg LS.regs e
  have e2 : x.ts = l.ts := congrArg LS.turns e
  rw [← e1, ← e2]
  exact hl x hx
theorem crTo_bounds (xs : List Cd) (ss : List LS) (z : Int) (mem : List Int) : (crTo xs ss z mem).1.length ≤ 8 ∧ (∀ s ∈ (crTo xs ss z mem).1, s.regs.length ≤ 1048576 ∧ s.turns.length ≤ 1048576) ∧ (crTo xs ss z mem).2.length ≤ 32 := by
  unfold crTo
  split
  · rename_i h
    obtain ⟨_, h3, h4, h5⟩ := crOk_yes h
    obtain ⟨k, rfl⟩ := Int.eq_ofNat_of_zero_le h4
    have h6 := stepC_ok h3 (k := k) (by omega)
    simp only [Int.toNat_natCast]
    refine ⟨h6.1.len.2, fun s hs => ?_, (memValid_parts.1 h6.1.mem).1.2⟩
    have ho := h6.1.lanes s hs
    have h1 := ho.len
    have h2 := loops_three h3.prog (k := s.pc.toNat) (by have := ho.pc; omega)
    have h7 := ho.regs
    omega
  · simp
theorem exactStepCr_walk (x : CrArg) (y : Option Addr × Nat × List Cd) (z : Int) (w : World) (rx : x.ls.length ≤ 9223372036854775807 ∧ x.m.zs.length ≤ 9223372036854775807) (sx : TGrid w x.A x.ls ∧ Sl w x.m.a (ints x.m.zs)) (ry : y.2.2.length ≤ 9223372036854775807) (sy : Sl w y.1 (cflat y.2.2)) (hz : -9223372036854775808 ≤ z ∧ z ≤ 9223372036854775807) :
    Calls Try.prog 5 #[crV x, .slice y.1 y.2.2.length y.2.1, .int .i64 z] w fun e w' => e = .returned (.bool true) ∧ Below w.heap.size w w' := by
  obtain ⟨A, c, xs⟩ := y
  obtain ⟨CA, cc, ls, ⟨ma, mc, ms⟩⟩ := x
  simp only at rx sx ry sy ⊢
  have hal : Below w.heap.size w (w.alloc (.cells #[.slice CA ls.length cc, .slice ma ms.length mc] 25)) := (Below.refl _ _).alloc (Nat.le_refl _) _
  have hq : (w.alloc (.cells #[.slice CA ls.length cc, .slice ma ms.length mc] 25)).heap[w.heap.size]? = some (.cells #[.slice CA ls.length cc, .slice ma ms.length mc] 25 (0, 0)) := heap_alloc_new w _
  have GX := mkHid (sx.1.below hal)
  have SM := mkHid (sx.2.below hal)
  have SX := mkHid (sy.below hal)
  have HB := mkHid hal
  have HQ := mkHid hq
  have HZ := mkHid (szCrowd_any CA cc ls ⟨ma, mc, ms⟩ 1048576 _ (by omega) rx.1 rx.2 GX.out)
  clear sx sy hal hq
  go_enter Try.func5, Try.ntmps5
  go_wp2_with fail
  generalize w.alloc (.cells #[.slice CA ls.length cc, .slice ma ms.length mc] 25) = W at *
  refine HZ.out.mono ?_
  rintro e w1 ⟨⟨v, rfl, v0, v1, ⟨hl1, hl2⟩, hm⟩ | rfl, b1⟩
  · have HL := mkHid hl2
    have HBW := mkHid b1
    clear hl2 b1 HZ
    go_wp2_with fail
    refine (szCodeS_any _ _ _ _ _ (by omega) ry).mono ?_
    rintro e w2 ⟨⟨hle, rfl⟩ | ⟨hlt, rfl⟩, rfl⟩
    · have hm : ms.length ≤ 1048576 := hm
      obtain ⟨p0, p1⟩ := box2t ((HBW.out.block _ (Array.getElem?_eq_some_iff.1 HQ.out).1).trans HQ.out)
      obtain ⟨r, hr⟩ : ∃ r, r = crTo xs (sts ls) z ms := ⟨_, rfl⟩
      have HSP : Hid (∀ A2 c2 (l2 : List Lt) a2 d2 A3 c3 X, sts l2 = sts ls → Sl X A3 (cflat xs) → TGrid X A2 l2 → Sl X a2 (ints ms) → Calls Try.prog 19 #[.agg #[.slice A2 l2.length c2, .slice a2 ms.length d2], .slice A3 xs.length c3, .int .i64 z] X (RetCr r.1 r.2 X)) := mkHid (fun A2 c2 l2 a2 d2 A3 c3 X hst hs hg hm' => by
        have hn : l2.length = ls.length := by have := congrArg List.length hst; simpa using this
        have h := specStepCrowd_any A2 c2 l2 ⟨a2, d2, ms⟩ A3 c3 xs z X (by omega) (by omega) (by simp only; omega) hs hg hm'
        rw [hst] at h
        rw [hr]; exact h)
      have HIM : Hid (∀ A2 c2 (l2 : List Lt) a2 d2 A3 c3 X, sts l2 = sts ls → Sl X A3 (cflat xs) → TGrid X A2 l2 → Sl X a2 (ints ms) → Calls Try.prog 20 #[.agg #[.slice A2 l2.length c2, .slice a2 ms.length d2], .slice A3 xs.length c3, .int .i64 z] X (RetCr r.1 r.2 X)) := mkHid (fun A2 c2 l2 a2 d2 A3 c3 X hst hs hg hm' => by
        have hn : l2.length = ls.length := by have := congrArg List.length hst; simpa using this
        have h := implStepCrowd_any A2 c2 l2 ⟨a2, d2, ms⟩ A3 c3 xs z X (by omega) (by omega) (by simp only; omega) hs hg hm'
        rw [hst] at h
        rw [hr]; exact h)
      have HRB : Hid (r.1.length ≤ 8 ∧ (∀ s ∈ r.1, s.regs.length ≤ 1048576 ∧ s.turns.length ≤ 1048576) ∧ r.2.length ≤ 32) := mkHid (by rw [hr]; exact crTo_bounds _ _ _ _)
      have hr32 := HRB.out.2.2
      clear hr
      go_wp2_with fail
      refine (toCrowd_any CA cc ls ⟨ma, mc, ms⟩ _ hl1 HL.out hm (GX.out.below HBW.out) (SM.out.below HBW.out)).mono ?_
      rintro e w2 h
      obtain ⟨A2, c2, l2, a2, d2, rfl, st2, cr2', b2⟩ := h.split
      have HBW2 := mkHid (below_then HBW.out b2)
      have C2 := mkHid cr2'
      have ST2 := mkHid st2
      clear h st2 cr2' b2 p0 p1 HBW
      go_wp2_with fail
      refine (toCodeS_any _ _ _ _ (by omega) (SX.out.below HBW2.out)).mono ?_
      rintro e w3 ⟨A3, c3, rfl, o3, b3⟩
      have HBW3 := mkHid (below_then HBW2.out b3)
      have C3 := mkHid (C2.out.below b3)
      have P3 := mkHid (Sl.of_own o3)
      clear o3 b3 HBW2 C2
      go_wp2_with fail
      refine (HSP.out A2 c2 l2 a2 d2 A3 c3 w3 ST2.out P3.out C3.out.grid' (Sl.of_own C3.out.mem)).mono ?_
      rintro e w4 h
      obtain ⟨AS, cS, lS, mS, dS, rfl, stS, crS, b4⟩ := h.split
      obtain ⟨o8, ho8⟩ : ∃ o8, o8 = Obj.cells #[.slice AS lS.length cS, .slice mS r.2.length dS] 32 := ⟨_, rfl⟩
      have hal8 : Below w4.heap.size w4 (w4.alloc o8) := (Below.refl _ _).alloc (Nat.le_refl _) _
      have hq8 : (w4.alloc o8).heap[w4.heap.size]? = some o8 := heap_alloc_new w4 o8
      have CS := mkHid (crS.below hal8)
      have STS := mkHid stS
      have HBS := mkHid (below_then (below_then HBW3.out b4) hal8)
      have HQS := mkHid ((HBS.out.block _ (Array.getElem?_eq_some_iff.1 HQ.out).1).trans HQ.out)
      subst ho8
      have HQ8 := mkHid hq8
      clear h stS crS b4 hal8 hq8 C3 ST2 P3 HBW3 HSP
      go_upto_region 9 with fail
      generalize w4.alloc (.cells #[.slice AS lS.length cS, .slice mS r.2.length dS] 32) = WS at *
      generalize w4.heap.size = K8 at *
      obtain ⟨p0, p1⟩ := box2t HQS.out
      go_wp2_with fail
      refine (toCrowd_any CA cc ls ⟨ma, mc, ms⟩ _ hl1 HL.out hm (GX.out.below HBS.out) (SM.out.below HBS.out)).mono ?_
      rintro e w5 h
      obtain ⟨A5, c5, l5, a5, d5, rfl, st5, cr5, b5⟩ := h.split
      obtain ⟨o9, ho9⟩ : ∃ o9, o9 = Obj.cells #[.slice A5 l5.length c5, .slice a5 ms.length d5] 32 := ⟨_, rfl⟩
      have hal9 : Below w5.heap.size w5 (w5.alloc o9) := (Below.refl _ _).alloc (Nat.le_refl _) _
      have hq9 : (w5.alloc o9).heap[w5.heap.size]? = some o9 := heap_alloc_new w5 o9
      have HI5 := mkHid (CrHi.of cr5)
      have C5 := mkHid (cr5.below hal9)
      have ST5 := mkHid st5
      have BS9 := mkHid (below_then b5 hal9)
      have HN5 : Hid (l5.length = ls.length) := mkHid (by have := congrArg List.length st5; simpa using this)
      have HZ9 : Hid (WS.heap.size ≤ w5.heap.size ∧ w5.heap.size < (w5.alloc o9).heap.size) := mkHid ⟨b5.size, by simp⟩
      subst ho9
      have HQ9 := mkHid hq9
      clear h st5 cr5 b5 hal9 hq9 p0 p1
      go_upto_region 10 with fail
      generalize w5.alloc (.cells #[.slice A5 l5.length c5, .slice a5 ms.length d5] 32) = W9 at *
      generalize w5.heap.size = K9 at *
      go_wp2_with fail
      refine (toCodeS_any _ _ _ _ (by omega) (SX.out.below (below_then HBS.out BS9.out))).mono ?_
      rintro e w10 ⟨A8, c8, rfl, o10, b10⟩
      have O10 := mkHid o10
      have C10 := mkHid (C5.out.below b10)
      have BS10 := mkHid (below_then BS9.out b10)
      have HQ9' := mkHid ((b10.block _ (Array.getElem?_eq_some_iff.1 HQ9.out).1).trans HQ9.out)
      have HZ10 := mkHid b10.size
      clear o10 b10 C5 BS9 HQ9
      obtain ⟨p0, p1⟩ := box2t HQ9'.out
      go_wp2_with fail
      refine (HIM.out A5 c5 l5 a5 d5 A8 c8 w10 ST5.out (Sl.of_own O10.out) C10.out.grid' (Sl.of_own C10.out.mem)).mono ?_
      rintro e w11 h
      obtain ⟨AG, cG, lG, mG, dG, rfl, stG, crG, b11⟩ := h.split
      obtain ⟨o11, ho11⟩ : ∃ o11, o11 = Obj.cells #[.slice AG lG.length cG, .slice mG r.2.length dG] 32 := ⟨_, rfl⟩
      have hal11 : Below w11.heap.size w11 (w11.alloc o11) := (Below.refl _ _).alloc (Nat.le_refl _) _
      have hq11 : (w11.alloc o11).heap[w11.heap.size]? = some o11 := heap_alloc_new w11 o11
      have hb1011 := below_then b11 hal11
      have HIG := mkHid (CrHi.of crG)
      have CG := mkHid (crG.below hal11)
      have STG := mkHid stG
      have C11 := mkHid (C10.out.below hb1011)
      have O11 := mkHid (own_below O10.out hb1011)
      have BS11 := mkHid (below_then BS10.out hb1011)
      have HQ9G := mkHid ((hb1011.block _ (Array.getElem?_eq_some_iff.1 HQ9'.out).1).trans HQ9'.out)
      have HZ11 := mkHid b11.size
      subst ho11
      have HQ11 := mkHid hq11
      clear h stG crG b11 hal11 hq11 hb1011 C10 BS10 HQ9' p0 p1
      go_upto_region 12 with fail
      generalize w11.alloc (.cells #[.slice AG lG.length cG, .slice mG r.2.length dG] 32) = WG at *
      generalize w11.heap.size = K11 at *
      have HEQ := mkHid (fun X (hG : CrAt X w10.heap.size AG cG lG ⟨mG, dG, r.2⟩) (hS : Below WS.heap.size WS X) => eqCr_same AG AS cG cS ⟨mG, dG, r.2⟩ ⟨mS, dS, r.2⟩ lG lS X (own_max hG.1) (own_max hG.mem) (STG.out.trans STS.out.symm) rfl hG.grid' (CS.out.below hS).grid' (Sl.of_own hG.mem) (Sl.of_own (CS.out.below hS).mem))
      obtain ⟨p0, p1⟩ := box2t HQ11.out
      obtain ⟨r0, r1⟩ := box2t ((BS11.out.block _ (Array.getElem?_eq_some_iff.1 HQ8.out).1).trans HQ8.out)
      go_wp2_with fail
      refine (HEQ.out WG CG.out BS11.out).mono ?_
      rintro e w12 ⟨rfl, b12⟩
      have BG12 := mkHid b12
      have HBW12 := mkHid (below_then (below_then HBS.out BS11.out) b12)
      clear b12 p0 p1 r0 r1
      have HGD := mkHid ((GX.out.below HBW12.out).below (show Below w12.heap.size w12 w12.drew from ⟨rfl, rfl, rfl, Nat.le_refl _, fun k _ => rfl⟩))
      have HMD := mkHid ((SM.out.below HBW12.out).below (show Below w12.heap.size w12 w12.drew from ⟨rfl, rfl, rfl, Nat.le_refl _, fun k _ => rfl⟩))
      obtain ⟨p0, p1⟩ := box2t ((HBW12.out.block _ (Array.getElem?_eq_some_iff.1 HQ.out).1).trans HQ.out)
      obtain ⟨r0, r1⟩ := box2t ((BG12.out.block _ (Array.getElem?_eq_some_iff.1 HQ9G.out).1).trans HQ9G.out)
      go_wp2_with fail
      go_region_law (first
        | (go_simp
           go_at_call 12
           refine (toCrowd_any CA cc ls ⟨ma, mc, ms⟩ _ hl1 HL.out hm HGD.out HMD.out).mono ?_
           rintro e w13 h
           obtain ⟨A13, c13, l13, a13, d13, rfl, st13, cr13, b13⟩ := h.split
           have b13 := below_undrew b13
           have BG13 := mkHid (below_then BG12.out b13)
           have C113 := mkHid (C11.out.below BG13.out)
           have HE13 := mkHid (eqCr_same A5 A13 c5 c13 ⟨a5, d5, ms⟩ ⟨a13, d13, ms⟩ l5 l13 w13 (own_max C113.out.1) (own_max C113.out.mem) (ST5.out.trans st13.symm) rfl C113.out.grid' cr13.grid' (Sl.of_own C113.out.mem) (Sl.of_own cr13.mem))
           obtain ⟨k0, k1⟩ := box2t ((BG13.out.block _ (Array.getElem?_eq_some_iff.1 HQ9G.out).1).trans HQ9G.out)
           clear h st13 cr13 b13)
        | (go_simp
           go_at_call 15
           refine HE13.out.mono ?_
           rintro e w14 ⟨rfl, b14⟩
           have BG14 := mkHid (below_then BG13.out b14)
           clear b14))
      all_goals (
        have HBW14 := mkHid (below_then (below_then HBS.out BS11.out) BG14.out)
        clear p0 p1 r0 r1 k0 k1 HE13 C113 BG13 HGD HMD HBW12
        go_wp2_with fail
        refine (toCodeS_any _ _ _ _ (by omega) (SX.out.below HBW14.out)).mono ?_
        rintro e w15 ⟨A15, c15, rfl, o15, b15⟩
        have P15 := mkHid (Sl.of_own o15)
        have BG15 := mkHid (below_then BG14.out b15)
        clear o15 b15
        go_wp2_with fail
        refine (eqCodeS_same _ _ _ _ _ _ (by omega) (Sl.of_own (own_below O11.out BG15.out)) P15.out).mono ?_
        rintro e w16 ⟨rfl, b16⟩
        have BG16 := mkHid (below_then BG15.out b16)
        have hw5 := wideLs_le l5 (small_of ST5.out HL.out)
        rw [HN5.out] at hw5
        have hbs := Nat.le_trans BS11.out.size BG16.out.size
        have hk9 : K9 ≤ w16.heap.size := by have := HZ9.out; have := HZ10.out; have := HZ11.out; have := BG16.out.size; have := (Array.getElem?_eq_some_iff.1 HQ11.out).1; omega
        have HMX := mkHid (markCr_any A5 c5 l5 ⟨a5, d5, ms⟩ 1 WS.heap.size w16 (by omega) (by rw [HN5.out]; exact hl1) (small_of ST5.out HL.out) hm hbs HI5.out hk9 (C11.out.below BG16.out))
        obtain ⟨wd, hwd⟩ : ∃ wd, wd = wideLs l5 := ⟨_, rfl⟩
        rw [← hwd] at HMX hw5
        obtain ⟨p0, p1⟩ := box2t ((BG16.out.block _ (Array.getElem?_eq_some_iff.1 HQ9G.out).1).trans HQ9G.out)
        clear b16 hbs hk9 hwd P15 BG14 BG15 HBW14
        go_wp2_with fail
        refine HMX.out.mono ?_
        rintro e w19 ⟨rfl, _, bt19⟩
        have CG19 := mkHid (bt19.cr (CG.out.below BG16.out) (by have := HZ9.out; have := HZ10.out; omega))
        have O19 := mkHid (bt19.own (own_below O11.out BG16.out) (by have := HZ9.out; omega))
        have HQ1119 := mkHid ((bt19.2 K11 (Nat.lt_of_lt_of_le (Array.getElem?_eq_some_iff.1 HQ11.out).1 BG16.out.size) (.inr (by have := HZ9.out; have := HZ10.out; have := HZ11.out; omega))).trans ((BG16.out.block _ (Array.getElem?_eq_some_iff.1 HQ11.out).1).trans HQ11.out))
        have BS19 := mkHid ((below_then BS11.out BG16.out).trans (bt19.below (Nat.le_refl _) (Nat.le_trans BS11.out.size BG16.out.size)))
        clear bt19 HMX p0 p1 BG16 BG12 HQ9G C11 O11 CG
        go_wp2_with fail
        refine (markCodeS_any _ _ _ _ _ _ (by omega) (by omega) (by omega) O19.out).mono ?_
        rintro e w20 ⟨rfl, _, g20⟩
        have CG20 := mkHid (CG19.out.old g20 (fun g hg => (O10.out.lt g hg).2))
        have HQ1120 := mkHid ((g20.block K11 (Array.getElem?_eq_some_iff.1 HQ1119.out).1 (fun e => by have := (O10.out.lt K11 e.symm).2; have := HZ11.out; omega)).trans HQ1119.out)
        have BS20 := mkHid (BS19.out.grown g20 BS19.out.size (fun g hg => by have := (O10.out.lt g hg).1; have := HZ9.out; omega))
        clear g20 CG19 O19 HQ1119 BS19
        obtain ⟨p0, p1⟩ := box2t HQ1120.out
        obtain ⟨r0, r1⟩ := box2t ((BS20.out.block _ (Array.getElem?_eq_some_iff.1 HQ8.out).1).trans HQ8.out)
        go_wp2_with fail
        refine (HEQ.out w20 CG20.out BS20.out).mono ?_
        rintro e w21 ⟨rfl, b21⟩
        have hz10 : w10.heap.size ≤ w21.heap.size := by have := HZ11.out; have := (Array.getElem?_eq_some_iff.1 HQ1120.out).1; have := b21.size; omega
        have hz11 : K11 ≤ w21.heap.size := by have := (Array.getElem?_eq_some_iff.1 HQ1120.out).1; have := b21.size; omega
        have hgl : lG.length ≤ 8 := by have h1 := congrArg List.length STG.out; have h2 := HRB.out.1; simp at h1; omega
        have hgs : ∀ l ∈ lG, l.zs.length ≤ 1048576 ∧ l.ts.length ≤ 1048576 := fun l hl => by
          have h1 : l.st ∈ r.1 := by rw [← STG.out]; exact List.mem_map_of_mem hl
          exact HRB.out.2.1 _ h1
        have HMG := mkHid (markCr_any AG cG lG ⟨mG, dG, r.2⟩ 1 w10.heap.size w21 (by omega) (by omega) hgs (by simp only; omega) hz10 HIG.out hz11 (CG20.out.below b21))
        have HHG := mkHid (fun X h => heldCr_any AG cG lG ⟨mG, dG, r.2⟩ r.2.length 1 w10.heap.size X (by omega) (by omega) hgs (by omega) h)
        have hwg := wideLs_le lG hgs
        obtain ⟨wG, hwG⟩ : ∃ wG, wG = wideLs lG := ⟨_, rfl⟩
        simp only [← hwG] at HMG HHG hwg
        have HQ1121 := mkHid ((b21.block K11 (Array.getElem?_eq_some_iff.1 HQ1120.out).1).trans HQ1120.out)
        have BS21 := mkHid (below_then BS20.out b21)
        clear b21 hgs hwG p0 p1 r0 r1 CG20 HQ1120 BS20
        obtain ⟨p0, p1⟩ := box2t HQ1121.out
        go_wp2_with fail
        refine HMG.out.mono ?_
        rintro e w24 ⟨rfl, c24, bt24⟩
        have M24 := mkHid c24
        have HQ1124 := mkHid ((bt24.2 K11 (Array.getElem?_eq_some_iff.1 HQ1121.out).1 (.inr (Nat.le_refl _))).trans HQ1121.out)
        have BS24 := mkHid (BS21.out.trans (bt24.below (by have := HZ9.out; have := HZ10.out; omega) BS21.out.size))
        clear c24 bt24 p0 p1 HMG HQ1121 BS21
        obtain ⟨p0, p1⟩ := box2t HQ1124.out
        go_wp2_with fail
        refine (HHG.out w24 M24.out).mono ?_
        rintro e w26 ⟨rfl, b26⟩
        have M26 := mkHid (M24.out.below b26)
        have HQ1126 := mkHid ((b26.block K11 (Array.getElem?_eq_some_iff.1 HQ1124.out).1).trans HQ1124.out)
        have BS26 := mkHid (below_then BS24.out b26)
        have HBW26 := mkHid (below_then HBS.out BS26.out)
        clear b26 p0 p1 M24 HQ1124 BS24
        obtain ⟨p0, p1⟩ := box2t ((HBW26.out.block _ (Array.getElem?_eq_some_iff.1 HQ.out).1).trans HQ.out)
        go_wp2_with fail
        refine (toCrowd_any CA cc ls ⟨ma, mc, ms⟩ _ hl1 HL.out hm (GX.out.below HBW26.out) (SM.out.below HBW26.out)).mono ?_
        rintro e w27 h
        obtain ⟨A27, c27, l27, a27, d27, rfl, st27, cr27, b27⟩ := h.split
        have C27 := mkHid cr27
        have ST27 := mkHid st27
        have BX27 := mkHid b27
        clear h st27 cr27 b27 p0 p1
        go_wp2_with fail
        refine (toCodeS_any _ _ _ _ (by omega) (SX.out.below (below_then HBW26.out BX27.out))).mono ?_
        rintro e w28 ⟨A28, c28, rfl, o28, b28⟩
        have P28 := mkHid (Sl.of_own o28)
        have C28 := mkHid (C27.out.below b28)
        have BX28 := mkHid (below_then BX27.out b28)
        clear o28 b28 C27 BX27
        go_wp2_with fail
        refine (HIM.out A27 c27 l27 a27 d27 A28 c28 w28 ST27.out P28.out C28.out.grid' (Sl.of_own C28.out.mem)).mono ?_
        rintro e w29 h
        obtain ⟨AH, cH, lH, mH, dH, rfl, stH, crH, b29⟩ := h.split
        obtain ⟨o29, ho29⟩ : ∃ o29, o29 = Obj.cells #[.slice AH lH.length cH, .slice mH r.2.length dH] 32 := ⟨_, rfl⟩
        have hal29 : Below w29.heap.size w29 (w29.alloc o29) := (Below.refl _ _).alloc (Nat.le_refl _) _
        have hq29 : (w29.alloc o29).heap[w29.heap.size]? = some o29 := heap_alloc_new w29 o29
        have CH := mkHid (crH.below hal29)
        have STH := mkHid stH
        have BX29 := mkHid (below_then (below_then BX28.out b29) hal29)
        have BS29 := mkHid (below_then BS26.out BX29.out)
        subst ho29
        have HQ29 := mkHid hq29
        clear h stH crH b29 hal29 hq29 C28 ST27 P28 BX28
        go_upto_region 32 with fail
        generalize w29.alloc (.cells #[.slice AH lH.length cH, .slice mH r.2.length dH] 32) = WH at *
        generalize w29.heap.size = K15 at *
        obtain ⟨p0, p1⟩ := box2t HQ29.out
        obtain ⟨r0, r1⟩ := box2t ((BS29.out.block _ (Array.getElem?_eq_some_iff.1 HQ8.out).1).trans HQ8.out)
        have HEH := mkHid (eqCr_same AH AS cH cS ⟨mH, dH, r.2⟩ ⟨mS, dS, r.2⟩ lH lS WH (own_max CH.out.1) (own_max CH.out.mem) (STH.out.trans STS.out.symm) rfl CH.out.grid' (CS.out.below BS29.out).grid' (Sl.of_own CH.out.mem) (Sl.of_own (CS.out.below BS29.out).mem))
        go_wp2_with fail
        refine HEH.out.mono ?_
        rintro e w30 ⟨rfl, b30⟩
        have BX30 := mkHid (below_then BX29.out b30)
        have HQ1130 := mkHid ((BX30.out.block K11 (Array.getElem?_eq_some_iff.1 HQ1126.out).1).trans HQ1126.out)
        clear b30 p0 p1 r0 r1 HEH
        obtain ⟨p0, p1⟩ := box2t HQ1130.out
        go_wp2_with fail
        refine (HHG.out w30 (M26.out.below BX30.out)).mono ?_
        rintro e w31 ⟨rfl, b31⟩
        have HBF := mkHid (HB.out.trans ((below_then (below_then HBW26.out BX30.out) b31).mono HB.out.size))
        clear b31 p0 p1
        go_wp2_with fail
        go_ret
        exact ⟨rfl, HBF.out⟩)
    · have B9 := mkHid (HB.out.trans (HBW.out.mono HB.out.size))
      go_wp2_with fail
      go_ret
      exact ⟨rfl, B9.out⟩
  · have B9 := mkHid (HB.out.trans (b1.mono HB.out.size))
    clear b1
    go_wp2_with fail
    go_ret
    exact ⟨rfl, B9.out⟩
namespace fnExactStepCrowd
set_option maxRecDepth 100000 in
theorem lifted (os : Os) (started : os.Started) (H : Type) (enc : TypeId × Value → H) :
    ReturnsInHanded {} Try.checked os 5 .any (Rows.fnExactStepCrowdSpec.pre6 enc Try.prog Try.f5 Rows.fnExactStepCrowdRow.domain false) (Rows.fnExactStepCrowdSpec.post enc Try.prog Try.f5 false true false false) := by
  refine returnsInHanded_of_change (C := Try.checked) own started (by kernel_rfl) Try.func5
    (ChangeSpec.witness6 (enc := enc) (C := Try.checked) false ⟨#[], #[.agg #[.slice none 0 0, .slice none 0 0], .slice none 0 0, .int .i64 0], []⟩ 8 (by kernel_rfl) (by kernel_rfl) (by kernel_rfl) (by kernel_rfl)) ?_
  intro W base args ds gs before hval0 hW hcnd _
  have hval : ∀ (j : Nat) t v, Try.f5.params[j]? = some t → args[j]? = some v → Value.okWide Try.prog W .any base t v := hval0
  have hW' := hW
  obtain ⟨p, q, hA0, hV, rfl, hfz, hnd⟩ := hW
  have hA : DataW.TrodAll enc Try.prog W 0 (fun _ => true) true Try.f5.params.toList args.toList ds p := hA0
  have hAk : DataW.TrodAll enc Try.prog W 0 (fun _ => true) true Try.f5.params.toList args.toList ds p := hA0
  rw [Try.params5] at hA hval
  obtain ⟨v0, vs0, d0, ds0, p0, q0, hargs, rfl, rfl, h0, r0⟩ := trodAll_cons hA
  obtain ⟨v1, vs1, d1, ds1, p1, q1, rfl, rfl, rfl, h1, r1⟩ := trodAll_cons r0
  obtain ⟨v2, vs2, d2, ds2, p2, q2, rfl, rfl, rfl, h2, r2⟩ := trodAll_cons r1
  obtain ⟨rfl, rfl, rfl⟩ := trodAll_nil r2
  obtain rfl : args = #[v0, v1, v2] := by cases args; simp_all
  obtain ⟨rfl, rfl⟩ := trodVars_none hV
  obtain ⟨x, rx, rfl, sx⟩ := open_crowd (hval 0 25 v0 rfl rfl) h0
  obtain ⟨y, ry, rfl, sy⟩ := open_codes (hval 1 26 v1 rfl rfl) h1
  obtain ⟨z, rfl, rfl, rfl, w2⟩ := open_int Try.underlying3 (hval 2 3 v2 rfl rfl) h2
  have w2 := wf_i64_bounds w2
  clear hA0 hval0
  refine (exactStepCr_walk x y z W rx sx ry sy w2).mono fun e W' ⟨he, hb⟩ => ?_
  subst he
  refine ⟨_, rfl, post_true laidOut (fun t ht => ?_) (by kernel_rfl) Try.underlying4 rfl rfl hW' hAk hb⟩
  rw [Try.params5] at ht
  simp only [List.mem_cons, List.not_mem_nil, or_false] at ht
  first | (rcases ht with rfl | rfl | rfl <;> exact ⟨by kernel_rfl, of_decide_eq_true (by kernel_rfl)⟩) | (obtain rfl := ht; exact ⟨by kernel_rfl, of_decide_eq_true (by kernel_rfl)⟩)
/-- The statement. -/
theorem proved : Rows.FnExactStepCrowdSaid :=
  OpenClaim.holds_of_wide 5 Try.f5 rfl rfl rfl rfl rfl rfl rfl ⟨rfl, rfl, rfl, rfl, rfl⟩ rfl rfl rfl rfl rfl (by kernel_rfl) Try.func5 (by kernel_rfl)
    (of_decide_eq_true (by kernel_rfl)) (by unfold Func.isWrapper; first | (rw [if_pos (by decide +kernel)]; kernel_rfl) | (rw [if_neg (by decide +kernel)]; exact ⟨rfl, rfl⟩))
    (fun os started H enc _ => lifted os started H enc)
end fnExactStepCrowd
#print axioms fnExactStepCrowd.proved
end Go.Proofs.Ytjmiilneennjaaa
