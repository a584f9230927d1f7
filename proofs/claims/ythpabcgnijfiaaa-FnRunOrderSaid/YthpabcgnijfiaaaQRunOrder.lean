/-
  Proved: FnRunOrder returns true for every code.
-/
import Derived.Test.YthpabcgnijfiaaaPart29
import Derived.Test.YthpabcgnijfiaaaPart18
import Derived.Test.YthpabcgnijfiaaaPart22
import Derived.Test.YthpabcgnijfiaaaPart30
import Derived.Test.YthpabcgnijfiaaaPart03
namespace Go.Proofs.Ythpabcgnijfiaaa
open Go.ChangeShapes Go.WideShapes Go.ChangeAt Go.RowKit
set_option maxHeartbeats 2000000
set_option maxRecDepth 100000
set_option linter.unusedVariables false

theorem newLn_st (l : Ln) (h : Fresh l) : (ltOf l).st = newLS := by
  obtain ⟨e1, e2, e3⟩ := h
  show (⟨l.zs, l.at_, [], l.wt⟩ : LS) = newLS
  rw [e1, e2, e3]; rfl
/-- a run of one lane is over: the memory is that of the lane alone. -/
theorem Chain.ran {xs : List Cd} {mem0 : List Int} {k : Nat} {l : LS} {cells : List Int} (hv : progValid xs = true) (hm : memValid mem0 = true) (h : Chain xs mem0 k l cells) (hp : ¬ (l.wait = true ∨ l.pc < xs.length) ∨ 3000 < k) : RanTo xs 1 mem0 [0] cells := by
  have hov : orderValid [0] 1 = true := by decide
  have hr : ranB xs 1 mem0 [0] = true := by unfold ranB; rw [hv, hm, hov]; rfl
  obtain ⟨n, e, ho⟩ := order_ok hov
  have hn : n = 1 := by omega
  subst hn
  obtain ⟨N, hN⟩ := order_runs hv hm ho
  have h0 : ∀ i, orderAt [0] i = 0 := fun i => by have := ho.lt i; omega
  exact .inr ⟨hr, 1, rfl, ho, N, hN, (h.done hv hp h0 hN).symm⟩
theorem box_set4 {W : World} {X : Nat} {a0 a1 a2 a3 : Value} {ty : TypeId} (h : W.heap[X]? = some (.cells #[a0, a1, a2, a3] ty (0, 0))) (b0 b1 b2 b3 : Value) : ((((W.setCell ⟨X, 0, none⟩ b0).setCell ⟨X, 1, none⟩ b1).setCell ⟨X, 2, none⟩ b2).setCell ⟨X, 3, none⟩ b3).heap[X]? = some (.cells #[b0, b1, b2, b3] ty (0, 0)) := by
  have h1 : (W.setCell ⟨X, 0, none⟩ b0).heap[X]? = some (.cells #[b0, a1, a2, a3] ty (0, 0)) := by simpa using heap_setCell_same W X 0 _ _ b0 h
  have h2 : ((W.setCell ⟨X, 0, none⟩ b0).setCell ⟨X, 1, none⟩ b1).heap[X]? = some (.cells #[b0, b1, a2, a3] ty (0, 0)) := by simpa using heap_setCell_same _ X 1 _ _ b1 h1
  have h3 : (((W.setCell ⟨X, 0, none⟩ b0).setCell ⟨X, 1, none⟩ b1).setCell ⟨X, 2, none⟩ b2).heap[X]? = some (.cells #[b0, b1, b2, a3] ty (0, 0)) := by simpa using heap_setCell_same _ X 2 _ _ b2 h2
  simpa using heap_setCell_same _ X 3 _ _ b3 h3
/-- a lane whose rows are one's own is a lane at hand. -/
theorem Apt.lane {W : World} {lo : Nat} {m : IR} {l : Lt} (h : Apt W lo [m, irR l, irT l]) : LaneIn W l ∧ Sl W m.a (ints m.zs) :=
  ⟨⟨⟨Sl.of_own (h.1 (irR l) (by simp)), own_max (h.1 (irR l) (by simp))⟩, ⟨Sl.of_own (h.1 (irT l) (by simp)), own_max (h.1 (irT l) (by simp))⟩⟩, Sl.of_own (h.1 m (by simp))⟩
theorem sl_one (w : World) (z : Int) : Sl (w.alloc (.cells #[.int .i64 z] 3)) (some ⟨w.heap.size, 0, none⟩) (ints [z]) := .inr ⟨w.heap.size, 0, rfl, fun i u hu => by
  match i with
  | 0 =>
    simp only [ints, List.map_cons, List.map_nil, List.getElem?_cons_zero, Option.some.injEq] at hu
    subst hu
    exact cell_of_row _ _ _ _ _ _ (heap_alloc_new w _)
  | i + 1 => simp [ints] at hu⟩
theorem runOrder_walk (A : Option Addr) (c : Nat) (zs : List Int) (w : World) (hl : zs.length ≤ 9223372036854775807) (hcap : zs.length ≤ c) (hs : Sl w A (u8s zs)) (hz : ∀ z ∈ zs, 0 ≤ z ∧ z ≤ 255) :
    Calls Try.prog 3 #[.slice A zs.length c] w fun e w' => e = .returned (.bool true) ∧ Below w.heap.size w w' := by
  by_cases hbig : 1048576 < zs.length
  · go_enter Try.func3, Try.ntmps3
    go_wp2_with fail
    go_ret
    exact ⟨rfl, Below.refl _ _⟩
  · go_enter Try.func3, Try.ntmps3
    go_wp2_with fail
    refine (drawRunOrder_any _ _ _ _ hl hcap hs hz).mono ?_
    rintro e w1 ⟨g, c', ys, l, g2, c2, ms, g3, c3, os, rfl, s1, hy, s2, hm, s3, ho, b1⟩
    obtain ⟨out, hout⟩ := ranTo_ex ys l ms os
    have HR := mkHid hout
    have ho32 : out.length ≤ 32 := (ranTo_len hout).1
    have S1 := mkHid s1
    have S2 := mkHid s2
    have S3 := mkHid s3
    have B1 := mkHid b1
    clear s1 s2 s3 b1 hs hz hout
    go_wp2_with fail
    refine (implRunOrder_any _ _ _ _ _ _ _ _ _ _ out _ (by omega) (by omega) (by omega) S1.out S2.out S3.out HR.out).mono ?_
    rintro e w2 ⟨A2, c2', rfl, o2, b2⟩
    have SR := mkHid (Sl.of_own o2)
    have S1 := mkHid (S1.out.below b2)
    have S2 := mkHid (S2.out.below b2)
    have S3 := mkHid (S3.out.below b2)
    have B2 := mkHid (below_then B1.out b2)
    clear o2 b2
    go_wp2_with fail
    refine (specRunOrder_any _ _ _ _ _ _ _ _ _ _ out _ (by omega) (by omega) (by omega) S1.out S2.out S3.out HR.out).mono ?_
    rintro e w3 ⟨A3, c3', rfl, o3, b3⟩
    have SS := mkHid (Sl.of_own o3)
    have SR := mkHid (SR.out.below b3)
    have S1 := mkHid (S1.out.below b3)
    have S2 := mkHid (S2.out.below b3)
    have B3 := mkHid (below_then B2.out b3)
    clear o3 b3 S3
    go_wp2_with fail
    refine (sameInts_same _ _ _ _ _ _ (by omega) SR.out SS.out).mono ?_
    rintro e w4 ⟨rfl, k4, rfl⟩
    have hb4 : Below w3.heap.size w3 (w3.drewN k4) := below_drewN (Below.refl _ _) k4
    have SR := mkHid (SR.out.below hb4)
    have S1 := mkHid (S1.out.below hb4)
    have S2 := mkHid (S2.out.below hb4)
    have B4 := mkHid (below_then B3.out hb4)
    clear hb4 SS
    generalize w3.drewN k4 = w4 at *
    by_cases h0 : out.length = 0
    · go_wp2_with fail
      refine (alive_any _).mono ?_
      rintro e w5 ⟨rfl, rfl⟩
      go_wp2_with fail
      go_ret
      exact ⟨rfl, B4.out⟩
    · have hne := (ranTo_len HR.out).2 (fun e => h0 (by rw [e]; rfl))
      obtain ⟨hv1, hv2, hv3⟩ := hne
      have HRB := mkHid hv1
      have HMV := mkHid hv2
      have HLN := mkHid hv3
      unfold ranB at hv1
      simp only [Bool.and_eq_true] at hv1
      have HV := mkHid hv1.1.1
      have HM := mkHid hv1.1.2
      have h40 := (progValid_yes hv1.1.1).1
      have hb0 : ((out.length : Int) == 0) = false := by simpa using h0
      clear hv1 hv2 hv3 h0
      go_wp2_with fail
      refine (implNewLane_any w4).mono ?_
      rintro e w5 ⟨ln, rfl, hf, ol, b5⟩
      obtain ⟨l5, hl5⟩ : ∃ l5, l5 = ltOf ln := ⟨_, rfl⟩
      have hcell : w5.ownsRow w4.heap.size 3 1 (ltR l5) l5.zs.length (ints l5.zs) := by rw [hl5]; exact ol
      have hst5 : l5.st = newLS := by rw [hl5]; exact newLn_st ln hf
      have hr5 : lnV ln = ltV l5 := by rw [hl5]; rfl
      have hin5 : LaneIn w5 l5 := ⟨⟨Sl.of_own hcell, own_max hcell⟩, by rw [hl5]; exact ⟨Sl.nil _ _, by simp [ltOf]⟩⟩
      rw [hr5]
      clear hf ol hr5 hcell hl5
      obtain ⟨o5, ho5⟩ : ∃ o5, o5 = Obj.cells #[ltR l5, .int .i64 l5.at_, ltT l5, .bool l5.wt] 31 := ⟨_, rfl⟩
      have hal5 : Below w5.heap.size w5 (w5.alloc o5) := (Below.refl _ _).alloc (Nat.le_refl _) _
      have hq5 : (w5.alloc o5).heap[w5.heap.size]? = some o5 := heap_alloc_new w5 _
      have B5 := mkHid (below_then b5 hal5)
      have S15 := mkHid (S1.out.below B5.out)
      have S25 := mkHid (S2.out.below B5.out)
      have SR5 := mkHid (SR.out.below B5.out)
      have B05 := mkHid (below_then B4.out B5.out)
      have HI5 := mkHid (hin5.below hal5)
      have HST5 := mkHid hst5
      have hz5 := b5.size
      subst ho5
      have HQ5 := mkHid hq5
      clear b5 hal5 hq5 hin5 hst5
      go_wp2_with fail
      generalize w5.alloc (.cells #[ltR l5, .int .i64 l5.at_, ltT l5, .bool l5.wt] 31) = W5 at *
      generalize w5.heap.size = X at *
      go_loopg [9, 10] 3001 (fun gk cv iv wr => ∃ k : Nat, k ≤ 3001 ∧ gk = 3001 - k ∧ iv = .int .i64 k ∧ ∃ (A9 : Option Addr) (c9 : Nat) (cells : List Int) (lx : Lt), cv = .slice A9 cells.length c9 ∧ Sl wr A9 (ints cells) ∧ Chain ys ms k lx.st cells ∧ LaneIn wr lx ∧ wr.heap[X]? = some (.cells #[ltR lx, .int .i64 lx.at_, ltT lx, .bool lx.wt] 31 (0, 0)) ∧ Below w4.heap.size w4 wr)
      case atStart => exact ⟨0, by omega, by omega, rfl, _, _, ms, l5, rfl, S25.out, by rw [HST5.out]; exact Chain.start HV.out HM.out, HI5.out, HQ5.out, B5.out⟩
      case round =>
        clear HQ5 HI5 S15 S25 SR5 HST5 B05
        obtain ⟨k, hk, rfl, rfl, A9, c9, cells, lx, rfl, hsc, hch, hil, hq, hb⟩ := hrel
        have HSC := mkHid hsc
        have HCH := mkHid hch
        have HIL := mkHid hil
        have HQ := mkHid hq
        have HB := mkHid hb
        have hcl : cells.length ≤ 33 := by rw [hch.len]; exact hm
        have hpc := hch.ok.pc
        obtain ⟨⟨x0, x1, x2, x3⟩, f0, f1, f2, f3⟩ := box4e hq
        have hk26 : k ≤ 2626 := by
          have h1 := left_nonneg HV.out hch.ok
          rcases hch.lf with h | h <;> omega
        have hk0 : (k : Int) ≤ 3000 := by omega
        clear hsc hch hil hq hb
        obtain ⟨ra, rc, rs, at_, ta, tc, ts, wt⟩ := lx
        simp only [ltR, ltT] at x0 x1 x2 x3 hpc
        by_cases hgo : wt = true ∨ at_ < (ys.length : Int)
        · have hgo2 : (if wt = true then true else decide (at_ < (ys.length : Int))) = true := by
            cases wt with
            | true => rfl
            | false => rcases hgo with h | h; cases h; simpa using h
          have HGO := mkHid hgo
          obtain ⟨N, hN⟩ := runsL_of (id := 0) HV.out (by omega) HCH.out.ok.clear HCH.out.mem
          have HN := mkHid hN
          have HOK : Hid (okS ys (Lt.st ⟨ra, rc, rs, at_, ta, tc, ts, wt⟩) 0 cells = true) := mkHid (okS_iff.2 ⟨HV.out, HCH.out.ok, by omega, HCH.out.mem⟩)
          have S1R := mkHid (S1.out.below HB.out)
          obtain ⟨r, hr⟩ : ∃ r, r = iterS ys 0 (clearW (Lt.st ⟨ra, rc, rs, at_, ta, tc, ts, wt⟩)) cells N := ⟨_, rfl⟩
          have HNEXT : Hid (Chain ys ms (k + 1) r.1 r.2) := mkHid (by rw [hr]; exact HCH.out.next HV.out hgo hN)
          have HRL := mkHid (implRunLane_any ⟨ra, rc, rs, at_, ta, tc, ts, wt⟩ (some ⟨g, 0, none⟩) c' ys 0 A9 c9 cells r wr (by omega) (by omega) S1R.out HIL.out HSC.out (.inr ⟨HOK.out, N, hN, hr⟩))
          clear hN hr
          cases wt with
          | true =>
            clear hgo hgo2
            go_wp2_with fail
            refine HRL.out.mono ?_
            rintro e w6 ⟨l6, A6, c6, rfl, hst6, hap6, b6⟩
            have hq6 := (b6.block _ (Array.getElem?_eq_some_iff.1 HQ.out).1).trans HQ.out
            have HQ6 := mkHid hq6
            have HST6 := mkHid hst6
            have HAP6 := mkHid hap6
            have B06 := mkHid (HB.out.trans (b6.mono HB.out.size))
            have hXw : w4.heap.size ≤ wr.heap.size := HB.out.size
            clear b6 hst6 hap6 hq6 x0 x1 x2 x3 f0 f1 f2 f3 HRL HSC HIL HQ
            go_upto_region 15 with fail
            refine name_world ?_
            intro W7 hW7
            have hal7 : Below w6.heap.size w6 W7 := by rw [hW7]; exact (Below.refl _ _).alloc (Nat.le_refl _) _
            have hq7 := (hal7.block _ (Array.getElem?_eq_some_iff.1 HQ6.out).1).trans HQ6.out
            have hY7 : W7.heap[w6.heap.size]? = some (.cells #[ltR l6, .int .i64 l6.at_, ltT l6, .bool l6.wt] 31) := by rw [hW7]; exact heap_alloc_new w6 _
            have HX7 := mkHid (box_set4 hq7 (ltR l6) (.int .i64 l6.at_) (ltT l6) (.bool l6.wt))
            have HA7 := mkHid (((HAP6.out.below hal7).other (grown_s4 W7 X (ltR l6) (.int .i64 l6.at_) (ltT l6) (.bool l6.wt)) hq7 (by decide)).lane)
            have HB7 := mkHid ((B06.out.trans (hal7.mono B06.out.size)).grown (grown_s4 W7 X (ltR l6) (.int .i64 l6.at_) (ltT l6) (.bool l6.wt)) (B06.out.trans (hal7.mono B06.out.size)).size (fun g e => by injection e with e; omega))
            obtain ⟨⟨x0, x1, x2, x3⟩, f0, f1, f2, f3⟩ := box4e hq7
            obtain ⟨⟨y0, y1, y2, y3⟩, _⟩ := box4e hY7
            simp only [ltR, ltT] at y0 y2
            clear hal7 hq7 hY7 hW7 HQ6 HAP6
            generalize w6.heap.size = Y at *
            go_wp2_with fail
            go_roundg (3001 - (k + 1))
            case rel => exact ⟨k + 1, by omega, by omega, by push_cast; rfl, A6, c6, r.2, l6, rfl, HA7.out.2, by rw [HST6.out]; exact HNEXT.out, HA7.out.1, HX7.out, HB7.out⟩
            case measure => omega
          | false =>
            have hgo : at_ < (ys.length : Int) := by rcases hgo with h | h; cases h; exact h
            clear hgo2
            go_wp2_with fail
            refine HRL.out.mono ?_
            rintro e w6 ⟨l6, A6, c6, rfl, hst6, hap6, b6⟩
            have hq6 := (b6.block _ (Array.getElem?_eq_some_iff.1 HQ.out).1).trans HQ.out
            have HQ6 := mkHid hq6
            have HST6 := mkHid hst6
            have HAP6 := mkHid hap6
            have B06 := mkHid (HB.out.trans (b6.mono HB.out.size))
            have hXw : w4.heap.size ≤ wr.heap.size := HB.out.size
            clear b6 hst6 hap6 hq6 x0 x1 x2 x3 f0 f1 f2 f3 HRL HSC HIL HQ
            go_upto_region 15 with fail
            refine name_world ?_
            intro W7 hW7
            have hal7 : Below w6.heap.size w6 W7 := by rw [hW7]; exact (Below.refl _ _).alloc (Nat.le_refl _) _
            have hq7 := (hal7.block _ (Array.getElem?_eq_some_iff.1 HQ6.out).1).trans HQ6.out
            have hY7 : W7.heap[w6.heap.size]? = some (.cells #[ltR l6, .int .i64 l6.at_, ltT l6, .bool l6.wt] 31) := by rw [hW7]; exact heap_alloc_new w6 _
            have HX7 := mkHid (box_set4 hq7 (ltR l6) (.int .i64 l6.at_) (ltT l6) (.bool l6.wt))
            have HA7 := mkHid (((HAP6.out.below hal7).other (grown_s4 W7 X (ltR l6) (.int .i64 l6.at_) (ltT l6) (.bool l6.wt)) hq7 (by decide)).lane)
            have HB7 := mkHid ((B06.out.trans (hal7.mono B06.out.size)).grown (grown_s4 W7 X (ltR l6) (.int .i64 l6.at_) (ltT l6) (.bool l6.wt)) (B06.out.trans (hal7.mono B06.out.size)).size (fun g e => by injection e with e; omega))
            obtain ⟨⟨x0, x1, x2, x3⟩, f0, f1, f2, f3⟩ := box4e hq7
            obtain ⟨⟨y0, y1, y2, y3⟩, _⟩ := box4e hY7
            simp only [ltR, ltT] at y0 y2
            clear hal7 hq7 hY7 hW7 HQ6 HAP6
            generalize w6.heap.size = Y at *
            go_wp2_with fail
            go_roundg (3001 - (k + 1))
            case rel => exact ⟨k + 1, by omega, by omega, by push_cast; rfl, A6, c6, r.2, l6, rfl, HA7.out.2, by rw [HST6.out]; exact HNEXT.out, HA7.out.1, HX7.out, HB7.out⟩
            case measure => omega
        · have hw : wt = false := by cases wt with
            | true => exact absurd (.inl rfl) hgo
            | false => rfl
          subst hw
          have hat : ¬ at_ < (ys.length : Int) := fun h => hgo (.inr h)
          have HRAN := mkHid (HCH.out.ran HV.out HM.out (.inl hgo))
          have HCL := mkHid HCH.out.len
          have S1R := mkHid (S1.out.below HB.out)
          have S2R := mkHid (S2.out.below HB.out)
          have SRR := mkHid (SR.out.below HB.out)
          have B0R := mkHid (below_then B4.out HB.out)
          clear hgo HCH HIL HQ
          go_wp2_with fail
          refine (implMemoryValid_any _ _ _ _ (by omega) SRR.out).mono ?_
          rintro e w6 ⟨rfl, b6⟩
          rw [HMV.out]
          have HSC := mkHid (HSC.out.below b6)
          have S1R := mkHid (S1R.out.below b6)
          have S2R := mkHid (S2R.out.below b6)
          have B06 := mkHid (below_then B0R.out b6)
          have hlm := HLN.out
          clear b6 SRR B0R
          go_wp2_with fail
          have hal7 : ∀ o, Below w6.heap.size w6 (w6.alloc o) := fun o => (Below.refl _ _).alloc (Nat.le_refl _) _
          refine (implRunOrder_any (some ⟨g, 0, none⟩) c' ys 1 (some ⟨g2, 0, none⟩) c2 ms (some ⟨w6.heap.size, 0, none⟩) 1 [0] cells (w6.alloc (.cells #[.int .i64 0] 3)) (by omega) (by omega) (by simp) (S1R.out.below (hal7 _)) (S2R.out.below (hal7 _)) (sl_one w6 0) HRAN.out).mono ?_
          rintro e w7 ⟨A7, c7, rfl, o7, b7⟩
          have S7 := mkHid (Sl.of_own o7)
          have HB7 := mkHid (((Below.refl _ _).alloc (Nat.le_refl _) (.cells #[.int .i64 0] 3)).trans (b7.mono (by simp)))
          have SC7 := mkHid (HSC.out.below HB7.out)
          have B07 := mkHid (below_then B06.out HB7.out)
          clear o7 b7 hal7
          go_wp2_with fail
          refine (sameInts_same _ _ _ _ _ _ (by omega) S7.out SC7.out).mono ?_
          rintro e w8 ⟨rfl, k8, rfl⟩
          go_wp2_with fail
          go_ret
          exact ⟨rfl, below_drewN B07.out k8⟩
namespace fnRunOrder
set_option maxRecDepth 100000 in
theorem lifted (os : Os) (started : os.Started) (H : Type) (enc : TypeId × Value → H) :
    ReturnsInHanded {} Try.checked os 3 .any (Rows.fnRunOrderSpec.pre6 enc Try.prog Try.f3 Rows.fnRunOrderRow.domain false) (Rows.fnRunOrderSpec.post enc Try.prog Try.f3 false true false false) := by
  refine returnsInHanded_of_change (C := Try.checked) own started (by kernel_rfl) Try.func3
    (ChangeSpec.witness6 (enc := enc) (C := Try.checked) false ⟨#[], #[.slice none 0 0], []⟩ 8 (by kernel_rfl) (by kernel_rfl) (by kernel_rfl) (by kernel_rfl)) ?_
  intro W base args ds gs before hval0 hW hcnd _
  have hval : ∀ (j : Nat) t v, Try.f3.params[j]? = some t → args[j]? = some v → Value.okWide Try.prog W .any base t v := hval0
  have hW' := hW
  obtain ⟨p, q, hA0, hV, rfl, hfz, hnd⟩ := hW
  have hA : DataW.TrodAll enc Try.prog W 0 (fun _ => true) true Try.f3.params.toList args.toList ds p := hA0
  have hAk : DataW.TrodAll enc Try.prog W 0 (fun _ => true) true Try.f3.params.toList args.toList ds p := hA0
  rw [Try.params3] at hA hval
  obtain ⟨v0, vs0, d0, ds0, p0, q0, hargs, rfl, rfl, h0, r0⟩ := trodAll_cons hA
  obtain ⟨rfl, rfl, rfl⟩ := trodAll_nil r0
  obtain rfl : args = #[v0] := by cases args; simp_all
  obtain ⟨rfl, rfl⟩ := trodVars_none hV
  obtain ⟨Azs, czs, zs, rfl, nzs, kzs, szs, wzs⟩ := open_int_slice Try.underlying22 Try.underlying5 (by kernel_rfl) (hval 0 22 v0 rfl rfl) h0
  have wzs : ∀ z ∈ zs, 0 ≤ z ∧ z ≤ 255 := fun z hz => wf_u8_bounds (wzs z hz)
  clear hA0 hval0
  refine (runOrder_walk Azs czs zs W nzs kzs szs wzs).mono fun e W' ⟨he, hb⟩ => ?_
  subst he
  refine ⟨_, rfl, post_true laidOut (fun t ht => ?_) (by kernel_rfl) Try.underlying4 rfl rfl hW' hAk hb⟩
  rw [Try.params3] at ht
  simp only [List.mem_cons, List.not_mem_nil, or_false] at ht
  first | (rcases ht with rfl <;> exact ⟨by kernel_rfl, of_decide_eq_true (by kernel_rfl)⟩) | (obtain rfl := ht; exact ⟨by kernel_rfl, of_decide_eq_true (by kernel_rfl)⟩)
/-- The statement. -/
theorem proved : Rows.FnRunOrderSaid :=
  OpenClaim.holds_of_wide 3 Try.f3 rfl rfl rfl rfl rfl rfl rfl ⟨rfl, rfl, rfl, rfl, rfl⟩ rfl rfl rfl rfl rfl (by kernel_rfl) Try.func3 (by kernel_rfl)
    (of_decide_eq_true (by kernel_rfl)) (by unfold Func.isWrapper; first | (rw [if_pos (by decide +kernel)]; kernel_rfl) | (rw [if_neg (by decide +kernel)]; exact ⟨rfl, rfl⟩))
    (fun os started H enc _ => lifted os started H enc)
end fnRunOrder
#print axioms fnRunOrder.proved
end Go.Proofs.Ythpabcgnijfiaaa
