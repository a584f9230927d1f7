/-
  Proved: FnExactRunOrder returns true for all arguments.
-/
import Derived.Test.YthpabcgnijfiaaaPart03
import Derived.Test.YthpabcgnijfiaaaPart18
import Derived.Test.YthpabcgnijfiaaaPart22
namespace Go.Proofs.Ythpabcgnijfiaaa
open Go.ChangeShapes Go.WideShapes Go.ChangeAt Go.RowKit
set_option maxHeartbeats 2000000
set_option maxRecDepth 100000
set_option linter.unusedVariables false

theorem exactRun_walk (x : Option Addr × Nat × List Cd) (z : Int) (MA : Option Addr) (mc : Nat) (ms : List Int) (OA : Option Addr) (oc : Nat) (os : List Int) (w : World) (hl : x.2.2.length ≤ 9223372036854775807) (hs : Sl w x.1 (cflat x.2.2)) (hz : -9223372036854775808 ≤ z ∧ z ≤ 9223372036854775807)
    (hml : ms.length ≤ 9223372036854775807) (hmc : ms.length ≤ mc) (hms : Sl w MA (ints ms)) (hmz : ∀ z ∈ ms, -9223372036854775808 ≤ z ∧ z ≤ 9223372036854775807) (hol : os.length ≤ 9223372036854775807) (hoc : os.length ≤ oc) (hos : Sl w OA (ints os)) (hoz : ∀ z ∈ os, -9223372036854775808 ≤ z ∧ z ≤ 9223372036854775807) :
    Calls Try.prog 4 #[.slice x.1 x.2.2.length x.2.1, .int .i64 z, .slice MA ms.length mc, .slice OA os.length oc] w fun e w' => e = .returned (.bool true) ∧ Below w.heap.size w w' := by
  obtain ⟨A, c, xs⟩ := x
  simp only at hl hs ⊢
  have S0 := mkHid hs
  have SM := mkHid hms
  have SO := mkHid hos
  obtain ⟨out, hout⟩ := ranTo_ex xs z ms os
  have HR := mkHid hout
  have ho32 : out.length ≤ 32 := (ranTo_len hout).1
  clear hs hms hos hmz hoz hmc hoc hout
  by_cases h1 : ms.length ≤ 1048576
  · by_cases h2 : os.length ≤ 1048576
    · go_enter Try.func4, Try.ntmps4
      go_wp2_with fail
      refine (szCodeS_any _ _ _ _ _ (by omega) hl).mono ?_
      rintro e w1 ⟨⟨hle, rfl⟩ | ⟨hlt, rfl⟩, rfl⟩
      · go_wp2_with fail
        refine (toCodeS_any _ _ _ _ (by omega) S0.out).mono ?_
        rintro e w1 ⟨A1, c1, rfl, o1, b1⟩
        have P1 := mkHid (Sl.of_own o1)
        have B01 := mkHid b1
        clear o1 b1
        go_wp2_with fail
        refine (toIntS_any _ _ _ _ h1 (SM.out.below B01.out)).mono ?_
        rintro e w2 ⟨A2, c2, rfl, o2, b2⟩
        have P2 := mkHid (Sl.of_own o2)
        have P1 := mkHid (P1.out.below b2)
        have B02 := mkHid (below_then B01.out b2)
        clear o2 b2
        go_wp2_with fail
        refine (toIntS_any _ _ _ _ h2 (SO.out.below B02.out)).mono ?_
        rintro e w3 ⟨A3, c3, rfl, o3, b3⟩
        have P3 := mkHid (Sl.of_own o3)
        have P1 := mkHid (P1.out.below b3)
        have P2 := mkHid (P2.out.below b3)
        have B03 := mkHid (below_then B02.out b3)
        clear o3 b3
        go_wp2_with fail
        refine (specRunOrder_any _ _ _ _ _ _ _ _ _ _ out _ (by omega) (by omega) (by omega) P1.out P2.out P3.out HR.out).mono ?_
        rintro e w4 ⟨A4, c4, rfl, o4, b4⟩
        have S4 := mkHid (Sl.of_own o4)
        have B04 := mkHid (below_then B03.out b4)
        clear o4 b4 P1 P2 P3
        go_wp2_with fail
        refine (toCodeS_any _ _ _ _ (by omega) (S0.out.below B04.out)).mono ?_
        rintro e w5 ⟨A5, c5, rfl, o5, b5⟩
        have X5 := mkHid o5
        have B05 := mkHid (below_then B04.out b5)
        have B45 := mkHid b5
        have L5 : Hid (∀ g, (Value.slice A5 xs.length c5).ownBlock = some g → w4.heap.size ≤ g ∧ g < w5.heap.size) := mkHid (fun g e => o5.lt g e)
        clear o5 b5
        go_wp2_with fail
        refine (toIntS_any _ _ _ _ h1 (SM.out.below B05.out)).mono ?_
        rintro e w6 ⟨A6, c6, rfl, o6, b6⟩
        have Y6 := mkHid o6
        have X6 := mkHid (own_below X5.out b6)
        have B06 := mkHid (below_then B05.out b6)
        have B46 := mkHid (below_then B45.out b6)
        have L6 : Hid (∀ g, (Value.slice A6 ms.length c6).ownBlock = some g → w5.heap.size ≤ g ∧ g < w6.heap.size) := mkHid (fun g e => o6.lt g e)
        have hz56 := b6.size
        clear o6 b6
        go_wp2_with fail
        refine (toIntS_any _ _ _ _ h2 (SO.out.below B06.out)).mono ?_
        rintro e w7 ⟨A7, c7, rfl, o7, b7⟩
        have Z7 := mkHid o7
        have X7 := mkHid (own_below X6.out b7)
        have Y7 := mkHid (own_below Y6.out b7)
        have B07 := mkHid (below_then B06.out b7)
        have B47 := mkHid (below_then B46.out b7)
        have L7 : Hid (∀ g, (Value.slice A7 os.length c7).ownBlock = some g → w6.heap.size ≤ g ∧ g < w7.heap.size) := mkHid (fun g e => o7.lt g e)
        have hz67 := b7.size
        clear o7 b7
        go_wp2_with fail
        refine (implRunOrder_any _ _ _ _ _ _ _ _ _ _ out _ (by omega) (by omega) (by omega) (Sl.of_own X7.out) (Sl.of_own Y7.out) (Sl.of_own Z7.out) HR.out).mono ?_
        rintro e w8 ⟨A8, c8, rfl, o8, b8⟩
        have G8 := mkHid o8
        have X8 := mkHid (own_below X7.out b8)
        have Y8 := mkHid (own_below Y7.out b8)
        have Z8 := mkHid (own_below Z7.out b8)
        have B08 := mkHid (below_then B07.out b8)
        have B48 := mkHid (below_then B47.out b8)
        have hz78 := b8.size
        clear o8 b8
        go_wp2_with fail
        refine (eqIntS_same _ _ _ _ _ _ (by omega) (Sl.of_own G8.out) (S4.out.below B48.out)).mono ?_
        rintro e w9 ⟨rfl, k9, rfl⟩
        have hb9 : Below w8.heap.size w8 (w8.drewN k9) := below_drewN (Below.refl _ _) k9
        have G9 := mkHid (own_below G8.out hb9)
        have X9 := mkHid (own_below X8.out hb9)
        have Y9 := mkHid (own_below Y8.out hb9)
        have Z9 := mkHid (own_below Z8.out hb9)
        have B09 := mkHid (below_then B08.out hb9)
        have B49 := mkHid (below_then B48.out hb9)
        clear hb9
        generalize w8.drewN k9 = w9 at *
        go_wp2_with fail
        refine (toCodeS_any _ _ _ _ (by omega) (S0.out.below B09.out)).mono ?_
        rintro e w10 ⟨A10, c10, rfl, o10, b10⟩
        have S10 := mkHid (Sl.of_own o10)
        have G10 := mkHid (own_below G9.out b10)
        have X10 := mkHid (own_below X9.out b10)
        have Y10 := mkHid (own_below Y9.out b10)
        have Z10 := mkHid (own_below Z9.out b10)
        have B010 := mkHid (below_then B09.out b10)
        have B410 := mkHid (below_then B49.out b10)
        clear o10 b10
        go_wp2_with fail
        refine (eqCodeS_same _ _ _ _ _ _ (by omega) (Sl.of_own X10.out) S10.out).mono ?_
        rintro e w11 ⟨rfl, b11⟩
        have G11 := mkHid (own_below G10.out b11)
        have X11 := mkHid (own_below X10.out b11)
        have Y11 := mkHid (own_below Y10.out b11)
        have Z11 := mkHid (own_below Z10.out b11)
        have B011 := mkHid (below_then B010.out b11)
        have B411 := mkHid (below_then B410.out b11)
        clear b11 S10
        go_wp2_with fail
        refine (toIntS_any _ _ _ _ h1 (SM.out.below B011.out)).mono ?_
        rintro e w12 ⟨A12, c12, rfl, o12, b12⟩
        have S12 := mkHid (Sl.of_own o12)
        have G12 := mkHid (own_below G11.out b12)
        have X12 := mkHid (own_below X11.out b12)
        have Y12 := mkHid (own_below Y11.out b12)
        have Z12 := mkHid (own_below Z11.out b12)
        have B012 := mkHid (below_then B011.out b12)
        have B412 := mkHid (below_then B411.out b12)
        clear o12 b12
        go_wp2_with fail
        refine (eqIntS_same _ _ _ _ _ _ (by omega) (Sl.of_own Y12.out) S12.out).mono ?_
        rintro e w13 ⟨rfl, k13, rfl⟩
        have hb13 : Below w12.heap.size w12 (w12.drewN k13) := below_drewN (Below.refl _ _) k13
        have G13 := mkHid (own_below G12.out hb13)
        have X13 := mkHid (own_below X12.out hb13)
        have Y13 := mkHid (own_below Y12.out hb13)
        have Z13 := mkHid (own_below Z12.out hb13)
        have B013 := mkHid (below_then B012.out hb13)
        have B413 := mkHid (below_then B412.out hb13)
        clear hb13 S12
        generalize w12.drewN k13 = w13 at *
        go_wp2_with fail
        refine (toIntS_any _ _ _ _ h2 (SO.out.below B013.out)).mono ?_
        rintro e w14 ⟨A14, c14, rfl, o14, b14⟩
        have S14 := mkHid (Sl.of_own o14)
        have G14 := mkHid (own_below G13.out b14)
        have X14 := mkHid (own_below X13.out b14)
        have Y14 := mkHid (own_below Y13.out b14)
        have Z14 := mkHid (own_below Z13.out b14)
        have B014 := mkHid (below_then B013.out b14)
        have B414 := mkHid (below_then B413.out b14)
        clear o14 b14
        go_wp2_with fail
        refine (eqIntS_same _ _ _ _ _ _ (by omega) (Sl.of_own Z14.out) S14.out).mono ?_
        rintro e w15 ⟨rfl, k15, rfl⟩
        have hb15 : Below w14.heap.size w14 (w14.drewN k15) := below_drewN (Below.refl _ _) k15
        have G15 := mkHid (own_below G14.out hb15)
        have X15 := mkHid (own_below X14.out hb15)
        have Y15 := mkHid (own_below Y14.out hb15)
        have Z15 := mkHid (own_below Z14.out hb15)
        have B015 := mkHid (below_then B014.out hb15)
        have B415 := mkHid (below_then B414.out hb15)
        clear hb15 S14
        generalize w14.drewN k15 = w15 at *
        have hz04 := B04.out.size
        go_wp2_with fail
        refine (markCodeS_any _ _ _ _ _ _ (by omega) (by omega) (by omega) X15.out).mono ?_
        rintro e w16 ⟨rfl, o16, g16⟩
        have G16 := mkHid (own_apart G15.out g16 (fun g hg => by have := L5.out g hg; omega))
        have Y16 := mkHid (own_apart Y15.out g16 (fun g hg => by have := L5.out g hg; omega))
        have Z16 := mkHid (own_apart Z15.out g16 (fun g hg => by have := L5.out g hg; omega))
        have B016 := mkHid (B015.out.grown g16 B015.out.size (fun g hg => by have := L5.out g hg; omega))
        have B416 := mkHid (B415.out.grown g16 B415.out.size (fun g hg => by have := L5.out g hg; omega))
        clear o16 g16
        go_wp2_with fail
        refine (markIntS_any _ _ _ _ _ _ (by omega) (by omega) (by omega) Y16.out).mono ?_
        rintro e w17 ⟨rfl, o17, g17⟩
        have G17 := mkHid (own_apart G16.out g17 (fun g hg => by have := L6.out g hg; omega))
        have Z17 := mkHid (own_apart Z16.out g17 (fun g hg => by have := L6.out g hg; omega))
        have hz45 := B45.out.size
        have B017 := mkHid (B016.out.grown g17 B016.out.size (fun g hg => by have := L6.out g hg; omega))
        have B417 := mkHid (B416.out.grown g17 B416.out.size (fun g hg => by have := L6.out g hg; omega))
        clear o17 g17
        go_wp2_with fail
        refine (markIntS_any _ _ _ _ _ _ (by omega) (by omega) (by omega) Z17.out).mono ?_
        rintro e w18 ⟨rfl, o18, g18⟩
        have G18 := mkHid (own_apart G17.out g18 (fun g hg => by have := L7.out g hg; omega))
        have B018 := mkHid (B017.out.grown g18 B017.out.size (fun g hg => by have := L7.out g hg; omega))
        have B418 := mkHid (B417.out.grown g18 B417.out.size (fun g hg => by have := L7.out g hg; omega))
        clear o18 g18
        go_wp2_with fail
        refine (eqIntS_same _ _ _ _ _ _ (by omega) (Sl.of_own G18.out) (S4.out.below B418.out)).mono ?_
        rintro e w19 ⟨rfl, k19, rfl⟩
        have hb19 : Below w18.heap.size w18 (w18.drewN k19) := below_drewN (Below.refl _ _) k19
        have G19 := mkHid (own_below G18.out hb19)
        have B019 := mkHid (below_then B018.out hb19)
        have B419 := mkHid (below_then B418.out hb19)
        clear hb19
        generalize w18.drewN k19 = w19 at *
        go_wp2_with fail
        refine (markIntS_any _ _ _ _ _ _ (by omega) (by omega) (by omega) G19.out).mono ?_
        rintro e w20 ⟨rfl, o20, g20⟩
        have HG20 := mkHid (Sl.of_own o20)
        have B020 := mkHid (B019.out.grown g20 B019.out.size (fun g hg => by have := (G19.out.lt g hg).1; omega))
        have B420 := mkHid (B419.out.grown g20 B419.out.size (fun g hg => by have := (G19.out.lt g hg).1; omega))
        clear o20 g20
        go_wp2_with fail
        refine (heldIntS_any _ _ _ _ _ (by omega) (by omega) (by omega) HG20.out).mono ?_
        rintro e w21 ⟨rfl, rfl⟩
        go_wp2_with fail
        refine (toCodeS_any _ _ _ _ (by omega) (S0.out.below B020.out)).mono ?_
        rintro e w21 ⟨A21, c21, rfl, o21, b21⟩
        have P1 := mkHid (Sl.of_own o21)
        have H21 := mkHid (HG20.out.below b21)
        have B021 := mkHid (below_then B020.out b21)
        have B421 := mkHid (below_then B420.out b21)
        clear o21 b21
        go_wp2_with fail
        refine (toIntS_any _ _ _ _ h1 (SM.out.below B021.out)).mono ?_
        rintro e w22 ⟨A22, c22, rfl, o22, b22⟩
        have P2 := mkHid (Sl.of_own o22)
        have P1 := mkHid (P1.out.below b22)
        have H22 := mkHid (H21.out.below b22)
        have B022 := mkHid (below_then B021.out b22)
        have B422 := mkHid (below_then B421.out b22)
        clear o22 b22
        go_wp2_with fail
        refine (toIntS_any _ _ _ _ h2 (SO.out.below B022.out)).mono ?_
        rintro e w23 ⟨A23, c23, rfl, o23, b23⟩
        have P3 := mkHid (Sl.of_own o23)
        have P1 := mkHid (P1.out.below b23)
        have P2 := mkHid (P2.out.below b23)
        have H23 := mkHid (H22.out.below b23)
        have B023 := mkHid (below_then B022.out b23)
        have B423 := mkHid (below_then B422.out b23)
        clear o23 b23
        go_wp2_with fail
        refine (implRunOrder_any _ _ _ _ _ _ _ _ _ _ out _ (by omega) (by omega) (by omega) P1.out P2.out P3.out HR.out).mono ?_
        rintro e w24 ⟨A24, c24, rfl, o24, b24⟩
        have S24 := mkHid (Sl.of_own o24)
        have H24 := mkHid (H23.out.below b24)
        have B024 := mkHid (below_then B023.out b24)
        have B424 := mkHid (below_then B423.out b24)
        clear o24 b24 P1 P2 P3
        go_wp2_with fail
        refine (eqIntS_same _ _ _ _ _ _ (by omega) S24.out (S4.out.below B424.out)).mono ?_
        rintro e w25 ⟨rfl, k25, rfl⟩
        have hb25 : Below w24.heap.size w24 (w24.drewN k25) := below_drewN (Below.refl _ _) k25
        have H25 := mkHid (H24.out.below hb25)
        have B025 := mkHid (below_then B024.out hb25)
        clear hb25
        generalize w24.drewN k25 = w25 at *
        go_wp2_with fail
        refine (heldIntS_any _ _ _ _ _ (by omega) (by omega) (by omega) H25.out).mono ?_
        rintro e w26 ⟨rfl, rfl⟩
        go_wp2_with fail
        go_ret
        exact ⟨rfl, B025.out⟩
      · go_wp2_with fail
        go_ret
        exact ⟨rfl, Below.refl _ _⟩
    · go_enter Try.func4, Try.ntmps4
      go_wp2_with fail
      go_ret
      exact ⟨rfl, Below.refl _ _⟩
  · go_enter Try.func4, Try.ntmps4
    go_wp2_with fail
    go_ret
    exact ⟨rfl, Below.refl _ _⟩
namespace fnExactRunOrder
set_option maxRecDepth 100000 in
theorem lifted (os : Os) (started : os.Started) (H : Type) (enc : TypeId × Value → H) :
    ReturnsInHanded {} Try.checked os 4 .any (Rows.fnExactRunOrderSpec.pre6 enc Try.prog Try.f4 Rows.fnExactRunOrderRow.domain false) (Rows.fnExactRunOrderSpec.post enc Try.prog Try.f4 false true false false) := by
  refine returnsInHanded_of_change (C := Try.checked) own started (by kernel_rfl) Try.func4
    (ChangeSpec.witness6 (enc := enc) (C := Try.checked) false ⟨#[], #[.slice none 0 0, .int .i64 0, .slice none 0 0, .slice none 0 0], []⟩ 8 (by kernel_rfl) (by kernel_rfl) (by kernel_rfl) (by kernel_rfl)) ?_
  intro W base args ds gs before hval0 hW hcnd _
  have hval : ∀ (j : Nat) t v, Try.f4.params[j]? = some t → args[j]? = some v → Value.okWide Try.prog W .any base t v := hval0
  have hW' := hW
  obtain ⟨p, q, hA0, hV, rfl, hfz, hnd⟩ := hW
  have hA : DataW.TrodAll enc Try.prog W 0 (fun _ => true) true Try.f4.params.toList args.toList ds p := hA0
  have hAk : DataW.TrodAll enc Try.prog W 0 (fun _ => true) true Try.f4.params.toList args.toList ds p := hA0
  rw [Try.params4] at hA hval
  obtain ⟨v0, vs0, d0, ds0, p0, q0, hargs, rfl, rfl, h0, r0⟩ := trodAll_cons hA
  obtain ⟨v1, vs1, d1, ds1, p1, q1, rfl, rfl, rfl, h1, r1⟩ := trodAll_cons r0
  obtain ⟨v2, vs2, d2, ds2, p2, q2, rfl, rfl, rfl, h2, r2⟩ := trodAll_cons r1
  obtain ⟨v3, vs3, d3, ds3, p3, q3, rfl, rfl, rfl, h3, r3⟩ := trodAll_cons r2
  obtain ⟨rfl, rfl, rfl⟩ := trodAll_nil r3
  obtain rfl : args = #[v0, v1, v2, v3] := by cases args; simp_all
  obtain ⟨rfl, rfl⟩ := trodVars_none hV
  obtain ⟨x, rx, rfl, sx⟩ := open_codes (hval 0 37 v0 rfl rfl) h0
  obtain ⟨z, rfl, rfl, rfl, w1⟩ := open_int Try.underlying3 (hval 1 3 v1 rfl rfl) h1
  have w1 := wf_i64_bounds w1
  obtain ⟨Ams, cms, ms, rfl, nms, kms, sms, wms⟩ := open_int_slice Try.underlying24 Try.underlying3 (by kernel_rfl) (hval 2 24 v2 rfl rfl) h2
  have wms : ∀ z ∈ ms, -9223372036854775808 ≤ z ∧ z ≤ 9223372036854775807 := fun z hz => wf_i64_bounds (wms z hz)
  obtain ⟨Aos, cos, os, rfl, nos, kos, sos, wos⟩ := open_int_slice Try.underlying24 Try.underlying3 (by kernel_rfl) (hval 3 24 v3 rfl rfl) h3
  have wos : ∀ z ∈ os, -9223372036854775808 ≤ z ∧ z ≤ 9223372036854775807 := fun z hz => wf_i64_bounds (wos z hz)
  clear hA0 hval0
  refine (exactRun_walk x z Ams cms ms Aos cos os W rx sx w1 nms kms sms wms nos kos sos wos).mono fun e W' ⟨he, hb⟩ => ?_
  subst he
  refine ⟨_, rfl, post_true laidOut (fun t ht => ?_) (by kernel_rfl) Try.underlying4 rfl rfl hW' hAk hb⟩
  rw [Try.params4] at ht
  simp only [List.mem_cons, List.not_mem_nil, or_false] at ht
  first | (rcases ht with rfl | rfl | rfl | rfl <;> exact ⟨by kernel_rfl, of_decide_eq_true (by kernel_rfl)⟩) | (obtain rfl := ht; exact ⟨by kernel_rfl, of_decide_eq_true (by kernel_rfl)⟩)
/-- The statement. -/
theorem proved : Rows.FnExactRunOrderSaid :=
  OpenClaim.holds_of_wide 4 Try.f4 rfl rfl rfl rfl rfl rfl rfl ⟨rfl, rfl, rfl, rfl, rfl⟩ rfl rfl rfl rfl rfl (by kernel_rfl) Try.func4 (by kernel_rfl)
    (of_decide_eq_true (by kernel_rfl)) (by unfold Func.isWrapper; first | (rw [if_pos (by decide +kernel)]; kernel_rfl) | (rw [if_neg (by decide +kernel)]; exact ⟨rfl, rfl⟩))
    (fun os started H enc _ => lifted os started H enc)
end fnExactRunOrder
#print axioms fnExactRunOrder.proved
end Go.Proofs.Ythpabcgnijfiaaa
