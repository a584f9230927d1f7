/-
  Proved: FnExactOrderValid returns true for all arguments.
-/
import Derived.Test.YtilhcedfokhhjaaCOrder
import Derived.Test.YtilhcedfokhhjaaCToInt
import Derived.Test.YtilhcedfokhhjaaFrame
namespace Go.Proofs.Ytilhcedfokhhjaa
open Go.ChangeShapes Go.WideShapes Go.ChangeAt Go.RowKit
set_option maxHeartbeats 800000
set_option linter.unusedVariables false

theorem exactOrder_walk (A : Option Addr) (c : Nat) (zs : List Int) (s : Int) (w : World) (hl : zs.length ≤ 9223372036854775807) (hcap : zs.length ≤ c) (hs : Sl w A (ints zs)) (hz : ∀ z ∈ zs, -9223372036854775808 ≤ z ∧ z ≤ 9223372036854775807) (hsb : -9223372036854775808 ≤ s ∧ s ≤ 9223372036854775807) :
    Calls Try.prog 3 #[.slice A zs.length c, .int .i64 s] w fun e w' => e = .returned (.bool true) ∧ Below w.heap.size w w' := by
  have S0 := mkHid hs
  clear hz hs
  go_enter Try.func3, Try.ntmps3
  by_cases hbig : zs.length ≤ 1048576
  · go_wp2_with fail
    refine (toIntS_any _ _ _ _ hbig S0.out).mono ?_
    rintro e w1 ⟨A1, c1, rfl, o1, b1⟩
    have S1 := mkHid (Sl.of_own o1)
    have B1 := mkHid b1
    clear o1 b1
    go_wp2_with fail
    refine (specOrderValid_any _ _ _ _ _ (by omega) S1.out).mono ?_
    rintro e w2 ⟨rfl, rfl⟩
    have B02 := B1
    generalize hZ : orderValid zs s = val at *
    have HZ := mkHid hZ
    clear hZ
    go_wp2_with fail
    refine (toIntS_any _ _ _ _ hbig (S0.out.below B02.out)).mono ?_
    rintro e w3 ⟨A3, c3, rfl, o3, b3⟩
    have S3 := mkHid (Sl.of_own o3)
    have B03 := mkHid (below_then B02.out b3)
    clear o3 b3
    go_wp2_with fail
    refine (implOrderValid_any _ _ _ _ _ (by omega) S3.out).mono ?_
    rw [HZ.out]
    rintro e w4 ⟨rfl, b4⟩
    have S34 := mkHid (S3.out.below b4)
    have B04 := mkHid (below_then B03.out b4)
    clear b4
    go_wp2_with fail
    refine (toIntS_any _ _ _ _ hbig (S0.out.below B04.out)).mono ?_
    rintro e w5 ⟨A5, c5, rfl, o5, b5⟩
    have S5 := mkHid (Sl.of_own o5)
    have S35 := mkHid (S34.out.below b5)
    have B05 := mkHid (below_then B04.out b5)
    clear o5 b5
    go_wp2_with fail
    refine (eqIntS_same _ _ _ _ _ _ (by omega) S35.out S5.out).mono ?_
    rintro e w6 ⟨rfl, k6, rfl⟩
    have B06 := mkHid (below_drewN B05.out k6)
    generalize w5.drewN k6 = w6 at *
    go_wp2_with fail
    go_ret
    exact ⟨rfl, B06.out⟩
  · go_wp2_with fail
    go_ret
    exact ⟨rfl, Below.refl _ _⟩
namespace fnExactOrderValid
set_option maxRecDepth 100000 in
theorem lifted (os : Os) (started : os.Started) (H : Type) (enc : TypeId × Value → H) :
    ReturnsInHanded {} Try.checked os 3 .any (Rows.fnExactOrderValidSpec.pre6 enc Try.prog Try.f3 Rows.fnExactOrderValidRow.domain false) (Rows.fnExactOrderValidSpec.post enc Try.prog Try.f3 false true false false) := by
  refine returnsInHanded_of_change (C := Try.checked) own started (by kernel_rfl) Try.func3
    (ChangeSpec.witness6 (enc := enc) (C := Try.checked) false ⟨#[], #[.slice none 0 0, .int .i64 0], []⟩ 8 (by kernel_rfl) (by kernel_rfl) (by kernel_rfl) (by kernel_rfl)) ?_
  intro W base args ds gs before hval0 hW hcnd _
  have hval : ∀ (j : Nat) t v, Try.f3.params[j]? = some t → args[j]? = some v → Value.okWide Try.prog W .any base t v := hval0
  have hW' := hW
  obtain ⟨p, q, hA0, hV, rfl, hfz, hnd⟩ := hW
  have hA : DataW.TrodAll enc Try.prog W 0 (fun _ => true) true Try.f3.params.toList args.toList ds p := hA0
  have hAk : DataW.TrodAll enc Try.prog W 0 (fun _ => true) true Try.f3.params.toList args.toList ds p := hA0
  rw [Try.params3] at hA hval
  obtain ⟨v0, vs0, d0, ds0, p0, q0, hargs, rfl, rfl, h0, r0⟩ := trodAll_cons hA
  obtain ⟨v1, vs1, d1, ds1, p1, q1, rfl, rfl, rfl, h1, r1⟩ := trodAll_cons r0
  obtain ⟨rfl, rfl, rfl⟩ := trodAll_nil r1
  obtain rfl : args = #[v0, v1] := by cases args; simp_all
  obtain ⟨rfl, rfl⟩ := trodVars_none hV
  obtain ⟨Azs, czs, zs, rfl, nzs, kzs, szs, wzs⟩ := open_int_slice Try.underlying22 Try.underlying3 (by kernel_rfl) (hval 0 22 v0 rfl rfl) h0
  have wzs : ∀ z ∈ zs, -9223372036854775808 ≤ z ∧ z ≤ 9223372036854775807 := fun z hz => wf_i64_bounds (wzs z hz)
  obtain ⟨s, rfl, rfl, rfl, w1⟩ := open_int Try.underlying3 (hval 1 3 v1 rfl rfl) h1
  have w1 := wf_i64_bounds w1
  clear hA0 hval0
  refine (exactOrder_walk Azs czs zs s W nzs kzs szs wzs w1).mono fun e W' ⟨he, hb⟩ => ?_
  subst he
  refine ⟨_, rfl, post_true laidOut (fun t ht => ?_) (by kernel_rfl) Try.underlying4 rfl rfl hW' hAk hb⟩
  rw [Try.params3] at ht
  simp only [List.mem_cons, List.not_mem_nil, or_false] at ht
  first | (rcases ht with rfl | rfl <;> exact ⟨by kernel_rfl, of_decide_eq_true (by kernel_rfl)⟩) | (obtain rfl := ht; exact ⟨by kernel_rfl, of_decide_eq_true (by kernel_rfl)⟩)
/-- The statement. -/
theorem proved : Rows.FnExactOrderValidSaid :=
  OpenClaim.holds_of_wide 3 Try.f3 rfl rfl rfl rfl rfl rfl rfl ⟨rfl, rfl, rfl, rfl, rfl⟩ rfl rfl rfl rfl rfl (by kernel_rfl) Try.func3 (by kernel_rfl)
    (of_decide_eq_true (by kernel_rfl)) (by unfold Func.isWrapper; first | (rw [if_pos (by decide +kernel)]; kernel_rfl) | (rw [if_neg (by decide +kernel)]; exact ⟨rfl, rfl⟩))
    (fun os started H enc _ => lifted os started H enc)
end fnExactOrderValid
#print axioms fnExactOrderValid.proved
end Go.Proofs.Ytilhcedfokhhjaa
