/-
  Proved: FnExactBankConflicts returns true for all arguments.
-/
import Derived.Test.YtjgmghlgjjfifaaCBanks3
import Derived.Test.YtjgmghlgjjfifaaFrame
namespace Go.Proofs.Ytjgmghlgjjfifaa
open Go.ChangeShapes Go.WideShapes Go.ChangeAt Go.RowKit
set_option maxHeartbeats 800000
set_option linter.unusedVariables false

theorem exactConflicts_walk (A : Option Addr) (c : Nat) (zs : List Int) (s : Int) (w : World) (hl : zs.length ≤ 9223372036854775807) (hcap : zs.length ≤ c) (hs : Sl w A (ints zs)) (hz : ∀ z ∈ zs, -9223372036854775808 ≤ z ∧ z ≤ 9223372036854775807) (hsb : -9223372036854775808 ≤ s ∧ s ≤ 9223372036854775807) :
    Calls Try.prog 3 #[.slice A zs.length c, .int .i64 s] w fun e w' => e = .returned (.bool true) ∧ Below w.heap.size w w' := by
  have S0 := mkHid hs
  clear hz hs
  go_enter Try.func3, Try.ntmps3
  by_cases hbig : zs.length ≤ 1048576
  · have hzl : (bankConflicts zs s).length ≤ 1048576 := Nat.le_trans (bankConflicts_le _ _) hbig
    go_wp2_with fail
    refine (toIntS_any _ _ _ _ hbig S0.out).mono ?_
    rintro e w1 ⟨A1, c1, rfl, o1, b1⟩
    have S1 := mkHid (Sl.of_own o1)
    have B1 := mkHid b1
    clear o1 b1
    go_wp2_with fail
    refine (specBankConflicts_any _ _ _ _ _ (by omega) S1.out).mono ?_
    rintro e w2 ⟨A2, c2, rfl, o2, b2⟩
    have S2 := mkHid (Sl.of_own o2)
    have B02 := mkHid (below_then B1.out b2)
    clear o2 b2
    generalize hZ : bankConflicts zs s = ys at *
    have HZ := mkHid hZ
    clear hZ
    go_wp2_with fail
    refine (toIntS_any _ _ _ _ hbig (S0.out.below B02.out)).mono ?_
    rintro e w3 ⟨A3, c3, rfl, o3, b3⟩
    have O3 := mkHid o3
    have B3 := mkHid b3
    have hz3 := b3.size
    clear o3 b3
    go_wp2_with fail
    refine (implBankConflicts_any _ _ _ _ _ (by omega) (Sl.of_own O3.out)).mono ?_
    rw [HZ.out]
    rintro e w4 ⟨A4, c4, rfl, o4, b4⟩
    have O4 := mkHid o4
    have O34 := mkHid (own_below O3.out b4)
    have B4 := mkHid (below_then B3.out b4)
    clear o4 b4
    go_wp2_with fail
    refine (eqIntS_same _ _ _ _ _ _ (by omega) (Sl.of_own O4.out) (S2.out.below B4.out)).mono ?_
    rintro e w5 ⟨rfl, k5, rfl⟩
    have B5 := mkHid (below_drewN B4.out k5)
    have O45 := mkHid (own_drewN O4.out k5)
    have O35 := mkHid (own_drewN O34.out k5)
    generalize w4.drewN k5 = w5 at *
    go_wp2_with fail
    refine (toIntS_any _ _ _ _ hbig (S0.out.below (below_then B02.out B5.out))).mono ?_
    rintro e w6 ⟨A6, c6, rfl, o6, b6⟩
    have S6 := mkHid (Sl.of_own o6)
    have O36 := mkHid (own_below O35.out b6)
    have O46 := mkHid (own_below O45.out b6)
    have B6 := mkHid (below_then B5.out b6)
    clear o6 b6
    go_wp2_with fail
    refine (eqIntS_same _ _ _ _ _ _ (by omega) (Sl.of_own O36.out) S6.out).mono ?_
    rintro e w7 ⟨rfl, k7, rfl⟩
    have O37 := mkHid (own_drewN O36.out k7)
    have O47 := mkHid (own_drewN O46.out k7)
    have B7 := mkHid (below_drewN B6.out k7)
    generalize w6.drewN k7 = w7 at *
    go_wp2_with fail
    refine (markIntS_any _ _ _ _ _ _ (by omega) (by omega) (by omega) O37.out).mono ?_
    rintro e w8 ⟨rfl, o8, g8⟩
    have B8 := mkHid (below_grown B7.out g8 (fun g hg => (O37.out.lt g hg).1))
    have O48 := mkHid (own_apart O47.out g8 (fun g hg => (O3.out.lt g hg).2))
    clear o8 g8
    go_wp2_with fail
    refine (eqIntS_same _ _ _ _ _ _ (by omega) (Sl.of_own O48.out) (S2.out.below B8.out)).mono ?_
    rintro e w9 ⟨rfl, k9, rfl⟩
    have B9 := mkHid (below_drewN B8.out k9)
    have O49 := mkHid (own_drewN O48.out k9)
    generalize w8.drewN k9 = w9 at *
    go_wp2_with fail
    refine (markIntS_any _ _ _ _ _ _ (by omega) (by omega) (by omega) O49.out).mono ?_
    rintro e w10 ⟨rfl, o10, g10⟩
    have O410 := mkHid o10
    have B10 := mkHid (below_grown B9.out g10 (fun g hg => Nat.le_trans hz3 (O49.out.lt g hg).1))
    clear o10 g10
    go_wp2_with fail
    refine (heldIntS_any _ _ _ _ _ (by omega) (by omega) (by omega) (Sl.of_own O410.out)).mono ?_
    rintro e w11 ⟨rfl, rfl⟩
    go_wp2_with fail
    refine (toIntS_any _ _ _ _ hbig (S0.out.below (below_then B02.out B10.out))).mono ?_
    rintro e w12 ⟨A12, c12, rfl, o12, b12⟩
    have S12 := mkHid (Sl.of_own o12)
    have S412 := mkHid ((Sl.of_own O410.out).below b12)
    have B12 := mkHid (below_then B10.out b12)
    clear o12 b12
    go_wp2_with fail
    refine (implBankConflicts_any _ _ _ _ _ (by omega) S12.out).mono ?_
    rw [HZ.out]
    rintro e w13 ⟨A13, c13, rfl, o13, b13⟩
    have S13 := mkHid (Sl.of_own o13)
    have S413 := mkHid (S412.out.below b13)
    have B13 := mkHid (below_then B12.out b13)
    clear o13 b13
    go_wp2_with fail
    refine (eqIntS_same _ _ _ _ _ _ (by omega) S13.out (S2.out.below B13.out)).mono ?_
    rintro e w14 ⟨rfl, k14, rfl⟩
    have B14 := mkHid (below_drewN B13.out k14)
    have S414 := mkHid (S413.out.drewN k14)
    generalize w13.drewN k14 = w14 at *
    go_wp2_with fail
    refine (heldIntS_any _ _ _ _ _ (by omega) (by omega) (by omega) S414.out).mono ?_
    rintro e w15 ⟨rfl, rfl⟩
    go_wp2_with fail
    go_ret
    exact ⟨rfl, below_then B02.out B14.out⟩
  · go_wp2_with fail
    go_ret
    exact ⟨rfl, Below.refl _ _⟩
namespace fnExactBankConflicts
set_option maxRecDepth 100000 in
theorem lifted (os : Os) (started : os.Started) (H : Type) (enc : TypeId × Value → H) :
    ReturnsInHanded {} Try.checked os 3 .any (Rows.fnExactBankConflictsSpec.pre6 enc Try.prog Try.f3 Rows.fnExactBankConflictsRow.domain false) (Rows.fnExactBankConflictsSpec.post enc Try.prog Try.f3 false true false false) := by
  refine returnsInHanded_of_change (C := Try.checked) own started (by kernel_rfl) Try.func3
    (ChangeSpec.witness6 (enc := enc) (C := Try.checked) false ⟨#[], #[.slice none 0 0, .int .i64 0], []⟩ 8 (by kernel_rfl) (by kernel_rfl) (by kernel_rfl) (by kernel_rfl)) ?_
  intro W base args ds gs before hval0 hW hcnd _
  have hval : ∀ (j : Nat) t v, Try.f3.params[j]? = some t → args[j]? = some v → Value.okWide Try.prog W .any base t v := hval0
  have hW' := hW
  obtain ⟨p, q, hA0, hV, rfl, hfz, hnd⟩ := hW
  have hA : DataW.TrodAll enc Try.prog W 0 (fun _ => true) true Try.f3.params.toList args.toList ds p := hA0
  have hAk : DataW.TrodAll enc Try.prog W 0 (fun _ => true) true Try.f3.params.toList args.toList ds p := hA0
  rw [Try.params3] at hA hval
  obtain ⟨v0, vs0, d0, ds0, p0, q0, hargs, rfl, rfl, h0, r0⟩ := trodAll_cons hA
  obtain ⟨v1, vs1, d1, ds1, p1, q1, rfl, rfl, rfl, h1, r1⟩ := trodAll_cons r0
  obtain ⟨rfl, rfl, rfl⟩ := trodAll_nil r1
  obtain rfl : args = #[v0, v1] := by cases args; simp_all
  obtain ⟨rfl, rfl⟩ := trodVars_none hV
  obtain ⟨Azs, czs, zs, rfl, nzs, kzs, szs, wzs⟩ := open_int_slice Try.underlying22 Try.underlying3 (by kernel_rfl) (hval 0 22 v0 rfl rfl) h0
  have wzs : ∀ z ∈ zs, -9223372036854775808 ≤ z ∧ z ≤ 9223372036854775807 := fun z hz => wf_i64_bounds (wzs z hz)
  obtain ⟨s, rfl, rfl, rfl, w1⟩ := open_int Try.underlying3 (hval 1 3 v1 rfl rfl) h1
  have w1 := wf_i64_bounds w1
  clear hA0 hval0
  refine (exactConflicts_walk Azs czs zs s W nzs kzs szs wzs w1).mono fun e W' ⟨he, hb⟩ => ?_
  subst he
  refine ⟨_, rfl, post_true laidOut (fun t ht => ?_) (by kernel_rfl) Try.underlying4 rfl rfl hW' hAk hb⟩
  rw [Try.params3] at ht
  simp only [List.mem_cons, List.not_mem_nil, or_false] at ht
  first | (rcases ht with rfl | rfl <;> exact ⟨by kernel_rfl, of_decide_eq_true (by kernel_rfl)⟩) | (obtain rfl := ht; exact ⟨by kernel_rfl, of_decide_eq_true (by kernel_rfl)⟩)
/-- The statement. -/
theorem proved : Rows.FnExactBankConflictsSaid :=
  OpenClaim.holds_of_wide 3 Try.f3 rfl rfl rfl rfl rfl rfl rfl ⟨rfl, rfl, rfl, rfl, rfl⟩ rfl rfl rfl rfl rfl (by kernel_rfl) Try.func3 (by kernel_rfl)
    (of_decide_eq_true (by kernel_rfl)) (by unfold Func.isWrapper; first | (rw [if_pos (by decide +kernel)]; kernel_rfl) | (rw [if_neg (by decide +kernel)]; exact ⟨rfl, rfl⟩))
    (fun os started H enc _ => lifted os started H enc)
end fnExactBankConflicts
#print axioms fnExactBankConflicts.proved
end Go.Proofs.Ytjgmghlgjjfifaa
