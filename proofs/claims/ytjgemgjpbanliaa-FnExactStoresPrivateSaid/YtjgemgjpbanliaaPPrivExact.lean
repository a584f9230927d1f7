/-
  Proved: FnExactStoresPrivate returns true for all arguments.
-/
import Derived.Test.YtjgemgjpbanliaaOpenCodes
import Derived.Test.YtjgemgjpbanliaaCPriv3
namespace Go.Proofs.Ytjgemgjpbanliaa
open Go.ChangeShapes Go.WideShapes Go.ChangeAt Go.RowKit
set_option maxHeartbeats 800000
set_option linter.unusedVariables false

theorem exactPriv_walk (x : Option Addr × Nat × List Cd) (w : World) (hl : x.2.2.length ≤ 9223372036854775807) (hs : Sl w x.1 (cflat x.2.2)) :
    Calls Try.prog 4 #[.slice x.1 x.2.2.length x.2.1] w fun e w' => e = .returned (.bool true) ∧ Below w.heap.size w w' := by
  obtain ⟨A, c, xs⟩ := x
  simp only at hl hs ⊢
  obtain ⟨v, hv⟩ : ∃ v, v = storesPriv xs := ⟨_, rfl⟩
  have himpl := fun A c w hl hs => implStoresPrivate_any A c xs w hl hs
  have hspec := fun A c w hl hs => specStoresPrivate_any A c xs w hl hs
  rw [← hv] at himpl hspec
  have HIM := mkHid himpl
  have HSP := mkHid hspec
  clear hv himpl hspec
  have S0 := mkHid hs
  clear hs
  go_enter Try.func4, Try.ntmps4
  go_wp2_with fail
  refine (szCodeS_any _ _ _ _ _ (by omega) hl).mono ?_
  rintro e w1 ⟨⟨hle, rfl⟩ | ⟨hlt, rfl⟩, rfl⟩
  · go_wp2_with fail
    refine (toCodeS_any _ _ _ _ (by omega) S0.out).mono ?_
    rintro e w1 ⟨A1, c1, rfl, o1, b1⟩
    have S1 := mkHid (Sl.of_own o1)
    have B1 := mkHid b1
    clear o1 b1
    go_wp2_with fail
    refine (HSP.out _ _ _ (by omega) S1.out).mono ?_
    rintro e w2 ⟨rfl, b2⟩
    have B2 := mkHid (below_then B1.out b2)
    clear b2
    go_wp2_with fail
    refine (toCodeS_any _ _ _ _ (by omega) (S0.out.below B2.out)).mono ?_
    rintro e w3 ⟨A3, c3, rfl, o3, b3⟩
    have S3 := mkHid (Sl.of_own o3)
    have B3 := mkHid (below_then B2.out b3)
    clear o3 b3
    go_wp2_with fail
    refine (HIM.out _ _ _ (by omega) S3.out).mono ?_
    rintro e w4 ⟨rfl, b4⟩
    have S34 := mkHid (S3.out.below b4)
    have B4 := mkHid (below_then B3.out b4)
    clear b4
    cases v
    all_goals (
      go_wp2_with fail
      refine (toCodeS_any _ _ _ _ (by omega) (S0.out.below B4.out)).mono ?_
      rintro e w5 ⟨A5, c5, rfl, o5, b5⟩
      have S5 := mkHid (Sl.of_own o5)
      have S35 := mkHid (S34.out.below b5)
      have B5 := mkHid (below_then B4.out b5)
      clear o5 b5
      go_wp2_with fail
      refine (eqCodeS_same _ _ _ _ _ _ (by omega) S35.out S5.out).mono ?_
      rintro e w6 ⟨rfl, b6⟩
      have B6 := mkHid (below_then B5.out b6)
      clear b6
      go_wp2_with fail
      go_ret
      exact ⟨rfl, B6.out⟩)
  · go_wp2_with fail
    go_ret
    exact ⟨rfl, Below.refl _ _⟩
namespace fnExactStoresPrivate
set_option maxRecDepth 100000 in
theorem lifted (os : Os) (started : os.Started) (H : Type) (enc : TypeId × Value → H) :
    ReturnsInHanded {} Try.checked os 4 .any (Rows.fnExactStoresPrivateSpec.pre6 enc Try.prog Try.f4 Rows.fnExactStoresPrivateRow.domain false) (Rows.fnExactStoresPrivateSpec.post enc Try.prog Try.f4 false true false false) := by
  refine returnsInHanded_of_change (C := Try.checked) own started (by kernel_rfl) Try.func4
    (ChangeSpec.witness6 (enc := enc) (C := Try.checked) false ⟨#[], #[.slice none 0 0], []⟩ 8 (by kernel_rfl) (by kernel_rfl) (by kernel_rfl) (by kernel_rfl)) ?_
  intro W base args ds gs before hval0 hW hcnd _
  have hval : ∀ (j : Nat) t v, Try.f4.params[j]? = some t → args[j]? = some v → Value.okWide Try.prog W .any base t v := hval0
  have hW' := hW
  obtain ⟨p, q, hA0, hV, rfl, hfz, hnd⟩ := hW
  have hA : DataW.TrodAll enc Try.prog W 0 (fun _ => true) true Try.f4.params.toList args.toList ds p := hA0
  have hAk : DataW.TrodAll enc Try.prog W 0 (fun _ => true) true Try.f4.params.toList args.toList ds p := hA0
  rw [Try.params4] at hA hval
  obtain ⟨v0, vs0, d0, ds0, p0, q0, hargs, rfl, rfl, h0, r0⟩ := trodAll_cons hA
  obtain ⟨rfl, rfl, rfl⟩ := trodAll_nil r0
  obtain rfl : args = #[v0] := by cases args; simp_all
  obtain ⟨rfl, rfl⟩ := trodVars_none hV
  obtain ⟨x, rx, rfl, sx⟩ := open_codes (hval 0 22 v0 rfl rfl) h0
  clear hA0 hval0
  refine (exactPriv_walk x W rx sx).mono fun e W' ⟨he, hb⟩ => ?_
  subst he
  refine ⟨_, rfl, post_true laidOut (fun t ht => ?_) (by kernel_rfl) Try.underlying4 rfl rfl hW' hAk hb⟩
  rw [Try.params4] at ht
  simp only [List.mem_cons, List.not_mem_nil, or_false] at ht
  first | (rcases ht with rfl <;> exact ⟨by kernel_rfl, of_decide_eq_true (by kernel_rfl)⟩) | (obtain rfl := ht; exact ⟨by kernel_rfl, of_decide_eq_true (by kernel_rfl)⟩)
/-- The statement. -/
theorem proved : Rows.FnExactStoresPrivateSaid :=
  OpenClaim.holds_of_wide 4 Try.f4 rfl rfl rfl rfl rfl rfl rfl ⟨rfl, rfl, rfl, rfl, rfl⟩ rfl rfl rfl rfl rfl (by kernel_rfl) Try.func4 (by kernel_rfl)
    (of_decide_eq_true (by kernel_rfl)) (by unfold Func.isWrapper; first | (rw [if_pos (by decide +kernel)]; kernel_rfl) | (rw [if_neg (by decide +kernel)]; exact ⟨rfl, rfl⟩))
    (fun os started H enc _ => lifted os started H enc)
end fnExactStoresPrivate
#print axioms fnExactStoresPrivate.proved
end Go.Proofs.Ytjgemgjpbanliaa
