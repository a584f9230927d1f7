/-
  Proved: FnExactPhaseCount returns true for all arguments.
-/
import Derived.Test.YtmbcfbefhpgcoabOpenAccs
namespace Go.Proofs.Ytmbcfbefhpgcoab
open Go.ChangeShapes Go.WideShapes Go.ChangeAt Go.RowKit
set_option maxHeartbeats 400000
set_option linter.unusedVariables false

theorem exactPhase_walk (x : Option Addr × Nat × List Acc) (p : Int) (w : World) (hl : x.2.2.length ≤ 9223372036854775807) (hs : Sl w x.1 (flat x.2.2)) (_ : -9223372036854775808 ≤ p ∧ p ≤ 9223372036854775807) :
    Calls Try.prog 5 #[.slice x.1 x.2.2.length x.2.1, .int .i64 p] w fun e w' => e = .returned (.bool true) ∧ Below w.heap.size w w' := by
  obtain ⟨A, c, xs⟩ := x
  simp only at hl hs ⊢
  go_enter Try.func5, Try.ntmps5
  go_wp2_with fail
  refine (szAccessS_any _ _ _ _ _ (by omega) hl).mono ?_
  rintro e w1 ⟨⟨hle, rfl⟩ | ⟨hlt, rfl⟩, rfl⟩
  · go_wp2_with fail
    refine (toAccessS_any _ _ _ _ (by omega) hs).mono ?_
    rintro e w1 ⟨A1, c1, rfl, o1, b1⟩
    go_wp2_with fail
    refine (specPhaseCount_any _ _ _ _ _ (by omega) (Sl.of_own o1)).mono ?_
    rintro e w2 ⟨rfl, rfl⟩
    go_wp2_with fail
    refine (toAccessS_any _ _ _ _ (by omega) (hs.below b1)).mono ?_
    rintro e w2 ⟨A2, c2, rfl, o2, b2⟩
    go_wp2_with fail
    refine (implPhaseCount_any _ _ _ _ _ (by omega) (Sl.of_own o2)).mono ?_
    rintro e w3 ⟨rfl, b3⟩
    go_wp2_with fail
    refine (toAccessS_any _ _ _ _ (by omega) (((hs.below b1).below b2).below b3)).mono ?_
    rintro e w4 ⟨A4, c4, rfl, o4, b4⟩
    go_wp2_with fail
    refine (eqAccessS_same _ _ _ _ _ _ (by omega) (((Sl.of_own o2).below b3).below b4) (Sl.of_own o4)).mono ?_
    rintro e w5 ⟨rfl, b5⟩
    go_wp2_with fail
    go_ret
    exact ⟨rfl, below_then b1 (below_then b2 (below_then b3 (below_then b4 b5)))⟩
  · go_wp2_with fail
    go_ret
    exact ⟨rfl, Below.refl _ _⟩
namespace fnExactPhaseCount
set_option maxRecDepth 100000 in
theorem lifted (os : Os) (started : os.Started) (H : Type) (enc : TypeId × Value → H) :
    ReturnsInHanded {} Try.checked os 5 .any (Rows.fnExactPhaseCountSpec.pre6 enc Try.prog Try.f5 Rows.fnExactPhaseCountRow.domain false) (Rows.fnExactPhaseCountSpec.post enc Try.prog Try.f5 false true false false) := by
  refine returnsInHanded_of_change (C := Try.checked) own started (by kernel_rfl) Try.func5
    (ChangeSpec.witness6 (enc := enc) (C := Try.checked) false ⟨#[], #[.slice none 0 0, .int .i64 0], []⟩ 8 (by kernel_rfl) (by kernel_rfl) (by kernel_rfl) (by kernel_rfl)) ?_
  intro W base args ds gs before hval0 hW hcnd _
  have hval : ∀ (j : Nat) t v, Try.f5.params[j]? = some t → args[j]? = some v → Value.okWide Try.prog W .any base t v := hval0
  have hW' := hW
  obtain ⟨p, q, hA0, hV, rfl, hfz, hnd⟩ := hW
  have hA : DataW.TrodAll enc Try.prog W 0 (fun _ => true) true Try.f5.params.toList args.toList ds p := hA0
  have hAk : DataW.TrodAll enc Try.prog W 0 (fun _ => true) true Try.f5.params.toList args.toList ds p := hA0
  rw [Try.params5] at hA hval
  obtain ⟨v0, vs0, d0, ds0, p0, q0, hargs, rfl, rfl, h0, r0⟩ := trodAll_cons hA
  obtain ⟨v1, vs1, d1, ds1, p1, q1, rfl, rfl, rfl, h1, r1⟩ := trodAll_cons r0
  obtain ⟨rfl, rfl, rfl⟩ := trodAll_nil r1
  obtain rfl : args = #[v0, v1] := by cases args; simp_all
  obtain ⟨rfl, rfl⟩ := trodVars_none hV
  obtain ⟨x, rx, rfl, sx⟩ := open_accs (hval 0 32 v0 rfl rfl) h0
  obtain ⟨p, rfl, rfl, rfl, w1⟩ := open_int Try.underlying3 (hval 1 3 v1 rfl rfl) h1
  have w1 := wf_i64_bounds w1
  clear hA0 hval0
  refine (exactPhase_walk x p W rx sx w1).mono fun e W' ⟨he, hb⟩ => ?_
  subst he
  refine ⟨_, rfl, post_true laidOut (fun t ht => ?_) (by kernel_rfl) Try.underlying4 rfl rfl hW' hAk hb⟩
  rw [Try.params5] at ht
  simp only [List.mem_cons, List.not_mem_nil, or_false] at ht
  first | (rcases ht with rfl | rfl <;> exact ⟨by kernel_rfl, of_decide_eq_true (by kernel_rfl)⟩) | (obtain rfl := ht; exact ⟨by kernel_rfl, of_decide_eq_true (by kernel_rfl)⟩)
/-- The statement. -/
theorem proved : Rows.FnExactPhaseCountSaid :=
  OpenClaim.holds_of_wide 5 Try.f5 rfl rfl rfl rfl rfl rfl rfl ⟨rfl, rfl, rfl, rfl, rfl⟩ rfl rfl rfl rfl rfl (by kernel_rfl) Try.func5 (by kernel_rfl)
    (of_decide_eq_true (by kernel_rfl)) (by unfold Func.isWrapper; first | (rw [if_pos (by decide +kernel)]; kernel_rfl) | (rw [if_neg (by decide +kernel)]; exact ⟨rfl, rfl⟩))
    (fun os started H enc _ => lifted os started H enc)
end fnExactPhaseCount
#print axioms fnExactPhaseCount.proved
end Go.Proofs.Ytmbcfbefhpgcoab
