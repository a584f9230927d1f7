/-
  Proved: FnExactFirstRace returns true for all arguments.
-/
import Derived.Test.YtbhjicjcilneeaaOpenAccs
import Derived.Test.YtbhjicjcilneeaaCRace
namespace Go.Proofs.Ytbhjicjcilneeaa
open Go.ChangeShapes Go.WideShapes Go.ChangeAt Go.RowKit
set_option maxHeartbeats 400000
set_option linter.unusedVariables false

theorem exactRace_walk (x : Option Addr × Nat × List Acc) (w : World) (hl : x.2.2.length ≤ 9223372036854775807) (hs : Sl w x.1 (flat x.2.2)) :
    Calls Try.prog 3 #[.slice x.1 x.2.2.length x.2.1] w fun e w' => e = .returned (.bool true) ∧ Below w.heap.size w w' := by
  obtain ⟨A, c, xs⟩ := x
  simp only at hl hs ⊢
  go_enter Try.func3, Try.ntmps3
  go_wp2_with fail
  refine (szAccessS_any _ _ _ _ _ (by omega) hl).mono ?_
  rintro e w1 ⟨⟨hle, rfl⟩ | ⟨hlt, rfl⟩, rfl⟩
  · go_wp2_with fail
    refine (toAccessS_any _ _ _ _ (by omega) hs).mono ?_
    rintro e w1 ⟨A1, c1, rfl, o1, b1⟩
    go_wp2_with fail
    refine (specFirstRace_any _ _ _ _ (by omega) (Sl.of_own o1)).mono ?_
    rintro e w2 ⟨i, j, f, rfl, hR, b2⟩
    have HR := mkHid hR
    clear hR
    go_wp2_with fail
    refine (toAccessS_any _ _ _ _ (by omega) ((hs.below b1).below b2)).mono ?_
    rintro e w3 ⟨A3, c3, rfl, o3, b3⟩
    go_wp2_with fail
    refine (implFirstRace_any _ _ _ _ (by omega) (own_cap o3) (Sl.of_own o3)).mono ?_
    rintro e w4 ⟨i', j', f', rfl, hR', b4⟩
    obtain ⟨rfl, rfl, rfl⟩ := HR.out.unique hR'
    clear hR'
    go_wp2_with fail
    refine (toAccessS_any _ _ _ _ (by omega) ((((hs.below b1).below b2).below b3).below b4)).mono ?_
    rintro e w5 ⟨A5, c5, rfl, o5, b5⟩
    go_wp2_with fail
    refine (eqAccessS_same _ _ _ _ _ _ (by omega) (((Sl.of_own o3).below b4).below b5) (Sl.of_own o5)).mono ?_
    rintro e w6 ⟨rfl, b6⟩
    go_wp2_with fail
    go_ret
    exact ⟨rfl, below_then b1 (below_then b2 (below_then b3 (below_then b4 (below_then b5 b6))))⟩
  · go_wp2_with fail
    go_ret
    exact ⟨rfl, Below.refl _ _⟩
namespace fnExactFirstRace
set_option maxRecDepth 100000 in
theorem lifted (os : Os) (started : os.Started) (H : Type) (enc : TypeId × Value → H) :
    ReturnsInHanded {} Try.checked os 3 .any (Rows.fnExactFirstRaceSpec.pre6 enc Try.prog Try.f3 Rows.fnExactFirstRaceRow.domain false) (Rows.fnExactFirstRaceSpec.post enc Try.prog Try.f3 false true false false) := by
  refine returnsInHanded_of_change (C := Try.checked) own started (by kernel_rfl) Try.func3
    (ChangeSpec.witness6 (enc := enc) (C := Try.checked) false ⟨#[], #[.slice none 0 0], []⟩ 8 (by kernel_rfl) (by kernel_rfl) (by kernel_rfl) (by kernel_rfl)) ?_
  intro W base args ds gs before hval0 hW hcnd _
  have hval : ∀ (j : Nat) t v, Try.f3.params[j]? = some t → args[j]? = some v → Value.okWide Try.prog W .any base t v := hval0
  have hW' := hW
  obtain ⟨p, q, hA0, hV, rfl, hfz, hnd⟩ := hW
  have hA : DataW.TrodAll enc Try.prog W 0 (fun _ => true) true Try.f3.params.toList args.toList ds p := hA0
  have hAk : DataW.TrodAll enc Try.prog W 0 (fun _ => true) true Try.f3.params.toList args.toList ds p := hA0
  rw [Try.params3] at hA hval
  obtain ⟨v0, vs0, d0, ds0, p0, q0, hargs, rfl, rfl, h0, r0⟩ := trodAll_cons hA
  obtain ⟨rfl, rfl, rfl⟩ := trodAll_nil r0
  obtain rfl : args = #[v0] := by cases args; simp_all
  obtain ⟨rfl, rfl⟩ := trodVars_none hV
  obtain ⟨x, rx, rfl, sx⟩ := open_accs (hval 0 22 v0 rfl rfl) h0
  clear hA0 hval0
  refine (exactRace_walk x W rx sx).mono fun e W' ⟨he, hb⟩ => ?_
  subst he
  refine ⟨_, rfl, post_true laidOut (fun t ht => ?_) (by kernel_rfl) Try.underlying4 rfl rfl hW' hAk hb⟩
  rw [Try.params3] at ht
  simp only [List.mem_cons, List.not_mem_nil, or_false] at ht
  first | (rcases ht with rfl <;> exact ⟨by kernel_rfl, of_decide_eq_true (by kernel_rfl)⟩) | (obtain rfl := ht; exact ⟨by kernel_rfl, of_decide_eq_true (by kernel_rfl)⟩)
/-- The statement. -/
theorem proved : Rows.FnExactFirstRaceSaid :=
  OpenClaim.holds_of_wide 3 Try.f3 rfl rfl rfl rfl rfl rfl rfl ⟨rfl, rfl, rfl, rfl, rfl⟩ rfl rfl rfl rfl rfl (by kernel_rfl) Try.func3 (by kernel_rfl)
    (of_decide_eq_true (by kernel_rfl)) (by unfold Func.isWrapper; first | (rw [if_pos (by decide +kernel)]; kernel_rfl) | (rw [if_neg (by decide +kernel)]; exact ⟨rfl, rfl⟩))
    (fun os started H enc _ => lifted os started H enc)
end fnExactFirstRace
#print axioms fnExactFirstRace.proved
end Go.Proofs.Ytbhjicjcilneeaa
