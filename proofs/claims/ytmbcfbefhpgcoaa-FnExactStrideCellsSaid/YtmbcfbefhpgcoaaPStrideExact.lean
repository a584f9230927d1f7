/-
  Proved: FnExactStrideCells returns true for all arguments.
-/
import Derived.Test.YtmbcfbefhpgcoaaCStride
import Derived.Test.YtmbcfbefhpgcoaaFrame
namespace Go.Proofs.Ytmbcfbefhpgcoaa
open Go.ChangeShapes Go.WideShapes Go.ChangeAt Go.RowKit
set_option maxHeartbeats 400000
set_option linter.unusedVariables false

theorem stride_len (b s l : Int) : (strideCells b s l).length ≤ 8 := by
  unfold strideCells
  split
  · rename_i h
    simp only [Bool.and_eq_true] at h
    have := inB_t h.2
    simp [strideUpto_length]; omega
  · simp
theorem exactStride_walk (b s l : Int) (_ : -9223372036854775808 ≤ b ∧ b ≤ 9223372036854775807) (_ : -9223372036854775808 ≤ s ∧ s ≤ 9223372036854775807) (_ : -9223372036854775808 ≤ l ∧ l ≤ 9223372036854775807) (w : World) :
    Calls Try.prog 7 #[.int .i64 b, .int .i64 s, .int .i64 l] w fun e w' => e = .returned (.bool true) ∧ Below w.heap.size w w' := by
  have hlen := stride_len b s l
  go_enter Try.func7, Try.ntmps7
  go_wp2_with fail
  refine (specStrideCells_any _ _ _ _).mono ?_
  rintro e w1 ⟨A1, c1, rfl, o1, b1⟩
  go_wp2_with fail
  refine (implStrideCells_any _ _ _ _).mono ?_
  rintro e w2 ⟨A2, c2, rfl, o2, b2⟩
  have s1 := Sl.of_own o1
  go_wp2_with fail
  refine (eqIntS_same _ _ _ _ _ _ (by omega) (Sl.of_own o2) (s1.below b2)).mono ?_
  rintro e w3 ⟨rfl, k3, rfl⟩
  go_wp2_with fail
  have o3 := own_drewN o2 k3
  refine (markIntS_any _ _ _ _ _ _ (by omega) (by omega) (by omega) o3).mono ?_
  rintro e w4 ⟨rfl, o4, g4⟩
  have s4 := s1.apart (below_drewN b2 k3) (Nat.le_refl _) o3 g4
  have b4 := below_grown (below_drewN (below_then b1 b2) k3) g4 (fun g hg => Nat.le_trans b1.size (o2.lt g hg).1)
  go_wp2_with fail
  refine (heldIntS_any _ _ _ _ _ (by omega) (by omega) (by omega) (Sl.of_own o4)).mono ?_
  rintro e w5 ⟨rfl, rfl⟩
  go_wp2_with fail
  refine (implStrideCells_any _ _ _ _).mono ?_
  rintro e w5 ⟨A5, c5, rfl, o5, b5⟩
  go_wp2_with fail
  refine (eqIntS_same _ _ _ _ _ _ (by omega) (Sl.of_own o5) (s4.below b5)).mono ?_
  rintro e w6 ⟨rfl, k6, rfl⟩
  go_wp2_with fail
  refine (heldIntS_any _ _ _ _ _ (by omega) (by omega) (by omega) (((Sl.of_own o4).below b5).drewN k6)).mono ?_
  rintro e w7 ⟨rfl, rfl⟩
  go_wp2_with fail
  go_ret
  exact ⟨rfl, below_drewN (below_then b4 b5) k6⟩
namespace fnExactStrideCells
set_option maxRecDepth 100000 in
theorem lifted (os : Os) (started : os.Started) (H : Type) (enc : TypeId × Value → H) :
    ReturnsInHanded {} Try.checked os 7 .any (Rows.fnExactStrideCellsSpec.pre6 enc Try.prog Try.f7 Rows.fnExactStrideCellsRow.domain false) (Rows.fnExactStrideCellsSpec.post enc Try.prog Try.f7 false true false false) := by
  refine returnsInHanded_of_change (C := Try.checked) own started (by kernel_rfl) Try.func7
    (ChangeSpec.witness6 (enc := enc) (C := Try.checked) false ⟨#[], #[.int .i64 0, .int .i64 0, .int .i64 0], []⟩ 8 (by kernel_rfl) (by kernel_rfl) (by kernel_rfl) (by kernel_rfl)) ?_
  intro W base args ds gs before hval0 hW hcnd _
  have hval : ∀ (j : Nat) t v, Try.f7.params[j]? = some t → args[j]? = some v → Value.okWide Try.prog W .any base t v := hval0
  have hW' := hW
  obtain ⟨p, q, hA0, hV, rfl, hfz, hnd⟩ := hW
  have hA : DataW.TrodAll enc Try.prog W 0 (fun _ => true) true Try.f7.params.toList args.toList ds p := hA0
  have hAk : DataW.TrodAll enc Try.prog W 0 (fun _ => true) true Try.f7.params.toList args.toList ds p := hA0
  rw [Try.params7] at hA hval
  obtain ⟨v0, vs0, d0, ds0, p0, q0, hargs, rfl, rfl, h0, r0⟩ := trodAll_cons hA
  obtain ⟨v1, vs1, d1, ds1, p1, q1, rfl, rfl, rfl, h1, r1⟩ := trodAll_cons r0
  obtain ⟨v2, vs2, d2, ds2, p2, q2, rfl, rfl, rfl, h2, r2⟩ := trodAll_cons r1
  obtain ⟨rfl, rfl, rfl⟩ := trodAll_nil r2
  obtain rfl : args = #[v0, v1, v2] := by cases args; simp_all
  obtain ⟨rfl, rfl⟩ := trodVars_none hV
  obtain ⟨b, rfl, rfl, rfl, w0⟩ := open_int Try.underlying3 (hval 0 3 v0 rfl rfl) h0
  have w0 := wf_i64_bounds w0
  obtain ⟨s, rfl, rfl, rfl, w1⟩ := open_int Try.underlying3 (hval 1 3 v1 rfl rfl) h1
  have w1 := wf_i64_bounds w1
  obtain ⟨l, rfl, rfl, rfl, w2⟩ := open_int Try.underlying3 (hval 2 3 v2 rfl rfl) h2
  have w2 := wf_i64_bounds w2
  clear hA0 hval0
  refine (exactStride_walk b s l w0 w1 w2 W).mono fun e W' ⟨he, hb⟩ => ?_
  subst he
  refine ⟨_, rfl, post_true laidOut (fun t ht => ?_) (by kernel_rfl) Try.underlying4 rfl rfl hW' hAk hb⟩
  rw [Try.params7] at ht
  simp only [List.mem_cons, List.not_mem_nil, or_false] at ht
  first | (rcases ht with rfl | rfl | rfl <;> exact ⟨by kernel_rfl, of_decide_eq_true (by kernel_rfl)⟩) | (obtain rfl := ht; exact ⟨by kernel_rfl, of_decide_eq_true (by kernel_rfl)⟩)
/-- The statement. -/
theorem proved : Rows.FnExactStrideCellsSaid :=
  OpenClaim.holds_of_wide 7 Try.f7 rfl rfl rfl rfl rfl rfl rfl ⟨rfl, rfl, rfl, rfl, rfl⟩ rfl rfl rfl rfl rfl (by kernel_rfl) Try.func7 (by kernel_rfl)
    (of_decide_eq_true (by kernel_rfl)) (by unfold Func.isWrapper; first | (rw [if_pos (by decide +kernel)]; kernel_rfl) | (rw [if_neg (by decide +kernel)]; exact ⟨rfl, rfl⟩))
    (fun os started H enc _ => lifted os started H enc)
end fnExactStrideCells
#print axioms fnExactStrideCells.proved
end Go.Proofs.Ytmbcfbefhpgcoaa
