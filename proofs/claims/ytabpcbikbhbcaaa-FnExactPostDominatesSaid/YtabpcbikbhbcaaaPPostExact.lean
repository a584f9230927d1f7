/-
  Proved: FnExactPostDominates returns true for all arguments.
-/
import Derived.Test.YtabpcbikbhbcaaaOpenRows
import Derived.Test.YtabpcbikbhbcaaaCPost2
namespace Go.Proofs.Ytabpcbikbhbcaaa
open Go.ChangeShapes Go.WideShapes Go.ChangeAt Go.RowKit
set_option maxHeartbeats 800000
set_option linter.unusedVariables false

theorem exactPost_walk (x : Option Addr × Nat × List Row) (a b en : Int) (w : World) (hl : x.2.2.length ≤ 9223372036854775807) (hs : Grid w x.1 x.2.2) (ha : -9223372036854775808 ≤ a ∧ a ≤ 9223372036854775807) (hb : -9223372036854775808 ≤ b ∧ b ≤ 9223372036854775807) (hen : -9223372036854775808 ≤ en ∧ en ≤ 9223372036854775807) :
    Calls Try.prog 9 #[.slice x.1 x.2.2.length x.2.1, .int .i64 a, .int .i64 b, .int .i64 en] w fun e w' => e = .returned (.bool true) ∧ Below w.heap.size w w' := by
  obtain ⟨A, c, rs⟩ := x
  simp only at hl hs ⊢
  have S0 := mkHid hs
  clear hs
  go_enter Try.func9, Try.ntmps9
  go_wp2_with fail
  refine (szIntSS_any _ _ _ _ _ (by omega) hl S0.out).mono ?_
  rintro e w1 ⟨⟨v, rfl, hv0, hv1, hln, hrn⟩ | rfl, rfl⟩
  · have hlz : ∀ z ∈ graph rs, z.length ≤ 9223372036854775807 := fun z hz => by
      obtain ⟨r, hr, rfl⟩ := List.mem_map.1 hz
      have := hrn r hr; omega
    have HZ := mkHid hlz
    have HRN := mkHid (show ∀ r ∈ rs, r.zs.length ≤ 1048576 from fun r hr => by have := hrn r hr; omega)
    have hgl : (graph rs).length = rs.length := by simp
    have HGL := mkHid hgl
    clear hlz hrn hgl
    go_wp2_with fail
    refine (toIntSS_any _ _ _ _ (by omega) HRN.out S0.out).mono ?_
    rintro e w1 ⟨A1, c1, q1, rfl, g1, o1, p1, n1, b1⟩
    have G1 := mkHid (RetRows.grid g1 o1 p1 n1 HZ.out)
    have L1 := mkHid (graph_length g1)
    have E1 := mkHid g1
    have B1 := mkHid b1
    clear g1 o1 p1 n1 b1
    rw [HGL.out] at L1 ⊢
    have hC := specPostDominates_any A1 c1 q1 a b en w1 (by have := L1.out; omega) G1.out
    rw [E1.out, L1.out] at hC
    have HC := mkHid hC
    clear hC
    go_wp2_with fail
    refine HC.out.mono ?_
    rintro e w2 ⟨rfl, b2⟩
    have B2 := mkHid (below_then B1.out b2)
    clear b2
    go_wp2_with fail
    refine (toIntSS_any _ _ _ _ (by omega) HRN.out (S0.out.below B2.out)).mono ?_
    rintro e w3 ⟨A3, c3, q3, rfl, g3, o3, p3, n3, b3⟩
    have G3 := mkHid (RetRows.grid g3 o3 p3 n3 HZ.out)
    have L3 := mkHid (graph_length g3)
    have E3 := mkHid g3
    have B3 := mkHid (below_then B2.out b3)
    clear g3 o3 p3 n3 b3
    rw [HGL.out] at L3 ⊢
    have hC := implPostDominates_any A3 c3 q3 a b en w3 (by have := L3.out; omega) G3.out
    rw [E3.out, L3.out] at hC
    have HC3 := mkHid hC
    clear hC
    go_wp2_with fail
    refine HC3.out.mono ?_
    rintro e w4 ⟨rfl, b4⟩
    have G34 := mkHid (G3.out.below b4)
    have B4 := mkHid (below_then B3.out b4)
    clear b4
    generalize postDom (graph rs) a b en = val at *
    go_wp2_with fail
    refine (toIntSS_any _ _ _ _ (by omega) HRN.out (S0.out.below B4.out)).mono ?_
    rintro e w5 ⟨A5, c5, q5, rfl, g5, o5, p5, n5, b5⟩
    have G5 := mkHid (RetRows.grid g5 o5 p5 n5 HZ.out)
    have G35 := mkHid (G34.out.below b5)
    have L5 := mkHid (graph_length g5)
    have E5 := mkHid g5
    have B5 := mkHid (below_then B4.out b5)
    clear g5 o5 p5 n5 b5
    rw [HGL.out] at L5 ⊢
    have hQ := eqIntSS_same A3 A5 c3 c5 q3 q5 w5 (by have := L3.out; omega) (E3.out.trans E5.out.symm) G35.out G5.out
    rw [L3.out] at hQ
    have HQ := mkHid hQ
    clear hQ
    go_wp2_with fail
    refine HQ.out.mono ?_
    rintro e w6 ⟨rfl, k6, rfl⟩
    have B6 := mkHid (below_drewN B5.out k6)
    generalize w5.drewN k6 = w6 at *
    go_wp2_with fail
    go_ret
    exact ⟨rfl, B6.out⟩
  · go_wp2_with fail
    go_ret
    exact ⟨rfl, Below.refl _ _⟩
namespace fnExactPostDominates
set_option maxRecDepth 100000 in
theorem lifted (os : Os) (started : os.Started) (H : Type) (enc : TypeId × Value → H) :
    ReturnsInHanded {} Try.checked os 9 .any (Rows.fnExactPostDominatesSpec.pre6 enc Try.prog Try.f9 Rows.fnExactPostDominatesRow.domain false) (Rows.fnExactPostDominatesSpec.post enc Try.prog Try.f9 false true false false) := by
  refine returnsInHanded_of_change (C := Try.checked) own started (by kernel_rfl) Try.func9
    (ChangeSpec.witness6 (enc := enc) (C := Try.checked) false ⟨#[], #[.slice none 0 0, .int .i64 0, .int .i64 0, .int .i64 0], []⟩ 8 (by kernel_rfl) (by kernel_rfl) (by kernel_rfl) (by kernel_rfl)) ?_
  intro W base args ds gs before hval0 hW hcnd _
  have hval : ∀ (j : Nat) t v, Try.f9.params[j]? = some t → args[j]? = some v → Value.okWide Try.prog W .any base t v := hval0
  have hW' := hW
  obtain ⟨p, q, hA0, hV, rfl, hfz, hnd⟩ := hW
  have hA : DataW.TrodAll enc Try.prog W 0 (fun _ => true) true Try.f9.params.toList args.toList ds p := hA0
  have hAk : DataW.TrodAll enc Try.prog W 0 (fun _ => true) true Try.f9.params.toList args.toList ds p := hA0
  rw [Try.params9] at hA hval
  obtain ⟨v0, vs0, d0, ds0, p0, q0, hargs, rfl, rfl, h0, r0⟩ := trodAll_cons hA
  obtain ⟨v1, vs1, d1, ds1, p1, q1, rfl, rfl, rfl, h1, r1⟩ := trodAll_cons r0
  obtain ⟨v2, vs2, d2, ds2, p2, q2, rfl, rfl, rfl, h2, r2⟩ := trodAll_cons r1
  obtain ⟨v3, vs3, d3, ds3, p3, q3, rfl, rfl, rfl, h3, r3⟩ := trodAll_cons r2
  obtain ⟨rfl, rfl, rfl⟩ := trodAll_nil r3
  obtain rfl : args = #[v0, v1, v2, v3] := by cases args; simp_all
  obtain ⟨rfl, rfl⟩ := trodVars_none hV
  obtain ⟨x, rx, rfl, sx⟩ := open_rows (hval 0 22 v0 rfl rfl) h0
  obtain ⟨a, rfl, rfl, rfl, w1⟩ := open_int Try.underlying3 (hval 1 3 v1 rfl rfl) h1
  have w1 := wf_i64_bounds w1
  obtain ⟨b, rfl, rfl, rfl, w2⟩ := open_int Try.underlying3 (hval 2 3 v2 rfl rfl) h2
  have w2 := wf_i64_bounds w2
  obtain ⟨en, rfl, rfl, rfl, w3⟩ := open_int Try.underlying3 (hval 3 3 v3 rfl rfl) h3
  have w3 := wf_i64_bounds w3
  clear hA0 hval0
  refine (exactPost_walk x a b en W rx sx w1 w2 w3).mono fun e W' ⟨he, hb⟩ => ?_
  subst he
  refine ⟨_, rfl, post_true laidOut (fun t ht => ?_) (by kernel_rfl) Try.underlying4 rfl rfl hW' hAk hb⟩
  rw [Try.params9] at ht
  simp only [List.mem_cons, List.not_mem_nil, or_false] at ht
  first | (rcases ht with rfl | rfl | rfl | rfl <;> exact ⟨by kernel_rfl, of_decide_eq_true (by kernel_rfl)⟩) | (obtain rfl := ht; exact ⟨by kernel_rfl, of_decide_eq_true (by kernel_rfl)⟩)
/-- The statement. -/
theorem proved : Rows.FnExactPostDominatesSaid :=
  OpenClaim.holds_of_wide 9 Try.f9 rfl rfl rfl rfl rfl rfl rfl ⟨rfl, rfl, rfl, rfl, rfl⟩ rfl rfl rfl rfl rfl (by kernel_rfl) Try.func9 (by kernel_rfl)
    (of_decide_eq_true (by kernel_rfl)) (by unfold Func.isWrapper; first | (rw [if_pos (by decide +kernel)]; kernel_rfl) | (rw [if_neg (by decide +kernel)]; exact ⟨rfl, rfl⟩))
    (fun os started H enc _ => lifted os started H enc)
end fnExactPostDominates
#print axioms fnExactPostDominates.proved
end Go.Proofs.Ytabpcbikbhbcaaa
