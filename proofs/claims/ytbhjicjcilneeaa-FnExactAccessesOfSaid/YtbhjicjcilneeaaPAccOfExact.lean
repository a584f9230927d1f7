/-
  Proved: FnExactAccessesOf returns true for all arguments.
-/
import Derived.Test.YtbhjicjcilneeaaOpenAccs
import Derived.Test.YtbhjicjcilneeaaCMark
import Derived.Test.YtbhjicjcilneeaaCDel2
namespace Go.Proofs.Ytbhjicjcilneeaa
open Go.ChangeShapes Go.WideShapes Go.ChangeAt Go.RowKit
set_option maxHeartbeats 1000000
set_option linter.unusedVariables false

theorem exactOf_walk (x : Option Addr × Nat × List Acc) (s : Int) (w : World) (hl : x.2.2.length ≤ 9223372036854775807) (hs : Sl w x.1 (flat x.2.2)) (hsb : -9223372036854775808 ≤ s ∧ s ≤ 9223372036854775807) :
    Calls Try.prog 5 #[.slice x.1 x.2.2.length x.2.1, .int .i64 s] w fun e w' => e = .returned (.bool true) ∧ Below w.heap.size w w' := by
  obtain ⟨A, c, xs⟩ := x
  simp only at hl hs ⊢
  go_enter Try.func5, Try.ntmps5
  go_wp2_with fail
  refine (szAccessS_any _ _ _ _ _ (by omega) hl).mono ?_
  rintro e w1 ⟨⟨hle, rfl⟩ | ⟨hlt, rfl⟩, rfl⟩
  · have hzl := ofLane_le xs s
    have S0 := mkHid hs
    clear hs
    go_wp2_with fail
    refine (toAccessS_any _ _ _ _ (by omega) S0.out).mono ?_
    rintro e w1 ⟨A1, c1, rfl, o1, b1⟩
    have S1 := mkHid (Sl.of_own o1)
    have B1 := mkHid b1
    clear o1 b1
    go_wp2_with fail
    refine (specAccessesOf_any _ _ _ _ _ (by omega) S1.out).mono ?_
    rintro e w2 ⟨A2, c2, rfl, o2, b2⟩
    have S2 := mkHid (Sl.of_own o2)
    have B02 := mkHid (below_then B1.out b2)
    clear o2 b2
    generalize hZ : ofLane xs s = zs at *
    have HZ := mkHid hZ
    clear hZ
    go_wp2_with fail
    refine (toAccessS_any _ _ _ _ (by omega) (S0.out.below B02.out)).mono ?_
    rintro e w3 ⟨A3, c3, rfl, o3, b3⟩
    have O3 := mkHid o3
    have B3 := mkHid b3
    have hz3 := b3.size
    clear o3 b3
    go_wp2_with fail
    refine (implAccessesOf_any _ _ _ _ _ (by omega) (Sl.of_own O3.out)).mono ?_
    rw [HZ.out]
    rintro e w4 ⟨A4, c4, rfl, o4, b4⟩
    have O4 := mkHid o4
    have O34 := mkHid (own_below O3.out b4)
    have B4 := mkHid (below_then B3.out b4)
    clear o4 b4
    go_wp2_with fail
    refine (eqAccessS_same _ _ _ _ _ _ (by omega) (Sl.of_own O4.out) (S2.out.below B4.out)).mono ?_
    rintro e w5 ⟨rfl, b5⟩
    have B5 := mkHid (below_then B4.out b5)
    have O45 := mkHid (own_below O4.out b5)
    have O35 := mkHid (own_below O34.out b5)
    clear b5
    go_wp2_with fail
    refine (toAccessS_any _ _ _ _ (by omega) (S0.out.below (below_then B02.out B5.out))).mono ?_
    rintro e w6 ⟨A6, c6, rfl, o6, b6⟩
    have S6 := mkHid (Sl.of_own o6)
    have O36 := mkHid (own_below O35.out b6)
    have O46 := mkHid (own_below O45.out b6)
    have B6 := mkHid (below_then B5.out b6)
    clear o6 b6
    go_wp2_with fail
    refine (eqAccessS_same _ _ _ _ _ _ (by omega) (Sl.of_own O36.out) S6.out).mono ?_
    rintro e w7 ⟨rfl, b7⟩
    have O37 := mkHid (own_below O36.out b7)
    have O47 := mkHid (own_below O46.out b7)
    have B7 := mkHid (below_then B6.out b7)
    clear b7
    go_wp2_with fail
    refine (markAccessS_any _ _ _ _ _ _ (by omega) (by omega) (by omega) O37.out).mono ?_
    rintro e w8 ⟨rfl, o8, g8⟩
    have B8 := mkHid (below_grown B7.out g8 (fun g hg => (O37.out.lt g hg).1))
    have O48 := mkHid (own_apart O47.out g8 (fun g hg => (O3.out.lt g hg).2))
    clear o8 g8
    go_wp2_with fail
    refine (eqAccessS_same _ _ _ _ _ _ (by omega) (Sl.of_own O48.out) (S2.out.below B8.out)).mono ?_
    rintro e w9 ⟨rfl, b9⟩
    have B9 := mkHid (below_then B8.out b9)
    have O49 := mkHid (own_below O48.out b9)
    clear b9
    go_wp2_with fail
    refine (markAccessS_any _ _ _ _ _ _ (by omega) (by omega) (by omega) O49.out).mono ?_
    rintro e w10 ⟨rfl, o10, g10⟩
    have O410 := mkHid o10
    have B10 := mkHid (below_grown B9.out g10 (fun g hg => Nat.le_trans hz3 (O49.out.lt g hg).1))
    clear o10 g10
    go_wp2_with fail
    refine (heldAccessS_any _ _ _ _ _ (by omega) (by omega) (by omega) (Sl.of_own O410.out)).mono ?_
    rintro e w11 ⟨rfl, rfl⟩
    go_wp2_with fail
    refine (toAccessS_any _ _ _ _ (by omega) (S0.out.below (below_then B02.out B10.out))).mono ?_
    rintro e w12 ⟨A12, c12, rfl, o12, b12⟩
    have O12 := mkHid o12
    have S412 := mkHid ((Sl.of_own O410.out).below b12)
    have B12 := mkHid (below_then B10.out b12)
    clear o12 b12
    go_wp2_with fail
    refine (implAccessesOf_any _ _ _ _ _ (by omega) (Sl.of_own O12.out)).mono ?_
    rw [HZ.out]
    rintro e w13 ⟨A13, c13, rfl, o13, b13⟩
    have S13 := mkHid (Sl.of_own o13)
    have S413 := mkHid (S412.out.below b13)
    have B13 := mkHid (below_then B12.out b13)
    clear o13 b13
    go_wp2_with fail
    refine (eqAccessS_same _ _ _ _ _ _ (by omega) S13.out (S2.out.below B13.out)).mono ?_
    rintro e w14 ⟨rfl, b14⟩
    have B14 := mkHid (below_then B13.out b14)
    have S414 := mkHid (S413.out.below b14)
    clear b14
    go_wp2_with fail
    refine (heldAccessS_any _ _ _ _ _ (by omega) (by omega) (by omega) S414.out).mono ?_
    rintro e w15 ⟨rfl, rfl⟩
    go_wp2_with fail
    go_ret
    exact ⟨rfl, below_then B02.out B14.out⟩
  · go_wp2_with fail
    go_ret
    exact ⟨rfl, Below.refl _ _⟩
namespace fnExactAccessesOf
set_option maxRecDepth 100000 in
theorem lifted (os : Os) (started : os.Started) (H : Type) (enc : TypeId × Value → H) :
    ReturnsInHanded {} Try.checked os 5 .any (Rows.fnExactAccessesOfSpec.pre6 enc Try.prog Try.f5 Rows.fnExactAccessesOfRow.domain false) (Rows.fnExactAccessesOfSpec.post enc Try.prog Try.f5 false true false false) := by
  refine returnsInHanded_of_change (C := Try.checked) own started (by kernel_rfl) Try.func5
    (ChangeSpec.witness6 (enc := enc) (C := Try.checked) false ⟨#[], #[.slice none 0 0, .int .i64 0], []⟩ 8 (by kernel_rfl) (by kernel_rfl) (by kernel_rfl) (by kernel_rfl)) ?_
  intro W base args ds gs before hval0 hW hcnd _
  have hval : ∀ (j : Nat) t v, Try.f5.params[j]? = some t → args[j]? = some v → Value.okWide Try.prog W .any base t v := hval0
  have hW' := hW
  obtain ⟨p, q, hA0, hV, rfl, hfz, hnd⟩ := hW
  have hA : DataW.TrodAll enc Try.prog W 0 (fun _ => true) true Try.f5.params.toList args.toList ds p := hA0
  have hAk : DataW.TrodAll enc Try.prog W 0 (fun _ => true) true Try.f5.params.toList args.toList ds p := hA0
  rw [Try.params5] at hA hval
  obtain ⟨v0, vs0, d0, ds0, p0, q0, hargs, rfl, rfl, h0, r0⟩ := trodAll_cons hA
  obtain ⟨v1, vs1, d1, ds1, p1, q1, rfl, rfl, rfl, h1, r1⟩ := trodAll_cons r0
  obtain ⟨rfl, rfl, rfl⟩ := trodAll_nil r1
  obtain rfl : args = #[v0, v1] := by cases args; simp_all
  obtain ⟨rfl, rfl⟩ := trodVars_none hV
  obtain ⟨x, rx, rfl, sx⟩ := open_accs (hval 0 22 v0 rfl rfl) h0
  obtain ⟨s, rfl, rfl, rfl, w1⟩ := open_int Try.underlying3 (hval 1 3 v1 rfl rfl) h1
  have w1 := wf_i64_bounds w1
  clear hA0 hval0
  refine (exactOf_walk x s W rx sx w1).mono fun e W' ⟨he, hb⟩ => ?_
  subst he
  refine ⟨_, rfl, post_true laidOut (fun t ht => ?_) (by kernel_rfl) Try.underlying4 rfl rfl hW' hAk hb⟩
  rw [Try.params5] at ht
  simp only [List.mem_cons, List.not_mem_nil, or_false] at ht
  first | (rcases ht with rfl | rfl <;> exact ⟨by kernel_rfl, of_decide_eq_true (by kernel_rfl)⟩) | (obtain rfl := ht; exact ⟨by kernel_rfl, of_decide_eq_true (by kernel_rfl)⟩)
/-- The statement. -/
theorem proved : Rows.FnExactAccessesOfSaid :=
  OpenClaim.holds_of_wide 5 Try.f5 rfl rfl rfl rfl rfl rfl rfl ⟨rfl, rfl, rfl, rfl, rfl⟩ rfl rfl rfl rfl rfl (by kernel_rfl) Try.func5 (by kernel_rfl)
    (of_decide_eq_true (by kernel_rfl)) (by unfold Func.isWrapper; first | (rw [if_pos (by decide +kernel)]; kernel_rfl) | (rw [if_neg (by decide +kernel)]; exact ⟨rfl, rfl⟩))
    (fun os started H enc _ => lifted os started H enc)
end fnExactAccessesOf
#print axioms fnExactAccessesOf.proved
end Go.Proofs.Ytbhjicjcilneeaa
