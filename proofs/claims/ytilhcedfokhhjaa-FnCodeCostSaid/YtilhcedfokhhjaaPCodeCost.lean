/-
  Proved: FnCodeCost returns true for every code.
-/
import Derived.Test.YtilhcedfokhhjaaDCode2
import Derived.Test.YtilhcedfokhhjaaCCost
import Derived.Test.YtilhcedfokhhjaaFrame
namespace Go.Proofs.Ytilhcedfokhhjaa
open Go.ChangeShapes Go.WideShapes Go.ChangeAt Go.RowKit
set_option maxHeartbeats 1000000
set_option linter.unusedVariables false

theorem costOf_range (op : Int) : 0 ≤ costOf op ∧ costOf op ≤ 4 := by unfold costOf; repeat' split <;> omega
theorem costOf_zero (op : Int) : (costOf op == 0) = (op == 12 || op == 14) := by
  unfold costOf
  by_cases h4 : op = 4
  · subst h4; decide
  · by_cases h8 : op = 8 ∨ op = 9
    · rcases h8 with rfl | rfl <;> decide
    · by_cases h12 : op = 12 ∨ op = 14
      · rcases h12 with rfl | rfl <;> decide
      · rw [if_neg h4, if_neg h8, if_neg h12]
        have a : (op == 12) = false := by rw [beq_eq_false_iff_ne]; omega
        have b : (op == 14) = false := by rw [beq_eq_false_iff_ne]; omega
        rw [a, b]; decide
theorem cost_walk (A : Option Addr) (c : Nat) (zs : List Int) (w : World) (hl : zs.length ≤ 9223372036854775807) (hcap : zs.length ≤ c) (hs : Sl w A (u8s zs)) (hz : ∀ z ∈ zs, 0 ≤ z ∧ z ≤ 255) :
    Calls Try.prog 6 #[.slice A zs.length c] w fun e w' => e = .returned (.bool true) ∧ Below w.heap.size w w' := by
  by_cases hbig : 1048576 < zs.length
  · go_enter Try.func6, Try.ntmps6
    go_wp2_with fail
    go_ret
    exact ⟨rfl, Below.refl _ _⟩
  · go_enter Try.func6, Try.ntmps6
    go_wp2_with fail
    refine (drawCodeCost_any _ _ _ _ hl hcap hs hz).mono ?_
    rintro e w1 ⟨⟨o, a, b, c'⟩, rfl, hsx, b1⟩
    clear hs hz
    have hx2 : Bx (w1.alloc (.cells #[.int .i64 o, .int .i64 a, .int .i64 b, .int .i64 c'] 34)) w1.heap.size ⟨o, a, b, c'⟩ := Bx.new w1 ⟨o, a, b, c'⟩
    have hb2 : Below w.heap.size w (w1.alloc (.cells #[.int .i64 o, .int .i64 a, .int .i64 b, .int .i64 c'] 34)) := b1.alloc b1.size _
    have HX2 := mkHid hx2
    have HB2 := mkHid hb2
    clear hsx b1 hx2 hb2
    obtain ⟨n, hn⟩ : ∃ n, n = cost ⟨o, a, b, c'⟩ := ⟨_, rfl⟩
    obtain ⟨v, hv⟩ : ∃ v, v = codeValid ⟨o, a, b, c'⟩ := ⟨_, rfl⟩
    have HN := mkHid hn
    have HV := mkHid hv
    clear hn hv
    go_wp2_with fail
    generalize hW : w1.alloc (.cells #[.int .i64 o, .int .i64 a, .int .i64 b, .int .i64 c'] 34) = w2 at *
    generalize hG : w1.heap.size = g at *
    clear hW hG
    refine (implCodeCost_any ⟨o, a, b, c'⟩ _).mono ?_
    rw [← HN.out]
    rintro e w3 ⟨rfl, b3⟩
    have HX3 := mkHid (HX2.out.below b3)
    have HB3 := mkHid (below_then HB2.out b3)
    obtain ⟨c0, c1, c2, c3⟩ := HX3.out.cells
    clear b3
    go_wp2_with fail
    refine (specCodeCost_any ⟨o, a, b, c'⟩ _).mono ?_
    rw [← HN.out]
    rintro e w4 ⟨rfl, b4⟩
    have HX4 := mkHid (HX3.out.below b4)
    have HB4 := mkHid (below_then HB3.out b4)
    clear b4 c0 c1 c2 c3
    obtain ⟨c0, c1, c2, c3⟩ := HX4.out.cells
    cases v with
    | false =>
      have h0 : n = -1 := by rw [HN.out]; unfold cost; rw [← HV.out]; rfl
      subst h0
      go_wp2_with fail
      refine (implCodeValid_any ⟨o, a, b, c'⟩ _).mono ?_
      rw [← HV.out]
      rintro e w5 ⟨rfl, b5⟩
      have HX5 := mkHid (HX4.out.below b5)
      have HB5 := mkHid (below_then HB4.out b5)
      clear b5 c0 c1 c2 c3
      obtain ⟨c0, c1, c2, c3⟩ := HX5.out.cells
      go_wp2_with fail
      refine (implCodeValid_any ⟨o, a, b, c'⟩ _).mono ?_
      rw [← HV.out]
      rintro e w6 ⟨rfl, b6⟩
      have HB6 := mkHid (below_then HB5.out b6)
      clear b6 c0 c1 c2 c3
      go_wp2_with fail
      refine (alive_any _).mono ?_
      rintro e w9 ⟨rfl, rfl⟩
      go_wp2_with fail
      go_ret
      exact ⟨rfl, HB6.out⟩
    | true =>
      have h0 : n = costOf o := by rw [HN.out]; unfold cost; rw [← HV.out]; rfl
      have hr := costOf_range o
      have hzr := costOf_zero o
      rw [← h0] at hr hzr
      have m1 : (n == -1) = false := by rw [beq_eq_false_iff_ne]; omega
      have m2 : -1 ≤ n := by omega
      have m3 : n ≤ 4 := hr.2
      clear h0
      by_cases h12 : o = 12
      case' pos =>
        subst h12
        have hzr : (n == 0) = true := by rw [hzr]; decide
      case' neg =>
        have k12 : (o == 12) = false := by simpa using h12
        rw [k12, Bool.false_or] at hzr
        cases h14 : o == 14
      all_goals (
        try rw [h14] at hzr
        go_wp2_with fail
        refine (implCodeValid_any ⟨_, a, b, c'⟩ _).mono ?_
        rw [← HV.out]
        rintro e w5 ⟨rfl, b5⟩
        have HX5 := mkHid (HX4.out.below b5)
        have HB5 := mkHid (below_then HB4.out b5)
        clear b5 c0 c1 c2 c3
        obtain ⟨c0, c1, c2, c3⟩ := HX5.out.cells
        go_wp2_with fail
        refine (implCodeValid_any ⟨_, a, b, c'⟩ _).mono ?_
        rw [← HV.out]
        rintro e w6 ⟨rfl, b6⟩
        have HX6 := mkHid (HX5.out.below b6)
        have HB6 := mkHid (below_then HB5.out b6)
        clear b6 c0 c1 c2 c3
        obtain ⟨c0, c1, c2, c3⟩ := HX6.out.cells
        go_wp2_with fail
        refine (alive_any _).mono ?_
        rintro e w9 ⟨rfl, rfl⟩
        go_wp2_with fail
        go_ret
        exact ⟨rfl, HB6.out⟩)
namespace fnCodeCost
set_option maxRecDepth 100000 in
theorem lifted (os : Os) (started : os.Started) (H : Type) (enc : TypeId × Value → H) :
    ReturnsInHanded {} Try.checked os 6 .any (Rows.fnCodeCostSpec.pre6 enc Try.prog Try.f6 Rows.fnCodeCostRow.domain false) (Rows.fnCodeCostSpec.post enc Try.prog Try.f6 false true false false) := by
  refine returnsInHanded_of_change (C := Try.checked) own started (by kernel_rfl) Try.func6
    (ChangeSpec.witness6 (enc := enc) (C := Try.checked) false ⟨#[], #[.slice none 0 0], []⟩ 8 (by kernel_rfl) (by kernel_rfl) (by kernel_rfl) (by kernel_rfl)) ?_
  intro W base args ds gs before hval0 hW hcnd _
  have hval : ∀ (j : Nat) t v, Try.f6.params[j]? = some t → args[j]? = some v → Value.okWide Try.prog W .any base t v := hval0
  have hW' := hW
  obtain ⟨p, q, hA0, hV, rfl, hfz, hnd⟩ := hW
  have hA : DataW.TrodAll enc Try.prog W 0 (fun _ => true) true Try.f6.params.toList args.toList ds p := hA0
  have hAk : DataW.TrodAll enc Try.prog W 0 (fun _ => true) true Try.f6.params.toList args.toList ds p := hA0
  rw [Try.params6] at hA hval
  obtain ⟨v0, vs0, d0, ds0, p0, q0, hargs, rfl, rfl, h0, r0⟩ := trodAll_cons hA
  obtain ⟨rfl, rfl, rfl⟩ := trodAll_nil r0
  obtain rfl : args = #[v0] := by cases args; simp_all
  obtain ⟨rfl, rfl⟩ := trodVars_none hV
  obtain ⟨Azs, czs, zs, rfl, nzs, kzs, szs, wzs⟩ := open_int_slice Try.underlying26 Try.underlying5 (by kernel_rfl) (hval 0 26 v0 rfl rfl) h0
  have wzs : ∀ z ∈ zs, 0 ≤ z ∧ z ≤ 255 := fun z hz => wf_u8_bounds (wzs z hz)
  clear hA0 hval0
  refine (cost_walk Azs czs zs W nzs kzs szs wzs).mono fun e W' ⟨he, hb⟩ => ?_
  subst he
  refine ⟨_, rfl, post_true laidOut (fun t ht => ?_) (by kernel_rfl) Try.underlying4 rfl rfl hW' hAk hb⟩
  rw [Try.params6] at ht
  simp only [List.mem_cons, List.not_mem_nil, or_false] at ht
  first | (rcases ht with rfl <;> exact ⟨by kernel_rfl, of_decide_eq_true (by kernel_rfl)⟩) | (obtain rfl := ht; exact ⟨by kernel_rfl, of_decide_eq_true (by kernel_rfl)⟩)
/-- The statement. -/
theorem proved : Rows.FnCodeCostSaid :=
  OpenClaim.holds_of_wide 6 Try.f6 rfl rfl rfl rfl rfl rfl rfl ⟨rfl, rfl, rfl, rfl, rfl⟩ rfl rfl rfl rfl rfl (by kernel_rfl) Try.func6 (by kernel_rfl)
    (of_decide_eq_true (by kernel_rfl)) (by unfold Func.isWrapper; first | (rw [if_pos (by decide +kernel)]; kernel_rfl) | (rw [if_neg (by decide +kernel)]; exact ⟨rfl, rfl⟩))
    (fun os started H enc _ => lifted os started H enc)
end fnCodeCost
#print axioms fnCodeCost.proved
end Go.Proofs.Ytilhcedfokhhjaa
