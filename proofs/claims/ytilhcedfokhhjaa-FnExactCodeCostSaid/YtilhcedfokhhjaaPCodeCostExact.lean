/-
  Proved: FnExactCodeCost returns true for all arguments.
-/
import Derived.Test.YtilhcedfokhhjaaCCost
import Derived.Test.YtilhcedfokhhjaaFrame
import Derived.Lib.SmallJoins
namespace Go.Proofs.Ytilhcedfokhhjaa
open Go.ChangeShapes Go.WideShapes Go.ChangeAt Go.RowKit
set_option maxHeartbeats 400000
set_option linter.unusedVariables false

theorem box_cells (w : World) (x : Cd) (t : TypeId) (w' : World) (hb : Below (w.heap.size + 1) (w.alloc (.cells #[.int .i64 x.op, .int .i64 x.a, .int .i64 x.b, .int .i64 x.c] t)) w') :
    w'.cell? ⟨w.heap.size, 0, none⟩ = some (.int .i64 x.op) ∧ w'.cell? ⟨w.heap.size, 1, none⟩ = some (.int .i64 x.a) ∧ w'.cell? ⟨w.heap.size, 2, none⟩ = some (.int .i64 x.b) ∧ w'.cell? ⟨w.heap.size, 3, none⟩ = some (.int .i64 x.c) := by
  refine ⟨?_, ?_, ?_, ?_⟩
  all_goals (
    rw [hb.cell (by simp), cell_of_row _ w.heap.size _ _ _ _ (heap_alloc_new w _)]
    rfl)
theorem exactCost_walk (x : Cd) (w : World) (_ : True) (_ : True) :
    Calls Try.prog 5 #[cdV x] w fun e w' => e = .returned (.bool true) ∧ Below w.heap.size w w' := by
  have hB : Below w.heap.size w (w.alloc (.cells #[.int .i64 x.op, .int .i64 x.a, .int .i64 x.b, .int .i64 x.c] 32)) := (Below.refl _ _).alloc (Nat.le_refl _) _
  have hX := box_cells w x 32
  have HB := mkHid hB
  have HX := mkHid hX
  clear hB hX
  go_enter Try.func5, Try.ntmps5
  go_wp2_with fail
  refine (toCode_any x _).mono ?_
  rintro e w1 ⟨rfl, b1⟩
  have B1 := mkHid b1
  clear b1
  go_wp2_with fail
  refine (specCodeCost_any x _).mono ?_
  rintro e w2 ⟨rfl, b2⟩
  have B2 := mkHid (below_then B1.out b2)
  clear b2 B1
  have hC := HX.out w2 (by have := B2.out; simpa using this)
  obtain ⟨c0, c1, c2, c3⟩ := hC
  go_wp2_with fail
  refine (toCode_any x _).mono ?_
  rintro e w3 ⟨rfl, b3⟩
  have B3 := mkHid (below_then B2.out b3)
  clear b3 B2 c0 c1 c2 c3
  go_wp2_with fail
  refine (implCodeCost_any x _).mono ?_
  rintro e w4 ⟨rfl, b4⟩
  have B4 := mkHid (below_then B3.out b4)
  clear b4 B3
  generalize cost x = v at *
  go_wp2_with fail
  go_ret
  exact ⟨rfl, below_then HB.out B4.out⟩
theorem open_code {H : Type} {enc : TypeId × Value → H} {W : World} {r : Reach} {b0 base : Nat} {sp : Nat → Bool} {held : Bool} {v : Value} {d : DataW H} {ps : List MemPlace}
    (hv : Value.okWide Try.prog W r b0 32 v) (h : DataW.Trod enc Try.prog W base sp held 32 v d ps) : ∃ a : Cd, ∃ _ : True, v = cdV a ∧ True := by
  obtain ⟨v0, v1, v2, v3, y0, y1, y2, y3, n, rfl, _, _, h0, h1, h2, h3⟩ := Go.Joins.open_agg4 Try.underlying32 (by kernel_rfl) (by kernel_rfl) hv h
  obtain ⟨z0, e0, _, _⟩ := DataW.trod_int Try.underlying3 h0
  obtain ⟨z1, e1, _, _⟩ := DataW.trod_int Try.underlying3 h1
  obtain ⟨z2, e2, _, _⟩ := DataW.trod_int Try.underlying3 h2
  obtain ⟨z3, e3, _, _⟩ := DataW.trod_int Try.underlying3 h3
  simp only [List.cons.injEq, and_true] at e0 e1 e2 e3
  subst e0 e1 e2 e3
  exact ⟨⟨z0, z1, z2, z3⟩, trivial, rfl, trivial⟩
namespace fnExactCodeCost
set_option maxRecDepth 100000 in
theorem lifted (os : Os) (started : os.Started) (H : Type) (enc : TypeId × Value → H) :
    ReturnsInHanded {} Try.checked os 5 .any (Rows.fnExactCodeCostSpec.pre6 enc Try.prog Try.f5 Rows.fnExactCodeCostRow.domain false) (Rows.fnExactCodeCostSpec.post enc Try.prog Try.f5 false true false false) := by
  refine returnsInHanded_of_change (C := Try.checked) own started (by kernel_rfl) Try.func5
    (ChangeSpec.witness6 (enc := enc) (C := Try.checked) false ⟨#[], #[.agg #[.int .i64 0, .int .i64 0, .int .i64 0, .int .i64 0]], []⟩ 8 (by kernel_rfl) (by kernel_rfl) (by kernel_rfl) (by kernel_rfl)) ?_
  intro W base args ds gs before hval0 hW hcnd _
  have hval : ∀ (j : Nat) t v, Try.f5.params[j]? = some t → args[j]? = some v → Value.okWide Try.prog W .any base t v := hval0
  have hW' := hW
  obtain ⟨p, q, hA0, hV, rfl, hfz, hnd⟩ := hW
  have hA : DataW.TrodAll enc Try.prog W 0 (fun _ => true) true Try.f5.params.toList args.toList ds p := hA0
  have hAk : DataW.TrodAll enc Try.prog W 0 (fun _ => true) true Try.f5.params.toList args.toList ds p := hA0
  rw [Try.params5] at hA hval
  obtain ⟨v0, vs0, d0, ds0, p0, q0, hargs, rfl, rfl, h0, r0⟩ := trodAll_cons hA
  obtain ⟨rfl, rfl, rfl⟩ := trodAll_nil r0
  obtain rfl : args = #[v0] := by cases args; simp_all
  obtain ⟨rfl, rfl⟩ := trodVars_none hV
  obtain ⟨x, rx, rfl, sx⟩ := open_code (hval 0 32 v0 rfl rfl) h0
  clear hA0 hval0
  refine (exactCost_walk x W rx sx).mono fun e W' ⟨he, hb⟩ => ?_
  subst he
  refine ⟨_, rfl, post_true laidOut (fun t ht => ?_) (by kernel_rfl) Try.underlying4 rfl rfl hW' hAk hb⟩
  rw [Try.params5] at ht
  simp only [List.mem_cons, List.not_mem_nil, or_false] at ht
  first | (rcases ht with rfl <;> exact ⟨by kernel_rfl, of_decide_eq_true (by kernel_rfl)⟩) | (obtain rfl := ht; exact ⟨by kernel_rfl, of_decide_eq_true (by kernel_rfl)⟩)
/-- The statement. -/
theorem proved : Rows.FnExactCodeCostSaid :=
  OpenClaim.holds_of_wide 5 Try.f5 rfl rfl rfl rfl rfl rfl rfl ⟨rfl, rfl, rfl, rfl, rfl⟩ rfl rfl rfl rfl rfl (by kernel_rfl) Try.func5 (by kernel_rfl)
    (of_decide_eq_true (by kernel_rfl)) (by unfold Func.isWrapper; first | (rw [if_pos (by decide +kernel)]; kernel_rfl) | (rw [if_neg (by decide +kernel)]; exact ⟨rfl, rfl⟩))
    (fun os started H enc _ => lifted os started H enc)
end fnExactCodeCost
#print axioms fnExactCodeCost.proved
end Go.Proofs.Ytilhcedfokhhjaa
