/-
  Proved: FnExactAccessesClash returns true for all arguments.
-/
import Derived.Test.YtmbcfbefhpgcoaaCAcc
import Derived.Test.YtmbcfbefhpgcoaaFrame
import Derived.Lib.SmallJoins
namespace Go.Proofs.Ytmbcfbefhpgcoaa
open Go.ChangeShapes Go.WideShapes Go.ChangeAt Go.RowKit
set_option maxHeartbeats 400000
set_option linter.unusedVariables false

theorem exactClash_walk (a b : Acc) (w : World) (_ : True) (_ : True) (_ : True) (_ : True) :
    Calls Try.prog 3 #[accV a, accV b] w fun e w' => e = .returned (.bool true) ∧ Below w.heap.size w w' := by
  go_enter Try.func3, Try.ntmps3
  go_wp2_with fail
  refine name_world ?_
  intro W hW
  have hb0 : Below w.heap.size w W := by rw [hW]; exact ((Below.refl _ _).alloc (Nat.le_refl _) _).alloc (by simp) _
  have F1 : ∀ (u : Ext W) (j : Nat) (v : Value), (accCells a)[j]? = some v → u.1.cell? ⟨w.heap.size, j, none⟩ = some v := fun u j v h => u.keeps (by
    rw [hW, World.cell?_alloc_past _ _ _ (by simp), cell_of_row _ w.heap.size j _ _ _ (heap_alloc_new w _)]; simpa using h)
  have F2 : ∀ (u : Ext W) (j : Nat) (v : Value), (accCells b)[j]? = some v → u.1.cell? ⟨w.heap.size + 1, j, none⟩ = some v := fun u j v h => u.keeps (by
    rw [hW]; have := heap_alloc_new (w.alloc (.cells #[Value.int .i64 a.who, .int .i64 a.cell, .bool a.write, .int .i64 a.phase] 23)) (.cells #[Value.int .i64 b.who, .int .i64 b.cell, .bool b.write, .int .i64 b.phase] 23)
    rw [show (w.alloc (.cells #[Value.int .i64 a.who, .int .i64 a.cell, .bool a.write, .int .i64 a.phase] 23)).heap.size = w.heap.size + 1 from by simp] at this
    rw [cell_of_row _ (w.heap.size + 1) j _ _ _ this]; simpa using h)
  have G1 : ∀ (X : World) (h : Below W.heap.size W X) (u : Ext X) (j : Nat) (v : Value), (accCells a)[j]? = some v → u.1.cell? ⟨w.heap.size, j, none⟩ = some v := fun X h u j v hv => F1 ⟨u.1, below_then h u.2⟩ j v hv
  have G2 : ∀ (X : World) (h : Below W.heap.size W X) (u : Ext X) (j : Nat) (v : Value), (accCells b)[j]? = some v → u.1.cell? ⟨w.heap.size + 1, j, none⟩ = some v := fun X h u j v hv => F2 ⟨u.1, below_then h u.2⟩ j v hv
  have H1 := mkHid G1
  have H2 := mkHid G2
  clear F1 F2 hW G1 G2
  have a0 := fun u => H1.out W (Below.refl _ _) u 0 _ rfl
  have a1 := fun u => H1.out W (Below.refl _ _) u 1 _ rfl
  have a2 := fun u => H1.out W (Below.refl _ _) u 2 _ rfl
  have a3 := fun u => H1.out W (Below.refl _ _) u 3 _ rfl
  have b0 := fun u => H2.out W (Below.refl _ _) u 0 _ rfl
  have b1 := fun u => H2.out W (Below.refl _ _) u 1 _ rfl
  have b2 := fun u => H2.out W (Below.refl _ _) u 2 _ rfl
  have b3 := fun u => H2.out W (Below.refl _ _) u 3 _ rfl
  refine wp_region_ext (by kernel_rfl) (by kernel_rfl) ?_
  repeat (go_big_quiet_step ((first | (go_at_call 10; first | (with_reducible exact ext_call (toAccess_any a _)) | (with_reducible exact ext_call (toAccess_any b _))) | (go_at_call 9; with_reducible exact ext_call (specClash_any a b _)))))
  refine wpQuiet_nil (ext_end fun X hX => ?_)
  clear a0 a1 a2 a3 b0 b1 b2 b3
  go_wp2_with fail
  have a0 := fun u => H1.out X hX u 0 _ rfl
  have a1 := fun u => H1.out X hX u 1 _ rfl
  have a2 := fun u => H1.out X hX u 2 _ rfl
  have a3 := fun u => H1.out X hX u 3 _ rfl
  have b0 := fun u => H2.out X hX u 0 _ rfl
  have b1 := fun u => H2.out X hX u 1 _ rfl
  have b2 := fun u => H2.out X hX u 2 _ rfl
  have b3 := fun u => H2.out X hX u 3 _ rfl
  refine wp_region_ext (by kernel_rfl) (by kernel_rfl) ?_
  repeat (go_big_quiet_step ((first | (go_at_call 10; first | (with_reducible exact ext_call (toAccess_any a _)) | (with_reducible exact ext_call (toAccess_any b _))) | (go_at_call 11; with_reducible exact ext_call (implClash_any a b _)))))
  refine wpQuiet_nil (ext_end fun Y hY => ?_)
  clear a0 a1 a2 a3 b0 b1 b2 b3
  go_wp2_with fail
  go_ret
  exact ⟨rfl, (hb0.trans (hX.mono hb0.size)).trans (hY.mono (Nat.le_trans hb0.size hX.size))⟩
theorem open_acc {H : Type} {enc : TypeId × Value → H} {W : World} {r : Reach} {b0 base : Nat} {sp : Nat → Bool} {held : Bool} {v : Value} {d : DataW H} {ps : List MemPlace}
    (hv : Value.okWide Try.prog W r b0 23 v) (h : DataW.Trod enc Try.prog W base sp held 23 v d ps) : ∃ a : Acc, ∃ _ : True, v = accV a ∧ True := by
  obtain ⟨v0, v1, v2, v3, y0, y1, y2, y3, n, rfl, _, _, h0, h1, h2, h3⟩ := Go.Joins.open_agg4 Try.underlying23 (by kernel_rfl) (by kernel_rfl) hv h
  obtain ⟨a, e0, _, _⟩ := DataW.trod_int Try.underlying3 h0
  obtain ⟨b, e1, _, _⟩ := DataW.trod_int Try.underlying3 h1
  obtain ⟨c, e2, _⟩ := DataW.trod_bool Try.underlying4 h2
  obtain ⟨p, e3, _, _⟩ := DataW.trod_int Try.underlying3 h3
  simp only [List.cons.injEq, and_true] at e0 e1 e2 e3
  subst e0 e1 e2 e3
  exact ⟨⟨a, b, c, p⟩, trivial, rfl, trivial⟩
namespace fnExactAccessesClash
set_option maxRecDepth 100000 in
theorem lifted (os : Os) (started : os.Started) (H : Type) (enc : TypeId × Value → H) :
    ReturnsInHanded {} Try.checked os 3 .any (Rows.fnExactAccessesClashSpec.pre6 enc Try.prog Try.f3 Rows.fnExactAccessesClashRow.domain false) (Rows.fnExactAccessesClashSpec.post enc Try.prog Try.f3 false true false false) := by
  refine returnsInHanded_of_change (C := Try.checked) own started (by kernel_rfl) Try.func3
    (ChangeSpec.witness6 (enc := enc) (C := Try.checked) false ⟨#[], #[.agg #[.int .i64 0, .int .i64 0, .bool false, .int .i64 0], .agg #[.int .i64 0, .int .i64 0, .bool false, .int .i64 0]], []⟩ 8 (by kernel_rfl) (by kernel_rfl) (by kernel_rfl) (by kernel_rfl)) ?_
  intro W base args ds gs before hval0 hW hcnd _
  have hval : ∀ (j : Nat) t v, Try.f3.params[j]? = some t → args[j]? = some v → Value.okWide Try.prog W .any base t v := hval0
  have hW' := hW
  obtain ⟨p, q, hA0, hV, rfl, hfz, hnd⟩ := hW
  have hA : DataW.TrodAll enc Try.prog W 0 (fun _ => true) true Try.f3.params.toList args.toList ds p := hA0
  have hAk : DataW.TrodAll enc Try.prog W 0 (fun _ => true) true Try.f3.params.toList args.toList ds p := hA0
  rw [Try.params3] at hA hval
  obtain ⟨v0, vs0, d0, ds0, p0, q0, hargs, rfl, rfl, h0, r0⟩ := trodAll_cons hA
  obtain ⟨v1, vs1, d1, ds1, p1, q1, rfl, rfl, rfl, h1, r1⟩ := trodAll_cons r0
  obtain ⟨rfl, rfl, rfl⟩ := trodAll_nil r1
  obtain rfl : args = #[v0, v1] := by cases args; simp_all
  obtain ⟨rfl, rfl⟩ := trodVars_none hV
  obtain ⟨a, ra, rfl, sa⟩ := open_acc (hval 0 23 v0 rfl rfl) h0
  obtain ⟨b, rb, rfl, sb⟩ := open_acc (hval 1 23 v1 rfl rfl) h1
  clear hA0 hval0
  refine (exactClash_walk a b W ra sa rb sb).mono fun e W' ⟨he, hb⟩ => ?_
  subst he
  refine ⟨_, rfl, post_true laidOut (fun t ht => ?_) (by kernel_rfl) Try.underlying4 rfl rfl hW' hAk hb⟩
  rw [Try.params3] at ht
  simp only [List.mem_cons, List.not_mem_nil, or_false] at ht
  first | (rcases ht with rfl | rfl <;> exact ⟨by kernel_rfl, of_decide_eq_true (by kernel_rfl)⟩) | (obtain rfl := ht; exact ⟨by kernel_rfl, of_decide_eq_true (by kernel_rfl)⟩)
/-- The statement. -/
theorem proved : Rows.FnExactAccessesClashSaid :=
  OpenClaim.holds_of_wide 3 Try.f3 rfl rfl rfl rfl rfl rfl rfl ⟨rfl, rfl, rfl, rfl, rfl⟩ rfl rfl rfl rfl rfl (by kernel_rfl) Try.func3 (by kernel_rfl)
    (of_decide_eq_true (by kernel_rfl)) (by unfold Func.isWrapper; first | (rw [if_pos (by decide +kernel)]; kernel_rfl) | (rw [if_neg (by decide +kernel)]; exact ⟨rfl, rfl⟩))
    (fun os started H enc _ => lifted os started H enc)
end fnExactAccessesClash
#print axioms fnExactAccessesClash.proved
end Go.Proofs.Ytmbcfbefhpgcoaa
