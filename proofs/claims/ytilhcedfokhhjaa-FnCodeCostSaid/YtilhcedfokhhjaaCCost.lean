/-
  Contracts of CodeCost, of the program and of the reference.
-/
import Derived.Test.YtilhcedfokhhjaaCCode
namespace Go.Proofs.Ytilhcedfokhhjaa
open Go.RowKit
set_option maxHeartbeats 1000000
set_option linter.unusedVariables false

theorem implCodeCost_any (x : Cd) (w : World) : Calls Try.prog 17 #[cdV x] w fun e w' => e = .returned (.int .i64 (cost x)) ∧ Below w.heap.size w w' := by
  have hB : Below w.heap.size w (w.alloc (.cells #[.int .i64 x.op, .int .i64 x.a, .int .i64 x.b, .int .i64 x.c] 34)) := (Below.refl _ _).alloc (Nat.le_refl _) _
  have hC := implCodeValid_any x (w.alloc (.cells #[.int .i64 x.op, .int .i64 x.a, .int .i64 x.b, .int .i64 x.c] 34))
  obtain ⟨v, hv⟩ : ∃ v, v = codeValid x := ⟨_, rfl⟩
  rw [← hv] at hC
  have HC := mkHid hC
  have HB := mkHid hB
  have HV := mkHid hv
  clear hC hB hv
  cases v
  · go_enter Try.func17, Try.ntmps17
    go_wp2_with fail
    refine HC.out.mono ?_
    rintro e w2 ⟨rfl, b2⟩
    have B2 := mkHid (below_then HB.out b2)
    clear b2
    go_wp2_with fail
    go_ret
    exact ⟨ret_int (by unfold cost; rw [← HV.out]; rfl), B2.out⟩
  · have h' : x.op = 1 ∨ x.op = 2 ∨ x.op = 3 ∨ x.op = 4 ∨ x.op = 5 ∨ x.op = 6 ∨ x.op = 7 ∨ x.op = 8 ∨ x.op = 9 ∨ x.op = 10 ∨ x.op = 11 ∨ x.op = 12 ∨ x.op = 13 ∨ x.op = 14 := by
      have h1 : ¬ (x.op < 1 ∨ 14 < x.op) := fun h => by have := valid_out h; rw [← HV.out] at this; cases this
      omega
    rw [show cost x = costOf x.op by unfold cost; rw [← HV.out]; rfl]
    obtain ⟨op, a, b, c⟩ := x
    simp only at h'
    rcases h' with rfl | rfl | rfl | rfl | rfl | rfl | rfl | rfl | rfl | rfl | rfl | rfl | rfl | rfl
    all_goals (
      go_enter Try.func17, Try.ntmps17
      go_wp2_with fail
      refine HC.out.mono ?_
      rintro e w2 ⟨rfl, b2⟩
      have hc0 := b2.cell (p := ⟨w.heap.size, 0, none⟩) (by simp)
      rw [cell_of_row _ w.heap.size 0 _ _ _ (heap_alloc_new w _)] at hc0
      have B2 := mkHid (below_then HB.out b2)
      clear b2
      simp at hc0
      go_wp2_with fail
      go_ret
      exact ⟨ret_int (by decide), B2.out⟩)
theorem specCodeCost_any (x : Cd) (w : World) : Calls Try.prog 15 #[cdV x] w fun e w' => e = .returned (.int .i64 (cost x)) ∧ Below w.heap.size w w' := by
  have hB : Below w.heap.size w (w.alloc (.cells #[.int .i64 x.op, .int .i64 x.a, .int .i64 x.b, .int .i64 x.c] 34)) := (Below.refl _ _).alloc (Nat.le_refl _) _
  have hC := specCodeValid_any x (w.alloc (.cells #[.int .i64 x.op, .int .i64 x.a, .int .i64 x.b, .int .i64 x.c] 34))
  obtain ⟨v, hv⟩ : ∃ v, v = codeValid x := ⟨_, rfl⟩
  rw [← hv] at hC
  have HC := mkHid hC
  have HB := mkHid hB
  have HV := mkHid hv
  clear hC hB hv
  cases v
  · go_enter Try.func15, Try.ntmps15
    go_wp2_with fail
    refine HC.out.mono ?_
    rintro e w2 ⟨rfl, b2⟩
    have B2 := mkHid (below_then HB.out b2)
    clear b2
    go_wp2_with fail
    go_ret
    exact ⟨ret_int (by unfold cost; rw [← HV.out]; rfl), B2.out⟩
  · have h' : x.op = 1 ∨ x.op = 2 ∨ x.op = 3 ∨ x.op = 4 ∨ x.op = 5 ∨ x.op = 6 ∨ x.op = 7 ∨ x.op = 8 ∨ x.op = 9 ∨ x.op = 10 ∨ x.op = 11 ∨ x.op = 12 ∨ x.op = 13 ∨ x.op = 14 := by
      have h1 : ¬ (x.op < 1 ∨ 14 < x.op) := fun h => by have := valid_out h; rw [← HV.out] at this; cases this
      omega
    rw [show cost x = costOf x.op by unfold cost; rw [← HV.out]; rfl]
    obtain ⟨op, a, b, c⟩ := x
    simp only at h'
    rcases h' with rfl | rfl | rfl | rfl | rfl | rfl | rfl | rfl | rfl | rfl | rfl | rfl | rfl | rfl
    all_goals (
      go_enter Try.func15, Try.ntmps15
      go_wp2_with fail
      refine HC.out.mono ?_
      rintro e w2 ⟨rfl, b2⟩
      have hc0 := b2.cell (p := ⟨w.heap.size, 0, none⟩) (by simp)
      rw [cell_of_row _ w.heap.size 0 _ _ _ (heap_alloc_new w _)] at hc0
      have B2 := mkHid (below_then HB.out b2)
      clear b2
      simp at hc0
      go_wp2_with fail
      go_ret
      exact ⟨ret_int (by decide), B2.out⟩)
end Go.Proofs.Ytilhcedfokhhjaa
