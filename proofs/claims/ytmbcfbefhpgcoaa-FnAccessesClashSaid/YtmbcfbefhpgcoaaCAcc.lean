/-
  Contracts on one access: toAccess, AccessesClash of the program and of the reference.
-/
import Derived.Test.YtmbcfbefhpgcoaaRows
import Derived.Test.YtmbcfbefhpgcoaaLib
namespace Go.Proofs.Ytmbcfbefhpgcoaa
open Go.RowKit
set_option maxHeartbeats 400000
set_option linter.unusedVariables false

structure Acc where
  who : Int
  cell : Int
  write : Bool
  phase : Int
  deriving DecidableEq

abbrev accCells (a : Acc) : List Value := [.int .i64 a.who, .int .i64 a.cell, .bool a.write, .int .i64 a.phase]
abbrev accV (a : Acc) : Value := .agg #[.int .i64 a.who, .int .i64 a.cell, .bool a.write, .int .i64 a.phase]
def clash (a b : Acc) : Bool := (a.phase == b.phase) && (a.who != b.who) && (a.cell == b.cell) && (a.write || b.write)

theorem toAccess_any (a : Acc) (w : World) : Calls Try.prog 10 #[accV a] w fun e w' => e = .returned (accV a) ∧ Below w.heap.size w w' := by
  obtain ⟨x, y, b, p⟩ := a
  go_enter Try.func10, Try.ntmps10
  go_wp2
  refine bodyPost_ret (v := accV ⟨x, y, b, p⟩) (by simp [results, Try.results10, go_sem]) rfl ⟨rfl, ?_⟩
  exact (((Below.refl _ _).alloc (Nat.le_refl _) _).alloc (by simp) _).alloc (by simp; omega) _
theorem implClash_any (a b : Acc) (w : World) : Calls Try.prog 11 #[accV a, accV b] w fun e w' => e = .returned (.bool (clash a b)) ∧ Below w.heap.size w w' := by
  obtain ⟨x, y, b1, p⟩ := a
  obtain ⟨x', y', b1', p'⟩ := b
  go_enter Try.func11, Try.ntmps11
  go_wp2
  all_goals go_ret
  all_goals exact ⟨ret_bool (by simp [clash, *]), ((Below.refl _ _).alloc (Nat.le_refl _) _).alloc (by simp) _⟩
theorem specClash_any (a b : Acc) (w : World) : Calls Try.prog 9 #[accV a, accV b] w fun e w' => e = .returned (.bool (clash a b)) ∧ Below w.heap.size w w' := by
  obtain ⟨x, y, b1, p⟩ := a
  obtain ⟨x', y', b1', p'⟩ := b
  go_enter Try.func9, Try.ntmps9
  go_wp2
  all_goals go_ret
  all_goals exact ⟨ret_bool (by simp [clash, *]), ((Below.refl _ _).alloc (Nat.le_refl _) _).alloc (by simp) _⟩
end Go.Proofs.Ytmbcfbefhpgcoaa
