/-
  Contracts on one access: toAccess, AccessesClash of the program and of the reference.
-/
import Derived.Test.YtbhjicjcilneeaaRows
import Derived.Test.YtbhjicjcilneeaaLib
namespace Go.Proofs.Ytbhjicjcilneeaa
open Go.RowKit
set_option maxHeartbeats 400000
set_option linter.unusedVariables false

structure Acc where
  who : Int
  cell : Int
  write : Bool
  phase : Int
  deriving DecidableEq

abbrev accCells (a : Acc) : List Value := [.int .i64 a.who, .int .i64 a.cell, .bool a.write, .int .i64 a.phase]
abbrev accV (a : Acc) : Value := .agg #[.int .i64 a.who, .int .i64 a.cell, .bool a.write, .int .i64 a.phase]
def clash (a b : Acc) : Bool := (a.phase == b.phase) && (a.who != b.who) && (a.cell == b.cell) && (a.write || b.write)

theorem toAccess_any (a : Acc) (w : World) : Calls Try.prog 36 #[accV a] w fun e w' => e = .returned (accV a) ∧ Below w.heap.size w w' := by
  obtain ⟨x, y, b, p⟩ := a
  go_enter Try.func36, Try.ntmps36
  go_wp2
  refine bodyPost_ret (v := accV ⟨x, y, b, p⟩) (by simp [results, Try.results36, go_sem]) rfl ⟨rfl, ?_⟩
  exact (((Below.refl _ _).alloc (Nat.le_refl _) _).alloc (by simp) _).alloc (by simp; omega) _
theorem implClash_any (a b : Acc) (w : World) : Calls Try.prog 32 #[accV a, accV b] w fun e w' => e = .returned (.bool (clash a b)) ∧ Below w.heap.size w w' := by
  obtain ⟨x, y, b1, p⟩ := a
  obtain ⟨x', y', b1', p'⟩ := b
  go_enter Try.func32, Try.ntmps32
  go_wp2
  all_goals go_ret
  all_goals exact ⟨ret_bool (by simp [clash, *]), ((Below.refl _ _).alloc (Nat.le_refl _) _).alloc (by simp) _⟩
theorem specClash_any (a b : Acc) (w : World) : Calls Try.prog 35 #[accV a, accV b] w fun e w' => e = .returned (.bool (clash a b)) ∧ Below w.heap.size w w' := by
  obtain ⟨x, y, b1, p⟩ := a
  obtain ⟨x', y', b1', p'⟩ := b
  go_enter Try.func35, Try.ntmps35
  go_wp2
  all_goals go_ret
  all_goals exact ⟨ret_bool (by simp [clash, *]), ((Below.refl _ _).alloc (Nat.le_refl _) _).alloc (by simp) _⟩
end Go.Proofs.Ytbhjicjcilneeaa
