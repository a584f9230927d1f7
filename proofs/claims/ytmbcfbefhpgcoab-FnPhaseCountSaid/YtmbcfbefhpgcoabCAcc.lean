/-
  Contracts on one access: toAccess, AccessesClash of the program and of the reference.
-/
import Derived.Test.YtmbcfbefhpgcoabRows
import Derived.Test.YtmbcfbefhpgcoabLib
namespace Go.Proofs.Ytmbcfbefhpgcoab
open Go.RowKit
set_option maxHeartbeats 400000
set_option linter.unusedVariables false

structure Acc where
  who : Int
  cell : Int
  write : Bool
  phase : Int
  deriving DecidableEq

abbrev accCells (a : Acc) : List Value := [.int .i64 a.who, .int .i64 a.cell, .bool a.write, .int .i64 a.phase]
abbrev accV (a : Acc) : Value := .agg #[.int .i64 a.who, .int .i64 a.cell, .bool a.write, .int .i64 a.phase]
def clash (a b : Acc) : Bool := (a.phase == b.phase) && (a.who != b.who) && (a.cell == b.cell) && (a.write || b.write)

theorem toAccess_any (a : Acc) (w : World) : Calls Try.prog 24 #[accV a] w fun e w' => e = .returned (accV a) ∧ Below w.heap.size w w' := by
  obtain ⟨x, y, b, p⟩ := a
  go_enter Try.func24, Try.ntmps24
  go_wp2
  refine bodyPost_ret (v := accV ⟨x, y, b, p⟩) (by simp [results, Try.results24, go_sem]) rfl ⟨rfl, ?_⟩
  exact (((Below.refl _ _).alloc (Nat.le_refl _) _).alloc (by simp) _).alloc (by simp; omega) _
end Go.Proofs.Ytmbcfbefhpgcoab
