/-
  Contracts on one access: toAccess, AccessesClash of the program and of the reference.
-/
import Derived.Test.YtjgmghlgjjfifaaRows
import Derived.Test.YtjgmghlgjjfifaaLib
namespace Go.Proofs.Ytjgmghlgjjfifaa
open Go.RowKit
set_option maxHeartbeats 400000
set_option linter.unusedVariables false

structure Acc where
  who : Int
  cell : Int
  write : Bool
  phase : Int
  deriving DecidableEq

abbrev accCells (a : Acc) : List Value := [.int .i64 a.who, .int .i64 a.cell, .bool a.write, .int .i64 a.phase]
abbrev accV (a : Acc) : Value := .agg #[.int .i64 a.who, .int .i64 a.cell, .bool a.write, .int .i64 a.phase]
def clash (a b : Acc) : Bool := (a.phase == b.phase) && (a.who != b.who) && (a.cell == b.cell) && (a.write || b.write)

end Go.Proofs.Ytjgmghlgjjfifaa
