/-
  Contract of the laws' helper toIntS.
-/
import Derived.Test.YtjgemgjpbanliaaCInts
namespace Go.Proofs.Ytjgemgjpbanliaa
open Go.RowKit
set_option maxHeartbeats 400000
set_option linter.unusedVariables false

theorem ints_zeros (n : Nat) : (madeCells (Value.int .i64 0).cells (n * 1)).toList = ints (List.replicate n 0) := by
  apply List.ext_getElem?
  intro i
  by_cases h : i < n
  · simp [madeCells, h, Value.cells, ints, Nat.mod_one]
  · rw [List.getElem?_eq_none (by simp [madeCells]; omega), List.getElem?_eq_none (by simp [ints]; omega)]
end Go.Proofs.Ytjgemgjpbanliaa
