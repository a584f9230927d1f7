/-
  Contract of the program's GraphOf.
-/
import Derived.Test.YtabpcbikbhbcaaaCSucc
import Derived.Test.YtabpcbikbhbcaaaCBack3
namespace Go.Proofs.Ytabpcbikbhbcaaa
open Go.RowKit
set_option maxHeartbeats 2000000
set_option linter.unusedVariables false

def gOf (xs : List Cd) : List (List Int) := if progValid xs then graphOf (ops xs) else []
theorem gOf_no {xs : List Cd} (h : progValid xs = false) : gOf xs = [] := by unfold gOf; rw [h]; rfl
theorem gOf_yes {xs : List Cd} (h : progValid xs = true) : gOf xs = graphOf (ops xs) := by unfold gOf; rw [h]; rfl
theorem graphOf_len (os : List Int) : (graphOf os).length = os.length + 1 := by simp [graphOf]
theorem gFill (os : List Int) {k n : Nat} (h : k < n) : (((List.range k).map (succs os) ++ List.replicate (n - k) []).set k (succs os k)) = (List.range (k + 1)).map (succs os) ++ List.replicate (n - (k + 1)) [] := fill_set (succs os) [] h
end Go.Proofs.Ytabpcbikbhbcaaa
