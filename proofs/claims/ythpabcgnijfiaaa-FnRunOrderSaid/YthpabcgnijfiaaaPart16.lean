/-
  Parts of a proof: CLaneV2.
-/
import Derived.Test.YthpabcgnijfiaaaPart15
import Derived.IntWalk
namespace Go.Proofs.Ythpabcgnijfiaaa
open Go.RowKit
set_option maxHeartbeats 4000000
set_option maxRecDepth 100000
set_option linter.unusedVariables false

def loopPs (xs : List Cd) (t : List Nat) : List Int := (t.filter fun b => opAt (ops xs) b == 13).map fun b : Nat => (b : Int)
theorem loopPs_len (xs : List Cd) (t : List Nat) : (loopPs xs t).length ≤ t.length := by
  unfold loopPs; rw [List.length_map]; exact List.length_filter_le _ _
end Go.Proofs.Ythpabcgnijfiaaa
