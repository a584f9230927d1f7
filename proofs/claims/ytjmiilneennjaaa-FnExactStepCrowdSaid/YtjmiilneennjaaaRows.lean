/-
  No cell of these rows narrows 'for every input' (looked for: loops, veiled, ifaces, maps, wideKeys, modest, calm, conditions, laid).
  DERIVED. THE GIVEN ROWS OF THIS SEAT. 6 by the template 'for every input the law returns true; each argument reads behind the call as it read before'; 0 by the template 'total and deterministic' (their statements: YtjmiilneennjaaaTotals.lean).
  GIVEN WITH THE SEED: the statements are not yours to turn. If you find one false, say at which input.
  Laid BY PROGRAM, IN A SANDBOX (cutbox-rows.mjs): the forced cells as the released guide's own fill.sh prints them over the translation 5053b20bcb727286… (all of the seat's roots in one cut). By AI agents, Wed Nov 11 2026. No macro, syntax, notation, axiom, sorry.
-/
import Derived.Test.YtjmiilneennjaaaChecked
import GoSem.Claim
import GoSem.ClaimJoined
import GoSem.ClaimMapViews
import Derived.JoinedTies
import Derived.KernelRfl
namespace Go.Proofs.Ytjmiilneennjaaa
/- THE CELL 'sum', in the pinned program and in every row, IS THE sha256 OF THE DUMP (.gsa) THAT YtjmiilneennjaaaProg.lean LOADS. Nothing in Lean hashes anything: it is a label: what it is worth is what the hold of that sum in a sandbox is worth. -/
noncomputable def Try.pinned : Pinned := { name := "ytjmiilneennjaaa", sum := "5053b20bcb727286dd44f4dc61c07a243440f96d0c10a1cfdd50887bbf60e403", checked := Try.checked }
namespace Rows
def none {H : Type} : Left H := { results := [], args := [] }

/-- 'laws.FnExactCrowdValid': WHATEVER THE INPUT: true; the input reads as it did. -/
def fnExactCrowdValidSpec : ChangeSpec := { name := "fnExactCrowdValid", fn := fun _ => fun
  | [d1, d2] => { results := [.lit (.bool true)], args := [d1, d2] }
  | _ => none }
def fnExactCrowdValidRow : OpenClaim := { program := "ytjmiilneennjaaa", sum := "5053b20bcb727286dd44f4dc61c07a243440f96d0c10a1cfdd50887bbf60e403", func := "loop.example/lanekernel/laws.FnExactCrowdValid", spec := "fnExactCrowdValid", unfollowed := true, recurses := true, apart := false }
def FnExactCrowdValidSaid : Prop := fnExactCrowdValidRow.holds Try.pinned (OpenSpec.ofChange fnExactCrowdValidSpec)

/-- ITS FALSE NEIGHBOUR: 'it returns false'. Refute it at one input. -/
def fnExactCrowdValidWrong : ChangeSpec := { name := "fnExactCrowdValid", fn := fun _ => fun
  | [d1, d2] => { results := [.lit (.bool false)], args := [d1, d2] }
  | _ => none }
def FnExactCrowdValidWrongFalsely : Prop := fnExactCrowdValidRow.holds Try.pinned (OpenSpec.ofChange fnExactCrowdValidWrong)

/-- 'laws.FnCrowdValid': WHATEVER THE INPUT: true; the input reads as it did. -/
def fnCrowdValidSpec : ChangeSpec := { name := "fnCrowdValid", fn := fun _ => fun
  | [d] => { results := [.lit (.bool true)], args := [d] }
  | _ => none }
def fnCrowdValidRow : OpenClaim := { program := "ytjmiilneennjaaa", sum := "5053b20bcb727286dd44f4dc61c07a243440f96d0c10a1cfdd50887bbf60e403", func := "loop.example/lanekernel/laws.FnCrowdValid", spec := "fnCrowdValid", unfollowed := true, recurses := true, apart := false }
def FnCrowdValidSaid : Prop := fnCrowdValidRow.holds Try.pinned (OpenSpec.ofChange fnCrowdValidSpec)

/-- ITS FALSE NEIGHBOUR: 'it returns false'. Refute it at one input. -/
def fnCrowdValidWrong : ChangeSpec := { name := "fnCrowdValid", fn := fun _ => fun
  | [d] => { results := [.lit (.bool false)], args := [d] }
  | _ => none }
def FnCrowdValidWrongFalsely : Prop := fnCrowdValidRow.holds Try.pinned (OpenSpec.ofChange fnCrowdValidWrong)

/-- 'laws.FnExactStepCrowd': WHATEVER THE INPUT: true; the input reads as it did. -/
def fnExactStepCrowdSpec : ChangeSpec := { name := "fnExactStepCrowd", fn := fun _ => fun
  | [d1, d2, d3] => { results := [.lit (.bool true)], args := [d1, d2, d3] }
  | _ => none }
def fnExactStepCrowdRow : OpenClaim := { program := "ytjmiilneennjaaa", sum := "5053b20bcb727286dd44f4dc61c07a243440f96d0c10a1cfdd50887bbf60e403", func := "loop.example/lanekernel/laws.FnExactStepCrowd", spec := "fnExactStepCrowd", unfollowed := true, recurses := true, apart := false }
def FnExactStepCrowdSaid : Prop := fnExactStepCrowdRow.holds Try.pinned (OpenSpec.ofChange fnExactStepCrowdSpec)

/-- ITS FALSE NEIGHBOUR: 'it returns false'. Refute it at one input. -/
def fnExactStepCrowdWrong : ChangeSpec := { name := "fnExactStepCrowd", fn := fun _ => fun
  | [d1, d2, d3] => { results := [.lit (.bool false)], args := [d1, d2, d3] }
  | _ => none }
def FnExactStepCrowdWrongFalsely : Prop := fnExactStepCrowdRow.holds Try.pinned (OpenSpec.ofChange fnExactStepCrowdWrong)

/-- 'laws.FnStepCrowd': WHATEVER THE INPUT: true; the input reads as it did. -/
def fnStepCrowdSpec : ChangeSpec := { name := "fnStepCrowd", fn := fun _ => fun
  | [d] => { results := [.lit (.bool true)], args := [d] }
  | _ => none }
def fnStepCrowdRow : OpenClaim := { program := "ytjmiilneennjaaa", sum := "5053b20bcb727286dd44f4dc61c07a243440f96d0c10a1cfdd50887bbf60e403", func := "loop.example/lanekernel/laws.FnStepCrowd", spec := "fnStepCrowd", unfollowed := true, recurses := true, apart := false }
def FnStepCrowdSaid : Prop := fnStepCrowdRow.holds Try.pinned (OpenSpec.ofChange fnStepCrowdSpec)

/-- ITS FALSE NEIGHBOUR: 'it returns false'. Refute it at one input. -/
def fnStepCrowdWrong : ChangeSpec := { name := "fnStepCrowd", fn := fun _ => fun
  | [d] => { results := [.lit (.bool false)], args := [d] }
  | _ => none }
def FnStepCrowdWrongFalsely : Prop := fnStepCrowdRow.holds Try.pinned (OpenSpec.ofChange fnStepCrowdWrong)

/-- 'laws.FnRunLane': WHATEVER THE INPUT: true; the input reads as it did. -/
def fnRunLaneSpec : ChangeSpec := { name := "fnRunLane", fn := fun _ => fun
  | [d] => { results := [.lit (.bool true)], args := [d] }
  | _ => none }
def fnRunLaneRow : OpenClaim := { program := "ytjmiilneennjaaa", sum := "5053b20bcb727286dd44f4dc61c07a243440f96d0c10a1cfdd50887bbf60e403", func := "loop.example/lanekernel/laws.FnRunLane", spec := "fnRunLane", unfollowed := true, recurses := true, apart := false }
def FnRunLaneSaid : Prop := fnRunLaneRow.holds Try.pinned (OpenSpec.ofChange fnRunLaneSpec)

/-- ITS FALSE NEIGHBOUR: 'it returns false'. Refute it at one input. -/
def fnRunLaneWrong : ChangeSpec := { name := "fnRunLane", fn := fun _ => fun
  | [d] => { results := [.lit (.bool false)], args := [d] }
  | _ => none }
def FnRunLaneWrongFalsely : Prop := fnRunLaneRow.holds Try.pinned (OpenSpec.ofChange fnRunLaneWrong)

/-- 'laws.FnStepLane': WHATEVER THE INPUT: true; the input reads as it did. -/
def fnStepLaneSpec : ChangeSpec := { name := "fnStepLane", fn := fun _ => fun
  | [d] => { results := [.lit (.bool true)], args := [d] }
  | _ => none }
def fnStepLaneRow : OpenClaim := { program := "ytjmiilneennjaaa", sum := "5053b20bcb727286dd44f4dc61c07a243440f96d0c10a1cfdd50887bbf60e403", func := "loop.example/lanekernel/laws.FnStepLane", spec := "fnStepLane", unfollowed := true, recurses := true, apart := false }
def FnStepLaneSaid : Prop := fnStepLaneRow.holds Try.pinned (OpenSpec.ofChange fnStepLaneSpec)

/-- ITS FALSE NEIGHBOUR: 'it returns false'. Refute it at one input. -/
def fnStepLaneWrong : ChangeSpec := { name := "fnStepLane", fn := fun _ => fun
  | [d] => { results := [.lit (.bool false)], args := [d] }
  | _ => none }
def FnStepLaneWrongFalsely : Prop := fnStepLaneRow.holds Try.pinned (OpenSpec.ofChange fnStepLaneWrong)

/- THE SECOND FORM. 'bulk': how many values and letters a reading holds, each counted each time it is reached (what is shared counts as often as it is met; a slice's spare places count too). A statement '..UptoSaid' is the law's where the arguments, and the package variables that the reading takes, are together of bulk at most 1048576: NARROWER than '..Said'. Prove '..Said' where nothing that the law and all that it calls make is longer than what came in: it says more and counts as full. Else prove '..UptoSaid'. A law counts once. -/
mutual
def uptoBulk {H : Type} : DataW H → Nat
  | .lit (.string bytes) => bytes.length + 1
  | .lit _ => 1
  | .nil => 1
  | .ptr d => uptoBulk d + 1
  | .slice elems spare => uptoBulkAll elems + uptoBulkAll spare + 1
  | .agg parts => uptoBulkAll parts + 1
  | .iface _ d => uptoBulk d + 1
  | .map entries => uptoBulkEntries entries + 1
  | .held _ => 1
def uptoBulkAll {H : Type} : List (DataW H) → Nat
  | [] => 0
  | d :: r => uptoBulk d + uptoBulkAll r
def uptoBulkEntries {H : Type} : List (Lit × DataW H) → Nat
  | [] => 0
  | x :: r => uptoBulkEntry x + uptoBulkEntries r
def uptoBulkEntry {H : Type} : Lit × DataW H → Nat
  | (.string bytes, d) => bytes.length + uptoBulk d + 1
  | (_, d) => uptoBulk d + 1
 end
def uptoSmall : (H : Type) → List (DataW H) → Bool := fun _ ds => decide (uptoBulkAll ds ≤ 1048576)
def OpenSpec.upto (s : _root_.Go.ChangeSpec) : _root_.Go.OpenSpec := { _root_.Go.OpenSpec.ofChange s with cond := some uptoSmall }

/-- 'laws.FnExactCrowdValid', WHERE WHAT IT READS IS OF BULK AT MOST 1048576: true; the input reads as it did. -/
def fnExactCrowdValidUptoRow : OpenClaim := { program := "ytjmiilneennjaaa", sum := "5053b20bcb727286dd44f4dc61c07a243440f96d0c10a1cfdd50887bbf60e403", func := "loop.example/lanekernel/laws.FnExactCrowdValid", spec := "fnExactCrowdValid", unfollowed := true, recurses := true, apart := false, narrowed := true }
def FnExactCrowdValidUptoSaid : Prop := fnExactCrowdValidUptoRow.holds Try.pinned (OpenSpec.upto fnExactCrowdValidSpec)

/-- 'laws.FnCrowdValid', WHERE WHAT IT READS IS OF BULK AT MOST 1048576: true; the input reads as it did. -/
def fnCrowdValidUptoRow : OpenClaim := { program := "ytjmiilneennjaaa", sum := "5053b20bcb727286dd44f4dc61c07a243440f96d0c10a1cfdd50887bbf60e403", func := "loop.example/lanekernel/laws.FnCrowdValid", spec := "fnCrowdValid", unfollowed := true, recurses := true, apart := false, narrowed := true }
def FnCrowdValidUptoSaid : Prop := fnCrowdValidUptoRow.holds Try.pinned (OpenSpec.upto fnCrowdValidSpec)

/-- 'laws.FnExactStepCrowd', WHERE WHAT IT READS IS OF BULK AT MOST 1048576: true; the input reads as it did. -/
def fnExactStepCrowdUptoRow : OpenClaim := { program := "ytjmiilneennjaaa", sum := "5053b20bcb727286dd44f4dc61c07a243440f96d0c10a1cfdd50887bbf60e403", func := "loop.example/lanekernel/laws.FnExactStepCrowd", spec := "fnExactStepCrowd", unfollowed := true, recurses := true, apart := false, narrowed := true }
def FnExactStepCrowdUptoSaid : Prop := fnExactStepCrowdUptoRow.holds Try.pinned (OpenSpec.upto fnExactStepCrowdSpec)

/-- 'laws.FnStepCrowd', WHERE WHAT IT READS IS OF BULK AT MOST 1048576: true; the input reads as it did. -/
def fnStepCrowdUptoRow : OpenClaim := { program := "ytjmiilneennjaaa", sum := "5053b20bcb727286dd44f4dc61c07a243440f96d0c10a1cfdd50887bbf60e403", func := "loop.example/lanekernel/laws.FnStepCrowd", spec := "fnStepCrowd", unfollowed := true, recurses := true, apart := false, narrowed := true }
def FnStepCrowdUptoSaid : Prop := fnStepCrowdUptoRow.holds Try.pinned (OpenSpec.upto fnStepCrowdSpec)

/-- 'laws.FnRunLane', WHERE WHAT IT READS IS OF BULK AT MOST 1048576: true; the input reads as it did. -/
def fnRunLaneUptoRow : OpenClaim := { program := "ytjmiilneennjaaa", sum := "5053b20bcb727286dd44f4dc61c07a243440f96d0c10a1cfdd50887bbf60e403", func := "loop.example/lanekernel/laws.FnRunLane", spec := "fnRunLane", unfollowed := true, recurses := true, apart := false, narrowed := true }
def FnRunLaneUptoSaid : Prop := fnRunLaneUptoRow.holds Try.pinned (OpenSpec.upto fnRunLaneSpec)

/-- 'laws.FnStepLane', WHERE WHAT IT READS IS OF BULK AT MOST 1048576: true; the input reads as it did. -/
def fnStepLaneUptoRow : OpenClaim := { program := "ytjmiilneennjaaa", sum := "5053b20bcb727286dd44f4dc61c07a243440f96d0c10a1cfdd50887bbf60e403", func := "loop.example/lanekernel/laws.FnStepLane", spec := "fnStepLane", unfollowed := true, recurses := true, apart := false, narrowed := true }
def FnStepLaneUptoSaid : Prop := fnStepLaneUptoRow.holds Try.pinned (OpenSpec.upto fnStepLaneSpec)

end Rows
end Go.Proofs.Ytjmiilneennjaaa
