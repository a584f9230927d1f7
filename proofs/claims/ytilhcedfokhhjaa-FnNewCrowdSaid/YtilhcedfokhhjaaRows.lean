/-
  No cell of these rows narrows 'for every input' (looked for: loops, veiled, ifaces, maps, wideKeys, modest, calm, conditions, laid).
  DERIVED. THE GIVEN ROWS OF THIS SEAT. 6 by the template 'for every input the law returns true; each argument reads behind the call as it read before'; 0 by the template 'total and deterministic' (their statements: YtilhcedfokhhjaaTotals.lean).
  GIVEN WITH THE SEED: the statements are not yours to turn. If you find one false, say at which input.
  Laid BY PROGRAM, IN A SANDBOX (cutbox-rows.mjs): the forced cells as the released guide's own fill.sh prints them over the translation ba4ca56ed6e4df6a… (all of the seat's roots in one cut). By AI agents, Wed Nov 11 2026. No macro, syntax, notation, axiom, sorry.
-/
import Derived.Test.YtilhcedfokhhjaaChecked
import GoSem.Claim
import GoSem.ClaimJoined
import GoSem.ClaimMapViews
import Derived.JoinedTies
import Derived.KernelRfl
namespace Go.Proofs.Ytilhcedfokhhjaa
/- THE CELL 'sum', in the pinned program and in every row, IS THE sha256 OF THE DUMP (.gsa) THAT YtilhcedfokhhjaaProg.lean LOADS. Nothing in Lean hashes anything: it is a label: what it is worth is what the hold of that sum in a sandbox is worth. -/
noncomputable def Try.pinned : Pinned := { name := "ytilhcedfokhhjaa", sum := "ba4ca56ed6e4df6a1fbf0f60a673c9c8e8f3c26193d3d6036857975e8a13987b", checked := Try.checked }
namespace Rows
def none {H : Type} : Left H := { results := [], args := [] }

/-- 'laws.FnExactOrderValid': WHATEVER THE INPUT: true; the input reads as it did. -/
def fnExactOrderValidSpec : ChangeSpec := { name := "fnExactOrderValid", fn := fun _ => fun
  | [d1, d2] => { results := [.lit (.bool true)], args := [d1, d2] }
  | _ => none }
def fnExactOrderValidRow : OpenClaim := { program := "ytilhcedfokhhjaa", sum := "ba4ca56ed6e4df6a1fbf0f60a673c9c8e8f3c26193d3d6036857975e8a13987b", func := "loop.example/lanekernel/laws.FnExactOrderValid", spec := "fnExactOrderValid", unfollowed := true, recurses := true, apart := false }
def FnExactOrderValidSaid : Prop := fnExactOrderValidRow.holds Try.pinned (OpenSpec.ofChange fnExactOrderValidSpec)

/-- ITS FALSE NEIGHBOUR: 'it returns false'. Refute it at one input. -/
def fnExactOrderValidWrong : ChangeSpec := { name := "fnExactOrderValid", fn := fun _ => fun
  | [d1, d2] => { results := [.lit (.bool false)], args := [d1, d2] }
  | _ => none }
def FnExactOrderValidWrongFalsely : Prop := fnExactOrderValidRow.holds Try.pinned (OpenSpec.ofChange fnExactOrderValidWrong)

/-- 'laws.FnOrderValid': WHATEVER THE INPUT: true; the input reads as it did. -/
def fnOrderValidSpec : ChangeSpec := { name := "fnOrderValid", fn := fun _ => fun
  | [d] => { results := [.lit (.bool true)], args := [d] }
  | _ => none }
def fnOrderValidRow : OpenClaim := { program := "ytilhcedfokhhjaa", sum := "ba4ca56ed6e4df6a1fbf0f60a673c9c8e8f3c26193d3d6036857975e8a13987b", func := "loop.example/lanekernel/laws.FnOrderValid", spec := "fnOrderValid", unfollowed := true, recurses := true, apart := false }
def FnOrderValidSaid : Prop := fnOrderValidRow.holds Try.pinned (OpenSpec.ofChange fnOrderValidSpec)

/-- ITS FALSE NEIGHBOUR: 'it returns false'. Refute it at one input. -/
def fnOrderValidWrong : ChangeSpec := { name := "fnOrderValid", fn := fun _ => fun
  | [d] => { results := [.lit (.bool false)], args := [d] }
  | _ => none }
def FnOrderValidWrongFalsely : Prop := fnOrderValidRow.holds Try.pinned (OpenSpec.ofChange fnOrderValidWrong)

/-- 'laws.FnExactCodeCost': WHATEVER THE INPUT: true; the input reads as it did. -/
def fnExactCodeCostSpec : ChangeSpec := { name := "fnExactCodeCost", fn := fun _ => fun
  | [d] => { results := [.lit (.bool true)], args := [d] }
  | _ => none }
def fnExactCodeCostRow : OpenClaim := { program := "ytilhcedfokhhjaa", sum := "ba4ca56ed6e4df6a1fbf0f60a673c9c8e8f3c26193d3d6036857975e8a13987b", func := "loop.example/lanekernel/laws.FnExactCodeCost", spec := "fnExactCodeCost", apart := false }
def FnExactCodeCostSaid : Prop := fnExactCodeCostRow.holds Try.pinned (OpenSpec.ofChange fnExactCodeCostSpec)

/-- ITS FALSE NEIGHBOUR: 'it returns false'. Refute it at one input. -/
def fnExactCodeCostWrong : ChangeSpec := { name := "fnExactCodeCost", fn := fun _ => fun
  | [d] => { results := [.lit (.bool false)], args := [d] }
  | _ => none }
def FnExactCodeCostWrongFalsely : Prop := fnExactCodeCostRow.holds Try.pinned (OpenSpec.ofChange fnExactCodeCostWrong)

/-- 'laws.FnCodeCost': WHATEVER THE INPUT: true; the input reads as it did. -/
def fnCodeCostSpec : ChangeSpec := { name := "fnCodeCost", fn := fun _ => fun
  | [d] => { results := [.lit (.bool true)], args := [d] }
  | _ => none }
def fnCodeCostRow : OpenClaim := { program := "ytilhcedfokhhjaa", sum := "ba4ca56ed6e4df6a1fbf0f60a673c9c8e8f3c26193d3d6036857975e8a13987b", func := "loop.example/lanekernel/laws.FnCodeCost", spec := "fnCodeCost", apart := false }
def FnCodeCostSaid : Prop := fnCodeCostRow.holds Try.pinned (OpenSpec.ofChange fnCodeCostSpec)

/-- ITS FALSE NEIGHBOUR: 'it returns false'. Refute it at one input. -/
def fnCodeCostWrong : ChangeSpec := { name := "fnCodeCost", fn := fun _ => fun
  | [d] => { results := [.lit (.bool false)], args := [d] }
  | _ => none }
def FnCodeCostWrongFalsely : Prop := fnCodeCostRow.holds Try.pinned (OpenSpec.ofChange fnCodeCostWrong)

/-- 'laws.FnNewCrowd': WHATEVER THE INPUT: true; the input reads as it did. -/
def fnNewCrowdSpec : ChangeSpec := { name := "fnNewCrowd", fn := fun _ => fun
  | [d] => { results := [.lit (.bool true)], args := [d] }
  | _ => none }
def fnNewCrowdRow : OpenClaim := { program := "ytilhcedfokhhjaa", sum := "ba4ca56ed6e4df6a1fbf0f60a673c9c8e8f3c26193d3d6036857975e8a13987b", func := "loop.example/lanekernel/laws.FnNewCrowd", spec := "fnNewCrowd", unfollowed := true, recurses := true, apart := false }
def FnNewCrowdSaid : Prop := fnNewCrowdRow.holds Try.pinned (OpenSpec.ofChange fnNewCrowdSpec)

/-- ITS FALSE NEIGHBOUR: 'it returns false'. Refute it at one input. -/
def fnNewCrowdWrong : ChangeSpec := { name := "fnNewCrowd", fn := fun _ => fun
  | [d] => { results := [.lit (.bool false)], args := [d] }
  | _ => none }
def FnNewCrowdWrongFalsely : Prop := fnNewCrowdRow.holds Try.pinned (OpenSpec.ofChange fnNewCrowdWrong)

/-- 'laws.FnExactNewCrowd': WHATEVER THE INPUT: true; the input reads as it did. -/
def fnExactNewCrowdSpec : ChangeSpec := { name := "fnExactNewCrowd", fn := fun _ => fun
  | [d1, d2] => { results := [.lit (.bool true)], args := [d1, d2] }
  | _ => none }
def fnExactNewCrowdRow : OpenClaim := { program := "ytilhcedfokhhjaa", sum := "ba4ca56ed6e4df6a1fbf0f60a673c9c8e8f3c26193d3d6036857975e8a13987b", func := "loop.example/lanekernel/laws.FnExactNewCrowd", spec := "fnExactNewCrowd", unfollowed := true, recurses := true, apart := false }
def FnExactNewCrowdSaid : Prop := fnExactNewCrowdRow.holds Try.pinned (OpenSpec.ofChange fnExactNewCrowdSpec)

/-- ITS FALSE NEIGHBOUR: 'it returns false'. Refute it at one input. -/
def fnExactNewCrowdWrong : ChangeSpec := { name := "fnExactNewCrowd", fn := fun _ => fun
  | [d1, d2] => { results := [.lit (.bool false)], args := [d1, d2] }
  | _ => none }
def FnExactNewCrowdWrongFalsely : Prop := fnExactNewCrowdRow.holds Try.pinned (OpenSpec.ofChange fnExactNewCrowdWrong)

/- THE SECOND FORM. 'bulk': how many values and letters a reading holds, each counted each time it is reached (what is shared counts as often as it is met; a slice's spare places count too). A statement '..UptoSaid' is the law's where the arguments, and the package variables that the reading takes, are together of bulk at most 1048576: NARROWER than '..Said'. Prove '..Said' where nothing that the law and all that it calls make is longer than what came in: it says more and counts as full. Else prove '..UptoSaid'. A law counts once. -/
mutual
def uptoBulk {H : Type} : DataW H → Nat
  | .lit (.string bytes) => bytes.length + 1
  | .lit _ => 1
  | .nil => 1
  | .ptr d => uptoBulk d + 1
  | .slice elems spare => uptoBulkAll elems + uptoBulkAll spare + 1
  | .agg parts => uptoBulkAll parts + 1
  | .iface _ d => uptoBulk d + 1
  | .map entries => uptoBulkEntries entries + 1
  | .held _ => 1
def uptoBulkAll {H : Type} : List (DataW H) → Nat
  | [] => 0
  | d :: r => uptoBulk d + uptoBulkAll r
def uptoBulkEntries {H : Type} : List (Lit × DataW H) → Nat
  | [] => 0
  | x :: r => uptoBulkEntry x + uptoBulkEntries r
def uptoBulkEntry {H : Type} : Lit × DataW H → Nat
  | (.string bytes, d) => bytes.length + uptoBulk d + 1
  | (_, d) => uptoBulk d + 1
 end
def uptoSmall : (H : Type) → List (DataW H) → Bool := fun _ ds => decide (uptoBulkAll ds ≤ 1048576)
def OpenSpec.upto (s : _root_.Go.ChangeSpec) : _root_.Go.OpenSpec := { _root_.Go.OpenSpec.ofChange s with cond := some uptoSmall }

/-- 'laws.FnExactOrderValid', WHERE WHAT IT READS IS OF BULK AT MOST 1048576: true; the input reads as it did. -/
def fnExactOrderValidUptoRow : OpenClaim := { program := "ytilhcedfokhhjaa", sum := "ba4ca56ed6e4df6a1fbf0f60a673c9c8e8f3c26193d3d6036857975e8a13987b", func := "loop.example/lanekernel/laws.FnExactOrderValid", spec := "fnExactOrderValid", unfollowed := true, recurses := true, apart := false, narrowed := true }
def FnExactOrderValidUptoSaid : Prop := fnExactOrderValidUptoRow.holds Try.pinned (OpenSpec.upto fnExactOrderValidSpec)

/-- 'laws.FnOrderValid', WHERE WHAT IT READS IS OF BULK AT MOST 1048576: true; the input reads as it did. -/
def fnOrderValidUptoRow : OpenClaim := { program := "ytilhcedfokhhjaa", sum := "ba4ca56ed6e4df6a1fbf0f60a673c9c8e8f3c26193d3d6036857975e8a13987b", func := "loop.example/lanekernel/laws.FnOrderValid", spec := "fnOrderValid", unfollowed := true, recurses := true, apart := false, narrowed := true }
def FnOrderValidUptoSaid : Prop := fnOrderValidUptoRow.holds Try.pinned (OpenSpec.upto fnOrderValidSpec)

/-- 'laws.FnExactCodeCost', WHERE WHAT IT READS IS OF BULK AT MOST 1048576: true; the input reads as it did. -/
def fnExactCodeCostUptoRow : OpenClaim := { program := "ytilhcedfokhhjaa", sum := "ba4ca56ed6e4df6a1fbf0f60a673c9c8e8f3c26193d3d6036857975e8a13987b", func := "loop.example/lanekernel/laws.FnExactCodeCost", spec := "fnExactCodeCost", apart := false, narrowed := true }
def FnExactCodeCostUptoSaid : Prop := fnExactCodeCostUptoRow.holds Try.pinned (OpenSpec.upto fnExactCodeCostSpec)

/-- 'laws.FnCodeCost', WHERE WHAT IT READS IS OF BULK AT MOST 1048576: true; the input reads as it did. -/
def fnCodeCostUptoRow : OpenClaim := { program := "ytilhcedfokhhjaa", sum := "ba4ca56ed6e4df6a1fbf0f60a673c9c8e8f3c26193d3d6036857975e8a13987b", func := "loop.example/lanekernel/laws.FnCodeCost", spec := "fnCodeCost", apart := false, narrowed := true }
def FnCodeCostUptoSaid : Prop := fnCodeCostUptoRow.holds Try.pinned (OpenSpec.upto fnCodeCostSpec)

/-- 'laws.FnNewCrowd', WHERE WHAT IT READS IS OF BULK AT MOST 1048576: true; the input reads as it did. -/
def fnNewCrowdUptoRow : OpenClaim := { program := "ytilhcedfokhhjaa", sum := "ba4ca56ed6e4df6a1fbf0f60a673c9c8e8f3c26193d3d6036857975e8a13987b", func := "loop.example/lanekernel/laws.FnNewCrowd", spec := "fnNewCrowd", unfollowed := true, recurses := true, apart := false, narrowed := true }
def FnNewCrowdUptoSaid : Prop := fnNewCrowdUptoRow.holds Try.pinned (OpenSpec.upto fnNewCrowdSpec)

/-- 'laws.FnExactNewCrowd', WHERE WHAT IT READS IS OF BULK AT MOST 1048576: true; the input reads as it did. -/
def fnExactNewCrowdUptoRow : OpenClaim := { program := "ytilhcedfokhhjaa", sum := "ba4ca56ed6e4df6a1fbf0f60a673c9c8e8f3c26193d3d6036857975e8a13987b", func := "loop.example/lanekernel/laws.FnExactNewCrowd", spec := "fnExactNewCrowd", unfollowed := true, recurses := true, apart := false, narrowed := true }
def FnExactNewCrowdUptoSaid : Prop := fnExactNewCrowdUptoRow.holds Try.pinned (OpenSpec.upto fnExactNewCrowdSpec)

end Rows
end Go.Proofs.Ytilhcedfokhhjaa
