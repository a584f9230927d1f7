/-
  No cell of these rows narrows 'for every input' (looked for: loops, veiled, ifaces, maps, wideKeys, modest, calm, conditions, laid).
  DERIVED. THE GIVEN ROWS OF THIS SEAT. 3 by the template 'for every input the law returns true; each argument reads behind the call as it read before'; 0 by the template 'total and deterministic' (their statements: YtmbcfbefhpgcoabTotals.lean).
  GIVEN WITH THE SEED: the statements are not yours to turn. If you find one false, say at which input.
  Laid BY PROGRAM, IN A SANDBOX (cutbox-rows.mjs): the forced cells as the released guide's own fill.sh prints them over the translation 167ca32c7ed00f11… (all of the seat's roots in one cut). By AI agents, Wed Nov 11 2026. No macro, syntax, notation, axiom, sorry.
-/
import Derived.Test.YtmbcfbefhpgcoabChecked
import GoSem.Claim
import GoSem.ClaimJoined
import GoSem.ClaimMapViews
import Derived.JoinedTies
import Derived.KernelRfl
namespace Go.Proofs.Ytmbcfbefhpgcoab
/- THE CELL 'sum', in the pinned program and in every row, IS THE sha256 OF THE DUMP (.gsa) THAT YtmbcfbefhpgcoabProg.lean LOADS. Nothing in Lean hashes anything: it is a label: what it is worth is what the hold of that sum in a sandbox is worth. -/
noncomputable def Try.pinned : Pinned := { name := "ytmbcfbefhpgcoab", sum := "167ca32c7ed00f114aa3bcb991b1de6c2e1d83cccf2d8ee618eecff0e281cc33", checked := Try.checked }
namespace Rows
def none {H : Type} : Left H := { results := [], args := [] }

/-- 'laws.FnLinesLeast': WHATEVER THE INPUT: true; the input reads as it did. -/
def fnLinesLeastSpec : ChangeSpec := { name := "fnLinesLeast", fn := fun _ => fun
  | [d] => { results := [.lit (.bool true)], args := [d] }
  | _ => none }
def fnLinesLeastRow : OpenClaim := { program := "ytmbcfbefhpgcoab", sum := "167ca32c7ed00f114aa3bcb991b1de6c2e1d83cccf2d8ee618eecff0e281cc33", func := "loop.example/lanekernel/laws.FnLinesLeast", spec := "fnLinesLeast", apart := false }
def FnLinesLeastSaid : Prop := fnLinesLeastRow.holds Try.pinned (OpenSpec.ofChange fnLinesLeastSpec)

/-- ITS FALSE NEIGHBOUR: 'it returns false'. Refute it at one input. -/
def fnLinesLeastWrong : ChangeSpec := { name := "fnLinesLeast", fn := fun _ => fun
  | [d] => { results := [.lit (.bool false)], args := [d] }
  | _ => none }
def FnLinesLeastWrongFalsely : Prop := fnLinesLeastRow.holds Try.pinned (OpenSpec.ofChange fnLinesLeastWrong)

/-- 'laws.FnPhaseCount': WHATEVER THE INPUT: true; the input reads as it did. -/
def fnPhaseCountSpec : ChangeSpec := { name := "fnPhaseCount", fn := fun _ => fun
  | [d] => { results := [.lit (.bool true)], args := [d] }
  | _ => none }
def fnPhaseCountRow : OpenClaim := { program := "ytmbcfbefhpgcoab", sum := "167ca32c7ed00f114aa3bcb991b1de6c2e1d83cccf2d8ee618eecff0e281cc33", func := "loop.example/lanekernel/laws.FnPhaseCount", spec := "fnPhaseCount", apart := false }
def FnPhaseCountSaid : Prop := fnPhaseCountRow.holds Try.pinned (OpenSpec.ofChange fnPhaseCountSpec)

/-- ITS FALSE NEIGHBOUR: 'it returns false'. Refute it at one input. -/
def fnPhaseCountWrong : ChangeSpec := { name := "fnPhaseCount", fn := fun _ => fun
  | [d] => { results := [.lit (.bool false)], args := [d] }
  | _ => none }
def FnPhaseCountWrongFalsely : Prop := fnPhaseCountRow.holds Try.pinned (OpenSpec.ofChange fnPhaseCountWrong)

/-- 'laws.FnExactPhaseCount': WHATEVER THE INPUT: true; the input reads as it did. -/
def fnExactPhaseCountSpec : ChangeSpec := { name := "fnExactPhaseCount", fn := fun _ => fun
  | [d1, d2] => { results := [.lit (.bool true)], args := [d1, d2] }
  | _ => none }
def fnExactPhaseCountRow : OpenClaim := { program := "ytmbcfbefhpgcoab", sum := "167ca32c7ed00f114aa3bcb991b1de6c2e1d83cccf2d8ee618eecff0e281cc33", func := "loop.example/lanekernel/laws.FnExactPhaseCount", spec := "fnExactPhaseCount", apart := false }
def FnExactPhaseCountSaid : Prop := fnExactPhaseCountRow.holds Try.pinned (OpenSpec.ofChange fnExactPhaseCountSpec)

/-- ITS FALSE NEIGHBOUR: 'it returns false'. Refute it at one input. -/
def fnExactPhaseCountWrong : ChangeSpec := { name := "fnExactPhaseCount", fn := fun _ => fun
  | [d1, d2] => { results := [.lit (.bool false)], args := [d1, d2] }
  | _ => none }
def FnExactPhaseCountWrongFalsely : Prop := fnExactPhaseCountRow.holds Try.pinned (OpenSpec.ofChange fnExactPhaseCountWrong)

/- THE SECOND FORM. 'bulk': how many values and letters a reading holds, each counted each time it is reached (what is shared counts as often as it is met; a slice's spare places count too). A statement '..UptoSaid' is the law's where the arguments, and the package variables that the reading takes, are together of bulk at most 1048576: NARROWER than '..Said'. Prove '..Said' where nothing that the law and all that it calls make is longer than what came in: it says more and counts as full. Else prove '..UptoSaid'. A law counts once. -/
mutual
def uptoBulk {H : Type} : DataW H → Nat
  | .lit (.string bytes) => bytes.length + 1
  | .lit _ => 1
  | .nil => 1
  | .ptr d => uptoBulk d + 1
  | .slice elems spare => uptoBulkAll elems + uptoBulkAll spare + 1
  | .agg parts => uptoBulkAll parts + 1
  | .iface _ d => uptoBulk d + 1
  | .map entries => uptoBulkEntries entries + 1
  | .held _ => 1
def uptoBulkAll {H : Type} : List (DataW H) → Nat
  | [] => 0
  | d :: r => uptoBulk d + uptoBulkAll r
def uptoBulkEntries {H : Type} : List (Lit × DataW H) → Nat
  | [] => 0
  | x :: r => uptoBulkEntry x + uptoBulkEntries r
def uptoBulkEntry {H : Type} : Lit × DataW H → Nat
  | (.string bytes, d) => bytes.length + uptoBulk d + 1
  | (_, d) => uptoBulk d + 1
 end
def uptoSmall : (H : Type) → List (DataW H) → Bool := fun _ ds => decide (uptoBulkAll ds ≤ 1048576)
def OpenSpec.upto (s : _root_.Go.ChangeSpec) : _root_.Go.OpenSpec := { _root_.Go.OpenSpec.ofChange s with cond := some uptoSmall }

/-- 'laws.FnLinesLeast', WHERE WHAT IT READS IS OF BULK AT MOST 1048576: true; the input reads as it did. -/
def fnLinesLeastUptoRow : OpenClaim := { program := "ytmbcfbefhpgcoab", sum := "167ca32c7ed00f114aa3bcb991b1de6c2e1d83cccf2d8ee618eecff0e281cc33", func := "loop.example/lanekernel/laws.FnLinesLeast", spec := "fnLinesLeast", apart := false, narrowed := true }
def FnLinesLeastUptoSaid : Prop := fnLinesLeastUptoRow.holds Try.pinned (OpenSpec.upto fnLinesLeastSpec)

/-- 'laws.FnPhaseCount', WHERE WHAT IT READS IS OF BULK AT MOST 1048576: true; the input reads as it did. -/
def fnPhaseCountUptoRow : OpenClaim := { program := "ytmbcfbefhpgcoab", sum := "167ca32c7ed00f114aa3bcb991b1de6c2e1d83cccf2d8ee618eecff0e281cc33", func := "loop.example/lanekernel/laws.FnPhaseCount", spec := "fnPhaseCount", apart := false, narrowed := true }
def FnPhaseCountUptoSaid : Prop := fnPhaseCountUptoRow.holds Try.pinned (OpenSpec.upto fnPhaseCountSpec)

/-- 'laws.FnExactPhaseCount', WHERE WHAT IT READS IS OF BULK AT MOST 1048576: true; the input reads as it did. -/
def fnExactPhaseCountUptoRow : OpenClaim := { program := "ytmbcfbefhpgcoab", sum := "167ca32c7ed00f114aa3bcb991b1de6c2e1d83cccf2d8ee618eecff0e281cc33", func := "loop.example/lanekernel/laws.FnExactPhaseCount", spec := "fnExactPhaseCount", apart := false, narrowed := true }
def FnExactPhaseCountUptoSaid : Prop := fnExactPhaseCountUptoRow.holds Try.pinned (OpenSpec.upto fnExactPhaseCountSpec)

end Rows
end Go.Proofs.Ytmbcfbefhpgcoab
