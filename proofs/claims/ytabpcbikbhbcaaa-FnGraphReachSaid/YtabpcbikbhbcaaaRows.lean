/-
  No cell of these rows narrows 'for every input' (looked for: loops, veiled, ifaces, maps, wideKeys, modest, calm, conditions, laid).
  DERIVED. THE GIVEN ROWS OF THIS SEAT. 7 by the template 'for every input the law returns true; each argument reads behind the call as it read before'; 0 by the template 'total and deterministic' (their statements: YtabpcbikbhbcaaaTotals.lean).
  GIVEN WITH THE SEED: the statements are not yours to turn. If you find one false, say at which input.
  Laid BY PROGRAM, IN A SANDBOX (cutbox-rows.mjs): the forced cells as the released guide's own fill.sh prints them over the translation 9623c87b2dd8d1ad… (all of the seat's roots in one cut). By AI agents, Wed Nov 11 2026. No macro, syntax, notation, axiom, sorry.
-/
import Derived.Test.YtabpcbikbhbcaaaChecked
import GoSem.Claim
import GoSem.ClaimJoined
import GoSem.ClaimMapViews
import Derived.JoinedTies
import Derived.KernelRfl
namespace Go.Proofs.Ytabpcbikbhbcaaa
/- THE CELL 'sum', in the pinned program and in every row, IS THE sha256 OF THE DUMP (.gsa) THAT YtabpcbikbhbcaaaProg.lean LOADS. Nothing in Lean hashes anything: it is a label: what it is worth is what the hold of that sum in a sandbox is worth. -/
noncomputable def Try.pinned : Pinned := { name := "ytabpcbikbhbcaaa", sum := "9623c87b2dd8d1ad4ee23bcc246f377801d170a13e59e4e8483b05b9b5742910", checked := Try.checked }
namespace Rows
def none {H : Type} : Left H := { results := [], args := [] }

/-- 'laws.FnExactGraphValid': WHATEVER THE INPUT: true; the input reads as it did. -/
def fnExactGraphValidSpec : ChangeSpec := { name := "fnExactGraphValid", fn := fun _ => fun
  | [d] => { results := [.lit (.bool true)], args := [d] }
  | _ => none }
def fnExactGraphValidRow : OpenClaim := { program := "ytabpcbikbhbcaaa", sum := "9623c87b2dd8d1ad4ee23bcc246f377801d170a13e59e4e8483b05b9b5742910", func := "loop.example/lanekernel/laws.FnExactGraphValid", spec := "fnExactGraphValid", apart := false }
def FnExactGraphValidSaid : Prop := fnExactGraphValidRow.holds Try.pinned (OpenSpec.ofChange fnExactGraphValidSpec)

/-- ITS FALSE NEIGHBOUR: 'it returns false'. Refute it at one input. -/
def fnExactGraphValidWrong : ChangeSpec := { name := "fnExactGraphValid", fn := fun _ => fun
  | [d] => { results := [.lit (.bool false)], args := [d] }
  | _ => none }
def FnExactGraphValidWrongFalsely : Prop := fnExactGraphValidRow.holds Try.pinned (OpenSpec.ofChange fnExactGraphValidWrong)

/-- 'laws.FnGraphValid': WHATEVER THE INPUT: true; the input reads as it did. -/
def fnGraphValidSpec : ChangeSpec := { name := "fnGraphValid", fn := fun _ => fun
  | [d] => { results := [.lit (.bool true)], args := [d] }
  | _ => none }
def fnGraphValidRow : OpenClaim := { program := "ytabpcbikbhbcaaa", sum := "9623c87b2dd8d1ad4ee23bcc246f377801d170a13e59e4e8483b05b9b5742910", func := "loop.example/lanekernel/laws.FnGraphValid", spec := "fnGraphValid", recurses := true, apart := false }
def FnGraphValidSaid : Prop := fnGraphValidRow.holds Try.pinned (OpenSpec.ofChange fnGraphValidSpec)

/-- ITS FALSE NEIGHBOUR: 'it returns false'. Refute it at one input. -/
def fnGraphValidWrong : ChangeSpec := { name := "fnGraphValid", fn := fun _ => fun
  | [d] => { results := [.lit (.bool false)], args := [d] }
  | _ => none }
def FnGraphValidWrongFalsely : Prop := fnGraphValidRow.holds Try.pinned (OpenSpec.ofChange fnGraphValidWrong)

/-- 'laws.FnExactGraphBack': WHATEVER THE INPUT: true; the input reads as it did. -/
def fnExactGraphBackSpec : ChangeSpec := { name := "fnExactGraphBack", fn := fun _ => fun
  | [d] => { results := [.lit (.bool true)], args := [d] }
  | _ => none }
def fnExactGraphBackRow : OpenClaim := { program := "ytabpcbikbhbcaaa", sum := "9623c87b2dd8d1ad4ee23bcc246f377801d170a13e59e4e8483b05b9b5742910", func := "loop.example/lanekernel/laws.FnExactGraphBack", spec := "fnExactGraphBack", apart := false }
def FnExactGraphBackSaid : Prop := fnExactGraphBackRow.holds Try.pinned (OpenSpec.ofChange fnExactGraphBackSpec)

/-- ITS FALSE NEIGHBOUR: 'it returns false'. Refute it at one input. -/
def fnExactGraphBackWrong : ChangeSpec := { name := "fnExactGraphBack", fn := fun _ => fun
  | [d] => { results := [.lit (.bool false)], args := [d] }
  | _ => none }
def FnExactGraphBackWrongFalsely : Prop := fnExactGraphBackRow.holds Try.pinned (OpenSpec.ofChange fnExactGraphBackWrong)

/-- 'laws.FnGraphBack': WHATEVER THE INPUT: true; the input reads as it did. -/
def fnGraphBackSpec : ChangeSpec := { name := "fnGraphBack", fn := fun _ => fun
  | [d] => { results := [.lit (.bool true)], args := [d] }
  | _ => none }
def fnGraphBackRow : OpenClaim := { program := "ytabpcbikbhbcaaa", sum := "9623c87b2dd8d1ad4ee23bcc246f377801d170a13e59e4e8483b05b9b5742910", func := "loop.example/lanekernel/laws.FnGraphBack", spec := "fnGraphBack", recurses := true, apart := false }
def FnGraphBackSaid : Prop := fnGraphBackRow.holds Try.pinned (OpenSpec.ofChange fnGraphBackSpec)

/-- ITS FALSE NEIGHBOUR: 'it returns false'. Refute it at one input. -/
def fnGraphBackWrong : ChangeSpec := { name := "fnGraphBack", fn := fun _ => fun
  | [d] => { results := [.lit (.bool false)], args := [d] }
  | _ => none }
def FnGraphBackWrongFalsely : Prop := fnGraphBackRow.holds Try.pinned (OpenSpec.ofChange fnGraphBackWrong)

/-- 'laws.FnExactGraphReach': WHATEVER THE INPUT: true; the input reads as it did. -/
def fnExactGraphReachSpec : ChangeSpec := { name := "fnExactGraphReach", fn := fun _ => fun
  | [d1, d2, d3] => { results := [.lit (.bool true)], args := [d1, d2, d3] }
  | _ => none }
def fnExactGraphReachRow : OpenClaim := { program := "ytabpcbikbhbcaaa", sum := "9623c87b2dd8d1ad4ee23bcc246f377801d170a13e59e4e8483b05b9b5742910", func := "loop.example/lanekernel/laws.FnExactGraphReach", spec := "fnExactGraphReach", apart := false }
def FnExactGraphReachSaid : Prop := fnExactGraphReachRow.holds Try.pinned (OpenSpec.ofChange fnExactGraphReachSpec)

/-- ITS FALSE NEIGHBOUR: 'it returns false'. Refute it at one input. -/
def fnExactGraphReachWrong : ChangeSpec := { name := "fnExactGraphReach", fn := fun _ => fun
  | [d1, d2, d3] => { results := [.lit (.bool false)], args := [d1, d2, d3] }
  | _ => none }
def FnExactGraphReachWrongFalsely : Prop := fnExactGraphReachRow.holds Try.pinned (OpenSpec.ofChange fnExactGraphReachWrong)

/-- 'laws.FnGraphReach': WHATEVER THE INPUT: true; the input reads as it did. -/
def fnGraphReachSpec : ChangeSpec := { name := "fnGraphReach", fn := fun _ => fun
  | [d] => { results := [.lit (.bool true)], args := [d] }
  | _ => none }
def fnGraphReachRow : OpenClaim := { program := "ytabpcbikbhbcaaa", sum := "9623c87b2dd8d1ad4ee23bcc246f377801d170a13e59e4e8483b05b9b5742910", func := "loop.example/lanekernel/laws.FnGraphReach", spec := "fnGraphReach", recurses := true, apart := false }
def FnGraphReachSaid : Prop := fnGraphReachRow.holds Try.pinned (OpenSpec.ofChange fnGraphReachSpec)

/-- ITS FALSE NEIGHBOUR: 'it returns false'. Refute it at one input. -/
def fnGraphReachWrong : ChangeSpec := { name := "fnGraphReach", fn := fun _ => fun
  | [d] => { results := [.lit (.bool false)], args := [d] }
  | _ => none }
def FnGraphReachWrongFalsely : Prop := fnGraphReachRow.holds Try.pinned (OpenSpec.ofChange fnGraphReachWrong)

/-- 'laws.FnExactPostDominates': WHATEVER THE INPUT: true; the input reads as it did. -/
def fnExactPostDominatesSpec : ChangeSpec := { name := "fnExactPostDominates", fn := fun _ => fun
  | [d1, d2, d3, d4] => { results := [.lit (.bool true)], args := [d1, d2, d3, d4] }
  | _ => none }
def fnExactPostDominatesRow : OpenClaim := { program := "ytabpcbikbhbcaaa", sum := "9623c87b2dd8d1ad4ee23bcc246f377801d170a13e59e4e8483b05b9b5742910", func := "loop.example/lanekernel/laws.FnExactPostDominates", spec := "fnExactPostDominates", apart := false }
def FnExactPostDominatesSaid : Prop := fnExactPostDominatesRow.holds Try.pinned (OpenSpec.ofChange fnExactPostDominatesSpec)

/-- ITS FALSE NEIGHBOUR: 'it returns false'. Refute it at one input. -/
def fnExactPostDominatesWrong : ChangeSpec := { name := "fnExactPostDominates", fn := fun _ => fun
  | [d1, d2, d3, d4] => { results := [.lit (.bool false)], args := [d1, d2, d3, d4] }
  | _ => none }
def FnExactPostDominatesWrongFalsely : Prop := fnExactPostDominatesRow.holds Try.pinned (OpenSpec.ofChange fnExactPostDominatesWrong)

/- THE SECOND FORM. 'bulk': how many values and letters a reading holds, each counted each time it is reached (what is shared counts as often as it is met; a slice's spare places count too). A statement '..UptoSaid' is the law's where the arguments, and the package variables that the reading takes, are together of bulk at most 1048576: NARROWER than '..Said'. Prove '..Said' where nothing that the law and all that it calls make is longer than what came in: it says more and counts as full. Else prove '..UptoSaid'. A law counts once. -/
mutual
def uptoBulk {H : Type} : DataW H → Nat
  | .lit (.string bytes) => bytes.length + 1
  | .lit _ => 1
  | .nil => 1
  | .ptr d => uptoBulk d + 1
  | .slice elems spare => uptoBulkAll elems + uptoBulkAll spare + 1
  | .agg parts => uptoBulkAll parts + 1
  | .iface _ d => uptoBulk d + 1
  | .map entries => uptoBulkEntries entries + 1
  | .held _ => 1
def uptoBulkAll {H : Type} : List (DataW H) → Nat
  | [] => 0
  | d :: r => uptoBulk d + uptoBulkAll r
def uptoBulkEntries {H : Type} : List (Lit × DataW H) → Nat
  | [] => 0
  | x :: r => uptoBulkEntry x + uptoBulkEntries r
def uptoBulkEntry {H : Type} : Lit × DataW H → Nat
  | (.string bytes, d) => bytes.length + uptoBulk d + 1
  | (_, d) => uptoBulk d + 1
 end
def uptoSmall : (H : Type) → List (DataW H) → Bool := fun _ ds => decide (uptoBulkAll ds ≤ 1048576)
def OpenSpec.upto (s : _root_.Go.ChangeSpec) : _root_.Go.OpenSpec := { _root_.Go.OpenSpec.ofChange s with cond := some uptoSmall }

/-- 'laws.FnExactGraphValid', WHERE WHAT IT READS IS OF BULK AT MOST 1048576: true; the input reads as it did. -/
def fnExactGraphValidUptoRow : OpenClaim := { program := "ytabpcbikbhbcaaa", sum := "9623c87b2dd8d1ad4ee23bcc246f377801d170a13e59e4e8483b05b9b5742910", func := "loop.example/lanekernel/laws.FnExactGraphValid", spec := "fnExactGraphValid", apart := false, narrowed := true }
def FnExactGraphValidUptoSaid : Prop := fnExactGraphValidUptoRow.holds Try.pinned (OpenSpec.upto fnExactGraphValidSpec)

/-- 'laws.FnGraphValid', WHERE WHAT IT READS IS OF BULK AT MOST 1048576: true; the input reads as it did. -/
def fnGraphValidUptoRow : OpenClaim := { program := "ytabpcbikbhbcaaa", sum := "9623c87b2dd8d1ad4ee23bcc246f377801d170a13e59e4e8483b05b9b5742910", func := "loop.example/lanekernel/laws.FnGraphValid", spec := "fnGraphValid", recurses := true, apart := false, narrowed := true }
def FnGraphValidUptoSaid : Prop := fnGraphValidUptoRow.holds Try.pinned (OpenSpec.upto fnGraphValidSpec)

/-- 'laws.FnExactGraphBack', WHERE WHAT IT READS IS OF BULK AT MOST 1048576: true; the input reads as it did. -/
def fnExactGraphBackUptoRow : OpenClaim := { program := "ytabpcbikbhbcaaa", sum := "9623c87b2dd8d1ad4ee23bcc246f377801d170a13e59e4e8483b05b9b5742910", func := "loop.example/lanekernel/laws.FnExactGraphBack", spec := "fnExactGraphBack", apart := false, narrowed := true }
def FnExactGraphBackUptoSaid : Prop := fnExactGraphBackUptoRow.holds Try.pinned (OpenSpec.upto fnExactGraphBackSpec)

/-- 'laws.FnGraphBack', WHERE WHAT IT READS IS OF BULK AT MOST 1048576: true; the input reads as it did. -/
def fnGraphBackUptoRow : OpenClaim := { program := "ytabpcbikbhbcaaa", sum := "9623c87b2dd8d1ad4ee23bcc246f377801d170a13e59e4e8483b05b9b5742910", func := "loop.example/lanekernel/laws.FnGraphBack", spec := "fnGraphBack", recurses := true, apart := false, narrowed := true }
def FnGraphBackUptoSaid : Prop := fnGraphBackUptoRow.holds Try.pinned (OpenSpec.upto fnGraphBackSpec)

/-- 'laws.FnExactGraphReach', WHERE WHAT IT READS IS OF BULK AT MOST 1048576: true; the input reads as it did. -/
def fnExactGraphReachUptoRow : OpenClaim := { program := "ytabpcbikbhbcaaa", sum := "9623c87b2dd8d1ad4ee23bcc246f377801d170a13e59e4e8483b05b9b5742910", func := "loop.example/lanekernel/laws.FnExactGraphReach", spec := "fnExactGraphReach", apart := false, narrowed := true }
def FnExactGraphReachUptoSaid : Prop := fnExactGraphReachUptoRow.holds Try.pinned (OpenSpec.upto fnExactGraphReachSpec)

/-- 'laws.FnGraphReach', WHERE WHAT IT READS IS OF BULK AT MOST 1048576: true; the input reads as it did. -/
def fnGraphReachUptoRow : OpenClaim := { program := "ytabpcbikbhbcaaa", sum := "9623c87b2dd8d1ad4ee23bcc246f377801d170a13e59e4e8483b05b9b5742910", func := "loop.example/lanekernel/laws.FnGraphReach", spec := "fnGraphReach", recurses := true, apart := false, narrowed := true }
def FnGraphReachUptoSaid : Prop := fnGraphReachUptoRow.holds Try.pinned (OpenSpec.upto fnGraphReachSpec)

/-- 'laws.FnExactPostDominates', WHERE WHAT IT READS IS OF BULK AT MOST 1048576: true; the input reads as it did. -/
def fnExactPostDominatesUptoRow : OpenClaim := { program := "ytabpcbikbhbcaaa", sum := "9623c87b2dd8d1ad4ee23bcc246f377801d170a13e59e4e8483b05b9b5742910", func := "loop.example/lanekernel/laws.FnExactPostDominates", spec := "fnExactPostDominates", apart := false, narrowed := true }
def FnExactPostDominatesUptoSaid : Prop := fnExactPostDominatesUptoRow.holds Try.pinned (OpenSpec.upto fnExactPostDominatesSpec)

end Rows
end Go.Proofs.Ytabpcbikbhbcaaa
