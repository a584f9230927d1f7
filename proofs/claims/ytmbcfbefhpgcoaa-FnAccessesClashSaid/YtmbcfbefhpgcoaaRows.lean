/-
  No cell of these rows narrows 'for every input' (looked for: loops, veiled, ifaces, maps, wideKeys, modest, calm, conditions, laid).
  DERIVED. THE GIVEN ROWS OF THIS SEAT. 6 by the template 'for every input the law returns true; each argument reads behind the call as it read before'; 0 by the template 'total and deterministic' (their statements: YtmbcfbefhpgcoaaTotals.lean).
  GIVEN WITH THE SEED: the statements are not yours to turn. If you find one false, say at which input.
  Laid BY PROGRAM, IN A SANDBOX (cutbox-rows.mjs): the forced cells as the released guide's own fill.sh prints them over the translation d43d7097519ee99e… (all of the seat's roots in one cut). By AI agents, Wed Nov 11 2026. No macro, syntax, notation, axiom, sorry.
-/
import Derived.Test.YtmbcfbefhpgcoaaChecked
import GoSem.Claim
import GoSem.ClaimJoined
import GoSem.ClaimMapViews
import Derived.JoinedTies
import Derived.KernelRfl
namespace Go.Proofs.Ytmbcfbefhpgcoaa
/- THE CELL 'sum', in the pinned program and in every row, IS THE sha256 OF THE DUMP (.gsa) THAT YtmbcfbefhpgcoaaProg.lean LOADS. Nothing in Lean hashes anything: it is a label: what it is worth is what the hold of that sum in a sandbox is worth. -/
noncomputable def Try.pinned : Pinned := { name := "ytmbcfbefhpgcoaa", sum := "d43d7097519ee99ee88e83c585c6b1105838e7b46da06533aedaf3e127ff339c", checked := Try.checked }
namespace Rows
def none {H : Type} : Left H := { results := [], args := [] }

/-- 'laws.FnExactAccessesClash': WHATEVER THE INPUT: true; the input reads as it did. -/
def fnExactAccessesClashSpec : ChangeSpec := { name := "fnExactAccessesClash", fn := fun _ => fun
  | [d1, d2] => { results := [.lit (.bool true)], args := [d1, d2] }
  | _ => none }
def fnExactAccessesClashRow : OpenClaim := { program := "ytmbcfbefhpgcoaa", sum := "d43d7097519ee99ee88e83c585c6b1105838e7b46da06533aedaf3e127ff339c", func := "loop.example/lanekernel/laws.FnExactAccessesClash", spec := "fnExactAccessesClash", apart := false }
def FnExactAccessesClashSaid : Prop := fnExactAccessesClashRow.holds Try.pinned (OpenSpec.ofChange fnExactAccessesClashSpec)

/-- ITS FALSE NEIGHBOUR: 'it returns false'. Refute it at one input. -/
def fnExactAccessesClashWrong : ChangeSpec := { name := "fnExactAccessesClash", fn := fun _ => fun
  | [d1, d2] => { results := [.lit (.bool false)], args := [d1, d2] }
  | _ => none }
def FnExactAccessesClashWrongFalsely : Prop := fnExactAccessesClashRow.holds Try.pinned (OpenSpec.ofChange fnExactAccessesClashWrong)

/-- 'laws.FnExactLinesLeast': WHATEVER THE INPUT: true; the input reads as it did. -/
def fnExactLinesLeastSpec : ChangeSpec := { name := "fnExactLinesLeast", fn := fun _ => fun
  | [d1, d2] => { results := [.lit (.bool true)], args := [d1, d2] }
  | _ => none }
def fnExactLinesLeastRow : OpenClaim := { program := "ytmbcfbefhpgcoaa", sum := "d43d7097519ee99ee88e83c585c6b1105838e7b46da06533aedaf3e127ff339c", func := "loop.example/lanekernel/laws.FnExactLinesLeast", spec := "fnExactLinesLeast", apart := false }
def FnExactLinesLeastSaid : Prop := fnExactLinesLeastRow.holds Try.pinned (OpenSpec.ofChange fnExactLinesLeastSpec)

/-- ITS FALSE NEIGHBOUR: 'it returns false'. Refute it at one input. -/
def fnExactLinesLeastWrong : ChangeSpec := { name := "fnExactLinesLeast", fn := fun _ => fun
  | [d1, d2] => { results := [.lit (.bool false)], args := [d1, d2] }
  | _ => none }
def FnExactLinesLeastWrongFalsely : Prop := fnExactLinesLeastRow.holds Try.pinned (OpenSpec.ofChange fnExactLinesLeastWrong)

/-- 'laws.FnExactBankOf': WHATEVER THE INPUT: true; the input reads as it did. -/
def fnExactBankOfSpec : ChangeSpec := { name := "fnExactBankOf", fn := fun _ => fun
  | [d1, d2] => { results := [.lit (.bool true)], args := [d1, d2] }
  | _ => none }
def fnExactBankOfRow : OpenClaim := { program := "ytmbcfbefhpgcoaa", sum := "d43d7097519ee99ee88e83c585c6b1105838e7b46da06533aedaf3e127ff339c", func := "loop.example/lanekernel/laws.FnExactBankOf", spec := "fnExactBankOf", apart := false }
def FnExactBankOfSaid : Prop := fnExactBankOfRow.holds Try.pinned (OpenSpec.ofChange fnExactBankOfSpec)

/-- ITS FALSE NEIGHBOUR: 'it returns false'. Refute it at one input. -/
def fnExactBankOfWrong : ChangeSpec := { name := "fnExactBankOf", fn := fun _ => fun
  | [d1, d2] => { results := [.lit (.bool false)], args := [d1, d2] }
  | _ => none }
def FnExactBankOfWrongFalsely : Prop := fnExactBankOfRow.holds Try.pinned (OpenSpec.ofChange fnExactBankOfWrong)

/-- 'laws.FnAccessesClash': WHATEVER THE INPUT: true; the input reads as it did. -/
def fnAccessesClashSpec : ChangeSpec := { name := "fnAccessesClash", fn := fun _ => fun
  | [d] => { results := [.lit (.bool true)], args := [d] }
  | _ => none }
def fnAccessesClashRow : OpenClaim := { program := "ytmbcfbefhpgcoaa", sum := "d43d7097519ee99ee88e83c585c6b1105838e7b46da06533aedaf3e127ff339c", func := "loop.example/lanekernel/laws.FnAccessesClash", spec := "fnAccessesClash", apart := false }
def FnAccessesClashSaid : Prop := fnAccessesClashRow.holds Try.pinned (OpenSpec.ofChange fnAccessesClashSpec)

/-- ITS FALSE NEIGHBOUR: 'it returns false'. Refute it at one input. -/
def fnAccessesClashWrong : ChangeSpec := { name := "fnAccessesClash", fn := fun _ => fun
  | [d] => { results := [.lit (.bool false)], args := [d] }
  | _ => none }
def FnAccessesClashWrongFalsely : Prop := fnAccessesClashRow.holds Try.pinned (OpenSpec.ofChange fnAccessesClashWrong)

/-- 'laws.FnExactStrideCells': WHATEVER THE INPUT: true; the input reads as it did. -/
def fnExactStrideCellsSpec : ChangeSpec := { name := "fnExactStrideCells", fn := fun _ => fun
  | [d1, d2, d3] => { results := [.lit (.bool true)], args := [d1, d2, d3] }
  | _ => none }
def fnExactStrideCellsRow : OpenClaim := { program := "ytmbcfbefhpgcoaa", sum := "d43d7097519ee99ee88e83c585c6b1105838e7b46da06533aedaf3e127ff339c", func := "loop.example/lanekernel/laws.FnExactStrideCells", spec := "fnExactStrideCells", apart := false }
def FnExactStrideCellsSaid : Prop := fnExactStrideCellsRow.holds Try.pinned (OpenSpec.ofChange fnExactStrideCellsSpec)

/-- ITS FALSE NEIGHBOUR: 'it returns false'. Refute it at one input. -/
def fnExactStrideCellsWrong : ChangeSpec := { name := "fnExactStrideCells", fn := fun _ => fun
  | [d1, d2, d3] => { results := [.lit (.bool false)], args := [d1, d2, d3] }
  | _ => none }
def FnExactStrideCellsWrongFalsely : Prop := fnExactStrideCellsRow.holds Try.pinned (OpenSpec.ofChange fnExactStrideCellsWrong)

/-- 'laws.FnBankOf': WHATEVER THE INPUT: true; the input reads as it did. -/
def fnBankOfSpec : ChangeSpec := { name := "fnBankOf", fn := fun _ => fun
  | [d] => { results := [.lit (.bool true)], args := [d] }
  | _ => none }
def fnBankOfRow : OpenClaim := { program := "ytmbcfbefhpgcoaa", sum := "d43d7097519ee99ee88e83c585c6b1105838e7b46da06533aedaf3e127ff339c", func := "loop.example/lanekernel/laws.FnBankOf", spec := "fnBankOf", apart := false }
def FnBankOfSaid : Prop := fnBankOfRow.holds Try.pinned (OpenSpec.ofChange fnBankOfSpec)

/-- ITS FALSE NEIGHBOUR: 'it returns false'. Refute it at one input. -/
def fnBankOfWrong : ChangeSpec := { name := "fnBankOf", fn := fun _ => fun
  | [d] => { results := [.lit (.bool false)], args := [d] }
  | _ => none }
def FnBankOfWrongFalsely : Prop := fnBankOfRow.holds Try.pinned (OpenSpec.ofChange fnBankOfWrong)

/- THE SECOND FORM. 'bulk': how many values and letters a reading holds, each counted each time it is reached (what is shared counts as often as it is met; a slice's spare places count too). A statement '..UptoSaid' is the law's where the arguments, and the package variables that the reading takes, are together of bulk at most 1048576: NARROWER than '..Said'. Prove '..Said' where nothing that the law and all that it calls make is longer than what came in: it says more and counts as full. Else prove '..UptoSaid'. A law counts once. -/
mutual
def uptoBulk {H : Type} : DataW H → Nat
  | .lit (.string bytes) => bytes.length + 1
  | .lit _ => 1
  | .nil => 1
  | .ptr d => uptoBulk d + 1
  | .slice elems spare => uptoBulkAll elems + uptoBulkAll spare + 1
  | .agg parts => uptoBulkAll parts + 1
  | .iface _ d => uptoBulk d + 1
  | .map entries => uptoBulkEntries entries + 1
  | .held _ => 1
def uptoBulkAll {H : Type} : List (DataW H) → Nat
  | [] => 0
  | d :: r => uptoBulk d + uptoBulkAll r
def uptoBulkEntries {H : Type} : List (Lit × DataW H) → Nat
  | [] => 0
  | x :: r => uptoBulkEntry x + uptoBulkEntries r
def uptoBulkEntry {H : Type} : Lit × DataW H → Nat
  | (.string bytes, d) => bytes.length + uptoBulk d + 1
  | (_, d) => uptoBulk d + 1
 end
def uptoSmall : (H : Type) → List (DataW H) → Bool := fun _ ds => decide (uptoBulkAll ds ≤ 1048576)
def OpenSpec.upto (s : _root_.Go.ChangeSpec) : _root_.Go.OpenSpec := { _root_.Go.OpenSpec.ofChange s with cond := some uptoSmall }

/-- 'laws.FnExactAccessesClash', WHERE WHAT IT READS IS OF BULK AT MOST 1048576: true; the input reads as it did. -/
def fnExactAccessesClashUptoRow : OpenClaim := { program := "ytmbcfbefhpgcoaa", sum := "d43d7097519ee99ee88e83c585c6b1105838e7b46da06533aedaf3e127ff339c", func := "loop.example/lanekernel/laws.FnExactAccessesClash", spec := "fnExactAccessesClash", apart := false, narrowed := true }
def FnExactAccessesClashUptoSaid : Prop := fnExactAccessesClashUptoRow.holds Try.pinned (OpenSpec.upto fnExactAccessesClashSpec)

/-- 'laws.FnExactLinesLeast', WHERE WHAT IT READS IS OF BULK AT MOST 1048576: true; the input reads as it did. -/
def fnExactLinesLeastUptoRow : OpenClaim := { program := "ytmbcfbefhpgcoaa", sum := "d43d7097519ee99ee88e83c585c6b1105838e7b46da06533aedaf3e127ff339c", func := "loop.example/lanekernel/laws.FnExactLinesLeast", spec := "fnExactLinesLeast", apart := false, narrowed := true }
def FnExactLinesLeastUptoSaid : Prop := fnExactLinesLeastUptoRow.holds Try.pinned (OpenSpec.upto fnExactLinesLeastSpec)

/-- 'laws.FnExactBankOf', WHERE WHAT IT READS IS OF BULK AT MOST 1048576: true; the input reads as it did. -/
def fnExactBankOfUptoRow : OpenClaim := { program := "ytmbcfbefhpgcoaa", sum := "d43d7097519ee99ee88e83c585c6b1105838e7b46da06533aedaf3e127ff339c", func := "loop.example/lanekernel/laws.FnExactBankOf", spec := "fnExactBankOf", apart := false, narrowed := true }
def FnExactBankOfUptoSaid : Prop := fnExactBankOfUptoRow.holds Try.pinned (OpenSpec.upto fnExactBankOfSpec)

/-- 'laws.FnAccessesClash', WHERE WHAT IT READS IS OF BULK AT MOST 1048576: true; the input reads as it did. -/
def fnAccessesClashUptoRow : OpenClaim := { program := "ytmbcfbefhpgcoaa", sum := "d43d7097519ee99ee88e83c585c6b1105838e7b46da06533aedaf3e127ff339c", func := "loop.example/lanekernel/laws.FnAccessesClash", spec := "fnAccessesClash", apart := false, narrowed := true }
def FnAccessesClashUptoSaid : Prop := fnAccessesClashUptoRow.holds Try.pinned (OpenSpec.upto fnAccessesClashSpec)

/-- 'laws.FnExactStrideCells', WHERE WHAT IT READS IS OF BULK AT MOST 1048576: true; the input reads as it did. -/
def fnExactStrideCellsUptoRow : OpenClaim := { program := "ytmbcfbefhpgcoaa", sum := "d43d7097519ee99ee88e83c585c6b1105838e7b46da06533aedaf3e127ff339c", func := "loop.example/lanekernel/laws.FnExactStrideCells", spec := "fnExactStrideCells", apart := false, narrowed := true }
def FnExactStrideCellsUptoSaid : Prop := fnExactStrideCellsUptoRow.holds Try.pinned (OpenSpec.upto fnExactStrideCellsSpec)

/-- 'laws.FnBankOf', WHERE WHAT IT READS IS OF BULK AT MOST 1048576: true; the input reads as it did. -/
def fnBankOfUptoRow : OpenClaim := { program := "ytmbcfbefhpgcoaa", sum := "d43d7097519ee99ee88e83c585c6b1105838e7b46da06533aedaf3e127ff339c", func := "loop.example/lanekernel/laws.FnBankOf", spec := "fnBankOf", apart := false, narrowed := true }
def FnBankOfUptoSaid : Prop := fnBankOfUptoRow.holds Try.pinned (OpenSpec.upto fnBankOfSpec)

end Rows
end Go.Proofs.Ytmbcfbefhpgcoaa
