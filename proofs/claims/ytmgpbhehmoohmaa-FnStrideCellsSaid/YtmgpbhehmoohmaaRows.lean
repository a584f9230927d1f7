/-
  No cell of these rows narrows 'for every input' (looked for: loops, veiled, ifaces, maps, wideKeys, modest, calm, conditions, laid).
  DERIVED. THE GIVEN ROWS OF THIS SEAT. 8 by the template 'for every input the law returns true; each argument reads behind the call as it read before'; 0 by the template 'total and deterministic' (their statements: YtmgpbhehmoohmaaTotals.lean).
  GIVEN WITH THE SEED: the statements are not yours to turn. If you find one false, say at which input.
  Laid BY PROGRAM, IN A SANDBOX (cutbox-rows.mjs): the forced cells as the released guide's own fill.sh prints them over the translation d41448aa1d839ca7… (all of the seat's roots in one cut). By AI agents, Wed Nov 11 2026. No macro, syntax, notation, axiom, sorry.
-/
import Derived.Test.YtmgpbhehmoohmaaChecked
import GoSem.Claim
import GoSem.ClaimJoined
import GoSem.ClaimMapViews
import Derived.JoinedTies
import Derived.KernelRfl
namespace Go.Proofs.Ytmgpbhehmoohmaa
/- THE CELL 'sum', in the pinned program and in every row, IS THE sha256 OF THE DUMP (.gsa) THAT YtmgpbhehmoohmaaProg.lean LOADS. Nothing in Lean hashes anything: it is a label: what it is worth is what the hold of that sum in a sandbox is worth. -/
noncomputable def Try.pinned : Pinned := { name := "ytmgpbhehmoohmaa", sum := "d41448aa1d839ca7efc94b06faaab23963151ebd4c1dfb69a0e9abd07c584037", checked := Try.checked }
namespace Rows
def none {H : Type} : Left H := { results := [], args := [] }

/-- 'laws.FnExactLinesTouched': WHATEVER THE INPUT: true; the input reads as it did. -/
def fnExactLinesTouchedSpec : ChangeSpec := { name := "fnExactLinesTouched", fn := fun _ => fun
  | [d1, d2] => { results := [.lit (.bool true)], args := [d1, d2] }
  | _ => none }
def fnExactLinesTouchedRow : OpenClaim := { program := "ytmgpbhehmoohmaa", sum := "d41448aa1d839ca7efc94b06faaab23963151ebd4c1dfb69a0e9abd07c584037", func := "loop.example/lanekernel/laws.FnExactLinesTouched", spec := "fnExactLinesTouched", unfollowed := true, recurses := true, apart := false }
def FnExactLinesTouchedSaid : Prop := fnExactLinesTouchedRow.holds Try.pinned (OpenSpec.ofChange fnExactLinesTouchedSpec)

/-- ITS FALSE NEIGHBOUR: 'it returns false'. Refute it at one input. -/
def fnExactLinesTouchedWrong : ChangeSpec := { name := "fnExactLinesTouched", fn := fun _ => fun
  | [d1, d2] => { results := [.lit (.bool false)], args := [d1, d2] }
  | _ => none }
def FnExactLinesTouchedWrongFalsely : Prop := fnExactLinesTouchedRow.holds Try.pinned (OpenSpec.ofChange fnExactLinesTouchedWrong)

/-- 'laws.FnExactLineNumbers': WHATEVER THE INPUT: true; the input reads as it did. -/
def fnExactLineNumbersSpec : ChangeSpec := { name := "fnExactLineNumbers", fn := fun _ => fun
  | [d1, d2] => { results := [.lit (.bool true)], args := [d1, d2] }
  | _ => none }
def fnExactLineNumbersRow : OpenClaim := { program := "ytmgpbhehmoohmaa", sum := "d41448aa1d839ca7efc94b06faaab23963151ebd4c1dfb69a0e9abd07c584037", func := "loop.example/lanekernel/laws.FnExactLineNumbers", spec := "fnExactLineNumbers", unfollowed := true, recurses := true, apart := false }
def FnExactLineNumbersSaid : Prop := fnExactLineNumbersRow.holds Try.pinned (OpenSpec.ofChange fnExactLineNumbersSpec)

/-- ITS FALSE NEIGHBOUR: 'it returns false'. Refute it at one input. -/
def fnExactLineNumbersWrong : ChangeSpec := { name := "fnExactLineNumbers", fn := fun _ => fun
  | [d1, d2] => { results := [.lit (.bool false)], args := [d1, d2] }
  | _ => none }
def FnExactLineNumbersWrongFalsely : Prop := fnExactLineNumbersRow.holds Try.pinned (OpenSpec.ofChange fnExactLineNumbersWrong)

/-- 'laws.FnExactIsGathered': WHATEVER THE INPUT: true; the input reads as it did. -/
def fnExactIsGatheredSpec : ChangeSpec := { name := "fnExactIsGathered", fn := fun _ => fun
  | [d1, d2] => { results := [.lit (.bool true)], args := [d1, d2] }
  | _ => none }
def fnExactIsGatheredRow : OpenClaim := { program := "ytmgpbhehmoohmaa", sum := "d41448aa1d839ca7efc94b06faaab23963151ebd4c1dfb69a0e9abd07c584037", func := "loop.example/lanekernel/laws.FnExactIsGathered", spec := "fnExactIsGathered", unfollowed := true, recurses := true, apart := false }
def FnExactIsGatheredSaid : Prop := fnExactIsGatheredRow.holds Try.pinned (OpenSpec.ofChange fnExactIsGatheredSpec)

/-- ITS FALSE NEIGHBOUR: 'it returns false'. Refute it at one input. -/
def fnExactIsGatheredWrong : ChangeSpec := { name := "fnExactIsGathered", fn := fun _ => fun
  | [d1, d2] => { results := [.lit (.bool false)], args := [d1, d2] }
  | _ => none }
def FnExactIsGatheredWrongFalsely : Prop := fnExactIsGatheredRow.holds Try.pinned (OpenSpec.ofChange fnExactIsGatheredWrong)

/-- 'laws.FnLineNumbers': WHATEVER THE INPUT: true; the input reads as it did. -/
def fnLineNumbersSpec : ChangeSpec := { name := "fnLineNumbers", fn := fun _ => fun
  | [d] => { results := [.lit (.bool true)], args := [d] }
  | _ => none }
def fnLineNumbersRow : OpenClaim := { program := "ytmgpbhehmoohmaa", sum := "d41448aa1d839ca7efc94b06faaab23963151ebd4c1dfb69a0e9abd07c584037", func := "loop.example/lanekernel/laws.FnLineNumbers", spec := "fnLineNumbers", unfollowed := true, recurses := true, apart := false }
def FnLineNumbersSaid : Prop := fnLineNumbersRow.holds Try.pinned (OpenSpec.ofChange fnLineNumbersSpec)

/-- ITS FALSE NEIGHBOUR: 'it returns false'. Refute it at one input. -/
def fnLineNumbersWrong : ChangeSpec := { name := "fnLineNumbers", fn := fun _ => fun
  | [d] => { results := [.lit (.bool false)], args := [d] }
  | _ => none }
def FnLineNumbersWrongFalsely : Prop := fnLineNumbersRow.holds Try.pinned (OpenSpec.ofChange fnLineNumbersWrong)

/-- 'laws.FnLinesShift': WHATEVER THE INPUT: true; the input reads as it did. -/
def fnLinesShiftSpec : ChangeSpec := { name := "fnLinesShift", fn := fun _ => fun
  | [d] => { results := [.lit (.bool true)], args := [d] }
  | _ => none }
def fnLinesShiftRow : OpenClaim := { program := "ytmgpbhehmoohmaa", sum := "d41448aa1d839ca7efc94b06faaab23963151ebd4c1dfb69a0e9abd07c584037", func := "loop.example/lanekernel/laws.FnLinesShift", spec := "fnLinesShift", unfollowed := true, recurses := true, apart := false }
def FnLinesShiftSaid : Prop := fnLinesShiftRow.holds Try.pinned (OpenSpec.ofChange fnLinesShiftSpec)

/-- ITS FALSE NEIGHBOUR: 'it returns false'. Refute it at one input. -/
def fnLinesShiftWrong : ChangeSpec := { name := "fnLinesShift", fn := fun _ => fun
  | [d] => { results := [.lit (.bool false)], args := [d] }
  | _ => none }
def FnLinesShiftWrongFalsely : Prop := fnLinesShiftRow.holds Try.pinned (OpenSpec.ofChange fnLinesShiftWrong)

/-- 'laws.FnLinesTouched': WHATEVER THE INPUT: true; the input reads as it did. -/
def fnLinesTouchedSpec : ChangeSpec := { name := "fnLinesTouched", fn := fun _ => fun
  | [d] => { results := [.lit (.bool true)], args := [d] }
  | _ => none }
def fnLinesTouchedRow : OpenClaim := { program := "ytmgpbhehmoohmaa", sum := "d41448aa1d839ca7efc94b06faaab23963151ebd4c1dfb69a0e9abd07c584037", func := "loop.example/lanekernel/laws.FnLinesTouched", spec := "fnLinesTouched", unfollowed := true, recurses := true, apart := false }
def FnLinesTouchedSaid : Prop := fnLinesTouchedRow.holds Try.pinned (OpenSpec.ofChange fnLinesTouchedSpec)

/-- ITS FALSE NEIGHBOUR: 'it returns false'. Refute it at one input. -/
def fnLinesTouchedWrong : ChangeSpec := { name := "fnLinesTouched", fn := fun _ => fun
  | [d] => { results := [.lit (.bool false)], args := [d] }
  | _ => none }
def FnLinesTouchedWrongFalsely : Prop := fnLinesTouchedRow.holds Try.pinned (OpenSpec.ofChange fnLinesTouchedWrong)

/-- 'laws.FnLinesJoin': WHATEVER THE INPUT: true; the input reads as it did. -/
def fnLinesJoinSpec : ChangeSpec := { name := "fnLinesJoin", fn := fun _ => fun
  | [d] => { results := [.lit (.bool true)], args := [d] }
  | _ => none }
def fnLinesJoinRow : OpenClaim := { program := "ytmgpbhehmoohmaa", sum := "d41448aa1d839ca7efc94b06faaab23963151ebd4c1dfb69a0e9abd07c584037", func := "loop.example/lanekernel/laws.FnLinesJoin", spec := "fnLinesJoin", unfollowed := true, recurses := true, apart := false }
def FnLinesJoinSaid : Prop := fnLinesJoinRow.holds Try.pinned (OpenSpec.ofChange fnLinesJoinSpec)

/-- ITS FALSE NEIGHBOUR: 'it returns false'. Refute it at one input. -/
def fnLinesJoinWrong : ChangeSpec := { name := "fnLinesJoin", fn := fun _ => fun
  | [d] => { results := [.lit (.bool false)], args := [d] }
  | _ => none }
def FnLinesJoinWrongFalsely : Prop := fnLinesJoinRow.holds Try.pinned (OpenSpec.ofChange fnLinesJoinWrong)

/-- 'laws.FnStrideCells': WHATEVER THE INPUT: true; the input reads as it did. -/
def fnStrideCellsSpec : ChangeSpec := { name := "fnStrideCells", fn := fun _ => fun
  | [d] => { results := [.lit (.bool true)], args := [d] }
  | _ => none }
def fnStrideCellsRow : OpenClaim := { program := "ytmgpbhehmoohmaa", sum := "d41448aa1d839ca7efc94b06faaab23963151ebd4c1dfb69a0e9abd07c584037", func := "loop.example/lanekernel/laws.FnStrideCells", spec := "fnStrideCells", unfollowed := true, recurses := true, apart := false }
def FnStrideCellsSaid : Prop := fnStrideCellsRow.holds Try.pinned (OpenSpec.ofChange fnStrideCellsSpec)

/-- ITS FALSE NEIGHBOUR: 'it returns false'. Refute it at one input. -/
def fnStrideCellsWrong : ChangeSpec := { name := "fnStrideCells", fn := fun _ => fun
  | [d] => { results := [.lit (.bool false)], args := [d] }
  | _ => none }
def FnStrideCellsWrongFalsely : Prop := fnStrideCellsRow.holds Try.pinned (OpenSpec.ofChange fnStrideCellsWrong)

/- THE SECOND FORM. 'bulk': how many values and letters a reading holds, each counted each time it is reached (what is shared counts as often as it is met; a slice's spare places count too). A statement '..UptoSaid' is the law's where the arguments, and the package variables that the reading takes, are together of bulk at most 1048576: NARROWER than '..Said'. Prove '..Said' where nothing that the law and all that it calls make is longer than what came in: it says more and counts as full. Else prove '..UptoSaid'. A law counts once. -/
mutual
def uptoBulk {H : Type} : DataW H → Nat
  | .lit (.string bytes) => bytes.length + 1
  | .lit _ => 1
  | .nil => 1
  | .ptr d => uptoBulk d + 1
  | .slice elems spare => uptoBulkAll elems + uptoBulkAll spare + 1
  | .agg parts => uptoBulkAll parts + 1
  | .iface _ d => uptoBulk d + 1
  | .map entries => uptoBulkEntries entries + 1
  | .held _ => 1
def uptoBulkAll {H : Type} : List (DataW H) → Nat
  | [] => 0
  | d :: r => uptoBulk d + uptoBulkAll r
def uptoBulkEntries {H : Type} : List (Lit × DataW H) → Nat
  | [] => 0
  | x :: r => uptoBulkEntry x + uptoBulkEntries r
def uptoBulkEntry {H : Type} : Lit × DataW H → Nat
  | (.string bytes, d) => bytes.length + uptoBulk d + 1
  | (_, d) => uptoBulk d + 1
 end
def uptoSmall : (H : Type) → List (DataW H) → Bool := fun _ ds => decide (uptoBulkAll ds ≤ 1048576)
def OpenSpec.upto (s : _root_.Go.ChangeSpec) : _root_.Go.OpenSpec := { _root_.Go.OpenSpec.ofChange s with cond := some uptoSmall }

/-- 'laws.FnExactLinesTouched', WHERE WHAT IT READS IS OF BULK AT MOST 1048576: true; the input reads as it did. -/
def fnExactLinesTouchedUptoRow : OpenClaim := { program := "ytmgpbhehmoohmaa", sum := "d41448aa1d839ca7efc94b06faaab23963151ebd4c1dfb69a0e9abd07c584037", func := "loop.example/lanekernel/laws.FnExactLinesTouched", spec := "fnExactLinesTouched", unfollowed := true, recurses := true, apart := false, narrowed := true }
def FnExactLinesTouchedUptoSaid : Prop := fnExactLinesTouchedUptoRow.holds Try.pinned (OpenSpec.upto fnExactLinesTouchedSpec)

/-- 'laws.FnExactLineNumbers', WHERE WHAT IT READS IS OF BULK AT MOST 1048576: true; the input reads as it did. -/
def fnExactLineNumbersUptoRow : OpenClaim := { program := "ytmgpbhehmoohmaa", sum := "d41448aa1d839ca7efc94b06faaab23963151ebd4c1dfb69a0e9abd07c584037", func := "loop.example/lanekernel/laws.FnExactLineNumbers", spec := "fnExactLineNumbers", unfollowed := true, recurses := true, apart := false, narrowed := true }
def FnExactLineNumbersUptoSaid : Prop := fnExactLineNumbersUptoRow.holds Try.pinned (OpenSpec.upto fnExactLineNumbersSpec)

/-- 'laws.FnExactIsGathered', WHERE WHAT IT READS IS OF BULK AT MOST 1048576: true; the input reads as it did. -/
def fnExactIsGatheredUptoRow : OpenClaim := { program := "ytmgpbhehmoohmaa", sum := "d41448aa1d839ca7efc94b06faaab23963151ebd4c1dfb69a0e9abd07c584037", func := "loop.example/lanekernel/laws.FnExactIsGathered", spec := "fnExactIsGathered", unfollowed := true, recurses := true, apart := false, narrowed := true }
def FnExactIsGatheredUptoSaid : Prop := fnExactIsGatheredUptoRow.holds Try.pinned (OpenSpec.upto fnExactIsGatheredSpec)

/-- 'laws.FnLineNumbers', WHERE WHAT IT READS IS OF BULK AT MOST 1048576: true; the input reads as it did. -/
def fnLineNumbersUptoRow : OpenClaim := { program := "ytmgpbhehmoohmaa", sum := "d41448aa1d839ca7efc94b06faaab23963151ebd4c1dfb69a0e9abd07c584037", func := "loop.example/lanekernel/laws.FnLineNumbers", spec := "fnLineNumbers", unfollowed := true, recurses := true, apart := false, narrowed := true }
def FnLineNumbersUptoSaid : Prop := fnLineNumbersUptoRow.holds Try.pinned (OpenSpec.upto fnLineNumbersSpec)

/-- 'laws.FnLinesShift', WHERE WHAT IT READS IS OF BULK AT MOST 1048576: true; the input reads as it did. -/
def fnLinesShiftUptoRow : OpenClaim := { program := "ytmgpbhehmoohmaa", sum := "d41448aa1d839ca7efc94b06faaab23963151ebd4c1dfb69a0e9abd07c584037", func := "loop.example/lanekernel/laws.FnLinesShift", spec := "fnLinesShift", unfollowed := true, recurses := true, apart := false, narrowed := true }
def FnLinesShiftUptoSaid : Prop := fnLinesShiftUptoRow.holds Try.pinned (OpenSpec.upto fnLinesShiftSpec)

/-- 'laws.FnLinesTouched', WHERE WHAT IT READS IS OF BULK AT MOST 1048576: true; the input reads as it did. -/
def fnLinesTouchedUptoRow : OpenClaim := { program := "ytmgpbhehmoohmaa", sum := "d41448aa1d839ca7efc94b06faaab23963151ebd4c1dfb69a0e9abd07c584037", func := "loop.example/lanekernel/laws.FnLinesTouched", spec := "fnLinesTouched", unfollowed := true, recurses := true, apart := false, narrowed := true }
def FnLinesTouchedUptoSaid : Prop := fnLinesTouchedUptoRow.holds Try.pinned (OpenSpec.upto fnLinesTouchedSpec)

/-- 'laws.FnLinesJoin', WHERE WHAT IT READS IS OF BULK AT MOST 1048576: true; the input reads as it did. -/
def fnLinesJoinUptoRow : OpenClaim := { program := "ytmgpbhehmoohmaa", sum := "d41448aa1d839ca7efc94b06faaab23963151ebd4c1dfb69a0e9abd07c584037", func := "loop.example/lanekernel/laws.FnLinesJoin", spec := "fnLinesJoin", unfollowed := true, recurses := true, apart := false, narrowed := true }
def FnLinesJoinUptoSaid : Prop := fnLinesJoinUptoRow.holds Try.pinned (OpenSpec.upto fnLinesJoinSpec)

/-- 'laws.FnStrideCells', WHERE WHAT IT READS IS OF BULK AT MOST 1048576: true; the input reads as it did. -/
def fnStrideCellsUptoRow : OpenClaim := { program := "ytmgpbhehmoohmaa", sum := "d41448aa1d839ca7efc94b06faaab23963151ebd4c1dfb69a0e9abd07c584037", func := "loop.example/lanekernel/laws.FnStrideCells", spec := "fnStrideCells", unfollowed := true, recurses := true, apart := false, narrowed := true }
def FnStrideCellsUptoSaid : Prop := fnStrideCellsUptoRow.holds Try.pinned (OpenSpec.upto fnStrideCellsSpec)

end Rows
end Go.Proofs.Ytmgpbhehmoohmaa
