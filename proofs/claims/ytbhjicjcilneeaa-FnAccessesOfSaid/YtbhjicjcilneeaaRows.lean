/-
  No cell of these rows narrows 'for every input' (looked for: loops, veiled, ifaces, maps, wideKeys, modest, calm, conditions, laid).
  DERIVED. THE GIVEN ROWS OF THIS SEAT. 8 by the template 'for every input the law returns true; each argument reads behind the call as it read before'; 0 by the template 'total and deterministic' (their statements: YtbhjicjcilneeaaTotals.lean).
  GIVEN WITH THE SEED: the statements are not yours to turn. If you find one false, say at which input.
  Laid BY PROGRAM, IN A SANDBOX (cutbox-rows.mjs): the forced cells as the released guide's own fill.sh prints them over the translation 8bf1fd5ca5362d62… (all of the seat's roots in one cut). By AI agents, Wed Nov 11 2026. No macro, syntax, notation, axiom, sorry.
-/
import Derived.Test.YtbhjicjcilneeaaChecked
import GoSem.Claim
import GoSem.ClaimJoined
import GoSem.ClaimMapViews
import Derived.JoinedTies
import Derived.KernelRfl
namespace Go.Proofs.Ytbhjicjcilneeaa
/- THE CELL 'sum', in the pinned program and in every row, IS THE sha256 OF THE DUMP (.gsa) THAT YtbhjicjcilneeaaProg.lean LOADS. Nothing in Lean hashes anything: it is a label: what it is worth is what the hold of that sum in a sandbox is worth. -/
noncomputable def Try.pinned : Pinned := { name := "ytbhjicjcilneeaa", sum := "8bf1fd5ca5362d626e5658dd91dede8a862ab9f0565db3154af0a12d1766885e", checked := Try.checked }
namespace Rows
def none {H : Type} : Left H := { results := [], args := [] }

/-- 'laws.FnExactFirstRace': WHATEVER THE INPUT: true; the input reads as it did. -/
def fnExactFirstRaceSpec : ChangeSpec := { name := "fnExactFirstRace", fn := fun _ => fun
  | [d] => { results := [.lit (.bool true)], args := [d] }
  | _ => none }
def fnExactFirstRaceRow : OpenClaim := { program := "ytbhjicjcilneeaa", sum := "8bf1fd5ca5362d626e5658dd91dede8a862ab9f0565db3154af0a12d1766885e", func := "loop.example/lanekernel/laws.FnExactFirstRace", spec := "fnExactFirstRace", apart := false }
def FnExactFirstRaceSaid : Prop := fnExactFirstRaceRow.holds Try.pinned (OpenSpec.ofChange fnExactFirstRaceSpec)

/-- ITS FALSE NEIGHBOUR: 'it returns false'. Refute it at one input. -/
def fnExactFirstRaceWrong : ChangeSpec := { name := "fnExactFirstRace", fn := fun _ => fun
  | [d] => { results := [.lit (.bool false)], args := [d] }
  | _ => none }
def FnExactFirstRaceWrongFalsely : Prop := fnExactFirstRaceRow.holds Try.pinned (OpenSpec.ofChange fnExactFirstRaceWrong)

/-- 'laws.FnAccessesOf': WHATEVER THE INPUT: true; the input reads as it did. -/
def fnAccessesOfSpec : ChangeSpec := { name := "fnAccessesOf", fn := fun _ => fun
  | [d] => { results := [.lit (.bool true)], args := [d] }
  | _ => none }
def fnAccessesOfRow : OpenClaim := { program := "ytbhjicjcilneeaa", sum := "8bf1fd5ca5362d626e5658dd91dede8a862ab9f0565db3154af0a12d1766885e", func := "loop.example/lanekernel/laws.FnAccessesOf", spec := "fnAccessesOf", unfollowed := true, recurses := true, apart := false }
def FnAccessesOfSaid : Prop := fnAccessesOfRow.holds Try.pinned (OpenSpec.ofChange fnAccessesOfSpec)

/-- ITS FALSE NEIGHBOUR: 'it returns false'. Refute it at one input. -/
def fnAccessesOfWrong : ChangeSpec := { name := "fnAccessesOf", fn := fun _ => fun
  | [d] => { results := [.lit (.bool false)], args := [d] }
  | _ => none }
def FnAccessesOfWrongFalsely : Prop := fnAccessesOfRow.holds Try.pinned (OpenSpec.ofChange fnAccessesOfWrong)

/-- 'laws.FnExactAccessesOf': WHATEVER THE INPUT: true; the input reads as it did. -/
def fnExactAccessesOfSpec : ChangeSpec := { name := "fnExactAccessesOf", fn := fun _ => fun
  | [d1, d2] => { results := [.lit (.bool true)], args := [d1, d2] }
  | _ => none }
def fnExactAccessesOfRow : OpenClaim := { program := "ytbhjicjcilneeaa", sum := "8bf1fd5ca5362d626e5658dd91dede8a862ab9f0565db3154af0a12d1766885e", func := "loop.example/lanekernel/laws.FnExactAccessesOf", spec := "fnExactAccessesOf", unfollowed := true, recurses := true, apart := false }
def FnExactAccessesOfSaid : Prop := fnExactAccessesOfRow.holds Try.pinned (OpenSpec.ofChange fnExactAccessesOfSpec)

/-- ITS FALSE NEIGHBOUR: 'it returns false'. Refute it at one input. -/
def fnExactAccessesOfWrong : ChangeSpec := { name := "fnExactAccessesOf", fn := fun _ => fun
  | [d1, d2] => { results := [.lit (.bool false)], args := [d1, d2] }
  | _ => none }
def FnExactAccessesOfWrongFalsely : Prop := fnExactAccessesOfRow.holds Try.pinned (OpenSpec.ofChange fnExactAccessesOfWrong)

/-- 'laws.FnCellsWritten': WHATEVER THE INPUT: true; the input reads as it did. -/
def fnCellsWrittenSpec : ChangeSpec := { name := "fnCellsWritten", fn := fun _ => fun
  | [d] => { results := [.lit (.bool true)], args := [d] }
  | _ => none }
def fnCellsWrittenRow : OpenClaim := { program := "ytbhjicjcilneeaa", sum := "8bf1fd5ca5362d626e5658dd91dede8a862ab9f0565db3154af0a12d1766885e", func := "loop.example/lanekernel/laws.FnCellsWritten", spec := "fnCellsWritten", recurses := true, apart := false }
def FnCellsWrittenSaid : Prop := fnCellsWrittenRow.holds Try.pinned (OpenSpec.ofChange fnCellsWrittenSpec)

/-- ITS FALSE NEIGHBOUR: 'it returns false'. Refute it at one input. -/
def fnCellsWrittenWrong : ChangeSpec := { name := "fnCellsWritten", fn := fun _ => fun
  | [d] => { results := [.lit (.bool false)], args := [d] }
  | _ => none }
def FnCellsWrittenWrongFalsely : Prop := fnCellsWrittenRow.holds Try.pinned (OpenSpec.ofChange fnCellsWrittenWrong)

/-- 'laws.FnExactCellsWritten': WHATEVER THE INPUT: true; the input reads as it did. -/
def fnExactCellsWrittenSpec : ChangeSpec := { name := "fnExactCellsWritten", fn := fun _ => fun
  | [d] => { results := [.lit (.bool true)], args := [d] }
  | _ => none }
def fnExactCellsWrittenRow : OpenClaim := { program := "ytbhjicjcilneeaa", sum := "8bf1fd5ca5362d626e5658dd91dede8a862ab9f0565db3154af0a12d1766885e", func := "loop.example/lanekernel/laws.FnExactCellsWritten", spec := "fnExactCellsWritten", recurses := true, apart := false }
def FnExactCellsWrittenSaid : Prop := fnExactCellsWrittenRow.holds Try.pinned (OpenSpec.ofChange fnExactCellsWrittenSpec)

/-- ITS FALSE NEIGHBOUR: 'it returns false'. Refute it at one input. -/
def fnExactCellsWrittenWrong : ChangeSpec := { name := "fnExactCellsWritten", fn := fun _ => fun
  | [d] => { results := [.lit (.bool false)], args := [d] }
  | _ => none }
def FnExactCellsWrittenWrongFalsely : Prop := fnExactCellsWrittenRow.holds Try.pinned (OpenSpec.ofChange fnExactCellsWrittenWrong)

/-- 'laws.FnFirstRace': WHATEVER THE INPUT: true; the input reads as it did. -/
def fnFirstRaceSpec : ChangeSpec := { name := "fnFirstRace", fn := fun _ => fun
  | [d] => { results := [.lit (.bool true)], args := [d] }
  | _ => none }
def fnFirstRaceRow : OpenClaim := { program := "ytbhjicjcilneeaa", sum := "8bf1fd5ca5362d626e5658dd91dede8a862ab9f0565db3154af0a12d1766885e", func := "loop.example/lanekernel/laws.FnFirstRace", spec := "fnFirstRace", recurses := true, apart := false }
def FnFirstRaceSaid : Prop := fnFirstRaceRow.holds Try.pinned (OpenSpec.ofChange fnFirstRaceSpec)

/-- ITS FALSE NEIGHBOUR: 'it returns false'. Refute it at one input. -/
def fnFirstRaceWrong : ChangeSpec := { name := "fnFirstRace", fn := fun _ => fun
  | [d] => { results := [.lit (.bool false)], args := [d] }
  | _ => none }
def FnFirstRaceWrongFalsely : Prop := fnFirstRaceRow.holds Try.pinned (OpenSpec.ofChange fnFirstRaceWrong)

/-- 'laws.FnRaceCells': WHATEVER THE INPUT: true; the input reads as it did. -/
def fnRaceCellsSpec : ChangeSpec := { name := "fnRaceCells", fn := fun _ => fun
  | [d] => { results := [.lit (.bool true)], args := [d] }
  | _ => none }
def fnRaceCellsRow : OpenClaim := { program := "ytbhjicjcilneeaa", sum := "8bf1fd5ca5362d626e5658dd91dede8a862ab9f0565db3154af0a12d1766885e", func := "loop.example/lanekernel/laws.FnRaceCells", spec := "fnRaceCells", recurses := true, apart := false }
def FnRaceCellsSaid : Prop := fnRaceCellsRow.holds Try.pinned (OpenSpec.ofChange fnRaceCellsSpec)

/-- ITS FALSE NEIGHBOUR: 'it returns false'. Refute it at one input. -/
def fnRaceCellsWrong : ChangeSpec := { name := "fnRaceCells", fn := fun _ => fun
  | [d] => { results := [.lit (.bool false)], args := [d] }
  | _ => none }
def FnRaceCellsWrongFalsely : Prop := fnRaceCellsRow.holds Try.pinned (OpenSpec.ofChange fnRaceCellsWrong)

/-- 'laws.FnExactRaceCells': WHATEVER THE INPUT: true; the input reads as it did. -/
def fnExactRaceCellsSpec : ChangeSpec := { name := "fnExactRaceCells", fn := fun _ => fun
  | [d] => { results := [.lit (.bool true)], args := [d] }
  | _ => none }
def fnExactRaceCellsRow : OpenClaim := { program := "ytbhjicjcilneeaa", sum := "8bf1fd5ca5362d626e5658dd91dede8a862ab9f0565db3154af0a12d1766885e", func := "loop.example/lanekernel/laws.FnExactRaceCells", spec := "fnExactRaceCells", recurses := true, apart := false }
def FnExactRaceCellsSaid : Prop := fnExactRaceCellsRow.holds Try.pinned (OpenSpec.ofChange fnExactRaceCellsSpec)

/-- ITS FALSE NEIGHBOUR: 'it returns false'. Refute it at one input. -/
def fnExactRaceCellsWrong : ChangeSpec := { name := "fnExactRaceCells", fn := fun _ => fun
  | [d] => { results := [.lit (.bool false)], args := [d] }
  | _ => none }
def FnExactRaceCellsWrongFalsely : Prop := fnExactRaceCellsRow.holds Try.pinned (OpenSpec.ofChange fnExactRaceCellsWrong)

/- THE SECOND FORM. 'bulk': how many values and letters a reading holds, each counted each time it is reached (what is shared counts as often as it is met; a slice's spare places count too). A statement '..UptoSaid' is the law's where the arguments, and the package variables that the reading takes, are together of bulk at most 1048576: NARROWER than '..Said'. Prove '..Said' where nothing that the law and all that it calls make is longer than what came in: it says more and counts as full. Else prove '..UptoSaid'. A law counts once. -/
mutual
def uptoBulk {H : Type} : DataW H → Nat
  | .lit (.string bytes) => bytes.length + 1
  | .lit _ => 1
  | .nil => 1
  | .ptr d => uptoBulk d + 1
  | .slice elems spare => uptoBulkAll elems + uptoBulkAll spare + 1
  | .agg parts => uptoBulkAll parts + 1
  | .iface _ d => uptoBulk d + 1
  | .map entries => uptoBulkEntries entries + 1
  | .held _ => 1
def uptoBulkAll {H : Type} : List (DataW H) → Nat
  | [] => 0
  | d :: r => uptoBulk d + uptoBulkAll r
def uptoBulkEntries {H : Type} : List (Lit × DataW H) → Nat
  | [] => 0
  | x :: r => uptoBulkEntry x + uptoBulkEntries r
def uptoBulkEntry {H : Type} : Lit × DataW H → Nat
  | (.string bytes, d) => bytes.length + uptoBulk d + 1
  | (_, d) => uptoBulk d + 1
 end
def uptoSmall : (H : Type) → List (DataW H) → Bool := fun _ ds => decide (uptoBulkAll ds ≤ 1048576)
def OpenSpec.upto (s : _root_.Go.ChangeSpec) : _root_.Go.OpenSpec := { _root_.Go.OpenSpec.ofChange s with cond := some uptoSmall }

/-- 'laws.FnExactFirstRace', WHERE WHAT IT READS IS OF BULK AT MOST 1048576: true; the input reads as it did. -/
def fnExactFirstRaceUptoRow : OpenClaim := { program := "ytbhjicjcilneeaa", sum := "8bf1fd5ca5362d626e5658dd91dede8a862ab9f0565db3154af0a12d1766885e", func := "loop.example/lanekernel/laws.FnExactFirstRace", spec := "fnExactFirstRace", apart := false, narrowed := true }
def FnExactFirstRaceUptoSaid : Prop := fnExactFirstRaceUptoRow.holds Try.pinned (OpenSpec.upto fnExactFirstRaceSpec)

/-- 'laws.FnAccessesOf', WHERE WHAT IT READS IS OF BULK AT MOST 1048576: true; the input reads as it did. -/
def fnAccessesOfUptoRow : OpenClaim := { program := "ytbhjicjcilneeaa", sum := "8bf1fd5ca5362d626e5658dd91dede8a862ab9f0565db3154af0a12d1766885e", func := "loop.example/lanekernel/laws.FnAccessesOf", spec := "fnAccessesOf", unfollowed := true, recurses := true, apart := false, narrowed := true }
def FnAccessesOfUptoSaid : Prop := fnAccessesOfUptoRow.holds Try.pinned (OpenSpec.upto fnAccessesOfSpec)

/-- 'laws.FnExactAccessesOf', WHERE WHAT IT READS IS OF BULK AT MOST 1048576: true; the input reads as it did. -/
def fnExactAccessesOfUptoRow : OpenClaim := { program := "ytbhjicjcilneeaa", sum := "8bf1fd5ca5362d626e5658dd91dede8a862ab9f0565db3154af0a12d1766885e", func := "loop.example/lanekernel/laws.FnExactAccessesOf", spec := "fnExactAccessesOf", unfollowed := true, recurses := true, apart := false, narrowed := true }
def FnExactAccessesOfUptoSaid : Prop := fnExactAccessesOfUptoRow.holds Try.pinned (OpenSpec.upto fnExactAccessesOfSpec)

/-- 'laws.FnCellsWritten', WHERE WHAT IT READS IS OF BULK AT MOST 1048576: true; the input reads as it did. -/
def fnCellsWrittenUptoRow : OpenClaim := { program := "ytbhjicjcilneeaa", sum := "8bf1fd5ca5362d626e5658dd91dede8a862ab9f0565db3154af0a12d1766885e", func := "loop.example/lanekernel/laws.FnCellsWritten", spec := "fnCellsWritten", recurses := true, apart := false, narrowed := true }
def FnCellsWrittenUptoSaid : Prop := fnCellsWrittenUptoRow.holds Try.pinned (OpenSpec.upto fnCellsWrittenSpec)

/-- 'laws.FnExactCellsWritten', WHERE WHAT IT READS IS OF BULK AT MOST 1048576: true; the input reads as it did. -/
def fnExactCellsWrittenUptoRow : OpenClaim := { program := "ytbhjicjcilneeaa", sum := "8bf1fd5ca5362d626e5658dd91dede8a862ab9f0565db3154af0a12d1766885e", func := "loop.example/lanekernel/laws.FnExactCellsWritten", spec := "fnExactCellsWritten", recurses := true, apart := false, narrowed := true }
def FnExactCellsWrittenUptoSaid : Prop := fnExactCellsWrittenUptoRow.holds Try.pinned (OpenSpec.upto fnExactCellsWrittenSpec)

/-- 'laws.FnFirstRace', WHERE WHAT IT READS IS OF BULK AT MOST 1048576: true; the input reads as it did. -/
def fnFirstRaceUptoRow : OpenClaim := { program := "ytbhjicjcilneeaa", sum := "8bf1fd5ca5362d626e5658dd91dede8a862ab9f0565db3154af0a12d1766885e", func := "loop.example/lanekernel/laws.FnFirstRace", spec := "fnFirstRace", recurses := true, apart := false, narrowed := true }
def FnFirstRaceUptoSaid : Prop := fnFirstRaceUptoRow.holds Try.pinned (OpenSpec.upto fnFirstRaceSpec)

/-- 'laws.FnRaceCells', WHERE WHAT IT READS IS OF BULK AT MOST 1048576: true; the input reads as it did. -/
def fnRaceCellsUptoRow : OpenClaim := { program := "ytbhjicjcilneeaa", sum := "8bf1fd5ca5362d626e5658dd91dede8a862ab9f0565db3154af0a12d1766885e", func := "loop.example/lanekernel/laws.FnRaceCells", spec := "fnRaceCells", recurses := true, apart := false, narrowed := true }
def FnRaceCellsUptoSaid : Prop := fnRaceCellsUptoRow.holds Try.pinned (OpenSpec.upto fnRaceCellsSpec)

/-- 'laws.FnExactRaceCells', WHERE WHAT IT READS IS OF BULK AT MOST 1048576: true; the input reads as it did. -/
def fnExactRaceCellsUptoRow : OpenClaim := { program := "ytbhjicjcilneeaa", sum := "8bf1fd5ca5362d626e5658dd91dede8a862ab9f0565db3154af0a12d1766885e", func := "loop.example/lanekernel/laws.FnExactRaceCells", spec := "fnExactRaceCells", recurses := true, apart := false, narrowed := true }
def FnExactRaceCellsUptoSaid : Prop := fnExactRaceCellsUptoRow.holds Try.pinned (OpenSpec.upto fnExactRaceCellsSpec)

end Rows
end Go.Proofs.Ytbhjicjcilneeaa
