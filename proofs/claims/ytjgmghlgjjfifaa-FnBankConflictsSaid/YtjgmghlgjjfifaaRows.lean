/-
  No cell of these rows narrows 'for every input' (looked for: loops, veiled, ifaces, maps, wideKeys, modest, calm, conditions, laid).
  DERIVED. THE GIVEN ROWS OF THIS SEAT. 10 by the template 'for every input the law returns true; each argument reads behind the call as it read before'; 0 by the template 'total and deterministic' (their statements: YtjgmghlgjjfifaaTotals.lean).
  GIVEN WITH THE SEED: the statements are not yours to turn. If you find one false, say at which input.
  Laid BY PROGRAM, IN A SANDBOX (cutbox-rows.mjs): the forced cells as the released guide's own fill.sh prints them over the translation a6eafde218f09656… (all of the seat's roots in one cut). By AI agents, Wed Nov 11 2026. No macro, syntax, notation, axiom, sorry.
-/
import Derived.Test.YtjgmghlgjjfifaaChecked
import GoSem.Claim
import GoSem.ClaimJoined
import GoSem.ClaimMapViews
import Derived.JoinedTies
import Derived.KernelRfl
namespace Go.Proofs.Ytjgmghlgjjfifaa
/- THE CELL 'sum', in the pinned program and in every row, IS THE sha256 OF THE DUMP (.gsa) THAT YtjgmghlgjjfifaaProg.lean LOADS. Nothing in Lean hashes anything: it is a label: what it is worth is what the hold of that sum in a sandbox is worth. -/
noncomputable def Try.pinned : Pinned := { name := "ytjgmghlgjjfifaa", sum := "a6eafde218f09656a06133d1752999c182e44c7496944fe3bd22edec2c6d2d17", checked := Try.checked }
namespace Rows
def none {H : Type} : Left H := { results := [], args := [] }

/-- 'laws.FnExactBankConflicts': WHATEVER THE INPUT: true; the input reads as it did. -/
def fnExactBankConflictsSpec : ChangeSpec := { name := "fnExactBankConflicts", fn := fun _ => fun
  | [d1, d2] => { results := [.lit (.bool true)], args := [d1, d2] }
  | _ => none }
def fnExactBankConflictsRow : OpenClaim := { program := "ytjgmghlgjjfifaa", sum := "a6eafde218f09656a06133d1752999c182e44c7496944fe3bd22edec2c6d2d17", func := "loop.example/lanekernel/laws.FnExactBankConflicts", spec := "fnExactBankConflicts", unfollowed := true, recurses := true, apart := false }
def FnExactBankConflictsSaid : Prop := fnExactBankConflictsRow.holds Try.pinned (OpenSpec.ofChange fnExactBankConflictsSpec)

/-- ITS FALSE NEIGHBOUR: 'it returns false'. Refute it at one input. -/
def fnExactBankConflictsWrong : ChangeSpec := { name := "fnExactBankConflicts", fn := fun _ => fun
  | [d1, d2] => { results := [.lit (.bool false)], args := [d1, d2] }
  | _ => none }
def FnExactBankConflictsWrongFalsely : Prop := fnExactBankConflictsRow.holds Try.pinned (OpenSpec.ofChange fnExactBankConflictsWrong)

/-- 'laws.FnExactBankLoads': WHATEVER THE INPUT: true; the input reads as it did. -/
def fnExactBankLoadsSpec : ChangeSpec := { name := "fnExactBankLoads", fn := fun _ => fun
  | [d1, d2] => { results := [.lit (.bool true)], args := [d1, d2] }
  | _ => none }
def fnExactBankLoadsRow : OpenClaim := { program := "ytjgmghlgjjfifaa", sum := "a6eafde218f09656a06133d1752999c182e44c7496944fe3bd22edec2c6d2d17", func := "loop.example/lanekernel/laws.FnExactBankLoads", spec := "fnExactBankLoads", unfollowed := true, recurses := true, apart := false }
def FnExactBankLoadsSaid : Prop := fnExactBankLoadsRow.holds Try.pinned (OpenSpec.ofChange fnExactBankLoadsSpec)

/-- ITS FALSE NEIGHBOUR: 'it returns false'. Refute it at one input. -/
def fnExactBankLoadsWrong : ChangeSpec := { name := "fnExactBankLoads", fn := fun _ => fun
  | [d1, d2] => { results := [.lit (.bool false)], args := [d1, d2] }
  | _ => none }
def FnExactBankLoadsWrongFalsely : Prop := fnExactBankLoadsRow.holds Try.pinned (OpenSpec.ofChange fnExactBankLoadsWrong)

/-- 'laws.FnExactBankRounds': WHATEVER THE INPUT: true; the input reads as it did. -/
def fnExactBankRoundsSpec : ChangeSpec := { name := "fnExactBankRounds", fn := fun _ => fun
  | [d1, d2] => { results := [.lit (.bool true)], args := [d1, d2] }
  | _ => none }
def fnExactBankRoundsRow : OpenClaim := { program := "ytjgmghlgjjfifaa", sum := "a6eafde218f09656a06133d1752999c182e44c7496944fe3bd22edec2c6d2d17", func := "loop.example/lanekernel/laws.FnExactBankRounds", spec := "fnExactBankRounds", unfollowed := true, recurses := true, apart := false }
def FnExactBankRoundsSaid : Prop := fnExactBankRoundsRow.holds Try.pinned (OpenSpec.ofChange fnExactBankRoundsSpec)

/-- ITS FALSE NEIGHBOUR: 'it returns false'. Refute it at one input. -/
def fnExactBankRoundsWrong : ChangeSpec := { name := "fnExactBankRounds", fn := fun _ => fun
  | [d1, d2] => { results := [.lit (.bool false)], args := [d1, d2] }
  | _ => none }
def FnExactBankRoundsWrongFalsely : Prop := fnExactBankRoundsRow.holds Try.pinned (OpenSpec.ofChange fnExactBankRoundsWrong)

/-- 'laws.FnBanksOdd': WHATEVER THE INPUT: true; the input reads as it did. -/
def fnBanksOddSpec : ChangeSpec := { name := "fnBanksOdd", fn := fun _ => fun
  | [d1, d2] => { results := [.lit (.bool true)], args := [d1, d2] }
  | _ => none }
def fnBanksOddRow : OpenClaim := { program := "ytjgmghlgjjfifaa", sum := "a6eafde218f09656a06133d1752999c182e44c7496944fe3bd22edec2c6d2d17", func := "loop.example/lanekernel/laws.FnBanksOdd", spec := "fnBanksOdd", unfollowed := true, recurses := true, apart := false }
def FnBanksOddSaid : Prop := fnBanksOddRow.holds Try.pinned (OpenSpec.ofChange fnBanksOddSpec)

/-- ITS FALSE NEIGHBOUR: 'it returns false'. Refute it at one input. -/
def fnBanksOddWrong : ChangeSpec := { name := "fnBanksOdd", fn := fun _ => fun
  | [d1, d2] => { results := [.lit (.bool false)], args := [d1, d2] }
  | _ => none }
def FnBanksOddWrongFalsely : Prop := fnBanksOddRow.holds Try.pinned (OpenSpec.ofChange fnBanksOddWrong)

/-- 'laws.FnBanksNear': WHATEVER THE INPUT: true; the input reads as it did. -/
def fnBanksNearSpec : ChangeSpec := { name := "fnBanksNear", fn := fun _ => fun
  | [d] => { results := [.lit (.bool true)], args := [d] }
  | _ => none }
def fnBanksNearRow : OpenClaim := { program := "ytjgmghlgjjfifaa", sum := "a6eafde218f09656a06133d1752999c182e44c7496944fe3bd22edec2c6d2d17", func := "loop.example/lanekernel/laws.FnBanksNear", spec := "fnBanksNear", unfollowed := true, recurses := true, apart := false }
def FnBanksNearSaid : Prop := fnBanksNearRow.holds Try.pinned (OpenSpec.ofChange fnBanksNearSpec)

/-- ITS FALSE NEIGHBOUR: 'it returns false'. Refute it at one input. -/
def fnBanksNearWrong : ChangeSpec := { name := "fnBanksNear", fn := fun _ => fun
  | [d] => { results := [.lit (.bool false)], args := [d] }
  | _ => none }
def FnBanksNearWrongFalsely : Prop := fnBanksNearRow.holds Try.pinned (OpenSpec.ofChange fnBanksNearWrong)

/-- 'laws.FnBanksShift': WHATEVER THE INPUT: true; the input reads as it did. -/
def fnBanksShiftSpec : ChangeSpec := { name := "fnBanksShift", fn := fun _ => fun
  | [d] => { results := [.lit (.bool true)], args := [d] }
  | _ => none }
def fnBanksShiftRow : OpenClaim := { program := "ytjgmghlgjjfifaa", sum := "a6eafde218f09656a06133d1752999c182e44c7496944fe3bd22edec2c6d2d17", func := "loop.example/lanekernel/laws.FnBanksShift", spec := "fnBanksShift", unfollowed := true, recurses := true, apart := false }
def FnBanksShiftSaid : Prop := fnBanksShiftRow.holds Try.pinned (OpenSpec.ofChange fnBanksShiftSpec)

/-- ITS FALSE NEIGHBOUR: 'it returns false'. Refute it at one input. -/
def fnBanksShiftWrong : ChangeSpec := { name := "fnBanksShift", fn := fun _ => fun
  | [d] => { results := [.lit (.bool false)], args := [d] }
  | _ => none }
def FnBanksShiftWrongFalsely : Prop := fnBanksShiftRow.holds Try.pinned (OpenSpec.ofChange fnBanksShiftWrong)

/-- 'laws.FnBankLoads': WHATEVER THE INPUT: true; the input reads as it did. -/
def fnBankLoadsSpec : ChangeSpec := { name := "fnBankLoads", fn := fun _ => fun
  | [d] => { results := [.lit (.bool true)], args := [d] }
  | _ => none }
def fnBankLoadsRow : OpenClaim := { program := "ytjgmghlgjjfifaa", sum := "a6eafde218f09656a06133d1752999c182e44c7496944fe3bd22edec2c6d2d17", func := "loop.example/lanekernel/laws.FnBankLoads", spec := "fnBankLoads", unfollowed := true, recurses := true, apart := false }
def FnBankLoadsSaid : Prop := fnBankLoadsRow.holds Try.pinned (OpenSpec.ofChange fnBankLoadsSpec)

/-- ITS FALSE NEIGHBOUR: 'it returns false'. Refute it at one input. -/
def fnBankLoadsWrong : ChangeSpec := { name := "fnBankLoads", fn := fun _ => fun
  | [d] => { results := [.lit (.bool false)], args := [d] }
  | _ => none }
def FnBankLoadsWrongFalsely : Prop := fnBankLoadsRow.holds Try.pinned (OpenSpec.ofChange fnBankLoadsWrong)

/-- 'laws.FnBankRounds': WHATEVER THE INPUT: true; the input reads as it did. -/
def fnBankRoundsSpec : ChangeSpec := { name := "fnBankRounds", fn := fun _ => fun
  | [d] => { results := [.lit (.bool true)], args := [d] }
  | _ => none }
def fnBankRoundsRow : OpenClaim := { program := "ytjgmghlgjjfifaa", sum := "a6eafde218f09656a06133d1752999c182e44c7496944fe3bd22edec2c6d2d17", func := "loop.example/lanekernel/laws.FnBankRounds", spec := "fnBankRounds", unfollowed := true, recurses := true, apart := false }
def FnBankRoundsSaid : Prop := fnBankRoundsRow.holds Try.pinned (OpenSpec.ofChange fnBankRoundsSpec)

/-- ITS FALSE NEIGHBOUR: 'it returns false'. Refute it at one input. -/
def fnBankRoundsWrong : ChangeSpec := { name := "fnBankRounds", fn := fun _ => fun
  | [d] => { results := [.lit (.bool false)], args := [d] }
  | _ => none }
def FnBankRoundsWrongFalsely : Prop := fnBankRoundsRow.holds Try.pinned (OpenSpec.ofChange fnBankRoundsWrong)

/-- 'laws.FnBankConflicts': WHATEVER THE INPUT: true; the input reads as it did. -/
def fnBankConflictsSpec : ChangeSpec := { name := "fnBankConflicts", fn := fun _ => fun
  | [d] => { results := [.lit (.bool true)], args := [d] }
  | _ => none }
def fnBankConflictsRow : OpenClaim := { program := "ytjgmghlgjjfifaa", sum := "a6eafde218f09656a06133d1752999c182e44c7496944fe3bd22edec2c6d2d17", func := "loop.example/lanekernel/laws.FnBankConflicts", spec := "fnBankConflicts", unfollowed := true, recurses := true, apart := false }
def FnBankConflictsSaid : Prop := fnBankConflictsRow.holds Try.pinned (OpenSpec.ofChange fnBankConflictsSpec)

/-- ITS FALSE NEIGHBOUR: 'it returns false'. Refute it at one input. -/
def fnBankConflictsWrong : ChangeSpec := { name := "fnBankConflicts", fn := fun _ => fun
  | [d] => { results := [.lit (.bool false)], args := [d] }
  | _ => none }
def FnBankConflictsWrongFalsely : Prop := fnBankConflictsRow.holds Try.pinned (OpenSpec.ofChange fnBankConflictsWrong)

/-- 'laws.FnIsGathered': WHATEVER THE INPUT: true; the input reads as it did. -/
def fnIsGatheredSpec : ChangeSpec := { name := "fnIsGathered", fn := fun _ => fun
  | [d] => { results := [.lit (.bool true)], args := [d] }
  | _ => none }
def fnIsGatheredRow : OpenClaim := { program := "ytjgmghlgjjfifaa", sum := "a6eafde218f09656a06133d1752999c182e44c7496944fe3bd22edec2c6d2d17", func := "loop.example/lanekernel/laws.FnIsGathered", spec := "fnIsGathered", unfollowed := true, recurses := true, apart := false }
def FnIsGatheredSaid : Prop := fnIsGatheredRow.holds Try.pinned (OpenSpec.ofChange fnIsGatheredSpec)

/-- ITS FALSE NEIGHBOUR: 'it returns false'. Refute it at one input. -/
def fnIsGatheredWrong : ChangeSpec := { name := "fnIsGathered", fn := fun _ => fun
  | [d] => { results := [.lit (.bool false)], args := [d] }
  | _ => none }
def FnIsGatheredWrongFalsely : Prop := fnIsGatheredRow.holds Try.pinned (OpenSpec.ofChange fnIsGatheredWrong)

/- THE SECOND FORM. 'bulk': how many values and letters a reading holds, each counted each time it is reached (what is shared counts as often as it is met; a slice's spare places count too). A statement '..UptoSaid' is the law's where the arguments, and the package variables that the reading takes, are together of bulk at most 1048576: NARROWER than '..Said'. Prove '..Said' where nothing that the law and all that it calls make is longer than what came in: it says more and counts as full. Else prove '..UptoSaid'. A law counts once. -/
mutual
def uptoBulk {H : Type} : DataW H → Nat
  | .lit (.string bytes) => bytes.length + 1
  | .lit _ => 1
  | .nil => 1
  | .ptr d => uptoBulk d + 1
  | .slice elems spare => uptoBulkAll elems + uptoBulkAll spare + 1
  | .agg parts => uptoBulkAll parts + 1
  | .iface _ d => uptoBulk d + 1
  | .map entries => uptoBulkEntries entries + 1
  | .held _ => 1
def uptoBulkAll {H : Type} : List (DataW H) → Nat
  | [] => 0
  | d :: r => uptoBulk d + uptoBulkAll r
def uptoBulkEntries {H : Type} : List (Lit × DataW H) → Nat
  | [] => 0
  | x :: r => uptoBulkEntry x + uptoBulkEntries r
def uptoBulkEntry {H : Type} : Lit × DataW H → Nat
  | (.string bytes, d) => bytes.length + uptoBulk d + 1
  | (_, d) => uptoBulk d + 1
 end
def uptoSmall : (H : Type) → List (DataW H) → Bool := fun _ ds => decide (uptoBulkAll ds ≤ 1048576)
def OpenSpec.upto (s : _root_.Go.ChangeSpec) : _root_.Go.OpenSpec := { _root_.Go.OpenSpec.ofChange s with cond := some uptoSmall }

/-- 'laws.FnExactBankConflicts', WHERE WHAT IT READS IS OF BULK AT MOST 1048576: true; the input reads as it did. -/
def fnExactBankConflictsUptoRow : OpenClaim := { program := "ytjgmghlgjjfifaa", sum := "a6eafde218f09656a06133d1752999c182e44c7496944fe3bd22edec2c6d2d17", func := "loop.example/lanekernel/laws.FnExactBankConflicts", spec := "fnExactBankConflicts", unfollowed := true, recurses := true, apart := false, narrowed := true }
def FnExactBankConflictsUptoSaid : Prop := fnExactBankConflictsUptoRow.holds Try.pinned (OpenSpec.upto fnExactBankConflictsSpec)

/-- 'laws.FnExactBankLoads', WHERE WHAT IT READS IS OF BULK AT MOST 1048576: true; the input reads as it did. -/
def fnExactBankLoadsUptoRow : OpenClaim := { program := "ytjgmghlgjjfifaa", sum := "a6eafde218f09656a06133d1752999c182e44c7496944fe3bd22edec2c6d2d17", func := "loop.example/lanekernel/laws.FnExactBankLoads", spec := "fnExactBankLoads", unfollowed := true, recurses := true, apart := false, narrowed := true }
def FnExactBankLoadsUptoSaid : Prop := fnExactBankLoadsUptoRow.holds Try.pinned (OpenSpec.upto fnExactBankLoadsSpec)

/-- 'laws.FnExactBankRounds', WHERE WHAT IT READS IS OF BULK AT MOST 1048576: true; the input reads as it did. -/
def fnExactBankRoundsUptoRow : OpenClaim := { program := "ytjgmghlgjjfifaa", sum := "a6eafde218f09656a06133d1752999c182e44c7496944fe3bd22edec2c6d2d17", func := "loop.example/lanekernel/laws.FnExactBankRounds", spec := "fnExactBankRounds", unfollowed := true, recurses := true, apart := false, narrowed := true }
def FnExactBankRoundsUptoSaid : Prop := fnExactBankRoundsUptoRow.holds Try.pinned (OpenSpec.upto fnExactBankRoundsSpec)

/-- 'laws.FnBanksOdd', WHERE WHAT IT READS IS OF BULK AT MOST 1048576: true; the input reads as it did. -/
def fnBanksOddUptoRow : OpenClaim := { program := "ytjgmghlgjjfifaa", sum := "a6eafde218f09656a06133d1752999c182e44c7496944fe3bd22edec2c6d2d17", func := "loop.example/lanekernel/laws.FnBanksOdd", spec := "fnBanksOdd", unfollowed := true, recurses := true, apart := false, narrowed := true }
def FnBanksOddUptoSaid : Prop := fnBanksOddUptoRow.holds Try.pinned (OpenSpec.upto fnBanksOddSpec)

/-- 'laws.FnBanksNear', WHERE WHAT IT READS IS OF BULK AT MOST 1048576: true; the input reads as it did. -/
def fnBanksNearUptoRow : OpenClaim := { program := "ytjgmghlgjjfifaa", sum := "a6eafde218f09656a06133d1752999c182e44c7496944fe3bd22edec2c6d2d17", func := "loop.example/lanekernel/laws.FnBanksNear", spec := "fnBanksNear", unfollowed := true, recurses := true, apart := false, narrowed := true }
def FnBanksNearUptoSaid : Prop := fnBanksNearUptoRow.holds Try.pinned (OpenSpec.upto fnBanksNearSpec)

/-- 'laws.FnBanksShift', WHERE WHAT IT READS IS OF BULK AT MOST 1048576: true; the input reads as it did. -/
def fnBanksShiftUptoRow : OpenClaim := { program := "ytjgmghlgjjfifaa", sum := "a6eafde218f09656a06133d1752999c182e44c7496944fe3bd22edec2c6d2d17", func := "loop.example/lanekernel/laws.FnBanksShift", spec := "fnBanksShift", unfollowed := true, recurses := true, apart := false, narrowed := true }
def FnBanksShiftUptoSaid : Prop := fnBanksShiftUptoRow.holds Try.pinned (OpenSpec.upto fnBanksShiftSpec)

/-- 'laws.FnBankLoads', WHERE WHAT IT READS IS OF BULK AT MOST 1048576: true; the input reads as it did. -/
def fnBankLoadsUptoRow : OpenClaim := { program := "ytjgmghlgjjfifaa", sum := "a6eafde218f09656a06133d1752999c182e44c7496944fe3bd22edec2c6d2d17", func := "loop.example/lanekernel/laws.FnBankLoads", spec := "fnBankLoads", unfollowed := true, recurses := true, apart := false, narrowed := true }
def FnBankLoadsUptoSaid : Prop := fnBankLoadsUptoRow.holds Try.pinned (OpenSpec.upto fnBankLoadsSpec)

/-- 'laws.FnBankRounds', WHERE WHAT IT READS IS OF BULK AT MOST 1048576: true; the input reads as it did. -/
def fnBankRoundsUptoRow : OpenClaim := { program := "ytjgmghlgjjfifaa", sum := "a6eafde218f09656a06133d1752999c182e44c7496944fe3bd22edec2c6d2d17", func := "loop.example/lanekernel/laws.FnBankRounds", spec := "fnBankRounds", unfollowed := true, recurses := true, apart := false, narrowed := true }
def FnBankRoundsUptoSaid : Prop := fnBankRoundsUptoRow.holds Try.pinned (OpenSpec.upto fnBankRoundsSpec)

/-- 'laws.FnBankConflicts', WHERE WHAT IT READS IS OF BULK AT MOST 1048576: true; the input reads as it did. -/
def fnBankConflictsUptoRow : OpenClaim := { program := "ytjgmghlgjjfifaa", sum := "a6eafde218f09656a06133d1752999c182e44c7496944fe3bd22edec2c6d2d17", func := "loop.example/lanekernel/laws.FnBankConflicts", spec := "fnBankConflicts", unfollowed := true, recurses := true, apart := false, narrowed := true }
def FnBankConflictsUptoSaid : Prop := fnBankConflictsUptoRow.holds Try.pinned (OpenSpec.upto fnBankConflictsSpec)

/-- 'laws.FnIsGathered', WHERE WHAT IT READS IS OF BULK AT MOST 1048576: true; the input reads as it did. -/
def fnIsGatheredUptoRow : OpenClaim := { program := "ytjgmghlgjjfifaa", sum := "a6eafde218f09656a06133d1752999c182e44c7496944fe3bd22edec2c6d2d17", func := "loop.example/lanekernel/laws.FnIsGathered", spec := "fnIsGathered", unfollowed := true, recurses := true, apart := false, narrowed := true }
def FnIsGatheredUptoSaid : Prop := fnIsGatheredUptoRow.holds Try.pinned (OpenSpec.upto fnIsGatheredSpec)

end Rows
end Go.Proofs.Ytjgmghlgjjfifaa
