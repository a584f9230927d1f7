/-
  No cell of these rows narrows 'for every input' (looked for: loops, veiled, ifaces, maps, wideKeys, modest, calm, conditions, laid).
  DERIVED. THE GIVEN ROWS OF THIS SEAT. 3 by the template 'for every input the law returns true; each argument reads behind the call as it read before'; 0 by the template 'total and deterministic' (their statements: YthpabcgnijfiaaaTotals.lean).
  GIVEN WITH THE SEED: the statements are not yours to turn. If you find one false, say at which input.
  Laid BY PROGRAM, IN A SANDBOX (cutbox-rows.mjs): the forced cells as the released guide's own fill.sh prints them over the translation 086cf57367514512… (all of the seat's roots in one cut). By AI agents, Wed Nov 11 2026. No macro, syntax, notation, axiom, sorry.
-/
import Derived.Test.YthpabcgnijfiaaaChecked
import GoSem.Claim
import GoSem.ClaimJoined
import GoSem.ClaimMapViews
import Derived.JoinedTies
import Derived.KernelRfl
namespace Go.Proofs.Ythpabcgnijfiaaa
/- THE CELL 'sum', in the pinned program and in every row, IS THE sha256 OF THE DUMP (.gsa) THAT YthpabcgnijfiaaaProg.lean LOADS. Nothing in Lean hashes anything: it is a label: what it is worth is what the hold of that sum in a sandbox is worth. -/
noncomputable def Try.pinned : Pinned := { name := "ythpabcgnijfiaaa", sum := "086cf5736751451289f71ecc0978d77d2ff94a4d010cc3ad4479057cffaff09b", checked := Try.checked }
namespace Rows
def none {H : Type} : Left H := { results := [], args := [] }

/-- 'laws.FnRunOrder': WHATEVER THE INPUT: true; the input reads as it did. -/
def fnRunOrderSpec : ChangeSpec := { name := "fnRunOrder", fn := fun _ => fun
  | [d] => { results := [.lit (.bool true)], args := [d] }
  | _ => none }
def fnRunOrderRow : OpenClaim := { program := "ythpabcgnijfiaaa", sum := "086cf5736751451289f71ecc0978d77d2ff94a4d010cc3ad4479057cffaff09b", func := "loop.example/lanekernel/laws.FnRunOrder", spec := "fnRunOrder", unfollowed := true, recurses := true, apart := false }
def FnRunOrderSaid : Prop := fnRunOrderRow.holds Try.pinned (OpenSpec.ofChange fnRunOrderSpec)

/-- ITS FALSE NEIGHBOUR: 'it returns false'. Refute it at one input. -/
def fnRunOrderWrong : ChangeSpec := { name := "fnRunOrder", fn := fun _ => fun
  | [d] => { results := [.lit (.bool false)], args := [d] }
  | _ => none }
def FnRunOrderWrongFalsely : Prop := fnRunOrderRow.holds Try.pinned (OpenSpec.ofChange fnRunOrderWrong)

/-- 'laws.FnExactRunOrder': WHATEVER THE INPUT: true; the input reads as it did. -/
def fnExactRunOrderSpec : ChangeSpec := { name := "fnExactRunOrder", fn := fun _ => fun
  | [d1, d2, d3, d4] => { results := [.lit (.bool true)], args := [d1, d2, d3, d4] }
  | _ => none }
def fnExactRunOrderRow : OpenClaim := { program := "ythpabcgnijfiaaa", sum := "086cf5736751451289f71ecc0978d77d2ff94a4d010cc3ad4479057cffaff09b", func := "loop.example/lanekernel/laws.FnExactRunOrder", spec := "fnExactRunOrder", unfollowed := true, recurses := true, apart := false }
def FnExactRunOrderSaid : Prop := fnExactRunOrderRow.holds Try.pinned (OpenSpec.ofChange fnExactRunOrderSpec)

/-- ITS FALSE NEIGHBOUR: 'it returns false'. Refute it at one input. -/
def fnExactRunOrderWrong : ChangeSpec := { name := "fnExactRunOrder", fn := fun _ => fun
  | [d1, d2, d3, d4] => { results := [.lit (.bool false)], args := [d1, d2, d3, d4] }
  | _ => none }
def FnExactRunOrderWrongFalsely : Prop := fnExactRunOrderRow.holds Try.pinned (OpenSpec.ofChange fnExactRunOrderWrong)

/-- 'laws.FnOrderTwice': WHATEVER THE INPUT: true; the input reads as it did. -/
def fnOrderTwiceSpec : ChangeSpec := { name := "fnOrderTwice", fn := fun _ => fun
  | [d] => { results := [.lit (.bool true)], args := [d] }
  | _ => none }
def fnOrderTwiceRow : OpenClaim := { program := "ythpabcgnijfiaaa", sum := "086cf5736751451289f71ecc0978d77d2ff94a4d010cc3ad4479057cffaff09b", func := "loop.example/lanekernel/laws.FnOrderTwice", spec := "fnOrderTwice", unfollowed := true, recurses := true, apart := false }
def FnOrderTwiceSaid : Prop := fnOrderTwiceRow.holds Try.pinned (OpenSpec.ofChange fnOrderTwiceSpec)

/-- ITS FALSE NEIGHBOUR: 'it returns false'. Refute it at one input. -/
def fnOrderTwiceWrong : ChangeSpec := { name := "fnOrderTwice", fn := fun _ => fun
  | [d] => { results := [.lit (.bool false)], args := [d] }
  | _ => none }
def FnOrderTwiceWrongFalsely : Prop := fnOrderTwiceRow.holds Try.pinned (OpenSpec.ofChange fnOrderTwiceWrong)

/- THE SECOND FORM. 'bulk': how many values and letters a reading holds, each counted each time it is reached (what is shared counts as often as it is met; a slice's spare places count too). A statement '..UptoSaid' is the law's where the arguments, and the package variables that the reading takes, are together of bulk at most 1048576: NARROWER than '..Said'. Prove '..Said' where nothing that the law and all that it calls make is longer than what came in: it says more and counts as full. Else prove '..UptoSaid'. A law counts once. -/
mutual
def uptoBulk {H : Type} : DataW H → Nat
  | .lit (.string bytes) => bytes.length + 1
  | .lit _ => 1
  | .nil => 1
  | .ptr d => uptoBulk d + 1
  | .slice elems spare => uptoBulkAll elems + uptoBulkAll spare + 1
  | .agg parts => uptoBulkAll parts + 1
  | .iface _ d => uptoBulk d + 1
  | .map entries => uptoBulkEntries entries + 1
  | .held _ => 1
def uptoBulkAll {H : Type} : List (DataW H) → Nat
  | [] => 0
  | d :: r => uptoBulk d + uptoBulkAll r
def uptoBulkEntries {H : Type} : List (Lit × DataW H) → Nat
  | [] => 0
  | x :: r => uptoBulkEntry x + uptoBulkEntries r
def uptoBulkEntry {H : Type} : Lit × DataW H → Nat
  | (.string bytes, d) => bytes.length + uptoBulk d + 1
  | (_, d) => uptoBulk d + 1
 end
def uptoSmall : (H : Type) → List (DataW H) → Bool := fun _ ds => decide (uptoBulkAll ds ≤ 1048576)
def OpenSpec.upto (s : _root_.Go.ChangeSpec) : _root_.Go.OpenSpec := { _root_.Go.OpenSpec.ofChange s with cond := some uptoSmall }

/-- 'laws.FnRunOrder', WHERE WHAT IT READS IS OF BULK AT MOST 1048576: true; the input reads as it did. -/
def fnRunOrderUptoRow : OpenClaim := { program := "ythpabcgnijfiaaa", sum := "086cf5736751451289f71ecc0978d77d2ff94a4d010cc3ad4479057cffaff09b", func := "loop.example/lanekernel/laws.FnRunOrder", spec := "fnRunOrder", unfollowed := true, recurses := true, apart := false, narrowed := true }
def FnRunOrderUptoSaid : Prop := fnRunOrderUptoRow.holds Try.pinned (OpenSpec.upto fnRunOrderSpec)

/-- 'laws.FnExactRunOrder', WHERE WHAT IT READS IS OF BULK AT MOST 1048576: true; the input reads as it did. -/
def fnExactRunOrderUptoRow : OpenClaim := { program := "ythpabcgnijfiaaa", sum := "086cf5736751451289f71ecc0978d77d2ff94a4d010cc3ad4479057cffaff09b", func := "loop.example/lanekernel/laws.FnExactRunOrder", spec := "fnExactRunOrder", unfollowed := true, recurses := true, apart := false, narrowed := true }
def FnExactRunOrderUptoSaid : Prop := fnExactRunOrderUptoRow.holds Try.pinned (OpenSpec.upto fnExactRunOrderSpec)

/-- 'laws.FnOrderTwice', WHERE WHAT IT READS IS OF BULK AT MOST 1048576: true; the input reads as it did. -/
def fnOrderTwiceUptoRow : OpenClaim := { program := "ythpabcgnijfiaaa", sum := "086cf5736751451289f71ecc0978d77d2ff94a4d010cc3ad4479057cffaff09b", func := "loop.example/lanekernel/laws.FnOrderTwice", spec := "fnOrderTwice", unfollowed := true, recurses := true, apart := false, narrowed := true }
def FnOrderTwiceUptoSaid : Prop := fnOrderTwiceUptoRow.holds Try.pinned (OpenSpec.upto fnOrderTwiceSpec)

end Rows
end Go.Proofs.Ythpabcgnijfiaaa
