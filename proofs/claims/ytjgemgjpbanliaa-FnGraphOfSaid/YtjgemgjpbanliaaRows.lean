/-
  No cell of these rows narrows 'for every input' (looked for: loops, veiled, ifaces, maps, wideKeys, modest, calm, conditions, laid).
  DERIVED. THE GIVEN ROWS OF THIS SEAT. 6 by the template 'for every input the law returns true; each argument reads behind the call as it read before'; 0 by the template 'total and deterministic' (their statements: YtjgemgjpbanliaaTotals.lean).
  GIVEN WITH THE SEED: the statements are not yours to turn. If you find one false, say at which input.
  Laid BY PROGRAM, IN A SANDBOX (cutbox-rows.mjs): the forced cells as the released guide's own fill.sh prints them over the translation 2b48e5779cf11639… (all of the seat's roots in one cut). By AI agents, Wed Nov 11 2026. No macro, syntax, notation, axiom, sorry.
-/
import Derived.Test.YtjgemgjpbanliaaChecked
import GoSem.Claim
import GoSem.ClaimJoined
import GoSem.ClaimMapViews
import Derived.JoinedTies
import Derived.KernelRfl
namespace Go.Proofs.Ytjgemgjpbanliaa
/- THE CELL 'sum', in the pinned program and in every row, IS THE sha256 OF THE DUMP (.gsa) THAT YtjgemgjpbanliaaProg.lean LOADS. Nothing in Lean hashes anything: it is a label: what it is worth is what the hold of that sum in a sandbox is worth. -/
noncomputable def Try.pinned : Pinned := { name := "ytjgemgjpbanliaa", sum := "2b48e5779cf1163974e5eabc6f298b71acd95dd0a66f64530d207f1c9f20706b", checked := Try.checked }
namespace Rows
def none {H : Type} : Left H := { results := [], args := [] }

/-- 'laws.FnExactBarriersFlat': WHATEVER THE INPUT: true; the input reads as it did. -/
def fnExactBarriersFlatSpec : ChangeSpec := { name := "fnExactBarriersFlat", fn := fun _ => fun
  | [d] => { results := [.lit (.bool true)], args := [d] }
  | _ => none }
def fnExactBarriersFlatRow : OpenClaim := { program := "ytjgemgjpbanliaa", sum := "2b48e5779cf1163974e5eabc6f298b71acd95dd0a66f64530d207f1c9f20706b", func := "loop.example/lanekernel/laws.FnExactBarriersFlat", spec := "fnExactBarriersFlat", apart := false }
def FnExactBarriersFlatSaid : Prop := fnExactBarriersFlatRow.holds Try.pinned (OpenSpec.ofChange fnExactBarriersFlatSpec)

/-- ITS FALSE NEIGHBOUR: 'it returns false'. Refute it at one input. -/
def fnExactBarriersFlatWrong : ChangeSpec := { name := "fnExactBarriersFlat", fn := fun _ => fun
  | [d] => { results := [.lit (.bool false)], args := [d] }
  | _ => none }
def FnExactBarriersFlatWrongFalsely : Prop := fnExactBarriersFlatRow.holds Try.pinned (OpenSpec.ofChange fnExactBarriersFlatWrong)

/-- 'laws.FnExactStoresPrivate': WHATEVER THE INPUT: true; the input reads as it did. -/
def fnExactStoresPrivateSpec : ChangeSpec := { name := "fnExactStoresPrivate", fn := fun _ => fun
  | [d] => { results := [.lit (.bool true)], args := [d] }
  | _ => none }
def fnExactStoresPrivateRow : OpenClaim := { program := "ytjgemgjpbanliaa", sum := "2b48e5779cf1163974e5eabc6f298b71acd95dd0a66f64530d207f1c9f20706b", func := "loop.example/lanekernel/laws.FnExactStoresPrivate", spec := "fnExactStoresPrivate", apart := false }
def FnExactStoresPrivateSaid : Prop := fnExactStoresPrivateRow.holds Try.pinned (OpenSpec.ofChange fnExactStoresPrivateSpec)

/-- ITS FALSE NEIGHBOUR: 'it returns false'. Refute it at one input. -/
def fnExactStoresPrivateWrong : ChangeSpec := { name := "fnExactStoresPrivate", fn := fun _ => fun
  | [d] => { results := [.lit (.bool false)], args := [d] }
  | _ => none }
def FnExactStoresPrivateWrongFalsely : Prop := fnExactStoresPrivateRow.holds Try.pinned (OpenSpec.ofChange fnExactStoresPrivateWrong)

/-- 'laws.FnExactGraphOf': WHATEVER THE INPUT: true; the input reads as it did. -/
def fnExactGraphOfSpec : ChangeSpec := { name := "fnExactGraphOf", fn := fun _ => fun
  | [d] => { results := [.lit (.bool true)], args := [d] }
  | _ => none }
def fnExactGraphOfRow : OpenClaim := { program := "ytjgemgjpbanliaa", sum := "2b48e5779cf1163974e5eabc6f298b71acd95dd0a66f64530d207f1c9f20706b", func := "loop.example/lanekernel/laws.FnExactGraphOf", spec := "fnExactGraphOf", apart := false }
def FnExactGraphOfSaid : Prop := fnExactGraphOfRow.holds Try.pinned (OpenSpec.ofChange fnExactGraphOfSpec)

/-- ITS FALSE NEIGHBOUR: 'it returns false'. Refute it at one input. -/
def fnExactGraphOfWrong : ChangeSpec := { name := "fnExactGraphOf", fn := fun _ => fun
  | [d] => { results := [.lit (.bool false)], args := [d] }
  | _ => none }
def FnExactGraphOfWrongFalsely : Prop := fnExactGraphOfRow.holds Try.pinned (OpenSpec.ofChange fnExactGraphOfWrong)

/-- 'laws.FnGraphLine': WHATEVER THE INPUT: true; the input reads as it did. -/
def fnGraphLineSpec : ChangeSpec := { name := "fnGraphLine", fn := fun _ => fun
  | [d] => { results := [.lit (.bool true)], args := [d] }
  | _ => none }
def fnGraphLineRow : OpenClaim := { program := "ytjgemgjpbanliaa", sum := "2b48e5779cf1163974e5eabc6f298b71acd95dd0a66f64530d207f1c9f20706b", func := "loop.example/lanekernel/laws.FnGraphLine", spec := "fnGraphLine", recurses := true, apart := false }
def FnGraphLineSaid : Prop := fnGraphLineRow.holds Try.pinned (OpenSpec.ofChange fnGraphLineSpec)

/-- ITS FALSE NEIGHBOUR: 'it returns false'. Refute it at one input. -/
def fnGraphLineWrong : ChangeSpec := { name := "fnGraphLine", fn := fun _ => fun
  | [d] => { results := [.lit (.bool false)], args := [d] }
  | _ => none }
def FnGraphLineWrongFalsely : Prop := fnGraphLineRow.holds Try.pinned (OpenSpec.ofChange fnGraphLineWrong)

/-- 'laws.FnGraphOf': WHATEVER THE INPUT: true; the input reads as it did. -/
def fnGraphOfSpec : ChangeSpec := { name := "fnGraphOf", fn := fun _ => fun
  | [d] => { results := [.lit (.bool true)], args := [d] }
  | _ => none }
def fnGraphOfRow : OpenClaim := { program := "ytjgemgjpbanliaa", sum := "2b48e5779cf1163974e5eabc6f298b71acd95dd0a66f64530d207f1c9f20706b", func := "loop.example/lanekernel/laws.FnGraphOf", spec := "fnGraphOf", recurses := true, apart := false }
def FnGraphOfSaid : Prop := fnGraphOfRow.holds Try.pinned (OpenSpec.ofChange fnGraphOfSpec)

/-- ITS FALSE NEIGHBOUR: 'it returns false'. Refute it at one input. -/
def fnGraphOfWrong : ChangeSpec := { name := "fnGraphOf", fn := fun _ => fun
  | [d] => { results := [.lit (.bool false)], args := [d] }
  | _ => none }
def FnGraphOfWrongFalsely : Prop := fnGraphOfRow.holds Try.pinned (OpenSpec.ofChange fnGraphOfWrong)

/-- 'laws.FnGraphWhole': WHATEVER THE INPUT: true; the input reads as it did. -/
def fnGraphWholeSpec : ChangeSpec := { name := "fnGraphWhole", fn := fun _ => fun
  | [d] => { results := [.lit (.bool true)], args := [d] }
  | _ => none }
def fnGraphWholeRow : OpenClaim := { program := "ytjgemgjpbanliaa", sum := "2b48e5779cf1163974e5eabc6f298b71acd95dd0a66f64530d207f1c9f20706b", func := "loop.example/lanekernel/laws.FnGraphWhole", spec := "fnGraphWhole", recurses := true, apart := false }
def FnGraphWholeSaid : Prop := fnGraphWholeRow.holds Try.pinned (OpenSpec.ofChange fnGraphWholeSpec)

/-- ITS FALSE NEIGHBOUR: 'it returns false'. Refute it at one input. -/
def fnGraphWholeWrong : ChangeSpec := { name := "fnGraphWhole", fn := fun _ => fun
  | [d] => { results := [.lit (.bool false)], args := [d] }
  | _ => none }
def FnGraphWholeWrongFalsely : Prop := fnGraphWholeRow.holds Try.pinned (OpenSpec.ofChange fnGraphWholeWrong)

/- THE SECOND FORM. 'bulk': how many values and letters a reading holds, each counted each time it is reached (what is shared counts as often as it is met; a slice's spare places count too). A statement '..UptoSaid' is the law's where the arguments, and the package variables that the reading takes, are together of bulk at most 1048576: NARROWER than '..Said'. Prove '..Said' where nothing that the law and all that it calls make is longer than what came in: it says more and counts as full. Else prove '..UptoSaid'. A law counts once. -/
mutual
def uptoBulk {H : Type} : DataW H → Nat
  | .lit (.string bytes) => bytes.length + 1
  | .lit _ => 1
  | .nil => 1
  | .ptr d => uptoBulk d + 1
  | .slice elems spare => uptoBulkAll elems + uptoBulkAll spare + 1
  | .agg parts => uptoBulkAll parts + 1
  | .iface _ d => uptoBulk d + 1
  | .map entries => uptoBulkEntries entries + 1
  | .held _ => 1
def uptoBulkAll {H : Type} : List (DataW H) → Nat
  | [] => 0
  | d :: r => uptoBulk d + uptoBulkAll r
def uptoBulkEntries {H : Type} : List (Lit × DataW H) → Nat
  | [] => 0
  | x :: r => uptoBulkEntry x + uptoBulkEntries r
def uptoBulkEntry {H : Type} : Lit × DataW H → Nat
  | (.string bytes, d) => bytes.length + uptoBulk d + 1
  | (_, d) => uptoBulk d + 1
 end
def uptoSmall : (H : Type) → List (DataW H) → Bool := fun _ ds => decide (uptoBulkAll ds ≤ 1048576)
def OpenSpec.upto (s : _root_.Go.ChangeSpec) : _root_.Go.OpenSpec := { _root_.Go.OpenSpec.ofChange s with cond := some uptoSmall }

/-- 'laws.FnExactBarriersFlat', WHERE WHAT IT READS IS OF BULK AT MOST 1048576: true; the input reads as it did. -/
def fnExactBarriersFlatUptoRow : OpenClaim := { program := "ytjgemgjpbanliaa", sum := "2b48e5779cf1163974e5eabc6f298b71acd95dd0a66f64530d207f1c9f20706b", func := "loop.example/lanekernel/laws.FnExactBarriersFlat", spec := "fnExactBarriersFlat", apart := false, narrowed := true }
def FnExactBarriersFlatUptoSaid : Prop := fnExactBarriersFlatUptoRow.holds Try.pinned (OpenSpec.upto fnExactBarriersFlatSpec)

/-- 'laws.FnExactStoresPrivate', WHERE WHAT IT READS IS OF BULK AT MOST 1048576: true; the input reads as it did. -/
def fnExactStoresPrivateUptoRow : OpenClaim := { program := "ytjgemgjpbanliaa", sum := "2b48e5779cf1163974e5eabc6f298b71acd95dd0a66f64530d207f1c9f20706b", func := "loop.example/lanekernel/laws.FnExactStoresPrivate", spec := "fnExactStoresPrivate", apart := false, narrowed := true }
def FnExactStoresPrivateUptoSaid : Prop := fnExactStoresPrivateUptoRow.holds Try.pinned (OpenSpec.upto fnExactStoresPrivateSpec)

/-- 'laws.FnExactGraphOf', WHERE WHAT IT READS IS OF BULK AT MOST 1048576: true; the input reads as it did. -/
def fnExactGraphOfUptoRow : OpenClaim := { program := "ytjgemgjpbanliaa", sum := "2b48e5779cf1163974e5eabc6f298b71acd95dd0a66f64530d207f1c9f20706b", func := "loop.example/lanekernel/laws.FnExactGraphOf", spec := "fnExactGraphOf", apart := false, narrowed := true }
def FnExactGraphOfUptoSaid : Prop := fnExactGraphOfUptoRow.holds Try.pinned (OpenSpec.upto fnExactGraphOfSpec)

/-- 'laws.FnGraphLine', WHERE WHAT IT READS IS OF BULK AT MOST 1048576: true; the input reads as it did. -/
def fnGraphLineUptoRow : OpenClaim := { program := "ytjgemgjpbanliaa", sum := "2b48e5779cf1163974e5eabc6f298b71acd95dd0a66f64530d207f1c9f20706b", func := "loop.example/lanekernel/laws.FnGraphLine", spec := "fnGraphLine", recurses := true, apart := false, narrowed := true }
def FnGraphLineUptoSaid : Prop := fnGraphLineUptoRow.holds Try.pinned (OpenSpec.upto fnGraphLineSpec)

/-- 'laws.FnGraphOf', WHERE WHAT IT READS IS OF BULK AT MOST 1048576: true; the input reads as it did. -/
def fnGraphOfUptoRow : OpenClaim := { program := "ytjgemgjpbanliaa", sum := "2b48e5779cf1163974e5eabc6f298b71acd95dd0a66f64530d207f1c9f20706b", func := "loop.example/lanekernel/laws.FnGraphOf", spec := "fnGraphOf", recurses := true, apart := false, narrowed := true }
def FnGraphOfUptoSaid : Prop := fnGraphOfUptoRow.holds Try.pinned (OpenSpec.upto fnGraphOfSpec)

/-- 'laws.FnGraphWhole', WHERE WHAT IT READS IS OF BULK AT MOST 1048576: true; the input reads as it did. -/
def fnGraphWholeUptoRow : OpenClaim := { program := "ytjgemgjpbanliaa", sum := "2b48e5779cf1163974e5eabc6f298b71acd95dd0a66f64530d207f1c9f20706b", func := "loop.example/lanekernel/laws.FnGraphWhole", spec := "fnGraphWhole", recurses := true, apart := false, narrowed := true }
def FnGraphWholeUptoSaid : Prop := fnGraphWholeUptoRow.holds Try.pinned (OpenSpec.upto fnGraphWholeSpec)

end Rows
end Go.Proofs.Ytjgemgjpbanliaa
