/-
  Contracts of the laws' helpers on slices of ints: eqIntS, markIntS, heldIntS, toIntS.
-/
import Derived.Test.YtmbcfbefhpgcoabRows
import Derived.Test.YtmbcfbefhpgcoabLib
namespace Go.Proofs.Ytmbcfbefhpgcoab
open Go.RowKit

abbrev ints (zs : List Int) : List Value := zs.map (Value.int .i64)
theorem ints_at {zs : List Int} {k : Nat} (h : k < zs.length) : (ints zs)[k]? = some (.int .i64 zs[k]) := by simp [ints, h]
theorem ints_one (zs : List Int) : ∀ u ∈ ints zs, u.oneCell' = true := by
  intro u hu
  simp only [ints, List.mem_map] at hu
  obtain ⟨z, _, rfl⟩ := hu
  rfl
theorem Ei : ElemI Try.prog 51 3 (.int .i64 0) 1 8 := ⟨Try.underlying51, by kernel_rfl, rfl, by omega⟩

/-- the call hands back a slice of ints in memory of its own. -/
def RetInts (zs : List Int) (w : World) (e : Ending) (w' : World) : Prop :=
  ∃ A c, e = .returned (.slice A zs.length c) ∧ w'.ownsRow w.heap.size 3 1 (.slice A zs.length c) zs.length (ints zs) ∧ Below w.heap.size w w'

set_option maxHeartbeats 400000
set_option linter.unusedVariables false
/-! ### eqIntS -/
/-! ### markIntS, heldIntS -/
def marks (k : Int) (n : Nat) : List Int := (List.range n).map fun i : Nat => k + (i : Int)
theorem marks_length (k : Int) (n : Nat) : (marks k n).length = n := by simp [marks]
theorem marks_succ (k : Int) (n : Nat) : marks k (n + 1) = marks k n ++ [k + (n : Int)] := by simp [marks, List.range_succ]
theorem mark_step (k : Int) (zs : List Int) (i : Nat) (h : i < zs.length) :
    (ints (marks k i ++ zs.drop i)).set i (.int .i64 (k + i)) = ints (marks k (i + 1) ++ zs.drop (i + 1)) := by
  have h1 : zs.drop i = zs[i] :: zs.drop (i + 1) := List.drop_eq_getElem_cons h
  rw [h1, marks_succ, ints, ints, List.map_append, List.map_append, List.set_append_right _ _ (by simp [marks_length])]
  simp only [List.map_cons, marks_length, List.length_map, Nat.sub_self, List.set_cons_zero, List.map_append, List.append_assoc, List.map_nil, List.cons_append, List.nil_append]

/-- what stands marked is held. -/
theorem ints_marked {w : World} {base : Nat} {e : TypeId} {A : Option Addr} {n c : Nat} {k : Int} (h : w.ownsRow base e 1 (.slice A n c) n (ints (marks k n))) : Sl w A (ints (marks k n)) := Sl.of_own h
end Go.Proofs.Ytmbcfbefhpgcoab
