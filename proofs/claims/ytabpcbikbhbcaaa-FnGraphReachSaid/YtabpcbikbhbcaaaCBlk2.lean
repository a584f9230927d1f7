/-
  Contract of blocks.
-/
import Derived.Test.YtabpcbikbhbcaaaCBlk
namespace Go.Proofs.Ytabpcbikbhbcaaa
open Go.RowKit
set_option maxHeartbeats 4000000
set_option maxRecDepth 100000
set_option linter.unusedVariables false

def ops (xs : List Cd) : List Int := xs.map fun x => x.op
theorem ops_len (xs : List Cd) : (ops xs).length = xs.length := by simp [ops]
theorem ops_at {xs : List Cd} {k : Nat} (h : k < xs.length) : opAt (ops xs) k = xs[k].op := by
  unfold opAt ops
  simp [List.getD, h]
theorem bal_no {xs : List Cd} {k : Nat} (hk : k < xs.length) (h : stepOk (ops xs) k = false) : balB (ops xs) = false := by
  unfold balB
  rw [okUpto_no (by rw [ops_len]; exact hk) h]; rfl
theorem stepOk_open {os : List Int} {k : Nat} (h : opensB (opAt os k) = true) : stepOk os k = decide ((stk os k).length < 3) := by unfold stepOk; rw [if_pos h]
theorem stepOk_else {os : List Int} {k : Nat} (h : opAt os k = 12) : stepOk os k = elseOk os k := by unfold stepOk; rw [if_neg (by rw [h]; decide), if_pos h]
theorem stepOk_end {os : List Int} {k : Nat} (h : opAt os k = 14) : stepOk os k = !(stk os k).isEmpty := by unfold stepOk; rw [if_neg (by rw [h]; decide), if_neg (by rw [h]; decide), if_pos h]
theorem stepOk_other {os : List Int} {k : Nat} (h : opensB (opAt os k) = false) (h12 : opAt os k ≠ 12) (h14 : opAt os k ≠ 14) : stepOk os k = true := by unfold stepOk; rw [if_neg (by rw [h]; decide), if_neg h12, if_neg h14]
theorem okUpto_s (os : List Int) (k : Nat) : okUpto os (k + 1) = (okUpto os k && stepOk os k) := rfl
theorem own_emptyB (w : World) (e : TypeId) {base B : Nat} (hb : base ≤ w.heap.size) (hB : B = w.heap.size) : (w.alloc (.cells #[] e)).ownsRow base e 1 (.slice (some ⟨B, 0, none⟩) 0 0) 0 [] := by
  subst hB
  exact World.ownsRow_made w #[] 0 hb (by simp [maxLen]) (by simp)
def _root_.Go.Value.isSlice (v : Value) (n : Nat) : Prop := ∃ A c, v = .slice A n c
theorem box4c {w : World} {B : Nat} {c0 c1 c2 c3 : Value} {ty : TypeId} (h : w.heap[B]? = some (.cells #[c0, c1, c2, c3] ty (0, 0))) :
    (w.cell? ⟨B, 0, none⟩ = some c0 ∧ w.cell? ⟨B, 1, none⟩ = some c1 ∧ w.cell? ⟨B, 2, none⟩ = some c2 ∧ w.cell? ⟨B, 3, none⟩ = some c3) ∧ w.frozen? ⟨B, 0, none⟩ = false :=
  ⟨⟨cell_of_row _ _ _ _ _ _ h, cell_of_row _ _ _ _ _ _ h, cell_of_row _ _ _ _ _ _ h, cell_of_row _ _ _ _ _ _ h⟩, frozen_of_row _ _ _ _ _ h⟩
end Go.Proofs.Ytabpcbikbhbcaaa
