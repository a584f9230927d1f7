/-
  Contract of the reference's StoresPrivate.
-/
import Derived.Test.YtjgemgjpbanliaaCPriv
namespace Go.Proofs.Ytjgemgjpbanliaa
open Go.RowKit
set_option maxHeartbeats 2000000
set_option linter.unusedVariables false

/-! ### the mask of the registers that have the number of the lane -/
def setM (m : Nat) (r : Int) : Nat := m ||| 2 ^ r.toNat
def clrM (m : Nat) (r : Int) : Nat := m &&& (15 ^^^ 2 ^ r.toNat)
def laneM (xs : List Cd) : Nat → Nat
  | 0 => 0
  | k + 1 => if laneAt xs k = true then setM (laneM xs k) (wrAt xs k) else if 0 ≤ wrAt xs k then clrM (laneM xs k) (wrAt xs k) else laneM xs k
theorem set_fin : ∀ m < 16, ∀ w < 4, (m ||| 2 ^ w : Nat) < 16 ∧ ∀ r < 4, (m ||| 2 ^ w : Nat) / 2 ^ r % 2 = if r = w then 1 else m / 2 ^ r % 2 := by decide
theorem clr_fin : ∀ m < 16, ∀ w < 4, (m &&& (15 ^^^ 2 ^ w) : Nat) < 16 ∧ ∀ r < 4, (m &&& (15 ^^^ 2 ^ w) : Nat) / 2 ^ r % 2 = if r = w then 0 else m / 2 ^ r % 2 := by decide
theorem bits_or_fin : ∀ m < 16, ∀ w < 4, bits .or .i64 ((m : Nat) : Int) ((2 ^ w : Nat) : Int) = ((m ||| 2 ^ w : Nat) : Int) := by decide
theorem bits_clr_fin : ∀ m < 16, ∀ w < 4, bits .andNot .i64 ((m : Nat) : Int) ((2 ^ w : Nat) : Int) = ((m &&& (15 ^^^ 2 ^ w) : Nat) : Int) := by decide
theorem laneM_ok {xs : List Cd} (hv : ∀ x ∈ xs, codeValid x = true) (k : Nat) (hk : k ≤ xs.length) :
    laneM xs k < 16 ∧ ∀ r : Nat, r < 4 → (laneM xs k / 2 ^ r % 2 = 1 ↔ hasL xs r k = true) := by
  induction k with
  | zero => exact ⟨by simp [laneM], fun r _ => by simp [laneM, hasL]⟩
  | succ k ih =>
    obtain ⟨i1, i2⟩ := ih (by omega)
    have hlt : k < xs.length := by omega
    have hb := wr_bound (hv xs[k] (List.getElem_mem hlt))
    rw [← wrAt_at hlt] at hb
    have hla : laneAt xs k = true → 0 ≤ wrAt xs k := fun h => by
      unfold laneAt at h
      rw [Bool.and_eq_true, beq_iff_eq, ops_at hlt] at h
      rw [wrAt_at hlt]
      unfold wr
      rw [if_pos (by omega)]
      exact (valid_a (hv xs[k] (List.getElem_mem hlt)) (by omega)).1
    unfold laneM hasL
    cases hl : laneAt xs k with
    | true =>
      have h0 := hla hl
      obtain ⟨w, hw⟩ : ∃ w : Nat, wrAt xs k = w := ⟨(wrAt xs k).toNat, by omega⟩
      rw [if_pos rfl, hw]
      unfold setM
      rw [Int.toNat_natCast]
      obtain ⟨f1, f2⟩ := set_fin _ i1 w (by omega)
      refine ⟨f1, fun r hr => ?_⟩
      rw [f2 r hr]
      by_cases e : r = w
      · subst e; simp
      · rw [if_neg e, if_neg (by omega)]
        exact i2 r hr
    | false =>
      rw [if_neg (by decide)]
      by_cases h0 : 0 ≤ wrAt xs k
      · obtain ⟨w, hw⟩ : ∃ w : Nat, wrAt xs k = w := ⟨(wrAt xs k).toNat, by omega⟩
        rw [hw, if_pos (by omega)]
        unfold clrM
        rw [Int.toNat_natCast]
        obtain ⟨f1, f2⟩ := clr_fin _ i1 w (by omega)
        refine ⟨f1, fun r hr => ?_⟩
        rw [f2 r hr]
        by_cases e : r = w
        · subst e; simp
        · rw [if_neg e, if_neg (by omega)]
          exact i2 r hr
      · rw [if_neg h0]
        refine ⟨i1, fun r hr => ?_⟩
        rw [if_neg (by omega)]
        exact i2 r hr
end Go.Proofs.Ytjgemgjpbanliaa
