/-
  Contract of the program's successors.
-/
import Derived.Test.YtabpcbikbhbcaaaCBar
namespace Go.Proofs.Ytabpcbikbhbcaaa
open Go.RowKit
set_option maxHeartbeats 2000000
set_option linter.unusedVariables false

theorem own_lits (w : World) (zs : List Int) {base B n : Nat} (hb : base ≤ w.heap.size) (hB : B = w.heap.size) (hn : n = zs.length) (hm : n ≤ 1000000) :
    (w.alloc (.cells (ints zs).toArray 3)).ownsRow base 3 1 (.slice (some ⟨B, 0, none⟩) n n) n (ints zs) := by
  subst hB hn
  have := World.ownsRow_lit (w := w) (base := base) (e := 3) (size := 1) (ints zs).toArray zs.length hb (by simp only [maxLen]; omega) (by simp [ints])
  simpa using this
theorem ownV_open {P : Nat → Nat} {os : List Int} {k : Nat} (h : opensB (opAt os k) = true) : ownV P os k = ptrV (P k) := by unfold ownV; rw [if_pos h]
theorem ownV_top {P : Nat → Nat} {os : List Int} {k b : Nat} (h : opAt os k = 12 ∨ opAt os k = 14) (hl : (stk os k).getLast? = some b) : ownV P os k = ptrV (P b) := by
  unfold ownV
  rw [if_neg (by rcases h with h | h <;> rw [h] <;> decide), if_pos h, hl]
theorem topOf_some {os : List Int} {k b : Nat} (hl : (stk os k).getLast? = some b) : topOf os k = b := by unfold topOf; rw [hl]
theorem bal_step {os : List Int} (h : balB os = true) {k : Nat} (hk : k < os.length) : stepOk os k = true := okUpto_step (Bool.and_eq_true_iff.1 h).1 hk
theorem bal_top {os : List Int} (h : balB os = true) {k : Nat} (hk : k < os.length) (hop : opAt os k = 12 ∨ opAt os k = 14) : ∃ b, (stk os k).getLast? = some b := by
  have h1 := bal_step h hk
  cases hl : (stk os k).getLast? with
  | some b => exact ⟨b, rfl⟩
  | none =>
    rcases hop with hop | hop
    · rw [stepOk_else hop] at h1; unfold elseOk at h1; rw [hl] at h1; cases h1
    · rw [stepOk_end hop, stk_some hl] at h1; cases h1
/-- what the call hands back: a new row with these numbers. -/
def RetNums (ss : List Int) (w : World) (e : Ending) (w' : World) : Prop :=
  ∃ g c, e = .returned (.slice (some ⟨g, 0, none⟩) ss.length c) ∧ w'.ownsRow w.heap.size 3 1 (.slice (some ⟨g, 0, none⟩) ss.length c) ss.length (ints ss) ∧ Below w.heap.size w w'
theorem retNums_one (z : Int) (w : World) : RetNums [z] w (.returned (.slice (some ⟨w.heap.size, 0, none⟩) 1 1)) (w.alloc (.cells #[.int .i64 z] 3)) :=
  ⟨w.heap.size, 1, rfl, own_lits w [z] (Nat.le_refl _) rfl rfl (by simp), (Below.refl _ _).alloc (Nat.le_refl _) _⟩
theorem retNums_two (y z : Int) (w : World) : RetNums [y, z] w (.returned (.slice (some ⟨w.heap.size, 0, none⟩) 2 2)) (w.alloc (.cells #[.int .i64 y, .int .i64 z] 3)) :=
  ⟨w.heap.size, 2, rfl, own_lits w [y, z] (Nat.le_refl _) rfl rfl (by simp), (Below.refl _ _).alloc (Nat.le_refl _) _⟩
end Go.Proofs.Ytabpcbikbhbcaaa
