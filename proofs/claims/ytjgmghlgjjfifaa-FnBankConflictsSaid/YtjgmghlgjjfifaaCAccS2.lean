/-
  Contracts on slices of accesses, the rest: toAccessS, eqAccessS.
-/
import Derived.Test.YtjgmghlgjjfifaaCAccS
namespace Go.Proofs.Ytjgmghlgjjfifaa
open Go.RowKit
set_option maxHeartbeats 400000
set_option linter.unusedVariables false

theorem Ea : ElemI Try.prog 50 52 (.agg #[.int .i64 0, .int .i64 0, .bool false, .int .i64 0]) 4 32 := ⟨Try.underlying50, by kernel_rfl, rfl, by omega⟩
def RetAccs (xs : List Acc) (w : World) (e : Ending) (w' : World) : Prop :=
  ∃ A c, e = .returned (.slice A xs.length c) ∧ w'.ownsRow w.heap.size 52 4 (.slice A xs.length c) xs.length (flat xs) ∧ Below w.heap.size w w'

def acc0 : Acc := ⟨0, 0, false, 0⟩
theorem flat_zeros (n : Nat) : (madeCells (Value.agg #[.int .i64 0, .int .i64 0, .bool false, .int .i64 0]).cells (n * 4)).toList = flat (List.replicate n acc0) := by
  apply List.ext_getElem?
  intro i
  by_cases h : i < n * 4
  · have h1 := flat_at (List.replicate n acc0) (i / 4) (i % 4) (by simp; omega) (Nat.mod_lt _ (by omega))
    rw [show i / 4 * 4 + i % 4 = i from by omega] at h1
    rw [h1]
    have h2 : i % 4 = 0 ∨ i % 4 = 1 ∨ i % 4 = 2 ∨ i % 4 = 3 := by omega
    rcases h2 with h2 | h2 | h2 | h2 <;> simp [madeCells, h, h2, Value.cells, acc0, accCells]
  · rw [List.getElem?_eq_none (by simp [madeCells]; omega), List.getElem?_eq_none (by rw [flat_length]; simp; omega)]

theorem flat_set (ys : List Acc) (k : Nat) (a : Acc) (hk : k < ys.length) :
    ((((flat ys).set (k * 4) (.int .i64 a.who)).set (k * 4 + 1) (.int .i64 a.cell)).set (k * 4 + 2) (.bool a.write)).set (k * 4 + 3) (.int .i64 a.phase) = flat (ys.set k a) := by
  apply List.ext_getElem?
  intro i
  simp only [List.getElem?_set, List.length_set, flat_length]
  by_cases h : i < ys.length * 4
  · have h1 := flat_at (ys.set k a) (i / 4) (i % 4) (by simp; omega) (Nat.mod_lt _ (by omega))
    have h0 := flat_at ys (i / 4) (i % 4) (by omega) (Nat.mod_lt _ (by omega))
    rw [show i / 4 * 4 + i % 4 = i from by omega] at h1 h0
    rw [h1, h0]
    have h2 : i % 4 = 0 ∨ i % 4 = 1 ∨ i % 4 = 2 ∨ i % 4 = 3 := by omega
    by_cases hi : k = i / 4
    · subst hi
      have hs : (ys.set (i / 4) a)[i / 4]'(by simp; omega) = a := by simp
      rw [hs]
      rcases h2 with h2 | h2 | h2 | h2
      · rw [if_neg (by omega), if_neg (by omega), if_neg (by omega), if_pos (by omega), h2]; simp [accCells]; omega
      · rw [if_neg (by omega), if_neg (by omega), if_pos (by omega), h2]; simp [accCells]; omega
      · rw [if_neg (by omega), if_pos (by omega), h2]; simp [accCells]; omega
      · rw [if_pos (by omega), h2]; simp [accCells]; omega
    · have hs : (ys.set k a)[i / 4]'(by simp; omega) = ys[i / 4]'(by omega) := by rw [List.getElem_set_ne hi]
      rw [hs]
      rw [if_neg (by omega), if_neg (by omega), if_neg (by omega), if_neg (by omega)]
  · rw [if_neg (by omega), if_neg (by omega), if_neg (by omega), if_neg (by omega), List.getElem?_eq_none (by rw [flat_length]; omega), List.getElem?_eq_none (by rw [flat_length]; simp; omega)]

theorem own_acc {w : World} {base : Nat} {e : TypeId} {g n c : Nat} {ys : List Acc} (h : w.ownsRow base e 4 (.slice (some ⟨g, 0, none⟩) n c) n (flat ys)) {k : Nat} (hk : k < ys.length) (a : Acc) :
    (w.cell? ⟨g, k * 4, none⟩ = some (.int .i64 ys[k].who) ∧ w.cell? ⟨g, k * 4 + 1, none⟩ = some (.int .i64 ys[k].cell) ∧ w.cell? ⟨g, k * 4 + 2, none⟩ = some (.bool ys[k].write) ∧ w.cell? ⟨g, k * 4 + 3, none⟩ = some (.int .i64 ys[k].phase)) ∧
    (w.frozen? ⟨g, k * 4, none⟩ = false ∧ w.frozen? ⟨g, k * 4 + 1, none⟩ = false ∧ w.frozen? ⟨g, k * 4 + 2, none⟩ = false ∧ w.frozen? ⟨g, k * 4 + 3, none⟩ = false) ∧
    ((((w.setCell ⟨g, k * 4, none⟩ (.int .i64 a.who)).setCell ⟨g, k * 4 + 1, none⟩ (.int .i64 a.cell)).setCell ⟨g, k * 4 + 2, none⟩ (.bool a.write)).setCell ⟨g, k * 4 + 3, none⟩ (.int .i64 a.phase)).ownsRow base e 4 (.slice (some ⟨g, 0, none⟩) n c) n (flat (ys.set k a)) := by
  refine ⟨?_, ⟨h.frozenAt _, h.frozenAt _, h.frozenAt _, h.frozenAt _⟩, ?_⟩
  · obtain ⟨b, off, hA, h0, h1, h2, h3⟩ := (Sl.of_own h).acc hk
    injection hA with hA
    injection hA with hA1 hA2
    subst hA1
    subst hA2
    simp only [Nat.zero_add] at h0 h1 h2 h3
    exact ⟨h0, h1, h2, h3⟩
  · rw [← flat_set ys k a hk]
    exact ((((h.stored _ _).1.stored _ _).1.stored _ _).1.stored _ _).1

theorem grown_set4 {w w1 : World} {g : Nat} (h : w.grownBy w1 (some g)) (i j k l : Nat) (a b c d : Value) :
    w.grownBy ((((w1.setCell ⟨g, i, none⟩ a).setCell ⟨g, j, none⟩ b).setCell ⟨g, k, none⟩ c).setCell ⟨g, l, none⟩ d) (some g) :=
  grown_setCell' (grown_setCell' (grown_setCell' (grown_setCell' h i a) j b) k c) l d

end Go.Proofs.Ytjgmghlgjjfifaa
