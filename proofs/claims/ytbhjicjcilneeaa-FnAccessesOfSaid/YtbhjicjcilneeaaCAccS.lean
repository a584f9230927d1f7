/-
  Contracts on slices of accesses: how they lie in memory, and the laws' helpers on them.
-/
import Derived.Test.YtbhjicjcilneeaaCAcc
namespace Go.Proofs.Ytbhjicjcilneeaa
open Go.RowKit
set_option maxHeartbeats 400000
set_option linter.unusedVariables false

def flat (xs : List Acc) : List Value := xs.flatMap accCells
theorem flat_nil : flat [] = [] := rfl
theorem flat_cons (a : Acc) (xs : List Acc) : flat (a :: xs) = accCells a ++ flat xs := by simp [flat]
theorem flat_append (xs ys : List Acc) : flat (xs ++ ys) = flat xs ++ flat ys := by simp [flat]
theorem flat_length (xs : List Acc) : (flat xs).length = xs.length * 4 := by
  induction xs with
  | nil => rfl
  | cons a xs ih => rw [flat_cons, List.length_append, ih]; simp [accCells]; omega
theorem flat_at (xs : List Acc) (k j : Nat) (hk : k < xs.length) (hj : j < 4) : (flat xs)[k * 4 + j]? = (accCells xs[k])[j]? := by
  induction xs generalizing k with
  | nil => simp at hk
  | cons a xs ih =>
    rw [flat_cons]
    cases k with
    | zero => simp only [Nat.zero_mul, Nat.zero_add]; rw [List.getElem?_append_left (by simp [accCells]; omega)]; rfl
    | succ k =>
      rw [List.getElem?_append_right (by simp [accCells]; omega)]
      have : (k + 1) * 4 + j - (accCells a).length = k * 4 + j := by simp [accCells]; omega
      rw [this, ih k (by simpa using hk)]
      rfl
theorem flat_one (xs : List Acc) : ∀ u ∈ flat xs, u.oneCell' = true := by
  intro u hu
  simp only [flat, List.mem_flatMap] at hu
  obtain ⟨a, _, h⟩ := hu
  simp only [accCells, List.mem_cons, List.not_mem_nil, or_false] at h
  rcases h with rfl | rfl | rfl | rfl <;> rfl

theorem Sl.acc {w : World} {A : Option Addr} {xs : List Acc} (h : Sl w A (flat xs)) {k : Nat} (hk : k < xs.length) :
    ∃ b off, A = some ⟨b, off, none⟩ ∧ w.cell? ⟨b, off + k * 4, none⟩ = some (.int .i64 xs[k].who) ∧ w.cell? ⟨b, off + k * 4 + 1, none⟩ = some (.int .i64 xs[k].cell) ∧
      w.cell? ⟨b, off + k * 4 + 2, none⟩ = some (.bool xs[k].write) ∧ w.cell? ⟨b, off + k * 4 + 3, none⟩ = some (.int .i64 xs[k].phase) := by
  obtain ⟨b, off, rfl, hc⟩ := h.at_ (k := k * 4) (by rw [flat_length]; omega)
  refine ⟨b, off, rfl, ?_, ?_, ?_, ?_⟩
  · have := hc (k * 4) _ (flat_at xs k 0 hk (by omega)); simpa [Nat.add_assoc] using this
  · have := hc (k * 4 + 1) _ (flat_at xs k 1 hk (by omega)); simpa [Nat.add_assoc] using this
  · have := hc (k * 4 + 2) _ (flat_at xs k 2 hk (by omega)); simpa [Nat.add_assoc] using this
  · have := hc (k * 4 + 3) _ (flat_at xs k 3 hk (by omega)); simpa [Nat.add_assoc] using this

def phaseCount (xs : List Acc) (p : Int) : Nat := (xs.filter fun a => a.phase == p).length
def phaseWrites (xs : List Acc) (p : Int) : Nat := (xs.filter fun a => (a.phase == p) && a.write).length
theorem phaseCount_take (xs : List Acc) (p : Int) (k : Nat) (h : k < xs.length) : phaseCount (xs.take (k + 1)) p = phaseCount (xs.take k) p + if (xs[k].phase == p) = true then 1 else 0 := by
  rw [List.take_succ_eq_append_getElem h]
  unfold phaseCount
  rw [List.filter_append, List.length_append]
  congr 1
  by_cases e : (xs[k].phase == p) = true
  · simp only [List.filter_cons, e, if_true, List.filter_nil, List.length_cons, List.length_nil]
  · simp only [List.filter_cons, e, List.filter_nil]; rfl
theorem phaseWrites_take (xs : List Acc) (p : Int) (k : Nat) (h : k < xs.length) : phaseWrites (xs.take (k + 1)) p = phaseWrites (xs.take k) p + if (xs[k].phase == p && xs[k].write) = true then 1 else 0 := by
  rw [List.take_succ_eq_append_getElem h]
  unfold phaseWrites
  rw [List.filter_append, List.length_append]
  congr 1
  by_cases e : (xs[k].phase == p && xs[k].write) = true
  · simp only [List.filter_cons, e, if_true, List.filter_nil, List.length_cons, List.length_nil]
  · simp only [List.filter_cons, e, List.filter_nil]; rfl
theorem phaseCount_le (xs : List Acc) (p : Int) (k : Nat) : phaseCount (xs.take k) p ≤ k := Nat.le_trans (List.length_filter_le _ _) (List.length_take_le _ _)
theorem phaseWrites_le (xs : List Acc) (p : Int) (k : Nat) : phaseWrites (xs.take k) p ≤ k := Nat.le_trans (List.length_filter_le _ _) (List.length_take_le _ _)

theorem szAccessS_any (A : Option Addr) (n c : Nat) (l : Int) (w : World) (hl : 0 ≤ l ∧ l ≤ 1048576) (hn : n ≤ 9223372036854775807) :
    Calls Try.prog 11 #[.slice A n c, .int .i64 l] w (LeftOver n l w) := by
  by_cases h : (n : Int) ≤ l
  · go_enter Try.func11, Try.ntmps11
    go_wp2
    go_ret
    exact ⟨.inl ⟨h, rfl⟩, rfl⟩
  · go_enter Try.func11, Try.ntmps11
    go_wp2
    go_ret
    exact ⟨.inr ⟨by omega, rfl⟩, rfl⟩
theorem accData (a b : Acc) : accCells a = accCells b ↔ a = b := by
  obtain ⟨x, y, u, p⟩ := a
  obtain ⟨x', y', u', p'⟩ := b
  simp [accCells]
theorem eqAccess_any (a b : Acc) (w : World) : Calls Try.prog 37 #[accV a, accV b] w fun e w' => e = .returned (.bool (decide (a = b))) ∧ Below w.heap.size w w' := by
  obtain ⟨x, y, u, p⟩ := a
  obtain ⟨x', y', u', p'⟩ := b
  go_enter Try.func37, Try.ntmps37
  go_wp2
  all_goals go_ret
  all_goals refine ⟨ret_bool ?_, ((Below.refl _ _).alloc (Nat.le_refl _) _).alloc (by simp) _⟩
  all_goals first
    | (have h : (x != x') = true := by assumption
       rw [bne_iff_ne] at h
       simp [h])
    | (have h : (y != y') = true := by assumption
       rw [bne_iff_ne] at h
       simp [h])
    | (have h : (!u == u') = true := by assumption
       simp at h
       simp [h])
    | (have h : (p != p') = true := by assumption
       rw [bne_iff_ne] at h
       simp [h])
    | (have h1 : (x != x') = false := by assumption
       have h2 : (y != y') = false := by assumption
       have h3 : (!u == u') = false := by assumption
       have h4 : (p != p') = false := by assumption
       simp at h1 h2 h3 h4
       simp [h1, h2, h3, h4])
end Go.Proofs.Ytbhjicjcilneeaa
