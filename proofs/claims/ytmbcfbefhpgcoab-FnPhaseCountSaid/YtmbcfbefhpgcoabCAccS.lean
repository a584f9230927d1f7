/-
  Contracts on slices of accesses: how they lie in memory, and the laws' helpers on them.
-/
import Derived.Test.YtmbcfbefhpgcoabCAcc
namespace Go.Proofs.Ytmbcfbefhpgcoab
open Go.RowKit
set_option maxHeartbeats 400000
set_option linter.unusedVariables false

def flat (xs : List Acc) : List Value := xs.flatMap accCells
theorem flat_nil : flat [] = [] := rfl
theorem flat_cons (a : Acc) (xs : List Acc) : flat (a :: xs) = accCells a ++ flat xs := by simp [flat]
theorem flat_append (xs ys : List Acc) : flat (xs ++ ys) = flat xs ++ flat ys := by simp [flat]
theorem flat_length (xs : List Acc) : (flat xs).length = xs.length * 4 := by
  induction xs with
  | nil => rfl
  | cons a xs ih => rw [flat_cons, List.length_append, ih]; simp [accCells]; omega
theorem flat_at (xs : List Acc) (k j : Nat) (hk : k < xs.length) (hj : j < 4) : (flat xs)[k * 4 + j]? = (accCells xs[k])[j]? := by
  induction xs generalizing k with
  | nil => simp at hk
  | cons a xs ih =>
    rw [flat_cons]
    cases k with
    | zero => simp only [Nat.zero_mul, Nat.zero_add]; rw [List.getElem?_append_left (by simp [accCells]; omega)]; rfl
    | succ k =>
      rw [List.getElem?_append_right (by simp [accCells]; omega)]
      have : (k + 1) * 4 + j - (accCells a).length = k * 4 + j := by simp [accCells]; omega
      rw [this, ih k (by simpa using hk)]
      rfl
theorem flat_one (xs : List Acc) : ∀ u ∈ flat xs, u.oneCell' = true := by
  intro u hu
  simp only [flat, List.mem_flatMap] at hu
  obtain ⟨a, _, h⟩ := hu
  simp only [accCells, List.mem_cons, List.not_mem_nil, or_false] at h
  rcases h with rfl | rfl | rfl | rfl <;> rfl

theorem Sl.acc {w : World} {A : Option Addr} {xs : List Acc} (h : Sl w A (flat xs)) {k : Nat} (hk : k < xs.length) :
    ∃ b off, A = some ⟨b, off, none⟩ ∧ w.cell? ⟨b, off + k * 4, none⟩ = some (.int .i64 xs[k].who) ∧ w.cell? ⟨b, off + k * 4 + 1, none⟩ = some (.int .i64 xs[k].cell) ∧
      w.cell? ⟨b, off + k * 4 + 2, none⟩ = some (.bool xs[k].write) ∧ w.cell? ⟨b, off + k * 4 + 3, none⟩ = some (.int .i64 xs[k].phase) := by
  obtain ⟨b, off, rfl, hc⟩ := h.at_ (k := k * 4) (by rw [flat_length]; omega)
  refine ⟨b, off, rfl, ?_, ?_, ?_, ?_⟩
  · have := hc (k * 4) _ (flat_at xs k 0 hk (by omega)); simpa [Nat.add_assoc] using this
  · have := hc (k * 4 + 1) _ (flat_at xs k 1 hk (by omega)); simpa [Nat.add_assoc] using this
  · have := hc (k * 4 + 2) _ (flat_at xs k 2 hk (by omega)); simpa [Nat.add_assoc] using this
  · have := hc (k * 4 + 3) _ (flat_at xs k 3 hk (by omega)); simpa [Nat.add_assoc] using this

def phaseCount (xs : List Acc) (p : Int) : Nat := (xs.filter fun a => a.phase == p).length
def phaseWrites (xs : List Acc) (p : Int) : Nat := (xs.filter fun a => (a.phase == p) && a.write).length
theorem phaseCount_take (xs : List Acc) (p : Int) (k : Nat) (h : k < xs.length) : phaseCount (xs.take (k + 1)) p = phaseCount (xs.take k) p + if (xs[k].phase == p) = true then 1 else 0 := by
  rw [List.take_succ_eq_append_getElem h]
  unfold phaseCount
  rw [List.filter_append, List.length_append]
  congr 1
  by_cases e : (xs[k].phase == p) = true
  · simp only [List.filter_cons, e, if_true, List.filter_nil, List.length_cons, List.length_nil]
  · simp only [List.filter_cons, e, List.filter_nil]; rfl
theorem phaseWrites_take (xs : List Acc) (p : Int) (k : Nat) (h : k < xs.length) : phaseWrites (xs.take (k + 1)) p = phaseWrites (xs.take k) p + if (xs[k].phase == p && xs[k].write) = true then 1 else 0 := by
  rw [List.take_succ_eq_append_getElem h]
  unfold phaseWrites
  rw [List.filter_append, List.length_append]
  congr 1
  by_cases e : (xs[k].phase == p && xs[k].write) = true
  · simp only [List.filter_cons, e, if_true, List.filter_nil, List.length_cons, List.length_nil]
  · simp only [List.filter_cons, e, List.filter_nil]; rfl
theorem phaseCount_le (xs : List Acc) (p : Int) (k : Nat) : phaseCount (xs.take k) p ≤ k := Nat.le_trans (List.length_filter_le _ _) (List.length_take_le _ _)
theorem phaseWrites_le (xs : List Acc) (p : Int) (k : Nat) : phaseWrites (xs.take k) p ≤ k := Nat.le_trans (List.length_filter_le _ _) (List.length_take_le _ _)

theorem specPhaseCount_any (A : Option Addr) (c : Nat) (xs : List Acc) (p : Int) (w : World) (hl : xs.length ≤ 1000000000) (hs : Sl w A (flat xs)) :
    Calls Try.prog 12 #[.slice A xs.length c, .int .i64 p] w fun e w' => e = .returned (.tuple #[.int .i64 (phaseCount xs p), .int .i64 (phaseWrites xs p)]) ∧ w = w' := by
  go_enter Try.func12, Try.ntmps12
  go_wp2
  go_loop [6, 7, 8] (fun m v i => ∃ k : Nat, k ≤ xs.length ∧ i = .int .i64 k ∧ m = .int .i64 (phaseCount (xs.take k) p) ∧ v = .int .i64 (phaseWrites (xs.take k) p)) (fun _ _ i => xs.length - (intOf i).toNat)
  case atStart => exact ⟨0, by omega, rfl, by simp [phaseCount], by simp [phaseWrites]⟩
  case round =>
    obtain ⟨k, hk, rfl, rfl, rfl⟩ := hrel
    have l1 := phaseCount_le xs p k
    have l2 := phaseWrites_le xs p k
    by_cases hlt : k < xs.length
    · obtain ⟨b, off, rfl, h0, h1, h2, h3⟩ := hs.acc hlt
      have C := mkHid (phaseCount_take xs p k hlt)
      have W := mkHid (phaseWrites_take xs p k hlt)
      go_wp2
      all_goals
        go_round
        case rel => exact ⟨k + 1, by omega, by go_num, by rw [C.out]; simp [*], by rw [W.out]; simp [*]⟩
        case measure => simp [intOf]; omega
    · have : k = xs.length := by omega
      subst this
      go_wp2
      go_ret2
      exact ⟨by simp, rfl⟩
theorem implPhaseCount_any (A : Option Addr) (c : Nat) (xs : List Acc) (p : Int) (w : World) (hl : xs.length ≤ 1000000000) (hs : Sl w A (flat xs)) :
    Calls Try.prog 11 #[.slice A xs.length c, .int .i64 p] w fun e w' => e = .returned (.tuple #[.int .i64 (phaseCount xs p), .int .i64 (phaseWrites xs p)]) ∧ Below w.heap.size w w' := by
  go_enter Try.func11, Try.ntmps11
  go_wp2
  go_loopw [6, 7, 12] (fun m v i wr => ∃ k : Nat, k ≤ xs.length ∧ i = .int .i64 k ∧ m = .int .i64 (phaseCount (xs.take k) p) ∧ v = .int .i64 (phaseWrites (xs.take k) p) ∧ Below w.heap.size w wr) (fun _ _ i _ => xs.length - (intOf i).toNat)
  case atStart => exact ⟨0, by omega, rfl, by simp [phaseCount], by simp [phaseWrites], Below.refl _ _⟩
  case round =>
    obtain ⟨k, hk, rfl, rfl, rfl, hb⟩ := hrel
    have l1 := phaseCount_le xs p k
    have l2 := phaseWrites_le xs p k
    have hs' := hs.below hb
    have HB := mkHid hb
    have hsz := hb.size
    clear hb
    by_cases hlt : k < xs.length
    · obtain ⟨b, off, rfl, h0, h1, h2, h3⟩ := hs'.acc hlt
      have C := mkHid (phaseCount_take xs p k hlt)
      have W := mkHid (phaseWrites_take xs p k hlt)
      by_cases he : xs[k].phase = p
      · have e1 : (xs[k].phase != p) = false := by simp [he]
        have e2 : (xs[k].phase == p) = true := by simp [he]
        clear he
        go_wp2
        all_goals
          go_roundw
          case rel => exact ⟨k + 1, by omega, by go_num, by rw [C.out]; simp [*], by rw [W.out]; simp [*], HB.out.alloc hsz _⟩
          case measure => simp [intOf]; omega
      · have e1 : (xs[k].phase != p) = true := by simp [he]
        have e2 : (xs[k].phase == p) = false := by simp [he]
        clear he
        go_wp2
        all_goals
          go_roundw
          case rel => exact ⟨k + 1, by omega, by go_num, by rw [C.out]; simp [e2], by rw [W.out]; simp [e2], HB.out.alloc hsz _⟩
          case measure => simp [intOf]; omega
    · have : k = xs.length := by omega
      subst this
      go_wp2
      go_ret2
      exact ⟨by simp, HB.out⟩
theorem szAccessS_any (A : Option Addr) (n c : Nat) (l : Int) (w : World) (hl : 0 ≤ l ∧ l ≤ 1048576) (hn : n ≤ 9223372036854775807) :
    Calls Try.prog 13 #[.slice A n c, .int .i64 l] w (LeftOver n l w) := by
  by_cases h : (n : Int) ≤ l
  · go_enter Try.func13, Try.ntmps13
    go_wp2
    go_ret
    exact ⟨.inl ⟨h, rfl⟩, rfl⟩
  · go_enter Try.func13, Try.ntmps13
    go_wp2
    go_ret
    exact ⟨.inr ⟨by omega, rfl⟩, rfl⟩
theorem accData (a b : Acc) : accCells a = accCells b ↔ a = b := by
  obtain ⟨x, y, u, p⟩ := a
  obtain ⟨x', y', u', p'⟩ := b
  simp [accCells]
theorem eqAccess_any (a b : Acc) (w : World) : Calls Try.prog 25 #[accV a, accV b] w fun e w' => e = .returned (.bool (decide (a = b))) ∧ Below w.heap.size w w' := by
  obtain ⟨x, y, u, p⟩ := a
  obtain ⟨x', y', u', p'⟩ := b
  go_enter Try.func25, Try.ntmps25
  go_wp2
  all_goals go_ret
  all_goals refine ⟨ret_bool ?_, ((Below.refl _ _).alloc (Nat.le_refl _) _).alloc (by simp) _⟩
  all_goals first
    | (have h : (x != x') = true := by assumption
       rw [bne_iff_ne] at h
       simp [h])
    | (have h : (y != y') = true := by assumption
       rw [bne_iff_ne] at h
       simp [h])
    | (have h : (!u == u') = true := by assumption
       simp at h
       simp [h])
    | (have h : (p != p') = true := by assumption
       rw [bne_iff_ne] at h
       simp [h])
    | (have h1 : (x != x') = false := by assumption
       have h2 : (y != y') = false := by assumption
       have h3 : (!u == u') = false := by assumption
       have h4 : (p != p') = false := by assumption
       simp at h1 h2 h3 h4
       simp [h1, h2, h3, h4])
end Go.Proofs.Ytmbcfbefhpgcoab
