/-
  Parts of a proof: PlainNext, CGOf.
-/
import Derived.Test.YtjmiilneennjaaaPart27
import Derived.Test.YtjmiilneennjaaaPart32
namespace Go.Proofs.Ytjmiilneennjaaa
set_option maxHeartbeats 1000000
set_option linter.unusedVariables false

/-- in how many of the first n places two lists differ. -/
def dif (us vs : List Int) : Nat → Nat
  | 0 => 0
  | n + 1 => dif us vs n + (if us.getD n 0 = vs.getD n 0 then 0 else 1)
theorem dif_same (us : List Int) (n : Nat) : dif us us n = 0 := by
  induction n with
  | zero => rfl
  | succ n ih => simp [dif, ih]
theorem dif_one {us vs : List Int} {i : Nat} (h : ∀ j, j ≠ i → us.getD j 0 = vs.getD j 0) (n : Nat) : dif us vs n ≤ 1 ∧ (n ≤ i → dif us vs n = 0) := by
  induction n with
  | zero => exact ⟨by simp [dif], fun _ => rfl⟩
  | succ n ih =>
    by_cases e : n = i
    · have h1 := ih.2 (by omega)
      refine ⟨?_, fun h' => by omega⟩
      unfold dif
      rw [h1]
      split <;> omega
    · have h1 := h n e
      refine ⟨?_, fun h' => ?_⟩
      · unfold dif; rw [if_pos h1]; exact ih.1
      · unfold dif; rw [if_pos h1]; exact ih.2 (by omega)
theorem dif_set (us : List Int) (i : Nat) (v : Int) (n : Nat) : dif (us.set i v) us n ≤ 1 := by
  refine (dif_one (i := i) (fun j hj => ?_) n).1
  rw [List.getD, List.getD, List.getElem?_set_ne (fun e => hj e.symm)]
theorem comp_dif (x : Cd) (id : Int) (rs mem : List Int) (n m : Nat) : dif (comp x id rs mem).1 rs n + dif (comp x id rs mem).2 mem m ≤ 1 := by
  have hr : ∀ i v, dif (rs.set i v) rs n + dif mem mem m ≤ 1 := fun i v => by
    have := dif_set rs i v n
    rw [dif_same]; omega
  have hm : ∀ i v, dif rs rs n + dif (mem.set i v) mem m ≤ 1 := fun i v => by
    have := dif_set mem i v m
    rw [dif_same]; omega
  have h0 : dif rs rs n + dif mem mem m ≤ 1 := by rw [dif_same, dif_same]; omega
  unfold comp
  repeat' split
  all_goals first | exact hr _ _ | exact hm _ _ | exact h0
theorem doStep_dif (xs : List Cd) (id : Int) (k : Nat) (x : Cd) (s : LS) (mem : List Int) (n m : Nat) : dif (doStep xs id k x s mem).1.regs s.regs n + dif (doStep xs id k x s mem).2 mem m ≤ 1 := by
  have h0 : dif s.regs s.regs n + dif mem mem m ≤ 1 := by rw [dif_same, dif_same]; omega
  unfold doStep
  repeat' split
  all_goals first | exact h0 | exact comp_dif _ _ _ _ _ _
theorem doStep_next {xs : List Cd} {id : Int} {s : LS} {mem : List Int} (hv : progValid xs = true) (h : LaneOk xs s) {k : Nat} (hk : k < xs.length) (hp : s.pc = k) :
    (doStep xs id k (codeAt xs k) s mem).1.pc ∈ succs (ops xs) k := by
  have hbal := (progValid_yes hv).2.2
  have hop := codeAt_op hk
  have hkl : k < (ops xs).length := by rw [ops_len]; exact hk
  unfold doStep
  by_cases h11 : (codeAt xs k).op = 11
  · rw [if_pos h11]
    have := succs_open hbal hkl (by rw [hop, h11]; decide)
    rw [this.1]
    split
    · simp
    · simp
  rw [if_neg h11]
  by_cases h12 : (codeAt xs k).op = 12
  · rw [if_pos h12]
    obtain ⟨b, b1, b2, b3, b4, b5⟩ := top_is hv hk (.inl (by rw [hop]; exact h12))
    rw [succs_else (by rw [hop]; exact h12) b2, b1]
    simp [endAt]
  rw [if_neg h12]
  by_cases h13 : (codeAt xs k).op = 13
  · rw [if_pos h13]
    have := succs_open hbal hkl (by rw [hop, h13]; decide)
    rw [this.1]
    split
    · have hno : ¬ 0 ≤ oth (ops xs) k (ops xs).length := fun h1 => by
        have := oth_if (Bool.and_eq_true_iff.1 hbal).1 h1
        rw [hop, h13] at this
        exact absurd this (by decide)
      unfold forkTo
      rw [if_neg hno]
      simp [endAt]
    · simp
  rw [if_neg h13]
  by_cases h14 : (codeAt xs k).op = 14
  · rw [if_pos h14]
    obtain ⟨b, b1, b2, b3, b4, b5, b6, b7⟩ := h.atEnd hv hk hp h14
    rw [succs_end (by rw [hop]; exact h14) b2, b1, ← codeAt_op (by omega : b < xs.length)]
    split
    · split <;> simp
    · simp
  rw [if_neg h14]
  rw [succs_other (by rw [hop]; unfold opensB; simp [h11, h13]) (by rw [hop]; exact h12) (by rw [hop]; exact h14)]
  simp
end Go.Proofs.Ytjmiilneennjaaa

namespace Go.Proofs.Ytjmiilneennjaaa
set_option linter.unusedVariables false

theorem gOf_small {xs : List Cd} {qs : List Row} (h : graph qs = gOf xs) : ∀ r ∈ qs, r.zs.length ≤ 9223372036854775807 := fun r hr => by
  have hm : r.zs ∈ gOf xs := by rw [← h]; exact List.mem_map_of_mem hr
  cases hv : progValid xs with
  | false => rw [gOf_no hv] at hm; simp at hm
  | true =>
    rw [gOf_yes hv] at hm
    unfold graphOf at hm
    rcases List.mem_append.1 hm with h | h
    · obtain ⟨a, _, hz⟩ := List.mem_map.1 h
      have := succs_len (ops xs) a
      rw [← hz]; omega
    · rw [List.mem_singleton] at h; rw [h]; simp
theorem gOf_le (xs : List Cd) : (gOf xs).length ≤ 41 := by
  cases hv : progValid xs with
  | false => rw [gOf_no hv]; simp
  | true =>
    rw [gOf_yes hv, graphOf_len, ops_len]
    have := (progValid_yes hv).1
    omega
end Go.Proofs.Ytjmiilneennjaaa
