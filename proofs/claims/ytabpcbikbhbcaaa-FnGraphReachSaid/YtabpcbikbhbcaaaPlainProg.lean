/-
  Plain law of the blocks of a program: the stack of open blocks ahead of every place, where each block is divided and ends, and the graph.
-/
import Derived.Test.YtabpcbikbhbcaaaLib
namespace Go.Proofs.Ytabpcbikbhbcaaa
set_option maxHeartbeats 1000000
set_option linter.unusedVariables false

/-- the operation at a place of a list of operations. -/
def opAt (os : List Int) (k : Nat) : Int := os.getD k 0
def opensB (z : Int) : Bool := z == 11 || z == 13
/-- the open blocks ahead of a place, the outermost one first. -/
def stk (os : List Int) : Nat → List Nat
  | 0 => []
  | k + 1 => if opensB (opAt os k) then stk os k ++ [k] else if opAt os k = 14 then (stk os k).dropLast else stk os k
/-- where a block is divided, as far as is known ahead of a place. -/
def oth (os : List Int) (b : Nat) : Nat → Int
  | 0 => -1
  | k + 1 => if opAt os k = 12 ∧ (stk os k).getLast? = some b then k else oth os b k
/-- where a block ends, as far as is known ahead of a place. -/
def endOf (os : List Int) (b : Nat) : Nat → Int
  | 0 => -1
  | k + 1 => if opAt os k = 14 ∧ (stk os k).getLast? = some b then k else endOf os b k
def elseOk (os : List Int) (k : Nat) : Bool := match (stk os k).getLast? with
  | none => false
  | some b => opAt os b == 11 && decide (oth os b k < 0)
def stepOk (os : List Int) (k : Nat) : Bool :=
  if opensB (opAt os k) then decide ((stk os k).length < 3)
  else if opAt os k = 12 then elseOk os k
  else if opAt os k = 14 then !(stk os k).isEmpty
  else true
def okUpto (os : List Int) : Nat → Bool
  | 0 => true
  | k + 1 => okUpto os k && stepOk os k
def balB (os : List Int) : Bool := okUpto os os.length && (stk os os.length).isEmpty
theorem stk_s (os : List Int) (k : Nat) : stk os (k + 1) = if opensB (opAt os k) then stk os k ++ [k] else if opAt os k = 14 then (stk os k).dropLast else stk os k := rfl
theorem oth_s (os : List Int) (b k : Nat) : oth os b (k + 1) = if opAt os k = 12 ∧ (stk os k).getLast? = some b then (k : Int) else oth os b k := rfl
theorem end_s (os : List Int) (b k : Nat) : endOf os b (k + 1) = if opAt os k = 14 ∧ (stk os k).getLast? = some b then (k : Int) else endOf os b k := rfl
theorem drop_last {s : List Nat} {b : Nat} (h : s.getLast? = some b) : s = s.dropLast ++ [b] := by
  have hn : s ≠ [] := fun e => by rw [e] at h; simp at h
  rw [List.getLast?_eq_some_getLast hn] at h
  have := List.dropLast_concat_getLast hn
  rw [Option.some.inj h] at this
  exact this.symm
theorem okUpto_le {os : List Int} {k j : Nat} (h : okUpto os k = true) (hj : j ≤ k) : okUpto os j = true := by
  induction k with
  | zero => have : j = 0 := by omega
            subst this; exact h
  | succ k ih =>
    by_cases e : j = k + 1
    · subst e; exact h
    · exact ih (by unfold okUpto at h; exact (Bool.and_eq_true_iff.1 h).1) (by omega)
theorem okUpto_step {os : List Int} {k j : Nat} (h : okUpto os k = true) (hj : j < k) : stepOk os j = true := by
  have := okUpto_le (j := j + 1) h (by omega)
  unfold okUpto at this
  exact (Bool.and_eq_true_iff.1 this).2
theorem okUpto_no {os : List Int} {k n : Nat} (hk : k < n) (h : stepOk os k = false) : okUpto os n = false := by
  cases hn : okUpto os n with
  | false => rfl
  | true => rw [okUpto_step hn hk] at h; exact absurd h (by simp)
theorem stk_lt {os : List Int} {k b : Nat} (h : b ∈ stk os k) : b < k ∧ opensB (opAt os b) = true := by
  induction k with
  | zero => simp [stk] at h
  | succ k ih =>
    unfold stk at h
    split at h
    · rename_i ho
      rcases List.mem_append.1 h with h | h
      · have := ih h; exact ⟨by omega, this.2⟩
      · rw [List.mem_singleton] at h; subst h; exact ⟨by omega, ho⟩
    · split at h
      · have := ih (List.dropLast_subset _ h); exact ⟨by omega, this.2⟩
      · have := ih h; exact ⟨by omega, this.2⟩
theorem stk_sorted (os : List Int) (k : Nat) : (stk os k).Pairwise (· < ·) := by
  induction k with
  | zero => exact List.Pairwise.nil
  | succ k ih =>
    unfold stk
    split
    · rw [List.pairwise_append]
      refine ⟨ih, List.pairwise_singleton _ _, fun a ha b hb => ?_⟩
      rw [List.mem_singleton] at hb
      subst hb
      exact (stk_lt ha).1
    · split
      · exact ih.sublist (List.dropLast_sublist _)
      · exact ih
theorem stk_len (os : List Int) (k : Nat) : (stk os k).length ≤ k := by
  induction k with
  | zero => simp [stk]
  | succ k ih =>
    rw [stk_s]
    split
    · simp; omega
    · split
      · simp; omega
      · omega
theorem stk_three {os : List Int} {k : Nat} (h : okUpto os k = true) : (stk os k).length ≤ 3 := by
  induction k with
  | zero => simp [stk]
  | succ k ih =>
    have h1 := ih (okUpto_le h (by omega))
    have h2 := okUpto_step h (Nat.lt_succ_self k)
    unfold stk
    split
    · rename_i ho
      unfold stepOk at h2
      rw [if_pos ho, decide_eq_true_eq] at h2
      simp; omega
    · split
      · simp; omega
      · exact h1
theorem last_mem {s : List Nat} {b : Nat} (h : s.getLast? = some b) : b ∈ s := List.mem_of_getLast? h
theorem last_lt {os : List Int} {k b : Nat} (h : (stk os k).getLast? = some b) : b < k ∧ opensB (opAt os b) = true := stk_lt (last_mem h)
theorem oth_bound (os : List Int) (b k : Nat) : oth os b k = -1 ∨ ((b : Int) < oth os b k ∧ oth os b k < k) := by
  induction k with
  | zero => exact .inl rfl
  | succ k ih =>
    unfold oth
    split
    · rename_i h; have := (last_lt h.2).1; right; omega
    · rcases ih with h | h
      · exact .inl h
      · right; omega
theorem end_bound (os : List Int) (b k : Nat) : endOf os b k = -1 ∨ ((b : Int) < endOf os b k ∧ endOf os b k < k) := by
  induction k with
  | zero => exact .inl rfl
  | succ k ih =>
    unfold endOf
    split
    · rename_i h; have := (last_lt h.2).1; right; omega
    · rcases ih with h | h
      · exact .inl h
      · right; omega
theorem oth_new {os : List Int} {b k : Nat} (h : k ≤ b + 1) : oth os b k = -1 := by
  rcases oth_bound os b k with h1 | h1
  · exact h1
  · omega
theorem end_new {os : List Int} {b k : Nat} (h : k ≤ b + 1) : endOf os b k = -1 := by
  rcases end_bound os b k with h1 | h1
  · exact h1
  · omega
theorem oth_if {os : List Int} {b k : Nat} (h : okUpto os k = true) (h0 : 0 ≤ oth os b k) : opAt os b = 11 := by
  induction k with
  | zero => simp [oth] at h0
  | succ k ih =>
    unfold oth at h0
    split at h0
    · rename_i hc
      have h2 := okUpto_step h (Nat.lt_succ_self k)
      unfold stepOk at h2
      rw [if_neg (by rw [hc.1]; decide), if_pos hc.1] at h2
      unfold elseOk at h2
      rw [hc.2] at h2
      simp only [Bool.and_eq_true, beq_iff_eq] at h2
      exact h2.1
    · exact ih (okUpto_le h (by omega)) h0
/-- a block that is closed stays as it is. -/
theorem gone {os : List Int} {b k : Nat} (hb : b < k) (hn : b ∉ stk os k) (d : Nat) : b ∉ stk os (k + d) ∧ oth os b (k + d) = oth os b k ∧ endOf os b (k + d) = endOf os b k := by
  induction d with
  | zero => exact ⟨hn, rfl, rfl⟩
  | succ d ih =>
    obtain ⟨i1, i2, i3⟩ := ih
    have hl : (stk os (k + d)).getLast? ≠ some b := fun h => i1 (last_mem h)
    refine ⟨?_, ?_, ?_⟩
    · show b ∉ stk os (k + d + 1)
      rw [stk_s]
      split
      · intro h
        rcases List.mem_append.1 h with h | h
        · exact i1 h
        · rw [List.mem_singleton] at h; omega
      · split
        · exact fun h => i1 (List.dropLast_subset _ h)
        · exact i1
    · show oth os b (k + d + 1) = _
      rw [oth_s, if_neg (fun h => hl h.2)]; exact i2
    · show endOf os b (k + d + 1) = _
      rw [end_s, if_neg (fun h => hl h.2)]; exact i3
theorem nodup_last {s : List Nat} {b : Nat} (hs : s.Pairwise (· < ·)) (h : s.getLast? = some b) : b ∉ s.dropLast := by
  intro hb
  have h1 := drop_last h
  rw [h1, List.pairwise_append] at hs
  have := hs.2.2 b hb b (by simp)
  omega
/-- an open block is on the stack or has an end. -/
theorem end_inv {os : List Int} {b k : Nat} (ho : opensB (opAt os b) = true) (hb : b < k) : b ∈ stk os k ∨ 0 ≤ endOf os b k := by
  induction k with
  | zero => omega
  | succ k ih =>
    by_cases e : b = k
    · subst e
      left
      rw [stk_s, if_pos ho]; simp
    · rcases ih (by omega) with h | h
      · unfold stk endOf
        by_cases h1 : opensB (opAt os k) = true
        · rw [if_pos h1]; left; exact List.mem_append_left _ h
        · rw [if_neg h1]
          by_cases h2 : opAt os k = 14
          · rw [if_pos h2]
            by_cases h3 : (stk os k).getLast? = some b
            · rw [if_pos ⟨h2, h3⟩]; right; omega
            · left
              have h4 : stk os k ≠ [] := List.ne_nil_of_mem h
              have h5 : stk os k = (stk os k).dropLast ++ [(stk os k).getLast h4] := (List.dropLast_concat_getLast h4).symm
              rw [h5] at h
              rcases List.mem_append.1 h with h | h
              · exact h
              · rw [List.mem_singleton] at h
                exact absurd (by rw [List.getLast?_eq_some_getLast h4, h]) h3
          · rw [if_neg h2]; left; exact h
      · right
        unfold endOf
        split
        · omega
        · exact h
theorem bal_end {os : List Int} {b : Nat} (h : balB os = true) (ho : opensB (opAt os b) = true) (hb : b < os.length) : (b : Int) < endOf os b os.length ∧ endOf os b os.length < os.length := by
  have h1 := (Bool.and_eq_true_iff.1 h).2
  rw [List.isEmpty_iff] at h1
  rcases end_inv ho hb with h2 | h2
  · rw [h1] at h2; simp at h2
  · rcases end_bound os b os.length with h3 | h3
    · omega
    · exact h3
/-! ### the innermost block, by a scan backwards -/
def arnd (os : List Int) : Nat → Nat → Int
  | 0, _ => -1
  | k + 1, d => if opAt os k = 14 then arnd os k (d + 1) else if opensB (opAt os k) then (if d = 0 then (k : Int) else arnd os k (d - 1)) else arnd os k d
theorem arnd_bound (os : List Int) (k d : Nat) : -1 ≤ arnd os k d ∧ arnd os k d < k := by
  induction k generalizing d with
  | zero => simp [arnd]
  | succ k ih =>
    unfold arnd
    split
    · have := ih (d + 1); omega
    · split
      · split
        · omega
        · have := ih (d - 1); omega
      · have := ih d; omega
def fromTop (s : List Nat) (d : Nat) : Int := match s.reverse[d]? with
  | none => -1
  | some b => b
theorem arnd_stk {os : List Int} {k : Nat} (d : Nat) (h : okUpto os k = true) : arnd os k d = fromTop (stk os k) d := by
  induction k generalizing d with
  | zero => simp [arnd, fromTop, stk]
  | succ k ih =>
    have h1 := okUpto_le (j := k) h (by omega)
    have h2 := okUpto_step h (Nat.lt_succ_self k)
    unfold arnd
    by_cases h14 : opAt os k = 14
    · rw [if_pos h14, ih _ h1]
      have hs : stk os (k + 1) = (stk os k).dropLast := by
        rw [stk_s, if_neg (by rw [h14]; decide), if_pos h14]
      rw [hs]
      unfold fromTop
      rw [← List.tail_reverse, List.getElem?_tail]
    · rw [if_neg h14]
      by_cases ho : opensB (opAt os k) = true
      · have hs : stk os (k + 1) = stk os k ++ [k] := by
          rw [stk_s, if_pos ho]
        rw [if_pos ho, hs]
        unfold fromTop
        rw [List.reverse_append]
        cases d with
        | zero => simp
        | succ d =>
          rw [if_neg (by omega), ih _ h1]
          simp [fromTop]
      · have hs : stk os (k + 1) = stk os k := by
          rw [stk_s, if_neg ho, if_neg h14]
        rw [if_neg ho, hs]
        exact ih _ h1
def topOf (os : List Int) (k : Nat) : Int := match (stk os k).getLast? with
  | none => -1
  | some b => b
theorem arnd_top {os : List Int} {k : Nat} (h : okUpto os k = true) : arnd os k 0 = topOf os k := by
  rw [arnd_stk 0 h]
  unfold fromTop topOf
  rw [List.getLast?_eq_head?_reverse, List.head?_eq_getElem?]
/-! ### the end of a block, by a scan forwards -/
/-- what holds of the scan from a block's place at a place behind it. -/
def EndInv (os : List Int) (b k d : Nat) (o : Int) : Prop :=
  b < k ∧ k ≤ os.length ∧ (∃ t : List Nat, stk os k = stk os b ++ b :: t ∧ t.length = d) ∧ o = oth os b k
theorem EndInv.start {os : List Int} {b : Nat} (hb : b < os.length) (ho : opensB (opAt os b) = true) : EndInv os b (b + 1) 0 (-1) := by
  refine ⟨by omega, by omega, ⟨[], ?_, rfl⟩, (oth_new (by omega)).symm⟩
  show stk os (b + 1) = _
  rw [stk_s, if_pos ho]
theorem last_of {s t : List Nat} {b : Nat} : (s ++ b :: t).getLast? = some ((b :: t).getLast (by simp)) := by
  rw [List.getLast?_append, List.getLast?_eq_some_getLast (by simp : b :: t ≠ [])]
  rfl
theorem EndInv.more {os : List Int} {b k d : Nat} {o : Int} (h : EndInv os b k d o) (hd : 0 < d) : (stk os k).getLast? ≠ some b := by
  obtain ⟨h1, h2, ⟨t, h3, h4⟩, h5⟩ := h
  intro h6
  have h7 := nodup_last (stk_sorted os k) h6
  rw [h3] at h7
  apply h7
  have ht : b :: t ≠ [] := by simp
  rw [List.dropLast_append_of_ne_nil ht]
  apply List.mem_append_right
  cases t with
  | nil => simp at h4; omega
  | cons x t => simp [List.dropLast]
theorem EndInv.zero {os : List Int} {b k : Nat} {o : Int} (h : EndInv os b k 0 o) : (stk os k).getLast? = some b := by
  obtain ⟨h1, h2, ⟨t, h3, h4⟩, h5⟩ := h
  cases t with
  | nil => rw [h3]; simp
  | cons x t => simp at h4
theorem EndInv.open {os : List Int} {b k d : Nat} {o : Int} (h : EndInv os b k d o) (hk : k < os.length) (ho : opensB (opAt os k) = true) : EndInv os b (k + 1) (d + 1) o := by
  obtain ⟨h1, h2, ⟨t, h3, h4⟩, h5⟩ := h
  have hn : opAt os k ≠ 12 := fun e => by rw [e] at ho; exact absurd ho (by decide)
  refine ⟨by omega, by omega, ⟨t ++ [k], ?_, by simp [h4]⟩, ?_⟩
  · show stk os (k + 1) = _
    rw [stk_s, if_pos ho, h3]; simp
  · show o = oth os b (k + 1)
    rw [oth_s, if_neg (fun e => hn e.1)]; exact h5
theorem EndInv.other {os : List Int} {b k d : Nat} {o : Int} (h : EndInv os b k d o) (hk : k < os.length) (ho : opensB (opAt os k) = false) (hn : opAt os k ≠ 14) (hne : opAt os k = 12 → 0 < d) : EndInv os b (k + 1) d o := by
  have hm := h.more
  obtain ⟨h1, h2, ⟨t, h3, h4⟩, h5⟩ := h
  refine ⟨by omega, by omega, ⟨t, ?_, h4⟩, ?_⟩
  · show stk os (k + 1) = _
    rw [stk_s, if_neg (by rw [ho]; decide), if_neg hn]; exact h3
  · show o = oth os b (k + 1)
    rw [oth_s, if_neg (fun e => hm (hne e.1) e.2)]; exact h5
theorem EndInv.else_ {os : List Int} {b k : Nat} {o : Int} (h : EndInv os b k 0 o) (hk : k < os.length) (hn : opAt os k = 12) : EndInv os b (k + 1) 0 k := by
  have hz := h.zero
  obtain ⟨h1, h2, ⟨t, h3, h4⟩, h5⟩ := h
  refine ⟨by omega, by omega, ⟨t, ?_, h4⟩, ?_⟩
  · show stk os (k + 1) = _
    rw [stk_s, if_neg (by rw [hn]; decide), if_neg (by rw [hn]; decide)]; exact h3
  · show (k : Int) = oth os b (k + 1)
    rw [oth_s, if_pos ⟨hn, hz⟩]
theorem EndInv.close {os : List Int} {b k d : Nat} {o : Int} (h : EndInv os b k (d + 1) o) (hk : k < os.length) (hn : opAt os k = 14) : EndInv os b (k + 1) d o := by
  obtain ⟨h1, h2, ⟨t, h3, h4⟩, h5⟩ := h
  refine ⟨by omega, by omega, ⟨t.dropLast, ?_, by simp [h4]⟩, ?_⟩
  · show stk os (k + 1) = _
    rw [stk_s, if_neg (by rw [hn]; decide), if_pos hn, h3, List.dropLast_append_of_ne_nil (by simp)]
    cases t with
    | nil => simp at h4
    | cons x t => rfl
  · show o = oth os b (k + 1)
    rw [oth_s, if_neg (fun e => by rw [hn] at e; exact absurd e.1 (by decide))]; exact h5
theorem EndInv.found {os : List Int} {b k : Nat} {o : Int} (h : EndInv os b k 0 o) (hk : k < os.length) (hn : opAt os k = 14) : endOf os b os.length = k ∧ oth os b os.length = o := by
  have hz := h.zero
  obtain ⟨h1, h2, _, h5⟩ := h
  have hs : stk os (k + 1) = (stk os k).dropLast := by
    rw [stk_s, if_neg (by rw [hn]; decide), if_pos hn]
  have hnot : b ∉ stk os (k + 1) := by rw [hs]; exact nodup_last (stk_sorted os k) hz
  have hg := gone (by omega) hnot (os.length - (k + 1))
  rw [show k + 1 + (os.length - (k + 1)) = os.length by omega] at hg
  refine ⟨hg.2.2.trans ?_, hg.2.1.trans ?_⟩
  · show endOf os b (k + 1) = _
    rw [end_s, if_pos ⟨hn, hz⟩]
  · show oth os b (k + 1) = _
    rw [oth_s, if_neg (fun e => by rw [hn] at e; exact absurd e.1 (by decide))]; exact h5.symm
theorem EndInv.bal {os : List Int} {b d : Nat} {o : Int} (h : EndInv os b os.length d o) (hb : balB os = true) : False := by
  obtain ⟨h1, h2, ⟨t, h3, h4⟩, h5⟩ := h
  have h1 := (Bool.and_eq_true_iff.1 hb).2
  rw [List.isEmpty_iff] at h1
  rw [h1] at h3
  simp at h3
/-! ### the graph -/
def forkTo (os : List Int) (k : Nat) : Int := if 0 ≤ oth os k os.length then oth os k os.length + 1 else endOf os k os.length + 1
def succs (os : List Int) (k : Nat) : List Int :=
  if opAt os k = 12 then [endOf os (topOf os k).toNat os.length + 1]
  else if opensB (opAt os k) then (if forkTo os k = k + 1 then [(k : Int) + 1] else [(k : Int) + 1, forkTo os k])
  else if opAt os k = 14 then (if opAt os (topOf os k).toNat = 13 then [topOf os k + 1, (k : Int) + 1] else [(k : Int) + 1])
  else [(k : Int) + 1]
def graphOf (os : List Int) : List (List Int) := (List.range os.length).map (succs os) ++ [[]]
/-! ### the reference's stack of operations -/
def markOp (os : List Int) (k b : Nat) : Int := if 0 ≤ oth os b k then 12 else opAt os b
def opStk (os : List Int) (k : Nat) : List Int := (stk os k).map (markOp os k)
theorem opStk_len (os : List Int) (k : Nat) : (opStk os k).length = (stk os k).length := by simp [opStk]
theorem opStk_same {os : List Int} {k : Nat} (hn : opAt os k ≠ 12) (b : Nat) : markOp os (k + 1) b = markOp os k b := by
  unfold markOp
  rw [show oth os b (k + 1) = oth os b k from by rw [oth_s, if_neg (fun e => hn e.1)]]
theorem opStk_open {os : List Int} {k : Nat} (ho : opensB (opAt os k) = true) : opStk os (k + 1) = opStk os k ++ [opAt os k] := by
  have hn : opAt os k ≠ 12 := fun e => by rw [e] at ho; exact absurd ho (by decide)
  unfold opStk
  rw [show stk os (k + 1) = stk os k ++ [k] from by rw [stk_s, if_pos ho], List.map_append]
  congr 1
  · exact List.map_congr_left fun b _ => opStk_same hn b
  · simp [markOp, oth_new (os := os) (b := k) (k := k + 1) (by omega)]
theorem opStk_close {os : List Int} {k : Nat} (hn : opAt os k = 14) : opStk os (k + 1) = (opStk os k).dropLast := by
  unfold opStk
  rw [show stk os (k + 1) = (stk os k).dropLast from by rw [stk_s, if_neg (by rw [hn]; decide), if_pos hn], ← List.map_dropLast]
  exact List.map_congr_left fun b _ => opStk_same (by rw [hn]; decide) b
theorem opStk_other {os : List Int} {k : Nat} (ho : opensB (opAt os k) = false) (h12 : opAt os k ≠ 12) (h14 : opAt os k ≠ 14) : opStk os (k + 1) = opStk os k := by
  unfold opStk
  rw [show stk os (k + 1) = stk os k from by rw [stk_s, if_neg (by rw [ho]; decide), if_neg h14]]
  exact List.map_congr_left fun b _ => opStk_same h12 b
theorem opStk_else {os : List Int} {k : Nat} (h12 : opAt os k = 12) : opStk os (k + 1) = (opStk os k).set ((stk os k).length - 1) 12 := by
  have hs : stk os (k + 1) = stk os k := by rw [stk_s, if_neg (by rw [h12]; decide), if_neg (by rw [h12]; decide)]
  have hp := stk_sorted os k
  apply List.ext_getElem
  · simp [opStk, hs]
  · intro i h1 h2
    have hi : i < (stk os k).length := by rw [opStk_len, hs] at h1; exact h1
    rw [List.getElem_set]
    unfold opStk
    simp only [hs, List.getElem_map]
    by_cases e : (stk os k).length - 1 = i
    · rw [if_pos e]
      unfold markOp
      have hl : (stk os k).getLast? = some (stk os k)[i] := by
        rw [List.getLast?_eq_getElem?, e]; exact List.getElem?_eq_getElem hi
      rw [show oth os (stk os k)[i] (k + 1) = k from by rw [oth_s, if_pos ⟨h12, hl⟩], if_pos (by omega)]
    · rw [if_neg e]
      unfold markOp
      have hl : (stk os k).getLast? ≠ some (stk os k)[i] := by
        rw [List.getLast?_eq_getElem?]
        intro h
        have hj : (stk os k).length - 1 < (stk os k).length := by omega
        rw [List.getElem?_eq_getElem hj] at h
        have h := Option.some.inj h
        have := (List.pairwise_iff_getElem.1 hp) i ((stk os k).length - 1) hi hj (by omega)
        omega
      rw [show oth os (stk os k)[i] (k + 1) = oth os (stk os k)[i] k from by rw [oth_s, if_neg (fun e => hl e.2)]]
end Go.Proofs.Ytabpcbikbhbcaaa
