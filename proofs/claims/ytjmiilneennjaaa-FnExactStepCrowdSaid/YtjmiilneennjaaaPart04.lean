/-
  Parts of a proof: PlainProg, LibAppG, CBlk.
-/
import Derived.Test.YtjmiilneennjaaaPart01
import Derived.Test.YtjmiilneennjaaaPart03
import Derived.Deep.AppendLies
import Derived.WalkSmall
namespace Go.Proofs.Ytjmiilneennjaaa
set_option maxHeartbeats 1000000
set_option linter.unusedVariables false

/-- the operation at a place of a list of operations. -/
def opAt (os : List Int) (k : Nat) : Int := os.getD k 0
def opensB (z : Int) : Bool := z == 11 || z == 13
/-- the open blocks ahead of a place, the outermost one first. -/
def stk (os : List Int) : Nat → List Nat
  | 0 => []
  | k + 1 => if opensB (opAt os k) then stk os k ++ [k] else if opAt os k = 14 then (stk os k).dropLast else stk os k
/-- where a block is divided, as far as is known ahead of a place. -/
def oth (os : List Int) (b : Nat) : Nat → Int
  | 0 => -1
  | k + 1 => if opAt os k = 12 ∧ (stk os k).getLast? = some b then k else oth os b k
/-- where a block ends, as far as is known ahead of a place. -/
def endOf (os : List Int) (b : Nat) : Nat → Int
  | 0 => -1
  | k + 1 => if opAt os k = 14 ∧ (stk os k).getLast? = some b then k else endOf os b k
def elseOk (os : List Int) (k : Nat) : Bool := match (stk os k).getLast? with
  | none => false
  | some b => opAt os b == 11 && decide (oth os b k < 0)
def stepOk (os : List Int) (k : Nat) : Bool :=
  if opensB (opAt os k) then decide ((stk os k).length < 3)
  else if opAt os k = 12 then elseOk os k
  else if opAt os k = 14 then !(stk os k).isEmpty
  else true
def okUpto (os : List Int) : Nat → Bool
  | 0 => true
  | k + 1 => okUpto os k && stepOk os k
def balB (os : List Int) : Bool := okUpto os os.length && (stk os os.length).isEmpty
theorem stk_s (os : List Int) (k : Nat) : stk os (k + 1) = if opensB (opAt os k) then stk os k ++ [k] else if opAt os k = 14 then (stk os k).dropLast else stk os k := rfl
theorem oth_s (os : List Int) (b k : Nat) : oth os b (k + 1) = if opAt os k = 12 ∧ (stk os k).getLast? = some b then (k : Int) else oth os b k := rfl
theorem end_s (os : List Int) (b k : Nat) : endOf os b (k + 1) = if opAt os k = 14 ∧ (stk os k).getLast? = some b then (k : Int) else endOf os b k := rfl
theorem drop_last {s : List Nat} {b : Nat} (h : s.getLast? = some b) : s = s.dropLast ++ [b] := by
  have hn : s ≠ [] := fun e => by rw [e] at h; simp at h
  rw [List.getLast?_eq_some_getLast hn] at h
  have := List.dropLast_concat_getLast hn
  rw [Option.some.inj h] at this
  exact this.symm
theorem okUpto_le {os : List Int} {k j : Nat} (h : okUpto os k = true) (hj : j ≤ k) : okUpto os j = true := by
  induction k with
  | zero => have : j = 0 := by omega
            subst this; exact h
  | succ k ih =>
    by_cases e : j = k + 1
    · subst e; exact h
    · exact ih (by unfold okUpto at h; exact (Bool.and_eq_true_iff.1 h).1) (by omega)
theorem okUpto_step {os : List Int} {k j : Nat} (h : okUpto os k = true) (hj : j < k) : stepOk os j = true := by
  have := okUpto_le (j := j + 1) h (by omega)
  unfold okUpto at this
  exact (Bool.and_eq_true_iff.1 this).2
theorem okUpto_no {os : List Int} {k n : Nat} (hk : k < n) (h : stepOk os k = false) : okUpto os n = false := by
  cases hn : okUpto os n with
  | false => rfl
  | true => rw [okUpto_step hn hk] at h; exact absurd h (by simp)
theorem stk_lt {os : List Int} {k b : Nat} (h : b ∈ stk os k) : b < k ∧ opensB (opAt os b) = true := by
  induction k with
  | zero => simp [stk] at h
  | succ k ih =>
    unfold stk at h
    split at h
    · rename_i ho
      rcases List.mem_append.1 h with h | h
      · have := ih h; exact ⟨by omega, this.2⟩
      · rw [List.mem_singleton] at h; subst h; exact ⟨by omega, ho⟩
    · split at h
      · have := ih (List.dropLast_subset _ h); exact ⟨by omega, this.2⟩
      · have := ih h; exact ⟨by omega, this.2⟩
theorem stk_sorted (os : List Int) (k : Nat) : (stk os k).Pairwise (· < ·) := by
  induction k with
  | zero => exact List.Pairwise.nil
  | succ k ih =>
    unfold stk
    split
    · rw [List.pairwise_append]
      refine ⟨ih, List.pairwise_singleton _ _, fun a ha b hb => ?_⟩
      rw [List.mem_singleton] at hb
      subst hb
      exact (stk_lt ha).1
    · split
      · exact ih.sublist (List.dropLast_sublist _)
      · exact ih
theorem stk_len (os : List Int) (k : Nat) : (stk os k).length ≤ k := by
  induction k with
  | zero => simp [stk]
  | succ k ih =>
    rw [stk_s]
    split
    · simp; omega
    · split
      · simp; omega
      · omega
theorem stk_three {os : List Int} {k : Nat} (h : okUpto os k = true) : (stk os k).length ≤ 3 := by
  induction k with
  | zero => simp [stk]
  | succ k ih =>
    have h1 := ih (okUpto_le h (by omega))
    have h2 := okUpto_step h (Nat.lt_succ_self k)
    unfold stk
    split
    · rename_i ho
      unfold stepOk at h2
      rw [if_pos ho, decide_eq_true_eq] at h2
      simp; omega
    · split
      · simp; omega
      · exact h1
theorem last_mem {s : List Nat} {b : Nat} (h : s.getLast? = some b) : b ∈ s := List.mem_of_getLast? h
theorem last_lt {os : List Int} {k b : Nat} (h : (stk os k).getLast? = some b) : b < k ∧ opensB (opAt os b) = true := stk_lt (last_mem h)
theorem oth_bound (os : List Int) (b k : Nat) : oth os b k = -1 ∨ ((b : Int) < oth os b k ∧ oth os b k < k) := by
  induction k with
  | zero => exact .inl rfl
  | succ k ih =>
    unfold oth
    split
    · rename_i h; have := (last_lt h.2).1; right; omega
    · rcases ih with h | h
      · exact .inl h
      · right; omega
theorem end_bound (os : List Int) (b k : Nat) : endOf os b k = -1 ∨ ((b : Int) < endOf os b k ∧ endOf os b k < k) := by
  induction k with
  | zero => exact .inl rfl
  | succ k ih =>
    unfold endOf
    split
    · rename_i h; have := (last_lt h.2).1; right; omega
    · rcases ih with h | h
      · exact .inl h
      · right; omega
theorem oth_new {os : List Int} {b k : Nat} (h : k ≤ b + 1) : oth os b k = -1 := by
  rcases oth_bound os b k with h1 | h1
  · exact h1
  · omega
theorem end_new {os : List Int} {b k : Nat} (h : k ≤ b + 1) : endOf os b k = -1 := by
  rcases end_bound os b k with h1 | h1
  · exact h1
  · omega
theorem oth_if {os : List Int} {b k : Nat} (h : okUpto os k = true) (h0 : 0 ≤ oth os b k) : opAt os b = 11 := by
  induction k with
  | zero => simp [oth] at h0
  | succ k ih =>
    unfold oth at h0
    split at h0
    · rename_i hc
      have h2 := okUpto_step h (Nat.lt_succ_self k)
      unfold stepOk at h2
      rw [if_neg (by rw [hc.1]; decide), if_pos hc.1] at h2
      unfold elseOk at h2
      rw [hc.2] at h2
      simp only [Bool.and_eq_true, beq_iff_eq] at h2
      exact h2.1
    · exact ih (okUpto_le h (by omega)) h0
/-- a block that is closed stays as it is. -/
theorem gone {os : List Int} {b k : Nat} (hb : b < k) (hn : b ∉ stk os k) (d : Nat) : b ∉ stk os (k + d) ∧ oth os b (k + d) = oth os b k ∧ endOf os b (k + d) = endOf os b k := by
  induction d with
  | zero => exact ⟨hn, rfl, rfl⟩
  | succ d ih =>
    obtain ⟨i1, i2, i3⟩ := ih
    have hl : (stk os (k + d)).getLast? ≠ some b := fun h => i1 (last_mem h)
    refine ⟨?_, ?_, ?_⟩
    · show b ∉ stk os (k + d + 1)
      rw [stk_s]
      split
      · intro h
        rcases List.mem_append.1 h with h | h
        · exact i1 h
        · rw [List.mem_singleton] at h; omega
      · split
        · exact fun h => i1 (List.dropLast_subset _ h)
        · exact i1
    · show oth os b (k + d + 1) = _
      rw [oth_s, if_neg (fun h => hl h.2)]; exact i2
    · show endOf os b (k + d + 1) = _
      rw [end_s, if_neg (fun h => hl h.2)]; exact i3
theorem nodup_last {s : List Nat} {b : Nat} (hs : s.Pairwise (· < ·)) (h : s.getLast? = some b) : b ∉ s.dropLast := by
  intro hb
  have h1 := drop_last h
  rw [h1, List.pairwise_append] at hs
  have := hs.2.2 b hb b (by simp)
  omega
/-- an open block is on the stack or has an end. -/
theorem end_inv {os : List Int} {b k : Nat} (ho : opensB (opAt os b) = true) (hb : b < k) : b ∈ stk os k ∨ 0 ≤ endOf os b k := by
  induction k with
  | zero => omega
  | succ k ih =>
    by_cases e : b = k
    · subst e
      left
      rw [stk_s, if_pos ho]; simp
    · rcases ih (by omega) with h | h
      · unfold stk endOf
        by_cases h1 : opensB (opAt os k) = true
        · rw [if_pos h1]; left; exact List.mem_append_left _ h
        · rw [if_neg h1]
          by_cases h2 : opAt os k = 14
          · rw [if_pos h2]
            by_cases h3 : (stk os k).getLast? = some b
            · rw [if_pos ⟨h2, h3⟩]; right; omega
            · left
              have h4 : stk os k ≠ [] := List.ne_nil_of_mem h
              have h5 : stk os k = (stk os k).dropLast ++ [(stk os k).getLast h4] := (List.dropLast_concat_getLast h4).symm
              rw [h5] at h
              rcases List.mem_append.1 h with h | h
              · exact h
              · rw [List.mem_singleton] at h
                exact absurd (by rw [List.getLast?_eq_some_getLast h4, h]) h3
          · rw [if_neg h2]; left; exact h
      · right
        unfold endOf
        split
        · omega
        · exact h
theorem bal_end {os : List Int} {b : Nat} (h : balB os = true) (ho : opensB (opAt os b) = true) (hb : b < os.length) : (b : Int) < endOf os b os.length ∧ endOf os b os.length < os.length := by
  have h1 := (Bool.and_eq_true_iff.1 h).2
  rw [List.isEmpty_iff] at h1
  rcases end_inv ho hb with h2 | h2
  · rw [h1] at h2; simp at h2
  · rcases end_bound os b os.length with h3 | h3
    · omega
    · exact h3
/-! ### the innermost block, by a scan backwards -/
def arnd (os : List Int) : Nat → Nat → Int
  | 0, _ => -1
  | k + 1, d => if opAt os k = 14 then arnd os k (d + 1) else if opensB (opAt os k) then (if d = 0 then (k : Int) else arnd os k (d - 1)) else arnd os k d
theorem arnd_bound (os : List Int) (k d : Nat) : -1 ≤ arnd os k d ∧ arnd os k d < k := by
  induction k generalizing d with
  | zero => simp [arnd]
  | succ k ih =>
    unfold arnd
    split
    · have := ih (d + 1); omega
    · split
      · split
        · omega
        · have := ih (d - 1); omega
      · have := ih d; omega
def fromTop (s : List Nat) (d : Nat) : Int := match s.reverse[d]? with
  | none => -1
  | some b => b
theorem arnd_stk {os : List Int} {k : Nat} (d : Nat) (h : okUpto os k = true) : arnd os k d = fromTop (stk os k) d := by
  induction k generalizing d with
  | zero => simp [arnd, fromTop, stk]
  | succ k ih =>
    have h1 := okUpto_le (j := k) h (by omega)
    have h2 := okUpto_step h (Nat.lt_succ_self k)
    unfold arnd
    by_cases h14 : opAt os k = 14
    · rw [if_pos h14, ih _ h1]
      have hs : stk os (k + 1) = (stk os k).dropLast := by
        rw [stk_s, if_neg (by rw [h14]; decide), if_pos h14]
      rw [hs]
      unfold fromTop
      rw [← List.tail_reverse, List.getElem?_tail]
    · rw [if_neg h14]
      by_cases ho : opensB (opAt os k) = true
      · have hs : stk os (k + 1) = stk os k ++ [k] := by
          rw [stk_s, if_pos ho]
        rw [if_pos ho, hs]
        unfold fromTop
        rw [List.reverse_append]
        cases d with
        | zero => simp
        | succ d =>
          rw [if_neg (by omega), ih _ h1]
          simp [fromTop]
      · have hs : stk os (k + 1) = stk os k := by
          rw [stk_s, if_neg ho, if_neg h14]
        rw [if_neg ho, hs]
        exact ih _ h1
def topOf (os : List Int) (k : Nat) : Int := match (stk os k).getLast? with
  | none => -1
  | some b => b
theorem arnd_top {os : List Int} {k : Nat} (h : okUpto os k = true) : arnd os k 0 = topOf os k := by
  rw [arnd_stk 0 h]
  unfold fromTop topOf
  rw [List.getLast?_eq_head?_reverse, List.head?_eq_getElem?]
/-! ### the end of a block, by a scan forwards -/
/-- what holds of the scan from a block's place at a place behind it. -/
def EndInv (os : List Int) (b k d : Nat) (o : Int) : Prop :=
  b < k ∧ k ≤ os.length ∧ (∃ t : List Nat, stk os k = stk os b ++ b :: t ∧ t.length = d) ∧ o = oth os b k
theorem EndInv.start {os : List Int} {b : Nat} (hb : b < os.length) (ho : opensB (opAt os b) = true) : EndInv os b (b + 1) 0 (-1) := by
  refine ⟨by omega, by omega, ⟨[], ?_, rfl⟩, (oth_new (by omega)).symm⟩
  show stk os (b + 1) = _
  rw [stk_s, if_pos ho]
theorem last_of {s t : List Nat} {b : Nat} : (s ++ b :: t).getLast? = some ((b :: t).getLast (by simp)) := by
  rw [List.getLast?_append, List.getLast?_eq_some_getLast (by simp : b :: t ≠ [])]
  rfl
theorem EndInv.more {os : List Int} {b k d : Nat} {o : Int} (h : EndInv os b k d o) (hd : 0 < d) : (stk os k).getLast? ≠ some b := by
  obtain ⟨h1, h2, ⟨t, h3, h4⟩, h5⟩ := h
  intro h6
  have h7 := nodup_last (stk_sorted os k) h6
  rw [h3] at h7
  apply h7
  have ht : b :: t ≠ [] := by simp
  rw [List.dropLast_append_of_ne_nil ht]
  apply List.mem_append_right
  cases t with
  | nil => simp at h4; omega
  | cons x t => simp [List.dropLast]
theorem EndInv.zero {os : List Int} {b k : Nat} {o : Int} (h : EndInv os b k 0 o) : (stk os k).getLast? = some b := by
  obtain ⟨h1, h2, ⟨t, h3, h4⟩, h5⟩ := h
  cases t with
  | nil => rw [h3]; simp
  | cons x t => simp at h4
theorem EndInv.open {os : List Int} {b k d : Nat} {o : Int} (h : EndInv os b k d o) (hk : k < os.length) (ho : opensB (opAt os k) = true) : EndInv os b (k + 1) (d + 1) o := by
  obtain ⟨h1, h2, ⟨t, h3, h4⟩, h5⟩ := h
  have hn : opAt os k ≠ 12 := fun e => by rw [e] at ho; exact absurd ho (by decide)
  refine ⟨by omega, by omega, ⟨t ++ [k], ?_, by simp [h4]⟩, ?_⟩
  · show stk os (k + 1) = _
    rw [stk_s, if_pos ho, h3]; simp
  · show o = oth os b (k + 1)
    rw [oth_s, if_neg (fun e => hn e.1)]; exact h5
theorem EndInv.other {os : List Int} {b k d : Nat} {o : Int} (h : EndInv os b k d o) (hk : k < os.length) (ho : opensB (opAt os k) = false) (hn : opAt os k ≠ 14) (hne : opAt os k = 12 → 0 < d) : EndInv os b (k + 1) d o := by
  have hm := h.more
  obtain ⟨h1, h2, ⟨t, h3, h4⟩, h5⟩ := h
  refine ⟨by omega, by omega, ⟨t, ?_, h4⟩, ?_⟩
  · show stk os (k + 1) = _
    rw [stk_s, if_neg (by rw [ho]; decide), if_neg hn]; exact h3
  · show o = oth os b (k + 1)
    rw [oth_s, if_neg (fun e => hm (hne e.1) e.2)]; exact h5
theorem EndInv.else_ {os : List Int} {b k : Nat} {o : Int} (h : EndInv os b k 0 o) (hk : k < os.length) (hn : opAt os k = 12) : EndInv os b (k + 1) 0 k := by
  have hz := h.zero
  obtain ⟨h1, h2, ⟨t, h3, h4⟩, h5⟩ := h
  refine ⟨by omega, by omega, ⟨t, ?_, h4⟩, ?_⟩
  · show stk os (k + 1) = _
    rw [stk_s, if_neg (by rw [hn]; decide), if_neg (by rw [hn]; decide)]; exact h3
  · show (k : Int) = oth os b (k + 1)
    rw [oth_s, if_pos ⟨hn, hz⟩]
theorem EndInv.close {os : List Int} {b k d : Nat} {o : Int} (h : EndInv os b k (d + 1) o) (hk : k < os.length) (hn : opAt os k = 14) : EndInv os b (k + 1) d o := by
  obtain ⟨h1, h2, ⟨t, h3, h4⟩, h5⟩ := h
  refine ⟨by omega, by omega, ⟨t.dropLast, ?_, by simp [h4]⟩, ?_⟩
  · show stk os (k + 1) = _
    rw [stk_s, if_neg (by rw [hn]; decide), if_pos hn, h3, List.dropLast_append_of_ne_nil (by simp)]
    cases t with
    | nil => simp at h4
    | cons x t => rfl
  · show o = oth os b (k + 1)
    rw [oth_s, if_neg (fun e => by rw [hn] at e; exact absurd e.1 (by decide))]; exact h5
theorem EndInv.found {os : List Int} {b k : Nat} {o : Int} (h : EndInv os b k 0 o) (hk : k < os.length) (hn : opAt os k = 14) : endOf os b os.length = k ∧ oth os b os.length = o := by
  have hz := h.zero
  obtain ⟨h1, h2, _, h5⟩ := h
  have hs : stk os (k + 1) = (stk os k).dropLast := by
    rw [stk_s, if_neg (by rw [hn]; decide), if_pos hn]
  have hnot : b ∉ stk os (k + 1) := by rw [hs]; exact nodup_last (stk_sorted os k) hz
  have hg := gone (by omega) hnot (os.length - (k + 1))
  rw [show k + 1 + (os.length - (k + 1)) = os.length by omega] at hg
  refine ⟨hg.2.2.trans ?_, hg.2.1.trans ?_⟩
  · show endOf os b (k + 1) = _
    rw [end_s, if_pos ⟨hn, hz⟩]
  · show oth os b (k + 1) = _
    rw [oth_s, if_neg (fun e => by rw [hn] at e; exact absurd e.1 (by decide))]; exact h5.symm
theorem EndInv.bal {os : List Int} {b d : Nat} {o : Int} (h : EndInv os b os.length d o) (hb : balB os = true) : False := by
  obtain ⟨h1, h2, ⟨t, h3, h4⟩, h5⟩ := h
  have h1 := (Bool.and_eq_true_iff.1 hb).2
  rw [List.isEmpty_iff] at h1
  rw [h1] at h3
  simp at h3
/-! ### the graph -/
def forkTo (os : List Int) (k : Nat) : Int := if 0 ≤ oth os k os.length then oth os k os.length + 1 else endOf os k os.length + 1
def succs (os : List Int) (k : Nat) : List Int :=
  if opAt os k = 12 then [endOf os (topOf os k).toNat os.length + 1]
  else if opensB (opAt os k) then (if forkTo os k = k + 1 then [(k : Int) + 1] else [(k : Int) + 1, forkTo os k])
  else if opAt os k = 14 then (if opAt os (topOf os k).toNat = 13 then [topOf os k + 1, (k : Int) + 1] else [(k : Int) + 1])
  else [(k : Int) + 1]
def graphOf (os : List Int) : List (List Int) := (List.range os.length).map (succs os) ++ [[]]
/-! ### the reference's stack of operations -/
def markOp (os : List Int) (k b : Nat) : Int := if 0 ≤ oth os b k then 12 else opAt os b
def opStk (os : List Int) (k : Nat) : List Int := (stk os k).map (markOp os k)
theorem opStk_len (os : List Int) (k : Nat) : (opStk os k).length = (stk os k).length := by simp [opStk]
theorem opStk_same {os : List Int} {k : Nat} (hn : opAt os k ≠ 12) (b : Nat) : markOp os (k + 1) b = markOp os k b := by
  unfold markOp
  rw [show oth os b (k + 1) = oth os b k from by rw [oth_s, if_neg (fun e => hn e.1)]]
theorem opStk_open {os : List Int} {k : Nat} (ho : opensB (opAt os k) = true) : opStk os (k + 1) = opStk os k ++ [opAt os k] := by
  have hn : opAt os k ≠ 12 := fun e => by rw [e] at ho; exact absurd ho (by decide)
  unfold opStk
  rw [show stk os (k + 1) = stk os k ++ [k] from by rw [stk_s, if_pos ho], List.map_append]
  congr 1
  · exact List.map_congr_left fun b _ => opStk_same hn b
  · simp [markOp, oth_new (os := os) (b := k) (k := k + 1) (by omega)]
theorem opStk_close {os : List Int} {k : Nat} (hn : opAt os k = 14) : opStk os (k + 1) = (opStk os k).dropLast := by
  unfold opStk
  rw [show stk os (k + 1) = (stk os k).dropLast from by rw [stk_s, if_neg (by rw [hn]; decide), if_pos hn], ← List.map_dropLast]
  exact List.map_congr_left fun b _ => opStk_same (by rw [hn]; decide) b
theorem opStk_other {os : List Int} {k : Nat} (ho : opensB (opAt os k) = false) (h12 : opAt os k ≠ 12) (h14 : opAt os k ≠ 14) : opStk os (k + 1) = opStk os k := by
  unfold opStk
  rw [show stk os (k + 1) = stk os k from by rw [stk_s, if_neg (by rw [ho]; decide), if_neg h14]]
  exact List.map_congr_left fun b _ => opStk_same h12 b
theorem opStk_else {os : List Int} {k : Nat} (h12 : opAt os k = 12) : opStk os (k + 1) = (opStk os k).set ((stk os k).length - 1) 12 := by
  have hs : stk os (k + 1) = stk os k := by rw [stk_s, if_neg (by rw [h12]; decide), if_neg (by rw [h12]; decide)]
  have hp := stk_sorted os k
  apply List.ext_getElem
  · simp [opStk, hs]
  · intro i h1 h2
    have hi : i < (stk os k).length := by rw [opStk_len, hs] at h1; exact h1
    rw [List.getElem_set]
    unfold opStk
    simp only [hs, List.getElem_map]
    by_cases e : (stk os k).length - 1 = i
    · rw [if_pos e]
      unfold markOp
      have hl : (stk os k).getLast? = some (stk os k)[i] := by
        rw [List.getLast?_eq_getElem?, e]; exact List.getElem?_eq_getElem hi
      rw [show oth os (stk os k)[i] (k + 1) = k from by rw [oth_s, if_pos ⟨h12, hl⟩], if_pos (by omega)]
    · rw [if_neg e]
      unfold markOp
      have hl : (stk os k).getLast? ≠ some (stk os k)[i] := by
        rw [List.getLast?_eq_getElem?]
        intro h
        have hj : (stk os k).length - 1 < (stk os k).length := by omega
        rw [List.getElem?_eq_getElem hj] at h
        have h := Option.some.inj h
        have := (List.pairwise_iff_getElem.1 hp) i ((stk os k).length - 1) hi hj (by omega)
        omega
      rw [show oth os (stk os k)[i] (k + 1) = oth os (stk os k)[i] k from by rw [oth_s, if_neg (fun e => hl e.2)]]
end Go.Proofs.Ytjmiilneennjaaa

namespace Go.Proofs.Ytjmiilneennjaaa
open Go.RowKit

theorem wpList_appG {P : Program} {w : World} {ops : Array Oper} {rest : List Oper} {o : Oper} {a : Act} {Q : Exit → Act → World → Prop} {t e : TypeId} {z : Value} {size bytes : Nat} (I : ElemI P t e z size bytes)
    {base g0 n c0 : Nat} {xs : List Value} (hown : w.ownsRow base e size (.slice (some ⟨g0, 0, none⟩) n c0) n xs)
    {ad : Addr} {m c : Nat} {news : List Value} (hnews : ∀ j u, news[j]? = some u → w.cell? (ad.add j) = some u) (hl : news.length = m * size) (h1 : ∀ u ∈ news, u.oneCell' = true)
    (hbytes : (n + m) * bytes ≤ 140737488355328) (h63 : n + m ≤ 9223372036854775807) (hbase : base ≤ w.heap.size)
    {s x : Operand} (hw : Region.wanted o (yielded ops a.tmps) = true) (ho : o.op = .call { callee := .builtin .append, args := #[s, x], argTypes := #[t, t] }) (hs : a.eval s = .slice (some ⟨g0, 0, none⟩) n c0) (hx : a.eval x = .slice (some ad) m c)
    (h : ∀ g' c' w', w'.ownsRow base e size (.slice (some ⟨g', 0, none⟩) (n + m) c') (n + m) (xs ++ news) → w.grownBy w' (some g0) → wpList P ops Q rest (a.put o.dst (.slice (some ⟨g', 0, none⟩) (n + m) c')) w') : wpList P ops Q (o :: rest) a w := by
  obtain ⟨i, hi, hz0, hz1, hz2⟩ := info_parts I.hi
  rw [wpList, if_pos hw]
  left
  obtain ⟨v', w', hrun, hown', hg, hn⟩ := run_append_own (P := P) (w := w) base t o.type e i z size bytes I.ht hi hz0 hz1 hz2 I.hz I.hs _ n xs hown ad m c news hl hnews h1 (by simp only [maxLen]; omega) hbytes hbase
  obtain ⟨g, c', rfl⟩ := own_some hown' (fun e => by have := hn.1 e; simp at this)
  unfold Oper.wp
  simp [execOp, ho, resolve, invoke, builtin, hs, hx, hrun, Result.andThen]
  exact h g c' w' hown' hg
end Go.Proofs.Ytjmiilneennjaaa

namespace Go.Proofs.Ytjmiilneennjaaa
open Go.RowKit
set_option maxHeartbeats 1000000
set_option linter.unusedVariables false

theorem Ep : ElemI Try.prog 98 101 (.pointer none) 1 8 := ⟨Try.underlying98, by kernel_rfl, rfl, by omega⟩
theorem Eq2 : ElemI Try.prog 97 98 (.slice none 0 0) 1 24 := ⟨Try.underlying97, by kernel_rfl, rfl, by omega⟩
theorem own_types3 {w : World} {b1 b2 s1 s2 g n m : Nat} {e1 e2 : TypeId} {v1 v2 : Value} {xs ys : List Value} (h : w.ownsRow b1 e1 s1 v1 n xs) (k : w.ownsRow b2 e2 s2 v2 m ys) (hne : e1 ≠ e2) (h1 : v1.ownBlock = some g) : v2.ownBlock ≠ some g := fun h2 => by
  rcases h.2 with ⟨h5, _⟩ | ⟨g', cap', cur', h5, _, h6, _⟩
  · rw [h5] at h1; cases h1
  · rcases k.2 with ⟨h7, _⟩ | ⟨g'', cap'', cur'', h7, _, h8, _⟩
    · rw [h7] at h2; cases h2
    · rw [h5] at h1
      rw [h7] at h2
      have e1 : g' = g := by simpa [Value.ownBlock] using h1
      have e2 : g'' = g := by simpa [Value.ownBlock] using h2
      subst e1 e2
      rw [h6] at h8
      simp only [Option.some.injEq, Obj.cells.injEq] at h8
      exact hne h8.2.1
theorem own_ne_heap3 {w : World} {b s n C : Nat} {e ty : TypeId} {v : Value} {xs : List Value} {cs : Array Value} {fr : Nat × Nat} (h : w.ownsRow b e s v n xs) (hq : w.heap[C]? = some (.cells cs ty fr)) (hne : e ≠ ty) : v.ownBlock ≠ some C := fun hv => by
  rcases h.2 with ⟨h1, _⟩ | ⟨g, cap, cur, h1, _, h2, _⟩
  · rw [h1] at hv; cases hv
  · rw [h1] at hv
    have e1 : g = C := by simpa [Value.ownBlock] using hv
    subst e1
    rw [h2] at hq
    simp only [Option.some.injEq, Obj.cells.injEq] at hq
    exact hne hq.2.1
theorem box3 {w : World} {B : Nat} {c0 c1 c2 : Value} {ty : TypeId} (h : w.heap[B]? = some (.cells #[c0, c1, c2] ty (0, 0))) :
    (w.cell? ⟨B, 0, none⟩ = some c0 ∧ w.cell? ⟨B, 1, none⟩ = some c1 ∧ w.cell? ⟨B, 2, none⟩ = some c2) ∧ w.frozen? ⟨B, 0, none⟩ = false ∧ w.frozen? ⟨B, 1, none⟩ = false ∧ w.frozen? ⟨B, 2, none⟩ = false :=
  ⟨⟨cell_of_row _ _ _ _ _ _ h, cell_of_row _ _ _ _ _ _ h, cell_of_row _ _ _ _ _ _ h⟩, frozen_of_row _ _ _ _ _ h, frozen_of_row _ _ _ _ _ h, frozen_of_row _ _ _ _ _ h⟩
def updB {α : Type} (f : Nat → α) (k : Nat) (x : α) : Nat → α := fun j => if j = k then x else f j
theorem updB_same {α : Type} (f : Nat → α) (k : Nat) (x : α) : updB f k x k = x := if_pos rfl
theorem updB_ne {α : Type} (f : Nat → α) {k j : Nat} (x : α) (h : j ≠ k) : updB f k x j = f j := if_neg h
abbrev ptrV (b : Nat) : Value := .pointer (some ⟨b, 0, none⟩)
def ptrs (P : Nat → Nat) (s : List Nat) : List Value := s.map fun b => ptrV (P b)
theorem ptrs_len (P : Nat → Nat) (s : List Nat) : (ptrs P s).length = s.length := by simp [ptrs]
theorem ptrs_one (P : Nat → Nat) (s : List Nat) : ∀ u ∈ ptrs P s, u.oneCell' = true := by
  intro u hu
  obtain ⟨b, _, rfl⟩ := List.mem_map.1 hu
  rfl
theorem ptrs_upd {P : Nat → Nat} {s : List Nat} {k x : Nat} (h : ∀ b ∈ s, b < k) : ptrs (updB P k x) s = ptrs P s :=
  List.map_congr_left fun b hb => by rw [updB_ne]; have := h b hb; omega
theorem ptrs_stk (P : Nat → Nat) (os : List Int) {j k x : Nat} (h : j ≤ k) : ptrs (updB P k x) (stk os j) = ptrs P (stk os j) :=
  ptrs_upd fun b hb => by have := (stk_lt hb).1; omega
def ownV (P : Nat → Nat) (os : List Int) (j : Nat) : Value :=
  if opensB (opAt os j) then ptrV (P j) else if opAt os j = 12 ∨ opAt os j = 14 then (match (stk os j).getLast? with | some b => ptrV (P b) | none => .pointer none) else .pointer none
theorem ownV_upd (P : Nat → Nat) (os : List Int) {j k x : Nat} (h : j < k) : ownV (updB P k x) os j = ownV P os j := by
  unfold ownV
  rw [updB_ne _ _ (by omega)]
  split
  · rfl
  · split
    · cases hl : (stk os j).getLast? with
      | none => rfl
      | some b => simp only; rw [updB_ne]; have := (last_lt hl).1; omega
    · rfl
def ownL (P : Nat → Nat) (os : List Int) (k n : Nat) : List Value := (List.range k).map (ownV P os) ++ List.replicate (n - k) (.pointer none)
theorem fill_set {α : Type} (f : Nat → α) (z : α) {k n : Nat} (h : k < n) : ((List.range k).map f ++ List.replicate (n - k) z).set k (f k) = (List.range (k + 1)).map f ++ List.replicate (n - (k + 1)) z := by
  rw [List.set_append_right _ _ (by simp), List.range_succ, show n - k = (n - (k + 1)) + 1 from by omega, List.replicate_succ]
  simp
theorem fill_nil {α : Type} (f : Nat → α) (z : α) {k n : Nat} (h : k < n) (hz : f k = z) : (List.range k).map f ++ List.replicate (n - k) z = (List.range (k + 1)).map f ++ List.replicate (n - (k + 1)) z := by
  rw [List.range_succ, show n - k = (n - (k + 1)) + 1 from by omega, List.replicate_succ]
  simp [hz]
theorem ownL_set (P : Nat → Nat) (os : List Int) {k n : Nat} {v : Value} (h : k < n) (hv : v = ownV P os k) : (ownL P os k n).set k v = ownL P os (k + 1) n := by
  subst hv; exact fill_set _ _ h
theorem ownL_nil (P : Nat → Nat) (os : List Int) {k n : Nat} (h : k < n) (hv : ownV P os k = .pointer none) : ownL P os k n = ownL P os (k + 1) n := fill_nil _ _ h hv
theorem ownL_upd (P : Nat → Nat) (os : List Int) (k n x : Nat) : ownL (updB P k x) os k n = ownL P os k n := by
  unfold ownL
  congr 1
  exact List.map_congr_left fun j hj => ownV_upd P os (List.mem_range.1 hj)
def rowVal (os : List Int) (Rw : Nat → Nat × Nat) (j : Nat) : Value := .slice (some ⟨(Rw j).1, 0, none⟩) (stk os j).length (Rw j).2
def rowL (os : List Int) (Rw : Nat → Nat × Nat) (k n : Nat) : List Value := (List.range k).map (rowVal os Rw) ++ List.replicate (n - k) (.slice none 0 0)
theorem rowL_set (os : List Int) (Rw : Nat → Nat × Nat) {k n r c : Nat} (h : k < n) : (rowL os Rw k n).set k (.slice (some ⟨r, 0, none⟩) (stk os k).length c) = rowL os (updB Rw k (r, c)) (k + 1) n := by
  have h1 : rowVal os (updB Rw k (r, c)) k = .slice (some ⟨r, 0, none⟩) (stk os k).length c := by unfold rowVal; rw [updB_same]
  have h2 : rowL os Rw k n = (List.range k).map (rowVal os (updB Rw k (r, c))) ++ List.replicate (n - k) (.slice none 0 0) := by
    unfold rowL
    congr 1
    exact List.map_congr_left fun j hj => by
      unfold rowVal
      rw [updB_ne]; have := List.mem_range.1 hj; omega
  rw [h2, ← h1]
  exact fill_set _ _ h

structure BlkInv (w : World) (os : List Int) (n kr k base R O : Nat) (P : Nat → Nat) (Rw : Nat → Nat × Nat) (S : Value) : Prop where
  hR : w.ownsRow base 98 1 (.slice (some ⟨R, 0, none⟩) n n) n (rowL os Rw kr n)
  hO : w.ownsRow base 101 1 (.slice (some ⟨O, 0, none⟩) n n) n (ownL P os k n)
  hS : w.ownsRow base 101 1 S (stk os k).length (ptrs P (stk os k))
  hSO : S.ownBlock ≠ some O
  hP : ∀ b, b < k → opensB (opAt os b) = true → base ≤ P b ∧ w.heap[P b]? = some (.cells #[.int .i64 b, .int .i64 (oth os b k), .int .i64 (endOf os b k)] 103 (0, 0))
  hPi : ∀ a b, a < k → b < k → opensB (opAt os a) = true → opensB (opAt os b) = true → P a = P b → a = b
  hW : ∀ j, j < kr → w.ownsRow base 101 1 (rowVal os Rw j) (stk os j).length (ptrs P (stk os j))
  hWO : ∀ j, j < kr → (Rw j).1 ≠ O
  hWS : ∀ j, j < kr → S.ownBlock ≠ some (Rw j).1
section
variable {w w' : World} {os : List Int} {n kr k base R O : Nat} {P : Nat → Nat} {Rw : Nat → Nat × Nat} {S : Value}
theorem BlkInv.below (h : BlkInv w os n kr k base R O P Rw S) (hb : Below w.heap.size w w') : BlkInv w' os n kr k base R O P Rw S :=
  ⟨own_below h.hR hb, own_below h.hO hb, own_below h.hS hb, h.hSO, fun b h1 h2 => ⟨(h.hP b h1 h2).1, (hb.block _ (Array.getElem?_eq_some_iff.1 (h.hP b h1 h2).2).1).trans (h.hP b h1 h2).2⟩, h.hPi, fun j hj => own_below (h.hW j hj) hb, h.hWO, h.hWS⟩
/-- a new row is laid around the place. -/
theorem BlkInv.row (h : BlkInv w os n k k base R O P Rw S) (hk : k < n) {r c : Nat} (hr : w.ownsRow base 101 1 (.slice (some ⟨r, 0, none⟩) (stk os k).length c) (stk os k).length (ptrs P (stk os k))) (hrO : r ≠ O) (hrS : S.ownBlock ≠ some r) :
    BlkInv (w.setCell ⟨R, k, none⟩ (.slice (some ⟨r, 0, none⟩) (stk os k).length c)) os n (k + 1) k base R O P (updB Rw k (r, c)) S := by
  have hg := grown_setCell w R k (.slice (some ⟨r, 0, none⟩) (stk os k).length c)
  have hlen := h.hR.1
  have keep : ∀ {v : Value} {m : Nat} {xs : List Value}, w.ownsRow base 101 1 v m xs → (w.setCell ⟨R, k, none⟩ (.slice (some ⟨r, 0, none⟩) (stk os k).length c)).ownsRow base 101 1 v m xs := fun hv =>
    own_grown' hv hg (fun g e1 e2 => own_types3 hv h.hR (by decide) e1 (by simpa [Value.ownBlock] using e2))
  refine ⟨?_, keep h.hO, keep h.hS, h.hSO, fun b h1 h2 => ⟨(h.hP b h1 h2).1, ?_⟩, h.hPi, fun j hj => ?_, fun j hj => ?_, fun j hj => ?_⟩
  · rw [← rowL_set os Rw hk]
    exact (h.hR.stored k _).1
  · have h3 := (h.hP b h1 h2).2
    rw [hg.block _ (Array.getElem?_eq_some_iff.1 h3).1 (fun e => own_ne_heap3 h.hR h3 (by decide) (by simpa [Value.ownBlock] using e.symm))]
    exact h3
  · by_cases e : j = k
    · subst e
      unfold rowVal
      rw [updB_same]
      exact keep hr
    · unfold rowVal
      rw [updB_ne _ _ e]
      exact keep (h.hW j (by omega))
  · by_cases e : j = k
    · subst e; rw [updB_same]; exact hrO
    · rw [updB_ne _ _ e]; exact h.hWO j (by omega)
  · by_cases e : j = k
    · subst e; rw [updB_same]; exact hrS
    · rw [updB_ne _ _ e]; exact h.hWS j (by omega)
/-- an instruction that is none of a block. -/
theorem BlkInv.other (h : BlkInv w os n (k + 1) k base R O P Rw S) (hk : k < n) (ho : opensB (opAt os k) = false) (h12 : opAt os k ≠ 12) (h14 : opAt os k ≠ 14) : BlkInv w os n (k + 1) (k + 1) base R O P Rw S := by
  have hs : stk os (k + 1) = stk os k := by rw [stk_s, if_neg (by rw [ho]; decide), if_neg h14]
  have h1 : ∀ b, oth os b (k + 1) = oth os b k := fun b => by rw [oth_s, if_neg (fun e => h12 e.1)]
  have h2 : ∀ b, endOf os b (k + 1) = endOf os b k := fun b => by rw [end_s, if_neg (fun e => h14 e.1)]
  have hlt : ∀ b, b < k + 1 → opensB (opAt os b) = true → b < k := fun b hb hob => by
    have : b ≠ k := fun e => by subst e; rw [ho] at hob; cases hob
    omega
  refine ⟨h.hR, ?_, by rw [hs]; exact h.hS, h.hSO, fun b hb hob => ?_, fun a b ha hb hoa hob => h.hPi a b (hlt a ha hoa) (hlt b hb hob) hoa hob, h.hW, h.hWO, h.hWS⟩
  · rw [← ownL_nil P os hk (by unfold ownV; rw [if_neg (by rw [ho]; decide), if_neg (by simp [h12, h14])])]
    exact h.hO
  · rw [h1, h2]
    exact h.hP b (hlt b hb hob) hob
/-- where the top of the stack lies. -/
theorem BlkInv.top (h : BlkInv w os n kr k base R O P Rw S) {b : Nat} (hl : (stk os k).getLast? = some b) : ∃ g c m, S = .slice (some ⟨g, 0, none⟩) (m + 1) c ∧ (stk os k).length = m + 1 ∧ m + 1 ≤ c ∧ w.cell? ⟨g, m, none⟩ = some (ptrV (P b)) := by
  have hlen : (stk os k).length ≠ 0 := fun e => by rw [List.eq_nil_of_length_eq_zero e] at hl; simp at hl
  obtain ⟨m, hm⟩ : ∃ m, (stk os k).length = m + 1 := ⟨(stk os k).length - 1, by omega⟩
  obtain ⟨g, c, hS, _, _⟩ := h.hS.form (by omega)
  refine ⟨g, c, m, by rw [hS, hm], hm, ?_, ?_⟩
  · have := h.hS
    rw [hS] at this
    have := own_cap this
    omega
  · have h1 := h.hS
    rw [hS] at h1
    have h2 := h1.cellAt m (by omega)
    rw [h2]
    unfold ptrs
    rw [List.getElem?_map, show (stk os k)[m]? = some b from by rw [List.getLast?_eq_getElem?, hm] at hl; simpa using hl]
    rfl
theorem BlkInv.pne (h : BlkInv w os n kr k base R O P Rw S) {b : Nat} (hb : b < k) (ho : opensB (opAt os b) = true) : P b ≠ O ∧ P b ≠ R ∧ S.ownBlock ≠ some (P b) ∧ ∀ j, j < kr → (Rw j).1 ≠ P b := by
  have h3 := (h.hP b hb ho).2
  refine ⟨fun e => own_ne_heap3 h.hO h3 (by decide) (by simp [Value.ownBlock, e]), fun e => own_ne_heap3 h.hR h3 (by decide) (by simp [Value.ownBlock, e]), own_ne_heap3 h.hS h3 (by decide), fun j hj e => own_ne_heap3 (h.hW j hj) h3 (by decide) (by simp [Value.ownBlock, rowVal, e])⟩
/-- the top block is noted for the place, and one of its cells is written. -/
theorem BlkInv.note (h : BlkInv w os n (k + 1) k base R O P Rw S) (hk : k < n) {b : Nat} (hl : (stk os k).getLast? = some b) (u : Value) {x y : Value} (i : Nat)
    (hcs : (#[.int .i64 b, .int .i64 (oth os b k), .int .i64 (endOf os b k)] : Array Value).setIfInBounds i u = #[.int .i64 b, x, y])
    (hx : x = .int .i64 (oth os b (k + 1))) (hy : y = .int .i64 (endOf os b (k + 1)))
    (hoth : ∀ a, a ≠ b → oth os a (k + 1) = oth os a k ∧ endOf os a (k + 1) = endOf os a k) (hno : opensB (opAt os k) = false) (hop : opAt os k = 12 ∨ opAt os k = 14) {S' : Value}
    (hS' : ∀ X : World, X.ownsRow base 101 1 S (stk os k).length (ptrs P (stk os k)) → X.ownsRow base 101 1 S' (stk os (k + 1)).length (ptrs P (stk os (k + 1)))) (hSS : S'.ownBlock = S.ownBlock) :
    BlkInv ((w.setCell ⟨O, k, none⟩ (ptrV (P b))).setCell ⟨P b, i, none⟩ u) os n (k + 1) (k + 1) base R O P Rw S' := by
  have hbk := last_lt hl
  have hne := h.pne hbk.1 hbk.2
  have hg1 := grown_setCell w O k (ptrV (P b))
  have hg2 := grown_setCell (w.setCell ⟨O, k, none⟩ (ptrV (P b))) (P b) i u
  have hlt : ∀ b, b < k + 1 → opensB (opAt os b) = true → b < k := fun b hb hob => by
    have : b ≠ k := fun e => by subst e; rw [hno] at hob; cases hob
    omega
  have keep : ∀ {e : TypeId} {v : Value} {m : Nat} {xs : List Value}, w.ownsRow base e 1 v m xs → v.ownBlock ≠ some O → v.ownBlock ≠ some (P b) → ((w.setCell ⟨O, k, none⟩ (ptrV (P b))).setCell ⟨P b, i, none⟩ u).ownsRow base e 1 v m xs := fun hv h1 h2 =>
    own_grown' (own_grown' hv hg1 (fun g e1 e2 => h1 (by rw [e1, ← e2]))) hg2 (fun g e1 e2 => h2 (by rw [e1, ← e2]))
  refine ⟨keep h.hR (fun e => own_types3 h.hO h.hR (by decide) rfl e) (by simpa [Value.ownBlock] using fun e => hne.2.1 e.symm), ?_, hS' _ (keep h.hS h.hSO hne.2.2.1), by rw [hSS]; exact h.hSO, fun a ha hoa => ⟨(h.hP a (hlt a ha hoa) hoa).1, ?_⟩, fun a b' ha hb' hoa hob => h.hPi a b' (hlt a ha hoa) (hlt b' hb' hob) hoa hob, fun j hj => ?_, h.hWO, fun j hj => by rw [hSS]; exact h.hWS j hj⟩
  · rw [← ownL_set P os hk (v := ptrV (P b)) (by unfold ownV; rw [if_neg (by rw [hno]; decide), if_pos hop, hl])]
    exact own_grown' (h.hO.stored k _).1 hg2 (fun g e1 e2 => hne.1 (by have : O = g := by simpa [Value.ownBlock] using e1
                                                                       have e2 : P b = g := by simpa using e2
                                                                       omega))
  · have h3 := (h.hP a (hlt a ha hoa) hoa).2
    have h4 : (w.setCell ⟨O, k, none⟩ (ptrV (P b))).heap[P a]? = _ := (hg1.block _ (Array.getElem?_eq_some_iff.1 h3).1 (fun e => (h.pne (hlt a ha hoa) hoa).1 (by injection e))).trans h3
    by_cases e : a = b
    · subst e
      rw [heap_setCell_same _ _ _ _ _ _ h4, hcs, hx, hy]
    · rw [hg2.block _ (Array.getElem?_eq_some_iff.1 h4).1 (fun e2 => e (h.hPi a b (hlt a ha hoa) hbk.1 hoa hbk.2 (by injection e2))), h4, (hoth a e).1, (hoth a e).2]
  · exact keep (h.hW j hj) (by simp [rowVal, Value.ownBlock]; exact h.hWO j hj) (by simp [rowVal, Value.ownBlock]; exact hne.2.2.2 j hj)
/-- a new block is laid, and noted for the place. -/
theorem BlkInv.mid (h : BlkInv w os n (k + 1) k base R O P Rw S) (hk : k < n) {H : Nat} (hH : H = w.heap.size) {o : Obj} :
    ((w.alloc o).setCell ⟨O, k, none⟩ (ptrV H)).ownsRow base 101 1 S (stk os k).length (ptrs P (stk os k)) ∧ ((w.alloc o).setCell ⟨O, k, none⟩ (ptrV H)).ownsRow base 101 1 (.slice (some ⟨O, 0, none⟩) n n) n ((ownL P os k n).set k (ptrV H)) ∧
    ((w.alloc o).setCell ⟨O, k, none⟩ (ptrV H)).cell? ⟨O, k, none⟩ = some (ptrV H) ∧ (w.alloc o).frozen? ⟨O, k, none⟩ = false ∧ (∃ u, (w.alloc o).cell? ⟨O, k, none⟩ = some u) := by
  have hO2 := (h.hO.alloc o)
  have hst := (hO2.stored k (ptrV H)).1
  have hlen : k < ((ownL P os k n).set k (ptrV H)).length := by rw [List.length_set, h.hO.1]; omega
  refine ⟨own_grown' (h.hS.alloc o) (grown_setCell _ O k (ptrV H)) (fun g e1 e2 => h.hSO (by rw [e1, e2])), hst, ?_, hO2.frozenAt k, ?_⟩
  · rw [hst.cellAt k (by omega)]
    simp only [List.getElem?_set]
    rw [if_pos trivial, if_pos (by rw [List.length_set] at hlen; exact hlen)]
  · refine ⟨_, (hO2.cellAt k (by omega)).trans (List.getElem?_eq_getElem (by rw [List.length_set] at hlen; exact hlen))⟩
theorem BlkInv.open (h : BlkInv w os n (k + 1) k base R O P Rw S) (hk : k < n) (ho : opensB (opAt os k) = true) {H : Nat} (hH : H = w.heap.size) {W w3 : World} (hbase : base ≤ w.heap.size)
    (hb : Below ((w.alloc (.cells #[.int .i64 k, .int .i64 (-1), .int .i64 (-1)] 103)).setCell ⟨O, k, none⟩ (ptrV H)).heap.size ((w.alloc (.cells #[.int .i64 k, .int .i64 (-1), .int .i64 (-1)] 103)).setCell ⟨O, k, none⟩ (ptrV H)) W) {g c m : Nat} (hm : (stk os k).length + 1 = m)
    (hown : w3.ownsRow base 101 1 (.slice (some ⟨g, 0, none⟩) m c) m (ptrs P (stk os k) ++ [ptrV H])) (hg : W.grownBy w3 S.ownBlock) (hat : S.ownBlock = some g ∨ W.heap.size ≤ g) :
    BlkInv w3 os n (k + 1) (k + 1) base R O (updB P k H) Rw (.slice (some ⟨g, 0, none⟩) m c) := by
  have hs : stk os (k + 1) = stk os k ++ [k] := by rw [stk_s, if_pos ho]
  have h12 : opAt os k ≠ 12 := fun e => by rw [e] at ho; exact absurd ho (by decide)
  have h14 : opAt os k ≠ 14 := fun e => by rw [e] at ho; exact absurd ho (by decide)
  have h1 : ∀ b, oth os b (k + 1) = oth os b k := fun b => by rw [oth_s, if_neg (fun e => h12 e.1)]
  have h2 : ∀ b, endOf os b (k + 1) = endOf os b k := fun b => by rw [end_s, if_neg (fun e => h14 e.1)]
  obtain ⟨m1, m2, _⟩ := h.mid hk hH (o := .cells #[.int .i64 k, .int .i64 (-1), .int .i64 (-1)] 103)
  have hal : Below w.heap.size w (w.alloc (.cells #[.int .i64 k, .int .i64 (-1), .int .i64 (-1)] 103)) := (Below.refl _ _).alloc (Nat.le_refl _) _
  have h' := h.below hal
  have hOlt : O < w.heap.size := (h.hO.lt O rfl).2
  have hg1 := grown_setCell (w.alloc (.cells #[.int .i64 k, .int .i64 (-1), .int .i64 (-1)] 103)) O k (ptrV H)
  have hnew : ((w.alloc (.cells #[.int .i64 k, .int .i64 (-1), .int .i64 (-1)] 103)).setCell ⟨O, k, none⟩ (ptrV H)).heap[H]? = some (.cells #[.int .i64 k, .int .i64 (-1), .int .i64 (-1)] 103 (0, 0)) := by
    rw [hg1.block H (by rw [hH]; simp) (fun e => by injection e with e; omega), hH]
    exact heap_alloc_new _ _
  have hsz : w.heap.size + 1 ≤ W.heap.size := by have := hb.size; have := hg1.size; simp at *; omega
  have mS := own_below m1 hb
  have mO := own_below m2 hb
  have hl2 : ((ownL P os k n).set k (ptrV H)) = ownL (updB P k H) os (k + 1) n := by
    rw [← ownL_upd P os k n H, ownL_set _ _ hk]
    unfold ownV
    rw [if_pos ho, updB_same]
  have keep : ∀ {e : TypeId} {v : Value} {x : Nat} {xs : List Value}, w.ownsRow base e 1 v x xs → v.ownBlock ≠ some O → (∀ g, v.ownBlock = some g → S.ownBlock ≠ some g) → w3.ownsRow base e 1 v x xs := fun hv h1 h2 =>
    own_grown' (own_below (own_grown' (own_below hv hal) hg1 (fun g e1 e2 => h1 (by rw [e1, ← e2]))) hb) hg (fun g e1 e2 => h2 g e1 e2)
  have keepB : ∀ a cs, a ≠ O → S.ownBlock ≠ some a → w.heap[a]? = some cs → w3.heap[a]? = some cs := fun a cs h1 h2 h3 => by
    have hlt := (Array.getElem?_eq_some_iff.1 h3).1
    have h4 := (hal.block a hlt).trans h3
    have h5 := (hg1.block a (by simp; omega) (fun e => h1 (by injection e))).trans h4
    have h6 := (hb.block a (by have := hg1.size; simp at *; omega)).trans h5
    exact (hg.block a (by omega) (fun e => h2 e.symm)).trans h6
  refine ⟨keep h.hR (fun e => own_types3 h.hO h.hR (by decide) rfl e) (fun g e1 e2 => own_types3 h.hS h.hR (by decide) e2 e1), ?_, ?_, ?_, fun b hbk hob => ?_, fun a b ha hbk hoa hob e => ?_, fun j hj => ?_, h.hWO, fun j hj => ?_⟩
  · rw [← hl2]
    exact own_grown' mO hg (fun g e1 e2 => h.hSO (by rw [e2, ← e1]; rfl))
  · rw [hs, List.length_append, List.length_singleton, hm]
    have : ptrs (updB P k H) (stk os k ++ [k]) = ptrs P (stk os k) ++ [ptrV H] := by
      have := ptrs_stk P os (j := k) (k := k) (x := H) (Nat.le_refl _)
      unfold ptrs at *
      rw [List.map_append, this]
      simp [updB_same]
    rw [this]
    exact hown
  · intro e
    have e : g = O := by simpa [Value.ownBlock] using e
    rcases hat with hat | hat
    · exact h.hSO (by rw [hat, e])
    · omega
  · rw [h1, h2]
    by_cases e : b = k
    · subst e
      rw [updB_same, oth_new (by omega), end_new (by omega)]
      refine ⟨by omega, ?_⟩
      have h6 := (hb.block H (Array.getElem?_eq_some_iff.1 hnew).1).trans hnew
      exact (hg.block H (by omega) (fun e2 => by have := (h.hS.lt H e2.symm).2; omega)).trans h6
    · rw [updB_ne _ _ e]
      have hP := h.hP b (by omega) hob
      have hne := h.pne (b := b) (by omega) hob
      exact ⟨hP.1, keepB _ _ hne.1 hne.2.2.1 hP.2⟩
  · have hlt : ∀ b, b < k → opensB (opAt os b) = true → P b < w.heap.size := fun b hb hob => (Array.getElem?_eq_some_iff.1 (h.hP b hb hob).2).1
    by_cases ea : a = k
    · by_cases eb : b = k
      · omega
      · subst ea
        rw [updB_same, updB_ne _ _ eb] at e
        have := hlt b (by omega) hob
        omega
    · by_cases eb : b = k
      · subst eb
        rw [updB_same, updB_ne _ _ ea] at e
        have := hlt a (by omega) hoa
        omega
      · rw [updB_ne _ _ ea, updB_ne _ _ eb] at e
        exact h.hPi a b (by omega) (by omega) hoa hob e
  · rw [ptrs_stk P os (by omega)]
    refine keep (h.hW j hj) (by simp [rowVal, Value.ownBlock]; exact h.hWO j hj) (fun g e1 e2 => h.hWS j hj (by rw [e2]; simpa [rowVal, Value.ownBlock] using e1.symm))
  · intro e
    have e : g = (Rw j).1 := by simpa [Value.ownBlock] using e
    rcases hat with hat | hat
    · exact h.hWS j hj (by rw [hat, e])
    · have := ((h.hW j hj).lt (Rw j).1 (by simp [rowVal, Value.ownBlock])).2
      omega
theorem BlkInv.else_ (h : BlkInv w os n (k + 1) k base R O P Rw S) (hk : k < n) {b : Nat} (hl : (stk os k).getLast? = some b) (h12 : opAt os k = 12) :
    BlkInv ((w.setCell ⟨O, k, none⟩ (ptrV (P b))).setCell ⟨P b, 1, none⟩ (.int .i64 k)) os n (k + 1) (k + 1) base R O P Rw S := by
  have hs : stk os (k + 1) = stk os k := by rw [stk_s, if_neg (by rw [h12]; decide), if_neg (by rw [h12]; decide)]
  refine h.note hk hl _ (x := .int .i64 k) (y := .int .i64 (endOf os b k)) 1 (by simp) (by rw [oth_s, if_pos ⟨h12, hl⟩]) (by rw [end_s, if_neg (by rw [h12]; exact fun e => absurd e.1 (by decide))]) (fun a ha => ⟨?_, ?_⟩) (by rw [h12]; decide) (.inl h12) (fun X hX => by rw [hs]; exact hX) rfl
  · rw [oth_s, if_neg (fun e => ha (by have := e.2; rw [hl] at this; injection this with this; exact this.symm))]
  · rw [end_s, if_neg (by rw [h12]; exact fun e => absurd e.1 (by decide))]
theorem BlkInv.end_ {g c m : Nat} (h : BlkInv w os n (k + 1) k base R O P Rw (.slice (some ⟨g, 0, none⟩) (m + 1) c)) (hk : k < n) (hm : (stk os k).length = m + 1) {b : Nat} (hl : (stk os k).getLast? = some b) (h14 : opAt os k = 14) :
    BlkInv ((w.setCell ⟨O, k, none⟩ (ptrV (P b))).setCell ⟨P b, 2, none⟩ (.int .i64 k)) os n (k + 1) (k + 1) base R O P Rw (.slice (some ⟨g, 0, none⟩) m c) := by
  have hs : stk os (k + 1) = (stk os k).dropLast := by rw [stk_s, if_neg (by rw [h14]; decide), if_pos h14]
  refine h.note hk hl _ (x := .int .i64 (oth os b k)) (y := .int .i64 k) 2 (by simp) (by rw [oth_s, if_neg (by rw [h14]; exact fun e => absurd e.1 (by decide))]) (by rw [end_s, if_pos ⟨h14, hl⟩]) (fun a ha => ⟨?_, ?_⟩) (by rw [h14]; decide) (.inr h14) (fun X hX => ?_) rfl
  · rw [oth_s, if_neg (by rw [h14]; exact fun e => absurd e.1 (by decide))]
  · rw [end_s, if_neg (fun e => ha (by have := e.2; rw [hl] at this; injection this with this; exact this.symm))]
  · rw [hs, List.length_dropLast, hm]
    have hd := drop_last hl
    have h1 : ptrs P (stk os k) = ptrs P (stk os k).dropLast ++ [ptrV (P b)] := by
      unfold ptrs
      conv => lhs; rw [hd]
      simp
    rw [h1, hm] at hX
    exact ownsRow_pop (by rw [ptrs_len, List.length_dropLast, hm]; omega) hX
theorem newCellsAt3 (w : World) (us : List Value) (e : TypeId) {B : Nat} (hB : B = w.heap.size) : ∀ j x, us[j]? = some x → (w.alloc (.cells us.toArray e)).cell? ((⟨B, 0, none⟩ : Addr).add j) = some x := by
  subst hB; exact newCells w us e
theorem setCell_size (w : World) (p : Addr) (u : Value) : (w.setCell p u).heap.size = w.heap.size := by simp [World.setCell]
/-- what the walk asks at a place that divides or closes a block. -/
theorem BlkInv.facts {g c m : Nat} (h : BlkInv w os n (k + 1) k base R O P Rw (.slice (some ⟨g, 0, none⟩) (m + 1) c)) (hk : k < n) (hm : (stk os k).length = m + 1) {b : Nat} (hl : (stk os k).getLast? = some b) :
    (w.cell? ⟨g, m, none⟩ = some (ptrV (P b)) ∧ w.cell? ⟨P b, 0, none⟩ = some (.int .i64 b) ∧ w.cell? ⟨P b, 1, none⟩ = some (.int .i64 (oth os b k)) ∧ (∃ u, w.cell? ⟨O, k, none⟩ = some u) ∧ w.frozen? ⟨O, k, none⟩ = false) ∧
    ((w.setCell ⟨O, k, none⟩ (ptrV (P b))).cell? ⟨g, m, none⟩ = some (ptrV (P b)) ∧ (w.setCell ⟨O, k, none⟩ (ptrV (P b))).cell? ⟨P b, 1, none⟩ = some (.int .i64 (oth os b k)) ∧ (w.setCell ⟨O, k, none⟩ (ptrV (P b))).cell? ⟨P b, 2, none⟩ = some (.int .i64 (endOf os b k)) ∧
      (w.setCell ⟨O, k, none⟩ (ptrV (P b))).frozen? ⟨P b, 1, none⟩ = false ∧ (w.setCell ⟨O, k, none⟩ (ptrV (P b))).frozen? ⟨P b, 2, none⟩ = false) := by
  have hbk := last_lt hl
  have hne := h.pne hbk.1 hbk.2
  obtain ⟨g', c', m', hS, hm', _, hcell⟩ := h.top hl
  injection hS with h1 h2 h3
  injection h1 with h1
  injection h1 with h1
  have hmm : m = m' := by omega
  subst h1 hmm
  have hP := (h.hP b hbk.1 hbk.2).2
  obtain ⟨⟨t0, t1, t2⟩, f0, f1, f2⟩ := box3 hP
  have hg := grown_setCell w O k (ptrV (P b))
  have hP' : (w.setCell ⟨O, k, none⟩ (ptrV (P b))).heap[P b]? = _ := (hg.block _ (Array.getElem?_eq_some_iff.1 hP).1 (fun e => hne.1 (by injection e))).trans hP
  obtain ⟨⟨q0, q1, q2⟩, r0, r1, r2⟩ := box3 hP'
  refine ⟨⟨hcell, t0, t1, ⟨_, (h.hO.cellAt k (by omega)).trans (List.getElem?_eq_getElem (by rw [h.hO.1]; omega))⟩, h.hO.frozenAt k⟩, ?_, q1, q2, r1, r2⟩
  exact hg.cell hcell (fun e => h.hSO (by simp [Value.ownBlock]; injection e))
end
/-! ### append onto an empty literal: a copy -/
theorem run_app_none {P : Program} {w : World} {t ty e : TypeId} {i : TypeInfo} (ht : P.underlying t = some (.slice e)) (hi : P.info? e = some i) (g : Nat) :
    (Builtin.append_ #[t, t] ty #[.slice (some ⟨g, 0, none⟩) 0 0, .slice none 0 0]).run P w = .ok (.slice (some ⟨g, 0, none⟩) 0 0) w := by
  simp [Builtin.append_, run_underlying ht, sizeOf, typeInfo, hi, Builtin.lenOf, Builtin.firstCells, storeCells]
theorem wpList_copy {P : Program} {w : World} {ops : Array Oper} {rest : List Oper} {o : Oper} {a : Act} {Q : Exit → Act → World → Prop} {t e : TypeId} {z : Value} {size bytes : Nat} (I : ElemI P t e z size bytes)
    {base base' g0 m : Nat} {xs : List Value} {S : Value} (hown : w.ownsRow base e size (.slice (some ⟨g0, 0, none⟩) 0 0) 0 []) (hS : w.ownsRow base' e size S m xs) (h1 : ∀ u ∈ xs, u.oneCell' = true)
    (hbytes : m * bytes ≤ 140737488355328) (h63 : m ≤ 9223372036854775807) (hbase : base ≤ w.heap.size)
    {s x : Operand} (hgd : o.guard = none) (ho : o.op = .call { callee := .builtin .append, args := #[s, x], argTypes := #[t, t] }) (hs : a.eval s = .slice (some ⟨g0, 0, none⟩) 0 0) (hx : a.eval x = S)
    (h : ∀ r c' w', w'.ownsRow base e size (.slice (some ⟨r, 0, none⟩) m c') m xs → w.grownBy w' (some g0) → (r = g0 ∨ r = w.heap.size) → wpList P ops Q rest (a.put o.dst (.slice (some ⟨r, 0, none⟩) m c')) w') : wpList P ops Q (o :: rest) a w := by
  obtain ⟨i, hi, hz0, hz1, hz2⟩ := info_parts I.hi
  have hl := hS.1
  rcases hS.2 with ⟨rfl, rfl⟩ | ⟨g, c, cur, rfl, h3⟩
  · have hxs : xs = [] := List.eq_nil_of_length_eq_zero (by simpa using hl)
    subst hxs
    refine wpList_plain hgd fun K hK => ?_
    unfold Oper.wp execOp
    simp only [ho, resolve, invoke, builtin, Sem.run_bind, Sem.run_pure, Result.andThen_ok, List.map_toArray, List.map_cons, List.map_nil, hs, hx, run_app_none I.ht hi]
    exact hK _ _ (h g0 0 w hown (World.grownBy.refl _ _) (.inl rfl))
  · refine wpList_append_own_at w hgd s x t ho base e i z size bytes I.ht hi hz0 hz1 hz2 I.hz I.hs _ 0 [] hs hown _ m c xs hx hl (hS.cells rfl) h1 (by simp only [maxLen]; omega) (by rw [Nat.zero_add]; exact hbytes) hbase ?_
    intro v' w' hown' hg hnil hat
    rw [Nat.zero_add, List.nil_append] at hown'
    obtain ⟨r, c', rfl⟩ := own_some hown' (fun e => by have := hnil.1 e; simp at this)
    refine h r c' w' hown' hg ?_
    rcases hat with hat | hat
    · left; simpa [Value.ownBlock] using hat
    · right; simpa [Value.ownBlock] using hat
theorem nilPtrs (n : Nat) : (madeCells (Value.pointer none).cells (n * 1)).toList = List.replicate n (.pointer none) := by
  apply List.ext_getElem?
  intro i
  by_cases h : i < n
  · simp [madeCells, h, Value.cells, Nat.mod_one]
  · rw [List.getElem?_eq_none (by simp [madeCells]; omega), List.getElem?_eq_none (by simp; omega)]
theorem nilRows (n : Nat) : (madeCells (Value.slice none 0 0).cells (n * 1)).toList = List.replicate n (.slice none 0 0) := by
  apply List.ext_getElem?
  intro i
  by_cases h : i < n
  · simp [madeCells, h, Value.cells, Nat.mod_one]
  · rw [List.getElem?_eq_none (by simp [madeCells]; omega), List.getElem?_eq_none (by simp; omega)]
end Go.Proofs.Ytjmiilneennjaaa
