/-
  Parts of a proof: PlainStep, PlainStep2, PlainStep3, CWord.
-/
import Derived.Test.YtjmiilneennjaaaPart03
import Derived.Test.YtjmiilneennjaaaPart06
import Derived.Test.YtjmiilneennjaaaPart02
namespace Go.Proofs.Ytjmiilneennjaaa
set_option maxHeartbeats 1000000
set_option linter.unusedVariables false

/-! ### what a step makes -/
/-- the value of a register. -/
def rg (rs : List Int) (r : Int) : Int := rs.getD r.toNat 0
/-- the cell that a value names. -/
def cellOf (z : Int) (mem : List Int) : Nat := (z % (mem.length : Int)).toNat
/-- what an instruction that computes, loads or stores makes of the registers and the memory. -/
def comp (x : Cd) (id : Int) (rs mem : List Int) : List Int × List Int :=
  if x.op = 1 then (rs.set x.a.toNat x.b, mem)
  else if x.op = 2 then (rs.set x.a.toNat id, mem)
  else if x.op = 3 then (rs.set x.a.toNat ((rg rs x.a + rg rs x.b) % 256), mem)
  else if x.op = 4 then (rs.set x.a.toNat ((rg rs x.a * rg rs x.b) % 256), mem)
  else if x.op = 5 then (rs.set x.a.toNat (rg rs x.b), mem)
  else if x.op = 6 then (rs.set x.a.toNat (if rg rs x.b < rg rs x.c then 1 else 0), mem)
  else if x.op = 7 then (if rg rs x.c = 0 then rs else rs.set x.a.toNat (rg rs x.b), mem)
  else if x.op = 8 then (rs.set x.a.toNat (mem.getD (cellOf (rg rs x.b) mem) 0), mem)
  else if x.op = 9 then (rs, mem.set (cellOf (rg rs x.b) mem) (rg rs x.a))
  else (rs, mem)
def cdNil : Cd := ⟨0, 0, 0, 0⟩
def codeAt (xs : List Cd) (k : Nat) : Cd := xs.getD k cdNil
theorem codeAt_at {xs : List Cd} {k : Nat} (h : k < xs.length) : codeAt xs k = xs[k] := by
  unfold codeAt; rw [List.getD, List.getElem?_eq_getElem h]; rfl
theorem codeAt_op {xs : List Cd} {k : Nat} (h : k < xs.length) : opAt (ops xs) k = (codeAt xs k).op := by rw [codeAt_at h, ops_at h]
def endAt (xs : List Cd) (b : Nat) : Int := endOf (ops xs) b (ops xs).length
def topAt (xs : List Cd) (k : Nat) : Nat := (topOf (ops xs) k).toNat
/-- what the instruction x at place k makes of a lane and a memory. -/
def doStep (xs : List Cd) (id : Int) (k : Nat) (x : Cd) (s : LS) (mem : List Int) : LS × List Int :=
  if x.op = 11 then (if rg s.regs x.a = 0 then ⟨s.regs, forkTo (ops xs) k, s.turns, s.wait⟩ else ⟨s.regs, (k : Int) + 1, s.turns, s.wait⟩, mem)
  else if x.op = 12 then (⟨s.regs, endAt xs (topAt xs k) + 1, s.turns, s.wait⟩, mem)
  else if x.op = 13 then (if rg s.regs x.a = 0 then ⟨s.regs, endAt xs k + 1, s.turns, s.wait⟩ else ⟨s.regs, (k : Int) + 1, s.turns ++ [x.b - 1], s.wait⟩, mem)
  else if x.op = 14 then
    (if (codeAt xs (topAt xs k)).op = 13 then
      (if rg s.regs (codeAt xs (topAt xs k)).a ≠ 0 ∧ 0 < s.turns.getLastD 0 then ⟨s.regs, (topAt xs k : Int) + 1, s.turns.dropLast ++ [s.turns.getLastD 0 - 1], s.wait⟩
       else ⟨s.regs, (k : Int) + 1, s.turns.dropLast, s.wait⟩)
     else ⟨s.regs, (k : Int) + 1, s.turns, s.wait⟩, mem)
  else (⟨(comp x id s.regs mem).1, (k : Int) + 1, s.turns, x.op == 10⟩, (comp x id s.regs mem).2)
/-- a lane that waits or is at the end stays as it is. -/
def goesB (n : Nat) (s : LS) : Bool := !s.wait && !(s.pc == n)
def stepS (xs : List Cd) (id : Int) (s : LS) (mem : List Int) : LS × List Int :=
  if goesB xs.length s then doStep xs id s.pc.toNat (codeAt xs s.pc.toNat) s mem else (s, mem)
/-! ### valid lanes -/
def loopsAt (xs : List Cd) (k : Nat) : List Nat := (stk (ops xs) k).filter fun b => opAt (ops xs) b == 13
def loopBs (xs : List Cd) (k : Nat) : List Int := (loopsAt xs k).map fun b => (codeAt xs b).b
def turnsOk (bs ts : List Int) : Bool := bs.length == ts.length && (List.range ts.length).all fun i => inB (ts.getD i 0) 0 (bs.getD i 0 - 1)
def waitOk (xs : List Cd) (s : LS) : Bool := !s.wait || (decide (0 < s.pc) && (codeAt xs (s.pc - 1).toNat).op == 10)
def laneOk (xs : List Cd) (s : LS) : Bool := inB s.pc 0 xs.length && s.regs.length == 4 && s.regs.all (fun z => inB z 0 255) && waitOk xs s && turnsOk (loopBs xs s.pc.toNat) s.turns
def laneValid (xs : List Cd) (s : LS) : Bool := progValid xs && laneOk xs s
structure LaneOk (xs : List Cd) (s : LS) : Prop where
  pc : 0 ≤ s.pc ∧ s.pc ≤ xs.length
  regs : s.regs.length = 4
  words : ∀ z ∈ s.regs, 0 ≤ z ∧ z ≤ 255
  wait : s.wait = true → 0 < s.pc ∧ (codeAt xs (s.pc - 1).toNat).op = 10
  len : (loopsAt xs s.pc.toNat).length = s.turns.length
  turns : ∀ i (h : i < s.turns.length) (h2 : i < (loopsAt xs s.pc.toNat).length), 0 ≤ s.turns[i] ∧ s.turns[i] ≤ (codeAt xs (loopsAt xs s.pc.toNat)[i]).b - 1
theorem laneOk_iff {xs : List Cd} {s : LS} : laneOk xs s = true ↔ LaneOk xs s := by
  constructor
  · intro h
    unfold laneOk at h
    simp only [Bool.and_eq_true, beq_iff_eq] at h
    obtain ⟨⟨⟨⟨h1, h2⟩, h3⟩, h4⟩, h5⟩ := h
    have h1 := inB_t h1
    unfold turnsOk at h5
    rw [Bool.and_eq_true, beq_iff_eq] at h5
    obtain ⟨h5, h6⟩ := h5
    refine ⟨h1, h2, fun z hz => inB_t (List.all_eq_true.1 h3 z hz), fun hw => ?_, by rw [← h5]; simp [loopBs], fun i hi hi2 => ?_⟩
    · unfold waitOk at h4
      rw [hw] at h4
      simp only [Bool.not_true, Bool.false_or, Bool.and_eq_true, decide_eq_true_eq, beq_iff_eq] at h4
      exact h4
    · have := inB_t (List.all_eq_true.1 h6 i (List.mem_range.2 hi))
      simp only [List.getD, List.getElem?_eq_getElem hi, Option.getD_some, loopBs, List.getElem?_map, List.getElem?_eq_getElem hi2, Option.map_some] at this
      exact this
  · intro h
    unfold laneOk
    simp only [Bool.and_eq_true, beq_iff_eq]
    refine ⟨⟨⟨⟨inB_of h.pc.1 h.pc.2, h.regs⟩, List.all_eq_true.2 fun z hz => inB_of (h.words z hz).1 (h.words z hz).2⟩, ?_⟩, ?_⟩
    · unfold waitOk
      cases hw : s.wait with
      | false => rfl
      | true =>
        have := h.wait hw
        rw [Bool.not_true, Bool.false_or, Bool.and_eq_true, decide_eq_true_eq, beq_iff_eq]
        exact this
    · unfold turnsOk
      rw [Bool.and_eq_true, beq_iff_eq]
      refine ⟨by simp [loopBs, h.len], List.all_eq_true.2 fun i hi => ?_⟩
      have hi := List.mem_range.1 hi
      have hi2 : i < (loopsAt xs s.pc.toNat).length := by rw [h.len]; exact hi
      have := h.turns i hi hi2
      simp only [List.getD, List.getElem?_eq_getElem hi, Option.getD_some, loopBs, List.getElem?_map, List.getElem?_eq_getElem hi2, Option.map_some]
      exact inB_of this.1 this.2
/-! ### the stack at the places to which a step leads -/
theorem stk_pre {os : List Int} {b : Nat} : ∀ k, b ∈ stk os k → ∃ t, stk os k = stk os b ++ b :: t := by
  intro k
  induction k with
  | zero => intro h; simp [stk] at h
  | succ k ih =>
    intro h
    rw [stk_s] at h ⊢
    split at h
    · rename_i ho
      rw [if_pos ho]
      rcases List.mem_append.1 h with h | h
      · obtain ⟨t, ht⟩ := ih h
        exact ⟨t ++ [k], by rw [ht]; simp⟩
      · rw [List.mem_singleton] at h
        subst h
        exact ⟨[], by simp⟩
    · rename_i ho
      rw [if_neg ho]
      split at h
      · rename_i h14
        rw [if_pos h14]
        obtain ⟨t, ht⟩ := ih (List.dropLast_subset _ h)
        cases t with
        | nil =>
          exfalso
          rw [ht] at h
          simp at h
          have := (stk_lt h).1
          omega
        | cons x t =>
          refine ⟨(x :: t).dropLast, ?_⟩
          rw [ht, List.dropLast_append_of_ne_nil (by simp)]
          rfl
      · rename_i h14
        rw [if_neg h14]
        exact ih h
theorem stk_top {os : List Int} {k b : Nat} (hl : (stk os k).getLast? = some b) : stk os k = stk os b ++ [b] := by
  obtain ⟨t, ht⟩ := stk_pre k (last_mem hl)
  cases t with
  | nil => exact ht
  | cons x t =>
    exfalso
    have h1 := drop_last hl
    have hn := nodup_last (stk_sorted os k) hl
    rw [ht, List.dropLast_append_of_ne_nil (by simp)] at hn
    apply hn
    simp [List.dropLast]
theorem end_is {os : List Int} {b : Nat} : ∀ n, 0 ≤ endOf os b n → opAt os (endOf os b n).toNat = 14 ∧ (stk os (endOf os b n).toNat).getLast? = some b ∧ endOf os b n < n := by
  intro n
  induction n with
  | zero => intro h; simp [endOf] at h
  | succ n ih =>
    intro h
    rw [end_s] at h ⊢
    split
    · rename_i hc
      rw [Int.toNat_natCast]
      exact ⟨hc.1, hc.2, by omega⟩
    · rename_i hc
      rw [if_neg hc] at h
      have := ih h
      exact ⟨this.1, this.2.1, by omega⟩
theorem oth_is {os : List Int} {b : Nat} : ∀ n, 0 ≤ oth os b n → opAt os (oth os b n).toNat = 12 ∧ (stk os (oth os b n).toNat).getLast? = some b ∧ oth os b n < n := by
  intro n
  induction n with
  | zero => intro h; simp [oth] at h
  | succ n ih =>
    intro h
    rw [oth_s] at h ⊢
    split
    · rename_i hc
      rw [Int.toNat_natCast]
      exact ⟨hc.1, hc.2, by omega⟩
    · rename_i hc
      rw [if_neg hc] at h
      have := ih h
      exact ⟨this.1, this.2.1, by omega⟩
/-- a block that is open has no end yet. -/
theorem endS_open {os : List Int} {b k : Nat} (h : b ∈ stk os k) : ∀ j, j ≤ k → ¬ 0 ≤ endOf os b j := by
  intro j hj h0
  induction j with
  | zero => simp [endOf] at h0
  | succ j ih =>
    rw [end_s] at h0
    split at h0
    · rename_i hc
      have hs : stk os (j + 1) = (stk os j).dropLast := by rw [stk_s, if_neg (by rw [hc.1]; decide), if_pos hc.1]
      have hn : b ∉ stk os (j + 1) := by rw [hs]; exact nodup_last (stk_sorted os j) hc.2
      have hbj := (last_lt hc.2).1
      have := (gone (by omega) hn (k - (j + 1))).1
      rw [show j + 1 + (k - (j + 1)) = k by omega] at this
      exact this h
    · exact ih (by omega) h0
/-- an end that lies ahead of a place is known there. -/
theorem endS_early {os : List Int} {b k n : Nat} (h : 0 ≤ endOf os b n) (hc : endOf os b n ≤ k) (hk : k < n) : 0 ≤ endOf os b (k + 1) := by
  induction n with
  | zero => omega
  | succ n ih =>
    by_cases e : k = n
    · subst e; exact h
    · rw [end_s] at h hc
      split at h
      · rename_i hh; rw [if_pos hh] at hc; omega
      · rename_i hh; rw [if_neg hh] at hc; exact ih h hc (by omega)
theorem stk_behind_end {os : List Int} {k b : Nat} (h14 : opAt os k = 14) (hl : (stk os k).getLast? = some b) : stk os (k + 1) = stk os b := by
  rw [stk_s, if_neg (by rw [h14]; decide), if_pos h14, stk_top hl]
  simp
theorem stk_behind_else {os : List Int} {k b : Nat} (h12 : opAt os k = 12) (hl : (stk os k).getLast? = some b) : stk os (k + 1) = stk os b ++ [b] := by
  rw [stk_s, if_neg (by rw [h12]; decide), if_neg (by rw [h12]; decide), stk_top hl]
section
variable {xs : List Cd}
theorem loops_of (k : Nat) {s : List Nat} (h : stk (ops xs) k = s) : loopsAt xs k = s.filter fun b => opAt (ops xs) b == 13 := by unfold loopsAt; rw [h]
theorem loops_same {j k : Nat} (h : stk (ops xs) j = stk (ops xs) k) : loopsAt xs j = loopsAt xs k := by unfold loopsAt; rw [h]
theorem loops_if {j b : Nat} (h : stk (ops xs) j = stk (ops xs) b ++ [b]) (hb : opAt (ops xs) b = 11) : loopsAt xs j = loopsAt xs b := by
  unfold loopsAt
  rw [h, List.filter_append]
  simp [hb]
theorem loops_loop {j b : Nat} (h : stk (ops xs) j = stk (ops xs) b ++ [b]) (hb : opAt (ops xs) b = 13) : loopsAt xs j = loopsAt xs b ++ [b] := by
  unfold loopsAt
  rw [h, List.filter_append]
  simp [hb]
theorem codeAt_valid (hv : progValid xs = true) {k : Nat} (h : k < xs.length) : codeValid (codeAt xs k) = true := by
  rw [codeAt_at h]
  exact (progValid_yes hv).2.1 _ (List.getElem_mem h)
/-- what is known of a place that opens a block. -/
theorem open_end (hv : progValid xs = true) {b : Nat} (hb : b < xs.length) (ho : opensB (opAt (ops xs) b) = true) :
    ∃ e : Nat, endAt xs b = e ∧ b < e ∧ e < xs.length ∧ opAt (ops xs) e = 14 ∧ (stk (ops xs) e).getLast? = some b := by
  have hbal := (progValid_yes hv).2.2
  have h1 := bal_end hbal ho (by rw [ops_len]; exact hb)
  have h0 : 0 ≤ endOf (ops xs) b (ops xs).length := by omega
  have h2 := end_is _ h0
  refine ⟨(endOf (ops xs) b (ops xs).length).toNat, ?_, ?_, ?_, h2.1, h2.2.1⟩
  · unfold endAt; omega
  · omega
  · have := h1.2; rw [ops_len] at this; rw [ops_len]; omega
theorem top_is (hv : progValid xs = true) {k : Nat} (hk : k < xs.length) (hop : opAt (ops xs) k = 12 ∨ opAt (ops xs) k = 14) :
    ∃ b : Nat, topAt xs k = b ∧ (stk (ops xs) k).getLast? = some b ∧ b < k ∧ opensB (opAt (ops xs) b) = true ∧ endAt xs b ≥ k := by
  have hbal := (progValid_yes hv).2.2
  obtain ⟨b, hl⟩ := bal_top hbal (by rw [ops_len]; exact hk) hop
  have h1 := last_lt hl
  refine ⟨b, by unfold topAt; rw [topOf_some hl]; simp, hl, h1.1, h1.2, ?_⟩
  obtain ⟨e, h2, h3, h4, h5, h6⟩ := open_end hv (b := b) (by omega) h1.2
  rw [h2]
  rcases Nat.lt_or_ge e k with h7 | h7
  · exfalso
    have := endS_early (os := ops xs) (b := b) (k := k - 1) (n := xs.length) (by unfold endAt at h2; rw [ops_len] at h2; omega) (by unfold endAt at h2; rw [ops_len] at h2; omega) (by omega)
    rw [show k - 1 + 1 = k from by omega] at this
    exact endS_open (last_mem hl) k (Nat.le_refl _) this
  · omega
end
end Go.Proofs.Ytjmiilneennjaaa

namespace Go.Proofs.Ytjmiilneennjaaa
set_option maxHeartbeats 1000000
set_option linter.unusedVariables false

theorem memValid_parts {zs : List Int} : memValid zs = true ↔ (1 ≤ zs.length ∧ zs.length ≤ 32) ∧ ∀ z ∈ zs, 0 ≤ z ∧ z ≤ 255 := by
  unfold memValid
  rw [Bool.and_eq_true]
  constructor
  · rintro ⟨h1, h2⟩
    have := inB_t h1
    exact ⟨by omega, fun z hz => inB_t (List.all_eq_true.1 h2 z hz)⟩
  · rintro ⟨h1, h2⟩
    exact ⟨inB_of (by omega) (by omega), List.all_eq_true.2 fun z hz => inB_of (h2 z hz).1 (h2 z hz).2⟩
theorem mem_set_of {α : Type} {P : α → Prop} {l : List α} {i : Nat} {a : α} (h : ∀ z ∈ l, P z) (ha : P a) : ∀ z ∈ l.set i a, P z := fun z hz => by
  rcases List.mem_or_eq_of_mem_set hz with h1 | h1
  · exact h z h1
  · rw [h1]; exact ha
theorem rg_word {rs : List Int} (h4 : rs.length = 4) (h : ∀ z ∈ rs, 0 ≤ z ∧ z ≤ 255) {r : Int} (hr : 0 ≤ r ∧ r ≤ 3) : 0 ≤ rg rs r ∧ rg rs r ≤ 255 := by
  have hlt : r.toNat < rs.length := by omega
  unfold rg
  rw [List.getD, List.getElem?_eq_getElem hlt]
  exact h _ (List.getElem_mem hlt)
theorem cellOf_lt {z : Int} {mem : List Int} (hm : 1 ≤ mem.length) (hz : 0 ≤ z) : cellOf z mem < mem.length := by
  unfold cellOf
  have h1 := Int.emod_lt_of_pos z (show (0 : Int) < mem.length by omega)
  have h2 := Int.emod_nonneg z (show (mem.length : Int) ≠ 0 by omega)
  omega
/-- the numbers of a valid instruction. -/
theorem valid_nums {x : Cd} (hv : codeValid x = true) : (regs x.op ≥ 1 → 0 ≤ x.a ∧ x.a ≤ 3) ∧ (regs x.op ≥ 2 → 0 ≤ x.b ∧ x.b ≤ 3) ∧ (regs x.op ≥ 3 → 0 ≤ x.c ∧ x.c ≤ 3) ∧ (x.op = 1 → 0 ≤ x.b ∧ x.b ≤ 255) ∧ (x.op = 13 → 1 ≤ x.b ∧ x.b ≤ 4) ∧ 1 ≤ x.op ∧ x.op ≤ 14 := by
  unfold codeValid at hv
  simp only [Bool.and_eq_true] at hv
  obtain ⟨⟨⟨h0, h1⟩, h2⟩, h3⟩ := hv
  have h3 := inB_t h3
  refine ⟨fun h => ?_, fun h => ?_, fun h => ?_, fun h => ?_, fun h => ?_, h3⟩
  · unfold numOk at h0; rw [if_pos (by simp; omega)] at h0; exact inB_t h0
  · unfold numOk at h1; rw [if_pos (by simp; omega)] at h1; exact inB_t h1
  · unfold numOk at h2; rw [if_pos (by simp; omega)] at h2; exact inB_t h2
  · unfold numOk at h1
    rw [if_neg (by rw [h]; decide), if_pos ⟨rfl, h⟩] at h1; exact inB_t h1
  · unfold numOk at h1
    rw [if_neg (by rw [h]; decide), if_neg (by omega), if_pos ⟨rfl, h⟩] at h1; exact inB_t h1
theorem regs_num (op : Int) : (op = 1 → regs op = 1) ∧ (op = 2 → regs op = 1) ∧ (op = 3 → regs op = 2) ∧ (op = 4 → regs op = 2) ∧ (op = 5 → regs op = 2) ∧ (op = 6 → regs op = 3) ∧ (op = 7 → regs op = 3) ∧ (op = 8 → regs op = 2) ∧ (op = 9 → regs op = 2) ∧ (op = 11 → regs op = 1) ∧ (op = 13 → regs op = 1) := by
  refine ⟨?_, ?_, ?_, ?_, ?_, ?_, ?_, ?_, ?_, ?_, ?_⟩ <;> (rintro rfl; decide)
structure CompOk (rs mem rs' mem' : List Int) : Prop where
  len : rs'.length = 4
  words : ∀ z ∈ rs', 0 ≤ z ∧ z ≤ 255
  mlen : mem'.length = mem.length
  mwords : ∀ z ∈ mem', 0 ≤ z ∧ z ≤ 255
theorem comp_ok {x : Cd} (hv : codeValid x = true) {id : Int} (hid : 0 ≤ id ∧ id ≤ 7) {rs mem : List Int} (h4 : rs.length = 4) (hw : ∀ z ∈ rs, 0 ≤ z ∧ z ≤ 255) (hm : 1 ≤ mem.length) (hmw : ∀ z ∈ mem, 0 ≤ z ∧ z ≤ 255) :
    CompOk rs mem (comp x id rs mem).1 (comp x id rs mem).2 := by
  obtain ⟨v1, v2, v3, v4, v5, v6, v7⟩ := valid_nums hv
  obtain ⟨r1, r2, r3, r4, r5, r6, r7, r8, r9, _, _⟩ := regs_num x.op
  have keep : ∀ (rs' : List Int), rs'.length = 4 → (∀ z ∈ rs', 0 ≤ z ∧ z ≤ 255) → CompOk rs mem rs' mem := fun rs' h1 h2 => ⟨h1, h2, rfl, hmw⟩
  have put : ∀ {i : Nat} {z : Int}, 0 ≤ z ∧ z ≤ 255 → CompOk rs mem (rs.set i z) mem := fun hz => keep _ (by simp [h4]) (mem_set_of hw hz)
  unfold comp
  by_cases h1 : x.op = 1
  · rw [if_pos h1]; exact put (v4 h1)
  rw [if_neg h1]
  by_cases h2 : x.op = 2
  · rw [if_pos h2]; exact put (by omega)
  rw [if_neg h2]
  by_cases h3 : x.op = 3
  · rw [if_pos h3]; exact put (by omega)
  rw [if_neg h3]
  by_cases h4' : x.op = 4
  · rw [if_pos h4']; exact put (by omega)
  rw [if_neg h4']
  by_cases h5 : x.op = 5
  · rw [if_pos h5]; exact put (rg_word h4 hw (v2 (by rw [r5 h5]; decide)))
  rw [if_neg h5]
  by_cases h6 : x.op = 6
  · rw [if_pos h6]; exact put (by split <;> omega)
  rw [if_neg h6]
  by_cases h7 : x.op = 7
  · rw [if_pos h7]
    split
    · exact keep _ h4 hw
    · exact put (rg_word h4 hw (v2 (by rw [r7 h7]; decide)))
  rw [if_neg h7]
  by_cases h8 : x.op = 8
  · rw [if_pos h8]
    have hlt := cellOf_lt (z := rg rs x.b) hm (rg_word h4 hw (v2 (by rw [r8 h8]; decide))).1
    refine put ?_
    rw [List.getD, List.getElem?_eq_getElem hlt]
    exact hmw _ (List.getElem_mem hlt)
  rw [if_neg h8]
  by_cases h9 : x.op = 9
  · rw [if_pos h9]
    exact ⟨h4, hw, by simp, mem_set_of hmw (rg_word h4 hw (v1 (by rw [r9 h9]; decide)))⟩
  rw [if_neg h9]
  exact keep _ h4 hw
section
variable {xs : List Cd} {id : Int} {s : LS} {mem : List Int}
/-- where a branch leads that is not taken. -/
theorem fork_is (hv : progValid xs = true) {k : Nat} (hk : k < xs.length) (h11 : opAt (ops xs) k = 11) : ∃ j : Nat, forkTo (ops xs) k = j ∧ k < j ∧ j ≤ xs.length ∧ loopsAt xs j = loopsAt xs k := by
  have ho : opensB (opAt (ops xs) k) = true := by rw [h11]; decide
  obtain ⟨e, h1, h2, h3, h4, h5⟩ := open_end hv hk ho
  unfold forkTo
  by_cases h0 : 0 ≤ oth (ops xs) k (ops xs).length
  · rw [if_pos h0]
    have h6 := oth_is _ h0
    have hb := oth_bound (ops xs) k (ops xs).length
    generalize oth (ops xs) k (ops xs).length = o at *
    have h7 := h6.2.2
    rw [ops_len] at h7
    refine ⟨o.toNat + 1, by omega, by omega, by omega, ?_⟩
    exact loops_if (stk_behind_else h6.1 h6.2.1) h11
  · rw [if_neg h0]
    refine ⟨e + 1, by unfold endAt at h1; omega, by omega, by omega, ?_⟩
    exact loops_same (stk_behind_end h4 h5)
theorem loops_next {k : Nat} (h : opensB (opAt (ops xs) k) = false) (h14 : opAt (ops xs) k ≠ 14) : loopsAt xs (k + 1) = loopsAt xs k :=
  loops_same (by rw [stk_s, if_neg (by rw [h]; decide), if_neg h14])
/-- a lane that goes on to a place with the same loops around it. -/
theorem LaneOk.move (h : LaneOk xs s) {j : Nat} (hj : j ≤ xs.length) (hl : loopsAt xs j = loopsAt xs s.pc.toNat) {w : Bool} (hw : w = true → 0 < j ∧ (codeAt xs (j - 1)).op = 10) {rs : List Int} (h4 : rs.length = 4) (hr : ∀ z ∈ rs, 0 ≤ z ∧ z ≤ 255) : LaneOk xs ⟨rs, j, s.turns, w⟩ := by
  refine ⟨by simp only; omega, h4, hr, fun e => ?_, ?_, ?_⟩
  · have := hw e
    refine ⟨by simp only; omega, ?_⟩
    rw [show ((j : Int) - 1).toNat = j - 1 from by omega]
    exact this.2
  · simp only [Int.toNat_natCast, hl]; exact h.len
  · intro i h1 h2
    simp only [Int.toNat_natCast, hl] at h2 ⊢
    exact h.turns i h1 h2
theorem getLastD_of {ts : List Int} {n : Nat} (h : ts.length = n + 1) : ts.getLastD 0 = ts[n]'(by omega) := by
  have e : ts.length - 1 = n := by omega
  rw [List.getLastD_eq_getLast?, List.getLast?_eq_getElem?, e, List.getElem?_eq_getElem (by omega)]
  rfl
theorem dropLast_get {ts : List Int} {i : Nat} (h : i < ts.dropLast.length) : ts.dropLast[i] = ts[i]'(by rw [List.length_dropLast] at h; omega) := by
  rw [List.getElem_dropLast]
/-- what is known of an end: the loop around it, and its turns. -/
theorem LaneOk.atEnd (hv : progValid xs = true) (h : LaneOk xs s) {k : Nat} (hk : k < xs.length) (hp : s.pc = k) (h14 : (codeAt xs k).op = 14) :
    ∃ b : Nat, topAt xs k = b ∧ (stk (ops xs) k).getLast? = some b ∧ b < k ∧ endAt xs b = k ∧ ((codeAt xs b).op = 11 ∨ (codeAt xs b).op = 13) ∧
      ((codeAt xs b).op = 11 → loopsAt xs (k + 1) = loopsAt xs k) ∧
      ((codeAt xs b).op = 13 → loopsAt xs k = loopsAt xs b ++ [b] ∧ loopsAt xs (k + 1) = loopsAt xs b ∧ loopsAt xs (b + 1) = loopsAt xs k ∧ ∃ n, s.turns.length = n + 1 ∧ (loopsAt xs b).length = n) := by
  have hop : opAt (ops xs) k = 14 := by rw [codeAt_op hk]; exact h14
  obtain ⟨b, h1, h2, h3, h4, h5⟩ := top_is hv hk (.inr hop)
  have hbx : b < xs.length := by omega
  have hob : (codeAt xs b).op = 11 ∨ (codeAt xs b).op = 13 := by
    rw [codeAt_op hbx] at h4
    unfold opensB at h4
    simpa using h4
  have hs := stk_top h2
  have hnext := stk_behind_end hop h2
  have hend : endAt xs b = k := by
    obtain ⟨e, e1, e2, e3, e4, e5⟩ := open_end hv hbx h4
    rw [e1] at h5 ⊢
    rcases Nat.lt_or_ge k e with h6 | h6
    · exfalso
      have hn : b ∉ stk (ops xs) (k + 1) := by rw [hnext]; intro hm; have := (stk_lt hm).1; omega
      have := (gone (os := ops xs) (b := b) (k := k + 1) (by omega) hn (e - (k + 1))).1
      rw [show k + 1 + (e - (k + 1)) = e from by omega] at this
      exact this (last_mem e5)
    · have : e = k := by omega
      rw [this]
  refine ⟨b, h1, h2, h3, hend, hob, fun e => ?_, fun e => ?_⟩
  · rw [loops_same hnext]
    exact (loops_if hs (by rw [codeAt_op hbx]; exact e)).symm
  · have hl := loops_loop hs (by rw [codeAt_op hbx]; exact e)
    refine ⟨hl, loops_same hnext, ?_, ?_⟩
    · refine loops_same ?_
      rw [stk_s, if_pos h4, hs]
    · have := h.len
      rw [hp, Int.toNat_natCast, hl, List.length_append, List.length_singleton] at this
      exact ⟨(loopsAt xs b).length, by omega, rfl⟩
theorem loops_open {b : Nat} (hb : b < xs.length) (h : (codeAt xs b).op = 13) : loopsAt xs (b + 1) = loopsAt xs b ++ [b] :=
  loops_loop (by rw [stk_s, if_pos (by rw [codeAt_op hb, h]; decide)]) (by rw [codeAt_op hb]; exact h)
/-- a step keeps a lane valid. -/
theorem doStep_ok (hv : progValid xs = true) (hid : 0 ≤ id ∧ id ≤ 7) (h : LaneOk xs s) (hm : memValid mem = true) {k : Nat} (hk : k < xs.length) (hp : s.pc = k) (hw : s.wait = false) :
    LaneOk xs (doStep xs id k (codeAt xs k) s mem).1 ∧ memValid (doStep xs id k (codeAt xs k) s mem).2 = true ∧ (doStep xs id k (codeAt xs k) s mem).2.length = mem.length := by
  have hcv := codeAt_valid hv hk
  obtain ⟨v1, v2, v3, v4, v5, v6, v7⟩ := valid_nums hcv
  obtain ⟨_, _, _, _, _, _, _, _, _, r11, r13⟩ := regs_num (codeAt xs k).op
  have hop := codeAt_op hk
  have same : ∀ {j : Nat}, j ≤ xs.length → loopsAt xs j = loopsAt xs k → LaneOk xs ⟨s.regs, j, s.turns, s.wait⟩ := fun hj hl =>
    h.move hj (by rw [hp, Int.toNat_natCast]; exact hl) (fun e => absurd e (by rw [hw]; decide)) h.regs h.words
  have hmm := memValid_parts.1 hm
  unfold doStep
  by_cases h11 : (codeAt xs k).op = 11
  · rw [if_pos h11]
    refine ⟨?_, hm, rfl⟩
    obtain ⟨j, j1, j2, j3, j4⟩ := fork_is hv hk (by rw [hop]; exact h11)
    split
    · rw [j1]; exact same j3 j4
    · have : loopsAt xs (k + 1) = loopsAt xs k := loops_if (by rw [stk_s, if_pos (by rw [hop, h11]; decide)]) (by rw [hop]; exact h11)
      exact same (j := k + 1) (by omega) this
  rw [if_neg h11]
  by_cases h12 : (codeAt xs k).op = 12
  · rw [if_pos h12]
    refine ⟨?_, hm, rfl⟩
    obtain ⟨b, b1, b2, b3, b4, b5⟩ := top_is hv hk (.inl (by rw [hop]; exact h12))
    obtain ⟨e, e1, e2, e3, e4, e5⟩ := open_end hv (b := b) (by omega) b4
    have hb11 : opAt (ops xs) b = 11 := by
      have hst := bal_step (progValid_yes hv).2.2 (k := k) (by rw [ops_len]; exact hk)
      rw [stepOk_else (by rw [hop]; exact h12)] at hst
      unfold elseOk at hst
      rw [b2] at hst
      simp only [Bool.and_eq_true, beq_iff_eq] at hst
      exact hst.1
    rw [b1, e1]
    refine same (j := e + 1) (by omega) ?_
    rw [loops_same (stk_behind_end e4 e5), loops_if (stk_top b2) hb11]
  rw [if_neg h12]
  by_cases h13 : (codeAt xs k).op = 13
  · rw [if_pos h13]
    refine ⟨?_, hm, rfl⟩
    obtain ⟨e, e1, e2, e3, e4, e5⟩ := open_end hv hk (by rw [hop, h13]; decide)
    split
    · rw [e1]
      exact same (j := e + 1) (by omega) (loops_same (stk_behind_end e4 e5))
    · have hl := loops_open hk h13
      have hlen := h.len
      rw [hp, Int.toNat_natCast] at hlen
      refine ⟨by simp only; omega, h.regs, h.words, fun e => absurd (show s.wait = true from e) (by rw [hw]; decide), ?_, ?_⟩
      · simp only
        rw [show ((k : Int) + 1).toNat = k + 1 from by omega, hl]
        simp [hlen]
      · intro i i1 i2
        simp only [List.length_append, List.length_singleton] at i1
        have hk1 : ((k : Int) + 1).toNat = k + 1 := by omega
        simp only [hk1, hl]
        by_cases hi : i < s.turns.length
        · have hi2 : i < (loopsAt xs k).length := by omega
          rw [List.getElem_append_left hi, List.getElem_append_left hi2]
          have := h.turns i hi (by rw [hp, Int.toNat_natCast]; exact hi2)
          simp only [hp, Int.toNat_natCast] at this
          exact this
        · have : i = s.turns.length := by omega
          subst this
          rw [List.getElem_append_right (Nat.le_refl _), List.getElem_append_right (by omega)]
          simp only [Nat.sub_self, List.getElem_singleton, hlen]
          have := v5 h13
          omega
  rw [if_neg h13]
  by_cases h14 : (codeAt xs k).op = 14
  · rw [if_pos h14]
    refine ⟨?_, hm, rfl⟩
    obtain ⟨b, b1, b2, b3, b4, b5, b6, b7⟩ := h.atEnd hv hk hp h14
    rw [b1]
    split
    · rename_i hb13
      obtain ⟨l1, l2, l3, n, n1, n2⟩ := b7 hb13
      have hlast := getLastD_of n1
      have hdl : s.turns.dropLast.length = n := by rw [List.length_dropLast]; omega
      have hk1 : loopsAt xs s.pc.toNat = loopsAt xs b ++ [b] := by rw [hp, Int.toNat_natCast]; exact l1
      split
      · rename_i hc
        refine ⟨by simp only; omega, h.regs, h.words, fun e => absurd (show s.wait = true from e) (by rw [hw]; decide), ?_, ?_⟩
        · simp only
          rw [show ((b : Int) + 1).toNat = b + 1 from by omega, l3, l1]
          simp [n1, n2]
        · intro i i1 i2
          have hk2 : ((b : Int) + 1).toNat = b + 1 := by omega
          simp only [hk2, l3, l1] at i2 ⊢
          simp only [List.length_append, hdl, List.length_singleton] at i1
          by_cases hi : i < n
          · rw [List.getElem_append_left (by omega), List.getElem_append_left (by omega), dropLast_get]
            have := h.turns i (by omega) (by rw [hk1]; simp; omega)
            simp only [hk1] at this
            rw [List.getElem_append_left (by omega)] at this
            exact this
          · have : i = n := by omega
            subst this
            rw [List.getElem_append_right (by omega), List.getElem_append_right (by omega)]
            simp only [hdl, n2, Nat.sub_self, List.getElem_singleton]
            have := h.turns i (by omega) (by rw [hk1]; simp; omega)
            simp only [hk1] at this
            rw [List.getElem_append_right (by omega)] at this
            simp only [n2, Nat.sub_self, List.getElem_singleton] at this
            rw [hlast] at hc ⊢
            omega
      · refine ⟨by simp only; omega, h.regs, h.words, fun e => absurd (show s.wait = true from e) (by rw [hw]; decide), ?_, ?_⟩
        · simp only
          rw [show ((k : Int) + 1).toNat = k + 1 from by omega, l2, hdl, n2]
        · intro i i1 i2
          have hk2 : ((k : Int) + 1).toNat = k + 1 := by omega
          simp only [hk2, l2] at i2 ⊢
          simp only [hdl] at i1
          rw [dropLast_get]
          have := h.turns i (by omega) (by rw [hk1]; simp; omega)
          simp only [hk1] at this
          rw [List.getElem_append_left (by omega)] at this
          exact this
    · rename_i hb13
      exact same (j := k + 1) (by omega) (b6 (b5.resolve_right hb13))
  rw [if_neg h14]
  have hc := comp_ok hcv hid h.regs h.words hmm.1.1 hmm.2
  refine ⟨?_, memValid_parts.2 ⟨by rw [hc.mlen]; exact hmm.1, hc.mwords⟩, hc.mlen⟩
  have hno : opensB (opAt (ops xs) k) = false := by
    rw [hop]
    unfold opensB
    simp [h11, h13]
  have := h.move (j := k + 1) (by omega) (by rw [hp, Int.toNat_natCast]; exact loops_next hno (by rw [hop]; exact h14)) (w := (codeAt xs k).op == 10) (fun e => ⟨by omega, by rw [Nat.add_sub_cancel]; simpa using e⟩) hc.len hc.words
  exact this
theorem stepS_ok (hv : progValid xs = true) (hid : 0 ≤ id ∧ id ≤ 7) (h : LaneOk xs s) (hm : memValid mem = true) :
    LaneOk xs (stepS xs id s mem).1 ∧ memValid (stepS xs id s mem).2 = true ∧ (stepS xs id s mem).2.length = mem.length := by
  unfold stepS
  split
  · rename_i hg
    unfold goesB at hg
    rw [Bool.and_eq_true, Bool.not_eq_true', Bool.not_eq_true'] at hg
    have h1 := h.pc
    have hne : s.pc ≠ xs.length := by have := hg.2; simpa using this
    exact doStep_ok hv hid h hm (k := s.pc.toNat) (by omega) (by omega) hg.1
  · exact ⟨h, hm, rfl⟩
end
end Go.Proofs.Ytjmiilneennjaaa

namespace Go.Proofs.Ytjmiilneennjaaa
set_option maxHeartbeats 1000000
set_option linter.unusedVariables false

/-! ### the time that has gone by -/
def wgt : Nat → Int
  | 0 => 64
  | 1 => 16
  | 2 => 4
  | _ => 1
theorem wgt_pos (d : Nat) : 1 ≤ wgt d := by
  unfold wgt; split <;> omega
theorem wgt_four {d : Nat} (h : d ≤ 2) : wgt d = 4 * wgt (d + 1) := by
  match d, h with
  | 0, _ => rfl
  | 1, _ => rfl
  | 2, _ => rfl
/-- en: where the loops end; ls: the loops around, with the turns that are left, the outermost one first; p: the place. -/
def tm (en : Nat → Int) : Nat → Int → List (Nat × Int) → Int → Int
  | d, s, [], p => wgt d * (p - s)
  | d, s, (b, t) :: r, p => wgt d * ((b : Int) + 1 - s) + wgt (d + 1) * ((3 - t) * (en b - b)) + tm en (d + 1) ((b : Int) + 1) r p
theorem mul_le_of {a x y : Int} (ha : 0 ≤ a) (h : x ≤ y) : a * x ≤ a * y := Int.mul_le_mul_of_nonneg_left h ha
theorem tm_mono (en : Nat → Int) {p q : Int} (h : p < q) : ∀ (ls : List (Nat × Int)) (d : Nat) (s : Int), tm en d s ls p + 1 ≤ tm en d s ls q := by
  intro ls
  induction ls with
  | nil =>
    intro d s
    simp only [tm]
    have h1 := wgt_pos d
    have h2 : wgt d * (q - s) = wgt d * (p - s) + wgt d * (q - p) := by rw [← Int.mul_add]; congr 1; omega
    have h3 := mul_le_of (show 0 ≤ wgt d by omega) (show 1 ≤ q - p by omega)
    rw [Int.mul_one] at h3
    omega
  | cons a ls ih =>
    intro d s
    obtain ⟨b, t⟩ := a
    simp only [tm]
    have := ih (d + 1) ((b : Int) + 1)
    omega
theorem tm_enter (en : Nat → Int) {b : Nat} {t : Int} (ht : t ≤ 3) (he : (b : Int) ≤ en b) : ∀ (ls : List (Nat × Int)) (d : Nat) (s : Int), tm en d s ls b + 1 ≤ tm en d s (ls ++ [(b, t)]) ((b : Int) + 1) := by
  intro ls
  induction ls with
  | nil =>
    intro d s
    simp only [tm, List.nil_append]
    have h1 := wgt_pos d
    have h0 := wgt_pos (d + 1)
    have h2 : wgt d * ((b : Int) + 1 - s) = wgt d * ((b : Int) - s) + wgt d := by
      rw [show (b : Int) + 1 - s = ((b : Int) - s) + 1 from by omega, Int.mul_add, Int.mul_one]
    have h3 : 0 ≤ wgt (d + 1) * ((3 - t) * (en b - b)) := Int.mul_nonneg (by omega) (Int.mul_nonneg (by omega) (by omega))
    have h4 : wgt (d + 1) * ((b : Int) + 1 - ((b : Int) + 1)) = 0 := by rw [Int.sub_self, Int.mul_zero]
    omega
  | cons a ls ih =>
    intro d s
    obtain ⟨b', t'⟩ := a
    simp only [tm, List.cons_append]
    have := ih (d + 1) ((b' : Int) + 1)
    omega
theorem tm_again (en : Nat → Int) {b : Nat} {t : Int} : ∀ (ls : List (Nat × Int)) (d : Nat) (s : Int), tm en d s (ls ++ [(b, t)]) (en b) + 1 ≤ tm en d s (ls ++ [(b, t - 1)]) ((b : Int) + 1) := by
  intro ls
  induction ls with
  | nil =>
    intro d s
    simp only [tm, List.nil_append]
    have h0 := wgt_pos (d + 1)
    have h4 : wgt (d + 1) * ((b : Int) + 1 - ((b : Int) + 1)) = 0 := by rw [Int.sub_self, Int.mul_zero]
    have h5 : (3 - (t - 1)) * (en b - b) = (3 - t) * (en b - b) + (en b - b) := by
      rw [show 3 - (t - 1) = (3 - t) + 1 from by omega, Int.add_mul, Int.one_mul]
    have h6 : wgt (d + 1) * (en b - b) = wgt (d + 1) * (en b - ((b : Int) + 1)) + wgt (d + 1) := by
      rw [show en b - (b : Int) = (en b - ((b : Int) + 1)) + 1 from by omega, Int.mul_add, Int.mul_one]
    rw [h5, Int.mul_add]
    omega
  | cons a ls ih =>
    intro d s
    obtain ⟨b', t'⟩ := a
    simp only [tm, List.cons_append]
    have := ih (d + 1) ((b' : Int) + 1)
    omega
theorem tm_exit (en : Nat → Int) {b : Nat} {t : Int} (ht : 0 ≤ t) (he : (b : Int) ≤ en b) : ∀ (ls : List (Nat × Int)) (d : Nat) (s : Int), d + ls.length ≤ 2 → tm en d s (ls ++ [(b, t)]) (en b) + 1 ≤ tm en d s ls (en b + 1) := by
  intro ls
  induction ls with
  | nil =>
    intro d s hd
    simp only [tm, List.nil_append]
    have h0 := wgt_pos (d + 1)
    have hw := wgt_four (d := d) (by simpa using hd)
    rw [hw]
    generalize wgt (d + 1) = W at *
    have h1 : 4 * W * (en b + 1 - s) = 4 * W * ((b : Int) + 1 - s) + 4 * W * (en b - b) := by rw [← Int.mul_add]; congr 1; omega
    have h2 : W * ((3 - t) * (en b - b)) ≤ W * (3 * (en b - b)) := mul_le_of (by omega) (Int.mul_le_mul_of_nonneg_right (by omega) (by omega))
    have h3 : W * (3 * (en b - b)) = 3 * (W * (en b - b)) := by rw [← Int.mul_assoc, Int.mul_comm W 3, Int.mul_assoc]
    have h4 : 4 * W * (en b - b) = 4 * (W * (en b - b)) := by rw [Int.mul_assoc]
    have h6 : W * (en b - b) = W * (en b - ((b : Int) + 1)) + W := by
      rw [show en b - (b : Int) = (en b - ((b : Int) + 1)) + 1 from by omega, Int.mul_add, Int.mul_one]
    omega
  | cons a ls ih =>
    intro d s hd
    obtain ⟨b', t'⟩ := a
    simp only [tm, List.cons_append]
    simp only [List.length_cons] at hd
    have := ih (d + 1) ((b' : Int) + 1) (by omega)
    omega
/-- the places are nested. -/
def Nest (en : Nat → Int) : Int → List (Nat × Int) → Int → Prop
  | E, [], p => p ≤ E
  | E, (b, t) :: r, p => en b ≤ E ∧ (b : Int) ≤ en b ∧ 0 ≤ t ∧ Nest en (en b) r p
theorem tm_le (en : Nat → Int) {p : Int} : ∀ (ls : List (Nat × Int)) (d : Nat) (s E : Int), d + ls.length ≤ 3 → Nest en E ls p → tm en d s ls p ≤ wgt d * (E + 1 - s) := by
  intro ls
  induction ls with
  | nil =>
    intro d s E _ h
    simp only [Nest] at h
    simp only [tm]
    exact mul_le_of (by have := wgt_pos d; omega) (by omega)
  | cons a ls ih =>
    intro d s E hd h
    obtain ⟨b, t⟩ := a
    simp only [Nest] at h
    obtain ⟨h1, h2, h3, h4⟩ := h
    simp only [List.length_cons] at hd
    have h5 := ih (d + 1) ((b : Int) + 1) (en b) (by omega) h4
    simp only [tm]
    have h0 := wgt_pos (d + 1)
    have hw := wgt_four (d := d) (by omega)
    rw [hw]
    generalize wgt (d + 1) = W at *
    have h6 : W * ((3 - t) * (en b - b)) ≤ W * (3 * (en b - b)) := mul_le_of (by omega) (Int.mul_le_mul_of_nonneg_right (by omega) (by omega))
    have h7 : W * (3 * (en b - b)) = 3 * (W * (en b - b)) := by rw [← Int.mul_assoc, Int.mul_comm W 3, Int.mul_assoc]
    have h8 : W * (en b + 1 - ((b : Int) + 1)) = W * (en b - b) := by congr 1; omega
    have h9 : 4 * W * (en b + 1 - s) = 4 * W * ((b : Int) + 1 - s) + 4 * (W * (en b - b)) := by rw [← Int.mul_assoc 4 W, ← Int.mul_add]; congr 1; omega
    have h10 : 4 * W * (en b + 1 - s) ≤ 4 * W * (E + 1 - s) := mul_le_of (by omega) (by omega)
    omega
/-! ### the measure of a lane -/
section
variable {xs : List Cd} {id : Int} {s : LS} {mem : List Int}
def loopTs (xs : List Cd) (s : LS) : List (Nat × Int) := (loopsAt xs s.pc.toNat).zip s.turns
def left (xs : List Cd) (s : LS) : Int := 64 * ((xs.length : Int) + 1) - tm (endAt xs) 0 0 (loopTs xs s) s.pc
theorem loops_mem {k b : Nat} (h : b ∈ loopsAt xs k) : b ∈ stk (ops xs) k ∧ opAt (ops xs) b = 13 ∧ b < k := by
  unfold loopsAt at h
  rw [List.mem_filter] at h
  exact ⟨h.1, by simpa using h.2, (stk_lt h.1).1⟩
theorem loops_sorted (k : Nat) : (loopsAt xs k).Pairwise (· < ·) := (stk_sorted _ _).sublist List.filter_sublist
theorem loops_three (hv : progValid xs = true) {k : Nat} (hk : k ≤ xs.length) : (loopsAt xs k).length ≤ 3 :=
  Nat.le_trans (List.length_filter_le _ _) (stk_three (progValid_ok hv hk))
theorem open_lt {k b : Nat} (hk : k ≤ xs.length) (h : b ∈ stk (ops xs) k) : b < xs.length := by have := (stk_lt h).1; omega
theorem end_ge (hv : progValid xs = true) {k b : Nat} (hk : k ≤ xs.length) (h : b ∈ stk (ops xs) k) : (k : Int) ≤ endAt xs b ∧ endAt xs b < xs.length := by
  have hb := stk_lt h
  obtain ⟨e, h2, h3, h4, h5, h6⟩ := open_end hv (b := b) (by omega) hb.2
  rw [h2]
  refine ⟨?_, by omega⟩
  rcases Nat.lt_or_ge e k with h7 | h7
  · exfalso
    have := endS_early (os := ops xs) (b := b) (k := k - 1) (n := xs.length) (by unfold endAt at h2; rw [ops_len] at h2; omega) (by unfold endAt at h2; rw [ops_len] at h2; omega) (by omega)
    rw [show k - 1 + 1 = k from by omega] at this
    exact endS_open h k (Nat.le_refl _) this
  · omega
/-- of two open blocks the outer one ends behind the inner one. -/
theorem end_nest (hv : progValid xs = true) {k b c : Nat} (hk : k ≤ xs.length) (hb : b ∈ stk (ops xs) k) (hc : c ∈ stk (ops xs) k) (hbc : b < c) : endAt xs c ≤ endAt xs b := by
  have hbl := stk_lt hb
  have hcl := stk_lt hc
  obtain ⟨e, h2, h3, h4, h5, h6⟩ := open_end hv (b := b) (by omega) hbl.2
  obtain ⟨f, g2, g3, g4, g5, g6⟩ := open_end hv (b := c) (by omega) hcl.2
  rw [h2, g2]
  rcases Nat.lt_or_ge e f with h7 | h7
  · exfalso
    have hn : c ∉ stk (ops xs) e := by
      rw [stk_top h6]
      intro hm
      rcases List.mem_append.1 hm with hm | hm
      · have := (stk_lt hm).1; omega
      · rw [List.mem_singleton] at hm; omega
    have hke := (end_ge hv hk hb).1
    rw [h2] at hke
    have := (gone (os := ops xs) (b := c) (k := e) (by omega) hn (f - e)).1
    rw [show e + (f - e) = f from by omega] at this
    exact this (last_mem g6)
  · omega
theorem nest_of (hv : progValid xs = true) {k : Nat} (hk : k ≤ xs.length) : ∀ (bs : List Nat) (ts : List Int) (E : Int), bs.length = ts.length → (∀ t ∈ ts, 0 ≤ t) → bs.Pairwise (· < ·) → (∀ b ∈ bs, b ∈ stk (ops xs) k ∧ endAt xs b ≤ E) → (k : Int) ≤ E → Nest (endAt xs) E (bs.zip ts) k := by
  intro bs
  induction bs with
  | nil => intro ts E _ _ _ _ h; simpa [Nest] using h
  | cons b bs ih =>
    intro ts E hl ht hs hb hE
    cases ts with
    | nil => simp at hl
    | cons t ts =>
      have h1 := hb b (List.mem_cons_self ..)
      have h2 := end_ge hv hk h1.1
      have h3 := (stk_lt h1.1).1
      simp only [List.zip_cons_cons, Nest]
      refine ⟨h1.2, by omega, ht t (List.mem_cons_self ..), ?_⟩
      rw [List.pairwise_cons] at hs
      refine ih ts _ (by simpa using hl) (fun t' h => ht t' (List.mem_cons_of_mem _ h)) hs.2 (fun c hc => ?_) h2.1
      have h4 := hb c (List.mem_cons_of_mem _ hc)
      exact ⟨h4.1, end_nest hv hk h1.1 h4.1 (hs.1 c hc)⟩
theorem left_nonneg (hv : progValid xs = true) (h : LaneOk xs s) : 0 ≤ left xs s := by
  have hp := h.pc
  have hk : s.pc.toNat ≤ xs.length := by omega
  have h3 := loops_three hv hk
  have hpos : ∀ t ∈ s.turns, 0 ≤ t := fun t ht => by
    obtain ⟨i, hi, rfl⟩ := List.mem_iff_getElem.1 ht
    exact (h.turns i hi (by rw [h.len]; exact hi)).1
  have hn : Nest (endAt xs) (xs.length : Int) (loopTs xs s) s.pc := by
    have := nest_of hv hk (loopsAt xs s.pc.toNat) s.turns (xs.length : Int) h.len hpos (loops_sorted _) (fun b hb => by
      have hm := loops_mem hb
      have := end_ge hv hk hm.1
      exact ⟨hm.1, by omega⟩) (by omega)
    rwa [show ((s.pc.toNat : Nat) : Int) = s.pc from by omega] at this
  have := tm_le (endAt xs) (loopTs xs s) 0 0 (xs.length : Int) (by unfold loopTs; rw [List.length_zip]; omega) hn
  unfold left
  rw [Int.sub_zero] at this
  have e : wgt 0 = 64 := rfl
  rw [e] at this
  omega
theorem tm_nonneg (en : Nat → Int) : ∀ (ls : List (Nat × Int)) (d : Nat) (s p : Int), (∀ x ∈ ls, x.2 ≤ 3 ∧ (x.1 : Int) ≤ en x.1) → (ls.map fun x => (x.1 : Int)).Pairwise (· < ·) → (∀ x ∈ ls, s ≤ x.1 ∧ (x.1 : Int) < p) → s ≤ p → 0 ≤ tm en d s ls p := by
  intro ls
  induction ls with
  | nil => intro d s p _ _ _ h; simp only [tm]; exact Int.mul_nonneg (by have := wgt_pos d; omega) (by omega)
  | cons a ls ih =>
    intro d s p h1 h2 h3 h4
    obtain ⟨b, t⟩ := a
    simp only [List.map_cons, List.pairwise_cons] at h2
    have hb := h1 _ (List.mem_cons_self ..)
    have hs := h3 _ (List.mem_cons_self ..)
    simp only at hb hs
    have := ih (d + 1) ((b : Int) + 1) p (fun x hx => h1 x (List.mem_cons_of_mem _ hx)) h2.2 (fun x hx => ⟨by have := h2.1 _ (List.mem_map_of_mem hx); omega, (h3 x (List.mem_cons_of_mem _ hx)).2⟩) (by omega)
    simp only [tm]
    have w1 := wgt_pos d
    have w2 := wgt_pos (d + 1)
    have h5 : 0 ≤ wgt d * ((b : Int) + 1 - s) := Int.mul_nonneg (by omega) (by omega)
    have h6 : 0 ≤ wgt (d + 1) * ((3 - t) * (en b - b)) := Int.mul_nonneg (by omega) (Int.mul_nonneg (by omega) (by omega))
    omega
theorem left_le (hv : progValid xs = true) (h : LaneOk xs s) : left xs s ≤ 2624 := by
  have hp := h.pc
  have hk : s.pc.toNat ≤ xs.length := by omega
  have h40 := (progValid_yes hv).1
  have hz : ∀ x ∈ loopTs xs s, x.1 ∈ loopsAt xs s.pc.toNat ∧ x.2 ≤ 3 := fun x hx => by
    unfold loopTs at hx
    obtain ⟨i, hi, rfl⟩ := List.mem_iff_getElem.1 hx
    rw [List.length_zip] at hi
    rw [List.getElem_zip]
    have hi1 : i < (loopsAt xs s.pc.toNat).length := by omega
    have hm := loops_mem (List.getElem_mem hi1)
    have hbl : (loopsAt xs s.pc.toNat)[i] < xs.length := by omega
    have hv13 := (valid_nums (codeAt_valid hv hbl)).2.2.2.2.1 (by rw [← codeAt_op hbl]; exact hm.2.1)
    have ht := h.turns i (by omega) hi1
    exact ⟨List.getElem_mem hi1, by simp only; omega⟩
  have hsort : ((loopTs xs s).map fun x => (x.1 : Int)).Pairwise (· < ·) := by
    have e : (loopTs xs s).map (fun x => (x.1 : Int)) = (loopsAt xs s.pc.toNat).map (fun b : Nat => (b : Int)) := by
      have : (loopTs xs s).map Prod.fst = loopsAt xs s.pc.toNat := by
        unfold loopTs
        exact List.map_fst_zip (by rw [h.len]; exact Nat.le_refl _)
      rw [← this, List.map_map]
      rfl
    rw [e, List.pairwise_map]
    exact (loops_sorted s.pc.toNat).imp fun hab => by omega
  have := tm_nonneg (endAt xs) (loopTs xs s) 0 0 s.pc (fun x hx => ⟨(hz x hx).2, by
    have hm := loops_mem (hz x hx).1
    have := (end_ge hv hk hm.1).1
    omega⟩) hsort (fun x hx => by
    have hm := loops_mem (hz x hx).1
    omega) hp.1
  unfold left
  omega
theorem zip_snoc {α β : Type} {us : List α} {bs : List β} (h : us.length = bs.length) (a : α) (b : β) : (us ++ [a]).zip (bs ++ [b]) = us.zip bs ++ [(a, b)] := by
  rw [List.zip_append h]; rfl
theorem dropLast_snoc {ts : List Int} {n : Nat} (h : ts.length = n + 1) : ts = ts.dropLast ++ [ts.getLastD 0] := by
  have hn : ts ≠ [] := fun e => by rw [e] at h; simp at h
  have h1 := List.dropLast_concat_getLast hn
  rw [List.getLastD_eq_getLast?, List.getLast?_eq_some_getLast hn]
  exact h1.symm
/-- a step takes time. -/
theorem left_do (hv : progValid xs = true) (h : LaneOk xs s) {k : Nat} (hk : k < xs.length) (hp : s.pc = k) : left xs (doStep xs id k (codeAt xs k) s mem).1 + 1 ≤ left xs s := by
  have hcv := codeAt_valid hv hk
  obtain ⟨v1, v2, v3, v4, v5, v6, v7⟩ := valid_nums hcv
  have hop := codeAt_op hk
  have hl0 : loopTs xs s = (loopsAt xs k).zip s.turns := by unfold loopTs; rw [hp, Int.toNat_natCast]
  have hlen := h.len
  rw [hp, Int.toNat_natCast] at hlen
  have fwd : ∀ {rs : List Int} {j : Nat} {w : Bool}, k < j → loopsAt xs j = loopsAt xs k → left xs ⟨rs, j, s.turns, w⟩ + 1 ≤ left xs s := fun {rs j w} hj hl => by
    have := tm_mono (endAt xs) (p := s.pc) (q := (j : Int)) (by omega) (loopTs xs s) 0 0
    have e : loopTs xs ⟨rs, j, s.turns, w⟩ = loopTs xs s := by
      rw [hl0]
      unfold loopTs
      simp only [Int.toNat_natCast, hl]
    unfold left
    rw [e]
    simp only
    omega
  unfold doStep
  by_cases h11 : (codeAt xs k).op = 11
  · rw [if_pos h11]
    obtain ⟨j, j1, j2, j3, j4⟩ := fork_is hv hk (by rw [hop]; exact h11)
    split
    · rw [j1]; exact fwd j2 j4
    · have : loopsAt xs (k + 1) = loopsAt xs k := loops_if (by rw [stk_s, if_pos (by rw [hop, h11]; decide)]) (by rw [hop]; exact h11)
      exact fwd (j := k + 1) (by omega) this
  rw [if_neg h11]
  by_cases h12 : (codeAt xs k).op = 12
  · rw [if_pos h12]
    obtain ⟨b, b1, b2, b3, b4, b5⟩ := top_is hv hk (.inl (by rw [hop]; exact h12))
    obtain ⟨e, e1, e2, e3, e4, e5⟩ := open_end hv (b := b) (by omega) b4
    have hb11 : opAt (ops xs) b = 11 := by
      have hst := bal_step (progValid_yes hv).2.2 (k := k) (by rw [ops_len]; exact hk)
      rw [stepOk_else (by rw [hop]; exact h12)] at hst
      unfold elseOk at hst
      rw [b2] at hst
      simp only [Bool.and_eq_true, beq_iff_eq] at hst
      exact hst.1
    rw [b1, e1]
    refine fwd (j := e + 1) (by omega) ?_
    rw [loops_same (stk_behind_end e4 e5), loops_if (stk_top b2) hb11]
  rw [if_neg h12]
  by_cases h13 : (codeAt xs k).op = 13
  · rw [if_pos h13]
    obtain ⟨e, e1, e2, e3, e4, e5⟩ := open_end hv hk (by rw [hop, h13]; decide)
    split
    · rw [e1]
      exact fwd (j := e + 1) (by omega) (loops_same (stk_behind_end e4 e5))
    · have hl := loops_open hk h13
      have hb := v5 h13
      have := tm_enter (endAt xs) (b := k) (t := (codeAt xs k).b - 1) (by omega) (by rw [e1]; omega) ((loopsAt xs k).zip s.turns) 0 0
      have e : loopTs xs ⟨s.regs, (k : Int) + 1, s.turns ++ [(codeAt xs k).b - 1], s.wait⟩ = (loopsAt xs k).zip s.turns ++ [(k, (codeAt xs k).b - 1)] := by
        unfold loopTs
        simp only
        rw [show ((k : Int) + 1).toNat = k + 1 from by omega, hl]
        exact zip_snoc hlen _ _
      unfold left
      rw [e, hl0, hp]
      simp only
      omega
  rw [if_neg h13]
  by_cases h14 : (codeAt xs k).op = 14
  · rw [if_pos h14]
    obtain ⟨b, b1, b2, b3, b4, b5, b6, b7⟩ := h.atEnd hv hk hp h14
    rw [b1]
    split
    · rename_i hb13
      obtain ⟨l1, l2, l3, n, n1, n2⟩ := b7 hb13
      have hts := dropLast_snoc n1
      have hdl : s.turns.dropLast.length = n := by rw [List.length_dropLast]; omega
      have hz : loopTs xs s = (loopsAt xs b).zip s.turns.dropLast ++ [(b, s.turns.getLastD 0)] := by
        rw [hl0, l1]
        conv => lhs; rw [hts]
        exact zip_snoc (by omega) _ _
      split
      · rename_i hc
        have := tm_again (endAt xs) (b := b) (t := s.turns.getLastD 0) ((loopsAt xs b).zip s.turns.dropLast) 0 0
        have e : loopTs xs ⟨s.regs, (b : Int) + 1, s.turns.dropLast ++ [s.turns.getLastD 0 - 1], s.wait⟩ = (loopsAt xs b).zip s.turns.dropLast ++ [(b, s.turns.getLastD 0 - 1)] := by
          unfold loopTs
          simp only
          rw [show ((b : Int) + 1).toNat = b + 1 from by omega, l3, l1]
          exact zip_snoc (by omega) _ _
        rw [b4] at this
        unfold left
        rw [e, hz, hp]
        simp only
        omega
      · have hlast := getLastD_of n1
        have ht0 : 0 ≤ s.turns.getLastD 0 := by
          rw [hlast]
          exact (h.turns n (by omega) (by rw [h.len]; omega)).1
        have h3 := loops_three hv (k := k) (by omega)
        rw [l1, List.length_append, List.length_singleton] at h3
        have := tm_exit (endAt xs) (b := b) (t := s.turns.getLastD 0) ht0 (by rw [b4]; omega) ((loopsAt xs b).zip s.turns.dropLast) 0 0 (by rw [List.length_zip]; omega)
        have e : loopTs xs ⟨s.regs, (k : Int) + 1, s.turns.dropLast, s.wait⟩ = (loopsAt xs b).zip s.turns.dropLast := by
          unfold loopTs
          simp only
          rw [show ((k : Int) + 1).toNat = k + 1 from by omega, l2]
        rw [b4] at this
        unfold left
        rw [e, hz, hp]
        simp only
        omega
    · rename_i hb13
      exact fwd (j := k + 1) (by omega) (b6 (b5.resolve_right hb13))
  rw [if_neg h14]
  have hno : opensB (opAt (ops xs) k) = false := by
    rw [hop]
    unfold opensB
    simp [h11, h13]
  exact fwd (j := k + 1) (by omega) (loops_next hno (by rw [hop]; exact h14))
theorem left_step (hv : progValid xs = true) (h : LaneOk xs s) (hg : goesB xs.length s = true) : left xs (stepS xs id s mem).1 + 1 ≤ left xs s := by
  unfold stepS
  rw [if_pos hg]
  unfold goesB at hg
  rw [Bool.and_eq_true, Bool.not_eq_true', Bool.not_eq_true'] at hg
  have h1 := h.pc
  have hne : s.pc ≠ xs.length := by have := hg.2; simpa using this
  exact left_do hv h (k := s.pc.toNat) (by omega) (by omega)
end
end Go.Proofs.Ytjmiilneennjaaa

namespace Go.Proofs.Ytjmiilneennjaaa
open Go.RowKit
set_option maxHeartbeats 1000000
set_option linter.unusedVariables false

def lessI (a b : Int) : Int := if a < b then 1 else 0
theorem mulB {a b : Int} (ha : 0 ≤ a ∧ a ≤ 255) (hb : 0 ≤ b ∧ b ≤ 255) : 0 ≤ a * b ∧ a * b ≤ 65025 := by
  have h1 : 0 ≤ a * b := Int.mul_nonneg ha.1 hb.1
  have h2 : a * b ≤ 255 * 255 := Int.mul_le_mul ha.2 hb.2 hb.1 (by omega)
  omega
theorem implWordAdd_any (a b : Int) (w : World) (ha : 0 ≤ a ∧ a ≤ 255) (hb : 0 ≤ b ∧ b ≤ 255) : Calls Try.prog 112 #[.int .i64 a, .int .i64 b] w fun e w' => e = .returned (.int .i64 ((a + b) % 256)) ∧ w = w' := by
  have h1 := isWord_any a w
  have h2 := isWord_any b w
  rw [inB_of ha.1 ha.2] at h1
  rw [inB_of hb.1 hb.2] at h2
  have H1 := mkHid h1
  have H2 := mkHid h2
  clear h1 h2
  go_enter Try.func112, Try.ntmps112
  go_wp2_with fail
  refine H1.out.mono ?_
  rintro e w' ⟨rfl, rfl⟩
  go_wp2_with fail
  refine H2.out.mono ?_
  rintro e w' ⟨rfl, rfl⟩
  go_wp2_with fail
  go_ret
  exact ⟨rfl, rfl⟩
theorem implWordMul_any (a b : Int) (w : World) (ha : 0 ≤ a ∧ a ≤ 255) (hb : 0 ≤ b ∧ b ≤ 255) : Calls Try.prog 113 #[.int .i64 a, .int .i64 b] w fun e w' => e = .returned (.int .i64 ((a * b) % 256)) ∧ w = w' := by
  have h1 := isWord_any a w
  have h2 := isWord_any b w
  rw [inB_of ha.1 ha.2] at h1
  rw [inB_of hb.1 hb.2] at h2
  have H1 := mkHid h1
  have H2 := mkHid h2
  have hm := mulB ha hb
  clear h1 h2
  go_enter Try.func113, Try.ntmps113
  go_wp2_with fail
  refine H1.out.mono ?_
  rintro e w' ⟨rfl, rfl⟩
  go_wp2_with fail
  refine H2.out.mono ?_
  rintro e w' ⟨rfl, rfl⟩
  go_wp2_with fail
  go_ret
  exact ⟨rfl, rfl⟩
theorem implWordLess_any (a b : Int) (w : World) (ha : 0 ≤ a ∧ a ≤ 255) (hb : 0 ≤ b ∧ b ≤ 255) : Calls Try.prog 114 #[.int .i64 a, .int .i64 b] w fun e w' => e = .returned (.int .i64 (lessI a b)) ∧ w = w' := by
  have h1 := isWord_any a w
  have h2 := isWord_any b w
  rw [inB_of ha.1 ha.2] at h1
  rw [inB_of hb.1 hb.2] at h2
  have H1 := mkHid h1
  have H2 := mkHid h2
  clear h1 h2
  have hl : (a < b ∧ lessI a b = 1) ∨ (¬ a < b ∧ lessI a b = 0) := by unfold lessI; split <;> simp_all
  rcases hl with ⟨h, e⟩ | ⟨h, e⟩
  all_goals (
    rw [e]
    clear e
    go_enter Try.func114, Try.ntmps114
    go_wp2_with fail
    refine H1.out.mono ?_
    rintro e w' ⟨rfl, rfl⟩
    go_wp2_with fail
    refine H2.out.mono ?_
    rintro e w' ⟨rfl, rfl⟩
    go_wp2_with fail
    go_ret
    exact ⟨rfl, rfl⟩)
theorem specWordAdd_any (a b : Int) (w : World) (ha : 0 ≤ a ∧ a ≤ 255) (hb : 0 ≤ b ∧ b ≤ 255) : Calls Try.prog 108 #[.int .i64 a, .int .i64 b] w fun e w' => e = .returned (.int .i64 ((a + b) % 256)) ∧ w = w' := by
  have h1 := l2Word_any a w
  have h2 := l2Word_any b w
  rw [inB_of ha.1 ha.2] at h1
  rw [inB_of hb.1 hb.2] at h2
  have H1 := mkHid h1
  have H2 := mkHid h2
  clear h1 h2
  go_enter Try.func108, Try.ntmps108
  go_wp2_with fail
  refine H1.out.mono ?_
  rintro e w' ⟨rfl, rfl⟩
  go_wp2_with fail
  refine H2.out.mono ?_
  rintro e w' ⟨rfl, rfl⟩
  go_wp2_with fail
  go_ret
  exact ⟨rfl, rfl⟩
theorem specWordMul_any (a b : Int) (w : World) (ha : 0 ≤ a ∧ a ≤ 255) (hb : 0 ≤ b ∧ b ≤ 255) : Calls Try.prog 109 #[.int .i64 a, .int .i64 b] w fun e w' => e = .returned (.int .i64 ((a * b) % 256)) ∧ w = w' := by
  have h1 := l2Word_any a w
  have h2 := l2Word_any b w
  rw [inB_of ha.1 ha.2] at h1
  rw [inB_of hb.1 hb.2] at h2
  have H1 := mkHid h1
  have H2 := mkHid h2
  have hm := mulB ha hb
  clear h1 h2
  go_enter Try.func109, Try.ntmps109
  go_wp2_with fail
  refine H1.out.mono ?_
  rintro e w' ⟨rfl, rfl⟩
  go_wp2_with fail
  refine H2.out.mono ?_
  rintro e w' ⟨rfl, rfl⟩
  go_wp2_with fail
  go_ret
  exact ⟨rfl, rfl⟩
theorem specWordLess_any (a b : Int) (w : World) (ha : 0 ≤ a ∧ a ≤ 255) (hb : 0 ≤ b ∧ b ≤ 255) : Calls Try.prog 110 #[.int .i64 a, .int .i64 b] w fun e w' => e = .returned (.int .i64 (lessI a b)) ∧ w = w' := by
  have h1 := l2Word_any a w
  have h2 := l2Word_any b w
  rw [inB_of ha.1 ha.2] at h1
  rw [inB_of hb.1 hb.2] at h2
  have H1 := mkHid h1
  have H2 := mkHid h2
  clear h1 h2
  have hl : (a < b ∧ lessI a b = 1) ∨ (¬ a < b ∧ lessI a b = 0) := by unfold lessI; split <;> simp_all
  rcases hl with ⟨h, e⟩ | ⟨h, e⟩
  all_goals (
    rw [e]
    clear e
    go_enter Try.func110, Try.ntmps110
    go_wp2_with fail
    refine H1.out.mono ?_
    rintro e w' ⟨rfl, rfl⟩
    go_wp2_with fail
    refine H2.out.mono ?_
    rintro e w' ⟨rfl, rfl⟩
    go_wp2_with fail
    go_ret
    exact ⟨rfl, rfl⟩)
end Go.Proofs.Ytjmiilneennjaaa
