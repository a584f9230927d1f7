/-
  Parts of a proof: CCrV, PlainRun, PlainOrder.
-/
import Derived.Test.YthpabcgnijfiaaaPart16
import Derived.Test.YthpabcgnijfiaaaPart13
import Derived.Test.YthpabcgnijfiaaaPart14
namespace Go.Proofs.Ythpabcgnijfiaaa
open Go.RowKit
set_option maxHeartbeats 2000000
set_option maxRecDepth 100000
set_option linter.unusedVariables false

def crowdValid (xs : List Cd) (ss : List LS) (mem : List Int) : Bool := inB ss.length 1 8 && progValid xs && memValid mem && ss.all (laneValid xs)
theorem crowdValid_no {xs : List Cd} {ss : List LS} {mem : List Int} (h : inB ss.length 1 8 = false ∨ progValid xs = false ∨ memValid mem = false ∨ ss.all (laneValid xs) = false) : crowdValid xs ss mem = false := by
  unfold crowdValid
  rcases h with h | h | h | h <;> rw [h] <;> simp
theorem lflatOne (w : World) (l : Lt) : True := trivial
/-- closure f answers p at the lanes ls, wherever it is called from w on. -/
def AnswersL (f : Value) (p : LS → Bool) (ls : List Lt) (w : World) : Prop :=
  ∃ id cap, f = .func (.func id) #[] cap ∧ (∀ args w, (callFunc id args).run Try.prog w = .ok (.enter id args) w) ∧ ∀ l ∈ ls, ∀ X : World, Below w.heap.size w X → Calls Try.prog id (#[ltV l] ++ cap) X fun e w' => e = .returned (.bool (p l.st)) ∧ Below X.heap.size X w'
theorem indexFuncL_any (A : Option Addr) (c : Nat) (ls : List Lt) (f : Value) (p : LS → Bool) (w : World) (hl : ls.length ≤ 9223372036854775807) (hs : Sl w A (tflat ls)) (hf : AnswersL f p ls w) :
    Calls Try.prog 93 #[.slice A ls.length c, f] w fun e w' => ((∃ i : Nat, ∃ h : i < ls.length, e = .returned (.int .i64 i) ∧ p ls[i].st = true) ∨ (e = .returned (.int .i64 (-1)) ∧ ∀ l ∈ ls, p l.st = false)) ∧ Below w.heap.size w w' := by
  obtain ⟨id, cap, rfl, hrun, hf⟩ := hf
  have HF := mkHid hf
  have HS := mkHid hs
  clear hf hs
  go_enter Try.func93, Try.ntmps93
  go_wp2_with fail
  go_loopw [8] (fun iv wr => ∃ k : Nat, k ≤ ls.length ∧ iv = .int .i64 k ∧ Hid (∀ j (h : j < ls.length), j < k → p ls[j].st = false) ∧ Below w.heap.size w wr) (fun iv _ => ls.length - (intOf iv).toNat)
  case atStart => exact ⟨0, by omega, rfl, mkHid (fun j h h' => absurd h' (by omega)), Below.refl _ _⟩
  case round =>
    obtain ⟨k, hk, rfl, HN, hb⟩ := hrel
    have HB := mkHid hb
    by_cases hlt : k < ls.length
    · obtain ⟨b, off, hA, h0, h1, h2, h3⟩ := (HS.out.below hb).lt hlt
      have hC := HF.out ls[k] (List.getElem_mem hlt) wr hb
      have HPP := mkHid (show ∀ v, p ls[k].st = v → p ls[k].st = v from fun _ h => h)
      obtain ⟨l, hll⟩ : ∃ l, l = ls[k] := ⟨_, rfl⟩
      simp only [← hll] at h0 h1 h2 h3 hC
      have HLL := mkHid hll
      obtain ⟨ra, rc, zs, at_, ta, tc, ts, wt⟩ := l
      simp only at h0 h1 h2 h3 hC
      have HC := mkHid hC
      subst hA
      clear hC hll hb
      cases hp : p (⟨ra, rc, zs, at_, ta, tc, ts, wt⟩ : Lt).st with
      | true =>
        have HP := mkHid hp
        rw [hp] at HC
        clear hp
        go_wp2_with (first | (refine HC.out.mono ?_; rintro e w2 ⟨rfl, hb2⟩; have HB2 := mkHid hb2; clear hb2))
        go_ret
        exact ⟨.inl ⟨k, hlt, rfl, by rw [← HLL.out]; exact HP.out⟩, below_then HB.out HB2.out⟩
      | false =>
        have HP := mkHid hp
        rw [hp] at HC
        clear hp
        go_wp2_with (first | (refine HC.out.mono ?_; rintro e w2 ⟨rfl, hb2⟩; have HB2 := mkHid hb2; clear hb2))
        go_roundw
        case rel =>
          refine ⟨k + 1, by omega, by go_num, mkHid (fun j h h' => ?_), below_then HB.out HB2.out⟩
          by_cases e : j = k
          · subst e; rw [← HLL.out]; exact HP.out
          · exact HN.out j h (by omega)
        case measure => simp [intOf]; omega
    · clear hb
      go_wp2_with fail
      go_ret
      refine ⟨.inr ⟨rfl, fun l hl => ?_⟩, HB.out⟩
      obtain ⟨j, hj, rfl⟩ := List.mem_iff_getElem.1 hl
      exact HN.out j hj (by omega)
theorem containsFuncL_any (A : Option Addr) (c : Nat) (ls : List Lt) (f : Value) (p : LS → Bool) (w : World) (hl : ls.length ≤ 9223372036854775807) (hs : Sl w A (tflat ls)) (hf : AnswersL f p ls w) :
    Calls Try.prog 80 #[.slice A ls.length c, f] w fun e w' => e = .returned (.bool ((sts ls).any p)) ∧ Below w.heap.size w w' := by
  go_enter Try.func80, Try.ntmps80
  go_wp2_with fail
  refine (indexFuncL_any _ _ _ _ p _ hl hs hf).mono ?_
  rintro e w1 ⟨⟨i, h, rfl, hp⟩ | ⟨rfl, hn⟩, hb⟩
  · have HB := mkHid hb
    have HP := mkHid hp
    clear hb hp
    go_wp2_with fail
    go_ret
    refine ⟨ret_bool ?_, HB.out⟩
    symm
    rw [List.any_eq_true]
    exact ⟨ls[i].st, List.mem_map_of_mem (List.getElem_mem h), HP.out⟩
  · have HB := mkHid hb
    have HN := mkHid hn
    clear hb hn
    go_wp2_with fail
    go_ret
    refine ⟨ret_bool ?_, HB.out⟩
    symm
    rw [Bool.eq_false_iff]
    intro h
    rw [List.any_eq_true] at h
    obtain ⟨z, hz, hp⟩ := h
    obtain ⟨l, hl, rfl⟩ := List.mem_map.1 hz
    rw [HN.out l hl] at hp
    cases hp
theorem any_not_allL {α : Type} (xs : List α) (p : α → Bool) : xs.any (fun z => !p z) = !xs.all p := by
  induction xs with
  | nil => rfl
  | cons z os ih => simp [List.any_cons, List.all_cons, ih, Bool.not_and]
theorem cell1_of {w : World} {B : Nat} {c0 : Value} {ty : TypeId} (h : w.heap[B]? = some (.cells #[c0] ty (0, 0))) : w.cell? ⟨B, 0, none⟩ = some c0 := cell_of_row _ _ _ _ _ _ h
theorem box2t {w : World} {B : Nat} {c0 c1 : Value} {ty : TypeId} (h : w.heap[B]? = some (.cells #[c0, c1] ty (0, 0))) : w.cell? ⟨B, 0, none⟩ = some c0 ∧ w.cell? ⟨B, 1, none⟩ = some c1 :=
  ⟨cell_of_row _ _ _ _ _ _ h, cell_of_row _ _ _ _ _ _ h⟩
end Go.Proofs.Ythpabcgnijfiaaa

namespace Go.Proofs.Ythpabcgnijfiaaa
set_option maxHeartbeats 1000000
set_option linter.unusedVariables false

/-- the state after i steps of a lane alone. -/
def iterS (xs : List Cd) (id : Int) (s : LS) (mem : List Int) : Nat → LS × List Int
  | 0 => (s, mem)
  | i + 1 => stepS xs id (iterS xs id s mem i).1 (iterS xs id s mem i).2
theorem iterS_front (xs : List Cd) (id : Int) (s : LS) (mem : List Int) (i : Nat) : iterS xs id s mem (i + 1) = iterS xs id (stepS xs id s mem).1 (stepS xs id s mem).2 i := by
  induction i with
  | zero => rfl
  | succ i ih =>
    have h1 : iterS xs id s mem (i + 1 + 1) = stepS xs id (iterS xs id s mem (i + 1)).1 (iterS xs id s mem (i + 1)).2 := rfl
    rw [h1, ih]
    rfl
section
variable {xs : List Cd} {id : Int} {s : LS} {mem : List Int}
theorem iterS_ok (hv : progValid xs = true) (hid : 0 ≤ id ∧ id ≤ 7) (h : LaneOk xs s) (hm : memValid mem = true) (i : Nat) :
    LaneOk xs (iterS xs id s mem i).1 ∧ memValid (iterS xs id s mem i).2 = true ∧ (iterS xs id s mem i).2.length = mem.length := by
  induction i with
  | zero => exact ⟨h, hm, rfl⟩
  | succ i ih =>
    have := stepS_ok hv hid ih.1 ih.2.1
    exact ⟨this.1, this.2.1, this.2.2.trans ih.2.2⟩
theorem iterS_left (hv : progValid xs = true) (hid : 0 ≤ id ∧ id ≤ 7) (h : LaneOk xs s) (hm : memValid mem = true) : ∀ i, (∀ j, j < i → goesB xs.length (iterS xs id s mem j).1 = true) → left xs (iterS xs id s mem i).1 + i ≤ left xs s := by
  intro i
  induction i with
  | zero => intro _; simp [iterS]
  | succ i ih =>
    intro hg
    have h1 := ih fun j hj => hg j (by omega)
    have h2 := left_step hv (id := id) (mem := (iterS xs id s mem i).2) (iterS_ok hv hid h hm i).1 (hg i (by omega))
    have h3 : iterS xs id s mem (i + 1) = stepS xs id (iterS xs id s mem i).1 (iterS xs id s mem i).2 := rfl
    rw [h3]
    omega
/-- a lane alone has come to a barrier or to its end after N steps and not before. -/
structure RunsL (xs : List Cd) (id : Int) (s : LS) (mem : List Int) (N : Nat) : Prop where
  le : N ≤ 2624
  before : ∀ j, j < N → goesB xs.length (iterS xs id s mem j).1 = true
  stop : goesB xs.length (iterS xs id s mem N).1 = false
theorem runsL_of (hv : progValid xs = true) (hid : 0 ≤ id ∧ id ≤ 7) (h : LaneOk xs s) (hm : memValid mem = true) : ∃ N, RunsL xs id s mem N := by
  by_cases hx : ∃ N, N ≤ 2624 ∧ goesB xs.length (iterS xs id s mem N).1 = false
  · obtain ⟨N, n1, n2⟩ := hx
    obtain ⟨M, m1, m2, m3⟩ := first_time (p := fun i => !goesB xs.length (iterS xs id s mem i).1) N (by rw [n2]; rfl)
    refine ⟨M, by omega, fun j hj => ?_, ?_⟩
    · have := m3 j hj
      simpa using this
    · simpa using m2
  · exfalso
    have hall : ∀ j, j < 2625 → goesB xs.length (iterS xs id s mem j).1 = true := fun j hj => by
      cases hg : goesB xs.length (iterS xs id s mem j).1 with
      | true => rfl
      | false => exact absurd ⟨j, by omega, hg⟩ hx
    have h1 := iterS_left hv hid h hm 2625 hall
    have h2 := left_nonneg hv (iterS_ok hv hid h hm 2625).1
    have h3 := left_le hv h
    omega
theorem runsL_uniq {N M : Nat} (h : RunsL xs id s mem N) (k : RunsL xs id s mem M) : N = M := by
  rcases Nat.lt_trichotomy N M with h1 | h1 | h1
  · have := k.before N h1; rw [h.stop] at this; cases this
  · exact h1
  · have := h.before M h1; rw [k.stop] at this; cases this
theorem goesB_parts {n : Nat} {s : LS} : goesB n s = true ↔ s.wait = false ∧ s.pc ≠ n := by
  unfold goesB
  rw [Bool.and_eq_true, Bool.not_eq_true', Bool.not_eq_true']
  simp
theorem goesB_no {n : Nat} {s : LS} : goesB n s = false ↔ s.wait = true ∨ s.pc = n := by
  unfold goesB
  cases hw : s.wait <;> simp
theorem clear_goes {n : Nat} {s : LS} (h : goesB n s = true) : clearW s = s := by
  have := (goesB_parts.1 h).1
  unfold clearW
  rw [← this]
/-- a crowd of one lane. -/
def oneS (xs : List Cd) (s : LS) (mem : List Int) : Nat → LS × List Int
  | 0 => (s, mem)
  | i + 1 => (clearW (stepS xs 0 (oneS xs s mem i).1 (oneS xs s mem i).2).1, (stepS xs 0 (oneS xs s mem i).1 (oneS xs s mem i).2).2)
theorem pass_one (n : Nat) (s : LS) : passS n [s] = [clearW s] := by
  unfold passS
  cases h : goesB n s with
  | true => rw [if_pos (by simp [h]), clear_goes h]
  | false => rw [if_neg (by simp [h])]; rfl
theorem seq_one {f : Nat → Nat} (hf : ∀ i, f i = 0) (i : Nat) : seqC xs f [s] mem i = ([(oneS xs s mem i).1], (oneS xs s mem i).2) := by
  induction i with
  | zero => rfl
  | succ i ih =>
    have h1 : seqC xs f [s] mem (i + 1) = stepC xs (f i) (seqC xs f [s] mem i).1 (seqC xs f [s] mem i).2 := rfl
    rw [h1, ih, hf i]
    unfold stepC
    simp only [List.set_cons_zero, pass_one, laneAt, List.getD_cons_zero]
    rfl
theorem oneS_add (i j : Nat) : oneS xs s mem (i + j) = oneS xs (oneS xs s mem i).1 (oneS xs s mem i).2 j := by
  induction j with
  | zero => rfl
  | succ j ih =>
    have h1 : oneS xs s mem (i + (j + 1)) = (clearW (stepS xs 0 (oneS xs s mem (i + j)).1 (oneS xs s mem (i + j)).2).1, (stepS xs 0 (oneS xs s mem (i + j)).1 (oneS xs s mem (i + j)).2).2) := rfl
    rw [h1, ih]
    rfl
theorem oneS_iter {N : Nat} (h : ∀ j, j < N → goesB xs.length (iterS xs 0 s mem j).1 = true) (hw : s.wait = false) : ∀ j, j ≤ N → oneS xs s mem j = (clearW (iterS xs 0 s mem j).1, (iterS xs 0 s mem j).2) := by
  intro j
  induction j with
  | zero =>
    intro _
    have e : clearW s = s := by unfold clearW; rw [← hw]
    show (s, mem) = (clearW s, mem)
    rw [e]
  | succ j ih =>
    intro hj
    have h1 := ih (by omega)
    have hg := clear_goes (h j (by omega))
    have h2 : oneS xs s mem (j + 1) = (clearW (stepS xs 0 (oneS xs s mem j).1 (oneS xs s mem j).2).1, (stepS xs 0 (oneS xs s mem j).1 (oneS xs s mem j).2).2) := rfl
    rw [h2, h1, hg]
    rfl
end
/-- what is known of a lane that runs over all barriers, after k runs. -/
structure Chain (xs : List Cd) (mem0 : List Int) (k : Nat) (l : LS) (cells : List Int) : Prop where
  ok : LaneOk xs l
  mem : memValid cells = true
  len : cells.length = mem0.length
  at_ : ∃ i, clearW l = (oneS xs newLS mem0 i).1 ∧ cells = (oneS xs newLS mem0 i).2 ∧ ∀ j, j < i → (oneS xs newLS mem0 j).1.pc ≠ xs.length
  lf : left xs l + k ≤ 2624 ∨ (l.pc = xs.length ∧ l.wait = false ∧ k ≤ 2625)
theorem Chain.start {xs : List Cd} {mem0 : List Int} (hv : progValid xs = true) (hm : memValid mem0 = true) : Chain xs mem0 0 newLS mem0 :=
  ⟨newLS_ok xs, hm, rfl, ⟨0, rfl, rfl, fun j hj => absurd hj (by omega)⟩, .inl (by have := left_le hv (newLS_ok xs); omega)⟩
theorem Chain.next {xs : List Cd} {mem0 : List Int} {k N : Nat} {l : LS} {cells : List Int} (hv : progValid xs = true) (h : Chain xs mem0 k l cells) (hgo : l.wait = true ∨ l.pc < xs.length) (hN : RunsL xs 0 (clearW l) cells N) :
    Chain xs mem0 (k + 1) (iterS xs 0 (clearW l) cells N).1 (iterS xs 0 (clearW l) cells N).2 := by
  have hok := h.ok.clear
  have hi := iterS_ok hv (id := 0) (by omega) hok h.mem N
  obtain ⟨i, i1, i2, i3⟩ := h.at_
  have hl : left xs l + k ≤ 2624 := by
    rcases h.lf with h1 | ⟨h1, h2, h3⟩
    · exact h1
    · rcases hgo with h4 | h4
      · rw [h2] at h4; cases h4
      · omega
  refine ⟨hi.1, hi.2.1, hi.2.2.trans h.len, ⟨i + N, ?_, ?_, ?_⟩, ?_⟩
  · rw [oneS_add, ← i1, ← i2, oneS_iter hN.before rfl N (Nat.le_refl _)]
  · rw [oneS_add, ← i1, ← i2, oneS_iter hN.before rfl N (Nat.le_refl _)]
  · intro j hj
    by_cases h1 : j < i
    · exact i3 j h1
    · have e : j = i + (j - i) := by omega
      rw [e, oneS_add, ← i1, ← i2, oneS_iter hN.before rfl (j - i) (by omega)]
      exact (goesB_parts.1 (hN.before (j - i) (by omega))).2
  · by_cases hp : l.pc < xs.length
    · left
      have h1 := iterS_left hv (id := 0) (by omega) hok h.mem N hN.before
      have h2 : left xs (clearW l) = left xs l := rfl
      have h3 : 1 ≤ N := by
        rcases Nat.eq_zero_or_pos N with h0 | h0
        · exfalso
          have := hN.stop
          rw [h0] at this
          rcases goesB_no.1 this with h4 | h4
          · cases h4
          · have h5 : (clearW l).pc = xs.length := h4
            have h6 : (clearW l).pc = l.pc := rfl
            omega
        · exact h0
      omega
    · right
      have hpc := h.ok.pc
      have h0 : N = 0 := by
        rcases Nat.eq_zero_or_pos N with h0 | h0
        · exact h0
        · exfalso
          have := (goesB_parts.1 (hN.before 0 h0)).2
          have h6 : (iterS xs 0 (clearW l) cells 0).1.pc = l.pc := rfl
          omega
      subst h0
      have hn := left_nonneg hv h.ok
      refine ⟨?_, rfl, by omega⟩
      show l.pc = _
      omega
/-- the run is over: the memory is that of the crowd of one lane. -/
theorem Chain.done {xs : List Cd} {mem0 : List Int} {k : Nat} {l : LS} {cells : List Int} (hv : progValid xs = true) (h : Chain xs mem0 k l cells) (hp : ¬ (l.wait = true ∨ l.pc < xs.length) ∨ 3000 < k) {f : Nat → Nat} (hf : ∀ i, f i = 0) {N : Nat} (hN : Runs xs f 1 mem0 N) :
    (seqC xs f (List.replicate 1 newLS) mem0 N).2 = cells := by
  have hn := left_nonneg hv h.ok
  have hpc := h.ok.pc
  have hend : l.pc = xs.length := by
    rcases h.lf with h1 | h1
    · rcases hp with hp | hp
      · have : ¬ l.pc < xs.length := fun e => hp (.inr e)
        omega
      · omega
    · exact h1.1
  obtain ⟨i, i1, i2, i3⟩ := h.at_
  have hrep : List.replicate 1 newLS = [newLS] := rfl
  have ho : ∀ j, overB xs.length (seqC xs f (List.replicate 1 newLS) mem0 j).1 = ((oneS xs newLS mem0 j).1.pc == (xs.length : Int)) := fun j => by
    rw [hrep, seq_one hf]
    simp [overB]
  have hi : (oneS xs newLS mem0 i).1.pc = xs.length := by rw [← i1]; exact hend
  have e : N = i := by
    rcases Nat.lt_trichotomy N i with h1 | h1 | h1
    · exfalso
      have := hN.over
      rw [ho] at this
      exact i3 N h1 (by simpa using this)
    · exact h1
    · exfalso
      have := hN.before i h1
      rw [ho, hi] at this
      simp at this
  subst e
  rw [hrep, seq_one hf]
  exact i2.symm
/-- running a lane until it waits, in two parts. -/
theorem runsL_next {xs : List Cd} {id : Int} {s : LS} {mem : List Int} {N : Nat} (h : RunsL xs id s mem N) (hg : goesB xs.length s = true) : ∃ M, N = M + 1 ∧ RunsL xs id (stepS xs id s mem).1 (stepS xs id s mem).2 M := by
  cases N with
  | zero => have := h.stop; rw [show (iterS xs id s mem 0).1 = s from rfl, hg] at this; cases this
  | succ M =>
    refine ⟨M, rfl, by have := h.le; omega, fun j hj => ?_, ?_⟩
    · rw [← iterS_front]; exact h.before (j + 1) (by omega)
    · rw [← iterS_front]; exact h.stop
/-! ### when a crowd is over no lane waits -/
def doneB (n : Nat) (ss : List LS) : Bool := ss.all fun s => !s.wait && s.pc == (n : Int)
def Settled (n : Nat) (ss : List LS) : Prop := overB n ss = true → ∀ s ∈ ss, s.wait = false
theorem Settled.done {n : Nat} {ss : List LS} (h : Settled n ss) : doneB n ss = overB n ss := by
  cases ho : overB n ss with
  | true =>
    have h1 := h ho
    unfold doneB
    unfold overB at ho
    rw [List.all_eq_true] at ho ⊢
    intro s hs
    rw [h1 s hs, ho s hs]; rfl
  | false =>
    unfold overB at ho
    unfold doneB
    rw [List.all_eq_false] at ho ⊢
    obtain ⟨s, hs, h2⟩ := ho
    exact ⟨s, hs, by simp at h2 ⊢; exact fun _ => h2⟩
theorem passS_settled (n : Nat) (ss : List LS) : Settled n (passS n ss) := by
  intro ho s hs
  unfold passS at ho hs
  split at hs
  · rename_i h
    rw [if_pos h] at ho
    exfalso
    rw [List.any_eq_true] at h
    obtain ⟨a, ha, hg⟩ := h
    unfold overB at ho
    rw [List.all_eq_true] at ho
    have h1 := ho a ha
    have h2 := (goesB_parts.1 hg).2
    simp at h1
    exact h2 h1
  · obtain ⟨a, _, rfl⟩ := List.mem_map.1 hs
    rfl
theorem new_settled (n k : Nat) : Settled n (List.replicate k newLS) := by
  intro _ s hs
  rw [(List.mem_replicate.1 hs).2]; rfl
theorem seqC_settled {xs : List Cd} {f : Nat → Nat} {k : Nat} {mem : List Int} (i : Nat) : Settled xs.length (seqC xs f (List.replicate k newLS) mem i).1 := by
  cases i with
  | zero => exact new_settled _ _
  | succ i => exact passS_settled _ _
/-! ### a step of one lane, seen from the others -/
theorem laneAt_set_ne {ss : List LS} {k j : Nat} (s : LS) (h : j ≠ k) : laneAt (ss.set k s) j = laneAt ss j := by
  unfold laneAt
  rw [List.getD, List.getD, List.getElem?_set_ne (fun e => h e.symm)]
theorem laneAt_pass (n : Nat) {ss : List LS} {j : Nat} (hj : j < ss.length) : (laneAt (passS n ss) j).regs = (laneAt ss j).regs ∧ (laneAt (passS n ss) j).pc = (laneAt ss j).pc := by
  unfold passS
  split
  · exact ⟨rfl, rfl⟩
  · rw [laneAt_at (by simpa using hj), laneAt_at hj]
    simp [clearW]
theorem stepC_other {xs : List Cd} {k : Nat} {ss : List LS} {mem : List Int} {j : Nat} (hj : j < ss.length) (h : j ≠ k) :
    (laneAt (stepC xs k ss mem).1 j).regs = (laneAt ss j).regs ∧ (laneAt (stepC xs k ss mem).1 j).pc = (laneAt ss j).pc := by
  unfold stepC
  have h1 := laneAt_pass xs.length (ss := ss.set k (stepS xs (k : Int) (laneAt ss k) mem).1) (j := j) (by simpa using hj)
  rw [laneAt_set_ne _ h] at h1
  exact h1
/-- where no lane goes on none waits. -/
theorem pass_stuck (n : Nat) (ss : List LS) (h : (passS n ss).any (goesB n) = false) : ∀ s ∈ passS n ss, s.wait = false := by
  intro s hs
  unfold passS at h hs
  split at hs
  · rename_i h1
    rw [if_pos h1, h1] at h
    cases h
  · obtain ⟨a, _, rfl⟩ := List.mem_map.1 hs
    rfl
end Go.Proofs.Ythpabcgnijfiaaa

namespace Go.Proofs.Ythpabcgnijfiaaa
set_option maxHeartbeats 1000000
set_option linter.unusedVariables false

theorem mod_reach {L i idx : Nat} (h : idx < L) : ∃ d, d < L ∧ (i + d) % L = idx := by
  have h1 := Nat.mod_lt i (show 0 < L by omega)
  have h2 := Nat.div_add_mod i L
  by_cases hc : i % L ≤ idx
  · refine ⟨idx - i % L, by omega, ?_⟩
    have e : i + (idx - i % L) = L * (i / L) + idx := by omega
    rw [e, Nat.mul_add_mod, Nat.mod_eq_of_lt h]
  · refine ⟨idx + L - i % L, by omega, ?_⟩
    have e : i + (idx + L - i % L) = L * (i / L + 1) + idx := by rw [Nat.mul_add, Nat.mul_one]; omega
    rw [e, Nat.mul_add_mod, Nat.mod_eq_of_lt h]
structure OrdOk (os : List Int) (n : Nat) : Prop where
  n8 : 1 ≤ n ∧ n ≤ 8
  len : 1 ≤ os.length ∧ os.length ≤ 40
  lt : ∀ i, orderAt os i < n
  at_ : ∀ i, os.getD (i % os.length) 0 = (orderAt os i : Int)
  all : ∀ k, k < n → ∀ i, ∃ d, d < 40 ∧ orderAt os (i + d) = k
theorem order_ok {os : List Int} {z : Int} (h : orderValid os z = true) : ∃ n : Nat, z = n ∧ OrdOk os n := by
  unfold orderValid at h
  simp only [Bool.and_eq_true, decide_eq_true_eq] at h
  obtain ⟨⟨⟨h1, h2⟩, h3⟩, h4⟩ := h
  have h1 := inB_t h1
  obtain ⟨n, rfl⟩ := Int.eq_ofNat_of_zero_le (show 0 ≤ z by omega)
  rw [List.all_eq_true] at h3 h4
  have hat : ∀ k, k < n → ∃ idx, ∃ h : idx < os.length, os[idx] = (k : Int) := fun k hk => by
    have := h4 k (List.mem_range.2 (by simpa using hk))
    unfold hasB at this
    rw [List.any_eq_true] at this
    obtain ⟨y, hy, he⟩ := this
    obtain ⟨idx, hi, rfl⟩ := List.mem_iff_getElem.1 hy
    exact ⟨idx, hi, by simpa using he⟩
  have hpos : 1 ≤ os.length := by
    obtain ⟨idx, hi, _⟩ := hat 0 (by omega)
    omega
  have hlt : ∀ i, 0 ≤ os.getD (i % os.length) 0 ∧ os.getD (i % os.length) 0 ≤ (n : Int) - 1 := fun i => by
    have hm := Nat.mod_lt i (show 0 < os.length by omega)
    rw [List.getD, List.getElem?_eq_getElem hm]
    exact inB_t (h3 _ (List.getElem_mem hm))
  refine ⟨n, rfl, by omega, ⟨hpos, h2⟩, fun i => ?_, fun i => ?_, fun k hk i => ?_⟩
  · have := hlt i
    unfold orderAt
    omega
  · have := hlt i
    unfold orderAt
    omega
  · obtain ⟨idx, hi, he⟩ := hat k hk
    obtain ⟨d, hd, hm⟩ := mod_reach (i := i) hi
    refine ⟨d, by omega, ?_⟩
    unfold orderAt
    rw [hm, List.getD, List.getElem?_eq_getElem hi]
    simp [he]
theorem order_runs {xs : List Cd} {os : List Int} {n : Nat} {mem : List Int} (hv : progValid xs = true) (hm : memValid mem = true) (ho : OrdOk os n) : ∃ N, Runs xs (orderAt os) n mem N :=
  runs_of hv hm ho.n8 ho.lt (L := 40) (Nat.le_refl _) ho.all
/-- the memory that a run leaves. -/
def ranB (xs : List Cd) (z : Int) (mem os : List Int) : Bool := progValid xs && memValid mem && orderValid os z
/-- an order that is listed twice. -/
theorem orderAt_twice (os : List Int) (h : 1 ≤ os.length) (i : Nat) : orderAt (os ++ os) i = orderAt os i := by
  unfold orderAt
  congr 1
  rw [List.length_append]
  have h1 := Nat.mod_lt i (show 0 < os.length by omega)
  have h2 := Nat.mod_lt i (show 0 < os.length + os.length by omega)
  have h3 := Nat.div_add_mod i (os.length + os.length)
  have h4 : i % os.length = (i % (os.length + os.length)) % os.length := by
    conv => lhs; rw [← h3]
    rw [show (os.length + os.length) * (i / (os.length + os.length)) = os.length * (2 * (i / (os.length + os.length))) from by rw [← Nat.mul_assoc]; congr 1; omega, Nat.mul_add_mod]
  generalize i % (os.length + os.length) = r at *
  simp only [List.getD]
  by_cases hc : r < os.length
  · rw [Nat.mod_eq_of_lt hc] at h4
    rw [h4, List.getElem?_append_left hc]
  · have e : r % os.length = r - os.length := by
      have : r = os.length * 1 + (r - os.length) := by omega
      rw [this, Nat.mul_add_mod, Nat.mod_eq_of_lt (by omega)]
      omega
    rw [h4, e, List.getElem?_append_right (by omega)]
theorem orderValid_twice {os : List Int} {z : Int} (h : orderValid os z = true) (hl : 2 * os.length ≤ 40) : orderValid (os ++ os) z = true := by
  unfold orderValid at h ⊢
  simp only [Bool.and_eq_true, decide_eq_true_eq] at h ⊢
  obtain ⟨⟨⟨h1, h2⟩, h3⟩, h4⟩ := h
  refine ⟨⟨⟨h1, by simp; omega⟩, by simp [List.all_append, h3]⟩, ?_⟩
  rw [List.all_eq_true] at h4 ⊢
  intro x hx
  have := h4 x hx
  unfold hasB at this ⊢
  rw [List.any_append, this]; rfl
theorem runs_congr {xs : List Cd} {f g : Nat → Nat} {n : Nat} {mem : List Int} {N : Nat} (h : ∀ i, f i = g i) (hR : Runs xs f n mem N) : Runs xs g n mem N := by
  have e : f = g := funext h
  subst e; exact hR
theorem runs_uniq {xs : List Cd} {f : Nat → Nat} {n : Nat} {mem : List Int} {N M : Nat} (h : Runs xs f n mem N) (k : Runs xs f n mem M) : N = M := by
  rcases Nat.lt_trichotomy N M with h1 | h1 | h1
  · have := k.before N h1; rw [h.over] at this; cases this
  · exact h1
  · have := h.before M h1; rw [k.over] at this; cases this
/-- the answer of a run: the memory, or nothing. -/
def RanTo (xs : List Cd) (z : Int) (mem os out : List Int) : Prop :=
  (ranB xs z mem os = false ∧ out = []) ∨ (ranB xs z mem os = true ∧ ∃ n : Nat, z = n ∧ OrdOk os n ∧ ∃ N, Runs xs (orderAt os) n mem N ∧ out = (seqC xs (orderAt os) (List.replicate n newLS) mem N).2)
theorem ranTo_ex (xs : List Cd) (z : Int) (mem os : List Int) : ∃ out, RanTo xs z mem os out := by
  cases h : ranB xs z mem os with
  | false => exact ⟨[], .inl ⟨h, rfl⟩⟩
  | true =>
    have h2 := h
    unfold ranB at h2
    simp only [Bool.and_eq_true] at h2
    obtain ⟨n, e, ho⟩ := order_ok h2.2
    obtain ⟨N, hN⟩ := order_runs h2.1.1 h2.1.2 ho
    exact ⟨_, .inr ⟨h, n, e, ho, N, hN, rfl⟩⟩
theorem ranTo_uniq {xs : List Cd} {z : Int} {mem os a b : List Int} (h : RanTo xs z mem os a) (k : RanTo xs z mem os b) : a = b := by
  rcases h with ⟨h1, rfl⟩ | ⟨h1, n, e, _, N, hN, rfl⟩
  · rcases k with ⟨_, rfl⟩ | ⟨k1, _⟩
    · rfl
    · rw [h1] at k1; cases k1
  · rcases k with ⟨k1, _⟩ | ⟨_, n', e', _, N', hN', rfl⟩
    · rw [h1] at k1; cases k1
    · have : n = n' := by omega
      subst this
      rw [runs_uniq hN hN']
theorem ranTo_len {xs : List Cd} {z : Int} {mem os out : List Int} (h : RanTo xs z mem os out) : out.length ≤ 32 ∧ (out ≠ [] → ranB xs z mem os = true ∧ memValid out = true ∧ out.length = mem.length) := by
  rcases h with ⟨h1, rfl⟩ | ⟨h1, n, e, ho, N, hN, rfl⟩
  · exact ⟨by simp, fun h => absurd rfl h⟩
  · have h2 := h1
    unfold ranB at h2
    simp only [Bool.and_eq_true] at h2
    have hl : (List.replicate n newLS).length = n := by simp
    have := seqC_ok (f := orderAt os) (newCrowd_ok h2.1.1 h2.1.2 ho.n8) (by rw [hl]; exact ho.lt) N
    have hm := memValid_parts.1 h2.1.2
    exact ⟨by rw [this.2.2]; omega, fun _ => ⟨h1, this.1.mem, this.2.2⟩⟩
theorem ranTo_empty {xs : List Cd} {z : Int} {mem os out : List Int} (h : RanTo xs z mem os out) (hv : ranB xs z mem os = true) : out.length = mem.length ∧ 1 ≤ out.length := by
  rcases h with ⟨h1, rfl⟩ | ⟨h1, n, e, ho, N, hN, rfl⟩
  · rw [hv] at h1; cases h1
  · have h2 := h1
    unfold ranB at h2
    simp only [Bool.and_eq_true] at h2
    have hl : (List.replicate n newLS).length = n := by simp
    have := seqC_ok (f := orderAt os) (newCrowd_ok h2.1.1 h2.1.2 ho.n8) (by rw [hl]; exact ho.lt) N
    have hm := memValid_parts.1 h2.1.2
    exact ⟨this.2.2, by rw [this.2.2]; omega⟩
end Go.Proofs.Ythpabcgnijfiaaa
