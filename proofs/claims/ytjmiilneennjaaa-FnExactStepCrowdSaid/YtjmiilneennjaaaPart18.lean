/-
  Parts of a proof: PlainCrowd, CLane, CSame, CLane2, CLane3, CCrowd.
-/
import Derived.Test.YtjmiilneennjaaaPart07
import Derived.Test.YtjmiilneennjaaaPart03
import Derived.Test.YtjmiilneennjaaaPart06
import Derived.Deep.AppendLies
import Derived.Test.YtjmiilneennjaaaPart01
import Derived.Deep.RegionLaw
namespace Go.Proofs.Ytjmiilneennjaaa
set_option maxHeartbeats 1000000
set_option linter.unusedVariables false

def lsNil : LS := ⟨[], 0, [], false⟩
def laneAt (ss : List LS) (k : Nat) : LS := ss.getD k lsNil
theorem laneAt_at {ss : List LS} {k : Nat} (h : k < ss.length) : laneAt ss k = ss[k] := by
  unfold laneAt; rw [List.getD, List.getElem?_eq_getElem h]; rfl
def clearW (s : LS) : LS := ⟨s.regs, s.pc, s.turns, false⟩
def passS (n : Nat) (ss : List LS) : List LS := if ss.any (goesB n) then ss else ss.map clearW
theorem passS_len (n : Nat) (ss : List LS) : (passS n ss).length = ss.length := by
  unfold passS; split <;> simp
/-- a step of lane k of a crowd, and the barrier behind it. -/
def stepC (xs : List Cd) (k : Nat) (ss : List LS) (mem : List Int) : List LS × List Int :=
  (passS xs.length (ss.set k (stepS xs (k : Int) (laneAt ss k) mem).1), (stepS xs (k : Int) (laneAt ss k) mem).2)
def overB (n : Nat) (ss : List LS) : Bool := ss.all fun s => s.pc == (n : Int)
structure CrowdOk (xs : List Cd) (ss : List LS) (mem : List Int) : Prop where
  prog : progValid xs = true
  mem : memValid mem = true
  len : 1 ≤ ss.length ∧ ss.length ≤ 8
  lanes : ∀ s ∈ ss, LaneOk xs s
theorem CrowdOk.at_ {xs : List Cd} {ss : List LS} {mem : List Int} (h : CrowdOk xs ss mem) {k : Nat} (hk : k < ss.length) : LaneOk xs (laneAt ss k) := by
  rw [laneAt_at hk]; exact h.lanes _ (List.getElem_mem hk)
theorem LaneOk.clear {xs : List Cd} {s : LS} (h : LaneOk xs s) : LaneOk xs (clearW s) :=
  ⟨h.pc, h.regs, h.words, fun hw => by simp [clearW] at hw, h.len, h.turns⟩
theorem passS_ok {xs : List Cd} {ss : List LS} (h : ∀ s ∈ ss, LaneOk xs s) (n : Nat) : ∀ s ∈ passS n ss, LaneOk xs s := by
  unfold passS
  split
  · exact h
  · intro s hs
    obtain ⟨a, ha, rfl⟩ := List.mem_map.1 hs
    exact (h a ha).clear
theorem stepC_ok {xs : List Cd} {ss : List LS} {mem : List Int} {k : Nat} (h : CrowdOk xs ss mem) (hk : k < ss.length) :
    CrowdOk xs (stepC xs k ss mem).1 (stepC xs k ss mem).2 ∧ (stepC xs k ss mem).1.length = ss.length ∧ (stepC xs k ss mem).2.length = mem.length := by
  have hl := h.len
  have h1 := stepS_ok h.prog (id := (k : Int)) (by omega) (h.at_ hk) h.mem
  have hlen : (stepC xs k ss mem).1.length = ss.length := by unfold stepC; rw [passS_len]; exact List.length_set
  refine ⟨⟨h.prog, h1.2.1, by rw [hlen]; exact hl, ?_⟩, hlen, h1.2.2⟩
  refine passS_ok (fun s hs => ?_) _
  rcases List.mem_or_eq_of_mem_set hs with h2 | h2
  · exact h.lanes s h2
  · rw [h2]; exact h1.1
/-- the state after i steps of the lanes f 0, f 1, .. -/
def seqC (xs : List Cd) (f : Nat → Nat) (ss : List LS) (mem : List Int) : Nat → List LS × List Int
  | 0 => (ss, mem)
  | i + 1 => stepC xs (f i) (seqC xs f ss mem i).1 (seqC xs f ss mem i).2
theorem seqC_ok {xs : List Cd} {f : Nat → Nat} {ss : List LS} {mem : List Int} (h : CrowdOk xs ss mem) (hf : ∀ i, f i < ss.length) (i : Nat) :
    CrowdOk xs (seqC xs f ss mem i).1 (seqC xs f ss mem i).2 ∧ (seqC xs f ss mem i).1.length = ss.length ∧ (seqC xs f ss mem i).2.length = mem.length := by
  induction i with
  | zero => exact ⟨h, rfl, rfl⟩
  | succ i ih =>
    have := stepC_ok ih.1 (k := f i) (by rw [ih.2.1]; exact hf i)
    exact ⟨this.1, this.2.1.trans ih.2.1, this.2.2.trans ih.2.2⟩
theorem seqC_congr {xs : List Cd} {f g : Nat → Nat} {ss : List LS} {mem : List Int} (h : ∀ i, f i = g i) (i : Nat) : seqC xs f ss mem i = seqC xs g ss mem i := by
  induction i with
  | zero => rfl
  | succ i ih => unfold seqC; rw [ih, h i]
/-! ### the end -/
def leftAll (xs : List Cd) (ss : List LS) : Int := (ss.map (left xs)).sum
theorem leftAll_cons (xs : List Cd) (s : LS) (ss : List LS) : leftAll xs (s :: ss) = left xs s + leftAll xs ss := by simp [leftAll]
theorem leftAll_set (xs : List Cd) (s : LS) : ∀ (ss : List LS) (k : Nat), k < ss.length → leftAll xs (ss.set k s) = leftAll xs ss - left xs (laneAt ss k) + left xs s := by
  intro ss
  induction ss with
  | nil => intro k hk; simp at hk
  | cons a ss ih =>
    intro k hk
    cases k with
    | zero => simp only [List.set_cons_zero, leftAll_cons]; simp only [laneAt, List.getD_cons_zero]; omega
    | succ k =>
      have := ih k (by simpa using hk)
      simp only [List.set_cons_succ, leftAll_cons]
      simp only [laneAt, List.getD_cons_succ] at this ⊢
      omega
theorem leftAll_map (xs : List Cd) (g : LS → LS) (hg : ∀ s, left xs (g s) = left xs s) (ss : List LS) : leftAll xs (ss.map g) = leftAll xs ss := by
  induction ss with
  | nil => rfl
  | cons a ss ih => rw [List.map_cons, leftAll_cons, leftAll_cons, ih, hg]
theorem leftAll_pass (xs : List Cd) (n : Nat) (ss : List LS) : leftAll xs (passS n ss) = leftAll xs ss := by
  unfold passS
  split
  · rfl
  · exact leftAll_map xs clearW (fun s => rfl) ss
theorem leftAll_nonneg {xs : List Cd} (hv : progValid xs = true) : ∀ ss : List LS, (∀ s ∈ ss, LaneOk xs s) → 0 ≤ leftAll xs ss ∧ leftAll xs ss ≤ 2624 * (ss.length : Int) := by
  intro ss
  induction ss with
  | nil => intro _; simp [leftAll]
  | cons a ss ih =>
    intro h
    have h1 := ih fun s hs => h s (List.mem_cons_of_mem _ hs)
    have h2 := left_nonneg hv (h a (List.mem_cons_self ..))
    have h3 := left_le hv (h a (List.mem_cons_self ..))
    rw [leftAll_cons, List.length_cons]
    omega
/-- behind a barrier some lane goes on, or all are at the end. -/
theorem pass_live (n : Nat) (ss : List LS) : (passS n ss).any (goesB n) = true ∨ overB n (passS n ss) = true := by
  unfold passS
  cases h : ss.any (goesB n) with
  | true => exact .inl h
  | false =>
    simp only [Bool.false_eq_true, if_false]
    cases h2 : overB n (ss.map clearW) with
    | true => exact .inr rfl
    | false =>
      left
      unfold overB at h2
      rw [List.all_eq_false] at h2
      obtain ⟨s, hs, hp⟩ := h2
      rw [List.any_eq_true]
      refine ⟨s, hs, ?_⟩
      obtain ⟨a, ha, rfl⟩ := List.mem_map.1 hs
      simp only [goesB, clearW] at hp ⊢
      simpa using hp
section
variable {xs : List Cd} {f : Nat → Nat} {ss : List LS} {mem : List Int}
theorem stepC_still {k : Nat} (hk : k < ss.length) (hg : goesB xs.length (laneAt ss k) = false) (hl : ss.any (goesB xs.length) = true) : stepC xs k ss mem = (ss, mem) := by
  have h1 : stepS xs (k : Int) (laneAt ss k) mem = (laneAt ss k, mem) := by unfold stepS; rw [if_neg (by rw [hg]; simp)]
  have h2 : ss.set k (laneAt ss k) = ss := by rw [laneAt_at hk]; exact List.set_getElem_self hk
  unfold stepC
  rw [h1, h2]
  unfold passS
  rw [if_pos hl]
theorem stepC_left (h : CrowdOk xs ss mem) {k : Nat} (hk : k < ss.length) (hg : goesB xs.length (laneAt ss k) = true) : leftAll xs (stepC xs k ss mem).1 + 1 ≤ leftAll xs ss := by
  have h1 := left_step h.prog (id := (k : Int)) (mem := mem) (h.at_ hk) hg
  unfold stepC
  rw [leftAll_pass, leftAll_set _ _ _ _ hk]
  omega
/-- some lane goes on before long. -/
theorem seq_next (h : CrowdOk xs ss mem) (hf : ∀ i, f i < ss.length) : ∀ (d i : Nat), (seqC xs f ss mem i).1.any (goesB xs.length) = true → goesB xs.length (laneAt (seqC xs f ss mem i).1 (f (i + d))) = true →
    ∃ j, i ≤ j ∧ j ≤ i + d ∧ leftAll xs (seqC xs f ss mem (j + 1)).1 + 1 ≤ leftAll xs (seqC xs f ss mem i).1 := by
  intro d
  induction d with
  | zero =>
    intro i hl hg
    have hk := seqC_ok h hf i
    exact ⟨i, by omega, by omega, stepC_left hk.1 (by rw [hk.2.1]; exact hf i) hg⟩
  | succ d ih =>
    intro i hl hg
    have hk := seqC_ok h hf i
    cases hgi : goesB xs.length (laneAt (seqC xs f ss mem i).1 (f i)) with
    | true => exact ⟨i, by omega, by omega, stepC_left hk.1 (by rw [hk.2.1]; exact hf i) hgi⟩
    | false =>
      have hs : seqC xs f ss mem (i + 1) = seqC xs f ss mem i := stepC_still (by rw [hk.2.1]; exact hf i) hgi hl
      obtain ⟨j, j1, j2, j3⟩ := ih (i + 1) (by rw [hs]; exact hl) (by rw [hs, show i + 1 + d = i + (d + 1) from by omega]; exact hg)
      rw [hs] at j3
      exact ⟨j, by omega, by omega, j3⟩
theorem any_at {n : Nat} {ss : List LS} (h : ss.any (goesB n) = true) : ∃ k, k < ss.length ∧ goesB n (laneAt ss k) = true := by
  rw [List.any_eq_true] at h
  obtain ⟨s, hs, hg⟩ := h
  obtain ⟨k, hk, rfl⟩ := List.mem_iff_getElem.1 hs
  exact ⟨k, hk, by rw [laneAt_at hk]; exact hg⟩
theorem seq_ends (h : CrowdOk xs ss mem) (hf : ∀ i, f i < ss.length) {L : Nat} (hall : ∀ k, k < ss.length → ∀ i, ∃ d, d < L ∧ f (i + d) = k) :
    ∀ (T i : Nat), ((seqC xs f ss mem i).1.any (goesB xs.length) = true ∨ overB xs.length (seqC xs f ss mem i).1 = true) → leftAll xs (seqC xs f ss mem i).1 ≤ T → ∃ N, N ≤ i + L * (T + 1) ∧ overB xs.length (seqC xs f ss mem N).1 = true := by
  intro T
  induction T with
  | zero =>
    intro i hi hT
    rcases hi with hi | hi
    · exfalso
      have hk := seqC_ok h hf i
      obtain ⟨k, hk1, hk2⟩ := any_at hi
      obtain ⟨d, hd, hfd⟩ := hall k (by rw [← hk.2.1]; exact hk1) i
      obtain ⟨j, j1, j2, j3⟩ := seq_next h hf d i hi (by rw [hfd]; exact hk2)
      have := (leftAll_nonneg h.prog _ (seqC_ok h hf (j + 1)).1.lanes).1
      omega
    · exact ⟨i, by omega, hi⟩
  | succ T ih =>
    intro i hi hT
    rcases hi with hi | hi
    · have hk := seqC_ok h hf i
      obtain ⟨k, hk1, hk2⟩ := any_at hi
      obtain ⟨d, hd, hfd⟩ := hall k (by rw [← hk.2.1]; exact hk1) i
      obtain ⟨j, j1, j2, j3⟩ := seq_next h hf d i hi (by rw [hfd]; exact hk2)
      obtain ⟨N, n1, n2⟩ := ih (j + 1) (by unfold seqC stepC; exact pass_live _ _) (by omega)
      refine ⟨N, ?_, n2⟩
      rw [Nat.mul_succ]
      omega
    · exact ⟨i, by omega, hi⟩
end
/-- the first time that p holds. -/
theorem first_time {p : Nat → Bool} : ∀ N, p N = true → ∃ M, M ≤ N ∧ p M = true ∧ ∀ j, j < M → p j = false := by
  intro N
  induction N using Nat.strongRecOn with
  | _ N ih =>
    intro h
    by_cases hx : ∃ j, j < N ∧ p j = true
    · obtain ⟨j, hj, hp⟩ := hx
      obtain ⟨M, m1, m2⟩ := ih j hj hp
      exact ⟨M, by omega, m2⟩
    · refine ⟨N, Nat.le_refl _, h, fun j hj => ?_⟩
      cases hp : p j with
      | false => rfl
      | true => exact absurd ⟨j, hj, hp⟩ hx
/-! ### runs in an order -/
def newLS : LS := ⟨[0, 0, 0, 0], 0, [], false⟩
def orderAt (os : List Int) (i : Nat) : Nat := (os.getD (i % os.length) 0).toNat
theorem newLS_ok (xs : List Cd) : LaneOk xs newLS := by
  refine ⟨⟨by simp [newLS], by simp [newLS]⟩, rfl, by simp [newLS], by simp [newLS], ?_, by simp [newLS]⟩
  simp [newLS, loopsAt, stk]
theorem newCrowd_ok {xs : List Cd} {mem : List Int} {n : Nat} (hv : progValid xs = true) (hm : memValid mem = true) (hn : 1 ≤ n ∧ n ≤ 8) : CrowdOk xs (List.replicate n newLS) mem :=
  ⟨hv, hm, by simpa using hn, fun s hs => by rw [(List.mem_replicate.1 hs).2]; exact newLS_ok xs⟩
theorem new_live (n : Nat) (k : Nat) (hk : 1 ≤ k) : (List.replicate k newLS).any (goesB n) = true ∨ overB n (List.replicate k newLS) = true := by
  by_cases h : n = 0
  · right
    subst h
    unfold overB
    rw [List.all_eq_true]
    intro s hs
    rw [(List.mem_replicate.1 hs).2]; rfl
  · left
    rw [List.any_eq_true]
    refine ⟨newLS, List.mem_replicate.2 ⟨by omega, rfl⟩, ?_⟩
    unfold goesB newLS
    simp
    omega
/-- what is known of a run in an order: it is over after N steps and not before. -/
structure Runs (xs : List Cd) (f : Nat → Nat) (n : Nat) (mem : List Int) (N : Nat) : Prop where
  le : N ≤ 1000000
  over : overB xs.length (seqC xs f (List.replicate n newLS) mem N).1 = true
  before : ∀ j, j < N → overB xs.length (seqC xs f (List.replicate n newLS) mem j).1 = false
theorem runs_of {xs : List Cd} {f : Nat → Nat} {n : Nat} {mem : List Int} (hv : progValid xs = true) (hm : memValid mem = true) (hn : 1 ≤ n ∧ n ≤ 8) (hf : ∀ i, f i < n) {L : Nat} (hL : L ≤ 40) (hall : ∀ k, k < n → ∀ i, ∃ d, d < L ∧ f (i + d) = k) : ∃ N, Runs xs f n mem N := by
  have hok := newCrowd_ok hv hm hn
  have hlen : (List.replicate n newLS).length = n := by simp
  have hl := leftAll_nonneg hv _ hok.lanes
  rw [hlen] at hl
  obtain ⟨N, n1, n2⟩ := seq_ends hok (f := f) (by rw [hlen]; exact hf) (L := L) (by rw [hlen]; exact hall) 20992 0 (new_live _ _ hn.1) (by show leftAll xs (List.replicate n newLS) ≤ _; omega)
  obtain ⟨M, m1, m2, m3⟩ := first_time (p := fun i => overB xs.length (seqC xs f (List.replicate n newLS) mem i).1) N n2
  refine ⟨M, ?_, m2, m3⟩
  have : L * (20992 + 1) ≤ 40 * (20992 + 1) := Nat.mul_le_mul_right _ hL
  omega
end Go.Proofs.Ytjmiilneennjaaa

namespace Go.Proofs.Ytjmiilneennjaaa
open Go.RowKit
set_option maxHeartbeats 2000000
set_option linter.unusedVariables false

/-- a lane without turns. -/
structure Ln where
  ra : Option Addr
  rc : Nat
  zs : List Int
  at_ : Int
  wt : Bool
abbrev lnR (l : Ln) : Value := .slice l.ra l.zs.length l.rc
abbrev lnCells (l : Ln) : List Value := [lnR l, .int .i64 l.at_, .slice none 0 0, .bool l.wt]
abbrev lnV (l : Ln) : Value := .agg #[.slice l.ra l.zs.length l.rc, .int .i64 l.at_, .slice none 0 0, .bool l.wt]
def lflat (xs : List Ln) : List Value := xs.flatMap lnCells
theorem lflat_cons (a : Ln) (xs : List Ln) : lflat (a :: xs) = lnCells a ++ lflat xs := by simp [lflat]
theorem lflat_append (xs ys : List Ln) : lflat (xs ++ ys) = lflat xs ++ lflat ys := by simp [lflat]
theorem lflat_length (xs : List Ln) : (lflat xs).length = xs.length * 4 := by
  induction xs with
  | nil => rfl
  | cons a xs ih => rw [lflat_cons, List.length_append, ih]; simp [lnCells]; omega
theorem lflat_at (xs : List Ln) (k j : Nat) (hk : k < xs.length) (hj : j < 4) : (lflat xs)[k * 4 + j]? = (lnCells xs[k])[j]? := by
  induction xs generalizing k with
  | nil => simp at hk
  | cons a xs ih =>
    rw [lflat_cons]
    cases k with
    | zero => simp only [Nat.zero_mul, Nat.zero_add]; rw [List.getElem?_append_left (by simp [lnCells]; omega)]; rfl
    | succ k =>
      rw [List.getElem?_append_right (by simp [lnCells]; omega)]
      have : (k + 1) * 4 + j - (lnCells a).length = k * 4 + j := by simp [lnCells]; omega
      rw [this, ih k (by simpa using hk)]
      rfl
theorem Sl.lane {w : World} {A : Option Addr} {xs : List Ln} (h : Sl w A (lflat xs)) {k : Nat} (hk : k < xs.length) :
    ∃ b off, A = some ⟨b, off, none⟩ ∧ w.cell? ⟨b, off + k * 4, none⟩ = some (.slice xs[k].ra xs[k].zs.length xs[k].rc) ∧ w.cell? ⟨b, off + k * 4 + 1, none⟩ = some (.int .i64 xs[k].at_) ∧
      w.cell? ⟨b, off + k * 4 + 2, none⟩ = some (.slice none 0 0) ∧ w.cell? ⟨b, off + k * 4 + 3, none⟩ = some (.bool xs[k].wt) := by
  obtain ⟨b, off, rfl, hc⟩ := h.at_ (k := k * 4) (by rw [lflat_length]; omega)
  refine ⟨b, off, rfl, ?_, ?_, ?_, ?_⟩
  · have := hc (k * 4) _ (lflat_at xs k 0 hk (by omega)); simpa [Nat.add_assoc] using this
  · have := hc (k * 4 + 1) _ (lflat_at xs k 1 hk (by omega)); simpa [Nat.add_assoc] using this
  · have := hc (k * 4 + 2) _ (lflat_at xs k 2 hk (by omega)); simpa [Nat.add_assoc] using this
  · have := hc (k * 4 + 3) _ (lflat_at xs k 3 hk (by omega)); simpa [Nat.add_assoc] using this
theorem lflat_one (xs : List Ln) : ∀ u ∈ lflat xs, u.oneCell' = true := by
  intro u hu
  simp only [lflat, List.mem_flatMap] at hu
  obtain ⟨a, _, h⟩ := hu
  simp only [lnCells, List.mem_cons, List.not_mem_nil, or_false] at h
  rcases h with rfl | rfl | rfl | rfl <;> rfl
theorem El : ElemI Try.prog 30 52 (.agg #[.slice none 0 0, .int .i64 0, .slice none 0 0, .bool false]) 4 64 := ⟨Try.underlying30, by kernel_rfl, rfl, by omega⟩
/-- the lanes' registers lie in blocks of their own, in whatever order. -/
def LanesApart (w : World) (lo : Nat) (ls : List Ln) : Prop :=
  (∀ l ∈ ls, w.ownsRow lo 3 1 (lnR l) l.zs.length (ints l.zs)) ∧ ∀ i j (hi : i < ls.length) (hj : j < ls.length), i ≠ j → ∀ g, (lnR ls[i]).ownBlock = some g → (lnR ls[j]).ownBlock ≠ some g
theorem LanesApart.nil (w : World) (lo : Nat) : LanesApart w lo [] := ⟨fun r hr => absurd hr (by simp), fun i j hi => absurd hi (by simp)⟩
theorem LanesApart.below {w w' : World} {lo : Nat} {ls : List Ln} (h : LanesApart w lo ls) (hb : Below w.heap.size w w') : LanesApart w' lo ls :=
  ⟨fun r hr => own_below (h.1 r hr) hb, h.2⟩
theorem LanesApart.kept {w w' : World} {lo : Nat} {ls : List Ln} {row : Option Nat} (h : LanesApart w lo ls) (hg : w.grownBy w' row) (hne : ∀ l ∈ ls, ∀ g, (lnR l).ownBlock = some g → row ≠ some g) : LanesApart w' lo ls :=
  ⟨fun r hr => own_grown' (h.1 r hr) hg (fun g e1 e2 => hne r hr g e1 e2), h.2⟩
theorem LanesApart.snoc {w w' : World} {lo : Nat} {ls : List Ln} (h : LanesApart w lo ls) (hb : Below w.heap.size w w') (hlo : lo ≤ w.heap.size) (l : Ln) (hl : w'.ownsRow w.heap.size 3 1 (lnR l) l.zs.length (ints l.zs)) : LanesApart w' lo (ls ++ [l]) := by
  have hlt : ∀ k (hk : k < ls.length) g, (lnR ls[k]).ownBlock = some g → g < w.heap.size := fun k hk g e => ((h.1 _ (List.getElem_mem hk)).lt g e).2
  refine ⟨fun s hs => ?_, fun i j hi hj hne g h1 h2 => ?_⟩
  · rcases List.mem_append.1 hs with h1 | h1
    · exact own_below (h.1 s h1) hb
    · rw [List.mem_singleton] at h1
      subst h1
      exact own_base hl hlo
  · rw [List.length_append, List.length_singleton] at hi hj
    rw [List.getElem_append] at h1 h2
    split at h1
    · split at h2
      · exact h.2 i j (by assumption) (by assumption) hne g h1 h2
      · have h3 := hlt i (by assumption) g h1
        rw [List.getElem_singleton] at h2
        have h4 := (hl.lt g h2).1
        omega
    · split at h2
      · have h3 := hlt j (by assumption) g h2
        rw [List.getElem_singleton] at h1
        have h4 := (hl.lt g h1).1
        omega
      · omega
/-! ### a new lane -/
def Fresh (l : Ln) : Prop := l.zs = [0, 0, 0, 0] ∧ l.at_ = 0 ∧ l.wt = false
def RetLane (w : World) (e : Ending) (w' : World) : Prop :=
  ∃ l : Ln, e = .returned (lnV l) ∧ Fresh l ∧ w'.ownsRow w.heap.size 3 1 (lnR l) l.zs.length (ints l.zs) ∧ Below w.heap.size w w'
theorem zeros4 : (madeCells (Value.int .i64 0).cells (4 * 1)).toList = ints [0, 0, 0, 0] := by simp [madeCells, Value.cells, List.range_succ, ints]
theorem box4 {w : World} {B : Nat} {c0 c1 c2 c3 : Value} {ty : TypeId} (h : w.heap[B]? = some (.cells #[c0, c1, c2, c3] ty (0, 0))) :
    (w.cell? ⟨B, 0, none⟩ = some c0 ∧ w.cell? ⟨B, 1, none⟩ = some c1 ∧ w.cell? ⟨B, 2, none⟩ = some c2 ∧ w.cell? ⟨B, 3, none⟩ = some c3) ∧ w.frozen? ⟨B, 0, none⟩ = false ∧ w.frozen? ⟨B, 1, none⟩ = false ∧ w.frozen? ⟨B, 2, none⟩ = false ∧ w.frozen? ⟨B, 3, none⟩ = false :=
  ⟨⟨cell_of_row _ _ _ _ _ _ h, cell_of_row _ _ _ _ _ _ h, cell_of_row _ _ _ _ _ _ h, cell_of_row _ _ _ _ _ _ h⟩, frozen_of_row _ _ _ _ _ h, frozen_of_row _ _ _ _ _ h, frozen_of_row _ _ _ _ _ h, frozen_of_row _ _ _ _ _ h⟩
theorem box2 {w : World} {B : Nat} {c0 c1 : Value} {ty : TypeId} (h : w.heap[B]? = some (.cells #[c0, c1] ty (0, 0))) :
    (w.cell? ⟨B, 0, none⟩ = some c0 ∧ w.cell? ⟨B, 1, none⟩ = some c1) ∧ w.frozen? ⟨B, 0, none⟩ = false ∧ w.frozen? ⟨B, 1, none⟩ = false :=
  ⟨⟨cell_of_row _ _ _ _ _ _ h, cell_of_row _ _ _ _ _ _ h⟩, frozen_of_row _ _ _ _ _ h, frozen_of_row _ _ _ _ _ h⟩
theorem below_new {w w' : World} (o : Obj) (h : Below (w.alloc o).heap.size (w.alloc o) w') : w'.heap[w.heap.size]? = some o := by
  rw [h.block w.heap.size (by simp)]
  exact heap_alloc_new w o
theorem grown_set4l {w w1 : World} {g : Nat} {i j k l : Nat} {a b c d : Value} (h : w.grownBy w1 (some g)) :
    w.grownBy ((((w1.setCell ⟨g, i, none⟩ a).setCell ⟨g, j, none⟩ b).setCell ⟨g, k, none⟩ c).setCell ⟨g, l, none⟩ d) (some g) :=
  grown_setCell' (grown_setCell' (grown_setCell' (grown_setCell' h i a) j b) k c) l d
theorem specNewLane_any (w : World) : Calls Try.prog 96 #[] w (RetLane w) := by
  obtain ⟨i0, hi0, hz0, hz1, hz2⟩ := info_parts Ei.hi
  go_enter Try.func96, Try.ntmps96
  go_wp2_with
    (at_make
     refine wpList_make_full _ rfl _ _ _ rfl w.heap.size _ i0 _ 1 Ei.ht hi0 hz0 hz1 _ _ _ _ 4 rfl rfl rfl rfl (by rw [hz2]; omega) (by simp only [maxLen]; omega) (by simp) ?_
     intro w1 hown1 hg1
     have HO := mkHid hown1
     have HB := mkHid (((Below.refl w.heap.size w).alloc (Nat.le_refl _) _).trans ((grown_belowNone hg1).mono (by simp)))
     obtain ⟨⟨p0, p1, p2, p3⟩, f0, f1, f2, f3⟩ := box4 (below_new _ (grown_belowNone hg1))
     clear hown1 hg1)
  refine bodyPost_ret (v := lnV ⟨some ⟨w.heap.size + 1, 0, none⟩, 4, [0, 0, 0, 0], 0, false⟩) (by simp [results, Try.results96, go_sem, p0, p1, p2, p3]) rfl ⟨_, rfl, ⟨rfl, rfl, rfl⟩, ?_, ?_⟩
  · have h := HO.out
    rw [zeros4] at h
    have e : (w.alloc (.cells #[.slice none 0 0, .int .i64 0, .slice none 0 0, .bool false] 52)).heap.size = w.heap.size + 1 := by simp
    rw [e] at h
    exact own_grown' h (grown_set4l (World.grownBy.refl _ _)) (fun g e1 e2 => by
      have e1' : w.heap.size + 1 = g := by simpa [Value.ownBlock] using e1
      have e2' : w.heap.size = g := by simpa using e2
      omega)
  · exact HB.out.grown (grown_set4l (World.grownBy.refl _ _)) HB.out.size (fun g e => by injection e with e; omega)
end Go.Proofs.Ytjmiilneennjaaa

namespace Go.Proofs.Ytjmiilneennjaaa
open Go.RowKit
set_option maxHeartbeats 400000
set_option maxRecDepth 100000
set_option linter.unusedVariables false
/-! ### sameInts -/
theorem sameInts_ne (A B : Option Addr) (n m c d : Nat) (w : World) (hn : n ≤ 9223372036854775807) (hm : m ≤ 9223372036854775807) (hne : n ≠ m) :
    Calls Try.prog 26 #[.slice A n c, .slice B m d] w fun e w' => e = .returned (.bool false) ∧ ∃ k, w' = w.drewN k := by
  have h : (((n : Int) != (m : Int))) = true := by rw [bne_iff_ne]; omega
  clear hne
  go_enter Try.func26, Try.ntmps26
  go_wp2
  all_goals go_ret
  all_goals exact ⟨rfl, 0, rfl⟩
theorem sameInts_len (A B : Option Addr) (c d : Nat) (xs ys : List Int) (w : World) (hl : xs.length = ys.length) (hn : xs.length ≤ 9223372036854775807) (hx : Sl w A (ints xs)) (hy : Sl w B (ints ys)) :
    Calls Try.prog 26 #[.slice A xs.length c, .slice B xs.length d] w fun e w' => e = .returned (.bool (decide (xs = ys))) ∧ ∃ k, w' = w.drewN k := by
  have HL := mkHid hl
  clear hl
  go_enter Try.func26, Try.ntmps26
  go_wp2
  go_loopw [5] (fun i wr => ∃ k : Nat, k ≤ xs.length ∧ i = .int .i64 k ∧ Hid (xs.take k = ys.take k) ∧ ∃ n, wr = w.drewN n) (fun i _ => xs.length - (intOf i).toNat)
  case atStart => exact ⟨0, by omega, rfl, mkHid (by simp), 0, rfl⟩
  case round =>
    obtain ⟨k, hk, rfl, HT, n, rfl⟩ := hrel
    by_cases hlt : k < xs.length
    · have hky : k < ys.length := by have := HL.out; omega
      obtain ⟨b, off, rfl, hcx⟩ := hx.at_ (k := k) (by simpa using hlt)
      obtain ⟨b', off', rfl, hcy⟩ := hy.at_ (k := k) (by simpa using hky)
      have h1 : w.cell? ⟨b, off + k, none⟩ = some (.int .i64 xs[k]) := hcx k _ (ints_at hlt)
      have h2 : w.cell? ⟨b', off' + k, none⟩ = some (.int .i64 ys[k]) := hcy k _ (ints_at hky)
      clear hcx hcy hx hy
      by_cases he : xs[k] = ys[k]
      · have hb : (xs[k] != ys[k]) = false := by simp [he]
        have HE := mkHid he
        clear he
        go_wp2
        go_quiet (fail)
        go_wp2
        go_roundw
        case rel => exact ⟨k + 1, by omega, by go_num, mkHid (take_succ_eq HT.out hlt hky HE.out), _, by first | rfl | exact World.drewN_drewN _ _ _⟩
        case measure => simp [intOf]; omega
      · have hb : (xs[k] != ys[k]) = true := by simp [he]
        have HE := mkHid he
        clear he
        go_wp2
        go_quiet (fail)
        go_wp2
        go_ret
        refine ⟨ret_bool ?_, _, by first | rfl | exact World.drewN_drewN _ _ _⟩
        symm
        simp only [decide_eq_false_iff_not]
        intro h
        exact HE.out (by simp [h])
    · go_wp2
      go_ret
      refine ⟨ret_bool ?_, _, rfl⟩
      symm
      simp only [decide_eq_true_eq]
      have := HT.out
      rwa [List.take_of_length_le (by omega), List.take_of_length_le (by have := HL.out; omega)] at this
theorem sameInts_any (A B : Option Addr) (c d : Nat) (xs ys : List Int) (w : World) (hn : xs.length ≤ 9223372036854775807) (hm : ys.length ≤ 9223372036854775807) (hx : Sl w A (ints xs)) (hy : Sl w B (ints ys)) :
    Calls Try.prog 26 #[.slice A xs.length c, .slice B ys.length d] w fun e w' => e = .returned (.bool (decide (xs = ys))) ∧ ∃ k, w' = w.drewN k := by
  by_cases hl : xs.length = ys.length
  · rw [← hl]
    exact sameInts_len A B c d xs ys w hl hn hx hy
  · refine (sameInts_ne A B _ _ c d w hn hm hl).mono fun e w' ⟨he, hw⟩ => ⟨?_, hw⟩
    rw [he]
    refine ret_bool ?_
    symm
    simp only [decide_eq_false_iff_not]
    rintro rfl
    exact hl rfl

theorem sameInts_same (A B : Option Addr) (c d : Nat) (xs : List Int) (w : World) (hn : xs.length ≤ 9223372036854775807) (hx : Sl w A (ints xs)) (hy : Sl w B (ints xs)) :
    Calls Try.prog 26 #[.slice A xs.length c, .slice B xs.length d] w fun e w' => e = .returned (.bool true) ∧ ∃ k, w' = w.drewN k :=
  (sameInts_any A B c d xs xs w hn hn hx hy).mono fun e w' ⟨he, hw⟩ => ⟨by rw [he]; simp, hw⟩

end Go.Proofs.Ytjmiilneennjaaa

namespace Go.Proofs.Ytjmiilneennjaaa
open Go.RowKit
set_option maxHeartbeats 2000000
set_option linter.unusedVariables false

def LGrid (w : World) (A : Option Addr) (ls : List Ln) : Prop := Sl w A (lflat ls) ∧ ∀ l ∈ ls, Sl w l.ra (ints l.zs) ∧ l.zs.length ≤ 9223372036854775807
theorem LGrid.below {w w' : World} {A : Option Addr} {ls : List Ln} (h : LGrid w A ls) (hb : Below w.heap.size w w') : LGrid w' A ls :=
  ⟨h.1.below hb, fun l hl => ⟨(h.2 l hl).1.below hb, (h.2 l hl).2⟩⟩
def sameLn (a b : Ln) : Prop := a.zs = b.zs ∧ a.at_ = b.at_ ∧ a.wt = b.wt
def sameLns (xs ys : List Ln) : Prop := xs.length = ys.length ∧ ∀ k (h : k < xs.length) (h' : k < ys.length), sameLn xs[k] ys[k]
theorem eqLane_same (ra rb : Option Addr) (ca cb : Nat) (zs : List Int) (t : Int) (b : Bool) (w : World) (hl : zs.length ≤ 9223372036854775807) (hx : Sl w ra (ints zs)) (hy : Sl w rb (ints zs)) :
    Calls Try.prog 87 #[.agg #[.slice ra zs.length ca, .int .i64 t, .slice none 0 0, .bool b], .agg #[.slice rb zs.length cb, .int .i64 t, .slice none 0 0, .bool b]] w fun e w' => e = .returned (.bool true) ∧ Below w.heap.size w w' := by
  obtain ⟨o1, ho1⟩ : ∃ o1, o1 = Obj.cells #[.slice ra zs.length ca, .int .i64 t, .slice none 0 0, .bool b] 52 := ⟨_, rfl⟩
  obtain ⟨o2, ho2⟩ : ∃ o2, o2 = Obj.cells #[.slice rb zs.length cb, .int .i64 t, .slice none 0 0, .bool b] 52 := ⟨_, rfl⟩
  have hb : Below w.heap.size w ((w.alloc o1).alloc o2) := ((Below.refl _ _).alloc (Nat.le_refl _) _).alloc (by simp) _
  have hE := eqIntS_same ra rb ca cb zs ((w.alloc o1).alloc o2) hl (hx.below hb) (hy.below hb)
  have hN := fun X : World => eqIntS_same none none 0 0 [] X (by simp) (Sl.nil _ _) (Sl.nil _ _)
  have q1 : ∀ k, (((w.alloc o1).alloc o2).drewN k).heap[w.heap.size]? = some o1 := fun k => by
    show ((w.alloc o1).alloc o2).heap[w.heap.size]? = some o1
    rw [heap_alloc_old _ _ (by simp)]; exact heap_alloc_new _ _
  have q2 : ∀ k, (((w.alloc o1).alloc o2).drewN k).heap[w.heap.size + 1]? = some o2 := fun k => by
    show ((w.alloc o1).alloc o2).heap[w.heap.size + 1]? = some o2
    have := heap_alloc_new (w.alloc o1) o2
    simpa using this
  have HB := mkHid hb
  subst ho1 ho2
  have HE := mkHid hE
  have HN := mkHid hN
  have p1 := fun k => (box4 (q1 k)).1
  have p2 := fun k => (box4 (q2 k)).1
  have P1 := mkHid p1
  have P2 := mkHid p2
  clear hE hN q1 q2 hb hx hy p1 p2
  go_enter Try.func87, Try.ntmps87
  go_wp2_with fail
  refine HE.out.mono ?_
  rintro e w2 ⟨rfl, k, rfl⟩
  obtain ⟨a0, a1, a2, a3⟩ := P1.out k
  obtain ⟨b0, b1, b2, b3⟩ := P2.out k
  have HB2 := mkHid (below_drewN HB.out k)
  go_wp2_with fail
  refine (HN.out _).mono ?_
  rintro e w2 ⟨rfl, k2, rfl⟩
  have HB3 := mkHid (below_drewN HB2.out k2)
  rw [World.drewN_drewN] at HB3 ⊢
  obtain ⟨a0, a1, a2, a3⟩ := P1.out (k + k2)
  obtain ⟨b0, b1, b2, b3⟩ := P2.out (k + k2)
  go_wp2_with fail
  go_ret
  exact ⟨rfl, HB3.out⟩
theorem eqLaneS_same (A B : Option Addr) (c d : Nat) (xs ys : List Ln) (w : World) (hl : xs.length ≤ 9223372036854775807) (hs : sameLns xs ys) (hx : LGrid w A xs) (hy : LGrid w B ys) :
    Calls Try.prog 50 #[.slice A xs.length c, .slice B xs.length d] w fun e w' => e = .returned (.bool true) ∧ Below w.heap.size w w' := by
  have HS := mkHid hs
  have HX := mkHid hx
  have HY := mkHid hy
  clear hs hx hy
  go_enter Try.func50, Try.ntmps50
  go_wp2_with fail
  go_loopw [5] (fun i wr => ∃ k : Nat, k ≤ xs.length ∧ i = .int .i64 k ∧ Below w.heap.size w wr) (fun i _ => xs.length - (intOf i).toNat)
  case atStart => exact ⟨0, by omega, rfl, Below.refl _ _⟩
  case round =>
    obtain ⟨k, hk, rfl, hb⟩ := hrel
    have HB := mkHid hb
    have hx' := HX.out.below hb
    have hy' := HY.out.below hb
    clear hb
    by_cases hlt : k < xs.length
    · have hlt2 : k < ys.length := by rw [← HS.out.1]; exact hlt
      obtain ⟨e1, e2, e3⟩ := HS.out.2 k hlt hlt2
      obtain ⟨b, off, rfl, h0, h1, h2, h3⟩ := hx'.1.lane hlt
      obtain ⟨b', off', rfl, g0, g1, g2, g3⟩ := hy'.1.lane hlt2
      have s1 := hx'.2 _ (List.getElem_mem hlt)
      have s2 := hy'.2 _ (List.getElem_mem hlt2)
      rw [← e1] at g0 s2
      rw [← e2] at g1
      rw [← e3] at g3
      generalize ys[k] = y at *
      generalize xs[k] = x at *
      obtain ⟨ra, ca, zs, t, wt⟩ := x
      obtain ⟨rb, cb, zs', t', wt'⟩ := y
      simp only at h0 h1 h3 g0 g1 g3 s1 s2
      have h0 := fun u : Ext wr => u.keeps h0
      have h1 := fun u : Ext wr => u.keeps h1
      have h2 := fun u : Ext wr => u.keeps h2
      have h3 := fun u : Ext wr => u.keeps h3
      have g0 := fun u : Ext wr => u.keeps g0
      have g1 := fun u : Ext wr => u.keeps g1
      have g2 := fun u : Ext wr => u.keeps g2
      have g3 := fun u : Ext wr => u.keeps g3
      have HC := mkHid (fun u : Ext wr => eqLane_same ra rb ca cb zs t wt u.1 s1.2 (s1.1.below u.2) (s2.1.below u.2))
      clear hx' hy' s1 s2 e1 e2 e3
      go_wp2_with fail
      refine wp_region_ext (by kernel_rfl) (by kernel_rfl) ?_
      repeat (go_big_quiet_step ((go_at_call 87; with_reducible exact ext_call (HC.out _))))
      refine wpQuiet_nil (ext_end fun X hX => ?_)
      clear h0 h1 h2 h3 g0 g1 g2 g3
      have HXX := mkHid hX
      clear hX HC
      go_wp2_with fail
      go_roundw
      case rel => exact ⟨k + 1, by omega, by go_num, below_then HB.out HXX.out⟩
      case measure => simp [intOf] <;> omega
    · clear hx' hy'
      go_wp2_with fail
      go_ret
      exact ⟨rfl, HB.out⟩
theorem eqCrowd_same (A B MA MB : Option Addr) (c d mc md : Nat) (xs ys : List Ln) (zs : List Int) (w : World) (hl : xs.length ≤ 9223372036854775807) (hz : zs.length ≤ 9223372036854775807) (hs : sameLns xs ys) (hx : LGrid w A xs) (hy : LGrid w B ys) (h1 : Sl w MA (ints zs)) (h2 : Sl w MB (ints zs)) :
    Calls Try.prog 15 #[.agg #[.slice A xs.length c, .slice MA zs.length mc], .agg #[.slice B xs.length d, .slice MB zs.length md]] w fun e w' => e = .returned (.bool true) ∧ Below w.heap.size w w' := by
  obtain ⟨o1, ho1⟩ : ∃ o1, o1 = Obj.cells #[.slice A xs.length c, .slice MA zs.length mc] 32 := ⟨_, rfl⟩
  obtain ⟨o2, ho2⟩ : ∃ o2, o2 = Obj.cells #[.slice B xs.length d, .slice MB zs.length md] 32 := ⟨_, rfl⟩
  have hb : Below w.heap.size w ((w.alloc o1).alloc o2) := ((Below.refl _ _).alloc (Nat.le_refl _) _).alloc (by simp) _
  have hE := eqLaneS_same A B c d xs ys ((w.alloc o1).alloc o2) hl hs (hx.below hb) (hy.below hb)
  have q1 : ((w.alloc o1).alloc o2).heap[w.heap.size]? = some o1 := by
    rw [heap_alloc_old _ _ (by simp)]; exact heap_alloc_new _ _
  have q2 : ((w.alloc o1).alloc o2).heap[w.heap.size + 1]? = some o2 := by
    have := heap_alloc_new (w.alloc o1) o2
    simpa using this
  have HB := mkHid hb
  have Q1 := mkHid (fun X (hX : Below ((w.alloc o1).alloc o2).heap.size ((w.alloc o1).alloc o2) X) => (hX.block w.heap.size (by simp; omega)).trans q1)
  have Q2 := mkHid (fun X (hX : Below ((w.alloc o1).alloc o2).heap.size ((w.alloc o1).alloc o2) X) => (hX.block (w.heap.size + 1) (by simp)).trans q2)
  subst ho1 ho2
  have HE := mkHid hE
  have H1 := mkHid h1
  have H2 := mkHid h2
  clear hE hb q1 q2 hx hy h1 h2 hs
  go_enter Try.func15, Try.ntmps15
  go_wp2_with fail
  refine HE.out.mono ?_
  rintro e w2 ⟨rfl, b2⟩
  obtain ⟨p0, p1⟩ := (box2 (Q1.out w2 b2)).1
  obtain ⟨r0, r1⟩ := (box2 (Q2.out w2 b2)).1
  have HB2 := mkHid (HB.out.trans (b2.mono HB.out.size))
  clear b2
  go_wp2_with fail
  refine (eqIntS_same MA MB mc md zs w2 hz (H1.out.below HB2.out) (H2.out.below HB2.out)).mono ?_
  rintro e w3 ⟨rfl, k, rfl⟩
  have HB3 := mkHid (below_drewN HB2.out k)
  go_wp2_with fail
  go_ret
  exact ⟨rfl, HB3.out⟩
end Go.Proofs.Ytjmiilneennjaaa

namespace Go.Proofs.Ytjmiilneennjaaa
open Go.RowKit
set_option maxHeartbeats 2000000
set_option linter.unusedVariables false

def mkLn (k0 : Int) (i : Nat) (l : Ln) : Ln := ⟨l.ra, l.rc, marks (k0 + 6 * i) 4, k0 + 6 * i + 4, (k0 + 6 * i + 4 + 1) % 3 == 0⟩
def markLns (k0 : Int) (ls : List Ln) : List Ln := ls.mapIdx (mkLn k0)
theorem markLns_length (k0 : Int) (ls : List Ln) : (markLns k0 ls).length = ls.length := by simp [markLns]
theorem markLns_at (k0 : Int) (ls : List Ln) (i : Nat) (h : i < ls.length) : (markLns k0 ls)[i]'(by rw [markLns_length]; exact h) = mkLn k0 i ls[i] := by simp [markLns]
def midLns (k0 : Int) (ls : List Ln) (j : Nat) : List Ln := (markLns k0 ls).take j ++ ls.drop j
theorem midLns_length (k0 : Int) (ls : List Ln) (j : Nat) (h : j ≤ ls.length) : (midLns k0 ls j).length = ls.length := by
  unfold midLns; rw [List.length_append, List.length_take, List.length_drop, markLns_length]; omega
theorem midLns_at (k0 : Int) (ls : List Ln) (j : Nat) (h : j < ls.length) : (midLns k0 ls j)[j]'(by rw [midLns_length _ _ _ (by omega)]; exact h) = ls[j] := by
  unfold midLns
  rw [List.getElem_append_right (by rw [List.length_take, markLns_length]; omega)]
  simp [List.length_take, markLns_length, Nat.min_eq_left (Nat.le_of_lt h)]
theorem midLns_step (k0 : Int) (ls : List Ln) (j : Nat) (h : j < ls.length) : (midLns k0 ls j).set j (mkLn k0 j ls[j]) = midLns k0 ls (j + 1) := by
  unfold midLns
  have hm : j < (markLns k0 ls).length := by rw [markLns_length]; exact h
  rw [List.set_append_right _ _ (by rw [List.length_take]; omega), List.take_succ_eq_append_getElem hm, markLns_at _ _ _ h, List.drop_eq_getElem_cons h]
  rw [List.length_take, markLns_length, Nat.min_eq_left (Nat.le_of_lt h), Nat.sub_self, List.set_cons_zero]
  simp only [List.append_assoc, List.cons_append, List.nil_append]
theorem midLns_full (k0 : Int) (ls : List Ln) : midLns k0 ls ls.length = markLns k0 ls := by
  unfold midLns
  rw [List.drop_length, List.append_nil, List.take_of_length_le (by rw [markLns_length]; exact Nat.le_refl _)]
theorem mem_markLns {k0 : Int} {ls : List Ln} {l : Ln} (h : l ∈ markLns k0 ls) : l.zs.length = 4 := by
  obtain ⟨i, hi, rfl⟩ := List.mem_iff_getElem.1 h
  rw [markLns_length] at hi
  rw [markLns_at _ _ _ hi]
  simp [mkLn, marks_length]
theorem lflat_set2 (ys : List Ln) (k : Nat) (a : Ln) (hk : k < ys.length) (hr : lnR a = lnR ys[k]) :
    ((lflat ys).set (k * 4 + 1) (.int .i64 a.at_)).set (k * 4 + 3) (.bool a.wt) = lflat (ys.set k a) := by
  apply List.ext_getElem?
  intro i
  simp only [List.getElem?_set, List.length_set, lflat_length]
  by_cases h : i < ys.length * 4
  · have h1 := lflat_at (ys.set k a) (i / 4) (i % 4) (by simp; omega) (Nat.mod_lt _ (by omega))
    have h0 := lflat_at ys (i / 4) (i % 4) (by omega) (Nat.mod_lt _ (by omega))
    rw [show i / 4 * 4 + i % 4 = i from by omega] at h1 h0
    rw [h1, h0]
    have h2 : i % 4 = 0 ∨ i % 4 = 1 ∨ i % 4 = 2 ∨ i % 4 = 3 := by omega
    by_cases hi : k = i / 4
    · subst hi
      have hs : (ys.set (i / 4) a)[i / 4]'(by simp; omega) = a := by simp
      rw [hs]
      rcases h2 with h2 | h2 | h2 | h2
      · rw [if_neg (by omega), if_neg (by omega), h2]; simp only [lnCells, List.getElem?_cons_zero]; rw [hr]
      · rw [if_neg (by omega), if_pos (by omega), h2]; simp [lnCells]; omega
      · rw [if_neg (by omega), if_neg (by omega), h2]; simp [lnCells]
      · rw [if_pos (by omega), h2]; simp [lnCells]; omega
    · have hs : (ys.set k a)[i / 4]'(by simp; omega) = ys[i / 4]'(by omega) := by rw [List.getElem_set_ne hi]
      rw [hs, if_neg (by omega), if_neg (by omega)]
  · rw [if_neg (by omega), if_neg (by omega), List.getElem?_eq_none (by rw [lflat_length]; omega), List.getElem?_eq_none (by rw [lflat_length]; simp; omega)]
theorem own_lane {w : World} {base : Nat} {e : TypeId} {g n c : Nat} {ys : List Ln} (h : w.ownsRow base e 4 (.slice (some ⟨g, 0, none⟩) n c) n (lflat ys)) {k : Nat} (hk : k < ys.length) (a : Ln) (hr : lnR a = lnR ys[k]) :
    (w.cell? ⟨g, k * 4, none⟩ = some (.slice ys[k].ra ys[k].zs.length ys[k].rc) ∧ w.cell? ⟨g, k * 4 + 1, none⟩ = some (.int .i64 ys[k].at_) ∧ w.cell? ⟨g, k * 4 + 2, none⟩ = some (.slice none 0 0) ∧ w.cell? ⟨g, k * 4 + 3, none⟩ = some (.bool ys[k].wt)) ∧
    (w.frozen? ⟨g, k * 4 + 1, none⟩ = false ∧ w.frozen? ⟨g, k * 4 + 3, none⟩ = false) ∧
    ((w.setCell ⟨g, k * 4 + 1, none⟩ (.int .i64 a.at_)).setCell ⟨g, k * 4 + 3, none⟩ (.bool a.wt)).ownsRow base e 4 (.slice (some ⟨g, 0, none⟩) n c) n (lflat (ys.set k a)) := by
  refine ⟨?_, ⟨h.frozenAt _, h.frozenAt _⟩, ?_⟩
  · obtain ⟨b, off, hA, h0, h1, h2, h3⟩ := (Sl.of_own h).lane hk
    injection hA with hA
    injection hA with hA1 hA2
    subst hA1
    subst hA2
    simp only [Nat.zero_add] at h0 h1 h2 h3
    exact ⟨h0, h1, h2, h3⟩
  · rw [← lflat_set2 ys k a hk hr]
    exact ((h.stored _ _).1.stored _ _).1
theorem LanesApart.mark {w w' : World} {lo t : Nat} {ls : List Ln} (h : LanesApart w lo ls) (ht : t < ls.length) (l : Ln) (hr : lnR l = lnR ls[t]) (hg : w.grownBy w' (lnR ls[t]).ownBlock) (ho : w'.ownsRow lo 3 1 (lnR l) l.zs.length (ints l.zs)) : LanesApart w' lo (ls.set t l) := by
  have hb : ∀ i (hi : i < (ls.set t l).length), (lnR (ls.set t l)[i]).ownBlock = (lnR (ls[i]'(by simpa using hi))).ownBlock := fun i hi => by
    rw [List.getElem_set]
    split
    · rename_i e; subst e; rw [hr]
    · rfl
  refine ⟨fun s hs => ?_, fun i j hi hj hne g h1 h2 => ?_⟩
  · obtain ⟨i, hi, rfl⟩ := List.mem_iff_getElem.1 hs
    rw [List.length_set] at hi
    rw [List.getElem_set]
    split
    · exact ho
    · rename_i hne
      exact own_grown' (h.1 _ (List.getElem_mem hi)) hg (fun g e1 e2 => h.2 i t hi ht (fun e => hne e.symm) g e1 e2)
  · rw [hb] at h1 h2
    exact h.2 i j (by simpa using hi) (by simpa using hj) hne g h1 h2
/-- only the lanes' own blocks have turned. -/
def OnlL (w w' : World) (v : Value) (ls : List Ln) : Prop :=
  w'.os = w.os ∧ w'.tape = w.tape ∧ w'.output = w.output ∧ w.heap.size ≤ w'.heap.size ∧ ∀ i, i < w.heap.size → v.ownBlock ≠ some i → (∀ l ∈ ls, (lnR l).ownBlock ≠ some i) → w'.heap[i]? = w.heap[i]?
theorem OnlL.refl (w : World) (v : Value) (ls : List Ln) : OnlL w w v ls := ⟨rfl, rfl, rfl, Nat.le_refl _, fun _ _ _ _ => rfl⟩
theorem OnlL.step {w w1 w2 : World} {v : Value} {ls : List Ln} {row : Option Nat} (h : OnlL w w1 v ls) (hg : w1.grownBy w2 row) (hr : ∀ i, row = some i → v.ownBlock = some i ∨ ∃ l ∈ ls, (lnR l).ownBlock = some i) : OnlL w w2 v ls :=
  ⟨hg.os.trans h.1, hg.tape.trans h.2.1, hg.output.trans h.2.2.1, Nat.le_trans h.2.2.2.1 hg.size, fun i hi hv hn => (hg.block i (Nat.lt_of_lt_of_le hi h.2.2.2.1) (fun e => by
    rcases hr i e.symm with h1 | ⟨l, hl, h1⟩
    · exact hv h1
    · exact hn l hl h1)).trans (h.2.2.2.2 i hi hv hn)⟩
theorem own_types' {w : World} {b1 b2 s1 s2 B g n c m : Nat} {e1 e2 : TypeId} {v : Value} {xs ys : List Value} (h : w.ownsRow b1 e1 s1 (.slice (some ⟨B, 0, none⟩) n c) n xs) (k : w.ownsRow b2 e2 s2 v m ys) (hne : e1 ≠ e2) (hv : v.ownBlock = some g) : g ≠ B := by
  intro e
  subst e
  rcases k.2 with ⟨h1, _⟩ | ⟨g2, c2, cur2, hv2, _, hg2, _⟩
  · rw [h1] at hv; cases hv
  · rw [hv2] at hv
    have e2 : g2 = g := by simpa [Value.ownBlock] using hv
    subst e2
    rcases h.2 with ⟨h1, _⟩ | ⟨g1, c1, cur1, hv1, _, hg1, _⟩
    · cases h1
    · have e1 : g2 = g1 := by injection hv1 with hv; injection hv with hv; injection hv
      subst e1
      rw [hg1] at hg2
      injection hg2 with hg2
      injection hg2 with _ ht _
      exact hne ht
theorem own_types2 {w : World} {b1 b2 s1 s2 g n m : Nat} {e1 e2 : TypeId} {v1 v2 : Value} {xs ys : List Value} (h : w.ownsRow b1 e1 s1 v1 n xs) (k : w.ownsRow b2 e2 s2 v2 m ys) (hne : e1 ≠ e2) (h1 : v1.ownBlock = some g) : v2.ownBlock ≠ some g := fun h2 => by
  rcases h.2 with ⟨h5, _⟩ | ⟨g', cap', cur', h5, _⟩
  · rw [h5] at h1; cases h1
  · rw [h5] at h1 h
    have e : g' = g := by simpa [Value.ownBlock] using h1
    subst e
    exact own_types' h k hne h2 rfl
theorem own_ne_heap {w : World} {b s n C : Nat} {e ty : TypeId} {v : Value} {xs : List Value} {cs : Array Value} {fr : Nat × Nat} (h : w.ownsRow b e s v n xs) (hq : w.heap[C]? = some (.cells cs ty fr)) (hne : e ≠ ty) : v.ownBlock ≠ some C := fun hv => by
  rcases h.2 with ⟨h1, _⟩ | ⟨g, cap, cur, h1, _, h2, _⟩
  · rw [h1] at hv; cases hv
  · rw [h1] at hv
    have e1 : g = C := by simpa [Value.ownBlock] using hv
    subst e1
    rw [hq] at h2
    injection h2 with h2
    injection h2 with _ h3 _
    exact hne h3.symm
theorem markNil_any (k0 : Int) (w : World) :
    Calls Try.prog 65 #[.slice none 0 0, .int .i64 k0] w fun e w' => e = .returned (.int .i64 k0) ∧ w = w' := by
  go_enter Try.func65, Try.ntmps65
  go_wp2
  go_loop [1, 5] (fun kv i => i = .int .i64 0 ∧ kv = .int .i64 k0) (fun _ i => 0)
  case atStart => exact ⟨rfl, rfl⟩
  case round =>
    obtain ⟨rfl, rfl⟩ := hrel
    go_wp2
    go_ret
    exact ⟨rfl, rfl⟩
theorem markLaneS_any (A : Option Addr) (c : Nat) (ls : List Ln) (k0 : Int) (lo : Nat) (w : World) (hk0 : 0 ≤ k0 ∧ k0 ≤ 1000000) (hn : ls.length ≤ 1048576) (h4 : ∀ l ∈ ls, l.zs.length = 4)
    (ho : w.ownsRow lo 52 4 (.slice A ls.length c) ls.length (lflat ls)) (hown : LanesApart w lo ls) :
    Calls Try.prog 64 #[.slice A ls.length c, .int .i64 k0] w fun e w' => e = .returned (.int .i64 (k0 + 6 * ls.length)) ∧ w'.ownsRow lo 52 4 (.slice A ls.length c) ls.length (lflat (markLns k0 ls)) ∧ LanesApart w' lo (markLns k0 ls) ∧ OnlL w w' (.slice A ls.length c) ls := by
  have H4 := mkHid h4
  have HO0 := mkHid ho
  have HA0 := mkHid hown
  clear h4 ho hown
  go_enter Try.func64, Try.ntmps64
  go_wp2_with fail
  go_loopw [1, 5] (fun kv i wr => ∃ k : Nat, k ≤ ls.length ∧ i = .int .i64 k ∧ kv = .int .i64 (k0 + 6 * k) ∧ wr.ownsRow lo 52 4 (.slice A ls.length c) ls.length (lflat (midLns k0 ls k)) ∧ LanesApart wr lo (midLns k0 ls k) ∧ OnlL w wr (.slice A ls.length c) ls) (fun _ i _ => ls.length - (intOf i).toNat)
  case atStart => exact ⟨0, by omega, rfl, by simp, by simpa [midLns] using HO0.out, by simpa [midLns] using HA0.out, OnlL.refl _ _ _⟩
  case round =>
    obtain ⟨k, hk, rfl, rfl, ho, ha, hon⟩ := hrel
    have HO := mkHid ho
    have HA := mkHid ha
    have HN := mkHid hon
    clear ho ha hon
    by_cases hlt : k < ls.length
    · have hml : k < (midLns k0 ls k).length := by rw [midLns_length _ _ _ hk]; exact hlt
      have hmk := midLns_at k0 ls k hlt
      have hz4 := H4.out _ (List.getElem_mem hlt)
      have HST := mkHid (midLns_step k0 ls k hlt)
      have hrr : lnR (mkLn k0 k ls[k]) = lnR ((midLns k0 ls k)[k]'(by rw [midLns_length _ _ _ hk]; exact hlt)) := by rw [hmk]; simp [mkLn, marks_length, hz4]
      have HRR := mkHid hrr
      have HML := mkHid hml
      obtain ⟨g, hg, hgb, hgs⟩ : ∃ g, A = some ⟨g, 0, none⟩ ∧ lo ≤ g ∧ g < wr.heap.size := by
        obtain ⟨g, hg, hgb, hgs, _⟩ := own_open HO.out (i := k * 4) (by rw [lflat_length, midLns_length _ _ _ hk]; omega)
        exact ⟨g, hg, hgb, hgs⟩
      subst hg
      have p0 := (own_lane HO.out hml _ hrr).1.1
      have hrow := HA.out.1 _ (List.getElem_mem hml)
      rw [hmk] at p0 hrow
      have HM : Hid (ls[k] ∈ ls) := mkHid (List.getElem_mem hlt)
      have HMK := mkHid hmk
      obtain ⟨l, hl⟩ : ∃ l, l = ls[k] := ⟨_, rfl⟩
      rw [← hl] at p0 hrow hz4 HM HST HRR HMK
      have hz4' := hz4
      have hrow' : wr.ownsRow lo 3 1 (.slice l.ra l.zs.length l.rc) l.zs.length (ints l.zs) := hrow
      rw [hz4] at p0
      have hC := markIntS_any l.ra l.rc l.zs (k0 + 6 * (k : Int)) lo wr (by omega) (by omega) (by omega) hrow'
      rw [hz4] at hC
      have HC := mkHid hC
      have HRW := mkHid hrow'
      have HZ4 := mkHid hz4
      clear hl hrow hrow' hz4 hz4' hC hmk hrr hml
      go_wp2_with fail
      refine HC.out.mono ?_
      rintro e w2 ⟨rfl, o2, g2⟩
      have HO2 := mkHid (own_grown' HO.out g2 (fun g' e1 e2 => by
        have e1' : g = g' := by simpa [Value.ownBlock] using e1
        rw [← HZ4.out] at e2
        exact own_types' HO.out HRW.out (by decide) e2 e1'.symm))
      have hlr : (Value.slice l.ra 4 l.rc) = lnR l := by rw [lnR, HZ4.out]
      have HA2 := mkHid (HA.out.mark HML.out (mkLn k0 k l) HRR.out (by rw [HMK.out, ← hlr]; exact g2) (by
        have h : w2.ownsRow lo 3 1 (.slice l.ra 4 l.rc) 4 (ints (marks (k0 + 6 * (k : Int)) 4)) := o2
        simp only [lnR, mkLn, marks_length]
        exact h))
      have HN2 := mkHid (HN.out.step g2 (fun i e => .inr ⟨l, HM.out, by rw [← hlr]; exact e⟩))
      obtain ⟨p1, p2, p3⟩ := (own_lane HO2.out HML.out _ HRR.out).1.2
      obtain ⟨f1, f3⟩ := (own_lane HO2.out HML.out _ HRR.out).2.1
      clear p0
      have HF := mkHid (own_lane HO2.out HML.out _ HRR.out).2.2
      have HGR := mkHid (grown_setCell' (grown_setCell w2 g (k * 4 + 1) (.int .i64 (mkLn k0 k l).at_)) (k * 4 + 3) (.bool (mkLn k0 k l).wt))
      clear o2 g2 hlr
      have hat : (mkLn k0 k l).at_ = k0 + 6 * (k : Int) + 4 := rfl
      have hwt : (mkLn k0 k l).wt = ((k0 + 6 * (k : Int) + 4 + 1) % 3 == 0) := rfl
      rw [hat, hwt] at HF HGR
      have HOT := HO2
      clear hat hwt
      go_wp2_with fail
      refine (markNil_any _ _).mono ?_
      rintro e w3 ⟨rfl, rfl⟩
      go_wp2_with fail
      go_roundw
      case rel =>
        refine ⟨k + 1, by omega, by go_num, by congr 1; omega, ?_, ?_, ?_⟩
        · rw [← HST.out]; exact HF.out
        · rw [← HST.out]
          exact HA2.out.kept HGR.out (fun l' hl' g' e1 e2 => by
            injection e2 with e2
            exact own_types' HO2.out (HA2.out.1 l' hl') (by decide) e1 e2.symm)
        · exact HN2.out.step HGR.out (fun i e => .inl (by injection e with e; rw [← e]; rfl))
      case measure => simp [intOf] <;> omega
    · have : k = ls.length := by omega
      subst this
      go_wp2_with fail
      go_ret
      have h1 := HO.out
      have h2 := HA.out
      rw [midLns_full] at h1 h2
      exact ⟨rfl, h1, h2, HN.out⟩
theorem heldLaneS_any (A : Option Addr) (c : Nat) (ls : List Ln) (k0 : Int) (w : World) (hk0 : 0 ≤ k0 ∧ k0 ≤ 1000000) (hn : ls.length ≤ 1048576) (hs : LGrid w A (markLns k0 ls)) :
    Calls Try.prog 66 #[.slice A ls.length c, .int .i64 k0] w fun e w' => e = .returned (.int .i64 (k0 + 6 * ls.length)) ∧ w = w' := by
  have HS := mkHid hs
  have HNIL := mkHid (fun k (hk : 0 ≤ k ∧ k ≤ 2000000000) => heldIntS_any none 0 0 k w hk.1 (by omega) (by omega) (Sl.nil _ _))
  clear hs
  go_enter Try.func66, Try.ntmps66
  go_wp2_with fail
  go_loop [1, 5] (fun kv i => ∃ k : Nat, k ≤ ls.length ∧ i = .int .i64 k ∧ kv = .int .i64 (k0 + 6 * k)) (fun _ i => ls.length - (intOf i).toNat)
  case atStart => exact ⟨0, by omega, rfl, by simp⟩
  case round =>
    obtain ⟨k, hk, rfl, rfl⟩ := hrel
    by_cases hlt : k < ls.length
    · have hml : k < (markLns k0 ls).length := by rw [markLns_length]; exact hlt
      obtain ⟨b, off, rfl, h0, h1, h2, h3⟩ := HS.out.1.lane hml
      have hsl := (HS.out.2 _ (List.getElem_mem hml)).1
      rw [markLns_at _ _ _ hlt] at h0 h1 h3 hsl
      have hC := heldIntS_any ls[k].ra ls[k].rc 4 (k0 + 6 * (k : Int)) w (by omega) (by omega) (by omega) hsl
      simp only [mkLn, marks_length] at h0 h1 h3
      have HC := mkHid hC
      have HN := mkHid (HNIL.out (k0 + 6 * (k : Int) + 4 + 1) (by omega))
      generalize ls[k] = l at *
      clear hml hsl hC
      go_wp2_with fail
      refine HC.out.mono ?_
      rintro e w2 ⟨rfl, rfl⟩
      go_wp2_with fail
      refine HN.out.mono ?_
      rintro e w2 ⟨rfl, rfl⟩
      go_wp2_with fail
      go_round
      case rel => exact ⟨k + 1, by omega, by go_num, by congr 1; omega⟩
      case measure => simp [intOf] <;> omega
    · have : k = ls.length := by omega
      subst this
      go_wp2_with fail
      go_ret
      exact ⟨rfl, rfl⟩
/-! ### crowds -/
/-- a crowd in memory of one's own, from base on. -/
def CrowdAt (w : World) (base : Nat) (A : Option Addr) (c : Nat) (ls : List Ln) (B : Option Addr) (d : Nat) (zs : List Int) : Prop :=
  w.ownsRow base 52 4 (.slice A ls.length c) ls.length (lflat ls) ∧ LanesApart w base ls ∧ w.ownsRow base 3 1 (.slice B zs.length d) zs.length (ints zs) ∧ ∀ l ∈ ls, ∀ g, (lnR l).ownBlock = some g → (Value.slice B zs.length d).ownBlock ≠ some g
theorem CrowdAt.below {w w' : World} {base : Nat} {A : Option Addr} {c : Nat} {ls : List Ln} {B : Option Addr} {d : Nat} {zs : List Int} (h : CrowdAt w base A c ls B d zs) (hb : Below w.heap.size w w') : CrowdAt w' base A c ls B d zs :=
  ⟨own_below h.1 hb, h.2.1.below hb, own_below h.2.2.1 hb, h.2.2.2⟩
theorem CrowdAt.old {w w' : World} {base : Nat} {A : Option Addr} {c : Nat} {ls : List Ln} {B : Option Addr} {d : Nat} {zs : List Int} {row : Option Nat} (h : CrowdAt w base A c ls B d zs) (hg : w.grownBy w' row) (hr : ∀ g, row = some g → g < base) : CrowdAt w' base A c ls B d zs :=
  ⟨own_apart h.1 hg hr, h.2.1.kept hg (fun l hl g e1 e2 => by have h1 := (h.2.1.1 l hl).lt g e1; have := hr g e2; omega), own_apart h.2.2.1 hg hr, h.2.2.2⟩
theorem CrowdAt.grid {w : World} {base : Nat} {A : Option Addr} {c : Nat} {ls : List Ln} {B : Option Addr} {d : Nat} {zs : List Int} (h : CrowdAt w base A c ls B d zs) (h4 : ∀ l ∈ ls, l.zs.length = 4) : LGrid w A ls :=
  ⟨Sl.of_own h.1, fun l hl => ⟨Sl.of_own (h.2.1.1 l hl), by have := h4 l hl; omega⟩⟩
theorem markLns_blocks {k0 : Int} {ls : List Ln} (h4 : ∀ l ∈ ls, l.zs.length = 4) {l : Ln} (h : l ∈ markLns k0 ls) : ∃ m ∈ ls, lnR l = lnR m := by
  obtain ⟨i, hi, rfl⟩ := List.mem_iff_getElem.1 h
  rw [markLns_length] at hi
  refine ⟨ls[i], List.getElem_mem hi, ?_⟩
  rw [markLns_at _ _ _ hi]
  simp [mkLn, marks_length, h4 _ (List.getElem_mem hi)]
theorem markCrowd_any (A : Option Addr) (c : Nat) (ls : List Ln) (B : Option Addr) (d : Nat) (zs : List Int) (k0 : Int) (base : Nat) (w : World) (hk0 : 0 ≤ k0 ∧ k0 ≤ 1000) (hn : ls.length ≤ 8) (hz : zs.length ≤ 1048576) (h4 : ∀ l ∈ ls, l.zs.length = 4) (hb : base ≤ w.heap.size) (h : CrowdAt w base A c ls B d zs) :
    Calls Try.prog 21 #[.agg #[.slice A ls.length c, .slice B zs.length d], .int .i64 k0] w fun e w' => e = .returned (.int .i64 (k0 + 6 * ls.length + zs.length)) ∧ CrowdAt w' base A c (markLns k0 ls) B d (marks (k0 + 6 * ls.length) zs.length) ∧ Below base w w' ∧ ∀ (i : Nat) (cs : Array Value), w.heap[i]? = some (Obj.cells cs 32 (0, 0)) → w'.heap[i]? = w.heap[i]? := by
  obtain ⟨o1, ho1⟩ : ∃ o1, o1 = Obj.cells #[.slice A ls.length c, .slice B zs.length d] 32 := ⟨_, rfl⟩
  have hb1 : Below w.heap.size w (w.alloc o1) := (Below.refl _ _).alloc (Nat.le_refl _) _
  have h1 := h.below hb1
  have hM := markLaneS_any A c ls k0 base (w.alloc o1) (by omega) (by omega) h4 h1.1 h1.2.1
  have q1 : (w.alloc o1).heap[w.heap.size]? = some o1 := heap_alloc_new _ _
  have hne1 : (Value.slice A ls.length c).ownBlock ≠ some w.heap.size := fun e => by have := (h.1.lt _ e).2; omega
  have hne2 : ∀ l ∈ ls, (lnR l).ownBlock ≠ some w.heap.size := fun l hl e => by have := ((h.2.1.1 l hl).lt _ e).2; omega
  have HB1 := mkHid hb1
  have Q1 := mkHid (fun X (hX : OnlL (w.alloc o1) X (.slice A ls.length c) ls) => (hX.2.2.2.2 w.heap.size (by simp) hne1 hne2).trans q1)
  have H1 := mkHid h1
  have H4 := mkHid h4
  subst ho1
  have HM := mkHid hM
  clear hM hb1 h1 q1 hne1 hne2 h h4
  go_enter Try.func21, Try.ntmps21
  go_wp2_with fail
  refine HM.out.mono ?_
  rintro e w2 ⟨rfl, o2, a2, n2⟩
  obtain ⟨p0, p1⟩ := (box2 (Q1.out w2 n2)).1
  have HB2 : Hid (Below base w w2) := mkHid (by
    refine ⟨n2.1, n2.2.1, n2.2.2.1, ?_, fun i hi => ?_⟩
    · have := n2.2.2.2.1; simp at this; omega
    · rw [n2.2.2.2.2 i (by simp; omega) (fun e => by have := (H1.out.1.lt i e).1; omega) (fun l hl e => by have := ((H1.out.2.1.1 l hl).lt i e).1; omega)]
      exact (HB1.out.block i (by omega)))
  have HK2 : Hid (∀ (i : Nat) (cs : Array Value), w.heap[i]? = some (Obj.cells cs 32 (0, 0)) → w2.heap[i]? = w.heap[i]?) := mkHid (fun i cs hi => by
    have hlt := (Array.getElem?_eq_some_iff.1 hi).1
    have h0 : (w.alloc (.cells #[.slice A ls.length c, .slice B zs.length d] 32)).heap[i]? = w.heap[i]? := heap_alloc_old _ _ hlt
    rw [n2.2.2.2.2 i (by simp; omega) (own_ne_heap H1.out.1 (h0.trans hi) (by decide)) (fun l hl => own_ne_heap (H1.out.2.1.1 l hl) (h0.trans hi) (by decide)), h0])
  have hmem : w2.ownsRow base 3 1 (.slice B zs.length d) zs.length (ints zs) := by
    have h0 := H1.out.2.2.1
    refine ⟨h0.1, ?_⟩
    rcases h0.2 with h2 | ⟨g, cap, cur, hv, h1, h2, h3⟩
    · exact .inl h2
    · right
      refine ⟨g, cap, cur, hv, h1, ?_, h3⟩
      rw [n2.2.2.2.2 g (Array.getElem?_eq_some_iff.1 h2).1 (fun e => ?_) (fun l hl e => H1.out.2.2.2 l hl g e (by rw [hv]; rfl))]
      · exact h2
      · exact own_types2 H1.out.1 h0 (by decide) e (by rw [hv]; rfl)
  have HO2 := mkHid o2
  have HA2 := mkHid a2
  have HMM := mkHid hmem
  have hsz2 := HB2.out.size
  clear o2 a2 n2 hmem
  go_wp2_with fail
  refine (markIntS_any _ _ _ _ _ _ (by omega) (by omega) (by omega) HMM.out).mono ?_
  rintro e w3 ⟨rfl, o3, g3⟩
  have HC : Hid (CrowdAt w3 base A c (markLns k0 ls) B d (marks (k0 + 6 * ls.length) zs.length)) := mkHid (by
    refine ⟨?_, HA2.out.kept g3 (fun l hl g e1 e2 => ?_), by rw [marks_length]; exact o3, fun l hl g e => ?_⟩
    · rw [markLns_length]
      exact own_grown' HO2.out g3 (fun g e1 e2 => by
        exact own_types2 HO2.out HMM.out (by decide) e1 e2)
    · obtain ⟨m, hm, e⟩ := markLns_blocks H4.out hl
      rw [e] at e1
      exact H1.out.2.2.2 m hm g e1 e2
    · obtain ⟨m, hm, e'⟩ := markLns_blocks H4.out hl
      rw [e'] at e
      rw [marks_length]
      exact H1.out.2.2.2 m hm g e)
  have HK3 : Hid (∀ (i : Nat) (cs : Array Value), w.heap[i]? = some (Obj.cells cs 32 (0, 0)) → w3.heap[i]? = w.heap[i]?) := mkHid (fun i cs hi => by
    have h2 := HK2.out i cs hi
    have hlt := (Array.getElem?_eq_some_iff.1 (h2.trans hi)).1
    rw [g3.block i hlt (fun e => own_ne_heap HMM.out (h2.trans hi) (by decide) e.symm), h2])
  have HB3 := mkHid (HB2.out.grown g3 (Nat.le_trans hb hsz2) (fun g e => (HMM.out.lt g e).1))
  clear o3 g3
  go_wp2_with fail
  go_ret
  exact ⟨rfl, HC.out, HB3.out, HK3.out⟩
theorem heldCrowd_any (A : Option Addr) (c : Nat) (ls : List Ln) (B : Option Addr) (d : Nat) (n : Nat) (k0 : Int) (base : Nat) (w : World) (hk0 : 0 ≤ k0 ∧ k0 ≤ 1000) (hn : ls.length ≤ 8) (hz : n ≤ 1048576) (h : CrowdAt w base A c (markLns k0 ls) B d (marks (k0 + 6 * ls.length) n)) :
    Calls Try.prog 23 #[.agg #[.slice A ls.length c, .slice B n d], .int .i64 k0] w fun e w' => e = .returned (.int .i64 (k0 + 6 * ls.length + n)) ∧ Below w.heap.size w w' := by
  have hb1 : Below w.heap.size w (w.alloc (.cells #[.slice A ls.length c, .slice B n d] 32)) := (Below.refl _ _).alloc (Nat.le_refl _) _
  have h1 := h.below hb1
  have hM := heldLaneS_any A c ls k0 _ (by omega) (by omega) (h1.grid fun l hl => mem_markLns hl)
  have hI := heldIntS_any B d n (k0 + 6 * ls.length) _ (by omega) (by omega) (by omega) (Sl.of_own h1.2.2.1)
  have HM := mkHid hM
  have HI := mkHid hI
  have HB := mkHid hb1
  clear hM hI hb1 h h1
  go_enter Try.func23, Try.ntmps23
  go_wp2_with fail
  refine HM.out.mono ?_
  rintro e w2 ⟨rfl, rfl⟩
  go_wp2_with fail
  refine HI.out.mono ?_
  rintro e w2 ⟨rfl, rfl⟩
  go_wp2_with fail
  go_ret
  exact ⟨rfl, HB.out⟩
end Go.Proofs.Ytjmiilneennjaaa

namespace Go.Proofs.Ytjmiilneennjaaa
open Go.RowKit
set_option maxHeartbeats 2000000
set_option linter.unusedVariables false

def RetCrowd (n : Nat) (zs : List Int) (w : World) (e : Ending) (w' : World) : Prop :=
  ∃ A c ls B d, e = .returned (.agg #[.slice A ls.length c, .slice B zs.length d]) ∧ ls.length = n ∧ (∀ l ∈ ls, Fresh l) ∧ CrowdAt w' w.heap.size A c ls B d zs ∧ Below w.heap.size w w'
abbrev crowd0 : Obj := .cells #[.slice none 0 0, .slice none 0 0] 32
theorem below_undrew {w w' : World} (b2 : Below w.drew.heap.size w.drew w') : Below w.heap.size w w' := ⟨b2.os, b2.tape, b2.output, b2.size, b2.block⟩
end Go.Proofs.Ytjmiilneennjaaa
