/-
  Contracts of the reader that the draws use: l20Open, pick, odd. What is drawn is some number within its bounds; the reader's own block turns, nothing else.
-/
import Derived.Test.YtabpcbikbhbcaaaRows
import Derived.Test.YtabpcbikbhbcaaaLib
namespace Go.Proofs.Ytabpcbikbhbcaaa
open Go.RowKit
set_option maxHeartbeats 400000
set_option linter.unusedVariables false

abbrev u8s (zs : List Int) : List Value := zs.map (Value.int .u8)
/-- The reader lies in block br; at most N picks were made. -/
def Rd (w : World) (br N : Nat) : Prop :=
  ∃ A c, ∃ zs : List Int, ∃ p : Nat, p ≤ N ∧ zs.length ≤ 9223372036854775807 ∧ w.heap[br]? = some (.cells #[.slice A zs.length c, .int .i64 p] 56 (0, 0)) ∧ Sl w A (u8s zs) ∧ (∀ a, A = some a → zs = [] ∨ a.block < br) ∧ ∀ z ∈ zs, 0 ≤ z ∧ z ≤ 255

theorem Rd.lt {w : World} {br N : Nat} (h : Rd w br N) : br < w.heap.size := by
  obtain ⟨A, c, zs, p, _, _, hb, _⟩ := h
  exact (Array.getElem?_eq_some_iff.1 hb).1
theorem Rd.grown {w w' : World} {br N : Nat} {row : Option Nat} (h : Rd w br N) (hg : w.grownBy w' row) (hne : ∀ g, row = some g → br < g) : Rd w' br N := by
  obtain ⟨A, c, zs, p, hp, hl, hb, hs, hne', hz⟩ := h
  refine ⟨A, c, zs, p, hp, hl, (hg.block br (Array.getElem?_eq_some_iff.1 hb).1 (fun e => by have := hne br e.symm; omega)).trans hb, ?_, hne', hz⟩
  by_cases h0 : zs = []
  · subst h0; exact .inl rfl
  · refine hs.grown hg (fun a ha e => ?_)
    have h1 := hne a.block e.symm
    rcases hne' a ha with h2 | h2
    · exact h0 h2
    · omega
theorem Rd.below {w w' : World} {br N : Nat} (h : Rd w br N) (hb : Below w.heap.size w w') : Rd w' br N :=
  h.grown (grown_of_below hb none) (by simp)
/-- the reader stands, where a younger row of the call's own has grown. -/
theorem Rd.app {b c : World} {br N : Nat} {v : Value} {base : Nat} {e : TypeId} {size n : Nat} {xs : List Value} (h : Rd b br N) (hown : b.ownsRow base e size v n xs) (hbr : br < base) (k : b.grownBy c v.ownBlock) : Rd c br N :=
  h.grown k (fun g hg => Nat.lt_of_lt_of_le hbr (hown.lt g hg).1)
theorem Rd.drewN {w : World} {br N : Nat} (h : Rd w br N) (k : Nat) : Rd (w.drewN k) br N := h
theorem Rd.mono {w : World} {br N M : Nat} (h : Rd w br N) (hM : N ≤ M) : Rd w br M := by
  obtain ⟨A, c, zs, p, hp, h'⟩ := h
  exact ⟨A, c, zs, p, Nat.le_trans hp hM, h'⟩

theorem xor_div_nonneg (x : Int) (h : 0 ≤ x) (h' : x ≤ 9223372036854775807) : 0 ≤ bits .xor .i64 x (x / 64) := by
  obtain ⟨a, rfl⟩ := Int.eq_ofNat_of_zero_le h
  have hd : ((a : Int) / 64) = ((a / 64 : Nat) : Int) := by omega
  rw [hd]
  have ho : ∀ m : Nat, m < 9223372036854775808 → (BitVec.ofInt 64 (m : Int)).toNat = m := fun m hm => by
    rw [BitVec.ofInt_natCast, BitVec.toNat_ofNat]; exact Nat.mod_eq_of_lt (by omega)
  have hx : a ^^^ (a / 64) < 2 ^ 63 := Nat.xor_lt_two_pow (by omega) (by omega)
  show 0 ≤ IntKind.i64.wrap ((BitVec.ofInt 64 (a : Int) ^^^ BitVec.ofInt 64 ((a / 64 : Nat) : Int)).toNat : Int)
  rw [BitVec.toNat_xor, ho a (by omega), ho (a / 64) (by omega), IntKind.wrap_i64]
  omega

/-- What a pick hands back. -/
def Picked (n : Int) (br N : Nat) (w : World) (e : Ending) (w' : World) : Prop :=
  ∃ r : Int, e = .returned (.int .i64 r) ∧ 0 ≤ r ∧ (1 ≤ n → r < n) ∧ Rd w' br (N + 1) ∧ w.grownBy w' (some br)
theorem pick_any (n : Int) (br N : Nat) (w : World) (hN : N ≤ 1000000000) (h : Rd w br N) :
    Calls Try.prog 45 #[.pointer (some ⟨br, 0, none⟩), .int .i64 n] w (Picked n br N w) := by
  obtain ⟨A, c, zs, p, hp, hl, hb, hs, hne, hz⟩ := h
  have hc0 : w.cell? ⟨br, 0, none⟩ = some (.slice A zs.length c) := by rw [cell_of_row w br 0 _ _ _ hb]; rfl
  have hc1 : w.cell? ⟨br, 1, none⟩ = some (.int .i64 p) := by rw [cell_of_row w br 1 _ _ _ hb]; rfl
  have hf1 : w.frozen? ⟨br, 1, none⟩ = false := frozen_of_row w br 1 _ _ hb
  have hend : ∀ k, Rd ((w.setCell ⟨br, 1, none⟩ (.int .i64 (p + 1))).drewN k) br (N + 1) := fun k => by
    refine ⟨A, c, zs, p + 1, by omega, hl, ?_, ?_, hne, hz⟩
    · have := heap_setCell_same w br 1 _ 56 (.int .i64 ((p : Int) + 1)) hb
      exact this
    · rcases hs with h0 | ⟨b, off, rfl, hc⟩
      · exact .inl h0
      · refine .inr ⟨b, off, rfl, fun j u hu => ?_⟩
        have hb' : b ≠ br := by
          rcases hne _ rfl with h0 | h0
          · subst h0; simp at hu
          · have h0' : b < br := h0
            omega
        show (w.setCell ⟨br, 1, none⟩ (.int .i64 ((p : Int) + 1))).cell? _ = _
        rw [World.cell?_setCell_other _ _ _ _ (by intro e; injection e with e1; exact hb' e1.symm)]
        exact hc j u hu
  have HE := mkHid hend
  have hgr : ∀ k, w.grownBy ((w.setCell ⟨br, 1, none⟩ (.int .i64 (p + 1))).drewN k) (some br) := fun k => grown_drewN (grown_setCell w br 1 _) k
  have HG := mkHid hgr
  clear hend hgr hb
  by_cases hn : n < 1
  · go_enter Try.func45, Try.ntmps45
    go_wp2
    go_ret
    exact ⟨0, rfl, by omega, by omega, HE.out 0, HG.out 0⟩
  · by_cases hz0 : zs.length = 0
    · obtain rfl : zs = [] := List.eq_nil_of_length_eq_zero hz0
      go_enter Try.func45, Try.ntmps45
      go_wp2
      go_ret
      exact ⟨0, rfl, by omega, fun h => h, HE.out 0, HG.out 0⟩
    · have hb0 : (((zs.length : Nat) : Int) == 0) = false := by rw [beq_eq_false_iff_ne]; omega
      obtain ⟨b, off, rfl, hc⟩ := hs.at_ (k := 0) (by simp; omega)
      have hbr : b ≠ br := by
        rcases hne _ rfl with h0 | h0
        · subst h0; simp at hz0
        · show b ≠ br
          have h0' : b < br := h0
          omega
      by_cases hk : p < zs.length
      · have h1 : w.cell? ⟨b, off + p, none⟩ = some (.int .u8 zs[p]) := hc p _ (by simp [hk])
        have h2 := hz zs[p] (List.getElem_mem hk)
        generalize zs[p] = y at h1 h2
        clear hz hc hs hz0 hne
        go_enter Try.func45, Try.ntmps45
        go_wp2
        go_ret
        exact ⟨_, rfl, Int.emod_nonneg _ (by omega), fun _ => Int.emod_lt_of_pos _ (by omega), HE.out 0, HG.out 0⟩
      · have hm1 : p % zs.length < zs.length := Nat.mod_lt _ (by omega)
        have hm2 : (p * 7 + 3) % zs.length < zs.length := Nat.mod_lt _ (by omega)
        have h1 : w.cell? ⟨b, off + p % zs.length, none⟩ = some (.int .u8 zs[p % zs.length]) := hc _ _ (by simp [hm1])
        have h2 : w.cell? ⟨b, off + (p * 7 + 3) % zs.length, none⟩ = some (.int .u8 zs[(p * 7 + 3) % zs.length]) := hc _ _ (by simp [hm2])
        have hy1 := hz zs[p % zs.length] (List.getElem_mem hm1)
        have hy2 := hz zs[(p * 7 + 3) % zs.length] (List.getElem_mem hm2)
        generalize zs[p % zs.length] = y1 at h1 hy1
        generalize zs[(p * 7 + 3) % zs.length] = y2 at h2 hy2
        have hq : p / zs.length ≤ p := Nat.div_le_self _ _
        clear hz hc hs hne
        generalize zs.length = L at *
        have i1 : 0 ≤ (p : Int) % (L : Int) := Int.emod_nonneg _ (by omega)
        have i2 : (p : Int) % (L : Int) < (L : Int) := Int.emod_lt_of_pos _ (by omega)
        have i3 : 0 ≤ ((p : Int) * 7 + 3) % (L : Int) := Int.emod_nonneg _ (by omega)
        have i4 : ((p : Int) * 7 + 3) % (L : Int) < (L : Int) := Int.emod_lt_of_pos _ (by omega)
        have i5 : 0 ≤ (p : Int) / (L : Int) := Int.ediv_nonneg (by omega) (by omega)
        have i6 : (p : Int) / (L : Int) ≤ (p : Int) := Int.ediv_le_self _ (by omega)
        clear hq
        go_enter Try.func45, Try.ntmps45
        go_wp2
        go_quiet (fail)
        go_wp2
        go_ret
        refine ⟨_, rfl, ?_, ?_, HE.out nq, HG.out nq⟩
        all_goals rw [Int.tmod_eq_emod_of_nonneg (xor_div_nonneg _ (by omega) (by omega))]
        · exact Int.emod_nonneg _ (by omega)
        · exact fun _ => Int.emod_lt_of_pos _ (by omega)

/-- The reader is opened: in a new block. -/
def Opened (w : World) (e : Ending) (w' : World) : Prop :=
  ∃ br, e = .returned (.pointer (some ⟨br, 0, none⟩)) ∧ w.heap.size ≤ br ∧ Rd w' br 0 ∧ Below w.heap.size w w'
theorem Rd_new (w : World) (A : Option Addr) (c : Nat) (zs : List Int) (hl : zs.length ≤ 9223372036854775807) (hs : Sl w A (u8s zs)) (hz : ∀ z ∈ zs, 0 ≤ z ∧ z ≤ 255) :
    Rd (w.alloc (.cells #[.slice A zs.length c, .int .i64 0] 56)) w.heap.size 0 := by
  refine ⟨A, c, zs, 0, Nat.le_refl _, hl, heap_alloc_new w _, hs.alloc _, fun a ha => ?_, hz⟩
  by_cases h0 : zs = []
  · exact .inl h0
  · right
    obtain ⟨b, off, rfl, hc⟩ := hs.at_ (k := 0) (by simp; exact List.length_pos_iff.2 h0)
    injection ha with ha
    subst ha
    have hp : 0 < zs.length := List.length_pos_iff.2 h0
    have := World.block_lt_of_cell? w _ (hc 0 (.int .u8 zs[0]) (by simp [hp]))
    exact this
theorem l20Open_any (A : Option Addr) (c : Nat) (zs : List Int) (w : World) (hl : zs.length ≤ 9223372036854775807) (hcap : zs.length ≤ c) (hs : Sl w A (u8s zs)) (hz : ∀ z ∈ zs, 0 ≤ z ∧ z ≤ 255) :
    Calls Try.prog 38 #[.slice A zs.length c] w (Opened w) := by
  by_cases h : 2000 < zs.length
  · have hn := Rd_new w A c (zs.take 2000) (by simp; omega) (by
      rcases hs with h0 | ⟨b, off, rfl, hc⟩
      · exact .inl (by simp at h0; subst h0; simp at h)
      · refine .inr ⟨b, off, rfl, fun j u hu => hc j u ?_⟩
        simp only [u8s, List.map_take, List.getElem?_take] at hu
        split at hu
        · exact hu
        · cases hu) (fun z hz' => hz z (List.mem_of_mem_take hz'))
    have hlen : (zs.take 2000).length = 2000 := by simp; omega
    rw [hlen] at hn
    have HN := mkHid hn
    obtain ⟨b, off, rfl, hc⟩ := hs.at_ (k := 0) (by simp; omega)
    clear hn hlen hc hs
    go_enter Try.func38, Try.ntmps38
    go_wp2
    go_ret
    exact ⟨_, rfl, Nat.le_refl _, HN.out, (Below.refl _ _).alloc (Nat.le_refl _) _⟩
  · have HN := mkHid (Rd_new w A c zs hl hs hz)
    clear hs
    go_enter Try.func38, Try.ntmps38
    go_wp2
    go_ret
    exact ⟨_, rfl, Nat.le_refl _, HN.out, (Below.refl _ _).alloc (Nat.le_refl _) _⟩
end Go.Proofs.Ytabpcbikbhbcaaa
