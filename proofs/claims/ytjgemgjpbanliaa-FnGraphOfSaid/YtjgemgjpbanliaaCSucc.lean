/-
  Contract of the program's successors.
-/
import Derived.Test.YtjgemgjpbanliaaCBar
namespace Go.Proofs.Ytjgemgjpbanliaa
open Go.RowKit
set_option maxHeartbeats 2000000
set_option linter.unusedVariables false

theorem own_lits (w : World) (zs : List Int) {base B n : Nat} (hb : base ≤ w.heap.size) (hB : B = w.heap.size) (hn : n = zs.length) (hm : n ≤ 1000000) :
    (w.alloc (.cells (ints zs).toArray 3)).ownsRow base 3 1 (.slice (some ⟨B, 0, none⟩) n n) n (ints zs) := by
  subst hB hn
  have := World.ownsRow_lit (w := w) (base := base) (e := 3) (size := 1) (ints zs).toArray zs.length hb (by simp only [maxLen]; omega) (by simp [ints])
  simpa using this
theorem BlkInv.ownAt {w : World} {os : List Int} {n base R O k : Nat} {P : Nat → Nat} {Rw : Nat → Nat × Nat} {S : Value} (h : BlkInv w os n n n base R O P Rw S) (hk : k < n) :
    w.cell? ⟨O, k, none⟩ = some (ownV P os k) := by
  rw [h.hO.cellAt k (by omega)]
  unfold ownL
  rw [List.getElem?_append_left (by simp; exact hk), List.getElem?_map, List.getElem?_range hk]
  rfl
theorem ownV_open {P : Nat → Nat} {os : List Int} {k : Nat} (h : opensB (opAt os k) = true) : ownV P os k = ptrV (P k) := by unfold ownV; rw [if_pos h]
theorem ownV_top {P : Nat → Nat} {os : List Int} {k b : Nat} (h : opAt os k = 12 ∨ opAt os k = 14) (hl : (stk os k).getLast? = some b) : ownV P os k = ptrV (P b) := by
  unfold ownV
  rw [if_neg (by rcases h with h | h <;> rw [h] <;> decide), if_pos h, hl]
theorem topOf_some {os : List Int} {k b : Nat} (hl : (stk os k).getLast? = some b) : topOf os k = b := by unfold topOf; rw [hl]
theorem bal_step {os : List Int} (h : balB os = true) {k : Nat} (hk : k < os.length) : stepOk os k = true := okUpto_step (Bool.and_eq_true_iff.1 h).1 hk
theorem bal_top {os : List Int} (h : balB os = true) {k : Nat} (hk : k < os.length) (hop : opAt os k = 12 ∨ opAt os k = 14) : ∃ b, (stk os k).getLast? = some b := by
  have h1 := bal_step h hk
  cases hl : (stk os k).getLast? with
  | some b => exact ⟨b, rfl⟩
  | none =>
    rcases hop with hop | hop
    · rw [stepOk_else hop] at h1; unfold elseOk at h1; rw [hl] at h1; cases h1
    · rw [stepOk_end hop, stk_some hl] at h1; cases h1
/-- what the call hands back: a new row with these numbers. -/
def RetNums (ss : List Int) (w : World) (e : Ending) (w' : World) : Prop :=
  ∃ g c, e = .returned (.slice (some ⟨g, 0, none⟩) ss.length c) ∧ w'.ownsRow w.heap.size 3 1 (.slice (some ⟨g, 0, none⟩) ss.length c) ss.length (ints ss) ∧ Below w.heap.size w w'
theorem retNums_one (z : Int) (w : World) : RetNums [z] w (.returned (.slice (some ⟨w.heap.size, 0, none⟩) 1 1)) (w.alloc (.cells #[.int .i64 z] 3)) :=
  ⟨w.heap.size, 1, rfl, own_lits w [z] (Nat.le_refl _) rfl rfl (by simp), (Below.refl _ _).alloc (Nat.le_refl _) _⟩
theorem retNums_two (y z : Int) (w : World) : RetNums [y, z] w (.returned (.slice (some ⟨w.heap.size, 0, none⟩) 2 2)) (w.alloc (.cells #[.int .i64 y, .int .i64 z] 3)) :=
  ⟨w.heap.size, 2, rfl, own_lits w [y, z] (Nat.le_refl _) rfl rfl (by simp), (Below.refl _ _).alloc (Nat.le_refl _) _⟩
theorem successors_any (A : Option Addr) (c : Nat) (xs : List Cd) (k : Nat) (w : World) {base R O : Nat} {P : Nat → Nat} {Rw : Nat → Nat × Nat} {S : Value} (hl : xs.length ≤ 1048576) (hk : k < xs.length) (hbal : balB (ops xs) = true) (hs : Sl w A (cflat xs))
    (hI : BlkInv w (ops xs) xs.length xs.length xs.length base R O P Rw S) :
    Calls Try.prog 54 #[.slice A xs.length c, .slice (some ⟨O, 0, none⟩) xs.length xs.length, .int .i64 k] w (RetNums (succs (ops xs) k) w) := by
  have hon : (ops xs).length = xs.length := ops_len xs
  have hat : ∀ k (h : k < xs.length), opAt (ops xs) k = xs[k].op := fun k h => ops_at h
  obtain ⟨os, hos⟩ : ∃ os, os = ops xs := ⟨_, rfl⟩
  rw [← hos] at hon hat hbal hI ⊢
  clear hos
  have HI := mkHid hI
  have HBAL := mkHid hbal
  have hown := hI.ownAt hk
  obtain ⟨b0, off, hA, e0, e1, e2, e3⟩ := hs.cd hk
  have hop := hat k hk
  obtain ⟨op, hope⟩ : ∃ op, op = xs[k].op := ⟨_, rfl⟩
  rw [← hope] at e0 hop
  subst hA
  have HS := mkHid hs
  have HAT := mkHid hat
  have HOP := mkHid hop
  have hopens : opensB op = true → op = 11 ∨ op = 13 := fun h => by unfold opensB at h; rw [Bool.or_eq_true, beq_iff_eq, beq_iff_eq] at h; exact h
  have HOPS := mkHid hopens
  obtain ⟨ss, hss⟩ : ∃ ss, ss = succs os k := ⟨_, rfl⟩
  rw [← hss]
  have HSS := mkHid hss
  unfold succs at hss
  rw [hop] at hss
  clear hI hbal hs hat e1 e2 e3 hope hopens
  have hops : op = 11 ∨ op = 13 ∨ op = 12 ∨ op = 14 ∨ ((op == 11) = false ∧ (op == 13) = false ∧ (op == 12) = false ∧ (op == 14) = false) := by
    simp only [beq_eq_false_iff_ne]; omega
  rcases hops with rfl | rfl | rfl | rfl | ⟨n11, n13, n12, n14⟩
  · rw [ownV_open (by rw [hop]; rfl)] at hown
    obtain ⟨⟨t0, t1, t2⟩, _, _, _⟩ := box3 (HI.out.hP k hk (by rw [hop]; rfl)).2
    have hbe := bal_end HBAL.out (b := k) (by rw [hop]; rfl) (by omega)
    have hbo := oth_bound os k os.length
    rw [if_neg (by decide), if_pos (by rfl)] at hss
    unfold forkTo at hss
    rw [← hon] at t1 t2
    obtain ⟨o, ho⟩ : ∃ o, o = oth os k os.length := ⟨_, rfl⟩
    obtain ⟨en, hen⟩ : ∃ en, en = endOf os k os.length := ⟨_, rfl⟩
    rw [← ho] at hss hbo t1
    rw [← hen] at hss hbe t2
    clear ho hen HSS HAT HS HI HBAL hop
    by_cases h0 : 0 ≤ o
    · rw [if_pos h0] at hss
      by_cases hto : o + 1 = (k : Int) + 1
      · exfalso; omega
      · rw [if_neg hto] at hss
        subst hss
        have hto2 : (o + 1 == (k : Int) + 1) = false := by rw [beq_eq_false_iff_ne]; exact hto
        clear hto
        go_enter Try.func54, Try.ntmps54
        go_wp2_with fail
        go_ret
        exact retNums_two _ _ _
    · rw [if_neg h0] at hss
      by_cases hto : en + 1 = (k : Int) + 1
      · exfalso; omega
      · rw [if_neg hto] at hss
        subst hss
        have hto2 : (en + 1 == (k : Int) + 1) = false := by rw [beq_eq_false_iff_ne]; exact hto
        clear hto
        go_enter Try.func54, Try.ntmps54
        go_wp2_with fail
        go_ret
        exact retNums_two _ _ _
  · rw [ownV_open (by rw [hop]; rfl)] at hown
    obtain ⟨⟨t0, t1, t2⟩, _, _, _⟩ := box3 (HI.out.hP k hk (by rw [hop]; rfl)).2
    have hbe := bal_end HBAL.out (b := k) (by rw [hop]; rfl) (by omega)
    have hno : ¬ 0 ≤ oth os k os.length := fun h => by
      have := oth_if (Bool.and_eq_true_iff.1 HBAL.out).1 h
      rw [hop] at this; exact absurd this (by decide)
    rw [if_neg (by decide), if_pos (by rfl)] at hss
    unfold forkTo at hss
    rw [if_neg hno] at hss
    rw [← hon] at t2
    obtain ⟨en, hen⟩ : ∃ en, en = endOf os k os.length := ⟨_, rfl⟩
    rw [← hen] at hss hbe t2
    clear hen HSS HAT HS HI HBAL hop hno t1
    by_cases hto : en + 1 = (k : Int) + 1
    · exfalso; omega
    · rw [if_neg hto] at hss
      subst hss
      have hto2 : (en + 1 == (k : Int) + 1) = false := by rw [beq_eq_false_iff_ne]; exact hto
      clear hto
      go_enter Try.func54, Try.ntmps54
      go_wp2_with fail
      go_ret
      exact retNums_two _ _ _
  · obtain ⟨b, hlast⟩ := bal_top HBAL.out (k := k) (by omega) (.inl hop)
    have hbk := last_lt hlast
    rw [ownV_top (.inl hop) hlast] at hown
    obtain ⟨⟨t0, t1, t2⟩, _, _, _⟩ := box3 (HI.out.hP b (by omega) hbk.2).2
    have hbe := bal_end HBAL.out (b := b) hbk.2 (by omega)
    rw [if_pos rfl, topOf_some hlast, Int.toNat_natCast] at hss
    rw [← hon] at t2
    obtain ⟨en, hen⟩ : ∃ en, en = endOf os b os.length := ⟨_, rfl⟩
    rw [← hen] at hss hbe t2
    clear hen HSS HAT HS HI HBAL hop t1 hlast
    subst hss
    go_enter Try.func54, Try.ntmps54
    go_wp2_with fail
    go_ret
    exact retNums_one _ _
  · obtain ⟨b, hlast⟩ := bal_top HBAL.out (k := k) (by omega) (.inr hop)
    have hbk := last_lt hlast
    have hbn : b < xs.length := by omega
    rw [ownV_top (.inr hop) hlast] at hown
    obtain ⟨⟨t0, t1, t2⟩, _, _, _⟩ := box3 (HI.out.hP b (by omega) hbk.2).2
    rw [if_neg (by decide), if_neg (by decide), if_pos rfl, topOf_some hlast, Int.toNat_natCast] at hss
    obtain ⟨b1, off1, hA1, f0, _, _, _⟩ := HS.out.cd hbn
    have hbo := HAT.out b hbn
    obtain ⟨zb, hzb⟩ : ∃ zb, zb = xs[b].op := ⟨_, rfl⟩
    rw [← hzb] at hbo f0
    rw [hbo] at hss hbk
    injection hA1 with hA1
    injection hA1 with hA2 hA3
    subst hA2 hA3
    have hz : zb = 11 ∨ zb = 13 := by
      have := hbk.2
      unfold opensB at this
      rw [Bool.or_eq_true, beq_iff_eq, beq_iff_eq] at this
      exact this
    have hbk1 := hbk.1
    clear HSS HAT HS HI HBAL hop t1 t2 hlast hzb hbo hbk
    rcases hz with rfl | rfl
    · rw [if_neg (by decide)] at hss
      subst hss
      go_enter Try.func54, Try.ntmps54
      go_wp2_with fail
      go_ret
      exact retNums_one _ _
    · rw [if_pos rfl] at hss
      subst hss
      go_enter Try.func54, Try.ntmps54
      go_wp2_with fail
      go_ret
      exact retNums_two _ _ _
  · rw [if_neg (by simpa using n12), if_neg (by unfold opensB; rw [n11, n13]; decide), if_neg (by simpa using n14)] at hss
    subst hss
    obtain ⟨ov, hov⟩ : ∃ ov, ov = ownV P os k := ⟨_, rfl⟩
    rw [← hov] at hown
    clear HSS HAT HS HI HBAL hop hov
    go_enter Try.func54, Try.ntmps54
    go_wp2_with fail
    go_ret
    exact retNums_one _ _
end Go.Proofs.Ytjgemgjpbanliaa
