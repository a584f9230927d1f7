/-
  Contracts of the draws of cells and a number of banks, and of the draw for IsGathered.
-/
import Derived.Test.YtjgmghlgjjfifaaDCells
import Derived.Test.YtjgmghlgjjfifaaCStride
namespace Go.Proofs.Ytjgmghlgjjfifaa
open Go.RowKit
set_option maxHeartbeats 800000
set_option linter.unusedVariables false

theorem pow_small5 (n : Nat) (hn : n ≤ 5) : 0 ≤ wrap64 (2 ^ n) ∧ wrap64 (2 ^ n) ≤ 33 := by
  have : n = 0 ∨ n = 1 ∨ n = 2 ∨ n = 3 ∨ n = 4 ∨ n = 5 := by omega
  rcases this with rfl | rfl | rfl | rfl | rfl | rfl <;> simp [wrap64]
theorem strideCells_small (b s l : Int) : (strideCells b s l).length ≤ 9 ∧ ∀ z ∈ strideCells b s l, smallCell z := by
  unfold strideCells
  split
  · rename_i h
    simp only [Bool.and_eq_true] at h
    have h2 := inB_t h.2
    refine ⟨by rw [strideUpto_length]; omega, fun z hz => ?_⟩
    simp only [strideUpto, List.mem_map, List.mem_range] at hz
    obtain ⟨k, _, rfl⟩ := hz
    have h1 := Int.emod_nonneg (b + (k : Int) * s) (show (256 : Int) ≠ 0 by omega)
    have h2 := Int.emod_lt_of_pos (b + (k : Int) * s) (show (0 : Int) < 256 by omega)
    unfold smallCell; omega
  · simp
def regBanks (br N : Nat) (w0 : World) : Reg where
  nd := [2, 5, 7, 8, 10, 12, 14]
  K := fun
    | 2 => kInt 0 5
    | 5 => kInt 0 31
    | 7 => kLit w0.heap.size 4 0 33
    | 8 => kLit w0.heap.size 7 0 3
    | 10 => kInt 0 6
    | 12 => kInt 0 3
    | 14 => kInt 0 33
    | _ => kNone
  ne := fun i => by
    split <;> first | exact kInt_ne _ _ (by omega) | exact kLit_ne _ _ _ _ | exact ⟨()⟩
  I := drawI br N w0
  mono := drawI_mono br N w0
  hy := fun
    | 12 => [8]
    | 14 => [7]
    | _ => []
  kills := fun _ => []
theorem regBanks_keeps (br N : Nat) (w0 : World) (hlt : br < w0.heap.size) {w w' : World} (hg : w.grownBy w' (some br)) (i : Nat) : (regBanks br N w0).keeps i w w' := by
  intro k hk _ _
  simp only [regBanks, List.mem_cons, List.not_mem_nil, or_false] at hk
  rcases hk with rfl | rfl | rfl | rfl | rfl | rfl | rfl
  all_goals first | exact fun y h => h | exact fun y h => LitAt.grown h hlt hg
/-- cells and a number are drawn; the reader goes on. -/
def DrawnCellsR (lo hi : Int) (br N : Nat) (w : World) (e : Ending) (w' : World) : Prop :=
  ∃ A c ys, ∃ s : Int, e = .returned (.tuple #[.slice A ys.length c, .int .i64 s]) ∧ w'.ownsRow w.heap.size 3 1 (.slice A ys.length c) ys.length (ints ys) ∧ ys.length ≤ 9 ∧ (lo ≤ s ∧ s ≤ hi) ∧ (∀ z ∈ ys, smallCell z) ∧ Rd w' br N ∧ w.grownBy w' (some br)
/-- the region's end: the list as it came, some number of banks. -/
theorem l20Banks_any (br N : Nat) (w : World) (hN : N ≤ 800000000) (h : Rd w br N) :
    Calls Try.prog 53 #[.pointer (some ⟨br, 0, none⟩)] w (DrawnCellsR 0 33 br (N + 34) w) := by
  have hlt0 := h.lt
  go_enter Try.func53, Try.ntmps53
  go_wp2_with fail
  refine (l20Cells_any _ _ _ _ (by omega) (by omega) (by omega) h).mono ?_
  rintro e w1 ⟨A1, c1, ys1, rfl, o1, hy1, hd1, r1, g1⟩
  have HD1 := mkHid hd1
  have HO1 := mkHid o1
  have HG1 := mkHid g1
  have hs1 := g1.size
  clear hd1 o1 g1 h
  go_wp2_with fail
  refine (pick_any _ _ _ _ (by omega) r1).mono ?_
  rintro e w2 ⟨q, rfl, q0, q1, r2, g2⟩
  have HO2 := mkHid (own_grown HO1.out g2 (fun g e => by have := (HO1.out.lt g e).1; omega))
  have HG2 := mkHid (grown_trans HG1.out g2)
  clear g2 q1 r1 HO1
  have hlist : ∀ (W : World) (A : Option Addr) (c : Nat) (ys : List Int), Hid (W.ownsRow w.heap.size 3 1 (.slice A ys.length c) ys.length (ints ys)) → ys.length ≤ 9 → Hid (∀ z ∈ ys, smallCell z) → Rd W br (N + 17) → Hid (w.grownBy W (some br)) → True := fun _ _ _ _ _ _ _ _ _ => trivial
  clear hlist
  by_cases hq : q = 0
  case' pos =>
    subst hq
    go_wp2_with fail
    refine (pick_any _ _ _ _ (by omega) r2).mono ?_
    rintro e w3 ⟨a, rfl, a0, a1, r3, g3⟩
    have HG3 := mkHid (grown_trans HG2.out g3)
    clear g3 r2
    go_wp2_with fail
    refine (pick_any _ _ _ _ (by omega) r3).mono ?_
    rintro e w4 ⟨b, rfl, b0, b1, r4, g4⟩
    have HG4 := mkHid (grown_trans HG3.out g4)
    clear g4 r3
    go_wp2_with fail
    refine (pick_any _ _ _ _ (by omega) r4).mono ?_
    rintro e w5 ⟨l, rfl, l0, l1, r5, g5⟩
    have l1 := l1 (by omega)
    have HG5 := mkHid (grown_trans HG4.out g5)
    have hs5 := HG5.out.size
    clear g5 r4
    go_wp2_with fail
    refine (specStrideCells_any _ _ _ _).mono ?_
    rintro e w6 ⟨A, c, rfl, o6, b6⟩
    have hsm := strideCells_small a b (1 + l)
    generalize strideCells a b (1 + l) = ys at *
    have hyl := hsm.1
    have HD := mkHid hsm.2
    have HO := mkHid (own_base o6 hs5)
    have HG := mkHid (grown_trans HG5.out (grown_of_below b6 _))
    have HR := mkHid ((r5.below b6).mono (M := N + 17) (by omega))
    clear hsm o6 b6 r5 HD1
    generalize w6 = w7 at *
  case' neg =>
    have hqb : (q == 0) = false := by simpa using hq
    have HD := HD1
    have HO := HO2
    have HG := HG2
    have HR := mkHid (r2.mono (M := N + 17) (by omega))
    clear r2 HD1
    go_wp2_with fail
    generalize w2 = w7 at *
    generalize A1 = A at *
    generalize c1 = c at *
    generalize ys1 = ys at *
  all_goals (
    have hs7 := HG.out.size
    have hlt7 : br < w7.heap.size := HR.out.lt
    have hkeep := @regBanks_keeps br (N + 17) w7 hlt7
    go_wp2_with fail
    refine wp_region_N (regBanks br (N + 17) w7) (by kernel_rfl) (by kernel_rfl) (by kernel_rfl) (drawI_start HR.out) (fun xs => ?_)
    refine wpN_det rfl rfl rfl (fun K hK => ?_); go_big_quiet_op; first | (refine hK _ ?_; clear hK K) | (refine ⟨_, fun _ => rfl, hK _ ?_⟩; clear hK K)
    refine wpN_det rfl rfl rfl (fun K hK => ?_); go_big_quiet_op; first | (refine hK _ ?_; clear hK K) | (refine ⟨_, fun _ => rfl, hK _ ?_⟩; clear hK K)
    refine wpN_nd rfl rfl ?_ (fun x hx2 => ?_)
    · intro m w hm hI hh
      simp [yields, go_sem]
      refine (pick_any _ _ _ _ (by omega) hI.1).mono ?_
      rintro e w' ⟨r, rfl, h0, h1, hr, hg⟩
      exact ⟨_, rfl, ⟨r, h0, by omega⟩, rfl, trivial, drawI_pick hI hr hg, hkeep hg _⟩
    obtain ⟨r2, p2⟩ := x
    obtain ⟨n2, rfl⟩ := Int.eq_ofNat_of_zero_le p2.1
    show wpN _ _ _ _ _ _ _ (Act.put _ _ (.int .i64 n2))
    simp only [Act.put, List.setIfInBounds_toArray, List.set_cons_succ, List.set_cons_zero]
    refine wpN_det rfl rfl rfl (fun K hK => ?_); go_big_quiet_op; first | (refine hK _ ?_; clear hK K) | (refine ⟨_, fun _ => rfl, hK _ ?_⟩; clear hK K)
    have z1 := pow_small5 n2 (by omega)
    generalize wrap64 (2 ^ n2) = y1 at z1 ⊢
    refine wpN_det rfl rfl rfl (fun K hK => ?_); go_big_quiet_op; first | (refine hK _ ?_; clear hK K) | (refine ⟨_, fun _ => rfl, hK _ ?_⟩; clear hK K)
    refine wpN_nd rfl rfl ?_ (fun x hx5 => ?_)
    · intro m w hm hI hh
      simp [yields, go_sem]
      refine (pick_any _ _ _ _ (by omega) hI.1).mono ?_
      rintro e w' ⟨r, rfl, h0, h1, hr, hg⟩
      exact ⟨_, rfl, ⟨r, h0, by omega⟩, rfl, trivial, drawI_pick hI hr hg, hkeep hg _⟩
    obtain ⟨r5, p5⟩ := x
    obtain ⟨n5, rfl⟩ := Int.eq_ofNat_of_zero_le p5.1
    show wpN _ _ _ _ _ _ _ (Act.put _ _ (.int .i64 n5))
    simp only [Act.put, List.setIfInBounds_toArray, List.set_cons_succ, List.set_cons_zero]
    refine wpN_det rfl rfl rfl (fun K hK => ?_); go_big_quiet_op; first | (refine hK _ ?_; clear hK K) | (refine ⟨_, fun _ => rfl, hK _ ?_⟩; clear hK K)
    refine wpN_nd rfl rfl ?_ (fun x hx7 => ?_)
    · intro m w hm hI hh
      simp [yields, go_sem]
      exact ⟨(w.heap.size : Nat), rfl, LitAt.new w [y1, 1 + n5, 0, 33] _ hI.2.size (by simp <;> omega), drawI_alloc hI _, hkeep (World.grownBy_alloc _ _ _) _⟩
    obtain ⟨g7, rfl⟩ : ∃ g : Nat, g = x := ⟨x, rfl⟩
    show wpN _ _ _ _ _ _ _ (Act.put _ _ (.slice (some ⟨g7, 0, none⟩) 4 4))
    simp only [Act.put, List.setIfInBounds_toArray, List.set_cons_succ, List.set_cons_zero]
    refine wpN_nd rfl rfl ?_ (fun x hx8 => ?_)
    · intro m w hm hI hh
      simp [yields, go_sem]
      exact ⟨(w.heap.size : Nat), rfl, LitAt.new w [0, 0, 0, 1, 1, 2, 3] _ hI.2.size (by simp <;> omega), drawI_alloc hI _, hkeep (World.grownBy_alloc _ _ _) _⟩
    obtain ⟨g8, rfl⟩ : ∃ g : Nat, g = x := ⟨x, rfl⟩
    show wpN _ _ _ _ _ _ _ (Act.put _ _ (.slice (some ⟨g8, 0, none⟩) 7 7))
    simp only [Act.put, List.setIfInBounds_toArray, List.set_cons_succ, List.set_cons_zero]
    refine wpN_det rfl rfl rfl (fun K hK => ?_); go_big_quiet_op; first | (refine hK _ ?_; clear hK K) | (refine ⟨_, fun _ => rfl, hK _ ?_⟩; clear hK K)
    refine wpN_nd rfl rfl ?_ (fun x hx10 => ?_)
    · intro m w hm hI hh
      simp [yields, go_sem]
      refine (pick_any _ _ _ _ (by omega) hI.1).mono ?_
      rintro e w' ⟨r, rfl, h0, h1, hr, hg⟩
      exact ⟨_, rfl, ⟨r, h0, by omega⟩, rfl, trivial, drawI_pick hI hr hg, hkeep hg _⟩
    obtain ⟨r10, p10⟩ := x
    obtain ⟨n10, rfl⟩ := Int.eq_ofNat_of_zero_le p10.1
    show wpN _ _ _ _ _ _ _ (Act.put _ _ (.int .i64 n10))
    simp only [Act.put, List.setIfInBounds_toArray, List.set_cons_succ, List.set_cons_zero]
    refine wpN_det rfl rfl rfl (fun K hK => ?_); go_big_quiet_op; first | (refine hK _ ?_; clear hK K) | (refine ⟨_, fun _ => rfl, hK _ ?_⟩; clear hK K)
    refine wpN_nd rfl rfl ?_ (fun x hx12 => ?_)
    · intro m w hm hI hh
      have hl := hh 8 (List.mem_singleton_self 8)
      rw [hx8] at hl
      obtain ⟨z, z0, z1, hc⟩ := LitAt.at_ hl (j := n10) (by omega)
      simp only [Nat.zero_add] at hc
      simp [yields, go_sem, hc]
      exact ⟨⟨z, z0, z1⟩, rfl, trivial, drawI_mono _ _ _ _ _ hI, hkeep (World.grownBy.refl _ _) _⟩
    obtain ⟨r12, p12⟩ := x
    obtain ⟨n12, rfl⟩ := Int.eq_ofNat_of_zero_le p12.1
    show wpN _ _ _ _ _ _ _ (Act.put _ _ (.int .i64 n12))
    simp only [Act.put, List.setIfInBounds_toArray, List.set_cons_succ, List.set_cons_zero]
    refine wpN_det rfl rfl rfl (fun K hK => ?_); go_big_quiet_op; first | (refine hK _ ?_; clear hK K) | (refine ⟨_, fun _ => rfl, hK _ ?_⟩; clear hK K)
    refine wpN_nd rfl rfl ?_ (fun x hx14 => ?_)
    · intro m w hm hI hh
      have hl := hh 7 (List.mem_singleton_self 7)
      rw [hx7] at hl
      obtain ⟨z, z0, z1, hc⟩ := LitAt.at_ hl (j := n12) (by omega)
      simp only [Nat.zero_add] at hc
      simp [yields, go_sem, hc]
      exact ⟨⟨z, z0, z1⟩, rfl, trivial, drawI_mono _ _ _ _ _ hI, hkeep (World.grownBy.refl _ _) _⟩
    obtain ⟨r14, p14⟩ := x
    obtain ⟨n14, rfl⟩ := Int.eq_ofNat_of_zero_le p14.1
    show wpN _ _ _ _ _ _ _ (Act.put _ _ (.int .i64 n14))
    simp only [Act.put, List.setIfInBounds_toArray, List.set_cons_succ, List.set_cons_zero]
    refine wpN_det rfl rfl rfl (fun K hK => ?_); go_big_quiet_op; first | (refine hK _ ?_; clear hK K) | (refine ⟨_, fun _ => rfl, hK _ ?_⟩; clear hK K)
    refine wpN_det rfl rfl rfl (fun K hK => ?_); go_big_quiet_op; first | (refine hK _ ?_; clear hK K) | (refine ⟨_, fun _ => rfl, hK _ ?_⟩; clear hK K)
    refine wpN_end (fun w' hI _ => ?_)
    have hr := hI.1
    have hg := hI.2
    simp at hr
    have HR8 := mkHid hr
    have HO8 := mkHid (own_grown HO.out hg (fun g e => by have := (HO.out.lt g e).1; omega))
    have HG8 := mkHid (grown_trans HG.out hg)
    clear hr hg hI
    go_wp2_with fail
    go_ret2
    exact ⟨A, c, ys, n14, rfl, HO8.out, by omega, by omega, HD.out, HR8.out.mono (by omega), HG8.out⟩)
theorem drawBankLoads_any (A : Option Addr) (c : Nat) (zs : List Int) (w : World) (hl : zs.length ≤ 9223372036854775807) (hcap : zs.length ≤ c) (hs : Sl w A (u8s zs)) (hz : ∀ z ∈ zs, 0 ≤ z ∧ z ≤ 255) :
    Calls Try.prog 29 #[.slice A zs.length c] w (DrawnCells 0 33 w) := by
  go_enter Try.func29, Try.ntmps29
  go_wp2_with fail
  refine (l20Open_any _ _ _ _ hl hcap hs hz).mono ?_
  rintro e w1 ⟨br, rfl, hbr, r1, b1⟩
  go_wp2_with fail
  refine (l20Banks_any _ _ _ (by omega) r1).mono ?_
  rintro e w2 ⟨A2, c2, ys, s, rfl, o2, hy, hsz, hd, r2, g2⟩
  have HD := mkHid hd
  have HO := mkHid o2
  have HB := mkHid (b1.grown g2 b1.size (by simpa using hbr))
  clear hd o2 g2 r1 b1 r2
  go_wp2_with fail
  go_ret2
  exact ⟨A2, c2, ys, s, rfl, Sl.of_own HO.out, hy, own_cap HO.out, hsz, HD.out, HB.out⟩
theorem drawBankRounds_any (A : Option Addr) (c : Nat) (zs : List Int) (w : World) (hl : zs.length ≤ 9223372036854775807) (hcap : zs.length ≤ c) (hs : Sl w A (u8s zs)) (hz : ∀ z ∈ zs, 0 ≤ z ∧ z ≤ 255) :
    Calls Try.prog 31 #[.slice A zs.length c] w (DrawnCells 0 33 w) := by
  go_enter Try.func31, Try.ntmps31
  go_wp2_with fail
  refine (l20Open_any _ _ _ _ hl hcap hs hz).mono ?_
  rintro e w1 ⟨br, rfl, hbr, r1, b1⟩
  go_wp2_with fail
  refine (l20Banks_any _ _ _ (by omega) r1).mono ?_
  rintro e w2 ⟨A2, c2, ys, s, rfl, o2, hy, hsz, hd, r2, g2⟩
  have HD := mkHid hd
  have HO := mkHid o2
  have HB := mkHid (b1.grown g2 b1.size (by simpa using hbr))
  clear hd o2 g2 r1 b1 r2
  go_wp2_with fail
  go_ret2
  exact ⟨A2, c2, ys, s, rfl, Sl.of_own HO.out, hy, own_cap HO.out, hsz, HD.out, HB.out⟩
theorem drawBankConflicts_any (A : Option Addr) (c : Nat) (zs : List Int) (w : World) (hl : zs.length ≤ 9223372036854775807) (hcap : zs.length ≤ c) (hs : Sl w A (u8s zs)) (hz : ∀ z ∈ zs, 0 ≤ z ∧ z ≤ 255) :
    Calls Try.prog 32 #[.slice A zs.length c] w (DrawnCells 0 33 w) := by
  go_enter Try.func32, Try.ntmps32
  go_wp2_with fail
  refine (l20Open_any _ _ _ _ hl hcap hs hz).mono ?_
  rintro e w1 ⟨br, rfl, hbr, r1, b1⟩
  go_wp2_with fail
  refine (l20Banks_any _ _ _ (by omega) r1).mono ?_
  rintro e w2 ⟨A2, c2, ys, s, rfl, o2, hy, hsz, hd, r2, g2⟩
  have HD := mkHid hd
  have HO := mkHid o2
  have HB := mkHid (b1.grown g2 b1.size (by simpa using hbr))
  clear hd o2 g2 r1 b1 r2
  go_wp2_with fail
  go_ret2
  exact ⟨A2, c2, ys, s, rfl, Sl.of_own HO.out, hy, own_cap HO.out, hsz, HD.out, HB.out⟩
theorem drawIsGathered_any (A : Option Addr) (c : Nat) (zs : List Int) (w : World) (hl : zs.length ≤ 9223372036854775807) (hcap : zs.length ≤ c) (hs : Sl w A (u8s zs)) (hz : ∀ z ∈ zs, 0 ≤ z ∧ z ≤ 255) :
    Calls Try.prog 33 #[.slice A zs.length c] w (DrawnCells 0 65 w) := by
  go_enter Try.func33, Try.ntmps33
  go_wp2_with fail
  refine (l20Open_any _ _ _ _ hl hcap hs hz).mono ?_
  rintro e w1 ⟨br, rfl, hbr, r1, b1⟩
  have hbl := r1.lt
  have HB1 := mkHid b1
  clear b1 hs hz
  go_wp2_with fail
  refine (pick_any _ _ _ _ (by omega) r1).mono ?_
  rintro e w2 ⟨q, rfl, q0, q1, r2, g2⟩
  have HG2 := mkHid g2
  clear g2 q1 r1
  by_cases hq : q = 0
  · subst hq
    go_wp2_with fail
    refine (pick_any _ _ _ _ (by omega) r2).mono ?_
    rintro e w3 ⟨a, rfl, a0, a1, r3, g3⟩
    have HG3 := mkHid (grown_trans HG2.out g3)
    clear g3 r2
    go_wp2_with fail
    refine (pick_any _ _ _ _ (by omega) r3).mono ?_
    rintro e w4 ⟨b, rfl, b0, b1, r4, g4⟩
    have HG4 := mkHid (grown_trans HG3.out g4)
    clear g4 r3
    go_wp2_with fail
    refine (pick_any _ _ _ _ (by omega) r4).mono ?_
    rintro e w5 ⟨l, rfl, l0, l1, r5, g5⟩
    have l1 := l1 (by omega)
    have HG5 := mkHid (grown_trans HG4.out g5)
    have hs5 := HG5.out.size
    clear g5 r4
    go_wp2_with fail
    refine (specStrideCells_any _ _ _ _).mono ?_
    rintro e w6 ⟨A2, c2, rfl, o6, b6⟩
    have hsm := strideCells_small a b (1 + l)
    generalize strideCells a b (1 + l) = ys at *
    have hyl := hsm.1
    have HD := mkHid hsm.2
    have HO := mkHid (own_base o6 hs5)
    have HG := mkHid (grown_trans HG5.out (grown_of_below b6 (some br)))
    have r6 := r5.below b6
    clear hsm o6 b6 r5
    go_wp2_with fail
    refine (l20Size_any _ _ _ (by omega) r6).mono ?_
    rintro e w7 ⟨s, rfl, hsz, r7, g7⟩
    have HO7 := mkHid (own_grown HO.out g7 (fun g e => by have := (HO.out.lt g e).1; omega))
    have HB7 := mkHid (HB1.out.grown (grown_trans HG.out g7) HB1.out.size (by simpa using hbr))
    clear g7 r7 r6
    go_wp2_with fail
    go_ret2
    exact ⟨A2, c2, ys, s, rfl, Sl.of_own HO7.out, hyl, own_cap HO7.out, hsz, HD.out, HB7.out⟩
  · have hqb : (q == 0) = false := by simpa using hq
    go_wp2_with fail
    refine (l20Cells_any _ _ _ _ (by omega) (by omega) (by omega) r2).mono ?_
    rintro e w3 ⟨A2, c2, ys, rfl, o2, hy, hd, r3, g3⟩
    have HD := mkHid hd
    have HG3 := mkHid (grown_trans HG2.out g3)
    have HO := mkHid (own_base o2 (base' := w1.heap.size) HG2.out.size)
    clear hd o2 g3 r2
    go_wp2_with fail
    refine (l20Size_any _ _ _ (by omega) r3).mono ?_
    rintro e w7 ⟨s, rfl, hsz, r7, g7⟩
    have HO7 := mkHid (own_grown HO.out g7 (fun g e => by have := (HO.out.lt g e).1; omega))
    have HB7 := mkHid (HB1.out.grown (grown_trans HG3.out g7) HB1.out.size (by simpa using hbr))
    clear g7 r7 r3
    go_wp2_with fail
    go_ret2
    exact ⟨A2, c2, ys, s, rfl, Sl.of_own HO7.out, hy, own_cap HO7.out, hsz, HD.out, HB7.out⟩
end Go.Proofs.Ytjgmghlgjjfifaa
