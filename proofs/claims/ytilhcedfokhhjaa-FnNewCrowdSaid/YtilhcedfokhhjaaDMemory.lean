/-
  Contracts of the draws l20Memory, DrawNewCrowd.
-/
import Derived.Test.YtilhcedfokhhjaaDOrder
namespace Go.Proofs.Ytilhcedfokhhjaa
open Go.RowKit
set_option maxHeartbeats 2000000
set_option linter.unusedVariables false

theorem l20Memory_any (n : Int) (br N : Nat) (w : World) (hn : 1 ≤ n ∧ n ≤ 1000000) (hN : N ≤ 900000000) (h : Rd w br N) :
    Calls Try.prog 48 #[.pointer (some ⟨br, 0, none⟩), .int .i64 n] w (DrawnRow 33 br (N + 200) w) := by
  have hlt0 := h.lt
  obtain ⟨i0, hi0, hz0, hz1, hz2⟩ := info_parts Ei.hi
  go_enter Try.func48, Try.ntmps48
  go_wp2_with fail
  refine (pick_any _ _ N _ (by omega) (h.below ((Below.refl _ _).alloc (Nat.le_refl _) _))).mono ?_
  rintro e w1 ⟨r, rfl, hr0, hr1, r1, g1⟩
  have hr1 := hr1 (by omega)
  have o1 := own_grown (own_empty w 3 1) g1 (by simp [Value.ownBlock]; omega)
  have hG1 := grown_trans (World.grownBy_alloc _ _ _) g1
  have hsz1 := hG1.size
  have hlit := LitAt.new (base := w1.heap.size) (lo := 1) (hi := 32) w1 [8, 16, 1 + r, 32] 3 (Nat.le_refl _) (by simp; omega)
  have HO1 := mkHid (o1.alloc (.cells #[.int .i64 8, .int .i64 16, .int .i64 (1 + r), .int .i64 32] 3))
  have HG1 := mkHid (grown_trans hG1 (World.grownBy_alloc _ (.cells #[.int .i64 8, .int .i64 16, .int .i64 (1 + r), .int .i64 32] 3) _))
  have R1 := mkHid (r1.below ((Below.refl _ _).alloc (Nat.le_refl _) (.cells #[.int .i64 8, .int .i64 16, .int .i64 (1 + r), .int .i64 32] 3)))
  have HL := mkHid hlit
  have hlt1 := r1.lt
  clear o1 g1 h r1 hG1 hlit
  go_wp2_with fail
  refine (pick_any _ _ _ _ (by omega) R1.out).mono ?_
  rintro e w2 ⟨q, rfl, q0, q1, r2, g2⟩
  have q1 := q1 (by omega)
  obtain ⟨qn, rfl⟩ := Int.eq_ofNat_of_zero_le q0
  obtain ⟨z, z0, z1, hc⟩ := (HL.out.grown hlt1 g2).at_ (j := qn) (by simp; omega)
  simp only [Nat.zero_add] at hc
  have HO2 := mkHid (own_grown HO1.out g2 (by simp [Value.ownBlock]; omega))
  have HG2 := mkHid (grown_trans HG1.out g2)
  have R2 := mkHid r2
  obtain ⟨j0, rfl⟩ := Int.eq_ofNat_of_zero_le (show 0 ≤ z by omega)
  clear r2 g2 HO1 HG1 R1 HL
  go_wp2_with fail
  clear hc
  go_loopw [5, 6] (fun v i wr => ∃ j : Nat, i = .int .i64 j ∧ ∃ g c ys, v = .slice (some ⟨g, 0, none⟩) ys.length c ∧ wr.ownsRow w.heap.size 3 1 (.slice (some ⟨g, 0, none⟩) ys.length c) ys.length (ints ys) ∧ ys.length + j = j0 ∧ (∀ z ∈ ys, smallLane z) ∧ Rd wr br (N + 2 + 3 * ys.length) ∧ w.grownBy wr (some br)) (fun _ i _ => (intOf i).toNat)
  case atStart => exact ⟨j0, rfl, _, 0, [], rfl, HO2.out, by simp, by simp, R2.out, HG2.out⟩
  case round =>
    obtain ⟨j, rfl, g, c, ys, rfl, hown, hj, hd, hrd, hgr⟩ := hrel
    have hsz := hgr.size
    have HO := mkHid hown
    have HG := mkHid hgr
    have HD := mkHid hd
    have HRD := mkHid hrd
    have hlt := hrd.lt
    clear hown hgr hd HO2 HG2 R2 hrd
    by_cases hlt : 0 < j
    · go_wp2_with fail
      refine (pick_any _ _ _ _ (by omega) HRD.out).mono ?_
      rintro e w3 ⟨a, rfl, a0, a1, r3, g3⟩
      have a1 := a1 (by omega)
      have R3 := mkHid r3
      have G3 := mkHid g3
      clear r3 g3
      go_wp2_with fail
      refine (pick_any _ _ _ _ (by omega) R3.out).mono ?_
      rintro e w4 ⟨b, rfl, b0, b1, r4, g4⟩
      have b1 := b1 (by omega)
      have hlit := LitAt.new (base := w4.heap.size) (lo := 0) (hi := 255) w4 [0, a, b] 3 (Nat.le_refl _) (by simp; omega)
      have HL := mkHid hlit
      have hlt4 := r4.lt
      have R4 := mkHid (r4.below ((Below.refl _ _).alloc (Nat.le_refl _) (.cells #[.int .i64 0, .int .i64 a, .int .i64 b] 3)))
      have G4 := mkHid (grown_trans (grown_trans G3.out g4) (World.grownBy_alloc _ (.cells #[.int .i64 0, .int .i64 a, .int .i64 b] 3) _))
      clear r4 g4 hlit
      go_wp2_with fail
      refine (pick_any _ _ _ _ (by omega) R4.out).mono ?_
      rintro e w5 ⟨q, rfl, q0, q1, r5, g5⟩
      have q1 := q1 (by omega)
      obtain ⟨qn, rfl⟩ := Int.eq_ofNat_of_zero_le q0
      obtain ⟨z, z0, z1, hc⟩ := (HL.out.grown hlt4 g5).at_ (j := qn) (by simp; omega)
      simp only [Nat.zero_add] at hc
      have hg5 := grown_trans G4.out g5
      have HR5 := mkHid r5
      have HO5 := mkHid (own_grown HO.out hg5 (fun g e => by have := (HO.out.lt g e).1; omega))
      have HG5 := mkHid (grown_trans HG.out hg5)
      have HQ := mkHid (show smallLane z by unfold smallLane; omega)
      have hsz5 := HG5.out.size
      clear r5 g5 hg5 G3 G4 R3 R4 HL
      go_wp2_with (at_builtin; refine wpList_appS Ei (HO5.out.alloc _) (newCells _ _ _) rfl (by simp [Value.oneCell']) (by omega) (by omega) (by simp; omega) rfl rfl rfl rfl ?_; intro g' c' w6 hown6 hg6; have HO6 := mkHid hown6; have HG6 := mkHid hg6; clear hown6 hg6)
      go_roundw
      case rel =>
        refine ⟨j - 1, by congr 1; omega, g', c', ys ++ [z], by simp, ?_, by simp; omega, ?_, ?_, ?_⟩
        · have := HO6.out
          rw [List.length_append]
          simpa [ints] using this
        · intro z' hz'
          rcases List.mem_append.1 hz' with h | h
          · exact HD.out z' h
          · simp only [List.mem_singleton] at h
            subst h
            exact HQ.out
        · refine Rd.mono (N := N + 2 + 3 * ys.length + 1 + 1 + 1) ?_ (by simp; omega)
          exact (HR5.out.below ((Below.refl _ _).alloc (Nat.le_refl _) _)).app (HO5.out.alloc _) hlt0 HG6.out
        · exact grown_app (grown_trans HG5.out (World.grownBy_alloc _ _ _)) (HO5.out.alloc _) (Nat.le_refl _) HG6.out
      case measure => simp [intOf] <;> omega
    · have hy1 : 1 ≤ ys.length ∧ ys.length ≤ 32 := by omega
      have R11 := mkHid (HRD.out.mono (M := N + 120) (by omega))
      have hj0 : j = 0 := by omega
      subst hj0
      clear HRD hj
      go_wp2_with fail
      refine (oddAny _ _ _ _ hn.1 hn.2 (by omega) R11.out).mono ?_
      rintro e w3 ⟨b, rfl, r3, g3⟩
      have HO3 := mkHid (own_grown HO.out g3 (fun g e => by have := (HO.out.lt g e).1; omega))
      have HG3 := mkHid (grown_trans HG.out g3)
      have hsz3 := HG3.out.size
      have HR3 := mkHid r3
      clear g3 r3 R11 HO HG
      cases b with
      | false =>
        go_wp2_with fail
        go_ret
        exact ⟨g, c, ys, rfl, HO3.out, by omega, HD.out, HR3.out.mono (by omega), HG3.out⟩
      | true =>
        go_wp2_with fail
        refine (pick_any _ _ _ _ (by omega) HR3.out).mono ?_
        rintro e w4 ⟨q, rfl, q0, q1, r4, g4⟩
        have HO4 := mkHid (own_grown HO3.out g4 (fun g e => by have := (HO3.out.lt g e).1; omega))
        have HG4 := mkHid (grown_trans HG3.out g4)
        have hsz4 := HG4.out.size
        have HR4 := mkHid (r4.mono (M := N + 130) (by omega))
        have hlt4 := r4.lt
        clear g4 r4 HR3 HO3 HG3
        have q1 := q1 (by omega)
        have hq3 : q = 0 ∨ q = 1 ∨ q = 2 := by omega
        clear q0 q1
        rcases hq3 with rfl | rfl | rfl
        · go_wp2_with fail
          go_ret
          refine ⟨w4.heap.size, 0, [], rfl, own_base (own_empty w4 _ _) hsz4, by simp, (fun z hz => absurd hz (by simp)), (HR4.out.below ((Below.refl _ _).alloc (Nat.le_refl _) _)).mono (by omega), grown_trans HG4.out (World.grownBy_alloc _ _ _)⟩
        · have hlit := LitAt.new (base := w4.heap.size) (lo := -1) (hi := 256) w4 [-1, 256] 3 (Nat.le_refl _) (by simp)
          have HL := mkHid hlit
          have HO5 := mkHid (HO4.out.alloc (.cells #[.int .i64 (-1), .int .i64 256] 3))
          have HG5 := mkHid (grown_trans HG4.out (World.grownBy_alloc _ (.cells #[.int .i64 (-1), .int .i64 256] 3) _))
          have HR5 := mkHid (HR4.out.below ((Below.refl _ _).alloc (Nat.le_refl _) (.cells #[.int .i64 (-1), .int .i64 256] 3)))
          clear hlit
          go_wp2_with fail
          refine (pick_any _ _ _ _ (by omega) HR5.out).mono ?_
          rintro e w6 ⟨p, rfl, p0, p1, r6, g6⟩
          have p1 := p1 (by omega)
          obtain ⟨pn, rfl⟩ := Int.eq_ofNat_of_zero_le p0
          obtain ⟨z, z0, z1, hc⟩ := (HL.out.grown hlt4 g6).at_ (j := pn) (by simp; omega)
          simp only [Nat.zero_add] at hc
          have HO6 := mkHid (own_grown HO5.out g6 (fun g e => by have := (HO5.out.lt g e).1; omega))
          have HG6 := mkHid (grown_trans HG5.out g6)
          have HR6 := mkHid r6
          obtain ⟨g', hg', hgb, hgs, hcell, hfr, hst⟩ := own_open HO6.out (i := 0) (by simp; omega)
          injection hg' with hg'
          injection hg' with hg'
          subst hg'
          have HST := mkHid (hst (.int .i64 z))
          have HQ := mkHid (show smallLane z by unfold smallLane; omega)
          clear g6 r6 hst
          go_wp2_with fail
          go_ret
          refine ⟨g, c, ys.set 0 z, ret_eq (by simp), ?_, by simp; omega, ?_, ?_, ?_⟩
          · have := HST.out
            rw [List.length_set]
            simpa [ints, List.map_set] using this
          · intro z' hz'
            rcases List.mem_or_eq_of_mem_set hz' with h | h
            · exact HD.out z' h
            · subst h; exact HQ.out
          · exact (HR6.out.grown (grown_setCell _ g 0 _) (fun g' hg' => by injection hg' with hg'; subst hg'; omega)).mono (by omega)
          · exact grown_app HG6.out HO6.out (Nat.le_refl _) (grown_setCell _ g 0 _)
        · go_wp2_with (at_make; refine wpList_make_full _ rfl _ _ _ rfl w4.heap.size _ i0 _ 1 Ei.ht hi0 hz0 hz1 _ _ _ _ 33 rfl rfl rfl rfl (by rw [hz2]; omega) (by simp only [maxLen]; omega) (Nat.le_refl _) ?_; intro w5 hown5 hg5; have HO5 := mkHid hown5; have HG5 := mkHid hg5; clear hown5 hg5)
          go_ret
          refine ⟨_, _, zerosL 33, rfl, ?_, by simp [zerosL], ?_, ?_, ?_⟩
          · have := HO5.out
            rw [madeZeros] at this
            exact own_base this hsz4
          · intro z hz
            rw [List.eq_of_mem_replicate hz]
            unfold smallLane; omega
          · exact (HR4.out.grown HG5.out (by simp)).mono (by omega)
          · exact grown_trans HG4.out (grown_none HG5.out _)
end Go.Proofs.Ytilhcedfokhhjaa
