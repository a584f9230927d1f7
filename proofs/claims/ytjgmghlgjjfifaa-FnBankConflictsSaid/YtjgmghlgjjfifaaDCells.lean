/-
  Contracts of the draws of cells: odd, l20Cells, and the draws that hand back cells and a size.
-/
import Derived.Test.YtjgmghlgjjfifaaDSize
import Derived.Test.YtjgmghlgjjfifaaLib2
namespace Go.Proofs.Ytjgmghlgjjfifaa
open Go.RowKit
set_option maxHeartbeats 800000
set_option linter.unusedVariables false

def DrawnBool (br N : Nat) (w : World) (e : Ending) (w' : World) : Prop :=
  ∃ b : Bool, e = .returned (.bool b) ∧ Rd w' br N ∧ w.grownBy w' (some br)
theorem odd_any (n : Int) (br N : Nat) (w : World) (hn : 1 ≤ n) (hn' : n ≤ 1000000) (hN : N ≤ 1000000000) (h : Rd w br N) :
    Calls Try.prog 64 #[.pointer (some ⟨br, 0, none⟩), .int .i64 n] w (DrawnBool br (N + 1) w) := by
  go_enter Try.func64, Try.ntmps64
  go_wp2_with fail
  refine (pick_any _ _ _ _ hN h).mono ?_
  rintro e w1 ⟨r, rfl, h0, h1, hr, hg⟩
  have HR := mkHid hr
  have HG := mkHid hg
  clear hr hg h1 h
  go_wp2_with fail
  go_ret
  exact ⟨_, rfl, HR.out, HG.out⟩
theorem madeInts (n : Nat) : (madeCells (Value.int .i64 0).cells (n * 1)).toList = ints (List.replicate n 0) := by
  apply List.ext_getElem?
  intro i
  by_cases h : i < n
  · simp [madeCells, h, Value.cells, ints, Nat.mod_one]
  · rw [List.getElem?_eq_none (by simp [madeCells]; omega), List.getElem?_eq_none (by simp [ints]; omega)]
def smallCell (z : Int) : Prop := -1 ≤ z ∧ z ≤ 256
def DrawnInts (br N : Nat) (w : World) (e : Ending) (w' : World) : Prop :=
  ∃ A c ys, e = .returned (.slice A ys.length c) ∧ w'.ownsRow w.heap.size 3 1 (.slice A ys.length c) ys.length (ints ys) ∧ ys.length ≤ 9 ∧ (∀ z ∈ ys, smallCell z) ∧ Rd w' br N ∧ w.grownBy w' (some br)
theorem l20Cells_any (n : Int) (br N : Nat) (w : World) (hn : 1 ≤ n) (hn' : n ≤ 1000000) (hN : N ≤ 900000000) (h : Rd w br N) :
    Calls Try.prog 55 #[.pointer (some ⟨br, 0, none⟩), .int .i64 n] w (DrawnInts br (N + 13) w) := by
  have hlt0 := h.lt
  obtain ⟨i0, hi0, hz0, hz1, hz2⟩ := info_parts Ei.hi
  go_enter Try.func55, Try.ntmps55
  go_wp2_with fail
  refine (pick_any _ _ N _ (by omega) (h.below ((Below.refl _ _).alloc (Nat.le_refl _) _))).mono ?_
  rintro e w1 ⟨r, rfl, hr0, hr1, r1, g1⟩
  have o1 := own_grown (own_empty w 3 1) g1 (by simp [Value.ownBlock]; omega)
  have G1 : w.grownBy w1 (some br) := grown_trans (World.grownBy_alloc _ _ _) g1
  have HO1 := mkHid o1
  have HG1 := mkHid G1
  clear o1 G1 g1 h hr1
  generalize hb : (r == 0) = near
  go_wp2_with fail
  clear hb hr0
  refine (pick_any _ _ _ _ (by omega) r1).mono ?_
  rintro e w2 ⟨k, rfl, hk0, hk1, r2, g2⟩
  have hk1' := hk1 (by omega)
  have HO2 := mkHid (own_grown HO1.out g2 (fun g e => by have := (HO1.out.lt g e).1; omega))
  have HG2 := mkHid (grown_trans HG1.out g2)
  clear g2 hk1 r1
  obtain ⟨j0, rfl⟩ := Int.eq_ofNat_of_zero_le hk0
  go_wp2_with fail
  go_loopw [5, 7] (fun v i wr => ∃ j : Nat, i = .int .i64 j ∧ ∃ A c ys, v = .slice A ys.length c ∧ wr.ownsRow w.heap.size 3 1 (.slice A ys.length c) ys.length (ints ys) ∧ ys.length + j ≤ 8 ∧ (∀ z ∈ ys, smallCell z) ∧ Rd wr br (N + 2 + ys.length) ∧ w.grownBy wr (some br)) (fun _ i _ => (intOf i).toNat)
  case atStart => exact ⟨j0, rfl, _, 0, [], rfl, HO2.out, by simp; omega, by simp, r2, HG2.out⟩
  case round =>
    obtain ⟨j, rfl, A, c, ys, rfl, hown, hj, hd, hrd, hgr⟩ := hrel
    have hsz := hgr.size
    have HO := mkHid hown
    have HG := mkHid hgr
    have HD := mkHid hd
    clear hown hgr hd r2
    by_cases hlt : 0 < j
    · cases near
      all_goals (
        go_wp2_with fail
        refine (pick_any _ _ _ _ (by omega) hrd).mono ?_
        rintro e w3 ⟨q, rfl, a1, a1', r3, g3⟩
        have a1' := a1' (by omega)
        have HR3 := mkHid r3
        have HO3 := mkHid (own_grown HO.out g3 (fun g e => by have := (HO.out.lt g e).1; omega))
        have HG3 := mkHid (grown_trans HG.out g3)
        have hsz3 := HG3.out.size
        clear g3 r3 hrd
        go_wp2_with (at_builtin; refine wpList_app Ei (HO3.out.alloc _) (newCells _ _ _) rfl (by simp [Value.oneCell']) (by omega) (by omega) (by simp; omega) rfl rfl rfl rfl ?_; intro A' c' w4 hown4 hg4; have HO4 := mkHid hown4; have HG4 := mkHid hg4; clear hown4 hg4)
        go_roundw
        case rel =>
          refine ⟨j - 1, by congr 1; omega, A', c', ys ++ [q], by simp, ?_, by simp; omega, ?_, ?_, ?_⟩
          · have := HO4.out
            rw [List.length_append]
            simpa [ints] using this
          · intro z hz
            rcases List.mem_append.1 hz with h | h
            · exact HD.out z h
            · simp only [List.mem_singleton] at h
              subst h
              unfold smallCell
              omega
          · refine Rd.mono (N := N + 2 + ys.length + 1) ?_ (by simp; omega)
            exact (HR3.out.below ((Below.refl _ _).alloc (Nat.le_refl _) _)).app (HO3.out.alloc _) hlt0 HG4.out
          · exact grown_app (grown_trans HG3.out (World.grownBy_alloc _ _ _)) (HO3.out.alloc _) (Nat.le_refl _) HG4.out
        case measure => simp [intOf]; omega)
    · have : j = 0 := by omega
      subst this
      go_wp2_with fail
      refine (odd_any _ _ _ _ hn hn' (by omega) hrd).mono ?_
      rintro e w3 ⟨b, rfl, r3, g3⟩
      have HO3 := mkHid (own_grown HO.out g3 (fun g e => by have := (HO.out.lt g e).1; omega))
      have HG3 := mkHid (grown_trans HG.out g3)
      have hsz3 := HG3.out.size
      have HR3 := mkHid r3
      clear g3 r3 hrd
      cases b with
      | false =>
        go_wp2_with fail
        go_ret
        exact ⟨A, c, ys, rfl, HO3.out, by omega, HD.out, HR3.out.mono (by omega), HG3.out⟩
      | true =>
        go_wp2_with fail
        refine (pick_any _ _ _ _ (by omega) HR3.out).mono ?_
        rintro e w4 ⟨q, rfl, q0, q1, r4, g4⟩
        have HO4 := mkHid (own_grown HO3.out g4 (fun g e => by have := (HO3.out.lt g e).1; omega))
        have HG4 := mkHid (grown_trans HG3.out g4)
        have hsz4 := HG4.out.size
        have HR4 := mkHid r4
        have q1 := q1 (by omega)
        clear g4 r4
        by_cases hq : q = 0
        · subst hq
          have hr5 := HR4.out.below ((Below.refl _ _).alloc (Nat.le_refl _) (.cells #[.int .i64 (-1), .int .i64 256] 3))
          have HR5 := mkHid hr5
          clear hr5
          go_wp2_with fail
          refine (pick_any _ _ _ _ (by omega) HR5.out).mono ?_
          rintro e w5 ⟨p, rfl, p0, p1, r5, g5⟩
          have p1 := p1 (by omega)
          have HO5 := mkHid (own_grown (HO4.out.alloc (.cells #[.int .i64 (-1), .int .i64 256] 3)) g5 (fun g e => by have := (HO4.out.lt g e).1; omega))
          have HG5 := mkHid (grown_trans (grown_trans HG4.out (World.grownBy_alloc _ _ _)) g5)
          have hsz5 := HG5.out.size
          have HR6 := mkHid r5
          have hl5 := HR4.out.lt
          have hc0 : w5.cell? ⟨w4.heap.size, 0, none⟩ = some (.int .i64 (-1)) := g5.cell (by have := newCells w4 [.int .i64 (-1), .int .i64 256] 3 0 _ rfl; rw [add_flat] at this; exact this) (by intro e; injection e with e; simp at e; omega)
          have hc1 : w5.cell? ⟨w4.heap.size, 1, none⟩ = some (.int .i64 256) := g5.cell (by have := newCells w4 [.int .i64 (-1), .int .i64 256] 3 1 _ rfl; rw [add_flat] at this; exact this) (by intro e; injection e with e; simp at e; omega)
          clear g5 r5
          obtain ⟨y, hy, hcy⟩ : ∃ y : Int, smallCell y ∧ w5.cell? ⟨w4.heap.size, p.toNat, none⟩ = some (.int .i64 y) := by
            have : p = 0 ∨ p = 1 := by omega
            rcases this with rfl | rfl
            · exact ⟨-1, by unfold smallCell; omega, hc0⟩
            · exact ⟨256, by unfold smallCell; omega, hc1⟩
          obtain ⟨p, rfl⟩ := Int.eq_ofNat_of_zero_le p0
          simp only [Int.toNat_natCast] at hcy
          clear hc0 hc1
          go_wp2_with (at_builtin; refine wpList_app Ei (HO5.out.alloc _) (newCells _ _ _) rfl (by simp [Value.oneCell']) (by omega) (by omega) (by simp; omega) rfl rfl rfl rfl ?_; intro A' c' w6 hown6 hg6; have HO6 := mkHid hown6; have HG6 := mkHid hg6; clear hown6 hg6)
          go_ret
          refine ⟨A', c', ys ++ [y], ret_eq (by simp), ?_, by simp; omega, ?_, ?_, ?_⟩
          · have := HO6.out
            rw [List.length_append]
            simpa [ints] using this
          · intro z hz
            rcases List.mem_append.1 hz with h | h
            · exact HD.out z h
            · simp only [List.mem_singleton] at h
              subst h
              exact hy
          · exact ((HR6.out.below ((Below.refl _ _).alloc (Nat.le_refl _) _)).app (HO5.out.alloc _) hlt0 HG6.out).mono (by omega)
          · exact grown_app (grown_trans HG5.out (World.grownBy_alloc _ _ _)) (HO5.out.alloc _) (Nat.le_refl _) HG6.out
        · have hqb : (q == 0) = false := by simpa using hq
          go_wp2_with (at_make; refine wpList_make_full _ rfl _ _ _ rfl w4.heap.size _ i0 _ 1 Ei.ht hi0 hz0 hz1 _ _ _ _ 9 rfl rfl rfl rfl (by rw [hz2]; omega) (by simp only [maxLen]; omega) (Nat.le_refl _) ?_; intro w5 hown5 hg5; have HO5 := mkHid hown5; have HG5 := mkHid hg5; clear hown5 hg5)
          go_ret
          refine ⟨_, _, List.replicate 9 0, rfl, ?_, by simp, ?_, ?_, ?_⟩
          · have := HO5.out
            rw [madeInts] at this
            exact own_base this hsz4
          · intro z hz
            rw [List.eq_of_mem_replicate hz]
            unfold smallCell; omega
          · exact (HR4.out.grown HG5.out (by simp)).mono (by omega)
          · exact grown_trans HG4.out (grown_none HG5.out _)
/-- cells and a number are drawn. -/
def DrawnCells (lo hi : Int) (w : World) (e : Ending) (w' : World) : Prop :=
  ∃ A c ys, ∃ s : Int, e = .returned (.tuple #[.slice A ys.length c, .int .i64 s]) ∧ Sl w' A (ints ys) ∧ ys.length ≤ 9 ∧ ys.length ≤ c ∧ (lo ≤ s ∧ s ≤ hi) ∧ (∀ z ∈ ys, smallCell z) ∧ Below w.heap.size w w'
end Go.Proofs.Ytjgmghlgjjfifaa
