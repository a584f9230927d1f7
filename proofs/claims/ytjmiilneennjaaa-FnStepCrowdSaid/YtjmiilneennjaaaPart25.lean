/-
  Parts of a proof: DCode2.
-/
import Derived.Test.YtjmiilneennjaaaPart22
namespace Go.Proofs.Ytjmiilneennjaaa
open Go.RowKit
set_option maxHeartbeats 4000000
set_option maxRecDepth 100000
set_option linter.unusedVariables false

/-- the world in which box g has been written whole. -/
theorem st_world {w0 W V : World} {g b br N : Nat} {o a b' c : Int} {x z : Cd} (hx : Bx W g x) (hz : Bx W b z) (hr : Rd W br N) (hg : w0.grownBy W (some br)) (h1 : w0.heap.size ≤ g) (h2 : br < g) (hb : b ≠ g)
    (hV : (((W.setCell ⟨g, 0, none⟩ (.int .i64 o)).setCell ⟨g, 1, none⟩ (.int .i64 a)).setCell ⟨g, 2, none⟩ (.int .i64 b')).setCell ⟨g, 3, none⟩ (.int .i64 c) = V) :
    Bx V g ⟨o, a, b', c⟩ ∧ Bx V b z ∧ Rd V br N ∧ w0.grownBy V (some br) := by
  subst hV
  exact ⟨hx.all ⟨o, a, b', c⟩, hz.grown (grown_all W g ⟨o, a, b', c⟩) (fun e => by injection e with e; exact hb e), hr.grown (grown_all W g ⟨o, a, b', c⟩) (fun k e => by injection e with e; omega), grown_own hg (grown_all W g ⟨o, a, b', c⟩) h1⟩
theorem oddB (n : Int) (br N : Nat) (w : World) (hn : 1 ≤ n) (hn' : n ≤ 1000000) (hN : N ≤ 1000000000) (h : Rd w br N) :
    Calls Try.prog 91 #[.pointer (some ⟨br, 0, none⟩), .int .i64 n] w fun e w' => ∃ b : Bool, e = .returned (.bool b) ∧ Rd w' br (N + 1) ∧ w.grownBy w' (some br) := by
  go_enter Try.func91, Try.ntmps91
  go_wp2_with fail
  refine (pick_any _ _ _ _ hN h).mono ?_
  rintro e w1 ⟨r, rfl, h0, h1, hr, hg⟩
  have HR := mkHid hr
  have HG := mkHid hg
  clear hr hg h1 h
  go_wp2_with fail
  go_ret
  exact ⟨_, rfl, HR.out, HG.out⟩
theorem l20Code_any (n : Int) (br N : Nat) (w : World) (hn : 1 ≤ n ∧ n ≤ 1000000) (hN : N ≤ 900000000) (h : Rd w br N) :
    Calls Try.prog 105 #[.pointer (some ⟨br, 0, none⟩), .int .i64 n] w (DrawnCd br (N + 40) w) := by
  have hlt0 := h.lt
  have hr1 : Rd (w.alloc (.cells #[.int .i64 0, .int .i64 0, .int .i64 0, .int .i64 0] 69)) br N := h.below ((Below.refl _ _).alloc (Nat.le_refl _) _)
  have hg1 : w.grownBy (w.alloc (.cells #[.int .i64 0, .int .i64 0, .int .i64 0, .int .i64 0] 69)) (some br) := World.grownBy_alloc _ _ _
  have hb1 : Bx (w.alloc (.cells #[.int .i64 0, .int .i64 0, .int .i64 0, .int .i64 0] 69)) w.heap.size ⟨0, 0, 0, 0⟩ := Bx.new w ⟨0, 0, 0, 0⟩
  have hs1 : w.heap.size < (w.alloc (.cells #[.int .i64 0, .int .i64 0, .int .i64 0, .int .i64 0] 69)).heap.size := by simp
  go_enter Try.func105, Try.ntmps105
  go_wp2_with fail
  generalize hW : w.alloc (.cells #[.int .i64 0, .int .i64 0, .int .i64 0, .int .i64 0] 69) = w1 at *
  have HG1 := mkHid hg1
  have HB1 := mkHid hb1
  have HR1 := mkHid hr1
  clear hW h hg1 hb1 hr1
  refine (l20Plain_any _ _ _ (by omega) HR1.out).mono ?_
  rintro e w2 ⟨x, rfl, hsx, r2, g2⟩
  have hs2 := g2.size
  obtain ⟨o, a, b, c⟩ := x
  have HS0 := mkHid hsx
  have hlt2 : w.heap.size < w2.heap.size := by omega
  have hlb := r2.lt
  have hx3 : Bx (w2.alloc (.cells #[.int .i64 o, .int .i64 a, .int .i64 b, .int .i64 c] 69)) w2.heap.size ⟨o, a, b, c⟩ := Bx.new w2 ⟨o, a, b, c⟩
  have hz3 : Bx (w2.alloc (.cells #[.int .i64 o, .int .i64 a, .int .i64 b, .int .i64 c] 69)) w.heap.size ⟨0, 0, 0, 0⟩ := (HB1.out.grown g2 (fun e => by injection e with e; omega)).below ((Below.refl _ _).alloc (Nat.le_refl _) _)
  have hr3 : Rd (w2.alloc (.cells #[.int .i64 o, .int .i64 a, .int .i64 b, .int .i64 c] 69)) br (N + 20) := r2.below ((Below.refl _ _).alloc (Nat.le_refl _) _)
  have hg3 : w.grownBy (w2.alloc (.cells #[.int .i64 o, .int .i64 a, .int .i64 b, .int .i64 c] 69)) (some br) := grown_trans (grown_trans HG1.out g2) (World.grownBy_alloc _ _ _)
  have HX3 := mkHid hx3
  have HZ3 := mkHid hz3
  have HR3 := mkHid hr3
  have HG3 := mkHid hg3
  clear hsx r2 g2 hx3 hz3 hr3 hg3
  go_wp2_with fail
  generalize hV : w2.alloc (.cells #[.int .i64 o, .int .i64 a, .int .i64 b, .int .i64 c] 69) = w3 at *
  clear hV HR1 HG1 HB1
  generalize hG : w2.heap.size = g8 at *
  clear hG hs2
  refine (pick_any _ _ _ _ (by omega) HR3.out).mono ?_
  rintro e w4 ⟨q, rfl, qa, qb, r4, g4⟩
  have qb := qb (by omega)
  have HR4 := mkHid r4
  have HG4 := mkHid (grown_trans HG3.out g4)
  have HX4 := mkHid (HX3.out.grown g4 (fun e => by injection e with e; omega))
  have HZ4 := mkHid (HZ3.out.grown g4 (fun e => by injection e with e; omega))
  clear r4 g4 HR3 HG3 HX3 HZ3
  by_cases hq0 : q = 0
  · subst hq0
    go_wp2_with fail
    refine (pick_any _ _ _ _ (by omega) HR4.out).mono ?_
    rintro e w41 ⟨q1, rfl, q1a, q1b, r41, g41⟩
    have q1b := q1b (by omega)
    have HR := mkHid r41
    have HG := mkHid (grown_trans HG4.out g41)
    have HX := mkHid (HX4.out.grown g41 (fun e => by injection e with e; omega))
    have HZ := mkHid (HZ4.out.grown g41 (fun e => by injection e with e; omega))
    clear r41 g41
    obtain ⟨c0, c1, c2, c3⟩ := HX.out.cells
    obtain ⟨f0, f1, f2, f3⟩ := HX.out.frozen
    have HSW := mkHid (fun V => @st_world w w41 V g8 w.heap.size br _ 11 q1 0 0 _ _ HX.out HZ.out HR.out HG.out (by omega) hlb (by omega))
    have HS5 := mkHid (show SmallCd ⟨11, q1, 0, 0⟩ from (by unfold SmallCd smallI; simp only; omega))
    go_wp2_with fail
    clear c0 c1 c2 c3 f0 f1 f2 f3
    generalize hV : (((w41.setCell ⟨g8, 0, none⟩ (.int .i64 11)).setCell ⟨g8, 1, none⟩ (.int .i64 q1)).setCell ⟨g8, 2, none⟩ (.int .i64 0)).setCell ⟨g8, 3, none⟩ (.int .i64 0) = w5
    obtain ⟨hx5, hz5, hr5, hg5⟩ := HSW.out w5 hV
    have HX5 := mkHid hx5
    have HZ5 := mkHid hz5
    have HR5 := mkHid (hr5.mono (M := N + 24) (by omega))
    have HG5 := mkHid hg5
    clear hV HSW hx5 hz5 hr5 hg5 HX4 HZ4 HR4 HG4
    obtain ⟨⟨o, a, b, c⟩, HX5, HS5⟩ : ∃ x : Cd, Hid (Bx w5 g8 x) ∧ Hid (SmallCd x) := ⟨_, HX5, HS5⟩
    refine (oddB _ _ _ _ hn.1 hn.2 (by omega) HR5.out).mono ?_
    rintro e w6 ⟨bb, rfl, r6, g6⟩
    have HR6 := mkHid r6
    have HG6 := mkHid (grown_trans HG5.out g6)
    have HX6 := mkHid (HX5.out.grown g6 (fun e => by injection e with e; omega))
    have HZ6 := mkHid (HZ5.out.grown g6 (fun e => by injection e with e; omega))
    clear r6 g6 HR5 HG5 HX5 HZ5
    cases bb with
    | false =>
      have HX := HX6
      have HZ := HZ6
      have HR := HR6
      have HG := HG6
      have HS := HS5
      obtain ⟨⟨k0, k1, k2, k3⟩, ⟨z0, z1, z2, z3⟩, ⟨l0, l1, l2, l3⟩, _⟩ := fin_facts HZ.out HX.out
      have HFW := mkHid (fun V => @fin_world w w6 V w.heap.size br _ o a b c _ HZ.out HR.out HG.out (Nat.le_refl _) hlt0)
      go_wp2_with fail
      clear k0 k1 k2 k3 z0 z1 z2 z3 l0 l1 l2 l3
      generalize hV : (((w6.setCell ⟨w.heap.size, 0, none⟩ (.int .i64 o)).setCell ⟨w.heap.size, 1, none⟩ (.int .i64 a)).setCell ⟨w.heap.size, 2, none⟩ (.int .i64 b)).setCell ⟨w.heap.size, 3, none⟩ (.int .i64 c) = V
      obtain ⟨⟨d0, d1, d2, d3⟩, hrV, hgV⟩ := HFW.out V hV
      clear hV
      refine bodyPost_ret (v := cdV ⟨o, a, b, c⟩) (by simp [results, Try.results105, go_sem, d0, d1, d2, d3]) rfl ⟨⟨o, a, b, c⟩, rfl, HS.out, hrV.mono (by omega), hgV⟩
    | true =>
      go_wp2_with fail
      refine (pick_any _ _ _ _ (by omega) HR6.out).mono ?_
      rintro e w7 ⟨k, rfl, ka, kb, r7, g7⟩
      have kb := kb (by omega)
      have HR7 := mkHid r7
      have HG7 := mkHid (grown_trans HG6.out g7)
      have HX7 := mkHid (HX6.out.grown g7 (fun e => by injection e with e; omega))
      have HZ7 := mkHid (HZ6.out.grown g7 (fun e => by injection e with e; omega))
      have hlb7 := r7.lt
      clear r7 g7 HR6 HG6 HX6 HZ6
      have hk4 : k = 0 ∨ k = 1 ∨ k = 2 ∨ k = 3 := by omega
      clear ka kb
      rcases hk4 with rfl | rfl | rfl | rfl
      · have HR8 := mkHid (HR7.out.below ((Below.refl _ _).alloc (Nat.le_refl _) (.cells #[.int .i64 0, .int .i64 15] 3)))
        have HG8 := mkHid (grown_trans HG7.out (World.grownBy_alloc w7 (.cells #[.int .i64 0, .int .i64 15] 3) (some br)))
        have HX8 := mkHid (HX7.out.below ((Below.refl _ _).alloc (Nat.le_refl _) (.cells #[.int .i64 0, .int .i64 15] 3)))
        have HZ8 := mkHid (HZ7.out.below ((Below.refl _ _).alloc (Nat.le_refl _) (.cells #[.int .i64 0, .int .i64 15] 3)))
        go_wp2_with fail
        refine (pick_any _ _ _ _ (by omega) HR8.out).mono ?_
        rintro e w9 ⟨p, rfl, pa, pb, r9, g9⟩
        have pb := pb (by omega)
        have hc0 : w9.cell? ⟨w7.heap.size, 0, none⟩ = some (.int .i64 0) := g9.cell (by have := newCells w7 [.int .i64 0, .int .i64 15] 3 0 _ rfl; rw [add_flat] at this; exact this) (by intro e; injection e with e; simp at e; omega)
        have hc1 : w9.cell? ⟨w7.heap.size, 1, none⟩ = some (.int .i64 15) := g9.cell (by have := newCells w7 [.int .i64 0, .int .i64 15] 3 1 _ rfl; rw [add_flat] at this; exact this) (by intro e; injection e with e; simp at e; omega)
        have HR9 := mkHid r9
        have HG9 := mkHid (grown_trans HG8.out g9)
        have HX9 := mkHid (HX8.out.grown g9 (fun e => by injection e with e; omega))
        have HZ9 := mkHid (HZ8.out.grown g9 (fun e => by injection e with e; omega))
        clear r9 g9 HR8 HG8 HX8 HZ8
        obtain ⟨p, rfl⟩ := Int.eq_ofNat_of_zero_le pa
        have hpl : p < 2 := by omega
        obtain ⟨y, hy, hcy⟩ : ∃ y : Int, smallI y ∧ w9.cell? ⟨w7.heap.size, p, none⟩ = some (.int .i64 y) := by
          have : p = 0 ∨ p = 1 := by omega
          rcases this with rfl | rfl
          · exact ⟨0, by unfold smallI; omega, hc0⟩
          · exact ⟨15, by unfold smallI; omega, hc1⟩
        clear hc0 hc1
        obtain ⟨c0, c1, c2, c3⟩ := HX9.out.cells
        obtain ⟨f0, f1, f2, f3⟩ := HX9.out.frozen
        have HX := mkHid (HX9.out.op y)
        have HZ := mkHid (HZ9.out.grown (grown_setCell w9 g8 0 (.int .i64 y)) (fun e => by injection e with e; omega))
        have HR := mkHid (HR9.out.grown (grown_setCell w9 g8 0 (.int .i64 y)) (fun g e => by injection e with e; omega))
        have HG := mkHid (grown_own HG9.out (grown_setCell w9 g8 0 (.int .i64 y)) (by omega))
        have HS := mkHid (show SmallCd ⟨y, a, b, c⟩ from ⟨hy, HS5.out.2.1, HS5.out.2.2.1, HS5.out.2.2.2⟩)
        obtain ⟨⟨k0, k1, k2, k3⟩, ⟨z0, z1, z2, z3⟩, ⟨l0, l1, l2, l3⟩, _⟩ := fin_facts HZ.out HX.out
        have HFW := mkHid (fun V => @fin_world w (w9.setCell ⟨g8, 0, none⟩ (.int .i64 y)) V w.heap.size br _ y a b c _ HZ.out HR.out HG.out (Nat.le_refl _) hlt0)
        go_wp2_with fail
        clear k0 k1 k2 k3 z0 z1 z2 z3 l0 l1 l2 l3 c0 c1 c2 c3 f0 f1 f2 f3 hcy
        generalize hV : ((((w9.setCell ⟨g8, 0, none⟩ (.int .i64 y)).setCell ⟨w.heap.size, 0, none⟩ (.int .i64 y)).setCell ⟨w.heap.size, 1, none⟩ (.int .i64 a)).setCell ⟨w.heap.size, 2, none⟩ (.int .i64 b)).setCell ⟨w.heap.size, 3, none⟩ (.int .i64 c) = V
        obtain ⟨⟨d0, d1, d2, d3⟩, hrV, hgV⟩ := HFW.out V hV
        clear hV
        refine bodyPost_ret (v := cdV ⟨y, a, b, c⟩) (by simp [results, Try.results105, go_sem, d0, d1, d2, d3]) rfl ⟨⟨y, a, b, c⟩, rfl, HS.out, hrV.mono (by omega), hgV⟩
      · have HR8 := mkHid (HR7.out.below ((Below.refl _ _).alloc (Nat.le_refl _) (.cells #[.int .i64 (-1), .int .i64 4] 3)))
        have HG8 := mkHid (grown_trans HG7.out (World.grownBy_alloc w7 (.cells #[.int .i64 (-1), .int .i64 4] 3) (some br)))
        have HX8 := mkHid (HX7.out.below ((Below.refl _ _).alloc (Nat.le_refl _) (.cells #[.int .i64 (-1), .int .i64 4] 3)))
        have HZ8 := mkHid (HZ7.out.below ((Below.refl _ _).alloc (Nat.le_refl _) (.cells #[.int .i64 (-1), .int .i64 4] 3)))
        go_wp2_with fail
        refine (pick_any _ _ _ _ (by omega) HR8.out).mono ?_
        rintro e w9 ⟨p, rfl, pa, pb, r9, g9⟩
        have pb := pb (by omega)
        have hc0 : w9.cell? ⟨w7.heap.size, 0, none⟩ = some (.int .i64 (-1)) := g9.cell (by have := newCells w7 [.int .i64 (-1), .int .i64 4] 3 0 _ rfl; rw [add_flat] at this; exact this) (by intro e; injection e with e; simp at e; omega)
        have hc1 : w9.cell? ⟨w7.heap.size, 1, none⟩ = some (.int .i64 4) := g9.cell (by have := newCells w7 [.int .i64 (-1), .int .i64 4] 3 1 _ rfl; rw [add_flat] at this; exact this) (by intro e; injection e with e; simp at e; omega)
        have HR9 := mkHid r9
        have HG9 := mkHid (grown_trans HG8.out g9)
        have HX9 := mkHid (HX8.out.grown g9 (fun e => by injection e with e; omega))
        have HZ9 := mkHid (HZ8.out.grown g9 (fun e => by injection e with e; omega))
        clear r9 g9 HR8 HG8 HX8 HZ8
        obtain ⟨p, rfl⟩ := Int.eq_ofNat_of_zero_le pa
        have hpl : p < 2 := by omega
        obtain ⟨y, hy, hcy⟩ : ∃ y : Int, smallI y ∧ w9.cell? ⟨w7.heap.size, p, none⟩ = some (.int .i64 y) := by
          have : p = 0 ∨ p = 1 := by omega
          rcases this with rfl | rfl
          · exact ⟨(-1), by unfold smallI; omega, hc0⟩
          · exact ⟨4, by unfold smallI; omega, hc1⟩
        clear hc0 hc1
        obtain ⟨c0, c1, c2, c3⟩ := HX9.out.cells
        obtain ⟨f0, f1, f2, f3⟩ := HX9.out.frozen
        have HX := mkHid (HX9.out.a y)
        have HZ := mkHid (HZ9.out.grown (grown_setCell w9 g8 1 (.int .i64 y)) (fun e => by injection e with e; omega))
        have HR := mkHid (HR9.out.grown (grown_setCell w9 g8 1 (.int .i64 y)) (fun g e => by injection e with e; omega))
        have HG := mkHid (grown_own HG9.out (grown_setCell w9 g8 1 (.int .i64 y)) (by omega))
        have HS := mkHid (show SmallCd ⟨o, y, b, c⟩ from ⟨HS5.out.1, hy, HS5.out.2.2.1, HS5.out.2.2.2⟩)
        obtain ⟨⟨k0, k1, k2, k3⟩, ⟨z0, z1, z2, z3⟩, ⟨l0, l1, l2, l3⟩, _⟩ := fin_facts HZ.out HX.out
        have HFW := mkHid (fun V => @fin_world w (w9.setCell ⟨g8, 1, none⟩ (.int .i64 y)) V w.heap.size br _ o y b c _ HZ.out HR.out HG.out (Nat.le_refl _) hlt0)
        go_wp2_with fail
        clear k0 k1 k2 k3 z0 z1 z2 z3 l0 l1 l2 l3 c0 c1 c2 c3 f0 f1 f2 f3 hcy
        generalize hV : ((((w9.setCell ⟨g8, 1, none⟩ (.int .i64 y)).setCell ⟨w.heap.size, 0, none⟩ (.int .i64 o)).setCell ⟨w.heap.size, 1, none⟩ (.int .i64 y)).setCell ⟨w.heap.size, 2, none⟩ (.int .i64 b)).setCell ⟨w.heap.size, 3, none⟩ (.int .i64 c) = V
        obtain ⟨⟨d0, d1, d2, d3⟩, hrV, hgV⟩ := HFW.out V hV
        clear hV
        refine bodyPost_ret (v := cdV ⟨o, y, b, c⟩) (by simp [results, Try.results105, go_sem, d0, d1, d2, d3]) rfl ⟨⟨o, y, b, c⟩, rfl, HS.out, hrV.mono (by omega), hgV⟩
      · have HR8 := mkHid (HR7.out.below ((Below.refl _ _).alloc (Nat.le_refl _) (.cells #[.int .i64 (-1), .int .i64 256] 3)))
        have HG8 := mkHid (grown_trans HG7.out (World.grownBy_alloc w7 (.cells #[.int .i64 (-1), .int .i64 256] 3) (some br)))
        have HX8 := mkHid (HX7.out.below ((Below.refl _ _).alloc (Nat.le_refl _) (.cells #[.int .i64 (-1), .int .i64 256] 3)))
        have HZ8 := mkHid (HZ7.out.below ((Below.refl _ _).alloc (Nat.le_refl _) (.cells #[.int .i64 (-1), .int .i64 256] 3)))
        go_wp2_with fail
        refine (pick_any _ _ _ _ (by omega) HR8.out).mono ?_
        rintro e w9 ⟨p, rfl, pa, pb, r9, g9⟩
        have pb := pb (by omega)
        have hc0 : w9.cell? ⟨w7.heap.size, 0, none⟩ = some (.int .i64 (-1)) := g9.cell (by have := newCells w7 [.int .i64 (-1), .int .i64 256] 3 0 _ rfl; rw [add_flat] at this; exact this) (by intro e; injection e with e; simp at e; omega)
        have hc1 : w9.cell? ⟨w7.heap.size, 1, none⟩ = some (.int .i64 256) := g9.cell (by have := newCells w7 [.int .i64 (-1), .int .i64 256] 3 1 _ rfl; rw [add_flat] at this; exact this) (by intro e; injection e with e; simp at e; omega)
        have HR9 := mkHid r9
        have HG9 := mkHid (grown_trans HG8.out g9)
        have HX9 := mkHid (HX8.out.grown g9 (fun e => by injection e with e; omega))
        have HZ9 := mkHid (HZ8.out.grown g9 (fun e => by injection e with e; omega))
        clear r9 g9 HR8 HG8 HX8 HZ8
        obtain ⟨p, rfl⟩ := Int.eq_ofNat_of_zero_le pa
        have hpl : p < 2 := by omega
        obtain ⟨y, hy, hcy⟩ : ∃ y : Int, smallI y ∧ w9.cell? ⟨w7.heap.size, p, none⟩ = some (.int .i64 y) := by
          have : p = 0 ∨ p = 1 := by omega
          rcases this with rfl | rfl
          · exact ⟨(-1), by unfold smallI; omega, hc0⟩
          · exact ⟨256, by unfold smallI; omega, hc1⟩
        clear hc0 hc1
        obtain ⟨c0, c1, c2, c3⟩ := HX9.out.cells
        obtain ⟨f0, f1, f2, f3⟩ := HX9.out.frozen
        have HX := mkHid (HX9.out.b y)
        have HZ := mkHid (HZ9.out.grown (grown_setCell w9 g8 2 (.int .i64 y)) (fun e => by injection e with e; omega))
        have HR := mkHid (HR9.out.grown (grown_setCell w9 g8 2 (.int .i64 y)) (fun g e => by injection e with e; omega))
        have HG := mkHid (grown_own HG9.out (grown_setCell w9 g8 2 (.int .i64 y)) (by omega))
        have HS := mkHid (show SmallCd ⟨o, a, y, c⟩ from ⟨HS5.out.1, HS5.out.2.1, hy, HS5.out.2.2.2⟩)
        obtain ⟨⟨k0, k1, k2, k3⟩, ⟨z0, z1, z2, z3⟩, ⟨l0, l1, l2, l3⟩, _⟩ := fin_facts HZ.out HX.out
        have HFW := mkHid (fun V => @fin_world w (w9.setCell ⟨g8, 2, none⟩ (.int .i64 y)) V w.heap.size br _ o a y c _ HZ.out HR.out HG.out (Nat.le_refl _) hlt0)
        go_wp2_with fail
        clear k0 k1 k2 k3 z0 z1 z2 z3 l0 l1 l2 l3 c0 c1 c2 c3 f0 f1 f2 f3 hcy
        generalize hV : ((((w9.setCell ⟨g8, 2, none⟩ (.int .i64 y)).setCell ⟨w.heap.size, 0, none⟩ (.int .i64 o)).setCell ⟨w.heap.size, 1, none⟩ (.int .i64 a)).setCell ⟨w.heap.size, 2, none⟩ (.int .i64 y)).setCell ⟨w.heap.size, 3, none⟩ (.int .i64 c) = V
        obtain ⟨⟨d0, d1, d2, d3⟩, hrV, hgV⟩ := HFW.out V hV
        clear hV
        refine bodyPost_ret (v := cdV ⟨o, a, y, c⟩) (by simp [results, Try.results105, go_sem, d0, d1, d2, d3]) rfl ⟨⟨o, a, y, c⟩, rfl, HS.out, hrV.mono (by omega), hgV⟩
      · have HR8 := mkHid (HR7.out.below ((Below.refl _ _).alloc (Nat.le_refl _) (.cells #[.int .i64 (-1), .int .i64 4, .int .i64 1] 3)))
        have HG8 := mkHid (grown_trans HG7.out (World.grownBy_alloc w7 (.cells #[.int .i64 (-1), .int .i64 4, .int .i64 1] 3) (some br)))
        have HX8 := mkHid (HX7.out.below ((Below.refl _ _).alloc (Nat.le_refl _) (.cells #[.int .i64 (-1), .int .i64 4, .int .i64 1] 3)))
        have HZ8 := mkHid (HZ7.out.below ((Below.refl _ _).alloc (Nat.le_refl _) (.cells #[.int .i64 (-1), .int .i64 4, .int .i64 1] 3)))
        go_wp2_with fail
        refine (pick_any _ _ _ _ (by omega) HR8.out).mono ?_
        rintro e w9 ⟨p, rfl, pa, pb, r9, g9⟩
        have pb := pb (by omega)
        have hc0 : w9.cell? ⟨w7.heap.size, 0, none⟩ = some (.int .i64 (-1)) := g9.cell (by have := newCells w7 [.int .i64 (-1), .int .i64 4, .int .i64 1] 3 0 _ rfl; rw [add_flat] at this; exact this) (by intro e; injection e with e; simp at e; omega)
        have hc1 : w9.cell? ⟨w7.heap.size, 1, none⟩ = some (.int .i64 4) := g9.cell (by have := newCells w7 [.int .i64 (-1), .int .i64 4, .int .i64 1] 3 1 _ rfl; rw [add_flat] at this; exact this) (by intro e; injection e with e; simp at e; omega)
        have hc2 : w9.cell? ⟨w7.heap.size, 2, none⟩ = some (.int .i64 1) := g9.cell (by have := newCells w7 [.int .i64 (-1), .int .i64 4, .int .i64 1] 3 2 _ rfl; rw [add_flat] at this; exact this) (by intro e; injection e with e; simp at e; omega)
        have HR9 := mkHid r9
        have HG9 := mkHid (grown_trans HG8.out g9)
        have HX9 := mkHid (HX8.out.grown g9 (fun e => by injection e with e; omega))
        have HZ9 := mkHid (HZ8.out.grown g9 (fun e => by injection e with e; omega))
        clear r9 g9 HR8 HG8 HX8 HZ8
        obtain ⟨p, rfl⟩ := Int.eq_ofNat_of_zero_le pa
        have hpl : p < 3 := by omega
        obtain ⟨y, hy, hcy⟩ : ∃ y : Int, smallI y ∧ w9.cell? ⟨w7.heap.size, p, none⟩ = some (.int .i64 y) := by
          have : p = 0 ∨ p = 1 ∨ p = 2 := by omega
          rcases this with rfl | rfl | rfl
          · exact ⟨(-1), by unfold smallI; omega, hc0⟩
          · exact ⟨4, by unfold smallI; omega, hc1⟩
          · exact ⟨1, by unfold smallI; omega, hc2⟩
        clear hc0 hc1 hc2
        obtain ⟨c0, c1, c2, c3⟩ := HX9.out.cells
        obtain ⟨f0, f1, f2, f3⟩ := HX9.out.frozen
        have HX := mkHid (HX9.out.c y)
        have HZ := mkHid (HZ9.out.grown (grown_setCell w9 g8 3 (.int .i64 y)) (fun e => by injection e with e; omega))
        have HR := mkHid (HR9.out.grown (grown_setCell w9 g8 3 (.int .i64 y)) (fun g e => by injection e with e; omega))
        have HG := mkHid (grown_own HG9.out (grown_setCell w9 g8 3 (.int .i64 y)) (by omega))
        have HS := mkHid (show SmallCd ⟨o, a, b, y⟩ from ⟨HS5.out.1, HS5.out.2.1, HS5.out.2.2.1, hy⟩)
        obtain ⟨⟨k0, k1, k2, k3⟩, ⟨z0, z1, z2, z3⟩, ⟨l0, l1, l2, l3⟩, _⟩ := fin_facts HZ.out HX.out
        have HFW := mkHid (fun V => @fin_world w (w9.setCell ⟨g8, 3, none⟩ (.int .i64 y)) V w.heap.size br _ o a b y _ HZ.out HR.out HG.out (Nat.le_refl _) hlt0)
        go_wp2_with fail
        clear k0 k1 k2 k3 z0 z1 z2 z3 l0 l1 l2 l3 c0 c1 c2 c3 f0 f1 f2 f3 hcy
        generalize hV : ((((w9.setCell ⟨g8, 3, none⟩ (.int .i64 y)).setCell ⟨w.heap.size, 0, none⟩ (.int .i64 o)).setCell ⟨w.heap.size, 1, none⟩ (.int .i64 a)).setCell ⟨w.heap.size, 2, none⟩ (.int .i64 b)).setCell ⟨w.heap.size, 3, none⟩ (.int .i64 y) = V
        obtain ⟨⟨d0, d1, d2, d3⟩, hrV, hgV⟩ := HFW.out V hV
        clear hV
        refine bodyPost_ret (v := cdV ⟨o, a, b, y⟩) (by simp [results, Try.results105, go_sem, d0, d1, d2, d3]) rfl ⟨⟨o, a, b, y⟩, rfl, HS.out, hrV.mono (by omega), hgV⟩
  · by_cases hq1 : q = 1
    · subst hq1
      clear hq0
      go_wp2_with fail
      refine (pick_any _ _ _ _ (by omega) HR4.out).mono ?_
      rintro e w41 ⟨q1, rfl, q1a, q1b, r41, g41⟩
      have q1b := q1b (by omega)
      have HR41 := mkHid r41
      have HG41 := mkHid (grown_trans HG4.out g41)
      have HX41 := mkHid (HX4.out.grown g41 (fun e => by injection e with e; omega))
      have HZ41 := mkHid (HZ4.out.grown g41 (fun e => by injection e with e; omega))
      clear r41 g41
      go_wp2_with fail
      refine (pick_any _ _ _ _ (by omega) HR41.out).mono ?_
      rintro e w42 ⟨q2, rfl, q2a, q2b, r42, g42⟩
      have q2b := q2b (by omega)
      have hlb42 := r42.lt
      obtain ⟨q3, hq3⟩ : ∃ q3, q3 = 1 + q2 := ⟨_, rfl⟩
      have hq3b : 1 ≤ q3 ∧ q3 ≤ 4 := by omega
      have HR42 := mkHid (r42.below ((Below.refl _ _).alloc (Nat.le_refl _) (.cells #[.int .i64 13, .int .i64 q1, .int .i64 (1 + q2), .int .i64 0, .int .i64 10, .int .i64 0, .int .i64 0, .int .i64 0, .int .i64 12, .int .i64 0, .int .i64 0, .int .i64 0, .int .i64 14, .int .i64 0, .int .i64 0, .int .i64 0] 69)))
      have HG42 := mkHid (grown_trans (grown_trans HG41.out g42) (World.grownBy_alloc w42 (.cells #[.int .i64 13, .int .i64 q1, .int .i64 (1 + q2), .int .i64 0, .int .i64 10, .int .i64 0, .int .i64 0, .int .i64 0, .int .i64 12, .int .i64 0, .int .i64 0, .int .i64 0, .int .i64 14, .int .i64 0, .int .i64 0, .int .i64 0] 69) (some br)))
      have HX42 := mkHid ((HX41.out.grown g42 (fun e => by injection e with e; omega)).below ((Below.refl _ _).alloc (Nat.le_refl _) (.cells #[.int .i64 13, .int .i64 q1, .int .i64 (1 + q2), .int .i64 0, .int .i64 10, .int .i64 0, .int .i64 0, .int .i64 0, .int .i64 12, .int .i64 0, .int .i64 0, .int .i64 0, .int .i64 14, .int .i64 0, .int .i64 0, .int .i64 0] 69)))
      have HZ42 := mkHid ((HZ41.out.grown g42 (fun e => by injection e with e; omega)).below ((Below.refl _ _).alloc (Nat.le_refl _) (.cells #[.int .i64 13, .int .i64 q1, .int .i64 (1 + q2), .int .i64 0, .int .i64 10, .int .i64 0, .int .i64 0, .int .i64 0, .int .i64 12, .int .i64 0, .int .i64 0, .int .i64 0, .int .i64 14, .int .i64 0, .int .i64 0, .int .i64 0] 69)))
      clear r42 g42
      go_wp2_with fail
      refine (pick_any _ _ _ _ (by omega) HR42.out).mono ?_
      rintro e w43 ⟨p, rfl, pa, pb, r43, g43⟩
      have pb := pb (by omega)
      obtain ⟨p, rfl⟩ := Int.eq_ofNat_of_zero_le pa
      have hp4 : p < 4 := by omega
      obtain ⟨⟨xo, xa, xb, xc⟩, hsx, e0, e1, e2, e3⟩ : ∃ x : Cd, SmallCd x ∧ w43.cell? ⟨w42.heap.size, p * 4, none⟩ = some (.int .i64 x.op) ∧ w43.cell? ⟨w42.heap.size, p * 4 + 1, none⟩ = some (.int .i64 x.a) ∧ w43.cell? ⟨w42.heap.size, p * 4 + 2, none⟩ = some (.int .i64 x.b) ∧ w43.cell? ⟨w42.heap.size, p * 4 + 3, none⟩ = some (.int .i64 x.c) := by
        have hn : ∀ j u, ([.int .i64 13, .int .i64 q1, .int .i64 (1 + q2), .int .i64 0, .int .i64 10, .int .i64 0, .int .i64 0, .int .i64 0, .int .i64 12, .int .i64 0, .int .i64 0, .int .i64 0, .int .i64 14, .int .i64 0, .int .i64 0, .int .i64 0] : List Value)[j]? = some u → w43.cell? ⟨w42.heap.size, j, none⟩ = some u := fun j u hu => g43.cell (by have := newCells w42 [.int .i64 13, .int .i64 q1, .int .i64 (1 + q2), .int .i64 0, .int .i64 10, .int .i64 0, .int .i64 0, .int .i64 0, .int .i64 12, .int .i64 0, .int .i64 0, .int .i64 0, .int .i64 14, .int .i64 0, .int .i64 0, .int .i64 0] 69 j u hu; rw [add_flat, Nat.zero_add] at this; exact this) (by intro e; injection e with e; simp at e; omega)
        have : p = 0 ∨ p = 1 ∨ p = 2 ∨ p = 3 := by omega
        rcases this with rfl | rfl | rfl | rfl
        · exact ⟨⟨13, q1, 1 + q2, 0⟩, (by unfold SmallCd smallI; simp only; omega), hn 0 _ rfl, hn 1 _ rfl, hn 2 _ rfl, hn 3 _ rfl⟩
        · exact ⟨⟨10, 0, 0, 0⟩, (by unfold SmallCd smallI; simp only; omega), hn 4 _ rfl, hn 5 _ rfl, hn 6 _ rfl, hn 7 _ rfl⟩
        · exact ⟨⟨12, 0, 0, 0⟩, (by unfold SmallCd smallI; simp only; omega), hn 8 _ rfl, hn 9 _ rfl, hn 10 _ rfl, hn 11 _ rfl⟩
        · exact ⟨⟨14, 0, 0, 0⟩, (by unfold SmallCd smallI; simp only; omega), hn 12 _ rfl, hn 13 _ rfl, hn 14 _ rfl, hn 15 _ rfl⟩
      have HR := mkHid r43
      have HG := mkHid (grown_trans HG42.out g43)
      have HX := mkHid (HX42.out.grown g43 (fun e => by injection e with e; omega))
      have HZ := mkHid (HZ42.out.grown g43 (fun e => by injection e with e; omega))
      simp only at e0 e1 e2 e3
      clear r43 g43 HR42 HG42 HX42 HZ42 HR41 HG41 HX41 HZ41
      obtain ⟨c0, c1, c2, c3⟩ := HX.out.cells
      obtain ⟨f0, f1, f2, f3⟩ := HX.out.frozen
      have HSW := mkHid (fun V => @st_world w w43 V g8 w.heap.size br _ xo xa xb xc _ _ HX.out HZ.out HR.out HG.out (by omega) hlb (by omega))
      have HS5 := mkHid (show SmallCd ⟨xo, xa, xb, xc⟩ from hsx)
      go_wp2_with fail
      clear c0 c1 c2 c3 f0 f1 f2 f3 e0 e1 e2 e3
      generalize hV : (((w43.setCell ⟨g8, 0, none⟩ (.int .i64 xo)).setCell ⟨g8, 1, none⟩ (.int .i64 xa)).setCell ⟨g8, 2, none⟩ (.int .i64 xb)).setCell ⟨g8, 3, none⟩ (.int .i64 xc) = w5
      obtain ⟨hx5, hz5, hr5, hg5⟩ := HSW.out w5 hV
      have HX5 := mkHid hx5
      have HZ5 := mkHid hz5
      have HR5 := mkHid (hr5.mono (M := N + 24) (by omega))
      have HG5 := mkHid hg5
      clear hV HSW hx5 hz5 hr5 hg5 HX4 HZ4 HR4 HG4
      obtain ⟨⟨o, a, b, c⟩, HX5, HS5⟩ : ∃ x : Cd, Hid (Bx w5 g8 x) ∧ Hid (SmallCd x) := ⟨_, HX5, HS5⟩
      refine (oddB _ _ _ _ hn.1 hn.2 (by omega) HR5.out).mono ?_
      rintro e w6 ⟨bb, rfl, r6, g6⟩
      have HR6 := mkHid r6
      have HG6 := mkHid (grown_trans HG5.out g6)
      have HX6 := mkHid (HX5.out.grown g6 (fun e => by injection e with e; omega))
      have HZ6 := mkHid (HZ5.out.grown g6 (fun e => by injection e with e; omega))
      clear r6 g6 HR5 HG5 HX5 HZ5
      cases bb with
      | false =>
        have HX := HX6
        have HZ := HZ6
        have HR := HR6
        have HG := HG6
        have HS := HS5
        obtain ⟨⟨k0, k1, k2, k3⟩, ⟨z0, z1, z2, z3⟩, ⟨l0, l1, l2, l3⟩, _⟩ := fin_facts HZ.out HX.out
        have HFW := mkHid (fun V => @fin_world w w6 V w.heap.size br _ o a b c _ HZ.out HR.out HG.out (Nat.le_refl _) hlt0)
        go_wp2_with fail
        clear k0 k1 k2 k3 z0 z1 z2 z3 l0 l1 l2 l3
        generalize hV : (((w6.setCell ⟨w.heap.size, 0, none⟩ (.int .i64 o)).setCell ⟨w.heap.size, 1, none⟩ (.int .i64 a)).setCell ⟨w.heap.size, 2, none⟩ (.int .i64 b)).setCell ⟨w.heap.size, 3, none⟩ (.int .i64 c) = V
        obtain ⟨⟨d0, d1, d2, d3⟩, hrV, hgV⟩ := HFW.out V hV
        clear hV
        refine bodyPost_ret (v := cdV ⟨o, a, b, c⟩) (by simp [results, Try.results105, go_sem, d0, d1, d2, d3]) rfl ⟨⟨o, a, b, c⟩, rfl, HS.out, hrV.mono (by omega), hgV⟩
      | true =>
        go_wp2_with fail
        refine (pick_any _ _ _ _ (by omega) HR6.out).mono ?_
        rintro e w7 ⟨k, rfl, ka, kb, r7, g7⟩
        have kb := kb (by omega)
        have HR7 := mkHid r7
        have HG7 := mkHid (grown_trans HG6.out g7)
        have HX7 := mkHid (HX6.out.grown g7 (fun e => by injection e with e; omega))
        have HZ7 := mkHid (HZ6.out.grown g7 (fun e => by injection e with e; omega))
        have hlb7 := r7.lt
        clear r7 g7 HR6 HG6 HX6 HZ6
        have hk4 : k = 0 ∨ k = 1 ∨ k = 2 ∨ k = 3 := by omega
        clear ka kb
        rcases hk4 with rfl | rfl | rfl | rfl
        · have HR8 := mkHid (HR7.out.below ((Below.refl _ _).alloc (Nat.le_refl _) (.cells #[.int .i64 0, .int .i64 15] 3)))
          have HG8 := mkHid (grown_trans HG7.out (World.grownBy_alloc w7 (.cells #[.int .i64 0, .int .i64 15] 3) (some br)))
          have HX8 := mkHid (HX7.out.below ((Below.refl _ _).alloc (Nat.le_refl _) (.cells #[.int .i64 0, .int .i64 15] 3)))
          have HZ8 := mkHid (HZ7.out.below ((Below.refl _ _).alloc (Nat.le_refl _) (.cells #[.int .i64 0, .int .i64 15] 3)))
          go_wp2_with fail
          refine (pick_any _ _ _ _ (by omega) HR8.out).mono ?_
          rintro e w9 ⟨p, rfl, pa, pb, r9, g9⟩
          have pb := pb (by omega)
          have hc0 : w9.cell? ⟨w7.heap.size, 0, none⟩ = some (.int .i64 0) := g9.cell (by have := newCells w7 [.int .i64 0, .int .i64 15] 3 0 _ rfl; rw [add_flat] at this; exact this) (by intro e; injection e with e; simp at e; omega)
          have hc1 : w9.cell? ⟨w7.heap.size, 1, none⟩ = some (.int .i64 15) := g9.cell (by have := newCells w7 [.int .i64 0, .int .i64 15] 3 1 _ rfl; rw [add_flat] at this; exact this) (by intro e; injection e with e; simp at e; omega)
          have HR9 := mkHid r9
          have HG9 := mkHid (grown_trans HG8.out g9)
          have HX9 := mkHid (HX8.out.grown g9 (fun e => by injection e with e; omega))
          have HZ9 := mkHid (HZ8.out.grown g9 (fun e => by injection e with e; omega))
          clear r9 g9 HR8 HG8 HX8 HZ8
          obtain ⟨p, rfl⟩ := Int.eq_ofNat_of_zero_le pa
          have hpl : p < 2 := by omega
          obtain ⟨y, hy, hcy⟩ : ∃ y : Int, smallI y ∧ w9.cell? ⟨w7.heap.size, p, none⟩ = some (.int .i64 y) := by
            have : p = 0 ∨ p = 1 := by omega
            rcases this with rfl | rfl
            · exact ⟨0, by unfold smallI; omega, hc0⟩
            · exact ⟨15, by unfold smallI; omega, hc1⟩
          clear hc0 hc1
          obtain ⟨c0, c1, c2, c3⟩ := HX9.out.cells
          obtain ⟨f0, f1, f2, f3⟩ := HX9.out.frozen
          have HX := mkHid (HX9.out.op y)
          have HZ := mkHid (HZ9.out.grown (grown_setCell w9 g8 0 (.int .i64 y)) (fun e => by injection e with e; omega))
          have HR := mkHid (HR9.out.grown (grown_setCell w9 g8 0 (.int .i64 y)) (fun g e => by injection e with e; omega))
          have HG := mkHid (grown_own HG9.out (grown_setCell w9 g8 0 (.int .i64 y)) (by omega))
          have HS := mkHid (show SmallCd ⟨y, a, b, c⟩ from ⟨hy, HS5.out.2.1, HS5.out.2.2.1, HS5.out.2.2.2⟩)
          obtain ⟨⟨k0, k1, k2, k3⟩, ⟨z0, z1, z2, z3⟩, ⟨l0, l1, l2, l3⟩, _⟩ := fin_facts HZ.out HX.out
          have HFW := mkHid (fun V => @fin_world w (w9.setCell ⟨g8, 0, none⟩ (.int .i64 y)) V w.heap.size br _ y a b c _ HZ.out HR.out HG.out (Nat.le_refl _) hlt0)
          go_wp2_with fail
          clear k0 k1 k2 k3 z0 z1 z2 z3 l0 l1 l2 l3 c0 c1 c2 c3 f0 f1 f2 f3 hcy
          generalize hV : ((((w9.setCell ⟨g8, 0, none⟩ (.int .i64 y)).setCell ⟨w.heap.size, 0, none⟩ (.int .i64 y)).setCell ⟨w.heap.size, 1, none⟩ (.int .i64 a)).setCell ⟨w.heap.size, 2, none⟩ (.int .i64 b)).setCell ⟨w.heap.size, 3, none⟩ (.int .i64 c) = V
          obtain ⟨⟨d0, d1, d2, d3⟩, hrV, hgV⟩ := HFW.out V hV
          clear hV
          refine bodyPost_ret (v := cdV ⟨y, a, b, c⟩) (by simp [results, Try.results105, go_sem, d0, d1, d2, d3]) rfl ⟨⟨y, a, b, c⟩, rfl, HS.out, hrV.mono (by omega), hgV⟩
        · have HR8 := mkHid (HR7.out.below ((Below.refl _ _).alloc (Nat.le_refl _) (.cells #[.int .i64 (-1), .int .i64 4] 3)))
          have HG8 := mkHid (grown_trans HG7.out (World.grownBy_alloc w7 (.cells #[.int .i64 (-1), .int .i64 4] 3) (some br)))
          have HX8 := mkHid (HX7.out.below ((Below.refl _ _).alloc (Nat.le_refl _) (.cells #[.int .i64 (-1), .int .i64 4] 3)))
          have HZ8 := mkHid (HZ7.out.below ((Below.refl _ _).alloc (Nat.le_refl _) (.cells #[.int .i64 (-1), .int .i64 4] 3)))
          go_wp2_with fail
          refine (pick_any _ _ _ _ (by omega) HR8.out).mono ?_
          rintro e w9 ⟨p, rfl, pa, pb, r9, g9⟩
          have pb := pb (by omega)
          have hc0 : w9.cell? ⟨w7.heap.size, 0, none⟩ = some (.int .i64 (-1)) := g9.cell (by have := newCells w7 [.int .i64 (-1), .int .i64 4] 3 0 _ rfl; rw [add_flat] at this; exact this) (by intro e; injection e with e; simp at e; omega)
          have hc1 : w9.cell? ⟨w7.heap.size, 1, none⟩ = some (.int .i64 4) := g9.cell (by have := newCells w7 [.int .i64 (-1), .int .i64 4] 3 1 _ rfl; rw [add_flat] at this; exact this) (by intro e; injection e with e; simp at e; omega)
          have HR9 := mkHid r9
          have HG9 := mkHid (grown_trans HG8.out g9)
          have HX9 := mkHid (HX8.out.grown g9 (fun e => by injection e with e; omega))
          have HZ9 := mkHid (HZ8.out.grown g9 (fun e => by injection e with e; omega))
          clear r9 g9 HR8 HG8 HX8 HZ8
          obtain ⟨p, rfl⟩ := Int.eq_ofNat_of_zero_le pa
          have hpl : p < 2 := by omega
          obtain ⟨y, hy, hcy⟩ : ∃ y : Int, smallI y ∧ w9.cell? ⟨w7.heap.size, p, none⟩ = some (.int .i64 y) := by
            have : p = 0 ∨ p = 1 := by omega
            rcases this with rfl | rfl
            · exact ⟨(-1), by unfold smallI; omega, hc0⟩
            · exact ⟨4, by unfold smallI; omega, hc1⟩
          clear hc0 hc1
          obtain ⟨c0, c1, c2, c3⟩ := HX9.out.cells
          obtain ⟨f0, f1, f2, f3⟩ := HX9.out.frozen
          have HX := mkHid (HX9.out.a y)
          have HZ := mkHid (HZ9.out.grown (grown_setCell w9 g8 1 (.int .i64 y)) (fun e => by injection e with e; omega))
          have HR := mkHid (HR9.out.grown (grown_setCell w9 g8 1 (.int .i64 y)) (fun g e => by injection e with e; omega))
          have HG := mkHid (grown_own HG9.out (grown_setCell w9 g8 1 (.int .i64 y)) (by omega))
          have HS := mkHid (show SmallCd ⟨o, y, b, c⟩ from ⟨HS5.out.1, hy, HS5.out.2.2.1, HS5.out.2.2.2⟩)
          obtain ⟨⟨k0, k1, k2, k3⟩, ⟨z0, z1, z2, z3⟩, ⟨l0, l1, l2, l3⟩, _⟩ := fin_facts HZ.out HX.out
          have HFW := mkHid (fun V => @fin_world w (w9.setCell ⟨g8, 1, none⟩ (.int .i64 y)) V w.heap.size br _ o y b c _ HZ.out HR.out HG.out (Nat.le_refl _) hlt0)
          go_wp2_with fail
          clear k0 k1 k2 k3 z0 z1 z2 z3 l0 l1 l2 l3 c0 c1 c2 c3 f0 f1 f2 f3 hcy
          generalize hV : ((((w9.setCell ⟨g8, 1, none⟩ (.int .i64 y)).setCell ⟨w.heap.size, 0, none⟩ (.int .i64 o)).setCell ⟨w.heap.size, 1, none⟩ (.int .i64 y)).setCell ⟨w.heap.size, 2, none⟩ (.int .i64 b)).setCell ⟨w.heap.size, 3, none⟩ (.int .i64 c) = V
          obtain ⟨⟨d0, d1, d2, d3⟩, hrV, hgV⟩ := HFW.out V hV
          clear hV
          refine bodyPost_ret (v := cdV ⟨o, y, b, c⟩) (by simp [results, Try.results105, go_sem, d0, d1, d2, d3]) rfl ⟨⟨o, y, b, c⟩, rfl, HS.out, hrV.mono (by omega), hgV⟩
        · have HR8 := mkHid (HR7.out.below ((Below.refl _ _).alloc (Nat.le_refl _) (.cells #[.int .i64 (-1), .int .i64 256] 3)))
          have HG8 := mkHid (grown_trans HG7.out (World.grownBy_alloc w7 (.cells #[.int .i64 (-1), .int .i64 256] 3) (some br)))
          have HX8 := mkHid (HX7.out.below ((Below.refl _ _).alloc (Nat.le_refl _) (.cells #[.int .i64 (-1), .int .i64 256] 3)))
          have HZ8 := mkHid (HZ7.out.below ((Below.refl _ _).alloc (Nat.le_refl _) (.cells #[.int .i64 (-1), .int .i64 256] 3)))
          go_wp2_with fail
          refine (pick_any _ _ _ _ (by omega) HR8.out).mono ?_
          rintro e w9 ⟨p, rfl, pa, pb, r9, g9⟩
          have pb := pb (by omega)
          have hc0 : w9.cell? ⟨w7.heap.size, 0, none⟩ = some (.int .i64 (-1)) := g9.cell (by have := newCells w7 [.int .i64 (-1), .int .i64 256] 3 0 _ rfl; rw [add_flat] at this; exact this) (by intro e; injection e with e; simp at e; omega)
          have hc1 : w9.cell? ⟨w7.heap.size, 1, none⟩ = some (.int .i64 256) := g9.cell (by have := newCells w7 [.int .i64 (-1), .int .i64 256] 3 1 _ rfl; rw [add_flat] at this; exact this) (by intro e; injection e with e; simp at e; omega)
          have HR9 := mkHid r9
          have HG9 := mkHid (grown_trans HG8.out g9)
          have HX9 := mkHid (HX8.out.grown g9 (fun e => by injection e with e; omega))
          have HZ9 := mkHid (HZ8.out.grown g9 (fun e => by injection e with e; omega))
          clear r9 g9 HR8 HG8 HX8 HZ8
          obtain ⟨p, rfl⟩ := Int.eq_ofNat_of_zero_le pa
          have hpl : p < 2 := by omega
          obtain ⟨y, hy, hcy⟩ : ∃ y : Int, smallI y ∧ w9.cell? ⟨w7.heap.size, p, none⟩ = some (.int .i64 y) := by
            have : p = 0 ∨ p = 1 := by omega
            rcases this with rfl | rfl
            · exact ⟨(-1), by unfold smallI; omega, hc0⟩
            · exact ⟨256, by unfold smallI; omega, hc1⟩
          clear hc0 hc1
          obtain ⟨c0, c1, c2, c3⟩ := HX9.out.cells
          obtain ⟨f0, f1, f2, f3⟩ := HX9.out.frozen
          have HX := mkHid (HX9.out.b y)
          have HZ := mkHid (HZ9.out.grown (grown_setCell w9 g8 2 (.int .i64 y)) (fun e => by injection e with e; omega))
          have HR := mkHid (HR9.out.grown (grown_setCell w9 g8 2 (.int .i64 y)) (fun g e => by injection e with e; omega))
          have HG := mkHid (grown_own HG9.out (grown_setCell w9 g8 2 (.int .i64 y)) (by omega))
          have HS := mkHid (show SmallCd ⟨o, a, y, c⟩ from ⟨HS5.out.1, HS5.out.2.1, hy, HS5.out.2.2.2⟩)
          obtain ⟨⟨k0, k1, k2, k3⟩, ⟨z0, z1, z2, z3⟩, ⟨l0, l1, l2, l3⟩, _⟩ := fin_facts HZ.out HX.out
          have HFW := mkHid (fun V => @fin_world w (w9.setCell ⟨g8, 2, none⟩ (.int .i64 y)) V w.heap.size br _ o a y c _ HZ.out HR.out HG.out (Nat.le_refl _) hlt0)
          go_wp2_with fail
          clear k0 k1 k2 k3 z0 z1 z2 z3 l0 l1 l2 l3 c0 c1 c2 c3 f0 f1 f2 f3 hcy
          generalize hV : ((((w9.setCell ⟨g8, 2, none⟩ (.int .i64 y)).setCell ⟨w.heap.size, 0, none⟩ (.int .i64 o)).setCell ⟨w.heap.size, 1, none⟩ (.int .i64 a)).setCell ⟨w.heap.size, 2, none⟩ (.int .i64 y)).setCell ⟨w.heap.size, 3, none⟩ (.int .i64 c) = V
          obtain ⟨⟨d0, d1, d2, d3⟩, hrV, hgV⟩ := HFW.out V hV
          clear hV
          refine bodyPost_ret (v := cdV ⟨o, a, y, c⟩) (by simp [results, Try.results105, go_sem, d0, d1, d2, d3]) rfl ⟨⟨o, a, y, c⟩, rfl, HS.out, hrV.mono (by omega), hgV⟩
        · have HR8 := mkHid (HR7.out.below ((Below.refl _ _).alloc (Nat.le_refl _) (.cells #[.int .i64 (-1), .int .i64 4, .int .i64 1] 3)))
          have HG8 := mkHid (grown_trans HG7.out (World.grownBy_alloc w7 (.cells #[.int .i64 (-1), .int .i64 4, .int .i64 1] 3) (some br)))
          have HX8 := mkHid (HX7.out.below ((Below.refl _ _).alloc (Nat.le_refl _) (.cells #[.int .i64 (-1), .int .i64 4, .int .i64 1] 3)))
          have HZ8 := mkHid (HZ7.out.below ((Below.refl _ _).alloc (Nat.le_refl _) (.cells #[.int .i64 (-1), .int .i64 4, .int .i64 1] 3)))
          go_wp2_with fail
          refine (pick_any _ _ _ _ (by omega) HR8.out).mono ?_
          rintro e w9 ⟨p, rfl, pa, pb, r9, g9⟩
          have pb := pb (by omega)
          have hc0 : w9.cell? ⟨w7.heap.size, 0, none⟩ = some (.int .i64 (-1)) := g9.cell (by have := newCells w7 [.int .i64 (-1), .int .i64 4, .int .i64 1] 3 0 _ rfl; rw [add_flat] at this; exact this) (by intro e; injection e with e; simp at e; omega)
          have hc1 : w9.cell? ⟨w7.heap.size, 1, none⟩ = some (.int .i64 4) := g9.cell (by have := newCells w7 [.int .i64 (-1), .int .i64 4, .int .i64 1] 3 1 _ rfl; rw [add_flat] at this; exact this) (by intro e; injection e with e; simp at e; omega)
          have hc2 : w9.cell? ⟨w7.heap.size, 2, none⟩ = some (.int .i64 1) := g9.cell (by have := newCells w7 [.int .i64 (-1), .int .i64 4, .int .i64 1] 3 2 _ rfl; rw [add_flat] at this; exact this) (by intro e; injection e with e; simp at e; omega)
          have HR9 := mkHid r9
          have HG9 := mkHid (grown_trans HG8.out g9)
          have HX9 := mkHid (HX8.out.grown g9 (fun e => by injection e with e; omega))
          have HZ9 := mkHid (HZ8.out.grown g9 (fun e => by injection e with e; omega))
          clear r9 g9 HR8 HG8 HX8 HZ8
          obtain ⟨p, rfl⟩ := Int.eq_ofNat_of_zero_le pa
          have hpl : p < 3 := by omega
          obtain ⟨y, hy, hcy⟩ : ∃ y : Int, smallI y ∧ w9.cell? ⟨w7.heap.size, p, none⟩ = some (.int .i64 y) := by
            have : p = 0 ∨ p = 1 ∨ p = 2 := by omega
            rcases this with rfl | rfl | rfl
            · exact ⟨(-1), by unfold smallI; omega, hc0⟩
            · exact ⟨4, by unfold smallI; omega, hc1⟩
            · exact ⟨1, by unfold smallI; omega, hc2⟩
          clear hc0 hc1 hc2
          obtain ⟨c0, c1, c2, c3⟩ := HX9.out.cells
          obtain ⟨f0, f1, f2, f3⟩ := HX9.out.frozen
          have HX := mkHid (HX9.out.c y)
          have HZ := mkHid (HZ9.out.grown (grown_setCell w9 g8 3 (.int .i64 y)) (fun e => by injection e with e; omega))
          have HR := mkHid (HR9.out.grown (grown_setCell w9 g8 3 (.int .i64 y)) (fun g e => by injection e with e; omega))
          have HG := mkHid (grown_own HG9.out (grown_setCell w9 g8 3 (.int .i64 y)) (by omega))
          have HS := mkHid (show SmallCd ⟨o, a, b, y⟩ from ⟨HS5.out.1, HS5.out.2.1, HS5.out.2.2.1, hy⟩)
          obtain ⟨⟨k0, k1, k2, k3⟩, ⟨z0, z1, z2, z3⟩, ⟨l0, l1, l2, l3⟩, _⟩ := fin_facts HZ.out HX.out
          have HFW := mkHid (fun V => @fin_world w (w9.setCell ⟨g8, 3, none⟩ (.int .i64 y)) V w.heap.size br _ o a b y _ HZ.out HR.out HG.out (Nat.le_refl _) hlt0)
          go_wp2_with fail
          clear k0 k1 k2 k3 z0 z1 z2 z3 l0 l1 l2 l3 c0 c1 c2 c3 f0 f1 f2 f3 hcy
          generalize hV : ((((w9.setCell ⟨g8, 3, none⟩ (.int .i64 y)).setCell ⟨w.heap.size, 0, none⟩ (.int .i64 o)).setCell ⟨w.heap.size, 1, none⟩ (.int .i64 a)).setCell ⟨w.heap.size, 2, none⟩ (.int .i64 b)).setCell ⟨w.heap.size, 3, none⟩ (.int .i64 y) = V
          obtain ⟨⟨d0, d1, d2, d3⟩, hrV, hgV⟩ := HFW.out V hV
          clear hV
          refine bodyPost_ret (v := cdV ⟨o, a, b, y⟩) (by simp [results, Try.results105, go_sem, d0, d1, d2, d3]) rfl ⟨⟨o, a, b, y⟩, rfl, HS.out, hrV.mono (by omega), hgV⟩
    · have n0 : (q == 0) = false := by simpa using hq0
      have n1 : (q == 1) = false := by simpa using hq1
      clear hq0 hq1
      go_wp2_with fail
      generalize w4 = w5 at *
      have HX5 := HX4
      have HZ5 := HZ4
      have HR5 := mkHid (HR4.out.mono (M := N + 24) (by omega))
      have HG5 := HG4
      have HS5 := HS0
      clear HX4 HZ4 HR4 HG4
      refine (oddB _ _ _ _ hn.1 hn.2 (by omega) HR5.out).mono ?_
      rintro e w6 ⟨bb, rfl, r6, g6⟩
      have HR6 := mkHid r6
      have HG6 := mkHid (grown_trans HG5.out g6)
      have HX6 := mkHid (HX5.out.grown g6 (fun e => by injection e with e; omega))
      have HZ6 := mkHid (HZ5.out.grown g6 (fun e => by injection e with e; omega))
      clear r6 g6 HR5 HG5 HX5 HZ5
      cases bb with
      | false =>
        have HX := HX6
        have HZ := HZ6
        have HR := HR6
        have HG := HG6
        have HS := HS5
        obtain ⟨⟨k0, k1, k2, k3⟩, ⟨z0, z1, z2, z3⟩, ⟨l0, l1, l2, l3⟩, _⟩ := fin_facts HZ.out HX.out
        have HFW := mkHid (fun V => @fin_world w w6 V w.heap.size br _ o a b c _ HZ.out HR.out HG.out (Nat.le_refl _) hlt0)
        go_wp2_with fail
        clear k0 k1 k2 k3 z0 z1 z2 z3 l0 l1 l2 l3
        generalize hV : (((w6.setCell ⟨w.heap.size, 0, none⟩ (.int .i64 o)).setCell ⟨w.heap.size, 1, none⟩ (.int .i64 a)).setCell ⟨w.heap.size, 2, none⟩ (.int .i64 b)).setCell ⟨w.heap.size, 3, none⟩ (.int .i64 c) = V
        obtain ⟨⟨d0, d1, d2, d3⟩, hrV, hgV⟩ := HFW.out V hV
        clear hV
        refine bodyPost_ret (v := cdV ⟨o, a, b, c⟩) (by simp [results, Try.results105, go_sem, d0, d1, d2, d3]) rfl ⟨⟨o, a, b, c⟩, rfl, HS.out, hrV.mono (by omega), hgV⟩
      | true =>
        go_wp2_with fail
        refine (pick_any _ _ _ _ (by omega) HR6.out).mono ?_
        rintro e w7 ⟨k, rfl, ka, kb, r7, g7⟩
        have kb := kb (by omega)
        have HR7 := mkHid r7
        have HG7 := mkHid (grown_trans HG6.out g7)
        have HX7 := mkHid (HX6.out.grown g7 (fun e => by injection e with e; omega))
        have HZ7 := mkHid (HZ6.out.grown g7 (fun e => by injection e with e; omega))
        have hlb7 := r7.lt
        clear r7 g7 HR6 HG6 HX6 HZ6
        have hk4 : k = 0 ∨ k = 1 ∨ k = 2 ∨ k = 3 := by omega
        clear ka kb
        rcases hk4 with rfl | rfl | rfl | rfl
        · have HR8 := mkHid (HR7.out.below ((Below.refl _ _).alloc (Nat.le_refl _) (.cells #[.int .i64 0, .int .i64 15] 3)))
          have HG8 := mkHid (grown_trans HG7.out (World.grownBy_alloc w7 (.cells #[.int .i64 0, .int .i64 15] 3) (some br)))
          have HX8 := mkHid (HX7.out.below ((Below.refl _ _).alloc (Nat.le_refl _) (.cells #[.int .i64 0, .int .i64 15] 3)))
          have HZ8 := mkHid (HZ7.out.below ((Below.refl _ _).alloc (Nat.le_refl _) (.cells #[.int .i64 0, .int .i64 15] 3)))
          go_wp2_with fail
          refine (pick_any _ _ _ _ (by omega) HR8.out).mono ?_
          rintro e w9 ⟨p, rfl, pa, pb, r9, g9⟩
          have pb := pb (by omega)
          have hc0 : w9.cell? ⟨w7.heap.size, 0, none⟩ = some (.int .i64 0) := g9.cell (by have := newCells w7 [.int .i64 0, .int .i64 15] 3 0 _ rfl; rw [add_flat] at this; exact this) (by intro e; injection e with e; simp at e; omega)
          have hc1 : w9.cell? ⟨w7.heap.size, 1, none⟩ = some (.int .i64 15) := g9.cell (by have := newCells w7 [.int .i64 0, .int .i64 15] 3 1 _ rfl; rw [add_flat] at this; exact this) (by intro e; injection e with e; simp at e; omega)
          have HR9 := mkHid r9
          have HG9 := mkHid (grown_trans HG8.out g9)
          have HX9 := mkHid (HX8.out.grown g9 (fun e => by injection e with e; omega))
          have HZ9 := mkHid (HZ8.out.grown g9 (fun e => by injection e with e; omega))
          clear r9 g9 HR8 HG8 HX8 HZ8
          obtain ⟨p, rfl⟩ := Int.eq_ofNat_of_zero_le pa
          have hpl : p < 2 := by omega
          obtain ⟨y, hy, hcy⟩ : ∃ y : Int, smallI y ∧ w9.cell? ⟨w7.heap.size, p, none⟩ = some (.int .i64 y) := by
            have : p = 0 ∨ p = 1 := by omega
            rcases this with rfl | rfl
            · exact ⟨0, by unfold smallI; omega, hc0⟩
            · exact ⟨15, by unfold smallI; omega, hc1⟩
          clear hc0 hc1
          obtain ⟨c0, c1, c2, c3⟩ := HX9.out.cells
          obtain ⟨f0, f1, f2, f3⟩ := HX9.out.frozen
          have HX := mkHid (HX9.out.op y)
          have HZ := mkHid (HZ9.out.grown (grown_setCell w9 g8 0 (.int .i64 y)) (fun e => by injection e with e; omega))
          have HR := mkHid (HR9.out.grown (grown_setCell w9 g8 0 (.int .i64 y)) (fun g e => by injection e with e; omega))
          have HG := mkHid (grown_own HG9.out (grown_setCell w9 g8 0 (.int .i64 y)) (by omega))
          have HS := mkHid (show SmallCd ⟨y, a, b, c⟩ from ⟨hy, HS5.out.2.1, HS5.out.2.2.1, HS5.out.2.2.2⟩)
          obtain ⟨⟨k0, k1, k2, k3⟩, ⟨z0, z1, z2, z3⟩, ⟨l0, l1, l2, l3⟩, _⟩ := fin_facts HZ.out HX.out
          have HFW := mkHid (fun V => @fin_world w (w9.setCell ⟨g8, 0, none⟩ (.int .i64 y)) V w.heap.size br _ y a b c _ HZ.out HR.out HG.out (Nat.le_refl _) hlt0)
          go_wp2_with fail
          clear k0 k1 k2 k3 z0 z1 z2 z3 l0 l1 l2 l3 c0 c1 c2 c3 f0 f1 f2 f3 hcy
          generalize hV : ((((w9.setCell ⟨g8, 0, none⟩ (.int .i64 y)).setCell ⟨w.heap.size, 0, none⟩ (.int .i64 y)).setCell ⟨w.heap.size, 1, none⟩ (.int .i64 a)).setCell ⟨w.heap.size, 2, none⟩ (.int .i64 b)).setCell ⟨w.heap.size, 3, none⟩ (.int .i64 c) = V
          obtain ⟨⟨d0, d1, d2, d3⟩, hrV, hgV⟩ := HFW.out V hV
          clear hV
          refine bodyPost_ret (v := cdV ⟨y, a, b, c⟩) (by simp [results, Try.results105, go_sem, d0, d1, d2, d3]) rfl ⟨⟨y, a, b, c⟩, rfl, HS.out, hrV.mono (by omega), hgV⟩
        · have HR8 := mkHid (HR7.out.below ((Below.refl _ _).alloc (Nat.le_refl _) (.cells #[.int .i64 (-1), .int .i64 4] 3)))
          have HG8 := mkHid (grown_trans HG7.out (World.grownBy_alloc w7 (.cells #[.int .i64 (-1), .int .i64 4] 3) (some br)))
          have HX8 := mkHid (HX7.out.below ((Below.refl _ _).alloc (Nat.le_refl _) (.cells #[.int .i64 (-1), .int .i64 4] 3)))
          have HZ8 := mkHid (HZ7.out.below ((Below.refl _ _).alloc (Nat.le_refl _) (.cells #[.int .i64 (-1), .int .i64 4] 3)))
          go_wp2_with fail
          refine (pick_any _ _ _ _ (by omega) HR8.out).mono ?_
          rintro e w9 ⟨p, rfl, pa, pb, r9, g9⟩
          have pb := pb (by omega)
          have hc0 : w9.cell? ⟨w7.heap.size, 0, none⟩ = some (.int .i64 (-1)) := g9.cell (by have := newCells w7 [.int .i64 (-1), .int .i64 4] 3 0 _ rfl; rw [add_flat] at this; exact this) (by intro e; injection e with e; simp at e; omega)
          have hc1 : w9.cell? ⟨w7.heap.size, 1, none⟩ = some (.int .i64 4) := g9.cell (by have := newCells w7 [.int .i64 (-1), .int .i64 4] 3 1 _ rfl; rw [add_flat] at this; exact this) (by intro e; injection e with e; simp at e; omega)
          have HR9 := mkHid r9
          have HG9 := mkHid (grown_trans HG8.out g9)
          have HX9 := mkHid (HX8.out.grown g9 (fun e => by injection e with e; omega))
          have HZ9 := mkHid (HZ8.out.grown g9 (fun e => by injection e with e; omega))
          clear r9 g9 HR8 HG8 HX8 HZ8
          obtain ⟨p, rfl⟩ := Int.eq_ofNat_of_zero_le pa
          have hpl : p < 2 := by omega
          obtain ⟨y, hy, hcy⟩ : ∃ y : Int, smallI y ∧ w9.cell? ⟨w7.heap.size, p, none⟩ = some (.int .i64 y) := by
            have : p = 0 ∨ p = 1 := by omega
            rcases this with rfl | rfl
            · exact ⟨(-1), by unfold smallI; omega, hc0⟩
            · exact ⟨4, by unfold smallI; omega, hc1⟩
          clear hc0 hc1
          obtain ⟨c0, c1, c2, c3⟩ := HX9.out.cells
          obtain ⟨f0, f1, f2, f3⟩ := HX9.out.frozen
          have HX := mkHid (HX9.out.a y)
          have HZ := mkHid (HZ9.out.grown (grown_setCell w9 g8 1 (.int .i64 y)) (fun e => by injection e with e; omega))
          have HR := mkHid (HR9.out.grown (grown_setCell w9 g8 1 (.int .i64 y)) (fun g e => by injection e with e; omega))
          have HG := mkHid (grown_own HG9.out (grown_setCell w9 g8 1 (.int .i64 y)) (by omega))
          have HS := mkHid (show SmallCd ⟨o, y, b, c⟩ from ⟨HS5.out.1, hy, HS5.out.2.2.1, HS5.out.2.2.2⟩)
          obtain ⟨⟨k0, k1, k2, k3⟩, ⟨z0, z1, z2, z3⟩, ⟨l0, l1, l2, l3⟩, _⟩ := fin_facts HZ.out HX.out
          have HFW := mkHid (fun V => @fin_world w (w9.setCell ⟨g8, 1, none⟩ (.int .i64 y)) V w.heap.size br _ o y b c _ HZ.out HR.out HG.out (Nat.le_refl _) hlt0)
          go_wp2_with fail
          clear k0 k1 k2 k3 z0 z1 z2 z3 l0 l1 l2 l3 c0 c1 c2 c3 f0 f1 f2 f3 hcy
          generalize hV : ((((w9.setCell ⟨g8, 1, none⟩ (.int .i64 y)).setCell ⟨w.heap.size, 0, none⟩ (.int .i64 o)).setCell ⟨w.heap.size, 1, none⟩ (.int .i64 y)).setCell ⟨w.heap.size, 2, none⟩ (.int .i64 b)).setCell ⟨w.heap.size, 3, none⟩ (.int .i64 c) = V
          obtain ⟨⟨d0, d1, d2, d3⟩, hrV, hgV⟩ := HFW.out V hV
          clear hV
          refine bodyPost_ret (v := cdV ⟨o, y, b, c⟩) (by simp [results, Try.results105, go_sem, d0, d1, d2, d3]) rfl ⟨⟨o, y, b, c⟩, rfl, HS.out, hrV.mono (by omega), hgV⟩
        · have HR8 := mkHid (HR7.out.below ((Below.refl _ _).alloc (Nat.le_refl _) (.cells #[.int .i64 (-1), .int .i64 256] 3)))
          have HG8 := mkHid (grown_trans HG7.out (World.grownBy_alloc w7 (.cells #[.int .i64 (-1), .int .i64 256] 3) (some br)))
          have HX8 := mkHid (HX7.out.below ((Below.refl _ _).alloc (Nat.le_refl _) (.cells #[.int .i64 (-1), .int .i64 256] 3)))
          have HZ8 := mkHid (HZ7.out.below ((Below.refl _ _).alloc (Nat.le_refl _) (.cells #[.int .i64 (-1), .int .i64 256] 3)))
          go_wp2_with fail
          refine (pick_any _ _ _ _ (by omega) HR8.out).mono ?_
          rintro e w9 ⟨p, rfl, pa, pb, r9, g9⟩
          have pb := pb (by omega)
          have hc0 : w9.cell? ⟨w7.heap.size, 0, none⟩ = some (.int .i64 (-1)) := g9.cell (by have := newCells w7 [.int .i64 (-1), .int .i64 256] 3 0 _ rfl; rw [add_flat] at this; exact this) (by intro e; injection e with e; simp at e; omega)
          have hc1 : w9.cell? ⟨w7.heap.size, 1, none⟩ = some (.int .i64 256) := g9.cell (by have := newCells w7 [.int .i64 (-1), .int .i64 256] 3 1 _ rfl; rw [add_flat] at this; exact this) (by intro e; injection e with e; simp at e; omega)
          have HR9 := mkHid r9
          have HG9 := mkHid (grown_trans HG8.out g9)
          have HX9 := mkHid (HX8.out.grown g9 (fun e => by injection e with e; omega))
          have HZ9 := mkHid (HZ8.out.grown g9 (fun e => by injection e with e; omega))
          clear r9 g9 HR8 HG8 HX8 HZ8
          obtain ⟨p, rfl⟩ := Int.eq_ofNat_of_zero_le pa
          have hpl : p < 2 := by omega
          obtain ⟨y, hy, hcy⟩ : ∃ y : Int, smallI y ∧ w9.cell? ⟨w7.heap.size, p, none⟩ = some (.int .i64 y) := by
            have : p = 0 ∨ p = 1 := by omega
            rcases this with rfl | rfl
            · exact ⟨(-1), by unfold smallI; omega, hc0⟩
            · exact ⟨256, by unfold smallI; omega, hc1⟩
          clear hc0 hc1
          obtain ⟨c0, c1, c2, c3⟩ := HX9.out.cells
          obtain ⟨f0, f1, f2, f3⟩ := HX9.out.frozen
          have HX := mkHid (HX9.out.b y)
          have HZ := mkHid (HZ9.out.grown (grown_setCell w9 g8 2 (.int .i64 y)) (fun e => by injection e with e; omega))
          have HR := mkHid (HR9.out.grown (grown_setCell w9 g8 2 (.int .i64 y)) (fun g e => by injection e with e; omega))
          have HG := mkHid (grown_own HG9.out (grown_setCell w9 g8 2 (.int .i64 y)) (by omega))
          have HS := mkHid (show SmallCd ⟨o, a, y, c⟩ from ⟨HS5.out.1, HS5.out.2.1, hy, HS5.out.2.2.2⟩)
          obtain ⟨⟨k0, k1, k2, k3⟩, ⟨z0, z1, z2, z3⟩, ⟨l0, l1, l2, l3⟩, _⟩ := fin_facts HZ.out HX.out
          have HFW := mkHid (fun V => @fin_world w (w9.setCell ⟨g8, 2, none⟩ (.int .i64 y)) V w.heap.size br _ o a y c _ HZ.out HR.out HG.out (Nat.le_refl _) hlt0)
          go_wp2_with fail
          clear k0 k1 k2 k3 z0 z1 z2 z3 l0 l1 l2 l3 c0 c1 c2 c3 f0 f1 f2 f3 hcy
          generalize hV : ((((w9.setCell ⟨g8, 2, none⟩ (.int .i64 y)).setCell ⟨w.heap.size, 0, none⟩ (.int .i64 o)).setCell ⟨w.heap.size, 1, none⟩ (.int .i64 a)).setCell ⟨w.heap.size, 2, none⟩ (.int .i64 y)).setCell ⟨w.heap.size, 3, none⟩ (.int .i64 c) = V
          obtain ⟨⟨d0, d1, d2, d3⟩, hrV, hgV⟩ := HFW.out V hV
          clear hV
          refine bodyPost_ret (v := cdV ⟨o, a, y, c⟩) (by simp [results, Try.results105, go_sem, d0, d1, d2, d3]) rfl ⟨⟨o, a, y, c⟩, rfl, HS.out, hrV.mono (by omega), hgV⟩
        · have HR8 := mkHid (HR7.out.below ((Below.refl _ _).alloc (Nat.le_refl _) (.cells #[.int .i64 (-1), .int .i64 4, .int .i64 1] 3)))
          have HG8 := mkHid (grown_trans HG7.out (World.grownBy_alloc w7 (.cells #[.int .i64 (-1), .int .i64 4, .int .i64 1] 3) (some br)))
          have HX8 := mkHid (HX7.out.below ((Below.refl _ _).alloc (Nat.le_refl _) (.cells #[.int .i64 (-1), .int .i64 4, .int .i64 1] 3)))
          have HZ8 := mkHid (HZ7.out.below ((Below.refl _ _).alloc (Nat.le_refl _) (.cells #[.int .i64 (-1), .int .i64 4, .int .i64 1] 3)))
          go_wp2_with fail
          refine (pick_any _ _ _ _ (by omega) HR8.out).mono ?_
          rintro e w9 ⟨p, rfl, pa, pb, r9, g9⟩
          have pb := pb (by omega)
          have hc0 : w9.cell? ⟨w7.heap.size, 0, none⟩ = some (.int .i64 (-1)) := g9.cell (by have := newCells w7 [.int .i64 (-1), .int .i64 4, .int .i64 1] 3 0 _ rfl; rw [add_flat] at this; exact this) (by intro e; injection e with e; simp at e; omega)
          have hc1 : w9.cell? ⟨w7.heap.size, 1, none⟩ = some (.int .i64 4) := g9.cell (by have := newCells w7 [.int .i64 (-1), .int .i64 4, .int .i64 1] 3 1 _ rfl; rw [add_flat] at this; exact this) (by intro e; injection e with e; simp at e; omega)
          have hc2 : w9.cell? ⟨w7.heap.size, 2, none⟩ = some (.int .i64 1) := g9.cell (by have := newCells w7 [.int .i64 (-1), .int .i64 4, .int .i64 1] 3 2 _ rfl; rw [add_flat] at this; exact this) (by intro e; injection e with e; simp at e; omega)
          have HR9 := mkHid r9
          have HG9 := mkHid (grown_trans HG8.out g9)
          have HX9 := mkHid (HX8.out.grown g9 (fun e => by injection e with e; omega))
          have HZ9 := mkHid (HZ8.out.grown g9 (fun e => by injection e with e; omega))
          clear r9 g9 HR8 HG8 HX8 HZ8
          obtain ⟨p, rfl⟩ := Int.eq_ofNat_of_zero_le pa
          have hpl : p < 3 := by omega
          obtain ⟨y, hy, hcy⟩ : ∃ y : Int, smallI y ∧ w9.cell? ⟨w7.heap.size, p, none⟩ = some (.int .i64 y) := by
            have : p = 0 ∨ p = 1 ∨ p = 2 := by omega
            rcases this with rfl | rfl | rfl
            · exact ⟨(-1), by unfold smallI; omega, hc0⟩
            · exact ⟨4, by unfold smallI; omega, hc1⟩
            · exact ⟨1, by unfold smallI; omega, hc2⟩
          clear hc0 hc1 hc2
          obtain ⟨c0, c1, c2, c3⟩ := HX9.out.cells
          obtain ⟨f0, f1, f2, f3⟩ := HX9.out.frozen
          have HX := mkHid (HX9.out.c y)
          have HZ := mkHid (HZ9.out.grown (grown_setCell w9 g8 3 (.int .i64 y)) (fun e => by injection e with e; omega))
          have HR := mkHid (HR9.out.grown (grown_setCell w9 g8 3 (.int .i64 y)) (fun g e => by injection e with e; omega))
          have HG := mkHid (grown_own HG9.out (grown_setCell w9 g8 3 (.int .i64 y)) (by omega))
          have HS := mkHid (show SmallCd ⟨o, a, b, y⟩ from ⟨HS5.out.1, HS5.out.2.1, HS5.out.2.2.1, hy⟩)
          obtain ⟨⟨k0, k1, k2, k3⟩, ⟨z0, z1, z2, z3⟩, ⟨l0, l1, l2, l3⟩, _⟩ := fin_facts HZ.out HX.out
          have HFW := mkHid (fun V => @fin_world w (w9.setCell ⟨g8, 3, none⟩ (.int .i64 y)) V w.heap.size br _ o a b y _ HZ.out HR.out HG.out (Nat.le_refl _) hlt0)
          go_wp2_with fail
          clear k0 k1 k2 k3 z0 z1 z2 z3 l0 l1 l2 l3 c0 c1 c2 c3 f0 f1 f2 f3 hcy
          generalize hV : ((((w9.setCell ⟨g8, 3, none⟩ (.int .i64 y)).setCell ⟨w.heap.size, 0, none⟩ (.int .i64 o)).setCell ⟨w.heap.size, 1, none⟩ (.int .i64 a)).setCell ⟨w.heap.size, 2, none⟩ (.int .i64 b)).setCell ⟨w.heap.size, 3, none⟩ (.int .i64 y) = V
          obtain ⟨⟨d0, d1, d2, d3⟩, hrV, hgV⟩ := HFW.out V hV
          clear hV
          refine bodyPost_ret (v := cdV ⟨o, a, b, y⟩) (by simp [results, Try.results105, go_sem, d0, d1, d2, d3]) rfl ⟨⟨o, a, b, y⟩, rfl, HS.out, hrV.mono (by omega), hgV⟩
end Go.Proofs.Ytjmiilneennjaaa
