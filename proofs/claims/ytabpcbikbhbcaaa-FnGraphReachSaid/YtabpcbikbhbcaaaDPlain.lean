/-
  Contract of the draw l20Plain: the instruction is a valid one, of no block.
-/
import Derived.Test.YtabpcbikbhbcaaaDCode
import Derived.Test.YtabpcbikbhbcaaaTRegLast
import Derived.Deep.Cut
namespace Go.Proofs.Ytabpcbikbhbcaaa
open Go.RowKit
set_option maxHeartbeats 2000000
set_option linter.unusedVariables false

/-- a valid instruction that opens, divides and closes no block. -/
def PlainOk (x : Cd) : Prop := codeValid x = true ∧ 1 ≤ x.op ∧ x.op ≤ 10
theorem PlainOk.small {x : Cd} (h : PlainOk x) : SmallCd x := by
  obtain ⟨op, a, b, c⟩ := x
  obtain ⟨h1, h2, h3⟩ := h
  simp only at h2 h3
  have : op = 1 ∨ op = 2 ∨ op = 3 ∨ op = 4 ∨ op = 5 ∨ op = 6 ∨ op = 7 ∨ op = 8 ∨ op = 9 ∨ op = 10 := by omega
  unfold SmallCd smallI
  rcases this with rfl | rfl | rfl | rfl | rfl | rfl | rfl | rfl | rfl | rfl <;> (simp [codeValid, numOk, regs, inB] at h1; simp only; omega)
theorem plain0 {a : Int} (ha : 0 ≤ a ∧ a ≤ 3) : PlainOk ⟨2, a, 0, 0⟩ := ⟨by simp [codeValid, numOk, regs, inB]; omega, by simp, by simp⟩
theorem plain1 {a y : Int} (ha : 0 ≤ a ∧ a ≤ 3) (hy : 0 ≤ y ∧ y ≤ 255) : PlainOk ⟨1, a, y, 0⟩ := ⟨by simp [codeValid, numOk, regs, inB]; omega, by simp, by simp⟩
theorem plain2 {op a q : Int} (h : op = 3 ∨ op = 4 ∨ op = 5 ∨ op = 8 ∨ op = 9) (ha : 0 ≤ a ∧ a ≤ 3) (hq : 0 ≤ q ∧ q ≤ 3) : PlainOk ⟨op, a, q, 0⟩ := by
  rcases h with rfl | rfl | rfl | rfl | rfl <;> exact ⟨by simp [codeValid, numOk, regs, inB]; omega, by simp, by simp⟩
theorem plain3 {op a q r : Int} (h : op = 6 ∨ op = 7) (ha : 0 ≤ a ∧ a ≤ 3) (hq : 0 ≤ q ∧ q ≤ 3) (hr : 0 ≤ r ∧ r ≤ 3) : PlainOk ⟨op, a, q, r⟩ := by
  rcases h with rfl | rfl <;> exact ⟨by simp [codeValid, numOk, regs, inB]; omega, by simp, by simp⟩
/-- a valid instruction is drawn. -/
def DrawnV (br N : Nat) (w : World) (e : Ending) (w' : World) : Prop :=
  ∃ x : Cd, e = .returned (cdV x) ∧ PlainOk x ∧ Rd w' br N ∧ w.grownBy w' (some br)
def kZero (base : Nat) : Kind := ⟨Nat, fun g => .pointer (some ⟨g, 0, none⟩), fun g w => base ≤ g ∧ Bx w g ⟨0, 0, 0, 0⟩⟩
theorem kZero_ne (base : Nat) : Nonempty (kZero base).X := ⟨(0 : Nat)⟩
def regPlainV (br N : Nat) (w0 : World) : Reg where
  nd := [0, 2, 4, 6, 8]
  K := fun
    | 0 => kLit w0.heap.size 12 1 9
    | 2 => kInt 0 11
    | 4 => kInt 1 9
    | 6 => kInt 0 3
    | 8 => kZero w0.heap.size
    | _ => kNone
  ne := fun i => by
    split <;> first | exact kInt_ne _ _ (by omega) | exact kLit_ne _ _ _ _ | exact kZero_ne _ | exact ⟨()⟩
  I := drawI br N w0
  mono := drawI_mono br N w0
  hy := fun
    | 4 => [0]
    | _ => []
  kills := fun _ => []
  live := [8]

theorem regPlainV_keeps (br N : Nat) (w0 : World) (hlt : br < w0.heap.size) {w w' : World} (hg : w.grownBy w' (some br)) (i : Nat) : (regPlainV br N w0).keeps i w w' := by
  intro k hk _ _
  simp only [regPlainV, List.mem_cons, List.not_mem_nil, or_false] at hk
  rcases hk with rfl | rfl | rfl | rfl | rfl
  all_goals first | exact fun y h => h | exact fun y h => LitAt.grown h hlt hg | exact fun y ⟨h1, h3⟩ => ⟨h1, h3.grown hg (fun e => absurd hlt (Nat.not_lt.2 ((Option.some.inj e) ▸ h1)))⟩
theorem l20PlainV_any (br N : Nat) (w : World) (hN : N ≤ 900000000) (h : Rd w br N) :
    Calls Try.prog 58 #[.pointer (some ⟨br, 0, none⟩)] w (DrawnV br (N + 20) w) := by
  have hlt0 := h.lt
  have hr1 : Rd (w.alloc (.cells #[.int .i64 0, .int .i64 0, .int .i64 0, .int .i64 0] 59)) br N := h.below ((Below.refl _ _).alloc (Nat.le_refl _) _)
  have hg1 : w.grownBy (w.alloc (.cells #[.int .i64 0, .int .i64 0, .int .i64 0, .int .i64 0] 59)) (some br) := World.grownBy_alloc _ _ _
  have hb1 : Bx (w.alloc (.cells #[.int .i64 0, .int .i64 0, .int .i64 0, .int .i64 0] 59)) w.heap.size ⟨0, 0, 0, 0⟩ := Bx.new w ⟨0, 0, 0, 0⟩
  have hs1 : w.heap.size < (w.alloc (.cells #[.int .i64 0, .int .i64 0, .int .i64 0, .int .i64 0] 59)).heap.size := by simp
  go_enter Try.func58, Try.ntmps58
  go_wp2_with fail
  generalize hW : w.alloc (.cells #[.int .i64 0, .int .i64 0, .int .i64 0, .int .i64 0] 59) = w1 at *
  have hlt := hr1.lt
  have hkeep := @regPlainV_keeps br N w1 hlt
  have HG1 := mkHid hg1
  have HB1 := mkHid hb1
  clear hW h hg1 hb1
  refine wp_region_lastL (regPlainV br N w1) rfl (by kernel_rfl) (by kernel_rfl) (by kernel_rfl) (by kernel_rfl) (drawI_start hr1) (fun xs => ?_)
  simp only [List.dropLast]
  refine wpN_nd rfl rfl ?_ (fun x hx0 => ?_)
  · intro m w hm hI hh
    simp [yields, go_sem]
    exact ⟨(w.heap.size : Nat), rfl, LitAt.new w [1, 1, 2, 3, 4, 5, 6, 7, 8, 9, 9, 3] _ hI.2.size (by simp <;> omega), drawI_alloc hI _, hkeep (World.grownBy_alloc _ _ _) _⟩
  obtain ⟨g0, rfl⟩ : ∃ g : Nat, g = x := ⟨x, rfl⟩
  show wpN _ _ _ _ _ _ _ (Act.put _ _ (.slice (some ⟨g0, 0, none⟩) 12 12))
  simp only [Act.put, List.setIfInBounds_toArray, List.set_cons_succ, List.set_cons_zero]
  refine wpN_det rfl rfl rfl (fun K hK => ?_); go_big_quiet_op; first | (refine hK _ ?_; clear hK K) | (refine ⟨_, fun _ => rfl, hK _ ?_⟩; clear hK K)
  refine wpN_nd rfl rfl ?_ (fun x hx2 => ?_)
  · intro m w hm hI hh
    simp [yields, go_sem]
    refine (pick_any _ _ _ _ (by omega) hI.1).mono ?_
    rintro e w' ⟨r, rfl, h0, h1, hr, hg⟩
    exact ⟨_, rfl, ⟨r, h0, by omega⟩, rfl, trivial, drawI_pick hI hr hg, hkeep hg _⟩
  obtain ⟨r2, p2⟩ := x
  obtain ⟨n2, rfl⟩ := Int.eq_ofNat_of_zero_le p2.1
  show wpN _ _ _ _ _ _ _ (Act.put _ _ (.int .i64 n2))
  simp only [Act.put, List.setIfInBounds_toArray, List.set_cons_succ, List.set_cons_zero]
  refine wpN_det rfl rfl rfl (fun K hK => ?_); go_big_quiet_op; first | (refine hK _ ?_; clear hK K) | (refine ⟨_, fun _ => rfl, hK _ ?_⟩; clear hK K)
  refine wpN_nd rfl rfl ?_ (fun x hx4 => ?_)
  · intro m w hm hI hh
    have hl := hh 0 (List.mem_singleton_self 0)
    rw [hx0] at hl
    obtain ⟨z, z0, z1, hc⟩ := LitAt.at_ hl (j := n2) (by omega)
    simp only [Nat.zero_add] at hc
    simp [yields, go_sem, hc]
    exact ⟨⟨z, z0, z1⟩, rfl, trivial, drawI_mono _ _ _ _ _ hI, hkeep (World.grownBy.refl _ _) _⟩
  obtain ⟨r4, p4⟩ := x
  obtain ⟨n4, rfl⟩ := Int.eq_ofNat_of_zero_le (show 0 ≤ r4 from Int.le_trans (by decide) p4.1)
  show wpN _ _ _ _ _ _ _ (Act.put _ _ (.int .i64 n4))
  simp only [Act.put, List.setIfInBounds_toArray, List.set_cons_succ, List.set_cons_zero]
  refine wpN_det rfl rfl rfl (fun K hK => ?_); go_big_quiet_op; first | (refine hK _ ?_; clear hK K) | (refine ⟨_, fun _ => rfl, hK _ ?_⟩; clear hK K)
  refine wpN_nd rfl rfl ?_ (fun x hx6 => ?_)
  · intro m w hm hI hh
    simp [yields, go_sem]
    refine (pick_any _ _ _ _ (by omega) hI.1).mono ?_
    rintro e w' ⟨r, rfl, h0, h1, hr, hg⟩
    exact ⟨_, rfl, ⟨r, h0, by omega⟩, rfl, trivial, drawI_pick hI hr hg, hkeep hg _⟩
  obtain ⟨r6, p6⟩ := x
  obtain ⟨n6, rfl⟩ := Int.eq_ofNat_of_zero_le p6.1
  show wpN _ _ _ _ _ _ _ (Act.put _ _ (.int .i64 n6))
  simp only [Act.put, List.setIfInBounds_toArray, List.set_cons_succ, List.set_cons_zero]
  refine wpN_det rfl rfl rfl (fun K hK => ?_); go_big_quiet_op; first | (refine hK _ ?_; clear hK K) | (refine ⟨_, fun _ => rfl, hK _ ?_⟩; clear hK K)
  refine wpN_nd rfl rfl ?_ (fun x hx8 => ?_)
  · intro m w hm hI hh
    simp [yields, go_sem]
    exact ⟨(w.heap.size : Nat), rfl, ⟨hI.2.size, Bx.new w ⟨0, 0, 0, 0⟩⟩, drawI_alloc hI _, hkeep (World.grownBy_alloc _ _ _) _⟩
  obtain ⟨g8, rfl⟩ : ∃ g : Nat, g = x := ⟨x, rfl⟩
  show wpN _ _ _ _ _ _ _ (Act.put _ _ (.pointer (some ⟨g8, 0, none⟩)))
  simp only [Act.put, List.setIfInBounds_toArray, List.set_cons_succ, List.set_cons_zero]
  refine wpN_end (fun w2 hI hV => ?_)
  have hlv := hV 8 (List.mem_singleton_self 8)
  rw [hx8] at hlv
  obtain ⟨hg8, hbx⟩ := hlv
  have hg8 : w1.heap.size ≤ g8 := hg8
  have hop : (1 : Int) ≤ (n4 : Int) ∧ (n4 : Int) ≤ 9 := p4
  have hab : (0 : Int) ≤ (n6 : Int) ∧ (n6 : Int) ≤ 3 := p6
  have HZ0 := mkHid (HB1.out.grown hI.2 (fun e => by injection e with e; omega))
  have HX0 := mkHid hbx
  have HG0 := mkHid (grown_trans HG1.out hI.2)
  have HR0 := mkHid (hI.1.mono (M := N + 10) (by first | exact Nat.le_refl _ | (simp; done) | decide))
  have hbg : w.heap.size < g8 := by omega
  obtain ⟨c0, c1, c2, c3⟩ := HX0.out.cells
  obtain ⟨f0, f1, f2, f3⟩ := HX0.out.frozen
  clear hI hV hbx HB1 HG1 hr1 hkeep hx0 hx2 hx4 hx6 hx8 p2 p4 p6
  generalize (n4 : Int) = op at *
  generalize (n6 : Int) = a at *
  show wpList _ _ _ _ _ _
  go_upto_region 2 with fail
  clear c0 c1 c2 c3 f0 f1 f2 f3
  generalize hV : (((w2.setCell ⟨g8, 0, none⟩ (.int .i64 op)).setCell ⟨g8, 1, none⟩ (.int .i64 a)).setCell ⟨g8, 2, none⟩ (.int .i64 0)).setCell ⟨g8, 3, none⟩ (.int .i64 0) = w3
  have HX2 := mkHid (show Bx w3 g8 ⟨op, a, 0, 0⟩ from by rw [← hV]; exact HX0.out.all ⟨op, a, 0, 0⟩)
  have HZ2 := mkHid (show Bx w3 w.heap.size ⟨0, 0, 0, 0⟩ from by rw [← hV]; exact HZ0.out.grown (grown_all w2 g8 ⟨op, a, 0, 0⟩) (fun e => by injection e with e; omega))
  have HR2 := mkHid (show Rd w3 br (N + 10) from by rw [← hV]; exact HR0.out.grown (grown_all w2 g8 ⟨op, a, 0, 0⟩) (fun g e => by injection e with e; omega))
  have HG2 := mkHid (show w.grownBy w3 (some br) from by rw [← hV]; exact grown_own HG0.out (grown_all w2 g8 ⟨op, a, 0, 0⟩) (by omega))
  clear hV HX0 HZ0 HR0 HG0
  generalize w3 = w2 at *
  by_cases e1 : op = 1
  · subst e1
    obtain ⟨c0, c1, c2, c3⟩ := HX2.out.cells
    go_wp2_with fail
    refine (pick_any _ _ _ _ (by omega) HR2.out).mono ?_
    rintro e w3 ⟨q3, rfl, a3, b3, r3, g3⟩
    have b3 := b3 (by omega)
    have HR3 := mkHid r3
    have HG3 := mkHid (grown_trans HG2.out g3)
    have HX3 := mkHid (HX2.out.grown g3 (fun e => by injection e with e; omega))
    have HZ3 := mkHid (HZ2.out.grown g3 (fun e => by injection e with e; omega))
    clear r3 g3 c0 c1 c2 c3
    go_wp2_with fail
    refine (pick_any _ _ _ _ (by omega) HR3.out).mono ?_
    rintro e w4 ⟨q4, rfl, a4, b4, r4, g4⟩
    have b4 := b4 (by omega)
    have hlt4 := r4.lt
    have HR4 := mkHid (r4.below ((Below.refl _ _).alloc (Nat.le_refl _) (.cells #[.int .i64 q3, .int .i64 q4] 3)))
    have HG4 := mkHid (grown_trans (grown_trans HG3.out g4) (World.grownBy_alloc w4 (.cells #[.int .i64 q3, .int .i64 q4] 3) (some br)))
    have HX4 := mkHid ((HX3.out.grown g4 (fun e => by injection e with e; omega)).below ((Below.refl _ _).alloc (Nat.le_refl _) (.cells #[.int .i64 q3, .int .i64 q4] 3)))
    have HZ4 := mkHid ((HZ3.out.grown g4 (fun e => by injection e with e; omega)).below ((Below.refl _ _).alloc (Nat.le_refl _) (.cells #[.int .i64 q3, .int .i64 q4] 3)))
    clear r4 g4
    go_wp2_with fail
    refine (pick_any _ _ _ _ (by omega) HR4.out).mono ?_
    rintro e w5 ⟨q5, rfl, a5, b5, r5, g5⟩
    have b5 := b5 (by omega)
    have hc0 : w5.cell? ⟨w4.heap.size, 0, none⟩ = some (.int .i64 q3) := g5.cell (by have := newCells w4 [.int .i64 q3, .int .i64 q4] 3 0 _ rfl; rw [add_flat] at this; exact this) (by intro e; injection e with e; simp at e; omega)
    have hc1 : w5.cell? ⟨w4.heap.size, 1, none⟩ = some (.int .i64 q4) := g5.cell (by have := newCells w4 [.int .i64 q3, .int .i64 q4] 3 1 _ rfl; rw [add_flat] at this; exact this) (by intro e; injection e with e; simp at e; omega)
    have HR5 := mkHid r5
    have HG5 := mkHid (grown_trans HG4.out g5)
    have HX5 := mkHid (HX4.out.grown g5 (fun e => by injection e with e; omega))
    have HZ5 := mkHid (HZ4.out.grown g5 (fun e => by injection e with e; omega))
    clear r5 g5
    obtain ⟨y, hy, hcy⟩ : ∃ y : Int, (0 ≤ y ∧ y ≤ 255) ∧ w5.cell? ⟨w4.heap.size, q5.toNat, none⟩ = some (.int .i64 y) := by
      have : q5 = 0 ∨ q5 = 1 := by omega
      rcases this with rfl | rfl
      · exact ⟨q3, by omega, hc0⟩
      · exact ⟨q4, by omega, hc1⟩
    obtain ⟨p5, rfl⟩ := Int.eq_ofNat_of_zero_le a5
    simp only [Int.toNat_natCast] at hcy
    clear hc0 hc1
    have hp2 : p5 < 2 := by omega
    obtain ⟨c0, c1, c2, c3⟩ := HX5.out.cells
    obtain ⟨f0, f1, f2, f3⟩ := HX5.out.frozen
    have HX := mkHid (HX5.out.b y)
    have HZ := mkHid (HZ5.out.grown (grown_setCell w5 g8 2 (.int .i64 y)) (fun e => by injection e with e; omega))
    have HR := mkHid (HR5.out.grown (grown_setCell w5 g8 2 (.int .i64 y)) (fun g e => by injection e with e; omega))
    have HG := mkHid (grown_own HG5.out (grown_setCell w5 g8 2 (.int .i64 y)) (by omega))
    have HS : Hid (PlainOk ⟨1, a, y, 0⟩) := mkHid (plain1 hab hy)
    obtain ⟨⟨k0, k1, k2, k3⟩, ⟨z0, z1, z2, z3⟩, ⟨l0, l1, l2, l3⟩, _⟩ := fin_facts HZ.out HX.out
    have HFW := mkHid (fun V => @fin_world w (w5.setCell ⟨g8, 2, none⟩ (.int .i64 y)) V w.heap.size br _ 1 a y 0 _ HZ.out HR.out HG.out (Nat.le_refl _) hlt0)
    go_wp2_with fail
    clear k0 k1 k2 k3 z0 z1 z2 z3 l0 l1 l2 l3 c0 c1 c2 c3 f0 f1 f2 f3 hcy
    generalize hV : ((((w5.setCell ⟨g8, 2, none⟩ (.int .i64 y)).setCell ⟨w.heap.size, 0, none⟩ (.int .i64 1)).setCell ⟨w.heap.size, 1, none⟩ (.int .i64 a)).setCell ⟨w.heap.size, 2, none⟩ (.int .i64 y)).setCell ⟨w.heap.size, 3, none⟩ (.int .i64 0) = V
    obtain ⟨⟨d0, d1, d2, d3⟩, hrV, hgV⟩ := HFW.out V hV
    clear hV
    refine bodyPost_ret (v := cdV ⟨1, a, y, 0⟩) (by simp [results, Try.results58, go_sem, d0, d1, d2, d3]) rfl ⟨⟨1, a, y, 0⟩, rfl, HS.out, hrV.mono (by omega), hgV⟩
  · by_cases e2 : op = 3 ∨ op = 4 ∨ op = 5 ∨ op = 8 ∨ op = 9
    · clear e1
      rcases e2 with rfl | rfl | rfl | rfl | rfl
      · obtain ⟨c0, c1, c2, c3⟩ := HX2.out.cells
        go_wp2_with fail
        clear c0 c1 c2 c3
        refine (pick_any _ _ _ _ (by omega) HR2.out).mono ?_
        rintro e w3 ⟨q3, rfl, a3, b3, r3, g3⟩
        have b3 := b3 (by omega)
        have HP3 := mkHid r3
        have HGP3 := mkHid (grown_trans HG2.out g3)
        have HXP3 := mkHid (HX2.out.grown g3 (fun e => by injection e with e; omega))
        have HZP3 := mkHid (HZ2.out.grown g3 (fun e => by injection e with e; omega))
        clear r3 g3
        obtain ⟨c0, c1, c2, c3⟩ := HXP3.out.cells
        obtain ⟨f0, f1, f2, f3⟩ := HXP3.out.frozen
        have HX := mkHid (HXP3.out.b q3)
        have HZ := mkHid (HZP3.out.grown (grown_setCell w3 g8 2 (.int .i64 q3)) (fun e => by injection e with e; omega))
        have HR := mkHid (HP3.out.grown (grown_setCell w3 g8 2 (.int .i64 q3)) (fun g e => by injection e with e; omega))
        have HG := mkHid (grown_own HGP3.out (grown_setCell w3 g8 2 (.int .i64 q3)) (by omega))
        have HS := mkHid (show PlainOk ⟨3, a, q3, 0⟩ from plain2 (by omega) hab (by omega))
        obtain ⟨⟨k0, k1, k2, k3⟩, ⟨z0, z1, z2, z3⟩, ⟨l0, l1, l2, l3⟩, _⟩ := fin_facts HZ.out HX.out
        have HFW := mkHid (fun V => @fin_world w (w3.setCell ⟨g8, 2, none⟩ (.int .i64 q3)) V w.heap.size br _ 3 a q3 0 _ HZ.out HR.out HG.out (Nat.le_refl _) hlt0)
        go_wp2_with fail
        clear k0 k1 k2 k3 z0 z1 z2 z3 l0 l1 l2 l3 c0 c1 c2 c3 f0 f1 f2 f3
        generalize hV : ((((w3.setCell ⟨g8, 2, none⟩ (.int .i64 q3)).setCell ⟨w.heap.size, 0, none⟩ (.int .i64 3)).setCell ⟨w.heap.size, 1, none⟩ (.int .i64 a)).setCell ⟨w.heap.size, 2, none⟩ (.int .i64 q3)).setCell ⟨w.heap.size, 3, none⟩ (.int .i64 0) = V
        obtain ⟨⟨d0, d1, d2, d3⟩, hrV, hgV⟩ := HFW.out V hV
        clear hV
        refine bodyPost_ret (v := cdV ⟨3, a, q3, 0⟩) (by simp [results, Try.results58, go_sem, d0, d1, d2, d3]) rfl ⟨⟨3, a, q3, 0⟩, rfl, HS.out, hrV.mono (by omega), hgV⟩
      · obtain ⟨c0, c1, c2, c3⟩ := HX2.out.cells
        go_wp2_with fail
        clear c0 c1 c2 c3
        refine (pick_any _ _ _ _ (by omega) HR2.out).mono ?_
        rintro e w3 ⟨q3, rfl, a3, b3, r3, g3⟩
        have b3 := b3 (by omega)
        have HP3 := mkHid r3
        have HGP3 := mkHid (grown_trans HG2.out g3)
        have HXP3 := mkHid (HX2.out.grown g3 (fun e => by injection e with e; omega))
        have HZP3 := mkHid (HZ2.out.grown g3 (fun e => by injection e with e; omega))
        clear r3 g3
        obtain ⟨c0, c1, c2, c3⟩ := HXP3.out.cells
        obtain ⟨f0, f1, f2, f3⟩ := HXP3.out.frozen
        have HX := mkHid (HXP3.out.b q3)
        have HZ := mkHid (HZP3.out.grown (grown_setCell w3 g8 2 (.int .i64 q3)) (fun e => by injection e with e; omega))
        have HR := mkHid (HP3.out.grown (grown_setCell w3 g8 2 (.int .i64 q3)) (fun g e => by injection e with e; omega))
        have HG := mkHid (grown_own HGP3.out (grown_setCell w3 g8 2 (.int .i64 q3)) (by omega))
        have HS := mkHid (show PlainOk ⟨4, a, q3, 0⟩ from plain2 (by omega) hab (by omega))
        obtain ⟨⟨k0, k1, k2, k3⟩, ⟨z0, z1, z2, z3⟩, ⟨l0, l1, l2, l3⟩, _⟩ := fin_facts HZ.out HX.out
        have HFW := mkHid (fun V => @fin_world w (w3.setCell ⟨g8, 2, none⟩ (.int .i64 q3)) V w.heap.size br _ 4 a q3 0 _ HZ.out HR.out HG.out (Nat.le_refl _) hlt0)
        go_wp2_with fail
        clear k0 k1 k2 k3 z0 z1 z2 z3 l0 l1 l2 l3 c0 c1 c2 c3 f0 f1 f2 f3
        generalize hV : ((((w3.setCell ⟨g8, 2, none⟩ (.int .i64 q3)).setCell ⟨w.heap.size, 0, none⟩ (.int .i64 4)).setCell ⟨w.heap.size, 1, none⟩ (.int .i64 a)).setCell ⟨w.heap.size, 2, none⟩ (.int .i64 q3)).setCell ⟨w.heap.size, 3, none⟩ (.int .i64 0) = V
        obtain ⟨⟨d0, d1, d2, d3⟩, hrV, hgV⟩ := HFW.out V hV
        clear hV
        refine bodyPost_ret (v := cdV ⟨4, a, q3, 0⟩) (by simp [results, Try.results58, go_sem, d0, d1, d2, d3]) rfl ⟨⟨4, a, q3, 0⟩, rfl, HS.out, hrV.mono (by omega), hgV⟩
      · obtain ⟨c0, c1, c2, c3⟩ := HX2.out.cells
        go_wp2_with fail
        clear c0 c1 c2 c3
        refine (pick_any _ _ _ _ (by omega) HR2.out).mono ?_
        rintro e w3 ⟨q3, rfl, a3, b3, r3, g3⟩
        have b3 := b3 (by omega)
        have HP3 := mkHid r3
        have HGP3 := mkHid (grown_trans HG2.out g3)
        have HXP3 := mkHid (HX2.out.grown g3 (fun e => by injection e with e; omega))
        have HZP3 := mkHid (HZ2.out.grown g3 (fun e => by injection e with e; omega))
        clear r3 g3
        obtain ⟨c0, c1, c2, c3⟩ := HXP3.out.cells
        obtain ⟨f0, f1, f2, f3⟩ := HXP3.out.frozen
        have HX := mkHid (HXP3.out.b q3)
        have HZ := mkHid (HZP3.out.grown (grown_setCell w3 g8 2 (.int .i64 q3)) (fun e => by injection e with e; omega))
        have HR := mkHid (HP3.out.grown (grown_setCell w3 g8 2 (.int .i64 q3)) (fun g e => by injection e with e; omega))
        have HG := mkHid (grown_own HGP3.out (grown_setCell w3 g8 2 (.int .i64 q3)) (by omega))
        have HS := mkHid (show PlainOk ⟨5, a, q3, 0⟩ from plain2 (by omega) hab (by omega))
        obtain ⟨⟨k0, k1, k2, k3⟩, ⟨z0, z1, z2, z3⟩, ⟨l0, l1, l2, l3⟩, _⟩ := fin_facts HZ.out HX.out
        have HFW := mkHid (fun V => @fin_world w (w3.setCell ⟨g8, 2, none⟩ (.int .i64 q3)) V w.heap.size br _ 5 a q3 0 _ HZ.out HR.out HG.out (Nat.le_refl _) hlt0)
        go_wp2_with fail
        clear k0 k1 k2 k3 z0 z1 z2 z3 l0 l1 l2 l3 c0 c1 c2 c3 f0 f1 f2 f3
        generalize hV : ((((w3.setCell ⟨g8, 2, none⟩ (.int .i64 q3)).setCell ⟨w.heap.size, 0, none⟩ (.int .i64 5)).setCell ⟨w.heap.size, 1, none⟩ (.int .i64 a)).setCell ⟨w.heap.size, 2, none⟩ (.int .i64 q3)).setCell ⟨w.heap.size, 3, none⟩ (.int .i64 0) = V
        obtain ⟨⟨d0, d1, d2, d3⟩, hrV, hgV⟩ := HFW.out V hV
        clear hV
        refine bodyPost_ret (v := cdV ⟨5, a, q3, 0⟩) (by simp [results, Try.results58, go_sem, d0, d1, d2, d3]) rfl ⟨⟨5, a, q3, 0⟩, rfl, HS.out, hrV.mono (by omega), hgV⟩
      · obtain ⟨c0, c1, c2, c3⟩ := HX2.out.cells
        go_wp2_with fail
        clear c0 c1 c2 c3
        refine (pick_any _ _ _ _ (by omega) HR2.out).mono ?_
        rintro e w3 ⟨q3, rfl, a3, b3, r3, g3⟩
        have b3 := b3 (by omega)
        have HP3 := mkHid r3
        have HGP3 := mkHid (grown_trans HG2.out g3)
        have HXP3 := mkHid (HX2.out.grown g3 (fun e => by injection e with e; omega))
        have HZP3 := mkHid (HZ2.out.grown g3 (fun e => by injection e with e; omega))
        clear r3 g3
        obtain ⟨c0, c1, c2, c3⟩ := HXP3.out.cells
        obtain ⟨f0, f1, f2, f3⟩ := HXP3.out.frozen
        have HX := mkHid (HXP3.out.b q3)
        have HZ := mkHid (HZP3.out.grown (grown_setCell w3 g8 2 (.int .i64 q3)) (fun e => by injection e with e; omega))
        have HR := mkHid (HP3.out.grown (grown_setCell w3 g8 2 (.int .i64 q3)) (fun g e => by injection e with e; omega))
        have HG := mkHid (grown_own HGP3.out (grown_setCell w3 g8 2 (.int .i64 q3)) (by omega))
        have HS := mkHid (show PlainOk ⟨8, a, q3, 0⟩ from plain2 (by omega) hab (by omega))
        obtain ⟨⟨k0, k1, k2, k3⟩, ⟨z0, z1, z2, z3⟩, ⟨l0, l1, l2, l3⟩, _⟩ := fin_facts HZ.out HX.out
        have HFW := mkHid (fun V => @fin_world w (w3.setCell ⟨g8, 2, none⟩ (.int .i64 q3)) V w.heap.size br _ 8 a q3 0 _ HZ.out HR.out HG.out (Nat.le_refl _) hlt0)
        go_wp2_with fail
        clear k0 k1 k2 k3 z0 z1 z2 z3 l0 l1 l2 l3 c0 c1 c2 c3 f0 f1 f2 f3
        generalize hV : ((((w3.setCell ⟨g8, 2, none⟩ (.int .i64 q3)).setCell ⟨w.heap.size, 0, none⟩ (.int .i64 8)).setCell ⟨w.heap.size, 1, none⟩ (.int .i64 a)).setCell ⟨w.heap.size, 2, none⟩ (.int .i64 q3)).setCell ⟨w.heap.size, 3, none⟩ (.int .i64 0) = V
        obtain ⟨⟨d0, d1, d2, d3⟩, hrV, hgV⟩ := HFW.out V hV
        clear hV
        refine bodyPost_ret (v := cdV ⟨8, a, q3, 0⟩) (by simp [results, Try.results58, go_sem, d0, d1, d2, d3]) rfl ⟨⟨8, a, q3, 0⟩, rfl, HS.out, hrV.mono (by omega), hgV⟩
      · obtain ⟨c0, c1, c2, c3⟩ := HX2.out.cells
        go_wp2_with fail
        clear c0 c1 c2 c3
        refine (pick_any _ _ _ _ (by omega) HR2.out).mono ?_
        rintro e w3 ⟨q3, rfl, a3, b3, r3, g3⟩
        have b3 := b3 (by omega)
        have HP3 := mkHid r3
        have HGP3 := mkHid (grown_trans HG2.out g3)
        have HXP3 := mkHid (HX2.out.grown g3 (fun e => by injection e with e; omega))
        have HZP3 := mkHid (HZ2.out.grown g3 (fun e => by injection e with e; omega))
        clear r3 g3
        obtain ⟨c0, c1, c2, c3⟩ := HXP3.out.cells
        obtain ⟨f0, f1, f2, f3⟩ := HXP3.out.frozen
        have HX := mkHid (HXP3.out.b q3)
        have HZ := mkHid (HZP3.out.grown (grown_setCell w3 g8 2 (.int .i64 q3)) (fun e => by injection e with e; omega))
        have HR := mkHid (HP3.out.grown (grown_setCell w3 g8 2 (.int .i64 q3)) (fun g e => by injection e with e; omega))
        have HG := mkHid (grown_own HGP3.out (grown_setCell w3 g8 2 (.int .i64 q3)) (by omega))
        have HS := mkHid (show PlainOk ⟨9, a, q3, 0⟩ from plain2 (by omega) hab (by omega))
        obtain ⟨⟨k0, k1, k2, k3⟩, ⟨z0, z1, z2, z3⟩, ⟨l0, l1, l2, l3⟩, _⟩ := fin_facts HZ.out HX.out
        have HFW := mkHid (fun V => @fin_world w (w3.setCell ⟨g8, 2, none⟩ (.int .i64 q3)) V w.heap.size br _ 9 a q3 0 _ HZ.out HR.out HG.out (Nat.le_refl _) hlt0)
        go_wp2_with fail
        clear k0 k1 k2 k3 z0 z1 z2 z3 l0 l1 l2 l3 c0 c1 c2 c3 f0 f1 f2 f3
        generalize hV : ((((w3.setCell ⟨g8, 2, none⟩ (.int .i64 q3)).setCell ⟨w.heap.size, 0, none⟩ (.int .i64 9)).setCell ⟨w.heap.size, 1, none⟩ (.int .i64 a)).setCell ⟨w.heap.size, 2, none⟩ (.int .i64 q3)).setCell ⟨w.heap.size, 3, none⟩ (.int .i64 0) = V
        obtain ⟨⟨d0, d1, d2, d3⟩, hrV, hgV⟩ := HFW.out V hV
        clear hV
        refine bodyPost_ret (v := cdV ⟨9, a, q3, 0⟩) (by simp [results, Try.results58, go_sem, d0, d1, d2, d3]) rfl ⟨⟨9, a, q3, 0⟩, rfl, HS.out, hrV.mono (by omega), hgV⟩
    · by_cases e3 : op = 6 ∨ op = 7
      · clear e1 e2
        rcases e3 with rfl | rfl
        · obtain ⟨c0, c1, c2, c3⟩ := HX2.out.cells
          go_wp2_with fail
          clear c0 c1 c2 c3
          refine (pick_any _ _ _ _ (by omega) HR2.out).mono ?_
          rintro e w3 ⟨q3, rfl, a3, b3, r3, g3⟩
          have b3 := b3 (by omega)
          have HP3 := mkHid r3
          have HGP3 := mkHid (grown_trans HG2.out g3)
          have HXP3 := mkHid (HX2.out.grown g3 (fun e => by injection e with e; omega))
          have HZP3 := mkHid (HZ2.out.grown g3 (fun e => by injection e with e; omega))
          clear r3 g3
          obtain ⟨c0, c1, c2, c3⟩ := HXP3.out.cells
          obtain ⟨f0, f1, f2, f3⟩ := HXP3.out.frozen
          have HX3 := mkHid (HXP3.out.b q3)
          have HZ3 := mkHid (HZP3.out.grown (grown_setCell w3 g8 2 (.int .i64 q3)) (fun e => by injection e with e; omega))
          have HR3 := mkHid (HP3.out.grown (grown_setCell w3 g8 2 (.int .i64 q3)) (fun g e => by injection e with e; omega))
          have HG3 := mkHid (grown_own HGP3.out (grown_setCell w3 g8 2 (.int .i64 q3)) (by omega))
          go_wp2_with fail
          clear c0 c1 c2 c3 f0 f1 f2 f3
          refine (pick_any _ _ _ _ (by omega) HR3.out).mono ?_
          rintro e w4 ⟨q4, rfl, a4, b4, r4, g4⟩
          have b4 := b4 (by omega)
          have HP4 := mkHid r4
          have HGP4 := mkHid (grown_trans HG3.out g4)
          have HXP4 := mkHid (HX3.out.grown g4 (fun e => by injection e with e; omega))
          have HZP4 := mkHid (HZ3.out.grown g4 (fun e => by injection e with e; omega))
          clear r4 g4
          obtain ⟨c0, c1, c2, c3⟩ := HXP4.out.cells
          obtain ⟨f0, f1, f2, f3⟩ := HXP4.out.frozen
          have HX := mkHid (HXP4.out.c q4)
          have HZ := mkHid (HZP4.out.grown (grown_setCell w4 g8 3 (.int .i64 q4)) (fun e => by injection e with e; omega))
          have HR := mkHid (HP4.out.grown (grown_setCell w4 g8 3 (.int .i64 q4)) (fun g e => by injection e with e; omega))
          have HG := mkHid (grown_own HGP4.out (grown_setCell w4 g8 3 (.int .i64 q4)) (by omega))
          have HS := mkHid (show PlainOk ⟨6, a, q3, q4⟩ from plain3 (by omega) hab (by omega) (by omega))
          obtain ⟨⟨k0, k1, k2, k3⟩, ⟨z0, z1, z2, z3⟩, ⟨l0, l1, l2, l3⟩, _⟩ := fin_facts HZ.out HX.out
          have HFW := mkHid (fun V => @fin_world w (w4.setCell ⟨g8, 3, none⟩ (.int .i64 q4)) V w.heap.size br _ 6 a q3 q4 _ HZ.out HR.out HG.out (Nat.le_refl _) hlt0)
          go_wp2_with fail
          clear k0 k1 k2 k3 z0 z1 z2 z3 l0 l1 l2 l3 c0 c1 c2 c3 f0 f1 f2 f3
          generalize hV : ((((w4.setCell ⟨g8, 3, none⟩ (.int .i64 q4)).setCell ⟨w.heap.size, 0, none⟩ (.int .i64 6)).setCell ⟨w.heap.size, 1, none⟩ (.int .i64 a)).setCell ⟨w.heap.size, 2, none⟩ (.int .i64 q3)).setCell ⟨w.heap.size, 3, none⟩ (.int .i64 q4) = V
          obtain ⟨⟨d0, d1, d2, d3⟩, hrV, hgV⟩ := HFW.out V hV
          clear hV
          refine bodyPost_ret (v := cdV ⟨6, a, q3, q4⟩) (by simp [results, Try.results58, go_sem, d0, d1, d2, d3]) rfl ⟨⟨6, a, q3, q4⟩, rfl, HS.out, hrV.mono (by omega), hgV⟩
        · obtain ⟨c0, c1, c2, c3⟩ := HX2.out.cells
          go_wp2_with fail
          clear c0 c1 c2 c3
          refine (pick_any _ _ _ _ (by omega) HR2.out).mono ?_
          rintro e w3 ⟨q3, rfl, a3, b3, r3, g3⟩
          have b3 := b3 (by omega)
          have HP3 := mkHid r3
          have HGP3 := mkHid (grown_trans HG2.out g3)
          have HXP3 := mkHid (HX2.out.grown g3 (fun e => by injection e with e; omega))
          have HZP3 := mkHid (HZ2.out.grown g3 (fun e => by injection e with e; omega))
          clear r3 g3
          obtain ⟨c0, c1, c2, c3⟩ := HXP3.out.cells
          obtain ⟨f0, f1, f2, f3⟩ := HXP3.out.frozen
          have HX3 := mkHid (HXP3.out.b q3)
          have HZ3 := mkHid (HZP3.out.grown (grown_setCell w3 g8 2 (.int .i64 q3)) (fun e => by injection e with e; omega))
          have HR3 := mkHid (HP3.out.grown (grown_setCell w3 g8 2 (.int .i64 q3)) (fun g e => by injection e with e; omega))
          have HG3 := mkHid (grown_own HGP3.out (grown_setCell w3 g8 2 (.int .i64 q3)) (by omega))
          go_wp2_with fail
          clear c0 c1 c2 c3 f0 f1 f2 f3
          refine (pick_any _ _ _ _ (by omega) HR3.out).mono ?_
          rintro e w4 ⟨q4, rfl, a4, b4, r4, g4⟩
          have b4 := b4 (by omega)
          have HP4 := mkHid r4
          have HGP4 := mkHid (grown_trans HG3.out g4)
          have HXP4 := mkHid (HX3.out.grown g4 (fun e => by injection e with e; omega))
          have HZP4 := mkHid (HZ3.out.grown g4 (fun e => by injection e with e; omega))
          clear r4 g4
          obtain ⟨c0, c1, c2, c3⟩ := HXP4.out.cells
          obtain ⟨f0, f1, f2, f3⟩ := HXP4.out.frozen
          have HX := mkHid (HXP4.out.c q4)
          have HZ := mkHid (HZP4.out.grown (grown_setCell w4 g8 3 (.int .i64 q4)) (fun e => by injection e with e; omega))
          have HR := mkHid (HP4.out.grown (grown_setCell w4 g8 3 (.int .i64 q4)) (fun g e => by injection e with e; omega))
          have HG := mkHid (grown_own HGP4.out (grown_setCell w4 g8 3 (.int .i64 q4)) (by omega))
          have HS := mkHid (show PlainOk ⟨7, a, q3, q4⟩ from plain3 (by omega) hab (by omega) (by omega))
          obtain ⟨⟨k0, k1, k2, k3⟩, ⟨z0, z1, z2, z3⟩, ⟨l0, l1, l2, l3⟩, _⟩ := fin_facts HZ.out HX.out
          have HFW := mkHid (fun V => @fin_world w (w4.setCell ⟨g8, 3, none⟩ (.int .i64 q4)) V w.heap.size br _ 7 a q3 q4 _ HZ.out HR.out HG.out (Nat.le_refl _) hlt0)
          go_wp2_with fail
          clear k0 k1 k2 k3 z0 z1 z2 z3 l0 l1 l2 l3 c0 c1 c2 c3 f0 f1 f2 f3
          generalize hV : ((((w4.setCell ⟨g8, 3, none⟩ (.int .i64 q4)).setCell ⟨w.heap.size, 0, none⟩ (.int .i64 7)).setCell ⟨w.heap.size, 1, none⟩ (.int .i64 a)).setCell ⟨w.heap.size, 2, none⟩ (.int .i64 q3)).setCell ⟨w.heap.size, 3, none⟩ (.int .i64 q4) = V
          obtain ⟨⟨d0, d1, d2, d3⟩, hrV, hgV⟩ := HFW.out V hV
          clear hV
          refine bodyPost_ret (v := cdV ⟨7, a, q3, q4⟩) (by simp [results, Try.results58, go_sem, d0, d1, d2, d3]) rfl ⟨⟨7, a, q3, q4⟩, rfl, HS.out, hrV.mono (by omega), hgV⟩
      · obtain ⟨c0, c1, c2, c3⟩ := HX2.out.cells
        have n1 : (op == 1) = false := by rw [beq_eq_false_iff_ne]; omega
        have n3 : (op == 3) = false := by rw [beq_eq_false_iff_ne]; omega
        have n4 : (op == 4) = false := by rw [beq_eq_false_iff_ne]; omega
        have n5 : (op == 5) = false := by rw [beq_eq_false_iff_ne]; omega
        have n8 : (op == 8) = false := by rw [beq_eq_false_iff_ne]; omega
        have n9 : (op == 9) = false := by rw [beq_eq_false_iff_ne]; omega
        have n6 : (op == 6) = false := by rw [beq_eq_false_iff_ne]; omega
        have n7 : (op == 7) = false := by rw [beq_eq_false_iff_ne]; omega
        have HX := HX2
        have HZ := HZ2
        have HR := HR2
        have HG := HG2
        have HS := mkHid (show PlainOk ⟨op, a, 0, 0⟩ from by
          have : op = 2 := by omega
          subst this
          exact plain0 hab)
        clear e1 e2 e3
        obtain ⟨⟨k0, k1, k2, k3⟩, ⟨z0, z1, z2, z3⟩, ⟨l0, l1, l2, l3⟩, _⟩ := fin_facts HZ.out HX.out
        have HFW := mkHid (fun V => @fin_world w w2 V w.heap.size br _ op a 0 0 _ HZ.out HR.out HG.out (Nat.le_refl _) hlt0)
        go_wp2_with fail
        clear k0 k1 k2 k3 z0 z1 z2 z3 l0 l1 l2 l3 c0 c1 c2 c3
        generalize hV : (((w2.setCell ⟨w.heap.size, 0, none⟩ (.int .i64 op)).setCell ⟨w.heap.size, 1, none⟩ (.int .i64 a)).setCell ⟨w.heap.size, 2, none⟩ (.int .i64 0)).setCell ⟨w.heap.size, 3, none⟩ (.int .i64 0) = V
        obtain ⟨⟨d0, d1, d2, d3⟩, hrV, hgV⟩ := HFW.out V hV
        clear hV
        refine bodyPost_ret (v := cdV ⟨op, a, 0, 0⟩) (by simp [results, Try.results58, go_sem, d0, d1, d2, d3]) rfl ⟨⟨op, a, 0, 0⟩, rfl, HS.out, hrV.mono (by omega), hgV⟩
end Go.Proofs.Ytabpcbikbhbcaaa
