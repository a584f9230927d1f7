/-
  Contract of the draw of two accesses: DrawAccessesClash.
-/
import Derived.Test.YtmbcfbefhpgcoaaDReg
import Derived.Test.YtmbcfbefhpgcoaaLib2
import Derived.Test.YtmbcfbefhpgcoaaCAcc
namespace Go.Proofs.Ytmbcfbefhpgcoaa
open Go.RowKit
set_option maxHeartbeats 2000000
set_option linter.unusedVariables false

abbrev accArr (x : Acc) : Array Value := #[.int .i64 x.who, .int .i64 x.cell, .bool x.write, .int .i64 x.phase]
/-- an access lies in block g. -/
def Ba (w : World) (g : Nat) (x : Acc) : Prop := w.heap[g]? = some (.cells (accArr x) 25 (0, 0))
theorem Ba.new (w : World) (x : Acc) : Ba (w.alloc (.cells (accArr x) 25)) w.heap.size x := heap_alloc_new w _
theorem Ba.lt {w : World} {g : Nat} {x : Acc} (h : Ba w g x) : g < w.heap.size := (Array.getElem?_eq_some_iff.1 h).1
theorem Ba.cells {w : World} {g : Nat} {x : Acc} (h : Ba w g x) :
    w.cell? ⟨g, 0, none⟩ = some (.int .i64 x.who) ∧ w.cell? ⟨g, 1, none⟩ = some (.int .i64 x.cell) ∧ w.cell? ⟨g, 2, none⟩ = some (.bool x.write) ∧ w.cell? ⟨g, 3, none⟩ = some (.int .i64 x.phase) := by
  refine ⟨?_, ?_, ?_, ?_⟩ <;> (rw [cell_of_row w g _ _ _ _ h]; rfl)
theorem Ba.frozen {w : World} {g : Nat} {x : Acc} (h : Ba w g x) :
    w.frozen? ⟨g, 0, none⟩ = false ∧ w.frozen? ⟨g, 1, none⟩ = false ∧ w.frozen? ⟨g, 2, none⟩ = false ∧ w.frozen? ⟨g, 3, none⟩ = false :=
  ⟨frozen_of_row w g _ _ _ h, frozen_of_row w g _ _ _ h, frozen_of_row w g _ _ _ h, frozen_of_row w g _ _ _ h⟩
theorem Ba.grown {w w' : World} {g : Nat} {x : Acc} {row : Option Nat} (h : Ba w g x) (hg : w.grownBy w' row) (hne : some g ≠ row) : Ba w' g x := (hg.block g h.lt hne).trans h
theorem Ba.below {w w' : World} {g : Nat} {x : Acc} (h : Ba w g x) (hb : Below w.heap.size w w') : Ba w' g x := h.grown (grown_of_below hb none) (by simp)
abbrev putAcc (w : World) (g : Nat) (y : Acc) : World := (((w.setCell ⟨g, 0, none⟩ (.int .i64 y.who)).setCell ⟨g, 1, none⟩ (.int .i64 y.cell)).setCell ⟨g, 2, none⟩ (.bool y.write)).setCell ⟨g, 3, none⟩ (.int .i64 y.phase)
theorem Ba.all {w : World} {g : Nat} {x : Acc} (h : Ba w g x) (y : Acc) : Ba (putAcc w g y) g y := by
  have h1 : (w.setCell ⟨g, 0, none⟩ (.int .i64 y.who)).heap[g]? = some (.cells #[.int .i64 y.who, .int .i64 x.cell, .bool x.write, .int .i64 x.phase] 25 (0, 0)) := heap_setCell_same w g 0 _ _ _ h
  have h2 := heap_setCell_same _ g 1 _ _ (.int .i64 y.cell) h1
  have h3 := heap_setCell_same _ g 2 _ _ (.bool y.write) h2
  exact heap_setCell_same _ g 3 _ _ (.int .i64 y.phase) h3
theorem grown_put (w : World) (g : Nat) (y : Acc) : w.grownBy (putAcc w g y) (some g) := grown_setCell' (grown_setCell' (grown_setCell' (grown_setCell w g 0 _) 1 _) 2 _) 3 _
theorem grown_mine {a b c : World} {br g : Nat} (h : a.grownBy b (some br)) (k : b.grownBy c (some g)) (hg : a.heap.size ≤ g) : a.grownBy c (some br) :=
  ⟨k.os.trans h.os, k.tape.trans h.tape, k.output.trans h.output, Nat.le_trans h.size k.size, fun i hi hn => (k.block i (Nat.lt_of_lt_of_le hi h.size) (fun e => by injection e with e; omega)).trans (h.block i hi hn)⟩
theorem Rd.put {w : World} {br N g : Nat} {z : Acc} (h : Rd w br N) (hz : Ba w g z) (hne : g ≠ br) (y : Acc) : Rd (putAcc w g y) br N := by
  obtain ⟨A, c, zs, p, hp, hl, hb, hs, hne', hz'⟩ := h
  refine ⟨A, c, zs, p, hp, hl, ((grown_put w g y).block br (Array.getElem?_eq_some_iff.1 hb).1 (fun e => by injection e with e; exact hne e.symm)).trans hb, ?_, hne', hz'⟩
  by_cases h0 : zs = []
  · subst h0; exact .inl rfl
  · refine hs.grown (grown_put w g y) (fun a ha e => ?_)
    have hp0 : 0 < zs.length := List.length_pos_iff.2 h0
    obtain ⟨b, off, hA, hc⟩ := hs.at_ (k := 0) (by simpa using hp0)
    rw [ha] at hA
    injection hA with hA
    subst hA
    injection e with e
    have e' : b = g := e
    subst e'
    have h1 := hc 0 (.int .u8 zs[0]) (by simp [hp0])
    rw [Nat.add_zero, cell_of_row w b off _ _ _ hz] at h1
    rcases off with _ | _ | _ | _ | off <;> simp at h1
def kSet (p : World → Prop) : Kind := ⟨Unit, fun _ => undef, fun _ w => p w⟩
/-- the region's worlds: box b5 holds x; boxes b2 and b3 hold something. -/
def clashI (br N b2 b3 b5 : Nat) (x : Acc) (base : World) (m : Nat) (w : World) : Prop :=
  (Rd w br (N + m) ∧ Below base.heap.size base w) ∧ Ba w b5 x ∧ (∃ z, Ba w b2 z) ∧ (∃ z, Ba w b3 z)
def regClash (br N b2 b3 b5 : Nat) (x : Acc) (base : World) : Reg where
  nd := [2, 4, 6, 9, 11, 12]
  K := fun
    | 2 => kInt 0 1
    | 4 => kInt 0 1
    | 6 => kInt 0 1
    | 9 => kInt 0 1
    | 11 => kSet (fun w => Ba w b2 x)
    | 12 => kSet (fun w => ∃ y, Ba w b3 y)
    | _ => kNone
  ne := fun i => by
    split <;> first | exact kInt_ne _ _ (by omega) | exact ⟨()⟩
  I := clashI br N b2 b3 b5 x base
  mono := fun m w h => ⟨⟨h.1.1.mono (by omega), h.1.2⟩, h.2⟩
  hy := fun _ => []
  kills := fun _ => []
  live := [11]
theorem regClash_keeps (br N b2 b3 b5 : Nat) (x : Acc) (base : World) {w w' : World} {g : Nat} (hg : w.grownBy w' (some g)) (h2 : b2 ≠ g) (h3 : b3 ≠ g) (i : Nat) : (regClash br N b2 b3 b5 x base).keeps i w w' := by
  intro k hk _ _
  simp only [regClash, List.mem_cons, List.not_mem_nil, or_false] at hk
  rcases hk with rfl | rfl | rfl | rfl | rfl | rfl
  all_goals first
    | exact fun y h => h
    | exact fun y h => Ba.grown h hg (fun e => by injection e with e; exact h2 e)
    | exact fun y ⟨z, h⟩ => ⟨z, Ba.grown h hg (fun e => by injection e with e; exact h3 e)⟩
/-- a store into box b3 keeps what is said of b2, and b3 holds something. -/
theorem regClash_keeps3 (br N b2 b3 b5 : Nat) (x y : Acc) (base : World) {w : World} (hz : ∃ z, Ba w b3 z) (h2 : b2 ≠ b3) (i : Nat) : (regClash br N b2 b3 b5 x base).keeps i w (putAcc w b3 y) := by
  intro k hk _ _
  simp only [regClash, List.mem_cons, List.not_mem_nil, or_false] at hk
  obtain ⟨z, hz⟩ := hz
  rcases hk with rfl | rfl | rfl | rfl | rfl | rfl
  all_goals first
    | exact fun y h => h
    | exact fun y h => Ba.grown h (grown_put w b3 _) (fun e => by injection e with e; exact h2 e)
    | exact fun u h => ⟨y, hz.all y⟩
theorem regClash_keeps2 (br N b2 b3 b5 : Nat) (x : Acc) (base : World) {w : World} (hz : ∃ z, Ba w b2 z) (h2 : b3 ≠ b2) (i : Nat) : (regClash br N b2 b3 b5 x base).keeps i w (putAcc w b2 x) := by
  intro k hk _ _
  simp only [regClash, List.mem_cons, List.not_mem_nil, or_false] at hk
  obtain ⟨z, hz⟩ := hz
  rcases hk with rfl | rfl | rfl | rfl | rfl | rfl
  all_goals first
    | exact fun y h => h
    | exact fun u h => hz.all x
    | exact fun y ⟨z, h⟩ => ⟨z, Ba.grown h (grown_put w b2 _) (fun e => by injection e with e; exact h2 e)⟩
theorem drawAccessesClash_any (A : Option Addr) (c : Nat) (zs : List Int) (w : World) (hl : zs.length ≤ 9223372036854775807) (hcap : zs.length ≤ c) (hs : Sl w A (u8s zs)) (hz : ∀ z ∈ zs, 0 ≤ z ∧ z ≤ 255) :
    Calls Try.prog 16 #[.slice A zs.length c] w fun e w' => ∃ x y : Acc, e = .returned (.tuple #[accV x, accV y]) ∧ Below w.heap.size w w' := by
  have hw2 : Below w.heap.size w ((w.alloc (.cells (accArr ⟨0, 0, false, 0⟩) 25)).alloc (.cells (accArr ⟨0, 0, false, 0⟩) 25)) := ((Below.refl _ _).alloc (Nat.le_refl _) _).alloc (by simp) _
  have hs1 := hs.below hw2
  have h2 : Ba ((w.alloc (.cells (accArr ⟨0, 0, false, 0⟩) 25)).alloc (.cells (accArr ⟨0, 0, false, 0⟩) 25)) w.heap.size ⟨0, 0, false, 0⟩ := (Ba.new w ⟨0, 0, false, 0⟩).below ((Below.refl _ _).alloc (Nat.le_refl _) _)
  have h3 : Ba ((w.alloc (.cells (accArr ⟨0, 0, false, 0⟩) 25)).alloc (.cells (accArr ⟨0, 0, false, 0⟩) 25)) (w.heap.size + 1) ⟨0, 0, false, 0⟩ := by
    have := Ba.new (w.alloc (.cells (accArr ⟨0, 0, false, 0⟩) 25)) ⟨0, 0, false, 0⟩
    simpa using this
  have hsz : ((w.alloc (.cells (accArr ⟨0, 0, false, 0⟩) 25)).alloc (.cells (accArr ⟨0, 0, false, 0⟩) 25)).heap.size = w.heap.size + 2 := by simp
  go_enter Try.func16, Try.ntmps16
  go_wp2_with fail
  generalize hW : (w.alloc (.cells #[.int .i64 0, .int .i64 0, .bool false, .int .i64 0] 25)).alloc (.cells #[.int .i64 0, .int .i64 0, .bool false, .int .i64 0] 25) = w1 at *
  have HB1 := mkHid hw2
  have H2 := mkHid h2
  have H3 := mkHid h3
  clear hW hw2 h2 h3 hs
  refine (l20Open_any _ _ _ _ hl hcap hs1 hz).mono ?_
  rintro e w2 ⟨br, rfl, hbr, r2, b2⟩
  have HB2 := mkHid (below_then HB1.out b2)
  have H22 := mkHid (H2.out.below b2)
  have H32 := mkHid (H3.out.below b2)
  have HR2 := mkHid r2
  clear hs1 hz r2 b2 H2 H3 HB1
  go_wp2_with fail
  refine (pick_any _ _ _ _ (by omega) HR2.out).mono ?_
  rintro e w3 ⟨q0, rfl, a0, b0, r3, g3⟩
  have HR3 := mkHid r3
  have HB3 := mkHid (HB2.out.grown g3 HB2.out.size (fun g e => by injection e with e; omega))
  have H23 := mkHid (H22.out.grown g3 (fun e => by injection e with e; omega))
  have H33 := mkHid (H32.out.grown g3 (fun e => by injection e with e; omega))
  clear r3 g3 b0 HR2 HB2 H22 H32
  go_wp2_with fail
  refine (pick_any _ _ _ _ (by omega) HR3.out).mono ?_
  rintro e w4 ⟨q1, rfl, a1, b1, r4, g4⟩
  have HR4 := mkHid r4
  have HB4 := mkHid (HB3.out.grown g4 HB3.out.size (fun g e => by injection e with e; omega))
  have H24 := mkHid (H23.out.grown g4 (fun e => by injection e with e; omega))
  have H34 := mkHid (H33.out.grown g4 (fun e => by injection e with e; omega))
  clear r4 g4 b1 HR3 HB3 H23 H33
  go_wp2_with fail
  refine (pick_any _ _ _ _ (by omega) HR4.out).mono ?_
  rintro e w5 ⟨q2, rfl, a2, b2, r5, g5⟩
  have HR5 := mkHid r5
  have HB5 := mkHid (HB4.out.grown g5 HB4.out.size (fun g e => by injection e with e; omega))
  have H25 := mkHid (H24.out.grown g5 (fun e => by injection e with e; omega))
  have H35 := mkHid (H34.out.grown g5 (fun e => by injection e with e; omega))
  clear r5 g5 b2 HR4 HB4 H24 H34
  go_wp2_with fail
  refine (pick_any _ _ _ _ (by omega) HR5.out).mono ?_
  rintro e w6 ⟨q3, rfl, a3, b3, r6, g6⟩
  have HR6 := mkHid r6
  have HB6 := mkHid (HB5.out.grown g6 HB5.out.size (fun g e => by injection e with e; omega))
  have H26 := mkHid (H25.out.grown g6 (fun e => by injection e with e; omega))
  have H36 := mkHid (H35.out.grown g6 (fun e => by injection e with e; omega))
  clear r6 g6 b3 HR5 HB5 H25 H35
  go_wp2_with fail
  generalize hwr : (q2 == 0) = wr
  have h5 : Ba (w6.alloc (.cells #[.int .i64 q0, .int .i64 q1, .bool wr, .int .i64 q3] 25)) w6.heap.size ⟨q0, q1, wr, q3⟩ := Ba.new w6 ⟨q0, q1, wr, q3⟩
  have h26 := H26.out.below ((Below.refl _ _).alloc (Nat.le_refl _) (.cells #[.int .i64 q0, .int .i64 q1, .bool wr, .int .i64 q3] 25))
  have h36 := H36.out.below ((Below.refl _ _).alloc (Nat.le_refl _) (.cells #[.int .i64 q0, .int .i64 q1, .bool wr, .int .i64 q3] 25))
  have hr6 := HR6.out.below ((Below.refl _ _).alloc (Nat.le_refl _) (.cells #[.int .i64 q0, .int .i64 q1, .bool wr, .int .i64 q3] 25))
  have hb6 := HB6.out.alloc HB6.out.size (.cells #[.int .i64 q0, .int .i64 q1, .bool wr, .int .i64 q3] 25)
  have hl2 := H26.out.lt
  have hl3 := H36.out.lt
  have hlb := HR6.out.lt
  have hl7 : (w6.alloc (.cells #[.int .i64 q0, .int .i64 q1, .bool wr, .int .i64 q3] 25)).heap.size = w6.heap.size + 1 := by simp
  clear hwr HR6 HB6 H26 H36
  generalize hW : w6.alloc (.cells #[.int .i64 q0, .int .i64 q1, .bool wr, .int .i64 q3] 25) = w7 at *
  generalize hG : w6.heap.size = b5 at *
  clear hW hG
  obtain ⟨x, hx⟩ : ∃ x : Acc, x = ⟨q0, q1, wr, q3⟩ := ⟨_, rfl⟩
  rw [← hx] at h5
  have hkeep := @regClash_keeps br 4 w.heap.size (w.heap.size + 1) b5 x w
  have HB7 := mkHid hb6
  have hI0 : clashI br 4 w.heap.size (w.heap.size + 1) b5 x w 0 { w7 with drawn := w7.drawn + 1 } := ⟨⟨hr6, below_drewN hb6 1⟩, h5, ⟨_, h26⟩, ⟨_, h36⟩⟩
  have HX0 := mkHid hx
  clear hb6 h26 h36 hr6 h5 hx
  refine wp_region_N (regClash br 4 w.heap.size (w.heap.size + 1) b5 x w) (by kernel_rfl) (by kernel_rfl) (by kernel_rfl) hI0 (fun xs => ?_)
  have hc : ∀ u : (regClash br 4 w.heap.size (w.heap.size + 1) b5 x w).W, (u.1.cell? ⟨b5, 0, none⟩ = some (.int .i64 x.who) ∧ u.1.cell? ⟨b5, 1, none⟩ = some (.int .i64 x.cell) ∧ u.1.cell? ⟨b5, 2, none⟩ = some (.bool x.write) ∧ u.1.cell? ⟨b5, 3, none⟩ = some (.int .i64 x.phase)) := fun u => by
    obtain ⟨m, hm⟩ := u.2
    exact hm.2.1.cells
  have hc0 := fun u => (hc u).1
  have hc1 := fun u => (hc u).2.1
  have hc2 := fun u => (hc u).2.2.1
  have hc3 := fun u => (hc u).2.2.2
  clear hc
  refine wpN_det rfl rfl rfl (fun K hK => ?_); go_big_quiet_op; first | (refine hK _ ?_; clear hK K) | (refine ⟨_, fun _ => rfl, hK _ ?_⟩; clear hK K)
  refine wpN_det rfl rfl rfl (fun K hK => ?_); go_big_quiet_op; first | (refine hK _ ?_; clear hK K) | (refine ⟨_, fun _ => rfl, hK _ ?_⟩; clear hK K)
  refine wpN_nd rfl rfl ?_ (fun x' hx2 => ?_)
  · intro m w' hm hI hh
    simp [yields, go_sem]
    refine (pick_any _ _ _ _ (by omega) hI.1.1).mono ?_
    rintro e w'' ⟨r, rfl, h0, h1, hr, hg⟩
    exact ⟨_, rfl, ⟨r, h0, by omega⟩, rfl, trivial, ⟨⟨hr, hI.1.2.grown hg hI.1.2.size (fun g e => by injection e with e; omega)⟩, hI.2.1.grown hg (fun e => by injection e with e; omega), (by obtain ⟨z, hz⟩ := hI.2.2.1; exact ⟨z, hz.grown hg (fun e => by injection e with e; omega)⟩), (by obtain ⟨z, hz⟩ := hI.2.2.2; exact ⟨z, hz.grown hg (fun e => by injection e with e; omega)⟩)⟩, hkeep hg (by omega) (by omega) _⟩
  obtain ⟨r2, p2⟩ := x'
  show wpN _ _ _ _ _ _ _ (Act.put _ _ (.int .i64 r2))
  simp only [Act.put, List.setIfInBounds_toArray, List.set_cons_succ, List.set_cons_zero]
  refine wpN_det rfl rfl rfl (fun K hK => ?_); go_big_quiet_op; first | (refine hK _ ?_; clear hK K) | (refine ⟨_, fun _ => rfl, hK _ ?_⟩; clear hK K)
  refine wpN_nd rfl rfl ?_ (fun x' hx4 => ?_)
  · intro m w' hm hI hh
    simp [yields, go_sem]
    refine (pick_any _ _ _ _ (by omega) hI.1.1).mono ?_
    rintro e w'' ⟨r, rfl, h0, h1, hr, hg⟩
    exact ⟨_, rfl, ⟨r, h0, by omega⟩, rfl, trivial, ⟨⟨hr, hI.1.2.grown hg hI.1.2.size (fun g e => by injection e with e; omega)⟩, hI.2.1.grown hg (fun e => by injection e with e; omega), (by obtain ⟨z, hz⟩ := hI.2.2.1; exact ⟨z, hz.grown hg (fun e => by injection e with e; omega)⟩), (by obtain ⟨z, hz⟩ := hI.2.2.2; exact ⟨z, hz.grown hg (fun e => by injection e with e; omega)⟩)⟩, hkeep hg (by omega) (by omega) _⟩
  obtain ⟨r4, p4⟩ := x'
  show wpN _ _ _ _ _ _ _ (Act.put _ _ (.int .i64 r4))
  simp only [Act.put, List.setIfInBounds_toArray, List.set_cons_succ, List.set_cons_zero]
  refine wpN_det rfl rfl rfl (fun K hK => ?_); go_big_quiet_op; first | (refine hK _ ?_; clear hK K) | (refine ⟨_, fun _ => rfl, hK _ ?_⟩; clear hK K)
  refine wpN_nd rfl rfl ?_ (fun x' hx6 => ?_)
  · intro m w' hm hI hh
    simp [yields, go_sem]
    refine (pick_any _ _ _ _ (by omega) hI.1.1).mono ?_
    rintro e w'' ⟨r, rfl, h0, h1, hr, hg⟩
    exact ⟨_, rfl, ⟨r, h0, by omega⟩, rfl, trivial, ⟨⟨hr, hI.1.2.grown hg hI.1.2.size (fun g e => by injection e with e; omega)⟩, hI.2.1.grown hg (fun e => by injection e with e; omega), (by obtain ⟨z, hz⟩ := hI.2.2.1; exact ⟨z, hz.grown hg (fun e => by injection e with e; omega)⟩), (by obtain ⟨z, hz⟩ := hI.2.2.2; exact ⟨z, hz.grown hg (fun e => by injection e with e; omega)⟩)⟩, hkeep hg (by omega) (by omega) _⟩
  obtain ⟨r6, p6⟩ := x'
  show wpN _ _ _ _ _ _ _ (Act.put _ _ (.int .i64 r6))
  simp only [Act.put, List.setIfInBounds_toArray, List.set_cons_succ, List.set_cons_zero]
  refine wpN_det rfl rfl rfl (fun K hK => ?_); go_big_quiet_op; first | (refine hK _ ?_; clear hK K) | (refine ⟨_, fun _ => rfl, hK _ ?_⟩; clear hK K)
  refine wpN_det rfl rfl rfl (fun K hK => ?_); go_big_quiet_op; first | (refine hK _ ?_; clear hK K) | (refine ⟨_, fun _ => rfl, hK _ ?_⟩; clear hK K)
  refine wpN_nd rfl rfl ?_ (fun x' hx9 => ?_)
  · intro m w' hm hI hh
    simp [yields, go_sem]
    refine (pick_any _ _ _ _ (by omega) hI.1.1).mono ?_
    rintro e w'' ⟨r, rfl, h0, h1, hr, hg⟩
    exact ⟨_, rfl, ⟨r, h0, by omega⟩, rfl, trivial, ⟨⟨hr, hI.1.2.grown hg hI.1.2.size (fun g e => by injection e with e; omega)⟩, hI.2.1.grown hg (fun e => by injection e with e; omega), (by obtain ⟨z, hz⟩ := hI.2.2.1; exact ⟨z, hz.grown hg (fun e => by injection e with e; omega)⟩), (by obtain ⟨z, hz⟩ := hI.2.2.2; exact ⟨z, hz.grown hg (fun e => by injection e with e; omega)⟩)⟩, hkeep hg (by omega) (by omega) _⟩
  obtain ⟨r9, p9⟩ := x'
  show wpN _ _ _ _ _ _ _ (Act.put _ _ (.int .i64 r9))
  simp only [Act.put, List.setIfInBounds_toArray, List.set_cons_succ, List.set_cons_zero]
  refine wpN_det rfl rfl rfl (fun K hK => ?_); go_big_quiet_op; first | (refine hK _ ?_; clear hK K) | (refine ⟨_, fun _ => rfl, hK _ ?_⟩; clear hK K)
  refine wpN_nd rfl rfl ?_ (fun x' hx11 => ?_)
  · intro m w' hm hI hh
    obtain ⟨z, hz⟩ := hI.2.2.1
    obtain ⟨c0, c1, c2, c3⟩ := hz.cells
    obtain ⟨f0, f1, f2, f3⟩ := hz.frozen
    simp [yields, go_sem, c0, c1, c2, c3, f0, f1, f2, f3]
    exact ⟨(), rfl, hz.all x, ⟨⟨(hI.1.1.put hz (by omega) x).mono (by omega), hI.1.2.grown (grown_put w' w.heap.size x) hI.1.2.size (fun g e => by injection e with e; omega)⟩, hI.2.1.grown (grown_put w' w.heap.size x) (fun e => by injection e with e; omega), ⟨x, hz.all x⟩, (by obtain ⟨z, hz⟩ := hI.2.2.2; exact ⟨z, hz.grown (grown_put w' w.heap.size x) (fun e => by injection e with e; omega)⟩)⟩, regClash_keeps2 br 4 w.heap.size (w.heap.size + 1) b5 x w ⟨z, hz⟩ (by omega) _⟩
  show wpN _ _ _ _ _ _ _ (Act.put _ _ _)
  simp only [Act.put]
  refine wpN_nd rfl rfl ?_ (fun x' hx12 => ?_)
  · intro m w' hm hI hh
    obtain ⟨z, hz⟩ := hI.2.2.2
    obtain ⟨c0, c1, c2, c3⟩ := hz.cells
    obtain ⟨f0, f1, f2, f3⟩ := hz.frozen
    obtain ⟨y, hy⟩ : ∃ y : Acc, y = ⟨r2, r4, r6 == 0, r9⟩ := ⟨_, rfl⟩
    have hput : putAcc w' (w.heap.size + 1) ⟨r2, r4, r6 == 0, r9⟩ = putAcc w' (w.heap.size + 1) y := by rw [hy]
    simp [yields, go_sem, c0, c1, c2, c3, f0, f1, f2, f3]
    refine ⟨(), rfl, ⟨_, hz.all ⟨r2, r4, r6 == 0, r9⟩⟩, ⟨⟨(hI.1.1.put hz (by omega) ⟨r2, r4, r6 == 0, r9⟩).mono (by omega), hI.1.2.grown (grown_put w' (w.heap.size + 1) ⟨r2, r4, r6 == 0, r9⟩) hI.1.2.size (fun g e => by injection e with e; omega)⟩, hI.2.1.grown (grown_put w' (w.heap.size + 1) ⟨r2, r4, r6 == 0, r9⟩) (fun e => by injection e with e; omega), (by obtain ⟨z, hz⟩ := hI.2.2.1; exact ⟨z, hz.grown (grown_put w' (w.heap.size + 1) ⟨r2, r4, r6 == 0, r9⟩) (fun e => by injection e with e; omega)⟩), ⟨_, hz.all ⟨r2, r4, r6 == 0, r9⟩⟩⟩, regClash_keeps3 br 4 w.heap.size (w.heap.size + 1) b5 x ⟨r2, r4, r6 == 0, r9⟩ w ⟨z, hz⟩ (by omega) _⟩
  show wpN _ _ _ _ _ _ _ (Act.put _ _ _)
  simp only [Act.put]
  refine wpN_end (fun w8 hI hV => ?_)
  have hl11 : Ba w8 w.heap.size x := hV 11 (List.mem_singleton_self 11)
  obtain ⟨y, hy⟩ := hI.2.2.2
  obtain ⟨d0, d1, d2, d3⟩ := hl11.cells
  obtain ⟨e0, e1, e2, e3⟩ := hy.cells
  have HB8 := mkHid hI.1.2
  clear hI hV hl11 hy hc0 hc1 hc2 hc3 hkeep HB7
  go_wp2_with fail
  refine bodyPost_ret (v := .tuple #[accV x, accV y]) (by simp [results, Try.results16, go_sem, d0, d1, d2, d3, e0, e1, e2, e3]) rfl ⟨x, y, rfl, HB8.out⟩
end Go.Proofs.Ytmbcfbefhpgcoaa
