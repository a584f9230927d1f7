/-
  Parts of a proof: DCode.
-/
import Derived.Test.YtjmiilneennjaaaPart21
import Derived.Test.YtjmiilneennjaaaPart03
import Derived.Test.YtjmiilneennjaaaPart02
namespace Go.Proofs.Ytjmiilneennjaaa
open Go.RowKit
set_option maxHeartbeats 2000000
set_option maxRecDepth 100000
set_option linter.unusedVariables false

def smallI (z : Int) : Prop := -1 ≤ z ∧ z ≤ 256
def SmallCd (x : Cd) : Prop := smallI x.op ∧ smallI x.a ∧ smallI x.b ∧ smallI x.c
abbrev cdArr (x : Cd) : Array Value := #[.int .i64 x.op, .int .i64 x.a, .int .i64 x.b, .int .i64 x.c]
/-- an instruction lies in block g. -/
def Bx (w : World) (g : Nat) (x : Cd) : Prop := w.heap[g]? = some (.cells (cdArr x) 69 (0, 0))
theorem Bx.new (w : World) (x : Cd) : Bx (w.alloc (.cells (cdArr x) 69)) w.heap.size x := heap_alloc_new w _
theorem Bx.lt {w : World} {g : Nat} {x : Cd} (h : Bx w g x) : g < w.heap.size := (Array.getElem?_eq_some_iff.1 h).1
theorem Bx.cells {w : World} {g : Nat} {x : Cd} (h : Bx w g x) :
    w.cell? ⟨g, 0, none⟩ = some (.int .i64 x.op) ∧ w.cell? ⟨g, 1, none⟩ = some (.int .i64 x.a) ∧ w.cell? ⟨g, 2, none⟩ = some (.int .i64 x.b) ∧ w.cell? ⟨g, 3, none⟩ = some (.int .i64 x.c) := by
  refine ⟨?_, ?_, ?_, ?_⟩ <;> (rw [cell_of_row w g _ _ _ _ h]; rfl)
theorem Bx.frozen {w : World} {g : Nat} {x : Cd} (h : Bx w g x) :
    w.frozen? ⟨g, 0, none⟩ = false ∧ w.frozen? ⟨g, 1, none⟩ = false ∧ w.frozen? ⟨g, 2, none⟩ = false ∧ w.frozen? ⟨g, 3, none⟩ = false :=
  ⟨frozen_of_row w g _ _ _ h, frozen_of_row w g _ _ _ h, frozen_of_row w g _ _ _ h, frozen_of_row w g _ _ _ h⟩
theorem Bx.grown {w w' : World} {g : Nat} {x : Cd} {row : Option Nat} (h : Bx w g x) (hg : w.grownBy w' row) (hne : some g ≠ row) : Bx w' g x := (hg.block g h.lt hne).trans h
theorem Bx.below {w w' : World} {g : Nat} {x : Cd} (h : Bx w g x) (hb : Below w.heap.size w w') : Bx w' g x := h.grown (grown_of_below hb none) (by simp)
theorem Bx.op {w : World} {g : Nat} {x : Cd} (h : Bx w g x) (v : Int) : Bx (w.setCell ⟨g, 0, none⟩ (.int .i64 v)) g ⟨v, x.a, x.b, x.c⟩ := heap_setCell_same w g 0 _ _ _ h
theorem Bx.a {w : World} {g : Nat} {x : Cd} (h : Bx w g x) (v : Int) : Bx (w.setCell ⟨g, 1, none⟩ (.int .i64 v)) g ⟨x.op, v, x.b, x.c⟩ := heap_setCell_same w g 1 _ _ _ h
theorem Bx.b {w : World} {g : Nat} {x : Cd} (h : Bx w g x) (v : Int) : Bx (w.setCell ⟨g, 2, none⟩ (.int .i64 v)) g ⟨x.op, x.a, v, x.c⟩ := heap_setCell_same w g 2 _ _ _ h
theorem Bx.c {w : World} {g : Nat} {x : Cd} (h : Bx w g x) (v : Int) : Bx (w.setCell ⟨g, 3, none⟩ (.int .i64 v)) g ⟨x.op, x.a, x.b, v⟩ := heap_setCell_same w g 3 _ _ _ h
abbrev setAll (w : World) (g : Nat) (y : Cd) : World := (((w.setCell ⟨g, 0, none⟩ (.int .i64 y.op)).setCell ⟨g, 1, none⟩ (.int .i64 y.a)).setCell ⟨g, 2, none⟩ (.int .i64 y.b)).setCell ⟨g, 3, none⟩ (.int .i64 y.c)
theorem Bx.all {w : World} {g : Nat} {x : Cd} (h : Bx w g x) (y : Cd) : Bx (setAll w g y) g y := (((h.op y.op).a y.a).b y.b).c y.c
theorem grown_all (w : World) (g : Nat) (y : Cd) : w.grownBy (setAll w g y) (some g) := grown_setCell' (grown_setCell' (grown_setCell' (grown_setCell w g 0 _) 1 _) 2 _) 3 _
/-- what has turned in blocks of one's own. -/
theorem grown_own {a b c : World} {br g : Nat} (h : a.grownBy b (some br)) (k : b.grownBy c (some g)) (hg : a.heap.size ≤ g) : a.grownBy c (some br) :=
  ⟨k.os.trans h.os, k.tape.trans h.tape, k.output.trans h.output, Nat.le_trans h.size k.size, fun i hi hn => (k.block i (Nat.lt_of_lt_of_le hi h.size) (fun e => by injection e with e; omega)).trans (h.block i hi hn)⟩
/-- an instruction is drawn. -/
def DrawnCd (br N : Nat) (w : World) (e : Ending) (w' : World) : Prop :=
  ∃ x : Cd, e = .returned (cdV x) ∧ SmallCd x ∧ Rd w' br N ∧ w.grownBy w' (some br)
def kBox (base : Nat) : Kind := ⟨Nat, fun g => .pointer (some ⟨g, 0, none⟩), fun g w => base ≤ g ∧ ∃ x, SmallCd x ∧ Bx w g x⟩
theorem kBox_ne (base : Nat) : Nonempty (kBox base).X := ⟨(0 : Nat)⟩
theorem zero_small : SmallCd ⟨0, 0, 0, 0⟩ := by unfold SmallCd smallI; simp
/-- what is asked where box g is copied into box b and that is handed back. -/
theorem fin_facts {W : World} {b g : Nat} {x z : Cd} (hb : Bx W b z) (hg : Bx W g x) :
    (W.cell? ⟨g, 0, none⟩ = some (.int .i64 x.op) ∧ W.cell? ⟨g, 1, none⟩ = some (.int .i64 x.a) ∧ W.cell? ⟨g, 2, none⟩ = some (.int .i64 x.b) ∧ W.cell? ⟨g, 3, none⟩ = some (.int .i64 x.c)) ∧
    (W.cell? ⟨b, 0, none⟩ = some (.int .i64 z.op) ∧ W.cell? ⟨b, 1, none⟩ = some (.int .i64 z.a) ∧ W.cell? ⟨b, 2, none⟩ = some (.int .i64 z.b) ∧ W.cell? ⟨b, 3, none⟩ = some (.int .i64 z.c)) ∧
    (W.frozen? ⟨b, 0, none⟩ = false ∧ W.frozen? ⟨b, 1, none⟩ = false ∧ W.frozen? ⟨b, 2, none⟩ = false ∧ W.frozen? ⟨b, 3, none⟩ = false) ∧
    ((setAll W b x).cell? ⟨b, 0, none⟩ = some (.int .i64 x.op) ∧ (setAll W b x).cell? ⟨b, 1, none⟩ = some (.int .i64 x.a) ∧ (setAll W b x).cell? ⟨b, 2, none⟩ = some (.int .i64 x.b) ∧ (setAll W b x).cell? ⟨b, 3, none⟩ = some (.int .i64 x.c)) :=
  ⟨hg.cells, hb.cells, hb.frozen, (hb.all x).cells⟩
/-- the world in which box b has become a copy. -/
theorem fin_world {w0 W V : World} {b br N : Nat} {o a b' c : Int} {z : Cd} (hb : Bx W b z) (hr : Rd W br N) (hg : w0.grownBy W (some br)) (h1 : w0.heap.size ≤ b) (h2 : br < b)
    (hV : (((W.setCell ⟨b, 0, none⟩ (.int .i64 o)).setCell ⟨b, 1, none⟩ (.int .i64 a)).setCell ⟨b, 2, none⟩ (.int .i64 b')).setCell ⟨b, 3, none⟩ (.int .i64 c) = V) :
    (V.cell? ⟨b, 0, none⟩ = some (.int .i64 o) ∧ V.cell? ⟨b, 1, none⟩ = some (.int .i64 a) ∧ V.cell? ⟨b, 2, none⟩ = some (.int .i64 b') ∧ V.cell? ⟨b, 3, none⟩ = some (.int .i64 c)) ∧ Rd V br N ∧ w0.grownBy V (some br) := by
  subst hV
  exact ⟨(hb.all ⟨o, a, b', c⟩).cells, hr.grown (grown_all W b ⟨o, a, b', c⟩) (fun g e => by injection e with e; omega), grown_own hg (grown_all W b ⟨o, a, b', c⟩) h1⟩
def regPlain (br N : Nat) (w0 : World) : Reg where
  nd := [0, 2, 4, 6, 8, 9]
  K := fun
    | 0 => kLit w0.heap.size 12 0 9
    | 2 => kInt 0 11
    | 4 => kInt 0 9
    | 6 => kInt 0 3
    | 8 => kBox w0.heap.size
    | _ => kNone
  ne := fun i => by
    split <;> first | exact kInt_ne _ _ (by omega) | exact kLit_ne _ _ _ _ | exact kBox_ne _ | exact ⟨()⟩
  I := drawI br N w0
  mono := drawI_mono br N w0
  hy := fun
    | 4 => [0]
    | 9 => [8]
    | _ => []
  kills := fun _ => []
  live := [8]

theorem regPlain_keeps (br N : Nat) (w0 : World) (hlt : br < w0.heap.size) {w w' : World} (hg : w.grownBy w' (some br)) (i : Nat) : (regPlain br N w0).keeps i w w' := by
  intro k hk _ _
  simp only [regPlain, List.mem_cons, List.not_mem_nil, or_false] at hk
  rcases hk with rfl | rfl | rfl | rfl | rfl | rfl
  all_goals first | exact fun y h => h | exact fun y h => LitAt.grown h hlt hg | exact fun y ⟨h1, x, h2, h3⟩ => ⟨h1, x, h2, h3.grown hg (fun e => absurd hlt (Nat.not_lt.2 ((Option.some.inj e) ▸ h1)))⟩
/-- a store into a box keeps what the others say, that it is no literal's block. -/
theorem regPlain_store (br N : Nat) (w0 : World) {w : World} {g : Nat} {x : Cd} (hx : Bx w g x) (y : Cd) (hy : SmallCd y) (i : Nat) : (regPlain br N w0).keeps i w (setAll w g y) := by
  intro k hk _ _
  simp only [regPlain, List.mem_cons, List.not_mem_nil, or_false] at hk
  rcases hk with rfl | rfl | rfl | rfl | rfl | rfl
  · rintro z ⟨hb, zs, h1, h2, h3⟩
    refine ⟨hb, zs, h1, h2, fun j u hu => ?_⟩
    have hc := h3 j u hu
    have hzg : z ≠ g := by
      rintro rfl
      have h0 := h3 11 (.int .i64 (zs[11]'(by omega))) (ints_at (by omega))
      rw [cell_of_row w _ _ _ _ _ hx] at h0
      simp at h0
    exact (grown_all w g y).cell hc (by intro e; injection e with e; exact hzg e)
  · exact fun y h => h
  · exact fun y h => h
  · exact fun y h => h
  · rintro z ⟨hb, x', h1, h2⟩
    by_cases e : z = g
    · subst e; exact ⟨hb, y, hy, hx.all y⟩
    · exact ⟨hb, x', h1, h2.grown (grown_all w g y) (fun e' => by injection e' with e'; exact e e')⟩
  · exact fun y h => h
theorem l20Plain_any (br N : Nat) (w : World) (hN : N ≤ 900000000) (h : Rd w br N) :
    Calls Try.prog 106 #[.pointer (some ⟨br, 0, none⟩)] w (DrawnCd br (N + 20) w) := by
  have hlt0 := h.lt
  have hr1 : Rd (w.alloc (.cells #[.int .i64 0, .int .i64 0, .int .i64 0, .int .i64 0] 69)) br N := h.below ((Below.refl _ _).alloc (Nat.le_refl _) _)
  have hg1 : w.grownBy (w.alloc (.cells #[.int .i64 0, .int .i64 0, .int .i64 0, .int .i64 0] 69)) (some br) := World.grownBy_alloc _ _ _
  have hb1 : Bx (w.alloc (.cells #[.int .i64 0, .int .i64 0, .int .i64 0, .int .i64 0] 69)) w.heap.size ⟨0, 0, 0, 0⟩ := Bx.new w ⟨0, 0, 0, 0⟩
  have hs1 : w.heap.size < (w.alloc (.cells #[.int .i64 0, .int .i64 0, .int .i64 0, .int .i64 0] 69)).heap.size := by simp
  go_enter Try.func106, Try.ntmps106
  go_wp2_with fail
  generalize hW : w.alloc (.cells #[.int .i64 0, .int .i64 0, .int .i64 0, .int .i64 0] 69) = w1 at *
  have hlt := hr1.lt
  have hkeep := @regPlain_keeps br N w1 hlt
  have hstore := @regPlain_store br N w1
  have HG1 := mkHid hg1
  have HB1 := mkHid hb1
  clear hW h hg1 hb1
  refine wp_region_N (regPlain br N w1) (by kernel_rfl) (by kernel_rfl) (by kernel_rfl) (drawI_start hr1) (fun xs => ?_)
  refine wpN_nd rfl rfl ?_ (fun x hx0 => ?_)
  · intro m w hm hI hh
    simp [yields, go_sem]
    exact ⟨(w.heap.size : Nat), rfl, LitAt.new w [1, 1, 2, 3, 4, 5, 6, 7, 8, 9, 9, 3] _ hI.2.size (by simp <;> omega), drawI_alloc hI _, hkeep (World.grownBy_alloc _ _ _) _⟩
  obtain ⟨g0, rfl⟩ : ∃ g : Nat, g = x := ⟨x, rfl⟩
  show wpN _ _ _ _ _ _ _ (Act.put _ _ (.slice (some ⟨g0, 0, none⟩) 12 12))
  simp only [Act.put, List.setIfInBounds_toArray, List.set_cons_succ, List.set_cons_zero]
  refine wpN_det rfl rfl rfl (fun K hK => ?_); go_big_quiet_op; first | (refine hK _ ?_; clear hK K) | (refine ⟨_, fun _ => rfl, hK _ ?_⟩; clear hK K)
  refine wpN_nd rfl rfl ?_ (fun x hx2 => ?_)
  · intro m w hm hI hh
    simp [yields, go_sem]
    refine (pick_any _ _ _ _ (by omega) hI.1).mono ?_
    rintro e w' ⟨r, rfl, h0, h1, hr, hg⟩
    exact ⟨_, rfl, ⟨r, h0, by omega⟩, rfl, trivial, drawI_pick hI hr hg, hkeep hg _⟩
  obtain ⟨r2, p2⟩ := x
  obtain ⟨n2, rfl⟩ := Int.eq_ofNat_of_zero_le p2.1
  show wpN _ _ _ _ _ _ _ (Act.put _ _ (.int .i64 n2))
  simp only [Act.put, List.setIfInBounds_toArray, List.set_cons_succ, List.set_cons_zero]
  refine wpN_det rfl rfl rfl (fun K hK => ?_); go_big_quiet_op; first | (refine hK _ ?_; clear hK K) | (refine ⟨_, fun _ => rfl, hK _ ?_⟩; clear hK K)
  refine wpN_nd rfl rfl ?_ (fun x hx4 => ?_)
  · intro m w hm hI hh
    have hl := hh 0 (List.mem_singleton_self 0)
    rw [hx0] at hl
    obtain ⟨z, z0, z1, hc⟩ := LitAt.at_ hl (j := n2) (by omega)
    simp only [Nat.zero_add] at hc
    simp [yields, go_sem, hc]
    exact ⟨⟨z, z0, z1⟩, rfl, trivial, drawI_mono _ _ _ _ _ hI, hkeep (World.grownBy.refl _ _) _⟩
  obtain ⟨r4, p4⟩ := x
  obtain ⟨n4, rfl⟩ := Int.eq_ofNat_of_zero_le p4.1
  show wpN _ _ _ _ _ _ _ (Act.put _ _ (.int .i64 n4))
  simp only [Act.put, List.setIfInBounds_toArray, List.set_cons_succ, List.set_cons_zero]
  refine wpN_det rfl rfl rfl (fun K hK => ?_); go_big_quiet_op; first | (refine hK _ ?_; clear hK K) | (refine ⟨_, fun _ => rfl, hK _ ?_⟩; clear hK K)
  refine wpN_nd rfl rfl ?_ (fun x hx6 => ?_)
  · intro m w hm hI hh
    simp [yields, go_sem]
    refine (pick_any _ _ _ _ (by omega) hI.1).mono ?_
    rintro e w' ⟨r, rfl, h0, h1, hr, hg⟩
    exact ⟨_, rfl, ⟨r, h0, by omega⟩, rfl, trivial, drawI_pick hI hr hg, hkeep hg _⟩
  obtain ⟨r6, p6⟩ := x
  obtain ⟨n6, rfl⟩ := Int.eq_ofNat_of_zero_le p6.1
  show wpN _ _ _ _ _ _ _ (Act.put _ _ (.int .i64 n6))
  simp only [Act.put, List.setIfInBounds_toArray, List.set_cons_succ, List.set_cons_zero]
  refine wpN_det rfl rfl rfl (fun K hK => ?_); go_big_quiet_op; first | (refine hK _ ?_; clear hK K) | (refine ⟨_, fun _ => rfl, hK _ ?_⟩; clear hK K)
  refine wpN_nd rfl rfl ?_ (fun x hx8 => ?_)
  · intro m w hm hI hh
    simp [yields, go_sem]
    exact ⟨(w.heap.size : Nat), rfl, ⟨hI.2.size, ⟨0, 0, 0, 0⟩, zero_small, Bx.new w ⟨0, 0, 0, 0⟩⟩, drawI_alloc hI _, hkeep (World.grownBy_alloc _ _ _) _⟩
  obtain ⟨g8, rfl⟩ : ∃ g : Nat, g = x := ⟨x, rfl⟩
  show wpN _ _ _ _ _ _ _ (Act.put _ _ (.pointer (some ⟨g8, 0, none⟩)))
  simp only [Act.put, List.setIfInBounds_toArray, List.set_cons_succ, List.set_cons_zero]
  have hsm : SmallCd ⟨n4, n6, 0, 0⟩ := by unfold SmallCd smallI; simp only; omega
  refine wpN_nd rfl rfl ?_ (fun x hx9 => ?_)
  · intro m w hm hI hh
    have hl := hh 8 (List.mem_singleton_self 8)
    rw [hx8] at hl
    obtain ⟨hb, x, hx1, hx2⟩ := hl
    have hb : w1.heap.size ≤ g8 := hb
    obtain ⟨c0, c1, c2, c3⟩ := hx2.cells
    obtain ⟨f0, f1, f2, f3⟩ := hx2.frozen
    simp [yields, go_sem, c0, c1, c2, c3, f0, f1, f2, f3]
    refine ⟨(), rfl, trivial, ⟨(hI.1.grown (grown_all w g8 ⟨n4, n6, 0, 0⟩) (fun g e => by injection e with e; omega)).mono (by omega), grown_own hI.2 (grown_all w g8 ⟨n4, n6, 0, 0⟩) hb⟩, hstore hx2 _ hsm _⟩
  show wpN _ _ _ _ _ _ _ (Act.put _ _ _)
  simp only [Act.put]
  refine wpN_end (fun w2 hI hV => ?_)
  have hlv := hV 8 (List.mem_singleton_self 8)
  rw [hx8] at hlv
  obtain ⟨hg8, x2, hsx, hbx⟩ := hlv
  have hg8 : w1.heap.size ≤ g8 := hg8
  have HZ2 := mkHid (HB1.out.grown hI.2 (fun e => by injection e with e; omega))
  have HX2 := mkHid hbx
  have HS2 := mkHid hsx
  have HG2 := mkHid (grown_trans HG1.out hI.2)
  have HR2 := mkHid (hI.1.mono (M := N + 10) (by first | exact Nat.le_refl _ | (simp; done) | decide))
  have hbg : w.heap.size < g8 := by omega
  clear hI hV hsx hbx HB1 HG1 hr1 hkeep hstore
  obtain ⟨op, a, b, c⟩ := x2
  have hopb : smallI op := HS2.out.1
  by_cases e1 : op = 1
  · subst e1
    obtain ⟨c0, c1, c2, c3⟩ := HX2.out.cells
    go_wp2_with fail
    refine (pick_any _ _ _ _ (by omega) HR2.out).mono ?_
    rintro e w3 ⟨q3, rfl, a3, b3, r3, g3⟩
    have b3 := b3 (by omega)
    have HR3 := mkHid r3
    have HG3 := mkHid (grown_trans HG2.out g3)
    have HX3 := mkHid (HX2.out.grown g3 (fun e => by injection e with e; omega))
    have HZ3 := mkHid (HZ2.out.grown g3 (fun e => by injection e with e; omega))
    clear r3 g3 c0 c1 c2 c3
    go_wp2_with fail
    refine (pick_any _ _ _ _ (by omega) HR3.out).mono ?_
    rintro e w4 ⟨q4, rfl, a4, b4, r4, g4⟩
    have b4 := b4 (by omega)
    have hlt4 := r4.lt
    have HR4 := mkHid (r4.below ((Below.refl _ _).alloc (Nat.le_refl _) (.cells #[.int .i64 q3, .int .i64 q4] 3)))
    have HG4 := mkHid (grown_trans (grown_trans HG3.out g4) (World.grownBy_alloc w4 (.cells #[.int .i64 q3, .int .i64 q4] 3) (some br)))
    have HX4 := mkHid ((HX3.out.grown g4 (fun e => by injection e with e; omega)).below ((Below.refl _ _).alloc (Nat.le_refl _) (.cells #[.int .i64 q3, .int .i64 q4] 3)))
    have HZ4 := mkHid ((HZ3.out.grown g4 (fun e => by injection e with e; omega)).below ((Below.refl _ _).alloc (Nat.le_refl _) (.cells #[.int .i64 q3, .int .i64 q4] 3)))
    clear r4 g4
    go_wp2_with fail
    refine (pick_any _ _ _ _ (by omega) HR4.out).mono ?_
    rintro e w5 ⟨q5, rfl, a5, b5, r5, g5⟩
    have b5 := b5 (by omega)
    have hc0 : w5.cell? ⟨w4.heap.size, 0, none⟩ = some (.int .i64 q3) := g5.cell (by have := newCells w4 [.int .i64 q3, .int .i64 q4] 3 0 _ rfl; rw [add_flat] at this; exact this) (by intro e; injection e with e; simp at e; omega)
    have hc1 : w5.cell? ⟨w4.heap.size, 1, none⟩ = some (.int .i64 q4) := g5.cell (by have := newCells w4 [.int .i64 q3, .int .i64 q4] 3 1 _ rfl; rw [add_flat] at this; exact this) (by intro e; injection e with e; simp at e; omega)
    have HR5 := mkHid r5
    have HG5 := mkHid (grown_trans HG4.out g5)
    have HX5 := mkHid (HX4.out.grown g5 (fun e => by injection e with e; omega))
    have HZ5 := mkHid (HZ4.out.grown g5 (fun e => by injection e with e; omega))
    clear r5 g5
    obtain ⟨y, hy, hcy⟩ : ∃ y : Int, smallI y ∧ w5.cell? ⟨w4.heap.size, q5.toNat, none⟩ = some (.int .i64 y) := by
      have : q5 = 0 ∨ q5 = 1 := by omega
      rcases this with rfl | rfl
      · exact ⟨q3, by unfold smallI; omega, hc0⟩
      · exact ⟨q4, by unfold smallI; omega, hc1⟩
    obtain ⟨p5, rfl⟩ := Int.eq_ofNat_of_zero_le a5
    simp only [Int.toNat_natCast] at hcy
    clear hc0 hc1
    have hp2 : p5 < 2 := by omega
    obtain ⟨c0, c1, c2, c3⟩ := HX5.out.cells
    obtain ⟨f0, f1, f2, f3⟩ := HX5.out.frozen
    have HX := mkHid (HX5.out.b y)
    have HZ := mkHid (HZ5.out.grown (grown_setCell w5 g8 2 (.int .i64 y)) (fun e => by injection e with e; omega))
    have HR := mkHid (HR5.out.grown (grown_setCell w5 g8 2 (.int .i64 y)) (fun g e => by injection e with e; omega))
    have HG := mkHid (grown_own HG5.out (grown_setCell w5 g8 2 (.int .i64 y)) (by omega))
    have HS : Hid (SmallCd ⟨1, a, y, c⟩) := mkHid ⟨HS2.out.1, HS2.out.2.1, hy, HS2.out.2.2.2⟩
    obtain ⟨⟨k0, k1, k2, k3⟩, ⟨z0, z1, z2, z3⟩, ⟨l0, l1, l2, l3⟩, _⟩ := fin_facts HZ.out HX.out
    have HFW := mkHid (fun V => @fin_world w (w5.setCell ⟨g8, 2, none⟩ (.int .i64 y)) V w.heap.size br _ 1 a y c _ HZ.out HR.out HG.out (Nat.le_refl _) hlt0)
    go_wp2_with fail
    clear k0 k1 k2 k3 z0 z1 z2 z3 l0 l1 l2 l3 c0 c1 c2 c3 f0 f1 f2 f3 hcy
    generalize hV : ((((w5.setCell ⟨g8, 2, none⟩ (.int .i64 y)).setCell ⟨w.heap.size, 0, none⟩ (.int .i64 1)).setCell ⟨w.heap.size, 1, none⟩ (.int .i64 a)).setCell ⟨w.heap.size, 2, none⟩ (.int .i64 y)).setCell ⟨w.heap.size, 3, none⟩ (.int .i64 c) = V
    obtain ⟨⟨d0, d1, d2, d3⟩, hrV, hgV⟩ := HFW.out V hV
    clear hV
    refine bodyPost_ret (v := cdV ⟨1, a, y, c⟩) (by simp [results, Try.results106, go_sem, d0, d1, d2, d3]) rfl ⟨⟨1, a, y, c⟩, rfl, HS.out, hrV.mono (by omega), hgV⟩
  · by_cases e2 : op = 3 ∨ op = 4 ∨ op = 5 ∨ op = 8 ∨ op = 9
    · clear e1
      rcases e2 with rfl | rfl | rfl | rfl | rfl
      · obtain ⟨c0, c1, c2, c3⟩ := HX2.out.cells
        go_wp2_with fail
        clear c0 c1 c2 c3
        refine (pick_any _ _ _ _ (by omega) HR2.out).mono ?_
        rintro e w3 ⟨q3, rfl, a3, b3, r3, g3⟩
        have b3 := b3 (by omega)
        have HP3 := mkHid r3
        have HGP3 := mkHid (grown_trans HG2.out g3)
        have HXP3 := mkHid (HX2.out.grown g3 (fun e => by injection e with e; omega))
        have HZP3 := mkHid (HZ2.out.grown g3 (fun e => by injection e with e; omega))
        clear r3 g3
        obtain ⟨c0, c1, c2, c3⟩ := HXP3.out.cells
        obtain ⟨f0, f1, f2, f3⟩ := HXP3.out.frozen
        have HX := mkHid (HXP3.out.b q3)
        have HZ := mkHid (HZP3.out.grown (grown_setCell w3 g8 2 (.int .i64 q3)) (fun e => by injection e with e; omega))
        have HR := mkHid (HP3.out.grown (grown_setCell w3 g8 2 (.int .i64 q3)) (fun g e => by injection e with e; omega))
        have HG := mkHid (grown_own HGP3.out (grown_setCell w3 g8 2 (.int .i64 q3)) (by omega))
        have HS := mkHid (show SmallCd ⟨3, a, q3, c⟩ from ⟨HS2.out.1, HS2.out.2.1, (by unfold smallI; simp only; omega), HS2.out.2.2.2⟩)
        obtain ⟨⟨k0, k1, k2, k3⟩, ⟨z0, z1, z2, z3⟩, ⟨l0, l1, l2, l3⟩, _⟩ := fin_facts HZ.out HX.out
        have HFW := mkHid (fun V => @fin_world w (w3.setCell ⟨g8, 2, none⟩ (.int .i64 q3)) V w.heap.size br _ 3 a q3 c _ HZ.out HR.out HG.out (Nat.le_refl _) hlt0)
        go_wp2_with fail
        clear k0 k1 k2 k3 z0 z1 z2 z3 l0 l1 l2 l3 c0 c1 c2 c3 f0 f1 f2 f3
        generalize hV : ((((w3.setCell ⟨g8, 2, none⟩ (.int .i64 q3)).setCell ⟨w.heap.size, 0, none⟩ (.int .i64 3)).setCell ⟨w.heap.size, 1, none⟩ (.int .i64 a)).setCell ⟨w.heap.size, 2, none⟩ (.int .i64 q3)).setCell ⟨w.heap.size, 3, none⟩ (.int .i64 c) = V
        obtain ⟨⟨d0, d1, d2, d3⟩, hrV, hgV⟩ := HFW.out V hV
        clear hV
        refine bodyPost_ret (v := cdV ⟨3, a, q3, c⟩) (by simp [results, Try.results106, go_sem, d0, d1, d2, d3]) rfl ⟨⟨3, a, q3, c⟩, rfl, HS.out, hrV.mono (by omega), hgV⟩
      · obtain ⟨c0, c1, c2, c3⟩ := HX2.out.cells
        go_wp2_with fail
        clear c0 c1 c2 c3
        refine (pick_any _ _ _ _ (by omega) HR2.out).mono ?_
        rintro e w3 ⟨q3, rfl, a3, b3, r3, g3⟩
        have b3 := b3 (by omega)
        have HP3 := mkHid r3
        have HGP3 := mkHid (grown_trans HG2.out g3)
        have HXP3 := mkHid (HX2.out.grown g3 (fun e => by injection e with e; omega))
        have HZP3 := mkHid (HZ2.out.grown g3 (fun e => by injection e with e; omega))
        clear r3 g3
        obtain ⟨c0, c1, c2, c3⟩ := HXP3.out.cells
        obtain ⟨f0, f1, f2, f3⟩ := HXP3.out.frozen
        have HX := mkHid (HXP3.out.b q3)
        have HZ := mkHid (HZP3.out.grown (grown_setCell w3 g8 2 (.int .i64 q3)) (fun e => by injection e with e; omega))
        have HR := mkHid (HP3.out.grown (grown_setCell w3 g8 2 (.int .i64 q3)) (fun g e => by injection e with e; omega))
        have HG := mkHid (grown_own HGP3.out (grown_setCell w3 g8 2 (.int .i64 q3)) (by omega))
        have HS := mkHid (show SmallCd ⟨4, a, q3, c⟩ from ⟨HS2.out.1, HS2.out.2.1, (by unfold smallI; simp only; omega), HS2.out.2.2.2⟩)
        obtain ⟨⟨k0, k1, k2, k3⟩, ⟨z0, z1, z2, z3⟩, ⟨l0, l1, l2, l3⟩, _⟩ := fin_facts HZ.out HX.out
        have HFW := mkHid (fun V => @fin_world w (w3.setCell ⟨g8, 2, none⟩ (.int .i64 q3)) V w.heap.size br _ 4 a q3 c _ HZ.out HR.out HG.out (Nat.le_refl _) hlt0)
        go_wp2_with fail
        clear k0 k1 k2 k3 z0 z1 z2 z3 l0 l1 l2 l3 c0 c1 c2 c3 f0 f1 f2 f3
        generalize hV : ((((w3.setCell ⟨g8, 2, none⟩ (.int .i64 q3)).setCell ⟨w.heap.size, 0, none⟩ (.int .i64 4)).setCell ⟨w.heap.size, 1, none⟩ (.int .i64 a)).setCell ⟨w.heap.size, 2, none⟩ (.int .i64 q3)).setCell ⟨w.heap.size, 3, none⟩ (.int .i64 c) = V
        obtain ⟨⟨d0, d1, d2, d3⟩, hrV, hgV⟩ := HFW.out V hV
        clear hV
        refine bodyPost_ret (v := cdV ⟨4, a, q3, c⟩) (by simp [results, Try.results106, go_sem, d0, d1, d2, d3]) rfl ⟨⟨4, a, q3, c⟩, rfl, HS.out, hrV.mono (by omega), hgV⟩
      · obtain ⟨c0, c1, c2, c3⟩ := HX2.out.cells
        go_wp2_with fail
        clear c0 c1 c2 c3
        refine (pick_any _ _ _ _ (by omega) HR2.out).mono ?_
        rintro e w3 ⟨q3, rfl, a3, b3, r3, g3⟩
        have b3 := b3 (by omega)
        have HP3 := mkHid r3
        have HGP3 := mkHid (grown_trans HG2.out g3)
        have HXP3 := mkHid (HX2.out.grown g3 (fun e => by injection e with e; omega))
        have HZP3 := mkHid (HZ2.out.grown g3 (fun e => by injection e with e; omega))
        clear r3 g3
        obtain ⟨c0, c1, c2, c3⟩ := HXP3.out.cells
        obtain ⟨f0, f1, f2, f3⟩ := HXP3.out.frozen
        have HX := mkHid (HXP3.out.b q3)
        have HZ := mkHid (HZP3.out.grown (grown_setCell w3 g8 2 (.int .i64 q3)) (fun e => by injection e with e; omega))
        have HR := mkHid (HP3.out.grown (grown_setCell w3 g8 2 (.int .i64 q3)) (fun g e => by injection e with e; omega))
        have HG := mkHid (grown_own HGP3.out (grown_setCell w3 g8 2 (.int .i64 q3)) (by omega))
        have HS := mkHid (show SmallCd ⟨5, a, q3, c⟩ from ⟨HS2.out.1, HS2.out.2.1, (by unfold smallI; simp only; omega), HS2.out.2.2.2⟩)
        obtain ⟨⟨k0, k1, k2, k3⟩, ⟨z0, z1, z2, z3⟩, ⟨l0, l1, l2, l3⟩, _⟩ := fin_facts HZ.out HX.out
        have HFW := mkHid (fun V => @fin_world w (w3.setCell ⟨g8, 2, none⟩ (.int .i64 q3)) V w.heap.size br _ 5 a q3 c _ HZ.out HR.out HG.out (Nat.le_refl _) hlt0)
        go_wp2_with fail
        clear k0 k1 k2 k3 z0 z1 z2 z3 l0 l1 l2 l3 c0 c1 c2 c3 f0 f1 f2 f3
        generalize hV : ((((w3.setCell ⟨g8, 2, none⟩ (.int .i64 q3)).setCell ⟨w.heap.size, 0, none⟩ (.int .i64 5)).setCell ⟨w.heap.size, 1, none⟩ (.int .i64 a)).setCell ⟨w.heap.size, 2, none⟩ (.int .i64 q3)).setCell ⟨w.heap.size, 3, none⟩ (.int .i64 c) = V
        obtain ⟨⟨d0, d1, d2, d3⟩, hrV, hgV⟩ := HFW.out V hV
        clear hV
        refine bodyPost_ret (v := cdV ⟨5, a, q3, c⟩) (by simp [results, Try.results106, go_sem, d0, d1, d2, d3]) rfl ⟨⟨5, a, q3, c⟩, rfl, HS.out, hrV.mono (by omega), hgV⟩
      · obtain ⟨c0, c1, c2, c3⟩ := HX2.out.cells
        go_wp2_with fail
        clear c0 c1 c2 c3
        refine (pick_any _ _ _ _ (by omega) HR2.out).mono ?_
        rintro e w3 ⟨q3, rfl, a3, b3, r3, g3⟩
        have b3 := b3 (by omega)
        have HP3 := mkHid r3
        have HGP3 := mkHid (grown_trans HG2.out g3)
        have HXP3 := mkHid (HX2.out.grown g3 (fun e => by injection e with e; omega))
        have HZP3 := mkHid (HZ2.out.grown g3 (fun e => by injection e with e; omega))
        clear r3 g3
        obtain ⟨c0, c1, c2, c3⟩ := HXP3.out.cells
        obtain ⟨f0, f1, f2, f3⟩ := HXP3.out.frozen
        have HX := mkHid (HXP3.out.b q3)
        have HZ := mkHid (HZP3.out.grown (grown_setCell w3 g8 2 (.int .i64 q3)) (fun e => by injection e with e; omega))
        have HR := mkHid (HP3.out.grown (grown_setCell w3 g8 2 (.int .i64 q3)) (fun g e => by injection e with e; omega))
        have HG := mkHid (grown_own HGP3.out (grown_setCell w3 g8 2 (.int .i64 q3)) (by omega))
        have HS := mkHid (show SmallCd ⟨8, a, q3, c⟩ from ⟨HS2.out.1, HS2.out.2.1, (by unfold smallI; simp only; omega), HS2.out.2.2.2⟩)
        obtain ⟨⟨k0, k1, k2, k3⟩, ⟨z0, z1, z2, z3⟩, ⟨l0, l1, l2, l3⟩, _⟩ := fin_facts HZ.out HX.out
        have HFW := mkHid (fun V => @fin_world w (w3.setCell ⟨g8, 2, none⟩ (.int .i64 q3)) V w.heap.size br _ 8 a q3 c _ HZ.out HR.out HG.out (Nat.le_refl _) hlt0)
        go_wp2_with fail
        clear k0 k1 k2 k3 z0 z1 z2 z3 l0 l1 l2 l3 c0 c1 c2 c3 f0 f1 f2 f3
        generalize hV : ((((w3.setCell ⟨g8, 2, none⟩ (.int .i64 q3)).setCell ⟨w.heap.size, 0, none⟩ (.int .i64 8)).setCell ⟨w.heap.size, 1, none⟩ (.int .i64 a)).setCell ⟨w.heap.size, 2, none⟩ (.int .i64 q3)).setCell ⟨w.heap.size, 3, none⟩ (.int .i64 c) = V
        obtain ⟨⟨d0, d1, d2, d3⟩, hrV, hgV⟩ := HFW.out V hV
        clear hV
        refine bodyPost_ret (v := cdV ⟨8, a, q3, c⟩) (by simp [results, Try.results106, go_sem, d0, d1, d2, d3]) rfl ⟨⟨8, a, q3, c⟩, rfl, HS.out, hrV.mono (by omega), hgV⟩
      · obtain ⟨c0, c1, c2, c3⟩ := HX2.out.cells
        go_wp2_with fail
        clear c0 c1 c2 c3
        refine (pick_any _ _ _ _ (by omega) HR2.out).mono ?_
        rintro e w3 ⟨q3, rfl, a3, b3, r3, g3⟩
        have b3 := b3 (by omega)
        have HP3 := mkHid r3
        have HGP3 := mkHid (grown_trans HG2.out g3)
        have HXP3 := mkHid (HX2.out.grown g3 (fun e => by injection e with e; omega))
        have HZP3 := mkHid (HZ2.out.grown g3 (fun e => by injection e with e; omega))
        clear r3 g3
        obtain ⟨c0, c1, c2, c3⟩ := HXP3.out.cells
        obtain ⟨f0, f1, f2, f3⟩ := HXP3.out.frozen
        have HX := mkHid (HXP3.out.b q3)
        have HZ := mkHid (HZP3.out.grown (grown_setCell w3 g8 2 (.int .i64 q3)) (fun e => by injection e with e; omega))
        have HR := mkHid (HP3.out.grown (grown_setCell w3 g8 2 (.int .i64 q3)) (fun g e => by injection e with e; omega))
        have HG := mkHid (grown_own HGP3.out (grown_setCell w3 g8 2 (.int .i64 q3)) (by omega))
        have HS := mkHid (show SmallCd ⟨9, a, q3, c⟩ from ⟨HS2.out.1, HS2.out.2.1, (by unfold smallI; simp only; omega), HS2.out.2.2.2⟩)
        obtain ⟨⟨k0, k1, k2, k3⟩, ⟨z0, z1, z2, z3⟩, ⟨l0, l1, l2, l3⟩, _⟩ := fin_facts HZ.out HX.out
        have HFW := mkHid (fun V => @fin_world w (w3.setCell ⟨g8, 2, none⟩ (.int .i64 q3)) V w.heap.size br _ 9 a q3 c _ HZ.out HR.out HG.out (Nat.le_refl _) hlt0)
        go_wp2_with fail
        clear k0 k1 k2 k3 z0 z1 z2 z3 l0 l1 l2 l3 c0 c1 c2 c3 f0 f1 f2 f3
        generalize hV : ((((w3.setCell ⟨g8, 2, none⟩ (.int .i64 q3)).setCell ⟨w.heap.size, 0, none⟩ (.int .i64 9)).setCell ⟨w.heap.size, 1, none⟩ (.int .i64 a)).setCell ⟨w.heap.size, 2, none⟩ (.int .i64 q3)).setCell ⟨w.heap.size, 3, none⟩ (.int .i64 c) = V
        obtain ⟨⟨d0, d1, d2, d3⟩, hrV, hgV⟩ := HFW.out V hV
        clear hV
        refine bodyPost_ret (v := cdV ⟨9, a, q3, c⟩) (by simp [results, Try.results106, go_sem, d0, d1, d2, d3]) rfl ⟨⟨9, a, q3, c⟩, rfl, HS.out, hrV.mono (by omega), hgV⟩
    · by_cases e3 : op = 6 ∨ op = 7
      · clear e1 e2
        rcases e3 with rfl | rfl
        · obtain ⟨c0, c1, c2, c3⟩ := HX2.out.cells
          go_wp2_with fail
          clear c0 c1 c2 c3
          refine (pick_any _ _ _ _ (by omega) HR2.out).mono ?_
          rintro e w3 ⟨q3, rfl, a3, b3, r3, g3⟩
          have b3 := b3 (by omega)
          have HP3 := mkHid r3
          have HGP3 := mkHid (grown_trans HG2.out g3)
          have HXP3 := mkHid (HX2.out.grown g3 (fun e => by injection e with e; omega))
          have HZP3 := mkHid (HZ2.out.grown g3 (fun e => by injection e with e; omega))
          clear r3 g3
          obtain ⟨c0, c1, c2, c3⟩ := HXP3.out.cells
          obtain ⟨f0, f1, f2, f3⟩ := HXP3.out.frozen
          have HX3 := mkHid (HXP3.out.b q3)
          have HZ3 := mkHid (HZP3.out.grown (grown_setCell w3 g8 2 (.int .i64 q3)) (fun e => by injection e with e; omega))
          have HR3 := mkHid (HP3.out.grown (grown_setCell w3 g8 2 (.int .i64 q3)) (fun g e => by injection e with e; omega))
          have HG3 := mkHid (grown_own HGP3.out (grown_setCell w3 g8 2 (.int .i64 q3)) (by omega))
          go_wp2_with fail
          clear c0 c1 c2 c3 f0 f1 f2 f3
          refine (pick_any _ _ _ _ (by omega) HR3.out).mono ?_
          rintro e w4 ⟨q4, rfl, a4, b4, r4, g4⟩
          have b4 := b4 (by omega)
          have HP4 := mkHid r4
          have HGP4 := mkHid (grown_trans HG3.out g4)
          have HXP4 := mkHid (HX3.out.grown g4 (fun e => by injection e with e; omega))
          have HZP4 := mkHid (HZ3.out.grown g4 (fun e => by injection e with e; omega))
          clear r4 g4
          obtain ⟨c0, c1, c2, c3⟩ := HXP4.out.cells
          obtain ⟨f0, f1, f2, f3⟩ := HXP4.out.frozen
          have HX := mkHid (HXP4.out.c q4)
          have HZ := mkHid (HZP4.out.grown (grown_setCell w4 g8 3 (.int .i64 q4)) (fun e => by injection e with e; omega))
          have HR := mkHid (HP4.out.grown (grown_setCell w4 g8 3 (.int .i64 q4)) (fun g e => by injection e with e; omega))
          have HG := mkHid (grown_own HGP4.out (grown_setCell w4 g8 3 (.int .i64 q4)) (by omega))
          have HS := mkHid (show SmallCd ⟨6, a, q3, q4⟩ from ⟨HS2.out.1, HS2.out.2.1, (by unfold smallI; simp only; omega), (by unfold smallI; simp only; omega)⟩)
          obtain ⟨⟨k0, k1, k2, k3⟩, ⟨z0, z1, z2, z3⟩, ⟨l0, l1, l2, l3⟩, _⟩ := fin_facts HZ.out HX.out
          have HFW := mkHid (fun V => @fin_world w (w4.setCell ⟨g8, 3, none⟩ (.int .i64 q4)) V w.heap.size br _ 6 a q3 q4 _ HZ.out HR.out HG.out (Nat.le_refl _) hlt0)
          go_wp2_with fail
          clear k0 k1 k2 k3 z0 z1 z2 z3 l0 l1 l2 l3 c0 c1 c2 c3 f0 f1 f2 f3
          generalize hV : ((((w4.setCell ⟨g8, 3, none⟩ (.int .i64 q4)).setCell ⟨w.heap.size, 0, none⟩ (.int .i64 6)).setCell ⟨w.heap.size, 1, none⟩ (.int .i64 a)).setCell ⟨w.heap.size, 2, none⟩ (.int .i64 q3)).setCell ⟨w.heap.size, 3, none⟩ (.int .i64 q4) = V
          obtain ⟨⟨d0, d1, d2, d3⟩, hrV, hgV⟩ := HFW.out V hV
          clear hV
          refine bodyPost_ret (v := cdV ⟨6, a, q3, q4⟩) (by simp [results, Try.results106, go_sem, d0, d1, d2, d3]) rfl ⟨⟨6, a, q3, q4⟩, rfl, HS.out, hrV.mono (by omega), hgV⟩
        · obtain ⟨c0, c1, c2, c3⟩ := HX2.out.cells
          go_wp2_with fail
          clear c0 c1 c2 c3
          refine (pick_any _ _ _ _ (by omega) HR2.out).mono ?_
          rintro e w3 ⟨q3, rfl, a3, b3, r3, g3⟩
          have b3 := b3 (by omega)
          have HP3 := mkHid r3
          have HGP3 := mkHid (grown_trans HG2.out g3)
          have HXP3 := mkHid (HX2.out.grown g3 (fun e => by injection e with e; omega))
          have HZP3 := mkHid (HZ2.out.grown g3 (fun e => by injection e with e; omega))
          clear r3 g3
          obtain ⟨c0, c1, c2, c3⟩ := HXP3.out.cells
          obtain ⟨f0, f1, f2, f3⟩ := HXP3.out.frozen
          have HX3 := mkHid (HXP3.out.b q3)
          have HZ3 := mkHid (HZP3.out.grown (grown_setCell w3 g8 2 (.int .i64 q3)) (fun e => by injection e with e; omega))
          have HR3 := mkHid (HP3.out.grown (grown_setCell w3 g8 2 (.int .i64 q3)) (fun g e => by injection e with e; omega))
          have HG3 := mkHid (grown_own HGP3.out (grown_setCell w3 g8 2 (.int .i64 q3)) (by omega))
          go_wp2_with fail
          clear c0 c1 c2 c3 f0 f1 f2 f3
          refine (pick_any _ _ _ _ (by omega) HR3.out).mono ?_
          rintro e w4 ⟨q4, rfl, a4, b4, r4, g4⟩
          have b4 := b4 (by omega)
          have HP4 := mkHid r4
          have HGP4 := mkHid (grown_trans HG3.out g4)
          have HXP4 := mkHid (HX3.out.grown g4 (fun e => by injection e with e; omega))
          have HZP4 := mkHid (HZ3.out.grown g4 (fun e => by injection e with e; omega))
          clear r4 g4
          obtain ⟨c0, c1, c2, c3⟩ := HXP4.out.cells
          obtain ⟨f0, f1, f2, f3⟩ := HXP4.out.frozen
          have HX := mkHid (HXP4.out.c q4)
          have HZ := mkHid (HZP4.out.grown (grown_setCell w4 g8 3 (.int .i64 q4)) (fun e => by injection e with e; omega))
          have HR := mkHid (HP4.out.grown (grown_setCell w4 g8 3 (.int .i64 q4)) (fun g e => by injection e with e; omega))
          have HG := mkHid (grown_own HGP4.out (grown_setCell w4 g8 3 (.int .i64 q4)) (by omega))
          have HS := mkHid (show SmallCd ⟨7, a, q3, q4⟩ from ⟨HS2.out.1, HS2.out.2.1, (by unfold smallI; simp only; omega), (by unfold smallI; simp only; omega)⟩)
          obtain ⟨⟨k0, k1, k2, k3⟩, ⟨z0, z1, z2, z3⟩, ⟨l0, l1, l2, l3⟩, _⟩ := fin_facts HZ.out HX.out
          have HFW := mkHid (fun V => @fin_world w (w4.setCell ⟨g8, 3, none⟩ (.int .i64 q4)) V w.heap.size br _ 7 a q3 q4 _ HZ.out HR.out HG.out (Nat.le_refl _) hlt0)
          go_wp2_with fail
          clear k0 k1 k2 k3 z0 z1 z2 z3 l0 l1 l2 l3 c0 c1 c2 c3 f0 f1 f2 f3
          generalize hV : ((((w4.setCell ⟨g8, 3, none⟩ (.int .i64 q4)).setCell ⟨w.heap.size, 0, none⟩ (.int .i64 7)).setCell ⟨w.heap.size, 1, none⟩ (.int .i64 a)).setCell ⟨w.heap.size, 2, none⟩ (.int .i64 q3)).setCell ⟨w.heap.size, 3, none⟩ (.int .i64 q4) = V
          obtain ⟨⟨d0, d1, d2, d3⟩, hrV, hgV⟩ := HFW.out V hV
          clear hV
          refine bodyPost_ret (v := cdV ⟨7, a, q3, q4⟩) (by simp [results, Try.results106, go_sem, d0, d1, d2, d3]) rfl ⟨⟨7, a, q3, q4⟩, rfl, HS.out, hrV.mono (by omega), hgV⟩
      · obtain ⟨c0, c1, c2, c3⟩ := HX2.out.cells
        have n1 : (op == 1) = false := by rw [beq_eq_false_iff_ne]; omega
        have n3 : (op == 3) = false := by rw [beq_eq_false_iff_ne]; omega
        have n4 : (op == 4) = false := by rw [beq_eq_false_iff_ne]; omega
        have n5 : (op == 5) = false := by rw [beq_eq_false_iff_ne]; omega
        have n8 : (op == 8) = false := by rw [beq_eq_false_iff_ne]; omega
        have n9 : (op == 9) = false := by rw [beq_eq_false_iff_ne]; omega
        have n6 : (op == 6) = false := by rw [beq_eq_false_iff_ne]; omega
        have n7 : (op == 7) = false := by rw [beq_eq_false_iff_ne]; omega
        have HX := HX2
        have HZ := HZ2
        have HR := HR2
        have HG := HG2
        have HS := HS2
        clear e1 e2 e3
        obtain ⟨⟨k0, k1, k2, k3⟩, ⟨z0, z1, z2, z3⟩, ⟨l0, l1, l2, l3⟩, _⟩ := fin_facts HZ.out HX.out
        have HFW := mkHid (fun V => @fin_world w w2 V w.heap.size br _ op a b c _ HZ.out HR.out HG.out (Nat.le_refl _) hlt0)
        go_wp2_with fail
        clear k0 k1 k2 k3 z0 z1 z2 z3 l0 l1 l2 l3 c0 c1 c2 c3
        generalize hV : (((w2.setCell ⟨w.heap.size, 0, none⟩ (.int .i64 op)).setCell ⟨w.heap.size, 1, none⟩ (.int .i64 a)).setCell ⟨w.heap.size, 2, none⟩ (.int .i64 b)).setCell ⟨w.heap.size, 3, none⟩ (.int .i64 c) = V
        obtain ⟨⟨d0, d1, d2, d3⟩, hrV, hgV⟩ := HFW.out V hV
        clear hV
        refine bodyPost_ret (v := cdV ⟨op, a, b, c⟩) (by simp [results, Try.results106, go_sem, d0, d1, d2, d3]) rfl ⟨⟨op, a, b, c⟩, rfl, HS.out, hrV.mono (by omega), hgV⟩
end Go.Proofs.Ytjmiilneennjaaa
