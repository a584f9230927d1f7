/-
  Contract of the draw of a base, a stride and a number of lanes.
-/
import Derived.Test.YtjgmghlgjjfifaaDReg
import Derived.Test.YtjgmghlgjjfifaaLib2
namespace Go.Proofs.Ytjgmghlgjjfifaa
open Go.RowKit
set_option maxHeartbeats 800000
set_option linter.unusedVariables false

theorem LitAt.alloc {base n : Nat} {lo hi : Int} {g : Nat} {w : World} (h : LitAt base n lo hi g w) (o : Obj) : LitAt base n lo hi g (w.alloc o) := by
  obtain ⟨hb, zs, h1, h2, h3⟩ := h
  exact ⟨hb, zs, h1, h2, fun j u hu => (World.cell?_alloc_lt w o ⟨g, 0 + j, none⟩ (World.block_lt_of_cell? w _ (h3 j u hu))).trans (h3 j u hu)⟩
theorem LitAt.cell0 {base n : Nat} {lo hi : Int} {g : Nat} {w : World} (h : LitAt base n lo hi g w) {j : Nat} (hj : j < n) : ∃ z, (lo ≤ z ∧ z ≤ hi) ∧ w.cell? ⟨g, j, none⟩ = some (.int .i64 z) := by
  obtain ⟨z, h1, h2, h3⟩ := h.at_ hj
  exact ⟨z, ⟨h1, h2⟩, by simpa using h3⟩
/-- two literals, one after the other. -/
theorem two_lits (w : World) (us vs : List Int) (e : TypeId) {lo hi lo' hi' : Int} {base : Nat} (hb : base ≤ w.heap.size) (hu : ∀ z ∈ us, lo ≤ z ∧ z ≤ hi) (hv : ∀ z ∈ vs, lo' ≤ z ∧ z ≤ hi') :
    LitAt base us.length lo hi w.heap.size ((w.alloc (.cells (ints us).toArray e)).alloc (.cells (ints vs).toArray e)) ∧ LitAt base vs.length lo' hi' (w.heap.size + 1) ((w.alloc (.cells (ints us).toArray e)).alloc (.cells (ints vs).toArray e)) := by
  refine ⟨(LitAt.new w us e hb hu).alloc _, ?_⟩
  have := LitAt.new (base := base) (w.alloc (.cells (ints us).toArray e)) vs e (by simp; omega) hv
  simpa using this
theorem rd_two {w : World} {br N : Nat} (h : Rd w br N) (o o' : Obj) : Rd ((w.alloc o).alloc o') br N := h.below (((Below.refl _ _).alloc (Nat.le_refl _) _).alloc (by simp) _)
theorem grown_two (w : World) (o o' : Obj) (row : Option Nat) : w.grownBy ((w.alloc o).alloc o') row := grown_trans (World.grownBy_alloc _ _ _) (World.grownBy_alloc _ _ _)

def DrawnStride (w : World) (e : Ending) (w' : World) : Prop :=
  ∃ a b l : Int, e = .returned (.tuple #[.int .i64 a, .int .i64 b, .int .i64 l]) ∧ (-1 ≤ a ∧ a ≤ 256) ∧ (-1 ≤ b ∧ b ≤ 255) ∧ (-1 ≤ l ∧ l ≤ 9) ∧ Below w.heap.size w w'
theorem drawStrideCells_any (A : Option Addr) (c : Nat) (zs : List Int) (w : World) (hl : zs.length ≤ 9223372036854775807) (hcap : zs.length ≤ c) (hs : Sl w A (u8s zs)) (hz : ∀ z ∈ zs, 0 ≤ z ∧ z ≤ 255) :
    Calls Try.prog 23 #[.slice A zs.length c] w (DrawnStride w) := by
  go_enter Try.func23, Try.ntmps23
  go_wp2_with fail
  refine (l20Open_any _ _ _ _ hl hcap hs hz).mono ?_
  rintro e w1 ⟨br, rfl, hbr, r1, b1⟩
  have hbl := r1.lt
  have B1 := mkHid b1
  clear hs hz b1
  go_wp2_with fail
  refine (pick_any _ _ _ _ (by omega) r1).mono ?_
  rintro e w2 ⟨a, rfl, a0, a1, r2, g2⟩
  have a1 := a1 (by omega)
  have G2 := mkHid g2
  have hb2 := g2.size
  have L := mkHid (two_lits w2 [a, -1, 256] [0, 0, 0, 0, 0, 1, 2] 3 (lo := -1) (hi := 256) (lo' := 0) (hi' := 2) (base := w1.heap.size) hb2 (by simp; omega) (by simp))
  have R2 := mkHid r2
  clear r1 g2 r2
  go_wp2_with fail
  refine (pick_any _ _ _ _ (by omega) (rd_two R2.out _ _)).mono ?_
  rintro e w3 ⟨r, rfl, q0, q1, r3, g3⟩
  have q1 := q1 (by omega)
  obtain ⟨r, rfl⟩ := Int.eq_ofNat_of_zero_le q0
  obtain ⟨z, hz, hcz⟩ := (LitAt.grown L.out.2 hbl g3).cell0 (j := r) (by simp; omega)
  obtain ⟨z, rfl⟩ := Int.eq_ofNat_of_zero_le hz.1
  obtain ⟨va, hva, hca⟩ := (LitAt.grown L.out.1 hbl g3).cell0 (j := z) (by simp; omega)
  have G3 := mkHid (grown_trans G2.out (grown_trans (grown_two _ _ _ _) g3))
  clear g3
  go_wp2_with fail
  refine (pick_any _ _ _ _ (by omega) r3).mono ?_
  rintro e w4 ⟨b, rfl, b0, b1, r4, g4⟩
  have b1 := b1 (by omega)
  have G4 := mkHid (grown_trans G3.out g4)
  clear g4 r3 hca hcz
  go_wp2_with fail
  refine (pick_any _ _ _ _ (by omega) r4).mono ?_
  rintro e w5 ⟨b', rfl, b0', b1', r5, g5⟩
  have b1' := b1' (by omega)
  have G5 := mkHid (grown_trans G4.out g5)
  have hb5 := G5.out.size
  have L5 := mkHid (two_lits w5 [b, b', -1] [0, 0, 0, 1, 1, 2] 3 (lo := -1) (hi := 255) (lo' := 0) (hi' := 2) (base := w1.heap.size) hb5 (by simp; omega) (by simp))
  have R5 := mkHid r5
  clear g5 r4 r5
  go_wp2_with fail
  refine (pick_any _ _ _ _ (by omega) (rd_two R5.out _ _)).mono ?_
  rintro e w6 ⟨r', rfl, q0', q1', r6, g6⟩
  have q1' := q1' (by omega)
  obtain ⟨r', rfl⟩ := Int.eq_ofNat_of_zero_le q0'
  obtain ⟨z', hz', hcz'⟩ := (LitAt.grown L5.out.2 hbl g6).cell0 (j := r') (by simp; omega)
  obtain ⟨z', rfl⟩ := Int.eq_ofNat_of_zero_le hz'.1
  obtain ⟨vb, hvb, hcb⟩ := (LitAt.grown L5.out.1 hbl g6).cell0 (j := z') (by simp; omega)
  have G6 := mkHid (grown_trans G5.out (grown_trans (grown_two _ _ _ _) g6))
  clear g6
  go_wp2_with fail
  refine (pick_any _ _ _ _ (by omega) r6).mono ?_
  rintro e w7 ⟨l, rfl, l0, l1, r7, g7⟩
  have l1 := l1 (by omega)
  have G7 := mkHid (grown_trans G6.out g7)
  clear g7 r6 hcb hcz'
  go_wp2_with fail
  go_ret3
  exact ⟨va, vb, l - 1, rfl, hva, hvb, by omega, B1.out.grown G7.out B1.out.size (by simpa using hbr)⟩
end Go.Proofs.Ytjgmghlgjjfifaa
