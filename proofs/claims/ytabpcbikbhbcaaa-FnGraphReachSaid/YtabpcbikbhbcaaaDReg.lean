/-
  The roles of the operations that draw: a pick, a literal slice of numbers, a number that is read out of it.
-/
import Derived.Test.YtabpcbikbhbcaaaTReg
import Derived.Test.YtabpcbikbhbcaaaCDraw
import Derived.Test.YtabpcbikbhbcaaaCInts
namespace Go.Proofs.Ytabpcbikbhbcaaa
open Go.RowKit
set_option maxHeartbeats 400000
set_option linter.unusedVariables false

/-- a number in lo..hi. -/
def kInt (lo hi : Int) : Kind := ⟨{ r : Int // lo ≤ r ∧ r ≤ hi }, fun r => .int .i64 r.1, fun _ _ => True⟩
theorem kInt_ne (lo hi : Int) (h : lo ≤ hi) : Nonempty (kInt lo hi).X := ⟨⟨lo, Int.le_refl _, h⟩⟩
/-- a literal slice of n numbers in lo..hi, in a block from base on. -/
def LitAt (base n : Nat) (lo hi : Int) (g : Nat) (w : World) : Prop :=
  base ≤ g ∧ ∃ zs : List Int, zs.length = n ∧ (∀ z ∈ zs, lo ≤ z ∧ z ≤ hi) ∧ ∀ j u, (ints zs)[j]? = some u → w.cell? ⟨g, 0 + j, none⟩ = some u
def kLit (base n : Nat) (lo hi : Int) : Kind := ⟨Nat, fun g => .slice (some ⟨g, 0, none⟩) n n, LitAt base n lo hi⟩
theorem kLit_ne (base n : Nat) (lo hi : Int) : Nonempty (kLit base n lo hi).X := ⟨(0 : Nat)⟩
def kNone : Kind := ⟨Unit, fun _ => undef, fun _ _ => True⟩

theorem LitAt.grown {base n : Nat} {lo hi : Int} {g br : Nat} {w w' : World} (h : LitAt base n lo hi g w) (hbr : br < base) (hg : w.grownBy w' (some br)) : LitAt base n lo hi g w' := by
  obtain ⟨hb, zs, h1, h2, h3⟩ := h
  refine ⟨hb, zs, h1, h2, fun j u hu => hg.cell (h3 j u hu) ?_⟩
  show some g ≠ some br
  intro e; injection e with e; omega
theorem LitAt.new {base : Nat} {lo hi : Int} (w : World) (zs : List Int) (e : TypeId) (hb : base ≤ w.heap.size) (hz : ∀ z ∈ zs, lo ≤ z ∧ z ≤ hi) : LitAt base zs.length lo hi w.heap.size (w.alloc (.cells (ints zs).toArray e)) := by
  refine ⟨hb, zs, rfl, hz, fun j u hu => ?_⟩
  have := newCells w (ints zs) e j u hu
  rw [add_flat] at this
  exact this
theorem LitAt.at_ {base n : Nat} {lo hi : Int} {g : Nat} {w : World} (h : LitAt base n lo hi g w) {j : Nat} (hj : j < n) : ∃ z, lo ≤ z ∧ z ≤ hi ∧ w.cell? ⟨g, 0 + j, none⟩ = some (.int .i64 z) := by
  obtain ⟨hb, zs, h1, h2, h3⟩ := h
  have hj' : j < zs.length := by omega
  exact ⟨zs[j], (h2 _ (List.getElem_mem hj')).1, (h2 _ (List.getElem_mem hj')).2, h3 j _ (ints_at hj')⟩

/-- the worlds of a region that draws. -/
def drawI (br N : Nat) (w0 : World) (m : Nat) (w : World) : Prop := Rd w br (N + m) ∧ w0.grownBy w (some br)
theorem drawI_mono (br N : Nat) (w0 : World) (m : Nat) (w : World) (h : drawI br N w0 m w) : drawI br N w0 (m + 1) w := ⟨h.1.mono (by omega), h.2⟩
theorem drawI_alloc {br N : Nat} {w0 : World} {m : Nat} {w : World} (h : drawI br N w0 m w) (o : Obj) : drawI br N w0 (m + 1) (w.alloc o) :=
  ⟨(h.1.below ((Below.refl _ _).alloc (Nat.le_refl _) _)).mono (by omega), grown_trans h.2 (World.grownBy_alloc _ _ _)⟩
theorem drawI_pick {br N : Nat} {w0 : World} {m : Nat} {w w' : World} (h : drawI br N w0 m w) (hr : Rd w' br (N + m + 1)) (hg : w.grownBy w' (some br)) : drawI br N w0 (m + 1) w' :=
  ⟨hr, grown_trans h.2 hg⟩
theorem drawI_start {br N : Nat} {w0 : World} (h : Rd w0 br N) : drawI br N w0 0 { w0 with drawn := w0.drawn + 1 } := ⟨h, ⟨rfl, rfl, rfl, Nat.le_refl _, fun _ _ _ => rfl⟩⟩
end Go.Proofs.Ytabpcbikbhbcaaa
