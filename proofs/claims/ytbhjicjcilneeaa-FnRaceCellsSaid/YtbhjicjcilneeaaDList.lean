/-
  Contracts of the draws that hand back a list of accesses alone.
-/
import Derived.Test.YtbhjicjcilneeaaDAccs
namespace Go.Proofs.Ytbhjicjcilneeaa
open Go.RowKit
set_option maxHeartbeats 400000
set_option linter.unusedVariables false

def DrawnList (w : World) (e : Ending) (w' : World) : Prop :=
  ∃ A c xs, e = .returned (.slice A xs.length c) ∧ Sl w' A (flat xs) ∧ xs.length ≤ 9 ∧ xs.length ≤ c ∧ (∀ a ∈ xs, DrawnAcc a) ∧ Below w.heap.size w w'
theorem drawFirstRace_any (A : Option Addr) (c : Nat) (zs : List Int) (w : World) (hl : zs.length ≤ 9223372036854775807) (hcap : zs.length ≤ c) (hs : Sl w A (u8s zs)) (hz : ∀ z ∈ zs, 0 ≤ z ∧ z ≤ 255) :
    Calls Try.prog 30 #[.slice A zs.length c] w (DrawnList w) := by
  go_enter Try.func30, Try.ntmps30
  go_wp2_with fail
  refine (l20Open_any _ _ _ _ hl hcap hs hz).mono ?_
  rintro e w1 ⟨br, rfl, hbr, r1, b1⟩
  go_wp2_with fail
  refine (l20Accesses_any _ _ _ (by omega) r1).mono ?_
  rintro e w2 ⟨A2, c2, xs, rfl, o2, hx, hd, r2, g2⟩
  have HD := mkHid hd
  have HO := mkHid o2
  have HB := mkHid (b1.grown g2 b1.size (by simpa using hbr))
  clear hd o2 g2 r2 r1 b1
  go_wp2_with fail
  go_ret
  exact ⟨A2, c2, xs, rfl, Sl.of_own HO.out, hx, own_cap HO.out, HD.out, HB.out⟩
theorem drawCellsWritten_any (A : Option Addr) (c : Nat) (zs : List Int) (w : World) (hl : zs.length ≤ 9223372036854775807) (hcap : zs.length ≤ c) (hs : Sl w A (u8s zs)) (hz : ∀ z ∈ zs, 0 ≤ z ∧ z ≤ 255) :
    Calls Try.prog 23 #[.slice A zs.length c] w (DrawnList w) := by
  go_enter Try.func23, Try.ntmps23
  go_wp2_with fail
  refine (l20Open_any _ _ _ _ hl hcap hs hz).mono ?_
  rintro e w1 ⟨br, rfl, hbr, r1, b1⟩
  go_wp2_with fail
  refine (l20Accesses_any _ _ _ (by omega) r1).mono ?_
  rintro e w2 ⟨A2, c2, xs, rfl, o2, hx, hd, r2, g2⟩
  have HD := mkHid hd
  have HO := mkHid o2
  have HB := mkHid (b1.grown g2 b1.size (by simpa using hbr))
  clear hd o2 g2 r2 r1 b1
  go_wp2_with fail
  go_ret
  exact ⟨A2, c2, xs, rfl, Sl.of_own HO.out, hx, own_cap HO.out, HD.out, HB.out⟩
theorem drawRaceCells_any (A : Option Addr) (c : Nat) (zs : List Int) (w : World) (hl : zs.length ≤ 9223372036854775807) (hcap : zs.length ≤ c) (hs : Sl w A (u8s zs)) (hz : ∀ z ∈ zs, 0 ≤ z ∧ z ≤ 255) :
    Calls Try.prog 33 #[.slice A zs.length c] w (DrawnList w) := by
  go_enter Try.func33, Try.ntmps33
  go_wp2_with fail
  refine (l20Open_any _ _ _ _ hl hcap hs hz).mono ?_
  rintro e w1 ⟨br, rfl, hbr, r1, b1⟩
  go_wp2_with fail
  refine (l20Accesses_any _ _ _ (by omega) r1).mono ?_
  rintro e w2 ⟨A2, c2, xs, rfl, o2, hx, hd, r2, g2⟩
  have HD := mkHid hd
  have HO := mkHid o2
  have HB := mkHid (b1.grown g2 b1.size (by simpa using hbr))
  clear hd o2 g2 r2 r1 b1
  go_wp2_with fail
  go_ret
  exact ⟨A2, c2, xs, rfl, Sl.of_own HO.out, hx, own_cap HO.out, HD.out, HB.out⟩
end Go.Proofs.Ytbhjicjcilneeaa
