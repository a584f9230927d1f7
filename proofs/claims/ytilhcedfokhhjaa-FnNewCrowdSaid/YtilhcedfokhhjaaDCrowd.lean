/-
  Contract of the draw DrawNewCrowd.
-/
import Derived.Test.YtilhcedfokhhjaaDMemory
namespace Go.Proofs.Ytilhcedfokhhjaa
open Go.RowKit
set_option maxHeartbeats 1000000
set_option linter.unusedVariables false

theorem drawNewCrowd_any (A : Option Addr) (c : Nat) (zs : List Int) (w : World) (hl : zs.length ≤ 9223372036854775807) (hcap : zs.length ≤ c) (hs : Sl w A (u8s zs)) (hz : ∀ z ∈ zs, 0 ≤ z ∧ z ≤ 255) :
    Calls Try.prog 20 #[.slice A zs.length c] w fun e w' => ∃ n : Int, ∃ g c' ys, e = .returned (.tuple #[.int .i64 n, .slice (some ⟨g, 0, none⟩) ys.length c']) ∧ Sl w' (some ⟨g, 0, none⟩) (ints ys) ∧ ys.length ≤ 33 ∧ (-1 ≤ n ∧ n ≤ 9) ∧ (∀ z ∈ ys, smallLane z) ∧ Below w.heap.size w w' := by
  go_enter Try.func20, Try.ntmps20
  go_wp2_with fail
  refine (l20Open_any _ _ _ _ hl hcap hs hz).mono ?_
  rintro e w1 ⟨br, rfl, hbr, r1, b1⟩
  have HB1 := mkHid b1
  clear b1 hs hz
  go_wp2_with fail
  refine (pick_any _ _ _ _ (by omega) r1).mono ?_
  rintro e w2 ⟨q, rfl, q0, q1, r2, g2⟩
  have q1 := q1 (by omega)
  have HB2 := mkHid (HB1.out.grown g2 HB1.out.size (by simpa using hbr))
  clear g2 r1
  go_wp2_with fail
  refine (l20Memory_any _ _ _ _ (by omega) (by omega) r2).mono ?_
  rintro e w3 ⟨g, c', ys, rfl, ho, hy, hd, hr, hg⟩
  have HS := mkHid (Sl.of_own ho)
  have HD := mkHid hd
  have HB3 := mkHid (HB2.out.grown hg HB2.out.size (by simpa using hbr))
  clear ho hd hr hg r2
  go_wp2_with fail
  go_ret2
  exact ⟨q - 1, g, c', ys, rfl, HS.out, hy, by omega, HD.out, HB3.out⟩
end Go.Proofs.Ytilhcedfokhhjaa
