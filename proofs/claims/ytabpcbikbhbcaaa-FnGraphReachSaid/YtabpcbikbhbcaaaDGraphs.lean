/-
  Contracts of the draws DrawGraphValid, DrawGraphBack, DrawGraphReach.
-/
import Derived.Test.YtabpcbikbhbcaaaDGraph
namespace Go.Proofs.Ytabpcbikbhbcaaa
open Go.RowKit
set_option maxHeartbeats 2000000
set_option linter.unusedVariables false

/-- a graph of the draw's. -/
def DrawnG (w : World) (e : Ending) (w' : World) : Prop :=
  ∃ A c rs, e = .returned (.slice A (List.length rs) c) ∧ Grid w' A rs ∧ 1 ≤ List.length rs ∧ List.length rs ≤ 65 ∧ (∀ r ∈ rs, r.zs.length ≤ 10) ∧ Below w.heap.size w w'
theorem drawGraphValid_any (A : Option Addr) (c : Nat) (zs : List Int) (w : World) (hl : zs.length ≤ 9223372036854775807) (hcap : zs.length ≤ c) (hs : Sl w A (u8s zs)) (hz : ∀ z ∈ zs, 0 ≤ z ∧ z ≤ 255) :
    Calls Try.prog 15 #[.slice A zs.length c] w fun e w' => ∃ A c rs, e = .returned (.slice A (List.length rs) c) ∧ Grid w' A rs ∧ 1 ≤ List.length rs ∧ List.length rs ≤ 65 ∧ (∀ r ∈ rs, r.zs.length ≤ 10) ∧ Below w.heap.size w w' ∧ List.length rs ≤ c := by
  go_enter Try.func15, Try.ntmps15
  go_wp2_with fail
  refine (l20Open_any _ _ _ _ hl hcap hs hz).mono ?_
  rintro e w1 ⟨br, rfl, hbr, r1, b1⟩
  have HB1 := mkHid b1
  clear b1 hs hz
  go_wp2_with fail
  refine (l20Graph_any _ _ _ _ (by omega) (by omega) (by omega) r1).mono ?_
  rintro e w2 ⟨A2, c2, rs, rfl, hg, h1, h2, h3, hr, hgw, hcp⟩
  have HG := mkHid (hg _ (World.grownBy.refl _ _))
  have HS := mkHid h3
  have HB2 := mkHid (HB1.out.grown hgw HB1.out.size (by simpa using hbr))
  clear hg h3 hr hgw r1
  go_wp2_with fail
  go_ret
  exact ⟨A2, c2, rs, rfl, HG.out, h1, h2, HS.out, HB2.out, hcp⟩
theorem drawGraphBack_any (A : Option Addr) (c : Nat) (zs : List Int) (w : World) (hl : zs.length ≤ 9223372036854775807) (hcap : zs.length ≤ c) (hs : Sl w A (u8s zs)) (hz : ∀ z ∈ zs, 0 ≤ z ∧ z ≤ 255) :
    Calls Try.prog 21 #[.slice A zs.length c] w (DrawnG w) := by
  go_enter Try.func21, Try.ntmps21
  go_wp2_with fail
  refine (l20Open_any _ _ _ _ hl hcap hs hz).mono ?_
  rintro e w1 ⟨br, rfl, hbr, r1, b1⟩
  have HB1 := mkHid b1
  clear b1 hs hz
  go_wp2_with fail
  refine (l20Graph_any _ _ _ _ (by omega) (by omega) (by omega) r1).mono ?_
  rintro e w2 ⟨A2, c2, rs, rfl, hg, h1, h2, h3, hr, hgw, hcp⟩
  have HG := mkHid (hg _ (World.grownBy.refl _ _))
  have HS := mkHid h3
  have HB2 := mkHid (HB1.out.grown hgw HB1.out.size (by simpa using hbr))
  clear hg h3 hr hgw r1
  go_wp2_with fail
  go_ret
  exact ⟨A2, c2, rs, rfl, HG.out, h1, h2, HS.out, HB2.out⟩
theorem drawGraphReach_any (A : Option Addr) (c : Nat) (zs : List Int) (w : World) (hl : zs.length ≤ 9223372036854775807) (hcap : zs.length ≤ c) (hs : Sl w A (u8s zs)) (hz : ∀ z ∈ zs, 0 ≤ z ∧ z ≤ 255) :
    Calls Try.prog 28 #[.slice A zs.length c] w fun e w' => ∃ A c rs a b, e = .returned (.tuple #[.slice A (List.length rs) c, .int .i64 a, .int .i64 b]) ∧ -1 ≤ a ∧ a ≤ List.length rs ∧ -1 ≤ b ∧ b ≤ List.length rs ∧ Grid w' A rs ∧ 1 ≤ List.length rs ∧ List.length rs ≤ 65 ∧ (∀ r ∈ rs, r.zs.length ≤ 10) ∧ Below w.heap.size w w' := by
  go_enter Try.func28, Try.ntmps28
  go_wp2_with fail
  refine (l20Open_any _ _ _ _ hl hcap hs hz).mono ?_
  rintro e w1 ⟨br, rfl, hbr, r1, b1⟩
  have HB1 := mkHid b1
  clear b1 hs hz
  go_wp2_with fail
  refine (l20Graph_any _ _ _ _ (by omega) (by omega) (by omega) r1).mono ?_
  rintro e w2 ⟨A2, c2, rs, rfl, hg, h1, h2, h3, hr, hgw, hcp⟩
  have HGA := mkHid hg
  have HS := mkHid h3
  have HR := mkHid hr
  have HB2 := mkHid (HB1.out.grown hgw HB1.out.size (by simpa using hbr))
  clear hg h3 hr hgw r1
  obtain ⟨n, hn⟩ : ∃ n, n = List.length rs := ⟨_, rfl⟩
  have HN := mkHid hn
  rw [← hn] at h1 h2 ⊢
  clear hn
  go_wp2_with fail
  refine (pick_any _ _ _ _ (by omega) HR.out).mono ?_
  rintro e w3 ⟨q, rfl, q0, q1, r, gr⟩
  have q1 := q1 (by omega)
  have HR3 := mkHid r
  have HW3 := mkHid gr
  have HB3 := mkHid (HB2.out.grown gr HB2.out.size (by simpa using hbr))
  clear r gr
  go_wp2_with fail
  refine (pick_any _ _ _ _ (by omega) HR3.out).mono ?_
  rintro e w4 ⟨p, rfl, p0, p1, r, gr⟩
  have p1 := p1 (by omega)
  have HR4 := mkHid r
  have HW4 := mkHid (grown_trans HW3.out gr)
  have HB4 := mkHid (HB3.out.grown gr HB3.out.size (by simpa using hbr))
  clear r gr
  go_wp2_with fail
  refine (pick_any _ _ _ _ (by omega) HR4.out).mono ?_
  rintro e w5 ⟨k, rfl, k0, k1, r, gr⟩
  have k1 := k1 (by omega)
  have HG5 := mkHid (HGA.out _ (grown_trans HW4.out gr))
  have HB5 := mkHid (HB4.out.grown gr HB4.out.size (by simpa using hbr))
  clear r gr
  go_wp2_with fail
  go_ret3
  refine ⟨A2, c2, rs, _, _, by rw [← HN.out]; rfl, ?_, ?_, ?_, ?_, HG5.out, by rw [← HN.out]; exact h1, by rw [← HN.out]; exact h2, HS.out, HB5.out⟩
  all_goals first | (rw [← HN.out]; omega) | omega
end Go.Proofs.Ytabpcbikbhbcaaa
