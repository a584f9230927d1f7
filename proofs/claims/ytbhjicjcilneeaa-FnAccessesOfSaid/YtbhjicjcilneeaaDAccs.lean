/-
  Contract of the draw of a list of accesses: l20Accesses.
-/
import Derived.Test.YtbhjicjcilneeaaCAccS2
import Derived.Test.YtbhjicjcilneeaaCDraw
import Derived.Test.YtbhjicjcilneeaaLib2
namespace Go.Proofs.Ytbhjicjcilneeaa
open Go.RowKit
set_option maxHeartbeats 400000
set_option linter.unusedVariables false

/-- what is drawn lies within these bounds. -/
def DrawnAcc (a : Acc) : Prop := (0 ≤ a.who ∧ a.who ≤ 2) ∧ (0 ≤ a.cell ∧ a.cell ≤ 4) ∧ (0 ≤ a.phase ∧ a.phase ≤ 2)
def DrawnAccs (br N : Nat) (w : World) (e : Ending) (w' : World) : Prop :=
  ∃ A c xs, e = .returned (.slice A xs.length c) ∧ w'.ownsRow w.heap.size 35 4 (.slice A xs.length c) xs.length (flat xs) ∧ xs.length ≤ 9 ∧ (∀ a ∈ xs, DrawnAcc a) ∧ Rd w' br (N + 37) ∧ w.grownBy w' (some br)
theorem l20Accesses_any (br N : Nat) (w : World) (hN : N ≤ 900000000) (h : Rd w br N) :
    Calls Try.prog 39 #[.pointer (some ⟨br, 0, none⟩)] w (DrawnAccs br N w) := by
  have hlt0 := h.lt
  go_enter Try.func39, Try.ntmps39
  go_wp2_with fail
  refine (pick_any _ _ N _ (by omega) (h.below ((Below.refl _ _).alloc (Nat.le_refl _) _))).mono ?_
  rintro e w1 ⟨r, rfl, hr0, hr1, r1, g1⟩
  have hr1' := hr1 (by omega)
  have o1 := own_grown (own_empty w 35 4) g1 (by simp [Value.ownBlock]; omega)
  have G1 : w.grownBy w1 (some br) := grown_trans (World.grownBy_alloc _ _ _) g1
  clear hr1
  have HO1 := mkHid o1
  have HG1 := mkHid G1
  clear o1 G1 g1 h
  obtain ⟨j0, rfl⟩ := Int.eq_ofNat_of_zero_le hr0
  go_wp2_with fail
  go_loopw [3, 4] (fun v i wr => ∃ j : Nat, i = .int .i64 j ∧ ∃ A c xs, v = .slice A xs.length c ∧ wr.ownsRow w.heap.size 35 4 (.slice A xs.length c) xs.length (flat xs) ∧ xs.length + j ≤ 9 ∧ (∀ a ∈ xs, DrawnAcc a) ∧ Rd wr br (N + 1 + 4 * xs.length) ∧ w.grownBy wr (some br)) (fun _ i _ => (intOf i).toNat)
  case atStart => exact ⟨j0, rfl, _, 0, [], rfl, HO1.out, by simp; omega, by simp, r1, HG1.out⟩
  case round =>
    obtain ⟨j, rfl, A, c, xs, rfl, hown, hj, hd, hrd, hgr⟩ := hrel
    have hsz := hgr.size
    have HO := mkHid hown
    have HG := mkHid hgr
    have HD := mkHid hd
    clear hown hgr hd r1
    by_cases hlt : 0 < j
    · go_wp2_with fail
      refine (pick_any _ _ _ _ (by omega) hrd).mono ?_
      rintro e w2 ⟨q1, rfl, a1, a1', r2, g2⟩
      have a1' := a1' (by omega)
      have HG2 := mkHid g2
      clear g2
      go_wp2_with fail
      refine (pick_any _ _ _ _ (by omega) r2).mono ?_
      rintro e w3 ⟨q2, rfl, a2, a2', r3, g3⟩
      have a2' := a2' (by omega)
      have HG3 := mkHid g3
      clear g3
      go_wp2_with fail
      refine (pick_any _ _ _ _ (by omega) r3).mono ?_
      rintro e w4 ⟨q3, rfl, a3, a3', r4, g4⟩
      have a3' := a3' (by omega)
      have HG4 := mkHid g4
      clear g4
      go_wp2_with fail
      refine (pick_any _ _ _ _ (by omega) r4).mono ?_
      rintro e w5 ⟨q4, rfl, a4, a4', r5, g5⟩
      have a4' := a4' (by omega)
      have HR := mkHid r5
      have HG5 := mkHid (grown_trans (grown_trans (grown_trans HG2.out HG3.out) HG4.out) g5)
      have hsz5 := HG5.out.size
      have HO5 := mkHid (own_grown HO.out HG5.out (fun g e => by have := (HO.out.lt g e).1; omega))
      clear g5 r5 hrd r2 r3 r4
      go_wp2_with (at_builtin; refine wpList_app Ea (HO5.out.alloc _) (newCells _ _ _) rfl (by simp [Value.oneCell']) (by omega) (by omega) (by simp; omega) rfl rfl rfl rfl ?_; intro A' c' w6 hown6 hg6; have HO6 := mkHid hown6; have HG6 := mkHid hg6; clear hown6 hg6)
      go_roundw
      case rel =>
        refine ⟨j - 1, by congr 1; omega, A', c', xs ++ [⟨q1, q2, q3 == 0, q4⟩], by simp, ?_, by simp; omega, ?_, ?_, ?_⟩
        · have := HO6.out
          rw [flat_append, List.length_append]
          exact this
        · intro a ha
          rcases List.mem_append.1 ha with h | h
          · exact HD.out a h
          · simp only [List.mem_singleton] at h
            subst h
            exact ⟨⟨a1, by show q1 ≤ 2; omega⟩, ⟨a2, by show q2 ≤ 4; omega⟩, ⟨a4, by show q4 ≤ 2; omega⟩⟩
        · refine Rd.mono (N := N + 1 + 4 * xs.length + 1 + 1 + 1 + 1) ?_ (by simp; omega)
          exact (HR.out.below ((Below.refl _ _).alloc (Nat.le_refl _) _)).app (HO5.out.alloc _) hlt0 HG6.out
        · exact grown_app (grown_trans HG.out (grown_trans HG5.out (World.grownBy_alloc _ _ _))) (HO5.out.alloc _) (Nat.le_refl _) HG6.out
      case measure => simp [intOf]; omega
    · have : j = 0 := by omega
      subst this
      have HR := mkHid hrd
      clear hrd
      go_wp2_with fail
      go_ret
      exact ⟨A, c, xs, rfl, HO.out, by omega, HD.out, HR.out.mono (by omega), HG.out⟩
end Go.Proofs.Ytbhjicjcilneeaa
