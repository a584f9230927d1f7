/-
  Contracts of StrideCells: the program's and the reference's return the same cells, in memory of their own.
-/
import Derived.Test.YtjgmghlgjjfifaaCNum
import Derived.Test.YtjgmghlgjjfifaaCInts
import Derived.Test.YtjgmghlgjjfifaaLib2
namespace Go.Proofs.Ytjgmghlgjjfifaa
open Go.RowKit
set_option maxHeartbeats 400000
set_option linter.unusedVariables false

def strideUpto (base stride : Int) (n : Nat) : List Int := (List.range n).map fun k : Nat => (base + (k : Int) * stride) % 256
def strideCells (base stride lanes : Int) : List Int := if inB base 0 255 && inB stride 0 255 && inB lanes 1 8 then strideUpto base stride lanes.toNat else []
theorem strideUpto_length (b s : Int) (n : Nat) : (strideUpto b s n).length = n := by simp [strideUpto]
theorem strideUpto_succ (b s : Int) (n : Nat) : strideUpto b s (n + 1) = strideUpto b s n ++ [(b + (n : Int) * s) % 256] := by simp [strideUpto, List.range_succ]
theorem stride_yes {b s l : Int} (h : 0 ≤ b ∧ b ≤ 255) (h' : 0 ≤ s ∧ s ≤ 255) (h'' : 1 ≤ l ∧ l ≤ 8) : strideCells b s l = strideUpto b s l.toNat := by
  simp [strideCells, inB_of h.1 h.2, inB_of h'.1 h'.2, inB_of h''.1 h''.2]
theorem stride_no {b s l : Int} (h : b < 0 ∨ 255 < b ∨ s < 0 ∨ 255 < s ∨ l < 1 ∨ 8 < l) : strideCells b s l = [] := by
  unfold strideCells
  rw [if_neg]
  intro k
  simp only [Bool.and_eq_true] at k
  have h1 := inB_t k.1.1
  have h2 := inB_t k.1.2
  have h3 := inB_t k.2
  omega

theorem RetInts_nil {w w' : World} (h : Below w.heap.size w w') : RetInts [] w (.returned (.slice none 0 0)) w' := ⟨none, 0, rfl, World.ownsRow_nil _ _ _ _, h⟩

theorem implStrideCells_any (b s l : Int) (w : World) :
    Calls Try.prog 24 #[.int .i64 b, .int .i64 s, .int .i64 l] w (RetInts (strideCells b s l) w) := by
  go_enter Try.func24, Try.ntmps24
  go_wp2_with (first | (go_at_call 48; refine (isCell_ways _ _).mono ?_; rintro e w' ⟨⟨hh, rfl⟩ | ⟨hh, rfl⟩, rfl⟩) | (go_at_call 49; refine (isLanes_ways _ _).mono ?_; rintro e w' ⟨⟨hh, rfl⟩ | ⟨hh, rfl⟩, rfl⟩))
  · have H0 := mkHid (stride_yes (b := b) (s := s) (l := l) (by omega) (by omega) (by omega))
    obtain ⟨n, rfl⟩ : ∃ n : Nat, l = n := ⟨l.toNat, by omega⟩
    go_loopw [7, 23] (fun v i wr => ∃ k : Nat, k ≤ n ∧ i = .int .i64 k ∧ (∃ A c, v = .slice A k c ∧ wr.ownsRow w.heap.size 3 1 (.slice A k c) k (ints (strideUpto b s k))) ∧ Below w.heap.size w wr) (fun _ i _ => n - (intOf i).toNat)
    case atStart => exact ⟨0, by omega, rfl, ⟨none, 0, rfl, World.ownsRow_nil _ _ _ _⟩, Below.refl _ _⟩
    case round =>
      obtain ⟨k, hk, rfl, ⟨A, c, rfl, hown⟩, hbel⟩ := hrel
      have hsz := hbel.size
      have HB := mkHid hbel
      have HO := mkHid hown
      clear hbel hown
      by_cases hlt : k < n
      · have hm1 : 0 ≤ (k : Int) * s := Int.mul_nonneg (by omega) (by omega)
        have hm2 : (k : Int) * s ≤ 8 * 255 := Int.mul_le_mul (by omega) (by omega) (by omega) (by omega)
        go_wp2_with (at_builtin; refine wpList_app Ei (HO.out.alloc _) (newCells _ _ _) rfl (by simp [Value.oneCell']) (by omega) (by omega) (by simp; omega) rfl rfl rfl rfl ?_; intro A' c' w1 hown1 hg1; have HO1 := mkHid hown1; have HG1 := mkHid hg1; clear hown1 hg1)
        go_roundw
        case rel =>
          refine ⟨k + 1, by omega, by go_num, ⟨A', c', rfl, ?_⟩, ?_⟩
          · rw [strideUpto_succ]
            simpa [ints] using HO1.out
          · exact (HB.out.alloc hsz _).grown HG1.out (by simp; omega) (fun g hg => (HO.out.lt g hg).1)
        case measure => simp [intOf]; omega
      · have : k = n := by omega
        subst this
        go_wp2
        go_ret
        refine ⟨A, c, ?_, ?_, HB.out⟩
        · rw [H0.out]; simp [strideUpto_length]
        · rw [H0.out]; simpa [strideUpto_length] using HO.out
  all_goals go_ret
  all_goals rw [stride_no (by omega)]
  all_goals exact RetInts_nil (Below.refl _ _)

theorem specStrideCells_any (b s l : Int) (w : World) :
    Calls Try.prog 26 #[.int .i64 b, .int .i64 s, .int .i64 l] w (RetInts (strideCells b s l) w) := by
  by_cases hv : (0 ≤ b ∧ b ≤ 255) ∧ (0 ≤ s ∧ s ≤ 255) ∧ (1 ≤ l ∧ l ≤ 8)
  · obtain ⟨hv1, hv2, hv3⟩ := hv
    have H0 := mkHid (stride_yes hv1 hv2 hv3)
    obtain ⟨n, rfl⟩ : ∃ n : Nat, l = n := ⟨l.toNat, by omega⟩
    have i1 := inB_of hv1.1 hv1.2
    have i2 := inB_of hv2.1 hv2.2
    have i3 := inB_of hv3.1 hv3.2
    go_enter Try.func26, Try.ntmps26
    go_wp2
    go_loopw [7, 8] (fun v i wr => ∃ k : Nat, k ≤ n ∧ i = .int .i64 k ∧ (∃ A c, v = .slice A k c ∧ wr.ownsRow w.heap.size 3 1 (.slice A k c) k (ints (strideUpto b s k))) ∧ Below w.heap.size w wr) (fun _ i _ => n - (intOf i).toNat)
    case atStart => exact ⟨0, by omega, rfl, ⟨_, 0, rfl, own_empty w _ _⟩, (Below.refl _ _).alloc (Nat.le_refl _) _⟩
    case round =>
      obtain ⟨k, hk, rfl, ⟨A, c, rfl, hown⟩, hbel⟩ := hrel
      have hsz := hbel.size
      have HB := mkHid hbel
      have HO := mkHid hown
      clear hbel hown
      by_cases hlt : k < n
      · have hm1 : 0 ≤ (k : Int) * s := Int.mul_nonneg (by omega) (by omega)
        have hm2 : (k : Int) * s ≤ 8 * 255 := Int.mul_le_mul (by omega) (by omega) (by omega) (by omega)
        go_wp2_with (first | (go_at_call 41; refine (l1In_any _ _ _ _).mono ?_; rintro e w' ⟨rfl, rfl⟩) | (at_builtin; refine wpList_app Ei (HO.out.alloc _) (newCells _ _ _) rfl (by simp [Value.oneCell']) (by omega) (by omega) (by simp; omega) rfl rfl rfl rfl ?_; intro A' c' w1 hown1 hg1; have HO1 := mkHid hown1; have HG1 := mkHid hg1; clear hown1 hg1))
        go_roundw
        case rel =>
          refine ⟨k + 1, by omega, by go_num, ⟨A', c', rfl, ?_⟩, ?_⟩
          · rw [strideUpto_succ]
            simpa [ints] using HO1.out
          · exact (HB.out.alloc hsz _).grown HG1.out (by simp; omega) (fun g hg => (HO.out.lt g hg).1)
        case measure => simp [intOf]; omega
      · have : k = n := by omega
        subst this
        go_wp2
        go_ret
        refine ⟨A, c, ?_, ?_, HB.out⟩
        · rw [H0.out]; simp [strideUpto_length]
        · rw [H0.out]; simpa [strideUpto_length] using HO.out
  · have H0 := mkHid (stride_no (b := b) (s := s) (l := l) (by omega))
    have hv' : b < 0 ∨ 255 < b ∨ s < 0 ∨ 255 < s ∨ l < 1 ∨ 8 < l := by omega
    clear hv
    go_enter Try.func26, Try.ntmps26
    go_wp2
    go_loopw [7, 8] (fun v i wr => v = .slice (some ⟨w.heap.size, 0, none⟩) 0 0 ∧ i = .int .i64 0 ∧ wr = w.alloc (.cells #[] 3)) (fun _ _ _ => 0)
    case atStart => exact ⟨rfl, rfl, rfl⟩
    case round =>
      obtain ⟨rfl, rfl, rfl⟩ := hrel
      go_wp2_with (go_at_call 41; refine (l1In_ways _ _ _ _).mono ?_; rintro e w' ⟨⟨hh, rfl⟩ | ⟨hh, rfl⟩, rfl⟩; all_goals (try (exfalso; omega)))
      all_goals go_ret
      all_goals rw [H0.out]
      all_goals exact ⟨_, _, rfl, own_empty w _ _, (Below.refl _ _).alloc (Nat.le_refl _) _⟩
end Go.Proofs.Ytjgmghlgjjfifaa
