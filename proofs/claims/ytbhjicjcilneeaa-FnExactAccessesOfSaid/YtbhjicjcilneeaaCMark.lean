/-
  Contracts of the laws' helpers markAccessS, heldAccessS.
-/
import Derived.Test.YtbhjicjcilneeaaCAccS2
namespace Go.Proofs.Ytbhjicjcilneeaa
open Go.RowKit
set_option maxHeartbeats 800000
set_option linter.unusedVariables false

def markAcc (k : Int) (i : Nat) : Acc := ⟨k + 4 * i, k + 4 * i + 1, (k + 4 * i + 1 + 1) % 3 == 0, k + 4 * i + 1 + 1 + 1⟩
def markAccs (k : Int) (n : Nat) : List Acc := (List.range n).map (markAcc k)
theorem markAccs_length (k : Int) (n : Nat) : (markAccs k n).length = n := by simp [markAccs]
theorem markAccs_at (k : Int) (n i : Nat) (h : i < (markAccs k n).length) : (markAccs k n)[i] = markAcc k i := by simp [markAccs]
theorem markAccs_step (k : Int) (xs : List Acc) (i : Nat) (h : i < xs.length) : (markAccs k i ++ xs.drop i).set i (markAcc k i) = markAccs k (i + 1) ++ xs.drop (i + 1) := by
  have h1 : xs.drop i = xs[i] :: xs.drop (i + 1) := List.drop_eq_getElem_cons h
  rw [h1, List.set_append_right _ _ (by simp [markAccs_length])]
  have h2 : markAccs k (i + 1) = markAccs k i ++ [markAcc k i] := by simp [markAccs, List.range_succ]
  rw [markAccs_length, Nat.sub_self, List.set_cons_zero, h2]
  simp only [List.append_assoc, List.singleton_append]
theorem markAccessS_any (A : Option Addr) (c : Nat) (xs : List Acc) (k0 : Int) (base : Nat) (w : World) (hk0 : 0 ≤ k0) (hk1 : k0 ≤ 2000000000) (hn : xs.length ≤ 2000000000)
    (hown : w.ownsRow base 35 4 (.slice A xs.length c) xs.length (flat xs)) :
    Calls Try.prog 21 #[.slice A xs.length c, .int .i64 k0] w fun e w' =>
      e = .returned (.int .i64 (k0 + 4 * xs.length)) ∧ w'.ownsRow base 35 4 (.slice A xs.length c) xs.length (flat (markAccs k0 xs.length)) ∧ w.grownBy w' (Value.slice A xs.length c).ownBlock := by
  go_enter Try.func21, Try.ntmps21
  go_wp2
  go_loopw [1, 5] (fun kv i wr => ∃ k : Nat, k ≤ xs.length ∧ i = .int .i64 k ∧ kv = .int .i64 (k0 + 4 * k) ∧ wr.ownsRow base 35 4 (.slice A xs.length c) xs.length (flat (markAccs k0 k ++ xs.drop k)) ∧ w.grownBy wr (Value.slice A xs.length c).ownBlock) (fun _ i _ => xs.length - (intOf i).toNat)
  case atStart => exact ⟨0, by omega, rfl, by simp, by simpa [markAccs] using hown, World.grownBy.refl _ _⟩
  case round =>
    obtain ⟨k, hk, rfl, rfl, hownr, hgr⟩ := hrel
    clear hown
    by_cases hlt : k < xs.length
    · have hkl : k < (markAccs k0 k ++ xs.drop k).length := by simp [markAccs_length]; omega
      obtain ⟨b, off, hA, _⟩ := (Sl.of_own hownr).acc hkl
      have hform := own_open hownr (i := 0) (by rw [flat_length]; omega)
      obtain ⟨g, hA', hgb, hgs, _⟩ := hform
      subst hA'
      clear hA
      have HO := mkHid (own_acc hownr hkl (markAcc k0 k))
      have HS := mkHid (markAccs_step k0 xs k hlt)
      have HG := mkHid (grown_set4 hgr (k * 4) (k * 4 + 1) (k * 4 + 2) (k * 4 + 3) (.int .i64 (markAcc k0 k).who) (.int .i64 (markAcc k0 k).cell) (.bool (markAcc k0 k).write) (.int .i64 (markAcc k0 k).phase))
      clear hownr hgr
      obtain ⟨⟨p0, p1, p2, p3⟩, ⟨f0, f1, f2, f3⟩, _⟩ := HO.out
      go_wp2
      go_roundw
      case rel =>
        refine ⟨k + 1, by omega, by go_num, by congr 1; omega, ?_, ?_⟩
        · rw [← HS.out]
          exact HO.out.2.2
        · exact HG.out
      case measure => simp [intOf]; omega
    · have : k = xs.length := by omega
      subst this
      have HO := mkHid hownr
      have HG := mkHid hgr
      clear hownr hgr
      go_wp2
      go_ret
      exact ⟨rfl, by simpa using HO.out, HG.out⟩
theorem heldAccessS_any (A : Option Addr) (c : Nat) (n : Nat) (k0 : Int) (w : World) (hk0 : 0 ≤ k0) (hk1 : k0 ≤ 2000000000) (hn : n ≤ 2000000000) (hs : Sl w A (flat (markAccs k0 n))) :
    Calls Try.prog 22 #[.slice A n c, .int .i64 k0] w fun e w' => e = .returned (.int .i64 (k0 + 4 * n)) ∧ w = w' := by
  go_enter Try.func22, Try.ntmps22
  go_wp2
  go_loop [1, 5] (fun kv i => ∃ k : Nat, k ≤ n ∧ i = .int .i64 k ∧ kv = .int .i64 (k0 + 4 * k)) (fun _ i => n - (intOf i).toNat)
  case atStart => exact ⟨0, by omega, rfl, by simp⟩
  case round =>
    obtain ⟨k, hk, rfl, rfl⟩ := hrel
    by_cases hlt : k < n
    · have hkl : k < (markAccs k0 n).length := by rw [markAccs_length]; exact hlt
      obtain ⟨b, off, rfl, h0, h1, h2, h3⟩ := hs.acc hkl
      rw [markAccs_at] at h0 h1 h2 h3
      simp only [markAcc] at h0 h1 h2 h3
      clear hs hkl
      go_wp2
      go_round
      case rel => exact ⟨k + 1, by omega, by go_num, by congr 1; omega⟩
      case measure => simp [intOf]; omega
    · have : k = n := by omega
      subst this
      go_wp2
      go_ret
      exact ⟨rfl, rfl⟩
end Go.Proofs.Ytbhjicjcilneeaa
