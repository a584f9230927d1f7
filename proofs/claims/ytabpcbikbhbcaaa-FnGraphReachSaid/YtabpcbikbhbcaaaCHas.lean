/-
  Contracts of slices.Index and slices.Contains at []int.
-/
import Derived.Test.YtabpcbikbhbcaaaCInts
namespace Go.Proofs.Ytabpcbikbhbcaaa
open Go.RowKit
set_option maxHeartbeats 1000000
set_option linter.unusedVariables false

def hasB (ys : List Int) (z : Int) : Bool := ys.any fun y => y == z
def RetIdxI (z : Int) (os : List Int) (w : World) (e : Ending) (w' : World) : Prop :=
  ((∃ i : Nat, e = .returned (.int .i64 i) ∧ hasB os z = true) ∨ (e = .returned (.int .i64 (-1)) ∧ hasB os z = false)) ∧ w = w'
theorem hasB_take (os : List Int) (z : Int) (k : Nat) (h : k < os.length) : hasB (os.take (k + 1)) z = (hasB (os.take k) z || os[k] == z) := by
  unfold hasB
  rw [List.take_succ_eq_append_getElem h, List.any_append]; simp
theorem index_any (A : Option Addr) (c : Nat) (os : List Int) (z : Int) (w : World) (hn : os.length ≤ 9223372036854775807) (hs : Sl w A (ints os)) :
    Calls Try.prog 48 #[.slice A os.length c, .int .i64 z] w (RetIdxI z os w) := by
  go_enter Try.func48, Try.ntmps48
  go_wp2_with fail
  go_loop [8] (fun i => ∃ k : Nat, k ≤ os.length ∧ i = .int .i64 k ∧ Hid (hasB (os.take k) z = false)) (fun i => os.length - (intOf i).toNat)
  case atStart => exact ⟨0, by omega, rfl, mkHid (by simp [hasB])⟩
  case round =>
    obtain ⟨k, hk, rfl, HH⟩ := hrel
    by_cases hlt : k < os.length
    · obtain ⟨bb, off, rfl, hc⟩ := hs.at_ (k := k) (by simpa using hlt)
      have h1 : w.cell? ⟨bb, off + k, none⟩ = some (.int .i64 os[k]) := hc k _ (ints_at hlt)
      have HS := mkHid (hasB_take os z k hlt)
      have HM : Hid (os[k] ∈ os) := mkHid (List.getElem_mem hlt)
      obtain ⟨y, hy⟩ : ∃ y, y = os[k] := ⟨_, rfl⟩
      rw [← hy] at h1 HS HM
      clear hc hy
      cases hq : z == y with
      | true =>
        have HQ := mkHid hq
        go_wp2_with fail
        go_ret
        refine ⟨.inl ⟨k, rfl, ?_⟩, rfl⟩
        unfold hasB
        rw [List.any_eq_true]
        exact ⟨y, HM.out, by have := HQ.out; rw [beq_iff_eq] at this ⊢; exact this.symm⟩
      | false =>
        have HQ := mkHid hq
        go_wp2_with fail
        go_round
        case rel =>
          refine ⟨k + 1, by omega, by go_num, mkHid ?_⟩
          rw [HS.out, HH.out, Bool.false_or]
          have := HQ.out
          rw [beq_eq_false_iff_ne] at this ⊢
          exact fun e => this e.symm
        case measure => simp [intOf] <;> omega
    · have : k = os.length := by omega
      subst this
      go_wp2_with fail
      go_ret
      exact ⟨.inr ⟨rfl, by have := HH.out; rwa [List.take_length] at this⟩, rfl⟩
theorem contains_any (A : Option Addr) (c : Nat) (os : List Int) (z : Int) (w : World) (hn : os.length ≤ 9223372036854775807) (hs : Sl w A (ints os)) :
    Calls Try.prog 35 #[.slice A os.length c, .int .i64 z] w fun e w' => e = .returned (.bool (hasB os z)) ∧ w = w' := by
  go_enter Try.func35, Try.ntmps35
  go_wp2_with fail
  refine (index_any _ _ _ _ _ hn hs).mono ?_
  rintro e w1 ⟨⟨i, rfl, hp⟩ | ⟨rfl, hp⟩, rfl⟩
  all_goals (
    have HP := mkHid hp
    clear hp
    go_wp2_with fail
    go_ret
    exact ⟨ret_bool HP.out.symm, rfl⟩)
end Go.Proofs.Ytabpcbikbhbcaaa
