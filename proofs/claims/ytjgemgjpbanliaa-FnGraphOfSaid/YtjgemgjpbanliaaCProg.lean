/-
  Contracts of ProgramValid, of the program and of the reference, and of the reference's l4Opens, l4Around, l4End.
-/
import Derived.Test.YtjgemgjpbanliaaCBlk2
namespace Go.Proofs.Ytjgemgjpbanliaa
open Go.RowKit
set_option maxHeartbeats 2000000
set_option linter.unusedVariables false

def progValid (xs : List Cd) : Bool := decide (xs.length ≤ 40) && xs.all codeValid && balB (ops xs)
theorem progValid_no {xs : List Cd} {k : Nat} (hk : k < xs.length) (h : codeValid xs[k] = false) : progValid xs = false := by
  unfold progValid
  have : xs.all codeValid = false := by
    rw [List.all_eq_false]
    exact ⟨xs[k], List.getElem_mem hk, by simp [h]⟩
  rw [this, Bool.and_false, Bool.false_and]
theorem progValid_yes {xs : List Cd} (h : progValid xs = true) : xs.length ≤ 40 ∧ (∀ x ∈ xs, codeValid x = true) ∧ balB (ops xs) = true := by
  unfold progValid at h
  rw [Bool.and_eq_true, Bool.and_eq_true, decide_eq_true_eq, List.all_eq_true] at h
  exact ⟨h.1.1, h.1.2, h.2⟩
theorem implProgramValid_any (A : Option Addr) (c : Nat) (xs : List Cd) (w : World) (hl : xs.length ≤ 1048576) (hs : Sl w A (cflat xs)) :
    Calls Try.prog 32 #[.slice A xs.length c] w fun e w' => e = .returned (.bool (progValid xs)) ∧ Below w.heap.size w w' := by
  by_cases h40 : xs.length ≤ 40
  · have HV := mkHid (show progValid xs = (xs.all codeValid && balB (ops xs)) from by unfold progValid; rw [decide_eq_true h40, Bool.true_and])
    have HS0 := mkHid hs
    clear hs
    go_enter Try.func32, Try.ntmps32
    go_wp2_with fail
    go_loopw [13] (fun i wr => ∃ k : Nat, k ≤ xs.length ∧ i = .int .i64 k ∧ Hid ((xs.take k).all codeValid = true) ∧ Below w.heap.size w wr) (fun i _ => xs.length - (intOf i).toNat)
    case atStart => exact ⟨0, by omega, rfl, mkHid rfl, Below.refl _ _⟩
    case round =>
      obtain ⟨k, hk, rfl, HA, hb⟩ := hrel
      have HB := mkHid hb
      have hs' := HS0.out.below hb
      by_cases hlt : k < xs.length
      · obtain ⟨b0, off, rfl, e0, e1, e2, e3⟩ := hs'.cd hlt
        obtain ⟨x, hx⟩ : ∃ x, x = xs[k] := ⟨_, rfl⟩
        rw [← hx] at e0 e1 e2 e3
        obtain ⟨v, hv⟩ : ∃ v, v = codeValid x := ⟨_, rfl⟩
        obtain ⟨op, xa, xb, xc⟩ := x
        simp only at e0 e1 e2 e3
        have hC := implCodeValid_any ⟨op, xa, xb, xc⟩ (wr.alloc (.cells #[.int .i64 op, .int .i64 xa, .int .i64 xb, .int .i64 xc] 44))
        rw [← hv] at hC
        have HC := mkHid hC
        have HB2 := mkHid (hb.alloc hb.size (.cells #[.int .i64 op, .int .i64 xa, .int .i64 xb, .int .i64 xc] 44))
        have HX := mkHid (show codeValid xs[k] = v from by rw [← hx]; exact hv.symm)
        clear hC hs' hb hx hv
        go_wp2_with fail
        refine HC.out.mono ?_
        rintro e w2 ⟨rfl, b2⟩
        have HB3 := mkHid (HB2.out.trans (b2.mono HB2.out.size))
        clear b2
        cases v with
        | false =>
          go_wp2_with fail
          go_ret
          exact ⟨ret_bool (progValid_no hlt HX.out).symm, HB3.out⟩
        | true =>
          go_wp2_with fail
          go_roundw
          case rel => exact ⟨k + 1, by omega, by go_num, mkHid (by rw [List.take_succ_eq_append_getElem hlt, List.all_append, HA.out, Bool.true_and]; simp [HX.out]), HB3.out⟩
          case measure => simp [intOf] <;> omega
      · have hke : k = xs.length := by omega
        have hall : xs.all codeValid = true := by have := HA.out; rwa [List.take_of_length_le (by omega)] at this
        have hC := blocks_any A c xs wr (by omega) hs'
        have HC := mkHid hC
        have HVV := mkHid (show progValid xs = balB (ops xs) from by rw [HV.out, hall, Bool.true_and])
        clear hC hs' hb hall
        go_wp2_with fail
        refine HC.out.mono ?_
        rintro e w2 ⟨Av, Ov, rfl, b2, _⟩
        have HB3 := mkHid (HB.out.trans (b2.mono HB.out.size))
        clear b2
        go_wp2_with fail
        go_ret
        exact ⟨ret_bool HVV.out.symm, HB3.out⟩
  · have hgt : (40 : Int) < (xs.length : Int) := by omega
    have HV := mkHid (show progValid xs = false from by unfold progValid; rw [decide_eq_false h40]; rfl)
    clear h40
    go_enter Try.func32, Try.ntmps32
    go_wp2_with fail
    go_ret
    exact ⟨ret_bool HV.out.symm, Below.refl _ _⟩
theorem l4Opens_any (x : Cd) (w : World) : Calls Try.prog 50 #[cdV x] w fun e w' => e = .returned (.bool (opensB x.op)) ∧ Below w.heap.size w w' := by
  obtain ⟨op, a, b, c⟩ := x
  by_cases h11 : op = 11
  · subst h11
    go_enter Try.func50, Try.ntmps50
    go_wp2_with fail
    go_ret
    exact ⟨rfl, (Below.refl _ _).alloc (Nat.le_refl _) _⟩
  · by_cases h13 : op = 13
    · subst h13
      go_enter Try.func50, Try.ntmps50
      go_wp2_with fail
      go_ret
      exact ⟨rfl, (Below.refl _ _).alloc (Nat.le_refl _) _⟩
    · have n11 : (op == 11) = false := by simpa using h11
      have n13 : (op == 13) = false := by simpa using h13
      have HE := mkHid (show opensB op = false from by unfold opensB; rw [n11, n13]; rfl)
      clear h11 h13
      go_enter Try.func50, Try.ntmps50
      go_wp2_with fail
      go_ret
      exact ⟨ret_bool HE.out.symm, (Below.refl _ _).alloc (Nat.le_refl _) _⟩
end Go.Proofs.Ytjgemgjpbanliaa
