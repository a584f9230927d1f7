/-
  Contract of the draw DrawGraphOf, and of the program's CountOps.
-/
import Derived.Test.YtjgemgjpbanliaaDProg
import Derived.Test.YtjgemgjpbanliaaCGraphOf2
namespace Go.Proofs.Ytjgemgjpbanliaa
open Go.RowKit
set_option maxHeartbeats 2000000
set_option linter.unusedVariables false

theorem drawGraphOf_any (A : Option Addr) (c : Nat) (zs : List Int) (w : World) (hl : zs.length ≤ 9223372036854775807) (hcap : zs.length ≤ c) (hs : Sl w A (u8s zs)) (hz : ∀ z ∈ zs, 0 ≤ z ∧ z ≤ 255) :
    Calls Try.prog 22 #[.slice A zs.length c] w fun e w' => ∃ g c' ys, e = .returned (.slice (some ⟨g, 0, none⟩) (List.length ys) c') ∧ Sl w' (some ⟨g, 0, none⟩) (cflat ys) ∧ List.length ys ≤ 50 ∧ Below w.heap.size w w' := by
  go_enter Try.func22, Try.ntmps22
  go_wp2_with fail
  refine (l20Open_any _ _ _ _ hl hcap hs hz).mono ?_
  rintro e w1 ⟨br, rfl, hbr, r1, b1⟩
  have HB1 := mkHid b1
  clear b1 hs hz
  go_wp2_with fail
  refine (l20Program_any _ _ _ _ (by omega) (by omega) r1).mono ?_
  rintro e w2 ⟨g, c', ys, rfl, hy, ho⟩
  have HS := mkHid (Sl.of_own ho.2.1)
  have HB2 := mkHid (HB1.out.grown ho.2.2.2.2.1 HB1.out.size (by simpa using hbr))
  clear ho r1
  go_wp2_with fail
  go_ret
  exact ⟨g, c', ys, rfl, HS.out, hy, HB2.out⟩
def countOp (os : List Int) (z : Int) (k : Nat) : Nat := ((List.range k).filter fun j => opAt os j == z).length
theorem countOp_s (os : List Int) (z : Int) (k : Nat) : countOp os z (k + 1) = countOp os z k + if (opAt os k == z) = true then 1 else 0 := by
  unfold countOp
  rw [List.range_succ, List.filter_append, List.length_append]
  congr 1
  by_cases e : (opAt os k == z) = true
  · simp only [List.filter_cons, e, if_true, List.filter_nil, List.length_cons, List.length_nil]
  · simp only [List.filter_cons, e, List.filter_nil]; rfl
theorem countOp_le (os : List Int) (z : Int) (k : Nat) : countOp os z k ≤ k := by
  unfold countOp
  have := List.length_filter_le (fun j => opAt os j == z) (List.range k)
  simpa using this
theorem countOp_zero {os : List Int} {z : Int} {n : Nat} (h : countOp os z n = 0) : ∀ k, k < n → opAt os k ≠ z := by
  intro k hk e
  unfold countOp at h
  have h2 := List.eq_nil_of_length_eq_zero h
  have h3 := List.filter_eq_nil_iff.1 h2 k (List.mem_range.2 hk)
  exact h3 (by simpa using e)
theorem implCountOps_any (A : Option Addr) (c : Nat) (xs : List Cd) (z : Int) (w : World) (hv : progValid xs = true) (hs : Sl w A (cflat xs)) :
    Calls Try.prog 25 #[.slice A xs.length c, .int .i64 z] w fun e w' => e = .returned (.int .i64 (countOp (ops xs) z xs.length)) ∧ Below w.heap.size w w' := by
  have h40 := (progValid_yes hv).1
  have hV := implProgramValid_any A c xs w (by omega) hs
  rw [hv] at hV
  have HPV := mkHid hV
  have HS0 := mkHid hs
  have HAT := mkHid (show ∀ k (h : k < xs.length), opAt (ops xs) k = xs[k].op from fun k h => ops_at h)
  obtain ⟨os, hos⟩ : ∃ os, os = ops xs := ⟨_, rfl⟩
  rw [← hos] at HAT ⊢
  have HCS := mkHid (countOp_s os z)
  have hcl := countOp_le os z
  have HCL := mkHid hcl
  clear hs hV hv hos hcl
  go_enter Try.func25, Try.ntmps25
  go_wp2_with fail
  refine HPV.out.mono ?_
  rintro e w1 ⟨rfl, b1⟩
  have HB1 := mkHid b1
  clear b1
  go_wp2_with fail
  go_loopw [13, 5] (fun i v wr => ∃ k : Nat, k ≤ xs.length ∧ i = .int .i64 k ∧ ∃ m : Nat, v = .int .i64 m ∧ m ≤ k ∧ Hid (m = countOp os z k) ∧ Below w.heap.size w wr) (fun i _ _ => xs.length - (intOf i).toNat)
  case atStart => exact ⟨0, by omega, rfl, 0, rfl, by omega, mkHid rfl, HB1.out⟩
  case round =>
    obtain ⟨k, hk, rfl, m, rfl, hm, HM, hb⟩ := hrel
    have HB := mkHid hb
    have hsz := hb.size
    by_cases hlt : k < xs.length
    · obtain ⟨b0, off, hA, e0, e1, e2, e3⟩ := (HS0.out.below hb).cd hlt
      have hop := HAT.out k hlt
      obtain ⟨x, hx⟩ : ∃ x, x = xs[k] := ⟨_, rfl⟩
      rw [← hx] at e0 e1 e2 e3 hop
      obtain ⟨op, xa, xb, xc⟩ := x
      simp only at e0 e1 e2 e3 hop
      have HOP := mkHid hop
      subst hA
      have HB3 := mkHid (hb.alloc hsz (.cells #[.int .i64 op, .int .i64 xa, .int .i64 xb, .int .i64 xc] 44))
      clear hx hb hop
      cases hq : op == z with
      | true =>
        have HE := mkHid hq
        go_wp2_with fail
        go_roundw
        case rel => exact ⟨k + 1, by omega, by go_num, m + 1, by go_num, by omega, mkHid (by rw [HCS.out, HOP.out, HE.out, HM.out]; rfl), HB3.out⟩
        case measure => simp [intOf] <;> omega
      | false =>
        have HE := mkHid hq
        go_wp2_with fail
        go_roundw
        case rel => exact ⟨k + 1, by omega, by go_num, m, rfl, by omega, mkHid (by rw [HCS.out, HOP.out, HE.out, HM.out]; rfl), HB3.out⟩
        case measure => simp [intOf] <;> omega
    · have hke : k = xs.length := by omega
      subst hke
      clear hb
      go_wp2_with fail
      go_ret
      exact ⟨ret_int (by rw [HM.out]), HB.out⟩
end Go.Proofs.Ytjgemgjpbanliaa
