/-
  Contracts of BarriersFlat, of the program and of the reference.
-/
import Derived.Test.YtjgemgjpbanliaaCProg2
import Derived.Test.YtjgemgjpbanliaaCAround
namespace Go.Proofs.Ytjgemgjpbanliaa
open Go.RowKit
set_option maxHeartbeats 2000000
set_option linter.unusedVariables false

def barAt (os : List Int) (k : Nat) : Bool := opAt os k == 10 && !(stk os k).isEmpty
def barUpto (os : List Int) (k : Nat) : Bool := (List.range k).all fun j => !barAt os j
theorem barUpto_s (os : List Int) (k : Nat) : barUpto os (k + 1) = (barUpto os k && !barAt os k) := by simp [barUpto, List.range_succ, List.all_append]
def barFlat (xs : List Cd) : Bool := progValid xs && barUpto (ops xs) xs.length
theorem barFlat_no {xs : List Cd} {k : Nat} (hk : k < xs.length) (h : barAt (ops xs) k = true) : barFlat xs = false := by
  unfold barFlat
  have : barUpto (ops xs) xs.length = false := by
    unfold barUpto
    rw [List.all_eq_false]
    exact ⟨k, List.mem_range.2 hk, by simp [h]⟩
  rw [this, Bool.and_false]
theorem flat_top {os : List Int} {k : Nat} (h : okUpto os k = true) : decide (0 ≤ arnd os k 0) = !(stk os k).isEmpty := by
  rw [arnd_top h]
  unfold topOf
  cases hl : (stk os k).getLast? with
  | none => rw [stk_some hl]; rfl
  | some b =>
    cases hq : stk os k with
    | nil => rw [hq] at hl; cases hl
    | cons a t => simp
theorem progValid_ok {xs : List Cd} (h : progValid xs = true) {k : Nat} (hk : k ≤ xs.length) : okUpto (ops xs) k = true := by
  have := (progValid_yes h).2.2
  unfold balB at this
  rw [Bool.and_eq_true, ops_len] at this
  exact okUpto_le this.1 hk
/-- where the row around a place lies. -/
theorem BlkInv.rowAt {w : World} {os : List Int} {n base R O k : Nat} {P : Nat → Nat} {Rw : Nat → Nat × Nat} {S : Value} (h : BlkInv w os n n n base R O P Rw S) (hk : k < n) :
    w.cell? ⟨R, k, none⟩ = some (.slice (some ⟨(Rw k).1, 0, none⟩) (stk os k).length (Rw k).2) := by
  rw [h.hR.cellAt k (by omega)]
  unfold rowL
  rw [List.getElem?_append_left (by simp; exact hk), List.getElem?_map, List.getElem?_range hk]
  rfl
theorem implBarriersFlat_any (A : Option Addr) (c : Nat) (xs : List Cd) (w : World) (hl : xs.length ≤ 1048576) (hs : Sl w A (cflat xs)) :
    Calls Try.prog 12 #[.slice A xs.length c] w fun e w' => e = .returned (.bool (barFlat xs)) ∧ Below w.heap.size w w' := by
  have hV := implProgramValid_any A c xs w hl hs
  obtain ⟨v, hv⟩ : ∃ v, v = progValid xs := ⟨_, rfl⟩
  rw [← hv] at hV
  have HPV := mkHid hV
  have HVV := mkHid hv
  have HS0 := mkHid hs
  clear hs hV hv
  go_enter Try.func12, Try.ntmps12
  go_wp2_with fail
  refine HPV.out.mono ?_
  rintro e w1 ⟨rfl, b1⟩
  have HB1 := mkHid b1
  clear b1
  cases v with
  | false =>
    go_wp2_with fail
    go_ret
    exact ⟨ret_bool (by unfold barFlat; rw [← HVV.out]; rfl), HB1.out⟩
  | true =>
    have h40 := (progValid_yes HVV.out.symm).1
    have HBAL := mkHid (progValid_yes HVV.out.symm).2.2
    have HBL := mkHid (blocks_any A c xs w1 (by omega) (HS0.out.below HB1.out))
    go_wp2_with fail
    refine HBL.out.mono ?_
    rintro e w2 ⟨Av, Ov, rfl, b2, hbr⟩
    obtain ⟨R, O, P, Rw, S, rfl, rfl, hI⟩ := hbr HBAL.out
    have HB2 := mkHid (below_then HB1.out b2)
    have HI := mkHid hI
    have HAT := mkHid (show ∀ k (h : k < xs.length), opAt (ops xs) k = xs[k].op from fun k h => ops_at h)
    have HF := mkHid (show ∀ k, k < xs.length → barAt (ops xs) k = true → barFlat xs = false from fun k hk h => barFlat_no hk h)
    have HFL := mkHid (show barFlat xs = barUpto (ops xs) xs.length from by unfold barFlat; rw [← HVV.out, Bool.true_and])
    rw [HBAL.out]
    clear b2 hbr hI HBL HBAL HPV HB1 HVV
    obtain ⟨os, hos⟩ : ∃ os, os = ops xs := ⟨_, rfl⟩
    rw [← hos] at HI HAT HF HFL
    clear hos
    go_wp2_with fail
    go_loopw [19] (fun i wr => ∃ k : Nat, k ≤ xs.length ∧ i = .int .i64 k ∧ Hid (barUpto os k = true) ∧ Below w2.heap.size w2 wr) (fun i _ => xs.length - (intOf i).toNat)
    case atStart => exact ⟨0, by omega, rfl, mkHid rfl, Below.refl _ _⟩
    case round =>
      obtain ⟨k, hk, rfl, HU, hb⟩ := hrel
      have HB := mkHid (below_then HB2.out hb)
      have HBR := mkHid hb
      by_cases hlt : k < xs.length
      · obtain ⟨b0, off, hA, e0, e1, e2, e3⟩ := (HS0.out.below HB.out).cd hlt
        have hop := HAT.out k hlt
        obtain ⟨x, hx⟩ : ∃ x, x = xs[k] := ⟨_, rfl⟩
        rw [← hx] at e0 e1 e2 e3 hop
        obtain ⟨op, xa, xb, xc⟩ := x
        simp only at e0 e1 e2 e3 hop
        have HOP := mkHid hop
        subst hA
        have hal : Below wr.heap.size wr (wr.alloc (.cells #[.int .i64 op, .int .i64 xa, .int .i64 xb, .int .i64 xc] 44)) := (Below.refl _ _).alloc (Nat.le_refl _) _
        have r0 := (HI.out.below (below_then hb hal)).rowAt hlt
        have HB3 := mkHid (below_then HBR.out hal)
        have hsz := HB.out.size
        clear hx hb hop hal
        obtain ⟨L, hL⟩ : ∃ L, L = (stk os k).length := ⟨_, rfl⟩
        have HL := mkHid (show (stk os k).isEmpty = decide (L = 0) from by
          rw [hL]
          cases stk os k with
          | nil => rfl
          | cons a t => simp)
        rw [← hL] at r0
        clear hL
        by_cases h10 : op = 10
        · subst h10
          by_cases h0 : 0 < L
          · have HR := mkHid (HF.out k hlt (by unfold barAt; rw [HOP.out, HL.out, decide_eq_false (by omega)]; rfl))
            go_wp2_with fail
            go_ret
            exact ⟨ret_bool HR.out.symm, below_then HB2.out HB3.out⟩
          · go_wp2_with fail
            go_roundw
            case rel => exact ⟨k + 1, by omega, by go_num, mkHid (by rw [barUpto_s, HU.out]; unfold barAt; rw [HL.out, decide_eq_true (by omega)]; simp), HB3.out⟩
            case measure => simp [intOf] <;> omega
        · have n10 : (op == 10) = false := by simpa using h10
          clear h10
          go_wp2_with fail
          go_roundw
          case rel => exact ⟨k + 1, by omega, by go_num, mkHid (by rw [barUpto_s, HU.out]; unfold barAt; rw [HOP.out, n10]; rfl), HB3.out⟩
          case measure => simp [intOf] <;> omega
      · have hke : k = xs.length := by omega
        subst hke
        clear hb
        go_wp2_with fail
        go_ret
        exact ⟨ret_bool (by rw [HFL.out, HU.out]), HB.out⟩
theorem specBarriersFlat_any (A : Option Addr) (c : Nat) (xs : List Cd) (w : World) (hl : xs.length ≤ 1048576) (hs : Sl w A (cflat xs)) :
    Calls Try.prog 10 #[.slice A xs.length c] w fun e w' => e = .returned (.bool (barFlat xs)) ∧ Below w.heap.size w w' := by
  have HS0 := mkHid hs
  clear hs
  have HAT := mkHid (show ∀ k (h : k < xs.length), opAt (ops xs) k = xs[k].op from fun k h => ops_at h)
  have HF := mkHid (show ∀ k, k < xs.length → opAt (ops xs) k = 10 → 0 ≤ arnd (ops xs) k 0 → barFlat xs = false from fun k hk h1 h2 => by
    cases hv : progValid xs with
    | false => unfold barFlat; rw [hv]; rfl
    | true =>
      refine barFlat_no hk ?_
      unfold barAt
      rw [h1, ← flat_top (progValid_ok hv (Nat.le_of_lt hk)), decide_eq_true h2]; rfl)
  have HE := mkHid (show (∀ k, k < xs.length → (opAt (ops xs) k = 10 ∧ 0 ≤ arnd (ops xs) k 0) → False) → progValid xs = barFlat xs from fun h => by
    unfold barFlat
    cases hv : progValid xs with
    | false => rfl
    | true =>
      rw [Bool.true_and]
      symm
      unfold barUpto
      rw [List.all_eq_true]
      intro k hk
      have hk := List.mem_range.1 hk
      unfold barAt
      by_cases h1 : opAt (ops xs) k = 10
      · rw [h1, ← flat_top (progValid_ok hv (Nat.le_of_lt hk)), decide_eq_false (fun h2 => h k hk ⟨h1, h2⟩)]; rfl
      · rw [show (opAt (ops xs) k == 10) = false from by simpa using h1]; rfl)
  have HAR := mkHid (fun at_ w h1 h2 => l4Around_any A c xs at_ w hl h1 h2)
  have HPV := mkHid (fun w h => specProgramValid_any A c xs w hl h)
  obtain ⟨os, hos⟩ : ∃ os, os = ops xs := ⟨_, rfl⟩
  rw [← hos] at HAT HF HE HAR
  clear hos
  go_enter Try.func10, Try.ntmps10
  go_wp2_with fail
  go_loopw [3] (fun i wr => ∃ k : Nat, k ≤ xs.length ∧ i = .int .i64 k ∧ Hid (∀ j, j < k → (opAt os j = 10 ∧ 0 ≤ arnd os j 0) → False) ∧ Below w.heap.size w wr) (fun i _ => xs.length - (intOf i).toNat)
  case atStart => exact ⟨0, by omega, rfl, mkHid (fun j hj => absurd hj (by omega)), Below.refl _ _⟩
  case round =>
    obtain ⟨k, hk, rfl, HU, hb⟩ := hrel
    have HB := mkHid hb
    by_cases hlt : k < xs.length
    · obtain ⟨b0, off, hA, e0, e1, e2, e3⟩ := (HS0.out.below hb).cd hlt
      have hop := HAT.out k hlt
      obtain ⟨x, hx⟩ : ∃ x, x = xs[k] := ⟨_, rfl⟩
      rw [← hx] at e0 e1 e2 e3 hop
      obtain ⟨op, xa, xb, xc⟩ := x
      simp only at e0 e1 e2 e3 hop
      have HOP := mkHid hop
      have hC := HAR.out k wr (by omega) (HS0.out.below hb)
      obtain ⟨a, ha⟩ : ∃ a, a = arnd os k 0 := ⟨_, rfl⟩
      rw [← ha] at hC
      have HC := mkHid hC
      have HA := mkHid ha
      subst hA
      clear hx hb hop hC ha
      by_cases h10 : op = 10
      · subst h10
        go_wp2_with fail
        refine HC.out.mono ?_
        rintro e w2 ⟨rfl, b2⟩
        have HB2 := mkHid (below_then HB.out b2)
        clear b2
        by_cases h0 : 0 ≤ a
        · have HR := mkHid (HF.out k hlt HOP.out (by rw [← HA.out]; exact h0))
          go_wp2_with fail
          go_ret
          exact ⟨ret_bool HR.out.symm, HB2.out⟩
        · go_wp2_with fail
          go_roundw
          case rel => exact ⟨k + 1, by omega, by go_num, mkHid (fun j hj h => by
            by_cases e : j = k
            · subst e; have := h.2; rw [← HA.out] at this; omega
            · exact HU.out j (by omega) h), HB2.out⟩
          case measure => simp [intOf] <;> omega
      · have n10 : (op == 10) = false := by simpa using h10
        have H10 := mkHid h10
        clear h10
        go_wp2_with fail
        go_roundw
        case rel => exact ⟨k + 1, by omega, by go_num, mkHid (fun j hj h => by
            by_cases e : j = k
            · subst e; exact H10.out (HOP.out.symm.trans h.1)
            · exact HU.out j (by omega) h), HB.out⟩
        case measure => simp [intOf] <;> omega
    · have hke : k = xs.length := by omega
      subst hke
      have HC := mkHid (HPV.out wr (HS0.out.below hb))
      have HR := mkHid (HE.out HU.out)
      clear hb
      go_wp2_with fail
      refine HC.out.mono ?_
      rintro e w2 ⟨rfl, b2⟩
      have HB2 := mkHid (below_then HB.out b2)
      clear b2
      go_wp2_with fail
      go_ret
      exact ⟨ret_bool HR.out, HB2.out⟩
end Go.Proofs.Ytjgemgjpbanliaa
