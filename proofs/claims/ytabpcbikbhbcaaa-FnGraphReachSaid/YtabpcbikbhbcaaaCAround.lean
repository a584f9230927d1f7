/-
  Contracts of the reference's l4Around, l4End.
-/
import Derived.Test.YtabpcbikbhbcaaaCProg
namespace Go.Proofs.Ytabpcbikbhbcaaa
open Go.RowKit
set_option maxHeartbeats 2000000
set_option linter.unusedVariables false

theorem opens_not {z : Int} (h : opensB z = true) : (z == 14) = false ∧ (z == 12) = false := by
  unfold opensB at h
  rw [Bool.or_eq_true, beq_iff_eq, beq_iff_eq] at h
  rcases h with rfl | rfl <;> exact ⟨rfl, rfl⟩
theorem arnd_end {os : List Int} {k d : Nat} (h : opAt os k = 14) : arnd os (k + 1) d = arnd os k (d + 1) := by
  rw [arnd, if_pos h]
theorem arnd_open0 {os : List Int} {k : Nat} (h : opensB (opAt os k) = true) : arnd os (k + 1) 0 = k := by
  have := (opens_not h).1
  rw [arnd, if_neg (by simpa using this), if_pos h, if_pos rfl]
theorem arnd_open {os : List Int} {k d : Nat} (h : opensB (opAt os k) = true) : arnd os (k + 1) (d + 1) = arnd os k d := by
  have := (opens_not h).1
  rw [arnd, if_neg (by simpa using this), if_pos h, if_neg (by omega)]; rfl
theorem arnd_other {os : List Int} {k d : Nat} (h : opensB (opAt os k) = false) (h14 : opAt os k ≠ 14) : arnd os (k + 1) d = arnd os k d := by
  rw [arnd, if_neg h14, if_neg (by rw [h]; decide)]
theorem l4Around_any (A : Option Addr) (c : Nat) (xs : List Cd) (at_ : Nat) (w : World) (hl : xs.length ≤ 1048576) (hat : at_ ≤ xs.length) (hs : Sl w A (cflat xs)) :
    Calls Try.prog 55 #[.slice A xs.length c, .int .i64 at_] w fun e w' => e = .returned (.int .i64 (arnd (ops xs) at_ 0)) ∧ Below w.heap.size w w' := by
  obtain ⟨os, hos⟩ : ∃ os, os = ops xs := ⟨_, rfl⟩
  have HAT := mkHid (show ∀ k (h : k < xs.length), opAt os k = xs[k].op from fun k h => by rw [hos]; exact ops_at h)
  rw [← hos]
  clear hos
  have HS0 := mkHid hs
  clear hs
  go_enter Try.func55, Try.ntmps55
  go_wp2_with fail
  go_loopw [6, 5] (fun i dv wr => ∃ k : Nat, k ≤ at_ ∧ i = .int .i64 ((k : Int) - 1) ∧ ∃ d : Nat, dv = .int .i64 d ∧ d + k ≤ at_ ∧ Hid (arnd os k d = arnd os at_ 0) ∧ Below w.heap.size w wr) (fun i _ _ => (intOf i + 1).toNat)
  case atStart => exact ⟨at_, by omega, rfl, 0, rfl, by omega, mkHid rfl, Below.refl _ _⟩
  case round =>
    obtain ⟨k, hk, rfl, d, rfl, hd, HR, hb⟩ := hrel
    have HB := mkHid hb
    cases k with
    | zero =>
      clear hb
      go_wp2_with fail
      go_ret
      exact ⟨by rw [← HR.out]; rfl, HB.out⟩
    | succ k =>
      have hlt : k < xs.length := by omega
      obtain ⟨b0, off, hA, e0, e1, e2, e3⟩ := (HS0.out.below hb).cd hlt
      have hop := HAT.out k hlt
      obtain ⟨x, hx⟩ : ∃ x, x = xs[k] := ⟨_, rfl⟩
      rw [← hx] at e0 e1 e2 e3 hop
      have hC := l4Opens_any x wr
      obtain ⟨op, xa, xb, xc⟩ := x
      simp only at e0 e1 e2 e3 hop hC
      have hkk : ((k + 1 : Nat) : Int) - 1 = (k : Int) := by omega
      rw [hkk]
      have HKK := mkHid hkk
      have HOP := mkHid hop
      subst hA
      clear hx hb hkk
      by_cases h14 : op = 14
      · subst h14
        have HC := mkHid hC
        clear hC hop
        go_wp2_with fail
        refine HC.out.mono ?_
        rintro e w2 ⟨rfl, b2⟩
        have HB2 := mkHid (HB.out.trans (b2.mono HB.out.size))
        clear b2
        go_wp2_with fail
        go_roundw
        case rel => exact ⟨k, by omega, by congr 1, d + 1, by go_num, by omega, mkHid (by rw [← HR.out, arnd_end HOP.out]), HB2.out⟩
        case measure => simp [intOf] <;> omega
      · have h14' : (op == 14) = false := by simpa using h14
        obtain ⟨v, hv⟩ : ∃ v, v = opensB op := ⟨_, rfl⟩
        rw [← hv] at hC
        have HC := mkHid hC
        have HV := mkHid hv
        clear hC hv hop h14
        go_wp2_with fail
        refine HC.out.mono ?_
        rintro e w2 ⟨rfl, b2⟩
        have HB2 := mkHid (HB.out.trans (b2.mono HB.out.size))
        clear b2
        cases v with
        | false =>
          go_wp2_with fail
          go_roundw
          case rel => exact ⟨k, by omega, by congr 1, d, rfl, by omega, mkHid (by rw [← HR.out, arnd_other (by rw [HOP.out]; exact HV.out.symm) (by rw [HOP.out]; simpa using h14')]), HB2.out⟩
          case measure => simp [intOf] <;> omega
        | true =>
          cases d with
          | zero =>
            go_wp2_with fail
            go_ret
            exact ⟨by rw [← HR.out, arnd_open0 (by rw [HOP.out]; exact HV.out.symm)]; rfl, HB2.out⟩
          | succ d =>
            have hd0 : (((d + 1 : Nat) : Int) == 0) = false := by rw [beq_eq_false_iff_ne]; omega
            have HD0 := mkHid hd0
            go_wp2_with fail
            go_roundw
            case rel => exact ⟨k, by omega, by congr 1, d, by congr 1 <;> omega, by omega, mkHid (by rw [← HR.out, arnd_open (by rw [HOP.out]; exact HV.out.symm)]), HB2.out⟩
            case measure => simp [intOf] <;> omega
theorem l4End_any (A : Option Addr) (c : Nat) (xs : List Cd) (b : Nat) (w : World) (hl : xs.length ≤ 1048576) (hbal : balB (ops xs) = true) (hb : b < xs.length) (ho : opensB (opAt (ops xs) b) = true) (hs : Sl w A (cflat xs)) :
    Calls Try.prog 54 #[.slice A xs.length c, .int .i64 b] w fun e w' => e = .returned (.tuple #[.int .i64 (endOf (ops xs) b (ops xs).length), .int .i64 (oth (ops xs) b (ops xs).length)]) ∧ Below w.heap.size w w' := by
  obtain ⟨os, hos⟩ : ∃ os, os = ops xs := ⟨_, rfl⟩
  have HAT := mkHid (show ∀ k (h : k < xs.length), opAt os k = xs[k].op from fun k h => by rw [hos]; exact ops_at h)
  have hon : os.length = xs.length := by rw [hos]; exact ops_len xs
  rw [← hos] at hbal ho ⊢
  clear hos
  have HS0 := mkHid hs
  have HBAL := mkHid hbal
  have HST := mkHid (EndInv.start (os := os) (b := b) (by omega) ho)
  clear hs hbal ho
  go_enter Try.func54, Try.ntmps54
  go_wp2_with fail
  go_loopw [8, 6, 7] (fun i dv ov wr => ∃ k : Nat, k ≤ xs.length ∧ i = .int .i64 k ∧ ∃ d : Nat, ∃ o : Int, dv = .int .i64 d ∧ ov = .int .i64 o ∧ Hid (EndInv os b k d o) ∧ d ≤ k ∧ Below w.heap.size w wr) (fun i _ _ _ => xs.length - (intOf i).toNat)
  case atStart => exact ⟨b + 1, by omega, by go_num, 0, -1, rfl, rfl, HST.out, by omega, Below.refl _ _⟩
  case round =>
    clear HST
    obtain ⟨k, hk, rfl, d, o, rfl, rfl, HR, hdk, hbw⟩ := hrel
    have HB := mkHid hbw
    by_cases hlt : k < xs.length
    · have hko : k < os.length := by omega
      obtain ⟨b0, off, hA, e0, e1, e2, e3⟩ := (HS0.out.below hbw).cd hlt
      have hop := HAT.out k hlt
      obtain ⟨x, hx⟩ : ∃ x, x = xs[k] := ⟨_, rfl⟩
      rw [← hx] at e0 e1 e2 e3 hop
      have hC := l4Opens_any x wr
      obtain ⟨op, xa, xb, xc⟩ := x
      simp only at e0 e1 e2 e3 hop hC
      have HOP := mkHid hop
      subst hA
      have HE := mkHid (show ∀ X, Below wr.heap.size wr X → X.cell? ⟨b0, off + k * 4, none⟩ = some (.int .i64 op) from fun X hX => Ext.keeps ⟨X, hX⟩ e0)
      obtain ⟨v, hv⟩ : ∃ v, v = opensB op := ⟨_, rfl⟩
      rw [← hv] at hC
      have HC := mkHid hC
      have HV := mkHid hv
      clear hx hbw hC hv hop
      go_wp2_with fail
      refine HC.out.mono ?_
      rintro e w2 ⟨rfl, b2⟩
      have HB2 := mkHid (HB.out.trans (b2.mono HB.out.size))
      have e0 := HE.out w2 b2
      clear b2 e1 e2 e3 HE HC
      cases v with
      | true =>
        go_wp2_with fail
        go_roundw
        case rel => exact ⟨k + 1, by omega, by go_num, d + 1, o, by go_num, rfl, mkHid (HR.out.open hko (by rw [HOP.out]; exact HV.out.symm)), by omega, HB2.out⟩
        case measure => simp [intOf] <;> omega
      | false =>
        have hno : Hid (opensB (opAt os k) = false) := mkHid (by rw [HOP.out]; exact HV.out.symm)
        by_cases h12 : op = 12
        · subst h12
          cases d with
          | zero =>
            go_wp2_with fail
            go_roundw
            case rel => exact ⟨k + 1, by omega, by go_num, 0, k, rfl, rfl, mkHid (HR.out.else_ hko HOP.out), by omega, HB2.out⟩
            case measure => simp [intOf] <;> omega
          | succ d =>
            have hd0 : (((d + 1 : Nat) : Int) == 0) = false := by rw [beq_eq_false_iff_ne]; omega
            go_wp2_with fail
            go_roundw
            case rel => exact ⟨k + 1, by omega, by go_num, d + 1, o, rfl, rfl, mkHid (HR.out.other hko hno.out (by rw [HOP.out]; decide) (fun _ => by omega)), by omega, HB2.out⟩
            case measure => simp [intOf] <;> omega
        · by_cases h14 : op = 14
          · subst h14
            cases d with
            | zero =>
              have hf := HR.out.found hko HOP.out
              have HF := mkHid hf
              clear hf
              go_wp2_with fail
              go_ret2
              exact ⟨by rw [HF.out.1, HF.out.2]; rfl, HB2.out⟩
            | succ d =>
              have hd0 : (((d + 1 : Nat) : Int) == 0) = false := by rw [beq_eq_false_iff_ne]; omega
              go_wp2_with fail
              go_roundw
              case rel => exact ⟨k + 1, by omega, by go_num, d, o, by congr 1 <;> omega, rfl, mkHid (HR.out.close hko HOP.out), by omega, HB2.out⟩
              case measure => simp [intOf] <;> omega
          · have n12 : (op == 12) = false := by simpa using h12
            have n14 : (op == 14) = false := by simpa using h14
            have H12 := mkHid h12
            have H14 := mkHid h14
            clear h12 h14
            go_wp2_with fail
            go_roundw
            case rel => exact ⟨k + 1, by omega, by go_num, d, o, rfl, rfl, mkHid (HR.out.other hko hno.out (by rw [HOP.out]; exact H14.out) (fun h => absurd (by rw [← HOP.out]; exact h) H12.out)), by omega, HB2.out⟩
            case measure => simp [intOf] <;> omega
    · have hke : k = os.length := by omega
      subst hke
      exact (HR.out.bal HBAL.out).elim
end Go.Proofs.Ytabpcbikbhbcaaa
