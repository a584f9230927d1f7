/-
  Proved: FnStrideCells returns true for every code.
-/
import Derived.Test.YtmgpbhehmoohmaaDStride
import Derived.Test.YtmgpbhehmoohmaaCStride
import Derived.Test.YtmgpbhehmoohmaaCLines2
import Derived.Test.YtmgpbhehmoohmaaPlainCard
import Derived.Test.YtmgpbhehmoohmaaCSame
import Derived.Test.YtmgpbhehmoohmaaFrame
namespace Go.Proofs.Ytmgpbhehmoohmaa
open Go.ChangeShapes Go.WideShapes Go.ChangeAt Go.RowKit
set_option maxHeartbeats 1000000
set_option linter.unusedVariables false

theorem strideUpto_at (b s : Int) (n k : Nat) (h : k < (strideUpto b s n).length) : (strideUpto b s n)[k] = (b + (k : Int) * s) % 256 := by simp [strideUpto]
theorem stride_next (b s : Int) (k : Nat) (h : 1 ≤ k) : ((b + ((k - 1 : Nat) : Int) * s) % 256 + s) % 256 = (b + (k : Int) * s) % 256 := by
  have : (k : Int) * s = ((k - 1 : Nat) : Int) * s + s := by
    have : (k : Int) = ((k - 1 : Nat) : Int) + 1 := by omega
    rw [this, Int.add_mul, Int.one_mul]
    first | done | congr 2
  rw [this, ← Int.add_assoc, Int.add_emod, Int.emod_emod, ← Int.add_emod]
theorem stride_cells (b s : Int) (n : Nat) (hn : n ≤ 8) : areCells (strideUpto b s n) = true :=
  areCells_of (by simp [strideUpto_length]; exact hn) fun z hz => by
    obtain ⟨k, hk, rfl⟩ := List.mem_iff_getElem.1 hz
    rw [strideUpto_at]
    have h1 := Int.emod_nonneg (b + (k : Int) * s) (show (256 : Int) ≠ 0 by omega)
    have h2 := Int.emod_lt_of_pos (b + (k : Int) * s) (show (0 : Int) < 256 by omega)
    omega
theorem stride_zero (b : Int) (n : Nat) (hn : 1 ≤ n) : card (strideUpto b 0 n) = 1 := by
  have h1 : card (strideUpto b 0 n) ≤ 1 := by
    have := card_of_le (a := strideUpto b 0 n) (b := [b % 256]) fun z hz => by
      obtain ⟨k, hk, rfl⟩ := List.mem_iff_getElem.1 hz
      rw [strideUpto_at]; simp
    simpa using this
  have h2 : 0 < card (strideUpto b 0 n) := card_pos fun e => by
    have := strideUpto_length b 0 n
    rw [e] at this; simp at this; omega
  omega
theorem linesOf_one (zs : List Int) : (linesOf zs 1).length = card zs := by unfold linesOf; rw [map_div_one]; rfl
theorem stride_walk (A : Option Addr) (c : Nat) (zs : List Int) (w : World) (hl : zs.length ≤ 9223372036854775807) (hcap : zs.length ≤ c) (hs : Sl w A (u8s zs)) (hz : ∀ z ∈ zs, 0 ≤ z ∧ z ≤ 255) :
    Calls Try.prog 10 #[.slice A zs.length c] w fun e w' => e = .returned (.bool true) ∧ Below w.heap.size w w' := by
  by_cases hbig : 1048576 < zs.length
  · go_enter Try.func10, Try.ntmps10
    go_wp2_with fail
    go_ret
    exact ⟨rfl, Below.refl _ _⟩
  · go_enter Try.func10, Try.ntmps10
    go_wp2_with fail
    refine (drawStrideCells_any _ _ _ _ hl hcap hs hz).mono ?_
    rintro e w1 ⟨b, s, l, rfl, hb, hst, hla, b1⟩
    clear hs hz
    have B1 := mkHid b1
    clear b1
    obtain ⟨ys, hys⟩ : ∃ ys, ys = strideCells b s l := ⟨_, rfl⟩
    have HY := mkHid hys
    have hyl : ys.length ≤ 8 := by
      rw [hys]; unfold strideCells
      split
      · rename_i h
        simp only [Bool.and_eq_true] at h
        have := inB_t h.2
        simp [strideUpto_length]; omega
      · simp
    clear hys
    go_wp2_with fail
    refine (implStrideCells_any _ _ _ _).mono ?_
    rw [← HY.out]
    rintro e w2 ⟨A2, c2, rfl, o2, b2⟩
    have S2 := mkHid (Sl.of_own o2)
    have B2 := mkHid (below_then B1.out b2)
    clear o2 b2
    go_wp2_with fail
    refine (specStrideCells_any _ _ _ _).mono ?_
    rw [← HY.out]
    rintro e w3 ⟨A3, c3, rfl, o3, b3⟩
    have S33 := mkHid (Sl.of_own o3)
    have S3 := mkHid (S2.out.below b3)
    have B3 := mkHid (below_then B2.out b3)
    clear o3 b3
    go_wp2_with fail
    refine (sameInts_same _ _ _ _ _ _ (by omega) S3.out S33.out).mono ?_
    rintro e w4 ⟨rfl, k4, rfl⟩
    have S4 := mkHid (S3.out.drewN k4)
    have B4 := mkHid (below_drewN B3.out k4)
    generalize w3.drewN k4 = w4 at *
    clear S33
    by_cases hv : (0 ≤ b ∧ b ≤ 255) ∧ (0 ≤ s ∧ s ≤ 255) ∧ (1 ≤ l ∧ l ≤ 8)
    case neg =>
      have h0 : ys = [] := by rw [HY.out]; exact stride_no (by omega)
      subst h0
      go_wp2_with fail
      refine (alive_any _).mono ?_
      rintro e w5 ⟨rfl, rfl⟩
      go_wp2_with fail
      go_ret
      exact ⟨rfl, B4.out⟩
    case pos =>
      obtain ⟨hv1, hv2, hv3⟩ := hv
      obtain ⟨n, rfl⟩ := Int.eq_ofNat_of_zero_le (show 0 ≤ l by omega)
      have hyes := stride_yes hv1 hv2 hv3
      rw [← HY.out] at hyes
      simp only [Int.toNat_natCast] at hyes
      have hlen : ys.length = n := by rw [hyes, strideUpto_length]
      have HA : Hid (∀ k (h : k < ys.length), ys[k] = (b + (k : Int) * s) % 256) := mkHid (by subst hyes; exact fun k h => strideUpto_at b s n k h)
      have h0 : strideCells b 0 n = strideUpto b 0 n := by
        have := stride_yes hv1 (s := 0) (by omega) hv3
        simpa using this
      have hT : linesTouched (strideUpto b 0 n) 1 = 1 := by
        rw [linesTouched_yes (stride_cells b 0 n (by omega)) (by decide), linesOf_one, stride_zero b n (by omega)]
        rfl
      have HT := mkHid hT
      have H0 := mkHid h0
      have HL := mkHid hlen
      have hn1 : 1 ≤ n := by omega
      have hn8 : n ≤ 8 := by omega
      have hl0 : (strideUpto b 0 n).length = n := strideUpto_length _ _ _
      have HL0 := mkHid hl0
      clear hT h0 hyes hl0
      rw [hlen]
      clear hlen
      have hb0 : (((n : Nat) : Int) == 0) = false := by rw [beq_eq_false_iff_ne]; omega
      go_wp2_with fail
      go_loopw [7] (fun jv wr => ∃ j : Nat, 1 ≤ j ∧ j ≤ n ∧ jv = .int .i64 j ∧ ∃ q, wr = w4.drewN q) (fun jv _ => n - (intOf jv).toNat)
      case atStart => exact ⟨1, by omega, by omega, rfl, 0, rfl⟩
      case round =>
        obtain ⟨j, hj1, hj, rfl, q, rfl⟩ := hrel
        obtain ⟨bb, off, rfl, hc⟩ := S4.out.at_ (k := 0) (by simp; have := HL.out; omega)
        by_cases hlt : j < n
        · have h1 : w4.cell? ⟨bb, off + (j - 1), none⟩ = some (.int .i64 ((b + ((j - 1 : Nat) : Int) * s) % 256)) := by
            have hh : j - 1 < ys.length := by have := HL.out; omega
            rw [hc (j - 1) _ (ints_at hh), HA.out (j - 1) hh]
          have h2 : w4.cell? ⟨bb, off + j, none⟩ = some (.int .i64 ((b + (j : Int) * s) % 256)) := by
            have hh : j < ys.length := by have := HL.out; omega
            rw [hc j _ (ints_at hh), HA.out j hh]
          have hN := stride_next b s j hj1
          have p1 := Int.emod_nonneg (b + ((j - 1 : Nat) : Int) * s) (show (256 : Int) ≠ 0 by omega)
          have p2 := Int.emod_lt_of_pos (b + ((j - 1 : Nat) : Int) * s) (show (0 : Int) < 256 by omega)
          generalize (b + ((j - 1 : Nat) : Int) * s) % 256 = x at *
          generalize (b + (j : Int) * s) % 256 = y at *
          subst hN
          have hw := IntWalk.i64_in (x + s) (by omega)
          have hw2 : (x + s).tmod 256 = (x + s) % 256 := Int.tmod_eq_emod_of_nonneg (by omega)
          have i1 : (0 : Int) ≤ (j : Int) - 1 := by omega
          have i2 : (j : Int) - 1 < (n : Int) := by omega
          have i3 : (0 : Int) ≤ (j : Int) := by omega
          have i4 : (j : Int) < (n : Int) := by omega
          clear hc
          go_wp2_with fail
          go_quiet (fail)
          go_wp2_with fail
          go_roundw
          case rel => exact ⟨j + 1, by omega, by omega, by go_num, _, by first | rfl | exact World.drewN_drewN _ _ _⟩
          case measure => simp [intOf]; omega
        · have h0 : w4.cell? ⟨bb, off, none⟩ = some (.int .i64 b) := by
            have hh : 0 < ys.length := by have := HL.out; omega
            have := hc 0 _ (ints_at hh)
            rw [HA.out 0 hh] at this
            have e : (b + ((0 : Nat) : Int) * s) % 256 = b := by
              rw [show ((0 : Nat) : Int) * s = 0 by simp, Int.add_zero]
              exact Int.emod_eq_of_lt hv1.1 (by omega)
            rw [e] at this
            simpa using this
          have hl0 : (0 : Int) < (n : Int) := by omega
          clear hc
          have B5 := mkHid (below_drewN B4.out q)
          go_wp2_with fail
          refine (implStrideCells_any _ _ _ _).mono ?_
          rw [H0.out]
          rintro e w6 ⟨A6, c6, rfl, o6, b6⟩
          have S6 := mkHid (Sl.of_own o6)
          have B6 := mkHid (below_then B5.out b6)
          clear o6 b6
          have hC := implLinesTouched_any A6 c6 (strideUpto b 0 n) 1 w6 (by rw [HL0.out]; omega) S6.out
          rw [HT.out, HL0.out] at hC
          have HC := mkHid hC
          rw [HL0.out]
          clear hC
          go_wp2_with fail
          refine HC.out.mono ?_
          rintro e w7 ⟨rfl, b7⟩
          have B7 := mkHid (below_then B6.out b7)
          clear b7
          go_wp2_with fail
          go_ret
          exact ⟨rfl, B7.out⟩
namespace fnStrideCells
set_option maxRecDepth 100000 in
theorem lifted (os : Os) (started : os.Started) (H : Type) (enc : TypeId × Value → H) :
    ReturnsInHanded {} Try.checked os 10 .any (Rows.fnStrideCellsSpec.pre6 enc Try.prog Try.f10 Rows.fnStrideCellsRow.domain false) (Rows.fnStrideCellsSpec.post enc Try.prog Try.f10 false true false false) := by
  refine returnsInHanded_of_change (C := Try.checked) own started (by kernel_rfl) Try.func10
    (ChangeSpec.witness6 (enc := enc) (C := Try.checked) false ⟨#[], #[.slice none 0 0], []⟩ 8 (by kernel_rfl) (by kernel_rfl) (by kernel_rfl) (by kernel_rfl)) ?_
  intro W base args ds gs before hval0 hW hcnd _
  have hval : ∀ (j : Nat) t v, Try.f10.params[j]? = some t → args[j]? = some v → Value.okWide Try.prog W .any base t v := hval0
  have hW' := hW
  obtain ⟨p, q, hA0, hV, rfl, hfz, hnd⟩ := hW
  have hA : DataW.TrodAll enc Try.prog W 0 (fun _ => true) true Try.f10.params.toList args.toList ds p := hA0
  have hAk : DataW.TrodAll enc Try.prog W 0 (fun _ => true) true Try.f10.params.toList args.toList ds p := hA0
  rw [Try.params10] at hA hval
  obtain ⟨v0, vs0, d0, ds0, p0, q0, hargs, rfl, rfl, h0, r0⟩ := trodAll_cons hA
  obtain ⟨rfl, rfl, rfl⟩ := trodAll_nil r0
  obtain rfl : args = #[v0] := by cases args; simp_all
  obtain ⟨rfl, rfl⟩ := trodVars_none hV
  obtain ⟨Azs, czs, zs, rfl, nzs, kzs, szs, wzs⟩ := open_int_slice Try.underlying28 Try.underlying5 (by kernel_rfl) (hval 0 28 v0 rfl rfl) h0
  have wzs : ∀ z ∈ zs, 0 ≤ z ∧ z ≤ 255 := fun z hz => wf_u8_bounds (wzs z hz)
  clear hA0 hval0
  refine (stride_walk Azs czs zs W nzs kzs szs wzs).mono fun e W' ⟨he, hb⟩ => ?_
  subst he
  refine ⟨_, rfl, post_true laidOut (fun t ht => ?_) (by kernel_rfl) Try.underlying4 rfl rfl hW' hAk hb⟩
  rw [Try.params10] at ht
  simp only [List.mem_cons, List.not_mem_nil, or_false] at ht
  first | (rcases ht with rfl <;> exact ⟨by kernel_rfl, of_decide_eq_true (by kernel_rfl)⟩) | (obtain rfl := ht; exact ⟨by kernel_rfl, of_decide_eq_true (by kernel_rfl)⟩)
/-- The statement. -/
theorem proved : Rows.FnStrideCellsSaid :=
  OpenClaim.holds_of_wide 10 Try.f10 rfl rfl rfl rfl rfl rfl rfl ⟨rfl, rfl, rfl, rfl, rfl⟩ rfl rfl rfl rfl rfl (by kernel_rfl) Try.func10 (by kernel_rfl)
    (of_decide_eq_true (by kernel_rfl)) (by unfold Func.isWrapper; first | (rw [if_pos (by decide +kernel)]; kernel_rfl) | (rw [if_neg (by decide +kernel)]; exact ⟨rfl, rfl⟩))
    (fun os started H enc _ => lifted os started H enc)
end fnStrideCells
#print axioms fnStrideCells.proved
end Go.Proofs.Ytmgpbhehmoohmaa
