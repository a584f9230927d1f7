/-
  Proved: FnBanksOdd returns true for every code.
-/
import Derived.Test.YtjgmghlgjjfifaaDBanks
import Derived.Test.YtjgmghlgjjfifaaDStride
import Derived.Test.YtjgmghlgjjfifaaPlainBanks3
import Derived.Test.YtjgmghlgjjfifaaCSame
import Derived.Test.YtjgmghlgjjfifaaFrame
namespace Go.Proofs.Ytjgmghlgjjfifaa
open Go.ChangeShapes Go.WideShapes Go.ChangeAt Go.RowKit
set_option maxHeartbeats 1000000
set_option linter.unusedVariables false

theorem odd_walk (A : Option Addr) (c : Nat) (zs : List Int) (A' : Option Addr) (c' : Nat) (ms : List Int) (w : World) (hl : zs.length ≤ 9223372036854775807) (hcap : zs.length ≤ c) (hs : Sl w A (u8s zs)) (hz : ∀ z ∈ zs, 0 ≤ z ∧ z ≤ 255) (hl' : ms.length ≤ 9223372036854775807) (hcap' : ms.length ≤ c') (hs' : Sl w A' (u8s ms)) (hz' : ∀ z ∈ ms, 0 ≤ z ∧ z ≤ 255) :
    Calls Try.prog 6 #[.slice A zs.length c, .slice A' ms.length c'] w fun e w' => e = .returned (.bool true) ∧ Below w.heap.size w w' := by
  by_cases hbig : 1048576 < zs.length ∨ 1048576 < ms.length
  · clear hs hs' hz hz'
    by_cases hb1 : 1048576 < zs.length
    case' neg => have hb2 : 1048576 < ms.length := by omega
    all_goals (
      clear hbig
      go_enter Try.func6, Try.ntmps6
      go_wp2_with fail
      go_ret
      exact ⟨rfl, Below.refl _ _⟩)
  · have hb1 : zs.length ≤ 1048576 := by omega
    have hb2 : ms.length ≤ 1048576 := by omega
    clear hbig hs' hz'
    go_enter Try.func6, Try.ntmps6
    go_wp2_with fail
    refine (drawStrideCells_any _ _ _ _ hl hcap hs hz).mono ?_
    rintro e w1 ⟨b, s, l, rfl, hb, hst, hla, b1⟩
    clear hs hz
    have B1 := mkHid b1
    clear b1
    obtain ⟨ys, hys⟩ : ∃ ys, ys = strideCells b s l := ⟨_, rfl⟩
    have HY := mkHid hys
    have hyl : ys.length ≤ 9 := by rw [hys]; exact (strideCells_small b s l).1
    clear hys
    go_wp2_with fail
    refine (implStrideCells_any _ _ _ _).mono ?_
    rw [← HY.out]
    rintro e w2 ⟨A2, c2, rfl, o2, b2⟩
    have S2 := mkHid (Sl.of_own o2)
    have B2 := mkHid (below_then B1.out b2)
    clear o2 b2
    go_wp2_with fail
    refine (specStrideCells_any _ _ _ _).mono ?_
    rw [← HY.out]
    rintro e w3 ⟨A3, c3, rfl, o3, b3⟩
    have S33 := mkHid (Sl.of_own o3)
    have S3 := mkHid (S2.out.below b3)
    have B3 := mkHid (below_then B2.out b3)
    clear o3 b3
    go_wp2_with fail
    refine (sameInts_same _ _ _ _ _ _ (by omega) S3.out S33.out).mono ?_
    rintro e w4 ⟨rfl, k4, rfl⟩
    have S4 := mkHid (S3.out.drewN k4)
    have BB := mkHid (below_drewN B3.out k4)
    generalize w3.drewN k4 = w4 at *
    clear S33
    by_cases hv : (0 ≤ b ∧ b ≤ 255) ∧ (0 ≤ s ∧ s ≤ 255) ∧ (1 ≤ l ∧ l ≤ 8)
    case neg =>
      have h0 : ys = [] := by rw [HY.out]; exact stride_no (by omega)
      subst h0
      go_wp2_with fail
      refine (alive_any _).mono ?_
      rintro e w9 ⟨rfl, rfl⟩
      go_wp2_with fail
      go_ret
      exact ⟨rfl, BB.out⟩
    case pos =>
      obtain ⟨n, rfl⟩ := Int.eq_ofNat_of_zero_le (show 0 ≤ l by omega)
      have hyes := stride_yes hv.1 hv.2.1 hv.2.2
      rw [← HY.out, Int.toNat_natCast] at hyes
      have hlen : ys.length = n := by rw [hyes, strideUpto_length]
      have hb0 : (((n : Nat) : Int) == 0) = false := by rw [beq_eq_false_iff_ne]; omega
      have HYS := mkHid hyes
      have HLN := mkHid hlen
      rw [hlen]
      clear hyes hlen
      have r1 : s.tmod 2 = s % 2 := Int.tmod_eq_emod_of_nonneg (by omega)
      by_cases h2 : s % 2 = 0
      · have r2 : (s % 2 == 0) = true := by rw [h2]; rfl
        clear h2
        go_wp2_with fail
        refine (alive_any _).mono ?_
        rintro e w9 ⟨rfl, rfl⟩
        go_wp2_with fail
        go_ret
        exact ⟨rfl, BB.out⟩
      · have r2 : (s % 2 == 0) = false := by simpa using h2
        have r3 : ((ms.length : Nat) : Int).tmod 3 = (ms.length : Int) % 3 := Int.tmod_eq_emod_of_nonneg (by omega)
        obtain ⟨j, hj⟩ : ∃ j : Nat, (ms.length : Int) % 3 = (j : Int) ∧ j < 3 := ⟨ms.length % 3, by omega, by omega⟩
        have hm : ∀ m : Int, (m = 8 ∨ m = 16 ∨ m = 32) → bankRounds ys m = 1 ∧ bankConflicts ys m = [] := fun m hm => by rw [HYS.out]; exact odd_rounds b s m n (by omega) (by omega) hm (by omega)
        have HM := mkHid hm
        rw [hj.1] at r3
        have hj1 := hj.1
        have hj3 : j = 0 ∨ j = 1 ∨ j = 2 := by omega
        clear hm h2 hj
        obtain ⟨m, hm1, hm2⟩ : ∃ m : Int, (m = 8 ∨ m = 16 ∨ m = 32) ∧ m = wrap64 (8 * 2 ^ j) := by
          rcases hj3 with rfl | rfl | rfl
          · exact ⟨8, by omega, by simp [wrap64]⟩
          · exact ⟨16, by omega, by simp [wrap64]⟩
          · exact ⟨32, by omega, by simp [wrap64]⟩
        have hT := implBankRounds_any A2 c2 ys m w4 (by omega) S4.out
        rw [(HM.out m hm1).1, HLN.out] at hT
        have HT := mkHid hT
        have hK := fun w5 s5 => implBankConflicts_any A2 c2 ys m w5 (by omega) s5
        simp only [(HM.out m hm1).2, HLN.out] at hK
        have HC := mkHid hK
        clear hK
        have H12 := mkHid hm1
        have HM2 := mkHid hm2
        clear hT hm1 HM
        rcases hj3 with rfl | rfl | rfl
        all_goals (
          have hmv := HM2.out
          simp [wrap64] at hmv
          subst hmv
          clear hm2
          go_wp2_with fail
          refine HT.out.mono ?_
          rintro e w5 ⟨rfl, b5⟩
          have S5 := mkHid (S4.out.below b5)
          have B5 := mkHid (below_then BB.out b5)
          clear b5
          go_wp2_with fail
          refine (HC.out w5 S5.out).mono ?_
          rintro e w6 ⟨A6, c6, rfl, o6, b6⟩
          have B6 := mkHid (below_then B5.out b6)
          clear b6 o6
          go_wp2_with fail
          go_ret
          exact ⟨rfl, B6.out⟩)
namespace fnBanksOdd
set_option maxRecDepth 100000 in
theorem lifted (os : Os) (started : os.Started) (H : Type) (enc : TypeId × Value → H) :
    ReturnsInHanded {} Try.checked os 6 .any (Rows.fnBanksOddSpec.pre6 enc Try.prog Try.f6 Rows.fnBanksOddRow.domain false) (Rows.fnBanksOddSpec.post enc Try.prog Try.f6 false true false false) := by
  refine returnsInHanded_of_change (C := Try.checked) own started (by kernel_rfl) Try.func6
    (ChangeSpec.witness6 (enc := enc) (C := Try.checked) false ⟨#[], #[.slice none 0 0, .slice none 0 0], []⟩ 8 (by kernel_rfl) (by kernel_rfl) (by kernel_rfl) (by kernel_rfl)) ?_
  intro W base args ds gs before hval0 hW hcnd _
  have hval : ∀ (j : Nat) t v, Try.f6.params[j]? = some t → args[j]? = some v → Value.okWide Try.prog W .any base t v := hval0
  have hW' := hW
  obtain ⟨p, q, hA0, hV, rfl, hfz, hnd⟩ := hW
  have hA : DataW.TrodAll enc Try.prog W 0 (fun _ => true) true Try.f6.params.toList args.toList ds p := hA0
  have hAk : DataW.TrodAll enc Try.prog W 0 (fun _ => true) true Try.f6.params.toList args.toList ds p := hA0
  rw [Try.params6] at hA hval
  obtain ⟨v0, vs0, d0, ds0, p0, q0, hargs, rfl, rfl, h0, r0⟩ := trodAll_cons hA
  obtain ⟨v1, vs1, d1, ds1, p1, q1, rfl, rfl, rfl, h1, r1⟩ := trodAll_cons r0
  obtain ⟨rfl, rfl, rfl⟩ := trodAll_nil r1
  obtain rfl : args = #[v0, v1] := by cases args; simp_all
  obtain ⟨rfl, rfl⟩ := trodVars_none hV
  obtain ⟨Azs, czs, zs, rfl, nzs, kzs, szs, wzs⟩ := open_int_slice Try.underlying28 Try.underlying5 (by kernel_rfl) (hval 0 28 v0 rfl rfl) h0
  have wzs : ∀ z ∈ zs, 0 ≤ z ∧ z ≤ 255 := fun z hz => wf_u8_bounds (wzs z hz)
  obtain ⟨Ams, cms, ms, rfl, nms, kms, sms, wms⟩ := open_int_slice Try.underlying28 Try.underlying5 (by kernel_rfl) (hval 1 28 v1 rfl rfl) h1
  have wms : ∀ z ∈ ms, 0 ≤ z ∧ z ≤ 255 := fun z hz => wf_u8_bounds (wms z hz)
  clear hA0 hval0
  refine (odd_walk Azs czs zs Ams cms ms W nzs kzs szs wzs nms kms sms wms).mono fun e W' ⟨he, hb⟩ => ?_
  subst he
  refine ⟨_, rfl, post_true laidOut (fun t ht => ?_) (by kernel_rfl) Try.underlying4 rfl rfl hW' hAk hb⟩
  rw [Try.params6] at ht
  simp only [List.mem_cons, List.not_mem_nil, or_false] at ht
  first | (rcases ht with rfl | rfl <;> exact ⟨by kernel_rfl, of_decide_eq_true (by kernel_rfl)⟩) | (obtain rfl := ht; exact ⟨by kernel_rfl, of_decide_eq_true (by kernel_rfl)⟩)
/-- The statement. -/
theorem proved : Rows.FnBanksOddSaid :=
  OpenClaim.holds_of_wide 6 Try.f6 rfl rfl rfl rfl rfl rfl rfl ⟨rfl, rfl, rfl, rfl, rfl⟩ rfl rfl rfl rfl rfl (by kernel_rfl) Try.func6 (by kernel_rfl)
    (of_decide_eq_true (by kernel_rfl)) (by unfold Func.isWrapper; first | (rw [if_pos (by decide +kernel)]; kernel_rfl) | (rw [if_neg (by decide +kernel)]; exact ⟨rfl, rfl⟩))
    (fun os started H enc _ => lifted os started H enc)
end fnBanksOdd
#print axioms fnBanksOdd.proved
end Go.Proofs.Ytjgmghlgjjfifaa
