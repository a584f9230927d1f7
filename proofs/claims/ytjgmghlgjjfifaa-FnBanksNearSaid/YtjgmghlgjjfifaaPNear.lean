/-
  Proved: FnBanksNear returns true for every code.
-/
import Derived.Test.YtjgmghlgjjfifaaDBanks
import Derived.Test.YtjgmghlgjjfifaaDStride
import Derived.Test.YtjgmghlgjjfifaaPlainBanks3
import Derived.Test.YtjgmghlgjjfifaaCSame
import Derived.Test.YtjgmghlgjjfifaaFrame
namespace Go.Proofs.Ytjgmghlgjjfifaa
open Go.ChangeShapes Go.WideShapes Go.ChangeAt Go.RowKit
set_option maxHeartbeats 1000000
set_option linter.unusedVariables false

theorem near_walk (A : Option Addr) (c : Nat) (zs : List Int) (w : World) (hl : zs.length ≤ 9223372036854775807) (hcap : zs.length ≤ c) (hs : Sl w A (u8s zs)) (hz : ∀ z ∈ zs, 0 ≤ z ∧ z ≤ 255) :
    Calls Try.prog 7 #[.slice A zs.length c] w fun e w' => e = .returned (.bool true) ∧ Below w.heap.size w w' := by
  by_cases hbig : 1048576 < zs.length
  · go_enter Try.func7, Try.ntmps7
    go_wp2_with fail
    go_ret
    exact ⟨rfl, Below.refl _ _⟩
  · go_enter Try.func7, Try.ntmps7
    go_wp2_with fail
    refine (drawStrideCells_any _ _ _ _ hl hcap hs hz).mono ?_
    rintro e w1 ⟨b, s, l, rfl, hb, hst, hla, b1⟩
    clear hs hz
    have B1 := mkHid b1
    clear b1
    obtain ⟨ys, hys⟩ : ∃ ys, ys = strideCells b 1 l := ⟨_, rfl⟩
    have HY := mkHid hys
    have hyl : ys.length ≤ 9 := by rw [hys]; exact (strideCells_small b 1 l).1
    clear hys
    go_wp2_with fail
    refine (implStrideCells_any _ _ _ _).mono ?_
    rw [← HY.out]
    rintro e w2 ⟨A2, c2, rfl, o2, b2⟩
    have S2 := mkHid (Sl.of_own o2)
    have B2 := mkHid (below_then B1.out b2)
    clear o2 b2
    go_wp2_with fail
    refine (specStrideCells_any _ _ _ _).mono ?_
    rw [← HY.out]
    rintro e w3 ⟨A3, c3, rfl, o3, b3⟩
    have S33 := mkHid (Sl.of_own o3)
    have S3 := mkHid (S2.out.below b3)
    have B3 := mkHid (below_then B2.out b3)
    clear o3 b3
    go_wp2_with fail
    refine (sameInts_same _ _ _ _ _ _ (by omega) S3.out S33.out).mono ?_
    rintro e w4 ⟨rfl, k4, rfl⟩
    have S4 := mkHid (S3.out.drewN k4)
    have BB := mkHid (below_drewN B3.out k4)
    generalize w3.drewN k4 = w4 at *
    clear S33
    by_cases hv : (0 ≤ b ∧ b ≤ 255) ∧ (1 ≤ l ∧ l ≤ 8)
    case neg =>
      have h0 : ys = [] := by rw [HY.out]; exact stride_no (by omega)
      subst h0
      go_wp2_with fail
      refine (alive_any _).mono ?_
      rintro e w9 ⟨rfl, rfl⟩
      go_wp2_with fail
      go_ret
      exact ⟨rfl, BB.out⟩
    case pos =>
      obtain ⟨n, rfl⟩ := Int.eq_ofNat_of_zero_le (show 0 ≤ l by omega)
      have hyes := stride_yes (s := 1) hv.1 (by omega) hv.2
      rw [← HY.out, Int.toNat_natCast] at hyes
      have hlen : ys.length = n := by rw [hyes, strideUpto_length]
      have hb0 : (((n : Nat) : Int) == 0) = false := by rw [beq_eq_false_iff_ne]; omega
      have HYS := mkHid hyes
      have HLN := mkHid hlen
      rw [hlen]
      clear hyes hlen
      by_cases h200 : 200 < b
      · go_wp2_with fail
        refine (alive_any _).mono ?_
        rintro e w9 ⟨rfl, rfl⟩
        go_wp2_with fail
        go_ret
        exact ⟨rfl, BB.out⟩
      · have q1 : bankRounds ys n = 1 := by rw [HYS.out]; exact near_rounds b n (by omega) (by omega)
        have q2 := near_line b n (by omega) (by omega)
        have q3 : strideCells (b - b % 8) 1 n = strideUpto (b - b % 8) 1 n := by have := stride_yes (b := b - b % 8) (s := 1) (l := n) (by omega) (by omega) (by omega); rwa [Int.toNat_natCast] at this
        have q4 : (strideUpto (b - b % 8) 1 n).length = n := strideUpto_length _ _ _
        have hT := implBankRounds_any A2 c2 ys n w4 (by omega) S4.out
        rw [q1, HLN.out] at hT
        have HT := mkHid hT
        have H2 := mkHid q2
        have H3 := mkHid q3
        have H4 := mkHid q4
        clear q1 q2 q3 q4 hT
        have r1 : b.tmod 8 = b % 8 := Int.tmod_eq_emod_of_nonneg (by omega)
        have r2 : 0 ≤ b % 8 ∧ b % 8 < 8 := by omega
        obtain ⟨t, ht⟩ : ∃ t, t = b % 8 := ⟨_, rfl⟩
        rw [← ht] at H2 H3 H4 r1 r2
        clear ht
        go_wp2_with fail
        refine HT.out.mono ?_
        rintro e w5 ⟨rfl, b5⟩
        have B5 := mkHid (below_then BB.out b5)
        clear b5
        go_wp2_with fail
        refine (implStrideCells_any _ _ _ _).mono ?_
        (first | skip | rw [r1])
        rw [H3.out]
        rintro e w6 ⟨A6, c6, rfl, o6, b6⟩
        have hG := implIsGathered_any A6 c6 (strideUpto (b - t) 1 n) 8 w6 (by rw [H4.out]; omega) (Sl.of_own o6)
        rw [H2.out, H4.out] at hG
        rw [H4.out]
        have HG := mkHid hG
        have B6 := mkHid (below_then B5.out b6)
        clear b6 o6 hG
        go_wp2_with fail
        refine HG.out.mono ?_
        rintro e w7 ⟨rfl, b7⟩
        have B7 := mkHid (below_then B6.out b7)
        clear b7
        go_wp2_with fail
        go_ret
        exact ⟨rfl, B7.out⟩
namespace fnBanksNear
set_option maxRecDepth 100000 in
theorem lifted (os : Os) (started : os.Started) (H : Type) (enc : TypeId × Value → H) :
    ReturnsInHanded {} Try.checked os 7 .any (Rows.fnBanksNearSpec.pre6 enc Try.prog Try.f7 Rows.fnBanksNearRow.domain false) (Rows.fnBanksNearSpec.post enc Try.prog Try.f7 false true false false) := by
  refine returnsInHanded_of_change (C := Try.checked) own started (by kernel_rfl) Try.func7
    (ChangeSpec.witness6 (enc := enc) (C := Try.checked) false ⟨#[], #[.slice none 0 0], []⟩ 8 (by kernel_rfl) (by kernel_rfl) (by kernel_rfl) (by kernel_rfl)) ?_
  intro W base args ds gs before hval0 hW hcnd _
  have hval : ∀ (j : Nat) t v, Try.f7.params[j]? = some t → args[j]? = some v → Value.okWide Try.prog W .any base t v := hval0
  have hW' := hW
  obtain ⟨p, q, hA0, hV, rfl, hfz, hnd⟩ := hW
  have hA : DataW.TrodAll enc Try.prog W 0 (fun _ => true) true Try.f7.params.toList args.toList ds p := hA0
  have hAk : DataW.TrodAll enc Try.prog W 0 (fun _ => true) true Try.f7.params.toList args.toList ds p := hA0
  rw [Try.params7] at hA hval
  obtain ⟨v0, vs0, d0, ds0, p0, q0, hargs, rfl, rfl, h0, r0⟩ := trodAll_cons hA
  obtain ⟨rfl, rfl, rfl⟩ := trodAll_nil r0
  obtain rfl : args = #[v0] := by cases args; simp_all
  obtain ⟨rfl, rfl⟩ := trodVars_none hV
  obtain ⟨Azs, czs, zs, rfl, nzs, kzs, szs, wzs⟩ := open_int_slice Try.underlying28 Try.underlying5 (by kernel_rfl) (hval 0 28 v0 rfl rfl) h0
  have wzs : ∀ z ∈ zs, 0 ≤ z ∧ z ≤ 255 := fun z hz => wf_u8_bounds (wzs z hz)
  clear hA0 hval0
  refine (near_walk Azs czs zs W nzs kzs szs wzs).mono fun e W' ⟨he, hb⟩ => ?_
  subst he
  refine ⟨_, rfl, post_true laidOut (fun t ht => ?_) (by kernel_rfl) Try.underlying4 rfl rfl hW' hAk hb⟩
  rw [Try.params7] at ht
  simp only [List.mem_cons, List.not_mem_nil, or_false] at ht
  first | (rcases ht with rfl <;> exact ⟨by kernel_rfl, of_decide_eq_true (by kernel_rfl)⟩) | (obtain rfl := ht; exact ⟨by kernel_rfl, of_decide_eq_true (by kernel_rfl)⟩)
/-- The statement. -/
theorem proved : Rows.FnBanksNearSaid :=
  OpenClaim.holds_of_wide 7 Try.f7 rfl rfl rfl rfl rfl rfl rfl ⟨rfl, rfl, rfl, rfl, rfl⟩ rfl rfl rfl rfl rfl (by kernel_rfl) Try.func7 (by kernel_rfl)
    (of_decide_eq_true (by kernel_rfl)) (by unfold Func.isWrapper; first | (rw [if_pos (by decide +kernel)]; kernel_rfl) | (rw [if_neg (by decide +kernel)]; exact ⟨rfl, rfl⟩))
    (fun os started H enc _ => lifted os started H enc)
end fnBanksNear
#print axioms fnBanksNear.proved
end Go.Proofs.Ytjgmghlgjjfifaa
