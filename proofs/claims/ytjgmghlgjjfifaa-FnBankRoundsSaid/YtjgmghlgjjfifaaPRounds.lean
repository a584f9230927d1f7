/-
  Proved: FnBankRounds returns true for every code.
-/
import Derived.Test.YtjgmghlgjjfifaaDBanks
import Derived.Test.YtjgmghlgjjfifaaPlainBanks2
import Derived.Test.YtjgmghlgjjfifaaCSame
import Derived.Test.YtjgmghlgjjfifaaFrame
namespace Go.Proofs.Ytjgmghlgjjfifaa
open Go.ChangeShapes Go.WideShapes Go.ChangeAt Go.RowKit
set_option maxHeartbeats 1000000
set_option linter.unusedVariables false

theorem Sl.lit (w : World) (us : List Value) (e : TypeId) : Sl (w.alloc (.cells us.toArray e)) (some ⟨w.heap.size, 0, none⟩) us :=
  .inr ⟨w.heap.size, 0, rfl, fun j u hu => by have := newCells w us e j u hu; rwa [add_flat] at this⟩
theorem rounds_walk (A : Option Addr) (c : Nat) (zs : List Int) (w : World) (hl : zs.length ≤ 9223372036854775807) (hcap : zs.length ≤ c) (hs : Sl w A (u8s zs)) (hz : ∀ z ∈ zs, 0 ≤ z ∧ z ≤ 255) :
    Calls Try.prog 10 #[.slice A zs.length c] w fun e w' => e = .returned (.bool true) ∧ Below w.heap.size w w' := by
  by_cases hbig : 1048576 < zs.length
  · go_enter Try.func10, Try.ntmps10
    go_wp2_with fail
    go_ret
    exact ⟨rfl, Below.refl _ _⟩
  · go_enter Try.func10, Try.ntmps10
    go_wp2_with fail
    refine (drawBankRounds_any _ _ _ _ hl hcap hs hz).mono ?_
    rintro e w1 ⟨A1, c1, xs, b, rfl, s1, hx, hxc, hsz, hsm, b1⟩
    clear hs hz
    have S1 := mkHid s1
    have B1 := mkHid b1
    have HX := mkHid hsm
    clear s1 b1 hsm
    go_wp2_with fail
    refine (implBankRounds_any _ _ _ _ _ (by omega) S1.out).mono ?_
    rintro e w2 ⟨rfl, b2⟩
    have S2 := mkHid (S1.out.below b2)
    have B2 := mkHid (below_then B1.out b2)
    clear b2
    have hT := specBankRounds_any A1 c1 xs b w2 (by omega) S2.out
    cases hok : (areCells xs && inB b 1 32) with
    | false =>
      have hno := bankRounds_no hok
      rw [hno] at hT
      rw [hno]
      have HT := mkHid hT
      clear hok hno hT
      go_wp2_with fail
      refine HT.out.mono ?_
      rintro e w3 ⟨rfl, b3⟩
      have B3 := mkHid (below_then B2.out b3)
      clear b3
      go_wp2_with fail
      refine (alive_any _).mono ?_
      rintro e w4 ⟨rfl, rfl⟩
      go_wp2_with fail
      go_ret
      exact ⟨rfl, B3.out⟩
    | true =>
      rw [Bool.and_eq_true] at hok
      have hb := inB_t hok.2
      have hyes := bankRounds_yes hok.1 hok.2
      have hasc := (asc_cells hok.1).1
      obtain ⟨n, hn⟩ : ∃ n, n = bankRounds xs b := ⟨_, rfl⟩
      have hn0 : 0 ≤ n := by rw [hn, hyes]; exact rounds_low _ _ hb.1
      have hn8 : n ≤ 8 := by rw [hn, hyes]; have := rounds_high (asc xs) b; omega
      obtain ⟨d, hd⟩ : ∃ d, d = bankRounds xs (2 * b) := ⟨_, rfl⟩
      have hdn : 16 < b ∨ d ≤ n := by
        by_cases h16 : b ≤ 16
        · right
          rw [hd, hn, hyes, bankRounds_yes hok.1 (inB_of (by omega) (by omega))]
          exact rounds_double _ _ hb.1
        · left; omega
      have h1 : bankRounds xs 1 = ((card xs : Nat) : Int) := by rw [bankRounds_yes hok.1 (by decide), rounds_one]; rfl
      have h2 := linesTouched_one hok.1
      have hroom : ((card xs : Nat) : Int) ≤ n * b := by rw [hn, hyes]; exact rounds_room _ _ hb.1
      have p1 : 0 ≤ n * b := Int.mul_nonneg hn0 (by omega)
      have p2 : n * b ≤ 8 * 32 := Int.mul_le_mul hn8 hb.2 (by omega) (by omega)
      have h7 := rounds_777 b hb
      rw [← hn] at hT
      rw [← hn]
      have HT := mkHid hT
      have HD := mkHid hd
      have H1 := mkHid h1
      have H2 := mkHid h2
      have H7 := mkHid h7
      have hcard : card xs ≤ 8 := hasc
      clear hok hyes hT hn hd h1 h2 h7 hasc
      generalize card xs = cx at *
      go_wp2_with fail
      refine HT.out.mono ?_
      rintro e w3 ⟨rfl, b3⟩
      have S3 := mkHid (S2.out.below b3)
      have B3 := mkHid (below_then B2.out b3)
      clear b3
      go_wp2_with fail
      refine (implBankRounds_any _ _ _ _ _ (by omega) S3.out).mono ?_
      rw [← HD.out]
      rintro e w4 ⟨rfl, b4⟩
      have S4 := mkHid (S3.out.below b4)
      have B4 := mkHid (below_then B3.out b4)
      clear b4
      by_cases h16 : 16 < b
      case' neg => have hdn' : d ≤ n := by omega
      all_goals (
        go_wp2_with fail
        refine (implBankRounds_any _ _ _ _ _ (by omega) S4.out).mono ?_
        rw [H1.out]
        rintro e w5 ⟨rfl, b5⟩
        have S5 := mkHid (S4.out.below b5)
        have B5 := mkHid (below_then B4.out b5)
        clear b5
        go_wp2_with fail
        refine (implLinesTouched_any _ _ _ _ _ (by omega) S5.out).mono ?_
        rw [H2.out]
        rintro e w6 ⟨rfl, b6⟩
        have S6 := mkHid (S5.out.below b6)
        have B6 := mkHid (below_then B5.out b6)
        clear b6
        go_wp2_with fail
        refine (implLinesTouched_any _ _ _ _ _ (by omega) S6.out).mono ?_
        rw [H2.out]
        rintro e w7 ⟨rfl, b7⟩
        have B7 := mkHid (below_then B6.out b7)
        clear b7
        have hC := implBankRounds_any (some ⟨w7.heap.size, 0, none⟩) 3 [7, 7, 7] b (w7.alloc (.cells #[.int .i64 7, .int .i64 7, .int .i64 7] 3)) (by simp) (Sl.lit w7 (ints [7, 7, 7]) 3)
        rw [H7.out] at hC
        have HC := mkHid hC
        clear hC
        go_wp2_with fail
        refine HC.out.mono ?_
        rintro e w8 ⟨rfl, b8⟩
        have B8 := mkHid (below_then B7.out (below_then ((Below.refl _ _).alloc (Nat.le_refl _) _) b8))
        clear b8
        go_wp2_with fail
        go_ret
        exact ⟨rfl, B8.out⟩)
namespace fnBankRounds
set_option maxRecDepth 100000 in
theorem lifted (os : Os) (started : os.Started) (H : Type) (enc : TypeId × Value → H) :
    ReturnsInHanded {} Try.checked os 10 .any (Rows.fnBankRoundsSpec.pre6 enc Try.prog Try.f10 Rows.fnBankRoundsRow.domain false) (Rows.fnBankRoundsSpec.post enc Try.prog Try.f10 false true false false) := by
  refine returnsInHanded_of_change (C := Try.checked) own started (by kernel_rfl) Try.func10
    (ChangeSpec.witness6 (enc := enc) (C := Try.checked) false ⟨#[], #[.slice none 0 0], []⟩ 8 (by kernel_rfl) (by kernel_rfl) (by kernel_rfl) (by kernel_rfl)) ?_
  intro W base args ds gs before hval0 hW hcnd _
  have hval : ∀ (j : Nat) t v, Try.f10.params[j]? = some t → args[j]? = some v → Value.okWide Try.prog W .any base t v := hval0
  have hW' := hW
  obtain ⟨p, q, hA0, hV, rfl, hfz, hnd⟩ := hW
  have hA : DataW.TrodAll enc Try.prog W 0 (fun _ => true) true Try.f10.params.toList args.toList ds p := hA0
  have hAk : DataW.TrodAll enc Try.prog W 0 (fun _ => true) true Try.f10.params.toList args.toList ds p := hA0
  rw [Try.params10] at hA hval
  obtain ⟨v0, vs0, d0, ds0, p0, q0, hargs, rfl, rfl, h0, r0⟩ := trodAll_cons hA
  obtain ⟨rfl, rfl, rfl⟩ := trodAll_nil r0
  obtain rfl : args = #[v0] := by cases args; simp_all
  obtain ⟨rfl, rfl⟩ := trodVars_none hV
  obtain ⟨Azs, czs, zs, rfl, nzs, kzs, szs, wzs⟩ := open_int_slice Try.underlying28 Try.underlying5 (by kernel_rfl) (hval 0 28 v0 rfl rfl) h0
  have wzs : ∀ z ∈ zs, 0 ≤ z ∧ z ≤ 255 := fun z hz => wf_u8_bounds (wzs z hz)
  clear hA0 hval0
  refine (rounds_walk Azs czs zs W nzs kzs szs wzs).mono fun e W' ⟨he, hb⟩ => ?_
  subst he
  refine ⟨_, rfl, post_true laidOut (fun t ht => ?_) (by kernel_rfl) Try.underlying4 rfl rfl hW' hAk hb⟩
  rw [Try.params10] at ht
  simp only [List.mem_cons, List.not_mem_nil, or_false] at ht
  first | (rcases ht with rfl <;> exact ⟨by kernel_rfl, of_decide_eq_true (by kernel_rfl)⟩) | (obtain rfl := ht; exact ⟨by kernel_rfl, of_decide_eq_true (by kernel_rfl)⟩)
/-- The statement. -/
theorem proved : Rows.FnBankRoundsSaid :=
  OpenClaim.holds_of_wide 10 Try.f10 rfl rfl rfl rfl rfl rfl rfl ⟨rfl, rfl, rfl, rfl, rfl⟩ rfl rfl rfl rfl rfl (by kernel_rfl) Try.func10 (by kernel_rfl)
    (of_decide_eq_true (by kernel_rfl)) (by unfold Func.isWrapper; first | (rw [if_pos (by decide +kernel)]; kernel_rfl) | (rw [if_neg (by decide +kernel)]; exact ⟨rfl, rfl⟩))
    (fun os started H enc _ => lifted os started H enc)
end fnBankRounds
#print axioms fnBankRounds.proved
end Go.Proofs.Ytjgmghlgjjfifaa
