/-
  Proved: FnBankLoads returns true for every code.
-/
import Derived.Test.YtjgmghlgjjfifaaDBanks
import Derived.Test.YtjgmghlgjjfifaaPlainBanks2
import Derived.Test.YtjgmghlgjjfifaaCSame
import Derived.Test.YtjgmghlgjjfifaaFrame
namespace Go.Proofs.Ytjgmghlgjjfifaa
open Go.ChangeShapes Go.WideShapes Go.ChangeAt Go.RowKit
set_option maxHeartbeats 1000000
set_option linter.unusedVariables false

theorem sum_bounds (l : List Int) (m : Int) (h : ∀ z ∈ l, 0 ≤ z ∧ z ≤ m) : 0 ≤ l.sum ∧ l.sum ≤ m * l.length := by
  refine ⟨?_, sum_le_max l m fun z hz => (h z hz).2⟩
  induction l with
  | nil => simp
  | cons x l ih =>
    have h1 := ih fun z hz => h z (List.mem_cons_of_mem _ hz)
    have h2 := h x (List.mem_cons_self ..)
    rw [List.sum_cons]; omega
theorem loads_walk (A : Option Addr) (c : Nat) (zs : List Int) (w : World) (hl : zs.length ≤ 9223372036854775807) (hcap : zs.length ≤ c) (hs : Sl w A (u8s zs)) (hz : ∀ z ∈ zs, 0 ≤ z ∧ z ≤ 255) :
    Calls Try.prog 9 #[.slice A zs.length c] w fun e w' => e = .returned (.bool true) ∧ Below w.heap.size w w' := by
  by_cases hbig : 1048576 < zs.length
  · go_enter Try.func9, Try.ntmps9
    go_wp2_with fail
    go_ret
    exact ⟨rfl, Below.refl _ _⟩
  · go_enter Try.func9, Try.ntmps9
    go_wp2_with fail
    refine (drawBankLoads_any _ _ _ _ hl hcap hs hz).mono ?_
    rintro e w1 ⟨A1, c1, xs, b, rfl, s1, hx, hxc, hsz, hsm, b1⟩
    clear hs hz
    have S1 := mkHid s1
    have B1 := mkHid b1
    have HX := mkHid hsm
    clear s1 b1 hsm
    obtain ⟨ys, hys⟩ : ∃ ys, ys = bankLoads xs b := ⟨_, rfl⟩
    have HY := mkHid hys
    have hyl : ys.length ≤ 32 := by rw [hys]; exact bankLoads_le _ _
    clear hys
    go_wp2_with fail
    refine (implBankLoads_any _ _ _ _ _ (by omega) S1.out).mono ?_
    rw [← HY.out]
    rintro e w2 ⟨A2, c2, rfl, o2, b2⟩
    have S2 := mkHid (Sl.of_own o2)
    have SX2 := mkHid (S1.out.below b2)
    have B2 := mkHid (below_then B1.out b2)
    clear o2 b2
    go_wp2_with fail
    refine (specBankLoads_any _ _ _ _ _ (by omega) SX2.out).mono ?_
    rw [← HY.out]
    rintro e w3 ⟨A3, c3, rfl, o3, b3⟩
    have S33 := mkHid (Sl.of_own o3)
    have S3 := mkHid (S2.out.below b3)
    have SX3 := mkHid (SX2.out.below b3)
    have B3 := mkHid (below_then B2.out b3)
    clear o3 b3
    go_wp2_with fail
    refine (sameInts_same _ _ _ _ _ _ (by omega) S3.out S33.out).mono ?_
    rintro e w4 ⟨rfl, k4, rfl⟩
    have S4 := mkHid (S3.out.drewN k4)
    have SX4 := mkHid (SX3.out.drewN k4)
    have B4 := mkHid (below_drewN B3.out k4)
    generalize w3.drewN k4 = w4 at *
    clear S33
    cases hok : (areCells xs && inB b 1 32) with
    | false =>
      have h0 : ys = [] := by rw [HY.out]; simp [bankLoads, hok]
      subst h0
      clear hok
      go_wp2_with fail
      refine (alive_any _).mono ?_
      rintro e w5 ⟨rfl, rfl⟩
      go_wp2_with fail
      go_ret
      exact ⟨rfl, B4.out⟩
    | true =>
      rw [Bool.and_eq_true] at hok
      have hb := inB_t hok.2
      obtain ⟨m, rfl⟩ := Int.eq_ofNat_of_zero_le (show 0 ≤ b by omega)
      have hyes := bankLoads_yes hok.1 hok.2
      have hlen : ys.length = m := by rw [HY.out, hyes, cnt_length]; simp
      have hsum : ys.sum = ((card xs : Nat) : Int) := by rw [HY.out, hyes, cnt_sum_all _ _ hb.1]; rfl
      have HBd : Hid (∀ z ∈ ys, 0 ≤ z ∧ z ≤ 8) := mkHid (by rw [HY.out]; exact bankLoads_bound xs m)
      have hlt1 := linesTouched_one hok.1
      have hcard : card xs ≤ 8 := Nat.le_trans (card_le _) (areCells_all hok.1).1
      have HT := mkHid hlt1
      have HS := mkHid hsum
      have HL := mkHid hlen
      clear hok hyes hsum hlt1
      rw [hlen]
      clear hlen
      have hb0 : (((m : Nat) : Int) == 0) = false := by rw [beq_eq_false_iff_ne]; omega
      go_wp2_with fail
      go_loop [6, 7] (fun v i => ∃ k : Nat, k ≤ m ∧ i = .int .i64 k ∧ v = .int .i64 (ys.take k).sum) (fun _ i => m - (intOf i).toNat)
      case atStart => exact ⟨0, by omega, rfl, by simp⟩
      case round =>
        obtain ⟨k, hk, rfl, rfl⟩ := hrel
        by_cases hlt : k < m
        · have hky : k < ys.length := by have := HL.out; omega
          obtain ⟨bb, off, rfl, hc⟩ := S4.out.at_ (k := k) (by simpa using hky)
          have h1 : w4.cell? ⟨bb, off + k, none⟩ = some (.int .i64 ys[k]) := hc k _ (ints_at hky)
          have hyk := HBd.out ys[k] (List.getElem_mem hky)
          have hsb := sum_bounds (ys.take k) 8 (fun z hz => HBd.out z (List.mem_of_mem_take hz))
          have htl : (ys.take k).length ≤ k := List.length_take_le _ _
          have HT2 := mkHid (sum_take ys k hky)
          have hsb1 := hsb.1
          have hsb2 : (ys.take k).sum ≤ 256 := by omega
          generalize (ys.take k).sum = sm at *
          generalize ys[k] = y at *
          clear hc hsb
          go_wp2_with fail
          go_round
          case rel => exact ⟨k + 1, by omega, by go_num, by rw [HT2.out]⟩
          case measure => simp [intOf]; omega
        · have : k = m := by omega
          subst this
          have ht : ys.take k = ys := List.take_of_length_le (by have := HL.out; omega)
          rw [ht, HS.out]
          clear ht
          have hC := implLinesTouched_any A1 c1 xs 1 w4 (by omega) SX4.out
          rw [HT.out] at hC
          have HC := mkHid hC
          clear hC
          go_wp2_with fail
          refine HC.out.mono ?_
          rintro e w5 ⟨rfl, b5⟩
          have B5 := mkHid (below_then B4.out b5)
          clear b5
          go_wp2_with fail
          go_ret
          exact ⟨rfl, B5.out⟩
namespace fnBankLoads
set_option maxRecDepth 100000 in
theorem lifted (os : Os) (started : os.Started) (H : Type) (enc : TypeId × Value → H) :
    ReturnsInHanded {} Try.checked os 9 .any (Rows.fnBankLoadsSpec.pre6 enc Try.prog Try.f9 Rows.fnBankLoadsRow.domain false) (Rows.fnBankLoadsSpec.post enc Try.prog Try.f9 false true false false) := by
  refine returnsInHanded_of_change (C := Try.checked) own started (by kernel_rfl) Try.func9
    (ChangeSpec.witness6 (enc := enc) (C := Try.checked) false ⟨#[], #[.slice none 0 0], []⟩ 8 (by kernel_rfl) (by kernel_rfl) (by kernel_rfl) (by kernel_rfl)) ?_
  intro W base args ds gs before hval0 hW hcnd _
  have hval : ∀ (j : Nat) t v, Try.f9.params[j]? = some t → args[j]? = some v → Value.okWide Try.prog W .any base t v := hval0
  have hW' := hW
  obtain ⟨p, q, hA0, hV, rfl, hfz, hnd⟩ := hW
  have hA : DataW.TrodAll enc Try.prog W 0 (fun _ => true) true Try.f9.params.toList args.toList ds p := hA0
  have hAk : DataW.TrodAll enc Try.prog W 0 (fun _ => true) true Try.f9.params.toList args.toList ds p := hA0
  rw [Try.params9] at hA hval
  obtain ⟨v0, vs0, d0, ds0, p0, q0, hargs, rfl, rfl, h0, r0⟩ := trodAll_cons hA
  obtain ⟨rfl, rfl, rfl⟩ := trodAll_nil r0
  obtain rfl : args = #[v0] := by cases args; simp_all
  obtain ⟨rfl, rfl⟩ := trodVars_none hV
  obtain ⟨Azs, czs, zs, rfl, nzs, kzs, szs, wzs⟩ := open_int_slice Try.underlying28 Try.underlying5 (by kernel_rfl) (hval 0 28 v0 rfl rfl) h0
  have wzs : ∀ z ∈ zs, 0 ≤ z ∧ z ≤ 255 := fun z hz => wf_u8_bounds (wzs z hz)
  clear hA0 hval0
  refine (loads_walk Azs czs zs W nzs kzs szs wzs).mono fun e W' ⟨he, hb⟩ => ?_
  subst he
  refine ⟨_, rfl, post_true laidOut (fun t ht => ?_) (by kernel_rfl) Try.underlying4 rfl rfl hW' hAk hb⟩
  rw [Try.params9] at ht
  simp only [List.mem_cons, List.not_mem_nil, or_false] at ht
  first | (rcases ht with rfl <;> exact ⟨by kernel_rfl, of_decide_eq_true (by kernel_rfl)⟩) | (obtain rfl := ht; exact ⟨by kernel_rfl, of_decide_eq_true (by kernel_rfl)⟩)
/-- The statement. -/
theorem proved : Rows.FnBankLoadsSaid :=
  OpenClaim.holds_of_wide 9 Try.f9 rfl rfl rfl rfl rfl rfl rfl ⟨rfl, rfl, rfl, rfl, rfl⟩ rfl rfl rfl rfl rfl (by kernel_rfl) Try.func9 (by kernel_rfl)
    (of_decide_eq_true (by kernel_rfl)) (by unfold Func.isWrapper; first | (rw [if_pos (by decide +kernel)]; kernel_rfl) | (rw [if_neg (by decide +kernel)]; exact ⟨rfl, rfl⟩))
    (fun os started H enc _ => lifted os started H enc)
end fnBankLoads
#print axioms fnBankLoads.proved
end Go.Proofs.Ytjgmghlgjjfifaa
