/-
  Proved: FnIsGathered returns true for every code.
-/
import Derived.Test.YtjgmghlgjjfifaaDBanks
import Derived.Test.YtjgmghlgjjfifaaPlainBanks3
import Derived.Test.YtjgmghlgjjfifaaCSame
import Derived.Test.YtjgmghlgjjfifaaFrame
namespace Go.Proofs.Ytjgmghlgjjfifaa
open Go.ChangeShapes Go.WideShapes Go.ChangeAt Go.RowKit
set_option maxHeartbeats 1000000
set_option linter.unusedVariables false

theorem gathered_small {zs : List Int} {s : Int} (h : areCells zs = true) (hs : inB s 1 64 = true) : 1 < linesTouched zs s ∨ gathered zs s = true := by
  by_cases h1 : 1 < linesTouched zs s
  · exact .inl h1
  · right
    have hb := inB_t hs
    have h8 : card zs ≤ 8 := Nat.le_trans (card_le _) (areCells_all h).1
    refine gathered_of h hb rfl h8 ?_
    rw [linesTouched_yes h hs] at h1
    have hc : card zs ≤ (linesOf zs s).length * s.toNat := card_lines zs s hb.1
    by_cases h0 : (linesOf zs s).length = 0
    · rw [h0] at hc
      have : card zs = 0 := by omega
      rw [h0, this]
      have : ((0 : Nat) : Int) + s - 1 < s := by omega
      rw [Int.ediv_eq_zero_of_lt (by omega) this]; rfl
    · have h2 : (linesOf zs s).length = 1 := by omega
      rw [h2] at hc ⊢
      have hne : zs ≠ [] := by rintro rfl; simp [linesOf, asc_nil] at h2
      have := card_pos hne
      have e : ((card zs : Nat) : Int) + s - 1 = ((card zs : Nat) : Int) - 1 + s * 1 := by omega
      rw [e, Int.add_mul_ediv_left _ _ (by omega), Int.ediv_eq_zero_of_lt (by omega) (by omega)]; rfl
theorem gathered_eq {zs : List Int} {s : Int} (h : areCells zs = true) (hs : inB s 1 64 = true) : (linesTouched zs s == linesLeast (linesTouched zs 1) s) = gathered zs s := by
  unfold gathered
  rw [linesTouched_yes h hs, linesTouched_yes h (by decide), h, hs]
  simp only [Bool.and_self, Bool.true_and]
  by_cases e : ((linesOf zs s).length : Int) = linesLeast (linesOf zs 1).length s
  · simp [e]
  · simp [e]
theorem gathered_no {zs : List Int} {s : Int} (h : (areCells zs && inB s 1 64) = false) : gathered zs s = false ∧ linesTouched zs s = -1 := by
  unfold gathered linesTouched; simp [h]
theorem gathered_walk (A : Option Addr) (c : Nat) (zs : List Int) (w : World) (hl : zs.length ≤ 9223372036854775807) (hcap : zs.length ≤ c) (hs : Sl w A (u8s zs)) (hz : ∀ z ∈ zs, 0 ≤ z ∧ z ≤ 255) :
    Calls Try.prog 12 #[.slice A zs.length c] w fun e w' => e = .returned (.bool true) ∧ Below w.heap.size w w' := by
  by_cases hbig : 1048576 < zs.length
  · go_enter Try.func12, Try.ntmps12
    go_wp2_with fail
    go_ret
    exact ⟨rfl, Below.refl _ _⟩
  · go_enter Try.func12, Try.ntmps12
    go_wp2_with fail
    refine (drawIsGathered_any _ _ _ _ hl hcap hs hz).mono ?_
    rintro e w1 ⟨A1, c1, xs, s, rfl, s1, hx, hxc, hsz, hsm, b1⟩
    clear hs hz
    have S1 := mkHid s1
    have B1 := mkHid b1
    have HX := mkHid hsm
    clear s1 b1 hsm
    obtain ⟨ok, hok⟩ : ∃ ok, ok = gathered xs s := ⟨_, rfl⟩
    obtain ⟨n, hn⟩ : ∃ n, n = linesTouched xs s := ⟨_, rfl⟩
    have HK := mkHid hok
    have HN := mkHid hn
    clear hok hn
    go_wp2_with fail
    refine (implIsGathered_any _ _ _ _ _ (by omega) S1.out).mono ?_
    rw [← HK.out]
    rintro e w2 ⟨rfl, b2⟩
    have S2 := mkHid (S1.out.below b2)
    have B2 := mkHid (below_then B1.out b2)
    clear b2
    go_wp2_with fail
    refine (specIsGathered_any _ _ _ _ _ (by omega) S2.out).mono ?_
    rw [← HK.out]
    rintro e w3 ⟨rfl, b3⟩
    have S3 := mkHid (S2.out.below b3)
    have B3 := mkHid (below_then B2.out b3)
    clear b3
    have hT := implLinesTouched_any A1 c1 xs s w3 (by omega) S3.out
    rw [← HN.out] at hT
    have HT := mkHid hT
    clear hT
    cases hv : (areCells xs && inB s 1 64) with
    | false =>
      obtain ⟨k1, k2⟩ := gathered_no hv
      rw [← HK.out] at k1
      rw [← HN.out] at k2
      subst k1 k2
      clear hv
      go_wp2_with fail
      refine HT.out.mono ?_
      rintro e w4 ⟨rfl, b4⟩
      have BB := mkHid (below_then B3.out b4)
      clear b4
      go_wp2_with fail
      refine (alive_any _).mono ?_
      rintro e w9 ⟨rfl, rfl⟩
      go_wp2_with fail
      go_ret
      exact ⟨rfl, BB.out⟩
    | true =>
      rw [Bool.and_eq_true] at hv
      have hs := inB_t hv.2
      have q1 := gathered_small hv.1 hv.2
      have q2 := gathered_eq hv.1 hv.2
      rw [← HN.out, ← HK.out] at q1
      rw [← HN.out, ← HK.out, linesTouched_one hv.1] at q2
      have q3 : strideCells s 1 8 = strideUpto s 1 8 := stride_yes (by omega) (by omega) (by omega)
      have q4 := near_gathered s hs
      have q5 : (strideUpto s 1 8).length = 8 := strideUpto_length _ _ _
      have H1 := mkHid (linesTouched_one hv.1)
      have H3 := mkHid q3
      have H4 := mkHid q4
      have H5 := mkHid q5
      have q6 : 0 ≤ n := by rw [HN.out, linesTouched_yes hv.1 hv.2]; omega
      clear hv q3 q4 q5
      obtain ⟨L, hL⟩ : ∃ L, L = linesLeast ((card xs : Nat) : Int) s := ⟨_, rfl⟩
      rw [← hL] at q2
      have HL := mkHid hL
      clear hL
      obtain ⟨b, hb⟩ : ∃ b : Bool, b = decide (1 < n) := ⟨_, rfl⟩
      have hdo : b = true ∨ ok = true := by rcases q1 with h | h; · left; simp [hb, h]
                                            · right; exact h
      have HC := mkHid hdo
      have hb' : decide (1 < n) = b := hb.symm
      clear hb hdo q1
      cases ok
      all_goals cases b
      all_goals (try (exfalso; have := HC.out; simp at this; done))
      all_goals (
        go_wp2_with fail
        refine HT.out.mono ?_
        rintro e w4 ⟨rfl, b4⟩
        have S4 := mkHid (S3.out.below b4)
        have B4 := mkHid (below_then B3.out b4)
        clear b4
        go_wp2_with fail
        refine (implStrideCells_any _ _ _ _).mono ?_
        rw [H3.out]
        rintro e w5 ⟨A5, c5, rfl, o5, b5⟩
        have hG := implIsGathered_any A5 c5 (strideUpto s 1 8) s w5 (by rw [H5.out]; omega) (Sl.of_own o5)
        rw [H4.out, H5.out] at hG
        rw [H5.out]
        have HG := mkHid hG
        have S5 := mkHid (S4.out.below b5)
        have B5 := mkHid (below_then B4.out b5)
        clear b5 o5 hG
        go_wp2_with fail
        refine HG.out.mono ?_
        rintro e w6 ⟨rfl, b6⟩
        have S6 := mkHid (S5.out.below b6)
        have B6 := mkHid (below_then B5.out b6)
        clear b6
        go_wp2_with fail
        refine (implLinesTouched_any _ _ _ _ _ (by omega) S6.out).mono ?_
        rw [H1.out]
        rintro e w7 ⟨rfl, b7⟩
        have B7 := mkHid (below_then B6.out b7)
        clear b7
        go_wp2_with fail
        refine (implLinesLeast_any _ _ _).mono ?_
        rw [← HL.out]
        rintro e w8 ⟨rfl, b8⟩
        subst b8
        go_wp2_with fail
        go_ret
        exact ⟨rfl, B7.out⟩)
namespace fnIsGathered
set_option maxRecDepth 100000 in
theorem lifted (os : Os) (started : os.Started) (H : Type) (enc : TypeId × Value → H) :
    ReturnsInHanded {} Try.checked os 12 .any (Rows.fnIsGatheredSpec.pre6 enc Try.prog Try.f12 Rows.fnIsGatheredRow.domain false) (Rows.fnIsGatheredSpec.post enc Try.prog Try.f12 false true false false) := by
  refine returnsInHanded_of_change (C := Try.checked) own started (by kernel_rfl) Try.func12
    (ChangeSpec.witness6 (enc := enc) (C := Try.checked) false ⟨#[], #[.slice none 0 0], []⟩ 8 (by kernel_rfl) (by kernel_rfl) (by kernel_rfl) (by kernel_rfl)) ?_
  intro W base args ds gs before hval0 hW hcnd _
  have hval : ∀ (j : Nat) t v, Try.f12.params[j]? = some t → args[j]? = some v → Value.okWide Try.prog W .any base t v := hval0
  have hW' := hW
  obtain ⟨p, q, hA0, hV, rfl, hfz, hnd⟩ := hW
  have hA : DataW.TrodAll enc Try.prog W 0 (fun _ => true) true Try.f12.params.toList args.toList ds p := hA0
  have hAk : DataW.TrodAll enc Try.prog W 0 (fun _ => true) true Try.f12.params.toList args.toList ds p := hA0
  rw [Try.params12] at hA hval
  obtain ⟨v0, vs0, d0, ds0, p0, q0, hargs, rfl, rfl, h0, r0⟩ := trodAll_cons hA
  obtain ⟨rfl, rfl, rfl⟩ := trodAll_nil r0
  obtain rfl : args = #[v0] := by cases args; simp_all
  obtain ⟨rfl, rfl⟩ := trodVars_none hV
  obtain ⟨Azs, czs, zs, rfl, nzs, kzs, szs, wzs⟩ := open_int_slice Try.underlying28 Try.underlying5 (by kernel_rfl) (hval 0 28 v0 rfl rfl) h0
  have wzs : ∀ z ∈ zs, 0 ≤ z ∧ z ≤ 255 := fun z hz => wf_u8_bounds (wzs z hz)
  clear hA0 hval0
  refine (gathered_walk Azs czs zs W nzs kzs szs wzs).mono fun e W' ⟨he, hb⟩ => ?_
  subst he
  refine ⟨_, rfl, post_true laidOut (fun t ht => ?_) (by kernel_rfl) Try.underlying4 rfl rfl hW' hAk hb⟩
  rw [Try.params12] at ht
  simp only [List.mem_cons, List.not_mem_nil, or_false] at ht
  first | (rcases ht with rfl <;> exact ⟨by kernel_rfl, of_decide_eq_true (by kernel_rfl)⟩) | (obtain rfl := ht; exact ⟨by kernel_rfl, of_decide_eq_true (by kernel_rfl)⟩)
/-- The statement. -/
theorem proved : Rows.FnIsGatheredSaid :=
  OpenClaim.holds_of_wide 12 Try.f12 rfl rfl rfl rfl rfl rfl rfl ⟨rfl, rfl, rfl, rfl, rfl⟩ rfl rfl rfl rfl rfl (by kernel_rfl) Try.func12 (by kernel_rfl)
    (of_decide_eq_true (by kernel_rfl)) (by unfold Func.isWrapper; first | (rw [if_pos (by decide +kernel)]; kernel_rfl) | (rw [if_neg (by decide +kernel)]; exact ⟨rfl, rfl⟩))
    (fun os started H enc _ => lifted os started H enc)
end fnIsGathered
#print axioms fnIsGathered.proved
end Go.Proofs.Ytjgmghlgjjfifaa
