/-
  Proved: FnBanksShift returns true for every code.
-/
import Derived.Test.YtjgmghlgjjfifaaDBanks
import Derived.Test.YtjgmghlgjjfifaaPlainBanks2
import Derived.Test.YtjgmghlgjjfifaaCSame
import Derived.Test.YtjgmghlgjjfifaaFrame
namespace Go.Proofs.Ytjgmghlgjjfifaa
open Go.ChangeShapes Go.WideShapes Go.ChangeAt Go.RowKit
set_option maxHeartbeats 1000000
set_option linter.unusedVariables false

theorem areCells_shift {xs : List Int} {s : Int} (h : areCells xs = true) (hs : 1 ≤ s) (h' : ∀ x ∈ xs, x + s ≤ 255) : areCells (xs.map (· + s)) = true := by
  have h8 := areCells_all h
  refine areCells_of (by simpa using h8.1) (fun z hz => ?_)
  rw [List.mem_map] at hz
  obtain ⟨x, hx, rfl⟩ := hz
  have h1 := (h8.2 x hx).1
  have h2 := h' x hx
  show 0 ≤ x + s ∧ x + s ≤ 255
  omega
theorem shift_loads {xs : List Int} {b : Int} (h : bankLoads xs b ≠ []) (h' : ∀ x ∈ xs, x + b ≤ 255) : bankLoads (xs.map (· + b)) b = bankLoads xs b := by
  have hv : areCells xs = true ∧ inB b 1 32 = true := by
    unfold bankLoads at h
    split at h
    · rename_i h2; simpa using h2
    · exact absurd rfl h
  have hi := inB_t hv.2
  rw [bankLoads_yes hv.1 hv.2, bankLoads_yes (areCells_shift hv.1 hi.1 h') hv.2, asc_map_add, cnt_shift]
theorem bshift_walk (A : Option Addr) (c : Nat) (zs : List Int) (w : World) (hl : zs.length ≤ 9223372036854775807) (hcap : zs.length ≤ c) (hs : Sl w A (u8s zs)) (hz : ∀ z ∈ zs, 0 ≤ z ∧ z ≤ 255) :
    Calls Try.prog 8 #[.slice A zs.length c] w fun e w' => e = .returned (.bool true) ∧ Below w.heap.size w w' := by
  by_cases hbig : 1048576 < zs.length
  · go_enter Try.func8, Try.ntmps8
    go_wp2_with fail
    go_ret
    exact ⟨rfl, Below.refl _ _⟩
  · go_enter Try.func8, Try.ntmps8
    go_wp2_with fail
    refine (drawBankLoads_any _ _ _ _ hl hcap hs hz).mono ?_
    rintro e w1 ⟨A1, c1, xs, b, rfl, s1, hx, hxc, hsz, hsm, b1⟩
    clear hs hz
    have S1 := mkHid s1
    have B1 := mkHid b1
    have HX := mkHid hsm
    clear s1 b1 hsm
    obtain ⟨ys, hys⟩ : ∃ ys, ys = bankLoads xs b := ⟨_, rfl⟩
    have HY := mkHid hys
    have hyl : ys.length ≤ 32 := by rw [hys]; exact bankLoads_le _ _
    clear hys
    go_wp2_with fail
    refine (implBankLoads_any _ _ _ _ _ (by omega) S1.out).mono ?_
    rw [← HY.out]
    rintro e w2 ⟨A2, c2, rfl, o2, b2⟩
    have S2 := mkHid (Sl.of_own o2)
    have SX2 := mkHid (S1.out.below b2)
    have B2 := mkHid (below_then B1.out b2)
    clear o2 b2
    go_wp2_with fail
    refine (specBankLoads_any _ _ _ _ _ (by omega) SX2.out).mono ?_
    rw [← HY.out]
    rintro e w3 ⟨A3, c3, rfl, o3, b3⟩
    have S33 := mkHid (Sl.of_own o3)
    have S3 := mkHid (S2.out.below b3)
    have SX3 := mkHid (SX2.out.below b3)
    have B3 := mkHid (below_then B2.out b3)
    clear o3 b3
    go_wp2_with fail
    refine (sameInts_same _ _ _ _ _ _ (by omega) S3.out S33.out).mono ?_
    rintro e w4 ⟨rfl, k4, rfl⟩
    have S4 := mkHid (S3.out.drewN k4)
    have SX4 := mkHid (SX3.out.drewN k4)
    have B4 := mkHid (below_drewN B3.out k4)
    generalize w3.drewN k4 = w4 at *
    clear S33
    go_wp2_with fail
    go_loopw [6, 7] (fun v iv wr => ∃ k : Nat, k ≤ xs.length ∧ iv = .int .i64 k ∧ Hid (∀ x ∈ xs.take k, x + b ≤ 255) ∧ (∃ A c, v = .slice A k c ∧ wr.ownsRow w4.heap.size 3 1 (.slice A k c) k (ints ((xs.take k).map (· + b)))) ∧ Below w4.heap.size w4 wr) (fun _ iv _ => xs.length - (intOf iv).toNat)
    case atStart => exact ⟨0, by omega, rfl, mkHid (by simp), ⟨_, 0, rfl, own_empty w4 _ _⟩, (Below.refl _ _).alloc (Nat.le_refl _) _⟩
    case round =>
      obtain ⟨k, hk, rfl, HS, ⟨A5, c5, rfl, hown⟩, hb⟩ := hrel
      have hsz5 := hb.size
      have HB := mkHid hb
      have HO := mkHid hown
      clear hb hown
      by_cases hlt : k < xs.length
      · obtain ⟨bb, off, rfl, hcx⟩ := (SX4.out.below HB.out).at_ (k := k) (by simpa using hlt)
        have h1 : wr.cell? ⟨bb, off + k, none⟩ = some (.int .i64 xs[k]) := hcx k _ (ints_at hlt)
        have hxk := HX.out xs[k] (List.getElem_mem hlt)
        unfold smallCell at hxk
        have HT : Hid ((xs.take (k + 1)).map (· + b) = (xs.take k).map (· + b) ++ [xs[k] + b]) := mkHid (by rw [List.take_succ_eq_append_getElem hlt, List.map_append]; rfl)
        have HT2 : Hid (xs[k] + b ≤ 255 → ∀ x ∈ xs.take (k + 1), x + b ≤ 255) := mkHid (by
          intro h x hx
          rw [List.take_succ_eq_append_getElem hlt, List.mem_append, List.mem_singleton] at hx
          rcases hx with hx | rfl
          · exact HS.out x hx
          · exact h)
        clear hcx
        by_cases hov : 255 < xs[k] + b
        · go_wp2_with fail
          refine (alive_any _).mono ?_
          rintro e w5 ⟨rfl, rfl⟩
          go_wp2_with fail
          go_ret
          exact ⟨rfl, below_then B4.out HB.out⟩
        · go_wp2_with (at_builtin; refine wpList_app Ei (HO.out.alloc _) (newCells _ _ _) rfl (by simp [Value.oneCell']) (by omega) (by omega) (by simp; omega) rfl rfl rfl rfl ?_; intro A' c' w6 hown6 hg6; have HO6 := mkHid hown6; have HG6 := mkHid hg6; clear hown6 hg6)
          go_roundw
          case rel =>
            refine ⟨k + 1, by omega, by go_num, mkHid (HT2.out (by omega)), ⟨A', c', rfl, ?_⟩, ?_⟩
            · rw [HT.out]
              simpa [ints] using HO6.out
            · exact (HB.out.alloc hsz5 _).grown HG6.out (by simp; omega) (fun g hg => (HO.out.lt g hg).1)
          case measure => simp [intOf]; omega
      · have : k = xs.length := by omega
        subst this
        have hall := HS.out
        rw [List.take_length] at hall
        have hO := HO.out
        rw [List.take_length] at hO
        have S5 := mkHid (S4.out.below HB.out)
        have B5 := mkHid (below_then B4.out HB.out)
        by_cases h0 : ys = []
        · subst h0
          go_wp2_with fail
          go_ret
          exact ⟨rfl, B5.out⟩
        · have h0' : 0 < ys.length := List.length_pos_iff.2 h0
          have hb0 : (((ys.length : Nat) : Int) == 0) = false := by rw [beq_eq_false_iff_ne]; omega
          have hlen : (xs.map (· + b)).length = xs.length := by simp
          have hC := implBankLoads_any A5 c5 (xs.map (· + b)) b wr (by omega) (Sl.of_own hO)
          rw [hlen, shift_loads (by rw [← HY.out]; exact h0) hall, ← HY.out] at hC
          have HC := mkHid hC
          clear hC hlen h0 hall hO
          go_wp2_with fail
          refine HC.out.mono ?_
          rintro e w6 ⟨A6, c6, rfl, o6, b6⟩
          have S6 := mkHid (Sl.of_own o6)
          have S56 := mkHid (S5.out.below b6)
          have B6 := mkHid (below_then B5.out b6)
          clear o6 b6
          go_wp2_with fail
          refine (sameInts_same _ _ _ _ _ _ (by omega) S6.out S56.out).mono ?_
          rintro e w7 ⟨rfl, k7, rfl⟩
          have B7 := mkHid (below_drewN B6.out k7)
          generalize w6.drewN k7 = w7 at *
          go_wp2_with fail
          go_ret
          exact ⟨rfl, B7.out⟩
namespace fnBanksShift
set_option maxRecDepth 100000 in
theorem lifted (os : Os) (started : os.Started) (H : Type) (enc : TypeId × Value → H) :
    ReturnsInHanded {} Try.checked os 8 .any (Rows.fnBanksShiftSpec.pre6 enc Try.prog Try.f8 Rows.fnBanksShiftRow.domain false) (Rows.fnBanksShiftSpec.post enc Try.prog Try.f8 false true false false) := by
  refine returnsInHanded_of_change (C := Try.checked) own started (by kernel_rfl) Try.func8
    (ChangeSpec.witness6 (enc := enc) (C := Try.checked) false ⟨#[], #[.slice none 0 0], []⟩ 8 (by kernel_rfl) (by kernel_rfl) (by kernel_rfl) (by kernel_rfl)) ?_
  intro W base args ds gs before hval0 hW hcnd _
  have hval : ∀ (j : Nat) t v, Try.f8.params[j]? = some t → args[j]? = some v → Value.okWide Try.prog W .any base t v := hval0
  have hW' := hW
  obtain ⟨p, q, hA0, hV, rfl, hfz, hnd⟩ := hW
  have hA : DataW.TrodAll enc Try.prog W 0 (fun _ => true) true Try.f8.params.toList args.toList ds p := hA0
  have hAk : DataW.TrodAll enc Try.prog W 0 (fun _ => true) true Try.f8.params.toList args.toList ds p := hA0
  rw [Try.params8] at hA hval
  obtain ⟨v0, vs0, d0, ds0, p0, q0, hargs, rfl, rfl, h0, r0⟩ := trodAll_cons hA
  obtain ⟨rfl, rfl, rfl⟩ := trodAll_nil r0
  obtain rfl : args = #[v0] := by cases args; simp_all
  obtain ⟨rfl, rfl⟩ := trodVars_none hV
  obtain ⟨Azs, czs, zs, rfl, nzs, kzs, szs, wzs⟩ := open_int_slice Try.underlying28 Try.underlying5 (by kernel_rfl) (hval 0 28 v0 rfl rfl) h0
  have wzs : ∀ z ∈ zs, 0 ≤ z ∧ z ≤ 255 := fun z hz => wf_u8_bounds (wzs z hz)
  clear hA0 hval0
  refine (bshift_walk Azs czs zs W nzs kzs szs wzs).mono fun e W' ⟨he, hb⟩ => ?_
  subst he
  refine ⟨_, rfl, post_true laidOut (fun t ht => ?_) (by kernel_rfl) Try.underlying4 rfl rfl hW' hAk hb⟩
  rw [Try.params8] at ht
  simp only [List.mem_cons, List.not_mem_nil, or_false] at ht
  first | (rcases ht with rfl <;> exact ⟨by kernel_rfl, of_decide_eq_true (by kernel_rfl)⟩) | (obtain rfl := ht; exact ⟨by kernel_rfl, of_decide_eq_true (by kernel_rfl)⟩)
/-- The statement. -/
theorem proved : Rows.FnBanksShiftSaid :=
  OpenClaim.holds_of_wide 8 Try.f8 rfl rfl rfl rfl rfl rfl rfl ⟨rfl, rfl, rfl, rfl, rfl⟩ rfl rfl rfl rfl rfl (by kernel_rfl) Try.func8 (by kernel_rfl)
    (of_decide_eq_true (by kernel_rfl)) (by unfold Func.isWrapper; first | (rw [if_pos (by decide +kernel)]; kernel_rfl) | (rw [if_neg (by decide +kernel)]; exact ⟨rfl, rfl⟩))
    (fun os started H enc _ => lifted os started H enc)
end fnBanksShift
#print axioms fnBanksShift.proved
end Go.Proofs.Ytjgmghlgjjfifaa
