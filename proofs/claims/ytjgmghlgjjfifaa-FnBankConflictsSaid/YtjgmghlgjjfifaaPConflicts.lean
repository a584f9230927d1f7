/-
  Proved: FnBankConflicts returns true for every code.
-/
import Derived.Test.YtjgmghlgjjfifaaDBanks
import Derived.Test.YtjgmghlgjjfifaaPlainBanks2
import Derived.Test.YtjgmghlgjjfifaaLibDrew
import Derived.Test.YtjgmghlgjjfifaaCSame
import Derived.Test.YtjgmghlgjjfifaaFrame
namespace Go.Proofs.Ytjgmghlgjjfifaa
open Go.ChangeShapes Go.WideShapes Go.ChangeAt Go.RowKit
set_option maxHeartbeats 2000000
set_option linter.unusedVariables false

theorem conf_yes {zs : List Int} {b : Int} (h : areCells zs = true) (h' : inB b 1 32 = true) : bankConflicts zs b = confUpto zs b zs.length := by simp [bankConflicts, h, h']
theorem conf_no {zs : List Int} {b : Int} (h : (areCells zs && inB b 1 32) = false) : bankConflicts zs b = [] := by simp [bankConflicts, h]
theorem conf_at {zs : List Int} {b m : Int} {ys : List Int} (hy : ys = confUpto zs b zs.length) (hm : ∀ z ∈ zs, m ≤ z) (j : Nat) (h : j < ys.length) : ∃ i : Nat, ∃ hi : i < zs.length, ys[j] = (i : Int) ∧ m < zs[i] := by
  subst hy
  obtain ⟨i, hi, _, he, hl⟩ := (confUpto_mem zs b zs.length (Nat.le_refl _) _).1 (List.getElem_mem h)
  obtain ⟨o, ho, hlt, _⟩ := (late_iff zs b zs[i]).1 hl
  exact ⟨i, hi, he, by have := hm o ho; omega⟩
theorem conf_walk (A : Option Addr) (c : Nat) (zs : List Int) (w : World) (hl : zs.length ≤ 9223372036854775807) (hcap : zs.length ≤ c) (hs : Sl w A (u8s zs)) (hz : ∀ z ∈ zs, 0 ≤ z ∧ z ≤ 255) :
    Calls Try.prog 11 #[.slice A zs.length c] w fun e w' => e = .returned (.bool true) ∧ Below w.heap.size w w' := by
  by_cases hbig : 1048576 < zs.length
  · go_enter Try.func11, Try.ntmps11
    go_wp2_with fail
    go_ret
    exact ⟨rfl, Below.refl _ _⟩
  · go_enter Try.func11, Try.ntmps11
    go_wp2_with fail
    refine (drawBankConflicts_any _ _ _ _ hl hcap hs hz).mono ?_
    rintro e w1 ⟨A1, c1, xs, b, rfl, s1, hx, hxc, hsz, hsm, b1⟩
    clear hs hz
    have S1 := mkHid s1
    have B1 := mkHid b1
    have HX := mkHid hsm
    clear s1 b1 hsm
    obtain ⟨ys, hys⟩ : ∃ ys, ys = bankConflicts xs b := ⟨_, rfl⟩
    have HY := mkHid hys
    have hyl : ys.length ≤ xs.length := by rw [hys]; exact bankConflicts_le _ _
    clear hys
    go_wp2_with fail
    refine (implBankConflicts_any _ _ _ _ _ (by omega) S1.out).mono ?_
    rw [← HY.out]
    rintro e w2 ⟨A2, c2, rfl, o2, b2⟩
    have S2 := mkHid (Sl.of_own o2)
    have SX2 := mkHid (S1.out.below b2)
    have B2 := mkHid (below_then B1.out b2)
    clear o2 b2
    go_wp2_with fail
    refine (specBankConflicts_any _ _ _ _ _ (by omega) SX2.out).mono ?_
    rw [← HY.out]
    rintro e w3 ⟨A3, c3, rfl, o3, b3⟩
    have S33 := mkHid (Sl.of_own o3)
    have S3 := mkHid (S2.out.below b3)
    have SX3 := mkHid (SX2.out.below b3)
    have B3 := mkHid (below_then B2.out b3)
    clear o3 b3
    go_wp2_with fail
    refine (sameInts_same _ _ _ _ _ _ (by omega) S3.out S33.out).mono ?_
    rintro e w4 ⟨rfl, k4, rfl⟩
    have S4 := mkHid (S3.out.drewN k4)
    have SX4 := mkHid (SX3.out.drewN k4)
    have B4 := mkHid (below_drewN B3.out k4)
    generalize w3.drewN k4 = w4 at *
    clear S33
    obtain ⟨n, hn⟩ : ∃ n, n = bankRounds xs b := ⟨_, rfl⟩
    have hT := implBankRounds_any A1 c1 xs b w4 (by omega) SX4.out
    rw [← hn] at hT
    have HT := mkHid hT
    have HN := mkHid hn
    clear hT hn
    cases hok : (areCells xs && inB b 1 32) with
    | false =>
      have h0 : ys = [] := by rw [HY.out]; exact conf_no hok
      have h1 : n = -1 := by rw [HN.out]; exact bankRounds_no hok
      subst h0 h1
      clear hok
      go_wp2_with fail
      refine HT.out.mono ?_
      rintro e w5 ⟨rfl, b5⟩
      have BB := mkHid (below_then B4.out b5)
      clear b5
      go_wp2_with fail
      refine (alive_any _).mono ?_
      rintro e w9 ⟨rfl, rfl⟩
      go_wp2_with fail
      go_ret
      exact ⟨rfl, BB.out⟩
    | true =>
      rw [Bool.and_eq_true] at hok
      have hb := inB_t hok.2
      have hn0 : 0 ≤ n := by rw [HN.out, bankRounds_yes hok.1 hok.2]; exact rounds_low _ _ hb.1
      have hyc : ys = confUpto xs b xs.length := by rw [HY.out]; exact conf_yes hok.1 hok.2
      have hiff : ys = [] ↔ n ≤ 1 := by rw [hyc, HN.out, bankRounds_yes hok.1 hok.2]; exact conf_rounds _ _ hb.1
      have HC := mkHid hyc
      have hup : Up ys := by rw [hyc]; exact confUpto_up _ _ _ (Nat.le_refl _)
      have HU := mkHid hup
      have HA := mkHid (areCells_all hok.1)
      obtain ⟨ok, ho1, ho2⟩ : ∃ ok : Bool, ((ys.length : Int) == 0) = ok ∧ decide (n ≤ 1) = ok := by
        by_cases h : n ≤ 1
        · exact ⟨true, by rw [hiff.2 h]; rfl, by simp [h]⟩
        · refine ⟨false, ?_, by simp [h]⟩
          rw [beq_eq_false_iff_ne]
          intro e
          exact h (hiff.1 (List.eq_nil_of_length_eq_zero (by omega)))
      have HO1 := mkHid ho1
      have HO2 := mkHid ho2
      clear hok hyc hiff hup ho1 ho2
      go_wp2_with fail
      refine HT.out.mono ?_
      rintro e w5 ⟨rfl, b5⟩
      have S5 := mkHid (S4.out.below b5)
      have SX5 := mkHid (SX4.out.below b5)
      have B5 := mkHid (below_then B4.out b5)
      clear b5
      go_wp2_with fail
      go_loop [7, 8] (fun v i => ∃ k : Nat, k ≤ xs.length ∧ i = .int .i64 k ∧ ∃ m : Int, v = .int .i64 m ∧ 0 ≤ m ∧ m ≤ 999 ∧ Hid (∀ j (h : j < xs.length), j < k → m ≤ xs[j])) (fun _ i => xs.length - (intOf i).toNat)
      case atStart => exact ⟨0, by omega, rfl, 999, rfl, by omega, by omega, mkHid (fun j h h' => absurd h' (by omega))⟩
      case round =>
        obtain ⟨k, hk, rfl, m, rfl, hm0, hm9, HM⟩ := hrel
        by_cases hlt : k < xs.length
        · obtain ⟨bb, off, rfl, hc⟩ := SX5.out.at_ (k := k) (by simpa using hlt)
          have h1 : w5.cell? ⟨bb, off + k, none⟩ = some (.int .i64 xs[k]) := hc k _ (ints_at hlt)
          have hzk := HA.out.2 xs[k] (List.getElem_mem hlt)
          obtain ⟨z, hz⟩ : ∃ z, z = xs[k] := ⟨_, rfl⟩
          rw [← hz] at h1 hzk
          have HZ := mkHid hz
          clear hc hz
          go_wp2_with fail
          go_round
          case rel =>
            refine ⟨k + 1, by omega, by go_num, _, rfl, by omega, by omega, mkHid (fun j h h' => ?_)⟩
            by_cases e : j = k
            · subst e; rw [← HZ.out]; omega
            · have := HM.out j h (by omega); omega
          case measure => simp [intOf] <;> omega
        · have : k = xs.length := by omega
          subst this
          have HM' : Hid (∀ z ∈ xs, m ≤ z) := mkHid (fun z hz => by obtain ⟨j, hj, rfl⟩ := List.mem_iff_getElem.1 hz; exact HM.out j hj hj)
          clear HM hlt
          go_wp2_with fail
          go_loopw [9] (fun i wr => ∃ j : Nat, j ≤ ys.length ∧ i = .int .i64 j ∧ ∃ q, wr = w5.drewN q) (fun i _ => ys.length - (intOf i).toNat)
          case atStart => exact ⟨0, by omega, rfl, 0, rfl⟩
          case round =>
            obtain ⟨j, hj, rfl, q, rfl⟩ := hrel
            by_cases hlt : j < ys.length
            · obtain ⟨i, hi, he, hmi⟩ := conf_at HC.out HM'.out j hlt
              obtain ⟨bb, off, rfl, hc⟩ := S5.out.at_ (k := j) (by simpa using hlt)
              obtain ⟨bx, ox, rfl, hcx⟩ := SX5.out.at_ (k := i) (by simpa using hi)
              have h1 : w5.cell? ⟨bb, off + j, none⟩ = some (.int .i64 i) := by rw [hc j _ (ints_at hlt), he]
              have h2 : w5.cell? ⟨bx, ox + i, none⟩ = some (.int .i64 xs[i]) := hcx i _ (ints_at hi)
              have hne : (xs[i] == m) = false := by rw [beq_eq_false_iff_ne]; omega
              have i1 : (0 : Int) ≤ (j : Int) := by omega
              have i2 : (j : Int) < (ys.length : Int) := by omega
              have i3 : (0 : Int) ≤ (i : Int) := by omega
              have i4 : (i : Int) < (xs.length : Int) := by omega
              obtain ⟨z, hz⟩ : ∃ z, z = xs[i] := ⟨_, rfl⟩
              rw [← hz] at h2 hne
              have HE := mkHid he
              by_cases hj0 : j = 0
              · have i7 : ¬ (0 : Int) < (j : Int) := by omega
                have i8 : ¬ 0 < j := by omega
                have n1 : ¬ (i : Int) < 0 := by omega
                have n2 : ¬ xs.length ≤ i := by omega
                clear hc hcx hz hmi he hj0
                generalize hX : w5.drewN q = X at *
                have hc5 : ∀ p v, w5.cell? p = some v → X.cell? p = some v := fun p v h => by rw [← hX]; exact h
                have h1 := fun u : Drew X => u.keeps (hc5 _ _ h1)
                have h2 := fun u : Drew X => u.keeps (hc5 _ _ h2)
                have HX := mkHid hX
                clear hX hc5
                go_wp2_with fail
                have n1 : ¬ (i : Int) < 0 := by omega
                have n2 : ¬ xs.length ≤ i := by omega
                have n3 : ¬ (xs.length : Int) ≤ (i : Int) := by omega
                have n4 : ¬ 0 < j := by omega
                have n5 : ¬ (0 : Int) < (j : Int) := by omega
                refine wp_region_drew (by kernel_rfl) (by kernel_rfl) ?_
                repeat (go_big_quiet_step (fail))
                refine wpQuiet_nil (drew_end fun Y m hY => ?_)
                clear h1 h2
                subst hY
                have hX := HX.out
                subst hX
                go_wp2_with fail
                go_roundw
                case rel => exact ⟨j + 1, by omega, by go_num, _, by first | rfl | exact World.drewN_drewN _ _ _⟩
                case measure => simp [intOf] <;> omega
              · have hj1 : j - 1 < ys.length := by omega
                have h3 : w5.cell? ⟨bb, off + (j - 1), none⟩ = some (.int .i64 ys[j - 1]) := hc (j - 1) _ (ints_at hj1)
                have h4 : ys[j - 1] < (i : Int) := by have := up_lt HU.out hlt (by omega); rw [he] at this; exact this
                have hyj := conf_at HC.out HM'.out (j - 1) hj1
                have i5 : (0 : Int) ≤ (j : Int) - 1 := by omega
                have i6 : (j : Int) - 1 < (ys.length : Int) := by omega
                have i7 : (0 : Int) < (j : Int) := by omega
                have i8 : 0 < j := by omega
                have i9 : 1 ≤ j := by omega
                have n1 : ¬ (i : Int) < 0 := by omega
                have n2 : ¬ xs.length ≤ i := by omega
                have hw := IntWalk.i64_in ((j : Int) - 1) (by omega)
                obtain ⟨y, hy⟩ : ∃ y, y = ys[j - 1] := ⟨_, rfl⟩
                rw [← hy] at h3 h4
                clear hc hcx hz hmi he hy hyj
                generalize hX : w5.drewN q = X at *
                have hc5 : ∀ p v, w5.cell? p = some v → X.cell? p = some v := fun p v h => by rw [← hX]; exact h
                have h1 := fun u : Drew X => u.keeps (hc5 _ _ h1)
                have h2 := fun u : Drew X => u.keeps (hc5 _ _ h2)
                have h3 := fun u : Drew X => u.keeps (hc5 _ _ h3)
                have HX := mkHid hX
                clear hX hc5
                go_wp2_with fail
                have n1 : ¬ (i : Int) < 0 := by omega
                have n2 : ¬ xs.length ≤ i := by omega
                have n3 : ¬ (xs.length : Int) ≤ (i : Int) := by omega
                have n4 : 0 < j := by omega
                have n5 : (0 : Int) < (j : Int) := by omega
                have n6 := IntWalk.i64_in ((j : Int) - 1) (by omega)
                refine wp_region_drew (by kernel_rfl) (by kernel_rfl) ?_
                repeat (go_big_quiet_step (fail))
                refine wpQuiet_nil (drew_end fun Y m hY => ?_)
                clear h1 h2 h3
                subst hY
                have hX := HX.out
                subst hX
                go_wp2_with fail
                go_roundw
                case rel => exact ⟨j + 1, by omega, by go_num, _, by first | rfl | exact World.drewN_drewN _ _ _⟩
                case measure => simp [intOf] <;> omega
            · have : j = ys.length := by omega
              subst this
              have ho1 := HO1.out
              have ho2 := HO2.out
              have B6 := mkHid (below_drewN B5.out q)
              cases ok
              all_goals (
                simp only [decide_eq_true_eq, decide_eq_false_iff_not] at ho2
                go_wp2_with fail
                go_ret
                exact ⟨rfl, B6.out⟩)
namespace fnBankConflicts
set_option maxRecDepth 100000 in
theorem lifted (os : Os) (started : os.Started) (H : Type) (enc : TypeId × Value → H) :
    ReturnsInHanded {} Try.checked os 11 .any (Rows.fnBankConflictsSpec.pre6 enc Try.prog Try.f11 Rows.fnBankConflictsRow.domain false) (Rows.fnBankConflictsSpec.post enc Try.prog Try.f11 false true false false) := by
  refine returnsInHanded_of_change (C := Try.checked) own started (by kernel_rfl) Try.func11
    (ChangeSpec.witness6 (enc := enc) (C := Try.checked) false ⟨#[], #[.slice none 0 0], []⟩ 8 (by kernel_rfl) (by kernel_rfl) (by kernel_rfl) (by kernel_rfl)) ?_
  intro W base args ds gs before hval0 hW hcnd _
  have hval : ∀ (j : Nat) t v, Try.f11.params[j]? = some t → args[j]? = some v → Value.okWide Try.prog W .any base t v := hval0
  have hW' := hW
  obtain ⟨p, q, hA0, hV, rfl, hfz, hnd⟩ := hW
  have hA : DataW.TrodAll enc Try.prog W 0 (fun _ => true) true Try.f11.params.toList args.toList ds p := hA0
  have hAk : DataW.TrodAll enc Try.prog W 0 (fun _ => true) true Try.f11.params.toList args.toList ds p := hA0
  rw [Try.params11] at hA hval
  obtain ⟨v0, vs0, d0, ds0, p0, q0, hargs, rfl, rfl, h0, r0⟩ := trodAll_cons hA
  obtain ⟨rfl, rfl, rfl⟩ := trodAll_nil r0
  obtain rfl : args = #[v0] := by cases args; simp_all
  obtain ⟨rfl, rfl⟩ := trodVars_none hV
  obtain ⟨Azs, czs, zs, rfl, nzs, kzs, szs, wzs⟩ := open_int_slice Try.underlying28 Try.underlying5 (by kernel_rfl) (hval 0 28 v0 rfl rfl) h0
  have wzs : ∀ z ∈ zs, 0 ≤ z ∧ z ≤ 255 := fun z hz => wf_u8_bounds (wzs z hz)
  clear hA0 hval0
  refine (conf_walk Azs czs zs W nzs kzs szs wzs).mono fun e W' ⟨he, hb⟩ => ?_
  subst he
  refine ⟨_, rfl, post_true laidOut (fun t ht => ?_) (by kernel_rfl) Try.underlying4 rfl rfl hW' hAk hb⟩
  rw [Try.params11] at ht
  simp only [List.mem_cons, List.not_mem_nil, or_false] at ht
  first | (rcases ht with rfl <;> exact ⟨by kernel_rfl, of_decide_eq_true (by kernel_rfl)⟩) | (obtain rfl := ht; exact ⟨by kernel_rfl, of_decide_eq_true (by kernel_rfl)⟩)
/-- The statement. -/
theorem proved : Rows.FnBankConflictsSaid :=
  OpenClaim.holds_of_wide 11 Try.f11 rfl rfl rfl rfl rfl rfl rfl ⟨rfl, rfl, rfl, rfl, rfl⟩ rfl rfl rfl rfl rfl (by kernel_rfl) Try.func11 (by kernel_rfl)
    (of_decide_eq_true (by kernel_rfl)) (by unfold Func.isWrapper; first | (rw [if_pos (by decide +kernel)]; kernel_rfl) | (rw [if_neg (by decide +kernel)]; exact ⟨rfl, rfl⟩))
    (fun os started H enc _ => lifted os started H enc)
end fnBankConflicts
#print axioms fnBankConflicts.proved
end Go.Proofs.Ytjgmghlgjjfifaa
