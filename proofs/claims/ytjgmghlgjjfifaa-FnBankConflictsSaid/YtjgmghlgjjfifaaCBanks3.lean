/-
  Contract of the reference's BankConflicts.
-/
import Derived.Test.YtjgmghlgjjfifaaCBanks2
namespace Go.Proofs.Ytjgmghlgjjfifaa
open Go.RowKit
set_option maxHeartbeats 2000000
set_option linter.unusedVariables false

theorem late_succ (zs : List Int) (b c : Int) (j : Nat) (h : j < zs.length) : late (zs.take (j + 1)) b c = (late (zs.take j) b c || (decide (zs[j] < c) && (zs[j] % b == c % b))) := by
  unfold late
  rw [List.take_succ_eq_append_getElem h, List.any_append]
  simp
theorem specBankConflicts_any (A : Option Addr) (c : Nat) (zs : List Int) (b : Int) (w : World) (hl : zs.length ≤ 1000000000) (hs : Sl w A (ints zs)) :
    Calls Try.prog 13 #[.slice A zs.length c, .int .i64 b] w (RetInts (bankConflicts zs b) w) := by
  cases hok : (areCells zs && inB b 1 32) with
  | false =>
    have hno : bankConflicts zs b = [] := by simp [bankConflicts, hok]
    have hnl : bankLoads zs b = [] := by simp [bankLoads, hok]
    have HN := mkHid hno
    have hC := specBankLoads_any A c zs b (w.alloc (.cells #[] 3)) hl (hs.alloc _)
    rw [hnl] at hC
    have HC := mkHid hC
    clear hok hno hnl hC hs
    go_enter Try.func13, Try.ntmps13
    go_wp2_with fail
    go_loopw [5, 6] (fun v i wr => v = .slice (some ⟨w.heap.size, 0, none⟩) 0 0 ∧ i = .int .i64 0 ∧ wr = w.alloc (.cells #[] 3)) (fun _ _ _ => 0)
    case atStart => exact ⟨rfl, rfl, rfl⟩
    case round =>
      obtain ⟨rfl, rfl, rfl⟩ := hrel
      by_cases h0 : 0 < zs.length
      · go_wp2_with fail
        refine HC.out.mono ?_
        rintro e w2 ⟨A2, c2, rfl, o2, b2⟩
        have HO := mkHid (own_below (own_empty w 3 1) b2)
        have B2 := mkHid (below_then ((Below.refl _ _).alloc (Nat.le_refl _) _) b2)
        clear o2 b2
        go_wp2_with fail
        go_ret
        rw [HN.out]
        exact ⟨_, 0, rfl, HO.out, B2.out⟩
      · go_wp2_with fail
        go_ret
        rw [HN.out]
        exact ⟨_, 0, rfl, own_empty w _ _, (Below.refl _ _).alloc (Nat.le_refl _) _⟩
  | true =>
    rw [Bool.and_eq_true] at hok
    have hyes : bankConflicts zs b = confUpto zs b zs.length := by simp [bankConflicts, hok.1, hok.2]
    have HN := mkHid hyes
    have h8 := areCells_all hok.1
    have hl8 := h8.1
    have HZ := mkHid h8.2
    have hb := inB_t hok.2
    have hpos : 0 < (bankLoads zs b).length := by
      rw [bankLoads_yes hok.1 hok.2, cnt_length]
      omega
    have hHC := fun (w : World) (A : Option Addr) (h : Sl w A (ints zs)) => specBankLoads_any A c zs b w hl h
    have hll := bankLoads_le zs b
    have HC := mkHid hHC
    clear hHC hok h8 hyes
    generalize bankLoads zs b = ld at *
    go_enter Try.func13, Try.ntmps13
    go_wp2_with fail
    go_loopw [5, 6] (fun v i wr => ∃ k : Nat, k ≤ zs.length ∧ i = .int .i64 k ∧ (∃ A c ls, Hid (ls = confUpto zs b k) ∧ v = .slice A ls.length c ∧ wr.ownsRow w.heap.size 3 1 (.slice A ls.length c) ls.length (ints ls)) ∧ Below w.heap.size w wr) (fun _ i _ => zs.length - (intOf i).toNat)
    case atStart => exact ⟨0, by omega, rfl, ⟨_, 0, [], mkHid rfl, rfl, own_empty w _ _⟩, (Below.refl _ _).alloc (Nat.le_refl _) _⟩
    case round =>
      obtain ⟨k, hk, rfl, ⟨A5, c5, ls, HLS, rfl, hown⟩, hbel⟩ := hrel
      have hsz := hbel.size
      have HB := mkHid hbel
      have HO := mkHid hown
      have HS5 := mkHid (hs.below hbel)
      have hlsl : ls.length ≤ k := by rw [HLS.out]; exact confUpto_le _ _ _
      clear hbel hown
      by_cases hlt : k < zs.length
      · have hzk := HZ.out zs[k] (List.getElem_mem hlt)
        have HT := mkHid (confUpto_succ zs b k hlt)
        go_wp2_with fail
        refine (HC.out _ _ HS5.out).mono ?_
        rintro e w2 ⟨A2, c2, rfl, o2, b2⟩
        have HO2 := mkHid (own_below HO.out b2)
        have HB2 := mkHid (below_then HB.out b2)
        have HS2 := mkHid (HS5.out.below b2)
        have hs2 := HB2.out.size
        clear o2 b2
        go_wp2_with fail
        go_loopw [7, 8] (fun bv jv wr => ∃ j : Nat, j ≤ zs.length ∧ jv = .int .i64 j ∧ (∃ ft : Bool, bv = .bool ft ∧ Hid (late (zs.take j) b zs[k] = !ft)) ∧ ∃ q, wr = w2.drewN q) (fun _ jv _ => zs.length - (intOf jv).toNat)
        case atStart => exact ⟨0, by omega, rfl, ⟨true, rfl, mkHid (by simp [late])⟩, 0, rfl⟩
        case round =>
          obtain ⟨j, hj, rfl, ⟨ft, rfl, HL⟩, q, rfl⟩ := hrel
          by_cases hltj : j < zs.length
          · obtain ⟨bb, off, rfl, hc⟩ := HS2.out.at_ (k := k) (by simpa using hlt)
            have h1 : w2.cell? ⟨bb, off + k, none⟩ = some (.int .i64 zs[k]) := hc k _ (ints_at hlt)
            have h2 : w2.cell? ⟨bb, off + j, none⟩ = some (.int .i64 zs[j]) := hc j _ (ints_at hltj)
            have hzj := HZ.out zs[j] (List.getElem_mem hltj)
            have HS := mkHid (late_succ zs b zs[k] j hltj)
            have i1 : (0 : Int) ≤ (k : Int) := by omega
            have i2 : (k : Int) < (zs.length : Int) := by omega
            have i3 : (0 : Int) ≤ (j : Int) := by omega
            have i4 : (j : Int) < (zs.length : Int) := by omega
            have t1 : zs[j].tmod b = zs[j] % b := Int.tmod_eq_emod_of_nonneg hzj.1
            have t2 : zs[k].tmod b = zs[k] % b := Int.tmod_eq_emod_of_nonneg hzk.1
            have hb0 : (b == 0) = false := by rw [beq_eq_false_iff_ne]; omega
            clear hc
            cases ft with
            | false =>
              go_wp2_with fail
              go_quiet (fail)
              go_wp2_with fail
              go_roundw
              case rel => exact ⟨j + 1, by omega, by go_num, ⟨false, rfl, mkHid (by rw [HS.out, HL.out]; rfl)⟩, _, by first | rfl | exact World.drewN_drewN _ _ _⟩
              case measure => simp [intOf]; omega
            | true =>
              by_cases hge : zs[k] ≤ zs[j]
              · have hd : decide (zs[k] ≤ zs[j]) = true := by simpa using hge
                have hd2 : decide (zs[j] < zs[k]) = false := by simp; omega
                have HD2 := mkHid hd2
                clear hd2
                go_wp2_with fail
                go_quiet (fail)
                go_wp2_with fail
                go_roundw
                case rel => exact ⟨j + 1, by omega, by go_num, ⟨true, rfl, mkHid (by rw [HS.out, HL.out, HD2.out]; rfl)⟩, _, by first | rfl | exact World.drewN_drewN _ _ _⟩
                case measure => simp [intOf]; omega
              · have hd : decide (zs[k] ≤ zs[j]) = false := by simpa using hge
                have hd2 : decide (zs[j] < zs[k]) = true := by simp; omega
                have HD2 := mkHid hd2
                clear hd2
                cases he : (zs[j] % b == zs[k] % b) with
                | true =>
                  have hne : (zs[j] % b != zs[k] % b) = false := by simp [bne, he]
                  have HE := mkHid he
                  clear he
                  go_wp2_with fail
                  go_quiet (fail)
                  go_wp2_with fail
                  go_roundw
                  case rel => exact ⟨j + 1, by omega, by go_num, ⟨false, rfl, mkHid (by rw [HS.out, HL.out, HD2.out, HE.out]; rfl)⟩, _, by first | rfl | exact World.drewN_drewN _ _ _⟩
                  case measure => simp [intOf]; omega
                | false =>
                  have hne : (zs[j] % b != zs[k] % b) = true := by simp [bne, he]
                  have HE := mkHid he
                  clear he
                  go_wp2_with fail
                  go_quiet (fail)
                  go_wp2_with fail
                  go_roundw
                  case rel => exact ⟨j + 1, by omega, by go_num, ⟨true, rfl, mkHid (by rw [HS.out, HL.out, HD2.out, HE.out]; rfl)⟩, _, by first | rfl | exact World.drewN_drewN _ _ _⟩
                  case measure => simp [intOf]; omega
          · have : j = zs.length := by omega
            subst this
            have hl := HL.out
            rw [List.take_length] at hl
            have HL2 := mkHid hl
            have HO3 := mkHid (own_drewN HO2.out q)
            have HB3 := mkHid (below_drewN HB2.out q)
            have hs3 := HB3.out.size
            clear hl
            generalize w2.drewN q = w3 at *
            cases ft with
            | false =>
              go_wp2_with (at_builtin; refine wpList_app Ei (HO3.out.alloc _) (newCells _ _ _) rfl (by simp [Value.oneCell']) (by omega) (by omega) (by simp; omega) rfl rfl rfl rfl ?_; intro A' c' w4 hown4 hg4; have HO4 := mkHid hown4; have HG4 := mkHid hg4; clear hown4 hg4)
              go_roundw
              case rel =>
                refine ⟨k + 1, by omega, by go_num, ⟨A', c', ls ++ [(k : Int)], mkHid ?_, by simp, ?_⟩, ?_⟩
                · rw [HT.out, if_pos (by rw [HL2.out]; rfl), HLS.out]
                · have := HO4.out
                  rw [List.length_append]
                  simpa [ints] using this
                · exact (HB3.out.alloc hs3 _).grown HG4.out (by simp; omega) (fun g hg => (HO3.out.lt g hg).1)
              case measure => simp [intOf]; omega
            | true =>
              go_wp2_with fail
              go_roundw
              case rel =>
                refine ⟨k + 1, by omega, by go_num, ⟨A5, c5, ls, mkHid ?_, rfl, HO3.out⟩, HB3.out⟩
                rw [HT.out, if_neg (by rw [HL2.out]; simp), HLS.out, List.append_nil]
              case measure => simp [intOf]; omega
      · have : k = zs.length := by omega
        subst this
        have he : ls = bankConflicts zs b := by rw [HN.out, HLS.out]
        go_wp2_with fail
        go_ret
        rw [← he]
        exact ⟨A5, c5, rfl, HO.out, HB.out⟩
end Go.Proofs.Ytjgmghlgjjfifaa
