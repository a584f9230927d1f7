/-
  Contract of the reference's StoresPrivate.
-/
import Derived.Test.YtjgemgjpbanliaaCPriv2
namespace Go.Proofs.Ytjgemgjpbanliaa
open Go.RowKit
set_option maxHeartbeats 4000000
set_option linter.unusedVariables false

theorem storesPriv_false {xs : List Cd} (h : progValid xs = false) : storesPriv xs = false := by unfold storesPriv; rw [h]; rfl
theorem storesPriv_true {xs : List Cd} (h : progValid xs = true) : storesPriv xs = privUpto xs xs.length := by unfold storesPriv; rw [h]; rfl
theorem laneM_set {xs : List Cd} {k : Nat} {w : Nat} (h : laneAt xs k = true) (hw : wrAt xs k = w) : laneM xs (k + 1) = (laneM xs k ||| 2 ^ w) := by
  rw [laneM, if_pos h, hw]; rfl
theorem laneM_clr {xs : List Cd} {k : Nat} {w : Nat} (h : laneAt xs k = false) (hw : wrAt xs k = w) : laneM xs (k + 1) = (laneM xs k &&& (15 ^^^ 2 ^ w)) := by
  rw [laneM, if_neg (by rw [h]; decide), hw, if_pos (by omega)]; rfl
theorem laneM_same {xs : List Cd} {k : Nat} (h : laneAt xs k = false) (hw : wrAt xs k = -1) : laneM xs (k + 1) = laneM xs k := by
  rw [laneM, if_neg (by rw [h]; decide), hw, if_neg (by decide)]
theorem specStoresPrivate_any (A : Option Addr) (c : Nat) (xs : List Cd) (w : World) (hl : xs.length ≤ 1048576) (hs : Sl w A (cflat xs)) :
    Calls Try.prog 14 #[.slice A xs.length c] w fun e w' => e = .returned (.bool (storesPriv xs)) ∧ Below w.heap.size w w' := by
  have hV := specProgramValid_any A c xs w hl hs
  obtain ⟨v, hv⟩ : ∃ v, v = progValid xs := ⟨_, rfl⟩
  rw [← hv] at hV
  have HPV := mkHid hV
  have HVV := mkHid hv
  have HS0 := mkHid hs
  clear hs hV hv
  go_enter Try.func14, Try.ntmps14
  go_wp2_with fail
  refine HPV.out.mono ?_
  rintro e w1 ⟨rfl, b1⟩
  have HB1 := mkHid b1
  clear b1
  cases v with
  | false =>
    go_wp2_with fail
    go_ret
    exact ⟨ret_bool (storesPriv_false HVV.out.symm).symm, HB1.out⟩
  | true =>
    have HVC := mkHid (progValid_yes HVV.out.symm).2.1
    have HBAD := mkHid (show ∀ k (h : k < xs.length), badAt xs k = _ from fun k h => badAt_at h)
    have HF := mkHid (show ∀ k, k < xs.length → badAt xs k = true → storesPriv xs = false from fun k hk h => storesPriv_no hk h)
    have HFL := mkHid (storesPriv_true HVV.out.symm)
    have HOK := mkHid (show ∀ k, k ≤ xs.length → decide (0 ≤ arnd (ops xs) k 0) = !(stk (ops xs) k).isEmpty from fun k hk => flat_top (progValid_ok HVV.out.symm hk))
    have HAT := mkHid (show ∀ k (h : k < xs.length), opAt (ops xs) k = xs[k].op from fun k h => ops_at h)
    have HWA := mkHid (show ∀ k (h : k < xs.length), wrAt xs k = wr xs[k] from fun k h => wrAt_at h)
    have HLM := mkHid (show ∀ k, k ≤ xs.length → _ from fun k hk => laneM_ok HVC.out k hk)
    have HAR := mkHid (fun at_ w h1 h2 => l4Around_any A c xs at_ w hl h1 h2)
    clear HPV
    go_wp2_with fail
    go_loopw [4, 3] (fun i lv wr => ∃ k : Nat, k ≤ xs.length ∧ i = .int .i64 k ∧ ∃ m : Nat, lv = .int .i64 m ∧ Hid (m = laneM xs k) ∧ Hid (privUpto xs k = true) ∧ Below w.heap.size w wr) (fun i _ _ => xs.length - (intOf i).toNat)
    case atStart => exact ⟨0, by omega, rfl, 0, rfl, mkHid rfl, mkHid rfl, HB1.out⟩
    case round =>
      obtain ⟨k, hk, rfl, m, rfl, HM, HU, hb⟩ := hrel
      have HB := mkHid hb
      have hm16 := (HLM.out k hk).1
      rw [← HM.out] at hm16
      by_cases hlt : k < xs.length
      · obtain ⟨b0, off, hA, e0, e1, e2, e3⟩ := (HS0.out.below hb).cd hlt
        have hbad := HBAD.out k hlt
        have hop := HAT.out k hlt
        have hwa := HWA.out k hlt
        have hval := HVC.out xs[k] (List.getElem_mem hlt)
        obtain ⟨x, hx⟩ : ∃ x, x = xs[k] := ⟨_, rfl⟩
        rw [← hx] at e0 e1 e2 e3 hbad hop hwa hval
        have hC := HAR.out k wr (by omega) (HS0.out.below hb)
        have hflat := HOK.out k hk
        obtain ⟨a, ha⟩ : ∃ a, a = arnd (ops xs) k 0 := ⟨_, rfl⟩
        rw [← ha] at hC hflat
        obtain ⟨v, hv⟩ : ∃ v, v = Go.Proofs.Ytjgemgjpbanliaa.wr x := ⟨_, rfl⟩
        have hW := fun W => specCodeWrites_any x W hval
        have hvb := wr_bound hval
        have hst := fun h => valid_store hval h
        rw [← hv] at hW hwa hvb
        have hv9 : x.op = 9 → v = -1 := fun h => by rw [hv]; unfold Go.Proofs.Ytjgemgjpbanliaa.wr; rw [if_neg (by omega)]
        have hv2 : x.op = 2 → 0 ≤ v := fun h => by rw [hv]; unfold Go.Proofs.Ytjgemgjpbanliaa.wr; rw [if_pos (by omega)]; exact (valid_a hval (by omega)).1
        have hlane : laneAt xs k = (x.op == 2 && (stk (ops xs) k).isEmpty) := by unfold laneAt; rw [hop]
        rw [show (stk (ops xs) k).isEmpty = !(decide (0 ≤ a)) from by rw [hflat, Bool.not_not]] at hlane hbad
        obtain ⟨op, xa, xb, xc⟩ := x
        simp only at e0 e1 e2 e3 hop hbad hst hlane hv9 hv2
        have hhl := fun r hr => (HLM.out k hk).2 r hr
        rw [← HM.out] at hhl
        subst hA
        have HE := mkHid (show ∀ X, Below wr.heap.size wr X → X.cell? ⟨b0, off + k * 4, none⟩ = some (.int .i64 op) ∧ X.cell? ⟨b0, off + k * 4 + 1, none⟩ = some (.int .i64 xa) ∧ X.cell? ⟨b0, off + k * 4 + 2, none⟩ = some (.int .i64 xb) ∧ X.cell? ⟨b0, off + k * 4 + 3, none⟩ = some (.int .i64 xc) from fun X hX => ⟨Ext.keeps ⟨X, hX⟩ e0, Ext.keeps ⟨X, hX⟩ e1, Ext.keeps ⟨X, hX⟩ e2, Ext.keeps ⟨X, hX⟩ e3⟩)
        have HC := mkHid hC
        have HW := mkHid hW
        have HBD := mkHid hbad
        have HWK := mkHid hwa
        have HST := mkHid hst
        have HLN := mkHid hlane
        have HHL := mkHid hhl
        have HV9 := mkHid hv9
        have HV2 := mkHid hv2
        have HVB := mkHid hvb
        clear hx hb hC hflat ha hv hW hvb hst hbad hop hwa hval hlane hhl e0 e1 e2 e3 hv9 hv2
        go_wp2_with fail
        refine HC.out.mono ?_
        rintro e w2 ⟨rfl, b2⟩
        obtain ⟨e0, e1, e2, e3⟩ := HE.out w2 b2
        have HB2 := mkHid (HB.out.trans (b2.mono HB.out.size))
        go_wp2_with fail
        refine (HW.out _).mono ?_
        rintro e w3 ⟨rfl, b3⟩
        obtain ⟨e0, e1, e2, e3⟩ := HE.out w3 (below_then b2 b3)
        have HB3 := mkHid (HB2.out.trans (b3.mono HB2.out.size))
        clear b2 b3 HC HW HE HB HB2
        by_cases h8 : op = 8
        · subst h8
          have HR := mkHid (HF.out k hlt (by rw [HBD.out]; rfl))
          go_wp2_with fail
          go_ret
          exact ⟨ret_bool HR.out.symm, HB3.out⟩

        · have n8 : (op == 8) = false := by simpa using h8
          clear h8
          by_cases h9 : op = 9
          · subst h9
            have hv9 := HV9.out rfl
            subst hv9
            have hxb := HST.out rfl
            have hln : Hid (laneAt xs k = false) := mkHid (by rw [HLN.out]; rfl)
            by_cases h0 : a < 0
            · have hd : Hid (decide (0 ≤ a) = false) := mkHid (decide_eq_false (by omega))
              obtain ⟨bb, hbb⟩ : ∃ bb, bb = hasL xs xb k := ⟨_, rfl⟩
              have HBB := mkHid hbb
              clear hbb
              have hx4 : xb = 0 ∨ xb = 1 ∨ xb = 2 ∨ xb = 3 := by omega
              clear hxb
              rcases hx4 with rfl | rfl | rfl | rfl
              · have hh := HHL.out 0 (by decide)
                rw [show (((0 : Nat)) : Int) = 0 from rfl, ← HBB.out] at hh
                cases bb with
                | false =>
                  have hz : m / 2 ^ 0 % 2 = 0 := by have := (not_congr hh).2 (by decide); omega
                  have hbit : ((m : Int) % 2 == 0) = true := by rw [beq_iff_eq]; omega
                  have HR := mkHid (HF.out k hlt (by rw [HBD.out, ← HBB.out, hd.out]; rfl))
                  clear hh hz
                  go_wp2_with fail
                  go_ret
                  exact ⟨ret_bool HR.out.symm, HB3.out⟩
                | true =>
                  have hz : m / 2 ^ 0 % 2 = 1 := hh.2 rfl
                  have hbit : ((m : Int) % 2 == 0) = false := by rw [beq_eq_false_iff_ne]; omega
                  clear hh hz
                  go_wp2_with fail
                  go_roundw
                  case rel => exact ⟨k + 1, by omega, by go_num, m, rfl, mkHid (by rw [laneM_same hln.out HWK.out, HM.out]), mkHid (by rw [privUpto_s, HU.out, HBD.out, ← HBB.out, hd.out]; rfl), HB3.out⟩
                  case measure => simp [intOf] <;> omega
              · have hh := HHL.out 1 (by decide)
                rw [show (((1 : Nat)) : Int) = 1 from rfl, ← HBB.out] at hh
                cases bb with
                | false =>
                  have hz : m / 2 ^ 1 % 2 = 0 := by have := (not_congr hh).2 (by decide); omega
                  have hbit : ((m : Int) / 2 % 2 == 0) = true := by rw [beq_iff_eq]; omega
                  have HR := mkHid (HF.out k hlt (by rw [HBD.out, ← HBB.out, hd.out]; rfl))
                  clear hh hz
                  go_wp2_with fail
                  go_ret
                  exact ⟨ret_bool HR.out.symm, HB3.out⟩
                | true =>
                  have hz : m / 2 ^ 1 % 2 = 1 := hh.2 rfl
                  have hbit : ((m : Int) / 2 % 2 == 0) = false := by rw [beq_eq_false_iff_ne]; omega
                  clear hh hz
                  go_wp2_with fail
                  go_roundw
                  case rel => exact ⟨k + 1, by omega, by go_num, m, rfl, mkHid (by rw [laneM_same hln.out HWK.out, HM.out]), mkHid (by rw [privUpto_s, HU.out, HBD.out, ← HBB.out, hd.out]; rfl), HB3.out⟩
                  case measure => simp [intOf] <;> omega
              · have hh := HHL.out 2 (by decide)
                rw [show (((2 : Nat)) : Int) = 2 from rfl, ← HBB.out] at hh
                cases bb with
                | false =>
                  have hz : m / 2 ^ 2 % 2 = 0 := by have := (not_congr hh).2 (by decide); omega
                  have hbit : ((m : Int) / 4 % 2 == 0) = true := by rw [beq_iff_eq]; omega
                  have HR := mkHid (HF.out k hlt (by rw [HBD.out, ← HBB.out, hd.out]; rfl))
                  clear hh hz
                  go_wp2_with fail
                  go_ret
                  exact ⟨ret_bool HR.out.symm, HB3.out⟩
                | true =>
                  have hz : m / 2 ^ 2 % 2 = 1 := hh.2 rfl
                  have hbit : ((m : Int) / 4 % 2 == 0) = false := by rw [beq_eq_false_iff_ne]; omega
                  clear hh hz
                  go_wp2_with fail
                  go_roundw
                  case rel => exact ⟨k + 1, by omega, by go_num, m, rfl, mkHid (by rw [laneM_same hln.out HWK.out, HM.out]), mkHid (by rw [privUpto_s, HU.out, HBD.out, ← HBB.out, hd.out]; rfl), HB3.out⟩
                  case measure => simp [intOf] <;> omega
              · have hh := HHL.out 3 (by decide)
                rw [show (((3 : Nat)) : Int) = 3 from rfl, ← HBB.out] at hh
                cases bb with
                | false =>
                  have hz : m / 2 ^ 3 % 2 = 0 := by have := (not_congr hh).2 (by decide); omega
                  have hbit : ((m : Int) / 8 % 2 == 0) = true := by rw [beq_iff_eq]; omega
                  have HR := mkHid (HF.out k hlt (by rw [HBD.out, ← HBB.out, hd.out]; rfl))
                  clear hh hz
                  go_wp2_with fail
                  go_ret
                  exact ⟨ret_bool HR.out.symm, HB3.out⟩
                | true =>
                  have hz : m / 2 ^ 3 % 2 = 1 := hh.2 rfl
                  have hbit : ((m : Int) / 8 % 2 == 0) = false := by rw [beq_eq_false_iff_ne]; omega
                  clear hh hz
                  go_wp2_with fail
                  go_roundw
                  case rel => exact ⟨k + 1, by omega, by go_num, m, rfl, mkHid (by rw [laneM_same hln.out HWK.out, HM.out]), mkHid (by rw [privUpto_s, HU.out, HBD.out, ← HBB.out, hd.out]; rfl), HB3.out⟩
                  case measure => simp [intOf] <;> omega

            · have HR := mkHid (HF.out k hlt (by rw [HBD.out, decide_eq_true (by omega)]; rfl))
              go_wp2_with fail
              go_ret
              exact ⟨ret_bool HR.out.symm, HB3.out⟩

          · have n9 : (op == 9) = false := by simpa using h9
            have HNB : Hid (badAt xs k = false) := mkHid (by rw [HBD.out, n8, n9]; rfl)
            clear h9
            by_cases h2 : op = 2 ∧ a < 0
            · obtain ⟨rfl, h0⟩ := h2
              have hln : Hid (laneAt xs k = true) := mkHid (by rw [HLN.out, decide_eq_false (by omega)]; rfl)
              have hv4 : v = 0 ∨ v = 1 ∨ v = 2 ∨ v = 3 := by have := HVB.out; have := HV2.out rfl; omega
              rcases hv4 with rfl | rfl | rfl | rfl
              · have hbt : bits .or .i64 (m : Int) 1 = ((m ||| 1 : Nat) : Int) := bits_or_fin m hm16 0 (by decide)
                go_wp2_with fail
                go_roundw
                case rel => exact ⟨k + 1, by omega, by go_num, m ||| 1, rfl, mkHid (by rw [laneM_set (w := 0) hln.out HWK.out, HM.out]), mkHid (by rw [privUpto_s, HU.out, HNB.out]; rfl), HB3.out⟩
                case measure => simp [intOf] <;> omega
              · have hbt : bits .or .i64 (m : Int) 2 = ((m ||| 2 : Nat) : Int) := bits_or_fin m hm16 1 (by decide)
                go_wp2_with fail
                go_roundw
                case rel => exact ⟨k + 1, by omega, by go_num, m ||| 2, rfl, mkHid (by rw [laneM_set (w := 1) hln.out HWK.out, HM.out]), mkHid (by rw [privUpto_s, HU.out, HNB.out]; rfl), HB3.out⟩
                case measure => simp [intOf] <;> omega
              · have hbt : bits .or .i64 (m : Int) 4 = ((m ||| 4 : Nat) : Int) := bits_or_fin m hm16 2 (by decide)
                go_wp2_with fail
                go_roundw
                case rel => exact ⟨k + 1, by omega, by go_num, m ||| 4, rfl, mkHid (by rw [laneM_set (w := 2) hln.out HWK.out, HM.out]), mkHid (by rw [privUpto_s, HU.out, HNB.out]; rfl), HB3.out⟩
                case measure => simp [intOf] <;> omega
              · have hbt : bits .or .i64 (m : Int) 8 = ((m ||| 8 : Nat) : Int) := bits_or_fin m hm16 3 (by decide)
                go_wp2_with fail
                go_roundw
                case rel => exact ⟨k + 1, by omega, by go_num, m ||| 8, rfl, mkHid (by rw [laneM_set (w := 3) hln.out HWK.out, HM.out]), mkHid (by rw [privUpto_s, HU.out, HNB.out]; rfl), HB3.out⟩
                case measure => simp [intOf] <;> omega

            · have hln : Hid (laneAt xs k = false) := mkHid (by
                rw [HLN.out]
                by_cases e : op = 2
                · rw [decide_eq_true (by omega)]; simp
                · rw [show (op == 2) = false from by simpa using e]; rfl)
              have hv5 : v = -1 ∨ v = 0 ∨ v = 1 ∨ v = 2 ∨ v = 3 := by have := HVB.out; omega
              by_cases e2 : op = 2
              · subst e2
                have h0 : ¬ a < 0 := fun h => h2 ⟨rfl, h⟩
                clear h2
                rcases hv5 with rfl | rfl | rfl | rfl | rfl
                · go_wp2_with fail
                  go_roundw
                  case rel => exact ⟨k + 1, by omega, by go_num, m, rfl, mkHid (by rw [laneM_same hln.out HWK.out, HM.out]), mkHid (by rw [privUpto_s, HU.out, HNB.out]; rfl), HB3.out⟩
                  case measure => simp [intOf] <;> omega
                · have hbt : bits .andNot .i64 (m : Int) 1 = ((m &&& 14 : Nat) : Int) := bits_clr_fin m hm16 0 (by decide)
                  go_wp2_with fail
                  go_roundw
                  case rel => exact ⟨k + 1, by omega, by go_num, m &&& 14, rfl, mkHid (by rw [laneM_clr (w := 0) hln.out HWK.out, HM.out]; rfl), mkHid (by rw [privUpto_s, HU.out, HNB.out]; rfl), HB3.out⟩
                  case measure => simp [intOf] <;> omega
                · have hbt : bits .andNot .i64 (m : Int) 2 = ((m &&& 13 : Nat) : Int) := bits_clr_fin m hm16 1 (by decide)
                  go_wp2_with fail
                  go_roundw
                  case rel => exact ⟨k + 1, by omega, by go_num, m &&& 13, rfl, mkHid (by rw [laneM_clr (w := 1) hln.out HWK.out, HM.out]; rfl), mkHid (by rw [privUpto_s, HU.out, HNB.out]; rfl), HB3.out⟩
                  case measure => simp [intOf] <;> omega
                · have hbt : bits .andNot .i64 (m : Int) 4 = ((m &&& 11 : Nat) : Int) := bits_clr_fin m hm16 2 (by decide)
                  go_wp2_with fail
                  go_roundw
                  case rel => exact ⟨k + 1, by omega, by go_num, m &&& 11, rfl, mkHid (by rw [laneM_clr (w := 2) hln.out HWK.out, HM.out]; rfl), mkHid (by rw [privUpto_s, HU.out, HNB.out]; rfl), HB3.out⟩
                  case measure => simp [intOf] <;> omega
                · have hbt : bits .andNot .i64 (m : Int) 8 = ((m &&& 7 : Nat) : Int) := bits_clr_fin m hm16 3 (by decide)
                  go_wp2_with fail
                  go_roundw
                  case rel => exact ⟨k + 1, by omega, by go_num, m &&& 7, rfl, mkHid (by rw [laneM_clr (w := 3) hln.out HWK.out, HM.out]; rfl), mkHid (by rw [privUpto_s, HU.out, HNB.out]; rfl), HB3.out⟩
                  case measure => simp [intOf] <;> omega

              · have n2 : (op == 2) = false := by simpa using e2
                clear h2 e2
                rcases hv5 with rfl | rfl | rfl | rfl | rfl
                · go_wp2_with fail
                  go_roundw
                  case rel => exact ⟨k + 1, by omega, by go_num, m, rfl, mkHid (by rw [laneM_same hln.out HWK.out, HM.out]), mkHid (by rw [privUpto_s, HU.out, HNB.out]; rfl), HB3.out⟩
                  case measure => simp [intOf] <;> omega
                · have hbt : bits .andNot .i64 (m : Int) 1 = ((m &&& 14 : Nat) : Int) := bits_clr_fin m hm16 0 (by decide)
                  go_wp2_with fail
                  go_roundw
                  case rel => exact ⟨k + 1, by omega, by go_num, m &&& 14, rfl, mkHid (by rw [laneM_clr (w := 0) hln.out HWK.out, HM.out]; rfl), mkHid (by rw [privUpto_s, HU.out, HNB.out]; rfl), HB3.out⟩
                  case measure => simp [intOf] <;> omega
                · have hbt : bits .andNot .i64 (m : Int) 2 = ((m &&& 13 : Nat) : Int) := bits_clr_fin m hm16 1 (by decide)
                  go_wp2_with fail
                  go_roundw
                  case rel => exact ⟨k + 1, by omega, by go_num, m &&& 13, rfl, mkHid (by rw [laneM_clr (w := 1) hln.out HWK.out, HM.out]; rfl), mkHid (by rw [privUpto_s, HU.out, HNB.out]; rfl), HB3.out⟩
                  case measure => simp [intOf] <;> omega
                · have hbt : bits .andNot .i64 (m : Int) 4 = ((m &&& 11 : Nat) : Int) := bits_clr_fin m hm16 2 (by decide)
                  go_wp2_with fail
                  go_roundw
                  case rel => exact ⟨k + 1, by omega, by go_num, m &&& 11, rfl, mkHid (by rw [laneM_clr (w := 2) hln.out HWK.out, HM.out]; rfl), mkHid (by rw [privUpto_s, HU.out, HNB.out]; rfl), HB3.out⟩
                  case measure => simp [intOf] <;> omega
                · have hbt : bits .andNot .i64 (m : Int) 8 = ((m &&& 7 : Nat) : Int) := bits_clr_fin m hm16 3 (by decide)
                  go_wp2_with fail
                  go_roundw
                  case rel => exact ⟨k + 1, by omega, by go_num, m &&& 7, rfl, mkHid (by rw [laneM_clr (w := 3) hln.out HWK.out, HM.out]; rfl), mkHid (by rw [privUpto_s, HU.out, HNB.out]; rfl), HB3.out⟩
                  case measure => simp [intOf] <;> omega
      · have hke : k = xs.length := by omega
        have HUU := mkHid (show privUpto xs xs.length = true from by rw [← hke]; exact HU.out)
        clear hb
        go_wp2_with fail
        go_ret
        exact ⟨ret_bool (by rw [HFL.out, HUU.out]), HB.out⟩
end Go.Proofs.Ytjgemgjpbanliaa
