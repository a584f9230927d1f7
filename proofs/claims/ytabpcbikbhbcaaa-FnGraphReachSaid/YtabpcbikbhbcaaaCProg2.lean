/-
  Contract of the reference's ProgramValid.
-/
import Derived.Test.YtabpcbikbhbcaaaCProg
namespace Go.Proofs.Ytabpcbikbhbcaaa
open Go.RowKit
set_option maxHeartbeats 4000000
set_option maxRecDepth 100000
set_option linter.unusedVariables false

theorem mark_last {os : List Int} {k b : Nat} (hl : (stk os k).getLast? = some b) : elseOk os k = (markOp os k b == 11) := by
  unfold elseOk markOp
  rw [hl]
  simp only
  by_cases h : 0 ≤ oth os b k
  · rw [if_pos h, decide_eq_false (by omega), Bool.and_false]; rfl
  · rw [if_neg h, decide_eq_true (by omega), Bool.and_true]
theorem opStk_last {os : List Int} {k b m : Nat} (hl : (stk os k).getLast? = some b) (hm : (stk os k).length = m + 1) : (ints (opStk os k))[m]? = some (.int .i64 (markOp os k b)) := by
  unfold ints opStk
  rw [List.map_map, List.getElem?_map, show (stk os k)[m]? = some b from by rw [List.getLast?_eq_getElem?, hm] at hl; simpa using hl]
  rfl
theorem stk_some {os : List Int} {k : Nat} (h : (stk os k).getLast? = none) : stk os k = [] := by
  cases hq : stk os k with
  | nil => rfl
  | cons a t => rw [hq, List.getLast?_cons] at h; cases h
theorem progValid_step {xs : List Cd} {k : Nat} (hk : k < xs.length) (h : stepOk (ops xs) k = false) : progValid xs = false := by
  unfold progValid
  rw [bal_no hk h, Bool.and_false]
theorem specProgramValid_any (A : Option Addr) (c : Nat) (xs : List Cd) (w : World) (hl : xs.length ≤ 1048576) (hs : Sl w A (cflat xs)) :
    Calls Try.prog 53 #[.slice A xs.length c] w fun e w' => e = .returned (.bool (progValid xs)) ∧ Below w.heap.size w w' := by
  obtain ⟨j0, hj0, hy0, hy1, hy2⟩ := info_parts Ei.hi
  obtain ⟨os, hos⟩ : ∃ os, os = ops xs := ⟨_, rfl⟩
  have hon : os.length = xs.length := by rw [hos]; exact ops_len xs
  have HAT := mkHid (show ∀ k (h : k < xs.length), opAt os k = xs[k].op from fun k h => by rw [hos]; exact ops_at h)
  have HNO := mkHid (show ∀ k, k < xs.length → stepOk os k = false → progValid xs = false from fun k hk h => by rw [hos] at h; exact progValid_step hk h)
  have HNC := mkHid (show ∀ k (h : k < xs.length), codeValid xs[k] = false → progValid xs = false from fun k hk h => progValid_no hk h)
  have HPV := mkHid (show progValid xs = (decide (xs.length ≤ 40) && xs.all codeValid && balB os) from by rw [hos]; rfl)
  clear hos
  have HS0 := mkHid hs
  clear hs
  go_enter Try.func53, Try.ntmps53
  go_wp2_with fail
  go_loopw [4, 3] (fun i s wr => ∃ k : Nat, k ≤ xs.length ∧ i = .int .i64 k ∧ ∃ g c', s = .slice (some ⟨g, 0, none⟩) (stk os k).length c' ∧ wr.ownsRow w.heap.size 3 1 (.slice (some ⟨g, 0, none⟩) (stk os k).length c') (stk os k).length (ints (opStk os k)) ∧ okUpto os k = true ∧ Hid ((xs.take k).all codeValid = true) ∧ Below w.heap.size w wr) (fun i _ _ => xs.length - (intOf i).toNat)
  case atStart => exact ⟨0, by omega, rfl, w.heap.size, 0, rfl, own_empty _ _ _, rfl, mkHid rfl, (Below.refl _ _).alloc (Nat.le_refl _) _⟩
  case round =>
    obtain ⟨k, hk, rfl, g, c', rfl, hown, hok, HA, hb⟩ := hrel
    have HB := mkHid hb
    have hs' := HS0.out.below hb
    have h3 := stk_three hok
    have HK := mkHid hok
    by_cases hlt : k < xs.length
    · obtain ⟨b0, off, rfl, e0, e1, e2, e3⟩ := hs'.cd hlt
      have hop := HAT.out k hlt
      have hnc := HNC.out k hlt
      obtain ⟨x, hx⟩ : ∃ x, x = xs[k] := ⟨_, rfl⟩
      rw [← hx] at e0 e1 e2 e3 hop hnc
      have HX := mkHid hx
      obtain ⟨v, hv⟩ : ∃ v, v = codeValid x := ⟨_, rfl⟩
      rw [← hv] at hnc
      have HV := mkHid hv
      have HNC2 := mkHid hnc
      obtain ⟨op, xa, xb, xc⟩ := x
      simp only at e0 e1 e2 e3 hop
      have hC := specCodeValid_any ⟨op, xa, xb, xc⟩ wr
      rw [← hv] at hC
      have HC := mkHid hC
      have HO := mkHid hown
      clear hC hx hv hnc hown hs' hok
      obtain ⟨L, hL⟩ : ∃ L, L = (stk os k).length := ⟨_, rfl⟩
      have HL := mkHid hL
      rw [← hL] at h3 HO ⊢
      clear hL
      have hgb := (HO.out.lt g rfl).1
      have HE := mkHid (show ∀ X, Below wr.heap.size wr X → X.cell? ⟨b0, off + k * 4, none⟩ = some (.int .i64 op) from fun X hX => Ext.keeps ⟨X, hX⟩ e0)
      have hops : op = 11 ∨ op = 13 ∨ op = 12 ∨ op = 14 ∨ ((op == 11) = false ∧ (op == 13) = false ∧ (op == 12) = false ∧ (op == 14) = false) := by
        simp only [beq_eq_false_iff_ne]; omega
      have HOPS := mkHid hops
      clear hops hb
      go_wp2_with fail
      refine HC.out.mono ?_
      rintro e w2 ⟨rfl, b2⟩
      have HB2 := mkHid (HB.out.trans (b2.mono HB.out.size))
      have hsz2 := HB2.out.size
      have HO2 := mkHid (own_below HO.out b2)
      have e0 := HE.out w2 b2
      clear b2 HO HB HE HC e1 e2 e3
      cases v with
      | false =>
        have HF := mkHid (HNC2.out rfl)
        go_wp2_with fail
        go_ret
        exact ⟨ret_bool HF.out.symm, HB2.out⟩
      | true =>
        have HTK := mkHid (show (xs.take (k + 1)).all codeValid = true from by
          rw [List.take_succ_eq_append_getElem hlt, List.all_append, HA.out, Bool.true_and, ← HX.out]; simp [HV.out.symm])
        clear HNC2
        rcases HOPS.out with rfl | rfl | rfl | rfl | ⟨n11, n13, n12, n14⟩
        · have hst := stepOk_open (os := os) (k := k) (by rw [hop]; rfl)
          rw [← HL.out] at hst
          have HST := mkHid hst
          clear hst
          by_cases hL3 : L < 3
          · have hgg : ¬ (3 : Int) < (L : Int) + 1 := by omega
            go_wp2_with (at_builtin; refine wpList_appS Ei (HO2.out.alloc _) (newCells _ _ _) rfl (by simp [Value.oneCell']) (by omega) (by omega) (by simp; omega) rfl rfl rfl rfl ?_; intro g' c2 w3 hown3 hg3; have HO3 := mkHid hown3; have HB3 := mkHid ((HB2.out.alloc hsz2 _).grown hg3 (by simp; omega) (fun q e => by injection e with e; omega)); clear hown3 hg3)
            go_roundw
            case rel => exact ⟨k + 1, by omega, by go_num, g', c2, by rw [stk_s, if_pos (by rw [hop]; rfl), List.length_append, List.length_singleton, ← HL.out], by have := HO3.out; rw [stk_s, if_pos (by rw [hop]; rfl), List.length_append, List.length_singleton, ← HL.out, opStk_open (by rw [hop]; rfl), hop]; simpa [ints] using this, by rw [okUpto_s, HK.out, HST.out, decide_eq_true hL3]; rfl, HTK, HB3.out⟩
            case measure => simp [intOf] <;> omega
          · have hgg : (3 : Int) < (L : Int) + 1 := by omega
            have HF := mkHid (HNO.out k hlt (by rw [HST.out, decide_eq_false hL3]))
            go_wp2_with (at_builtin; refine wpList_appS Ei (HO2.out.alloc _) (newCells _ _ _) rfl (by simp [Value.oneCell']) (by omega) (by omega) (by simp; omega) rfl rfl rfl rfl ?_; intro g' c2 w3 hown3 hg3; have HO3 := mkHid hown3; have HB3 := mkHid ((HB2.out.alloc hsz2 _).grown hg3 (by simp; omega) (fun q e => by injection e with e; omega)); clear hown3 hg3)
            go_ret
            exact ⟨ret_bool HF.out.symm, HB3.out⟩
        · have hst := stepOk_open (os := os) (k := k) (by rw [hop]; rfl)
          rw [← HL.out] at hst
          have HST := mkHid hst
          clear hst
          by_cases hL3 : L < 3
          · have hgg : ¬ (3 : Int) < (L : Int) + 1 := by omega
            go_wp2_with (at_builtin; refine wpList_appS Ei (HO2.out.alloc _) (newCells _ _ _) rfl (by simp [Value.oneCell']) (by omega) (by omega) (by simp; omega) rfl rfl rfl rfl ?_; intro g' c2 w3 hown3 hg3; have HO3 := mkHid hown3; have HB3 := mkHid ((HB2.out.alloc hsz2 _).grown hg3 (by simp; omega) (fun q e => by injection e with e; omega)); clear hown3 hg3)
            go_roundw
            case rel => exact ⟨k + 1, by omega, by go_num, g', c2, by rw [stk_s, if_pos (by rw [hop]; rfl), List.length_append, List.length_singleton, ← HL.out], by have := HO3.out; rw [stk_s, if_pos (by rw [hop]; rfl), List.length_append, List.length_singleton, ← HL.out, opStk_open (by rw [hop]; rfl), hop]; simpa [ints] using this, by rw [okUpto_s, HK.out, HST.out, decide_eq_true hL3]; rfl, HTK, HB3.out⟩
            case measure => simp [intOf] <;> omega
          · have hgg : (3 : Int) < (L : Int) + 1 := by omega
            have HF := mkHid (HNO.out k hlt (by rw [HST.out, decide_eq_false hL3]))
            go_wp2_with (at_builtin; refine wpList_appS Ei (HO2.out.alloc _) (newCells _ _ _) rfl (by simp [Value.oneCell']) (by omega) (by omega) (by simp; omega) rfl rfl rfl rfl ?_; intro g' c2 w3 hown3 hg3; have HO3 := mkHid hown3; have HB3 := mkHid ((HB2.out.alloc hsz2 _).grown hg3 (by simp; omega) (fun q e => by injection e with e; omega)); clear hown3 hg3)
            go_ret
            exact ⟨ret_bool HF.out.symm, HB3.out⟩
        · have hst := stepOk_else (os := os) (k := k) hop
          have HST := mkHid hst
          clear hst
          cases hl : (stk os k).getLast? with
          | none =>
            have hL0 : L = 0 := by rw [HL.out, stk_some hl]; rfl
            subst hL0
            have HF := mkHid (HNO.out k hlt (by rw [HST.out]; unfold elseOk; rw [hl]))
            clear hl
            go_wp2_with fail
            go_ret
            exact ⟨ret_bool HF.out.symm, HB2.out⟩

          | some b =>
            have hel := mark_last hl
            obtain ⟨m, hm⟩ : ∃ m, L = m + 1 := ⟨L - 1, by
              have : stk os k ≠ [] := fun e => by rw [e] at hl; cases hl
              have := List.length_pos_iff.2 this
              have := HL.out
              omega⟩
            subst hm
            have hlast := opStk_last hl HL.out.symm
            obtain ⟨q, hq⟩ : ∃ q, q = markOp os k b := ⟨_, rfl⟩
            rw [← hq] at hlast
            have HQ := mkHid hq
            have HLL := mkHid hl
            have p0 : w2.cell? ⟨g, m, none⟩ = some (.int .i64 q) := (HO2.out.cellAt m (by omega)).trans hlast
            have p1 := HO2.out.frozenAt m
            have hcap := own_cap HO2.out
            clear hq hl hlast

            rw [← HQ.out] at hel
            have HEL := mkHid hel
            clear hel
            by_cases hz : q = 11
            · subst hz
              have HST2 := mkHid (HO2.out.stored m (.int .i64 12)).1
              have HB3 := mkHid (HB2.out.setCell (p := ⟨g, m, none⟩) hgb (.int .i64 12))
              have hgg : ¬ (3 : Int) < (m : Int) + 1 := by omega
              go_wp2_with fail
              go_roundw
              case rel =>
                have hs1 : stk os (k + 1) = stk os k := by rw [stk_s, if_neg (by rw [hop]; decide), if_neg (by rw [hop]; decide)]
                refine ⟨k + 1, by omega, by go_num, g, c', by rw [hs1, ← HL.out], ?_, by rw [okUpto_s, HK.out, HST.out, HEL.out]; rfl, HTK, HB3.out⟩
                have := HST2.out
                rw [hs1, ← HL.out, opStk_else hop, ← HL.out]
                simpa [ints, List.map_set] using this
              case measure => simp [intOf] <;> omega
            · have hzz : (q != 11) = true := by simp [hz]
              have HF := mkHid (HNO.out k hlt (by rw [HST.out, HEL.out]; simp [hz]))
              go_wp2_with fail
              go_ret
              exact ⟨ret_bool HF.out.symm, HB2.out⟩
        · have hst := stepOk_end (os := os) (k := k) hop
          have HST := mkHid hst
          clear hst
          cases hl : (stk os k).getLast? with
          | none =>
            have hL0 : L = 0 := by rw [HL.out, stk_some hl]; rfl
            subst hL0
            have HF := mkHid (HNO.out k hlt (by rw [HST.out, stk_some hl]; rfl))
            clear hl
            go_wp2_with fail
            go_ret
            exact ⟨ret_bool HF.out.symm, HB2.out⟩

          | some b =>
            have hne : stk os k ≠ [] := fun e => by rw [e] at hl; cases hl
            have HOK := mkHid (show stepOk os k = true from by rw [HST.out]; cases hq : stk os k with
              | nil => exact absurd hq hne
              | cons a t => rfl)
            clear hne
            obtain ⟨m, hm⟩ : ∃ m, L = m + 1 := ⟨L - 1, by
              have : stk os k ≠ [] := fun e => by rw [e] at hl; cases hl
              have := List.length_pos_iff.2 this
              have := HL.out
              omega⟩
            subst hm
            have hlast := opStk_last hl HL.out.symm
            obtain ⟨q, hq⟩ : ∃ q, q = markOp os k b := ⟨_, rfl⟩
            rw [← hq] at hlast
            have HQ := mkHid hq
            have HLL := mkHid hl
            have p0 : w2.cell? ⟨g, m, none⟩ = some (.int .i64 q) := (HO2.out.cellAt m (by omega)).trans hlast
            have p1 := HO2.out.frozenAt m
            have hcap := own_cap HO2.out
            clear hq hl hlast

            have hpop : w2.ownsRow w.heap.size 3 1 (.slice (some ⟨g, 0, none⟩) m c') m (ints (opStk os k).dropLast) := by
              have h1 := HO2.out
              have hlen : (opStk os k).length = m + 1 := by rw [opStk_len]; exact HL.out.symm
              have hne : opStk os k ≠ [] := fun e => by rw [e] at hlen; cases hlen
              have h2 : ints (opStk os k) = ints (opStk os k).dropLast ++ [.int .i64 ((opStk os k).getLast hne)] := by
                unfold ints
                conv => lhs; rw [← List.dropLast_concat_getLast hne]
                simp
              rw [h2] at h1
              exact ownsRow_pop (by simp [ints, hlen]) h1
            have HPOP := mkHid hpop
            clear hpop
            have hgg : ¬ (3 : Int) < (m : Int) := by omega
            go_wp2_with fail
            go_roundw
            case rel =>
              have hs1 : stk os (k + 1) = (stk os k).dropLast := by rw [stk_s, if_neg (by rw [hop]; decide), if_pos hop]
              have hlm : (stk os (k + 1)).length = m := by rw [hs1, List.length_dropLast, ← HL.out]; rfl
              refine ⟨k + 1, by omega, by go_num, g, c', by rw [hlm], ?_, by rw [okUpto_s, HK.out, HOK.out]; rfl, HTK, HB2.out⟩
              rw [hlm, opStk_close hop]
              exact HPOP.out
            case measure => simp [intOf] <;> omega
        · have HN : Hid (opensB (opAt os k) = false ∧ opAt os k ≠ 12 ∧ opAt os k ≠ 14) := mkHid (by
            rw [hop]
            refine ⟨by unfold opensB; rw [n11, n13]; rfl, by simpa using n12, by simpa using n14⟩)
          have hgg : ¬ (3 : Int) < (L : Int) := by omega
          go_wp2_with fail
          go_roundw
          case rel =>
            have hs1 : stk os (k + 1) = stk os k := by rw [stk_s, if_neg (by rw [HN.out.1]; decide), if_neg HN.out.2.2]
            refine ⟨k + 1, by omega, by go_num, g, c', by rw [hs1, ← HL.out], ?_, by rw [okUpto_s, HK.out, stepOk_other HN.out.1 HN.out.2.1 HN.out.2.2]; rfl, HTK, HB2.out⟩
            rw [hs1, ← HL.out, opStk_other HN.out.1 HN.out.2.1 HN.out.2.2]
            exact HO2.out
          case measure => simp [intOf] <;> omega
    · have hke : k = xs.length := by omega
      subst hke
      have hall : xs.all codeValid = true := by have := HA.out; rwa [List.take_of_length_le (by omega)] at this
      have hbal : balB os = (stk os xs.length).isEmpty := by
        unfold balB
        rw [hon, hok, Bool.true_and]
      have hpv := HPV.out
      rw [hall, hbal, Bool.and_true] at hpv
      have HPV2 := mkHid hpv
      obtain ⟨L, hL⟩ : ∃ L, L = (stk os xs.length).length := ⟨_, rfl⟩
      have HE := mkHid (show (stk os xs.length).isEmpty = decide (L = 0) from by
        rw [hL]
        cases stk os xs.length with
        | nil => rfl
        | cons a t => simp)
      rw [← hL] at h3 ⊢
      clear hL hpv hbal hall hs' hb hok hown
      by_cases h0 : L = 0
      · subst h0
        by_cases h40 : xs.length ≤ 40
        · have h40' : (xs.length : Int) ≤ 40 := by omega
          go_wp2_with fail
          go_ret
          exact ⟨ret_bool (by rw [HPV2.out, HE.out, decide_eq_true h40]; rfl), HB.out⟩
        · have h40' : ¬ (xs.length : Int) ≤ 40 := by omega
          go_wp2_with fail
          go_ret
          exact ⟨ret_bool (by rw [HPV2.out, HE.out, decide_eq_false h40]; rfl), HB.out⟩
      · have h0' : ((L : Int) == 0) = false := by rw [beq_eq_false_iff_ne]; omega
        go_wp2_with fail
        go_ret
        exact ⟨ret_bool (by rw [HPV2.out, HE.out, decide_eq_false h0, Bool.and_false]), HB.out⟩
end Go.Proofs.Ytabpcbikbhbcaaa
