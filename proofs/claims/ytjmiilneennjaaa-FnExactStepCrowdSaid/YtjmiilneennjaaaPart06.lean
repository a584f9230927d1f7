/-
  Parts of a proof: CProg, CProg2, CAround, CBar, CSucc, CFunc, CMem.
-/
import Derived.Test.YtjmiilneennjaaaPart05
import Derived.Test.YtjmiilneennjaaaPart01
import Derived.Test.YtjmiilneennjaaaPart03
namespace Go.Proofs.Ytjmiilneennjaaa
open Go.RowKit
set_option maxHeartbeats 2000000
set_option linter.unusedVariables false

def progValid (xs : List Cd) : Bool := decide (xs.length ≤ 40) && xs.all codeValid && balB (ops xs)
theorem progValid_no {xs : List Cd} {k : Nat} (hk : k < xs.length) (h : codeValid xs[k] = false) : progValid xs = false := by
  unfold progValid
  have : xs.all codeValid = false := by
    rw [List.all_eq_false]
    exact ⟨xs[k], List.getElem_mem hk, by simp [h]⟩
  rw [this, Bool.and_false, Bool.false_and]
theorem progValid_yes {xs : List Cd} (h : progValid xs = true) : xs.length ≤ 40 ∧ (∀ x ∈ xs, codeValid x = true) ∧ balB (ops xs) = true := by
  unfold progValid at h
  rw [Bool.and_eq_true, Bool.and_eq_true, decide_eq_true_eq, List.all_eq_true] at h
  exact ⟨h.1.1, h.1.2, h.2⟩
theorem implProgramValid_any (A : Option Addr) (c : Nat) (xs : List Cd) (w : World) (hl : xs.length ≤ 1048576) (hs : Sl w A (cflat xs)) :
    Calls Try.prog 47 #[.slice A xs.length c] w fun e w' => e = .returned (.bool (progValid xs)) ∧ Below w.heap.size w w' := by
  by_cases h40 : xs.length ≤ 40
  · have HV := mkHid (show progValid xs = (xs.all codeValid && balB (ops xs)) from by unfold progValid; rw [decide_eq_true h40, Bool.true_and])
    have HS0 := mkHid hs
    clear hs
    go_enter Try.func47, Try.ntmps47
    go_wp2_with fail
    go_loopw [13] (fun i wr => ∃ k : Nat, k ≤ xs.length ∧ i = .int .i64 k ∧ Hid ((xs.take k).all codeValid = true) ∧ Below w.heap.size w wr) (fun i _ => xs.length - (intOf i).toNat)
    case atStart => exact ⟨0, by omega, rfl, mkHid rfl, Below.refl _ _⟩
    case round =>
      obtain ⟨k, hk, rfl, HA, hb⟩ := hrel
      have HB := mkHid hb
      have hs' := HS0.out.below hb
      by_cases hlt : k < xs.length
      · obtain ⟨b0, off, rfl, e0, e1, e2, e3⟩ := hs'.cd hlt
        obtain ⟨x, hx⟩ : ∃ x, x = xs[k] := ⟨_, rfl⟩
        rw [← hx] at e0 e1 e2 e3
        obtain ⟨v, hv⟩ : ∃ v, v = codeValid x := ⟨_, rfl⟩
        obtain ⟨op, xa, xb, xc⟩ := x
        simp only at e0 e1 e2 e3
        have hC := implCodeValid_any ⟨op, xa, xb, xc⟩ (wr.alloc (.cells #[.int .i64 op, .int .i64 xa, .int .i64 xb, .int .i64 xc] 69))
        rw [← hv] at hC
        have HC := mkHid hC
        have HB2 := mkHid (hb.alloc hb.size (.cells #[.int .i64 op, .int .i64 xa, .int .i64 xb, .int .i64 xc] 69))
        have HX := mkHid (show codeValid xs[k] = v from by rw [← hx]; exact hv.symm)
        clear hC hs' hb hx hv
        go_wp2_with fail
        refine HC.out.mono ?_
        rintro e w2 ⟨rfl, b2⟩
        have HB3 := mkHid (HB2.out.trans (b2.mono HB2.out.size))
        clear b2
        cases v with
        | false =>
          go_wp2_with fail
          go_ret
          exact ⟨ret_bool (progValid_no hlt HX.out).symm, HB3.out⟩
        | true =>
          go_wp2_with fail
          go_roundw
          case rel => exact ⟨k + 1, by omega, by go_num, mkHid (by rw [List.take_succ_eq_append_getElem hlt, List.all_append, HA.out, Bool.true_and]; simp [HX.out]), HB3.out⟩
          case measure => simp [intOf] <;> omega
      · have hke : k = xs.length := by omega
        have hall : xs.all codeValid = true := by have := HA.out; rwa [List.take_of_length_le (by omega)] at this
        have hC := blocks_any A c xs wr (by omega) hs'
        have HC := mkHid hC
        have HVV := mkHid (show progValid xs = balB (ops xs) from by rw [HV.out, hall, Bool.true_and])
        clear hC hs' hb hall
        go_wp2_with fail
        refine HC.out.mono ?_
        rintro e w2 ⟨Av, Ov, rfl, b2, _⟩
        have HB3 := mkHid (HB.out.trans (b2.mono HB.out.size))
        clear b2
        go_wp2_with fail
        go_ret
        exact ⟨ret_bool HVV.out.symm, HB3.out⟩
  · have hgt : (40 : Int) < (xs.length : Int) := by omega
    have HV := mkHid (show progValid xs = false from by unfold progValid; rw [decide_eq_false h40]; rfl)
    clear h40
    go_enter Try.func47, Try.ntmps47
    go_wp2_with fail
    go_ret
    exact ⟨ret_bool HV.out.symm, Below.refl _ _⟩
theorem l4Opens_any (x : Cd) (w : World) : Calls Try.prog 107 #[cdV x] w fun e w' => e = .returned (.bool (opensB x.op)) ∧ Below w.heap.size w w' := by
  obtain ⟨op, a, b, c⟩ := x
  by_cases h11 : op = 11
  · subst h11
    go_enter Try.func107, Try.ntmps107
    go_wp2_with fail
    go_ret
    exact ⟨rfl, (Below.refl _ _).alloc (Nat.le_refl _) _⟩
  · by_cases h13 : op = 13
    · subst h13
      go_enter Try.func107, Try.ntmps107
      go_wp2_with fail
      go_ret
      exact ⟨rfl, (Below.refl _ _).alloc (Nat.le_refl _) _⟩
    · have n11 : (op == 11) = false := by simpa using h11
      have n13 : (op == 13) = false := by simpa using h13
      have HE := mkHid (show opensB op = false from by unfold opensB; rw [n11, n13]; rfl)
      clear h11 h13
      go_enter Try.func107, Try.ntmps107
      go_wp2_with fail
      go_ret
      exact ⟨ret_bool HE.out.symm, (Below.refl _ _).alloc (Nat.le_refl _) _⟩
end Go.Proofs.Ytjmiilneennjaaa

namespace Go.Proofs.Ytjmiilneennjaaa
open Go.RowKit
set_option maxHeartbeats 4000000
set_option maxRecDepth 100000
set_option linter.unusedVariables false

theorem mark_last {os : List Int} {k b : Nat} (hl : (stk os k).getLast? = some b) : elseOk os k = (markOp os k b == 11) := by
  unfold elseOk markOp
  rw [hl]
  simp only
  by_cases h : 0 ≤ oth os b k
  · rw [if_pos h, decide_eq_false (by omega), Bool.and_false]; rfl
  · rw [if_neg h, decide_eq_true (by omega), Bool.and_true]
theorem opStk_last {os : List Int} {k b m : Nat} (hl : (stk os k).getLast? = some b) (hm : (stk os k).length = m + 1) : (ints (opStk os k))[m]? = some (.int .i64 (markOp os k b)) := by
  unfold ints opStk
  rw [List.map_map, List.getElem?_map, show (stk os k)[m]? = some b from by rw [List.getLast?_eq_getElem?, hm] at hl; simpa using hl]
  rfl
theorem stk_some {os : List Int} {k : Nat} (h : (stk os k).getLast? = none) : stk os k = [] := by
  cases hq : stk os k with
  | nil => rfl
  | cons a t => rw [hq, List.getLast?_cons] at h; cases h
theorem progValid_step {xs : List Cd} {k : Nat} (hk : k < xs.length) (h : stepOk (ops xs) k = false) : progValid xs = false := by
  unfold progValid
  rw [bal_no hk h, Bool.and_false]
theorem specProgramValid_any (A : Option Addr) (c : Nat) (xs : List Cd) (w : World) (hl : xs.length ≤ 1048576) (hs : Sl w A (cflat xs)) :
    Calls Try.prog 40 #[.slice A xs.length c] w fun e w' => e = .returned (.bool (progValid xs)) ∧ Below w.heap.size w w' := by
  obtain ⟨j0, hj0, hy0, hy1, hy2⟩ := info_parts Ei.hi
  obtain ⟨os, hos⟩ : ∃ os, os = ops xs := ⟨_, rfl⟩
  have hon : os.length = xs.length := by rw [hos]; exact ops_len xs
  have HAT := mkHid (show ∀ k (h : k < xs.length), opAt os k = xs[k].op from fun k h => by rw [hos]; exact ops_at h)
  have HNO := mkHid (show ∀ k, k < xs.length → stepOk os k = false → progValid xs = false from fun k hk h => by rw [hos] at h; exact progValid_step hk h)
  have HNC := mkHid (show ∀ k (h : k < xs.length), codeValid xs[k] = false → progValid xs = false from fun k hk h => progValid_no hk h)
  have HPV := mkHid (show progValid xs = (decide (xs.length ≤ 40) && xs.all codeValid && balB os) from by rw [hos]; rfl)
  clear hos
  have HS0 := mkHid hs
  clear hs
  go_enter Try.func40, Try.ntmps40
  go_wp2_with fail
  go_loopw [4, 3] (fun i s wr => ∃ k : Nat, k ≤ xs.length ∧ i = .int .i64 k ∧ ∃ g c', s = .slice (some ⟨g, 0, none⟩) (stk os k).length c' ∧ wr.ownsRow w.heap.size 3 1 (.slice (some ⟨g, 0, none⟩) (stk os k).length c') (stk os k).length (ints (opStk os k)) ∧ okUpto os k = true ∧ Hid ((xs.take k).all codeValid = true) ∧ Below w.heap.size w wr) (fun i _ _ => xs.length - (intOf i).toNat)
  case atStart => exact ⟨0, by omega, rfl, w.heap.size, 0, rfl, own_empty _ _ _, rfl, mkHid rfl, (Below.refl _ _).alloc (Nat.le_refl _) _⟩
  case round =>
    obtain ⟨k, hk, rfl, g, c', rfl, hown, hok, HA, hb⟩ := hrel
    have HB := mkHid hb
    have hs' := HS0.out.below hb
    have h3 := stk_three hok
    have HK := mkHid hok
    by_cases hlt : k < xs.length
    · obtain ⟨b0, off, rfl, e0, e1, e2, e3⟩ := hs'.cd hlt
      have hop := HAT.out k hlt
      have hnc := HNC.out k hlt
      obtain ⟨x, hx⟩ : ∃ x, x = xs[k] := ⟨_, rfl⟩
      rw [← hx] at e0 e1 e2 e3 hop hnc
      have HX := mkHid hx
      obtain ⟨v, hv⟩ : ∃ v, v = codeValid x := ⟨_, rfl⟩
      rw [← hv] at hnc
      have HV := mkHid hv
      have HNC2 := mkHid hnc
      obtain ⟨op, xa, xb, xc⟩ := x
      simp only at e0 e1 e2 e3 hop
      have hC := specCodeValid_any ⟨op, xa, xb, xc⟩ wr
      rw [← hv] at hC
      have HC := mkHid hC
      have HO := mkHid hown
      clear hC hx hv hnc hown hs' hok
      obtain ⟨L, hL⟩ : ∃ L, L = (stk os k).length := ⟨_, rfl⟩
      have HL := mkHid hL
      rw [← hL] at h3 HO ⊢
      clear hL
      have hgb := (HO.out.lt g rfl).1
      have HE := mkHid (show ∀ X, Below wr.heap.size wr X → X.cell? ⟨b0, off + k * 4, none⟩ = some (.int .i64 op) from fun X hX => Ext.keeps ⟨X, hX⟩ e0)
      have hops : op = 11 ∨ op = 13 ∨ op = 12 ∨ op = 14 ∨ ((op == 11) = false ∧ (op == 13) = false ∧ (op == 12) = false ∧ (op == 14) = false) := by
        simp only [beq_eq_false_iff_ne]; omega
      have HOPS := mkHid hops
      clear hops hb
      go_wp2_with fail
      refine HC.out.mono ?_
      rintro e w2 ⟨rfl, b2⟩
      have HB2 := mkHid (HB.out.trans (b2.mono HB.out.size))
      have hsz2 := HB2.out.size
      have HO2 := mkHid (own_below HO.out b2)
      have e0 := HE.out w2 b2
      clear b2 HO HB HE HC e1 e2 e3
      cases v with
      | false =>
        have HF := mkHid (HNC2.out rfl)
        go_wp2_with fail
        go_ret
        exact ⟨ret_bool HF.out.symm, HB2.out⟩
      | true =>
        have HTK := mkHid (show (xs.take (k + 1)).all codeValid = true from by
          rw [List.take_succ_eq_append_getElem hlt, List.all_append, HA.out, Bool.true_and, ← HX.out]; simp [HV.out.symm])
        clear HNC2
        rcases HOPS.out with rfl | rfl | rfl | rfl | ⟨n11, n13, n12, n14⟩
        · have hst := stepOk_open (os := os) (k := k) (by rw [hop]; rfl)
          rw [← HL.out] at hst
          have HST := mkHid hst
          clear hst
          by_cases hL3 : L < 3
          · have hgg : ¬ (3 : Int) < (L : Int) + 1 := by omega
            go_wp2_with (at_builtin; refine wpList_appS Ei (HO2.out.alloc _) (newCells _ _ _) rfl (by simp [Value.oneCell']) (by omega) (by omega) (by simp; omega) rfl rfl rfl rfl ?_; intro g' c2 w3 hown3 hg3; have HO3 := mkHid hown3; have HB3 := mkHid ((HB2.out.alloc hsz2 _).grown hg3 (by simp; omega) (fun q e => by injection e with e; omega)); clear hown3 hg3)
            go_roundw
            case rel => exact ⟨k + 1, by omega, by go_num, g', c2, by rw [stk_s, if_pos (by rw [hop]; rfl), List.length_append, List.length_singleton, ← HL.out], by have := HO3.out; rw [stk_s, if_pos (by rw [hop]; rfl), List.length_append, List.length_singleton, ← HL.out, opStk_open (by rw [hop]; rfl), hop]; simpa [ints] using this, by rw [okUpto_s, HK.out, HST.out, decide_eq_true hL3]; rfl, HTK, HB3.out⟩
            case measure => simp [intOf] <;> omega
          · have hgg : (3 : Int) < (L : Int) + 1 := by omega
            have HF := mkHid (HNO.out k hlt (by rw [HST.out, decide_eq_false hL3]))
            go_wp2_with (at_builtin; refine wpList_appS Ei (HO2.out.alloc _) (newCells _ _ _) rfl (by simp [Value.oneCell']) (by omega) (by omega) (by simp; omega) rfl rfl rfl rfl ?_; intro g' c2 w3 hown3 hg3; have HO3 := mkHid hown3; have HB3 := mkHid ((HB2.out.alloc hsz2 _).grown hg3 (by simp; omega) (fun q e => by injection e with e; omega)); clear hown3 hg3)
            go_ret
            exact ⟨ret_bool HF.out.symm, HB3.out⟩
        · have hst := stepOk_open (os := os) (k := k) (by rw [hop]; rfl)
          rw [← HL.out] at hst
          have HST := mkHid hst
          clear hst
          by_cases hL3 : L < 3
          · have hgg : ¬ (3 : Int) < (L : Int) + 1 := by omega
            go_wp2_with (at_builtin; refine wpList_appS Ei (HO2.out.alloc _) (newCells _ _ _) rfl (by simp [Value.oneCell']) (by omega) (by omega) (by simp; omega) rfl rfl rfl rfl ?_; intro g' c2 w3 hown3 hg3; have HO3 := mkHid hown3; have HB3 := mkHid ((HB2.out.alloc hsz2 _).grown hg3 (by simp; omega) (fun q e => by injection e with e; omega)); clear hown3 hg3)
            go_roundw
            case rel => exact ⟨k + 1, by omega, by go_num, g', c2, by rw [stk_s, if_pos (by rw [hop]; rfl), List.length_append, List.length_singleton, ← HL.out], by have := HO3.out; rw [stk_s, if_pos (by rw [hop]; rfl), List.length_append, List.length_singleton, ← HL.out, opStk_open (by rw [hop]; rfl), hop]; simpa [ints] using this, by rw [okUpto_s, HK.out, HST.out, decide_eq_true hL3]; rfl, HTK, HB3.out⟩
            case measure => simp [intOf] <;> omega
          · have hgg : (3 : Int) < (L : Int) + 1 := by omega
            have HF := mkHid (HNO.out k hlt (by rw [HST.out, decide_eq_false hL3]))
            go_wp2_with (at_builtin; refine wpList_appS Ei (HO2.out.alloc _) (newCells _ _ _) rfl (by simp [Value.oneCell']) (by omega) (by omega) (by simp; omega) rfl rfl rfl rfl ?_; intro g' c2 w3 hown3 hg3; have HO3 := mkHid hown3; have HB3 := mkHid ((HB2.out.alloc hsz2 _).grown hg3 (by simp; omega) (fun q e => by injection e with e; omega)); clear hown3 hg3)
            go_ret
            exact ⟨ret_bool HF.out.symm, HB3.out⟩
        · have hst := stepOk_else (os := os) (k := k) hop
          have HST := mkHid hst
          clear hst
          cases hl : (stk os k).getLast? with
          | none =>
            have hL0 : L = 0 := by rw [HL.out, stk_some hl]; rfl
            subst hL0
            have HF := mkHid (HNO.out k hlt (by rw [HST.out]; unfold elseOk; rw [hl]))
            clear hl
            go_wp2_with fail
            go_ret
            exact ⟨ret_bool HF.out.symm, HB2.out⟩

          | some b =>
            have hel := mark_last hl
            obtain ⟨m, hm⟩ : ∃ m, L = m + 1 := ⟨L - 1, by
              have : stk os k ≠ [] := fun e => by rw [e] at hl; cases hl
              have := List.length_pos_iff.2 this
              have := HL.out
              omega⟩
            subst hm
            have hlast := opStk_last hl HL.out.symm
            obtain ⟨q, hq⟩ : ∃ q, q = markOp os k b := ⟨_, rfl⟩
            rw [← hq] at hlast
            have HQ := mkHid hq
            have HLL := mkHid hl
            have p0 : w2.cell? ⟨g, m, none⟩ = some (.int .i64 q) := (HO2.out.cellAt m (by omega)).trans hlast
            have p1 := HO2.out.frozenAt m
            have hcap := own_cap HO2.out
            clear hq hl hlast

            rw [← HQ.out] at hel
            have HEL := mkHid hel
            clear hel
            by_cases hz : q = 11
            · subst hz
              have HST2 := mkHid (HO2.out.stored m (.int .i64 12)).1
              have HB3 := mkHid (HB2.out.setCell (p := ⟨g, m, none⟩) hgb (.int .i64 12))
              have hgg : ¬ (3 : Int) < (m : Int) + 1 := by omega
              go_wp2_with fail
              go_roundw
              case rel =>
                have hs1 : stk os (k + 1) = stk os k := by rw [stk_s, if_neg (by rw [hop]; decide), if_neg (by rw [hop]; decide)]
                refine ⟨k + 1, by omega, by go_num, g, c', by rw [hs1, ← HL.out], ?_, by rw [okUpto_s, HK.out, HST.out, HEL.out]; rfl, HTK, HB3.out⟩
                have := HST2.out
                rw [hs1, ← HL.out, opStk_else hop, ← HL.out]
                simpa [ints, List.map_set] using this
              case measure => simp [intOf] <;> omega
            · have hzz : (q != 11) = true := by simp [hz]
              have HF := mkHid (HNO.out k hlt (by rw [HST.out, HEL.out]; simp [hz]))
              go_wp2_with fail
              go_ret
              exact ⟨ret_bool HF.out.symm, HB2.out⟩
        · have hst := stepOk_end (os := os) (k := k) hop
          have HST := mkHid hst
          clear hst
          cases hl : (stk os k).getLast? with
          | none =>
            have hL0 : L = 0 := by rw [HL.out, stk_some hl]; rfl
            subst hL0
            have HF := mkHid (HNO.out k hlt (by rw [HST.out, stk_some hl]; rfl))
            clear hl
            go_wp2_with fail
            go_ret
            exact ⟨ret_bool HF.out.symm, HB2.out⟩

          | some b =>
            have hne : stk os k ≠ [] := fun e => by rw [e] at hl; cases hl
            have HOK := mkHid (show stepOk os k = true from by rw [HST.out]; cases hq : stk os k with
              | nil => exact absurd hq hne
              | cons a t => rfl)
            clear hne
            obtain ⟨m, hm⟩ : ∃ m, L = m + 1 := ⟨L - 1, by
              have : stk os k ≠ [] := fun e => by rw [e] at hl; cases hl
              have := List.length_pos_iff.2 this
              have := HL.out
              omega⟩
            subst hm
            have hlast := opStk_last hl HL.out.symm
            obtain ⟨q, hq⟩ : ∃ q, q = markOp os k b := ⟨_, rfl⟩
            rw [← hq] at hlast
            have HQ := mkHid hq
            have HLL := mkHid hl
            have p0 : w2.cell? ⟨g, m, none⟩ = some (.int .i64 q) := (HO2.out.cellAt m (by omega)).trans hlast
            have p1 := HO2.out.frozenAt m
            have hcap := own_cap HO2.out
            clear hq hl hlast

            have hpop : w2.ownsRow w.heap.size 3 1 (.slice (some ⟨g, 0, none⟩) m c') m (ints (opStk os k).dropLast) := by
              have h1 := HO2.out
              have hlen : (opStk os k).length = m + 1 := by rw [opStk_len]; exact HL.out.symm
              have hne : opStk os k ≠ [] := fun e => by rw [e] at hlen; cases hlen
              have h2 : ints (opStk os k) = ints (opStk os k).dropLast ++ [.int .i64 ((opStk os k).getLast hne)] := by
                unfold ints
                conv => lhs; rw [← List.dropLast_concat_getLast hne]
                simp
              rw [h2] at h1
              exact ownsRow_pop (by simp [ints, hlen]) h1
            have HPOP := mkHid hpop
            clear hpop
            have hgg : ¬ (3 : Int) < (m : Int) := by omega
            go_wp2_with fail
            go_roundw
            case rel =>
              have hs1 : stk os (k + 1) = (stk os k).dropLast := by rw [stk_s, if_neg (by rw [hop]; decide), if_pos hop]
              have hlm : (stk os (k + 1)).length = m := by rw [hs1, List.length_dropLast, ← HL.out]; rfl
              refine ⟨k + 1, by omega, by go_num, g, c', by rw [hlm], ?_, by rw [okUpto_s, HK.out, HOK.out]; rfl, HTK, HB2.out⟩
              rw [hlm, opStk_close hop]
              exact HPOP.out
            case measure => simp [intOf] <;> omega
        · have HN : Hid (opensB (opAt os k) = false ∧ opAt os k ≠ 12 ∧ opAt os k ≠ 14) := mkHid (by
            rw [hop]
            refine ⟨by unfold opensB; rw [n11, n13]; rfl, by simpa using n12, by simpa using n14⟩)
          have hgg : ¬ (3 : Int) < (L : Int) := by omega
          go_wp2_with fail
          go_roundw
          case rel =>
            have hs1 : stk os (k + 1) = stk os k := by rw [stk_s, if_neg (by rw [HN.out.1]; decide), if_neg HN.out.2.2]
            refine ⟨k + 1, by omega, by go_num, g, c', by rw [hs1, ← HL.out], ?_, by rw [okUpto_s, HK.out, stepOk_other HN.out.1 HN.out.2.1 HN.out.2.2]; rfl, HTK, HB2.out⟩
            rw [hs1, ← HL.out, opStk_other HN.out.1 HN.out.2.1 HN.out.2.2]
            exact HO2.out
          case measure => simp [intOf] <;> omega
    · have hke : k = xs.length := by omega
      subst hke
      have hall : xs.all codeValid = true := by have := HA.out; rwa [List.take_of_length_le (by omega)] at this
      have hbal : balB os = (stk os xs.length).isEmpty := by
        unfold balB
        rw [hon, hok, Bool.true_and]
      have hpv := HPV.out
      rw [hall, hbal, Bool.and_true] at hpv
      have HPV2 := mkHid hpv
      obtain ⟨L, hL⟩ : ∃ L, L = (stk os xs.length).length := ⟨_, rfl⟩
      have HE := mkHid (show (stk os xs.length).isEmpty = decide (L = 0) from by
        rw [hL]
        cases stk os xs.length with
        | nil => rfl
        | cons a t => simp)
      rw [← hL] at h3 ⊢
      clear hL hpv hbal hall hs' hb hok hown
      by_cases h0 : L = 0
      · subst h0
        by_cases h40 : xs.length ≤ 40
        · have h40' : (xs.length : Int) ≤ 40 := by omega
          go_wp2_with fail
          go_ret
          exact ⟨ret_bool (by rw [HPV2.out, HE.out, decide_eq_true h40]; rfl), HB.out⟩
        · have h40' : ¬ (xs.length : Int) ≤ 40 := by omega
          go_wp2_with fail
          go_ret
          exact ⟨ret_bool (by rw [HPV2.out, HE.out, decide_eq_false h40]; rfl), HB.out⟩
      · have h0' : ((L : Int) == 0) = false := by rw [beq_eq_false_iff_ne]; omega
        go_wp2_with fail
        go_ret
        exact ⟨ret_bool (by rw [HPV2.out, HE.out, decide_eq_false h0, Bool.and_false]), HB.out⟩
end Go.Proofs.Ytjmiilneennjaaa

namespace Go.Proofs.Ytjmiilneennjaaa
open Go.RowKit
set_option maxHeartbeats 2000000
set_option maxRecDepth 100000
set_option linter.unusedVariables false

theorem opens_not {z : Int} (h : opensB z = true) : (z == 14) = false ∧ (z == 12) = false := by
  unfold opensB at h
  rw [Bool.or_eq_true, beq_iff_eq, beq_iff_eq] at h
  rcases h with rfl | rfl <;> exact ⟨rfl, rfl⟩
theorem arnd_end {os : List Int} {k d : Nat} (h : opAt os k = 14) : arnd os (k + 1) d = arnd os k (d + 1) := by
  rw [arnd, if_pos h]
theorem arnd_open0 {os : List Int} {k : Nat} (h : opensB (opAt os k) = true) : arnd os (k + 1) 0 = k := by
  have := (opens_not h).1
  rw [arnd, if_neg (by simpa using this), if_pos h, if_pos rfl]
theorem arnd_open {os : List Int} {k d : Nat} (h : opensB (opAt os k) = true) : arnd os (k + 1) (d + 1) = arnd os k d := by
  have := (opens_not h).1
  rw [arnd, if_neg (by simpa using this), if_pos h, if_neg (by omega)]; rfl
theorem arnd_other {os : List Int} {k d : Nat} (h : opensB (opAt os k) = false) (h14 : opAt os k ≠ 14) : arnd os (k + 1) d = arnd os k d := by
  rw [arnd, if_neg h14, if_neg (by rw [h]; decide)]
theorem l4Around_any (A : Option Addr) (c : Nat) (xs : List Cd) (at_ : Nat) (w : World) (hl : xs.length ≤ 1048576) (hat : at_ ≤ xs.length) (hs : Sl w A (cflat xs)) :
    Calls Try.prog 93 #[.slice A xs.length c, .int .i64 at_] w fun e w' => e = .returned (.int .i64 (arnd (ops xs) at_ 0)) ∧ Below w.heap.size w w' := by
  obtain ⟨os, hos⟩ : ∃ os, os = ops xs := ⟨_, rfl⟩
  have HAT := mkHid (show ∀ k (h : k < xs.length), opAt os k = xs[k].op from fun k h => by rw [hos]; exact ops_at h)
  rw [← hos]
  clear hos
  have HS0 := mkHid hs
  clear hs
  go_enter Try.func93, Try.ntmps93
  go_wp2_with fail
  go_loopw [6, 5] (fun i dv wr => ∃ k : Nat, k ≤ at_ ∧ i = .int .i64 ((k : Int) - 1) ∧ ∃ d : Nat, dv = .int .i64 d ∧ d + k ≤ at_ ∧ Hid (arnd os k d = arnd os at_ 0) ∧ Below w.heap.size w wr) (fun i _ _ => (intOf i + 1).toNat)
  case atStart => exact ⟨at_, by omega, rfl, 0, rfl, by omega, mkHid rfl, Below.refl _ _⟩
  case round =>
    obtain ⟨k, hk, rfl, d, rfl, hd, HR, hb⟩ := hrel
    have HB := mkHid hb
    cases k with
    | zero =>
      clear hb
      go_wp2_with fail
      go_ret
      exact ⟨by rw [← HR.out]; rfl, HB.out⟩
    | succ k =>
      have hlt : k < xs.length := by omega
      obtain ⟨b0, off, hA, e0, e1, e2, e3⟩ := (HS0.out.below hb).cd hlt
      have hop := HAT.out k hlt
      obtain ⟨x, hx⟩ : ∃ x, x = xs[k] := ⟨_, rfl⟩
      rw [← hx] at e0 e1 e2 e3 hop
      have hC := l4Opens_any x wr
      obtain ⟨op, xa, xb, xc⟩ := x
      simp only at e0 e1 e2 e3 hop hC
      have hkk : ((k + 1 : Nat) : Int) - 1 = (k : Int) := by omega
      rw [hkk]
      have HKK := mkHid hkk
      have HOP := mkHid hop
      subst hA
      clear hx hb hkk
      by_cases h14 : op = 14
      · subst h14
        have HC := mkHid hC
        clear hC hop
        go_wp2_with fail
        refine HC.out.mono ?_
        rintro e w2 ⟨rfl, b2⟩
        have HB2 := mkHid (HB.out.trans (b2.mono HB.out.size))
        clear b2
        go_wp2_with fail
        go_roundw
        case rel => exact ⟨k, by omega, by congr 1, d + 1, by go_num, by omega, mkHid (by rw [← HR.out, arnd_end HOP.out]), HB2.out⟩
        case measure => simp [intOf] <;> omega
      · have h14' : (op == 14) = false := by simpa using h14
        obtain ⟨v, hv⟩ : ∃ v, v = opensB op := ⟨_, rfl⟩
        rw [← hv] at hC
        have HC := mkHid hC
        have HV := mkHid hv
        clear hC hv hop h14
        go_wp2_with fail
        refine HC.out.mono ?_
        rintro e w2 ⟨rfl, b2⟩
        have HB2 := mkHid (HB.out.trans (b2.mono HB.out.size))
        clear b2
        cases v with
        | false =>
          go_wp2_with fail
          go_roundw
          case rel => exact ⟨k, by omega, by congr 1, d, rfl, by omega, mkHid (by rw [← HR.out, arnd_other (by rw [HOP.out]; exact HV.out.symm) (by rw [HOP.out]; simpa using h14')]), HB2.out⟩
          case measure => simp [intOf] <;> omega
        | true =>
          cases d with
          | zero =>
            go_wp2_with fail
            go_ret
            exact ⟨by rw [← HR.out, arnd_open0 (by rw [HOP.out]; exact HV.out.symm)]; rfl, HB2.out⟩
          | succ d =>
            have hd0 : (((d + 1 : Nat) : Int) == 0) = false := by rw [beq_eq_false_iff_ne]; omega
            have HD0 := mkHid hd0
            go_wp2_with fail
            go_roundw
            case rel => exact ⟨k, by omega, by congr 1, d, by congr 1 <;> omega, by omega, mkHid (by rw [← HR.out, arnd_open (by rw [HOP.out]; exact HV.out.symm)]), HB2.out⟩
            case measure => simp [intOf] <;> omega
theorem l4End_any (A : Option Addr) (c : Nat) (xs : List Cd) (b : Nat) (w : World) (hl : xs.length ≤ 1048576) (hbal : balB (ops xs) = true) (hb : b < xs.length) (ho : opensB (opAt (ops xs) b) = true) (hs : Sl w A (cflat xs)) :
    Calls Try.prog 92 #[.slice A xs.length c, .int .i64 b] w fun e w' => e = .returned (.tuple #[.int .i64 (endOf (ops xs) b (ops xs).length), .int .i64 (oth (ops xs) b (ops xs).length)]) ∧ Below w.heap.size w w' := by
  obtain ⟨os, hos⟩ : ∃ os, os = ops xs := ⟨_, rfl⟩
  have HAT := mkHid (show ∀ k (h : k < xs.length), opAt os k = xs[k].op from fun k h => by rw [hos]; exact ops_at h)
  have hon : os.length = xs.length := by rw [hos]; exact ops_len xs
  rw [← hos] at hbal ho ⊢
  clear hos
  have HS0 := mkHid hs
  have HBAL := mkHid hbal
  have HST := mkHid (EndInv.start (os := os) (b := b) (by omega) ho)
  clear hs hbal ho
  go_enter Try.func92, Try.ntmps92
  go_wp2_with fail
  go_loopw [8, 6, 7] (fun i dv ov wr => ∃ k : Nat, k ≤ xs.length ∧ i = .int .i64 k ∧ ∃ d : Nat, ∃ o : Int, dv = .int .i64 d ∧ ov = .int .i64 o ∧ Hid (EndInv os b k d o) ∧ d ≤ k ∧ Below w.heap.size w wr) (fun i _ _ _ => xs.length - (intOf i).toNat)
  case atStart => exact ⟨b + 1, by omega, by go_num, 0, -1, rfl, rfl, HST.out, by omega, Below.refl _ _⟩
  case round =>
    clear HST
    obtain ⟨k, hk, rfl, d, o, rfl, rfl, HR, hdk, hbw⟩ := hrel
    have HB := mkHid hbw
    by_cases hlt : k < xs.length
    · have hko : k < os.length := by omega
      obtain ⟨b0, off, hA, e0, e1, e2, e3⟩ := (HS0.out.below hbw).cd hlt
      have hop := HAT.out k hlt
      obtain ⟨x, hx⟩ : ∃ x, x = xs[k] := ⟨_, rfl⟩
      rw [← hx] at e0 e1 e2 e3 hop
      have hC := l4Opens_any x wr
      obtain ⟨op, xa, xb, xc⟩ := x
      simp only at e0 e1 e2 e3 hop hC
      have HOP := mkHid hop
      subst hA
      have HE := mkHid (show ∀ X, Below wr.heap.size wr X → X.cell? ⟨b0, off + k * 4, none⟩ = some (.int .i64 op) from fun X hX => Ext.keeps ⟨X, hX⟩ e0)
      obtain ⟨v, hv⟩ : ∃ v, v = opensB op := ⟨_, rfl⟩
      rw [← hv] at hC
      have HC := mkHid hC
      have HV := mkHid hv
      clear hx hbw hC hv hop
      go_wp2_with fail
      refine HC.out.mono ?_
      rintro e w2 ⟨rfl, b2⟩
      have HB2 := mkHid (HB.out.trans (b2.mono HB.out.size))
      have e0 := HE.out w2 b2
      clear b2 e1 e2 e3 HE HC
      cases v with
      | true =>
        go_wp2_with fail
        go_roundw
        case rel => exact ⟨k + 1, by omega, by go_num, d + 1, o, by go_num, rfl, mkHid (HR.out.open hko (by rw [HOP.out]; exact HV.out.symm)), by omega, HB2.out⟩
        case measure => simp [intOf] <;> omega
      | false =>
        have hno : Hid (opensB (opAt os k) = false) := mkHid (by rw [HOP.out]; exact HV.out.symm)
        by_cases h12 : op = 12
        · subst h12
          cases d with
          | zero =>
            go_wp2_with fail
            go_roundw
            case rel => exact ⟨k + 1, by omega, by go_num, 0, k, rfl, rfl, mkHid (HR.out.else_ hko HOP.out), by omega, HB2.out⟩
            case measure => simp [intOf] <;> omega
          | succ d =>
            have hd0 : (((d + 1 : Nat) : Int) == 0) = false := by rw [beq_eq_false_iff_ne]; omega
            go_wp2_with fail
            go_roundw
            case rel => exact ⟨k + 1, by omega, by go_num, d + 1, o, rfl, rfl, mkHid (HR.out.other hko hno.out (by rw [HOP.out]; decide) (fun _ => by omega)), by omega, HB2.out⟩
            case measure => simp [intOf] <;> omega
        · by_cases h14 : op = 14
          · subst h14
            cases d with
            | zero =>
              have hf := HR.out.found hko HOP.out
              have HF := mkHid hf
              clear hf
              go_wp2_with fail
              go_ret2
              exact ⟨by rw [HF.out.1, HF.out.2]; rfl, HB2.out⟩
            | succ d =>
              have hd0 : (((d + 1 : Nat) : Int) == 0) = false := by rw [beq_eq_false_iff_ne]; omega
              go_wp2_with fail
              go_roundw
              case rel => exact ⟨k + 1, by omega, by go_num, d, o, by congr 1 <;> omega, rfl, mkHid (HR.out.close hko HOP.out), by omega, HB2.out⟩
              case measure => simp [intOf] <;> omega
          · have n12 : (op == 12) = false := by simpa using h12
            have n14 : (op == 14) = false := by simpa using h14
            have H12 := mkHid h12
            have H14 := mkHid h14
            clear h12 h14
            go_wp2_with fail
            go_roundw
            case rel => exact ⟨k + 1, by omega, by go_num, d, o, rfl, rfl, mkHid (HR.out.other hko hno.out (by rw [HOP.out]; exact H14.out) (fun h => absurd (by rw [← HOP.out]; exact h) H12.out)), by omega, HB2.out⟩
            case measure => simp [intOf] <;> omega
    · have hke : k = os.length := by omega
      subst hke
      exact (HR.out.bal HBAL.out).elim
end Go.Proofs.Ytjmiilneennjaaa

namespace Go.Proofs.Ytjmiilneennjaaa
open Go.RowKit
set_option maxHeartbeats 2000000
set_option linter.unusedVariables false

def barAt (os : List Int) (k : Nat) : Bool := opAt os k == 10 && !(stk os k).isEmpty
def barUpto (os : List Int) (k : Nat) : Bool := (List.range k).all fun j => !barAt os j
theorem barUpto_s (os : List Int) (k : Nat) : barUpto os (k + 1) = (barUpto os k && !barAt os k) := by simp [barUpto, List.range_succ, List.all_append]
def barFlat (xs : List Cd) : Bool := progValid xs && barUpto (ops xs) xs.length
theorem barFlat_no {xs : List Cd} {k : Nat} (hk : k < xs.length) (h : barAt (ops xs) k = true) : barFlat xs = false := by
  unfold barFlat
  have : barUpto (ops xs) xs.length = false := by
    unfold barUpto
    rw [List.all_eq_false]
    exact ⟨k, List.mem_range.2 hk, by simp [h]⟩
  rw [this, Bool.and_false]
theorem flat_top {os : List Int} {k : Nat} (h : okUpto os k = true) : decide (0 ≤ arnd os k 0) = !(stk os k).isEmpty := by
  rw [arnd_top h]
  unfold topOf
  cases hl : (stk os k).getLast? with
  | none => rw [stk_some hl]; rfl
  | some b =>
    cases hq : stk os k with
    | nil => rw [hq] at hl; cases hl
    | cons a t => simp
theorem progValid_ok {xs : List Cd} (h : progValid xs = true) {k : Nat} (hk : k ≤ xs.length) : okUpto (ops xs) k = true := by
  have := (progValid_yes h).2.2
  unfold balB at this
  rw [Bool.and_eq_true, ops_len] at this
  exact okUpto_le this.1 hk
/-- where the row around a place lies. -/
theorem BlkInv.rowAt {w : World} {os : List Int} {n base R O k : Nat} {P : Nat → Nat} {Rw : Nat → Nat × Nat} {S : Value} (h : BlkInv w os n n n base R O P Rw S) (hk : k < n) :
    w.cell? ⟨R, k, none⟩ = some (.slice (some ⟨(Rw k).1, 0, none⟩) (stk os k).length (Rw k).2) := by
  rw [h.hR.cellAt k (by omega)]
  unfold rowL
  rw [List.getElem?_append_left (by simp; exact hk), List.getElem?_map, List.getElem?_range hk]
  rfl
end Go.Proofs.Ytjmiilneennjaaa

namespace Go.Proofs.Ytjmiilneennjaaa
open Go.RowKit
set_option maxHeartbeats 2000000
set_option linter.unusedVariables false

theorem own_lits (w : World) (zs : List Int) {base B n : Nat} (hb : base ≤ w.heap.size) (hB : B = w.heap.size) (hn : n = zs.length) (hm : n ≤ 1000000) :
    (w.alloc (.cells (ints zs).toArray 3)).ownsRow base 3 1 (.slice (some ⟨B, 0, none⟩) n n) n (ints zs) := by
  subst hB hn
  have := World.ownsRow_lit (w := w) (base := base) (e := 3) (size := 1) (ints zs).toArray zs.length hb (by simp only [maxLen]; omega) (by simp [ints])
  simpa using this
theorem BlkInv.ownAt {w : World} {os : List Int} {n base R O k : Nat} {P : Nat → Nat} {Rw : Nat → Nat × Nat} {S : Value} (h : BlkInv w os n n n base R O P Rw S) (hk : k < n) :
    w.cell? ⟨O, k, none⟩ = some (ownV P os k) := by
  rw [h.hO.cellAt k (by omega)]
  unfold ownL
  rw [List.getElem?_append_left (by simp; exact hk), List.getElem?_map, List.getElem?_range hk]
  rfl
theorem ownV_open {P : Nat → Nat} {os : List Int} {k : Nat} (h : opensB (opAt os k) = true) : ownV P os k = ptrV (P k) := by unfold ownV; rw [if_pos h]
theorem ownV_top {P : Nat → Nat} {os : List Int} {k b : Nat} (h : opAt os k = 12 ∨ opAt os k = 14) (hl : (stk os k).getLast? = some b) : ownV P os k = ptrV (P b) := by
  unfold ownV
  rw [if_neg (by rcases h with h | h <;> rw [h] <;> decide), if_pos h, hl]
theorem topOf_some {os : List Int} {k b : Nat} (hl : (stk os k).getLast? = some b) : topOf os k = b := by unfold topOf; rw [hl]
theorem bal_step {os : List Int} (h : balB os = true) {k : Nat} (hk : k < os.length) : stepOk os k = true := okUpto_step (Bool.and_eq_true_iff.1 h).1 hk
theorem bal_top {os : List Int} (h : balB os = true) {k : Nat} (hk : k < os.length) (hop : opAt os k = 12 ∨ opAt os k = 14) : ∃ b, (stk os k).getLast? = some b := by
  have h1 := bal_step h hk
  cases hl : (stk os k).getLast? with
  | some b => exact ⟨b, rfl⟩
  | none =>
    rcases hop with hop | hop
    · rw [stepOk_else hop] at h1; unfold elseOk at h1; rw [hl] at h1; cases h1
    · rw [stepOk_end hop, stk_some hl] at h1; cases h1
/-- what the call hands back: a new row with these numbers. -/
def RetNums (ss : List Int) (w : World) (e : Ending) (w' : World) : Prop :=
  ∃ g c, e = .returned (.slice (some ⟨g, 0, none⟩) ss.length c) ∧ w'.ownsRow w.heap.size 3 1 (.slice (some ⟨g, 0, none⟩) ss.length c) ss.length (ints ss) ∧ Below w.heap.size w w'
theorem retNums_one (z : Int) (w : World) : RetNums [z] w (.returned (.slice (some ⟨w.heap.size, 0, none⟩) 1 1)) (w.alloc (.cells #[.int .i64 z] 3)) :=
  ⟨w.heap.size, 1, rfl, own_lits w [z] (Nat.le_refl _) rfl rfl (by simp), (Below.refl _ _).alloc (Nat.le_refl _) _⟩
theorem retNums_two (y z : Int) (w : World) : RetNums [y, z] w (.returned (.slice (some ⟨w.heap.size, 0, none⟩) 2 2)) (w.alloc (.cells #[.int .i64 y, .int .i64 z] 3)) :=
  ⟨w.heap.size, 2, rfl, own_lits w [y, z] (Nat.le_refl _) rfl rfl (by simp), (Below.refl _ _).alloc (Nat.le_refl _) _⟩
theorem successors_any (A : Option Addr) (c : Nat) (xs : List Cd) (k : Nat) (w : World) {base R O : Nat} {P : Nat → Nat} {Rw : Nat → Nat × Nat} {S : Value} (hl : xs.length ≤ 1048576) (hk : k < xs.length) (hbal : balB (ops xs) = true) (hs : Sl w A (cflat xs))
    (hI : BlkInv w (ops xs) xs.length xs.length xs.length base R O P Rw S) :
    Calls Try.prog 101 #[.slice A xs.length c, .slice (some ⟨O, 0, none⟩) xs.length xs.length, .int .i64 k] w (RetNums (succs (ops xs) k) w) := by
  have hon : (ops xs).length = xs.length := ops_len xs
  have hat : ∀ k (h : k < xs.length), opAt (ops xs) k = xs[k].op := fun k h => ops_at h
  obtain ⟨os, hos⟩ : ∃ os, os = ops xs := ⟨_, rfl⟩
  rw [← hos] at hon hat hbal hI ⊢
  clear hos
  have HI := mkHid hI
  have HBAL := mkHid hbal
  have hown := hI.ownAt hk
  obtain ⟨b0, off, hA, e0, e1, e2, e3⟩ := hs.cd hk
  have hop := hat k hk
  obtain ⟨op, hope⟩ : ∃ op, op = xs[k].op := ⟨_, rfl⟩
  rw [← hope] at e0 hop
  subst hA
  have HS := mkHid hs
  have HAT := mkHid hat
  have HOP := mkHid hop
  have hopens : opensB op = true → op = 11 ∨ op = 13 := fun h => by unfold opensB at h; rw [Bool.or_eq_true, beq_iff_eq, beq_iff_eq] at h; exact h
  have HOPS := mkHid hopens
  obtain ⟨ss, hss⟩ : ∃ ss, ss = succs os k := ⟨_, rfl⟩
  rw [← hss]
  have HSS := mkHid hss
  unfold succs at hss
  rw [hop] at hss
  clear hI hbal hs hat e1 e2 e3 hope hopens
  have hops : op = 11 ∨ op = 13 ∨ op = 12 ∨ op = 14 ∨ ((op == 11) = false ∧ (op == 13) = false ∧ (op == 12) = false ∧ (op == 14) = false) := by
    simp only [beq_eq_false_iff_ne]; omega
  rcases hops with rfl | rfl | rfl | rfl | ⟨n11, n13, n12, n14⟩
  · rw [ownV_open (by rw [hop]; rfl)] at hown
    obtain ⟨⟨t0, t1, t2⟩, _, _, _⟩ := box3 (HI.out.hP k hk (by rw [hop]; rfl)).2
    have hbe := bal_end HBAL.out (b := k) (by rw [hop]; rfl) (by omega)
    have hbo := oth_bound os k os.length
    rw [if_neg (by decide), if_pos (by rfl)] at hss
    unfold forkTo at hss
    rw [← hon] at t1 t2
    obtain ⟨o, ho⟩ : ∃ o, o = oth os k os.length := ⟨_, rfl⟩
    obtain ⟨en, hen⟩ : ∃ en, en = endOf os k os.length := ⟨_, rfl⟩
    rw [← ho] at hss hbo t1
    rw [← hen] at hss hbe t2
    clear ho hen HSS HAT HS HI HBAL hop
    by_cases h0 : 0 ≤ o
    · rw [if_pos h0] at hss
      by_cases hto : o + 1 = (k : Int) + 1
      · exfalso; omega
      · rw [if_neg hto] at hss
        subst hss
        have hto2 : (o + 1 == (k : Int) + 1) = false := by rw [beq_eq_false_iff_ne]; exact hto
        clear hto
        go_enter Try.func101, Try.ntmps101
        go_wp2_with fail
        go_ret
        exact retNums_two _ _ _
    · rw [if_neg h0] at hss
      by_cases hto : en + 1 = (k : Int) + 1
      · exfalso; omega
      · rw [if_neg hto] at hss
        subst hss
        have hto2 : (en + 1 == (k : Int) + 1) = false := by rw [beq_eq_false_iff_ne]; exact hto
        clear hto
        go_enter Try.func101, Try.ntmps101
        go_wp2_with fail
        go_ret
        exact retNums_two _ _ _
  · rw [ownV_open (by rw [hop]; rfl)] at hown
    obtain ⟨⟨t0, t1, t2⟩, _, _, _⟩ := box3 (HI.out.hP k hk (by rw [hop]; rfl)).2
    have hbe := bal_end HBAL.out (b := k) (by rw [hop]; rfl) (by omega)
    have hno : ¬ 0 ≤ oth os k os.length := fun h => by
      have := oth_if (Bool.and_eq_true_iff.1 HBAL.out).1 h
      rw [hop] at this; exact absurd this (by decide)
    rw [if_neg (by decide), if_pos (by rfl)] at hss
    unfold forkTo at hss
    rw [if_neg hno] at hss
    rw [← hon] at t2
    obtain ⟨en, hen⟩ : ∃ en, en = endOf os k os.length := ⟨_, rfl⟩
    rw [← hen] at hss hbe t2
    clear hen HSS HAT HS HI HBAL hop hno t1
    by_cases hto : en + 1 = (k : Int) + 1
    · exfalso; omega
    · rw [if_neg hto] at hss
      subst hss
      have hto2 : (en + 1 == (k : Int) + 1) = false := by rw [beq_eq_false_iff_ne]; exact hto
      clear hto
      go_enter Try.func101, Try.ntmps101
      go_wp2_with fail
      go_ret
      exact retNums_two _ _ _
  · obtain ⟨b, hlast⟩ := bal_top HBAL.out (k := k) (by omega) (.inl hop)
    have hbk := last_lt hlast
    rw [ownV_top (.inl hop) hlast] at hown
    obtain ⟨⟨t0, t1, t2⟩, _, _, _⟩ := box3 (HI.out.hP b (by omega) hbk.2).2
    have hbe := bal_end HBAL.out (b := b) hbk.2 (by omega)
    rw [if_pos rfl, topOf_some hlast, Int.toNat_natCast] at hss
    rw [← hon] at t2
    obtain ⟨en, hen⟩ : ∃ en, en = endOf os b os.length := ⟨_, rfl⟩
    rw [← hen] at hss hbe t2
    clear hen HSS HAT HS HI HBAL hop t1 hlast
    subst hss
    go_enter Try.func101, Try.ntmps101
    go_wp2_with fail
    go_ret
    exact retNums_one _ _
  · obtain ⟨b, hlast⟩ := bal_top HBAL.out (k := k) (by omega) (.inr hop)
    have hbk := last_lt hlast
    have hbn : b < xs.length := by omega
    rw [ownV_top (.inr hop) hlast] at hown
    obtain ⟨⟨t0, t1, t2⟩, _, _, _⟩ := box3 (HI.out.hP b (by omega) hbk.2).2
    rw [if_neg (by decide), if_neg (by decide), if_pos rfl, topOf_some hlast, Int.toNat_natCast] at hss
    obtain ⟨b1, off1, hA1, f0, _, _, _⟩ := HS.out.cd hbn
    have hbo := HAT.out b hbn
    obtain ⟨zb, hzb⟩ : ∃ zb, zb = xs[b].op := ⟨_, rfl⟩
    rw [← hzb] at hbo f0
    rw [hbo] at hss hbk
    injection hA1 with hA1
    injection hA1 with hA2 hA3
    subst hA2 hA3
    have hz : zb = 11 ∨ zb = 13 := by
      have := hbk.2
      unfold opensB at this
      rw [Bool.or_eq_true, beq_iff_eq, beq_iff_eq] at this
      exact this
    have hbk1 := hbk.1
    clear HSS HAT HS HI HBAL hop t1 t2 hlast hzb hbo hbk
    rcases hz with rfl | rfl
    · rw [if_neg (by decide)] at hss
      subst hss
      go_enter Try.func101, Try.ntmps101
      go_wp2_with fail
      go_ret
      exact retNums_one _ _
    · rw [if_pos rfl] at hss
      subst hss
      go_enter Try.func101, Try.ntmps101
      go_wp2_with fail
      go_ret
      exact retNums_two _ _ _
  · rw [if_neg (by simpa using n12), if_neg (by unfold opensB; rw [n11, n13]; decide), if_neg (by simpa using n14)] at hss
    subst hss
    obtain ⟨ov, hov⟩ : ∃ ov, ov = ownV P os k := ⟨_, rfl⟩
    rw [← hov] at hown
    clear HSS HAT HS HI HBAL hop hov
    go_enter Try.func101, Try.ntmps101
    go_wp2_with fail
    go_ret
    exact retNums_one _ _
end Go.Proofs.Ytjmiilneennjaaa

namespace Go.Proofs.Ytjmiilneennjaaa
open Go.RowKit
set_option maxHeartbeats 400000
set_option linter.unusedVariables false

/-- closure f answers p at the numbers of zs, wherever it is called from w on. -/
def Answers (f : Value) (p : Int → Bool) (zs : List Int) (w : World) : Prop :=
  ∃ id cap, f = .func (.func id) #[] cap ∧ (∀ args w, (callFunc id args).run Try.prog w = .ok (.enter id args) w) ∧ ∀ z ∈ zs, ∀ X : World, Below w.heap.size w X → Calls Try.prog id (#[.int .i64 z] ++ cap) X fun e w' => e = .returned (.bool (p z)) ∧ Below X.heap.size X w'
theorem Answers.below {f : Value} {p : Int → Bool} {zs : List Int} {w w' : World} (h : Answers f p zs w) (hb : Below w.heap.size w w') : Answers f p zs w' := by
  obtain ⟨id, cap, rfl, hr, h⟩ := h
  exact ⟨id, cap, rfl, hr, fun z hz X hX => h z hz X (below_then hb hX)⟩

def RetIdx (p : Int → Bool) (zs : List Int) (w : World) (e : Ending) (w' : World) : Prop :=
  ((∃ i : Nat, ∃ h : i < zs.length, e = .returned (.int .i64 i) ∧ p zs[i] = true) ∨ (e = .returned (.int .i64 (-1)) ∧ ∀ z ∈ zs, p z = false)) ∧ Below w.heap.size w w'
theorem indexFunc_any (A : Option Addr) (c : Nat) (zs : List Int) (f : Value) (p : Int → Bool) (w : World) (hl : zs.length ≤ 9223372036854775807) (hs : Sl w A (ints zs)) (hf : Answers f p zs w) :
    Calls Try.prog 100 #[.slice A zs.length c, f] w (RetIdx p zs w) := by
  obtain ⟨id, cap, rfl, hrun, hf⟩ := hf
  have HF := mkHid hf
  clear hf
  go_enter Try.func100, Try.ntmps100
  go_wp2_with fail
  go_loopw [8] (fun iv wr => ∃ k : Nat, k ≤ zs.length ∧ iv = .int .i64 k ∧ Hid (∀ j (h : j < zs.length), j < k → p zs[j] = false) ∧ Below w.heap.size w wr) (fun iv _ => zs.length - (intOf iv).toNat)
  case atStart => exact ⟨0, by omega, rfl, mkHid (fun j h h' => absurd h' (by omega)), Below.refl _ _⟩
  case round =>
    obtain ⟨k, hk, rfl, HN, hb⟩ := hrel
    have hs' := hs.below hb
    have HB := mkHid hb
    clear hb
    by_cases hlt : k < zs.length
    · obtain ⟨b, off, rfl, hc⟩ := hs'.at_ (k := k) (by simpa using hlt)
      have h1 : wr.cell? ⟨b, off + k, none⟩ = some (.int .i64 zs[k]) := hc k _ (ints_at hlt)
      have HC := mkHid (HF.out zs[k] (List.getElem_mem hlt) wr HB.out)
      clear hc hs hs'
      cases hp : p zs[k] with
      | true =>
        have HP := mkHid hp
        rw [hp] at HC
        clear hp
        go_wp2_with (first | (refine HC.out.mono ?_; rintro e w2 ⟨rfl, hb2⟩; have HB2 := mkHid hb2; clear hb2))
        go_ret
        exact ⟨.inl ⟨k, hlt, rfl, HP.out⟩, below_then HB.out HB2.out⟩
      | false =>
        have HP := mkHid hp
        rw [hp] at HC
        clear hp
        go_wp2_with (first | (refine HC.out.mono ?_; rintro e w2 ⟨rfl, hb2⟩; have HB2 := mkHid hb2; clear hb2))
        go_roundw
        case rel =>
          refine ⟨k + 1, by omega, by go_num, mkHid (fun j h h' => ?_), below_then HB.out HB2.out⟩
          by_cases e : j = k
          · subst e; exact HP.out
          · exact HN.out j h (by omega)
        case measure => simp [intOf]; omega
    · go_wp2_with fail
      go_ret
      refine ⟨.inr ⟨rfl, fun z hz => ?_⟩, HB.out⟩
      obtain ⟨j, hj, rfl⟩ := List.mem_iff_getElem.1 hz
      exact HN.out j hj (by omega)
theorem containsFunc_any (A : Option Addr) (c : Nat) (zs : List Int) (f : Value) (p : Int → Bool) (w : World) (hl : zs.length ≤ 9223372036854775807) (hs : Sl w A (ints zs)) (hf : Answers f p zs w) :
    Calls Try.prog 74 #[.slice A zs.length c, f] w fun e w' => e = .returned (.bool (zs.any p)) ∧ Below w.heap.size w w' := by
  go_enter Try.func74, Try.ntmps74
  go_wp2_with fail
  refine (indexFunc_any _ _ _ _ p _ hl hs hf).mono ?_
  rintro e w1 ⟨⟨i, h, rfl, hp⟩ | ⟨rfl, hn⟩, hb⟩
  · have HB := mkHid hb
    have HP := mkHid hp
    clear hb hp
    go_wp2_with fail
    go_ret
    refine ⟨ret_bool ?_, HB.out⟩
    symm
    rw [List.any_eq_true]
    exact ⟨zs[i], List.getElem_mem h, HP.out⟩
  · have HB := mkHid hb
    have HN := mkHid hn
    clear hb hn
    go_wp2_with fail
    go_ret
    refine ⟨ret_bool ?_, HB.out⟩
    symm
    rw [Bool.eq_false_iff]
    intro h
    rw [List.any_eq_true] at h
    obtain ⟨z, hz, hp⟩ := h
    rw [HN.out z hz] at hp
    cases hp
theorem cloneInts_any (A : Option Addr) (c : Nat) (zs : List Int) (w : World) (hl : zs.length ≤ 1000000000000) (hs : Sl w A (ints zs)) :
    Calls Try.prog 60 #[.slice A zs.length c] w (RetInts zs w) := by
  have q : ∀ (w : World) (a : Option Addr) (n c n' c' : Nat), (binOp .eql 23 (.slice a n c) (.slice none n' c')).run Try.prog w = .ok (.bool a.isNone) w := fun w a n c n' c' => Lib.run_eql_slice_nil w _ _ a n c n' c' Try.underlying23
  cases A with
  | none =>
    obtain rfl : zs = [] := by
      rcases hs with h | ⟨b, off, h, _⟩
      · simpa using h
      · cases h
    go_enter Try.func60, Try.ntmps60
    go_wp2_with fail
    go_ret
    exact ⟨none, 0, rfl, World.ownsRow_nil _ _ _ _, Below.refl _ _⟩
  | some ad =>
    have hs1 := hs.alloc (.cells #[] 3)
    have hnews : ∀ j u, (ints zs)[j]? = some u → (w.alloc (.cells #[] 3)).cell? (ad.add j) = some u := by
      intro j u hu
      rcases hs1 with h | ⟨b, off, h, hc⟩
      · rw [h] at hu; simp at hu
      · injection h with h
        subst h
        rw [add_flat]
        exact hc j u hu
    have HN := mkHid hnews
    clear hs1 hnews hs
    have hz : 0 + zs.length = zs.length := Nat.zero_add _
    go_enter Try.func60, Try.ntmps60
    go_wp2_with (at_builtin; refine wpList_app Ei (own_empty w _ _) HN.out (by simp [ints]) (ints_one zs) (by omega) (by omega) (by simp) rfl rfl rfl rfl ?_; intro A' c' w1 hown1 hg1; rw [hz] at hown1; have HO1 := mkHid hown1; have HG1 := mkHid hg1; clear hown1 hg1)
    go_ret
    refine ⟨A', c', rfl, HO1.out, ((Below.refl _ _).alloc (Nat.le_refl _) _).grown HG1.out (by simp) (fun g hg => by simp [Value.ownBlock] at hg; omega)⟩
end Go.Proofs.Ytjmiilneennjaaa

namespace Go.Proofs.Ytjmiilneennjaaa
open Go.RowKit
set_option maxHeartbeats 2000000
set_option linter.unusedVariables false

def memValid (zs : List Int) : Bool := inB zs.length 1 32 && zs.all fun z => inB z 0 255
theorem mem_any_not_all (os : List Int) (p : Int → Bool) : os.any (fun z => !p z) = !os.all p := by
  induction os with
  | nil => rfl
  | cons z os ih => simp [List.any_cons, List.all_cons, ih, Bool.not_and]
theorem memWord_any (z : Int) (w : World) : Calls Try.prog 76 #[.int .i64 z] w fun e w' => e = .returned (.bool (inB z 0 255)) ∧ w = w' := by
  go_enter Try.func76, Try.ntmps76
  go_wp2_with (go_at_call 59; refine (within_any _ _ _ _).mono ?_; rintro e w' ⟨rfl, rfl⟩)
  go_ret
  exact ⟨rfl, rfl⟩
theorem notWord_any (z : Int) (w : World) : Calls Try.prog 79 #[.int .i64 z] w fun e w' => e = .returned (.bool (!inB z 0 255)) ∧ w = w' := by
  go_enter Try.func79, Try.ntmps79
  go_wp2_with (go_at_call 76; refine (memWord_any _ _).mono ?_; rintro e w' ⟨rfl, rfl⟩)
  go_ret
  exact ⟨rfl, rfl⟩
theorem implMemoryValid_any (A : Option Addr) (c : Nat) (zs : List Int) (w : World) (hn : zs.length ≤ 1000000000) (hs : Sl w A (ints zs)) :
    Calls Try.prog 36 #[.slice A zs.length c] w fun e w' => e = .returned (.bool (memValid zs)) ∧ Below w.heap.size w w' := by
  have hA : Answers (.func (.func 79) #[] #[]) (fun z => !inB z 0 255) zs w :=
    ⟨79, #[], rfl, fun args w => by kernel_rfl, fun z _ X hX => (notWord_any z X).mono fun e w' ⟨he, hw⟩ => ⟨he, hw ▸ Below.refl _ _⟩⟩
  have hF := containsFunc_any A c zs _ _ _ (by omega) hs hA
  rw [mem_any_not_all] at hF
  obtain ⟨b, hb⟩ : ∃ b, b = zs.all (fun z => inB z 0 255) := ⟨_, rfl⟩
  rw [← hb] at hF
  have hW := within_any (zs.length : Int) 1 32 w
  cases hi : inB (zs.length : Int) 1 32
  all_goals (
    rw [hi] at hW
    have HV : Hid (memValid zs = (inB (zs.length : Int) 1 32 && b)) := mkHid (by unfold memValid; rw [hb])
    have HF := mkHid hF
    have HW := mkHid hW
    have HI := mkHid hi
    clear hF hW hi hb hA
    go_enter Try.func36, Try.ntmps36
    go_wp2_with fail
    refine HW.out.mono ?_
    rintro e w' ⟨rfl, rfl⟩
    go_wp2_with fail)
  · go_ret
    exact ⟨ret_bool (by rw [HV.out, HI.out]; rfl), Below.refl _ _⟩
  · refine HF.out.mono ?_
    rintro e w2 ⟨rfl, b2⟩
    have B2 := mkHid b2
    clear b2
    go_wp2_with fail
    go_ret
    exact ⟨ret_bool (by rw [HV.out, HI.out]; simp), B2.out⟩
theorem memWord2_any (z : Int) (w : World) : Calls Try.prog 81 #[.int .i64 z] w fun e w' => e = .returned (.bool (inB z 0 255)) ∧ w = w' := by
  go_enter Try.func81, Try.ntmps81
  go_wp2_with (go_at_call 41; refine (l1In_any _ _ _ _).mono ?_; rintro e w' ⟨rfl, rfl⟩)
  go_ret
  exact ⟨rfl, rfl⟩
theorem specMemoryValid_any (A : Option Addr) (c : Nat) (zs : List Int) (w : World) (hn : zs.length ≤ 1000000000) (hs : Sl w A (ints zs)) :
    Calls Try.prog 42 #[.slice A zs.length c] w fun e w' => e = .returned (.bool (memValid zs)) ∧ w = w' := by
  have HW := mkHid (l1In_any (zs.length : Int) 1 32 w)
  go_enter Try.func42, Try.ntmps42
  go_wp2_with fail
  go_loop [3] (fun i => ∃ k : Nat, k ≤ zs.length ∧ i = .int .i64 k ∧ Hid ((zs.take k).all (fun z => inB z 0 255) = true)) (fun i => zs.length - (intOf i).toNat)
  case atStart => exact ⟨0, by omega, rfl, mkHid rfl⟩
  case round =>
    obtain ⟨k, hk, rfl, HH⟩ := hrel
    by_cases hlt : k < zs.length
    · obtain ⟨b, off, rfl, hc⟩ := hs.at_ (k := k) (by simpa using hlt)
      have h1 : w.cell? ⟨b, off + k, none⟩ = some (.int .i64 zs[k]) := hc k _ (ints_at hlt)
      have HT := mkHid (List.take_succ_eq_append_getElem hlt)
      have hm := List.getElem_mem hlt
      have hM := memWord2_any zs[k] w
      obtain ⟨z, hz⟩ : ∃ z, z = zs[k] := ⟨_, rfl⟩
      rw [← hz] at h1 HT hm hM
      have HMM := mkHid hm
      cases hv : inB z 0 255
      all_goals (
        rw [hv] at hM
        have HV := mkHid hv
        have HM := mkHid hM
        clear hM hv hm hz hc
        go_wp2_with fail
        refine HM.out.mono ?_
        rintro e w' ⟨rfl, rfl⟩
        go_wp2_with fail)
      · go_ret
        refine ⟨ret_bool ?_, rfl⟩
        unfold memValid
        have : zs.all (fun z => inB z 0 255) = false := by rw [List.all_eq_false]; exact ⟨z, HMM.out, by rw [HV.out]; simp⟩
        rw [this, Bool.and_false]
      · go_round
        case rel => exact ⟨k + 1, by omega, by go_num, mkHid (by rw [HT.out, List.all_append, HH.out]; simp [HV.out])⟩
        case measure => simp [intOf] <;> omega
    · have hf : zs.all (fun z => inB z 0 255) = true := by have := HH.out; rwa [List.take_of_length_le (by omega)] at this
      have HF := mkHid hf
      clear hf
      go_wp2_with fail
      refine HW.out.mono ?_
      rintro e w' ⟨rfl, rfl⟩
      go_wp2_with fail
      go_ret
      exact ⟨ret_bool (by unfold memValid; rw [HF.out, Bool.and_true]), rfl⟩
end Go.Proofs.Ytjmiilneennjaaa
