/-
  Contracts of CodeWrites, of the program and of the reference, and of the program's hasLane and StoresPrivate.
-/
import Derived.Test.YtjgemgjpbanliaaCBar
namespace Go.Proofs.Ytjgemgjpbanliaa
open Go.RowKit
set_option maxHeartbeats 2000000
set_option linter.unusedVariables false

/-- the register that a valid instruction writes, or -1. -/
def wr (x : Cd) : Int := if 1 ≤ x.op ∧ x.op ≤ 8 then x.a else -1
theorem regs_one {op : Int} (h : 1 ≤ op ∧ op ≤ 9) : 1 ≤ regs op := by
  have : op = 1 ∨ op = 2 ∨ op = 3 ∨ op = 4 ∨ op = 5 ∨ op = 6 ∨ op = 7 ∨ op = 8 ∨ op = 9 := by omega
  rcases this with rfl | rfl | rfl | rfl | rfl | rfl | rfl | rfl | rfl <;> decide
theorem valid_a {x : Cd} (hv : codeValid x = true) (h : 1 ≤ x.op ∧ x.op ≤ 9) : 0 ≤ x.a ∧ x.a ≤ 3 := by
  unfold codeValid at hv
  simp only [Bool.and_eq_true] at hv
  have h0 := hv.1.1.1
  unfold numOk at h0
  rw [if_pos (by have := regs_one h; omega)] at h0
  exact inB_t h0
theorem valid_store {x : Cd} (hv : codeValid x = true) (h : x.op = 9) : 0 ≤ x.b ∧ x.b ≤ 3 := by
  unfold codeValid at hv
  simp only [Bool.and_eq_true] at hv
  have h0 := hv.1.1.2
  unfold numOk at h0
  rw [h, if_pos (by decide)] at h0
  exact inB_t h0
theorem wr_bound {x : Cd} (hv : codeValid x = true) : wr x = -1 ∨ (0 ≤ wr x ∧ wr x ≤ 3) := by
  unfold wr
  split
  · rename_i h; exact .inr (valid_a hv ⟨h.1, by omega⟩)
  · exact .inl rfl
theorem valid_op {x : Cd} (hv : codeValid x = true) : 1 ≤ x.op ∧ x.op ≤ 14 := by
  unfold codeValid at hv
  simp only [Bool.and_eq_true] at hv
  exact inB_t hv.2
theorem below_new3 {w w' : World} (o : Obj) (h : Below (w.alloc o).heap.size (w.alloc o) w') : w'.heap[w.heap.size]? = some o := by
  rw [h.block w.heap.size (by simp)]
  exact heap_alloc_new w o
theorem implCodeWrites_any (x : Cd) (w : World) (hv : codeValid x = true) : Calls Try.prog 53 #[cdV x] w fun e w' => e = .returned (.int .i64 (wr x)) ∧ Below w.heap.size w w' := by
  have h' := valid_op hv
  have hC := implCodeValid_any x (w.alloc (.cells #[.int .i64 x.op, .int .i64 x.a, .int .i64 x.b, .int .i64 x.c] 44))
  rw [hv] at hC
  have HC := mkHid hC
  have HB : Hid (Below w.heap.size w (w.alloc (.cells #[.int .i64 x.op, .int .i64 x.a, .int .i64 x.b, .int .i64 x.c] 44))) := mkHid ((Below.refl _ _).alloc (Nat.le_refl _) _)
  clear hC hv
  obtain ⟨op, a, b, c⟩ := x
  simp only at h'
  have h : op = 1 ∨ op = 2 ∨ op = 3 ∨ op = 4 ∨ op = 5 ∨ op = 6 ∨ op = 7 ∨ op = 8 ∨ op = 9 ∨ op = 10 ∨ op = 11 ∨ op = 12 ∨ op = 13 ∨ op = 14 := by omega
  clear h'
  rcases h with rfl | rfl | rfl | rfl | rfl | rfl | rfl | rfl | rfl | rfl | rfl | rfl | rfl | rfl
  all_goals (
    go_enter Try.func53, Try.ntmps53
    go_wp2_with fail
    refine HC.out.mono ?_
    rintro e w2 ⟨rfl, b2⟩
    have hc0 := (box4c (below_new3 _ b2)).1.1
    have hc1 := (box4c (below_new3 _ b2)).1.2.1
    have B2 := mkHid (below_then HB.out b2)
    clear b2
    go_wp2_with fail
    go_ret
    exact ⟨ret_int (by simp [wr]), B2.out⟩)
theorem specCodeWrites_any (x : Cd) (w : World) (hv : codeValid x = true) : Calls Try.prog 35 #[cdV x] w fun e w' => e = .returned (.int .i64 (wr x)) ∧ Below w.heap.size w w' := by
  have h' := valid_op hv
  have hC := specCodeValid_any x (w.alloc (.cells #[.int .i64 x.op, .int .i64 x.a, .int .i64 x.b, .int .i64 x.c] 44))
  rw [hv] at hC
  have HC := mkHid hC
  have HB : Hid (Below w.heap.size w (w.alloc (.cells #[.int .i64 x.op, .int .i64 x.a, .int .i64 x.b, .int .i64 x.c] 44))) := mkHid ((Below.refl _ _).alloc (Nat.le_refl _) _)
  clear hC hv
  obtain ⟨op, a, b, c⟩ := x
  simp only at h'
  obtain ⟨v, hv⟩ : ∃ v, v = inB op 1 8 := ⟨_, rfl⟩
  have hI := fun w => l1In_any op 1 8 w
  rw [← hv] at hI
  have HI := mkHid hI
  have HV := mkHid hv
  clear hI hv
  go_enter Try.func35, Try.ntmps35
  go_wp2_with fail
  refine HC.out.mono ?_
  rintro e w2 ⟨rfl, b2⟩
  have hc0 := (box4c (below_new3 _ b2)).1.1
  have hc1 := (box4c (below_new3 _ b2)).1.2.1
  have B2 := mkHid (below_then HB.out b2)
  clear b2
  go_wp2_with fail
  refine (HI.out _).mono ?_
  rintro e w3 ⟨rfl, rfl⟩
  cases v with
  | false =>
    go_wp2_with fail
    go_ret
    exact ⟨ret_int (by unfold wr; rw [if_neg (fun h => by have := HV.out; have h1 : 1 ≤ op := h.1; have h2 : op ≤ 8 := h.2; unfold inB at this; simp at this; omega)]), B2.out⟩
  | true =>
    go_wp2_with fail
    go_ret
    exact ⟨ret_int (by unfold wr; rw [if_pos (inB_t HV.out.symm)]), B2.out⟩
/-! ### which register has the number of the lane -/
def wrAt (xs : List Cd) (k : Nat) : Int := match xs[k]? with
  | some x => wr x
  | none => -1
theorem wrAt_at {xs : List Cd} {k : Nat} (h : k < xs.length) : wrAt xs k = wr xs[k] := by
  unfold wrAt
  rw [List.getElem?_eq_getElem h]
def laneAt (xs : List Cd) (k : Nat) : Bool := opAt (ops xs) k == 2 && (stk (ops xs) k).isEmpty
def hasL (xs : List Cd) (r : Int) : Nat → Bool
  | 0 => false
  | k + 1 => if wrAt xs k = r then laneAt xs k else hasL xs r k
theorem hasLane_any (A : Option Addr) (c : Nat) (xs : List Cd) (at_ : Nat) (r : Int) (w : World) {base R O : Nat} {P : Nat → Nat} {Rw : Nat → Nat × Nat} {S : Value} (hat : at_ ≤ xs.length) (hl : xs.length ≤ 1048576) (hv : ∀ x ∈ xs, codeValid x = true) (hs : Sl w A (cflat xs))
    (hI : BlkInv w (ops xs) xs.length xs.length xs.length base R O P Rw S) :
    Calls Try.prog 36 #[.slice A xs.length c, .slice (some ⟨R, 0, none⟩) xs.length xs.length, .int .i64 at_, .int .i64 r] w fun e w' => e = .returned (.bool (hasL xs r at_)) ∧ Below w.heap.size w w' := by
  have HAT := mkHid (show ∀ k (h : k < xs.length), opAt (ops xs) k = xs[k].op from fun k h => ops_at h)
  have HWA := mkHid (show ∀ k (h : k < xs.length), wrAt xs k = wr xs[k] from fun k h => wrAt_at h)
  have HVA := mkHid hv
  have HS0 := mkHid hs
  have HI := mkHid hI
  clear hs hI hv
  go_enter Try.func36, Try.ntmps36
  go_wp2_with fail
  go_loopw [9] (fun i wr => ∃ k : Nat, k ≤ at_ ∧ i = .int .i64 ((k : Int) - 1) ∧ Hid (hasL xs r k = hasL xs r at_) ∧ Below w.heap.size w wr) (fun i _ => (intOf i + 1).toNat)
  case atStart => exact ⟨at_, by omega, rfl, mkHid rfl, Below.refl _ _⟩
  case round =>
    obtain ⟨k, hk, rfl, HR, hb⟩ := hrel
    have HB := mkHid hb
    cases k with
    | zero =>
      clear hb
      go_wp2_with fail
      go_ret
      exact ⟨ret_bool (by rw [← HR.out]; rfl), HB.out⟩
    | succ k =>
      have hlt : k < xs.length := by omega
      obtain ⟨b0, off, hA, e0, e1, e2, e3⟩ := (HS0.out.below hb).cd hlt
      have hop := HAT.out k hlt
      have hwa := HWA.out k hlt
      have hval := HVA.out xs[k] (List.getElem_mem hlt)
      obtain ⟨x, hx⟩ : ∃ x, x = xs[k] := ⟨_, rfl⟩
      rw [← hx] at e0 e1 e2 e3 hop hwa hval
      have hC := implCodeWrites_any x wr hval
      obtain ⟨v, hv⟩ : ∃ v, v = Go.Proofs.Ytjgemgjpbanliaa.wr x := ⟨_, rfl⟩
      rw [← hv] at hC hwa
      obtain ⟨op, xa, xb, xc⟩ := x
      simp only at e0 e1 e2 e3 hop hC
      have hkk : ((k + 1 : Nat) : Int) - 1 = (k : Int) := by omega
      rw [hkk]
      have HOP := mkHid hop
      have HWK := mkHid hwa
      have HC := mkHid hC
      subst hA
      have HE := mkHid (show ∀ X, Below wr.heap.size wr X → X.cell? ⟨b0, off + k * 4, none⟩ = some (.int .i64 op) from fun X hX => Ext.keeps ⟨X, hX⟩ e0)
      clear hx hb hkk hC hop hwa hval hv
      go_wp2_with fail
      refine HC.out.mono ?_
      rintro e w2 ⟨rfl, b2⟩
      have HB2 := mkHid (HB.out.trans (b2.mono HB.out.size))
      have e0 := HE.out w2 b2
      have r0 := (HI.out.below HB2.out).rowAt hlt
      clear b2 e1 e2 e3 HE HC
      by_cases hvr : v = r
      · subst hvr
        obtain ⟨L, hL⟩ : ∃ L, L = (stk (ops xs) k).length := ⟨_, rfl⟩
        have HL := mkHid (show (stk (ops xs) k).isEmpty = decide (L = 0) from by
          rw [hL]
          cases stk (ops xs) k with
          | nil => rfl
          | cons a t => simp)
        rw [← hL] at r0
        clear hL
        have HRR := mkHid (show hasL xs v at_ = (op == 2 && decide (L = 0)) from by
          rw [← HR.out, hasL, if_pos HWK.out, laneAt, HL.out, HOP.out])
        by_cases h2 : op = 2
        · subst h2
          by_cases h0 : L = 0
          · subst h0
            go_wp2_with fail
            go_ret
            exact ⟨ret_bool HRR.out.symm, HB2.out⟩
          · have h0' : ((L : Int) == 0) = false := by rw [beq_eq_false_iff_ne]; omega
            have H0 := mkHid h0
            clear h0
            go_wp2_with fail
            go_ret
            exact ⟨ret_bool (by rw [HRR.out, decide_eq_false H0.out]; rfl), HB2.out⟩
        · have n2 : (op == 2) = false := by simpa using h2
          have HN := mkHid n2
          clear h2
          go_wp2_with fail
          go_ret
          exact ⟨ret_bool (by rw [HRR.out, HN.out]; rfl), HB2.out⟩
      · have hvb : (v == r) = false := by simpa using hvr
        have HVR := mkHid hvr
        clear hvr
        go_wp2_with fail
        go_roundw
        case rel => exact ⟨k, by omega, by congr 1, mkHid (by rw [← HR.out, hasL, if_neg (by rw [HWK.out]; exact HVR.out)]), HB2.out⟩
        case measure => simp [intOf] <;> omega
def badAt (xs : List Cd) (k : Nat) : Bool := match xs[k]? with
  | none => false
  | some x => x.op == 8 || (x.op == 9 && (!(stk (ops xs) k).isEmpty || !hasL xs x.b k))
theorem badAt_at {xs : List Cd} {k : Nat} (h : k < xs.length) : badAt xs k = (xs[k].op == 8 || (xs[k].op == 9 && (!(stk (ops xs) k).isEmpty || !hasL xs xs[k].b k))) := by
  unfold badAt
  rw [List.getElem?_eq_getElem h]
def privUpto (xs : List Cd) (k : Nat) : Bool := (List.range k).all fun j => !badAt xs j
theorem privUpto_s (xs : List Cd) (k : Nat) : privUpto xs (k + 1) = (privUpto xs k && !badAt xs k) := by simp [privUpto, List.range_succ, List.all_append]
def storesPriv (xs : List Cd) : Bool := progValid xs && privUpto xs xs.length
theorem storesPriv_no {xs : List Cd} {k : Nat} (hk : k < xs.length) (h : badAt xs k = true) : storesPriv xs = false := by
  unfold storesPriv
  have : privUpto xs xs.length = false := by
    unfold privUpto
    rw [List.all_eq_false]
    exact ⟨k, List.mem_range.2 hk, by simp [h]⟩
  rw [this, Bool.and_false]
theorem implStoresPrivate_any (A : Option Addr) (c : Nat) (xs : List Cd) (w : World) (hl : xs.length ≤ 1048576) (hs : Sl w A (cflat xs)) :
    Calls Try.prog 15 #[.slice A xs.length c] w fun e w' => e = .returned (.bool (storesPriv xs)) ∧ Below w.heap.size w w' := by
  have hV := implProgramValid_any A c xs w hl hs
  obtain ⟨v, hv⟩ : ∃ v, v = progValid xs := ⟨_, rfl⟩
  rw [← hv] at hV
  have HPV := mkHid hV
  have HVV := mkHid hv
  have HS0 := mkHid hs
  clear hs hV hv
  go_enter Try.func15, Try.ntmps15
  go_wp2_with fail
  refine HPV.out.mono ?_
  rintro e w1 ⟨rfl, b1⟩
  have HB1 := mkHid b1
  clear b1
  cases v with
  | false =>
    go_wp2_with fail
    go_ret
    exact ⟨ret_bool (by unfold storesPriv; rw [← HVV.out]; rfl), HB1.out⟩
  | true =>
    have h40 := (progValid_yes HVV.out.symm).1
    have HVC := mkHid (progValid_yes HVV.out.symm).2.1
    have HBAL := mkHid (progValid_yes HVV.out.symm).2.2
    have HBL := mkHid (blocks_any A c xs w1 (by omega) (HS0.out.below HB1.out))
    go_wp2_with fail
    refine HBL.out.mono ?_
    rintro e w2 ⟨Av, Ov, rfl, b2, hbr⟩
    obtain ⟨R, O, P, Rw, S, rfl, rfl, hI⟩ := hbr HBAL.out
    have HB2 := mkHid (below_then HB1.out b2)
    have HI := mkHid hI
    have HBAD := mkHid (show ∀ k (h : k < xs.length), badAt xs k = _ from fun k h => badAt_at h)
    have HF := mkHid (show ∀ k, k < xs.length → badAt xs k = true → storesPriv xs = false from fun k hk h => storesPriv_no hk h)
    have HFL := mkHid (show storesPriv xs = privUpto xs xs.length from by unfold storesPriv; rw [← HVV.out, Bool.true_and])
    rw [HBAL.out]
    clear b2 hbr hI HBL HBAL HPV HB1 HVV
    go_wp2_with fail
    go_loopw [19] (fun i wr => ∃ k : Nat, k ≤ xs.length ∧ i = .int .i64 k ∧ Hid (privUpto xs k = true) ∧ Below w2.heap.size w2 wr) (fun i _ => xs.length - (intOf i).toNat)
    case atStart => exact ⟨0, by omega, rfl, mkHid rfl, Below.refl _ _⟩
    case round =>
      obtain ⟨k, hk, rfl, HU, hb⟩ := hrel
      have HB := mkHid (below_then HB2.out hb)
      have HBR := mkHid hb
      by_cases hlt : k < xs.length
      · obtain ⟨b0, off, hA, e0, e1, e2, e3⟩ := (HS0.out.below HB.out).cd hlt
        have hbad := HBAD.out k hlt
        obtain ⟨x, hx⟩ : ∃ x, x = xs[k] := ⟨_, rfl⟩
        rw [← hx] at e0 e1 e2 e3 hbad
        obtain ⟨op, xa, xb, xc⟩ := x
        simp only at e0 e1 e2 e3 hbad
        subst hA
        have hal : Below wr.heap.size wr (wr.alloc (.cells #[.int .i64 op, .int .i64 xa, .int .i64 xb, .int .i64 xc] 44)) := (Below.refl _ _).alloc (Nat.le_refl _) _
        have r0 := (HI.out.below (below_then hb hal)).rowAt hlt
        have HB3 := mkHid (below_then HBR.out hal)
        have hC := hasLane_any (some ⟨b0, off, none⟩) c xs k xb (wr.alloc (.cells #[.int .i64 op, .int .i64 xa, .int .i64 xb, .int .i64 xc] 44)) (by omega) hl HVC.out (HS0.out.below (below_then HB2.out HB3.out)) (HI.out.below (below_then hb hal))
        obtain ⟨hh, hhe⟩ : ∃ hh, hh = hasL xs xb k := ⟨_, rfl⟩
        rw [← hhe] at hC hbad
        have HC := mkHid hC
        have hsz := HB.out.size
        obtain ⟨L, hL⟩ : ∃ L, L = (stk (ops xs) k).length := ⟨_, rfl⟩
        have hle : (stk (ops xs) k).isEmpty = decide (L = 0) := by
          rw [hL]
          cases stk (ops xs) k with
          | nil => rfl
          | cons a t => simp
        rw [hle] at hbad
        rw [← hL] at r0
        have HBD := mkHid hbad
        clear hL hle hx hb hal hC hbad hhe
        by_cases h8 : op = 8
        · subst h8
          have HR := mkHid (HF.out k hlt (by rw [HBD.out]; rfl))
          go_wp2_with fail
          go_ret
          exact ⟨ret_bool HR.out.symm, below_then HB2.out HB3.out⟩
        · have n8 : (op == 8) = false := by simpa using h8
          have H8 := mkHid n8
          clear h8
          by_cases h9 : op = 9
          · subst h9
            by_cases h0 : 0 < L
            · have HR := mkHid (HF.out k hlt (by rw [HBD.out, decide_eq_false (by omega)]; rfl))
              go_wp2_with fail
              go_ret
              exact ⟨ret_bool HR.out.symm, below_then HB2.out HB3.out⟩
            · go_wp2_with fail
              refine HC.out.mono ?_
              rintro e w3 ⟨rfl, b3⟩
              have HB4 := mkHid (below_then HB3.out b3)
              clear b3
              cases hh with
              | false =>
                have HR := mkHid (HF.out k hlt (by rw [HBD.out, decide_eq_true (by omega)]; rfl))
                go_wp2_with fail
                go_ret
                exact ⟨ret_bool HR.out.symm, below_then HB2.out HB4.out⟩
              | true =>
                go_wp2_with fail
                go_roundw
                case rel => exact ⟨k + 1, by omega, by go_num, mkHid (by rw [privUpto_s, HU.out, HBD.out, decide_eq_true (by omega)]; rfl), HB4.out⟩
                case measure => simp [intOf] <;> omega
          · have n9 : (op == 9) = false := by simpa using h9
            have H9 := mkHid n9
            clear h9
            go_wp2_with fail
            go_roundw
            case rel => exact ⟨k + 1, by omega, by go_num, mkHid (by rw [privUpto_s, HU.out, HBD.out, H8.out, H9.out]; rfl), HB3.out⟩
            case measure => simp [intOf] <;> omega
      · have hke : k = xs.length := by omega
        clear hb
        have HUU := mkHid (show privUpto xs xs.length = true from by rw [← hke]; exact HU.out)
        go_wp2_with fail
        go_ret
        exact ⟨ret_bool (by rw [HFL.out, HUU.out]), HB.out⟩
end Go.Proofs.Ytjgemgjpbanliaa
