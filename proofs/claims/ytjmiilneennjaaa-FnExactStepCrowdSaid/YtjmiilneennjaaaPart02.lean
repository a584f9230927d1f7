/-
  Parts of a proof: CCode.
-/
import Derived.Test.YtjmiilneennjaaaRows
import Derived.Test.YtjmiilneennjaaaPart01
namespace Go.Proofs.Ytjmiilneennjaaa
open Go.RowKit
set_option maxHeartbeats 1000000
set_option linter.unusedVariables false

structure Cd where
  op : Int
  a : Int
  b : Int
  c : Int
  deriving DecidableEq

abbrev cdV (x : Cd) : Value := .agg #[.int .i64 x.op, .int .i64 x.a, .int .i64 x.b, .int .i64 x.c]
/-- how many numbers of an operation are registers. -/
def regs (op : Int) : Int :=
  if op = 1 ∨ op = 2 ∨ op = 11 ∨ op = 13 then 1 else if op = 3 ∨ op = 4 ∨ op = 5 ∨ op = 8 ∨ op = 9 then 2 else if op = 6 ∨ op = 7 then 3 else 0
def numOk (op : Int) (i : Nat) (n : Int) : Bool :=
  if (i : Int) < regs op then inB n 0 3 else if i = 1 ∧ op = 1 then inB n 0 255 else if i = 1 ∧ op = 13 then inB n 1 4 else n == 0
def codeValid (x : Cd) : Bool := numOk x.op 0 x.a && numOk x.op 1 x.b && numOk x.op 2 x.c && inB x.op 1 14
theorem op_cases (op : Int) : op = 1 ∨ op = 2 ∨ op = 3 ∨ op = 4 ∨ op = 5 ∨ op = 6 ∨ op = 7 ∨ op = 8 ∨ op = 9 ∨ op = 10 ∨ op = 11 ∨ op = 12 ∨ op = 13 ∨ op = 14 ∨ (op < 1 ∨ 14 < op) := by omega
def opOut (op : Int) : Prop := (op == 1) = false ∧ (op == 2) = false ∧ (op == 3) = false ∧ (op == 4) = false ∧ (op == 5) = false ∧ (op == 6) = false ∧ (op == 7) = false ∧ (op == 8) = false ∧ (op == 9) = false ∧ (op == 10) = false ∧ (op == 11) = false ∧ (op == 12) = false ∧ (op == 13) = false ∧ (op == 14) = false
theorem op_out {op : Int} (h : op < 1 ∨ 14 < op) : opOut op := by
  unfold opOut
  simp only [beq_eq_false_iff_ne]
  omega
theorem regs_out {op : Int} (h : op < 1 ∨ 14 < op) : regs op = 0 := by
  unfold regs
  rw [if_neg (by omega), if_neg (by omega), if_neg (by omega)]
theorem valid_out {x : Cd} (h : x.op < 1 ∨ 14 < x.op) : codeValid x = false := by
  unfold codeValid
  rw [inB_not h, Bool.and_false]
theorem regs_le (op : Int) : 0 ≤ regs op ∧ regs op ≤ 3 := by unfold regs; repeat' split <;> omega
def costOf (op : Int) : Int := if op = 4 then 2 else if op = 8 ∨ op = 9 then 4 else if op = 12 ∨ op = 14 then 0 else 1
def cost (x : Cd) : Int := if codeValid x then costOf x.op else -1

theorem registers_any (op : Int) (w : World) : Calls Try.prog 102 #[.int .i64 op] w fun e w' => e = .returned (.int .i64 (regs op)) ∧ w = w' := by
  by_cases h : op < 1 ∨ 14 < op
  case' pos =>
    rw [regs_out h]
    obtain ⟨h1, h2, h3, h4, h5, h6, h7, h8, h9, h10, h11, h12, h13, h14⟩ := op_out h
    clear h
  case' neg =>
    have h' : op = 1 ∨ op = 2 ∨ op = 3 ∨ op = 4 ∨ op = 5 ∨ op = 6 ∨ op = 7 ∨ op = 8 ∨ op = 9 ∨ op = 10 ∨ op = 11 ∨ op = 12 ∨ op = 13 ∨ op = 14 := by omega
    clear h
    rcases h' with rfl | rfl | rfl | rfl | rfl | rfl | rfl | rfl | rfl | rfl | rfl | rfl | rfl | rfl
  all_goals (
    go_enter Try.func102, Try.ntmps102
    go_wp2_with fail
    go_ret
    exact ⟨rfl, rfl⟩)
theorem isReg_any (a : Int) (w : World) : Calls Try.prog 103 #[.int .i64 a] w fun e w' => e = .returned (.bool (inB a 0 3)) ∧ w = w' := by
  go_enter Try.func103, Try.ntmps103
  go_wp2_with (go_at_call 59; refine (within_any _ _ _ _).mono ?_; rintro e w' ⟨rfl, rfl⟩)
  go_ret
  exact ⟨rfl, rfl⟩
theorem isWord_any (a : Int) (w : World) : Calls Try.prog 76 #[.int .i64 a] w fun e w' => e = .returned (.bool (inB a 0 255)) ∧ w = w' := by
  go_enter Try.func76, Try.ntmps76
  go_wp2_with (go_at_call 59; refine (within_any _ _ _ _).mono ?_; rintro e w' ⟨rfl, rfl⟩)
  go_ret
  exact ⟨rfl, rfl⟩
theorem l2Word_any (a : Int) (w : World) : Calls Try.prog 81 #[.int .i64 a] w fun e w' => e = .returned (.bool (inB a 0 255)) ∧ w = w' := by
  go_enter Try.func81, Try.ntmps81
  go_wp2_with (go_at_call 41; refine (l1In_any _ _ _ _).mono ?_; rintro e w' ⟨rfl, rfl⟩)
  go_ret
  exact ⟨rfl, rfl⟩
def cdNum (x : Cd) : Nat → Int
  | 0 => x.a
  | 1 => x.b
  | _ => x.c
def cdUpto (x : Cd) (k : Nat) : Bool := (List.range k).all fun i => numOk x.op i (cdNum x i)
theorem cdUpto_succ (x : Cd) (k : Nat) : cdUpto x (k + 1) = (cdUpto x k && numOk x.op k (cdNum x k)) := by simp [cdUpto, List.range_succ, List.all_append]
theorem cdUpto_three (x : Cd) : codeValid x = (cdUpto x 3 && inB x.op 1 14) := by
  simp [codeValid, cdUpto, List.range_succ, cdNum, Bool.and_assoc]
theorem cdUpto_fail {x : Cd} {k : Nat} (hk : k < 3) (h : numOk x.op k (cdNum x k) = false) : codeValid x = false := by
  rw [cdUpto_three]
  have : cdUpto x 3 = false := by
    unfold cdUpto
    rw [List.all_eq_false]
    exact ⟨k, List.mem_range.2 hk, by simp [h]⟩
  rw [this, Bool.false_and]
theorem implCodeValid_any (x : Cd) (w : World) : Calls Try.prog 85 #[cdV x] w fun e w' => e = .returned (.bool (codeValid x)) ∧ Below w.heap.size w w' := by
  go_enter Try.func85, Try.ntmps85
  go_wp2_with fail
  go_loop [15] (fun iv => ∃ k : Nat, k ≤ 3 ∧ iv = .int .i64 k ∧ Hid (cdUpto x k = true)) (fun iv => 3 - (intOf iv).toNat)
  case atStart => exact ⟨0, by omega, rfl, mkHid rfl⟩
  case round =>
    obtain ⟨k, hk, rfl, HU⟩ := hrel
    have HB : Hid (Below w.heap.size w ((w.alloc (.cells #[.int .i64 x.op, .int .i64 x.a, .int .i64 x.b, .int .i64 x.c] 69)).alloc (.cells #[.int .i64 x.a, .int .i64 x.b, .int .i64 x.c] 3))) := mkHid (((Below.refl _ _).alloc (Nat.le_refl _) _).alloc (by simp) _)
    by_cases h3 : k = 3
    · subst h3
      cases hr : inB x.op 1 14
      all_goals (
        have HR := mkHid hr
        have hC := fun w => within_any x.op 1 14 w
        rw [hr] at hC
        have HC := mkHid hC
        clear hr hC
        go_wp2_with fail
        refine (HC.out _).mono ?_
        rintro e w2 ⟨rfl, rfl⟩
        go_wp2_with fail
        go_ret
        refine ⟨ret_bool ?_, HB.out⟩
        rw [cdUpto_three, HU.out, HR.out]; rfl)
    · have hk3 : k = 0 ∨ k = 1 ∨ k = 2 := by omega
      obtain ⟨r, hr⟩ : ∃ r, r = regs x.op := ⟨_, rfl⟩
      have hrb := regs_le x.op
      rw [← hr] at hrb
      have hR := fun w => registers_any x.op w
      simp only [← hr] at hR
      have HR := mkHid hR
      have HE := mkHid hr
      clear hR hr h3
      rcases hk3 with rfl | rfl | rfl
      · by_cases hlt : (0 : Int) < r
        · cases hv : inB x.a 0 3
          all_goals (
            have HV := mkHid hv
            have hC := fun w => isReg_any x.a w
            rw [hv] at hC
            have HC := mkHid hC
            clear hC
            clear hv
            go_wp2_with fail
            refine (HR.out _).mono ?_
            rintro e w2 ⟨rfl, rfl⟩
            go_wp2_with fail
            refine (HC.out _).mono ?_
            rintro e w2 ⟨rfl, rfl⟩
            go_wp2_with fail
            first
              | (go_ret; exact ⟨ret_bool (cdUpto_fail (k := 0) (by omega) (by (unfold numOk; rw [if_pos (by rw [← HE.out]; omega)]; show inB x.a 0 3 = _); exact HV.out)).symm, HB.out⟩)
              | (go_round
                 case rel => exact ⟨1, by omega, by go_num, mkHid (by rw [cdUpto_succ, HU.out, Bool.true_and]; (unfold numOk; rw [if_pos (by rw [← HE.out]; omega)]; show inB x.a 0 3 = _); exact HV.out)⟩
                 case measure => simp [intOf]))
        · cases hv : (x.a == 0)
          all_goals (
            have HV := mkHid hv
            have hne : (x.a != 0) = !(x.a == 0) := rfl
            rw [hv] at hne; simp only [Bool.not_true, Bool.not_false] at hne
            clear hv
            go_wp2_with fail
            refine (HR.out _).mono ?_
            rintro e w2 ⟨rfl, rfl⟩
            go_wp2_with fail
            first
              | (go_ret; exact ⟨ret_bool (cdUpto_fail (k := 0) (by omega) (by (unfold numOk; rw [if_neg (by rw [← HE.out]; omega), if_neg (by omega), if_neg (by omega)]; show (x.a == 0) = _); exact HV.out)).symm, HB.out⟩)
              | (go_round
                 case rel => exact ⟨1, by omega, by go_num, mkHid (by rw [cdUpto_succ, HU.out, Bool.true_and]; (unfold numOk; rw [if_neg (by rw [← HE.out]; omega), if_neg (by omega), if_neg (by omega)]; show (x.a == 0) = _); exact HV.out)⟩
                 case measure => simp [intOf]))
      · by_cases hlt : (1 : Int) < r
        · cases hv : inB x.b 0 3
          all_goals (
            have HV := mkHid hv
            have hC := fun w => isReg_any x.b w
            rw [hv] at hC
            have HC := mkHid hC
            clear hC
            clear hv
            go_wp2_with fail
            refine (HR.out _).mono ?_
            rintro e w2 ⟨rfl, rfl⟩
            go_wp2_with fail
            refine (HC.out _).mono ?_
            rintro e w2 ⟨rfl, rfl⟩
            go_wp2_with fail
            first
              | (go_ret; exact ⟨ret_bool (cdUpto_fail (k := 1) (by omega) (by (unfold numOk; rw [if_pos (by rw [← HE.out]; omega)]; show inB x.b 0 3 = _); exact HV.out)).symm, HB.out⟩)
              | (go_round
                 case rel => exact ⟨2, by omega, by go_num, mkHid (by rw [cdUpto_succ, HU.out, Bool.true_and]; (unfold numOk; rw [if_pos (by rw [← HE.out]; omega)]; show inB x.b 0 3 = _); exact HV.out)⟩
                 case measure => simp [intOf]))
        · by_cases h1 : x.op = 1
          · cases hv : inB x.b 0 255
            all_goals (
              have HV := mkHid hv
              have hC := fun w => isWord_any x.b w
              rw [hv] at hC
              have HC := mkHid hC
              clear hC
              clear hv
              have H1 := mkHid h1
              have h1b : (x.op == 1) = true := by rw [h1]; rfl
              clear h1
              go_wp2_with fail
              refine (HR.out _).mono ?_
              rintro e w2 ⟨rfl, rfl⟩
              go_wp2_with fail
              refine (HC.out _).mono ?_
              rintro e w2 ⟨rfl, rfl⟩
              go_wp2_with fail
              first
                | (go_ret; exact ⟨ret_bool (cdUpto_fail (k := 1) (by omega) (by (unfold numOk; rw [if_neg (by rw [← HE.out]; omega), if_pos ⟨rfl, H1.out⟩]; show inB x.b 0 255 = _); exact HV.out)).symm, HB.out⟩)
                | (go_round
                   case rel => exact ⟨2, by omega, by go_num, mkHid (by rw [cdUpto_succ, HU.out, Bool.true_and]; (unfold numOk; rw [if_neg (by rw [← HE.out]; omega), if_pos ⟨rfl, H1.out⟩]; show inB x.b 0 255 = _); exact HV.out)⟩
                   case measure => simp [intOf]))
          · by_cases h13 : x.op = 13
            · cases hv : inB x.b 1 4
              all_goals (
                have HV := mkHid hv
                have hC := fun w => within_any x.b 1 4 w
                rw [hv] at hC
                have HC := mkHid hC
                clear hC
                clear hv
                have H1 := mkHid h1
                have h1b : (x.op == 1) = false := by simpa using h1
                have H13 := mkHid h13
                have h13b : (x.op == 13) = true := by rw [h13]; rfl
                clear h1 h13
                go_wp2_with fail
                refine (HR.out _).mono ?_
                rintro e w2 ⟨rfl, rfl⟩
                go_wp2_with fail
                refine (HC.out _).mono ?_
                rintro e w2 ⟨rfl, rfl⟩
                go_wp2_with fail
                first
                  | (go_ret; exact ⟨ret_bool (cdUpto_fail (k := 1) (by omega) (by (unfold numOk; rw [if_neg (by rw [← HE.out]; omega), if_neg (fun h => H1.out h.2), if_pos ⟨rfl, H13.out⟩]; show inB x.b 1 4 = _); exact HV.out)).symm, HB.out⟩)
                  | (go_round
                     case rel => exact ⟨2, by omega, by go_num, mkHid (by rw [cdUpto_succ, HU.out, Bool.true_and]; (unfold numOk; rw [if_neg (by rw [← HE.out]; omega), if_neg (fun h => H1.out h.2), if_pos ⟨rfl, H13.out⟩]; show inB x.b 1 4 = _); exact HV.out)⟩
                     case measure => simp [intOf]))
            · cases hv : (x.b == 0)
              all_goals (
                have HV := mkHid hv
                have H1 := mkHid h1
                have h1b : (x.op == 1) = false := by simpa using h1
                have H13 := mkHid h13
                have h13b : (x.op == 13) = false := by simpa using h13
                have hne : (x.b != 0) = !(x.b == 0) := rfl
                rw [hv] at hne; simp only [Bool.not_true, Bool.not_false] at hne
                clear h1 h13 hv
                go_wp2_with fail
                refine (HR.out _).mono ?_
                rintro e w2 ⟨rfl, rfl⟩
                go_wp2_with fail
                first
                  | (go_ret; exact ⟨ret_bool (cdUpto_fail (k := 1) (by omega) (by (unfold numOk; rw [if_neg (by rw [← HE.out]; omega), if_neg (fun h => H1.out h.2), if_neg (fun h => H13.out h.2)]; show (x.b == 0) = _); exact HV.out)).symm, HB.out⟩)
                  | (go_round
                     case rel => exact ⟨2, by omega, by go_num, mkHid (by rw [cdUpto_succ, HU.out, Bool.true_and]; (unfold numOk; rw [if_neg (by rw [← HE.out]; omega), if_neg (fun h => H1.out h.2), if_neg (fun h => H13.out h.2)]; show (x.b == 0) = _); exact HV.out)⟩
                     case measure => simp [intOf]))
      · by_cases hlt : (2 : Int) < r
        · cases hv : inB x.c 0 3
          all_goals (
            have HV := mkHid hv
            have hC := fun w => isReg_any x.c w
            rw [hv] at hC
            have HC := mkHid hC
            clear hC
            clear hv
            go_wp2_with fail
            refine (HR.out _).mono ?_
            rintro e w2 ⟨rfl, rfl⟩
            go_wp2_with fail
            refine (HC.out _).mono ?_
            rintro e w2 ⟨rfl, rfl⟩
            go_wp2_with fail
            first
              | (go_ret; exact ⟨ret_bool (cdUpto_fail (k := 2) (by omega) (by (unfold numOk; rw [if_pos (by rw [← HE.out]; omega)]; show inB x.c 0 3 = _); exact HV.out)).symm, HB.out⟩)
              | (go_round
                 case rel => exact ⟨3, by omega, by go_num, mkHid (by rw [cdUpto_succ, HU.out, Bool.true_and]; (unfold numOk; rw [if_pos (by rw [← HE.out]; omega)]; show inB x.c 0 3 = _); exact HV.out)⟩
                 case measure => simp [intOf]))
        · cases hv : (x.c == 0)
          all_goals (
            have HV := mkHid hv
            have hne : (x.c != 0) = !(x.c == 0) := rfl
            rw [hv] at hne; simp only [Bool.not_true, Bool.not_false] at hne
            clear hv
            go_wp2_with fail
            refine (HR.out _).mono ?_
            rintro e w2 ⟨rfl, rfl⟩
            go_wp2_with fail
            first
              | (go_ret; exact ⟨ret_bool (cdUpto_fail (k := 2) (by omega) (by (unfold numOk; rw [if_neg (by rw [← HE.out]; omega), if_neg (by omega), if_neg (by omega)]; show (x.c == 0) = _); exact HV.out)).symm, HB.out⟩)
              | (go_round
                 case rel => exact ⟨3, by omega, by go_num, mkHid (by rw [cdUpto_succ, HU.out, Bool.true_and]; (unfold numOk; rw [if_neg (by rw [← HE.out]; omega), if_neg (by omega), if_neg (by omega)]; show (x.c == 0) = _); exact HV.out)⟩
                 case measure => simp [intOf]))
theorem numOk_reg {op n : Int} {i : Nat} (h : (i : Int) < regs op) : numOk op i n = inB n 0 3 := by unfold numOk; rw [if_pos h]
theorem specCodeValid_any (x : Cd) (w : World) : Calls Try.prog 83 #[cdV x] w fun e w' => e = .returned (.bool (codeValid x)) ∧ Below w.heap.size w w' := by
  have HB : Hid (Below w.heap.size w (w.alloc (.cells #[.int .i64 x.op, .int .i64 x.a, .int .i64 x.b, .int .i64 x.c] 69))) := mkHid ((Below.refl _ _).alloc (Nat.le_refl _) _)
  obtain ⟨op, a, b, c⟩ := x
  by_cases h : op < 1 ∨ 14 < op
  · have hv := valid_out (x := ⟨op, a, b, c⟩) h
    rw [hv]
    obtain ⟨h1, h2, h3, h4, h5, h6, h7, h8, h9, h10, h11, h12, h13, h14⟩ := op_out h
    clear h hv
    go_enter Try.func83, Try.ntmps83
    go_wp2_with fail
    refine (l1In_any _ _ _ _).mono ?_
    rintro e w2 ⟨rfl, rfl⟩
    go_wp2_with fail
    refine (l1In_any _ _ _ _).mono ?_
    rintro e w2 ⟨rfl, rfl⟩
    go_wp2_with fail
    go_ret
    exact ⟨rfl, HB.out⟩
  · have h' : op = 1 ∨ op = 2 ∨ op = 3 ∨ op = 4 ∨ op = 5 ∨ op = 6 ∨ op = 7 ∨ op = 8 ∨ op = 9 ∨ op = 10 ∨ op = 11 ∨ op = 12 ∨ op = 13 ∨ op = 14 := by omega
    clear h
    rcases h' with rfl | rfl | rfl | rfl | rfl | rfl | rfl | rfl | rfl | rfl | rfl | rfl | rfl | rfl
    all_goals (
      go_enter Try.func83, Try.ntmps83
      go_wp2_with (first | (go_at_call 41; refine (l1In_ways _ _ _ _).mono ?_; rintro e w' ⟨⟨hh, rfl⟩ | ⟨hh, rfl⟩, rfl⟩) | (go_at_call 81; refine (ways_of (l2Word_any _ _)).mono ?_; rintro e w' ⟨⟨hh, rfl⟩ | ⟨hh, rfl⟩, rfl⟩))
      all_goals go_ret
      all_goals refine ⟨ret_bool ?_, (Below.refl _ _).alloc (Nat.le_refl _) _⟩
      all_goals simp [codeValid, numOk, regs, inB, *]
      all_goals omega)
theorem toCode_any (x : Cd) (w : World) : Calls Try.prog 45 #[cdV x] w fun e w' => e = .returned (cdV x) ∧ Below w.heap.size w w' := by
  obtain ⟨x, y, b, p⟩ := x
  go_enter Try.func45, Try.ntmps45
  go_wp2
  refine bodyPost_ret (v := cdV ⟨x, y, b, p⟩) (by simp [results, Try.results45, go_sem]) rfl ⟨rfl, ?_⟩
  exact (((Below.refl _ _).alloc (Nat.le_refl _) _).alloc (by simp) _).alloc (by simp; omega) _
end Go.Proofs.Ytjmiilneennjaaa
