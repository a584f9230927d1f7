/-
  Contracts on one instruction: CodeValid and CodeCost of the program and of the reference, toCode.
-/
import Derived.Test.YtabpcbikbhbcaaaRows
import Derived.Test.YtabpcbikbhbcaaaLib
import Derived.Test.YtabpcbikbhbcaaaCNum
import Derived.Test.YtabpcbikbhbcaaaCInts
namespace Go.Proofs.Ytabpcbikbhbcaaa
open Go.RowKit
set_option maxHeartbeats 1000000
set_option linter.unusedVariables false

structure Cd where
  op : Int
  a : Int
  b : Int
  c : Int
  deriving DecidableEq

abbrev cdV (x : Cd) : Value := .agg #[.int .i64 x.op, .int .i64 x.a, .int .i64 x.b, .int .i64 x.c]
/-- how many numbers of an operation are registers. -/
def regs (op : Int) : Int :=
  if op = 1 ∨ op = 2 ∨ op = 11 ∨ op = 13 then 1 else if op = 3 ∨ op = 4 ∨ op = 5 ∨ op = 8 ∨ op = 9 then 2 else if op = 6 ∨ op = 7 then 3 else 0
def numOk (op : Int) (i : Nat) (n : Int) : Bool :=
  if (i : Int) < regs op then inB n 0 3 else if i = 1 ∧ op = 1 then inB n 0 255 else if i = 1 ∧ op = 13 then inB n 1 4 else n == 0
def codeValid (x : Cd) : Bool := numOk x.op 0 x.a && numOk x.op 1 x.b && numOk x.op 2 x.c && inB x.op 1 14
theorem op_cases (op : Int) : op = 1 ∨ op = 2 ∨ op = 3 ∨ op = 4 ∨ op = 5 ∨ op = 6 ∨ op = 7 ∨ op = 8 ∨ op = 9 ∨ op = 10 ∨ op = 11 ∨ op = 12 ∨ op = 13 ∨ op = 14 ∨ (op < 1 ∨ 14 < op) := by omega
def opOut (op : Int) : Prop := (op == 1) = false ∧ (op == 2) = false ∧ (op == 3) = false ∧ (op == 4) = false ∧ (op == 5) = false ∧ (op == 6) = false ∧ (op == 7) = false ∧ (op == 8) = false ∧ (op == 9) = false ∧ (op == 10) = false ∧ (op == 11) = false ∧ (op == 12) = false ∧ (op == 13) = false ∧ (op == 14) = false
theorem op_out {op : Int} (h : op < 1 ∨ 14 < op) : opOut op := by
  unfold opOut
  simp only [beq_eq_false_iff_ne]
  omega
theorem regs_out {op : Int} (h : op < 1 ∨ 14 < op) : regs op = 0 := by
  unfold regs
  rw [if_neg (by omega), if_neg (by omega), if_neg (by omega)]
theorem valid_out {x : Cd} (h : x.op < 1 ∨ 14 < x.op) : codeValid x = false := by
  unfold codeValid
  rw [inB_not h, Bool.and_false]
theorem regs_le (op : Int) : 0 ≤ regs op ∧ regs op ≤ 3 := by unfold regs; repeat' split <;> omega
def costOf (op : Int) : Int := if op = 4 then 2 else if op = 8 ∨ op = 9 then 4 else if op = 12 ∨ op = 14 then 0 else 1
def cost (x : Cd) : Int := if codeValid x then costOf x.op else -1

theorem l2Word_any (a : Int) (w : World) : Calls Try.prog 61 #[.int .i64 a] w fun e w' => e = .returned (.bool (inB a 0 255)) ∧ w = w' := by
  go_enter Try.func61, Try.ntmps61
  go_wp2_with (go_at_call 32; refine (l1In_any _ _ _ _).mono ?_; rintro e w' ⟨rfl, rfl⟩)
  go_ret
  exact ⟨rfl, rfl⟩
theorem numOk_reg {op n : Int} {i : Nat} (h : (i : Int) < regs op) : numOk op i n = inB n 0 3 := by unfold numOk; rw [if_pos h]
theorem specCodeValid_any (x : Cd) (w : World) : Calls Try.prog 59 #[cdV x] w fun e w' => e = .returned (.bool (codeValid x)) ∧ Below w.heap.size w w' := by
  have HB : Hid (Below w.heap.size w (w.alloc (.cells #[.int .i64 x.op, .int .i64 x.a, .int .i64 x.b, .int .i64 x.c] 59))) := mkHid ((Below.refl _ _).alloc (Nat.le_refl _) _)
  obtain ⟨op, a, b, c⟩ := x
  by_cases h : op < 1 ∨ 14 < op
  · have hv := valid_out (x := ⟨op, a, b, c⟩) h
    rw [hv]
    obtain ⟨h1, h2, h3, h4, h5, h6, h7, h8, h9, h10, h11, h12, h13, h14⟩ := op_out h
    clear h hv
    go_enter Try.func59, Try.ntmps59
    go_wp2_with fail
    refine (l1In_any _ _ _ _).mono ?_
    rintro e w2 ⟨rfl, rfl⟩
    go_wp2_with fail
    refine (l1In_any _ _ _ _).mono ?_
    rintro e w2 ⟨rfl, rfl⟩
    go_wp2_with fail
    go_ret
    exact ⟨rfl, HB.out⟩
  · have h' : op = 1 ∨ op = 2 ∨ op = 3 ∨ op = 4 ∨ op = 5 ∨ op = 6 ∨ op = 7 ∨ op = 8 ∨ op = 9 ∨ op = 10 ∨ op = 11 ∨ op = 12 ∨ op = 13 ∨ op = 14 := by omega
    clear h
    rcases h' with rfl | rfl | rfl | rfl | rfl | rfl | rfl | rfl | rfl | rfl | rfl | rfl | rfl | rfl
    all_goals (
      go_enter Try.func59, Try.ntmps59
      go_wp2_with (first | (go_at_call 32; refine (l1In_ways _ _ _ _).mono ?_; rintro e w' ⟨⟨hh, rfl⟩ | ⟨hh, rfl⟩, rfl⟩) | (go_at_call 61; refine (ways_of (l2Word_any _ _)).mono ?_; rintro e w' ⟨⟨hh, rfl⟩ | ⟨hh, rfl⟩, rfl⟩))
      all_goals go_ret
      all_goals refine ⟨ret_bool ?_, (Below.refl _ _).alloc (Nat.le_refl _) _⟩
      all_goals simp [codeValid, numOk, regs, inB, *]
      all_goals omega)
end Go.Proofs.Ytabpcbikbhbcaaa
