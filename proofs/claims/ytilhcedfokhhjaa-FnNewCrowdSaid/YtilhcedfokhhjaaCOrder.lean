/-
  Contracts of OrderValid, of the program and of the reference, and of the masks that the latter uses.
-/
import Derived.Test.YtilhcedfokhhjaaCFunc
import Derived.Test.YtilhcedfokhhjaaCNum
namespace Go.Proofs.Ytilhcedfokhhjaa
open Go.RowKit
set_option maxHeartbeats 1000000
set_option linter.unusedVariables false

/-! ### plain -/
def hasB (ys : List Int) (z : Int) : Bool := ys.any fun y => y == z
def orderValid (os : List Int) (l : Int) : Bool := inB l 1 8 && decide (os.length ≤ 40) && os.all (fun n => inB n 0 (l - 1)) && (List.range l.toNat).all (fun n : Nat => hasB os n)
def maskNat (os : List Int) : Nat := os.foldl (fun m z => m ||| 2 ^ z.toNat) 0
theorem maskNat_snoc (os : List Int) (z : Int) : maskNat (os ++ [z]) = maskNat os ||| 2 ^ z.toNat := by simp [maskNat]
theorem mask_bit (os : List Int) (m i : Nat) : (os.foldl (fun m z => m ||| 2 ^ z.toNat) m).testBit i = (m.testBit i || os.any fun z => z.toNat == i) := by
  induction os generalizing m with
  | nil => simp
  | cons z os ih =>
    rw [List.foldl_cons, ih, Nat.testBit_or, List.any_cons, Nat.testBit_two_pow, Bool.or_assoc]
    rfl
theorem maskNat_bit (os : List Int) (i : Nat) : (maskNat os).testBit i = os.any fun z => z.toNat == i := by unfold maskNat; rw [mask_bit]; simp
theorem maskNat_lt (os : List Int) (h : ∀ z ∈ os, z.toNat < 8) : maskNat os < 256 := by
  refine Nat.lt_pow_two_of_testBit (n := 8) _ fun i hi => ?_
  rw [maskNat_bit, List.any_eq_false]
  intro z hz e
  have := h z hz
  have e' : z.toNat = i := by simpa using e
  omega
/-- the mask's number is that of all lanes exactly if every lane occurs. -/
theorem mask_all (os : List Int) (l : Nat) (h : ∀ z ∈ os, 0 ≤ z ∧ z < l) : (maskNat os = 2 ^ l - 1) ↔ (List.range l).all (fun n : Nat => hasB os n) = true := by
  have hbit : ∀ i : Nat, (os.any fun z => z.toNat == i) = hasB os i := fun i => by
    unfold hasB
    rw [Bool.eq_iff_iff, List.any_eq_true, List.any_eq_true]
    constructor
    · rintro ⟨z, hz, e⟩
      have := h z hz
      have e' : z.toNat = i := by simpa using e
      exact ⟨z, hz, by rw [beq_iff_eq]; omega⟩
    · rintro ⟨z, hz, e⟩
      rw [beq_iff_eq] at e
      exact ⟨z, hz, by rw [beq_iff_eq]; omega⟩
  rw [List.all_eq_true]
  constructor
  · intro e n hn
    have hb := congrArg (fun m => Nat.testBit m n) e
    simp only [maskNat_bit, hbit, Nat.testBit_two_pow_sub_one] at hb
    rw [hb]
    simpa using List.mem_range.1 hn
  · intro hall
    apply Nat.eq_of_testBit_eq
    intro i
    rw [maskNat_bit, hbit, Nat.testBit_two_pow_sub_one]
    by_cases hi : i < l
    · rw [hall i (List.mem_range.2 hi)]; simp [hi]
    · have : hasB os i = false := by
        unfold hasB
        rw [List.any_eq_false]
        intro z hz e
        have := h z hz
        rw [beq_iff_eq] at e
        omega
      rw [this]; simp [hi]
theorem bits_or_nat (a b : Nat) (ha : a < 9223372036854775808) (hb : b < 9223372036854775808) : bits .or .i64 (a : Int) (b : Int) = ((a ||| b : Nat) : Int) := by
  have ho : ∀ m : Nat, m < 9223372036854775808 → (BitVec.ofInt 64 (m : Int)).toNat = m := fun m hm => by
    rw [BitVec.ofInt_natCast, BitVec.toNat_ofNat]; exact Nat.mod_eq_of_lt (by omega)
  have hx : a ||| b < 2 ^ 63 := Nat.or_lt_two_pow (by omega) (by omega)
  show IntKind.i64.wrap ((BitVec.ofInt 64 (a : Int) ||| BitVec.ofInt 64 (b : Int)).toNat : Int) = _
  rw [BitVec.toNat_or, ho a ha, ho b hb, IntKind.wrap_i64]
  omega
def maskOf (os : List Int) (l : Int) : Int := if inB l 1 8 && os.all (fun n => inB n 0 (l - 1)) then (maskNat os : Nat) else -1
def maskAll (l : Int) : Int := if inB l 1 8 then ((2 ^ l.toNat - 1 : Nat) : Int) else -1
theorem order_mask (os : List Int) (l : Int) : orderValid os l = (decide (os.length ≤ 40) && inB l 1 8 && (maskOf os l == maskAll l)) := by
  unfold orderValid maskOf maskAll
  cases hl : inB l 1 8 with
  | false => simp
  | true =>
    have hb := inB_t hl
    cases ha : os.all (fun n => inB n 0 (l - 1)) with
    | false =>
      have : ((-1 : Int) == ((2 ^ l.toNat - 1 : Nat) : Int)) = false := by rw [beq_eq_false_iff_ne]; omega
      simp only [Bool.true_and, Bool.false_and, Bool.and_false, if_true, Bool.and_true, this, Bool.false_eq_true, if_false]
    | true =>
      simp only [Bool.true_and, Bool.and_true, if_true]
      have hz : ∀ z ∈ os, 0 ≤ z ∧ z < (l.toNat : Nat) := fun z hz => by
        have := inB_t (List.all_eq_true.1 ha z hz)
        omega
      have h1 := mask_all os l.toNat hz
      cases hall : (List.range l.toNat).all (fun n : Nat => hasB os n) with
      | true => rw [h1.2 hall]; simp
      | false =>
        have hne : maskNat os ≠ 2 ^ l.toNat - 1 := fun e => by rw [h1.1 e] at hall; cases hall
        have : (((maskNat os : Nat) : Int) == ((2 ^ l.toNat - 1 : Nat) : Int)) = false := by rw [beq_eq_false_iff_ne]; omega
        rw [this]
theorem pow_lanes (l : Int) (h : 1 ≤ l ∧ l ≤ 8) : wrap64 (2 ^ l.toNat) = ((2 ^ l.toNat : Nat) : Int) := by
  have : l = 1 ∨ l = 2 ∨ l = 3 ∨ l = 4 ∨ l = 5 ∨ l = 6 ∨ l = 7 ∨ l = 8 := by omega
  rcases this with rfl | rfl | rfl | rfl | rfl | rfl | rfl | rfl <;> simp [wrap64]

theorem specMaskAll_any (l : Int) (w : World) : Calls Try.prog 33 #[.int .i64 l] w fun e w' => e = .returned (.int .i64 (maskAll l)) ∧ w = w' := by
  by_cases h : 1 ≤ l ∧ l ≤ 8
  · have : l = 1 ∨ l = 2 ∨ l = 3 ∨ l = 4 ∨ l = 5 ∨ l = 6 ∨ l = 7 ∨ l = 8 := by omega
    clear h
    rcases this with rfl | rfl | rfl | rfl | rfl | rfl | rfl | rfl
    all_goals (
      go_enter Try.func33, Try.ntmps33
      go_wp2_with (go_at_call 31; refine (l1In_any _ _ _ _).mono ?_; rintro e w' ⟨rfl, rfl⟩)
      all_goals first
        | (go_ret; exact ⟨ret_int (by simp [maskAll, inB]), rfl⟩)
        | (exfalso; simp_all [inB]; done))
  · have hi : inB l 1 8 = false := inB_not (by omega)
    have hC := fun w => l1In_any l 1 8 w
    simp only [hi] at hC
    have HC := mkHid hC
    have HV : Hid (maskAll l = -1) := mkHid (by unfold maskAll; rw [hi]; rfl)
    clear hC hi
    go_enter Try.func33, Try.ntmps33
    go_wp2_with fail
    refine (HC.out _).mono ?_
    rintro e w' ⟨rfl, rfl⟩
    go_wp2_with fail
    go_ret
    exact ⟨ret_int HV.out.symm, rfl⟩
theorem all_take_succ (os : List Int) (p : Int → Bool) (k : Nat) (h : k < os.length) : (os.take (k + 1)).all p = ((os.take k).all p && p os[k]) := by
  rw [List.take_succ_eq_append_getElem h, List.all_append]; simp
theorem specMaskOf_any (A : Option Addr) (c : Nat) (os : List Int) (l : Int) (w : World) (hn : os.length ≤ 1000000000) (hs : Sl w A (ints os)) :
    Calls Try.prog 32 #[.slice A os.length c, .int .i64 l] w fun e w' => e = .returned (.int .i64 (maskOf os l)) ∧ w = w' := by
  by_cases h : 1 ≤ l ∧ l ≤ 8
  case neg =>
    have hi : inB l 1 8 = false := inB_not (by omega)
    have hC := fun w => l1In_any l 1 8 w
    simp only [hi] at hC
    have HC := mkHid hC
    have HV : Hid (maskOf os l = -1) := mkHid (by unfold maskOf; rw [hi]; rfl)
    clear hC hi h
    go_enter Try.func32, Try.ntmps32
    go_wp2_with fail
    refine (HC.out _).mono ?_
    rintro e w' ⟨rfl, rfl⟩
    go_wp2_with fail
    go_ret
    exact ⟨ret_int HV.out.symm, rfl⟩
  case pos =>
    have hi : inB l 1 8 = true := inB_of h.1 h.2
    have hC := fun w => l1In_any l 1 8 w
    simp only [hi] at hC
    have HC := mkHid hC
    have HI := mkHid hi
    clear hC hi
    go_enter Try.func32, Try.ntmps32
    go_wp2_with fail
    refine (HC.out _).mono ?_
    rintro e w' ⟨rfl, rfl⟩
    go_wp2_with fail
    go_loop [5, 6] (fun m i => ∃ k : Nat, k ≤ os.length ∧ i = .int .i64 k ∧ (∃ q : Nat, m = .int .i64 q ∧ q < 256 ∧ Hid (q = maskNat (os.take k))) ∧ Hid ((os.take k).all (fun n => inB n 0 (l - 1)) = true)) (fun _ i => os.length - (intOf i).toNat)
    case atStart => exact ⟨0, by omega, rfl, ⟨0, rfl, by omega, mkHid (by simp [maskNat])⟩, mkHid (by simp)⟩
    case round =>
      obtain ⟨k, hk, rfl, ⟨q, rfl, hq, HQ⟩, HA⟩ := hrel
      by_cases hlt : k < os.length
      · obtain ⟨bb, off, rfl, hc⟩ := hs.at_ (k := k) (by simpa using hlt)
        have h1 : w.cell? ⟨bb, off + k, none⟩ = some (.int .i64 os[k]) := hc k _ (ints_at hlt)
        have HS := mkHid (all_take_succ os (fun n => inB n 0 (l - 1)) k hlt)
        have HT := mkHid (List.take_succ_eq_append_getElem hlt)
        obtain ⟨z, hz⟩ : ∃ z, z = os[k] := ⟨_, rfl⟩
        rw [← hz] at h1 HS HT
        have HM : Hid (z ∈ os) := mkHid (by rw [hz]; exact List.getElem_mem hlt)
        clear hc hz
        cases hp : inB z 0 (l - 1) with
        | false =>
          have hC := fun w => l1In_any z 0 (l - 1) w
          simp only [hp] at hC
          have HC := mkHid hC
          have HP := mkHid hp
          clear hC hp
          go_wp2_with fail
          refine (HC.out _).mono ?_
          rintro e w' ⟨rfl, rfl⟩
          go_wp2_with fail
          go_ret
          refine ⟨ret_int ?_, rfl⟩
          unfold maskOf
          rw [HI.out]
          have : os.all (fun n => inB n 0 (l - 1)) = false := by
            rw [List.all_eq_false]
            exact ⟨z, HM.out, by simp [HP.out]⟩
          rw [this]; rfl
        | true =>
          have hC := fun w => l1In_any z 0 (l - 1) w
          simp only [hp] at hC
          have HC := mkHid hC
          have HP := mkHid hp
          have hzb := inB_t hp
          obtain ⟨n, rfl⟩ := Int.eq_ofNat_of_zero_le hzb.1
          have hn8 : n < 8 := by omega
          clear hC hp
          have hpw : wrap64 (2 ^ n) = ((2 ^ n : Nat) : Int) ∧ 2 ^ n < 256 := by
            have : n = 0 ∨ n = 1 ∨ n = 2 ∨ n = 3 ∨ n = 4 ∨ n = 5 ∨ n = 6 ∨ n = 7 := by omega
            rcases this with rfl | rfl | rfl | rfl | rfl | rfl | rfl | rfl <;> simp [wrap64]
          have hor := bits_or_nat q (2 ^ n) (by omega) (by omega)
          have hlt2 : q ||| 2 ^ n < 2 ^ 8 := Nat.or_lt_two_pow (by omega) (by omega)
          have HO := mkHid hor
          have HPW := mkHid hpw
          clear hor hpw
          go_wp2_with fail
          refine (HC.out _).mono ?_
          rintro e w' ⟨rfl, rfl⟩
          go_wp2_with fail
          go_round
          case rel =>
            refine ⟨k + 1, by omega, by go_num, ⟨q ||| 2 ^ n, ?_, by omega, mkHid ?_⟩, mkHid ?_⟩
            · rw [← HO.out, ← HPW.out.1]
            · rw [HT.out, maskNat_snoc, ← HQ.out]; simp
            · rw [HS.out, HA.out, HP.out]; rfl
          case measure => simp [intOf] <;> omega
      · have : k = os.length := by omega
        subst this
        have ha := HA.out
        have hq := HQ.out
        rw [List.take_length] at ha hq
        have HV : Hid (maskOf os l = (q : Int)) := mkHid (by unfold maskOf; rw [HI.out, ha, hq]; rfl)
        clear ha hq
        go_wp2_with fail
        go_ret
        exact ⟨ret_int HV.out.symm, rfl⟩
theorem specOrderValid_any (A : Option Addr) (c : Nat) (os : List Int) (l : Int) (w : World) (hn : os.length ≤ 1000000000) (hs : Sl w A (ints os)) :
    Calls Try.prog 9 #[.slice A os.length c, .int .i64 l] w fun e w' => e = .returned (.bool (orderValid os l)) ∧ w = w' := by
  by_cases h40 : os.length ≤ 40
  · cases hi : inB l 1 8
    all_goals (
      have hC := fun w => l1In_any l 1 8 w
      simp only [hi] at hC
      have HC := mkHid hC
      have hV := order_mask os l
      rw [hi] at hV
      have HV := mkHid hV
      obtain ⟨m, hm⟩ : ∃ m, m = maskOf os l := ⟨_, rfl⟩
      obtain ⟨m', hm'⟩ : ∃ m, m = maskAll l := ⟨_, rfl⟩
      have hM := specMaskOf_any A c os l w hn hs
      rw [← hm] at hM
      have hM' := specMaskAll_any l w
      rw [← hm'] at hM'
      have HM := mkHid hM
      have HM' := mkHid hM'
      have HE := mkHid hm
      have HE' := mkHid hm'
      clear hC hi hM hM' hm hm' hV hs
      go_enter Try.func9, Try.ntmps9
      go_wp2_with fail
      refine (HC.out _).mono ?_
      rintro e w' ⟨rfl, rfl⟩)
    · go_wp2_with fail
      go_ret
      exact ⟨ret_bool (by rw [HV.out]; simp), rfl⟩
    · go_wp2_with fail
      refine HM.out.mono ?_
      rintro e w' ⟨rfl, rfl⟩
      go_wp2_with fail
      refine HM'.out.mono ?_
      rintro e w' ⟨rfl, rfl⟩
      cases hq : m == m'
      all_goals (
        have HQ := mkHid hq
        go_wp2_with fail
        go_ret
        exact ⟨ret_bool (by rw [HV.out, ← HE.out, ← HE'.out, HQ.out]; simp [h40]), rfl⟩)
  · have hV := order_mask os l
    have : decide (os.length ≤ 40) = false := by simpa using h40
    rw [this] at hV
    simp only [Bool.false_and] at hV
    have HV := mkHid hV
    clear hV hs this
    go_enter Try.func9, Try.ntmps9
    go_wp2_with fail
    go_ret
    exact ⟨ret_bool HV.out.symm, rfl⟩
def RetIdxI (z : Int) (os : List Int) (w : World) (e : Ending) (w' : World) : Prop :=
  ((∃ i : Nat, e = .returned (.int .i64 i) ∧ hasB os z = true) ∨ (e = .returned (.int .i64 (-1)) ∧ hasB os z = false)) ∧ w = w'
theorem hasB_take (os : List Int) (z : Int) (k : Nat) (h : k < os.length) : hasB (os.take (k + 1)) z = (hasB (os.take k) z || os[k] == z) := by
  unfold hasB
  rw [List.take_succ_eq_append_getElem h, List.any_append]; simp
theorem index_any (A : Option Addr) (c : Nat) (os : List Int) (z : Int) (w : World) (hn : os.length ≤ 9223372036854775807) (hs : Sl w A (ints os)) :
    Calls Try.prog 58 #[.slice A os.length c, .int .i64 z] w (RetIdxI z os w) := by
  go_enter Try.func58, Try.ntmps58
  go_wp2_with fail
  go_loop [8] (fun i => ∃ k : Nat, k ≤ os.length ∧ i = .int .i64 k ∧ Hid (hasB (os.take k) z = false)) (fun i => os.length - (intOf i).toNat)
  case atStart => exact ⟨0, by omega, rfl, mkHid (by simp [hasB])⟩
  case round =>
    obtain ⟨k, hk, rfl, HH⟩ := hrel
    by_cases hlt : k < os.length
    · obtain ⟨bb, off, rfl, hc⟩ := hs.at_ (k := k) (by simpa using hlt)
      have h1 : w.cell? ⟨bb, off + k, none⟩ = some (.int .i64 os[k]) := hc k _ (ints_at hlt)
      have HS := mkHid (hasB_take os z k hlt)
      have HM : Hid (os[k] ∈ os) := mkHid (List.getElem_mem hlt)
      obtain ⟨y, hy⟩ : ∃ y, y = os[k] := ⟨_, rfl⟩
      rw [← hy] at h1 HS HM
      clear hc hy
      cases hq : z == y with
      | true =>
        have HQ := mkHid hq
        go_wp2_with fail
        go_ret
        refine ⟨.inl ⟨k, rfl, ?_⟩, rfl⟩
        unfold hasB
        rw [List.any_eq_true]
        exact ⟨y, HM.out, by have := HQ.out; rw [beq_iff_eq] at this ⊢; exact this.symm⟩
      | false =>
        have HQ := mkHid hq
        go_wp2_with fail
        go_round
        case rel =>
          refine ⟨k + 1, by omega, by go_num, mkHid ?_⟩
          rw [HS.out, HH.out, Bool.false_or]
          have := HQ.out
          rw [beq_eq_false_iff_ne] at this ⊢
          exact fun e => this e.symm
        case measure => simp [intOf] <;> omega
    · have : k = os.length := by omega
      subst this
      go_wp2_with fail
      go_ret
      exact ⟨.inr ⟨rfl, by have := HH.out; rwa [List.take_length] at this⟩, rfl⟩
theorem contains_any (A : Option Addr) (c : Nat) (os : List Int) (z : Int) (w : World) (hn : os.length ≤ 9223372036854775807) (hs : Sl w A (ints os)) :
    Calls Try.prog 38 #[.slice A os.length c, .int .i64 z] w fun e w' => e = .returned (.bool (hasB os z)) ∧ w = w' := by
  go_enter Try.func38, Try.ntmps38
  go_wp2_with fail
  refine (index_any _ _ _ _ _ hn hs).mono ?_
  rintro e w1 ⟨⟨i, rfl, hp⟩ | ⟨rfl, hp⟩, rfl⟩
  all_goals (
    have HP := mkHid hp
    clear hp
    go_wp2_with fail
    go_ret
    exact ⟨ret_bool HP.out.symm, rfl⟩)
theorem notLane_any (z l : Int) (p : Addr) (w : World) (hl : 1 ≤ l ∧ l ≤ 8) (hc : w.cell? p = some (.int .i64 l)) :
    Calls Try.prog 36 #[.int .i64 z, .pointer (some p)] w fun e w' => e = .returned (.bool (!inB z 0 (l - 1))) ∧ w = w' := by
  go_enter Try.func36, Try.ntmps36
  go_wp2_with (go_at_call 37; refine (within_any _ _ _ _).mono ?_; rintro e w' ⟨rfl, rfl⟩)
  go_ret
  exact ⟨rfl, rfl⟩
theorem any_not_all (os : List Int) (p : Int → Bool) : os.any (fun z => !p z) = !os.all p := by
  induction os with
  | nil => rfl
  | cons z os ih => simp [List.any_cons, List.all_cons, ih, Bool.not_and]
theorem lanes_take (os : List Int) (k : Nat) : (List.range (k + 1)).all (fun n : Nat => hasB os n) = ((List.range k).all (fun n : Nat => hasB os n) && hasB os k) := by
  rw [List.range_succ, List.all_append]; simp
theorem implOrderValid_any (A : Option Addr) (c : Nat) (os : List Int) (l : Int) (w : World) (hn : os.length ≤ 1000000000) (hs : Sl w A (ints os)) :
    Calls Try.prog 11 #[.slice A os.length c, .int .i64 l] w fun e w' => e = .returned (.bool (orderValid os l)) ∧ Below w.heap.size w w' := by
  have hB : Below w.heap.size w (w.alloc (.cells #[.int .i64 l] 3)) := (Below.refl _ _).alloc (Nat.le_refl _) _
  have HB := mkHid hB
  have hS := hs.below hB
  have hcell : ∀ X : World, Below (w.alloc (.cells #[.int .i64 l] 3)).heap.size (w.alloc (.cells #[.int .i64 l] 3)) X → X.cell? ⟨w.heap.size, 0, none⟩ = some (.int .i64 l) := fun X hX => by
    rw [hX.cell (by simp), cell_of_row _ w.heap.size 0 _ _ _ (heap_alloc_new w _)]; rfl
  have HCE := mkHid hcell
  have HS := mkHid hS
  clear hB hS hcell hs
  cases hi : inB l 1 8 with
  | false =>
    have hC := fun w => isLanes_any l w
    simp only [hi] at hC
    have HC := mkHid hC
    have HV : Hid (orderValid os l = false) := mkHid (by unfold orderValid; rw [hi]; rfl)
    clear hC hi
    go_enter Try.func11, Try.ntmps11
    go_wp2_with fail
    refine (HC.out _).mono ?_
    rintro e w' ⟨rfl, rfl⟩
    go_wp2_with fail
    go_ret
    exact ⟨ret_bool HV.out.symm, HB.out⟩
  | true =>
    have hC := fun w => isLanes_any l w
    simp only [hi] at hC
    have HC := mkHid hC
    have HI := mkHid hi
    have hlb := inB_t hi
    clear hC hi
    by_cases h40 : os.length ≤ 40
    case neg =>
      have HV : Hid (orderValid os l = false) := mkHid (by unfold orderValid; rw [show decide (os.length ≤ 40) = false by simpa using h40]; simp)
      go_enter Try.func11, Try.ntmps11
      go_wp2_with fail
      refine (HC.out _).mono ?_
      rintro e w' ⟨rfl, rfl⟩
      go_wp2_with fail
      go_ret
      exact ⟨ret_bool HV.out.symm, HB.out⟩
    case pos =>
      have hA : Answers (.func (.func 36) #[] #[.pointer (some ⟨w.heap.size, 0, none⟩)]) (fun z => !inB z 0 (l - 1)) os (w.alloc (.cells #[.int .i64 l] 3)) :=
        ⟨36, #[.pointer (some ⟨w.heap.size, 0, none⟩)], rfl, fun args w => by kernel_rfl, fun z _ X hX => (notLane_any z l ⟨w.heap.size, 0, none⟩ X hlb (HCE.out X hX)).mono fun e w' ⟨he, hw⟩ => ⟨he, hw ▸ Below.refl _ _⟩⟩
      have hF := containsFunc_any A c os _ _ _ (by omega) HS.out hA
      rw [any_not_all] at hF
      obtain ⟨b, hb⟩ : ∃ b, b = os.all (fun n => inB n 0 (l - 1)) := ⟨_, rfl⟩
      rw [← hb] at hF
      have HF := mkHid hF
      have HBe := mkHid hb
      clear hA hF hb
      cases b
      case false =>
        have HV : Hid (orderValid os l = false) := mkHid (by unfold orderValid; rw [← HBe.out]; simp)
        go_enter Try.func11, Try.ntmps11
        go_wp2_with fail
        refine (HC.out _).mono ?_
        rintro e w' ⟨rfl, rfl⟩
        go_wp2_with fail
        refine HF.out.mono ?_
        rintro e w2 ⟨rfl, b2⟩
        have B2 := mkHid (below_then HB.out b2)
        clear b2
        go_wp2_with fail
        go_ret
        exact ⟨ret_bool HV.out.symm, B2.out⟩
      case true =>
        have HV : Hid (orderValid os l = (List.range l.toNat).all (fun n : Nat => hasB os n)) := mkHid (by unfold orderValid; rw [← HBe.out, HI.out, show decide (os.length ≤ 40) = true by simpa using h40]; simp)
        obtain ⟨m, rfl⟩ := Int.eq_ofNat_of_zero_le (show 0 ≤ l by omega)
        go_enter Try.func11, Try.ntmps11
        go_wp2_with fail
        refine (HC.out _).mono ?_
        rintro e w' ⟨rfl, rfl⟩
        go_wp2_with fail
        refine HF.out.mono ?_
        rintro e w2 ⟨rfl, b2⟩
        have B2 := mkHid (below_then HB.out b2)
        have S2 := mkHid (HS.out.below b2)
        have hc2 := HCE.out w2 b2
        clear b2
        go_wp2_with fail
        go_loop [20] (fun i => ∃ k : Nat, k ≤ m ∧ i = .int .i64 k ∧ Hid ((List.range k).all (fun n : Nat => hasB os n) = true)) (fun i => m - (intOf i).toNat)
        case atStart => exact ⟨0, by omega, rfl, mkHid rfl⟩
        case round =>
          obtain ⟨k, hk, rfl, HH⟩ := hrel
          by_cases hlt : k < m
          · cases hq : hasB os k
            all_goals (
              have HQ := mkHid hq
              have hK := contains_any A c os k w2 (by omega) S2.out
              rw [hq] at hK
              have HK := mkHid hK
              clear hK hq
              go_wp2_with fail
              refine HK.out.mono ?_
              rintro e w' ⟨rfl, rfl⟩
              go_wp2_with fail)
            · go_ret
              refine ⟨ret_bool ?_, B2.out⟩
              rw [HV.out]
              symm
              rw [List.all_eq_false]
              exact ⟨k, List.mem_range.2 (by simpa using hlt), by rw [HQ.out]; simp⟩
            · go_round
              case rel => exact ⟨k + 1, by omega, by go_num, mkHid (by rw [lanes_take, HH.out, HQ.out]; rfl)⟩
              case measure => simp [intOf] <;> omega
          · have : k = m := by omega
            subst this
            go_wp2_with fail
            go_ret
            exact ⟨ret_bool (by rw [HV.out, Int.toNat_natCast, HH.out]), B2.out⟩
end Go.Proofs.Ytilhcedfokhhjaa
