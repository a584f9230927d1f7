/-
  Plain laws of the loads of banks.
-/
import Derived.Test.YtjgmghlgjjfifaaCBanks3
import Derived.Test.YtjgmghlgjjfifaaCStride
namespace Go.Proofs.Ytjgmghlgjjfifaa
set_option linter.unusedVariables false

theorem sum_set (l : List Int) (j : Nat) (h : j < l.length) : (l.set j (l[j] + 1)).sum = l.sum + 1 := by
  induction l generalizing j with
  | nil => simp at h
  | cons x l ih =>
    cases j with
    | zero => simp only [List.set_cons_zero, List.sum_cons, List.getElem_cons_zero]; omega
    | succ j =>
      have := ih j (by simpa using h)
      simp only [List.set_cons_succ, List.sum_cons, List.getElem_cons_succ]
      omega
theorem sum_take (l : List Int) (k : Nat) (h : k < l.length) : (l.take (k + 1)).sum = (l.take k).sum + l[k] := by
  rw [List.take_succ_eq_append_getElem h, List.sum_append]
  simp
theorem sum_zero (n : Nat) : (List.replicate n (0 : Int)).sum = 0 := by
  induction n with
  | zero => rfl
  | succ n ih => rw [List.replicate_succ, List.sum_cons, ih]; rfl
/-- every number is in one bank. -/
theorem cnt_sum (ys : List Int) (b : Int) (hb : 1 ≤ b) (n : Nat) (hn : n ≤ ys.length) : (cnt (ys.take n) b).sum = n := by
  induction n with
  | zero => rw [List.take_zero, cnt_nil, sum_zero]; rfl
  | succ n ih =>
    have hlt : n < ys.length := by omega
    rw [List.take_succ_eq_append_getElem hlt]
    have h1 := Int.emod_nonneg ys[n] (show b ≠ 0 by omega)
    have h2 := Int.emod_lt_of_pos ys[n] (show 0 < b by omega)
    rw [cnt_snoc (ys.take n) ys[n] b (ys[n] % b).toNat (by omega) (by rw [cnt_length]; omega), sum_set, ih (by omega)]
    rfl
theorem cnt_sum_all (ys : List Int) (b : Int) (hb : 1 ≤ b) : (cnt ys b).sum = ys.length := by
  have := cnt_sum ys b hb ys.length (Nat.le_refl _)
  rwa [List.take_length] at this
theorem sum_le_max (l : List Int) (m : Int) (h : ∀ z ∈ l, z ≤ m) : l.sum ≤ m * l.length := by
  induction l with
  | nil => simp
  | cons x l ih =>
    have h1 := ih fun z hz => h z (List.mem_cons_of_mem _ hz)
    have h2 := h x (List.mem_cons_self ..)
    rw [List.sum_cons, List.length_cons]
    have : m * ((l.length + 1 : Nat) : Int) = m * l.length + m := by
      rw [Int.natCast_add, Int.mul_add]; simp
    omega
theorem cnt_mem (ys : List Int) (b z : Int) : z ∈ cnt ys b ↔ ∃ i : Nat, i < b.toNat ∧ z = ((ys.filter fun y => y % b == (i : Int)).length : Int) := by
  unfold cnt
  rw [List.mem_map]
  constructor
  · rintro ⟨i, hi, rfl⟩; exact ⟨i, by simpa using hi, rfl⟩
  · rintro ⟨i, hi, rfl⟩; exact ⟨i, by simpa using hi, rfl⟩
theorem cnt_ne (ys : List Int) (b : Int) (hb : 1 ≤ b) : cnt ys b ≠ [] := fun e => by
  have := cnt_length ys b
  rw [e] at this
  simp at this; omega
theorem rounds_low (ys : List Int) (b : Int) (hb : 1 ≤ b) : 0 ≤ maxOf (cnt ys b) := by
  have := maxOf_mem (cnt_ne ys b hb) (fun z hz => (cnt_mem_bound hz).1)
  exact (cnt_mem_bound this).1
theorem rounds_high (ys : List Int) (b : Int) : maxOf (cnt ys b) ≤ ys.length := maxOf_le (by omega) fun z hz => (cnt_mem_bound hz).2
theorem rounds_room (ys : List Int) (b : Int) (hb : 1 ≤ b) : (ys.length : Int) ≤ maxOf (cnt ys b) * b := by
  have h1 := sum_le_max (cnt ys b) (maxOf (cnt ys b)) (fun z hz => maxOf_ge hz)
  rw [cnt_sum_all ys b hb, cnt_length] at h1
  rwa [show ((b.toNat : Nat) : Int) = b by omega] at h1
theorem filter_le_of {ys : List Int} {p q : Int → Bool} (h : ∀ y, p y = true → q y = true) : (ys.filter p).length ≤ (ys.filter q).length := by
  induction ys with
  | nil => simp
  | cons y ys ih =>
    by_cases hp : p y = true
    · rw [List.filter_cons_of_pos hp, List.filter_cons_of_pos (h y hp)]
      simp only [List.length_cons]; omega
    · rw [List.filter_cons_of_neg hp]
      by_cases hq : q y = true
      · rw [List.filter_cons_of_pos hq]; simp only [List.length_cons]; omega
      · rw [List.filter_cons_of_neg hq]; exact ih
theorem rounds_double (ys : List Int) (b : Int) (hb : 1 ≤ b) : maxOf (cnt ys (2 * b)) ≤ maxOf (cnt ys b) := by
  refine maxOf_le (maxOf_low _) fun z hz => ?_
  rw [cnt_mem] at hz
  obtain ⟨i, hi, rfl⟩ := hz
  have h1 := Int.emod_nonneg (i : Int) (show b ≠ 0 by omega)
  have h2 := Int.emod_lt_of_pos (i : Int) (show 0 < b by omega)
  have : ((ys.filter fun y => y % b == (((i : Int) % b).toNat : Int)).length : Int) ≤ maxOf (cnt ys b) := maxOf_ge ((cnt_mem _ _ _).2 ⟨((i : Int) % b).toNat, by omega, rfl⟩)
  have h3 := filter_le_of (ys := ys) (p := fun y => y % (2 * b) == (i : Int)) (q := fun y => y % b == (((i : Int) % b).toNat : Int)) (fun y hy => by
    simp only [beq_iff_eq] at hy ⊢
    rw [← hy, Int.toNat_of_nonneg (by rw [hy]; exact h1), Int.emod_emod_of_dvd y ⟨2, by rw [Int.mul_comm]⟩])
  omega
theorem rounds_one (ys : List Int) : maxOf (cnt ys 1) = ys.length := by
  have h1 := rounds_high ys 1
  have h2 := rounds_room ys 1 (by omega)
  omega
/-- all numbers in banks of their own. -/
theorem rounds_apart (ys : List Int) (b : Int) (hb : 1 ≤ b) (hne : ys ≠ []) (h : ∀ x ∈ ys, ∀ y ∈ ys, x % b = y % b → x = y) (hn : ys.Nodup) : maxOf (cnt ys b) = 1 := by
  have hle : maxOf (cnt ys b) ≤ 1 := maxOf_le (by omega) fun z hz => by
    rw [cnt_mem] at hz
    obtain ⟨i, hi, rfl⟩ := hz
    have hnd : (ys.filter fun y => y % b == (i : Int)).Nodup := List.Nodup.sublist List.filter_sublist hn
    match hf : ys.filter fun y => y % b == (i : Int) with
    | [] => simp
    | [x] => simp
    | x :: y :: rest =>
      exfalso
      have hx : x ∈ ys.filter fun y => y % b == (i : Int) := by rw [hf]; simp
      have hy : y ∈ ys.filter fun y => y % b == (i : Int) := by rw [hf]; simp
      rw [List.mem_filter, beq_iff_eq] at hx hy
      have e := h x hx.1 y hy.1 (by rw [hx.2, hy.2])
      rw [hf, List.nodup_cons] at hnd
      exact hnd.1 (by rw [e]; simp)
  have h0 := rounds_low ys b hb
  have h1 := rounds_room ys b hb
  have hl : 0 < ys.length := List.length_pos_iff.2 hne
  have : maxOf (cnt ys b) ≠ 0 := fun e => by rw [e] at h1; omega
  omega
theorem late_iff (zs : List Int) (b c : Int) : late zs b c = true ↔ ∃ o ∈ zs, o < c ∧ o % b = c % b := by
  unfold late
  rw [List.any_eq_true]
  constructor
  · rintro ⟨o, ho, h⟩
    simp only [Bool.and_eq_true, decide_eq_true_eq, beq_iff_eq] at h
    exact ⟨o, ho, h⟩
  · rintro ⟨o, ho, h1, h2⟩
    exact ⟨o, ho, by simp [h1, h2]⟩
theorem conf_nil (zs : List Int) (b : Int) : confUpto zs b zs.length = [] ↔ ∀ x ∈ zs, ∀ y ∈ zs, x % b = y % b → x = y := by
  constructor
  · intro h x hx y hy he
    have key : ∀ x ∈ zs, ∀ y ∈ zs, x % b = y % b → ¬ x < y := fun x hx y hy he hlt => by
      obtain ⟨i, hi, rfl⟩ := List.mem_iff_getElem.1 hy
      have : (i : Int) ∈ confUpto zs b zs.length := (confUpto_mem zs b zs.length (Nat.le_refl _) _).2 ⟨i, hi, hi, rfl, (late_iff _ _ _).2 ⟨x, hx, hlt, he⟩⟩
      rw [h] at this
      cases this
    have h1 := key x hx y hy he
    have h2 := key y hy x hx he.symm
    omega
  · intro h
    refine List.eq_nil_iff_forall_not_mem.2 fun z hz => ?_
    obtain ⟨i, hi, _, _, hl⟩ := (confUpto_mem zs b zs.length (Nat.le_refl _) z).1 hz
    obtain ⟨o, ho, hlt, he⟩ := (late_iff _ _ _).1 hl
    have := h o ho _ (List.getElem_mem hi) he
    omega
/-- no conflicts, exactly if one round is enough. -/
theorem conf_rounds (zs : List Int) (b : Int) (hb : 1 ≤ b) : confUpto zs b zs.length = [] ↔ maxOf (cnt (asc zs) b) ≤ 1 := by
  rw [conf_nil]
  constructor
  · intro h
    by_cases hne : asc zs = []
    · rw [hne]; have := rounds_high [] b; simp at this; omega
    · exact Int.le_of_eq (rounds_apart (asc zs) b hb hne (fun x hx y hy he => h x (((asc_spec zs).2 x).1 hx) y (((asc_spec zs).2 y).1 hy) he) (up_nodup (asc_spec zs).1))
  · intro h x hx y hy he
    have h1 := Int.emod_nonneg x (show b ≠ 0 by omega)
    have h2 := Int.emod_lt_of_pos x (show 0 < b by omega)
    have hm : (((asc zs).filter fun y => y % b == ((x % b).toNat : Int)).length : Int) ≤ 1 := Int.le_trans (maxOf_ge ((cnt_mem _ _ _).2 ⟨(x % b).toNat, by omega, rfl⟩)) h
    have hx' : x ∈ (asc zs).filter fun y => y % b == ((x % b).toNat : Int) := by
      rw [List.mem_filter, beq_iff_eq]
      exact ⟨((asc_spec zs).2 x).2 hx, by omega⟩
    have hy' : y ∈ (asc zs).filter fun y => y % b == ((x % b).toNat : Int) := by
      rw [List.mem_filter, beq_iff_eq]
      exact ⟨((asc_spec zs).2 y).2 hy, by omega⟩
    match hf : (asc zs).filter fun y => y % b == ((x % b).toNat : Int) with
    | [] => rw [hf] at hx'; cases hx'
    | [z] =>
      rw [hf, List.mem_singleton] at hx' hy'
      omega
    | z :: z' :: rest => rw [hf] at hm; simp at hm; omega
theorem cnt_shift (ys : List Int) (b : Int) : cnt (ys.map (· + b)) b = cnt ys b := by
  unfold cnt
  refine List.map_congr_left fun i _ => ?_
  rw [List.filter_map, List.length_map]
  congr 2
  refine List.filter_congr fun y _ => ?_
  show ((y + b) % b == (i : Int)) = (y % b == (i : Int))
  rw [Int.add_emod_right]
theorem asc_777 : asc [7, 7, 7] = [7] := asc_eq (by simp [Up]) (by simp)
theorem rounds_777 (b : Int) (hb : 1 ≤ b ∧ b ≤ 32) : bankRounds [7, 7, 7] b = 1 := by
  unfold bankRounds
  rw [bankLoads_yes (by decide) (inB_of hb.1 hb.2), asc_777]
  exact rounds_apart [7] b hb.1 (by simp) (fun x hx y hy _ => by simp at hx hy; omega) (by simp)
theorem bankRounds_yes {zs : List Int} {b : Int} (h : areCells zs = true) (h' : inB b 1 32 = true) : bankRounds zs b = maxOf (cnt (asc zs) b) := by unfold bankRounds; rw [bankLoads_yes h h']
theorem bankRounds_no {zs : List Int} {b : Int} (h : (areCells zs && inB b 1 32) = false) : bankRounds zs b = -1 := by simp [bankRounds, bankLoads, h, maxOf]
theorem linesTouched_one {zs : List Int} (h : areCells zs = true) : linesTouched zs 1 = card zs := by
  rw [linesTouched_yes h (by decide), linesOf, map_div_one]; rfl
end Go.Proofs.Ytjgmghlgjjfifaa
