/-
  Parts of a proof: PlainOrder.
-/
import Derived.Test.YtjmiilneennjaaaPart19
import Derived.Test.YtjmiilneennjaaaPart27
namespace Go.Proofs.Ytjmiilneennjaaa
set_option maxHeartbeats 1000000
set_option linter.unusedVariables false

theorem mod_reach {L i idx : Nat} (h : idx < L) : ∃ d, d < L ∧ (i + d) % L = idx := by
  have h1 := Nat.mod_lt i (show 0 < L by omega)
  have h2 := Nat.div_add_mod i L
  by_cases hc : i % L ≤ idx
  · refine ⟨idx - i % L, by omega, ?_⟩
    have e : i + (idx - i % L) = L * (i / L) + idx := by omega
    rw [e, Nat.mul_add_mod, Nat.mod_eq_of_lt h]
  · refine ⟨idx + L - i % L, by omega, ?_⟩
    have e : i + (idx + L - i % L) = L * (i / L + 1) + idx := by rw [Nat.mul_add, Nat.mul_one]; omega
    rw [e, Nat.mul_add_mod, Nat.mod_eq_of_lt h]
structure OrdOk (os : List Int) (n : Nat) : Prop where
  n8 : 1 ≤ n ∧ n ≤ 8
  len : 1 ≤ os.length ∧ os.length ≤ 40
  lt : ∀ i, orderAt os i < n
  at_ : ∀ i, os.getD (i % os.length) 0 = (orderAt os i : Int)
  all : ∀ k, k < n → ∀ i, ∃ d, d < 40 ∧ orderAt os (i + d) = k
theorem order_ok {os : List Int} {z : Int} (h : orderValid os z = true) : ∃ n : Nat, z = n ∧ OrdOk os n := by
  unfold orderValid at h
  simp only [Bool.and_eq_true, decide_eq_true_eq] at h
  obtain ⟨⟨⟨h1, h2⟩, h3⟩, h4⟩ := h
  have h1 := inB_t h1
  obtain ⟨n, rfl⟩ := Int.eq_ofNat_of_zero_le (show 0 ≤ z by omega)
  rw [List.all_eq_true] at h3 h4
  have hat : ∀ k, k < n → ∃ idx, ∃ h : idx < os.length, os[idx] = (k : Int) := fun k hk => by
    have := h4 k (List.mem_range.2 (by simpa using hk))
    unfold hasB at this
    rw [List.any_eq_true] at this
    obtain ⟨y, hy, he⟩ := this
    obtain ⟨idx, hi, rfl⟩ := List.mem_iff_getElem.1 hy
    exact ⟨idx, hi, by simpa using he⟩
  have hpos : 1 ≤ os.length := by
    obtain ⟨idx, hi, _⟩ := hat 0 (by omega)
    omega
  have hlt : ∀ i, 0 ≤ os.getD (i % os.length) 0 ∧ os.getD (i % os.length) 0 ≤ (n : Int) - 1 := fun i => by
    have hm := Nat.mod_lt i (show 0 < os.length by omega)
    rw [List.getD, List.getElem?_eq_getElem hm]
    exact inB_t (h3 _ (List.getElem_mem hm))
  refine ⟨n, rfl, by omega, ⟨hpos, h2⟩, fun i => ?_, fun i => ?_, fun k hk i => ?_⟩
  · have := hlt i
    unfold orderAt
    omega
  · have := hlt i
    unfold orderAt
    omega
  · obtain ⟨idx, hi, he⟩ := hat k hk
    obtain ⟨d, hd, hm⟩ := mod_reach (i := i) hi
    refine ⟨d, by omega, ?_⟩
    unfold orderAt
    rw [hm, List.getD, List.getElem?_eq_getElem hi]
    simp [he]
theorem order_runs {xs : List Cd} {os : List Int} {n : Nat} {mem : List Int} (hv : progValid xs = true) (hm : memValid mem = true) (ho : OrdOk os n) : ∃ N, Runs xs (orderAt os) n mem N :=
  runs_of hv hm ho.n8 ho.lt (L := 40) (Nat.le_refl _) ho.all
/-- the memory that a run leaves. -/
def ranB (xs : List Cd) (z : Int) (mem os : List Int) : Bool := progValid xs && memValid mem && orderValid os z
/-- an order that is listed twice. -/
theorem orderAt_twice (os : List Int) (h : 1 ≤ os.length) (i : Nat) : orderAt (os ++ os) i = orderAt os i := by
  unfold orderAt
  congr 1
  rw [List.length_append]
  have h1 := Nat.mod_lt i (show 0 < os.length by omega)
  have h2 := Nat.mod_lt i (show 0 < os.length + os.length by omega)
  have h3 := Nat.div_add_mod i (os.length + os.length)
  have h4 : i % os.length = (i % (os.length + os.length)) % os.length := by
    conv => lhs; rw [← h3]
    rw [show (os.length + os.length) * (i / (os.length + os.length)) = os.length * (2 * (i / (os.length + os.length))) from by rw [← Nat.mul_assoc]; congr 1; omega, Nat.mul_add_mod]
  generalize i % (os.length + os.length) = r at *
  simp only [List.getD]
  by_cases hc : r < os.length
  · rw [Nat.mod_eq_of_lt hc] at h4
    rw [h4, List.getElem?_append_left hc]
  · have e : r % os.length = r - os.length := by
      have : r = os.length * 1 + (r - os.length) := by omega
      rw [this, Nat.mul_add_mod, Nat.mod_eq_of_lt (by omega)]
      omega
    rw [h4, e, List.getElem?_append_right (by omega)]
theorem orderValid_twice {os : List Int} {z : Int} (h : orderValid os z = true) (hl : 2 * os.length ≤ 40) : orderValid (os ++ os) z = true := by
  unfold orderValid at h ⊢
  simp only [Bool.and_eq_true, decide_eq_true_eq] at h ⊢
  obtain ⟨⟨⟨h1, h2⟩, h3⟩, h4⟩ := h
  refine ⟨⟨⟨h1, by simp; omega⟩, by simp [List.all_append, h3]⟩, ?_⟩
  rw [List.all_eq_true] at h4 ⊢
  intro x hx
  have := h4 x hx
  unfold hasB at this ⊢
  rw [List.any_append, this]; rfl
theorem runs_congr {xs : List Cd} {f g : Nat → Nat} {n : Nat} {mem : List Int} {N : Nat} (h : ∀ i, f i = g i) (hR : Runs xs f n mem N) : Runs xs g n mem N := by
  have e : f = g := funext h
  subst e; exact hR
theorem runs_uniq {xs : List Cd} {f : Nat → Nat} {n : Nat} {mem : List Int} {N M : Nat} (h : Runs xs f n mem N) (k : Runs xs f n mem M) : N = M := by
  rcases Nat.lt_trichotomy N M with h1 | h1 | h1
  · have := k.before N h1; rw [h.over] at this; cases this
  · exact h1
  · have := h.before M h1; rw [k.over] at this; cases this
/-- the answer of a run: the memory, or nothing. -/
def RanTo (xs : List Cd) (z : Int) (mem os out : List Int) : Prop :=
  (ranB xs z mem os = false ∧ out = []) ∨ (ranB xs z mem os = true ∧ ∃ n : Nat, z = n ∧ OrdOk os n ∧ ∃ N, Runs xs (orderAt os) n mem N ∧ out = (seqC xs (orderAt os) (List.replicate n newLS) mem N).2)
theorem ranTo_ex (xs : List Cd) (z : Int) (mem os : List Int) : ∃ out, RanTo xs z mem os out := by
  cases h : ranB xs z mem os with
  | false => exact ⟨[], .inl ⟨h, rfl⟩⟩
  | true =>
    have h2 := h
    unfold ranB at h2
    simp only [Bool.and_eq_true] at h2
    obtain ⟨n, e, ho⟩ := order_ok h2.2
    obtain ⟨N, hN⟩ := order_runs h2.1.1 h2.1.2 ho
    exact ⟨_, .inr ⟨h, n, e, ho, N, hN, rfl⟩⟩
theorem ranTo_uniq {xs : List Cd} {z : Int} {mem os a b : List Int} (h : RanTo xs z mem os a) (k : RanTo xs z mem os b) : a = b := by
  rcases h with ⟨h1, rfl⟩ | ⟨h1, n, e, _, N, hN, rfl⟩
  · rcases k with ⟨_, rfl⟩ | ⟨k1, _⟩
    · rfl
    · rw [h1] at k1; cases k1
  · rcases k with ⟨k1, _⟩ | ⟨_, n', e', _, N', hN', rfl⟩
    · rw [h1] at k1; cases k1
    · have : n = n' := by omega
      subst this
      rw [runs_uniq hN hN']
theorem ranTo_len {xs : List Cd} {z : Int} {mem os out : List Int} (h : RanTo xs z mem os out) : out.length ≤ 32 ∧ (out ≠ [] → ranB xs z mem os = true ∧ memValid out = true ∧ out.length = mem.length) := by
  rcases h with ⟨h1, rfl⟩ | ⟨h1, n, e, ho, N, hN, rfl⟩
  · exact ⟨by simp, fun h => absurd rfl h⟩
  · have h2 := h1
    unfold ranB at h2
    simp only [Bool.and_eq_true] at h2
    have hl : (List.replicate n newLS).length = n := by simp
    have := seqC_ok (f := orderAt os) (newCrowd_ok h2.1.1 h2.1.2 ho.n8) (by rw [hl]; exact ho.lt) N
    have hm := memValid_parts.1 h2.1.2
    exact ⟨by rw [this.2.2]; omega, fun _ => ⟨h1, this.1.mem, this.2.2⟩⟩
theorem ranTo_empty {xs : List Cd} {z : Int} {mem os out : List Int} (h : RanTo xs z mem os out) (hv : ranB xs z mem os = true) : out.length = mem.length ∧ 1 ≤ out.length := by
  rcases h with ⟨h1, rfl⟩ | ⟨h1, n, e, ho, N, hN, rfl⟩
  · rw [hv] at h1; cases h1
  · have h2 := h1
    unfold ranB at h2
    simp only [Bool.and_eq_true] at h2
    have hl : (List.replicate n newLS).length = n := by simp
    have := seqC_ok (f := orderAt os) (newCrowd_ok h2.1.1 h2.1.2 ho.n8) (by rw [hl]; exact ho.lt) N
    have hm := memValid_parts.1 h2.1.2
    exact ⟨this.2.2, by rw [this.2.2]; omega⟩
end Go.Proofs.Ytjmiilneennjaaa
