/-
  Contracts of slices.IndexFunc, slices.Clone and slices.DeleteFunc at accesses; of AccessesOf of the program.
-/
import Derived.Test.YtbhjicjcilneeaaCAccS2
import Derived.Test.YtbhjicjcilneeaaLib2
import Derived.Lib.SliceRun
namespace Go.Proofs.Ytbhjicjcilneeaa
open Go.RowKit
set_option maxHeartbeats 1000000
set_option linter.unusedVariables false

/-- closure f answers p at every access, in every world in which only block 'row' has turned. -/
def AnswersA (f : Value) (p : Acc → Bool) (row : Option Nat) (w : World) : Prop :=
  ∃ id cap, f = .func (.func id) #[] cap ∧ (∀ args w, (callFunc id args).run Try.prog w = .ok (.enter id args) w) ∧ ∀ a, ∀ X : World, w.grownBy X row → Calls Try.prog id (#[accV a] ++ cap) X fun e w' => e = .returned (.bool (p a)) ∧ Below X.heap.size X w'
theorem AnswersA.grown {f : Value} {p : Acc → Bool} {row : Option Nat} {w w' : World} (h : AnswersA f p row w) (hg : w.grownBy w' row) : AnswersA f p row w' := by
  obtain ⟨id, cap, rfl, hr, h⟩ := h
  exact ⟨id, cap, rfl, hr, fun a X hX => h a X (grown_trans hg hX)⟩
def RetIdxA (p : Acc → Bool) (xs : List Acc) (w : World) (e : Ending) (w' : World) : Prop :=
  ((∃ i : Nat, ∃ h : i < xs.length, e = .returned (.int .i64 i) ∧ p xs[i] = true ∧ ∀ j (h' : j < xs.length), j < i → p xs[j] = false) ∨ (e = .returned (.int .i64 (-1)) ∧ ∀ x ∈ xs, p x = false)) ∧ Below w.heap.size w w'
theorem indexFuncA_any (A : Option Addr) (c : Nat) (xs : List Acc) (f : Value) (p : Acc → Bool) (row : Option Nat) (w : World) (hl : xs.length ≤ 1000000000) (hs : Sl w A (flat xs)) (hf : AnswersA f p row w) :
    Calls Try.prog 46 #[.slice A xs.length c, f] w (RetIdxA p xs w) := by
  obtain ⟨id, cap, rfl, hrun, hf⟩ := hf
  have HF := mkHid hf
  clear hf
  go_enter Try.func46, Try.ntmps46
  go_wp2_with fail
  go_loopw [8] (fun iv wr => ∃ k : Nat, k ≤ xs.length ∧ iv = .int .i64 k ∧ Hid (∀ j (h : j < xs.length), j < k → p xs[j] = false) ∧ Below w.heap.size w wr) (fun iv _ => xs.length - (intOf iv).toNat)
  case atStart => exact ⟨0, by omega, rfl, mkHid (fun j h h' => absurd h' (by omega)), Below.refl _ _⟩
  case round =>
    obtain ⟨k, hk, rfl, HN, hb⟩ := hrel
    have hs' := hs.below hb
    have HB := mkHid hb
    clear hb
    by_cases hlt : k < xs.length
    · obtain ⟨b, off, rfl, h0, h1, h2, h3⟩ := hs'.acc hlt
      have HC := mkHid (HF.out xs[k] wr (grown_of_below HB.out row))
      have HXK := mkHid (show ∀ (h : k < xs.length), xs[k] = xs[k] from fun _ => rfl)
      obtain ⟨x, hx⟩ : ∃ x, x = xs[k] := ⟨_, rfl⟩
      rw [← hx] at h0 h1 h2 h3 HC
      have HX := mkHid hx
      clear hs hs' hx HXK
      obtain ⟨x0, x1, x2, x3⟩ := x
      simp only at h0 h1 h2 h3
      cases hp : p ⟨x0, x1, x2, x3⟩ with
      | true =>
        have HP := mkHid hp
        rw [hp] at HC
        clear hp
        go_wp2_with (first | (refine HC.out.mono ?_; rintro e w2 ⟨rfl, hb2⟩; have HB2 := mkHid hb2; clear hb2))
        go_ret
        exact ⟨.inl ⟨k, hlt, rfl, by rw [← HX.out]; exact HP.out, HN.out⟩, below_then HB.out HB2.out⟩
      | false =>
        have HP := mkHid hp
        rw [hp] at HC
        clear hp
        go_wp2_with (first | (refine HC.out.mono ?_; rintro e w2 ⟨rfl, hb2⟩; have HB2 := mkHid hb2; clear hb2))
        go_roundw
        case rel =>
          refine ⟨k + 1, by omega, by go_num, mkHid (fun j h h' => ?_), below_then HB.out HB2.out⟩
          by_cases e : j = k
          · subst e; rw [← HX.out]; exact HP.out
          · exact HN.out j h (by omega)
        case measure => simp [intOf] <;> omega
    · go_wp2_with fail
      go_ret
      refine ⟨.inr ⟨rfl, fun z hz => ?_⟩, HB.out⟩
      obtain ⟨j, hj, rfl⟩ := List.mem_iff_getElem.1 hz
      exact HN.out j hj (by omega)
theorem cloneA_any (A : Option Addr) (c : Nat) (xs : List Acc) (w : World) (hl : xs.length ≤ 1000000000) (hs : Sl w A (flat xs)) :
    Calls Try.prog 42 #[.slice A xs.length c] w (RetAccs xs w) := by
  have q : ∀ (w : World) (a : Option Addr) (n c n' c' : Nat), (binOp .eql 26 (.slice a n c) (.slice none n' c')).run Try.prog w = .ok (.bool a.isNone) w := fun w a n c n' c' => Lib.run_eql_slice_nil w _ _ a n c n' c' Try.underlying26
  cases A with
  | none =>
    obtain rfl : xs = [] := by
      rcases hs with h | ⟨b, off, h, _⟩
      · exact List.eq_nil_of_length_eq_zero (by have := congrArg List.length h; rw [flat_length] at this; simp at this; omega)
      · cases h
    go_enter Try.func42, Try.ntmps42
    go_wp2_with fail
    go_ret
    exact ⟨none, 0, rfl, World.ownsRow_nil _ _ _ _, Below.refl _ _⟩
  | some ad =>
    have hs1 := hs.alloc (.cells #[] 35)
    have hnews : ∀ j u, (flat xs)[j]? = some u → (w.alloc (.cells #[] 35)).cell? (ad.add j) = some u := by
      intro j u hu
      rcases hs1 with h | ⟨b, off, h, hc⟩
      · rw [h] at hu; simp at hu
      · injection h with h
        subst h
        rw [add_flat]
        exact hc j u hu
    have HN := mkHid hnews
    clear hs1 hnews hs
    have hz : 0 + xs.length = xs.length := Nat.zero_add _
    go_enter Try.func42, Try.ntmps42
    go_wp2_with (at_builtin; refine wpList_app Ea (own_empty w _ _) HN.out (flat_length xs) (flat_one xs) (by omega) (by omega) (by simp) rfl rfl rfl rfl ?_; intro A' c' w1 hown1 hg1; rw [hz] at hown1; have HO1 := mkHid hown1; have HG1 := mkHid hg1; clear hown1 hg1)
    go_ret
    refine ⟨A', c', rfl, HO1.out, ((Below.refl _ _).alloc (Nat.le_refl _) _).grown HG1.out (by simp) (fun g hg => by simp [Value.ownBlock] at hg; omega)⟩
/-- clear on a slice of accesses. -/
theorem run_clear_acc (w : World) (ty : TypeId) (b o n c : Nat) (hn : 0 < n)
    (hc : ∀ j, j < n * 4 → (w.cell? ⟨b, o + j, none⟩).isSome = true) (hf : ∀ j, j < n * 4 → w.frozen? ⟨b, o + j, none⟩ = false) :
    (Builtin.clear_ #[26] ty #[.slice (some ⟨b, o, none⟩) n c]).run Try.prog w = .ok (.tuple #[]) (w.setCells b o (flat (List.replicate n acc0))) := by
  have hv : ∀ w, (zeroValue 35).run Try.prog w = .ok (.agg #[.int .i64 0, .int .i64 0, .bool false, .int .i64 0]) w := fun w => by kernel_rfl
  have hzc : (Builtin.zeroCells (Value.agg #[.int .i64 0, .int .i64 0, .bool false, .int .i64 0]).cells n).toList = flat (List.replicate n acc0) := by
    have := flat_zeros n
    rw [← this]
    rfl
  have hst := run_storeCells_cells (P := Try.prog) b o (flat (List.replicate n acc0)) 0 w (by rw [flat_length]; simpa using hc) (by rw [flat_length]; simpa using hf) (flat_one _)
  simp only [Nat.add_zero] at hst
  obtain ⟨m, rfl⟩ : ∃ m, n = m + 1 := ⟨n - 1, by omega⟩
  simp [Builtin.clear_, run_underlying Try.underlying26, hv, hzc, hst]
/-- what stands ahead of the cells that are written stays. -/
theorem own_setCells (vs : List Value) : ∀ (w : World) (base : Nat) (e : TypeId) (g n c o m : Nat) (zs : List Value), w.ownsRow base e 4 (.slice (some ⟨g, 0, none⟩) n c) n zs → m ≤ o →
    ∃ zs', (w.setCells g o vs).ownsRow base e 4 (.slice (some ⟨g, 0, none⟩) n c) n zs' ∧ zs'.take m = zs.take m ∧ w.grownBy (w.setCells g o vs) (some g) := by
  induction vs with
  | nil => exact fun w base e g n c o m zs h _ => ⟨zs, h, rfl, World.grownBy.refl _ _⟩
  | cons v vs ih =>
    intro w base e g n c o m zs h hm
    obtain ⟨zs', h1, h2, h3⟩ := ih (w.setCell ⟨g, o, none⟩ v) base e g n c (o + 1) m (zs.set o v) (h.stored o v).1 (by omega)
    refine ⟨zs', h1, by rw [h2, List.take_set_of_le hm], grown_trans (grown_setCell w g o v) h3⟩
theorem own_prefix4 {w : World} {base : Nat} {e : TypeId} {g n c m : Nat} {xs : List Value} (h : w.ownsRow base e 4 (.slice (some ⟨g, 0, none⟩) n c) n xs) (hm : m ≤ n) : w.ownsRow base e 4 (.slice (some ⟨g, 0, none⟩) m c) m (xs.take (m * 4)) := by
  have hl := h.1
  refine ⟨by rw [List.length_take]; omega, ?_⟩
  rcases h.2 with ⟨hv, h0⟩ | ⟨g', cap, cur, hv, hb, hg, hn, hx, hs, ht⟩
  · cases hv
  · right
    injection hv with h1 h2 h3
    refine ⟨g', cap, cur, by rw [h1, h3], hb, hg, by omega, hx, hs, ?_⟩
    rw [← ht, List.take_take, Nat.min_eq_left (by omega)]
theorem flat_take (xs : List Acc) (m : Nat) : (flat xs).take (m * 4) = flat (xs.take m) := by
  induction xs generalizing m with
  | nil => simp [flat_nil]
  | cons x xs ih =>
    cases m with
    | zero => simp [flat_nil]
    | succ m =>
      rw [flat_cons, List.take_succ_cons, flat_cons, ← ih]
      rw [List.take_append]
      rw [List.take_of_length_le (by simp [accCells]; omega)]
      congr 2
      simp [accCells]; omega
end Go.Proofs.Ytbhjicjcilneeaa
