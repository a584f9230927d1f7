/-
  Contracts of slices.IndexFunc, slices.ContainsFunc and slices.Clone at []int; the closure is met by a contract of its own.
-/
import Derived.Test.YtilhcedfokhhjaaCInts
import Derived.Test.YtilhcedfokhhjaaLib2
namespace Go.Proofs.Ytilhcedfokhhjaa
open Go.RowKit
set_option maxHeartbeats 400000
set_option linter.unusedVariables false

/-- closure f answers p at the numbers of zs, wherever it is called from w on. -/
def Answers (f : Value) (p : Int → Bool) (zs : List Int) (w : World) : Prop :=
  ∃ id cap, f = .func (.func id) #[] cap ∧ (∀ args w, (callFunc id args).run Try.prog w = .ok (.enter id args) w) ∧ ∀ z ∈ zs, ∀ X : World, Below w.heap.size w X → Calls Try.prog id (#[.int .i64 z] ++ cap) X fun e w' => e = .returned (.bool (p z)) ∧ Below X.heap.size X w'
theorem Answers.below {f : Value} {p : Int → Bool} {zs : List Int} {w w' : World} (h : Answers f p zs w) (hb : Below w.heap.size w w') : Answers f p zs w' := by
  obtain ⟨id, cap, rfl, hr, h⟩ := h
  exact ⟨id, cap, rfl, hr, fun z hz X hX => h z hz X (below_then hb hX)⟩

def RetIdx (p : Int → Bool) (zs : List Int) (w : World) (e : Ending) (w' : World) : Prop :=
  ((∃ i : Nat, ∃ h : i < zs.length, e = .returned (.int .i64 i) ∧ p zs[i] = true) ∨ (e = .returned (.int .i64 (-1)) ∧ ∀ z ∈ zs, p z = false)) ∧ Below w.heap.size w w'
theorem indexFunc_any (A : Option Addr) (c : Nat) (zs : List Int) (f : Value) (p : Int → Bool) (w : World) (hl : zs.length ≤ 9223372036854775807) (hs : Sl w A (ints zs)) (hf : Answers f p zs w) :
    Calls Try.prog 57 #[.slice A zs.length c, f] w (RetIdx p zs w) := by
  obtain ⟨id, cap, rfl, hrun, hf⟩ := hf
  have HF := mkHid hf
  clear hf
  go_enter Try.func57, Try.ntmps57
  go_wp2_with fail
  go_loopw [8] (fun iv wr => ∃ k : Nat, k ≤ zs.length ∧ iv = .int .i64 k ∧ Hid (∀ j (h : j < zs.length), j < k → p zs[j] = false) ∧ Below w.heap.size w wr) (fun iv _ => zs.length - (intOf iv).toNat)
  case atStart => exact ⟨0, by omega, rfl, mkHid (fun j h h' => absurd h' (by omega)), Below.refl _ _⟩
  case round =>
    obtain ⟨k, hk, rfl, HN, hb⟩ := hrel
    have hs' := hs.below hb
    have HB := mkHid hb
    clear hb
    by_cases hlt : k < zs.length
    · obtain ⟨b, off, rfl, hc⟩ := hs'.at_ (k := k) (by simpa using hlt)
      have h1 : wr.cell? ⟨b, off + k, none⟩ = some (.int .i64 zs[k]) := hc k _ (ints_at hlt)
      have HC := mkHid (HF.out zs[k] (List.getElem_mem hlt) wr HB.out)
      clear hc hs hs'
      cases hp : p zs[k] with
      | true =>
        have HP := mkHid hp
        rw [hp] at HC
        clear hp
        go_wp2_with (first | (refine HC.out.mono ?_; rintro e w2 ⟨rfl, hb2⟩; have HB2 := mkHid hb2; clear hb2))
        go_ret
        exact ⟨.inl ⟨k, hlt, rfl, HP.out⟩, below_then HB.out HB2.out⟩
      | false =>
        have HP := mkHid hp
        rw [hp] at HC
        clear hp
        go_wp2_with (first | (refine HC.out.mono ?_; rintro e w2 ⟨rfl, hb2⟩; have HB2 := mkHid hb2; clear hb2))
        go_roundw
        case rel =>
          refine ⟨k + 1, by omega, by go_num, mkHid (fun j h h' => ?_), below_then HB.out HB2.out⟩
          by_cases e : j = k
          · subst e; exact HP.out
          · exact HN.out j h (by omega)
        case measure => simp [intOf]; omega
    · go_wp2_with fail
      go_ret
      refine ⟨.inr ⟨rfl, fun z hz => ?_⟩, HB.out⟩
      obtain ⟨j, hj, rfl⟩ := List.mem_iff_getElem.1 hz
      exact HN.out j hj (by omega)
theorem containsFunc_any (A : Option Addr) (c : Nat) (zs : List Int) (f : Value) (p : Int → Bool) (w : World) (hl : zs.length ≤ 9223372036854775807) (hs : Sl w A (ints zs)) (hf : Answers f p zs w) :
    Calls Try.prog 35 #[.slice A zs.length c, f] w fun e w' => e = .returned (.bool (zs.any p)) ∧ Below w.heap.size w w' := by
  go_enter Try.func35, Try.ntmps35
  go_wp2_with fail
  refine (indexFunc_any _ _ _ _ p _ hl hs hf).mono ?_
  rintro e w1 ⟨⟨i, h, rfl, hp⟩ | ⟨rfl, hn⟩, hb⟩
  · have HB := mkHid hb
    have HP := mkHid hp
    clear hb hp
    go_wp2_with fail
    go_ret
    refine ⟨ret_bool ?_, HB.out⟩
    symm
    rw [List.any_eq_true]
    exact ⟨zs[i], List.getElem_mem h, HP.out⟩
  · have HB := mkHid hb
    have HN := mkHid hn
    clear hb hn
    go_wp2_with fail
    go_ret
    refine ⟨ret_bool ?_, HB.out⟩
    symm
    rw [Bool.eq_false_iff]
    intro h
    rw [List.any_eq_true] at h
    obtain ⟨z, hz, hp⟩ := h
    rw [HN.out z hz] at hp
    cases hp
theorem cloneInts_any (A : Option Addr) (c : Nat) (zs : List Int) (w : World) (hl : zs.length ≤ 1000000000000) (hs : Sl w A (ints zs)) :
    Calls Try.prog 63 #[.slice A zs.length c] w (RetInts zs w) := by
  have q : ∀ (w : World) (a : Option Addr) (n c n' c' : Nat), (binOp .eql 22 (.slice a n c) (.slice none n' c')).run Try.prog w = .ok (.bool a.isNone) w := fun w a n c n' c' => Lib.run_eql_slice_nil w _ _ a n c n' c' Try.underlying22
  cases A with
  | none =>
    obtain rfl : zs = [] := by
      rcases hs with h | ⟨b, off, h, _⟩
      · simpa using h
      · cases h
    go_enter Try.func63, Try.ntmps63
    go_wp2_with fail
    go_ret
    exact ⟨none, 0, rfl, World.ownsRow_nil _ _ _ _, Below.refl _ _⟩
  | some ad =>
    have hs1 := hs.alloc (.cells #[] 3)
    have hnews : ∀ j u, (ints zs)[j]? = some u → (w.alloc (.cells #[] 3)).cell? (ad.add j) = some u := by
      intro j u hu
      rcases hs1 with h | ⟨b, off, h, hc⟩
      · rw [h] at hu; simp at hu
      · injection h with h
        subst h
        rw [add_flat]
        exact hc j u hu
    have HN := mkHid hnews
    clear hs1 hnews hs
    have hz : 0 + zs.length = zs.length := Nat.zero_add _
    go_enter Try.func63, Try.ntmps63
    go_wp2_with (at_builtin; refine wpList_app Ei (own_empty w _ _) HN.out (by simp [ints]) (ints_one zs) (by omega) (by omega) (by simp) rfl rfl rfl rfl ?_; intro A' c' w1 hown1 hg1; rw [hz] at hown1; have HO1 := mkHid hown1; have HG1 := mkHid hg1; clear hown1 hg1)
    go_ret
    refine ⟨A', c', rfl, HO1.out, ((Below.refl _ _).alloc (Nat.le_refl _) _).grown HG1.out (by simp) (fun g hg => by simp [Value.ownBlock] at hg; omega)⟩
end Go.Proofs.Ytilhcedfokhhjaa
