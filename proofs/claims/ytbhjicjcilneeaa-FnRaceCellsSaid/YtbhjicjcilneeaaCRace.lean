/-
  Contracts of FirstRace: of the program and of the reference: the same two numbers.
-/
import Derived.Test.YtbhjicjcilneeaaCAccS
import Derived.Test.YtbhjicjcilneeaaLib2
namespace Go.Proofs.Ytbhjicjcilneeaa
open Go.RowKit
set_option maxHeartbeats 400000
set_option linter.unusedVariables false

/-- no clash among the accesses before j. -/
def Free (xs : List Acc) (j : Nat) : Prop := ∀ k, k < j → ∀ i, i < k → ∀ a b, xs[i]? = some a → xs[k]? = some b → clash a b = false
/-- no clash of one before i with j. -/
def FreeAt (xs : List Acc) (j i : Nat) : Prop := ∀ h, h < i → ∀ a b, xs[h]? = some a → xs[j]? = some b → clash a b = false
/-- the first race: (i, j, true), or (-1, -1, false). -/
def Race (xs : List Acc) (i j : Int) (found : Bool) : Prop :=
  (found = true ∧ ∃ n m : Nat, i = n ∧ j = m ∧ n < m ∧ m < xs.length ∧ Free xs m ∧ FreeAt xs m n ∧ ∃ a b, xs[n]? = some a ∧ xs[m]? = some b ∧ clash a b = true) ∨
  (found = false ∧ i = -1 ∧ j = -1 ∧ Free xs xs.length)
theorem Race.unique {xs : List Acc} {i j i' j' : Int} {f f' : Bool} (h : Race xs i j f) (h' : Race xs i' j' f') : i = i' ∧ j = j' ∧ f = f' := by
  rcases h with ⟨rfl, n, m, rfl, rfl, hnm, hm, hF, hA, a, b, ha, hb, hc⟩ | ⟨rfl, rfl, rfl, hF⟩
  · rcases h' with ⟨rfl, n', m', rfl, rfl, hnm', hm', hF', hA', a', b', ha', hb', hc'⟩ | ⟨rfl, rfl, rfl, hF'⟩
    · have hmm : m = m' := by
        rcases Nat.lt_trichotomy m m' with h | h | h
        · have := hF' m h n hnm a b ha hb; rw [hc] at this; cases this
        · exact h
        · have := hF m' h n' hnm' a' b' ha' hb'; rw [hc'] at this; cases this
      subst hmm
      have hnn : n = n' := by
        rcases Nat.lt_trichotomy n n' with h | h | h
        · have := hA' n h a b ha hb; rw [hc] at this; cases this
        · exact h
        · have := hA n' h a' b' ha' hb'; rw [hc'] at this; cases this
      subst hnn
      exact ⟨rfl, rfl, rfl⟩
    · have := hF' m hm n hnm a b ha hb; rw [hc] at this; cases this
  · rcases h' with ⟨rfl, n', m', rfl, rfl, hnm', hm', hF', hA', a', b', ha', hb', hc'⟩ | ⟨rfl, rfl, rfl, hF'⟩
    · have := hF m' hm' n' hnm' a' b' ha' hb'; rw [hc'] at this; cases this
    · exact ⟨rfl, rfl, rfl⟩
theorem Free.zero (xs : List Acc) : Free xs 0 := fun k hk => by omega
theorem FreeAt.zero (xs : List Acc) (j : Nat) : FreeAt xs j 0 := fun k hk => by omega
theorem Free.succ {xs : List Acc} {j : Nat} (h : Free xs j) (h' : FreeAt xs j j) : Free xs (j + 1) := fun k hk i hi a b ha hb => by
  by_cases e : k = j
  · subst e; exact h' i hi a b ha hb
  · exact h k (by omega) i hi a b ha hb
theorem FreeAt.succ {xs : List Acc} {j i : Nat} (hi : i < xs.length) (hj : j < xs.length) (h : FreeAt xs j i) (h' : clash xs[i] xs[j] = false) : FreeAt xs j (i + 1) := fun k hk a b ha hb => by
  by_cases e : k = i
  · subst e
    rw [List.getElem?_eq_getElem hi] at ha
    rw [List.getElem?_eq_getElem hj] at hb
    injection ha with ha
    injection hb with hb
    rw [← ha, ← hb]; exact h'
  · exact h k (by omega) a b ha hb

def RetRace (xs : List Acc) (w : World) (e : Ending) (w' : World) : Prop :=
  ∃ i j f, e = .returned (.tuple #[.int .i64 i, .int .i64 j, .bool f]) ∧ Race xs i j f ∧ Below w.heap.size w w'

theorem specClash_w (a b : Acc) (w : World) {c : Bool} (h : clash a b = c) : Calls Try.prog 35 #[accV a, accV b] w fun e w' => e = .returned (.bool c) ∧ Below w.heap.size w w' := by
  rw [← h]; exact specClash_any a b w
theorem specFirstRace_any (A : Option Addr) (c : Nat) (xs : List Acc) (w : World) (hl : xs.length ≤ 1000000000) (hs : Sl w A (flat xs)) :
    Calls Try.prog 12 #[.slice A xs.length c] w (RetRace xs w) := by
  go_enter Try.func12, Try.ntmps12
  go_wp2_with fail
  go_loopw [5] (fun jv wr => ∃ j : Nat, j ≤ xs.length ∧ jv = .int .i64 j ∧ Free xs j ∧ Below w.heap.size w wr) (fun jv _ => xs.length - (intOf jv).toNat)
  case atStart => exact ⟨0, by omega, rfl, Free.zero xs, Below.refl _ _⟩
  case round =>
    obtain ⟨j, hj, rfl, hF, hb⟩ := hrel
    obtain ⟨wo, rfl⟩ : ∃ wo : World, wo = wr := ⟨_, rfl⟩
    have HB := mkHid hb
    have HF := mkHid hF
    have hs1 := hs.below hb
    clear hb hF
    by_cases hlt : j < xs.length
    · go_wp2_with fail
      go_loopw [6] (fun iv wr => ∃ i : Nat, i ≤ j ∧ iv = .int .i64 i ∧ FreeAt xs j i ∧ Below wo.heap.size wo wr) (fun iv _ => j - (intOf iv).toNat)
      case atStart => exact ⟨0, by omega, rfl, FreeAt.zero xs j, Below.refl _ _⟩
      case round =>
        obtain ⟨i, hi, rfl, hA, hb2⟩ := hrel
        have HB2 := mkHid hb2
        have HA := mkHid hA
        have hs2 := hs1.below hb2
        clear hb2 hA
        by_cases hlt2 : i < j
        · have hil : i < xs.length := by omega
          obtain ⟨b, off, rfl, h0, h1, h2, h3⟩ := hs2.acc hil
          obtain ⟨b', off', hbb, g0, g1, g2, g3⟩ := hs2.acc hlt
          injection hbb with hbb
          injection hbb with e1 e2
          subst e1
          subst e2
          have h0 := fun u : Ext wr => u.keeps h0
          have h1 := fun u : Ext wr => u.keeps h1
          have h2 := fun u : Ext wr => u.keeps h2
          have h3 := fun u : Ext wr => u.keeps h3
          have g0 := fun u : Ext wr => u.keeps g0
          have g1 := fun u : Ext wr => u.keeps g1
          have g2 := fun u : Ext wr => u.keeps g2
          have g3 := fun u : Ext wr => u.keeps g3
          clear hs hs1 hs2
          cases hc : clash xs[i] xs[j] with
          | true =>
            have HC := mkHid hc
            clear hc
            go_wp2_with fail
            refine wp_region_ext (by kernel_rfl) (by kernel_rfl) ?_
            repeat (go_big_quiet_step ((go_at_call 35; with_reducible exact ext_call (specClash_w xs[i] xs[j] _ HC.out))))
            refine wpQuiet_nil (ext_end fun X hX => ?_)
            clear h0 h1 h2 h3 g0 g1 g2 g3
            have HX := mkHid hX
            clear hX
            go_wp2_with fail
            go_ret3
            exact ⟨_, _, _, rfl, .inl ⟨rfl, i, j, rfl, rfl, hlt2, hlt, HF.out, HA.out, xs[i], xs[j], List.getElem?_eq_getElem hil, List.getElem?_eq_getElem hlt, HC.out⟩, below_then HB.out (below_then HB2.out HX.out)⟩
          | false =>
            have HC := mkHid hc
            clear hc
            go_wp2_with fail
            refine wp_region_ext (by kernel_rfl) (by kernel_rfl) ?_
            repeat (go_big_quiet_step ((go_at_call 35; with_reducible exact ext_call (specClash_w xs[i] xs[j] _ HC.out))))
            refine wpQuiet_nil (ext_end fun X hX => ?_)
            clear h0 h1 h2 h3 g0 g1 g2 g3
            have HX := mkHid hX
            clear hX
            go_wp2_with fail
            go_roundw
            case rel => exact ⟨i + 1, by omega, by go_num, FreeAt.succ hil hlt HA.out HC.out, below_then HB2.out HX.out⟩
            case measure => simp [intOf]; omega
        · have : i = j := by omega
          subst this
          go_wp2_with fail
          go_roundw
          case rel => exact ⟨i + 1, by omega, by go_num, HF.out.succ HA.out, below_then HB.out HB2.out⟩
          case measure => simp [intOf]; omega
    · have : j = xs.length := by omega
      subst this
      go_wp2_with fail
      go_ret3
      exact ⟨_, _, _, rfl, .inr ⟨rfl, rfl, rfl, HF.out⟩, HB.out⟩
theorem implClash_w (a b : Acc) (w : World) {c : Bool} (h : clash a b = c) : Calls Try.prog 32 #[accV a, accV b] w fun e w' => e = .returned (.bool c) ∧ Below w.heap.size w w' := by
  rw [← h]; exact implClash_any a b w
/-- the box of an access. -/
theorem box_acc {w : World} {e : TypeId} (a : Acc) {w' : World} (hb : Below (w.heap.size + 1) (w.alloc (.cells #[.int .i64 a.who, .int .i64 a.cell, .bool a.write, .int .i64 a.phase] e)) w') :
    w'.cell? ⟨w.heap.size, 0, none⟩ = some (.int .i64 a.who) ∧ w'.cell? ⟨w.heap.size, 1, none⟩ = some (.int .i64 a.cell) ∧ w'.cell? ⟨w.heap.size, 2, none⟩ = some (.bool a.write) ∧ w'.cell? ⟨w.heap.size, 3, none⟩ = some (.int .i64 a.phase) := by
  have h := fun j => (hb.cell (p := ⟨w.heap.size, j, none⟩) (by simp)).trans (cell_of_row _ w.heap.size j _ e (0, 0) (heap_alloc_new w _))
  exact ⟨h 0, h 1, h 2, h 3⟩
theorem implFirstRace_any (A : Option Addr) (c : Nat) (xs : List Acc) (w : World) (hl : xs.length ≤ 1000000000) (hcap : xs.length ≤ c) (hs : Sl w A (flat xs)) :
    Calls Try.prog 14 #[.slice A xs.length c] w (RetRace xs w) := by
  go_enter Try.func14, Try.ntmps14
  go_wp2_with fail
  go_loopw [11] (fun jv wr => ∃ j : Nat, j ≤ xs.length ∧ jv = .int .i64 j ∧ Free xs j ∧ Below w.heap.size w wr) (fun jv _ => xs.length - (intOf jv).toNat)
  case atStart => exact ⟨0, by omega, rfl, Free.zero xs, Below.refl _ _⟩
  case round =>
    obtain ⟨j, hj, rfl, hF, hb⟩ := hrel
    obtain ⟨wo, rfl⟩ : ∃ wo : World, wo = wr := ⟨_, rfl⟩
    have HB := mkHid hb
    have HF := mkHid hF
    have hs1 := hs.below hb
    clear hb hF
    by_cases hlt : j < xs.length
    · obtain ⟨b, off, rfl, g0, g1, g2, g3⟩ := hs1.acc hlt
      have hs1' := mkHid (hs1.alloc (.cells #[.int .i64 xs[j].who, .int .i64 xs[j].cell, .bool xs[j].write, .int .i64 xs[j].phase] 35))
      have HBw := mkHid ((Below.refl wo.heap.size wo).alloc (Nat.le_refl _) (.cells #[.int .i64 xs[j].who, .int .i64 xs[j].cell, .bool xs[j].write, .int .i64 xs[j].phase] 35))
      clear hs1 hs
      go_wp2_with fail
      clear g0 g1 g2 g3
      go_loopw [20] (fun iv wr => ∃ i : Nat, i ≤ j ∧ iv = .int .i64 i ∧ FreeAt xs j i ∧ Below (wo.heap.size + 1) (wo.alloc (.cells #[.int .i64 xs[j].who, .int .i64 xs[j].cell, .bool xs[j].write, .int .i64 xs[j].phase] 35)) wr) (fun iv _ => j - (intOf iv).toNat)
      case atStart => exact ⟨0, by omega, rfl, FreeAt.zero xs j, Below.refl _ _⟩
      case round =>
        obtain ⟨i, hi, rfl, hA, hb2⟩ := hrel
        have HB2 := mkHid hb2
        have HA := mkHid hA
        have hsz2 := hb2.size
        simp only [World.size_alloc] at hsz2
        have hs2 := hs1'.out.below (by simpa using hb2)
        obtain ⟨g0, g1, g2, g3⟩ := box_acc xs[j] hb2
        have g0 := fun o : Obj => (World.cell?_alloc_lt wr o ⟨wo.heap.size, 0, none⟩ hsz2).trans g0
        have g1 := fun o : Obj => (World.cell?_alloc_lt wr o ⟨wo.heap.size, 1, none⟩ hsz2).trans g1
        have g2 := fun o : Obj => (World.cell?_alloc_lt wr o ⟨wo.heap.size, 2, none⟩ hsz2).trans g2
        have g3 := fun o : Obj => (World.cell?_alloc_lt wr o ⟨wo.heap.size, 3, none⟩ hsz2).trans g3
        clear hb2 hA
        by_cases hlt2 : i < j
        · have hil : i < xs.length := by omega
          obtain ⟨b', off', hbb, h0, h1, h2, h3⟩ := hs2.acc hil
          injection hbb with hbb
          injection hbb with e1 e2
          subst e1
          subst e2
          clear hs2
          cases hc : clash xs[i] xs[j] with
          | true =>
            have HC := mkHid hc
            clear hc
            go_wp2_with (go_at_call 32; refine (implClash_w xs[i] xs[j] _ HC.out).mono ?_; rintro e X ⟨rfl, hX⟩; have HX := mkHid hX; clear hX)
            go_ret3
            refine ⟨_, _, _, rfl, .inl ⟨rfl, i, j, rfl, rfl, hlt2, hlt, HF.out, HA.out, xs[i], xs[j], List.getElem?_eq_getElem hil, List.getElem?_eq_getElem hlt, HC.out⟩, ?_⟩
            have hw := HB.out.size
            exact ((HB.out.trans (HBw.out.mono hw)).trans ((HB2.out.alloc hsz2 _).mono (by omega))).trans (HX.out.mono (by simp; omega))
          | false =>
            have HC := mkHid hc
            clear hc
            go_wp2_with (go_at_call 32; refine (implClash_w xs[i] xs[j] _ HC.out).mono ?_; rintro e X ⟨rfl, hX⟩; have HX := mkHid hX; clear hX)
            go_roundw
            case rel => exact ⟨i + 1, by omega, by go_num, FreeAt.succ hil hlt HA.out HC.out, (HB2.out.alloc hsz2 _).trans (HX.out.mono (by simp; omega))⟩
            case measure => simp [intOf]; omega
        · have : i = j := by omega
          subst this
          go_wp2_with fail
          go_roundw
          case rel => exact ⟨i + 1, by omega, by go_num, HF.out.succ HA.out, (HB.out.trans (HBw.out.mono HB.out.size)).trans (HB2.out.mono (by have := HB.out.size; omega))⟩
          case measure => simp [intOf]; omega
    · have : j = xs.length := by omega
      subst this
      go_wp2_with fail
      go_ret3
      exact ⟨_, _, _, rfl, .inr ⟨rfl, rfl, rfl, HF.out⟩, HB.out⟩
end Go.Proofs.Ytbhjicjcilneeaa
