/-
  Contracts on slices of accesses, the rest: toAccessS, eqAccessS.
-/
import Derived.Test.YtbhjicjcilneeaaCAccS
namespace Go.Proofs.Ytbhjicjcilneeaa
open Go.RowKit
set_option maxHeartbeats 400000
set_option linter.unusedVariables false

theorem Ea : ElemI Try.prog 26 35 (.agg #[.int .i64 0, .int .i64 0, .bool false, .int .i64 0]) 4 32 := ⟨Try.underlying26, by kernel_rfl, rfl, by omega⟩
def RetAccs (xs : List Acc) (w : World) (e : Ending) (w' : World) : Prop :=
  ∃ A c, e = .returned (.slice A xs.length c) ∧ w'.ownsRow w.heap.size 35 4 (.slice A xs.length c) xs.length (flat xs) ∧ Below w.heap.size w w'

def acc0 : Acc := ⟨0, 0, false, 0⟩
theorem flat_zeros (n : Nat) : (madeCells (Value.agg #[.int .i64 0, .int .i64 0, .bool false, .int .i64 0]).cells (n * 4)).toList = flat (List.replicate n acc0) := by
  apply List.ext_getElem?
  intro i
  by_cases h : i < n * 4
  · have h1 := flat_at (List.replicate n acc0) (i / 4) (i % 4) (by simp; omega) (Nat.mod_lt _ (by omega))
    rw [show i / 4 * 4 + i % 4 = i from by omega] at h1
    rw [h1]
    have h2 : i % 4 = 0 ∨ i % 4 = 1 ∨ i % 4 = 2 ∨ i % 4 = 3 := by omega
    rcases h2 with h2 | h2 | h2 | h2 <;> simp [madeCells, h, h2, Value.cells, acc0, accCells]
  · rw [List.getElem?_eq_none (by simp [madeCells]; omega), List.getElem?_eq_none (by rw [flat_length]; simp; omega)]

theorem flat_set (ys : List Acc) (k : Nat) (a : Acc) (hk : k < ys.length) :
    ((((flat ys).set (k * 4) (.int .i64 a.who)).set (k * 4 + 1) (.int .i64 a.cell)).set (k * 4 + 2) (.bool a.write)).set (k * 4 + 3) (.int .i64 a.phase) = flat (ys.set k a) := by
  apply List.ext_getElem?
  intro i
  simp only [List.getElem?_set, List.length_set, flat_length]
  by_cases h : i < ys.length * 4
  · have h1 := flat_at (ys.set k a) (i / 4) (i % 4) (by simp; omega) (Nat.mod_lt _ (by omega))
    have h0 := flat_at ys (i / 4) (i % 4) (by omega) (Nat.mod_lt _ (by omega))
    rw [show i / 4 * 4 + i % 4 = i from by omega] at h1 h0
    rw [h1, h0]
    have h2 : i % 4 = 0 ∨ i % 4 = 1 ∨ i % 4 = 2 ∨ i % 4 = 3 := by omega
    by_cases hi : k = i / 4
    · subst hi
      have hs : (ys.set (i / 4) a)[i / 4]'(by simp; omega) = a := by simp
      rw [hs]
      rcases h2 with h2 | h2 | h2 | h2
      · rw [if_neg (by omega), if_neg (by omega), if_neg (by omega), if_pos (by omega), h2]; simp [accCells]; omega
      · rw [if_neg (by omega), if_neg (by omega), if_pos (by omega), h2]; simp [accCells]; omega
      · rw [if_neg (by omega), if_pos (by omega), h2]; simp [accCells]; omega
      · rw [if_pos (by omega), h2]; simp [accCells]; omega
    · have hs : (ys.set k a)[i / 4]'(by simp; omega) = ys[i / 4]'(by omega) := by rw [List.getElem_set_ne hi]
      rw [hs]
      rw [if_neg (by omega), if_neg (by omega), if_neg (by omega), if_neg (by omega)]
  · rw [if_neg (by omega), if_neg (by omega), if_neg (by omega), if_neg (by omega), List.getElem?_eq_none (by rw [flat_length]; omega), List.getElem?_eq_none (by rw [flat_length]; simp; omega)]

theorem own_acc {w : World} {base : Nat} {e : TypeId} {g n c : Nat} {ys : List Acc} (h : w.ownsRow base e 4 (.slice (some ⟨g, 0, none⟩) n c) n (flat ys)) {k : Nat} (hk : k < ys.length) (a : Acc) :
    (w.cell? ⟨g, k * 4, none⟩ = some (.int .i64 ys[k].who) ∧ w.cell? ⟨g, k * 4 + 1, none⟩ = some (.int .i64 ys[k].cell) ∧ w.cell? ⟨g, k * 4 + 2, none⟩ = some (.bool ys[k].write) ∧ w.cell? ⟨g, k * 4 + 3, none⟩ = some (.int .i64 ys[k].phase)) ∧
    (w.frozen? ⟨g, k * 4, none⟩ = false ∧ w.frozen? ⟨g, k * 4 + 1, none⟩ = false ∧ w.frozen? ⟨g, k * 4 + 2, none⟩ = false ∧ w.frozen? ⟨g, k * 4 + 3, none⟩ = false) ∧
    ((((w.setCell ⟨g, k * 4, none⟩ (.int .i64 a.who)).setCell ⟨g, k * 4 + 1, none⟩ (.int .i64 a.cell)).setCell ⟨g, k * 4 + 2, none⟩ (.bool a.write)).setCell ⟨g, k * 4 + 3, none⟩ (.int .i64 a.phase)).ownsRow base e 4 (.slice (some ⟨g, 0, none⟩) n c) n (flat (ys.set k a)) := by
  refine ⟨?_, ⟨h.frozenAt _, h.frozenAt _, h.frozenAt _, h.frozenAt _⟩, ?_⟩
  · obtain ⟨b, off, hA, h0, h1, h2, h3⟩ := (Sl.of_own h).acc hk
    injection hA with hA
    injection hA with hA1 hA2
    subst hA1
    subst hA2
    simp only [Nat.zero_add] at h0 h1 h2 h3
    exact ⟨h0, h1, h2, h3⟩
  · rw [← flat_set ys k a hk]
    exact ((((h.stored _ _).1.stored _ _).1.stored _ _).1.stored _ _).1

theorem grown_set4 {w w1 : World} {g : Nat} (h : w.grownBy w1 (some g)) (i j k l : Nat) (a b c d : Value) :
    w.grownBy ((((w1.setCell ⟨g, i, none⟩ a).setCell ⟨g, j, none⟩ b).setCell ⟨g, k, none⟩ c).setCell ⟨g, l, none⟩ d) (some g) :=
  grown_setCell' (grown_setCell' (grown_setCell' (grown_setCell' h i a) j b) k c) l d

theorem toAccessS_any (A : Option Addr) (c : Nat) (xs : List Acc) (w : World) (hl : xs.length ≤ 1048576) (hs : Sl w A (flat xs)) :
    Calls Try.prog 13 #[.slice A xs.length c] w (RetAccs xs w) := by
  obtain ⟨i0, hi0, hz0, hz1, hz2⟩ := info_parts Ea.hi
  go_enter Try.func13, Try.ntmps13
  go_wp2_with (at_make; refine wpList_make_full _ rfl _ _ _ rfl w.heap.size _ i0 _ 4 Ea.ht hi0 hz0 hz1 _ _ _ _ xs.length rfl rfl rfl rfl (by rw [hz2]; omega) (by simp only [maxLen]; omega) (Nat.le_refl _) ?_; intro w1 hown1 hg1; have HO := mkHid hown1; have HG := mkHid hg1; clear hown1 hg1)
  go_loopw [4] (fun i wr => ∃ k : Nat, k ≤ xs.length ∧ i = .int .i64 k ∧ wr.ownsRow w.heap.size 35 4 (.slice (some ⟨w.heap.size, 0, none⟩) xs.length xs.length) xs.length (flat (xs.take k ++ List.replicate (xs.length - k) acc0)) ∧ Below w.heap.size w wr) (fun i _ => xs.length - (intOf i).toNat)
  case atStart => exact ⟨0, by omega, rfl, by have := HO.out; rw [flat_zeros] at this; simpa using this, (Below.refl _ _).grown HG.out (Nat.le_refl _) (by simp)⟩
  case round =>
    obtain ⟨k, hk, rfl, hown, hb⟩ := hrel
    have hs' := hs.below hb
    have HB := mkHid hb
    have HO := mkHid hown
    have hsz := hb.size
    clear hb
    by_cases hlt : k < xs.length
    · obtain ⟨b, off, rfl, h0, h1, h2, h3⟩ := hs'.acc hlt
      have hset := set_take_fill xs acc0 k hlt
      have HS := mkHid hset
      have hkl : k < (xs.take k ++ List.replicate (xs.length - k) acc0).length := by simp; omega
      clear hset hown
      go_wp2_with (go_at_call 36; refine (toAccess_any xs[k] _).mono ?_; rintro e w2 ⟨rfl, hb2⟩; have HB2 := mkHid hb2; have hsz2 := hb2.size; have HO2 := mkHid (own_acc (own_below HO.out hb2) hkl xs[k]); clear hb2; obtain ⟨⟨p0, p1, p2, p3⟩, ⟨f0, f1, f2, f3⟩, _⟩ := HO2.out)
      go_roundw
      case rel =>
        refine ⟨k + 1, by omega, by go_num, ?_, ?_⟩
        · rw [← HS.out]; exact HO2.out.2.2
        · refine below_grown (row := some w.heap.size) (HB.out.trans (HB2.out.mono hsz)) (grown_set4 (World.grownBy.refl _ _) _ _ _ _ _ _ _ _) (by simp)
      case measure => simp [intOf]; omega
    · have : k = xs.length := by omega
      subst this
      go_wp2
      go_ret
      refine ⟨_, _, rfl, by simpa using HO.out, HB.out⟩

theorem eqAccess_same (a : Acc) (w : World) : Calls Try.prog 37 #[accV a, accV a] w fun e w' => e = .returned (.bool true) ∧ Below w.heap.size w w' :=
  (eqAccess_any a a w).mono fun e w' ⟨he, hb⟩ => ⟨by rw [he]; simp, hb⟩
theorem eqAccessS_same (A B : Option Addr) (c d : Nat) (xs : List Acc) (w : World) (hl : xs.length ≤ 9223372036854775807) (hx : Sl w A (flat xs)) (hy : Sl w B (flat xs)) :
    Calls Try.prog 15 #[.slice A xs.length c, .slice B xs.length d] w fun e w' => e = .returned (.bool true) ∧ Below w.heap.size w w' := by
  go_enter Try.func15, Try.ntmps15
  go_wp2
  go_loopw [5] (fun i wr => ∃ k : Nat, k ≤ xs.length ∧ i = .int .i64 k ∧ Below w.heap.size w wr) (fun i _ => xs.length - (intOf i).toNat)
  case atStart => exact ⟨0, by omega, rfl, Below.refl _ _⟩
  case round =>
    obtain ⟨k, hk, rfl, hb⟩ := hrel
    have hx' := hx.below hb
    have hy' := hy.below hb
    have HB := mkHid hb
    clear hb
    by_cases hlt : k < xs.length
    · obtain ⟨b, off, rfl, h0, h1, h2, h3⟩ := hx'.acc hlt
      obtain ⟨b', off', rfl, g0, g1, g2, g3⟩ := hy'.acc hlt
      have h0 := fun u : Ext wr => u.keeps h0
      have h1 := fun u : Ext wr => u.keeps h1
      have h2 := fun u : Ext wr => u.keeps h2
      have h3 := fun u : Ext wr => u.keeps h3
      have g0 := fun u : Ext wr => u.keeps g0
      have g1 := fun u : Ext wr => u.keeps g1
      have g2 := fun u : Ext wr => u.keeps g2
      have g3 := fun u : Ext wr => u.keeps g3
      clear hx hy hx' hy'
      go_wp2
      refine wp_region_ext (by kernel_rfl) (by kernel_rfl) ?_
      repeat (go_big_quiet_step ((go_at_call 37; with_reducible exact ext_call (eqAccess_same xs[k] _))))
      refine wpQuiet_nil (ext_end fun X hX => ?_)
      clear h0 h1 h2 h3 g0 g1 g2 g3
      have HX := mkHid hX
      clear hX
      go_wp2
      go_roundw
      case rel => exact ⟨k + 1, by omega, by go_num, below_then HB.out HX.out⟩
      case measure => simp [intOf]; omega
    · go_wp2
      go_ret
      exact ⟨rfl, HB.out⟩
end Go.Proofs.Ytbhjicjcilneeaa
