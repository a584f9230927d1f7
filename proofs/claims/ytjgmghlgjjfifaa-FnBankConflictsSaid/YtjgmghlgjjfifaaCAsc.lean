/-
  Contract of ascending: the row that it is handed, sorted, each number once, in place.
-/
import Derived.Test.YtjgmghlgjjfifaaShelf
import Derived.Test.YtjgmghlgjjfifaaCInts
import Derived.Test.YtjgmghlgjjfifaaLib2
import Derived.Lib.OwnBridge
import Derived.Sort.OwnSortedInts
namespace Go.Proofs.Ytjgmghlgjjfifaa
open Go.RowKit Go.Sort
set_option maxHeartbeats 400000
set_option linter.unusedVariables false

def asc (zs : List Int) : List Int := Lib.compact (zs.mergeSort fun x y => decide (x ≤ y))
theorem compactUpTo_le (d : Array Int) (m : Nat) : (Lib.compactUpTo d m).length ≤ m := by
  induction m with
  | zero => simp [Lib.compactUpTo]
  | succ m ih =>
    rw [Lib.compactUpTo_succ, List.length_append]
    split <;> simp <;> omega
theorem compact_le (ys : List Int) : (Lib.compact ys).length ≤ ys.length := compactUpTo_le _ _
theorem asc_nil : asc [] = [] := by simp [asc, Lib.compact, Lib.compactUpTo]
theorem ascending_empty (A : Option Addr) (c : Nat) (w : World) :
    Calls Try.prog 43 #[.slice A 0 c] w fun e w' => e = .returned (.slice A 0 c) ∧ w = w' := by
  go_enter Try.func43, Try.ntmps43
  go_wp2_with fail
  refine (Try.slices_Sort_int_none _ _ _).mono ?_
  rintro e w1 ⟨rfl, rfl⟩
  go_wp2_with fail
  refine (Try.slices_Compact_int_empty _ _ _).mono ?_
  rintro e w2 ⟨rfl, rfl⟩
  go_wp2_with fail
  go_ret
  exact ⟨rfl, rfl⟩
def RetAsc (A : Option Addr) (c : Nat) (zs : List Int) (base : Nat) (w : World) (e : Ending) (w' : World) : Prop :=
  e = .returned (.slice A (asc zs).length c) ∧ w'.ownsRow base 3 1 (.slice A (asc zs).length c) (asc zs).length (ints (asc zs)) ∧ w.grownBy w' (Value.slice A zs.length c).ownBlock
theorem ascending_any (A : Option Addr) (c : Nat) (zs : List Int) (base : Nat) (w : World) (hn : zs.length ≤ 1000000000) (hown : w.ownsRow base 3 1 (.slice A zs.length c) zs.length (ints zs)) :
    Calls Try.prog 43 #[.slice A zs.length c] w (RetAsc A c zs base w) := by
  by_cases h0 : zs = []
  · subst h0
    refine (ascending_empty A c w).mono ?_
    rintro e w' ⟨rfl, rfl⟩
    exact ⟨by rw [asc_nil]; rfl, by rw [asc_nil]; exact hown, World.grownBy.refl _ _⟩
  · obtain ⟨g, cap, hv, hbg, hlt, hncap, hcapm, _, hH⟩ := Lib.holds_of_ownsRow hown (by
      intro e
      injection e with _ e2 _
      exact h0 (List.eq_nil_of_length_eq_zero e2))
    injection hv with hA _ hc
    subst hA
    subst hc
    have hlen : (zs.mergeSort fun x y => decide (x ≤ y)).length = zs.length := by simp
    rcases hown.2 with ⟨hv, _⟩ | ⟨g', cap', cur, hv, _, hgc, _, hcm, hcs, hct⟩
    · cases hv
    · injection hv with hv1 _ hv3
      injection hv1 with hv1
      injection hv1 with hv1
      subst hv1
      subst hv3
      go_enter Try.func43, Try.ntmps43
      go_wp2_with fail
      refine (Try.slices_Sort_int g 0 c zs w hH hlt (by omega)).mono ?_
      rintro e w1 ⟨rfl, n, os, rfl⟩
      have own1 := ownsRow_sortedI (n := n) (os := os) hlen hbg hgc hncap hcm hcs
      have gr1 := grownBy_sortedI (w := w) (g := g) (n := n) (os := os) (zs.mergeSort fun x y => decide (x ≤ y)).toArray
      generalize hW : grow (putRow (Value.int .i64) (Sort.ahead w n) g 0 (zs.mergeSort fun x y => decide (x ≤ y)).toArray) os = W at *
      clear hW hH hgc hcs hct
      generalize hm : (zs.mergeSort fun x y => decide (x ≤ y)) = ys at *
      obtain ⟨g2, cap2, hv2, _, hlt2, _, _, _, hH2⟩ := Lib.holds_of_ownsRow own1 (by simp)
      injection hv2 with hA2 _ hc2
      injection hA2 with hA2
      injection hA2 with hA2
      subst hA2
      subst hc2
      have hC := Try.slices_Compact_int g 0 c ys W hH2 (by omega) (by omega)
      rw [hlen] at hC
      have HC := mkHid hC
      have HO := mkHid own1
      have HG := mkHid gr1
      have hkl : (Lib.compact ys).length ≤ ys.length := compact_le ys
      have hasc : asc zs = Lib.compact ys := by unfold asc; rw [hm]
      have HA := mkHid hasc
      have HM := mkHid hlen
      clear hC own1 gr1 hm hasc hlen hH2 hcm hown
      go_wp2_with fail
      refine HC.out.mono ?_
      rintro e w2 ⟨rfl, q, rfl⟩
      have hfill : (Lib.compact ys ++ List.replicate (zs.length - (Lib.compact ys).length) 0).length = zs.length := by have := HM.out; simp; omega
      have own2 := Lib.ownsRow_putRow (q := q) HO.out hfill (k := (Lib.compact ys).length) (by have := HM.out; omega)
      have HO2 := mkHid own2
      have gr2 : W.grownBy (putRow (Value.int .i64) (Sort.ahead W q) g 0 (Lib.compact ys ++ List.replicate (zs.length - (Lib.compact ys).length) 0).toArray) (some g) := by
        have := grownBy_sortedI (w := W) (g := g) (n := q) (os := #[]) (Lib.compact ys ++ List.replicate (zs.length - (Lib.compact ys).length) 0).toArray
        simpa using this
      have HG2 := mkHid (grown_trans HG.out gr2)
      generalize putRow (Value.int .i64) (Sort.ahead W q) g 0 (Lib.compact ys ++ List.replicate (zs.length - (Lib.compact ys).length) 0).toArray = W2 at *
      clear own2 gr2 hfill
      go_wp2_with fail
      go_ret
      refine ⟨by rw [HA.out]; rfl, ?_, HG2.out⟩
      rw [HA.out]
      simpa using HO2.out
end Go.Proofs.Ytjgmghlgjjfifaa
