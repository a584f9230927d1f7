/-
  Contract of the laws' helper toIntS.
-/
import Derived.Test.YtabpcbikbhbcaaaCInts
namespace Go.Proofs.Ytabpcbikbhbcaaa
open Go.RowKit
set_option maxHeartbeats 400000
set_option linter.unusedVariables false

theorem ints_zeros (n : Nat) : (madeCells (Value.int .i64 0).cells (n * 1)).toList = ints (List.replicate n 0) := by
  apply List.ext_getElem?
  intro i
  by_cases h : i < n
  · simp [madeCells, h, Value.cells, ints, Nat.mod_one]
  · rw [List.getElem?_eq_none (by simp [madeCells]; omega), List.getElem?_eq_none (by simp [ints]; omega)]
theorem toIntS_any (A : Option Addr) (c : Nat) (zs : List Int) (w : World) (hl : zs.length ≤ 1048576) (hs : Sl w A (ints zs)) :
    Calls Try.prog 33 #[.slice A zs.length c] w (RetInts zs w) := by
  obtain ⟨i0, hi0, hz0, hz1, hz2⟩ := info_parts Ei.hi
  go_enter Try.func33, Try.ntmps33
  go_wp2_with (at_make; refine wpList_make_full _ rfl _ _ _ rfl w.heap.size _ i0 _ 1 Ei.ht hi0 hz0 hz1 _ _ _ _ zs.length rfl rfl rfl rfl (by rw [hz2]; omega) (by simp only [maxLen]; omega) (Nat.le_refl _) ?_; intro w1 hown1 hg1; have HO := mkHid hown1; have HG := mkHid hg1; clear hown1 hg1)
  go_loopw [4] (fun i wr => ∃ k : Nat, k ≤ zs.length ∧ i = .int .i64 k ∧ wr.ownsRow w.heap.size 3 1 (.slice (some ⟨w.heap.size, 0, none⟩) zs.length zs.length) zs.length (ints (zs.take k ++ List.replicate (zs.length - k) 0)) ∧ Below w.heap.size w wr) (fun i _ => zs.length - (intOf i).toNat)
  case atStart =>
    refine ⟨0, by omega, rfl, ?_, (Below.refl _ _).grown HG.out (Nat.le_refl _) (by simp)⟩
    have := HO.out
    rw [ints_zeros] at this
    simpa using this
  case round =>
    obtain ⟨k, hk, rfl, hown, hb⟩ := hrel
    have hs' := hs.below hb
    have HB := mkHid hb
    have hsz := hb.size
    clear hb
    by_cases hlt : k < zs.length
    · obtain ⟨b, off, rfl, hc⟩ := hs'.at_ (k := k) (by simpa using hlt)
      have h1 : wr.cell? ⟨b, off + k, none⟩ = some (.int .i64 zs[k]) := hc k _ (ints_at hlt)
      obtain ⟨g, hg, hgb, hgs, hcell, hfr, hst⟩ := own_open hown (i := k) (by simp; omega)
      injection hg with hg
      injection hg with hg
      subst hg
      have HS := mkHid (hst (.int .i64 zs[k]))
      have HE := mkHid (set_take_fill zs 0 k hlt)
      have HG := mkHid (grown_setCell' (World.grownBy.refl wr (some w.heap.size)) k (.int .i64 zs[k]))
      clear hst hown hc hs hs'
      go_wp2_with fail
      go_roundw
      case rel =>
        refine ⟨k + 1, by omega, by go_num, ?_, below_grown HB.out HG.out (by simp)⟩
        rw [← HE.out]
        have := HS.out
        simpa [ints] using this
      case measure => simp [intOf]; omega
    · have : k = zs.length := by omega
      subst this
      go_wp2_with fail
      go_ret
      refine ⟨_, _, rfl, by simpa using hown, HB.out⟩
end Go.Proofs.Ytabpcbikbhbcaaa
