/-
  Contract of newCrowd.
-/
import Derived.Test.YtilhcedfokhhjaaCLane3
import Derived.Test.YtilhcedfokhhjaaCMem
import Derived.Deep.RegionLaw
namespace Go.Proofs.Ytilhcedfokhhjaa
open Go.RowKit
set_option maxHeartbeats 2000000
set_option linter.unusedVariables false

def RetCrowd (n : Nat) (zs : List Int) (w : World) (e : Ending) (w' : World) : Prop :=
  ∃ A c ls B d, e = .returned (.agg #[.slice A ls.length c, .slice B zs.length d]) ∧ ls.length = n ∧ (∀ l ∈ ls, Fresh l) ∧ CrowdAt w' w.heap.size A c ls B d zs ∧ Below w.heap.size w w'
abbrev crowd0 : Obj := .cells #[.slice none 0 0, .slice none 0 0] 43
theorem below_undrew {w w' : World} (b2 : Below w.drew.heap.size w.drew w') : Below w.heap.size w w' := ⟨b2.os, b2.tape, b2.output, b2.size, b2.block⟩
theorem newCrowd_any (n : Nat) (A : Option Addr) (c : Nat) (zs : List Int) (w : World) (hn : n ≤ 8) (hz : zs.length ≤ 1048576) (hs : Sl w A (ints zs)) :
    Calls Try.prog 50 #[.int .i64 n, .slice A zs.length c] w (RetCrowd n zs w) := by
  obtain ⟨i0, hi0, hz0, hz1, hz2⟩ := info_parts El.hi
  have hb0 := (Below.refl w.heap.size w).alloc (Nat.le_refl _) crowd0
  have hs0 := hs.below hb0
  have HC := mkHid (cloneInts_any A c zs (w.alloc crowd0) (by omega) hs0)
  clear hs hs0 hb0
  go_enter Try.func50, Try.ntmps50
  go_wp2_with fail
  refine HC.out.mono ?_
  rintro e w1 ⟨B, d, rfl, o1, b1⟩
  have hsz1 : w.heap.size + 1 ≤ w1.heap.size := by have := b1.size; simpa using this
  have o1 : w1.ownsRow w.heap.size 3 1 (.slice B zs.length d) zs.length (ints zs) := own_base o1 (by simp)
  have b1 : Below (w.heap.size + 1) (w.alloc crowd0) w1 := b1.mono (by simp)
  have HBL := mkHid (fun g hg => (o1.lt g hg).2)
  have HO1 := mkHid (o1.alloc (.cells #[.slice none 0 0, .slice B zs.length d] 43))
  have HB1 := mkHid (b1.alloc hsz1 (.cells #[.slice none 0 0, .slice B zs.length d] 43))
  have HQ := mkHid (heap_alloc_new w1 (.cells #[.slice none 0 0, .slice B zs.length d] 43))
  have hsz2 : (w1.alloc (.cells #[.slice none 0 0, .slice B zs.length d] 43)).heap.size = w1.heap.size + 1 := by simp
  clear o1 b1 HC
  go_wp2_with fail
  generalize w1.alloc (.cells #[.slice none 0 0, .slice B zs.length d] 43) = w2 at *
  generalize w1.heap.size = C at *
  go_loopw [10] (fun i wr => ∃ k : Nat, k ≤ n ∧ i = .int .i64 k ∧ ∃ A c, ∃ ls : List Ln, ls.length = k ∧ wr.heap[C]? = some (.cells #[.slice A k c, .slice B zs.length d] 43 (0, 0)) ∧ wr.ownsRow C 48 4 (.slice A k c) k (lflat ls) ∧ LanesApart wr C ls ∧ (∀ l ∈ ls, Fresh l) ∧ wr.ownsRow w.heap.size 3 1 (.slice B zs.length d) zs.length (ints zs) ∧ Below (w.heap.size + 1) (w.alloc crowd0) wr ∧ C < wr.heap.size) (fun i _ => n - (intOf i).toNat)
  case atStart => exact ⟨0, by omega, rfl, none, 0, [], rfl, HQ.out, World.ownsRow_nil _ _ _ _, LanesApart.nil _ _, (fun l hl => absurd hl (by simp)), HO1.out, HB1.out, by omega⟩
  case round =>
    clear HQ HO1 HB1 hsz2 w2
    obtain ⟨k, hk, rfl, A, c, ls, hls, hq, hown, hap, hfr, hmem, hb, hCl⟩ := hrel
    have HQ := mkHid hq
    have HO := mkHid hown
    have HA := mkHid hap
    have HF := mkHid hfr
    have HM := mkHid hmem
    have HB := mkHid hb
    obtain ⟨⟨p0, p1⟩, f0, f1⟩ := box2 hq
    clear hq hown hap hfr hmem hb
    by_cases hlt : k < n
    · go_wp2_with fail
      go_region_law (first
        | (refine step_append_lies _ rfl _ _ _ rfl C _ i0 _ 4 64 El.ht hi0 hz0 hz1 hz2 rfl (by omega) _ _ _ rfl (HO2.out.alloc _) _ 1 1 (lnCells l) rfl (by simp) (newCellsAt _ _ _ (by simp)) (by simp [Value.oneCell']) (by omega) (by simp only [maxLen]; omega) (by omega) (by simp; omega) _ rfl ?_
           intro g3 c3 w3 hown3 hg3 hat3 hlt3
           have HO3 := mkHid hown3
           have HG3 := mkHid hg3
           have HQ3 := mkHid ((hg3.block C (by simp; omega) (fun e => own_ne_heap HO2.out HQ2.out (by decide) e.symm)).trans ((heap_alloc_old _ _ hl2).trans HQ2.out))
           obtain ⟨⟨p0, p1⟩, f0, f1⟩ := box2 HQ3.out
           clear hown3 hg3 hat3)
        | (go_simp
           go_at_call 25
           refine (implNewLane_any _).mono ?_
           rintro e w2 ⟨l, rfl, hf, ol, b2⟩
           have b2 := below_undrew b2
           have HB2 := mkHid b2
           have HOL := mkHid ol
           have HFL := mkHid hf
           have HO2 := mkHid (own_below HO.out b2)
           have hl2 : C < w2.heap.size := Nat.lt_of_lt_of_le hCl b2.size
           have HQ2 := mkHid ((b2.block C hCl).trans HQ.out)
           have q0 := (box2 HQ2.out).1.1
           have q1 : ∀ o, (w2.alloc o).cell? ⟨C, 0, none⟩ = some (.slice A k c) := fun o => (box2 ((heap_alloc_old w2 o hl2).trans HQ2.out)).1.1
           clear b2 ol hf))
      all_goals (
        have hg3 := HG3.out
        have hg3 : (w2.alloc (.cells (lnCells l).toArray 48)).grownBy w3 (Value.slice A k c).ownBlock := hg3
        have hal : Below w2.heap.size w2 (w2.alloc (.cells (lnCells l).toArray 48)) := (Below.refl _ _).alloc (Nat.le_refl _) _
        have ha2 : LanesApart w2 C (ls ++ [l]) := HA.out.snoc HB2.out (by omega) l HOL.out
        have ha3 : LanesApart w3 C (ls ++ [l]) := (ha2.below hal).kept hg3 (fun l' hl' g e1 => own_types2 ((ha2.below hal).1 l' hl') (own_below HO2.out hal) (by decide) e1)
        have hset := grown_setCell w3 C 0 (.slice (some ⟨g3, 0, none⟩) (k + 1) c3)
        have hm3 := own_grown' (own_below (own_below HM.out HB2.out) hal) hg3 (fun g e1 e2 => own_types2 (own_below (own_below HM.out HB2.out) hal) (own_below HO2.out hal) (by decide) e1 e2)
        have hsz3 : w2.heap.size + 1 ≤ w3.heap.size := by have := hg3.size; simpa using this
        have HR1 := mkHid (heap_setCell_same w3 C 0 _ _ (.slice (some ⟨g3, 0, none⟩) (k + 1) c3) HQ3.out)
        have HR2 := mkHid (own_grown' HO3.out hset (fun g e1 e2 => by injection e2 with e2; subst e2; exact own_ne_heap HO3.out HQ3.out (by decide) e1))
        have HR3 := mkHid (ha3.kept hset (fun l' hl' g e1 e2 => by injection e2 with e2; subst e2; exact own_ne_heap (ha3.1 l' hl') HQ3.out (by decide) e1))
        have HR4 := mkHid (own_grown' hm3 hset (fun g e1 e2 => by injection e2 with e2; subst e2; exact own_ne_heap hm3 HQ3.out (by decide) e1))
        have hB2 : Below (w.heap.size + 1) (w.alloc crowd0) w2 := HB.out.trans (HB2.out.mono (by omega))
        have hB3 := (hB2.alloc (by omega) (.cells (lnCells l).toArray 48)).grown hg3 (by simp; omega) (fun g e => by have := (HO2.out.lt g e).1; omega)
        have HR5 := mkHid (hB3.grown hset (by omega) (fun g e => by injection e with e; omega))
        have HR6 := mkHid (show ∀ l' ∈ ls ++ [l], Fresh l' from fun l' h => by
          rcases List.mem_append.1 h with h | h
          · exact HF.out l' h
          · rw [List.mem_singleton] at h; subst h; exact HFL.out)
        clear hg3 hal ha2 ha3 hset hm3 hB2 hB3 b2 q0 q1
        go_wp2_with fail
        go_roundw
        case rel =>
          refine ⟨k + 1, by omega, by go_num, some ⟨g3, 0, none⟩, c3, ls ++ [l], by simp [hls], ?_, ?_, HR3.out, HR6.out, HR4.out, HR5.out, by simp; omega⟩
          · have := HR1.out
            simpa using this
          · have := HR2.out
            rw [lflat_append]
            simpa [lflat] using this
        case measure => simp [intOf] <;> omega)
    · have hke : k = n := by omega
      subst hke
      have hr0 : wr.heap[w.heap.size]? = some crowd0 := by
        rw [HB.out.block w.heap.size (by omega)]; exact heap_alloc_new _ _
      obtain ⟨⟨r0, r1⟩, t0, t1⟩ := box2 hr0
      have HR0 := mkHid hr0
      clear hr0
      go_wp2_with fail
      have hset := grown_setCell' (grown_setCell wr w.heap.size 0 (.slice A k c)) 1 (.slice B zs.length d)
      refine bodyPost_ret (v := .agg #[.slice A k c, .slice B zs.length d]) (by simp [results, Try.results50, go_sem, r0, r1]) rfl ⟨A, c, ls, B, d, by rw [hls], hls, HF.out, ⟨?_, ?_, ?_, ?_⟩, ?_⟩
      · rw [hls]
        exact own_base (own_grown' HO.out hset (fun g e1 e2 => by injection e2 with e2; subst e2; exact own_ne_heap HO.out HR0.out (by decide) e1)) (by omega)
      · have h := HA.out.kept hset (fun l' hl' g e1 e2 => by injection e2 with e2; subst e2; exact own_ne_heap (HA.out.1 l' hl') HR0.out (by decide) e1)
        exact ⟨fun l hl => own_base (h.1 l hl) (by omega), h.2⟩
      · exact own_grown' HM.out hset (fun g e1 e2 => by injection e2 with e2; subst e2; exact own_ne_heap HM.out HR0.out (by decide) e1)
      · intro l hl g e1 e2
        have h1 := (HA.out.1 l hl).lt g e1
        have h2 := HBL.out g e2
        omega
      · have h1 : Below w.heap.size w wr := ((Below.refl w.heap.size w).alloc (Nat.le_refl _) crowd0).trans (HB.out.mono (by omega))
        exact h1.grown hset h1.size (fun g e => by injection e with e; omega)
end Go.Proofs.Ytilhcedfokhhjaa
