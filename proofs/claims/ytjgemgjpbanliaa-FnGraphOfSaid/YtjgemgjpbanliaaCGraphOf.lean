/-
  Contract of the program's GraphOf.
-/
import Derived.Test.YtjgemgjpbanliaaCSucc
import Derived.Test.YtjgemgjpbanliaaCBack3
namespace Go.Proofs.Ytjgemgjpbanliaa
open Go.RowKit
set_option maxHeartbeats 2000000
set_option linter.unusedVariables false

def gOf (xs : List Cd) : List (List Int) := if progValid xs then graphOf (ops xs) else []
theorem gOf_no {xs : List Cd} (h : progValid xs = false) : gOf xs = [] := by unfold gOf; rw [h]; rfl
theorem gOf_yes {xs : List Cd} (h : progValid xs = true) : gOf xs = graphOf (ops xs) := by unfold gOf; rw [h]; rfl
theorem graphOf_len (os : List Int) : (graphOf os).length = os.length + 1 := by simp [graphOf]
theorem gFill (os : List Int) {k n : Nat} (h : k < n) : (((List.range k).map (succs os) ++ List.replicate (n - k) []).set k (succs os k)) = (List.range (k + 1)).map (succs os) ++ List.replicate (n - (k + 1)) [] := fill_set (succs os) [] h
theorem implgraphOf_any (A : Option Addr) (c : Nat) (xs : List Cd) (w : World) (hv : progValid xs = true) (hs : Sl w A (cflat xs)) :
    Calls Try.prog 38 #[.slice A xs.length c] w (RetApart (graphOf (ops xs)) w) := by
  obtain ⟨i0, hi0, hz0, hz1, hz2⟩ := info_parts Er.hi
  have h40 := (progValid_yes hv).1
  have HBAL := mkHid (progValid_yes hv).2.2
  have HBL := mkHid (blocks_any A c xs w (by omega) hs)
  have HS0 := mkHid hs
  have HON := mkHid (ops_len xs)
  clear hs hv
  go_enter Try.func38, Try.ntmps38
  go_wp2_with fail
  refine HBL.out.mono ?_
  rintro e w2 ⟨Av, Ov, rfl, b2, hbr⟩
  obtain ⟨R, O, P, Rw, S, rfl, rfl, hI⟩ := hbr HBAL.out
  have HB2 := mkHid b2
  have HI := mkHid hI
  have hsz2 := b2.size
  rw [HBAL.out]
  clear b2 hbr hI HBL
  go_wp2_with (at_make; refine wpList_make_full _ rfl _ _ _ rfl w2.heap.size _ i0 _ 1 Er.ht hi0 hz0 hz1 _ _ _ _ (xs.length + 1) rfl rfl rfl rfl (by rw [hz2]; omega) (by simp only [maxLen]; omega) (Nat.le_refl _) ?_; intro w3 hown3 hg3; have HO3 := mkHid hown3; have HG3 := mkHid hg3; clear hown3 hg3)
  go_loopw [20] (fun i wr => ∃ k : Nat, k ≤ xs.length ∧ i = .int .i64 k ∧ ∃ qs : List Row, qs.length = xs.length + 1 ∧ Hid (graph qs = (List.range k).map (succs (ops xs)) ++ List.replicate (xs.length + 1 - k) []) ∧ wr.ownsRow w2.heap.size 38 1 (.slice (some ⟨w2.heap.size, 0, none⟩) (xs.length + 1) (xs.length + 1)) (xs.length + 1) (rowVs qs) ∧ RowsApart wr w2.heap.size qs ∧ Below w2.heap.size w2 wr) (fun i _ => xs.length - (intOf i).toNat)
  case atStart =>
    refine ⟨0, by omega, rfl, List.replicate (xs.length + 1) nilRow, by simp, mkHid ?_, ?_, RowsApart.nils _ _ _, (Below.refl _ _).grown HG3.out (Nat.le_refl _) (by simp)⟩
    · simp [graph, nilRow]
    · have := HO3.out
      rwa [rows_nils] at this
  case round =>
    clear HO3 HG3
    obtain ⟨k, hk, rfl, qs, hq, HQ, hown, hrows, hb⟩ := hrel
    have HB := mkHid hb
    by_cases hlt : k < xs.length
    · have hC := successors_any A c xs k wr (by omega) hlt HBAL.out (HS0.out.below (below_then HB2.out hb)) (HI.out.below hb)
      obtain ⟨ss, hss⟩ : ∃ ss, ss = succs (ops xs) k := ⟨_, rfl⟩
      rw [← hss] at hC
      have HC := mkHid hC
      have HSS := mkHid hss
      have HOW := mkHid hown
      have HRO := mkHid hrows
      clear hC hss hown hrows hb
      go_wp2_with fail
      refine HC.out.mono ?_
      rintro e w4 ⟨g, cc, rfl, ow, b4⟩
      have hklen : k < qs.length := by omega
      have HOW4 := mkHid (own_below HOW.out b4)
      have hset : RowsApart w4 w2.heap.size (qs.set k ⟨some ⟨g, 0, none⟩, cc, ss⟩) := by
        refine HRO.out.set hklen _ (grown_of_below b4 _) ?_ ?_
        · exact own_base ow HB.out.size
        · intro g' hg'
          right
          exact (ow.lt g' hg').1
      have HSET := mkHid hset
      have HB4 := mkHid (below_then HB.out b4)
      obtain ⟨G, hG, hgb2, hgs2, hcell2, hfr2, hst2⟩ := own_open HOW4.out (i := k) (by simpa using hklen)
      injection hG with hG
      injection hG with hG
      subst hG
      have HST := mkHid (hst2 (.slice (some ⟨g, 0, none⟩) ss.length cc))
      clear hst2 hset ow b4 HC HB HOW HRO
      go_wp2_with fail
      go_roundw
      case rel =>
        have hgr := grown_setCell w4 w2.heap.size k (.slice (some ⟨g, 0, none⟩) ss.length cc)
        refine ⟨k + 1, by omega, by go_num, qs.set k ⟨some ⟨g, 0, none⟩, cc, ss⟩, by simpa using hq, mkHid ?_, ?_, HSET.out.kept hgr (fun r hr g' hg' e => by
          injection e with e
          exact own_types' HOW4.out (HSET.out.1 r hr) (by decide) hg' e.symm), HB4.out.grown hgr HB4.out.size (fun g' hg' => by injection hg' with hg'; omega)⟩
        · rw [graph_set, HQ.out, HSS.out]
          exact gFill (ops xs) (by omega)
        · have := HST.out
          rw [← rows_set]
          exact this
      case measure => simp [intOf] <;> omega
    · have hke : k = xs.length := by omega
      have HOW := mkHid hown
      have HRO := mkHid hrows
      subst hke
      clear hown hrows hb
      go_wp2_with fail
      go_ret
      have hgq := HQ.out
      rw [show xs.length + 1 - xs.length = 1 by omega] at hgq
      have hg2 : graph qs = graphOf (ops xs) := by rw [hgq]; unfold graphOf; rw [HON.out]; rfl
      have hlen : (graphOf (ops xs)).length = xs.length + 1 := by rw [graphOf_len, HON.out]
      exact ⟨some ⟨w2.heap.size, 0, none⟩, xs.length + 1, qs, by rw [hlen]; rfl, hg2, by rw [hlen]; exact own_base HOW.out hsz2, ⟨fun r hr => own_base (HRO.out.1 r hr) hsz2, HRO.out.2⟩, below_then HB2.out HB.out⟩
theorem implGraphOf_any (A : Option Addr) (c : Nat) (xs : List Cd) (w : World) (hl : xs.length ≤ 1048576) (hs : Sl w A (cflat xs)) :
    Calls Try.prog 17 #[.slice A xs.length c] w (RetApart (gOf xs) w) := by
  have hV := implProgramValid_any A c xs w hl hs
  obtain ⟨gg, hgg⟩ : ∃ gg, gg = gOf xs := ⟨_, rfl⟩
  rw [← hgg]
  have HGG := mkHid hgg
  clear hgg
  obtain ⟨v, hv⟩ : ∃ v, v = progValid xs := ⟨_, rfl⟩
  rw [← hv] at hV
  have HPV := mkHid hV
  have HVV := mkHid hv
  have HS0 := mkHid hs
  clear hs hV hv
  go_enter Try.func17, Try.ntmps17
  go_wp2_with fail
  refine HPV.out.mono ?_
  rintro e w1 ⟨rfl, b1⟩
  have HB1 := mkHid b1
  have hsz := b1.size
  clear b1
  cases v with
  | false =>
    have HG := mkHid (HGG.out.trans (gOf_no HVV.out.symm))
    go_wp2_with fail
    go_ret
    rw [HG.out]
    exact ⟨none, 0, [], rfl, rfl, World.ownsRow_nil _ _ _ _, RowsApart.nils _ _ 0, HB1.out⟩
  | true =>
    have hC := implgraphOf_any A c xs w1 HVV.out.symm (HS0.out.below HB1.out)
    rw [← gOf_yes HVV.out.symm, ← HGG.out] at hC
    have HC := mkHid hC
    clear hC
    go_wp2_with fail
    refine HC.out.mono ?_
    rintro e w2 ⟨A2, c2, qs, rfl, hg, ho, ha, b2⟩
    have HO := mkHid (own_base ho hsz)
    have HA := mkHid (show RowsApart w2 w.heap.size qs from ⟨fun r hr => own_base (ha.1 r hr) hsz, ha.2⟩)
    have HB2 := mkHid (below_then HB1.out b2)
    have HG2 := mkHid hg
    clear ho ha b2 hg
    go_wp2_with fail
    go_ret
    exact ⟨A2, c2, qs, rfl, HG2.out, HO.out, HA.out, HB2.out⟩
end Go.Proofs.Ytjgemgjpbanliaa
