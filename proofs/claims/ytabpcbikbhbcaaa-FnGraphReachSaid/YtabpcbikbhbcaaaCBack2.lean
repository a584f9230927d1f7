/-
  Contract of GraphBack of the program.
-/
import Derived.Test.YtabpcbikbhbcaaaCBack
import Derived.Deep.AppendLies
namespace Go.Proofs.Ytabpcbikbhbcaaa
open Go.RowKit
set_option maxHeartbeats 2000000
set_option linter.unusedVariables false

def backs (g : List (List Int)) (k j : Nat) : List (List Int) := (List.range g.length).map fun a : Nat => backCur g k j a
theorem backs_full (g : List (List Int)) (k j : Nat) (h : (g.getD k []).length ≤ j) : backs g k j = backs g (k + 1) 0 := by
  unfold backs
  exact List.map_congr_left fun a _ => by rw [backCur_full g k a j h, backCur_zero]
theorem backs_done {g : List (List Int)} (h : graphValid g = true) : backs g g.length 0 = back g := by
  unfold backs back
  rw [if_pos h]
  exact List.map_congr_left fun a _ => backCur_zero _ _ _
theorem backs_zero (g : List (List Int)) : backs g 0 0 = List.replicate g.length [] := by
  unfold backs
  rw [List.eq_replicate_iff]
  refine ⟨by simp, fun x hx => ?_⟩
  obtain ⟨a, _, rfl⟩ := List.mem_map.1 hx
  rfl
theorem backs_step (g : List (List Int)) (k j t : Nat) (h : j < (g.getD k []).length) (ht : t < g.length) (he : (g.getD k [])[j] = (t : Int)) : (backs g k j).set t (backCur g k j t ++ [(k : Int)]) = backs g k (j + 1) := by
  apply List.ext_getElem?
  intro i
  rw [List.getElem?_set]
  by_cases e : t = i
  · subst e
    rw [if_pos rfl, if_pos (by simp [backs, ht])]
    simp only [backs, List.getElem?_map, List.getElem?_range ht, Option.map_some]
    rw [backCur_succ g k j t h, he]
    simp
  · rw [if_neg e]
    simp only [backs, List.getElem?_map]
    by_cases hi : i < g.length
    · rw [List.getElem?_range hi]
      simp only [Option.map_some]
      rw [backCur_succ g k j i h, he]
      have : ((t : Int) == (i : Int)) = false := by rw [beq_eq_false_iff_ne]; omega
      rw [this]
      simp
    · rw [List.getElem?_eq_none (by simp; omega)]; rfl
theorem own_types' {w : World} {b1 b2 s1 s2 B g n c m : Nat} {e1 e2 : TypeId} {v : Value} {xs ys : List Value} (h : w.ownsRow b1 e1 s1 (.slice (some ⟨B, 0, none⟩) n c) n xs) (k : w.ownsRow b2 e2 s2 v m ys) (hne : e1 ≠ e2) (hv : v.ownBlock = some g) : g ≠ B := by
  intro e
  subst e
  rcases k.2 with ⟨h1, _⟩ | ⟨g2, c2, cur2, hv2, _⟩
  · rw [h1] at hv; cases hv
  · rw [hv2] at hv k
    have : g2 = g := by simpa [Value.ownBlock] using hv
    subst this
    exact hne (own_types h k)
/-- the call hands back rows in blocks of their own, in whatever order. -/
def RetApart (g : List (List Int)) (w : World) (e : Ending) (w' : World) : Prop :=
  ∃ A c qs, e = .returned (.slice A g.length c) ∧ graph qs = g ∧ w'.ownsRow w.heap.size 30 1 (.slice A g.length c) g.length (rowVs qs) ∧ RowsApart w' w.heap.size qs ∧ Below w.heap.size w w'
theorem RowsApart.nils (w : World) (lo n : Nat) : RowsApart w lo (List.replicate n nilRow) := by
  refine ⟨fun r hr => ?_, fun i j hi hj _ g h1 _ => ?_⟩
  · rw [List.eq_of_mem_replicate hr]; exact World.ownsRow_nil _ _ _ _
  · rw [List.getElem_replicate] at h1; cases h1
theorem rows_set (qs : List Row) (t : Nat) (r : Row) : (rowVs qs).set t (rowV r) = rowVs (qs.set t r) := by
  simp [rowVs, List.map_set]
theorem graph_set (qs : List Row) (t : Nat) (r : Row) : graph (qs.set t r) = (graph qs).set t r.zs := by
  simp [graph, List.map_set]
theorem implGraphBack_no (A : Option Addr) (c : Nat) (rs : List Row) (w : World) (hn : rs.length ≤ 1000000000) (hs : Grid w A rs) (hv : graphValid (graph rs) = false) :
    Calls Try.prog 18 #[.slice A rs.length c] w (RetApart (back (graph rs)) w) := by
  have hV := implGraphValid_any A c rs w (by omega) hs
  rw [hv] at hV
  have HV := mkHid hV
  have HB : Hid (back (graph rs) = []) := mkHid (by unfold back; rw [hv]; rfl)
  clear hV hv
  go_enter Try.func18, Try.ntmps18
  go_wp2_with fail
  refine HV.out.mono ?_
  rintro e w2 ⟨rfl, rfl⟩
  go_wp2_with fail
  go_ret
  rw [HB.out]
  exact ⟨none, 0, [], rfl, rfl, World.ownsRow_nil _ _ _ _, RowsApart.nils _ _ 0, Below.refl _ _⟩
theorem implGraphBack_yes (A : Option Addr) (c : Nat) (rs : List Row) (w : World) (ht : total rs ≤ 1048576) (hs : Grid w A rs) (hv : graphValid (graph rs) = true) :
    Calls Try.prog 18 #[.slice A rs.length c] w (RetApart (back (graph rs)) w) := by
  have hgl : (graph rs).length = rs.length := by simp
  have hn64 := (graph_nodes hv).1
  rw [hgl] at hn64
  have hnodes : ∀ i, (hi : i < rs.length) → ∀ v ∈ rs[i].zs, 0 ≤ v ∧ v < (rs.length : Int) := fun i hi v hv2 => by
    have := (graph_nodes hv).2 i (by rw [hgl]; exact hi) v (by simpa using hv2)
    rw [hgl] at this
    exact this
  have hV := implGraphValid_any A c rs w (by omega) hs
  rw [hv] at hV
  have HV := mkHid hV
  have HNO := mkHid hnodes
  have HDN := mkHid (backs_done hv)
  have HGL := mkHid hgl
  have HCL := mkHid (fun a k j (hk : k < rs.length) => backCur_len rs a k j hk)
  obtain ⟨i0, hi0, hz0, hz1, hz2⟩ := info_parts Er.hi
  obtain ⟨j0, hj0, hy0, hy1, hy2⟩ := info_parts Ei.hi
  have HS0 := mkHid hs
  clear hs hnodes hgl hv hV
  go_enter Try.func18, Try.ntmps18
  go_wp2_with fail
  refine HV.out.mono ?_
  rintro e w' ⟨rfl, rfl⟩
  go_wp2_with (at_make; refine wpList_make_full _ rfl _ _ _ rfl w.heap.size _ i0 _ 1 Er.ht hi0 hz0 hz1 _ _ _ _ rs.length rfl rfl rfl rfl (by rw [hz2]; omega) (by simp only [maxLen]; omega) (Nat.le_refl _) ?_; intro w1 hown1 hg1; have HO := mkHid hown1; have HG := mkHid hg1; clear hown1 hg1)
  go_loopw [16] (fun i wr => ∃ k : Nat, k ≤ rs.length ∧ i = .int .i64 k ∧ ∃ qs : List Row, qs.length = rs.length ∧ Hid (graph qs = backs (graph rs) k 0) ∧ wr.ownsRow w.heap.size 30 1 (.slice (some ⟨w.heap.size, 0, none⟩) rs.length rs.length) rs.length (rowVs qs) ∧ RowsApart wr w.heap.size qs ∧ Below w.heap.size w wr) (fun i _ => rs.length - (intOf i).toNat)
  case atStart =>
    refine ⟨0, by omega, rfl, List.replicate rs.length nilRow, by simp, mkHid ?_, ?_, RowsApart.nils _ _ _, (Below.refl _ _).grown HG.out (Nat.le_refl _) (by simp)⟩
    · rw [backs_zero, HGL.out]; simp [nilRow]
    · have := HO.out
      rwa [rows_nils] at this
  case round =>
    clear HO HG
    obtain ⟨k, hk, rfl, qs, hq, HQ, hown, hrows, hb⟩ := hrel
    have hs' := HS0.out.below hb
    have HB := mkHid hb
    have HRO := mkHid hrows
    have HOW := mkHid hown
    clear hb hrows hown
    by_cases hlt : k < rs.length
    · obtain ⟨b, off, rfl, h1, h2, h3, h4⟩ := hs'.at_ hlt
      have hnod := HNO.out k hlt
      have hat := graph_at hlt
      have hcl := fun a j => HCL.out a k j hlt
      have H2 := mkHid (HS0.out.2 _ (List.getElem_mem hlt)).1
      obtain ⟨r, hr⟩ : ∃ r, r = rs[k] := ⟨_, rfl⟩
      rw [← hr] at h1 h3 h4 hnod hat H2
      obtain ⟨ra, rc, zs⟩ := r
      simp only at h1 h3 h4 hnod hat H2
      have HND := mkHid hnod
      have HAT := mkHid hat
      have HCK := mkHid hcl
      clear hr h2 hnod hat hcl hs'
      go_wp2_with fail
      go_loopw [23] (fun jv wr2 => ∃ j : Nat, j ≤ zs.length ∧ jv = .int .i64 j ∧ ∃ qs : List Row, qs.length = rs.length ∧ Hid (graph qs = backs (graph rs) k j) ∧ wr2.ownsRow w.heap.size 30 1 (.slice (some ⟨w.heap.size, 0, none⟩) rs.length rs.length) rs.length (rowVs qs) ∧ RowsApart wr2 w.heap.size qs ∧ Below w.heap.size w wr2) (fun jv _ => zs.length - (intOf jv).toNat)
      case atStart => exact ⟨0, by omega, rfl, qs, hq, HQ, HOW.out, HRO.out, HB.out⟩
      case round =>
        clear HOW HRO HB HQ hq h1
        obtain ⟨j, hj, rfl, qs, hq, HQ, hown, hrows, hb⟩ := hrel
        have hs' := H2.out.below hb
        have HB := mkHid hb
        have hsz := hb.size
        have HRO := mkHid hrows
        by_cases hjl : j < zs.length
        · obtain ⟨bb, ob, rfl, hc⟩ := hs'.at_ (k := j) (by simpa using hjl)
          have hz : wr.cell? ⟨bb, ob + j, none⟩ = some (.int .i64 zs[j]) := hc j _ (ints_at hjl)
          have hzb := HND.out zs[j] (List.getElem_mem hjl)
          have HST := mkHid (fun t ht he => backs_step (graph rs) k j t (by rw [HAT.out]; exact hjl) ht he)
          have hze : ((graph rs).getD k [])[j]'(by rw [HAT.out]; exact hjl) = zs[j] := by simp only [HAT.out]
          have hgt : ∀ t, (h : t < qs.length) → qs[t].zs = backCur (graph rs) k j t := fun t h => by
            have h0 : (graph qs)[t]? = (backs (graph rs) k j)[t]? := by rw [HQ.out]
            have htl : t < (graph rs).length := by rw [HGL.out]; omega
            simp only [backs, List.getElem?_map, List.getElem?_range htl] at h0
            simpa [h] using h0
          obtain ⟨z, hzz⟩ : ∃ z, z = zs[j] := ⟨_, rfl⟩
          rw [← hzz] at hz hzb hze
          obtain ⟨t, rfl⟩ := Int.eq_ofNat_of_zero_le hzb.1
          have htl : t < qs.length := by omega
          have htn : t < rs.length := by omega
          have HSTP := mkHid (HST.out t (by rw [HGL.out]; omega) hze)
          obtain ⟨g, hg, hgb, hgs, hcell0, hfr, hst⟩ := own_open hown (i := t) (by simpa using htl)
          injection hg with hg
          injection hg with hg
          subst hg
          have hgtt := hgt t htl
          have hcl := HCK.out t j
          rw [← hgtt] at hcl
          have HGT := mkHid hgtt
          have hro := hrows.1 _ (List.getElem_mem htl)
          have hcell : wr.cell? ⟨w.heap.size, t, none⟩ = some (.slice qs[t].a qs[t].zs.length qs[t].c) := by rw [hcell0]; simp
          have hqt : qs[t] = qs[t] := rfl
          obtain ⟨q, hqe⟩ : ∃ q, q = qs[t] := ⟨_, rfl⟩
          rw [← hqe] at hcell hcl hro HGT
          obtain ⟨qa, qc, ys⟩ := q
          simp only at hcell hcl hro HGT
          have HRW := mkHid (show wr.ownsRow w.heap.size 3 1 (.slice qa ys.length qc) ys.length (ints ys) from hro)
          have HQE := mkHid hqe
          have HOW := mkHid hown
          have hb1 := (Below.refl wr.heap.size wr).alloc (Nat.le_refl _) (.cells #[.int .i64 k] 3)
          have HOW1 := mkHid (own_below hown hb1)
          have HRO1 := mkHid (hrows.below hb1)
          have HRW1 := mkHid (own_below HRW.out hb1)
          have HBW1 := mkHid (below_then HB.out hb1)
          have HLEN : Hid (ys.length ≤ 1048576) := mkHid (Nat.le_trans hcl ht)
          clear hc hzz hze hst hfr hcell0 hcl hgt hgtt hro hqt hrows hown hs' hb hqe hb1
          have hyl := HLEN.out
          go_wp2_with
            (at_builtin
             refine wpList_append_lies _ rfl _ _ _ rfl w.heap.size _ j0 _ 1 8 Ei.ht hj0 hy0 hy1 hy2 rfl (by omega) _ _ _ rfl HRW1.out _ 1 1 [.int .i64 k] rfl (by simp) (newCellsAt _ _ _ (by simp)) (by simp [Value.oneCell']) (by omega) (by simp only [maxLen]; omega) (by omega) (by simp; omega) _ rfl ?_
             intro g2 c2 w2 hown2 hg2 hat2 hlt2
             have HO2 := mkHid hown2
             have HG2 := mkHid hg2
             have HA2 := mkHid hat2
             have HOW2 := mkHid (own_grown' HOW1.out hg2 (fun g e1 e2 => by
               have e1' : w.heap.size = g := by simpa [Value.ownBlock] using e1
               exact own_types' HOW1.out HRW1.out (by decide) e2 e1'.symm))
             obtain ⟨g, hg, hgb2, hgs2, hcell2, hfr2, hst2⟩ := own_open HOW2.out (i := t) (by simpa using htl)
             injection hg with hg
             injection hg with hg
             subst hg
             have HST2 := mkHid hst2
             clear hown2 hg2 hat2 hst2)
          have hHW : (wr.alloc (.cells #[.int .i64 k] 3)).heap.size ≤ w2.heap.size := HG2.out.size
          have hq2 : (rowV (Row.mk (some ⟨g2, 0, none⟩) c2 (ys ++ [(k : Int)]))) = .slice (some ⟨g2, 0, none⟩) (ys.length + 1) c2 := by simp [rowV]
          have HSET : RowsApart w2 w.heap.size (qs.set t ⟨some ⟨g2, 0, none⟩, c2, ys ++ [(k : Int)]⟩) := by
            refine HRO1.out.set htl _ (by rw [← HQE.out]; exact HG2.out) ?_ ?_
            · have := HO2.out
              simpa [rowV, ints] using this
            · intro g hg
              have hg : g2 = g := by simpa [Value.ownBlock] using hg
              subst hg
              rw [← HQE.out]
              rcases HA2.out with h | h
              · exact .inl h
              · right; simp [h]
          have HBW2 := below_grown HBW1.out HG2.out (fun g hg => (HRW1.out.lt g hg).1)
          have hst3 := HST2.out (.slice (some ⟨g2, 0, none⟩) (ys.length + 1) c2)
          rw [← hq2, rows_set, hq2] at hst3
          have hgr3 := grown_setCell w2 w.heap.size t (.slice (some ⟨g2, 0, none⟩) (ys.length + 1) c2)
          have HR3 := mkHid (HSET.kept hgr3 (fun r hr g hg e => by
            injection e with e
            exact own_types' HOW2.out (HSET.1 r hr) (by decide) hg e.symm))
          have HB3 := mkHid (below_grown HBW2 hgr3 (fun g hg => by injection hg with hg; omega))
          have HS3 := mkHid hst3
          clear hst3 hgr3 HST2 HSET HBW2 hq2
          go_wp2_with fail
          go_roundw
          case rel =>
            refine ⟨j + 1, by omega, by go_num, _, by simpa using hq, mkHid ?_, HS3.out, HR3.out, HB3.out⟩
            rw [graph_set, HQ.out, ← HSTP.out, HGT.out]
          case measure => simp [intOf] <;> omega
        · have HNX := mkHid (backs_full (graph rs) k j (by rw [HAT.out]; omega))
          have HOW := mkHid hown
          clear hs' hown hrows hb
          go_wp2_with fail
          go_round
          case rel => exact ⟨k + 1, by omega, by go_num, qs, hq, mkHid (HQ.out.trans HNX.out), HOW.out, HRO.out, HB.out⟩
          case measure => simp [intOf] <;> omega
    · have hke : k = rs.length := by omega
      subst hke
      clear hs'
      go_wp2_with fail
      go_ret
      have hgq := HQ.out
      have hdn := HDN.out
      rw [HGL.out] at hdn
      rw [hdn] at hgq
      have hlen := graph_length hgq
      rw [hq] at hlen
      exact ⟨some ⟨w.heap.size, 0, none⟩, rs.length, qs, by rw [← hlen]; rfl, hgq, by rw [← hlen]; exact HOW.out, HRO.out, HB.out⟩
end Go.Proofs.Ytabpcbikbhbcaaa
