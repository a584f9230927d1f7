/-
  Contract of GraphReach of the reference.
-/
import Derived.Test.YtabpcbikbhbcaaaCReach3
namespace Go.Proofs.Ytabpcbikbhbcaaa
open Go.RowKit
set_option maxHeartbeats 2000000
set_option linter.unusedVariables false

theorem specReach_yes (A : Option Addr) (c : Nat) (rs : List Row) (src : Nat) (wo : Int) (w : World) (hv : graphValid (graph rs) = true) (hs : Grid w A rs) (hsrc : src < rs.length) (hwo : -1 ≤ wo ∧ wo < rs.length) :
    Calls Try.prog 23 #[.slice A rs.length c, .int .i64 src, .int .i64 wo] w (RetBools (reachB (graph rs) src wo) w) := by
  have hgl : (graph rs).length = rs.length := by simp
  have hn64 := (graph_nodes hv).1
  rw [hgl] at hn64
  have hok0 := OkSt.start rs.length src wo (by omega)
  have hokall := bfs_ok (wo := wo) hv (by rw [hgl]; exact hok0)
  rw [hgl] at hokall
  have hnodes : ∀ i, (hi : i < rs.length) → ∀ v ∈ rs[i].zs, 0 ≤ v ∧ v < (rs.length : Int) := fun i hi v hv2 => by
    have := (graph_nodes hv).2 i (by rw [hgl]; exact hi) v (by simpa using hv2)
    rw [hgl] at this
    exact this
  have hV := specGraphValid_any A c rs w (by omega) hs
  rw [hv] at hV
  have HV := mkHid hV
  have HNO := mkHid hnodes
  have HOK := mkHid hokall
  have HGL := mkHid hgl
  obtain ⟨i0, hi0, hz0, hz1, hz2⟩ := info_parts Eb.hi
  have HS0 := mkHid hs
  obtain ⟨st0, hst0⟩ : ∃ st0 : St, st0 = startSt rs.length src wo := ⟨_, rfl⟩
  have HST := mkHid hst0
  rw [← hst0] at HOK
  clear hs hnodes hokall hgl hok0 hv hV hst0
  have hC1 := fun w => l1In_any (src : Int) 0 ((rs.length : Int) - 1) w
  simp only [inB_of (show (0 : Int) ≤ (src : Int) by omega) (show (src : Int) ≤ (rs.length : Int) - 1 by omega)] at hC1
  have hC2 := fun w => l1In_any wo (-1) ((rs.length : Int) - 1) w
  simp only [inB_of hwo.1 (show wo ≤ (rs.length : Int) - 1 by omega)] at hC2
  have HC1 := mkHid hC1
  have HC2 := mkHid hC2
  clear hC1 hC2
  go_enter Try.func23, Try.ntmps23
  go_wp2_with fail
  refine HV.out.mono ?_
  rintro e w0 ⟨rfl, q0, rfl⟩
  have HS := mkHid (HS0.out.drewN q0)
  have HB0 := mkHid (below_drewN (Below.refl w.heap.size w) q0)
  generalize w.drewN q0 = w0 at *
  have HS0' := HS0
  clear HS0 HS
  go_wp2_with fail
  refine (HC1.out _).mono ?_
  rintro e w' ⟨rfl, rfl⟩
  go_wp2_with fail
  refine (HC2.out _).mono ?_
  rintro e w' ⟨rfl, rfl⟩
  have hsz0 := HB0.out.size
  by_cases hsw : (src : Int) = wo
  case' pos =>
    have hse : st0 = (List.replicate rs.length false, []) := by rw [HST.out]; unfold startSt; rw [if_pos hsw]
    have HSE := mkHid hse
    have hb : ((src : Int) != wo) = false := by simpa using hsw
    clear hse hsw
    go_wp2_with (at_make; refine wpList_make_full _ rfl _ _ _ rfl w0.heap.size _ i0 _ 1 Eb.ht hi0 hz0 hz1 _ _ _ _ rs.length rfl rfl rfl rfl (by rw [hz2]; omega) (by simp only [maxLen]; omega) (Nat.le_refl _) ?_; intro w1 hown1 hg1; have ho1 := hown1; rw [madeBools] at ho1; have HO1 := mkHid ho1; have HB1 := mkHid (HB0.out.grown hg1 HB0.out.size (by simp)); have hlt1 := (ho1.lt w0.heap.size rfl).2; clear hown1 hg1 ho1)
    have hseen : (w1.alloc (.cells #[] 3)).ownsRow w.heap.size 4 1 (.slice (some ⟨w0.heap.size, 0, none⟩) rs.length rs.length) rs.length (bools st0.1) := by
      rw [HSE.out]; exact own_base (HO1.out.alloc _) hsz0
    have hl0 : (w1.alloc (.cells #[] 3)).ownsRow w.heap.size 3 1 (.slice (some ⟨w1.heap.size, 0, none⟩) st0.2.length 0) st0.2.length (ints st0.2) := by
      rw [HSE.out]; exact own_base (own_empty w1 _ _) (by omega)
    have hbw : Below w.heap.size w (w1.alloc (.cells #[] 3)) := HB1.out.alloc HB1.out.size _
    have HLV : Hid (Value.slice (some ⟨w1.heap.size, 0, none⟩) 0 0 = .slice (some ⟨w1.heap.size, 0, none⟩) st0.2.length 0) := mkHid (by rw [HSE.out]; rfl)
    have HSN := mkHid hseen
    have HL0 := mkHid hl0
    have HBW := mkHid hbw
    clear hseen hl0 hbw HO1 HB1
  case' neg =>
    have hse : st0 = ((List.replicate rs.length false).set src true, [(src : Int)]) := by rw [HST.out]; unfold startSt; rw [if_neg hsw]; simp
    have HSE := mkHid hse
    have hb : ((src : Int) != wo) = true := by simpa using hsw
    clear hse hsw
    go_wp2_with (first
      | (at_make; refine wpList_make_full _ rfl _ _ _ rfl w0.heap.size _ i0 _ 1 Eb.ht hi0 hz0 hz1 _ _ _ _ rs.length rfl rfl rfl rfl (by rw [hz2]; omega) (by simp only [maxLen]; omega) (Nat.le_refl _) ?_; intro w1 hown1 hg1; have ho1 := hown1; rw [madeBools] at ho1; have HO1 := mkHid ho1; have HB1 := mkHid (HB0.out.grown hg1 HB0.out.size (by simp)); have hlt1 := (ho1.lt w0.heap.size rfl).2; clear hown1 hg1 ho1)
      | (at_builtin; refine wpList_appS Ei ((own_empty w1 _ _).alloc _) (newCellsAt _ _ _ (by simp)) rfl (by simp [Value.oneCell']) (by omega) (by omega) (by simp; omega) rfl rfl rfl rfl ?_; intro g2 c2 w2 hown2 hg2; have HO2 := mkHid hown2; have HG2 := mkHid hg2; have HO12 := mkHid (own_bools (own_grown' ((HO1.out.alloc (.cells #[] 3)).alloc (.cells #[.int .i64 src] 3)) hg2 (fun g e1 e2 => by have e1' : w0.heap.size = g := (by simpa [Value.ownBlock] using e1); have e2' : w1.heap.size = g := (by simpa using e2); omega)) (t := src) (by simpa using hsrc)); clear hown2 hg2; obtain ⟨p1, p2, _⟩ := HO12.out))
    have hsw2 := (grown_setCell w2 w0.heap.size src (.bool true))
    have hlt2 : w0.heap.size < w2.heap.size := by have := HG2.out.size; simp at this; omega
    have hg2w : g2 ≠ w0.heap.size := by have := (HO2.out.lt g2 rfl).1; omega
    have hseen : (w2.setCell ⟨w0.heap.size, src, none⟩ (.bool true)).ownsRow w.heap.size 4 1 (.slice (some ⟨w0.heap.size, 0, none⟩) rs.length rs.length) rs.length (bools st0.1) := by
      rw [HSE.out]; exact own_base HO12.out.2.2 hsz0
    have hl0 : (w2.setCell ⟨w0.heap.size, src, none⟩ (.bool true)).ownsRow w.heap.size 3 1 (.slice (some ⟨g2, 0, none⟩) st0.2.length c2) st0.2.length (ints st0.2) := by
      rw [HSE.out]
      exact own_grown' (own_base HO2.out (by omega)) hsw2 (fun g e1 e2 => by
        have e1' : g2 = g := (by simpa [Value.ownBlock] using e1)
        have e2' : w0.heap.size = g := (by simpa using e2)
        omega)
    have hbw : Below w.heap.size w (w2.setCell ⟨w0.heap.size, src, none⟩ (.bool true)) := by
      have h1 := (HB1.out.alloc HB1.out.size (.cells #[] 3)).alloc (HB1.out.alloc HB1.out.size (.cells #[] 3)).size (.cells #[.int .i64 src] 3)
      have h2 := h1.grown HG2.out h1.size (fun g e => by injection e with e; omega)
      exact h2.grown hsw2 h2.size (fun g e => by injection e with e; omega)
    have HLV : Hid (Value.slice (some ⟨g2, 0, none⟩) 1 c2 = .slice (some ⟨g2, 0, none⟩) st0.2.length c2) := mkHid (by rw [HSE.out]; rfl)
    have HSN := mkHid hseen
    have HL0 := mkHid hl0
    have HBW := mkHid hbw
    clear hseen hl0 hbw HO12 HO2 HG2 HB1 hsw2 p1 p2 HO1
  all_goals (
    go_loopw [8, 9] (fun v i wr => ∃ k : Nat, i = .int .i64 k ∧ ∃ gl cl q, v = .slice (some ⟨gl, 0, none⟩) q.length cl ∧ Hid (q = (bfs (graph rs) wo st0 k).2) ∧ k ≤ q.length ∧ q.length ≤ rs.length ∧ wr.ownsRow w.heap.size 3 1 (.slice (some ⟨gl, 0, none⟩) q.length cl) q.length (ints q) ∧ wr.ownsRow w.heap.size 4 1 (.slice (some ⟨w0.heap.size, 0, none⟩) rs.length rs.length) rs.length (bools (bfs (graph rs) wo st0 k).1) ∧ Below w.heap.size w wr) (fun _ i _ => rs.length - (intOf i).toNat)
    case atStart => exact ⟨0, rfl, _, _, st0.2, HLV.out, mkHid rfl, Nat.zero_le _, (HOK.out 0).le, HL0.out, HSN.out, HBW.out⟩
    case round =>
      clear HSN HL0 HBW HLV HSE
      obtain ⟨k, rfl, gl, cl, q, rfl, HQ, hkq, hqn, hol, hos, hbw⟩ := hrel
      have HOL := mkHid hol
      have HOS := mkHid hos
      have HB := mkHid hbw
      have hgr := HS0'.out.below hbw
      clear hol hos hbw
      by_cases hlt : k < q.length
      · obtain ⟨stk, hstk⟩ : ∃ stk, stk = bfs (graph rs) wo st0 k := ⟨_, rfl⟩
        have hokk := HOK.out k
        have hklt : k < (bfs (graph rs) wo st0 k).2.length := by rw [← HQ.out]; exact hlt
        have hnext := bfs_some hklt
        have hvb := (HOK.out k).2.1 _ (List.getElem_mem hklt)
        have hvk : (bfs (graph rs) wo st0 k).2[k] = q[k] := by
          have h5 : (bfs (graph rs) wo st0 k).2[k]? = q[k]? := by rw [HQ.out]
          rw [List.getElem?_eq_getElem hklt, List.getElem?_eq_getElem hlt] at h5
          exact Option.some.inj h5
        rw [hvk] at hnext hvb
        rw [← hstk] at hnext hokk HQ HOS
        obtain ⟨lb, lo, hA, hlc⟩ := (Sl.of_own HOL.out).at_ (k := k) (by simpa using hlt)
        injection hA with hA
        injection hA with hA1 hA2
        subst hA1 hA2
        have hq1 : wr.cell? ⟨gl, k, none⟩ = some (.int .i64 q[k]) := by have := hlc k _ (ints_at hlt); simpa using this
        obtain ⟨v, hvq⟩ : ∃ v, v = q[k] := ⟨_, rfl⟩
        rw [← hvq] at hq1 hnext hvb
        obtain ⟨vn, rfl⟩ := Int.eq_ofNat_of_zero_le hvb.1
        have hvn : vn < rs.length := by omega
        obtain ⟨b, off, rfl, h1, h2, h3, h4⟩ := hgr.at_ hvn
        have hnod := HNO.out vn hvn
        have hat := graph_at hvn
        rw [Int.toNat_natCast, hat] at hnext
        have H2 := mkHid (HS0'.out.2 _ (List.getElem_mem hvn)).1
        obtain ⟨r, hr⟩ : ∃ r, r = rs[vn] := ⟨_, rfl⟩
        rw [← hr] at h1 h3 h4 hnod hnext H2
        obtain ⟨ra, rc, zs⟩ := r
        simp only at h1 h3 h4 hnod hnext
        have HOKK := mkHid hokk
        have HNX := mkHid hnext
        have HND := mkHid hnod
        have hkn : k < rs.length := by omega
        have HVB := mkHid hvb
        clear hlc hvk hvq hvb hnext hat hr h2 hnod hokk hstk hklt hgr
        go_wp2_with fail
        go_loopw [8, 11] (fun qv jv wr2 => ∃ j : Nat, j ≤ zs.length ∧ jv = .int .i64 j ∧ ∃ gl cl q2, qv = .slice (some ⟨gl, 0, none⟩) q2.length cl ∧ Hid (q2 = (rowStep wo stk (zs.take j)).2) ∧ wr2.ownsRow w.heap.size 3 1 (.slice (some ⟨gl, 0, none⟩) q2.length cl) q2.length (ints q2) ∧ wr2.ownsRow w.heap.size 4 1 (.slice (some ⟨w0.heap.size, 0, none⟩) rs.length rs.length) rs.length (bools (rowStep wo stk (zs.take j)).1) ∧ Below w.heap.size w wr2) (fun _ jv _ => zs.length - (intOf jv).toNat)
        case atStart => exact ⟨0, by omega, rfl, gl, cl, q, rfl, mkHid HQ.out, HOL.out, HOS.out, HB.out⟩
        case round =>
          clear HOL HOS HB hq1
          obtain ⟨j, hj, rfl, gl, cl, q2, rfl, HQ2, hol, hos, hbw⟩ := hrel
          obtain ⟨stj, hstj⟩ : ∃ stj, stj = rowStep wo stk (zs.take j) := ⟨_, rfl⟩
          have hokj : OkSt rs.length stj := by rw [hstj]; exact HOKK.out.row wo _ fun v hv => HND.out v (List.mem_of_mem_take hv)
          rw [← hstj] at HQ2 hos
          have hq2l : q2.length ≤ rs.length := by rw [HQ2.out]; exact hokj.le
          have HOL := mkHid hol
          have HOS := mkHid hos
          have HB := mkHid hbw
          have H2' := mkHid (H2.out.below hbw)
          have HSJ := mkHid hstj
          have HOJ := mkHid hokj
          have hne : gl ≠ w0.heap.size := fun e => by
            subst e
            have := own_types hol hos
            exact absurd this (by decide)
          have hw0l := (hos.lt w0.heap.size rfl)
          have hszr := hbw.size
          clear hol hos hbw hstj hokj
          by_cases hjl : j < zs.length
          · obtain ⟨bb, ob, rfl, hc⟩ := H2'.out.at_ (k := j) (by simpa using hjl)
            have hz : wr.cell? ⟨bb, ob + j, none⟩ = some (.int .i64 zs[j]) := hc j _ (ints_at hjl)
            have hzb := HND.out zs[j] (List.getElem_mem hjl)
            have HT := mkHid (rowStep_take wo stk zs j hjl)
            rw [← HSJ.out] at HT
            obtain ⟨z, hzz⟩ : ∃ z, z = zs[j] := ⟨_, rfl⟩
            rw [← hzz] at hz hzb HT
            obtain ⟨t, rfl⟩ := Int.eq_ofNat_of_zero_le hzb.1
            have htl : t < stj.1.length := by rw [HOJ.out.1]; omega
            have hsb := own_bools HOS.out htl
            have hst1 : step1 wo stj (t : Int) = if (!stj.1[t] && ((t : Int) != wo)) = true then (stj.1.set t true, stj.2 ++ [(t : Int)]) else stj := by
              unfold step1
              simp [List.getD, htl]
            have htn : (t : Int) < (rs.length : Int) := hzb.2
            have HSB := mkHid hsb
            obtain ⟨bt, hbt⟩ : ∃ bt, bt = stj.1[t] := ⟨_, rfl⟩
            obtain ⟨s1, s2, _⟩ := hsb
            rw [← hbt] at s1 hst1
            clear hc hzz hzb hbt
            cases hnw : (t : Int) != wo with
            | false =>
              have HTE : Hid (rowStep wo stk (zs.take (j + 1)) = stj) := mkHid (by rw [HT.out, hst1, hnw]; simp)
              have HNE := mkHid hnw
              clear hst1
              go_wp2_with fail
              go_roundw
              case rel => exact ⟨j + 1, by omega, by go_num, gl, cl, q2, rfl, mkHid (by rw [HTE.out]; exact HQ2.out), HOL.out, by rw [HTE.out]; exact HOS.out, HB.out⟩
              case measure => simp [intOf] <;> omega
            | true =>
              cases bt with
              | true =>
                have HTE : Hid (rowStep wo stk (zs.take (j + 1)) = stj) := mkHid (by rw [HT.out, hst1]; simp)
                have HNE := mkHid hnw
                clear hst1
                go_wp2_with fail
                go_roundw
                case rel => exact ⟨j + 1, by omega, by go_num, gl, cl, q2, rfl, mkHid (by rw [HTE.out]; exact HQ2.out), HOL.out, by rw [HTE.out]; exact HOS.out, HB.out⟩
                case measure => simp [intOf] <;> omega
              | false =>
                have HTE : Hid (rowStep wo stk (zs.take (j + 1)) = (stj.1.set t true, stj.2 ++ [(t : Int)])) := mkHid (by rw [HT.out, hst1, hnw]; simp)
                have hg3 := grown_setCell wr w0.heap.size t (.bool true)
                have hol3 : (wr.setCell ⟨w0.heap.size, t, none⟩ (.bool true)).ownsRow w.heap.size 3 1 (.slice (some ⟨gl, 0, none⟩) q2.length cl) q2.length (ints q2) := own_grown' HOL.out hg3 (fun g e1 e2 => by
                  have e1' : gl = g := (by simpa [Value.ownBlock] using e1)
                  have e2' : w0.heap.size = g := (by simpa using e2)
                  omega)
                have hb3 := HB.out.grown hg3 HB.out.size (fun g e => by injection e with e; omega)
                have hos4 := HSB.out.2.2.alloc (.cells #[.int .i64 t] 3)
                have hb4 := hb3.alloc hb3.size (.cells #[.int .i64 t] 3)
                have h1' : (wr.setCell ⟨w0.heap.size, t, none⟩ (.bool true)).cell? ⟨bb, ob + j, none⟩ = some (.int .i64 t) := hg3.cell hz (fun e => by
                  have e' : bb = w0.heap.size := by injection e
                  have hlt5 := World.block_lt_of_cell? w _ ((H2.out.at_ (k := j) (by simpa using hjl)).choose_spec.choose_spec.2 j _ (ints_at hjl))
                  have e2 := (H2.out.at_ (k := j) (by simpa using hjl)).choose_spec.choose_spec.1
                  injection e2 with e2
                  injection e2 with e2 e3
                  simp only at hlt5
                  rw [← e2] at hlt5
                  omega)
                have HOL3 := mkHid hol3
                have HOS4 := mkHid hos4
                have HB4 := mkHid hb4
                have HG3 := mkHid hg3
                have HNE := mkHid hnw
                have hsz3 : (wr.setCell ⟨w0.heap.size, t, none⟩ (.bool true)).heap.size = wr.heap.size := by simp
                have HSZ := mkHid hsz3
                clear hol3 hos4 hb3 hb4 hg3 hst1 hsz3
                go_wp2_with (at_builtin; refine wpList_appS Ei (HOL3.out.alloc _) (newCellsAt _ _ _ (by simp)) rfl (by simp [Value.oneCell']) (by omega) (by omega) (by simp; omega) rfl rfl rfl rfl ?_; intro g5 c5 w5 hown5 hg5; have HO5 := mkHid hown5; have HG5 := mkHid hg5; clear hown5 hg5)
                go_roundw
                case rel =>
                  refine ⟨j + 1, by omega, by go_num, g5, c5, q2 ++ [(t : Int)], by simp, mkHid (by rw [HTE.out, HQ2.out]), ?_, ?_, ?_⟩
                  · have := HO5.out
                    rw [List.length_append]
                    simpa [ints] using this
                  · rw [HTE.out]
                    exact own_grown' HOS4.out HG5.out (fun g e1 e2 => by
                      have e1' : w0.heap.size = g := (by simpa [Value.ownBlock] using e1)
                      have e2' : gl = g := (by simpa using e2)
                      omega)
                  · exact HB4.out.grown HG5.out HB4.out.size (fun g e => by injection e with e; subst e; exact (HOL.out.lt gl rfl).1)
                case measure => simp [intOf] <;> omega
          · have hjz : zs.take j = zs := List.take_of_length_le (by omega)
            have hnx : bfs (graph rs) wo st0 (k + 1) = stj := by rw [HNX.out, HSJ.out, hjz]
            have hpre : k + 1 ≤ q2.length := by
              obtain ⟨l, hl⟩ := rowStep_pre wo (zs.take j) stk
              have : q2 = q ++ l := by rw [HQ2.out, HSJ.out, hl, ← HQ.out]
              rw [this, List.length_append]; omega
            have HNX2 := mkHid hnx
            clear hjz hnx
            go_wp2_with fail
            go_roundw
            case rel => exact ⟨k + 1, by go_num, gl, cl, q2, rfl, mkHid (by rw [HNX2.out]; exact HQ2.out), hpre, hq2l, HOL.out, by rw [HNX2.out]; exact HOS.out, HB.out⟩
            case measure => simp [intOf] <;> omega
      · have hkd : k = (bfs (graph rs) wo st0 k).2.length := by rw [← HQ.out]; omega
        have HV2 : Hid ((bfs (graph rs) wo st0 k).1 = reachB (graph rs) src wo) := mkHid (by
          have := @reach_done (graph rs) src wo k (by rw [HGL.out, ← HST.out]; exact hkd) (by rw [HGL.out]; omega)
          rw [HGL.out, ← HST.out] at this
          exact this)
        have hlen : (bfs (graph rs) wo st0 k).1.length = rs.length := (HOK.out k).1
        have HLN := mkHid hlen
        clear hkd hlen hgr
        go_wp2_with fail
        go_ret
        rw [← HV2.out]
        exact ⟨some ⟨w0.heap.size, 0, none⟩, rs.length, by rw [HLN.out]; rfl, by rw [HLN.out]; exact HOS.out, HB.out⟩)
end Go.Proofs.Ytabpcbikbhbcaaa
