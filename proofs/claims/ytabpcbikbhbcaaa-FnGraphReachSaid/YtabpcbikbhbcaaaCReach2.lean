/-
  Contract of reach.
-/
import Derived.Test.YtabpcbikbhbcaaaCReach
import Derived.Deep.LoopGhost
namespace Go.Proofs.Ytabpcbikbhbcaaa
open Go.RowKit
set_option maxHeartbeats 2000000
set_option linter.unusedVariables false

theorem own_block {w w' : World} {base : Nat} {e : TypeId} {size g n c : Nat} {xs : List Value} (h : w.ownsRow base e size (.slice (some ⟨g, 0, none⟩) n c) n xs) (hb : w'.heap[g]? = w.heap[g]?) : w'.ownsRow base e size (.slice (some ⟨g, 0, none⟩) n c) n xs := by
  refine ⟨h.1, ?_⟩
  rcases h.2 with ⟨hv, _⟩ | ⟨g', cap, cur, hv, h1, h2, h3⟩
  · cases hv
  · right
    have : g' = g := by injection hv with hv; injection hv with hv; injection hv with hv; exact hv.symm
    subst this
    exact ⟨g', cap, cur, hv, h1, hb.trans h2, h3⟩
theorem bools_set (bs : List Bool) (t : Nat) : (bools bs).set t (.bool true) = bools (bs.set t true) := by rw [bools, bools, List.map_set]
theorem own_bools {w : World} {base g n c : Nat} {bs : List Bool} (h : w.ownsRow base 4 1 (.slice (some ⟨g, 0, none⟩) n c) n (bools bs)) {t : Nat} (ht : t < bs.length) :
    w.cell? ⟨g, t, none⟩ = some (.bool bs[t]) ∧ w.frozen? ⟨g, t, none⟩ = false ∧ (w.setCell ⟨g, t, none⟩ (.bool true)).ownsRow base 4 1 (.slice (some ⟨g, 0, none⟩) n c) n (bools (bs.set t true)) := by
  obtain ⟨g', hg, _, _, hc, hf, hst⟩ := own_open h (i := t) (by simpa using ht)
  injection hg with hg
  injection hg with hg
  subst hg
  refine ⟨by rw [hc]; simp, hf, ?_⟩
  have := hst (.bool true)
  rwa [bools_set] at this
theorem reach_any (A : Option Addr) (c : Nat) (rs : List Row) (src : Nat) (wo : Int) (w : World) (hv : graphValid (graph rs) = true) (hs : Grid w A rs) (hsrc : src < rs.length) :
    Calls Try.prog 44 #[.slice A rs.length c, .int .i64 src, .int .i64 wo] w (RetBools (reachB (graph rs) src wo) w) := by
  have hgl : (graph rs).length = rs.length := by simp
  have hn64 := (graph_nodes hv).1
  rw [hgl] at hn64
  have hok0 := OkSt.start rs.length src wo (by omega)
  have hokall := bfs_ok (wo := wo) hv (by rw [hgl]; exact hok0)
  rw [hgl] at hokall
  have hnodes : ∀ i, (hi : i < rs.length) → ∀ v ∈ rs[i].zs, 0 ≤ v ∧ v < (rs.length : Int) := fun i hi v hv2 => by
    have := (graph_nodes hv).2 i (by rw [hgl]; exact hi) v (by simpa using hv2)
    rw [hgl] at this
    exact this
  have HNO := mkHid hnodes
  have HOK := mkHid hokall
  have HGL := mkHid hgl
  obtain ⟨i0, hi0, hz0, hz1, hz2⟩ := info_parts Eb.hi
  have HS := mkHid hs
  clear hs hnodes hokall hgl hok0 hv
  go_enter Try.func44, Try.ntmps44
  by_cases hsw : (src : Int) = wo
  · have HV : Hid (reachB (graph rs) src wo = List.replicate rs.length false) := mkHid (by
      unfold reachB
      rw [HGL.out, bfs_done (k := 0) (by unfold bfs startSt; rw [if_pos hsw]; rfl) _ (Nat.zero_le _)]
      unfold bfs startSt
      rw [if_pos hsw])
    have hb : ((src : Int) == wo) = true := by rw [beq_iff_eq]; exact hsw
    clear hsw
    go_wp2_with (at_make; refine wpList_make_full _ rfl _ _ _ rfl w.heap.size _ i0 _ 1 Eb.ht hi0 hz0 hz1 _ _ _ _ rs.length rfl rfl rfl rfl (by rw [hz2]; omega) (by simp only [maxLen]; omega) (Nat.le_refl _) ?_; intro w1 hown1 hg1; have HO := mkHid hown1; have HG := mkHid hg1; clear hown1 hg1)
    go_ret
    rw [HV.out]
    refine ⟨some ⟨w.heap.size, 0, none⟩, rs.length, by simp, ?_, (Below.refl _ _).grown HG.out (Nat.le_refl _) (by simp)⟩
    have := HO.out
    rw [madeBools] at this
    simpa using this
  · have hb : ((src : Int) == wo) = false := by simpa using hsw
    obtain ⟨st0, hst0⟩ : ∃ st0 : St, st0 = startSt rs.length src wo := ⟨_, rfl⟩
    have hse : st0 = ((List.replicate rs.length false).set src true, [(src : Int)]) := by rw [hst0]; unfold startSt; rw [if_neg hsw]; simp
    have HST := mkHid hst0
    have HSE := mkHid hse
    rw [← hst0] at HOK
    clear hsw hst0 hse
    go_wp2_with (at_make; refine wpList_make_full _ rfl _ _ _ rfl w.heap.size _ i0 _ 1 Eb.ht hi0 hz0 hz1 _ _ _ _ rs.length rfl rfl rfl rfl (by rw [hz2]; omega) (by simp only [maxLen]; omega) (Nat.le_refl _) ?_; intro w1 hown1 hg1; have ho1 := hown1; rw [madeBools] at ho1; have HO1 := mkHid (own_bools ho1 (t := src) (by simpa using hsrc)); have HB1 := mkHid ((Below.refl w.heap.size w).grown hg1 (Nat.le_refl _) (by simp)); have hlt1 := (ho1.lt w.heap.size rfl).2; clear hown1 hg1 ho1; obtain ⟨p1, p2, _⟩ := HO1.out)
    have hseen : ((w1.setCell ⟨w.heap.size, src, none⟩ (.bool true)).alloc (.cells #[.int .i64 src] 3)).ownsRow w.heap.size 4 1 (.slice (some ⟨w.heap.size, 0, none⟩) rs.length rs.length) rs.length (bools st0.1) := by
      rw [HSE.out]; exact HO1.out.2.2.alloc _
    have hq0 : QOwn ((w1.setCell ⟨w.heap.size, src, none⟩ (.bool true)).alloc (.cells #[.int .i64 src] 3)) w.heap.size w.heap.size (some ⟨w1.heap.size, 0, none⟩) 1 [(src : Int)] := by
      refine ⟨w1.heap.size, 0, #[.int .i64 src], rfl, by omega, by omega, ?_, rfl, Nat.le_refl _, by omega, fun j hj => ?_⟩
      · have := heap_alloc_new (w1.setCell ⟨w.heap.size, src, none⟩ (.bool true)) (.cells #[.int .i64 src] 3)
        simpa using this
      · have : j = 0 := by simpa using hj
        subst this
        rfl
    have hbw : Below w.heap.size w ((w1.setCell ⟨w.heap.size, src, none⟩ (.bool true)).alloc (.cells #[.int .i64 src] 3)) := by
      have h1 := HB1.out.grown (grown_setCell w1 w.heap.size src (.bool true)) HB1.out.size (fun g e => by injection e with e; omega)
      exact h1.alloc h1.size _
    have HSN := mkHid hseen
    have HQ0 := mkHid hq0
    have HBW := mkHid hbw
    clear hseen hq0 hbw p1 p2 HO1 HB1
    go_loopg [8] rs.length (fun gk v wr => ∃ k, gk = rs.length - k ∧ ∃ A' c' q, v = .slice A' q.length c' ∧ Hid (q = (bfs (graph rs) wo st0 k).2.drop k) ∧ k ≤ (bfs (graph rs) wo st0 k).2.length ∧ (q = [] ∨ QOwn wr w.heap.size w.heap.size A' c' q) ∧ wr.ownsRow w.heap.size 4 1 (.slice (some ⟨w.heap.size, 0, none⟩) rs.length rs.length) rs.length (bools (bfs (graph rs) wo st0 k).1) ∧ Below w.heap.size w wr)
    case atStart =>
      refine ⟨0, rfl, some ⟨w1.heap.size, 0, none⟩, 1, [(src : Int)], by simp, mkHid (by show _ = st0.2.drop 0; rw [HSE.out]; rfl), Nat.zero_le _, .inr ?_, HSN.out, HBW.out⟩
      exact HQ0.out
    case round =>
      clear HSN HQ0 HBW
      obtain ⟨k, rfl, A', c', q, rfl, HQ, hkl, hqo, hown, hbw⟩ := hrel
      have hkn : (bfs (graph rs) wo st0 k).2.length ≤ rs.length := (HOK.out k).le
      have HO := mkHid hown
      have HB := mkHid hbw
      have hgr := HS.out.below hbw
      have hgs := (hown.lt w.heap.size rfl).2
      clear hown hbw
      by_cases hq : q = []
      · have hkd : k = (bfs (graph rs) wo st0 k).2.length := by
          have := HQ.out
          rw [hq] at this
          have h2 := congrArg List.length this
          simp only [List.length_nil, List.length_drop] at h2
          omega
        have HV : Hid ((bfs (graph rs) wo st0 k).1 = reachB (graph rs) src wo) := mkHid (by
          have := @reach_done (graph rs) src wo k (by rw [HGL.out, ← HST.out]; exact hkd) (by rw [HGL.out]; omega)
          rw [HGL.out, ← HST.out] at this
          exact this)
        have hlen : (bfs (graph rs) wo st0 k).1.length = rs.length := (HOK.out k).1
        have HLN := mkHid hlen
        subst hq
        clear hqo hkd hlen hgr HQ hkl hkn
        go_wp2_with fail
        go_ret
        rw [← HV.out]
        exact ⟨some ⟨w.heap.size, 0, none⟩, rs.length, by rw [HLN.out]; rfl, by rw [HLN.out]; exact HO.out, HB.out⟩
      · have hqo := hqo.resolve_left hq
        have hklt : k < (bfs (graph rs) wo st0 k).2.length := by
          have h2 := congrArg List.length HQ.out
          rw [List.length_drop] at h2
          have : 0 < q.length := List.length_pos_iff.2 hq
          omega
        obtain ⟨v, q', rfl⟩ := List.exists_cons_of_ne_nil hq
        have hdr := HQ.out
        rw [List.drop_eq_getElem_cons hklt] at hdr
        injection hdr with hv1 hv2
        have hvb := (HOK.out k).2.1 _ (List.getElem_mem hklt)
        rw [← hv1] at hvb
        have hnext := bfs_some hklt
        rw [← hv1] at hnext
        obtain ⟨vn, rfl⟩ := Int.eq_ofNat_of_zero_le hvb.1
        have hvn : vn < rs.length := by omega
        obtain ⟨b, off, rfl, h1, h2, h3, h4⟩ := hgr.at_ hvn
        have hnod := HNO.out vn hvn
        have hat := graph_at hvn
        rw [Int.toNat_natCast, hat] at hnext
        obtain ⟨r, hr⟩ : ∃ r, r = rs[vn] := ⟨_, rfl⟩
        have hr0 := hr
        rw [← hr] at h1 h2 h3 h4 hnod hnext
        obtain ⟨ra, rc, zs⟩ := r
        simp only at h1 h2 h3 h4 hnod hnext
        obtain ⟨qg, qoff, hqA, hqc⟩ := hqo.cell (j := 0) (by simp)
        subst hqA
        simp only [List.getElem_cons_zero, Nat.add_zero] at hqc
        obtain ⟨stk, hstk⟩ : ∃ stk, stk = bfs (graph rs) wo st0 k := ⟨_, rfl⟩
        rw [← hstk] at hkl hkn HO hklt hnext hv2 HQ
        have hokk := HOK.out k
        rw [← hstk] at hokk
        have HOKK := mkHid hokk
        have HNX := mkHid hnext
        have HQQ := mkHid hqo
        have HQD := mkHid (show ((vn : Int) :: q') = (rowStep wo stk (zs.take 0)).2.drop k from HQ.out)
        have H2 := mkHid (HS.out.2 _ (List.getElem_mem hvn)).1
        rw [← hr0] at H2
        have HND := mkHid hnod
        have hql : q'.length + 1 ≤ 64 := by
          have h5 := congrArg List.length HQ.out
          rw [List.length_drop] at h5
          simp at h5
          omega
        clear hv1 hv2 hvb hnext hat hr hr0 h2 hnod hqo hokk hstk HQ hq hgr
        go_wp2_with fail
        go_loopw [8, 35] (fun qv jv wr2 => ∃ j : Nat, j ≤ zs.length ∧ jv = .int .i64 j ∧ ∃ A' c' q, qv = .slice A' (q.length + 1) c' ∧ Hid ((vn : Int) :: q = (rowStep wo stk (zs.take j)).2.drop k) ∧ QOwn wr2 w.heap.size w.heap.size A' c' ((vn : Int) :: q) ∧ wr2.ownsRow w.heap.size 4 1 (.slice (some ⟨w.heap.size, 0, none⟩) rs.length rs.length) rs.length (bools (rowStep wo stk (zs.take j)).1) ∧ Below w.heap.size w wr2) (fun _ jv _ => zs.length - (intOf jv).toNat)
        case atStart => exact ⟨0, by omega, rfl, some ⟨qg, qoff, none⟩, c', q', rfl, HQD, HQQ.out, HO.out, HB.out⟩
        case round =>
          clear HQD HQQ HO HB hqc hql hgs
          obtain ⟨j, hj, rfl, A2, c2, q, rfl, HQ, hqo, hown, hbw⟩ := hrel
          obtain ⟨stj, hstj⟩ : ∃ stj, stj = rowStep wo stk (zs.take j) := ⟨_, rfl⟩
          have hokj : OkSt rs.length stj := by rw [hstj]; exact HOKK.out.row wo _ fun v hv => HND.out v (List.mem_of_mem_take hv)
          rw [← hstj] at HQ hown
          have hql : q.length + 1 ≤ 64 := by
            have h5 := congrArg List.length HQ.out
            rw [List.length_drop] at h5
            have := hokj.le
            simp at h5
            omega
          have hgs := (hown.lt w.heap.size rfl).2
          have HO := mkHid hown
          have HB := mkHid hbw
          have HQO := mkHid hqo
          have H2' := mkHid (H2.out.below hbw)
          have HSJ := mkHid hstj
          have HOJ := mkHid hokj
          clear hown hbw hqo hstj
          by_cases hlt : j < zs.length
          · obtain ⟨bb, ob, rfl, hc⟩ := H2'.out.at_ (k := j) (by simpa using hlt)
            have hz : wr.cell? ⟨bb, ob + j, none⟩ = some (.int .i64 zs[j]) := hc j _ (ints_at hlt)
            have hzb := HND.out zs[j] (List.getElem_mem hlt)
            have HT := mkHid (rowStep_take wo stk zs j hlt)
            rw [← HSJ.out] at HT
            obtain ⟨z, hzz⟩ : ∃ z, z = zs[j] := ⟨_, rfl⟩
            rw [← hzz] at hz hzb HT
            obtain ⟨t, rfl⟩ := Int.eq_ofNat_of_zero_le hzb.1
            have htl : t < stj.1.length := by rw [HOJ.out.1]; omega
            have hsb := own_bools HO.out htl
            have hst1 : step1 wo stj (t : Int) = if (!stj.1[t] && ((t : Int) != wo)) = true then (stj.1.set t true, stj.2 ++ [(t : Int)]) else stj := by
              unfold step1
              simp [List.getD, htl]
            have htn : (t : Int) < (rs.length : Int) := hzb.2
            have HSB := mkHid hsb
            obtain ⟨bt, hbt⟩ : ∃ bt, bt = stj.1[t] := ⟨_, rfl⟩
            obtain ⟨s1, s2, _⟩ := hsb
            rw [← hbt] at s1 hst1
            clear hc hzz hzb hbt
            cases bt with
            | true =>
              have HTE : Hid (rowStep wo stk (zs.take (j + 1)) = stj) := mkHid (by rw [HT.out, hst1]; simp)
              clear hst1
              go_wp2_with fail
              go_roundw
              case rel => exact ⟨j + 1, by omega, by go_num, A2, c2, q, rfl, mkHid (by rw [HTE.out]; exact HQ.out), HQO.out, by rw [HTE.out]; exact HO.out, HB.out⟩
              case measure => simp [intOf] <;> omega
            | false =>
              cases hne : (t : Int) != wo with
              | false =>
                have HTE : Hid (rowStep wo stk (zs.take (j + 1)) = stj) := mkHid (by rw [HT.out, hst1, hne]; simp)
                have HNE := mkHid hne
                clear hst1
                go_wp2_with fail
                go_roundw
                case rel => exact ⟨j + 1, by omega, by go_num, A2, c2, q, rfl, mkHid (by rw [HTE.out]; exact HQ.out), HQO.out, by rw [HTE.out]; exact HO.out, HB.out⟩
                case measure => simp [intOf] <;> omega
              | true =>
                have HTE : Hid (rowStep wo stk (zs.take (j + 1)) = (stj.1.set t true, stj.2 ++ [(t : Int)])) := mkHid (by rw [HT.out, hst1, hne]; simp)
                have hq3 := HQO.out.grown (grown_setCell wr w.heap.size t (.bool true)) (fun g e => by injection e with e; exact e.symm)
                have hq4 : QOwn ((wr.setCell ⟨w.heap.size, t, none⟩ (.bool true)).alloc (.cells #[.int .i64 t] 3)) w.heap.size w.heap.size A2 c2 ((vn : Int) :: q) := hq3.grown (World.grownBy_alloc _ _ none) (by simp)
                have ho4 : ((wr.setCell ⟨w.heap.size, t, none⟩ (.bool true)).alloc (.cells #[.int .i64 t] 3)).ownsRow w.heap.size 4 1 (.slice (some ⟨w.heap.size, 0, none⟩) rs.length rs.length) rs.length (bools (stj.1.set t true)) := HSB.out.2.2.alloc _
                have hb3 := HB.out.grown (grown_setCell wr w.heap.size t (.bool true)) HB.out.size (fun g e => by injection e with e; omega)
                have hb4 : Below w.heap.size w ((wr.setCell ⟨w.heap.size, t, none⟩ (.bool true)).alloc (.cells #[.int .i64 t] 3)) := hb3.alloc hb3.size _
                have hy4 : ((wr.setCell ⟨w.heap.size, t, none⟩ (.bool true)).alloc (.cells #[.int .i64 t] 3)).cell? ⟨wr.heap.size, 0, none⟩ = some (.int .i64 t) := by
                  have := heap_alloc_new (wr.setCell ⟨w.heap.size, t, none⟩ (.bool true)) (.cells #[.int .i64 t] 3)
                  rw [show (wr.setCell ⟨w.heap.size, t, none⟩ (.bool true)).heap.size = wr.heap.size by simp] at this
                  rw [cell_of_row _ _ _ _ _ _ this]; rfl
                have hsz4 : ((wr.setCell ⟨w.heap.size, t, none⟩ (.bool true)).alloc (.cells #[.int .i64 t] 3)).heap.size = wr.heap.size + 1 := by simp
                have HQ4 := mkHid hq4
                have HO4 := mkHid ho4
                have HB4 := mkHid hb4
                have HY4 := mkHid hy4
                have HSZ := mkHid hsz4
                have HNE := mkHid hne
                clear hq3 hq4 ho4 hb3 hb4 hy4 hsz4 hst1
                go_wp2_with (at_builtin; refine queue_app HQ4.out (by simp; omega) (by rw [HSZ.out]; omega) (by rw [HSZ.out]; omega) HY4.out rfl rfl rfl rfl rfl ?_; intro A5 c5 w5 hq5 hbl5 hsz5 hbw5; have HQ5 := mkHid hq5; have HBL5 := mkHid hbl5; have HB5 := mkHid (HB4.out.trans hbw5); clear hq5 hbl5 hsz5 hbw5)
                go_roundw
                case rel =>
                  refine ⟨j + 1, by omega, by go_num, A5, c5, q ++ [(t : Int)], by simp, mkHid ?_, by simpa using HQ5.out, ?_, HB5.out⟩
                  · rw [HTE.out]
                    show (vn : Int) :: (q ++ [(t : Int)]) = (stj.2 ++ [(t : Int)]).drop k
                    have hk1 : k ≤ stj.2.length := by
                      have h5 := congrArg List.length HQ.out
                      rw [List.length_drop] at h5
                      simp at h5
                      omega
                    rw [List.drop_append_of_le_length hk1, ← HQ.out]; rfl
                  · rw [HTE.out]
                    exact own_block HO4.out (HBL5.out w.heap.size (.inl rfl) (by rw [HSZ.out]; omega))
                case measure => simp [intOf] <;> omega
          · have hjz : zs.take j = zs := List.take_of_length_le (by omega)
            have hnx : bfs (graph rs) wo st0 (k + 1) = stj := by rw [HNX.out, HSJ.out, hjz]
            have hkl2 : k + 1 ≤ stj.2.length := by
              have h5 := congrArg List.length HQ.out
              rw [List.length_drop] at h5
              simp at h5
              omega
            have hqd : q = stj.2.drop (k + 1) := by
              have h5 := HQ.out
              rw [List.drop_eq_getElem_cons (show k < stj.2.length by omega)] at h5
              injection h5
            have hkn1 : k < rs.length := by have := HOJ.out.le; omega
            have HNX2 := mkHid hnx
            have HQD := mkHid hqd
            obtain ⟨g, goff, cur, hA, _, _, _, _, hql2, hcm, _⟩ := HQO.out
            subst hA
            simp only [List.length_cons] at hql2
            clear hjz hnx hqd
            by_cases hc1 : c2 = 1
            · have hq0 : q.length = 0 := by omega
              have hqn : q = [] := List.eq_nil_of_length_eq_zero hq0
              subst hc1 hqn
              go_wp2_with fail
              go_roundg (rs.length - (k + 1))
              case measure => omega
              case rel => exact ⟨k + 1, rfl, _, _, [], rfl, mkHid (by rw [HNX2.out]; exact HQD.out), by rw [HNX2.out]; exact hkl2, .inl rfl, by rw [HNX2.out]; exact HO.out, HB.out⟩
            · have hqt : q = [] ∨ QOwn wr w.heap.size w.heap.size (some ⟨g, goff + 1, none⟩) (c2 - 1) q := by
                by_cases h0 : q = []
                · exact .inl h0
                · exact .inr (HQO.out.tail (List.length_pos_iff.2 h0))
              have HQT := mkHid hqt
              have k1 : (1 : Int) ≤ (c2 : Int) := by omega
              have k2 : 1 ≤ c2 := by omega
              have k3 : ¬ c2 = 1 := hc1
              clear hqt
              go_wp2_with fail
              go_roundg (rs.length - (k + 1))
              case measure => omega
              case rel => exact ⟨k + 1, rfl, some ⟨g, goff + 1, none⟩, c2 - 1, q, by first | rfl | simp, mkHid (by rw [HNX2.out]; exact HQD.out), by rw [HNX2.out]; exact hkl2, HQT.out, by rw [HNX2.out]; exact HO.out, HB.out⟩
end Go.Proofs.Ytabpcbikbhbcaaa
