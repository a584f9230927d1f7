/-
  Parts of a proof: CStepCrI.
-/
import Derived.Test.YtjmiilneennjaaaPart34
import Derived.Test.YtjmiilneennjaaaPart37
import Derived.Test.YtjmiilneennjaaaPart27
namespace Go.Proofs.Ytjmiilneennjaaa
open Go.RowKit
set_option maxHeartbeats 2000000
set_option maxRecDepth 100000
set_option linter.unusedVariables false
set_option linter.unusedSimpArgs false

/-- a list that is not empty lies below the world's end. -/
theorem Sl.blk {w : World} {A : Option Addr} {xs : List Cd} (hs : Sl w A (cflat xs)) : ∀ ad, A = some ad → xs ≠ [] → ad.block < w.heap.size := fun ad e hne => by
  subst e
  rcases hs with h | ⟨b, off, h1, h2⟩
  · exfalso
    have h1 := congrArg List.length h
    rw [cflat_length] at h1
    have h2 := List.length_pos_iff.2 hne
    simp only [List.length_nil] at h1
    omega
  · injection h1 with h1
    subst h1
    have hlt : 0 < (cflat xs).length := by rw [cflat_length]; have := List.length_pos_iff.2 hne; omega
    have := World.block_lt_of_cell? _ _ (h2 0 _ (List.getElem?_eq_getElem hlt))
    exact this
theorem implStepCrowd_no (A : Option Addr) (c : Nat) (ls : List Lt) (m : IR) (LA : Option Addr) (lc : Nat) (xs : List Cd) (z : Int) (w : World) (hl : xs.length ≤ 1048576) (hll : ls.length ≤ 1000000000) (hml : m.zs.length ≤ 1000000000) (hs : Sl w LA (cflat xs)) (hg : TGrid w A ls) (hm : Sl w m.a (ints m.zs)) (hno : crOk xs (sts ls) z m.zs = false) :
    Calls Try.prog 20 #[.agg #[.slice A ls.length c, .slice m.a m.zs.length m.c], .slice LA xs.length lc, .int .i64 z] w (RetCr [] [] w) := by
  obtain ⟨o1, ho1⟩ : ∃ o1, o1 = Obj.cells #[.slice A ls.length c, .slice m.a m.zs.length m.c] 32 := ⟨_, rfl⟩
  obtain ⟨o2, ho2⟩ : ∃ o2, o2 = Obj.cells #[.slice none 0 0, .slice none 0 0] 32 := ⟨_, rfl⟩
  have hbl : Below w.heap.size w ((w.alloc o1).alloc o2) := ((Below.refl _ _).alloc (Nat.le_refl _) _).alloc (by simp) _
  have q1 : ((w.alloc o1).alloc o2).heap[w.heap.size]? = some o1 := by
    rw [heap_alloc_old _ _ (by simp)]; exact heap_alloc_new _ _
  have q2 : ((w.alloc o1).alloc o2).heap[w.heap.size + 1]? = some o2 := by
    have := heap_alloc_new (w.alloc o1) o2
    simpa using this
  have HV := mkHid (implCrowdValid_any A c ls m LA lc xs _ hl hll hml (hs.below hbl) (hg.below hbl) (hm.below hbl))
  have HW := mkHid (fun X => within_any z 0 ((ls.length : Int) - 1) X)
  have HB := mkHid hbl
  subst ho1 ho2
  have HQ1 := mkHid q1
  have HQ2 := mkHid q2
  unfold crOk at hno
  rw [show ((sts ls).length : Int) = (ls.length : Int) by simp] at hno
  obtain ⟨v1, hv1⟩ : ∃ v, v = crowdValid xs (sts ls) m.zs := ⟨_, rfl⟩
  obtain ⟨v2, hv2⟩ : ∃ v, v = inB z 0 ((ls.length : Int) - 1) := ⟨_, rfl⟩
  rw [← hv1] at HV hno
  rw [← hv2] at HW hno
  clear hv1 hv2 hs hg hm hbl q1 q2
  cases v1 with
  | false =>
    clear hno
    go_enter Try.func20, Try.ntmps20
    go_wp2_with fail
    refine HV.out.mono ?_
    rintro e w2 ⟨rfl, b2⟩
    have hq := (b2.block _ (Array.getElem?_eq_some_iff.1 HQ2.out).1).trans HQ2.out
    have HB2 := mkHid (HB.out.trans (b2.mono HB.out.size))
    obtain ⟨⟨d0, d1⟩, g0, g1⟩ := box2 hq
    clear b2 hq
    go_wp2_with fail
    refine bodyPost_ret (v := .agg #[.slice none 0 0, .slice none 0 0]) (by simp [results, Try.results20, go_sem, d0, d1]) rfl ⟨none, 0, [], ⟨none, 0, []⟩, rfl, rfl, rfl, crAt_nil _ _, ?_⟩
    exact HB2.out.grown (grown_2 _ _ _ _) HB2.out.size (fun g e => by injection e with e; omega)
  | true =>
    cases v2 with
    | true => cases hno
    | false =>
      clear hno
      go_enter Try.func20, Try.ntmps20
      go_wp2_with fail
      refine HV.out.mono ?_
      rintro e w2 ⟨rfl, b2⟩
      obtain ⟨p0, p1⟩ := box2t ((b2.block _ (Array.getElem?_eq_some_iff.1 HQ1.out).1).trans HQ1.out)
      go_wp2_with fail
      refine (HW.out _).mono ?_
      rintro e w3 ⟨rfl, rfl⟩
      have hq := (b2.block _ (Array.getElem?_eq_some_iff.1 HQ2.out).1).trans HQ2.out
      have HB2 := mkHid (HB.out.trans (b2.mono HB.out.size))
      obtain ⟨⟨d0, d1⟩, g0, g1⟩ := box2 hq
      clear b2 hq
      go_wp2_with fail
      refine bodyPost_ret (v := .agg #[.slice none 0 0, .slice none 0 0]) (by simp [results, Try.results20, go_sem, d0, d1]) rfl ⟨none, 0, [], ⟨none, 0, []⟩, rfl, rfl, rfl, crAt_nil _ _, ?_⟩
      exact HB2.out.grown (grown_2 _ _ _ _) HB2.out.size (fun g e => by injection e with e; omega)
theorem implStepCrowd_yes (A : Option Addr) (c : Nat) (ls0 : List Lt) (m : IR) (LA : Option Addr) (lc : Nat) (xs : List Cd) (q : Nat) (w : World) (hl : xs.length ≤ 1048576) (hs : Sl w LA (cflat xs)) (hg : TGrid w A ls0) (hm : Sl w m.a (ints m.zs)) (hcv : crowdValid xs (sts ls0) m.zs = true) (hok : CrowdOk xs (sts ls0) m.zs) (hq : q < ls0.length) :
    Calls Try.prog 20 #[.agg #[.slice A ls0.length c, .slice m.a m.zs.length m.c], .slice LA xs.length lc, .int .i64 q] w (RetCr (stepC xs q (sts ls0) m.zs).1 (stepC xs q (sts ls0) m.zs).2 w) := by
  obtain ⟨i0, hi0, hz0, hz1, hz2⟩ := info_parts El.hi
  have hlen8 : ls0.length ≤ 8 := by have := hok.len.2; simpa using this
  have hz32 := (memValid_parts.1 hok.mem).1
  have h40 := (progValid_yes hok.prog).1
  have hll : ∀ x ∈ ls0, x.zs.length ≤ 1048576 ∧ x.ts.length ≤ 1048576 := fun x hx => by
    have ho := hok.lanes x.st (List.mem_map_of_mem hx)
    have h1 := ho.len
    have h2 := loops_three hok.prog (k := x.st.pc.toNat) (by have := ho.pc; omega)
    have h3 : x.zs.length = 4 := ho.regs
    have e : x.st.turns.length = x.ts.length := rfl
    omega
  obtain ⟨o1, ho1⟩ : ∃ o1, o1 = Obj.cells #[.slice A ls0.length c, .slice m.a m.zs.length m.c] 32 := ⟨_, rfl⟩
  obtain ⟨o2, ho2⟩ : ∃ o2, o2 = Obj.cells #[.slice none 0 0, .slice none 0 0] 32 := ⟨_, rfl⟩
  have hbl : Below w.heap.size w ((w.alloc o1).alloc o2) := ((Below.refl _ _).alloc (Nat.le_refl _) _).alloc (by simp) _
  have q1 : ((w.alloc o1).alloc o2).heap[w.heap.size]? = some o1 := by
    rw [heap_alloc_old _ _ (by simp)]; exact heap_alloc_new _ _
  have q2 : ((w.alloc o1).alloc o2).heap[w.heap.size + 1]? = some o2 := by
    have := heap_alloc_new (w.alloc o1) o2
    simpa using this
  have HV := mkHid (implCrowdValid_any A c ls0 m LA lc xs _ hl (by omega) (by omega) (hs.below hbl) (hg.below hbl) (hm.below hbl))
  rw [hcv] at HV
  have HW0 := mkHid (fun X => within_any q 0 ((ls0.length : Int) - 1) X)
  rw [inB_of (show (0 : Int) ≤ q by omega) (show (q : Int) ≤ (ls0.length : Int) - 1 by omega)] at HW0
  have HB := mkHid hbl
  subst ho1 ho2
  have HQ1 := mkHid q1
  have HQ2 := mkHid q2
  have HS := mkHid hs
  have HGR := mkHid hg
  have HM := mkHid hm
  have HLL := mkHid hll
  have HOK := mkHid hok
  have HQL := mkHid hq
  clear hs hg hm hbl q1 q2 hcv hll hok hq
  go_enter Try.func20, Try.ntmps20
  go_wp2_with fail
  refine HV.out.mono ?_
  rintro e w2 ⟨rfl, b2⟩
  have hq1 := (b2.block _ (Array.getElem?_eq_some_iff.1 HQ1.out).1).trans HQ1.out
  have HQ12 := mkHid hq1
  have HQ22 := mkHid ((b2.block _ (Array.getElem?_eq_some_iff.1 HQ2.out).1).trans HQ2.out)
  have HB2 := mkHid (HB.out.trans (b2.mono HB.out.size))
  obtain ⟨p0, p1⟩ := box2t hq1
  clear b2 hq1 HV HQ1 HQ2 HB
  go_wp2_with fail
  refine (HW0.out _).mono ?_
  rintro e w3 ⟨rfl, rfl⟩
  clear HW0
  go_wp2_with fail
  refine (cloneInts_any m.a m.c m.zs w2 (by omega) (HM.out.below HB2.out)).mono ?_
  rintro e w3 ⟨A3, c3, rfl, o3, b3⟩
  have hq1 := (b3.block _ (Array.getElem?_eq_some_iff.1 HQ12.out).1).trans HQ12.out
  have HB3 := mkHid b3
  have HO3 := mkHid o3
  have HQ13 := mkHid hq1
  have HQ23 := mkHid ((b3.block _ (Array.getElem?_eq_some_iff.1 HQ22.out).1).trans HQ22.out)
  clear p0 p1 o3 b3 HQ12
  obtain ⟨p0, p1⟩ := box2t hq1
  clear hq1
  go_upto_region 4 with fail
  refine name_world ?_
  intro W6 hW6
  have hal6 : Below w3.heap.size w3 W6 := by rw [hW6]; exact (Below.refl _ _).alloc (Nat.le_refl _) _
  have hC6 : W6.heap[w3.heap.size]? = some (.cells #[.slice none 0 0, .slice A3 m.zs.length c3] 32) := by rw [hW6]; exact heap_alloc_new w3 _
  have HC6 := mkHid hC6
  have B26 := mkHid (HB3.out.trans (hal6.mono HB3.out.size))
  have HQ26 := mkHid ((hal6.block _ (Array.getElem?_eq_some_iff.1 HQ23.out).1).trans HQ23.out)
  have HQ16 := mkHid ((hal6.block _ (Array.getElem?_eq_some_iff.1 HQ13.out).1).trans HQ13.out)
  have HC : Hid (w2.heap.size ≤ w3.heap.size) := mkHid HB3.out.size
  have HCR6 : Hid (CrAt W6 w2.heap.size none 0 [] ⟨A3, c3, m.zs⟩) := mkHid ⟨World.ownsRow_nil _ _ _ _, ⟨fun r hr => by
    simp only [rowsL, List.mem_cons, List.not_mem_nil, or_false] at hr
    subst hr
    exact own_below HO3.out hal6, fun i j hi hj hne => by simp [rowsL] at hi hj; omega⟩⟩
  have HLT6 := mkHid (show w3.heap.size < W6.heap.size from (Array.getElem?_eq_some_iff.1 hC6).1)
  obtain ⟨p0', p1'⟩ := box2t HQ16.out
  clear hal6 hC6 hW6 p0 p1 HO3 HB3 HQ13 HQ23
  generalize w3.heap.size = C at *
  go_wp2_with fail
  obtain ⟨n, hn⟩ : ∃ n, n = ls0.length := ⟨_, rfl⟩
  have HN := mkHid hn
  clear hn p0' p1'
  go_loopw [31] (fun i wr => ∃ k : Nat, k ≤ ls0.length ∧ i = .int .i64 k ∧ ∃ A' c' , ∃ ls : List Lt, ls.length = k ∧ sts ls = (sts ls0).take k ∧ wr.heap[C]? = some (.cells #[.slice A' k c', .slice A3 m.zs.length c3] 32 (0, 0)) ∧ CrAt wr w2.heap.size A' c' ls ⟨A3, c3, m.zs⟩ ∧ Below w2.heap.size w2 wr ∧ C < wr.heap.size) (fun i _ => ls0.length - (intOf i).toNat)
  case atStart => exact ⟨0, by omega, rfl, none, 0, [], rfl, by simp, HC6.out, HCR6.out, B26.out, HLT6.out⟩
  case round =>
    clear HC6 HCR6 B26 HLT6 HQ26 HQ16
    obtain ⟨k, hk, rfl, A', c', ls, hls, hst, hq, hcr, hb0, hCl⟩ := hrel
    have HQ := mkHid hq
    have HCR := mkHid hcr
    have HOK2 : Hid (wr.ownsRow w2.heap.size 52 4 (.slice A' k c') k (tflat ls)) := mkHid (by have := hcr.1; rw [hls] at this; exact this)
    have HST := mkHid hst
    have HLS := mkHid hls
    have HB0 := mkHid hb0
    have HBW := mkHid (HB2.out.trans (hb0.mono HB2.out.size))
    obtain ⟨⟨x0, x1⟩, f0, f1⟩ := box2 hq
    clear hcr hst hls hb0
    by_cases hlt : k < ls0.length
    · have hg := HGR.out.below HBW.out
      obtain ⟨bL, oL, hA, g0, g1, g2, g3⟩ := hg.1.lt hlt
      have hlane := hg.lane hlt
      have hsz4 := HLL.out _ (List.getElem_mem hlt)
      have hxk : (sts ls0)[k]? = some (ls0[k]'hlt).st := by simp [hlt]
      generalize ls0[k]'hlt = x at *
      subst hA
      have HXK := mkHid hxk
      have hC := HC.out
      clear hg hxk hq x0 x1 f0 f1
      go_upto_region 7 with fail
      refine name_world ?_
      intro W7 hW7
      have hal7 : Below wr.heap.size wr W7 := by rw [hW7]; exact (Below.refl _ _).alloc (Nat.le_refl _) _
      have hB7 : W7.heap[wr.heap.size]? = some (.cells #[.slice x.ra x.zs.length x.rc, .int .i64 x.at_, .slice x.ta x.ts.length x.tc, .bool x.wt] 52 (0, 0)) := by rw [hW7]; exact heap_alloc_new wr _
      obtain ⟨⟨y0, y1, y2, y3⟩, _⟩ := box4e hB7
      have HX := mkHid (clone_any x W7.drew hsz4.1 hsz4.2 (hlane.below (hal7.trans ⟨rfl, rfl, rfl, Nat.le_refl _, fun i hi => rfl⟩)))
      have HQ7 := mkHid ((hal7.block _ (Array.getElem?_eq_some_iff.1 HQ.out).1).trans HQ.out)
      have HCR7 := mkHid (HCR.out.below hal7)
      have HOK7 := mkHid (own_below HOK2.out hal7)
      have HB07 := mkHid (HB0.out.trans (hal7.mono HB0.out.size))
      have hCl7 : C < W7.heap.size := Nat.lt_of_lt_of_le hCl hal7.size
      obtain ⟨⟨x0, x1⟩, f0, f1⟩ := box2 HQ7.out
      clear hW7 hal7 hB7 hlane hsz4 g0 g1 g2 g3 HQ HCR HOK2 HB0 HBW hCl
      go_region_law (first
        | (refine step_append_lies _ rfl _ _ _ rfl w2.heap.size _ i0 _ 4 64 El.ht hi0 hz0 hz1 hz2 rfl (by omega) _ _ _ rfl (HO2.out.alloc _) _ 1 1 (ltCells l) rfl (by simp [ltCells]) (newCellsAt _ _ _ (by simp [ltCells])) (by simp [Value.oneCell']) (by omega) (by simp only [maxLen]; omega) (by omega) (by simp; omega) _ rfl ?_
           intro g3' c3' v3 hown3 hg3 hat3 hlt3
           have HO3 := mkHid hown3
           have HG3 := mkHid hg3
           have HQ3 := mkHid ((hg3.block C (by simp; omega) (fun e => own_ne_heapA HO2.out HQ2'.out (by decide) e.symm)).trans ((heap_alloc_old _ _ hl2).trans HQ2'.out))
           obtain ⟨⟨z0, z1⟩, y0', y1'⟩ := box2 HQ3.out
           clear hown3 hg3 hat3)
        | (go_simp
           go_at_call 61
           refine HX.out.mono ?_
           rintro e v2 ⟨l, rfl, hsl, hap, b2⟩
           have b2 := below_undrew b2
           have HBv := mkHid b2
           have HAP := mkHid (show Apt v2 W7.heap.size [irR l, irT l] from hap)
           have HSL := mkHid hsl
           have HO2 := mkHid (own_below HOK7.out b2)
           have hl2 : C < v2.heap.size := Nat.lt_of_lt_of_le hCl7 b2.size
           have HQ2' := mkHid ((b2.block C hCl7).trans HQ7.out)
           have q0 := (box2 HQ2'.out).1.1
           have q1 : ∀ o, (v2.alloc o).cell? ⟨C, 0, none⟩ = some (.slice A' k c') := fun o => (box2 ((heap_alloc_old v2 o hl2).trans HQ2'.out)).1.1
           clear b2 hsl hap))
      all_goals (
        have hg3 : (v2.alloc (.cells (ltCells l).toArray 52)).grownBy v3 (Value.slice A' k c').ownBlock := HG3.out
        have hal : Below v2.heap.size v2 (v2.alloc (.cells (ltCells l).toArray 52)) := (Below.refl _ _).alloc (Nat.le_refl _) _
        have hap2 := HCR7.out.2.app HBv.out HB07.out.size (Nat.le_refl _) HAP.out
        have hap3 := (hap2.below hal).kept hg3 (fun r hr g e1 => own_types2 ((hap2.below hal).1 r hr) (own_below HO2.out hal) (by decide) e1)
        have hset := grown_setCell v3 C 0 (.slice (some ⟨g3', 0, none⟩) (k + 1) c3')
        have HR1 := mkHid (heap_setCell_same v3 C 0 _ _ (.slice (some ⟨g3', 0, none⟩) (k + 1) c3') HQ3.out)
        have HR2 := mkHid (own_grown' HO3.out hset (fun g e1 e2 => by injection e2 with e2; subst e2; exact own_ne_heapA HO3.out HQ3.out (by decide) e1))
        have HR3 := mkHid (hap3.other hset HQ3.out (by decide))
        have hB2 : Below w2.heap.size w2 v2 := HB07.out.trans (HBv.out.mono HB07.out.size)
        have hB3 := (hB2.trans (hal.mono hB2.size)).grown hg3 (hB2.trans (hal.mono hB2.size)).size (fun g e => (HO2.out.lt g e).1)
        have hB4 := hB3.grown hset hB3.size (fun g e => by injection e with e; omega)
        have HR4 := mkHid hB4
        have hC3 : C < v3.heap.size := (Array.getElem?_eq_some_iff.1 HQ3.out).1
        have HST2 : Hid (sts (ls ++ [l]) = (sts ls0).take (k + 1)) := mkHid (by
          rw [List.take_add_one, HXK.out, ← HST.out]
          simp [HSL.out])
        clear hg3 hal hap2 hap3 hset hB2 hB3 hB4 q0 q1 z0 z1 y0' y1'
        go_wp2_with fail
        go_roundw
        case rel =>
          refine ⟨k + 1, by omega, by go_num, some ⟨g3', 0, none⟩, c3', ls ++ [l], by simp [HLS.out], HST2.out, ?_, ⟨?_, ?_⟩, HR4.out, by simp; omega⟩
          · have := HR1.out
            simpa using this
          · have := HR2.out
            rw [tflat_append, List.length_append, HLS.out]
            simpa [tflat] using this
          · rw [rowsL_append]
            exact HR3.out
        case measure => simp [intOf] <;> omega)
    · have hke : k = ls0.length := by omega
      subst hke
      have hbr := HBW.out
      have hst0 : sts ls = sts ls0 := by
        have h1 := HST.out
        rw [List.take_of_length_le (by simp)] at h1
        exact h1
      have HQ2R := mkHid ((HB0.out.block _ (Array.getElem?_eq_some_iff.1 HQ22.out).1).trans HQ22.out)
      have HCB : Hid (CrBox wr C w.heap.size A' c' ls ⟨A3, c3, m.zs⟩) := mkHid ⟨by rw [HLS.out]; exact HQ.out, HCR.out.lower HB2.out.size, hbr.size⟩
      have HOKL : Hid (CrowdOk xs (sts ls) m.zs) := mkHid (by rw [hst0]; exact HOK.out)
      have HSL0 := mkHid hst0
      have HNM := mkHid (newMachine_any LA lc xs w.heap.size wr HOK.out.prog (HS.out.below hbr) HS.out.blk)
      clear hq hlt hbr hst0 x0 x1 f0 f1
      go_wp2_with fail
      refine HNM.out.mono ?_
      rintro e w4 ⟨M, O, P, rfl, hM, b4⟩
      have HM4 := mkHid hM
      have HCB4 := mkHid (HCB.out.below b4)
      have HB4 := mkHid (HBW.out.trans (b4.mono HBW.out.size))
      have HQ2S := mkHid ((b4.block _ (Array.getElem?_eq_some_iff.1 HQ2R.out).1).trans HQ2R.out)
      have HSO := mkHid (stepOf_any M lc O LA xs P C w.heap.size c' q A' ls ⟨A3, c3, m.zs⟩ w4 (by rw [HLS.out]; exact HQL.out) HOKL.out HM4.out HCB4.out)
      rw [HSL0.out] at HSO
      obtain ⟨sm, hsm⟩ : ∃ sm, sm = stepC xs q (sts ls0) m.zs := ⟨_, rfl⟩
      have HSM := mkHid hsm
      simp only [← hsm] at HSO
      clear hM b4 hsm HNM
      go_wp2_with fail
      refine HSO.out.mono ?_
      rintro e w5 ⟨rfl, ls', hl', hm', hs', hbx', hf'⟩
      have HB5 := mkHid (HB4.out.trans hf'.1)
      have HQ2T := mkHid (hf'.2 (w.heap.size + 1) _ _ _ HQ2S.out (by decide) (by decide))
      have HS5 := mkHid hs'
      have HC5 := mkHid hbx'.2.1
      obtain ⟨p0, p1⟩ := hbx'.cells
      obtain ⟨⟨d0, d1⟩, e0, e1⟩ := box2 HQ2T.out
      clear hl' hm' hs' hbx' hf'
      go_wp2_with fail
      refine bodyPost_ret (v := .agg #[.slice A' ls'.length c', .slice A3 sm.2.length c3]) (by simp [results, Try.results20, go_sem, d0, d1]) rfl ?_
      refine ⟨A', c', ls', ⟨A3, c3, sm.2⟩, rfl, by rw [← HSM.out]; exact HS5.out, by rw [← HSM.out], ?_, ?_⟩
      · exact HC5.out.other (grown_2 _ _ _ _) HQ2T.out (by decide) (by decide)
      · exact HB5.out.grown (grown_2 _ _ _ _) HB5.out.size (fun g e => by injection e with e; omega)
theorem implStepCrowd_any (A : Option Addr) (c : Nat) (ls : List Lt) (m : IR) (LA : Option Addr) (lc : Nat) (xs : List Cd) (z : Int) (w : World) (hl : xs.length ≤ 1048576) (hll : ls.length ≤ 1000000000) (hml : m.zs.length ≤ 1000000000) (hs : Sl w LA (cflat xs)) (hg : TGrid w A ls) (hm : Sl w m.a (ints m.zs)) :
    Calls Try.prog 20 #[.agg #[.slice A ls.length c, .slice m.a m.zs.length m.c], .slice LA xs.length lc, .int .i64 z] w (RetCr (crTo xs (sts ls) z m.zs).1 (crTo xs (sts ls) z m.zs).2 w) := by
  unfold crTo
  cases h : crOk xs (sts ls) z m.zs with
  | false => exact implStepCrowd_no A c ls m LA lc xs z w hl hll hml hs hg hm h
  | true =>
    obtain ⟨h1, h2, h3, h4⟩ := crOk_yes h
    obtain ⟨q, rfl⟩ := Int.eq_ofNat_of_zero_le h3
    have hq : q < ls.length := by
      have e : (sts ls).length = ls.length := by simp
      rw [e] at h4; omega
    exact implStepCrowd_yes A c ls m LA lc xs q w hl hs hg hm h1 h2 hq
end Go.Proofs.Ytjmiilneennjaaa
