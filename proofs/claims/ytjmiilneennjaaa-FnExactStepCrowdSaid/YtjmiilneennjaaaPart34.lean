/-
  Parts of a proof: CCrCopy, CFree, CStepCr.
-/
import Derived.Test.YtjmiilneennjaaaPart20
import Derived.Test.YtjmiilneennjaaaPart16
import Derived.Test.YtjmiilneennjaaaPart19
import Derived.Test.YtjmiilneennjaaaPart27
import Derived.Test.YtjmiilneennjaaaPart12
import Derived.Test.YtjmiilneennjaaaPart29
import Derived.Test.YtjmiilneennjaaaPart18
namespace Go.Proofs.Ytjmiilneennjaaa
open Go.RowKit
set_option maxHeartbeats 2000000
set_option maxRecDepth 100000
set_option linter.unusedVariables false
set_option linter.unusedSimpArgs false

theorem l7Copy_any (A : Option Addr) (c : Nat) (xs : List Lt) (m : IR) (w : World) (hl : xs.length ≤ 1048576) (hll : ∀ x ∈ xs, x.zs.length ≤ 1048576 ∧ x.ts.length ≤ 1048576) (hml : m.zs.length ≤ 1048576) (hs : TGrid w A xs) (hm : Sl w m.a (ints m.zs)) :
    Calls Try.prog 56 #[.agg #[.slice A xs.length c, .slice m.a m.zs.length m.c]] w (RetCr (sts xs) m.zs w) := by
  obtain ⟨i0, hi0, hz0, hz1, hz2⟩ := info_parts El.hi
  obtain ⟨o1, ho1⟩ : ∃ o1, o1 = Obj.cells #[.slice A xs.length c, .slice m.a m.zs.length m.c] 32 := ⟨_, rfl⟩
  obtain ⟨o2, ho2⟩ : ∃ o2, o2 = Obj.cells #[.slice none 0 0, .slice none 0 0] 32 := ⟨_, rfl⟩
  have hbl : Below w.heap.size w ((w.alloc o1).alloc o2) := ((Below.refl _ _).alloc (Nat.le_refl _) _).alloc (by simp) _
  have q1 : ((w.alloc o1).alloc o2).heap[w.heap.size]? = some o1 := by
    rw [heap_alloc_old _ _ (by simp)]; exact heap_alloc_new _ _
  have q2 : ((w.alloc o1).alloc o2).heap[w.heap.size + 1]? = some o2 := by
    have := heap_alloc_new (w.alloc o1) o2
    simpa using this
  have hsz : ((w.alloc o1).alloc o2).heap.size = w.heap.size + 2 := by simp
  have HB := mkHid hbl
  have HSZ := mkHid hsz
  have HM := mkHid hm
  have HS := mkHid hs
  have HLL := mkHid hll
  subst ho1 ho2
  have HQ1 := mkHid q1
  have HQ2 := mkHid q2
  clear hbl q1 q2 hsz hm hs hll
  go_enter Try.func56, Try.ntmps56
  go_upto_region 1 with fail
  generalize (w.alloc (.cells #[.slice A xs.length c, .slice m.a m.zs.length m.c] 32)).alloc (.cells #[.slice none 0 0, .slice none 0 0] 32) = W0 at *
  obtain ⟨p0, p1⟩ := box2t HQ1.out
  have p1 := fun o => keepA' p1 o
  go_upto_region 2 with (at_builtin; refine wpList_copyS rfl Ei (own_empty W0 _ _) ((HM.out.below HB.out).alloc _) (by simp [ints]) (ints_one _) (by omega) (by omega) (by simp) rfl rfl rfl ?_
                         intro r5 c5 w5 hown5 hg5 hat5
                         have HO5 := mkHid hown5
                         have HB5 := mkHid (below_grown ((Below.refl W0.heap.size W0).alloc (Nat.le_refl _) _) hg5 (fun g hg => by injection hg with hg; omega))
                         clear hown5 hg5 hat5)
  refine name_world ?_
  intro W6 hW6
  have hal6 : Below w5.heap.size w5 W6 := by rw [hW6]; exact (Below.refl _ _).alloc (Nat.le_refl _) _
  have hC6 : W6.heap[w5.heap.size]? = some (.cells #[.slice none 0 0, .slice (some ⟨r5, 0, none⟩) m.zs.length c5] 32) := by rw [hW6]; exact heap_alloc_new w5 _
  have HC6 := mkHid hC6
  have B06 := mkHid (below_then HB5.out hal6)
  have HB6 := mkHid (HB.out.trans (B06.out.mono HB.out.size))
  have hC : W0.heap.size ≤ w5.heap.size := HB5.out.size
  have HCC := mkHid hC
  have HCR6 : Hid (CrAt W6 W0.heap.size none 0 [] ⟨some ⟨r5, 0, none⟩, c5, m.zs⟩) := mkHid ⟨World.ownsRow_nil _ _ _ _, ⟨fun r hr => by
    simp only [rowsL, List.mem_cons, List.not_mem_nil, or_false] at hr
    subst hr
    exact own_below HO5.out hal6, fun i j hi hj hne => by simp [rowsL] at hi hj; omega⟩⟩
  have HLT6 := mkHid (show w5.heap.size < W6.heap.size from (Array.getElem?_eq_some_iff.1 hC6).1)
  clear hal6 hC6 hW6 hC p0 p1 HO5 HB5
  generalize w5.heap.size = C at *
  go_wp2_with fail
  obtain ⟨n, hn⟩ : ∃ n, n = xs.length := ⟨_, rfl⟩
  have HN := mkHid hn
  clear hn
  go_loopw [4] (fun i wr => ∃ k : Nat, k ≤ xs.length ∧ i = .int .i64 k ∧ ∃ A' c' , ∃ ls : List Lt, ls.length = k ∧ sts ls = (sts xs).take k ∧ wr.heap[C]? = some (.cells #[.slice A' k c', .slice (some ⟨r5, 0, none⟩) m.zs.length c5] 32 (0, 0)) ∧ CrAt wr W0.heap.size A' c' ls ⟨some ⟨r5, 0, none⟩, c5, m.zs⟩ ∧ Below W0.heap.size W0 wr ∧ Below w.heap.size w wr ∧ C < wr.heap.size) (fun i _ => xs.length - (intOf i).toNat)
  case atStart => exact ⟨0, by omega, rfl, none, 0, [], rfl, by simp, HC6.out, HCR6.out, B06.out, HB6.out, HLT6.out⟩
  case round =>
    clear HC6 HCR6 B06 HB6 HLT6
    obtain ⟨k, hk, rfl, A', c', ls, hls, hst, hq, hcr, hb0, hb, hCl⟩ := hrel
    have HQ := mkHid hq
    have HCR := mkHid hcr
    have HOK : Hid (wr.ownsRow W0.heap.size 52 4 (.slice A' k c') k (tflat ls)) := mkHid (by have := hcr.1; rw [hls] at this; exact this)
    have HST := mkHid hst
    have HLS := mkHid hls
    have HB0 := mkHid hb0
    have HBW := mkHid hb
    have hq1 := (hb0.block _ (Array.getElem?_eq_some_iff.1 HQ1.out).1).trans HQ1.out
    obtain ⟨p0, p1⟩ := box2t hq1
    obtain ⟨⟨x0, x1⟩, f0, f1⟩ := box2 hq
    clear hq hcr hst hls hb0 hb hq1
    by_cases hlt : k < xs.length
    · have hg := HS.out.below HBW.out
      obtain ⟨bL, oL, hA, g0, g1, g2, g3⟩ := hg.1.lt hlt
      have hlane := hg.lane hlt
      have hsz4 := HLL.out _ (List.getElem_mem hlt)
      have hxk : (sts xs)[k]? = some (xs[k]'hlt).st := by simp [hlt]
      generalize xs[k]'hlt = x at *
      subst hA
      have HX := mkHid (l6Copy_any x wr.drew hsz4.1 hsz4.2 hlane.1.1 hlane.2.1)
      have HXK := mkHid hxk
      have hC := HCC.out
      clear hg hlane hsz4 hxk
      go_wp2_with fail
      go_region_law (first
        | (refine step_append_lies _ rfl _ _ _ rfl W0.heap.size _ i0 _ 4 64 El.ht hi0 hz0 hz1 hz2 rfl (by omega) _ _ _ rfl (HO2.out.alloc _) _ 1 1 (ltCells l) rfl (by simp [ltCells]) (newCellsAt _ _ _ (by simp [ltCells])) (by simp [Value.oneCell']) (by omega) (by simp only [maxLen]; omega) (by omega) (by simp; omega) _ rfl ?_
           intro g3' c3' w3 hown3 hg3 hat3 hlt3
           have HO3 := mkHid hown3
           have HG3 := mkHid hg3
           have HQ3 := mkHid ((hg3.block C (by simp; omega) (fun e => own_ne_heapA HO2.out HQ2'.out (by decide) e.symm)).trans ((heap_alloc_old _ _ hl2).trans HQ2'.out))
           obtain ⟨⟨z0, z1⟩, y0, y1⟩ := box2 HQ3.out
           clear hown3 hg3 hat3)
        | (go_simp
           go_at_call 73
           refine HX.out.mono ?_
           rintro e w2 ⟨l, rfl, hsl, hap, b2⟩
           have b2 := below_undrew b2
           have HB2 := mkHid b2
           have HAP := mkHid (show Apt w2 wr.heap.size [irR l, irT l] from hap)
           have HSL := mkHid hsl
           have HO2 := mkHid (own_below HOK.out b2)
           have hl2 : C < w2.heap.size := Nat.lt_of_lt_of_le hCl b2.size
           have HQ2' := mkHid ((b2.block C hCl).trans HQ.out)
           have q0 := (box2 HQ2'.out).1.1
           have q1 : ∀ o, (w2.alloc o).cell? ⟨C, 0, none⟩ = some (.slice A' k c') := fun o => (box2 ((heap_alloc_old w2 o hl2).trans HQ2'.out)).1.1
           clear b2 hsl hap))
      all_goals (
        have hg3 : (w2.alloc (.cells (ltCells l).toArray 52)).grownBy w3 (Value.slice A' k c').ownBlock := HG3.out
        have hal : Below w2.heap.size w2 (w2.alloc (.cells (ltCells l).toArray 52)) := (Below.refl _ _).alloc (Nat.le_refl _) _
        have hap2 := HCR.out.2.app HB2.out HB0.out.size (Nat.le_refl _) HAP.out
        have hap3 := (hap2.below hal).kept hg3 (fun r hr g e1 => own_types2 ((hap2.below hal).1 r hr) (own_below HO2.out hal) (by decide) e1)
        have hset := grown_setCell w3 C 0 (.slice (some ⟨g3', 0, none⟩) (k + 1) c3')
        have HR1 := mkHid (heap_setCell_same w3 C 0 _ _ (.slice (some ⟨g3', 0, none⟩) (k + 1) c3') HQ3.out)
        have HR2 := mkHid (own_grown' HO3.out hset (fun g e1 e2 => by injection e2 with e2; subst e2; exact own_ne_heapA HO3.out HQ3.out (by decide) e1))
        have HR3 := mkHid (hap3.other hset HQ3.out (by decide))
        have hB2 : Below W0.heap.size W0 w2 := HB0.out.trans (HB2.out.mono HB0.out.size)
        have hB3 := (hB2.trans (hal.mono hB2.size)).grown hg3 (hB2.trans (hal.mono hB2.size)).size (fun g e => (HO2.out.lt g e).1)
        have hB4 := hB3.grown hset hB3.size (fun g e => by injection e with e; omega)
        have HR4 := mkHid hB4
        have HR5 := mkHid (HB.out.trans (hB4.mono HB.out.size))
        have hC3 : C < w3.heap.size := (Array.getElem?_eq_some_iff.1 HQ3.out).1
        have HST2 : Hid (sts (ls ++ [l]) = (sts xs).take (k + 1)) := mkHid (by
          rw [List.take_add_one, HXK.out, ← HST.out]
          simp [HSL.out])
        clear hg3 hal hap2 hap3 hset hB2 hB3 hB4 q0 q1 z0 z1 y0 y1
        go_wp2_with fail
        go_roundw
        case rel =>
          refine ⟨k + 1, by omega, by go_num, some ⟨g3', 0, none⟩, c3', ls ++ [l], by simp [HLS.out], HST2.out, ?_, ⟨?_, ?_⟩, HR4.out, HR5.out, by simp; omega⟩
          · have := HR1.out
            simpa using this
          · have := HR2.out
            rw [tflat_append, List.length_append, HLS.out]
            simpa [tflat] using this
          · rw [rowsL_append]
            exact HR3.out
        case measure => simp [intOf] <;> omega)
    · have hke : k = xs.length := by omega
      subst hke
      have hq2 := (HB0.out.block _ (Array.getElem?_eq_some_iff.1 HQ2.out).1).trans HQ2.out
      have HQ2' := mkHid hq2
      obtain ⟨⟨d0, d1⟩, t0, t1⟩ := box2 hq2
      clear hq2 hlt
      go_wp2_with fail
      refine bodyPost_ret (v := .agg #[.slice A' xs.length c', .slice (some ⟨r5, 0, none⟩) m.zs.length c5]) (by simp [results, Try.results56, go_sem, d0, d1]) rfl ?_
      refine ⟨A', c', ls, ⟨some ⟨r5, 0, none⟩, c5, m.zs⟩, by rw [HLS.out], ?_, rfl, ?_, ?_⟩
      · have h1 := HST.out
        rw [List.take_of_length_le (by simp)] at h1
        exact h1
      · exact (HCR.out.lower HB.out.size).other (grown_2 _ _ _ _) HQ2'.out (by decide) (by decide)
      · exact HBW.out.grown (grown_2 _ _ _ _) HBW.out.size (fun g e => by injection e with e; omega)
end Go.Proofs.Ytjmiilneennjaaa

namespace Go.Proofs.Ytjmiilneennjaaa
open Go.RowKit
set_option maxHeartbeats 2000000
set_option maxRecDepth 100000
set_option linter.unusedVariables false

/-- the lanes' places are those of a program of n instructions. -/
def Placed (n : Nat) (ls : List Lt) : Prop := ∀ l ∈ ls, 0 ≤ l.at_ ∧ l.at_ ≤ n
theorem CrowdOk.placed {xs : List Cd} {ls : List Lt} {mem : List Int} (h : CrowdOk xs (sts ls) mem) : Placed xs.length ls := fun l hl => (h.lanes l.st (List.mem_map_of_mem hl)).pc
/-- what l7Free hands back. -/
def FreePost (base : Nat) (A : Option Addr) (c : Nat) (ls : List Lt) (m : IR) (ss' : List LS) (w : World) (e : Ending) (w' : World) : Prop :=
  e = .returned (.tuple #[]) ∧ ∃ ls' : List Lt, ls'.length = ls.length ∧ sts ls' = ss' ∧ CrAt w' base A c ls' m ∧ Frm base w w'
theorem l7Free_any (LA : Option Addr) (n lc : Nat) (base c : Nat) (A : Option Addr) (ls : List Lt) (m : IR) (w : World) (hn : n ≤ 1000) (hl : ls.length ≤ 8) (hpl : Placed n ls) (hC : CrAt w base A c ls m) (hb : base ≤ w.heap.size) :
    Calls Try.prog 58 #[.agg #[.slice A ls.length c, .slice m.a m.zs.length m.c], .slice LA n lc] w (FreePost base A c ls m (passS n (sts ls)) w) := by
  obtain ⟨o1, ho1⟩ : ∃ o1, o1 = Obj.cells #[.slice A ls.length c, .slice m.a m.zs.length m.c] 32 := ⟨_, rfl⟩
  have hal : Below w.heap.size w (w.alloc o1) := (Below.refl _ _).alloc (Nat.le_refl _) _
  have hq : (w.alloc o1).heap[w.heap.size]? = some o1 := heap_alloc_new w _
  have HC := mkHid (hC.below hal)
  have HF := mkHid (Frm.below hal hb)
  have hb1 : base ≤ (w.alloc o1).heap.size := Nat.le_trans hb hal.size
  have HPL := mkHid hpl
  subst ho1
  obtain ⟨p0, p1⟩ := cr2 hq
  have HQ := mkHid hq
  obtain ⟨ll, hll⟩ : ∃ ll, ll = ls.length := ⟨_, rfl⟩
  have HLL := mkHid hll
  rw [← hll] at p0 hl HQ HC HF
  rw [← hll]
  rw [← hll] at hb1
  clear hC hal hq hll hpl
  go_enter Try.func58, Try.ntmps58
  go_wp2_with fail
  generalize w.alloc (.cells #[.slice A ll c, .slice m.a m.zs.length m.c] 32) = W at *
  generalize w.heap.size = X at *
  go_loopw [4] (fun iv wr => ∃ k : Nat, k ≤ ll ∧ iv = .int .i64 k ∧ Hid (∀ j (h : j < ls.length), j < k → goesB n ls[j].st = false) ∧ ∃ q, wr = W.drewN q) (fun iv _ => ll - (intOf iv).toNat)
  case atStart => exact ⟨0, by omega, rfl, mkHid (fun j h h' => absurd h' (by omega)), 0, rfl⟩
  case round =>
    obtain ⟨k, hk, rfl, HNG, q, rfl⟩ := hrel
    by_cases hlt : k < ll
    · have hks : k < ls.length := by rw [← HLL.out]; exact hlt
      obtain ⟨G, rfl, hGb, hGl⟩ := HC.out.castA (k := k) hks
      obtain ⟨⟨_, g1, _, g3⟩, _⟩ := (show CrAt W base (some ⟨G, 0, none⟩) c ls m from HC.out).cells hks
      have hpk := HPL.out _ (List.getElem_mem hks)
      have hst : goesB n ls[k].st = (!ls[k].wt && !(ls[k].at_ == (n : Int))) := rfl
      obtain ⟨l, hl'⟩ : ∃ l, l = ls[k] := ⟨_, rfl⟩
      have HL := mkHid hl'
      rw [← hl'] at g1 g3 hpk hst
      obtain ⟨ra, rc, zs, at_, ta, tc, ts, wt⟩ := l
      simp only at g1 g3 hpk hst
      have HG := mkHid hst
      clear hl' hst hGb hGl
      cases wt with
      | true =>
        go_wp2_with fail
        go_roundw
        case rel =>
          refine ⟨k + 1, by omega, by go_num, mkHid (fun j h h' => ?_), q, by first | rfl | simp⟩
          by_cases e : j = k
          · subst e; rw [← HL.out]; exact HG.out
          · exact HNG.out j h (by omega)
        case measure => simp [intOf] <;> omega
      | false =>
        by_cases hat : at_ < (n : Int)
        · go_wp2_with fail
          first | go_end0 | refine bodyPost_ret (results_none rfl _ _ _) rfl ?_
          have hg : goesB n ls[k].st = true := by
            rw [← HL.out, HG.out]
            have : ¬ at_ = (n : Int) := by omega
            simpa using this
          rw [any_goes_at (by rw [← HLL.out]; exact hlt) hg]
          exact ⟨rfl, ls, rfl, rfl, HC.out.drewN q, HF.out.drewN q⟩
        · go_wp2_with fail
          go_roundw
          case rel =>
            refine ⟨k + 1, by omega, by go_num, mkHid (fun j h h' => ?_), q, by first | rfl | simp⟩
            by_cases e : j = k
            · subst e
              rw [← HL.out, HG.out]
              have : at_ = (n : Int) := by omega
              simpa using this
            · exact HNG.out j h (by omega)
          case measure => simp [intOf] <;> omega
    · have hke : k = ll := by omega
      subst hke
      have HCq := mkHid (HC.out.drewN q)
      have HFq := mkHid (HF.out.drewN q)
      have HQq : Hid ((W.drewN q).heap[X]? = _) := mkHid HQ.out
      have hbq : base ≤ (W.drewN q).heap.size := hb1
      obtain ⟨p0, p1⟩ := cr2 HQq.out
      generalize W.drewN q = V at *
      go_wp2_with fail
      go_loopw [5] (fun iv wr => ∃ k' : Nat, k' ≤ k ∧ iv = .int .i64 k' ∧ ∃ ls' : List Lt, ls'.length = ls.length ∧ Hid (∀ j (h1 : j < ls.length) (h2 : j < ls'.length), (j < k' → ls'[j].st = clearW ls[j].st) ∧ (k' ≤ j → ls'[j] = ls[j])) ∧ CrAt wr base A c ls' m ∧ Frm base w wr ∧ wr.heap[X]? = some (.cells #[.slice A k c, .slice m.a m.zs.length m.c] 32 (0, 0)) ∧ base ≤ wr.heap.size) (fun iv _ => k - (intOf iv).toNat)
      case atStart => exact ⟨0, by omega, rfl, ls, rfl, mkHid (fun j h1 h2 => ⟨fun h => absurd h (by omega), fun _ => rfl⟩), HCq.out, HFq.out, HQq.out, hbq⟩
      case round =>
        clear p0 p1 HCq HFq HQq
        obtain ⟨k', hk', rfl, ls', hll', HCC, hcr, hf, hqq, hbw⟩ := hrel
        obtain ⟨p0, p1⟩ := cr2 hqq
        have HCR := mkHid hcr
        have HFF := mkHid hf
        have HQQ := mkHid hqq
        clear hcr hf hqq
        by_cases hlt' : k' < k
        · have hks : k' < ls'.length := by rw [hll', ← HLL.out]; exact hlt'
          obtain ⟨G, rfl, hGb, hGl⟩ := HCR.out.castA (k := k') hks
          obtain ⟨⟨_, _, _, g3⟩, _, _, _, f3⟩ := (show CrAt wr base (some ⟨G, 0, none⟩) c ls' m from HCR.out).cells hks
          have HKS := mkHid hks
          have HLN := mkHid hll'
          have HCR2 : Hid (CrAt wr base (some ⟨G, 0, none⟩) c ls' m) := mkHid HCR.out
          have hXG : ¬ G = X := fun e => by
            obtain ⟨cs, hcs⟩ := HCR2.out.heapG
            rw [e, HQQ.out] at hcs
            simp only [Option.some.injEq, Obj.cells.injEq] at hcs
            exact absurd hcs.2.1 (by decide)
          clear hll' hGb hGl
          go_wp2_with fail
          go_roundw
          case rel =>
            have hfr := HCR2.out.frmG hbw (k' * 4 + 3) (.bool false)
            refine ⟨k' + 1, by omega, by go_num, ls'.set k' ⟨ls'[k'].ra, ls'[k'].rc, ls'[k'].zs, ls'[k'].at_, ls'[k'].ta, ls'[k'].tc, ls'[k'].ts, false⟩, by rw [set_len]; exact HLN.out, mkHid (fun j h1 h2 => ?_), HCR2.out.wt HKS.out false, HFF.out.trans hfr, hfr.2 _ _ _ _ HQQ.out (by decide) (by decide), by rw [setCell_size]; exact hbw⟩
            rw [set_len] at h2
            have hc := HCC.out j h1 h2
            rw [List.getElem_set]
            refine ⟨fun h => ?_, fun h => ?_⟩
            · split
              · rename_i e
                subst e
                rw [← hc.2 (Nat.le_refl _)]
                rfl
              · exact hc.1 (by omega)
            · rw [if_neg (by omega)]
              exact hc.2 (by omega)
          case measure => simp [intOf] <;> omega
        · have hke : k' = k := by omega
          subst hke
          go_wp2_with fail
          first | go_end0 | refine bodyPost_ret (results_none rfl _ _ _) rfl ?_
          refine ⟨rfl, ls', hll', ?_, HCR.out, HFF.out⟩
          exact none_goes hll' (fun j h => HNG.out j h (by rw [HLL.out]; exact h)) (fun j h1 h2 => (HCC.out j h1 h2).1 (by rw [HLL.out]; exact h1))
end Go.Proofs.Ytjmiilneennjaaa

namespace Go.Proofs.Ytjmiilneennjaaa
open Go.RowKit
set_option maxHeartbeats 2000000
set_option maxRecDepth 100000
set_option linter.unusedVariables false
set_option linter.unusedSimpArgs false

/-- a step of a crowd is one of a valid crowd and of one of its lanes. -/
def crOk (xs : List Cd) (ss : List LS) (z : Int) (mem : List Int) : Bool := crowdValid xs ss mem && inB z 0 ((ss.length : Int) - 1)
/-- what a step of a crowd answers. -/
def crTo (xs : List Cd) (ss : List LS) (z : Int) (mem : List Int) : List LS × List Int := if crOk xs ss z mem then stepC xs z.toNat ss mem else ([], [])
theorem crOk_yes {xs : List Cd} {ss : List LS} {z : Int} {mem : List Int} (h : crOk xs ss z mem = true) : crowdValid xs ss mem = true ∧ CrowdOk xs ss mem ∧ 0 ≤ z ∧ z ≤ (ss.length : Int) - 1 := by
  unfold crOk at h
  rw [Bool.and_eq_true] at h
  have h1 := h.1
  unfold crowdValid at h1
  simp only [Bool.and_eq_true] at h1
  have h2 := inB_t h1.1.1.1
  have h3 := inB_t h.2
  refine ⟨h.1, ⟨h1.1.1.2, h1.1.2, by omega, fun s hs => ?_⟩, h3.1, h3.2⟩
  have h4 := List.all_eq_true.1 h1.2 s hs
  unfold laneValid at h4
  rw [Bool.and_eq_true] at h4
  exact laneOk_iff.1 h4.2
theorem crAt_nil (w : World) (base : Nat) : CrAt w base none 0 [] ⟨none, 0, []⟩ := ⟨World.ownsRow_nil _ _ _ _, ⟨fun r hr => by
  simp only [rowsL, List.mem_cons, List.not_mem_nil, or_false] at hr
  subst hr
  exact World.ownsRow_nil _ _ _ _, fun i j hi hj hne => by simp [rowsL] at hi hj; omega⟩⟩
theorem specStepCrowd_no (A : Option Addr) (c : Nat) (ls : List Lt) (m : IR) (LA : Option Addr) (lc : Nat) (xs : List Cd) (z : Int) (w : World) (hl : xs.length ≤ 1048576) (hll : ls.length ≤ 1000000000) (hml : m.zs.length ≤ 1000000000) (hs : Sl w LA (cflat xs)) (hg : TGrid w A ls) (hm : Sl w m.a (ints m.zs)) (hno : crOk xs (sts ls) z m.zs = false) :
    Calls Try.prog 19 #[.agg #[.slice A ls.length c, .slice m.a m.zs.length m.c], .slice LA xs.length lc, .int .i64 z] w (RetCr [] [] w) := by
  obtain ⟨o1, ho1⟩ : ∃ o1, o1 = Obj.cells #[.slice A ls.length c, .slice m.a m.zs.length m.c] 32 := ⟨_, rfl⟩
  obtain ⟨o2, ho2⟩ : ∃ o2, o2 = Obj.cells #[.slice none 0 0, .slice none 0 0] 32 := ⟨_, rfl⟩
  have hbl : Below w.heap.size w ((w.alloc o1).alloc o2) := ((Below.refl _ _).alloc (Nat.le_refl _) _).alloc (by simp) _
  have q1 : ((w.alloc o1).alloc o2).heap[w.heap.size]? = some o1 := by
    rw [heap_alloc_old _ _ (by simp)]; exact heap_alloc_new _ _
  have q2 : ((w.alloc o1).alloc o2).heap[w.heap.size + 1]? = some o2 := by
    have := heap_alloc_new (w.alloc o1) o2
    simpa using this
  have HV := mkHid (specCrowdValid_any A c ls m LA lc xs _ hl hll hml (hs.below hbl) (hg.below hbl) (hm.below hbl))
  have HW := mkHid (fun X => l1In_any z 0 ((ls.length : Int) - 1) X)
  have HB := mkHid hbl
  subst ho1 ho2
  have HQ1 := mkHid q1
  have HQ2 := mkHid q2
  unfold crOk at hno
  rw [show ((sts ls).length : Int) = (ls.length : Int) by simp] at hno
  obtain ⟨v1, hv1⟩ : ∃ v, v = crowdValid xs (sts ls) m.zs := ⟨_, rfl⟩
  obtain ⟨v2, hv2⟩ : ∃ v, v = inB z 0 ((ls.length : Int) - 1) := ⟨_, rfl⟩
  rw [← hv1] at HV hno
  rw [← hv2] at HW hno
  clear hv1 hv2 hs hg hm hbl q1 q2
  cases v1 with
  | false =>
    clear hno
    go_enter Try.func19, Try.ntmps19
    go_wp2_with fail
    refine HV.out.mono ?_
    rintro e w2 ⟨rfl, b2⟩
    have hq := (b2.block _ (Array.getElem?_eq_some_iff.1 HQ2.out).1).trans HQ2.out
    have HB2 := mkHid (HB.out.trans (b2.mono HB.out.size))
    obtain ⟨⟨d0, d1⟩, g0, g1⟩ := box2 hq
    clear b2 hq
    go_wp2_with fail
    refine bodyPost_ret (v := .agg #[.slice none 0 0, .slice none 0 0]) (by simp [results, Try.results19, go_sem, d0, d1]) rfl ⟨none, 0, [], ⟨none, 0, []⟩, rfl, rfl, rfl, crAt_nil _ _, ?_⟩
    exact HB2.out.grown (grown_2 _ _ _ _) HB2.out.size (fun g e => by injection e with e; omega)
  | true =>
    cases v2 with
    | true => cases hno
    | false =>
      clear hno
      go_enter Try.func19, Try.ntmps19
      go_wp2_with fail
      refine HV.out.mono ?_
      rintro e w2 ⟨rfl, b2⟩
      obtain ⟨p0, p1⟩ := box2t ((b2.block _ (Array.getElem?_eq_some_iff.1 HQ1.out).1).trans HQ1.out)
      go_wp2_with fail
      refine (HW.out _).mono ?_
      rintro e w3 ⟨rfl, rfl⟩
      have hq := (b2.block _ (Array.getElem?_eq_some_iff.1 HQ2.out).1).trans HQ2.out
      have HB2 := mkHid (HB.out.trans (b2.mono HB.out.size))
      obtain ⟨⟨d0, d1⟩, g0, g1⟩ := box2 hq
      clear b2 hq
      go_wp2_with fail
      refine bodyPost_ret (v := .agg #[.slice none 0 0, .slice none 0 0]) (by simp [results, Try.results19, go_sem, d0, d1]) rfl ⟨none, 0, [], ⟨none, 0, []⟩, rfl, rfl, rfl, crAt_nil _ _, ?_⟩
      exact HB2.out.grown (grown_2 _ _ _ _) HB2.out.size (fun g e => by injection e with e; omega)
theorem specStepCrowd_yes (A : Option Addr) (c : Nat) (ls0 : List Lt) (m : IR) (LA : Option Addr) (lc : Nat) (xs : List Cd) (q : Nat) (w : World) (hl : xs.length ≤ 1048576) (hs : Sl w LA (cflat xs)) (hg : TGrid w A ls0) (hm : Sl w m.a (ints m.zs)) (hcv : crowdValid xs (sts ls0) m.zs = true) (hok : CrowdOk xs (sts ls0) m.zs) (hq : q < ls0.length) :
    Calls Try.prog 19 #[.agg #[.slice A ls0.length c, .slice m.a m.zs.length m.c], .slice LA xs.length lc, .int .i64 q] w (RetCr (stepC xs q (sts ls0) m.zs).1 (stepC xs q (sts ls0) m.zs).2 w) := by
  have hlen8 : ls0.length ≤ 8 := by have := hok.len.2; simpa using this
  have hz32 := (memValid_parts.1 hok.mem).1
  have h40 := (progValid_yes hok.prog).1
  have hll : ∀ x ∈ ls0, x.zs.length ≤ 1048576 ∧ x.ts.length ≤ 1048576 := fun x hx => by
    have ho := hok.lanes x.st (List.mem_map_of_mem hx)
    have h1 := ho.len
    have h2 := loops_three hok.prog (k := x.st.pc.toNat) (by have := ho.pc; omega)
    have h3 : x.zs.length = 4 := ho.regs
    have e : x.st.turns.length = x.ts.length := rfl
    omega
  obtain ⟨o1, ho1⟩ : ∃ o1, o1 = Obj.cells #[.slice A ls0.length c, .slice m.a m.zs.length m.c] 32 := ⟨_, rfl⟩
  obtain ⟨o2, ho2⟩ : ∃ o2, o2 = Obj.cells #[.slice none 0 0, .slice none 0 0] 32 := ⟨_, rfl⟩
  have hbl : Below w.heap.size w ((w.alloc o1).alloc o2) := ((Below.refl _ _).alloc (Nat.le_refl _) _).alloc (by simp) _
  have q1 : ((w.alloc o1).alloc o2).heap[w.heap.size]? = some o1 := by
    rw [heap_alloc_old _ _ (by simp)]; exact heap_alloc_new _ _
  have q2 : ((w.alloc o1).alloc o2).heap[w.heap.size + 1]? = some o2 := by
    have := heap_alloc_new (w.alloc o1) o2
    simpa using this
  have HV := mkHid (specCrowdValid_any A c ls0 m LA lc xs _ hl (by omega) (by omega) (hs.below hbl) (hg.below hbl) (hm.below hbl))
  rw [hcv] at HV
  have HW0 := mkHid (fun X => l1In_any q 0 ((ls0.length : Int) - 1) X)
  rw [inB_of (show (0 : Int) ≤ q by omega) (show (q : Int) ≤ (ls0.length : Int) - 1 by omega)] at HW0
  have HB := mkHid hbl
  subst ho1 ho2
  have HQ1 := mkHid q1
  have HQ2 := mkHid q2
  have HS := mkHid hs
  have HGR := mkHid hg
  have HM := mkHid hm
  have HLL := mkHid hll
  have HOK := mkHid hok
  clear hs hg hm hbl q1 q2 hcv hll hok
  go_enter Try.func19, Try.ntmps19
  go_wp2_with fail
  refine HV.out.mono ?_
  rintro e w2 ⟨rfl, b2⟩
  have hq1 := (b2.block _ (Array.getElem?_eq_some_iff.1 HQ1.out).1).trans HQ1.out
  have HQ12 := mkHid hq1
  have HQ22 := mkHid ((b2.block _ (Array.getElem?_eq_some_iff.1 HQ2.out).1).trans HQ2.out)
  have HB2 := mkHid (HB.out.trans (b2.mono HB.out.size))
  obtain ⟨p0, p1⟩ := box2t hq1
  clear b2 hq1 HV HQ1 HQ2 HB
  go_wp2_with fail
  refine (HW0.out _).mono ?_
  rintro e w3 ⟨rfl, rfl⟩
  go_wp2_with fail
  refine (l7Copy_any A c ls0 m w2 (by omega) HLL.out (by omega) (HGR.out.below HB2.out) (HM.out.below HB2.out)).mono ?_
  rintro e w3 ⟨A1, c1, ls, ⟨B1, d1, mi⟩, rfl, hst, hmz, hcr, b3⟩
  simp only at hmz
  subst hmz
  have hls : ls.length = ls0.length := by have := congrArg List.length hst; simpa using this
  have hls8 : ls.length ≤ 8 := by omega
  have hql : q < ls.length := by omega
  have HQL := mkHid hql
  have HCR := mkHid (hcr.lower HB2.out.size)
  have HB3 := mkHid (below_then HB2.out b3)
  have HQ23 := mkHid ((b3.block _ (Array.getElem?_eq_some_iff.1 HQ22.out).1).trans HQ22.out)
  have hok2 : CrowdOk xs (sts ls) m.zs := by rw [hst]; exact HOK.out
  have HOK2 := mkHid hok2
  have HPL := mkHid hok2.placed
  have HST := mkHid hst
  obtain ⟨o3, ho3⟩ : ∃ o3, o3 = Obj.cells #[.slice A1 ls.length c1, .slice B1 m.zs.length d1] 32 := ⟨_, rfl⟩
  have hal : Below w3.heap.size w3 (w3.alloc o3) := (Below.refl _ _).alloc (Nat.le_refl _) _
  have HB4 := mkHid (below_then HB3.out hal)
  have HBX4 : Hid (CrBox (w3.alloc o3) w3.heap.size w.heap.size A1 c1 ls ⟨B1, d1, m.zs⟩) := mkHid ⟨by
    have := heap_alloc_new w3 o3
    rw [this, ho3], HCR.out.below hal, HB4.out.size⟩
  have HQ24 := mkHid ((hal.block _ (Array.getElem?_eq_some_iff.1 HQ23.out).1).trans HQ23.out)
  have hsz2 : w.heap.size + 1 < w3.heap.size := (Array.getElem?_eq_some_iff.1 HQ23.out).1
  have HC2 := mkHid hsz2
  subst ho3
  clear hcr b3 hal hls hst hok2 p0 p1 hsz2 HCR HQ12 HQ22 HQ23
  go_upto_region 4 with fail
  generalize w3.alloc (.cells #[.slice A1 ls.length c1, .slice B1 m.zs.length d1] 32) = w4 at *
  generalize w3.heap.size = C at *
  have hlane := HOK2.out.at_ (k := q) (by simpa using hql)
  rw [sts_at ls hql] at hlane
  have HLANE := mkHid hlane
  obtain ⟨sm, hsm⟩ : ∃ sm, sm = stepS xs (q : Int) (ls[q]'hql).st m.zs := ⟨_, rfl⟩
  have HSM := mkHid hsm
  have HSC : Hid (stepC xs q (sts ls0) m.zs = (passS xs.length ((sts ls).set q sm.1), sm.2)) := mkHid (by
    rw [← HST.out]; unfold stepC; rw [sts_at ls hql, hsm])
  have hsok : LaneOk xs sm.1 ∧ memValid sm.2 = true ∧ sm.2.length = m.zs.length := by rw [hsm]; exact stepS_ok HOK2.out.prog (id := (q : Int)) (by omega) hlane HOK2.out.mem
  have HSOK := mkHid hsok
  obtain ⟨G, rfl, _, _⟩ := HBX4.out.2.1.castA (k := 0) (by omega)
  obtain ⟨p0, p1⟩ := HBX4.out.cells
  obtain ⟨⟨g0, g1, g2, g3⟩, f0, f1, f2, f3⟩ := HBX4.out.2.1.cells hql
  obtain ⟨l, hll⟩ : ∃ l, l = ls[q]'hql := ⟨_, rfl⟩
  have HLQ := mkHid hll
  rw [← hll] at g0 g1 g2 g3 HLANE HSM
  have hqL : (q : Int) < (ls.length : Int) := by omega
  have hq0 : (0 : Int) ≤ (q : Int) := by omega
  clear hsm hsok hlane hll
  obtain ⟨ra, rc, ys, at_, ta, tc, ts, wt⟩ := l
  simp only [ltR, ltT] at g0 g1 g2 g3
  have hpc := HLANE.out.pc
  simp only at hpc
  cases wt with
  | true =>
    have HW : Hid (sm = (⟨ys, at_, ts, true⟩, m.zs)) := mkHid (by
      rw [HSM.out]; unfold stepS; rw [if_neg (by unfold goesB; simp)])
    obtain ⟨ls2, hls2⟩ : ∃ ls2, ls2 = ls := ⟨_, rfl⟩
    have HL22 : Hid (ls2.length = ls.length) := mkHid (by rw [hls2])
    have HS22 : Hid (sts ls2 = (sts ls).set q sm.1) := mkHid (by
      rw [hls2, HW.out]
      refine (set_same _ _ (by simpa using HQL.out) _ ?_).symm
      simp only [sts, List.getElem_map]
      rw [← HLQ.out])
    have HPL2 : Hid (Placed xs.length ls2) := mkHid (by rw [hls2]; exact HPL.out)
    have HBX20 : Hid (CrBox w4 C w.heap.size (some ⟨G, 0, none⟩) c1 ls2 ⟨B1, d1, sm.2⟩) := mkHid (by rw [hls2, HW.out]; exact HBX4.out)
    clear hls2
    go_upto_region 6 with fail
    refine name_world ?_
    intro W hW
    have HBX2 : Hid (CrBox W C w.heap.size (some ⟨G, 0, none⟩) c1 ls2 ⟨B1, d1, sm.2⟩) := mkHid (by rw [hW]; exact HBX20.out)
    have HBW : Hid (Below w.heap.size w W) := mkHid (by rw [hW]; exact HB4.out)
    have HQ2W : Hid (W.heap[w.heap.size + 1]? = some (.cells #[.slice none 0 0, .slice none 0 0] 32 (0, 0))) := mkHid (by rw [hW]; exact HQ24.out)
    clear hW p0 p1 g0 g1 g2 g3 f0 f1 f2 f3
    have HLF := mkHid (l7Free_any LA xs.length lc w.heap.size c1 (some ⟨G, 0, none⟩) ls2 ⟨B1, d1, sm.2⟩ W (by omega) (by rw [HL22.out]; exact hls8) HPL2.out HBX2.out.2.1 HBX2.out.2.2)
    obtain ⟨p0, p1⟩ := HBX2.out.cells
    rw [HL22.out] at p0 HLF
    go_wp2_with fail
    refine HLF.out.mono ?_
    rintro e w7 ⟨rfl, ls3, hl3, hs3, hc3, hf3⟩
    have HB7 := mkHid (HBW.out.trans hf3.1)
    have HL3 : Hid (ls3.length = ls.length) := mkHid (hl3.trans HL22.out)
    have HQ27 := mkHid ((show w7.heap[w.heap.size + 1]? = some (.cells #[.slice none 0 0, .slice none 0 0] 32 (0, 0)) from hf3.2 (w.heap.size + 1) _ _ _ HQ2W.out (by decide) (by decide)))
    have HBX7 := mkHid (hf3.2 C _ _ _ HBX2.out.1 (by decide) (by decide))
    have HC3 := mkHid hc3
    have HS3 : Hid (sts ls3 = (stepC xs q (sts ls0) m.zs).1) := mkHid (by rw [hs3, HS22.out, HSC.out])
    obtain ⟨p0', p1'⟩ := box2t HBX7.out
    obtain ⟨⟨d0, d1'⟩, e0, e1⟩ := box2 HQ27.out
    rw [HL22.out] at p0'
    clear hl3 hs3 hc3 hf3 p0 p1
    go_wp2_with fail
    refine bodyPost_ret (v := .agg #[.slice (some ⟨G, 0, none⟩) ls.length c1, .slice B1 sm.2.length d1]) (by simp [results, Try.results19, go_sem, d0, d1']) rfl ?_
    refine ⟨some ⟨G, 0, none⟩, c1, ls3, ⟨B1, d1, sm.2⟩, by rw [HL3.out], HS3.out, by rw [HSC.out], ?_, ?_⟩
    · exact HC3.out.other (grown_2 _ _ _ _) HQ27.out (by decide) (by decide)
    · exact HB7.out.grown (grown_2 _ _ _ _) HB7.out.size (fun g e => by injection e with e; omega)
  | false =>
    by_cases hat : at_ < (xs.length : Int)
    · obtain ⟨pn, rfl⟩ := Int.eq_ofNat_of_zero_le hpc.1
      have hpx : pn < xs.length := by omega
      have HW : Hid (sm = doStep xs (q : Int) pn (codeAt xs pn) ⟨ys, pn, ts, false⟩ m.zs) := mkHid (by
        rw [HSM.out]; unfold stepS
        rw [if_pos (by unfold goesB; simp; omega)]
        simp only [Lt.st, Int.toNat_natCast])
      have hlin := (HBX4.out.2.1.grid').lane HQL.out
      rw [← HLQ.out] at hlin
      have hst9 := l6Step_any ⟨ra, rc, ys, pn, ta, tc, ts, false⟩ LA lc xs (q : Int) w.heap.size ⟨B1, d1, m.zs⟩ w4.drew HOK2.out.prog (by omega) HBX4.out.2.2 HOK2.out.mem ((HS.out.below HB4.out).drew) hlin HLANE.out pn rfl hpx rfl HBX4.out.2.1.mem
      simp only [← HW.out] at hst9
      have HST9 := mkHid hst9
      have HNA : Hid (w4.heap[C]? = some (.cells #[.slice (some ⟨G, 0, none⟩) ls.length c1, .slice B1 m.zs.length d1] 32 (0, 0))) := mkHid HBX4.out.1
      have HNR := mkHid (HBX4.out.2.1.mem)
      clear hlin hst9
      go_wp2_with fail
      go_region_law (first
        | (go_simp
           go_at_call 57
           refine HST9.out.mono ?_
           rintro e w5 ⟨l', rfl, hs', hap, hmo, hml, hg⟩
           have hsw := CrAt.swap (w := w4.drew) (show CrAt w4.drew w.heap.size (some ⟨G, 0, none⟩) c1 ls ⟨B1, d1, m.zs⟩ from HBX4.out.2.1) HQL.out HBX4.out.2.2 hap hmo hml hg
           have HSW := mkHid hsw.2
           have HS9 := mkHid hs'
           have HML9 := mkHid hml
           have hq9 := (hg.block C (Array.getElem?_eq_some_iff.1 HNA.out).1 (fun e => own_ne_heapA HBX4.out.2.1.mem HNA.out (by decide) e.symm)).trans HNA.out
           obtain ⟨p0', p1'⟩ := cr2 hq9
           obtain ⟨⟨g0', g1', g2', g3'⟩, f0', f1', f2', f3'⟩ := hsw.1.cells HQL.out
           clear hsw hs' hap hmo hml hg hq9))
      all_goals (
        obtain ⟨ls2, hls2⟩ : ∃ ls2, ls2 = ls.set q l' := ⟨_, rfl⟩
        have HL22 : Hid (ls2.length = ls.length) := mkHid (by rw [hls2, set_len])
        have HS22 : Hid (sts ls2 = (sts ls).set q sm.1) := mkHid (by rw [hls2, sts_set, HS9.out])
        have HPL2 : Hid (Placed xs.length ls2) := mkHid (by
          rw [hls2]
          intro l9 h9
          rcases List.mem_or_eq_of_mem_set h9 with h | h
          · exact HPL.out l9 h
          · have hp := HSOK.out.1.pc
            rw [← HS9.out] at hp
            rw [h]; exact hp)
        have HBX20 := mkHid (show CrBox _ C w.heap.size (some ⟨G, 0, none⟩) c1 ls2 ⟨B1, d1, sm.2⟩ from by
          rw [hls2]
          refine ⟨?_, HSW.out.1, ?_⟩
          · rw [set_len]
            have h := HSW.out.2.2 C _ _ _ HNA.out (by decide) (by decide)
            simp only [HML9.out]
            exact h
          · have h1 := HSW.out.2.1.size
            exact Nat.le_trans HB4.out.size h1)
        have HBW0 := mkHid (HB4.out.trans (show Below w.heap.size w4 _ from HSW.out.2.undrew.1))
        have HQ2W0 := mkHid (HSW.out.2.undrew.2 (w.heap.size + 1) _ _ _ HQ24.out (by decide) (by decide))
        clear hls2
        go_upto_region 6 with fail
        refine name_world ?_
        intro W hW
        have HBX2 : Hid (CrBox W C w.heap.size (some ⟨G, 0, none⟩) c1 ls2 ⟨B1, d1, sm.2⟩) := mkHid (by rw [hW]; exact HBX20.out)
        have HBW : Hid (Below w.heap.size w W) := mkHid (by rw [hW]; exact HBW0.out)
        have HQ2W : Hid (W.heap[w.heap.size + 1]? = some (.cells #[.slice none 0 0, .slice none 0 0] 32 (0, 0))) := mkHid (by rw [hW]; exact HQ2W0.out)
        clear hW p0 p1 p0' p1' g0 g1 g2 g3 f0 f1 f2 f3 g0' g1' g2' g3' f0' f1' f2' f3'
        have HLF := mkHid (l7Free_any LA xs.length lc w.heap.size c1 (some ⟨G, 0, none⟩) ls2 ⟨B1, d1, sm.2⟩ W (by omega) (by rw [HL22.out]; exact hls8) HPL2.out HBX2.out.2.1 HBX2.out.2.2)
        obtain ⟨p0, p1⟩ := HBX2.out.cells
        rw [HL22.out] at p0 HLF
        go_wp2_with fail
        refine HLF.out.mono ?_
        rintro e w7 ⟨rfl, ls3, hl3, hs3, hc3, hf3⟩
        have HB7 := mkHid (HBW.out.trans hf3.1)
        have HL3 : Hid (ls3.length = ls.length) := mkHid (hl3.trans HL22.out)
        have HQ27 := mkHid ((show w7.heap[w.heap.size + 1]? = some (.cells #[.slice none 0 0, .slice none 0 0] 32 (0, 0)) from hf3.2 (w.heap.size + 1) _ _ _ HQ2W.out (by decide) (by decide)))
        have HBX7 := mkHid (hf3.2 C _ _ _ HBX2.out.1 (by decide) (by decide))
        have HC3 := mkHid hc3
        have HS3 : Hid (sts ls3 = (stepC xs q (sts ls0) m.zs).1) := mkHid (by rw [hs3, HS22.out, HSC.out])
        obtain ⟨p0', p1'⟩ := box2t HBX7.out
        obtain ⟨⟨d0, d1'⟩, e0, e1⟩ := box2 HQ27.out
        rw [HL22.out] at p0'
        clear hl3 hs3 hc3 hf3 p0 p1
        go_wp2_with fail
        refine bodyPost_ret (v := .agg #[.slice (some ⟨G, 0, none⟩) ls.length c1, .slice B1 sm.2.length d1]) (by simp [results, Try.results19, go_sem, d0, d1']) rfl ?_
        refine ⟨some ⟨G, 0, none⟩, c1, ls3, ⟨B1, d1, sm.2⟩, by rw [HL3.out], HS3.out, by rw [HSC.out], ?_, ?_⟩
        · exact HC3.out.other (grown_2 _ _ _ _) HQ27.out (by decide) (by decide)
        · exact HB7.out.grown (grown_2 _ _ _ _) HB7.out.size (fun g e => by injection e with e; omega)
        )
    · have HW : Hid (sm = (⟨ys, at_, ts, false⟩, m.zs)) := mkHid (by
        rw [HSM.out]; unfold stepS; rw [if_neg (by unfold goesB; simp; omega)])
      obtain ⟨ls2, hls2⟩ : ∃ ls2, ls2 = ls := ⟨_, rfl⟩
      have HL22 : Hid (ls2.length = ls.length) := mkHid (by rw [hls2])
      have HS22 : Hid (sts ls2 = (sts ls).set q sm.1) := mkHid (by
        rw [hls2, HW.out]
        refine (set_same _ _ (by simpa using HQL.out) _ ?_).symm
        simp only [sts, List.getElem_map]
        rw [← HLQ.out])
      have HPL2 : Hid (Placed xs.length ls2) := mkHid (by rw [hls2]; exact HPL.out)
      have HBX20 : Hid (CrBox w4 C w.heap.size (some ⟨G, 0, none⟩) c1 ls2 ⟨B1, d1, sm.2⟩) := mkHid (by rw [hls2, HW.out]; exact HBX4.out)
      clear hls2
      go_upto_region 6 with fail
      refine name_world ?_
      intro W hW
      have HBX2 : Hid (CrBox W C w.heap.size (some ⟨G, 0, none⟩) c1 ls2 ⟨B1, d1, sm.2⟩) := mkHid (by rw [hW]; exact HBX20.out)
      have HBW : Hid (Below w.heap.size w W) := mkHid (by rw [hW]; exact HB4.out)
      have HQ2W : Hid (W.heap[w.heap.size + 1]? = some (.cells #[.slice none 0 0, .slice none 0 0] 32 (0, 0))) := mkHid (by rw [hW]; exact HQ24.out)
      clear hW p0 p1 g0 g1 g2 g3 f0 f1 f2 f3
      have HLF := mkHid (l7Free_any LA xs.length lc w.heap.size c1 (some ⟨G, 0, none⟩) ls2 ⟨B1, d1, sm.2⟩ W (by omega) (by rw [HL22.out]; exact hls8) HPL2.out HBX2.out.2.1 HBX2.out.2.2)
      obtain ⟨p0, p1⟩ := HBX2.out.cells
      rw [HL22.out] at p0 HLF
      go_wp2_with fail
      refine HLF.out.mono ?_
      rintro e w7 ⟨rfl, ls3, hl3, hs3, hc3, hf3⟩
      have HB7 := mkHid (HBW.out.trans hf3.1)
      have HL3 : Hid (ls3.length = ls.length) := mkHid (hl3.trans HL22.out)
      have HQ27 := mkHid ((show w7.heap[w.heap.size + 1]? = some (.cells #[.slice none 0 0, .slice none 0 0] 32 (0, 0)) from hf3.2 (w.heap.size + 1) _ _ _ HQ2W.out (by decide) (by decide)))
      have HBX7 := mkHid (hf3.2 C _ _ _ HBX2.out.1 (by decide) (by decide))
      have HC3 := mkHid hc3
      have HS3 : Hid (sts ls3 = (stepC xs q (sts ls0) m.zs).1) := mkHid (by rw [hs3, HS22.out, HSC.out])
      obtain ⟨p0', p1'⟩ := box2t HBX7.out
      obtain ⟨⟨d0, d1'⟩, e0, e1⟩ := box2 HQ27.out
      rw [HL22.out] at p0'
      clear hl3 hs3 hc3 hf3 p0 p1
      go_wp2_with fail
      refine bodyPost_ret (v := .agg #[.slice (some ⟨G, 0, none⟩) ls.length c1, .slice B1 sm.2.length d1]) (by simp [results, Try.results19, go_sem, d0, d1']) rfl ?_
      refine ⟨some ⟨G, 0, none⟩, c1, ls3, ⟨B1, d1, sm.2⟩, by rw [HL3.out], HS3.out, by rw [HSC.out], ?_, ?_⟩
      · exact HC3.out.other (grown_2 _ _ _ _) HQ27.out (by decide) (by decide)
      · exact HB7.out.grown (grown_2 _ _ _ _) HB7.out.size (fun g e => by injection e with e; omega)
theorem specStepCrowd_any (A : Option Addr) (c : Nat) (ls : List Lt) (m : IR) (LA : Option Addr) (lc : Nat) (xs : List Cd) (z : Int) (w : World) (hl : xs.length ≤ 1048576) (hll : ls.length ≤ 1000000000) (hml : m.zs.length ≤ 1000000000) (hs : Sl w LA (cflat xs)) (hg : TGrid w A ls) (hm : Sl w m.a (ints m.zs)) :
    Calls Try.prog 19 #[.agg #[.slice A ls.length c, .slice m.a m.zs.length m.c], .slice LA xs.length lc, .int .i64 z] w (RetCr (crTo xs (sts ls) z m.zs).1 (crTo xs (sts ls) z m.zs).2 w) := by
  unfold crTo
  cases h : crOk xs (sts ls) z m.zs with
  | false => exact specStepCrowd_no A c ls m LA lc xs z w hl hll hml hs hg hm h
  | true =>
    obtain ⟨h1, h2, h3, h4⟩ := crOk_yes h
    obtain ⟨q, rfl⟩ := Int.eq_ofNat_of_zero_le h3
    have hq : q < ls.length := by
      have e : (sts ls).length = ls.length := by simp
      rw [e] at h4; omega
    exact specStepCrowd_yes A c ls m LA lc xs q w hl hs hg hm h1 h2 hq
end Go.Proofs.Ytjmiilneennjaaa
