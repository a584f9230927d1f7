/-
  Parts of a proof: CRunS.
-/
import Derived.Test.YthpabcgnijfiaaaPart21
import Derived.Test.YthpabcgnijfiaaaPart17
import Derived.Deep.LoopGhost
namespace Go.Proofs.Ythpabcgnijfiaaa
open Go.RowKit
set_option maxHeartbeats 2000000
set_option maxRecDepth 100000
set_option linter.unusedVariables false

theorem specRunOrder_no (LA : Option Addr) (lc : Nat) (xs : List Cd) (z : Int) (A : Option Addr) (c : Nat) (zs : List Int) (B : Option Addr) (d : Nat) (os : List Int) (w : World) (hl : xs.length ≤ 1048576) (hz : zs.length ≤ 1000000000) (hol : os.length ≤ 1000000000) (hs : Sl w LA (cflat xs)) (h2 : Sl w A (ints zs)) (h3 : Sl w B (ints os)) (hr : ranB xs z zs os = false) :
    Calls Try.prog 9 #[.slice LA xs.length lc, .int .i64 z, .slice A zs.length c, .slice B os.length d] w (RetInts [] w) := by
  have HP := mkHid (specProgramValid_any LA lc xs w hl hs)
  have HO := mkHid (fun X (hX : Below w.heap.size w X) => specOrderValid_any B d os z X hol (h3.below hX))
  have HM := mkHid (fun X (hX : Below w.heap.size w X) => specMemoryValid_any A c zs X hz (h2.below hX))
  unfold ranB at hr
  obtain ⟨v1, hv1⟩ : ∃ v, v = progValid xs := ⟨_, rfl⟩
  obtain ⟨v2, hv2⟩ : ∃ v, v = orderValid os z := ⟨_, rfl⟩
  obtain ⟨v3, hv3⟩ : ∃ v, v = memValid zs := ⟨_, rfl⟩
  rw [← hv1] at HP hr
  rw [← hv2] at HO hr
  rw [← hv3] at HM hr
  clear hv1 hv2 hv3 hs h2 h3
  cases v1 with
  | false =>
    clear hr
    go_enter Try.func9, Try.ntmps9
    go_wp2_with fail
    refine HP.out.mono ?_
    rintro e w2 ⟨rfl, b2⟩
    have B2 := mkHid b2
    clear b2
    go_wp2_with fail
    go_ret
    exact ⟨_, _, rfl, own_base (own_empty w2 _ _) B2.out.size, B2.out.alloc B2.out.size _⟩
  | true =>
    cases v2 with
    | false =>
      clear hr
      go_enter Try.func9, Try.ntmps9
      go_wp2_with fail
      refine HP.out.mono ?_
      rintro e w2 ⟨rfl, b2⟩
      have B2 := mkHid b2
      clear b2
      go_wp2_with fail
      refine (HO.out _ B2.out).mono ?_
      rintro e w3 ⟨rfl, rfl⟩
      go_wp2_with fail
      go_ret
      exact ⟨_, _, rfl, own_base (own_empty w2 _ _) B2.out.size, B2.out.alloc B2.out.size _⟩
    | true =>
      cases v3 with
      | true => cases hr
      | false =>
        clear hr
        go_enter Try.func9, Try.ntmps9
        go_wp2_with fail
        refine HP.out.mono ?_
        rintro e w2 ⟨rfl, b2⟩
        have B2 := mkHid b2
        clear b2
        go_wp2_with fail
        refine (HO.out _ B2.out).mono ?_
        rintro e w3 ⟨rfl, rfl⟩
        go_wp2_with fail
        refine (HM.out _ B2.out).mono ?_
        rintro e w3 ⟨rfl, rfl⟩
        go_wp2_with fail
        go_ret
        exact ⟨_, _, rfl, own_base (own_empty w2 _ _) B2.out.size, B2.out.alloc B2.out.size _⟩
theorem specRunOrder_yes (LA : Option Addr) (lc : Nat) (xs : List Cd) (n : Nat) (A : Option Addr) (c : Nat) (zs : List Int) (B : Option Addr) (d : Nat) (os : List Int) (N : Nat) (w : World) (hl : xs.length ≤ 1048576) (hz : zs.length ≤ 1000000000) (hol : os.length ≤ 1000000000) (hs : Sl w LA (cflat xs)) (h2 : Sl w A (ints zs)) (h3 : Sl w B (ints os)) (hr : ranB xs n zs os = true) (ho : OrdOk os n) (hN : Runs xs (orderAt os) n zs N) :
    Calls Try.prog 9 #[.slice LA xs.length lc, .int .i64 n, .slice A zs.length c, .slice B os.length d] w (RetInts (seqC xs (orderAt os) (List.replicate n newLS) zs N).2 w) := by
  have HP := mkHid (specProgramValid_any LA lc xs w hl hs)
  have HO := mkHid (fun X (hX : Below w.heap.size w X) => specOrderValid_any B d os n X hol (h3.below hX))
  have HM := mkHid (fun X (hX : Below w.heap.size w X) => specMemoryValid_any A c zs X hz (h2.below hX))
  unfold ranB at hr
  simp only [Bool.and_eq_true] at hr
  obtain ⟨⟨hv, hmv⟩, hov⟩ := hr
  rw [hv] at HP
  rw [hov] at HO
  rw [hmv] at HM
  have h40 := (progValid_yes hv).1
  have hz32 := (memValid_parts.1 hmv).1
  have HNC := mkHid (fun X (hX : Below w.heap.size w X) => specNewCrowd_yes n A c zs X ho.n8 hmv (h2.below hX))
  have HS := mkHid hs
  have HOS := mkHid h3
  have HV := mkHid hv
  have HOK := mkHid ho
  have HN := mkHid hN
  have hN6 := hN.le
  have hl40 := ho.len
  have hn8 := ho.n8
  have HSQ := mkHid (fun i => seqC_ok (f := orderAt os) (newCrowd_ok hv hmv ho.n8) (by simpa using ho.lt) i)
  have HDN := mkHid (fun i => (seqC_settled (xs := xs) (f := orderAt os) (k := n) (mem := zs) i).done)
  clear hs h2 h3 hv hmv ho hN hov
  go_enter Try.func9, Try.ntmps9
  go_wp2_with fail
  refine HP.out.mono ?_
  rintro e w2 ⟨rfl, b2⟩
  have B2 := mkHid b2
  clear b2
  go_wp2_with fail
  refine (HO.out _ B2.out).mono ?_
  rintro e w3 ⟨rfl, rfl⟩
  go_wp2_with fail
  refine (HM.out _ B2.out).mono ?_
  rintro e w3 ⟨rfl, rfl⟩
  go_wp2_with fail
  refine (HNC.out _ B2.out).mono ?_
  rintro e w3 ⟨A1, c1, ln, B1, d1, rfl, hln, hfr, hcr, hb1⟩
  have HCR := mkHid (hcr.cr.lower B2.out.size)
  have HST := mkHid (fresh_sts hln hfr)
  have HB1 := mkHid (below_then B2.out hb1)
  have hln8 : ln.length ≤ 8 := by omega
  have HLN := mkHid hln
  clear hcr hfr hb1 hln
  obtain ⟨o1, ho1⟩ : ∃ o1, o1 = Obj.cells #[.slice A1 ln.length c1, .slice B1 zs.length d1] 55 := ⟨_, rfl⟩
  have hal : Below w3.heap.size w3 (w3.alloc o1) := (Below.refl _ _).alloc (Nat.le_refl _) _
  have HB2 := mkHid (below_then HB1.out hal)
  have HBX : Hid (CrBox (w3.alloc o1) w3.heap.size w.heap.size A1 c1 (ln.map ltOf) ⟨B1, d1, zs⟩) := mkHid ⟨by
    rw [List.length_map]
    have := heap_alloc_new w3 o1
    rw [this, ho1], HCR.out.below hal, HB2.out.size⟩
  subst ho1
  clear hal
  go_wp2_with fail
  generalize w3.alloc (.cells #[.slice A1 ln.length c1, .slice B1 zs.length d1] 55) = W3 at *
  generalize w3.heap.size = C at *
  clear HCR HB1 HNC HM HO HP
  obtain ⟨L, hL⟩ : ∃ L, L = ln.length := ⟨_, rfl⟩
  have HLL := mkHid hL
  rw [← hL] at hln8
  clear hL
  go_loopg [10] N (fun gk iv wr => ∃ i : Nat, i ≤ N ∧ gk = N - i ∧ ∃ r : Nat, iv = .int .i64 r ∧ Hid (r = i % os.length) ∧ ∃ ls : List Lt, sts ls = (seqC xs (orderAt os) (List.replicate n newLS) zs i).1 ∧ ls.length = ln.length ∧ CrBox wr C w.heap.size A1 c1 ls ⟨B1, d1, (seqC xs (orderAt os) (List.replicate n newLS) zs i).2⟩ ∧ Below w.heap.size w wr)
  case atStart => exact ⟨0, by omega, by omega, 0, rfl, mkHid (by simp), ln.map ltOf, HST.out, by simp, HBX.out, HB2.out⟩
  case round =>
    clear HBX HB2 HST W3
    obtain ⟨i, hi, rfl, r, rfl, HRI, ls, hst, hll, hbx, hb⟩ := hrel
    have HBX := mkHid hbx
    have HB := mkHid hb
    have HST2 := mkHid hst
    have HL2 := mkHid hll
    have HSI := mkHid (HSQ.out i)
    have HSN : Hid (seqC xs (orderAt os) (List.replicate n newLS) zs (i + 1) = stepC xs (orderAt os i) (seqC xs (orderAt os) (List.replicate n newLS) zs i).1 (seqC xs (orderAt os) (List.replicate n newLS) zs i).2) := mkHid rfl
    obtain ⟨mi, hmi⟩ : ∃ mi, mi = (seqC xs (orderAt os) (List.replicate n newLS) zs i).2 := ⟨_, rfl⟩
    have HMI := mkHid hmi
    rw [← hmi] at HBX HSI HSN hbx
    rw [← hst] at HSI HSN
    have hok := HSI.out.1
    have hpl : Placed xs.length ls := hok.placed
    have HPL := mkHid hpl
    have hmil : 1 ≤ mi.length ∧ mi.length ≤ 32 := (memValid_parts.1 hok.mem).1
    obtain ⟨p0, p1⟩ := hbx.cells
    rw [hll, ← HLL.out] at p0
    have HDO := mkHid (l7Done_any LA xs.length lc w.heap.size c1 A1 ls ⟨B1, d1, mi⟩ wr (by omega) (by rw [hll, ← HLL.out]; exact hln8) hpl hbx.2.1)
    rw [hst, HDN.out i, hll, ← HLL.out] at HDO
    obtain ⟨v, hv⟩ : ∃ v, v = overB xs.length (seqC xs (orderAt os) (List.replicate n newLS) zs i).1 := ⟨_, rfl⟩
    have HVV := mkHid hv
    rw [← hv] at HDO
    have hr : r < os.length := by rw [HRI.out]; exact Nat.mod_lt _ (by omega)
    clear hbx hb hst hv hll hpl hmi hok
    cases v with
    | true =>
      have hie : i = N := by
        rcases Nat.lt_or_ge i N with h | h
        · have := HN.out.before i h
          rw [← HVV.out] at this
          cases this
        · omega
      subst hie
      rw [← HMI.out]
      go_wp2_with fail
      refine HDO.out.mono ?_
      rintro e w4 ⟨rfl, b4⟩
      have HBX4 := mkHid (HBX.out.below b4)
      have HB4 := mkHid (HB.out.trans (b4.mono HB.out.size))
      obtain ⟨p0, p1⟩ := HBX4.out.cells
      have q1 := keepA p1
      have hsz4 := HB4.out.size
      clear b4
      go_wp2_with (at_builtin
                   refine wpList_copyS rfl Ei (own_emptyAt w4 _ _ (base := w.heap.size) hsz4 rfl) ((Sl.of_own HBX4.out.2.1.mem).alloc _) (by simp [ints]) (ints_one _) (by omega) (by omega) (by simp; omega) rfl rfl rfl ?_
                   intro r5 c5 w5 hown5 hg5 hat5
                   have HO5 := mkHid hown5
                   have HG5 := mkHid hg5
                   clear hown5 hg5 hat5)
      go_ret
      rw [← HMI.out]
      exact ⟨_, _, rfl, HO5.out, (HB4.out.alloc hsz4 _).grown HG5.out (by simp; omega) (fun g e => by injection e with e; omega)⟩
    | false =>
      have hin : i < N := by
        rcases Nat.lt_or_ge i N with h | h
        · exact h
        · have e : i = N := by omega
          have := HN.out.over
          rw [← e, ← HVV.out] at this
          cases this
      have HOL := mkHid (HOK.out.at_ i)
      have hlt := HOK.out.lt i
      obtain ⟨q, hq⟩ : ∃ q, q = orderAt os i := ⟨_, rfl⟩
      have HQ := mkHid hq
      rw [← hq] at hlt HOL HSN
      have hql : q < ls.length := by rw [HL2.out, HLN.out]; exact hlt
      have HQL := mkHid hql
      have hqL : (q : Int) < (L : Int) := by have := HLL.out; have := HL2.out; omega
      have hq0 : (0 : Int) ≤ (q : Int) := by omega
      have hr0 : (0 : Int) ≤ (r : Int) := by omega
      have hrl : (r : Int) < (os.length : Int) := by omega
      have hlane := HSI.out.1.at_ (k := q) (by simpa using hql)
      rw [sts_at ls hql] at hlane
      have HLANE := mkHid hlane
      obtain ⟨sm, hsm⟩ : ∃ sm, sm = stepS xs (q : Int) (ls[q]'hql).st mi := ⟨_, rfl⟩
      have HSM := mkHid hsm
      have HSC : Hid (seqC xs (orderAt os) (List.replicate n newLS) zs (i + 1) = (passS xs.length ((sts ls).set q sm.1), sm.2)) := mkHid (by
        rw [HSN.out]; unfold stepC; rw [sts_at ls hql, hsm])
      have hsok : LaneOk xs sm.1 ∧ memValid sm.2 = true ∧ sm.2.length = mi.length := by rw [hsm]; exact stepS_ok HV.out (id := (q : Int)) (by omega) hlane HSI.out.1.mem
      have HSOK := mkHid hsok
      obtain ⟨G, rfl, _, _⟩ := HBX.out.2.1.castA (k := 0) (by omega)
      go_wp2_with fail
      refine HDO.out.mono ?_
      rintro e w4 ⟨rfl, b4⟩
      have hbx := (show CrBox wr C w.heap.size (some ⟨G, 0, none⟩) c1 ls ⟨B1, d1, mi⟩ from HBX.out).below b4
      have HBX4 := mkHid hbx
      have HB4 := mkHid (HB.out.trans (b4.mono HB.out.size))
      obtain ⟨b, off, hB, hc0⟩ := (HOS.out.below HB4.out).at_ (k := r) (by simpa using hr)
      have hc := hc0 _ _ (ints_at hr)
      have he : os[r] = (q : Int) := by
        have := HOL.out
        rw [← HRI.out, List.getD, List.getElem?_eq_getElem hr] at this
        exact this
      rw [he] at hc
      clear hc0
      subst hB
      obtain ⟨p0, p1⟩ := hbx.cells
      rw [HL2.out, ← HLL.out] at p0
      obtain ⟨⟨g0, g1, g2, g3⟩, f0, f1, f2, f3⟩ := hbx.2.1.cells hql
      obtain ⟨l, hll⟩ : ∃ l, l = ls[q]'hql := ⟨_, rfl⟩
      have HLQ := mkHid hll
      rw [← hll] at g0 g1 g2 g3 HLANE HSM
      clear b4 he hsm hsok hlane hbx hq hll
      obtain ⟨ra, rc, ys, at_, ta, tc, ts, wt⟩ := l
      simp only [ltR, ltT] at g0 g1 g2 g3
      have hpc := HLANE.out.pc
      simp only at hpc
      cases wt with
      | true =>
        have HW : Hid (sm = (⟨ys, at_, ts, true⟩, mi)) := mkHid (by
          rw [HSM.out]; unfold stepS; rw [if_neg (by unfold goesB; simp)])
        obtain ⟨ls2, hls2⟩ : ∃ ls2, ls2 = ls := ⟨_, rfl⟩
        have HL22 : Hid (ls2.length = ln.length) := mkHid (by rw [hls2]; exact HL2.out)
        have HS22 : Hid (sts ls2 = (sts ls).set q sm.1) := mkHid (by
          rw [hls2, HW.out]
          refine (set_same _ _ (by simpa using HQL.out) _ ?_).symm
          simp only [sts, List.getElem_map]
          rw [← HLQ.out])
        have HPL2 : Hid (Placed xs.length ls2) := mkHid (by rw [hls2]; exact HPL.out)
        have HBX20 : Hid (CrBox w4 C w.heap.size (some ⟨G, 0, none⟩) c1 ls2 ⟨B1, d1, sm.2⟩) := mkHid (by rw [hls2, HW.out]; exact HBX4.out)
        clear hls2
        go_upto_region 10 with fail
        refine name_world ?_
        intro W hW
        have HBX2 : Hid (CrBox W C w.heap.size (some ⟨G, 0, none⟩) c1 ls2 ⟨B1, d1, sm.2⟩) := mkHid (by rw [hW]; exact HBX20.out)
        have HBW : Hid (Below w.heap.size w W) := mkHid (by rw [hW]; exact HB4.out)
        clear hW p0 p1 g0 g1 g2 g3 f0 f1 f2 f3 hc
        have HLF := mkHid (l7Free_any LA xs.length lc w.heap.size c1 (some ⟨G, 0, none⟩) ls2 ⟨B1, d1, sm.2⟩ W (by omega) (by rw [HL22.out, ← HLL.out]; exact hln8) HPL2.out HBX2.out.2.1 HBX2.out.2.2)
        obtain ⟨p0, p1⟩ := HBX2.out.cells
        rw [HL22.out, ← HLL.out] at p0
        rw [HL22.out, ← HLL.out] at HLF
        go_wp2_with fail
        refine HLF.out.mono ?_
        rintro e w7 ⟨rfl, ls3, hl3, hs3, hc3, hf3⟩
        have HB7 := mkHid (HBW.out.trans hf3.1)
        have HL3 : Hid (ls3.length = ln.length) := mkHid (hl3.trans HL22.out)
        have HS3 : Hid (sts ls3 = (seqC xs (orderAt os) (List.replicate n newLS) zs (i + 1)).1) := mkHid (by rw [hs3, HS22.out, HSC.out])
        have HBX7 : Hid (CrBox w7 C w.heap.size (some ⟨G, 0, none⟩) c1 ls3 ⟨B1, d1, (seqC xs (orderAt os) (List.replicate n newLS) zs (i + 1)).2⟩) := mkHid ⟨by
          have h := hf3.2 C _ _ _ HBX2.out.1 (by decide) (by decide)
          rw [hl3, HSC.out]
          exact h, by rw [HSC.out]; exact hc3, HB7.out.size⟩
        clear hl3 hs3 hc3 hf3 p0 p1
        have hmod : (((r : Int) + 1).tmod (os.length : Int)) = (((i + 1) % os.length : Nat) : Int) := by
          rw [Int.tmod_eq_emod_of_nonneg (by omega), HRI.out]
          have := Nat.mod_add_mod i os.length 1
          rw [← this]
          simp
        have hne0 : ((os.length : Int) == 0) = false := by
          have : (os.length : Int) ≠ 0 := by omega
          simpa using this
        obtain ⟨r2, hr2⟩ : ∃ r2, r2 = (i + 1) % os.length := ⟨_, rfl⟩
        have HR2 := mkHid hr2
        rw [← hr2] at hmod
        clear hr2
        go_wp2_with fail
        go_roundg (N - (i + 1))
        case rel => exact ⟨i + 1, by omega, rfl, r2, by first | rfl | (congr 1), HR2.out, ls3, HS3.out, HL3.out, HBX7.out, HB7.out⟩
        case measure => omega
      | false =>
        by_cases hat : at_ < (xs.length : Int)
        · obtain ⟨pn, rfl⟩ := Int.eq_ofNat_of_zero_le hpc.1
          have hpx : pn < xs.length := by omega
          have HW : Hid (sm = doStep xs (q : Int) pn (codeAt xs pn) ⟨ys, pn, ts, false⟩ mi) := mkHid (by
            rw [HSM.out]; unfold stepS
            rw [if_pos (by unfold goesB; simp; omega)]
            simp only [Lt.st, Int.toNat_natCast])
          have hmemv := HSI.out.1.mem
          have hlin := (HBX4.out.2.1.grid').lane HQL.out
          rw [← HLQ.out] at hlin
          have hst9 := l6Step_any ⟨ra, rc, ys, pn, ta, tc, ts, false⟩ LA lc xs (q : Int) w.heap.size ⟨B1, d1, mi⟩ w4.drew HV.out (by omega) HBX4.out.2.2 hmemv ((HS.out.below HB4.out).drew) hlin HLANE.out pn rfl hpx rfl HBX4.out.2.1.mem
          simp only [← HW.out] at hst9
          have HST9 := mkHid hst9
          have HNA : Hid (w4.heap[C]? = some (.cells #[.slice (some ⟨G, 0, none⟩) ls.length c1, .slice B1 mi.length d1] 55 (0, 0))) := mkHid HBX4.out.1
          have hLl : L = ls.length := by rw [HLL.out, HL2.out]
          have HLl := mkHid hLl
          clear hmemv hlin hst9 hLl
          go_wp2_with fail
          go_region_law (first
            | (go_simp
               go_at_call 33
               refine HST9.out.mono ?_
               rintro e w5 ⟨l', rfl, hs', hap, hmo, hml, hg⟩
               have hsw := CrAt.swap (w := w4.drew) (show CrAt w4.drew w.heap.size (some ⟨G, 0, none⟩) c1 ls ⟨B1, d1, mi⟩ from HBX4.out.2.1) HQL.out HBX4.out.2.2 hap hmo hml hg
               have HSW := mkHid hsw.2
               have HS9 := mkHid hs'
               have HML9 := mkHid hml
               have hq9 := (hg.block C (Array.getElem?_eq_some_iff.1 HNA.out).1 (fun e => own_ne_heapA HBX4.out.2.1.mem HNA.out (by decide) e.symm)).trans HNA.out
               obtain ⟨p0', p1'⟩ := cr2 hq9
               rw [← HLl.out] at p0'
               obtain ⟨⟨g0', g1', g2', g3'⟩, f0', f1', f2', f3'⟩ := hsw.1.cells HQL.out
               clear hsw hs' hap hmo hml hg hq9))
          all_goals (
            obtain ⟨ls2, hls2⟩ : ∃ ls2, ls2 = ls.set q l' := ⟨_, rfl⟩
            have HL22 : Hid (ls2.length = ln.length) := mkHid (by rw [hls2, set_len]; exact HL2.out)
            have HS22 : Hid (sts ls2 = (sts ls).set q sm.1) := mkHid (by rw [hls2, sts_set, HS9.out])
            have HPL2 : Hid (Placed xs.length ls2) := mkHid (by
              rw [hls2]
              intro l9 h9
              rcases List.mem_or_eq_of_mem_set h9 with h | h
              · exact HPL.out l9 h
              · have hp := HSOK.out.1.pc
                rw [← HS9.out] at hp
                rw [h]; exact hp)
            have HBX20 := mkHid (show CrBox _ C w.heap.size (some ⟨G, 0, none⟩) c1 ls2 ⟨B1, d1, sm.2⟩ from by
              rw [hls2]
              refine ⟨?_, HSW.out.1, ?_⟩
              · rw [set_len]
                have h := HSW.out.2.2 C _ _ _ HNA.out (by decide) (by decide)
                simp only [HML9.out]
                exact h
              · have h1 := HSW.out.2.1.size
                exact Nat.le_trans HB4.out.size h1)
            have HBW0 := mkHid (HB4.out.trans (show Below w.heap.size w4 _ from HSW.out.2.undrew.1))
            clear hls2
            go_upto_region 10 with fail
            refine name_world ?_
            intro W hW
            have HBX2 : Hid (CrBox W C w.heap.size (some ⟨G, 0, none⟩) c1 ls2 ⟨B1, d1, sm.2⟩) := mkHid (by rw [hW]; exact HBX20.out)
            have HBW : Hid (Below w.heap.size w W) := mkHid (by rw [hW]; exact HBW0.out)
            clear hW p0 p1 p0' p1' g0 g1 g2 g3 f0 f1 f2 f3 g0' g1' g2' g3' f0' f1' f2' f3' hc
            have HLF := mkHid (l7Free_any LA xs.length lc w.heap.size c1 (some ⟨G, 0, none⟩) ls2 ⟨B1, d1, sm.2⟩ W (by omega) (by rw [HL22.out, ← HLL.out]; exact hln8) HPL2.out HBX2.out.2.1 HBX2.out.2.2)
            obtain ⟨p0, p1⟩ := HBX2.out.cells
            rw [HL22.out, ← HLL.out] at p0
            rw [HL22.out, ← HLL.out] at HLF
            go_wp2_with fail
            refine HLF.out.mono ?_
            rintro e w7 ⟨rfl, ls3, hl3, hs3, hc3, hf3⟩
            have HB7 := mkHid (HBW.out.trans hf3.1)
            have HL3 : Hid (ls3.length = ln.length) := mkHid (hl3.trans HL22.out)
            have HS3 : Hid (sts ls3 = (seqC xs (orderAt os) (List.replicate n newLS) zs (i + 1)).1) := mkHid (by rw [hs3, HS22.out, HSC.out])
            have HBX7 : Hid (CrBox w7 C w.heap.size (some ⟨G, 0, none⟩) c1 ls3 ⟨B1, d1, (seqC xs (orderAt os) (List.replicate n newLS) zs (i + 1)).2⟩) := mkHid ⟨by
              have h := hf3.2 C _ _ _ HBX2.out.1 (by decide) (by decide)
              rw [hl3, HSC.out]
              exact h, by rw [HSC.out]; exact hc3, HB7.out.size⟩
            clear hl3 hs3 hc3 hf3 p0 p1
            have hmod : (((r : Int) + 1).tmod (os.length : Int)) = (((i + 1) % os.length : Nat) : Int) := by
              rw [Int.tmod_eq_emod_of_nonneg (by omega), HRI.out]
              have := Nat.mod_add_mod i os.length 1
              rw [← this]
              simp
            have hne0 : ((os.length : Int) == 0) = false := by
              have : (os.length : Int) ≠ 0 := by omega
              simpa using this
            obtain ⟨r2, hr2⟩ : ∃ r2, r2 = (i + 1) % os.length := ⟨_, rfl⟩
            have HR2 := mkHid hr2
            rw [← hr2] at hmod
            clear hr2
            go_wp2_with fail
            go_roundg (N - (i + 1))
            case rel => exact ⟨i + 1, by omega, rfl, r2, by first | rfl | (congr 1), HR2.out, ls3, HS3.out, HL3.out, HBX7.out, HB7.out⟩
            case measure => omega
          )
        · have HW : Hid (sm = (⟨ys, at_, ts, false⟩, mi)) := mkHid (by
            rw [HSM.out]; unfold stepS; rw [if_neg (by unfold goesB; simp; omega)])
          obtain ⟨ls2, hls2⟩ : ∃ ls2, ls2 = ls := ⟨_, rfl⟩
          have HL22 : Hid (ls2.length = ln.length) := mkHid (by rw [hls2]; exact HL2.out)
          have HS22 : Hid (sts ls2 = (sts ls).set q sm.1) := mkHid (by
            rw [hls2, HW.out]
            refine (set_same _ _ (by simpa using HQL.out) _ ?_).symm
            simp only [sts, List.getElem_map]
            rw [← HLQ.out])
          have HPL2 : Hid (Placed xs.length ls2) := mkHid (by rw [hls2]; exact HPL.out)
          have HBX20 : Hid (CrBox w4 C w.heap.size (some ⟨G, 0, none⟩) c1 ls2 ⟨B1, d1, sm.2⟩) := mkHid (by rw [hls2, HW.out]; exact HBX4.out)
          clear hls2
          go_upto_region 10 with fail
          refine name_world ?_
          intro W hW
          have HBX2 : Hid (CrBox W C w.heap.size (some ⟨G, 0, none⟩) c1 ls2 ⟨B1, d1, sm.2⟩) := mkHid (by rw [hW]; exact HBX20.out)
          have HBW : Hid (Below w.heap.size w W) := mkHid (by rw [hW]; exact HB4.out)
          clear hW p0 p1 g0 g1 g2 g3 f0 f1 f2 f3 hc
          have HLF := mkHid (l7Free_any LA xs.length lc w.heap.size c1 (some ⟨G, 0, none⟩) ls2 ⟨B1, d1, sm.2⟩ W (by omega) (by rw [HL22.out, ← HLL.out]; exact hln8) HPL2.out HBX2.out.2.1 HBX2.out.2.2)
          obtain ⟨p0, p1⟩ := HBX2.out.cells
          rw [HL22.out, ← HLL.out] at p0
          rw [HL22.out, ← HLL.out] at HLF
          go_wp2_with fail
          refine HLF.out.mono ?_
          rintro e w7 ⟨rfl, ls3, hl3, hs3, hc3, hf3⟩
          have HB7 := mkHid (HBW.out.trans hf3.1)
          have HL3 : Hid (ls3.length = ln.length) := mkHid (hl3.trans HL22.out)
          have HS3 : Hid (sts ls3 = (seqC xs (orderAt os) (List.replicate n newLS) zs (i + 1)).1) := mkHid (by rw [hs3, HS22.out, HSC.out])
          have HBX7 : Hid (CrBox w7 C w.heap.size (some ⟨G, 0, none⟩) c1 ls3 ⟨B1, d1, (seqC xs (orderAt os) (List.replicate n newLS) zs (i + 1)).2⟩) := mkHid ⟨by
            have h := hf3.2 C _ _ _ HBX2.out.1 (by decide) (by decide)
            rw [hl3, HSC.out]
            exact h, by rw [HSC.out]; exact hc3, HB7.out.size⟩
          clear hl3 hs3 hc3 hf3 p0 p1
          have hmod : (((r : Int) + 1).tmod (os.length : Int)) = (((i + 1) % os.length : Nat) : Int) := by
            rw [Int.tmod_eq_emod_of_nonneg (by omega), HRI.out]
            have := Nat.mod_add_mod i os.length 1
            rw [← this]
            simp
          have hne0 : ((os.length : Int) == 0) = false := by
            have : (os.length : Int) ≠ 0 := by omega
            simpa using this
          obtain ⟨r2, hr2⟩ : ∃ r2, r2 = (i + 1) % os.length := ⟨_, rfl⟩
          have HR2 := mkHid hr2
          rw [← hr2] at hmod
          clear hr2
          go_wp2_with fail
          go_roundg (N - (i + 1))
          case rel => exact ⟨i + 1, by omega, rfl, r2, by first | rfl | (congr 1), HR2.out, ls3, HS3.out, HL3.out, HBX7.out, HB7.out⟩
          case measure => omega
theorem specRunOrder_any (LA : Option Addr) (lc : Nat) (xs : List Cd) (z : Int) (A : Option Addr) (c : Nat) (zs : List Int) (B : Option Addr) (d : Nat) (os out : List Int) (w : World) (hl : xs.length ≤ 1048576) (hz : zs.length ≤ 1000000000) (hol : os.length ≤ 1000000000) (hs : Sl w LA (cflat xs)) (h2 : Sl w A (ints zs)) (h3 : Sl w B (ints os)) (hr : RanTo xs z zs os out) :
    Calls Try.prog 9 #[.slice LA xs.length lc, .int .i64 z, .slice A zs.length c, .slice B os.length d] w (RetInts out w) := by
  rcases hr with ⟨h1, rfl⟩ | ⟨h1, n, rfl, ho, N, hN, rfl⟩
  · exact specRunOrder_no LA lc xs z A c zs B d os w hl hz hol hs h2 h3 h1
  · exact specRunOrder_yes LA lc xs n A c zs B d os N w hl hz hol hs h2 h3 h1 ho hN
end Go.Proofs.Ythpabcgnijfiaaa
