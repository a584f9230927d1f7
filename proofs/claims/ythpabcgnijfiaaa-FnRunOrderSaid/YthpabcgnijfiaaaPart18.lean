/-
  Parts of a proof: CRunO.
-/
import Derived.Test.YthpabcgnijfiaaaPart14
import Derived.Test.YthpabcgnijfiaaaPart17
namespace Go.Proofs.Ythpabcgnijfiaaa
open Go.RowKit
set_option maxHeartbeats 2000000
set_option maxRecDepth 100000
set_option linter.unusedVariables false

theorem isOverClosure_any (l : Lt) (pb M lo lc O : Nat) (LA : Option Addr) (xs : List Cd) (P : Nat → Nat) (w : World) (hM : MachAt w lo M LA lc xs O P) (hlo : lo ≤ w.heap.size) (hp : w.cell? ⟨pb, 0, none⟩ = some (.pointer (some ⟨M, 0, none⟩))) :
    Calls Try.prog 81 #[ltV l, .pointer (some ⟨pb, 0, none⟩)] w fun e w' => e = .returned (.bool (!(l.at_ == (xs.length : Int)))) ∧ Below w.heap.size w w' := by
  have hal : Below w.heap.size w (w.alloc (.cells #[.slice l.ra l.zs.length l.rc, .int .i64 l.at_, .slice l.ta l.ts.length l.tc, .bool l.wt] 31)) := (Below.refl _ _).alloc (Nat.le_refl _) _
  have hq : (w.alloc (.cells #[.slice l.ra l.zs.length l.rc, .int .i64 l.at_, .slice l.ta l.ts.length l.tc, .bool l.wt] 31)).heap[w.heap.size]? = some (.cells #[.slice l.ra l.zs.length l.rc, .int .i64 l.at_, .slice l.ta l.ts.length l.tc, .bool l.wt] 31 (0, 0)) := heap_alloc_new w _
  have HD := mkHid (isDone_any M lo lc O LA xs P w.heap.size 0 l.at_ _ (hM.frm (Frm.below hal hlo)) (cell_of_row _ _ _ _ _ _ hq))
  have HB := mkHid hal
  have hp' := (hal.cell (World.block_lt_of_cell? w _ hp)).trans hp
  obtain ⟨v, hv⟩ : ∃ v, v = (l.at_ == (xs.length : Int)) := ⟨_, rfl⟩
  rw [← hv] at HD ⊢
  clear hM hal hq hp hv
  go_enter Try.func81, Try.ntmps81
  go_wp2_with fail
  refine HD.out.mono ?_
  rintro e w2 ⟨rfl, n, rfl⟩
  go_wp2_with fail
  go_ret
  exact ⟨rfl, below_drewN HB.out n⟩
theorem isOver_any (M lc O : Nat) (LA : Option Addr) (xs : List Cd) (P : Nat → Nat) (C base c : Nat) (A : Option Addr) (ls : List Lt) (m : IR) (w : World) (hl : ls.length ≤ 8) (hM : MachAt w base M LA lc xs O P) (hB : CrBox w C base A c ls m) :
    Calls Try.prog 57 #[.pointer (some ⟨M, 0, none⟩), .pointer (some ⟨C, 0, none⟩)] w fun e w' => e = .returned (.bool (overB xs.length (sts ls))) ∧ Below w.heap.size w w' := by
  obtain ⟨o1, ho1⟩ : ∃ o1, o1 = Obj.cells #[.pointer (some ⟨M, 0, none⟩)] 62 := ⟨_, rfl⟩
  have hal : Below w.heap.size w (w.alloc o1) := (Below.refl _ _).alloc (Nat.le_refl _) _
  have hq : (w.alloc o1).heap[w.heap.size]? = some o1 := heap_alloc_new w _
  have hg := (hB.2.1.below hal).grid'
  have hM1 := hM.frm (Frm.below hal hB.2.2)
  have HC := mkHid (fun X (hX : Below (w.alloc o1).heap.size (w.alloc o1) X) => containsFuncL_any A c ls (.func (.func 81) #[] #[.pointer (some ⟨w.heap.size, 0, none⟩)]) (fun s => !(s.pc == (xs.length : Int))) X (by omega) (hg.below hX).1 ⟨81, #[.pointer (some ⟨w.heap.size, 0, none⟩)], rfl, fun args w => by kernel_rfl, fun l hl' Y hY => isOverClosure_any l w.heap.size M base lc O LA xs P Y (hM1.frm (Frm.below (below_then hX hY) (Nat.le_trans hB.2.2 hal.size))) (Nat.le_trans hB.2.2 (Nat.le_trans hal.size (Nat.le_trans hX.size hY.size))) (by
    have h1 := ((below_then hX hY).block w.heap.size (by simp)).trans hq
    rw [ho1] at h1
    exact cell_of_row _ _ _ _ _ _ h1)⟩)
  have HOV : Hid ((sts ls).any (fun s => !(s.pc == (xs.length : Int))) = !overB xs.length (sts ls)) := mkHid (any_not_allL _ _)
  rw [HOV.out] at HC
  obtain ⟨v, hv⟩ : ∃ v, v = overB xs.length (sts ls) := ⟨_, rfl⟩
  rw [← hv] at HC ⊢
  obtain ⟨p0, p1⟩ := (hB.below hal).cells
  have HB := mkHid hal
  subst ho1
  clear hM hB hal hq hg hM1 hv HOV
  go_enter Try.func57, Try.ntmps57
  go_wp2_with fail
  refine (HC.out _ (Below.refl _ _)).mono ?_
  rintro e w2 ⟨rfl, b2⟩
  have HB2 := mkHid (HB.out.trans (b2.mono HB.out.size))
  clear b2 p0 p1
  go_wp2_with fail
  go_ret
  exact ⟨ret_bool (by simp), HB2.out⟩
theorem runOrder_any (n : Nat) (A : Option Addr) (c : Nat) (zs : List Int) (LA : Option Addr) (lc : Nat) (xs : List Cd) (B : Option Addr) (d : Nat) (os : List Int) (N : Nat) (w : World) (hv : progValid xs = true) (hmv : memValid zs = true) (ho : OrdOk os n) (hN : Runs xs (orderAt os) n zs N) (hs : Sl w LA (cflat xs)) (hz : Sl w A (ints zs)) (hos : Sl w B (ints os)) :
    Calls Try.prog 27 #[.slice LA xs.length lc, .int .i64 n, .slice A zs.length c, .slice B os.length d] w (RetInts (seqC xs (orderAt os) (List.replicate n newLS) zs N).2 w) := by
  have h40 := (progValid_yes hv).1
  have hz32 := (memValid_parts.1 hmv).1
  have HNC := mkHid (newCrowd_any n A c zs w ho.n8.2 (by omega) hz)
  have HS := mkHid hs
  have HOS := mkHid hos
  have HLO : Hid (∀ ad, LA = some ad → xs ≠ [] → ad.block < w.heap.size) := mkHid (fun ad e hne => by
    subst e
    rcases hs with h | ⟨b, off, h1, h2⟩
    · exfalso
      have h1 := congrArg List.length h
      rw [cflat_length] at h1
      have h2 := List.length_pos_iff.2 hne
      simp only [List.length_nil] at h1
      omega
    · injection h1 with h1
      subst h1
      have hlt : 0 < (cflat xs).length := by rw [cflat_length]; have := List.length_pos_iff.2 hne; omega
      have := World.block_lt_of_cell? _ _ (h2 0 _ (List.getElem?_eq_getElem hlt))
      exact this)
  have HV := mkHid hv
  have HMV := mkHid hmv
  have HO := mkHid ho
  have HN := mkHid hN
  have hN6 := hN.le
  have hl40 := ho.len
  have hn8 := ho.n8
  have HSQ := mkHid (fun i => seqC_ok (f := orderAt os) (newCrowd_ok hv hmv ho.n8) (by simpa using ho.lt) i)
  clear hs hz hos hv hmv ho hN
  go_enter Try.func27, Try.ntmps27
  go_wp2_with fail
  refine HNC.out.mono ?_
  rintro e w1 ⟨A1, c1, ln, B1, d1, rfl, hln, hfr, hcr, hb1⟩
  have HCR := mkHid hcr.cr
  have HST := mkHid (fresh_sts hln hfr)
  have HB1 := mkHid hb1
  have hln8 : ln.length ≤ 8 := by omega
  have HLN := mkHid hln
  clear hcr hfr hb1 hln
  obtain ⟨o1, ho1⟩ : ∃ o1, o1 = Obj.cells #[.slice A1 ln.length c1, .slice B1 zs.length d1] 55 := ⟨_, rfl⟩
  have hal : Below w1.heap.size w1 (w1.alloc o1) := (Below.refl _ _).alloc (Nat.le_refl _) _
  have HB2 := mkHid (below_then HB1.out hal)
  have HBX : Hid (CrBox (w1.alloc o1) w1.heap.size w.heap.size A1 c1 (ln.map ltOf) ⟨B1, d1, zs⟩) := mkHid ⟨by
    rw [List.length_map]
    have := heap_alloc_new w1 o1
    rw [this, ho1], HCR.out.below hal, HB2.out.size⟩
  have HNM := mkHid (newMachine_any LA lc xs w.heap.size (w1.alloc o1) HV.out (HS.out.below HB2.out) HLO.out)
  subst ho1
  clear hal
  go_wp2_with fail
  refine HNM.out.mono ?_
  rintro e w3 ⟨M, O, P, rfl, hM, b3⟩
  have HM := mkHid hM
  have HBX3 := mkHid (HBX.out.below b3)
  have HB3 := mkHid (below_then HB2.out b3)
  clear hM b3
  generalize w1.heap.size = C at *
  clear HBX HNM HCR HB2 HB1
  go_wp2_with fail
  go_loopw [11] (fun iv wr => ∃ i : Nat, i ≤ N ∧ iv = .int .i64 i ∧ ∃ ls : List Lt, sts ls = (seqC xs (orderAt os) (List.replicate n newLS) zs i).1 ∧ ls.length = ln.length ∧ CrBox wr C w.heap.size A1 c1 ls ⟨B1, d1, (seqC xs (orderAt os) (List.replicate n newLS) zs i).2⟩ ∧ MachAt wr w.heap.size M LA lc xs O P ∧ Below w.heap.size w wr) (fun iv _ => N - (intOf iv).toNat)
  case atStart => exact ⟨0, by omega, rfl, ln.map ltOf, HST.out, by simp, HBX3.out, HM.out, HB3.out⟩
  case round =>
    clear HM HBX3 HB3 w3
    obtain ⟨i, hi, rfl, ls, hst, hll, hbx, hM, hb⟩ := hrel
    have HBX := mkHid hbx
    have HM := mkHid hM
    have HB := mkHid hb
    have HST2 := mkHid hst
    have HLL := mkHid hll
    have HOV := mkHid (isOver_any M lc O LA xs P C w.heap.size c1 A1 ls _ wr (by omega) hM hbx)
    have HSI := mkHid (HSQ.out i)
    rw [hst] at HOV
    obtain ⟨v, hv⟩ : ∃ v, v = overB xs.length (seqC xs (orderAt os) (List.replicate n newLS) zs i).1 := ⟨_, rfl⟩
    have HVV := mkHid hv
    rw [← hv] at HOV
    have HMI : Hid (∀ z, (seqC xs (orderAt os) (List.replicate n newLS) zs i).2 = z → z.length = zs.length) := mkHid (fun z e => by rw [← e]; exact HSI.out.2.2)
    clear hbx hM hb hst hv hll
    cases v with
    | true =>
      have hie : i = N := by
        rcases Nat.lt_or_ge i N with h | h
        · have := HN.out.before i h
          rw [← HVV.out] at this
          cases this
        · omega
      subst hie
      go_wp2_with fail
      refine HOV.out.mono ?_
      rintro e w4 ⟨rfl, b4⟩
      have HBX4 := mkHid (HBX.out.below b4)
      have HB4 := mkHid (HB.out.trans (b4.mono HB.out.size))
      obtain ⟨p0, p1⟩ := HBX4.out.cells
      clear b4
      go_wp2_with fail
      go_ret
      exact ⟨B1, d1, rfl, HBX4.out.2.1.mem, HB4.out⟩
    | false =>
      have hin : i < N := by
        rcases Nat.lt_or_ge i N with h | h
        · exact h
        · have e : i = N := by omega
          have := HN.out.over
          rw [← e, ← HVV.out] at this
          cases this
      have HOL := mkHid (HO.out.at_ i)
      have hlt := HO.out.lt i
      have hil := Nat.mod_lt i (show 0 < os.length by omega)
      go_wp2_with fail
      refine HOV.out.mono ?_
      rintro e w4 ⟨rfl, b4⟩
      have HBX4 := mkHid (HBX.out.below b4)
      have HM4 := mkHid (HM.out.frm (Frm.below b4 HBX.out.2.2))
      have HB4 := mkHid (HB.out.trans (b4.mono HB.out.size))
      obtain ⟨b, off, hB, hc⟩ := (HOS.out.below HB4.out).at_ (k := i % os.length) (by simpa using hil)
      have hc := hc _ _ (ints_at hil)
      have he : os[i % os.length] = (orderAt os i : Int) := by
        have := HOL.out
        rw [List.getD, List.getElem?_eq_getElem hil] at this
        exact this
      rw [he] at hc
      subst hB
      have hmod : ((i : Int).tmod (os.length : Int)) = ((i % os.length : Nat) : Int) := by
        rw [Int.tmod_eq_emod_of_nonneg (by omega)]; rfl
      have hne0 : ((os.length : Int) == 0) = false := by
        have : (os.length : Int) ≠ 0 := by omega
        simpa using this
      have HSO := mkHid (stepOf_any M lc O LA xs P C w.heap.size c1 (orderAt os i) A1 ls _ w4 (by rw [HLL.out, HLN.out]; exact hlt) (by rw [HST2.out]; exact HSI.out.1) HM4.out HBX4.out)
      have HSN : Hid (seqC xs (orderAt os) (List.replicate n newLS) zs (i + 1) = stepC xs (orderAt os i) (seqC xs (orderAt os) (List.replicate n newLS) zs i).1 (seqC xs (orderAt os) (List.replicate n newLS) zs i).2) := mkHid rfl
      rw [HST2.out, ← HSN.out] at HSO
      clear b4 he hlt
      generalize orderAt os i = q at *
      generalize hr : i % os.length = r at *
      have hr0 : (0 : Int) ≤ (r : Int) := by omega
      have hrl : (r : Int) < (os.length : Int) := by omega
      clear hr hil
      go_wp2_with fail
      refine HSO.out.mono ?_
      rintro e w5 ⟨rfl, ls', hl', hm', hs', hbx', hf'⟩
      have HBX5 := mkHid hbx'
      have HM5 := mkHid (HM4.out.frm hf')
      have HB5 := mkHid (HB4.out.trans hf'.1)
      have HS5 := mkHid hs'
      have HL5 := mkHid (hl'.trans HLL.out)
      clear hl' hm' hs' hbx' hf' hc
      go_wp2_with fail
      go_roundw
      case rel => exact ⟨i + 1, by omega, by go_num, ls', HS5.out, HL5.out, HBX5.out, HM5.out, HB5.out⟩
      case measure => simp [intOf] <;> omega
theorem canRun_any (LA : Option Addr) (lc : Nat) (xs : List Cd) (z : Int) (A : Option Addr) (c : Nat) (zs : List Int) (w : World) (hl : xs.length ≤ 1048576) (hz : zs.length ≤ 1000000000) (hs : Sl w LA (cflat xs)) (h2 : Sl w A (ints zs)) :
    Calls Try.prog 25 #[.slice LA xs.length lc, .int .i64 z, .slice A zs.length c] w fun e w' => e = .returned (.bool (progValid xs && inB z 1 8 && memValid zs)) ∧ Below w.heap.size w w' := by
  have HP := mkHid (implProgramValid_any LA lc xs w hl hs)
  have HI := mkHid (fun X => isLanes_any z X)
  have HM := mkHid (fun X (hX : Below w.heap.size w X) => implMemoryValid_any A c zs X hz (h2.below hX))
  obtain ⟨v1, hv1⟩ : ∃ v, v = progValid xs := ⟨_, rfl⟩
  obtain ⟨v2, hv2⟩ : ∃ v, v = inB z 1 8 := ⟨_, rfl⟩
  obtain ⟨v3, hv3⟩ : ∃ v, v = memValid zs := ⟨_, rfl⟩
  rw [← hv1] at HP ⊢
  rw [← hv2] at HI ⊢
  rw [← hv3] at HM ⊢
  clear hv1 hv2 hv3 hs h2
  cases v1 with
  | false =>
    go_enter Try.func25, Try.ntmps25
    go_wp2_with fail
    refine HP.out.mono ?_
    rintro e w2 ⟨rfl, b2⟩
    have B2 := mkHid b2
    clear b2
    go_wp2_with fail
    go_ret
    exact ⟨rfl, B2.out⟩
  | true =>
    cases v2 with
    | false =>
      go_enter Try.func25, Try.ntmps25
      go_wp2_with fail
      refine HP.out.mono ?_
      rintro e w2 ⟨rfl, b2⟩
      have B2 := mkHid b2
      clear b2
      go_wp2_with fail
      refine (HI.out _).mono ?_
      rintro e w3 ⟨rfl, rfl⟩
      go_wp2_with fail
      go_ret
      exact ⟨rfl, B2.out⟩
    | true =>
      go_enter Try.func25, Try.ntmps25
      go_wp2_with fail
      refine HP.out.mono ?_
      rintro e w2 ⟨rfl, b2⟩
      have B2 := mkHid b2
      clear b2
      go_wp2_with fail
      refine (HI.out _).mono ?_
      rintro e w3 ⟨rfl, rfl⟩
      go_wp2_with fail
      refine (HM.out _ B2.out).mono ?_
      rintro e w3 ⟨rfl, b3⟩
      have B3 := mkHid (below_then B2.out b3)
      clear b3
      go_wp2_with fail
      go_ret
      exact ⟨ret_bool (by simp), B3.out⟩
theorem implRunOrder_any (LA : Option Addr) (lc : Nat) (xs : List Cd) (z : Int) (A : Option Addr) (c : Nat) (zs : List Int) (B : Option Addr) (d : Nat) (os out : List Int) (w : World) (hl : xs.length ≤ 1048576) (hz : zs.length ≤ 1000000000) (hol : os.length ≤ 1000000000) (hs : Sl w LA (cflat xs)) (h2 : Sl w A (ints zs)) (h3 : Sl w B (ints os)) (hr : RanTo xs z zs os out) :
    Calls Try.prog 7 #[.slice LA xs.length lc, .int .i64 z, .slice A zs.length c, .slice B os.length d] w (RetInts out w) := by
  have HC := mkHid (canRun_any LA lc xs z A c zs w hl hz hs h2)
  have HO := mkHid (fun X (hX : Below w.heap.size w X) => implOrderValid_any B d os z X hol (h3.below hX))
  have HR := mkHid hr
  have HS := mkHid hs
  have H2 := mkHid h2
  have H3 := mkHid h3
  have HNO : Hid (ranB xs z zs os = false → out = []) := mkHid (fun h => by
    rcases hr with ⟨_, h1⟩ | ⟨h1, _⟩
    · exact h1
    · rw [h] at h1; cases h1)
  have HEQ : Hid (ranB xs z zs os = ((progValid xs && inB z 1 8 && memValid zs) && orderValid os z)) := mkHid (by
    unfold ranB orderValid
    cases progValid xs <;> cases inB z 1 8 <;> cases memValid zs <;> simp)
  obtain ⟨v1, hv1⟩ : ∃ v, v = (progValid xs && inB z 1 8 && memValid zs) := ⟨_, rfl⟩
  obtain ⟨v2, hv2⟩ : ∃ v, v = orderValid os z := ⟨_, rfl⟩
  have HV1 := mkHid hv1
  rw [← hv1] at HC HEQ
  rw [← hv2] at HO HEQ
  clear hv1 hv2 hs h2 h3 hr
  cases v1 with
  | false =>
    go_enter Try.func7, Try.ntmps7
    go_wp2_with fail
    refine HC.out.mono ?_
    rintro e w2 ⟨rfl, b2⟩
    have B2 := mkHid b2
    clear b2
    go_wp2_with fail
    go_ret
    obtain rfl := HNO.out (by rw [HEQ.out]; rfl)
    exact ⟨none, 0, rfl, World.ownsRow_nil _ _ _ _, B2.out⟩
  | true =>
    cases v2 with
    | false =>
      go_enter Try.func7, Try.ntmps7
      go_wp2_with fail
      refine HC.out.mono ?_
      rintro e w2 ⟨rfl, b2⟩
      have B2 := mkHid b2
      clear b2
      go_wp2_with fail
      refine (HO.out _ B2.out).mono ?_
      rintro e w3 ⟨rfl, b3⟩
      have B3 := mkHid (below_then B2.out b3)
      clear b3
      go_wp2_with fail
      go_ret
      obtain rfl := HNO.out (by rw [HEQ.out]; rfl)
      exact ⟨none, 0, rfl, World.ownsRow_nil _ _ _ _, B3.out⟩
    | true =>
      have hv := HV1.out.symm
      simp only [Bool.and_eq_true] at hv
      obtain ⟨n, N, rfl, ho, hN, rfl⟩ : ∃ n N : Nat, z = (n : Int) ∧ OrdOk os n ∧ Runs xs (orderAt os) n zs N ∧ out = (seqC xs (orderAt os) (List.replicate n newLS) zs N).2 := by
        rcases HR.out with ⟨h1, _⟩ | ⟨_, n, e, ho, N, hN, h⟩
        · rw [HEQ.out] at h1; cases h1
        · exact ⟨n, N, e, ho, hN, h⟩
      have HRO := mkHid (fun X (hX : Below w.heap.size w X) => runOrder_any n A c zs LA lc xs B d os N X hv.1.1 hv.2 ho hN (HS.out.below hX) (H2.out.below hX) (H3.out.below hX))
      generalize (seqC xs (orderAt os) (List.replicate n newLS) zs N).2 = out at *
      clear hv ho hN HR HNO HEQ
      go_enter Try.func7, Try.ntmps7
      go_wp2_with fail
      refine HC.out.mono ?_
      rintro e w2 ⟨rfl, b2⟩
      have B2 := mkHid b2
      clear b2
      go_wp2_with fail
      refine (HO.out _ B2.out).mono ?_
      rintro e w3 ⟨rfl, b3⟩
      have B3 := mkHid (below_then B2.out b3)
      clear b3
      go_wp2_with fail
      refine (HRO.out _ B3.out).mono ?_
      rintro e w4 ⟨A4, c4, rfl, o4, b4⟩
      have O4 := mkHid o4
      have B4 := mkHid b4
      clear o4 b4
      go_wp2_with fail
      go_ret
      exact ⟨A4, c4, rfl, own_base O4.out B3.out.size, below_then B3.out B4.out⟩
end Go.Proofs.Ythpabcgnijfiaaa
