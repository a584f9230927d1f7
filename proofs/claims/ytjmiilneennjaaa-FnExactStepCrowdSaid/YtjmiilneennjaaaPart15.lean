/-
  Parts of a proof: CStep.
-/
import Derived.Test.YtjmiilneennjaaaPart14
namespace Go.Proofs.Ytjmiilneennjaaa
open Go.RowKit
set_option maxHeartbeats 2000000
set_option maxRecDepth 100000
set_option linter.unusedVariables false

section
variable {w W : World} {base c G k : Nat} {ls : List Lt} {m : IR} {l : Lt}
theorem LanePost.from_ {s' : LS} {mem' : List Int} {e : Ending} {w' : World} (hf : Frm base w W) (h : LanePost base G c ls m k s' mem' W e w') : LanePost base G c ls m k s' mem' w e w' := by
  obtain ⟨h1, l', h2, h3, h4⟩ := h
  exact ⟨h1, l', h2, h3, hf.trans h4⟩
theorem LanePost.same (hC : CrAt w base (some ⟨G, 0, none⟩) c ls m) (hk : k < ls.length) (hll : ls[k] = l) (hf : Frm base w W) (hC2 : CrAt W base (some ⟨G, 0, none⟩) c ls m) : LanePost base G c ls m k l.st m.zs w (.returned (.tuple #[])) W := by
  subst hll
  refine ⟨rfl, ls[k], rfl, ?_, hf⟩
  rw [List.set_getElem_self]
  exact hC2
/-- what a computing instruction makes of a crowd. -/
theorem CrAt.comp {R B : Nat} {x : Cd} {id : Int} {e : Ending} {w' : World} (hC : CrAt w base (some ⟨G, 0, none⟩) c ls m) (hk : k < ls.length) (hll : ls[k] = l) (hb : base ≤ w.heap.size) (hR : l.ra = some ⟨R, 0, none⟩) (h4 : l.zs.length = 4) (hB : m.a = some ⟨B, 0, none⟩)
    (hl : (comp x id l.zs m.zs).1.length = 4) (hm : (comp x id l.zs m.zs).2.length = m.zs.length) (h : CompRet base R l.rc B m.c l.zs m.zs x id w e w') :
    CrAt w' base (some ⟨G, 0, none⟩) c (ls.set k ⟨l.ra, l.rc, (comp x id l.zs m.zs).1, l.at_, l.ta, l.tc, l.ts, l.wt⟩) ⟨m.a, m.c, (comp x id l.zs m.zs).2⟩ ∧ Frm base w w' := by
  subst hll
  obtain ⟨_, o1, o2, h3⟩ := h
  have hblk : (ltR ls[k]).ownBlock = some R := by rw [ltR, hR]; rfl
  have hblkM : (irV m).ownBlock = some B := by rw [irV, hB]; rfl
  rcases h3 with ⟨e2, g⟩ | ⟨e1, g⟩
  · rw [e2]
    have hg : w.grownBy w' (ltR ls[k]).ownBlock := by rw [hblk]; exact g
    refine ⟨hC.regs hk (by rw [hl, h4]) hg ?_, Frm.rowOf hg hb (hC.r hk) (Nat.le_refl _) (.inl rfl)⟩
    rw [ltR, hR, h4]
    exact o1
  · have hg : w.grownBy w' (irV m).ownBlock := by rw [hblkM]; exact g
    have hs : ls.set k ⟨ls[k].ra, ls[k].rc, (Go.Proofs.Ytjmiilneennjaaa.comp x id ls[k].zs m.zs).1, ls[k].at_, ls[k].ta, ls[k].tc, ls[k].ts, ls[k].wt⟩ = ls := by
      rw [e1]; exact List.set_getElem_self hk
    rw [hs]
    refine ⟨hC.setMem ⟨m.a, m.c, (Go.Proofs.Ytjmiilneennjaaa.comp x id ls[k].zs m.zs).2⟩ hg ?_ ?_, Frm.rowOf hg hb hC.mem (Nat.le_refl _) (.inl rfl)⟩
    · show World.ownsRow w' base 3 1 (.slice m.a (Go.Proofs.Ytjmiilneennjaaa.comp x id ls[k].zs m.zs).2.length m.c) (Go.Proofs.Ytjmiilneennjaaa.comp x id ls[k].zs m.zs).2.length (ints (Go.Proofs.Ytjmiilneennjaaa.comp x id ls[k].zs m.zs).2)
      rw [hm, hB]
      exact o2
    · simp only [irV, hm]
end
theorem doStep_mem {xs : List Cd} {id : Int} {p : Nat} {x : Cd} {s : LS} {mem : List Int} (h : x.op = 11 ∨ x.op = 12 ∨ x.op = 13 ∨ x.op = 14) : (doStep xs id p x s mem).2 = mem := by
  unfold doStep
  by_cases h11 : x.op = 11
  · rw [if_pos h11]
  rw [if_neg h11]
  by_cases h12 : x.op = 12
  · rw [if_pos h12]
  rw [if_neg h12]
  by_cases h13 : x.op = 13
  · rw [if_pos h13]
  rw [if_neg h13, if_pos (by omega)]
theorem doStep_comp {xs : List Cd} {id : Int} {p : Nat} {x : Cd} {s : LS} {mem : List Int} (h : x.op ≤ 10) : doStep xs id p x s mem = (⟨(comp x id s.regs mem).1, (p : Int) + 1, s.turns, x.op == 10⟩, (comp x id s.regs mem).2) := by
  unfold doStep
  rw [if_neg (by omega), if_neg (by omega), if_neg (by omega), if_neg (by omega)]
theorem step_any (M lc O : Nat) (LA : Option Addr) (xs : List Cd) (P : Nat → Nat) (base G c k : Nat) (ls : List Lt) (m : IR) (w : World) (hk : k < ls.length) (id : Int) (l : Lt) (hll : ls[k] = l) (hv : progValid xs = true) (hb : base ≤ w.heap.size) (hid : 0 ≤ id ∧ id ≤ 7) (hmv : memValid m.zs = true)
    (hM : MachAt w base M LA lc xs O P) (hC : CrAt w base (some ⟨G, 0, none⟩) c ls m) (hok : LaneOk xs l.st) :
    Calls Try.prog 72 #[.pointer (some ⟨M, 0, none⟩), .pointer (some ⟨G, k * 4, none⟩), .int .i64 id, .slice m.a m.zs.length m.c] w (LanePost base G c ls m k (stepS xs id l.st m.zs).1 (stepS xs id l.st m.zs).2 w) := by
  obtain ⟨B, hB⟩ : ∃ B, m.a = some ⟨B, 0, none⟩ := by
    have hmo : w.ownsRow base 3 1 (.slice m.a m.zs.length m.c) m.zs.length (ints m.zs) := hC.mem
    obtain ⟨B, hB, _⟩ := own_open hmo (i := 0) (by have := (memValid_parts.1 hmv).1; simp [ints]; omega)
    exact ⟨B, hB⟩
  obtain ⟨ma, mc, mz⟩ := m
  simp only at hB hmv ⊢
  subst hB
  obtain ⟨R, g0, g1, g2, g3, f0, f1, f2, f3, hR, hRb, hRl, hRo, hRc, hT⟩ := hC.lane hk (by rw [hll]; exact hok.regs) hll
  have HD := mkHid (isDone_any M base lc O LA xs P G (k * 4) l.at_ w hM g1)
  have HM := mkHid hM
  have HC := mkHid hC
  have HLL := mkHid hll
  have HOK := mkHid hok
  obtain ⟨wt, hwt⟩ : ∃ wt, wt = l.wt := ⟨_, rfl⟩
  have HWT := mkHid hwt
  rw [← hwt] at g3
  clear g0 g1 g2 f0 f1 f2 f3 hR hRb hRl hRo hRc hT hM hC hll hwt
  cases wt with
  | true =>
    have HS := mkHid (show stepS xs id l.st mz = (l.st, mz) from by unfold stepS; rw [if_neg (by unfold goesB; rw [show l.st.wait = true from HWT.out.symm]; simp)])
    rw [HS.out]
    clear hok
    go_enter Try.func72, Try.ntmps72
    go_wp2_with fail
    refine bodyPost_ret (results_none rfl _ _ _) rfl ?_
    exact LanePost.same HC.out hk HLL.out (Frm.refl _ _) HC.out
  | false =>
    by_cases hdn : l.at_ = xs.length
    · have HS := mkHid (show stepS xs id l.st mz = (l.st, mz) from by unfold stepS; rw [if_neg (by unfold goesB; rw [show l.st.pc = (xs.length : Int) from hdn]; simp)])
      rw [HS.out]
      have hbt : (l.at_ == (xs.length : Int)) = true := by simpa using hdn
      rw [hbt] at HD
      clear hok hdn hbt
      go_enter Try.func72, Try.ntmps72
      go_wp2_with fail
      refine HD.out.mono ?_
      rintro e w' ⟨rfl, n, rfl⟩
      go_wp2_with fail
      refine bodyPost_ret (results_none rfl _ _ _) rfl ?_
      exact LanePost.same HC.out hk HLL.out ((Frm.refl _ _).drewN _) (HC.out.drewN _)
    · have hpc := hok.pc
      simp only at hpc
      obtain ⟨p, hp⟩ : ∃ p : Nat, l.at_ = p := Int.eq_ofNat_of_zero_le hpc.1
      have hpl : p < xs.length := by omega
      have HS := mkHid (show stepS xs id l.st mz = doStep xs id p (codeAt xs p) l.st mz from by
        unfold stepS
        rw [if_pos (by unfold goesB; rw [show l.st.wait = false from HWT.out.symm]; simp; exact hdn)]
        rw [show l.st.pc.toNat = p from by show l.at_.toNat = p; omega])
      rw [HS.out]
      have hbt : (l.at_ == (xs.length : Int)) = false := by simpa using hdn
      rw [hbt] at HD
      have HPC := mkHid hp
      have HPL := mkHid hpl
      have HAP := mkHid (show AtPlace xs l p (codeAt xs p) from ⟨hpl, hp, rfl, hok⟩)
      have h40 := (progValid_yes hv).1
      have hp0 : (0 : Int) ≤ (p : Int) := by omega
      have hpn : (p : Int) < (xs.length : Int) := by omega
      have HCV := mkHid (codeAt_valid hv hpl)
      obtain ⟨x, hx⟩ : ∃ x, x = codeAt xs p := ⟨_, rfl⟩
      have HX := mkHid hx
      rw [← hx] at HCV HAP ⊢
      obtain ⟨op, a, xb, xc⟩ := x
      clear hok hdn hbt hpc hp hpl HS hx
      go_enter Try.func72, Try.ntmps72
      go_wp2_with fail
      refine HD.out.mono ?_
      rintro e w' ⟨rfl, nq, rfl⟩
      have HM1 := mkHid (HM.out.frm ((Frm.refl base w).drewN nq))
      have HC1 := mkHid (HC.out.drewN nq)
      have HF1 := mkHid ((Frm.refl base w).drewN nq)
      have hb1 : base ≤ (w.drewN nq).heap.size := hb
      generalize w.drewN nq = W at *
      obtain ⟨R, g0, g1, g2, g3', f0, f1, f2, f3, hR, hRb, hRl, hRo, hRc, hT⟩ := HC1.out.lane hk (by rw [HLL.out]; exact HOK.out.regs) HLL.out
      obtain ⟨lb, lo, hLA, c0, c1, c2, c3⟩ := HM1.out.code HPL.out
      obtain ⟨m0, m1⟩ := HM1.out.m2
      rw [HPC.out] at g1
      rw [hLA] at m0
      have HLA := mkHid hLA
      rw [← HX.out] at c0 c1 c2 c3
      simp only at c0 c1 c2 c3
      generalize hn : xs.length = n at *
      have HNN := mkHid hn
      clear hn hLA g0 g2 g3 g3' f0 f1 f2 f3 hR hRb hRl hRo hRc hT HD HM HC
      go_wp2_with fail
      go_region_held3 (fun w' => w'.cell? ⟨M, 0, none⟩ = some (.slice (some ⟨lb, lo, none⟩) n lc) ∧ w'.cell? ⟨G, k * 4 + 1, none⟩ = some (.int .i64 p) ∧ w'.cell? ⟨lb, lo + p * 4, none⟩ = some (.int .i64 op) ∧ w'.cell? ⟨lb, lo + p * 4 + 1, none⟩ = some (.int .i64 a) ∧ w'.cell? ⟨lb, lo + p * 4 + 2, none⟩ = some (.int .i64 xb) ∧ w'.cell? ⟨lb, lo + p * 4 + 3, none⟩ = some (.int .i64 xc)) (go_keep) (first | fail)
      have hal : Below W.heap.size W (W.alloc (.cells #[.int .i64 op, .int .i64 a, .int .i64 xb, .int .i64 xc] 69)).drew := below_new1 _ _
      have hFA : Frm base W (W.alloc (.cells #[.int .i64 op, .int .i64 a, .int .i64 xb, .int .i64 xc] 69)).drew := Frm.below hal hb1
      have HFA := mkHid hFA
      have HM2 := mkHid (HM1.out.frm hFA)
      have HC2 := mkHid (HC1.out.below hal)
      have hb2 : base ≤ (W.alloc (.cells #[.int .i64 op, .int .i64 a, .int .i64 xb, .int .i64 xc] 69)).drew.heap.size := Nat.le_trans hb1 hal.size
      have HF2 := mkHid (HF1.out.trans hFA)
      clear hal hFA m0 m1 c0 c1 c2 c3 g1
      have hop := (valid_nums HCV.out).2.2.2.2.2
      simp only at hop
      by_cases h1113 : op = 11 ∨ op = 13
      · have HMEM := mkHid (doStep_mem (xs := xs) (id := id) (p := p) (x := ⟨op, a, xb, xc⟩) (s := l.st) (mem := mz) (by simp only; omega))
        have HEN := mkHid (enter_any M lc O LA xs P base G c k ls ⟨some ⟨B, 0, none⟩, mc, mz⟩ _ hk p ⟨op, a, xb, xc⟩ id mz l HLL.out hv hb2 HM2.out HC2.out HAP.out h1113)
        rcases h1113 with rfl | rfl
        all_goals (
          clear hop
          go_wp2_with fail
          refine HEN.out.mono ?_
          rintro e w3 ⟨rfl, l', h2, h3, h4⟩
          have H2 := mkHid h2
          have H3 := mkHid h3
          have H4 := mkHid h4
          clear h2 h3 h4
          go_wp2_with fail
          go_end0
          rw [HMEM.out]
          exact ⟨rfl, l', H2.out, H3.out, HF2.out.trans H4.out⟩)
      · by_cases h12 : op = 12
        · subst h12
          have hpl : p < xs.length := by rw [HNN.out]; exact HPL.out
          obtain ⟨b, t1, t2, t3, t4, t5⟩ := top_is hv hpl (.inl (by rw [codeAt_op hpl, ← HX.out]))
          obtain ⟨en, e1, e2, e3, _, _⟩ := open_end hv (b := b) (by omega) t4
          have HD := mkHid (show doStep xs id p ⟨12, a, xb, xc⟩ l.st mz = (⟨l.zs, (en : Int) + 1, l.ts, l.wt⟩, mz) from by
            unfold doStep
            rw [if_neg (show ¬ (12 : Int) = 11 by decide), if_pos rfl, t1, e1])
          obtain ⟨m0, m1⟩ := HM1.out.m2
          have o0 := HM1.out.own hpl
          rw [ownV_top (.inl (by rw [codeAt_op hpl, ← HX.out])) t2] at o0
          obtain ⟨b0, b1, b2⟩ := HM1.out.blk (b := b) (by omega) t4
          rw [e1] at b2
          rw [HNN.out] at m1
          obtain ⟨⟨g0, g1, g2, g3⟩, f0, f1, f2, f3⟩ := HC1.out.cells hk
          rw [HLL.out, HPC.out] at g1
          have A1 := keepA m1
          have A2 := keepA o0
          have A3 := keepA b2
          have A4 := keepA g1
          have F4 := keepF g1 f1
          have h40' := (progValid_yes hv).1
          have hel : (en : Int) ≤ 40 := by omega
          have hn40 : (n : Int) ≤ 40 := by have := HNN.out; omega
          clear t1 t2 t3 t4 t5 e1 e2 e3 m0 m1 b0 b1 b2 o0 g0 g1 g2 g3 f0 f1 f2 f3 h1113 hop hpl
          go_wp2_with fail
          refine wp_region_still_tail 17 (by kernel_rfl) (by kernel_rfl) ?_
          simp only [List.take_succ_cons, List.take_zero, List.drop_succ_cons, List.drop_zero]
          change wpStill _ _ (World.drew _) _ _ _
          repeat still_step
          refine wpStill_nil ?_
          change wpList _ _ _ _ _ (World.drew _)
          go_wp2_with fail
          go_end0
          rw [HD.out]
          exact LanePost.from_ HF1.out (LanePost.drew (LanePost.drew (LanePost.pcAt HC1.out hk HLL.out hb1 ((Below.refl _ _).alloc (Nat.le_refl _) _) _ rfl)))
        · by_cases h14 : op = 14
          · subst h14
            have HMEM := mkHid (doStep_mem (xs := xs) (id := id) (p := p) (x := ⟨14, a, xb, xc⟩) (s := l.st) (mem := mz) (.inr (.inr (.inr rfl))))
            have HLV := mkHid (leave_any M lc O LA xs P base G c k ls ⟨some ⟨B, 0, none⟩, mc, mz⟩ _ hk p ⟨14, a, xb, xc⟩ id mz l HLL.out hv hb2 HM2.out HC2.out HAP.out rfl)
            clear hop h1113 h12
            go_wp2_with fail
            refine HLV.out.mono ?_
            rintro e w3 ⟨rfl, l', h2, h3, h4⟩
            have H2 := mkHid h2
            have H3 := mkHid h3
            have H4 := mkHid h4
            clear h2 h3 h4
            go_wp2_with fail
            go_end0
            rw [HMEM.out]
            exact ⟨rfl, l', H2.out, H3.out, HF2.out.trans H4.out⟩
          · have hop10 : op ≤ 10 := by omega
            have HD := mkHid (doStep_comp (xs := xs) (id := id) (p := p) (x := ⟨op, a, xb, xc⟩) (s := l.st) (mem := mz) hop10)
            have hmm := memValid_parts.1 hmv
            obtain ⟨R, g0, g1, g2, g3, f0, f1, f2, f3, hR, hRb, hRl, hRo, hRc, hT⟩ := HC1.out.lane hk (by rw [HLL.out]; exact HOK.out.regs) HLL.out
            have hmo : W.ownsRow base 3 1 (rowAt B mz.length mc) mz.length (ints mz) := HC1.out.mem
            have h4 : l.zs.length = 4 := HOK.out.regs
            have hcok := comp_ok HCV.out hid h4 HOK.out.words hmm.1.1 hmm.2
            have hne : R ≠ B := fun e => by
              have h1 := HC1.out.2.2 (2 * k + 1) 0 (by rw [List.length_cons, rowsL_len]; omega) (by simp) (by omega) R (by
                rw [List.getElem_cons_succ, rowsL_r _ _ hk]
                show (Value.slice ls[k].ra ls[k].zs.length ls[k].rc).ownBlock = some R
                rw [HLL.out, hR]; rfl)
              apply h1
              show (rowAt B mz.length mc).ownBlock = some R
              rw [e]; rfl
            have HCP := mkHid (fun X h1 h2 => implCompute_any ⟨op, a, xb, xc⟩ id base R l.rc B mc l.zs mz X HCV.out hop10 h4 HOK.out.words hmm.1 h1 h2 hne)
            have HRW : Hid ((W.alloc (.cells #[.int .i64 op, .int .i64 a, .int .i64 xb, .int .i64 xc] 69)).drew.drew.ownsRow base 3 1 (rowAt R 4 l.rc) 4 (ints l.zs)) := mkHid (by exact hRo.alloc _)
            have HMW : Hid ((W.alloc (.cells #[.int .i64 op, .int .i64 a, .int .i64 xb, .int .i64 xc] 69)).drew.drew.ownsRow base 3 1 (rowAt B mz.length mc) mz.length (ints mz)) := mkHid (by exact hmo.alloc _)
            have HC3 : Hid (CrAt (W.alloc (.cells #[.int .i64 op, .int .i64 a, .int .i64 xb, .int .i64 xc] 69)).drew.drew base (some ⟨G, 0, none⟩) c ls ⟨some ⟨B, 0, none⟩, mc, mz⟩) := mkHid HC2.out.drew
            have HF3 := mkHid HF2.out.drew
            have hb3 : base ≤ (W.alloc (.cells #[.int .i64 op, .int .i64 a, .int .i64 xb, .int .i64 xc] 69)).drew.drew.heap.size := hb2
            have HBX : Hid ((W.alloc (.cells #[.int .i64 op, .int .i64 a, .int .i64 xb, .int .i64 xc] 69)).drew.drew.heap[W.heap.size]? = some (.cells #[.int .i64 op, .int .i64 a, .int .i64 xb, .int .i64 xc] 69 (0, 0))) := mkHid (heap_alloc_new W _)
            rw [hR, h4] at g0
            have A0 := keepA g0
            have HR := mkHid hR
            have H4 := mkHid h4
            have HCOK := mkHid hcok
            have HNG : Hid (W.heap.size ≠ G) := mkHid (fun e => by have := (HC1.out.1.lt G rfl).2; omega)
            clear g0 g1 g2 g3 f0 f1 f2 f3 hR hRb hRl hRo hRc hT hmo h4 hcok hne
            go_wp2_with fail
            refine wp_region_still_tail 7 (by kernel_rfl) (by kernel_rfl) ?_
            simp only [List.take_succ_cons, List.take_zero, List.drop_succ_cons, List.drop_zero]
            change wpStill _ _ (World.drew _) _ _ _
            repeat still_step
            refine wpStill_nil ?_
            change wpList _ _ _ _ _ (World.drew _)
            go_wp2_with fail
            refine (HCP.out _ HRW.out HMW.out).mono ?_
            rintro e w3 hcr
            obtain rfl := hcr.1
            obtain ⟨hc3, hf3⟩ := HC3.out.comp hk HLL.out hb3 HR.out H4.out rfl HCOK.out.len HCOK.out.mlen hcr
            have HC4 := mkHid hc3
            have HF4 := mkHid (HF3.out.trans hf3)
            have hbx := hf3.2 _ _ _ _ HBX.out (by decide) (by decide)
            have hk4 : k < (ls.set k ⟨l.ra, l.rc, (comp ⟨op, a, xb, xc⟩ id l.zs mz).1, l.at_, l.ta, l.tc, l.ts, l.wt⟩).length := by rw [set_len]; exact hk
            obtain ⟨⟨g0, g1, g2, g3⟩, f0, f1, f2, f3⟩ := hc3.cells hk4
            simp only [List.getElem_set_self, HPC.out] at g1 g3
            have hb4 : base ≤ w3.heap.size := Nat.le_trans hb3 hf3.1.size
            have hbc : w3.cell? ⟨W.heap.size, 0, none⟩ = some (.int .i64 op) := cell_of_row _ _ _ _ _ _ hbx
            have hn0 : ¬ G = W.heap.size := fun e => HNG.out e.symm
            clear hcr hc3 hf3 hbx g0 g2 f0 f2
            have hwt := (HC4.out.wt hk4 (op == 10))
            have hpc := hwt.pc (k := k) (by rw [set_len, set_len]; exact hk) ((p : Int) + 1)
            simp only [List.getElem_set_self, List.set_set] at hpc
            have HPC2 := mkHid hpc
            have HFF := mkHid ((HF4.out.trans (HC4.out.frmG hb4 (k * 4 + 3) (.bool (op == 10)))).trans (hwt.frmG (by rw [setCell_size]; exact hb4) (k * 4 + 1) (.int .i64 ((p : Int) + 1))))
            clear hwt hpc
            have hpn' : (p : Int) ≤ 40 := by omega
            go_wp2_with fail
            go_end0
            rw [HD.out]
            exact ⟨rfl, _, rfl, HPC2.out, HFF.out⟩
end Go.Proofs.Ytjmiilneennjaaa
