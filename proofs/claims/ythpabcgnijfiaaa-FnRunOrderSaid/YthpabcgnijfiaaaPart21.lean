/-
  Parts of a proof: CPut2, CFree.
-/
import Derived.Test.YthpabcgnijfiaaaPart20
import Derived.Test.YthpabcgnijfiaaaPart14
import Derived.Test.YthpabcgnijfiaaaPart17
namespace Go.Proofs.Ythpabcgnijfiaaa
open Go.RowKit
set_option maxHeartbeats 1000000
set_option maxRecDepth 100000
set_option linter.unusedVariables false

/-- two rows are replaced by new ones. -/
theorem Apt.set2 {w : World} {base n : Nat} {rs : List IR} {r t : IR} (h : Apt w base rs) (hlt : ∀ r ∈ rs, ∀ g, (irV r).ownBlock = some g → g < n) (hb : base ≤ n) (k : Apt w n [r, t]) {i j : Nat} (hij : i ≠ j) : Apt w base ((rs.set i r).set j t) := by
  have kr := k.1 r (by simp)
  have kt := k.1 t (by simp)
  have key : ∀ a (ha : a < ((rs.set i r).set j t).length), (a = j ∧ ((rs.set i r).set j t)[a] = t) ∨ (a = i ∧ ((rs.set i r).set j t)[a] = r) ∨ (a ≠ i ∧ a ≠ j ∧ ∃ h : a < rs.length, ((rs.set i r).set j t)[a] = rs[a]) := fun a ha => by
    have hl : a < rs.length := by simpa using ha
    rw [List.getElem_set]
    split
    · rename_i e; exact .inl ⟨e.symm, rfl⟩
    · rename_i e
      rw [List.getElem_set]
      split
      · rename_i e'; exact .inr (.inl ⟨e'.symm, rfl⟩)
      · rename_i e'; exact .inr (.inr ⟨fun x => e' x.symm, fun x => e x.symm, hl, rfl⟩)
  refine ⟨fun s hs => ?_, fun a b ha hb' hne g h1 h2 => ?_⟩
  · obtain ⟨a, ha, rfl⟩ := List.mem_iff_getElem.1 hs
    rcases key a ha with ⟨_, e⟩ | ⟨_, e⟩ | ⟨_, _, hl, e⟩
    · rw [e]; exact own_base kt hb
    · rw [e]; exact own_base kr hb
    · rw [e]; exact h.1 _ (List.getElem_mem hl)
  · rcases key a ha with ⟨ea, e⟩ | ⟨ea, e⟩ | ⟨ea1, ea2, hla, e⟩
    · rw [e] at h1
      rcases key b hb' with ⟨eb, e'⟩ | ⟨eb, e'⟩ | ⟨_, _, hlb, e'⟩
      · omega
      · rw [e'] at h2
        exact k.2 1 0 (by simp) (by simp) (by omega) g h1 h2
      · rw [e'] at h2
        have a1 := (kt.lt g h1).1
        have a2 := hlt _ (List.getElem_mem hlb) g h2
        omega
    · rw [e] at h1
      rcases key b hb' with ⟨eb, e'⟩ | ⟨eb, e'⟩ | ⟨_, _, hlb, e'⟩
      · rw [e'] at h2
        exact k.2 0 1 (by simp) (by simp) (by omega) g h1 h2
      · omega
      · rw [e'] at h2
        have a1 := (kr.lt g h1).1
        have a2 := hlt _ (List.getElem_mem hlb) g h2
        omega
    · rw [e] at h1
      rcases key b hb' with ⟨eb, e'⟩ | ⟨eb, e'⟩ | ⟨_, _, hlb, e'⟩
      · rw [e'] at h2
        have a1 := (kt.lt g h2).1
        have a2 := hlt _ (List.getElem_mem hla) g h1
        omega
      · rw [e'] at h2
        have a1 := (kr.lt g h2).1
        have a2 := hlt _ (List.getElem_mem hla) g h1
        omega
      · rw [e'] at h2
        exact h.2 a b hla hlb hne g h1 h2
theorem own_set4 {w : World} {base c G k : Nat} {ls : List Lt} (h : w.ownsRow base 31 4 (.slice (some ⟨G, 0, none⟩) ls.length c) ls.length (tflat ls)) (hk : k < ls.length) (l : Lt) :
    ((((w.setCell ⟨G, k * 4, none⟩ (ltR l)).setCell ⟨G, k * 4 + 1, none⟩ (.int .i64 l.at_)).setCell ⟨G, k * 4 + 2, none⟩ (ltT l)).setCell ⟨G, k * 4 + 3, none⟩ (.bool l.wt)).ownsRow base 31 4 (.slice (some ⟨G, 0, none⟩) (ls.set k l).length c) (ls.set k l).length (tflat (ls.set k l)) := by
  have := ((((h.stored (k * 4) (ltR l)).1.stored (k * 4 + 1) (.int .i64 l.at_)).1.stored (k * 4 + 2) (ltT l)).1.stored (k * 4 + 3) (.bool l.wt)).1
  rw [tflat_set ls k l hk] at this
  rw [set_len]
  exact this
/-- lane k is replaced by a lane that a call has handed back; the call has turned the memory's row. -/
theorem CrAt.swap {w w5 : World} {base c G k : Nat} {ls : List Lt} {m : IR} {mem' : List Int} {l : Lt} (h : CrAt w base (some ⟨G, 0, none⟩) c ls m) (hk : k < ls.length) (hb : base ≤ w.heap.size) (hl : Apt w5 w.heap.size [irR l, irT l])
    (hm : w5.ownsRow base 3 1 (irV ⟨m.a, m.c, mem'⟩) mem'.length (ints mem')) (hml : mem'.length = m.zs.length) (hg : w.grownBy w5 (irV m).ownBlock) :
    CrAt w5 base (some ⟨G, 0, none⟩) c ls ⟨m.a, m.c, mem'⟩ ∧
    CrAt ((((w5.setCell ⟨G, k * 4, none⟩ (ltR l)).setCell ⟨G, k * 4 + 1, none⟩ (.int .i64 l.at_)).setCell ⟨G, k * 4 + 2, none⟩ (ltT l)).setCell ⟨G, k * 4 + 3, none⟩ (.bool l.wt)) base (some ⟨G, 0, none⟩) c (ls.set k l) ⟨m.a, m.c, mem'⟩ ∧
    Frm base w ((((w5.setCell ⟨G, k * 4, none⟩ (ltR l)).setCell ⟨G, k * 4 + 1, none⟩ (.int .i64 l.at_)).setCell ⟨G, k * 4 + 2, none⟩ (ltT l)).setCell ⟨G, k * 4 + 3, none⟩ (.bool l.wt)) := by
  have h5 : CrAt w5 base (some ⟨G, 0, none⟩) c ls ⟨m.a, m.c, mem'⟩ := h.setMem ⟨m.a, m.c, mem'⟩ hg hm (by simp only [irV, hml])
  have hblk : (irV ⟨m.a, m.c, mem'⟩).ownBlock = (irV m).ownBlock := by simp only [irV, hml]
  have hgs : w5.grownBy ((((w5.setCell ⟨G, k * 4, none⟩ (ltR l)).setCell ⟨G, k * 4 + 1, none⟩ (.int .i64 l.at_)).setCell ⟨G, k * 4 + 2, none⟩ (ltT l)).setCell ⟨G, k * 4 + 3, none⟩ (.bool l.wt)) (some G) := grown_setCell' (grown_setCell' (grown_setCell' (grown_setCell w5 G (k * 4) _) (k * 4 + 1) _) (k * 4 + 2) _) (k * 4 + 3) _
  obtain ⟨cs, hq⟩ := h5.heapG
  refine ⟨h5, ⟨own_set4 h5.1 hk l, ?_⟩, ?_⟩
  · have h2 := Apt.set2 (n := w.heap.size) (i := 2 * k + 1) (j := 2 * k + 2) h5.2 (fun r hr g e => by
      rcases List.mem_cons.1 hr with rfl | hr
      · rw [hblk] at e; exact (h.mem.lt g e).2
      · exact ((h.2.1 r (List.mem_cons_of_mem _ hr)).lt g e).2) hb hl (by omega)
    rw [show 2 * k + 2 = (2 * k + 1) + 1 from rfl, cons_set, cons_set, ← rowsL_set ls k l hk] at h2
    exact h2.other hgs hq (by decide)
  · have f1 : Frm base w w5 := Frm.rowOf hg hb h.mem (Nat.le_refl _) (.inl rfl)
    exact f1.trans (Frm.own hgs (Nat.le_trans hb hg.size) h5.1 rfl (Nat.le_refl _) (.inr rfl))
end Go.Proofs.Ythpabcgnijfiaaa

namespace Go.Proofs.Ythpabcgnijfiaaa
open Go.RowKit
set_option maxHeartbeats 2000000
set_option maxRecDepth 100000
set_option linter.unusedVariables false

/-- the lanes' places are those of a program of n instructions. -/
def Placed (n : Nat) (ls : List Lt) : Prop := ∀ l ∈ ls, 0 ≤ l.at_ ∧ l.at_ ≤ n
theorem CrowdOk.placed {xs : List Cd} {ls : List Lt} {mem : List Int} (h : CrowdOk xs (sts ls) mem) : Placed xs.length ls := fun l hl => (h.lanes l.st (List.mem_map_of_mem hl)).pc
/-- what l7Free hands back. -/
def FreePost (base : Nat) (A : Option Addr) (c : Nat) (ls : List Lt) (m : IR) (ss' : List LS) (w : World) (e : Ending) (w' : World) : Prop :=
  e = .returned (.tuple #[]) ∧ ∃ ls' : List Lt, ls'.length = ls.length ∧ sts ls' = ss' ∧ CrAt w' base A c ls' m ∧ Frm base w w'
theorem l7Free_any (LA : Option Addr) (n lc : Nat) (base c : Nat) (A : Option Addr) (ls : List Lt) (m : IR) (w : World) (hn : n ≤ 1000) (hl : ls.length ≤ 8) (hpl : Placed n ls) (hC : CrAt w base A c ls m) (hb : base ≤ w.heap.size) :
    Calls Try.prog 34 #[.agg #[.slice A ls.length c, .slice m.a m.zs.length m.c], .slice LA n lc] w (FreePost base A c ls m (passS n (sts ls)) w) := by
  obtain ⟨o1, ho1⟩ : ∃ o1, o1 = Obj.cells #[.slice A ls.length c, .slice m.a m.zs.length m.c] 55 := ⟨_, rfl⟩
  have hal : Below w.heap.size w (w.alloc o1) := (Below.refl _ _).alloc (Nat.le_refl _) _
  have hq : (w.alloc o1).heap[w.heap.size]? = some o1 := heap_alloc_new w _
  have HC := mkHid (hC.below hal)
  have HF := mkHid (Frm.below hal hb)
  have hb1 : base ≤ (w.alloc o1).heap.size := Nat.le_trans hb hal.size
  have HPL := mkHid hpl
  subst ho1
  obtain ⟨p0, p1⟩ := cr2 hq
  have HQ := mkHid hq
  obtain ⟨ll, hll⟩ : ∃ ll, ll = ls.length := ⟨_, rfl⟩
  have HLL := mkHid hll
  rw [← hll] at p0 hl HQ HC HF
  rw [← hll]
  rw [← hll] at hb1
  clear hC hal hq hll hpl
  go_enter Try.func34, Try.ntmps34
  go_wp2_with fail
  generalize w.alloc (.cells #[.slice A ll c, .slice m.a m.zs.length m.c] 55) = W at *
  generalize w.heap.size = X at *
  go_loopw [4] (fun iv wr => ∃ k : Nat, k ≤ ll ∧ iv = .int .i64 k ∧ Hid (∀ j (h : j < ls.length), j < k → goesB n ls[j].st = false) ∧ ∃ q, wr = W.drewN q) (fun iv _ => ll - (intOf iv).toNat)
  case atStart => exact ⟨0, by omega, rfl, mkHid (fun j h h' => absurd h' (by omega)), 0, rfl⟩
  case round =>
    obtain ⟨k, hk, rfl, HNG, q, rfl⟩ := hrel
    by_cases hlt : k < ll
    · have hks : k < ls.length := by rw [← HLL.out]; exact hlt
      obtain ⟨G, rfl, hGb, hGl⟩ := HC.out.castA (k := k) hks
      obtain ⟨⟨_, g1, _, g3⟩, _⟩ := (show CrAt W base (some ⟨G, 0, none⟩) c ls m from HC.out).cells hks
      have hpk := HPL.out _ (List.getElem_mem hks)
      have hst : goesB n ls[k].st = (!ls[k].wt && !(ls[k].at_ == (n : Int))) := rfl
      obtain ⟨l, hl'⟩ : ∃ l, l = ls[k] := ⟨_, rfl⟩
      have HL := mkHid hl'
      rw [← hl'] at g1 g3 hpk hst
      obtain ⟨ra, rc, zs, at_, ta, tc, ts, wt⟩ := l
      simp only at g1 g3 hpk hst
      have HG := mkHid hst
      clear hl' hst hGb hGl
      cases wt with
      | true =>
        go_wp2_with fail
        go_roundw
        case rel =>
          refine ⟨k + 1, by omega, by go_num, mkHid (fun j h h' => ?_), q, by first | rfl | simp⟩
          by_cases e : j = k
          · subst e; rw [← HL.out]; exact HG.out
          · exact HNG.out j h (by omega)
        case measure => simp [intOf] <;> omega
      | false =>
        by_cases hat : at_ < (n : Int)
        · go_wp2_with fail
          first | go_end0 | refine bodyPost_ret (results_none rfl _ _ _) rfl ?_
          have hg : goesB n ls[k].st = true := by
            rw [← HL.out, HG.out]
            have : ¬ at_ = (n : Int) := by omega
            simpa using this
          rw [any_goes_at (by rw [← HLL.out]; exact hlt) hg]
          exact ⟨rfl, ls, rfl, rfl, HC.out.drewN q, HF.out.drewN q⟩
        · go_wp2_with fail
          go_roundw
          case rel =>
            refine ⟨k + 1, by omega, by go_num, mkHid (fun j h h' => ?_), q, by first | rfl | simp⟩
            by_cases e : j = k
            · subst e
              rw [← HL.out, HG.out]
              have : at_ = (n : Int) := by omega
              simpa using this
            · exact HNG.out j h (by omega)
          case measure => simp [intOf] <;> omega
    · have hke : k = ll := by omega
      subst hke
      have HCq := mkHid (HC.out.drewN q)
      have HFq := mkHid (HF.out.drewN q)
      have HQq : Hid ((W.drewN q).heap[X]? = _) := mkHid HQ.out
      have hbq : base ≤ (W.drewN q).heap.size := hb1
      obtain ⟨p0, p1⟩ := cr2 HQq.out
      generalize W.drewN q = V at *
      go_wp2_with fail
      go_loopw [5] (fun iv wr => ∃ k' : Nat, k' ≤ k ∧ iv = .int .i64 k' ∧ ∃ ls' : List Lt, ls'.length = ls.length ∧ Hid (∀ j (h1 : j < ls.length) (h2 : j < ls'.length), (j < k' → ls'[j].st = clearW ls[j].st) ∧ (k' ≤ j → ls'[j] = ls[j])) ∧ CrAt wr base A c ls' m ∧ Frm base w wr ∧ wr.heap[X]? = some (.cells #[.slice A k c, .slice m.a m.zs.length m.c] 55 (0, 0)) ∧ base ≤ wr.heap.size) (fun iv _ => k - (intOf iv).toNat)
      case atStart => exact ⟨0, by omega, rfl, ls, rfl, mkHid (fun j h1 h2 => ⟨fun h => absurd h (by omega), fun _ => rfl⟩), HCq.out, HFq.out, HQq.out, hbq⟩
      case round =>
        clear p0 p1 HCq HFq HQq
        obtain ⟨k', hk', rfl, ls', hll', HCC, hcr, hf, hqq, hbw⟩ := hrel
        obtain ⟨p0, p1⟩ := cr2 hqq
        have HCR := mkHid hcr
        have HFF := mkHid hf
        have HQQ := mkHid hqq
        clear hcr hf hqq
        by_cases hlt' : k' < k
        · have hks : k' < ls'.length := by rw [hll', ← HLL.out]; exact hlt'
          obtain ⟨G, rfl, hGb, hGl⟩ := HCR.out.castA (k := k') hks
          obtain ⟨⟨_, _, _, g3⟩, _, _, _, f3⟩ := (show CrAt wr base (some ⟨G, 0, none⟩) c ls' m from HCR.out).cells hks
          have HKS := mkHid hks
          have HLN := mkHid hll'
          have HCR2 : Hid (CrAt wr base (some ⟨G, 0, none⟩) c ls' m) := mkHid HCR.out
          have hXG : ¬ G = X := fun e => by
            obtain ⟨cs, hcs⟩ := HCR2.out.heapG
            rw [e, HQQ.out] at hcs
            simp only [Option.some.injEq, Obj.cells.injEq] at hcs
            exact absurd hcs.2.1 (by decide)
          clear hll' hGb hGl
          go_wp2_with fail
          go_roundw
          case rel =>
            have hfr := HCR2.out.frmG hbw (k' * 4 + 3) (.bool false)
            refine ⟨k' + 1, by omega, by go_num, ls'.set k' ⟨ls'[k'].ra, ls'[k'].rc, ls'[k'].zs, ls'[k'].at_, ls'[k'].ta, ls'[k'].tc, ls'[k'].ts, false⟩, by rw [set_len]; exact HLN.out, mkHid (fun j h1 h2 => ?_), HCR2.out.wt HKS.out false, HFF.out.trans hfr, hfr.2 _ _ _ _ HQQ.out (by decide) (by decide), by rw [setCell_size]; exact hbw⟩
            rw [set_len] at h2
            have hc := HCC.out j h1 h2
            rw [List.getElem_set]
            refine ⟨fun h => ?_, fun h => ?_⟩
            · split
              · rename_i e
                subst e
                rw [← hc.2 (Nat.le_refl _)]
                rfl
              · exact hc.1 (by omega)
            · rw [if_neg (by omega)]
              exact hc.2 (by omega)
          case measure => simp [intOf] <;> omega
        · have hke : k' = k := by omega
          subst hke
          go_wp2_with fail
          first | go_end0 | refine bodyPost_ret (results_none rfl _ _ _) rfl ?_
          refine ⟨rfl, ls', hll', ?_, HCR.out, HFF.out⟩
          exact none_goes hll' (fun j h => HNG.out j h (by rw [HLL.out]; exact h)) (fun j h1 h2 => (HCC.out j h1 h2).1 (by rw [HLL.out]; exact h1))
theorem l7Done_any (LA : Option Addr) (n lc : Nat) (base c : Nat) (A : Option Addr) (ls : List Lt) (m : IR) (w : World) (hn : n ≤ 1000) (hl : ls.length ≤ 8) (hpl : Placed n ls) (hC : CrAt w base A c ls m) :
    Calls Try.prog 32 #[.agg #[.slice A ls.length c, .slice m.a m.zs.length m.c], .slice LA n lc] w fun e w' => e = .returned (.bool (doneB n (sts ls))) ∧ Below w.heap.size w w' := by
  obtain ⟨o1, ho1⟩ : ∃ o1, o1 = Obj.cells #[.slice A ls.length c, .slice m.a m.zs.length m.c] 55 := ⟨_, rfl⟩
  have hal : Below w.heap.size w (w.alloc o1) := (Below.refl _ _).alloc (Nat.le_refl _) _
  have hq : (w.alloc o1).heap[w.heap.size]? = some o1 := heap_alloc_new w _
  have HC := mkHid (hC.below hal)
  have HB := mkHid hal
  have HPL := mkHid hpl
  subst ho1
  obtain ⟨p0, p1⟩ := cr2 hq
  obtain ⟨ll, hll⟩ : ∃ ll, ll = ls.length := ⟨_, rfl⟩
  have HLL := mkHid hll
  rw [← hll] at p0 hl HC HB
  rw [← hll]
  obtain ⟨res, hres⟩ : ∃ res, res = doneB n (sts ls) := ⟨_, rfl⟩
  have HRES := mkHid hres
  rw [← hres]
  clear hC hal hq hll hpl hres
  go_enter Try.func32, Try.ntmps32
  go_wp2_with fail
  generalize w.alloc (.cells #[.slice A ll c, .slice m.a m.zs.length m.c] 55) = W at *
  generalize hXE : w.heap.size = X at *
  have HXE := mkHid hXE
  clear hXE
  go_loopw [5] (fun iv wr => ∃ k : Nat, k ≤ ll ∧ iv = .int .i64 k ∧ Hid (∀ j (h : j < ls.length), j < k → ls[j].wt = false ∧ ls[j].at_ = n) ∧ ∃ q, wr = W.drewN q) (fun iv _ => ll - (intOf iv).toNat)
  case atStart => exact ⟨0, by omega, rfl, mkHid (fun j h h' => absurd h' (by omega)), 0, rfl⟩
  case round =>
    obtain ⟨k, hk, rfl, HNG, q, rfl⟩ := hrel
    by_cases hlt : k < ll
    · have hks : k < ls.length := by rw [← HLL.out]; exact hlt
      obtain ⟨G, rfl, hGb, hGl⟩ := HC.out.castA (k := k) hks
      obtain ⟨⟨_, g1, _, g3⟩, _⟩ := (show CrAt W base (some ⟨G, 0, none⟩) c ls m from HC.out).cells hks
      have hpk := HPL.out _ (List.getElem_mem hks)
      obtain ⟨l, hl'⟩ : ∃ l, l = ls[k] := ⟨_, rfl⟩
      have HL := mkHid hl'
      rw [← hl'] at g1 g3 hpk
      have HNO : Hid (l.wt = true ∨ l.at_ < n → res = false) := mkHid (fun h => by
        rw [HRES.out]
        unfold doneB
        rw [List.all_eq_false]
        refine ⟨l.st, by rw [HL.out]; exact List.mem_map_of_mem (List.getElem_mem hks), ?_⟩
        rcases h with h | h
        · simp [h]
        · have : ¬ l.at_ = (n : Int) := by omega
          simp [this])
      obtain ⟨ra, rc, zs, at_, ta, tc, ts, wt⟩ := l
      simp only at g1 g3 hpk HNO
      clear hl' hGb hGl
      cases wt with
      | true =>
        go_wp2_with fail
        go_ret
        exact ⟨ret_bool (HNO.out (.inl (by first | rfl | trivial))).symm, by rw [HXE.out]; exact below_drewN HB.out q⟩
      | false =>
        by_cases hat : at_ < (n : Int)
        · go_wp2_with fail
          go_ret
          exact ⟨ret_bool (HNO.out (.inr hat)).symm, by rw [HXE.out]; exact below_drewN HB.out q⟩
        · go_wp2_with fail
          go_roundw
          case rel =>
            refine ⟨k + 1, by omega, by go_num, mkHid (fun j h h' => ?_), q, by first | rfl | simp⟩
            by_cases e : j = k
            · subst e
              rw [← HL.out]
              exact ⟨rfl, show at_ = (n : Int) from by omega⟩
            · exact HNG.out j h (by omega)
          case measure => simp [intOf] <;> omega
    · go_wp2_with fail
      go_ret
      refine ⟨ret_bool ?_, by rw [HXE.out]; exact below_drewN HB.out q⟩
      rw [HRES.out]
      symm
      unfold doneB
      rw [List.all_eq_true]
      intro s hs
      obtain ⟨l, hl', rfl⟩ := List.mem_map.1 hs
      obtain ⟨j, hj, rfl⟩ := List.mem_iff_getElem.1 hl'
      have := HNG.out j hj (by have := HLL.out; omega)
      simp [this.1, this.2]
end Go.Proofs.Ythpabcgnijfiaaa
