/-
  Parts of a proof: CLeave.
-/
import Derived.Test.YtjmiilneennjaaaPart13
namespace Go.Proofs.Ytjmiilneennjaaa
open Go.RowKit
set_option maxHeartbeats 1000000
set_option maxRecDepth 100000
set_option linter.unusedVariables false

section
variable {w W : World} {base c G k : Nat} {ls : List Lt} {m : IR} {l : Lt}
theorem LanePost.comp {k : Nat} {l1 : Lt} {s' : LS} {mem' : List Int} {e : Ending} {w' : World} (hf : Frm base w W) (h : LanePost base G c (ls.set k l1) m k s' mem' W e w') : LanePost base G c ls m k s' mem' w e w' := by
  obtain ⟨h1, l', h2, h3, h4⟩ := h
  rw [List.set_set] at h3
  exact ⟨h1, l', h2, h3, hf.trans h4⟩
theorem keepS {w : World} {p q : Addr} {v u : Value} (h : w.cell? p = some v) (hne : q ≠ p) : (w.setCell q u).cell? p = some v := (World.cell?_setCell_other w q p u hne).trans h
/-- the first store of a step, and what stands behind it. -/
theorem CrAt.first (hC : CrAt w base (some ⟨G, 0, none⟩) c ls m) (hk : k < ls.length) (hll : ls[k] = l) (hb : base ≤ w.heap.size) (hW : Below w.heap.size w W) (y : Int) :
    CrAt (W.setCell ⟨G, k * 4 + 1, none⟩ (.int .i64 y)) base (some ⟨G, 0, none⟩) c (ls.set k ⟨l.ra, l.rc, l.zs, y, l.ta, l.tc, l.ts, l.wt⟩) m ∧ Frm base w (W.setCell ⟨G, k * 4 + 1, none⟩ (.int .i64 y)) := by
  subst hll
  have h1 := hC.below hW
  exact ⟨h1.pc hk y, (Frm.below hW hb).trans (h1.frmG (Nat.le_trans hb hW.size) _ _)⟩
theorem LanePost.turnPc (hC : CrAt w base (some ⟨G, 0, none⟩) c ls m) (hk : k < ls.length) (hll : ls[k] = l) (hb : base ≤ w.heap.size) (hW : Below w.heap.size w W) {T : Nat} (hT : l.ta = some ⟨T, 0, none⟩) (i : Nat) (t z : Int) {s' : LS} (hs : s' = ⟨l.zs, z, l.ts.set i t, l.wt⟩) :
    LanePost base G c ls m k s' m.zs w (.returned (.tuple #[])) ((W.setCell ⟨T, i, none⟩ (.int .i64 t)).setCell ⟨G, k * 4 + 1, none⟩ (.int .i64 z)) := by
  subst hll
  have h1 := hC.below hW
  have hbW := Nat.le_trans hb hW.size
  have f1 : Frm base w W := Frm.below hW hb
  have h3 := h1.turn hk (T := T) hT i t
  have hblk : (irV (irT ls[k])).ownBlock = some T := by rw [show irV (irT ls[k]) = Value.slice ls[k].ta ls[k].ts.length ls[k].tc from rfl, hT]; rfl
  have f3 : Frm base W (W.setCell ⟨T, i, none⟩ (.int .i64 t)) := Frm.own (grown_setCell _ _ _ _) hbW (h1.t hk) hblk (Nat.le_refl _) (.inl rfl)
  have h4 := h3.pc (by rw [set_len]; exact hk) z
  have f4 := h3.frmG (by rw [setCell_size]; exact hbW) (k * 4 + 1) (.int .i64 z)
  simp only [List.getElem_set_self, List.set_set] at h4
  exact ⟨rfl, _, hs.symm, h4, (f1.trans f3).trans f4⟩
theorem LanePost.pop (hC : CrAt w base (some ⟨G, 0, none⟩) c ls m) (hk : k < ls.length) (hll : ls[k] = l) (hb : base ≤ w.heap.size) (hW : Below w.heap.size w W) {T : Nat} (hT : l.ta = some ⟨T, 0, none⟩) {n : Nat} (hn : l.ts.length = n + 1) {s' : LS} (hs : s' = ⟨l.zs, l.at_, l.ts.dropLast, l.wt⟩) :
    LanePost base G c ls m k s' m.zs w (.returned (.tuple #[])) (W.setCell ⟨G, k * 4 + 2, none⟩ (.slice (some ⟨T, 0, none⟩) n l.tc)) := by
  subst hll
  have h1 := hC.below hW
  have hbW := Nat.le_trans hb hW.size
  have f1 : Frm base w W := Frm.below hW hb
  have ho := h1.t hk
  have hdl : ls[k].ts.dropLast.length = n := by rw [List.length_dropLast]; omega
  have hne : ls[k].ts ≠ [] := fun e => by rw [e] at hn; simp at hn
  have hpop : W.ownsRow base 3 1 (.slice (some ⟨T, 0, none⟩) ls[k].ts.dropLast.length ls[k].tc) ls[k].ts.dropLast.length (ints ls[k].ts.dropLast) := by
    rw [hdl]
    have ho2 : W.ownsRow base 3 1 (.slice (some ⟨T, 0, none⟩) (n + 1) ls[k].tc) (n + 1) (ints ls[k].ts.dropLast ++ [.int .i64 (ls[k].ts.getLast hne)]) := by
      have e1 : ints ls[k].ts = ints ls[k].ts.dropLast ++ [.int .i64 (ls[k].ts.getLast hne)] := by
        conv => lhs; rw [← List.dropLast_concat_getLast hne]
        simp [ints]
      rw [← e1, ← hn, ← hT]
      exact ho
    exact ownsRow_pop (by simp [ints]; omega) ho2
  have h3 := h1.turns (w' := W) hk (World.grownBy.refl _ _) hpop (fun g e => .inl (by
    rw [ltT, hT]
    exact e))
  simp only [hdl] at h3
  have f3 := h1.frmG hbW (k * 4 + 2) (.slice (some ⟨T, 0, none⟩) n ls[k].tc)
  exact ⟨rfl, _, hs.symm, h3, f1.trans f3⟩
theorem set_last {ts : List Int} {q : Nat} (h : ts.length = q + 1) (z : Int) : ts.dropLast ++ [z] = ts.set q z := by
  have h1 := dropLast_snoc h
  have h2 : ts.dropLast.length = q := by rw [List.length_dropLast]; omega
  conv => rhs; rw [h1]
  rw [List.set_append_right _ _ (by omega), h2, Nat.sub_self]
  rfl
end
theorem leave_any (M lc O : Nat) (LA : Option Addr) (xs : List Cd) (P : Nat → Nat) (base G c k : Nat) (ls : List Lt) (m : IR) (w : World) (hk : k < ls.length) (p : Nat) (x : Cd) (id : Int) (mem : List Int) (l : Lt) (hll : ls[k] = l) (hv : progValid xs = true) (hb : base ≤ w.heap.size)
    (hM : MachAt w base M LA lc xs O P) (hC : CrAt w base (some ⟨G, 0, none⟩) c ls m) (hl : AtPlace xs l p x) (hop : x.op = 14) :
    Calls Try.prog 98 #[.pointer (some ⟨M, 0, none⟩), .pointer (some ⟨G, k * 4, none⟩)] w (LanePost base G c ls m k (doStep xs id p x l.st mem).1 m.zs w) := by
  obtain ⟨hp, hpc, hx, hok⟩ := hl
  have h40 := (progValid_yes hv).1
  have h14 : (codeAt xs p).op = 14 := by rw [hx]; exact hop
  obtain ⟨b, t1, t2, t3, t4, t5, t6, t7⟩ := hok.atEnd hv hp hpc h14
  have hbx : b < xs.length := by omega
  have hob : opensB (opAt (ops xs) b) = true := (last_lt t2).2
  obtain ⟨lb, lo, rfl, c0, c1, c2, c3⟩ := hM.code hbx
  obtain ⟨m0, m1⟩ := hM.m2
  have o0 := hM.own hp
  rw [ownV_top (.inr (by rw [codeAt_op hp]; exact h14)) t2] at o0
  obtain ⟨b0, b1, b2⟩ := hM.blk hbx hob
  obtain ⟨R, g0, g1, g2, g3, f0, f1, f2, f3, hR, hRb, hRl, hRo, hRc, hT⟩ := hC.lane hk (by rw [hll]; exact hok.regs) hll
  have hcb := codeAt_valid hv hbx
  obtain ⟨v1, _, _, _, v5, _, _⟩ := valid_nums hcb
  have ha : 0 ≤ (codeAt xs b).a ∧ (codeAt xs b).a ≤ 3 := v1 (by rcases t5 with h | h <;> rw [h] <;> decide)
  have hturn := hok.turns
  have hlen := hok.len
  have HDO := mkHid (show doStep xs id p x l.st mem = (if (codeAt xs b).op = 13 then
      (if rg l.zs (codeAt xs b).a ≠ 0 ∧ 0 < l.ts.getLastD 0 then ⟨l.zs, (b : Int) + 1, l.ts.dropLast ++ [l.ts.getLastD 0 - 1], l.wt⟩ else ⟨l.zs, (p : Int) + 1, l.ts.dropLast, l.wt⟩)
     else ⟨l.zs, (p : Int) + 1, l.ts, l.wt⟩, mem) from by
    unfold doStep
    rw [if_neg (by rw [hop]; decide), if_neg (by rw [hop]; decide), if_neg (by rw [hop]; decide), if_pos hop, t1])
  obtain ⟨y, hy⟩ : ∃ y, y = codeAt xs b := ⟨_, rfl⟩
  rw [← hy] at c0 c1 c2 c3 t5 ha HDO
  have h13 : y.op = 13 → ∃ n, l.ts.length = n + 1 := fun e => by
    obtain ⟨_, _, _, n, n1, _⟩ := t7 (by rw [← hy]; exact e)
    exact ⟨n, n1⟩
  have htn : l.ts.length ≤ 3 := by
    have h2 := loops_three hv (k := l.at_.toNat) (by rw [hpc]; omega)
    have h3 : (loopsAt xs l.at_.toNat).length = l.ts.length := hlen
    omega
  have htb : ∀ t ∈ l.ts, 0 ≤ t ∧ t ≤ 3 := fun t ht => by
    obtain ⟨i, hi, rfl⟩ := List.mem_iff_getElem.1 ht
    have hi2 : i < (loopsAt xs l.at_.toNat).length := by
      have h3 : (loopsAt xs l.at_.toNat).length = l.ts.length := hlen
      omega
    have h4 := hturn i hi hi2
    have hm := loops_mem (List.getElem_mem hi2)
    have h6 : l.at_.toNat ≤ xs.length := by rw [hpc]; omega
    have hbl : (loopsAt xs l.at_.toNat)[i] < xs.length := by have := hm.2.2; omega
    have h5 := (valid_nums (codeAt_valid hv hbl)).2.2.2.2.1 (by rw [← codeAt_op hbl]; exact hm.2.1)
    simp only at h4
    omega
  clear hturn hlen
  obtain ⟨ra, rc, zs, at_, ta, tc, ts, wt⟩ := l
  obtain ⟨op, a, xb, xc⟩ := y
  simp only at c0 c1 c2 c3 ha t5 g0 g1 g2 g3 hR hpc htn hT hRc hRo h13 htb HDO
  obtain ⟨an, rfl⟩ := Int.eq_ofNat_of_zero_le ha.1
  have r1 := (hRc an (by omega)).1
  have h4 : zs.length = 4 := hok.regs
  rw [h4] at g0
  subst hpc hR
  have HM := mkHid hM
  have HBX := mkHid (⟨hbx, hob⟩ : b < xs.length ∧ opensB (opAt (ops xs) b) = true)
  have H4 := mkHid h4
  have HC := mkHid hC
  have HTN := mkHid hT
  have HLL := mkHid hll
  have HTB := mkHid htb
  have hn : (p : Int) < (xs.length : Int) := by omega
  have hbn : (b : Int) < (xs.length : Int) := by omega
  have hp0 : (0 : Int) ≤ (p : Int) := by omega
  have hb0 : (0 : Int) ≤ (b : Int) := by omega
  have ha4 : (an : Int) < 4 := by omega
  have ha0 : (0 : Int) ≤ (an : Int) := by omega
  have hbl : (b : Int) < (p : Int) := by omega
  obtain ⟨n, hn'⟩ : ∃ n, n = xs.length := ⟨_, rfl⟩
  rw [← hn'] at m0 m1 hn hbn h40
  have hpp : (p : Int) ≤ 40 := by omega
  obtain ⟨v, hv'⟩ : ∃ v, v = rg zs an := ⟨_, rfl⟩
  have HV := mkHid hv'
  rw [← hv'] at r1
  clear hn' hv' hRo hRc hT hok hll hcb v1 v5 hM hC h4 hp hx t1 t2 t3 t4 t6 t7 h14 hop hbx hob b1 b2 htb hy ha hv
  have HFA := mkHid (⟨m0, b0, c0, c1, c2, c3, g0, g1, g2, r1, f1, f2⟩ : w.cell? ⟨M, 0, none⟩ = some (.slice (some ⟨lb, lo, none⟩) n lc) ∧ w.cell? ⟨P b, 0, none⟩ = some (.int .i64 b) ∧ w.cell? ⟨lb, lo + b * 4, none⟩ = some (.int .i64 op) ∧ w.cell? ⟨lb, lo + b * 4 + 1, none⟩ = some (.int .i64 an) ∧ w.cell? ⟨lb, lo + b * 4 + 2, none⟩ = some (.int .i64 xb) ∧ w.cell? ⟨lb, lo + b * 4 + 3, none⟩ = some (.int .i64 xc) ∧
    w.cell? ⟨G, k * 4, none⟩ = some (.slice (some ⟨R, 0, none⟩) 4 rc) ∧ w.cell? ⟨G, k * 4 + 1, none⟩ = some (.int .i64 p) ∧ w.cell? ⟨G, k * 4 + 2, none⟩ = some (.slice ta ts.length tc) ∧ w.cell? ⟨R, an, none⟩ = some (.int .i64 v) ∧ w.frozen? ⟨G, k * 4 + 1, none⟩ = false ∧ w.frozen? ⟨G, k * 4 + 2, none⟩ = false)
  rcases t5 with rfl | rfl
  · have HD := mkHid (show (doStep xs id p x (⟨some ⟨R, 0, none⟩, rc, zs, p, ta, tc, ts, wt⟩ : Lt).st mem).1 = ⟨zs, (p : Int) + 1, ts, wt⟩ from by
      rw [HDO.out]
      rw [if_neg (show ¬ (11 : Int) = 13 by decide)])
    clear HDO
    go_enter Try.func98, Try.ntmps98
    go_wp2_with fail
    go_quiet (fail)
    go_wp2_with fail
    refine name_world ?_
    intro W hW
    obtain ⟨m0, b0, c0, c1, c2, c3, g0, g1, g2, r1, f1, f2⟩ := (show W.cell? ⟨M, 0, none⟩ = some (.slice (some ⟨lb, lo, none⟩) n lc) ∧ W.cell? ⟨P b, 0, none⟩ = some (.int .i64 b) ∧ W.cell? ⟨lb, lo + b * 4, none⟩ = some (.int .i64 11) ∧ W.cell? ⟨lb, lo + b * 4 + 1, none⟩ = some (.int .i64 an) ∧ W.cell? ⟨lb, lo + b * 4 + 2, none⟩ = some (.int .i64 xb) ∧ W.cell? ⟨lb, lo + b * 4 + 3, none⟩ = some (.int .i64 xc) ∧ W.cell? ⟨G, k * 4, none⟩ = some (.slice (some ⟨R, 0, none⟩) 4 rc) ∧ W.cell? ⟨G, k * 4 + 1, none⟩ = some (.int .i64 p) ∧ W.cell? ⟨G, k * 4 + 2, none⟩ = some (.slice ta ts.length tc) ∧ W.cell? ⟨R, an, none⟩ = some (.int .i64 v) ∧ W.frozen? ⟨G, k * 4 + 1, none⟩ = false ∧ W.frozen? ⟨G, k * 4 + 2, none⟩ = false from by rw [hW]; exact HFA.out)
    have HB := mkHid (show Below w.heap.size w W from by rw [hW]; exact below_drewN (Below.refl _ _) _)
    clear hW HFA
    have Ar := keepA r1
    have Ag0 := keepA g0
    have Ag1 := keepA g1
    have Ag2 := keepA g2
    have Ab0 := keepA b0
    have Fg1 := keepF g1 f1
    have Fg2 := keepF g2 f2
    go_region_held3 (fun w' => w'.cell? ⟨M, 0, none⟩ = some (.slice (some ⟨lb, lo, none⟩) n lc) ∧ w'.cell? ⟨P b, 0, none⟩ = some (.int .i64 b) ∧ w'.cell? ⟨lb, lo + b * 4, none⟩ = some (.int .i64 11) ∧ w'.cell? ⟨lb, lo + b * 4 + 1, none⟩ = some (.int .i64 an) ∧ w'.cell? ⟨lb, lo + b * 4 + 2, none⟩ = some (.int .i64 xb) ∧ w'.cell? ⟨lb, lo + b * 4 + 3, none⟩ = some (.int .i64 xc)) (go_keep) (first | fail)
    go_wp2_with fail
    refine bodyPost_ret (results_none rfl _ _ _) rfl ?_
    exact LanePost.drew (LanePost.pcAt HC.out hk HLL.out hb (below_then HB.out ((Below.refl _ _).alloc (Nat.le_refl _) _)) _ HD.out)
  · obtain ⟨q, hq⟩ := h13 rfl
    obtain ⟨T, hTa, hTb, hTl, hTc, hTf, _⟩ := own_open HTN.out (i := q) (by simp [ints]; omega)
    subst hTa
    have hqt : q < ts.length := by omega
    clear hTc hTf
    have hlast := getLastD_of hq
    have htq := HTB.out _ (List.getElem_mem hqt)
    have HTG : Hid (T ≠ G) := mkHid (fun e => by
      obtain ⟨cs, hqq⟩ := HC.out.heapG
      exact own_ne_heapA HTN.out hqq (by decide) (by rw [e]; rfl))
    obtain ⟨t, ht⟩ : ∃ t, t = ts[q] := ⟨_, rfl⟩
    have HT := mkHid ht
    rw [← ht] at hlast htq
    have hRG : R ≠ G := fun e => by
      obtain ⟨cs, hqq⟩ := HC.out.heapG
      have hro : w.ownsRow base 3 1 (ltR ls[k]) ls[k].zs.length (ints ls[k].zs) := HC.out.r hk
      exact own_ne_heapA hro hqq (by decide) (by rw [HLL.out, ← e]; rfl)
    have hHG : ∀ (X : World), w.heap.size ≤ X.heap.size → X.heap.size ≠ G := fun X h e => by
      have := World.block_lt_of_cell? w _ g1
      simp only at this
      omega
    have HHG := mkHid hHG
    have HDO13 := mkHid (HDO.out.trans (by rw [if_pos rfl]))
    have HLA := mkHid hlast
    have HLQ := mkHid hq
    rw [hq] at g2 htn
    clear HDO ht hlast hHG
    have HQT := mkHid hqt
    go_enter Try.func98, Try.ntmps98
    go_wp2_with fail
    go_quiet (fail)
    go_wp2_with fail
    refine name_world ?_
    intro W hW
    obtain ⟨m0, b0, c0, c1, c2, c3, g0, g1, g2, r1, f1, f2⟩ := (show W.cell? ⟨M, 0, none⟩ = some (.slice (some ⟨lb, lo, none⟩) n lc) ∧ W.cell? ⟨P b, 0, none⟩ = some (.int .i64 b) ∧ W.cell? ⟨lb, lo + b * 4, none⟩ = some (.int .i64 13) ∧ W.cell? ⟨lb, lo + b * 4 + 1, none⟩ = some (.int .i64 an) ∧ W.cell? ⟨lb, lo + b * 4 + 2, none⟩ = some (.int .i64 xb) ∧ W.cell? ⟨lb, lo + b * 4 + 3, none⟩ = some (.int .i64 xc) ∧ W.cell? ⟨G, k * 4, none⟩ = some (.slice (some ⟨R, 0, none⟩) 4 rc) ∧ W.cell? ⟨G, k * 4 + 1, none⟩ = some (.int .i64 p) ∧ W.cell? ⟨G, k * 4 + 2, none⟩ = some (.slice (some ⟨T, 0, none⟩) (q + 1) tc) ∧ W.cell? ⟨R, an, none⟩ = some (.int .i64 v) ∧ W.frozen? ⟨G, k * 4 + 1, none⟩ = false ∧ W.frozen? ⟨G, k * 4 + 2, none⟩ = false from by rw [hW]; have h := HFA.out; rw [hq] at h; exact h)
    have HB := mkHid (show Below w.heap.size w W from by rw [hW]; exact below_drewN (Below.refl _ _) _)
    clear hW HFA
    have Ar := keepA r1
    have Ag0 := keepA g0
    have Ag1 := keepA g1
    have Ag2 := keepA g2
    have Ab0 := keepA b0
    have Fg1 := keepF g1 f1
    have Fg2 := keepF g2 f2
    go_region_held3 (fun w' => w'.cell? ⟨M, 0, none⟩ = some (.slice (some ⟨lb, lo, none⟩) n lc) ∧ w'.cell? ⟨P b, 0, none⟩ = some (.int .i64 b) ∧ w'.cell? ⟨lb, lo + b * 4, none⟩ = some (.int .i64 13) ∧ w'.cell? ⟨lb, lo + b * 4 + 1, none⟩ = some (.int .i64 an) ∧ w'.cell? ⟨lb, lo + b * 4 + 2, none⟩ = some (.int .i64 xb) ∧ w'.cell? ⟨lb, lo + b * 4 + 3, none⟩ = some (.int .i64 xc)) (go_keep) (first | fail)
    go_wp2_with fail
    refine name_world ?_
    intro W2 hW2
    have hcf := HC.out.first hk HLL.out hb (below_then HB.out ((Below.refl _ _).alloc (Nat.le_refl _) (.cells #[.int .i64 13, .int .i64 an, .int .i64 xb, .int .i64 xc] 69))) ((p : Int) + 1)
    have HC2 := mkHid (show CrAt W2 base (some ⟨G, 0, none⟩) c (ls.set k ⟨some ⟨R, 0, none⟩, rc, zs, (p : Int) + 1, some ⟨T, 0, none⟩, tc, ts, wt⟩) m from by rw [hW2]; exact hcf.1)
    have HF2 := mkHid (show Frm base w W2 from by rw [hW2]; exact hcf.2.drew)
    have hbn0 : W.heap.size ≠ G := HHG.out W HB.out.size
    have D1 : W2.cell? ⟨W.heap.size, 1, none⟩ = some (.int .i64 an) := by
      rw [hW2]
      exact keepS (cell_of_row _ _ _ _ _ _ (heap_alloc_new W _)) (fun e => by injection e with e; exact hbn0 e.symm)
    have hb2 : base ≤ W2.heap.size := by
      have := HF2.out.1.size
      omega
    clear hcf hW2 Ar Ag0 Ag1 Ag2 Ab0 Fg1 Fg2 m0 c0 c1 c2 c3 g0 g1 g2 r1 f1 f2 b0 o0 HHG hRG
    have hk2 : k < (ls.set k ⟨some ⟨R, 0, none⟩, rc, zs, (p : Int) + 1, some ⟨T, 0, none⟩, tc, ts, wt⟩).length := by rw [set_len]; exact hk
    obtain ⟨R2, g0, g1, g2, _, _, f1, f2, _, hR2, _, _, _, hRc, hT2⟩ := HC2.out.lane hk2 (by simp only [List.getElem_set_self]; exact H4.out) (List.getElem_set_self ..)
    simp only [Option.some.injEq, Addr.mk.injEq, and_true] at hR2
    subst hR2
    have r1 := (hRc an (by omega)).1
    rw [← HV.out] at r1
    have b0 := ((HM.out.frm HF2.out).blk HBX.out.1 HBX.out.2).1
    have tc1 : W2.cell? ⟨T, q, none⟩ = some (.int .i64 t) := by
      obtain ⟨g', h1, _, _, h2, _⟩ := own_open hT2 (i := q) (by simp [ints]; exact HQT.out)
      simp only [Option.some.injEq, Addr.mk.injEq, and_true] at h1
      subst h1
      rw [h2, HT.out]
      simp [ints]
    have tf1 : W2.frozen? ⟨T, q, none⟩ = false := hT2.frozenAt q
    have hTP : ¬ T = P b := fun e => own_ne_heapA hT2 ((HM.out.frm HF2.out).hp b HBX.out.1 HBX.out.2) (by decide) (by rw [← e]; rfl)
    have hTG : ¬ T = G := HTG.out
    have hTcap : q + 1 ≤ tc := by
      have := own_cap hT2
      rw [HLQ.out] at this
      exact this
    simp only [HLQ.out, H4.out] at g0 g2
    clear hRc hT2 hq hTl hTb h13
    have HK2 := mkHid hk2
    clear hk2
    have hq0 : (0 : Int) ≤ (q : Int) := by omega
    have hqs : ((q + 1 : Nat) : Int) - 1 = (q : Int) := by omega
    by_cases h0 : v = 0
    · have HD := mkHid (show (doStep xs id p x (⟨some ⟨R, 0, none⟩, rc, zs, p, some ⟨T, 0, none⟩, tc, ts, wt⟩ : Lt).st mem).1 = ⟨zs, (p : Int) + 1, ts.dropLast, wt⟩ from by
        rw [HDO13.out, if_neg (by rw [← HV.out, h0]; simp)])
      have hb0 : (v != 0) = false := by simp [h0]
      clear h0
      go_quiet (fail)
      go_wp2_with fail
      go_end0
      exact LanePost.comp HF2.out (LanePost.pop HC2.out HK2.out (List.getElem_set_self ..) hb2 (below_drewN (Below.refl _ _) _) rfl HLQ.out HD.out)
    · have hb0 : (v != 0) = true := by simpa using h0
      have H0 := mkHid h0
      clear h0
      by_cases ht : 0 < t
      · have hd : decide (0 < t) = true := by simpa using ht
        have HD := mkHid (show (doStep xs id p x (⟨some ⟨R, 0, none⟩, rc, zs, p, some ⟨T, 0, none⟩, tc, ts, wt⟩ : Lt).st mem).1 = ⟨zs, (b : Int) + 1, ts.set q (t - 1), wt⟩ from by
          rw [HDO13.out, HLA.out, if_pos ⟨by rw [← HV.out]; exact H0.out, ht⟩]
          simp only [set_last HLQ.out])
        go_quiet (fail)
        go_wp2_with fail
        refine bodyPost_ret (results_none rfl _ _ _) rfl ?_
        exact LanePost.comp HF2.out (LanePost.turnPc HC2.out HK2.out (List.getElem_set_self ..) hb2 (below_drewN (Below.refl _ _) _) rfl q (t - 1) ((b : Int) + 1) HD.out)
      · have hd : decide (0 < t) = false := by simpa using ht
        have HD := mkHid (show (doStep xs id p x (⟨some ⟨R, 0, none⟩, rc, zs, p, some ⟨T, 0, none⟩, tc, ts, wt⟩ : Lt).st mem).1 = ⟨zs, (p : Int) + 1, ts.dropLast, wt⟩ from by
          rw [HDO13.out, HLA.out, if_neg (fun h => ht h.2)])
        go_quiet (fail)
        go_wp2_with fail
        go_end0
        exact LanePost.comp HF2.out (LanePost.pop HC2.out HK2.out (List.getElem_set_self ..) hb2 (below_drewN (Below.refl _ _) _) rfl HLQ.out HD.out)
end Go.Proofs.Ytjmiilneennjaaa
