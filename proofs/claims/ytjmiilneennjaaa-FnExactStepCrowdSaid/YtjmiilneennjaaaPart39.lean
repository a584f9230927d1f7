/-
  Parts of a proof: CMarkCr.
-/
import Derived.Test.YtjmiilneennjaaaPart12
import Derived.Test.YtjmiilneennjaaaPart19
namespace Go.Proofs.Ytjmiilneennjaaa
open Go.RowKit
set_option maxHeartbeats 2000000
set_option maxRecDepth 100000
set_option linter.unusedVariables false
set_option linter.unusedSimpArgs false

/-! ### marks -/
def mkLt (k : Int) (l : Lt) : Lt := ⟨l.ra, l.rc, marks k l.zs.length, k + l.zs.length, l.ta, l.tc, marks (k + l.zs.length + 1) l.ts.length, (k + l.zs.length + 1 + l.ts.length) % 3 == 0⟩
def wideL (l : Lt) : Nat := l.zs.length + l.ts.length + 2
def wideLs : List Lt → Nat
  | [] => 0
  | l :: ls => wideL l + wideLs ls
def mkLts : Int → List Lt → List Lt
  | _, [] => []
  | k, l :: ls => mkLt k l :: mkLts (k + wideL l) ls
theorem wideLs_append (xs ys : List Lt) : wideLs (xs ++ ys) = wideLs xs + wideLs ys := by
  induction xs with
  | nil => simp [wideLs]
  | cons x xs ih => simp only [List.cons_append, wideLs, ih]; omega
theorem mkLts_append (k : Int) (xs ys : List Lt) : mkLts k (xs ++ ys) = mkLts k xs ++ mkLts (k + wideLs xs) ys := by
  induction xs generalizing k with
  | nil => simp [mkLts, wideLs]
  | cons x xs ih =>
    simp only [List.cons_append, mkLts, wideLs, ih]
    congr 3
    omega
theorem mkLts_length (k : Int) (xs : List Lt) : (mkLts k xs).length = xs.length := by
  induction xs generalizing k with
  | nil => rfl
  | cons x xs ih => simp [mkLts, ih]
theorem wideLs_le (ls : List Lt) (h : ∀ l ∈ ls, l.zs.length ≤ 1048576 ∧ l.ts.length ≤ 1048576) : wideLs ls ≤ 2097154 * ls.length := by
  induction ls with
  | nil => simp [wideLs]
  | cons l ls ih =>
    have h1 := h l (by simp)
    have h2 := ih (fun x hx => h x (by simp [hx]))
    simp only [wideLs, wideL, List.length_cons]
    omega
def midLts (k : Int) (ls : List Lt) (i : Nat) : List Lt := mkLts k (ls.take i) ++ ls.drop i
theorem midLts_length (k : Int) (ls : List Lt) {i : Nat} (h : i ≤ ls.length) : (midLts k ls i).length = ls.length := by
  unfold midLts; rw [List.length_append, mkLts_length, List.length_take, List.length_drop]; omega
theorem midLts_at (k : Int) (ls : List Lt) {i : Nat} (h : i < ls.length) : (midLts k ls i)[i]'(by rw [midLts_length k ls (by omega)]; exact h) = ls[i] := by
  unfold midLts
  rw [List.getElem_append_right (by rw [mkLts_length, List.length_take]; omega)]
  simp only [mkLts_length, List.length_take, List.getElem_drop]
  congr 1
  omega
theorem wideLs_take {ls : List Lt} {i : Nat} (h : i < ls.length) : wideLs (ls.take (i + 1)) = wideLs (ls.take i) + wideL ls[i] := by
  rw [List.take_succ_eq_append_getElem h, wideLs_append]; rfl
theorem midLts_step (k : Int) (ls : List Lt) {i : Nat} (h : i < ls.length) : (midLts k ls i).set i (mkLt (k + wideLs (ls.take i)) ls[i]) = midLts k ls (i + 1) := by
  unfold midLts
  rw [List.set_append_right _ _ (by rw [mkLts_length, List.length_take]; omega), mkLts_length, List.length_take, Nat.min_eq_left (Nat.le_of_lt h), Nat.sub_self, List.drop_eq_getElem_cons h, List.set_cons_zero, List.take_succ_eq_append_getElem h, mkLts_append]
  simp [mkLts]
theorem midLts_full (k : Int) (ls : List Lt) : midLts k ls ls.length = mkLts k ls := by
  unfold midLts; simp
theorem mkLts_at (k : Int) (ls : List Lt) {i : Nat} (h : i < ls.length) : (mkLts k ls)[i]'(by rw [mkLts_length]; exact h) = mkLt (k + wideLs (ls.take i)) ls[i] := by
  have h1 : mkLts k ls = mkLts k (ls.take i ++ ls.drop i) := by rw [List.take_append_drop]
  have h2 : mkLts k ls = mkLts k (ls.take i) ++ mkLt (k + wideLs (ls.take i)) ls[i] :: mkLts (k + wideLs (ls.take i) + wideL ls[i]) (ls.drop (i + 1)) := by
    rw [h1, mkLts_append, List.drop_eq_getElem_cons h]; rfl
  have h3 : (mkLts k ls)[i]? = some (mkLt (k + wideLs (ls.take i)) ls[i]) := by
    rw [h2, List.getElem?_append_right (by rw [mkLts_length, List.length_take]; omega), mkLts_length, List.length_take, Nat.min_eq_left (Nat.le_of_lt h), Nat.sub_self]
    rfl
  rw [List.getElem?_eq_getElem (by rw [mkLts_length]; exact h)] at h3
  exact Option.some.inj h3
/-! ### one lane of a crowd -/
section
variable {w w' : World} {base c G k : Nat} {ls : List Lt} {m : IR} {l : Lt}
/-- the turns have turned, in their row. -/
theorem CrAt.tmark (h : CrAt w base (some ⟨G, 0, none⟩) c ls m) (hk : k < ls.length) {rs : List Int} (hl : rs.length = ls[k].ts.length) (hg : w.grownBy w' (ltT ls[k]).ownBlock) (ho : w'.ownsRow base 3 1 (ltT ls[k]) ls[k].ts.length (ints rs)) :
    CrAt w' base (some ⟨G, 0, none⟩) c (ls.set k ⟨ls[k].ra, ls[k].rc, ls[k].zs, ls[k].at_, ls[k].ta, ls[k].tc, rs, ls[k].wt⟩) m := by
  obtain ⟨cs, hq⟩ := h.heapG
  have hne : (ltT ls[k]).ownBlock ≠ some G := own_ne_heapA (h.t hk) hq (by decide)
  refine ⟨?_, ?_⟩
  · have hl1 : w'.ownsRow base 52 4 (.slice (some ⟨G, 0, none⟩) ls.length c) ls.length (tflat ls) := own_grown' h.1 hg (fun g e1 e2 => by
      have e1 : G = g := by simpa [Value.ownBlock] using e1
      subst e1
      exact hne e2)
    have hsame : tflat (ls.set k ⟨ls[k].ra, ls[k].rc, ls[k].zs, ls[k].at_, ls[k].ta, ls[k].tc, rs, ls[k].wt⟩) = tflat ls := by
      have hc : ltCells ⟨ls[k].ra, ls[k].rc, ls[k].zs, ls[k].at_, ls[k].ta, ls[k].tc, rs, ls[k].wt⟩ = (ltCells ls[k]).set 3 (.bool ls[k].wt) := by
        simp [ltCells, ltR, ltT, hl]
      rw [← tflat_set1 ls k 3 _ (.bool ls[k].wt) hk (by omega) hc]
      refine set_same _ _ (by rw [tflat_length]; omega) _ ?_
      have := tflat_at ls k 3 hk (by omega)
      rw [List.getElem?_eq_getElem (by rw [tflat_length]; omega)] at this
      exact Option.some.inj this
    rw [hsame, set_len]
    exact hl1
  · have hs := h.2.set (w' := w') (t := 2 * k + 2) (by rw [List.length_cons, rowsL_len]; omega) ⟨ls[k].ta, ls[k].tc, rs⟩ (by rw [List.getElem_cons_succ, rowsL_t ls k hk]; exact hg)
      (by
        show World.ownsRow _ base 3 1 (.slice ls[k].ta rs.length ls[k].tc) rs.length (ints rs)
        rw [hl]; exact ho)
      (by
        rw [List.getElem_cons_succ, rowsL_t ls k hk]
        intro g e
        left
        simp only [irV, hl] at e
        exact e)
    rw [show 2 * k + 2 = (2 * k + 1) + 1 from rfl, cons_set] at hs
    rw [rows_setT ls k ⟨ls[k].ra, ls[k].rc, ls[k].zs, ls[k].at_, ls[k].ta, ls[k].tc, rs, ls[k].wt⟩ hk rfl]
    exact hs
theorem set_at (ls : List Lt) (k : Nat) (l : Lt) (h : k < (ls.set k l).length) : (ls.set k l)[k] = l := by simp
theorem CrAt.atS (h : CrAt w base (some ⟨G, 0, none⟩) c (ls.set k l) m) (hk : k < ls.length) :
    ((w.cell? ⟨G, k * 4, none⟩ = some (ltR l) ∧ w.cell? ⟨G, k * 4 + 1, none⟩ = some (.int .i64 l.at_) ∧ w.cell? ⟨G, k * 4 + 2, none⟩ = some (ltT l) ∧ w.cell? ⟨G, k * 4 + 3, none⟩ = some (.bool l.wt)) ∧
    (w.frozen? ⟨G, k * 4, none⟩ = false ∧ w.frozen? ⟨G, k * 4 + 1, none⟩ = false ∧ w.frozen? ⟨G, k * 4 + 2, none⟩ = false ∧ w.frozen? ⟨G, k * 4 + 3, none⟩ = false)) ∧
    w.ownsRow base 3 1 (ltR l) l.zs.length (ints l.zs) ∧ w.ownsRow base 3 1 (ltT l) l.ts.length (ints l.ts) := by
  have hk' : k < (ls.set k l).length := by rw [set_len]; exact hk
  have h1 := h.cells hk'
  have h2 := h.r hk'
  have h3 := h.t hk'
  rw [set_at] at h1 h2 h3
  exact ⟨h1, h2, h3⟩
theorem CrAt.regsS (h : CrAt w base (some ⟨G, 0, none⟩) c (ls.set k l) m) (hk : k < ls.length) {rs : List Int} (hl : rs.length = l.zs.length) (hg : w.grownBy w' (ltR l).ownBlock) (ho : w'.ownsRow base 3 1 (ltR l) l.zs.length (ints rs)) :
    CrAt w' base (some ⟨G, 0, none⟩) c (ls.set k ⟨l.ra, l.rc, rs, l.at_, l.ta, l.tc, l.ts, l.wt⟩) m := by
  have hk' : k < (ls.set k l).length := by rw [set_len]; exact hk
  have h1 := h.regs hk' (w' := w') (rs := rs) (by rw [set_at]; exact hl) (by rw [set_at]; exact hg) (by rw [set_at]; exact ho)
  simp only [set_at, List.set_set] at h1
  exact h1
theorem CrAt.turnsS (h : CrAt w base (some ⟨G, 0, none⟩) c (ls.set k l) m) (hk : k < ls.length) {rs : List Int} (hl : rs.length = l.ts.length) (hg : w.grownBy w' (ltT l).ownBlock) (ho : w'.ownsRow base 3 1 (ltT l) l.ts.length (ints rs)) :
    CrAt w' base (some ⟨G, 0, none⟩) c (ls.set k ⟨l.ra, l.rc, l.zs, l.at_, l.ta, l.tc, rs, l.wt⟩) m := by
  have hk' : k < (ls.set k l).length := by rw [set_len]; exact hk
  have h1 := h.tmark hk' (w' := w') (rs := rs) (by rw [set_at]; exact hl) (by rw [set_at]; exact hg) (by rw [set_at]; exact ho)
  simp only [set_at, List.set_set] at h1
  exact h1
theorem CrAt.pcS (h : CrAt w base (some ⟨G, 0, none⟩) c (ls.set k l) m) (hk : k < ls.length) (z : Int) :
    CrAt (w.setCell ⟨G, k * 4 + 1, none⟩ (.int .i64 z)) base (some ⟨G, 0, none⟩) c (ls.set k ⟨l.ra, l.rc, l.zs, z, l.ta, l.tc, l.ts, l.wt⟩) m := by
  have hk' : k < (ls.set k l).length := by rw [set_len]; exact hk
  have h1 := h.pc hk' z
  simp only [set_at, List.set_set] at h1
  exact h1
theorem CrAt.wtS (h : CrAt w base (some ⟨G, 0, none⟩) c (ls.set k l) m) (hk : k < ls.length) (b : Bool) :
    CrAt (w.setCell ⟨G, k * 4 + 3, none⟩ (.bool b)) base (some ⟨G, 0, none⟩) c (ls.set k ⟨l.ra, l.rc, l.zs, l.at_, l.ta, l.tc, l.ts, b⟩) m := by
  have hk' : k < (ls.set k l).length := by rw [set_len]; exact hk
  have h1 := h.wt hk' b
  simp only [set_at, List.set_set] at h1
  exact h1
end
/-! ### what may turn -/
/-- nothing has turned but blocks from lo up to hi. -/
def Btw (lo hi : Nat) (w w' : World) : Prop := Below 0 w w' ∧ ∀ i, i < w.heap.size → (i < lo ∨ hi ≤ i) → w'.heap[i]? = w.heap[i]?
theorem Btw.refl (lo hi : Nat) (w : World) : Btw lo hi w w := ⟨Below.refl _ _, fun _ _ _ => rfl⟩
theorem Btw.trans {lo hi : Nat} {a b c : World} (h : Btw lo hi a b) (k : Btw lo hi b c) : Btw lo hi a c :=
  ⟨h.1.trans k.1, fun i hi ho => (k.2 i (Nat.lt_of_lt_of_le hi h.1.size) ho).trans (h.2 i hi ho)⟩
theorem Btw.grown {lo hi : Nat} {a b : World} {row : Option Nat} (h : a.grownBy b row) (hr : ∀ g, row = some g → lo ≤ g ∧ g < hi) : Btw lo hi a b :=
  ⟨(Below.refl 0 a).grown h (Nat.zero_le _) (fun g e => Nat.zero_le _), fun i hi ho => h.block i hi (fun e => by have := hr i e.symm; omega)⟩
theorem Btw.of {lo hi : Nat} {a b : World} (h : Below a.heap.size a b) : Btw lo hi a b := ⟨h.mono (Nat.zero_le _), fun i hi _ => h.block i hi⟩
theorem Btw.below {lo hi n : Nat} {a b : World} (h : Btw lo hi a b) (hl : n ≤ lo) (hn : n ≤ a.heap.size) : Below n a b := ⟨h.1.os, h.1.tape, h.1.output, h.1.size, fun i hi => h.2 i (by omega) (.inl (by omega))⟩
theorem Btw.own {lo hi base s n : Nat} {a b : World} {e : TypeId} {v : Value} {xs : List Value} (h : Btw lo hi a b) (ho : a.ownsRow base e s v n xs) (hb : hi ≤ base) : b.ownsRow base e s v n xs := by
  refine ⟨ho.1, ?_⟩
  rcases ho.2 with h2 | ⟨g, cap, cur, hv, h1, h2, h3⟩
  · exact .inl h2
  · right
    refine ⟨g, cap, cur, hv, h1, ?_, h3⟩
    have hlt := (ho.lt g (by rw [hv]; rfl)).1
    rw [h.2 g (Array.getElem?_eq_some_iff.1 h2).1 (.inr (by omega))]
    exact h2
theorem Btw.cr {lo hi base c : Nat} {a b : World} {A : Option Addr} {ls : List Lt} {m : IR} (h : Btw lo hi a b) (hc : CrAt a base A c ls m) (hb : hi ≤ base) : CrAt b base A c ls m :=
  ⟨h.own hc.1 hb, fun r hr => h.own (hc.2.1 r hr) hb, hc.2.2⟩
/-- a crowd's blocks lie below hi. -/
def CrHi (A : Option Addr) (c : Nat) (ls : List Lt) (m : IR) (hi : Nat) : Prop :=
  (∀ g, (Value.slice A ls.length c).ownBlock = some g → g < hi) ∧ ∀ r ∈ m :: rowsL ls, ∀ g, (irV r).ownBlock = some g → g < hi
theorem CrHi.of {w : World} {base c : Nat} {A : Option Addr} {ls : List Lt} {m : IR} (h : CrAt w base A c ls m) : CrHi A c ls m w.heap.size :=
  ⟨fun g e => (h.1.lt g e).2, fun r hr g e => ((h.2.1 r hr).lt g e).2⟩
theorem CrHi.r {hi c : Nat} {A : Option Addr} {ls : List Lt} {m : IR} (h : CrHi A c ls m hi) {k : Nat} (hk : k < ls.length) : ∀ g, (ltR ls[k]).ownBlock = some g → g < hi := by
  have := h.2 ((rowsL ls)[2 * k]'(by rw [rowsL_len]; omega)) (List.mem_cons_of_mem _ (List.getElem_mem _))
  rw [rowsL_r ls k hk] at this
  exact this
theorem CrHi.t {hi c : Nat} {A : Option Addr} {ls : List Lt} {m : IR} (h : CrHi A c ls m hi) {k : Nat} (hk : k < ls.length) : ∀ g, (ltT ls[k]).ownBlock = some g → g < hi := by
  have := h.2 ((rowsL ls)[2 * k + 1]'(by rw [rowsL_len]; omega)) (List.mem_cons_of_mem _ (List.getElem_mem _))
  rw [rowsL_t ls k hk] at this
  exact this
theorem markLts_any (A : Option Addr) (c : Nat) (ls : List Lt) (m : IR) (k0 : Int) (base : Nat) (w : World) (hk0 : 0 ≤ k0 ∧ k0 ≤ 1000) (hn : ls.length ≤ 1048576) (hll : ∀ l ∈ ls, l.zs.length ≤ 1048576 ∧ l.ts.length ≤ 1048576) (hb : base ≤ w.heap.size) {hi : Nat} (hhi : CrHi A c ls m hi) (h : CrAt w base A c ls m) :
    Calls Try.prog 64 #[.slice A ls.length c, .int .i64 k0] w fun e w' => e = .returned (.int .i64 (k0 + wideLs ls)) ∧ CrAt w' base A c (mkLts k0 ls) m ∧ Frm base w w' ∧ Btw base hi w w' := by
  have HLL := mkHid hll
  have H0 := mkHid h
  have HHI := mkHid hhi
  clear hll h hhi
  obtain ⟨n, hn'⟩ : ∃ n, n = ls.length := ⟨_, rfl⟩
  have HN := mkHid hn'
  rw [← hn'] at hn
  rw [← hn']
  clear hn'
  go_enter Try.func64, Try.ntmps64
  go_wp2_with fail
  go_loopw [1, 5] (fun kv i wr => ∃ j : Nat, j ≤ n ∧ i = .int .i64 j ∧ ∃ q : Int, kv = .int .i64 q ∧ Hid (q = k0 + wideLs (ls.take j)) ∧ (0 ≤ q ∧ q ≤ 1000 + 2097154 * j) ∧ CrAt wr base A c (midLts k0 ls j) m ∧ Frm base w wr ∧ Btw base hi w wr) (fun _ i _ => n - (intOf i).toNat)
  case atStart => exact ⟨0, by omega, rfl, k0, rfl, mkHid (by simp [wideLs]), ⟨by omega, by omega⟩, by simpa [midLts, mkLts] using H0.out, Frm.refl _ _, Btw.refl _ _ _⟩
  case round =>
    clear H0
    obtain ⟨j, hj, rfl, q, rfl, HQ, ⟨q0, q1⟩, hcr, hf, hbt⟩ := hrel
    have HT := mkHid hbt
    clear hbt
    by_cases hlt : j < n
    · have hjl : j < ls.length := by rw [← HN.out]; exact hlt
      have HJL := mkHid hjl
      have hLl := midLts_length k0 ls (i := j) (by omega)
      have hLat := midLts_at k0 ls hjl
      have HSTEP := mkHid (midLts_step k0 ls hjl)
      have HHR := mkHid (HHI.out.r hjl)
      have HHT := mkHid (HHI.out.t hjl)
      have HWT := mkHid (wideLs_take hjl)
      obtain ⟨L, hL⟩ : ∃ L, L = midLts k0 ls j := ⟨_, rfl⟩
      rw [← HQ.out] at HSTEP
      have hJL : j < L.length := by rw [hL, hLl]; exact hjl
      have HJ := mkHid hJL
      have hz := HLL.out _ (List.getElem_mem hjl)
      obtain ⟨l, hl⟩ : ∃ l, l = ls[j]'hjl := ⟨_, rfl⟩
      rw [← hl] at HSTEP HWT hz HHR HHT
      have hcL : CrAt wr base A c (L.set j l) m := by
        rw [set_same L j hJL l (by simp only [hL]; rw [hLat, hl]), hL]; exact hcr
      rw [← hL] at HSTEP
      have HZL := mkHid (show L.length = n by rw [hL, hLl, HN.out])
      have hbr := Nat.le_trans hb hf.1.size
      have HF := mkHid hf
      clear hcr hl hLat hLl hL hjl hJL hf
      obtain ⟨G, rfl, hGb, _⟩ := hcL.castA (k := j) (by rw [set_len]; exact HJ.out)
      have hGh := HHI.out.1 G rfl
      have HC := mkHid hcL
      obtain ⟨⟨⟨g0, g1, g2, g3⟩, f0, f1, f2, f3⟩, hr, ht⟩ := hcL.atS HJ.out
      obtain ⟨ra, rc, zs, at_, ta, tc, ts, wt⟩ := l
      simp only [ltR, ltT] at g0 g2 hr ht hz
      have HM1 := mkHid (markIntS_any ra rc zs q base wr q0 (by omega) (by omega) hr)
      have hz1 := hz.1
      have hz2 := hz.2
      clear hcL hr ht hz
      go_wp2_with fail
      refine HM1.out.mono ?_
      rintro e w2 ⟨rfl, o2, gr2⟩
      have HC2 := mkHid (HC.out.regsS HJ.out (rs := marks q zs.length) (marks_length _ _) gr2 o2)
      have hf2 : Frm base wr w2 := Frm.rowOf gr2 hbr (HC.out.atS HJ.out).2.1 (Nat.le_refl _) (.inl rfl)
      have HF2 := mkHid (HF.out.trans hf2)
      have HT2 := mkHid (HT.out.trans (Btw.grown gr2 (fun g e => ⟨((HC.out.atS HJ.out).2.1.lt g e).1, HHR.out g e⟩)))
      have hbr2 := Nat.le_trans hbr hf2.1.size
      clear o2 gr2 hf2 g0 g1 g2 g3 f0 f1 f2 f3 HM1
      obtain ⟨⟨⟨g0, g1, g2, g3⟩, f0, f1, f2, f3⟩, _, _⟩ := HC2.out.atS HJ.out
      simp only [ltR, ltT] at g0 g2
      have HC3 := mkHid (HC2.out.pcS HJ.out (q + zs.length))
      have HF3 := mkHid (HF2.out.trans (HC2.out.frmG hbr2 (j * 4 + 1) (.int .i64 (q + zs.length))))
      have HT3 := mkHid (HT2.out.trans (Btw.grown (grown_setCell w2 G (j * 4 + 1) (.int .i64 (q + zs.length))) (fun g e => by injection e with e; omega)))
      have HM2 := mkHid (markIntS_any ta tc ts (q + zs.length + 1) base _ (by omega) (by omega) (by omega) (HC3.out.atS HJ.out).2.2)
      clear HC2 HF2
      go_wp2_with fail
      refine HM2.out.mono ?_
      rintro e w3 ⟨rfl, o3, gr3⟩
      have HC4 := mkHid (HC3.out.turnsS HJ.out (rs := marks (q + zs.length + 1) ts.length) (marks_length _ _) gr3 o3)
      have hf3 : Frm base _ w3 := Frm.rowOf gr3 (by rw [setCell_size]; exact hbr2) (HC3.out.atS HJ.out).2.2 (Nat.le_refl _) (.inl rfl)
      have HF4 := mkHid (HF3.out.trans hf3)
      have HT4 := mkHid (HT3.out.trans (Btw.grown gr3 (fun g e => ⟨((HC3.out.atS HJ.out).2.2.lt g e).1, HHT.out g e⟩)))
      have hbr3 := hf3.1.size
      rw [setCell_size] at hbr3
      clear o3 gr3 hf3 g0 g1 g2 g3 f0 f1 f2 f3 HM2 HC3 HF3
      obtain ⟨⟨⟨g0, g1, g2, g3⟩, f0, f1, f2, f3⟩, _, _⟩ := HC4.out.atS HJ.out
      simp only [ltR, ltT] at g0 g2
      have HC5 := mkHid (HC4.out.wtS HJ.out ((q + zs.length + 1 + ts.length) % 3 == 0))
      have HF5 := mkHid (HF4.out.trans (HC4.out.frmG (Nat.le_trans hbr2 hbr3) (j * 4 + 3) (.bool ((q + zs.length + 1 + ts.length) % 3 == 0))))
      have HT5 := mkHid (HT4.out.trans (Btw.grown (grown_setCell w3 G (j * 4 + 3) (.bool ((q + zs.length + 1 + ts.length) % 3 == 0))) (fun g e => by injection e with e; omega)))
      clear HC4 HF4
      go_wp2_with fail
      go_roundw
      case rel =>
        refine ⟨j + 1, by omega, by go_num, q + zs.length + 1 + ts.length + 1, rfl, mkHid ?_, ⟨by omega, by omega⟩, ?_, HF5.out, HT5.out⟩
        · have a := HWT.out
          have b := HQ.out
          simp only [wideL] at a
          rw [a]
          omega
        · rw [← HSTEP.out]
          have := HC5.out
          simp only [mkLt, marks_length] at this ⊢
          exact this
      case measure => simp [intOf] <;> omega
    · have hjn : j = n := by omega
      subst hjn
      have HC := mkHid hcr
      have HF := mkHid hf
      clear hcr hf
      go_wp2_with fail
      go_ret
      have h1 := HC.out
      have h2 := HQ.out
      rw [HN.out, midLts_full] at h1
      rw [HN.out, List.take_length] at h2
      exact ⟨by rw [h2]; rfl, h1, HF.out, HT.out⟩
theorem heldLts_any (A : Option Addr) (c : Nat) (ls : List Lt) (k0 : Int) (w : World) (hk0 : 0 ≤ k0 ∧ k0 ≤ 1000) (hn : ls.length ≤ 1048576) (hll : ∀ l ∈ ls, l.zs.length ≤ 1048576 ∧ l.ts.length ≤ 1048576) (hs : TGrid w A (mkLts k0 ls)) :
    Calls Try.prog 66 #[.slice A ls.length c, .int .i64 k0] w fun e w' => e = .returned (.int .i64 (k0 + wideLs ls)) ∧ w = w' := by
  have HLL := mkHid hll
  have HS := mkHid hs
  clear hll hs
  obtain ⟨n, hn'⟩ : ∃ n, n = ls.length := ⟨_, rfl⟩
  have HN := mkHid hn'
  rw [← hn'] at hn
  rw [← hn']
  clear hn'
  go_enter Try.func66, Try.ntmps66
  go_wp2_with fail
  go_loop [1, 5] (fun kv i => ∃ j : Nat, j ≤ n ∧ i = .int .i64 j ∧ ∃ q : Int, kv = .int .i64 q ∧ Hid (q = k0 + wideLs (ls.take j)) ∧ (0 ≤ q ∧ q ≤ 1000 + 2097154 * j)) (fun _ i => n - (intOf i).toNat)
  case atStart => exact ⟨0, by omega, rfl, k0, rfl, mkHid (by simp [wideLs]), ⟨by omega, by omega⟩⟩
  case round =>
    obtain ⟨j, hj, rfl, q, rfl, HQ, ⟨q0, q1⟩⟩ := hrel
    by_cases hlt : j < n
    · have hjl : j < ls.length := by rw [← HN.out]; exact hlt
      have hml : j < (mkLts k0 ls).length := by rw [mkLts_length]; exact hjl
      have HWT := mkHid (wideLs_take hjl)
      have hz := HLL.out _ (List.getElem_mem hjl)
      obtain ⟨b, off, rfl, h0, h1, h2, h3⟩ := HS.out.1.lt hml
      have hsl := HS.out.2 _ (List.getElem_mem hml)
      rw [mkLts_at _ _ hjl] at h0 h1 h2 h3 hsl
      rw [← HQ.out] at h0 h1 h2 h3 hsl
      obtain ⟨l, hl⟩ : ∃ l, l = ls[j]'hjl := ⟨_, rfl⟩
      rw [← hl] at h0 h1 h2 h3 hsl HWT hz
      obtain ⟨ra, rc, zs, at_, ta, tc, ts, wt⟩ := l
      simp only [mkLt, marks_length] at h0 h1 h2 h3 hsl hz
      have HA := mkHid (heldIntS_any ra rc zs.length q w q0 (by omega) (by omega) hsl.1.1)
      have HB := mkHid (heldIntS_any ta tc ts.length (q + zs.length + 1) w (by omega) (by omega) (by omega) hsl.2.1)
      have hz1 := hz.1
      have hz2 := hz.2
      clear hsl hz hl hml hjl
      go_wp2_with fail
      refine HA.out.mono ?_
      rintro e w2 ⟨rfl, rfl⟩
      go_wp2_with fail
      refine HB.out.mono ?_
      rintro e w2 ⟨rfl, rfl⟩
      go_wp2_with fail
      go_round
      case rel => 
        refine ⟨j + 1, by omega, by go_num, q + zs.length + 1 + ts.length + 1, rfl, mkHid ?_, ⟨by omega, by omega⟩⟩
        have a := HWT.out
        have b := HQ.out
        simp only [wideL] at a
        rw [a]
        omega
      case measure => simp [intOf] <;> omega
    · have hjn : j = n := by omega
      subst hjn
      go_wp2_with fail
      go_ret
      have h2 := HQ.out
      rw [HN.out, List.take_length] at h2
      exact ⟨by rw [h2]; rfl, rfl⟩
theorem markCr_any (A : Option Addr) (c : Nat) (ls : List Lt) (m : IR) (k0 : Int) (base : Nat) (w : World) (hk0 : 0 ≤ k0 ∧ k0 ≤ 1000) (hn : ls.length ≤ 1048576) (hll : ∀ l ∈ ls, l.zs.length ≤ 1048576 ∧ l.ts.length ≤ 1048576) (hz : m.zs.length ≤ 1048576) (hb : base ≤ w.heap.size) {hi : Nat} (hhi : CrHi A c ls m hi) (hhs : hi ≤ w.heap.size) (h : CrAt w base A c ls m) :
    Calls Try.prog 21 #[.agg #[.slice A ls.length c, .slice m.a m.zs.length m.c], .int .i64 k0] w fun e w' => e = .returned (.int .i64 (k0 + wideLs ls + m.zs.length)) ∧ CrAt w' base A c (mkLts k0 ls) ⟨m.a, m.c, marks (k0 + wideLs ls) m.zs.length⟩ ∧ Btw base hi w w' := by
  have hw := wideLs_le ls hll
  have HHI := mkHid hhi
  obtain ⟨wd, hwd⟩ : ∃ wd, wd = wideLs ls := ⟨_, rfl⟩
  obtain ⟨o1, ho1⟩ : ∃ o1, o1 = Obj.cells #[.slice A ls.length c, .slice m.a m.zs.length m.c] 32 := ⟨_, rfl⟩
  have hb1 : Below w.heap.size w (w.alloc o1) := (Below.refl _ _).alloc (Nat.le_refl _) _
  have HM := mkHid (markLts_any A c ls m k0 base (w.alloc o1) hk0 hn hll (Nat.le_trans hb hb1.size) hhi (h.below hb1))
  have HT1 := mkHid (Btw.of (lo := base) (hi := hi) hb1)
  have q1 : (w.alloc o1).heap[w.heap.size]? = some o1 := heap_alloc_new _ _
  subst ho1
  have HQ1 := mkHid q1
  rw [← hwd] at HM hw ⊢
  clear hwd hb1 q1 h hll hhi
  go_enter Try.func21, Try.ntmps21
  go_wp2_with fail
  refine HM.out.mono ?_
  rintro e w2 ⟨rfl, hc2, hf2, ht2⟩
  have hq2 := hf2.2 _ _ _ _ HQ1.out (by decide) (by decide)
  obtain ⟨p0, p1⟩ := box2t hq2
  have HT2 := mkHid (HT1.out.trans ht2)
  have HC2 := mkHid hc2
  have HK := mkHid (markIntS_any m.a m.c m.zs (k0 + wd) base w2 (by omega) (by omega) (by omega) hc2.mem)
  clear hc2 hf2 ht2 hq2 HM
  go_wp2_with fail
  refine HK.out.mono ?_
  rintro e w3 ⟨rfl, o3, g3⟩
  have HC3 : Hid (CrAt w3 base A c (mkLts k0 ls) ⟨m.a, m.c, marks (k0 + wd) m.zs.length⟩) := mkHid (HC2.out.setMem _ g3 (by simp only [irV, marks_length]; exact o3) (by simp only [irV, marks_length]))
  have HT3 := mkHid (HT2.out.trans (Btw.grown g3 (fun g e => ⟨(HC2.out.mem.lt g e).1, HHI.out.2 m (List.mem_cons_self ..) g e⟩)))
  clear o3 g3 p0 p1
  go_wp2_with fail
  go_ret
  exact ⟨rfl, HC3.out, HT3.out⟩
theorem heldCr_any (A : Option Addr) (c : Nat) (ls : List Lt) (m : IR) (n : Nat) (k0 : Int) (base : Nat) (w : World) (hk0 : 0 ≤ k0 ∧ k0 ≤ 1000) (hn : ls.length ≤ 1048576) (hll : ∀ l ∈ ls, l.zs.length ≤ 1048576 ∧ l.ts.length ≤ 1048576) (hz : n ≤ 1048576) (h : CrAt w base A c (mkLts k0 ls) ⟨m.a, m.c, marks (k0 + wideLs ls) n⟩) :
    Calls Try.prog 23 #[.agg #[.slice A ls.length c, .slice m.a n m.c], .int .i64 k0] w fun e w' => e = .returned (.int .i64 (k0 + wideLs ls + n)) ∧ Below w.heap.size w w' := by
  have hw := wideLs_le ls hll
  obtain ⟨wd, hwd⟩ : ∃ wd, wd = wideLs ls := ⟨_, rfl⟩
  obtain ⟨o1, ho1⟩ : ∃ o1, o1 = Obj.cells #[.slice A ls.length c, .slice m.a n m.c] 32 := ⟨_, rfl⟩
  have hb1 : Below w.heap.size w (w.alloc o1) := (Below.refl _ _).alloc (Nat.le_refl _) _
  have h1 := h.below hb1
  have hsl := Sl.of_own h1.mem
  simp only at hsl
  have HM := mkHid (heldLts_any A c ls k0 (w.alloc o1) hk0 hn hll h1.grid')
  rw [← hwd] at HM hsl hw ⊢
  have HI := mkHid (heldIntS_any m.a m.c n (k0 + wd) (w.alloc o1) (by omega) (by omega) (by omega) hsl)
  have HB := mkHid hb1
  subst ho1
  clear hwd hb1 h h1 hsl hll
  go_enter Try.func23, Try.ntmps23
  go_wp2_with fail
  refine HM.out.mono ?_
  rintro e w2 ⟨rfl, rfl⟩
  go_wp2_with fail
  refine HI.out.mono ?_
  rintro e w2 ⟨rfl, rfl⟩
  go_wp2_with fail
  go_ret
  exact ⟨rfl, HB.out⟩
end Go.Proofs.Ytjmiilneennjaaa
