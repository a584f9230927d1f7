/-
  Parts of a proof: CLaneV.
-/
import Derived.Test.YtjmiilneennjaaaPart09
namespace Go.Proofs.Ytjmiilneennjaaa
open Go.RowKit
set_option maxHeartbeats 4000000
set_option maxRecDepth 100000
set_option linter.unusedVariables false

theorem box4t {w : World} {B : Nat} {c0 c1 c2 c3 : Value} {ty : TypeId} (h : w.heap[B]? = some (.cells #[c0, c1, c2, c3] ty (0, 0))) :
    (w.cell? ⟨B, 0, none⟩ = some c0 ∧ w.cell? ⟨B, 1, none⟩ = some c1 ∧ w.cell? ⟨B, 2, none⟩ = some c2 ∧ w.cell? ⟨B, 3, none⟩ = some c3) ∧ w.frozen? ⟨B, 0, none⟩ = false ∧ w.frozen? ⟨B, 1, none⟩ = false ∧ w.frozen? ⟨B, 2, none⟩ = false ∧ w.frozen? ⟨B, 3, none⟩ = false :=
  ⟨⟨cell_of_row _ _ _ _ _ _ h, cell_of_row _ _ _ _ _ _ h, cell_of_row _ _ _ _ _ _ h, cell_of_row _ _ _ _ _ _ h⟩, frozen_of_row _ _ _ _ _ h, frozen_of_row _ _ _ _ _ h, frozen_of_row _ _ _ _ _ h, frozen_of_row _ _ _ _ _ h⟩
/-- a lane's rows lie in w. -/
def LaneIn (w : World) (l : Lt) : Prop := (Sl w l.ra (ints l.zs) ∧ l.zs.length ≤ 9223372036854775807) ∧ (Sl w l.ta (ints l.ts) ∧ l.ts.length ≤ 9223372036854775807)
theorem LaneIn.below {w w' : World} {l : Lt} (h : LaneIn w l) (hb : Below w.heap.size w w') : LaneIn w' l := ⟨⟨h.1.1.below hb, h.1.2⟩, ⟨h.2.1.below hb, h.2.2⟩⟩
theorem TGrid.lane {w : World} {A : Option Addr} {ls : List Lt} (h : TGrid w A ls) {k : Nat} (hk : k < ls.length) : LaneIn w ls[k] := h.2 _ (List.getElem_mem hk)
def LaneBox (w : World) (B : Nat) (l : Lt) : Prop := w.heap[B]? = some (.cells #[.slice l.ra l.zs.length l.rc, .int .i64 l.at_, .slice l.ta l.ts.length l.tc, .bool l.wt] 52 (0, 0))
theorem LaneBox.below {w w' : World} {B : Nat} {l : Lt} (h : LaneBox w B l) (hb : Below w.heap.size w w') : LaneBox w' B l := (hb.block _ (Array.getElem?_eq_some_iff.1 h).1).trans h
theorem laneValid_false {xs : List Cd} {s : LS} (h : progValid xs = false ∨ inB s.pc 0 xs.length = false ∨ (s.regs.length == 4) = false ∨ s.regs.all (fun z => inB z 0 255) = false ∨ waitOk xs s = false ∨ turnsOk (loopBs xs s.pc.toNat) s.turns = false) : laneValid xs s = false := by
  unfold laneValid laneOk
  rcases h with h | h | h | h | h | h <;> rw [h] <;> simp
theorem laneValid_all {xs : List Cd} {s : LS} (h1 : progValid xs = true) (h2 : inB s.pc 0 xs.length = true) (h3 : (s.regs.length == 4) = true) (h4 : s.regs.all (fun z => inB z 0 255) = true) (h5 : waitOk xs s = true) : laneValid xs s = turnsOk (loopBs xs s.pc.toNat) s.turns := by
  unfold laneValid laneOk
  rw [h1, h2, h3, h4, h5]; simp
/-- the numbers of the loops among the first blocks. -/
def loopBsUpto (xs : List Cd) (k j : Nat) : List Int := (((stk (ops xs) k).take j).filter fun b => opAt (ops xs) b == 13).map fun b => (codeAt xs b).b
theorem loopBsUpto_s {xs : List Cd} {k j : Nat} (h : j < (stk (ops xs) k).length) : loopBsUpto xs k (j + 1) = if opAt (ops xs) ((stk (ops xs) k)[j]) == 13 then loopBsUpto xs k j ++ [(codeAt xs ((stk (ops xs) k)[j])).b] else loopBsUpto xs k j := by
  unfold loopBsUpto
  rw [List.take_succ_eq_append_getElem h, List.filter_append, List.map_append]
  split
  · rename_i hc
    simp [hc]
  · rename_i hc
    simp [hc]
theorem loopBsUpto_all {xs : List Cd} {k j : Nat} (h : (stk (ops xs) k).length ≤ j) : loopBsUpto xs k j = loopBs xs k := by
  unfold loopBsUpto loopBs loopsAt
  rw [List.take_of_length_le h]
theorem loopBsUpto_len (xs : List Cd) (k j : Nat) : (loopBsUpto xs k j).length ≤ j := by
  unfold loopBsUpto
  rw [List.length_map]
  exact Nat.le_trans (List.length_filter_le _ _) (by simp; omega)
theorem loopBs_in {xs : List Cd} (hv : progValid xs = true) {k : Nat} (hk : k ≤ xs.length) : ∀ b ∈ loopBs xs k, 1 ≤ b ∧ b ≤ 4 := by
  intro z hz
  obtain ⟨b, hb, rfl⟩ := List.mem_map.1 hz
  have hm := loops_mem hb
  have hbl : b < xs.length := by omega
  exact (valid_nums (codeAt_valid hv hbl)).2.2.2.2.1 (by rw [← codeAt_op hbl]; exact hm.2.1)
def turnsUpto (bs ts : List Int) (j : Nat) : Bool := (List.range j).all fun i => inB (ts.getD i 0) 0 (bs.getD i 0 - 1)
theorem turnsUpto_s (bs ts : List Int) (j : Nat) : turnsUpto bs ts (j + 1) = (turnsUpto bs ts j && inB (ts.getD j 0) 0 (bs.getD j 0 - 1)) := by simp [turnsUpto, List.range_succ, List.all_append]
theorem turnsOk_len {bs ts : List Int} (h : bs.length ≠ ts.length) : turnsOk bs ts = false := by
  unfold turnsOk
  have : (bs.length == ts.length) = false := by simpa using h
  rw [this]; rfl
theorem turnsOk_all {bs ts : List Int} (h : bs.length = ts.length) : turnsOk bs ts = turnsUpto bs ts ts.length := by
  unfold turnsOk turnsUpto
  rw [h]; simp
theorem turnsOk_no {bs ts : List Int} {j : Nat} (hj : j < ts.length) (h : inB (ts.getD j 0) 0 (bs.getD j 0 - 1) = false) : turnsOk bs ts = false := by
  unfold turnsOk
  have : ((List.range ts.length).all fun i => inB (ts.getD i 0) 0 (bs.getD i 0 - 1)) = false := by
    rw [List.all_eq_false]
    exact ⟨j, List.mem_range.2 hj, by rw [h]; simp⟩
  rw [this, Bool.and_false]
theorem laneWord_any (z : Int) (w : World) : Calls Try.prog 75 #[.int .i64 z] w fun e w' => e = .returned (.bool (!inB z 0 255)) ∧ w = w' := by
  go_enter Try.func75, Try.ntmps75
  go_wp2_with (go_at_call 76; refine (isWord_any _ _).mono ?_; rintro e w' ⟨rfl, rfl⟩)
  go_ret
  exact ⟨rfl, rfl⟩
theorem implLaneValid_any (l : Lt) (LA : Option Addr) (lc : Nat) (xs : List Cd) (w : World) (hl : xs.length ≤ 1048576) (hs : Sl w LA (cflat xs)) (hi : LaneIn w l) :
    Calls Try.prog 31 #[ltV l, .slice LA xs.length lc] w fun e w' => e = .returned (.bool (laneValid xs l.st)) ∧ Below w.heap.size w w' := by
  have hal : Below w.heap.size w (w.alloc (.cells #[.slice l.ra l.zs.length l.rc, .int .i64 l.at_, .slice l.ta l.ts.length l.tc, .bool l.wt] 52)) := (Below.refl _ _).alloc (Nat.le_refl _) _
  have hbx : LaneBox (w.alloc (.cells #[.slice l.ra l.zs.length l.rc, .int .i64 l.at_, .slice l.ta l.ts.length l.tc, .bool l.wt] 52)) w.heap.size l := heap_alloc_new _ _
  have HV1 := mkHid (implProgramValid_any LA lc xs _ hl (hs.below hal))
  obtain ⟨v1, hv1⟩ : ∃ v, v = progValid xs := ⟨_, rfl⟩
  rw [← hv1] at HV1
  have HB0 := mkHid hal
  have HX0 := mkHid hbx
  have HS0 := mkHid (hs.below hal)
  have HI0 := mkHid (hi.below hal)
  have H1 := mkHid hv1
  have HNO := mkHid (fun h => laneValid_false (xs := xs) (s := l.st) h)
  have HALL := mkHid (fun h1 h2 h3 h4 h5 => laneValid_all (xs := xs) (s := l.st) h1 h2 h3 h4 h5)
  obtain ⟨res, hres⟩ : ∃ res, res = laneValid xs l.st := ⟨_, rfl⟩
  rw [← hres] at HNO HALL ⊢
  clear hal hbx hs hi hv1 hres
  have HWI := mkHid (fun X => within_any l.at_ 0 (xs.length : Int) X)
  obtain ⟨v2, hv2⟩ : ∃ v, v = inB l.at_ 0 (xs.length : Int) := ⟨_, rfl⟩
  have H2 := mkHid hv2
  rw [← hv2] at HWI
  clear hv2
  go_enter Try.func31, Try.ntmps31
  go_wp2_with fail
  refine HV1.out.mono ?_
  rintro e w1 ⟨rfl, b1⟩
  have HX1 := mkHid (HX0.out.below b1)
  have HI1 := mkHid (HI0.out.below b1)
  have HS1 := mkHid (HS0.out.below b1)
  have HB1 := mkHid (HB0.out.trans (b1.mono HB0.out.size))
  obtain ⟨⟨q0, q1, q2, q3⟩, _⟩ := box4t HX1.out
  clear b1 HX0 HI0 HS0 HB0 HV1
  cases v1 with
  | false =>
    go_wp2_with fail
    go_ret
    exact ⟨ret_bool (HNO.out (.inl H1.out.symm)).symm, HB1.out⟩
  | true =>
    go_wp2_with fail
    refine (HWI.out _).mono ?_
    rintro e w' ⟨rfl, rfl⟩
    cases v2 with
    | false =>
      go_wp2_with fail
      go_ret
      exact ⟨ret_bool (HNO.out (.inr (.inl H2.out.symm))).symm, HB1.out⟩
    | true =>
      have hpc := inB_t H2.out.symm
      by_cases h4 : l.zs.length = 4
      · have h4b : ((l.zs.length : Int) != 4) = false := by rw [h4]; rfl
        have H4 := mkHid h4
        have HC1 := mkHid (containsFunc_any l.ra l.rc l.zs (.func (.func 75) #[] #[]) (fun z => !inB z 0 255) w1 (by omega) HI1.out.1.1 ⟨75, #[], rfl, fun args w => by kernel_rfl, fun z _ X hX => (laneWord_any z X).mono fun e w' ⟨he, hw⟩ => ⟨he, hw ▸ Below.refl _ _⟩⟩)
        rw [mem_any_not_all, h4] at HC1
        rw [h4] at q0
        obtain ⟨v3, hv3⟩ : ∃ v, v = l.zs.all (fun z => inB z 0 255) := ⟨_, rfl⟩
        have H3 := mkHid hv3
        rw [← hv3] at HC1
        clear hv3 h4 h4b
        go_wp2_with fail
        refine HC1.out.mono ?_
        rintro e w2 ⟨rfl, b2⟩
        have HX2 := mkHid (HX1.out.below b2)
        have HI2 := mkHid (HI1.out.below b2)
        have HS2 := mkHid (HS1.out.below b2)
        have HB2 := mkHid (HB1.out.trans (b2.mono HB1.out.size))
        clear b2 q0 q1 q2 q3 HC1 HX1 HI1 HS1 HB1
        obtain ⟨⟨q0, q1, q2, q3⟩, _⟩ := box4t HX2.out
        cases v3 with
        | false =>
          go_wp2_with fail
          go_ret
          exact ⟨ret_bool (HNO.out (.inr (.inr (.inr (.inl H3.out.symm))))).symm, HB2.out⟩
        | true =>
          have h40 := (progValid_yes H1.out.symm).1
          have HBAL := mkHid (progValid_yes H1.out.symm).2.2
          have HPV := mkHid H1.out.symm
          obtain ⟨p, hp⟩ : ∃ p : Nat, l.at_ = p := Int.eq_ofNat_of_zero_le hpc.1
          have hpl : p ≤ xs.length := by omega
          have HP := mkHid hp
          rw [hp] at q1
          obtain ⟨wt, hwt⟩ : ∃ wt, wt = l.wt := ⟨_, rfl⟩
          have HWT := mkHid hwt
          rw [← hwt] at q3
          have HN5 := mkHid (show waitOk xs l.st = false → res = false from fun h => HNO.out (.inr (.inr (.inr (.inr (.inl h))))))
          have HN6 := mkHid (show turnsOk (loopBs xs p) l.ts = false → res = false from fun h => HNO.out (.inr (.inr (.inr (.inr (.inr (by rw [show l.st.pc.toNat = p from by show l.at_.toNat = p; omega]; exact h)))))))
          have HA5 := mkHid (show waitOk xs l.st = true → res = turnsOk (loopBs xs p) l.ts from fun h => by
            have := HALL.out H1.out.symm H2.out.symm (by simpa using H4.out) H3.out.symm h
            rw [show l.st.pc.toNat = p from by show l.at_.toNat = p; omega] at this
            exact this)
          clear hp hwt hpc HNO HALL H2 H3
          have hcase : (wt = false ∧ waitOk xs l.st = true) ∨ (wt = true ∧ p = 0 ∧ waitOk xs l.st = false) ∨ (wt = true ∧ ∃ p', p = p' + 1 ∧ ∃ h : p' < xs.length, waitOk xs l.st = (xs[p'].op == 10)) := by
            cases wt with
            | false => exact .inl ⟨rfl, by unfold waitOk; rw [show l.st.wait = false from HWT.out.symm]; rfl⟩
            | true =>
              right
              have hst : waitOk xs l.st = (decide (0 < l.at_) && (codeAt xs (l.at_ - 1).toNat).op == 10) := by unfold waitOk; rw [show l.st.wait = true from HWT.out.symm]; rfl
              rw [hst]
              cases p with
              | zero => exact .inl ⟨rfl, rfl, by rw [HP.out]; rfl⟩
              | succ p' =>
                refine .inr ⟨rfl, p', rfl, by omega, ?_⟩
                rw [HP.out, decide_eq_true (by omega), Bool.true_and, show (((p' + 1 : Nat) : Int) - 1).toNat = p' from by omega, codeAt_at (by omega)]
          rcases hcase with ⟨rfl, hw⟩ | ⟨rfl, rfl, hw⟩ | ⟨rfl, p', rfl, hp', hw⟩
          · have HR := mkHid (HA5.out hw)
            clear hw HN5 HA5
            by_cases hlt : p < xs.length
            · have hpn' : (p : Int) < (xs.length : Int) := by omega
              have hpz : (0 : Int) ≤ (p : Int) := by omega
              have HBK := mkHid (blocks_any _ lc xs w2 (by omega) HS2.out)
              have HLT := mkHid hlt
              go_wp2_with fail
              refine HBK.out.mono ?_
              rintro e w3 ⟨Av, Ov, rfl, b3, hbr⟩
              obtain ⟨R, O, P, Rw, S, rfl, rfl, hBI⟩ := hbr HBAL.out
              have HBI := mkHid hBI
              have HX3 := mkHid (HX2.out.below b3)
              have HI3 := mkHid (HI2.out.below b3)
              have HS3 := mkHid (HS2.out.below b3)
              have HB3 := mkHid (HB2.out.trans (b3.mono HB2.out.size))
              obtain ⟨⟨q0, q1, q2, q3⟩, _⟩ := box4t HX3.out
              have hpi : ((p : Nat) : Int) = (p : Int) := by omega
              rw [HP.out, hpi] at q1
              have r0 := hBI.rowAt hlt
              obtain ⟨L, hL⟩ : ∃ L, L = (stk (ops xs) p).length := ⟨_, rfl⟩
              have HL := mkHid hL
              have hL3 : L ≤ 3 := by rw [hL]; exact stk_three (progValid_ok HPV.out (Nat.le_of_lt hlt))
              rw [← hL] at r0
              obtain ⟨rb, hrb⟩ : ∃ rb, rb = (Rw p).1 := ⟨_, rfl⟩
              obtain ⟨rc', hrc⟩ : ∃ rc', rc' = (Rw p).2 := ⟨_, rfl⟩
              have HRB := mkHid hrb
              have HRC := mkHid hrc
              rw [← hrb, ← hrc] at r0
              rw [HBAL.out]
              clear b3 hbr hBI HBK hL hrb hrc HX2 HI2 HS2 HB2 hpi
              go_wp2_with fail
              go_loopw [5, 69] (fun lv iv wr => ∃ j : Nat, j ≤ L ∧ iv = .int .i64 j ∧ ∃ A' n' c', lv = .slice A' n' c' ∧ n' ≤ j ∧ Hid (n' = (loopBsUpto xs p j).length) ∧ wr.ownsRow w3.heap.size 3 1 (.slice A' n' c') n' (ints (loopBsUpto xs p j)) ∧ Below w3.heap.size w3 wr) (fun _ iv _ => L - (intOf iv).toNat)
              case atStart => exact ⟨0, by omega, rfl, none, 0, 0, rfl, by omega, mkHid (by simp [loopBsUpto]), by have := World.ownsRow_nil w3 w3.heap.size 3 1; simpa [loopBsUpto, ints] using this, Below.refl _ _⟩
              case round =>
                obtain ⟨j, hj, rfl, A', n', c', rfl, hnj, HNB, hown, hbw⟩ := hrel
                have HO := mkHid hown
                have HBW := mkHid hbw
                clear q0 q1 q2 q3 r0
                by_cases hjl : j < L
                · have hjs : j < (stk (ops xs) p).length := by rw [← HL.out]; exact hjl
                  have hI2 := HBI.out.below hbw
                  have hW := hI2.hW p HLT.out
                  obtain ⟨b, hb⟩ : ∃ b, b = (stk (ops xs) p)[j] := ⟨_, rfl⟩
                  have hbm : b ∈ stk (ops xs) p := by rw [hb]; exact List.getElem_mem hjs
                  have hbl := stk_lt hbm
                  have hbx : b < xs.length := by have := HLT.out; omega
                  have r1 : wr.cell? ⟨rb, j, none⟩ = some (ptrV (P b)) := by
                    have h1 : wr.ownsRow w2.heap.size 101 1 (.slice (some ⟨(Rw p).1, 0, none⟩) (stk (ops xs) p).length (Rw p).2) (stk (ops xs) p).length (ptrs P (stk (ops xs) p)) := hW
                    rw [HRB.out, h1.cellAt j (by omega)]
                    simp [ptrs, hjs, hb]
                  have hrcap : L ≤ rc' := by
                    have h1 : wr.ownsRow w2.heap.size 101 1 (.slice (some ⟨(Rw p).1, 0, none⟩) (stk (ops xs) p).length (Rw p).2) (stk (ops xs) p).length (ptrs P (stk (ops xs) p)) := hW
                    have := own_cap h1
                    rw [HRC.out, HL.out]; exact this
                  obtain ⟨p0, _⟩ := box3 (hI2.hP b hbx hbl.2).2
                  have p0 := p0.1
                  obtain ⟨lb, lo, hA, c0, c1, c2, c3⟩ := (HS3.out.below hbw).cd hbx
                  have HUS := mkHid (loopBsUpto_s (xs := xs) (k := p) hjs)
                  rw [← hb, codeAt_op hbx, codeAt_at hbx] at HUS
                  obtain ⟨op, hop⟩ : ∃ op, op = xs[b].op := ⟨_, rfl⟩
                  obtain ⟨bb, hbb⟩ : ∃ bb, bb = xs[b].b := ⟨_, rfl⟩
                  rw [← hop] at c0 HUS
                  rw [← hbb] at c2 HUS
                  have hbi0 : (0 : Int) ≤ (b : Int) := by omega
                  have hbi1 : (b : Int) < (xs.length : Int) := by omega
                  first
                    | subst hA
                    | (injection hA with hA; injection hA with hA1 hA2; subst hA1; subst hA2)
                  clear hI2 hW hb hbm c1 c3 hop hbb hown hbw hjs
                  by_cases h13 : op = 13
                  · subst h13
                    have HUS := mkHid (HUS.out.trans (if_pos rfl))
                    have hsz := HBW.out.size
                    go_wp2_with (at_builtin; refine wpList_app Ei (HO.out.alloc _) (newCellsAt _ _ _ (by simp)) rfl (by simp [Value.oneCell']) (by omega) (by omega) (by simp only [World.size_alloc]; omega) rfl rfl rfl rfl ?_; intro A2 c2' w4 hown4 hg4; have HO4 := mkHid hown4; have HG4 := mkHid hg4; clear hown4 hg4)
                    go_roundw
                    case rel =>
                      refine ⟨j + 1, by omega, by go_num, A2, n' + 1, c2', rfl, by omega, mkHid (by rw [HUS.out, List.length_append, ← HNB.out]; rfl), ?_, ?_⟩
                      · rw [HUS.out]
                        have := HO4.out
                        simpa [ints] using this
                      · exact (HBW.out.alloc hsz _).grown HG4.out (by simp only [World.size_alloc]; omega) (fun g e => (HO.out.lt g e).1)
                    case measure => simp [intOf] <;> omega
                  · have n13 : (op == 13) = false := by simpa using h13
                    have HUS := mkHid (HUS.out.trans (if_neg (by rw [n13]; simp)))
                    clear h13
                    go_wp2_with fail
                    go_roundw
                    case rel => exact ⟨j + 1, by omega, by go_num, A', n', c', rfl, by omega, mkHid (by rw [HUS.out]; exact HNB.out), by rw [HUS.out]; exact HO.out, HBW.out⟩
                    case measure => simp [intOf] <;> omega
                · have hje : (stk (ops xs) p).length ≤ j := by rw [← HL.out]; omega
                  rw [loopBsUpto_all hje] at HO HNB
                  have HX := mkHid (HX3.out.below HBW.out)
                  have HI := mkHid (HI3.out.below HBW.out)
                  have HB := mkHid (HB3.out.trans (HBW.out.mono HB3.out.size))
                  have HBB := mkHid (show ∀ b ∈ loopBs xs p, 1 ≤ b ∧ b ≤ 4 from loopBs_in HPV.out (Nat.le_of_lt HLT.out))
                  obtain ⟨bs, hbs⟩ : ∃ bs, bs = loopBs xs p := ⟨_, rfl⟩
                  rw [← hbs] at HO HNB HBB HR
                  clear hbs hown hbw
                  have hn' := HNB.out
                  subst hn'
                  have hbn : bs.length ≤ 40 := by omega
                  obtain ⟨⟨q0, q1, q2, q3⟩, _⟩ := box4t HX.out
                  by_cases hlen : bs.length = l.ts.length
                  · by_cases h0 : l.ts.length = 0
                    case pos =>
                      have hb0 : ((bs.length : Int) != 0) = false := by rw [hlen, h0]; rfl
                      have HRT := mkHid (show res = true from by rw [HR.out, turnsOk_all hlen, h0]; rfl)
                      rw [h0] at q2
                      clear hlen h0
                      go_wp2_with fail
                      go_loop [103] (fun i => i = .int .i64 0) (fun i => 0)
                      case atStart => rfl
                      case round =>
                        subst hrel
                        go_wp2_with fail
                        go_ret
                        exact ⟨ret_bool HRT.out.symm, HB.out⟩
                    obtain ⟨tb, to_, hta, htc0⟩ := HI.out.2.1.at_ (k := 0) (by simp [ints]; omega)
                    rw [hta] at q2
                    have HTA := mkHid hta
                    obtain ⟨tn, htn⟩ : ∃ tn, tn = l.ts.length := ⟨_, rfl⟩
                    have HTN := mkHid htn
                    clear hta h0 htc0
                    rw [← htn] at q2 hlen
                    have hne : ((bs.length : Int) != (tn : Int)) = false := by rw [hlen]; simp
                    have HLEN := mkHid hlen
                    have HU := mkHid (fun j (hj : j < l.ts.length) h => turnsOk_no (bs := bs) (ts := l.ts) hj h)
                    have HALL := mkHid (turnsOk_all (bs := bs) (ts := l.ts) (by rw [HLEN.out, HTN.out]))
                    clear htn hlen q0 q1 q3
                    go_wp2_with fail
                    go_loop [103] (fun i => ∃ j : Nat, j ≤ tn ∧ i = .int .i64 j ∧ Hid (turnsUpto bs l.ts j = true)) (fun i => tn - (intOf i).toNat)
                    case atStart => exact ⟨0, by omega, rfl, mkHid rfl⟩
                    case round =>
                      obtain ⟨j, hj, rfl, HUP⟩ := hrel
                      by_cases hjl : j < tn
                      · have hj1 : j < l.ts.length := by rw [← HTN.out]; exact hjl
                        have hj2 : j < bs.length := by rw [HLEN.out]; exact hjl
                        obtain ⟨tb', to', hta, htc⟩ := HI.out.2.1.at_ (k := j) (by simpa [ints] using hj1)
                        have t1 := htc j _ (ints_at hj1)
                        rw [HTA.out] at hta
                        injection hta with hta
                        injection hta with hta1 hta2
                        subst hta1 hta2
                        obtain ⟨lb2, lo2, hla, hlc⟩ := (Sl.of_own HO.out).at_ (k := j) (by simpa [ints] using hj2)
                        have t2 := hlc j _ (ints_at hj2)
                        have hcap : bs.length ≤ c' := own_cap HO.out
                        have hjb : (j : Int) < (bs.length : Int) := by omega
                        have HST := mkHid (turnsUpto_s bs l.ts j)
                        simp only [List.getD, List.getElem?_eq_getElem hj1, List.getElem?_eq_getElem hj2, Option.getD_some] at HST
                        have HU1 := HU.out j hj1
                        simp only [List.getD, List.getElem?_eq_getElem hj1, List.getElem?_eq_getElem hj2, Option.getD_some] at HU1
                        have hbb := HBB.out _ (List.getElem_mem hj2)
                        obtain ⟨tv, htv⟩ : ∃ tv, tv = l.ts[j] := ⟨_, rfl⟩
                        obtain ⟨bv, hbv⟩ : ∃ bv, bv = bs[j] := ⟨_, rfl⟩
                        rw [← htv] at t1 HU1 HST
                        rw [← hbv] at t2 HU1 HST hbb
                        have HUN := mkHid HU1
                        have hC := fun X => within_any tv 0 (bv - 1) X
                        obtain ⟨iv, hiv⟩ : ∃ iv, iv = inB tv 0 (bv - 1) := ⟨_, rfl⟩
                        rw [← hiv] at hC HUN HST
                        have HC := mkHid hC
                        subst hla
                        clear htc hlc htv hbv hiv hC HU1
                        cases iv with
                        | false =>
                          go_wp2_with fail
                          (with_reducible refine (HC.out _).mono ?_)
                          rintro e w' ⟨rfl, rfl⟩
                          go_wp2_with fail
                          go_ret
                          exact ⟨ret_bool (by rw [HR.out, HUN.out trivial]), HB.out⟩
                        | true =>
                          go_wp2_with fail
                          (with_reducible refine (HC.out _).mono ?_)
                          rintro e w' ⟨rfl, rfl⟩
                          go_wp2_with fail
                          go_round
                          case rel => exact ⟨j + 1, by omega, by go_num, mkHid (by rw [HST.out, HUP.out]; rfl)⟩
                          case measure => simp [intOf] <;> omega
                      · have hje : j = tn := by omega
                        subst hje
                        go_wp2_with fail
                        go_ret
                        exact ⟨ret_bool (by rw [HR.out, HALL.out, ← HTN.out, HUP.out]), HB.out⟩
                  · have HNE := mkHid (turnsOk_len (bs := bs) (ts := l.ts) hlen)
                    have hne : ((bs.length : Int) != (l.ts.length : Int)) = true := by rw [bne_iff_ne]; omega
                    clear hlen
                    go_wp2_with fail
                    go_ret
                    exact ⟨ret_bool (by rw [HR.out, HNE.out]), HB.out⟩
            · have hpe : p = xs.length := by omega
              have hnil : loopBs xs p = [] := by
                have h1 := (Bool.and_eq_true_iff.1 HBAL.out).2
                rw [List.isEmpty_iff, ops_len, ← hpe] at h1
                unfold loopBs loopsAt
                rw [h1]; rfl
              have hpn' : ¬ (p : Int) < (xs.length : Int) := by omega
              rw [hnil] at HR
              clear hnil hpe hlt q0
              by_cases hlen : l.ts.length = 0
              · have HLEN := mkHid hlen
                rw [hlen] at q2
                clear hlen
                have HRT := mkHid (show res = true from by rw [HR.out]; unfold turnsOk; rw [HLEN.out]; rfl)
                go_wp2_with fail
                go_loop [103] (fun i => i = .int .i64 0) (fun i => 0)
                case atStart => rfl
                case round =>
                  subst hrel
                  go_wp2_with fail
                  go_ret
                  exact ⟨ret_bool HRT.out.symm, HB2.out⟩
              · have HNE := mkHid (turnsOk_len (bs := []) (ts := l.ts) (fun e => hlen (by rw [← e]; rfl)))
                have hne : ((0 : Int) != (l.ts.length : Int)) = true := by rw [bne_iff_ne]; omega
                have hne' : ((l.ts.length : Int) == 0) = false := by rw [beq_eq_false_iff_ne]; omega
                have hne2 : ¬ l.ts.length = 0 := hlen
                clear hlen
                go_wp2_with fail
                go_ret
                exact ⟨ret_bool (by rw [HR.out, HNE.out]), HB2.out⟩
          · have HR := mkHid (HN5.out hw)
            clear hw HN5 HA5 HN6
            go_wp2_with fail
            go_ret
            exact ⟨ret_bool HR.out.symm, HB2.out⟩
          · obtain ⟨lb, lo, hA, e0, e1, e2, e3⟩ := HS2.out.cd hp'
            obtain ⟨op, hop⟩ : ∃ op, op = xs[p'].op := ⟨_, rfl⟩
            rw [← hop] at e0 hw
            have hpi : ((p' + 1 : Nat) : Int) = (p' : Int) + 1 := by omega
            rw [hpi] at q1
            have hpn : (p' : Int) < (xs.length : Int) := by omega
            have hp0 : (0 : Int) ≤ (p' : Int) := by omega
            subst hA
            clear e1 e2 e3 hpi hop
            by_cases h10 : op = 10
            · subst h10
              have HR := mkHid (HA5.out (by rw [hw]; rfl))
              clear hw HN5 HA5
              by_cases hlt : (p' + 1) < xs.length
              · have hpn' : ((p' : Int) + 1) < (xs.length : Int) := by omega
                have hpz : (0 : Int) ≤ ((p' : Int) + 1) := by omega
                have HBK := mkHid (blocks_any _ lc xs w2 (by omega) HS2.out)
                have HLT := mkHid hlt
                go_wp2_with fail
                refine HBK.out.mono ?_
                rintro e w3 ⟨Av, Ov, rfl, b3, hbr⟩
                obtain ⟨R, O, P, Rw, S, rfl, rfl, hBI⟩ := hbr HBAL.out
                have HBI := mkHid hBI
                have HX3 := mkHid (HX2.out.below b3)
                have HI3 := mkHid (HI2.out.below b3)
                have HS3 := mkHid (HS2.out.below b3)
                have HB3 := mkHid (HB2.out.trans (b3.mono HB2.out.size))
                obtain ⟨⟨q0, q1, q2, q3⟩, _⟩ := box4t HX3.out
                have hpi : (((p' + 1) : Nat) : Int) = ((p' : Int) + 1) := by omega
                rw [HP.out, hpi] at q1
                have r0 := hBI.rowAt hlt
                obtain ⟨L, hL⟩ : ∃ L, L = (stk (ops xs) (p' + 1)).length := ⟨_, rfl⟩
                have HL := mkHid hL
                have hL3 : L ≤ 3 := by rw [hL]; exact stk_three (progValid_ok HPV.out (Nat.le_of_lt hlt))
                rw [← hL] at r0
                obtain ⟨rb, hrb⟩ : ∃ rb, rb = (Rw (p' + 1)).1 := ⟨_, rfl⟩
                obtain ⟨rc', hrc⟩ : ∃ rc', rc' = (Rw (p' + 1)).2 := ⟨_, rfl⟩
                have HRB := mkHid hrb
                have HRC := mkHid hrc
                rw [← hrb, ← hrc] at r0
                rw [HBAL.out]
                clear b3 hbr hBI HBK hL hrb hrc HX2 HI2 HS2 HB2 hpi
                go_wp2_with fail
                go_loopw [5, 69] (fun lv iv wr => ∃ j : Nat, j ≤ L ∧ iv = .int .i64 j ∧ ∃ A' n' c', lv = .slice A' n' c' ∧ n' ≤ j ∧ Hid (n' = (loopBsUpto xs (p' + 1) j).length) ∧ wr.ownsRow w3.heap.size 3 1 (.slice A' n' c') n' (ints (loopBsUpto xs (p' + 1) j)) ∧ Below w3.heap.size w3 wr) (fun _ iv _ => L - (intOf iv).toNat)
                case atStart => exact ⟨0, by omega, rfl, none, 0, 0, rfl, by omega, mkHid (by simp [loopBsUpto]), by have := World.ownsRow_nil w3 w3.heap.size 3 1; simpa [loopBsUpto, ints] using this, Below.refl _ _⟩
                case round =>
                  obtain ⟨j, hj, rfl, A', n', c', rfl, hnj, HNB, hown, hbw⟩ := hrel
                  have HO := mkHid hown
                  have HBW := mkHid hbw
                  clear q0 q1 q2 q3 r0
                  by_cases hjl : j < L
                  · have hjs : j < (stk (ops xs) (p' + 1)).length := by rw [← HL.out]; exact hjl
                    have hI2 := HBI.out.below hbw
                    have hW := hI2.hW (p' + 1) HLT.out
                    obtain ⟨b, hb⟩ : ∃ b, b = (stk (ops xs) (p' + 1))[j] := ⟨_, rfl⟩
                    have hbm : b ∈ stk (ops xs) (p' + 1) := by rw [hb]; exact List.getElem_mem hjs
                    have hbl := stk_lt hbm
                    have hbx : b < xs.length := by have := HLT.out; omega
                    have r1 : wr.cell? ⟨rb, j, none⟩ = some (ptrV (P b)) := by
                      have h1 : wr.ownsRow w2.heap.size 101 1 (.slice (some ⟨(Rw (p' + 1)).1, 0, none⟩) (stk (ops xs) (p' + 1)).length (Rw (p' + 1)).2) (stk (ops xs) (p' + 1)).length (ptrs P (stk (ops xs) (p' + 1))) := hW
                      rw [HRB.out, h1.cellAt j (by omega)]
                      simp [ptrs, hjs, hb]
                    have hrcap : L ≤ rc' := by
                      have h1 : wr.ownsRow w2.heap.size 101 1 (.slice (some ⟨(Rw (p' + 1)).1, 0, none⟩) (stk (ops xs) (p' + 1)).length (Rw (p' + 1)).2) (stk (ops xs) (p' + 1)).length (ptrs P (stk (ops xs) (p' + 1))) := hW
                      have := own_cap h1
                      rw [HRC.out, HL.out]; exact this
                    obtain ⟨p0, _⟩ := box3 (hI2.hP b hbx hbl.2).2
                    have p0 := p0.1
                    obtain ⟨lb, lo, hA, c0, c1, c2, c3⟩ := (HS3.out.below hbw).cd hbx
                    have HUS := mkHid (loopBsUpto_s (xs := xs) (k := (p' + 1)) hjs)
                    rw [← hb, codeAt_op hbx, codeAt_at hbx] at HUS
                    obtain ⟨op, hop⟩ : ∃ op, op = xs[b].op := ⟨_, rfl⟩
                    obtain ⟨bb, hbb⟩ : ∃ bb, bb = xs[b].b := ⟨_, rfl⟩
                    rw [← hop] at c0 HUS
                    rw [← hbb] at c2 HUS
                    have hbi0 : (0 : Int) ≤ (b : Int) := by omega
                    have hbi1 : (b : Int) < (xs.length : Int) := by omega
                    first
                      | subst hA
                      | (injection hA with hA; injection hA with hA1 hA2; subst hA1; subst hA2)
                    clear hI2 hW hb hbm c1 c3 hop hbb hown hbw hjs
                    by_cases h13 : op = 13
                    · subst h13
                      have HUS := mkHid (HUS.out.trans (if_pos rfl))
                      have hsz := HBW.out.size
                      go_wp2_with (at_builtin; refine wpList_app Ei (HO.out.alloc _) (newCellsAt _ _ _ (by simp)) rfl (by simp [Value.oneCell']) (by omega) (by omega) (by simp only [World.size_alloc]; omega) rfl rfl rfl rfl ?_; intro A2 c2' w4 hown4 hg4; have HO4 := mkHid hown4; have HG4 := mkHid hg4; clear hown4 hg4)
                      go_roundw
                      case rel =>
                        refine ⟨j + 1, by omega, by go_num, A2, n' + 1, c2', rfl, by omega, mkHid (by rw [HUS.out, List.length_append, ← HNB.out]; rfl), ?_, ?_⟩
                        · rw [HUS.out]
                          have := HO4.out
                          simpa [ints] using this
                        · exact (HBW.out.alloc hsz _).grown HG4.out (by simp only [World.size_alloc]; omega) (fun g e => (HO.out.lt g e).1)
                      case measure => simp [intOf] <;> omega
                    · have n13 : (op == 13) = false := by simpa using h13
                      have HUS := mkHid (HUS.out.trans (if_neg (by rw [n13]; simp)))
                      clear h13
                      go_wp2_with fail
                      go_roundw
                      case rel => exact ⟨j + 1, by omega, by go_num, A', n', c', rfl, by omega, mkHid (by rw [HUS.out]; exact HNB.out), by rw [HUS.out]; exact HO.out, HBW.out⟩
                      case measure => simp [intOf] <;> omega
                  · have hje : (stk (ops xs) (p' + 1)).length ≤ j := by rw [← HL.out]; omega
                    rw [loopBsUpto_all hje] at HO HNB
                    have HX := mkHid (HX3.out.below HBW.out)
                    have HI := mkHid (HI3.out.below HBW.out)
                    have HB := mkHid (HB3.out.trans (HBW.out.mono HB3.out.size))
                    have HBB := mkHid (show ∀ b ∈ loopBs xs (p' + 1), 1 ≤ b ∧ b ≤ 4 from loopBs_in HPV.out (Nat.le_of_lt HLT.out))
                    obtain ⟨bs, hbs⟩ : ∃ bs, bs = loopBs xs (p' + 1) := ⟨_, rfl⟩
                    rw [← hbs] at HO HNB HBB HR
                    clear hbs hown hbw
                    have hn' := HNB.out
                    subst hn'
                    have hbn : bs.length ≤ 40 := by omega
                    obtain ⟨⟨q0, q1, q2, q3⟩, _⟩ := box4t HX.out
                    by_cases hlen : bs.length = l.ts.length
                    · by_cases h0 : l.ts.length = 0
                      case pos =>
                        have hb0 : ((bs.length : Int) != 0) = false := by rw [hlen, h0]; rfl
                        have HRT := mkHid (show res = true from by rw [HR.out, turnsOk_all hlen, h0]; rfl)
                        rw [h0] at q2
                        clear hlen h0
                        go_wp2_with fail
                        go_loop [103] (fun i => i = .int .i64 0) (fun i => 0)
                        case atStart => rfl
                        case round =>
                          subst hrel
                          go_wp2_with fail
                          go_ret
                          exact ⟨ret_bool HRT.out.symm, HB.out⟩
                      obtain ⟨tb, to_, hta, htc0⟩ := HI.out.2.1.at_ (k := 0) (by simp [ints]; omega)
                      rw [hta] at q2
                      have HTA := mkHid hta
                      obtain ⟨tn, htn⟩ : ∃ tn, tn = l.ts.length := ⟨_, rfl⟩
                      have HTN := mkHid htn
                      clear hta h0 htc0
                      rw [← htn] at q2 hlen
                      have hne : ((bs.length : Int) != (tn : Int)) = false := by rw [hlen]; simp
                      have HLEN := mkHid hlen
                      have HU := mkHid (fun j (hj : j < l.ts.length) h => turnsOk_no (bs := bs) (ts := l.ts) hj h)
                      have HALL := mkHid (turnsOk_all (bs := bs) (ts := l.ts) (by rw [HLEN.out, HTN.out]))
                      clear htn hlen q0 q1 q3
                      go_wp2_with fail
                      go_loop [103] (fun i => ∃ j : Nat, j ≤ tn ∧ i = .int .i64 j ∧ Hid (turnsUpto bs l.ts j = true)) (fun i => tn - (intOf i).toNat)
                      case atStart => exact ⟨0, by omega, rfl, mkHid rfl⟩
                      case round =>
                        obtain ⟨j, hj, rfl, HUP⟩ := hrel
                        by_cases hjl : j < tn
                        · have hj1 : j < l.ts.length := by rw [← HTN.out]; exact hjl
                          have hj2 : j < bs.length := by rw [HLEN.out]; exact hjl
                          obtain ⟨tb', to', hta, htc⟩ := HI.out.2.1.at_ (k := j) (by simpa [ints] using hj1)
                          have t1 := htc j _ (ints_at hj1)
                          rw [HTA.out] at hta
                          injection hta with hta
                          injection hta with hta1 hta2
                          subst hta1 hta2
                          obtain ⟨lb2, lo2, hla, hlc⟩ := (Sl.of_own HO.out).at_ (k := j) (by simpa [ints] using hj2)
                          have t2 := hlc j _ (ints_at hj2)
                          have hcap : bs.length ≤ c' := own_cap HO.out
                          have hjb : (j : Int) < (bs.length : Int) := by omega
                          have HST := mkHid (turnsUpto_s bs l.ts j)
                          simp only [List.getD, List.getElem?_eq_getElem hj1, List.getElem?_eq_getElem hj2, Option.getD_some] at HST
                          have HU1 := HU.out j hj1
                          simp only [List.getD, List.getElem?_eq_getElem hj1, List.getElem?_eq_getElem hj2, Option.getD_some] at HU1
                          have hbb := HBB.out _ (List.getElem_mem hj2)
                          obtain ⟨tv, htv⟩ : ∃ tv, tv = l.ts[j] := ⟨_, rfl⟩
                          obtain ⟨bv, hbv⟩ : ∃ bv, bv = bs[j] := ⟨_, rfl⟩
                          rw [← htv] at t1 HU1 HST
                          rw [← hbv] at t2 HU1 HST hbb
                          have HUN := mkHid HU1
                          have hC := fun X => within_any tv 0 (bv - 1) X
                          obtain ⟨iv, hiv⟩ : ∃ iv, iv = inB tv 0 (bv - 1) := ⟨_, rfl⟩
                          rw [← hiv] at hC HUN HST
                          have HC := mkHid hC
                          subst hla
                          clear htc hlc htv hbv hiv hC HU1
                          cases iv with
                          | false =>
                            go_wp2_with fail
                            (with_reducible refine (HC.out _).mono ?_)
                            rintro e w' ⟨rfl, rfl⟩
                            go_wp2_with fail
                            go_ret
                            exact ⟨ret_bool (by rw [HR.out, HUN.out trivial]), HB.out⟩
                          | true =>
                            go_wp2_with fail
                            (with_reducible refine (HC.out _).mono ?_)
                            rintro e w' ⟨rfl, rfl⟩
                            go_wp2_with fail
                            go_round
                            case rel => exact ⟨j + 1, by omega, by go_num, mkHid (by rw [HST.out, HUP.out]; rfl)⟩
                            case measure => simp [intOf] <;> omega
                        · have hje : j = tn := by omega
                          subst hje
                          go_wp2_with fail
                          go_ret
                          exact ⟨ret_bool (by rw [HR.out, HALL.out, ← HTN.out, HUP.out]), HB.out⟩
                    · have HNE := mkHid (turnsOk_len (bs := bs) (ts := l.ts) hlen)
                      have hne : ((bs.length : Int) != (l.ts.length : Int)) = true := by rw [bne_iff_ne]; omega
                      clear hlen
                      go_wp2_with fail
                      go_ret
                      exact ⟨ret_bool (by rw [HR.out, HNE.out]), HB.out⟩
              · have hpe : (p' + 1) = xs.length := by omega
                have hnil : loopBs xs (p' + 1) = [] := by
                  have h1 := (Bool.and_eq_true_iff.1 HBAL.out).2
                  rw [List.isEmpty_iff, ops_len, ← hpe] at h1
                  unfold loopBs loopsAt
                  rw [h1]; rfl
                have hpn' : ¬ ((p' : Int) + 1) < (xs.length : Int) := by omega
                rw [hnil] at HR
                clear hnil hpe hlt q0
                by_cases hlen : l.ts.length = 0
                · have HLEN := mkHid hlen
                  rw [hlen] at q2
                  clear hlen
                  have HRT := mkHid (show res = true from by rw [HR.out]; unfold turnsOk; rw [HLEN.out]; rfl)
                  go_wp2_with fail
                  go_loop [103] (fun i => i = .int .i64 0) (fun i => 0)
                  case atStart => rfl
                  case round =>
                    subst hrel
                    go_wp2_with fail
                    go_ret
                    exact ⟨ret_bool HRT.out.symm, HB2.out⟩
                · have HNE := mkHid (turnsOk_len (bs := []) (ts := l.ts) (fun e => hlen (by rw [← e]; rfl)))
                  have hne : ((0 : Int) != (l.ts.length : Int)) = true := by rw [bne_iff_ne]; omega
                  have hne' : ((l.ts.length : Int) == 0) = false := by rw [beq_eq_false_iff_ne]; omega
                  have hne2 : ¬ l.ts.length = 0 := hlen
                  clear hlen
                  go_wp2_with fail
                  go_ret
                  exact ⟨ret_bool (by rw [HR.out, HNE.out]), HB2.out⟩
            · have n10 : (op != 10) = true := by simpa using h10
              have m10 : (op == 10) = false := by simpa using h10
              have HR := mkHid (HN5.out (by rw [hw]; exact m10))
              clear hw HN5 HA5 HN6 h10
              go_wp2_with fail
              go_ret
              exact ⟨ret_bool HR.out.symm, HB2.out⟩
      · have h4b : ((l.zs.length : Int) != 4) = true := by rw [bne_iff_ne]; omega
        have H4 := mkHid h4
        clear h4
        go_wp2_with fail
        go_ret
        exact ⟨ret_bool (HNO.out (.inr (.inr (.inl (by simpa using H4.out))))).symm, HB1.out⟩
end Go.Proofs.Ytjmiilneennjaaa
