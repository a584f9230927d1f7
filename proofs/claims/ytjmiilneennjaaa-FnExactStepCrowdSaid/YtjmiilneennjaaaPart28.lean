/-
  Parts of a proof: CRunL.
-/
import Derived.Test.YtjmiilneennjaaaPart27
import Derived.Test.YtjmiilneennjaaaPart10
import Derived.Test.YtjmiilneennjaaaPart15
import Derived.Deep.LoopGhost
namespace Go.Proofs.Ytjmiilneennjaaa
open Go.RowKit
set_option maxHeartbeats 2000000
set_option maxRecDepth 100000
set_option linter.unusedVariables false

def okS (xs : List Cd) (s : LS) (id : Int) (mem : List Int) : Bool := laneValid xs s && inB id 0 7 && memValid mem
/-- what a step of a lane answers. -/
def stepTo (xs : List Cd) (s : LS) (id : Int) (mem : List Int) : LS × List Int := if okS xs s id mem then stepS xs id s mem else (lsNil, [])
/-- what a run of a lane answers. -/
def RunTo (xs : List Cd) (s : LS) (id : Int) (mem : List Int) (r : LS × List Int) : Prop :=
  (okS xs s id mem = false ∧ r = (lsNil, [])) ∨ (okS xs s id mem = true ∧ ∃ N, RunsL xs id (clearW s) mem N ∧ r = iterS xs id (clearW s) mem N)
structure OkS (xs : List Cd) (s : LS) (id : Int) (mem : List Int) : Prop where
  prog : progValid xs = true
  lane : LaneOk xs s
  id8 : 0 ≤ id ∧ id ≤ 7
  mem : memValid mem = true
theorem okS_iff {xs : List Cd} {s : LS} {id : Int} {mem : List Int} : okS xs s id mem = true ↔ OkS xs s id mem := by
  unfold okS laneValid
  simp only [Bool.and_eq_true]
  constructor
  · rintro ⟨⟨⟨h1, h2⟩, h3⟩, h4⟩
    exact ⟨h1, laneOk_iff.1 h2, inB_t h3, h4⟩
  · rintro ⟨h1, h2, h3, h4⟩
    exact ⟨⟨⟨h1, laneOk_iff.2 h2⟩, inB_of h3.1 h3.2⟩, h4⟩
theorem runTo_ex (xs : List Cd) (s : LS) (id : Int) (mem : List Int) : ∃ r, RunTo xs s id mem r := by
  cases h : okS xs s id mem with
  | false => exact ⟨_, .inl ⟨h, rfl⟩⟩
  | true =>
    have ho := okS_iff.1 h
    obtain ⟨N, hN⟩ := runsL_of ho.prog ho.id8 ho.lane.clear ho.mem
    exact ⟨_, .inr ⟨h, N, hN, rfl⟩⟩
/-- a lane and a memory in memory of one's own are handed back. -/
def RetLM (r : LS × List Int) (w : World) (e : Ending) (w' : World) : Prop :=
  ∃ l : Lt, ∃ A c, e = .returned (.tuple #[ltV l, .slice A r.2.length c]) ∧ l.st = r.1 ∧ Apt w' w.heap.size [⟨A, c, r.2⟩, irR l, irT l] ∧ Below w.heap.size w w'
/-- one more row, younger than all others, ahead of them. -/
theorem Apt.cons_new {w w' : World} {lo : Nat} {rs : List IR} {m : IR} (h : Apt w lo rs) (hb : Below w.heap.size w w') (hlo : lo ≤ w.heap.size) (hm : w'.ownsRow w.heap.size 3 1 (irV m) m.zs.length (ints m.zs)) : Apt w' lo (m :: rs) := by
  have h1 := h.below hb
  have hlt : ∀ k (hk : k < rs.length) g, (irV rs[k]).ownBlock = some g → g < w.heap.size := fun k hk g e => ((h.1 _ (List.getElem_mem hk)).lt g e).2
  refine ⟨fun r hr => ?_, fun i j hi hj hne g e1 e2 => ?_⟩
  · rcases List.mem_cons.1 hr with rfl | hr
    · exact own_base hm hlo
    · exact h1.1 r hr
  · cases i with
    | zero =>
      cases j with
      | zero => exact hne rfl
      | succ j =>
        have a1 := (hm.lt g e1).1
        have a2 := hlt j (by simpa using hj) g e2
        omega
    | succ i =>
      cases j with
      | zero =>
        have a1 := (hm.lt g e2).1
        have a2 := hlt i (by simpa using hi) g e1
        omega
      | succ j => exact h1.2 i j (by simpa using hi) (by simpa using hj) (fun e => hne (by omega)) g e1 e2
theorem apt_nil3 (w : World) (lo : Nat) : Apt w lo [⟨none, 0, []⟩, ⟨none, 0, []⟩, ⟨none, 0, []⟩] :=
  ⟨fun r hr => by simp at hr; subst hr; exact World.ownsRow_nil _ _ _ _, fun i j hi hj _ g e => by
    have : ∀ r ∈ [(⟨none, 0, []⟩ : IR), ⟨none, 0, []⟩, ⟨none, 0, []⟩], r = ⟨none, 0, []⟩ := fun r hr => by simp at hr; exact hr
    rw [this _ (List.getElem_mem hi)] at e; cases e⟩
theorem grown_s4 (W : World) (B : Nat) (a b c d : Value) : W.grownBy ((((W.setCell ⟨B, 0, none⟩ a).setCell ⟨B, 1, none⟩ b).setCell ⟨B, 2, none⟩ c).setCell ⟨B, 3, none⟩ d) (some B) := grown_setCell' (grown_setCell' (grown_setCell' (grown_setCell W B 0 a) 1 b) 2 c) 3 d
theorem one_crowdM {w : World} {base : Nat} {l : Lt} {m : IR} (h : Apt w base [m, irR l, irT l]) (hb : base ≤ w.heap.size) : CrAt (w.alloc (.cells #[ltR l, .int .i64 l.at_, ltT l, .bool l.wt] 52)) base (some ⟨w.heap.size, 0, none⟩) 1 [l] m :=
  ⟨⟨by rw [tflat_length], .inr ⟨w.heap.size, 1, #[ltR l, .int .i64 l.at_, ltT l, .bool l.wt], rfl, hb, heap_alloc_new w _, by simp, by simp [maxLen], by simp, by simp [tflat, ltCells]⟩⟩, h.below ((Below.refl _ _).alloc (Nat.le_refl _) _)⟩
theorem canStep_any (x : Lt) (LA : Option Addr) (lc : Nat) (xs : List Cd) (id : Int) (A : Option Addr) (c : Nat) (zs : List Int) (w : World) (hl : xs.length ≤ 1048576) (hz : zs.length ≤ 1000000000) (hs : Sl w LA (cflat xs)) (hi : LaneIn w x) (h2 : Sl w A (ints zs)) :
    Calls Try.prog 70 #[ltV x, .slice LA xs.length lc, .int .i64 id, .slice A zs.length c] w fun e w' => e = .returned (.bool (okS xs x.st id zs)) ∧ Below w.heap.size w w' := by
  obtain ⟨o1, ho1⟩ : ∃ o1, o1 = Obj.cells #[.slice x.ra x.zs.length x.rc, .int .i64 x.at_, .slice x.ta x.ts.length x.tc, .bool x.wt] 52 := ⟨_, rfl⟩
  have hal : Below w.heap.size w (w.alloc o1) := (Below.refl _ _).alloc (Nat.le_refl _) _
  have HL := mkHid (implLaneValid_any x LA lc xs (w.alloc o1) hl (hs.below hal) (hi.below hal))
  have HW := mkHid (fun X => within_any id 0 7 X)
  have HM := mkHid (fun X (hX : Below w.heap.size w X) => implMemoryValid_any A c zs X hz (h2.below hX))
  have HB := mkHid hal
  have HOK : Hid (okS xs x.st id zs = (laneValid xs x.st && inB id 0 7 && memValid zs)) := mkHid rfl
  obtain ⟨v1, hv1⟩ : ∃ v, v = laneValid xs x.st := ⟨_, rfl⟩
  obtain ⟨v2, hv2⟩ : ∃ v, v = inB id 0 7 := ⟨_, rfl⟩
  obtain ⟨v3, hv3⟩ : ∃ v, v = memValid zs := ⟨_, rfl⟩
  rw [HOK.out]
  rw [← hv1] at HL ⊢
  rw [← hv2] at HW ⊢
  rw [← hv3] at HM ⊢
  subst ho1
  clear hv1 hv2 hv3 hs hi h2 hal
  cases v1 with
  | false =>
    go_enter Try.func70, Try.ntmps70
    go_wp2_with fail
    refine HL.out.mono ?_
    rintro e w2 ⟨rfl, b2⟩
    have B2 := mkHid (HB.out.trans (b2.mono HB.out.size))
    clear b2
    go_wp2_with fail
    go_ret
    exact ⟨rfl, B2.out⟩
  | true =>
    cases v2 with
    | false =>
      go_enter Try.func70, Try.ntmps70
      go_wp2_with fail
      refine HL.out.mono ?_
      rintro e w2 ⟨rfl, b2⟩
      have B2 := mkHid (HB.out.trans (b2.mono HB.out.size))
      clear b2
      go_wp2_with fail
      refine (HW.out _).mono ?_
      rintro e w3 ⟨rfl, rfl⟩
      go_wp2_with fail
      go_ret
      exact ⟨rfl, B2.out⟩
    | true =>
      go_enter Try.func70, Try.ntmps70
      go_wp2_with fail
      refine HL.out.mono ?_
      rintro e w2 ⟨rfl, b2⟩
      have B2 := mkHid (HB.out.trans (b2.mono HB.out.size))
      clear b2
      go_wp2_with fail
      refine (HW.out _).mono ?_
      rintro e w3 ⟨rfl, rfl⟩
      go_wp2_with fail
      refine (HM.out _ B2.out).mono ?_
      rintro e w3 ⟨rfl, b3⟩
      have B3 := mkHid (below_then B2.out b3)
      clear b3
      go_wp2_with fail
      go_ret
      exact ⟨ret_bool (by simp), B3.out⟩
theorem implRunLane_no (x : Lt) (LA : Option Addr) (lc : Nat) (xs : List Cd) (id : Int) (A : Option Addr) (c : Nat) (zs : List Int) (w : World) (hl : xs.length ≤ 1048576) (hz : zs.length ≤ 1000000000) (hs : Sl w LA (cflat xs)) (hi : LaneIn w x) (h2 : Sl w A (ints zs)) (hno : okS xs x.st id zs = false) :
    Calls Try.prog 28 #[ltV x, .slice LA xs.length lc, .int .i64 id, .slice A zs.length c] w (RetLM (lsNil, []) w) := by
  obtain ⟨o1, ho1⟩ : ∃ o1, o1 = Obj.cells #[.slice x.ra x.zs.length x.rc, .int .i64 x.at_, .slice x.ta x.ts.length x.tc, .bool x.wt] 52 := ⟨_, rfl⟩
  obtain ⟨o2, ho2⟩ : ∃ o2, o2 = Obj.cells #[.slice none 0 0, .int .i64 0, .slice none 0 0, .bool false] 52 := ⟨_, rfl⟩
  have hbl : Below w.heap.size w ((w.alloc o1).alloc o2) := ((Below.refl _ _).alloc (Nat.le_refl _) _).alloc (by simp) _
  have q2 : ((w.alloc o1).alloc o2).heap[w.heap.size + 1]? = some o2 := by
    have := heap_alloc_new (w.alloc o1) o2
    simpa using this
  have HC := mkHid (canStep_any x LA lc xs id A c zs _ hl hz (hs.below hbl) (hi.below hbl) (h2.below hbl))
  rw [hno] at HC
  have HB := mkHid hbl
  subst ho1 ho2
  have HQ2 := mkHid q2
  clear hs hi h2 hno hbl q2
  go_enter Try.func28, Try.ntmps28
  go_wp2_with fail
  refine HC.out.mono ?_
  rintro e w2 ⟨rfl, b2⟩
  have hq := (b2.block _ (Array.getElem?_eq_some_iff.1 HQ2.out).1).trans HQ2.out
  have HB2 := mkHid (HB.out.trans (b2.mono HB.out.size))
  obtain ⟨⟨d0, d1, d2, d3⟩, g0, g1, g2, g3⟩ := box4e hq
  clear b2 hq
  go_wp2_with fail
  refine bodyPost_ret (v := .tuple #[ltV ⟨none, 0, [], 0, none, 0, [], false⟩, .slice none 0 0]) (by simp [results, Try.results28, go_sem, d0, d1, d2, d3]) rfl ⟨_, none, 0, rfl, rfl, apt_nil3 _ _, ?_⟩
  exact HB2.out.grown (grown_s4 _ _ _ _ _ _) HB2.out.size (fun g e => by injection e with e; omega)
theorem implRunLane_yes (x : Lt) (LA : Option Addr) (lc : Nat) (xs : List Cd) (id : Int) (A : Option Addr) (c : Nat) (zs : List Int) (w : World) (hl : xs.length ≤ 1048576) (hz : zs.length ≤ 1000000000) (hs : Sl w LA (cflat xs)) (hi : LaneIn w x) (h2 : Sl w A (ints zs)) (hok : okS xs x.st id zs = true) (N : Nat) (hN : RunsL xs id (clearW x.st) zs N) :
    Calls Try.prog 28 #[ltV x, .slice LA xs.length lc, .int .i64 id, .slice A zs.length c] w (RetLM (iterS xs id (clearW x.st) zs N) w) := by
  obtain ⟨o1, ho1⟩ : ∃ o1, o1 = Obj.cells #[.slice x.ra x.zs.length x.rc, .int .i64 x.at_, .slice x.ta x.ts.length x.tc, .bool x.wt] 52 := ⟨_, rfl⟩
  obtain ⟨o2, ho2⟩ : ∃ o2, o2 = Obj.cells #[.slice none 0 0, .int .i64 0, .slice none 0 0, .bool false] 52 := ⟨_, rfl⟩
  have hbl : Below w.heap.size w ((w.alloc o1).alloc o2) := ((Below.refl _ _).alloc (Nat.le_refl _) _).alloc (by simp) _
  have q1 : ((w.alloc o1).alloc o2).heap[w.heap.size]? = some o1 := by
    rw [heap_alloc_old _ _ (by simp)]; exact heap_alloc_new _ _
  have q2 : ((w.alloc o1).alloc o2).heap[w.heap.size + 1]? = some o2 := by
    have := heap_alloc_new (w.alloc o1) o2
    simpa using this
  have hsz : ((w.alloc o1).alloc o2).heap.size = w.heap.size + 2 := by simp
  have HC := mkHid (canStep_any x LA lc xs id A c zs _ hl hz (hs.below hbl) (hi.below hbl) (h2.below hbl))
  rw [hok] at HC
  have ho := okS_iff.1 hok
  have HOK := mkHid ho
  have h4 : x.zs.length = 4 := ho.lane.regs
  have h3 : x.ts.length ≤ 3 := by
    have h1 := ho.lane.len
    have h2 := loops_three ho.prog (k := x.st.pc.toNat) (by have := ho.lane.pc; omega)
    have e : x.st.turns.length = x.ts.length := rfl
    omega
  have h40 := (progValid_yes ho.prog).1
  have hz32 := (memValid_parts.1 ho.mem).1
  have HB := mkHid hbl
  have HS := mkHid hs
  have HI := mkHid hi
  have H2 := mkHid h2
  have H34 := mkHid (And.intro h3 h4)
  have HLO : Hid (∀ ad, LA = some ad → xs ≠ [] → ad.block < w.heap.size + 2) := mkHid (fun ad e hne => by
    subst e
    rcases hs with h | ⟨b, off, h1, h2⟩
    · exfalso
      have h1 := congrArg List.length h
      rw [cflat_length] at h1
      have h2 := List.length_pos_iff.2 hne
      simp only [List.length_nil] at h1
      omega
    · injection h1 with h1
      subst h1
      have hlt : 0 < (cflat xs).length := by rw [cflat_length]; have := List.length_pos_iff.2 hne; omega
      have h3 : b < w.heap.size := World.block_lt_of_cell? _ _ (h2 0 _ (List.getElem?_eq_getElem hlt))
      show b < w.heap.size + 2
      omega)
  obtain ⟨⟨u0, u1, u2, u3⟩, _⟩ := box4e (q1.trans (congrArg some ho1))
  subst ho1 ho2
  have HQ1 := mkHid q1
  have HQ2 := mkHid q2
  have HSZ := mkHid hsz
  clear hs hi h2 hok hbl q1 q2 hsz ho h3 h4
  go_enter Try.func28, Try.ntmps28
  go_wp2_with fail
  generalize (w.alloc (.cells #[.slice x.ra x.zs.length x.rc, .int .i64 x.at_, .slice x.ta x.ts.length x.tc, .bool x.wt] 52)).alloc (.cells #[.slice none 0 0, .int .i64 0, .slice none 0 0, .bool false] 52) = W0 at *
  refine HC.out.mono ?_
  rintro e w2 ⟨rfl, b2⟩
  have hq1 := (b2.block _ (Array.getElem?_eq_some_iff.1 HQ1.out).1).trans HQ1.out
  have B02 := mkHid b2
  have HB2 := mkHid (HB.out.trans (b2.mono HB.out.size))
  clear u0 u1 u2 u3
  obtain ⟨⟨u0, u1, u2, u3⟩, _⟩ := box4e hq1
  clear b2 hq1
  go_wp2_with fail
  refine (clone_any x w2 (by have := H34.out; omega) (by have := H34.out; omega) (HI.out.below HB2.out)).mono ?_
  rintro e w3 ⟨l, rfl, hst, hap, b3⟩
  have HST := mkHid hst
  have HAP := mkHid hap
  have B03 := mkHid (below_then B02.out b3)
  have HB3 := mkHid (below_then HB2.out b3)
  have hz23 := b3.size
  clear hst hap b3 u0 u1 u2 u3
  go_wp2_with fail
  refine (cloneInts_any A c zs w3 (by omega) (H2.out.below HB3.out)).mono ?_
  rintro e w4 ⟨A4, c4, rfl, o4, b4⟩
  have HA4 := mkHid ((HAP.out.cons_new b4 hz23 (m := ⟨A4, c4, zs⟩) o4).lower (show w.heap.size + 2 ≤ w2.heap.size from by have := B02.out.size; rw [HSZ.out] at this; exact this))
  have B04 := mkHid (below_then B03.out b4)
  have HB4 := mkHid (below_then HB3.out b4)
  clear o4 b4
  have hsz4 : w.heap.size + 2 ≤ w4.heap.size := by have := B04.out.size; rw [HSZ.out] at this; exact this
  clear HC HAP
  go_upto_region 5 with fail
  refine name_world ?_
  intro W6 hW6
  obtain ⟨l0, hl0⟩ : ∃ l0 : Lt, l0 = ⟨l.ra, l.rc, l.zs, l.at_, l.ta, l.tc, l.ts, false⟩ := ⟨_, rfl⟩
  have hC6 : CrAt W6 (w.heap.size + 2) (some ⟨w4.heap.size, 0, none⟩) 1 [l0] ⟨A4, c4, zs⟩ := by rw [hW6, hl0]; exact one_crowdM HA4.out hsz4
  have hal6 : Below w4.heap.size w4 W6 := by rw [hW6]; exact (Below.refl _ _).alloc (Nat.le_refl _) _
  have HC6 := mkHid hC6
  have B06 := mkHid (below_then B04.out hal6)
  have HB6 := mkHid (below_then HB4.out hal6)
  have HS6 : Hid (w.heap.size + 2 ≤ W6.heap.size) := mkHid (Nat.le_trans hsz4 hal6.size)
  clear hC6 hW6 hal6 HA4 B04 HB4
  generalize w4.heap.size = X at *
  have HL0 : Hid (l0.st = clearW x.st) := mkHid (by rw [hl0, ← HST.out]; rfl)
  clear hl0
  have HNM := mkHid (newMachine_any LA lc xs (w.heap.size + 2) W6 HOK.out.prog (HS.out.below HB6.out) HLO.out)
  go_wp2_with fail
  refine HNM.out.mono ?_
  rintro e w7 ⟨M, O, P, rfl, hM, b7⟩
  have HM7 := mkHid hM
  have HC7 := mkHid (HC6.out.below b7)
  have B07 := mkHid (below_then B06.out b7)
  have HB7 := mkHid (below_then HB6.out b7)
  clear hM b7 HNM HC6
  have hN6 := hN.le
  have HN := mkHid hN
  have HIT := mkHid (fun i => iterS_ok (id := id) HOK.out.prog HOK.out.id8 HOK.out.lane.clear HOK.out.mem i)
  clear hN
  go_wp2_with fail
  go_loopg [] N (fun gk wr => ∃ i : Nat, i ≤ N ∧ gk = N - i ∧ ∃ l' : Lt, l'.st = (iterS xs id (clearW x.st) zs i).1 ∧ CrAt wr (w.heap.size + 2) (some ⟨X, 0, none⟩) 1 [l'] ⟨A4, c4, (iterS xs id (clearW x.st) zs i).2⟩ ∧ MachAt wr (w.heap.size + 2) M LA lc xs O P ∧ Below W0.heap.size W0 wr ∧ Below w.heap.size w wr)
  case atStart => exact ⟨0, by omega, by omega, l0, HL0.out, HC7.out, HM7.out, B07.out, HB7.out⟩
  case round =>
    clear HC7 HM7 B07 HB7 w7
    obtain ⟨i, hi, rfl, l', hst', hcr, hM, hb0, hb⟩ := hrel
    have HCR := mkHid hcr
    have HM := mkHid hM
    have HB0 := mkHid hb0
    have HBW := mkHid hb
    have HST' := mkHid hst'
    have hiok := HIT.out i
    have HIOK := mkHid hiok
    obtain ⟨mi, hmi⟩ : ∃ mi, mi = (iterS xs id (clearW x.st) zs i).2 := ⟨_, rfl⟩
    have HMI := mkHid hmi
    rw [← hmi] at hcr HCR HIOK
    have hml : mi.length = zs.length := HIOK.out.2.2
    have HML := mkHid hml
    have hcx := hcr.cells (k := 0) (by simp)
    simp only [Nat.zero_mul, Nat.zero_add, List.getElem_cons_zero, ltR, ltT] at hcx
    obtain ⟨⟨x0, x1, x2, x3⟩, _⟩ := hcx
    have hsw : w.heap.size + 2 ≤ wr.heap.size := by have := hb0.size; have := HSZ.out; omega
    have HD := mkHid (isDone_any M (w.heap.size + 2) lc O LA xs P X 0 l'.at_ wr hM x1)
    have HG : Hid (goesB xs.length (iterS xs id (clearW x.st) zs i).1 = (!l'.wt && !(l'.at_ == (xs.length : Int)))) := mkHid (by rw [← hst']; rfl)
    have HEX : Hid (goesB xs.length (iterS xs id (clearW x.st) zs i).1 = false → i = N) := mkHid (fun h => by
      rcases Nat.lt_or_ge i N with h1 | h1
      · have := HN.out.before i h1; rw [h] at this; cases this
      · omega)
    have HGO : Hid (goesB xs.length (iterS xs id (clearW x.st) zs i).1 = true → i < N) := mkHid (fun h => by
      rcases Nat.lt_or_ge i N with h1 | h1
      · exact h1
      · have e : i = N := by omega
        have := HN.out.stop; rw [← e, h] at this; cases this)
    obtain ⟨wt, hwt⟩ : ∃ wt, wt = l'.wt := ⟨_, rfl⟩
    have HWT := mkHid hwt
    rw [← hwt] at x3 HG
    clear hcr hM hb0 hb hst' hiok hmi hml hwt
    cases wt with
    | true =>
      have hie := HEX.out (by rw [HG.out]; rfl)
      have hq2 := (HB0.out.block _ (Array.getElem?_eq_some_iff.1 HQ2.out).1).trans HQ2.out
      have HQ2' := mkHid hq2
      obtain ⟨⟨d0, d1, d2, d3⟩, g0, g1, g2, g3⟩ := box4e hq2
      clear hq2
      subst hie
      have hfin := HCR.out.2.lower (show w.heap.size ≤ w.heap.size + 2 by omega)
      have HFIN := mkHid hfin
      clear hfin
      go_wp2_with fail
      refine bodyPost_ret (v := .tuple #[ltV l', .slice A4 zs.length c4]) (by simp [results, Try.results28, go_sem, d0, d1, d2, d3, HWT.out.symm]) rfl ?_
      refine ⟨l', A4, c4, ?_, HST'.out, ?_, ?_⟩
      · rw [← HMI.out, HML.out]
      · rw [← HMI.out]
        exact HFIN.out.other (grown_s4 _ _ _ _ _ _) HQ2'.out (by decide)
      · exact HBW.out.grown (grown_s4 _ _ _ _ _ _) HBW.out.size (fun g e => by injection e with e; omega)
    | false =>
      by_cases hdn : l'.at_ = (xs.length : Int)
      · have hbt : (l'.at_ == (xs.length : Int)) = true := by simpa using hdn
        rw [hbt] at HD HG
        have hie := HEX.out (by rw [HG.out]; rfl)
        clear hdn hbt
        go_wp2_with fail
        refine HD.out.mono ?_
        rintro e w8 ⟨rfl, n8, rfl⟩
        have HCR := mkHid (HCR.out.drewN n8)
        have HB0 := mkHid (below_drewN HB0.out n8)
        have HBW := mkHid (below_drewN HBW.out n8)
        generalize wr.drewN n8 = wr at *
        clear x0 x1 x2 x3
        have hcx := HCR.out.cells (k := 0) (by simp)
        simp only [Nat.zero_mul, Nat.zero_add, List.getElem_cons_zero, ltR, ltT] at hcx
        obtain ⟨⟨x0, x1, x2, x3⟩, _⟩ := hcx
        have hq2 := (HB0.out.block _ (Array.getElem?_eq_some_iff.1 HQ2.out).1).trans HQ2.out
        have HQ2' := mkHid hq2
        obtain ⟨⟨d0, d1, d2, d3⟩, g0, g1, g2, g3⟩ := box4e hq2
        clear hq2
        subst hie
        have hfin := HCR.out.2.lower (show w.heap.size ≤ w.heap.size + 2 by omega)
        have HFIN := mkHid hfin
        clear hfin
        go_wp2_with fail
        refine bodyPost_ret (v := .tuple #[ltV l', .slice A4 zs.length c4]) (by simp [results, Try.results28, go_sem, d0, d1, d2, d3]) rfl ?_
        refine ⟨l', A4, c4, ?_, HST'.out, ?_, ?_⟩
        · rw [← HMI.out, HML.out]
        · rw [← HMI.out]
          exact HFIN.out.other (grown_s4 _ _ _ _ _ _) HQ2'.out (by decide)
        · exact HBW.out.grown (grown_s4 _ _ _ _ _ _) HBW.out.size (fun g e => by injection e with e; omega)
      · have hbt : (l'.at_ == (xs.length : Int)) = false := by simpa using hdn
        rw [hbt] at HD HG
        have hin := HGO.out (by rw [HG.out]; rfl)
        clear hdn hbt
        go_wp2_with fail
        refine HD.out.mono ?_
        rintro e w8 ⟨rfl, n8, rfl⟩
        have HCR := mkHid (HCR.out.drewN n8)
        have HM := mkHid (HM.out.frm ((Frm.refl (w.heap.size + 2) wr).drewN n8))
        have HB0 := mkHid (below_drewN HB0.out n8)
        have HBW := mkHid (below_drewN HBW.out n8)
        have hsw : w.heap.size + 2 ≤ (wr.drewN n8).heap.size := hsw
        generalize wr.drewN n8 = wr at *
        have hstep := step_any M lc O LA xs P (w.heap.size + 2) X 1 0 [l'] ⟨A4, c4, mi⟩ wr (by simp) id l' rfl HOK.out.prog hsw HOK.out.id8 HIOK.out.2.1 HM.out HCR.out (by rw [HST'.out]; exact HIOK.out.1)
        simp only [Nat.zero_mul, HML.out] at hstep
        have HSP := mkHid hstep
        have HNX : Hid (iterS xs id (clearW x.st) zs (i + 1) = stepS xs id l'.st mi) := mkHid (by
          show stepS xs id (iterS xs id (clearW x.st) zs i).1 (iterS xs id (clearW x.st) zs i).2 = _
          rw [← HMI.out, ← HST'.out])
        rw [← HNX.out] at HSP
        clear hstep x0 x1 x2 x3
        go_wp2_with fail
        refine HSP.out.mono ?_
        rintro e w9 ⟨rfl, l9, h9, c9, f9⟩
        simp only [List.set_cons_zero] at c9
        have HC9 := mkHid c9
        have HM9 := mkHid (HM.out.frm f9)
        have HB09 := mkHid (HB0.out.trans (show Below W0.heap.size wr w9 from by rw [HSZ.out]; exact f9.1))
        have HBW9 := mkHid (HBW.out.trans (f9.1.mono (by omega)))
        have H9 := mkHid h9
        clear h9 c9 f9
        go_wp2_with fail
        go_roundg (N - (i + 1))
        case rel => exact ⟨i + 1, by omega, rfl, l9, H9.out, HC9.out, HM9.out, HB09.out, HBW9.out⟩
        case measure => omega
theorem implStepLane_no (x : Lt) (LA : Option Addr) (lc : Nat) (xs : List Cd) (id : Int) (A : Option Addr) (c : Nat) (zs : List Int) (w : World) (hl : xs.length ≤ 1048576) (hz : zs.length ≤ 1000000000) (hs : Sl w LA (cflat xs)) (hi : LaneIn w x) (h2 : Sl w A (ints zs)) (hno : okS xs x.st id zs = false) :
    Calls Try.prog 32 #[ltV x, .slice LA xs.length lc, .int .i64 id, .slice A zs.length c] w (RetLM (lsNil, []) w) := by
  obtain ⟨o1, ho1⟩ : ∃ o1, o1 = Obj.cells #[.slice x.ra x.zs.length x.rc, .int .i64 x.at_, .slice x.ta x.ts.length x.tc, .bool x.wt] 52 := ⟨_, rfl⟩
  obtain ⟨o2, ho2⟩ : ∃ o2, o2 = Obj.cells #[.slice none 0 0, .int .i64 0, .slice none 0 0, .bool false] 52 := ⟨_, rfl⟩
  have hbl : Below w.heap.size w ((w.alloc o1).alloc o2) := ((Below.refl _ _).alloc (Nat.le_refl _) _).alloc (by simp) _
  have q2 : ((w.alloc o1).alloc o2).heap[w.heap.size + 1]? = some o2 := by
    have := heap_alloc_new (w.alloc o1) o2
    simpa using this
  have HC := mkHid (canStep_any x LA lc xs id A c zs _ hl hz (hs.below hbl) (hi.below hbl) (h2.below hbl))
  rw [hno] at HC
  have HB := mkHid hbl
  subst ho1 ho2
  have HQ2 := mkHid q2
  clear hs hi h2 hno hbl q2
  go_enter Try.func32, Try.ntmps32
  go_wp2_with fail
  refine HC.out.mono ?_
  rintro e w2 ⟨rfl, b2⟩
  have hq := (b2.block _ (Array.getElem?_eq_some_iff.1 HQ2.out).1).trans HQ2.out
  have HB2 := mkHid (HB.out.trans (b2.mono HB.out.size))
  obtain ⟨⟨d0, d1, d2, d3⟩, g0, g1, g2, g3⟩ := box4e hq
  clear b2 hq
  go_wp2_with fail
  refine bodyPost_ret (v := .tuple #[ltV ⟨none, 0, [], 0, none, 0, [], false⟩, .slice none 0 0]) (by simp [results, Try.results32, go_sem, d0, d1, d2, d3]) rfl ⟨_, none, 0, rfl, rfl, apt_nil3 _ _, ?_⟩
  exact HB2.out.grown (grown_s4 _ _ _ _ _ _) HB2.out.size (fun g e => by injection e with e; omega)
theorem implStepLane_yes (x : Lt) (LA : Option Addr) (lc : Nat) (xs : List Cd) (id : Int) (A : Option Addr) (c : Nat) (zs : List Int) (w : World) (hl : xs.length ≤ 1048576) (hz : zs.length ≤ 1000000000) (hs : Sl w LA (cflat xs)) (hi : LaneIn w x) (h2 : Sl w A (ints zs)) (hok : okS xs x.st id zs = true) :
    Calls Try.prog 32 #[ltV x, .slice LA xs.length lc, .int .i64 id, .slice A zs.length c] w (RetLM (stepS xs id x.st zs) w) := by
  obtain ⟨o1, ho1⟩ : ∃ o1, o1 = Obj.cells #[.slice x.ra x.zs.length x.rc, .int .i64 x.at_, .slice x.ta x.ts.length x.tc, .bool x.wt] 52 := ⟨_, rfl⟩
  obtain ⟨o2, ho2⟩ : ∃ o2, o2 = Obj.cells #[.slice none 0 0, .int .i64 0, .slice none 0 0, .bool false] 52 := ⟨_, rfl⟩
  have hbl : Below w.heap.size w ((w.alloc o1).alloc o2) := ((Below.refl _ _).alloc (Nat.le_refl _) _).alloc (by simp) _
  have q1 : ((w.alloc o1).alloc o2).heap[w.heap.size]? = some o1 := by
    rw [heap_alloc_old _ _ (by simp)]; exact heap_alloc_new _ _
  have q2 : ((w.alloc o1).alloc o2).heap[w.heap.size + 1]? = some o2 := by
    have := heap_alloc_new (w.alloc o1) o2
    simpa using this
  have hsz : ((w.alloc o1).alloc o2).heap.size = w.heap.size + 2 := by simp
  have HC := mkHid (canStep_any x LA lc xs id A c zs _ hl hz (hs.below hbl) (hi.below hbl) (h2.below hbl))
  rw [hok] at HC
  have ho := okS_iff.1 hok
  have HOK := mkHid ho
  have h4 : x.zs.length = 4 := ho.lane.regs
  have h3 : x.ts.length ≤ 3 := by
    have h1 := ho.lane.len
    have h2 := loops_three ho.prog (k := x.st.pc.toNat) (by have := ho.lane.pc; omega)
    have e : x.st.turns.length = x.ts.length := rfl
    omega
  have h40 := (progValid_yes ho.prog).1
  have hz32 := (memValid_parts.1 ho.mem).1
  have HB := mkHid hbl
  have HS := mkHid hs
  have HI := mkHid hi
  have H2 := mkHid h2
  have H34 := mkHid (And.intro h3 h4)
  have HLO : Hid (∀ ad, LA = some ad → xs ≠ [] → ad.block < w.heap.size + 2) := mkHid (fun ad e hne => by
    subst e
    rcases hs with h | ⟨b, off, h1, h2⟩
    · exfalso
      have h1 := congrArg List.length h
      rw [cflat_length] at h1
      have h2 := List.length_pos_iff.2 hne
      simp only [List.length_nil] at h1
      omega
    · injection h1 with h1
      subst h1
      have hlt : 0 < (cflat xs).length := by rw [cflat_length]; have := List.length_pos_iff.2 hne; omega
      have h3 : b < w.heap.size := World.block_lt_of_cell? _ _ (h2 0 _ (List.getElem?_eq_getElem hlt))
      show b < w.heap.size + 2
      omega)
  obtain ⟨⟨u0, u1, u2, u3⟩, _⟩ := box4e (q1.trans (congrArg some ho1))
  subst ho1 ho2
  have HQ1 := mkHid q1
  have HQ2 := mkHid q2
  have HSZ := mkHid hsz
  clear hs hi h2 hok hbl q1 q2 hsz ho h3 h4
  go_enter Try.func32, Try.ntmps32
  go_wp2_with fail
  generalize (w.alloc (.cells #[.slice x.ra x.zs.length x.rc, .int .i64 x.at_, .slice x.ta x.ts.length x.tc, .bool x.wt] 52)).alloc (.cells #[.slice none 0 0, .int .i64 0, .slice none 0 0, .bool false] 52) = W0 at *
  refine HC.out.mono ?_
  rintro e w2 ⟨rfl, b2⟩
  have hq1 := (b2.block _ (Array.getElem?_eq_some_iff.1 HQ1.out).1).trans HQ1.out
  have B02 := mkHid b2
  have HB2 := mkHid (HB.out.trans (b2.mono HB.out.size))
  clear u0 u1 u2 u3
  obtain ⟨⟨u0, u1, u2, u3⟩, _⟩ := box4e hq1
  clear b2 hq1
  go_wp2_with fail
  refine (clone_any x w2 (by have := H34.out; omega) (by have := H34.out; omega) (HI.out.below HB2.out)).mono ?_
  rintro e w3 ⟨l, rfl, hst, hap, b3⟩
  have HST := mkHid hst
  have HAP := mkHid hap
  have B03 := mkHid (below_then B02.out b3)
  have HB3 := mkHid (below_then HB2.out b3)
  have hz23 := b3.size
  clear hst hap b3 u0 u1 u2 u3
  go_wp2_with fail
  refine (cloneInts_any A c zs w3 (by omega) (H2.out.below HB3.out)).mono ?_
  rintro e w4 ⟨A4, c4, rfl, o4, b4⟩
  have HA4 := mkHid ((HAP.out.cons_new b4 hz23 (m := ⟨A4, c4, zs⟩) o4).lower (show w.heap.size + 2 ≤ w2.heap.size from by have := B02.out.size; rw [HSZ.out] at this; exact this))
  have B04 := mkHid (below_then B03.out b4)
  have HB4 := mkHid (below_then HB3.out b4)
  clear o4 b4
  have hsz4 : w.heap.size + 2 ≤ w4.heap.size := by have := B04.out.size; rw [HSZ.out] at this; exact this
  clear HC HAP
  have hsz5 : (w4.alloc (.cells #[ltR l, .int .i64 l.at_, ltT l, .bool l.wt] 52)).heap.size = w4.heap.size + 1 := by simp
  have hal5 : Below w4.heap.size w4 (w4.alloc (.cells #[ltR l, .int .i64 l.at_, ltT l, .bool l.wt] 52)) := (Below.refl _ _).alloc (Nat.le_refl _) _
  have HCR := mkHid (one_crowdM HA4.out hsz4)
  have B05 := mkHid (below_then B04.out hal5)
  have HB5 := mkHid (below_then HB4.out hal5)
  have HNM := mkHid (newMachine_any LA lc xs (w.heap.size + 2) _ HOK.out.prog (HS.out.below HB5.out) HLO.out)
  clear hal5 HA4 B04 HB4
  go_wp2_with fail
  generalize w4.alloc (.cells #[ltR l, .int .i64 l.at_, ltT l, .bool l.wt] 52) = W5 at *
  generalize w4.heap.size = X at *
  refine HNM.out.mono ?_
  rintro e w7 ⟨M, O, P, rfl, hM, b7⟩
  have HM7 := mkHid hM
  have HC7 := mkHid (HCR.out.below b7)
  have B07 := mkHid (below_then B05.out b7)
  have HB7 := mkHid (below_then HB5.out b7)
  have hsw : w.heap.size + 2 ≤ w7.heap.size := by have := B07.out.size; have := HSZ.out; omega
  have hstep := step_any M lc O LA xs P (w.heap.size + 2) X 1 0 [l] ⟨A4, c4, zs⟩ w7 (by simp) id l rfl HOK.out.prog hsw HOK.out.id8 HOK.out.mem hM HC7.out (by rw [HST.out]; exact HOK.out.lane)
  simp only [Nat.zero_mul, HST.out] at hstep
  have HSP := mkHid hstep
  have HML : Hid ((stepS xs id x.st zs).2.length = zs.length) := mkHid (stepS_ok HOK.out.prog HOK.out.id8 HOK.out.lane HOK.out.mem).2.2
  obtain ⟨r, hr⟩ : ∃ r, r = stepS xs id x.st zs := ⟨_, rfl⟩
  rw [← hr] at HSP HML
  have HR := mkHid hr
  clear hM b7 HNM hstep HCR hr
  go_wp2_with fail
  refine HSP.out.mono ?_
  rintro e w9 ⟨rfl, l9, h9, c9, f9⟩
  simp only [List.set_cons_zero] at c9
  have HC9 := mkHid c9
  have hb09 : Below W0.heap.size W0 w9 := B07.out.trans (show Below W0.heap.size w7 w9 from by rw [HSZ.out]; exact f9.1)
  have HBW9 := mkHid (HB7.out.trans (f9.1.mono (by omega)))
  have H9 := mkHid h9
  have hq2 := (hb09.block _ (Array.getElem?_eq_some_iff.1 HQ2.out).1).trans HQ2.out
  have HQ2' := mkHid hq2
  obtain ⟨⟨d0, d1, d2, d3⟩, g0, g1, g2, g3⟩ := box4e hq2
  have hcx := HC9.out.cells (k := 0) (by simp)
  simp only [Nat.zero_mul, Nat.zero_add, List.getElem_cons_zero, ltR, ltT] at hcx
  obtain ⟨⟨x0, x1, x2, x3⟩, _⟩ := hcx
  have hfin := HC9.out.2.lower (show w.heap.size ≤ w.heap.size + 2 by omega)
  have HFIN := mkHid hfin
  clear h9 c9 f9 hb09 hq2 hfin
  go_wp2_with fail
  refine bodyPost_ret (v := .tuple #[ltV l9, .slice A4 zs.length c4]) (by simp [results, Try.results32, go_sem, d0, d1, d2, d3]) rfl ?_
  show RetLM _ _ _ _
  rw [← HR.out]
  refine ⟨l9, A4, c4, ?_, H9.out, ?_, ?_⟩
  · rw [HML.out]
  · exact HFIN.out.other (grown_s4 _ _ _ _ _ _) HQ2'.out (by decide)
  · exact HBW9.out.grown (grown_s4 _ _ _ _ _ _) HBW9.out.size (fun g e => by injection e with e; omega)
theorem implRunLane_any (x : Lt) (LA : Option Addr) (lc : Nat) (xs : List Cd) (id : Int) (A : Option Addr) (c : Nat) (zs : List Int) (r : LS × List Int) (w : World) (hl : xs.length ≤ 1048576) (hz : zs.length ≤ 1000000000) (hs : Sl w LA (cflat xs)) (hi : LaneIn w x) (h2 : Sl w A (ints zs)) (hr : RunTo xs x.st id zs r) :
    Calls Try.prog 28 #[ltV x, .slice LA xs.length lc, .int .i64 id, .slice A zs.length c] w (RetLM r w) := by
  rcases hr with ⟨h1, rfl⟩ | ⟨h1, N, hN, rfl⟩
  · exact implRunLane_no x LA lc xs id A c zs w hl hz hs hi h2 h1
  · exact implRunLane_yes x LA lc xs id A c zs w hl hz hs hi h2 h1 N hN
theorem implStepLane_any (x : Lt) (LA : Option Addr) (lc : Nat) (xs : List Cd) (id : Int) (A : Option Addr) (c : Nat) (zs : List Int) (w : World) (hl : xs.length ≤ 1048576) (hz : zs.length ≤ 1000000000) (hs : Sl w LA (cflat xs)) (hi : LaneIn w x) (h2 : Sl w A (ints zs)) :
    Calls Try.prog 32 #[ltV x, .slice LA xs.length lc, .int .i64 id, .slice A zs.length c] w (RetLM (stepTo xs x.st id zs) w) := by
  unfold stepTo
  cases h : okS xs x.st id zs with
  | false => exact implStepLane_no x LA lc xs id A c zs w hl hz hs hi h2 h
  | true => exact implStepLane_yes x LA lc xs id A c zs w hl hz hs hi h2 h
end Go.Proofs.Ytjmiilneennjaaa
