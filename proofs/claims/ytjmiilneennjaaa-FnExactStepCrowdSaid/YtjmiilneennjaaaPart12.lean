/-
  Parts of a proof: CCrV, CPut.
-/
import Derived.Test.YtjmiilneennjaaaPart11
import Derived.Test.YtjmiilneennjaaaPart09
namespace Go.Proofs.Ytjmiilneennjaaa
open Go.RowKit
set_option maxHeartbeats 2000000
set_option maxRecDepth 100000
set_option linter.unusedVariables false

def crowdValid (xs : List Cd) (ss : List LS) (mem : List Int) : Bool := inB ss.length 1 8 && progValid xs && memValid mem && ss.all (laneValid xs)
theorem crowdValid_no {xs : List Cd} {ss : List LS} {mem : List Int} (h : inB ss.length 1 8 = false ∨ progValid xs = false ∨ memValid mem = false ∨ ss.all (laneValid xs) = false) : crowdValid xs ss mem = false := by
  unfold crowdValid
  rcases h with h | h | h | h <;> rw [h] <;> simp
theorem lflatOne (w : World) (l : Lt) : True := trivial
/-- closure f answers p at the lanes ls, wherever it is called from w on. -/
def AnswersL (f : Value) (p : LS → Bool) (ls : List Lt) (w : World) : Prop :=
  ∃ id cap, f = .func (.func id) #[] cap ∧ (∀ args w, (callFunc id args).run Try.prog w = .ok (.enter id args) w) ∧ ∀ l ∈ ls, ∀ X : World, Below w.heap.size w X → Calls Try.prog id (#[ltV l] ++ cap) X fun e w' => e = .returned (.bool (p l.st)) ∧ Below X.heap.size X w'
theorem indexFuncL_any (A : Option Addr) (c : Nat) (ls : List Lt) (f : Value) (p : LS → Bool) (w : World) (hl : ls.length ≤ 9223372036854775807) (hs : Sl w A (tflat ls)) (hf : AnswersL f p ls w) :
    Calls Try.prog 86 #[.slice A ls.length c, f] w fun e w' => ((∃ i : Nat, ∃ h : i < ls.length, e = .returned (.int .i64 i) ∧ p ls[i].st = true) ∨ (e = .returned (.int .i64 (-1)) ∧ ∀ l ∈ ls, p l.st = false)) ∧ Below w.heap.size w w' := by
  obtain ⟨id, cap, rfl, hrun, hf⟩ := hf
  have HF := mkHid hf
  have HS := mkHid hs
  clear hf hs
  go_enter Try.func86, Try.ntmps86
  go_wp2_with fail
  go_loopw [8] (fun iv wr => ∃ k : Nat, k ≤ ls.length ∧ iv = .int .i64 k ∧ Hid (∀ j (h : j < ls.length), j < k → p ls[j].st = false) ∧ Below w.heap.size w wr) (fun iv _ => ls.length - (intOf iv).toNat)
  case atStart => exact ⟨0, by omega, rfl, mkHid (fun j h h' => absurd h' (by omega)), Below.refl _ _⟩
  case round =>
    obtain ⟨k, hk, rfl, HN, hb⟩ := hrel
    have HB := mkHid hb
    by_cases hlt : k < ls.length
    · obtain ⟨b, off, hA, h0, h1, h2, h3⟩ := (HS.out.below hb).lt hlt
      have hC := HF.out ls[k] (List.getElem_mem hlt) wr hb
      have HPP := mkHid (show ∀ v, p ls[k].st = v → p ls[k].st = v from fun _ h => h)
      obtain ⟨l, hll⟩ : ∃ l, l = ls[k] := ⟨_, rfl⟩
      simp only [← hll] at h0 h1 h2 h3 hC
      have HLL := mkHid hll
      obtain ⟨ra, rc, zs, at_, ta, tc, ts, wt⟩ := l
      simp only at h0 h1 h2 h3 hC
      have HC := mkHid hC
      subst hA
      clear hC hll hb
      cases hp : p (⟨ra, rc, zs, at_, ta, tc, ts, wt⟩ : Lt).st with
      | true =>
        have HP := mkHid hp
        rw [hp] at HC
        clear hp
        go_wp2_with (first | (refine HC.out.mono ?_; rintro e w2 ⟨rfl, hb2⟩; have HB2 := mkHid hb2; clear hb2))
        go_ret
        exact ⟨.inl ⟨k, hlt, rfl, by rw [← HLL.out]; exact HP.out⟩, below_then HB.out HB2.out⟩
      | false =>
        have HP := mkHid hp
        rw [hp] at HC
        clear hp
        go_wp2_with (first | (refine HC.out.mono ?_; rintro e w2 ⟨rfl, hb2⟩; have HB2 := mkHid hb2; clear hb2))
        go_roundw
        case rel =>
          refine ⟨k + 1, by omega, by go_num, mkHid (fun j h h' => ?_), below_then HB.out HB2.out⟩
          by_cases e : j = k
          · subst e; rw [← HLL.out]; exact HP.out
          · exact HN.out j h (by omega)
        case measure => simp [intOf]; omega
    · clear hb
      go_wp2_with fail
      go_ret
      refine ⟨.inr ⟨rfl, fun l hl => ?_⟩, HB.out⟩
      obtain ⟨j, hj, rfl⟩ := List.mem_iff_getElem.1 hl
      exact HN.out j hj (by omega)
theorem containsFuncL_any (A : Option Addr) (c : Nat) (ls : List Lt) (f : Value) (p : LS → Bool) (w : World) (hl : ls.length ≤ 9223372036854775807) (hs : Sl w A (tflat ls)) (hf : AnswersL f p ls w) :
    Calls Try.prog 48 #[.slice A ls.length c, f] w fun e w' => e = .returned (.bool ((sts ls).any p)) ∧ Below w.heap.size w w' := by
  go_enter Try.func48, Try.ntmps48
  go_wp2_with fail
  refine (indexFuncL_any _ _ _ _ p _ hl hs hf).mono ?_
  rintro e w1 ⟨⟨i, h, rfl, hp⟩ | ⟨rfl, hn⟩, hb⟩
  · have HB := mkHid hb
    have HP := mkHid hp
    clear hb hp
    go_wp2_with fail
    go_ret
    refine ⟨ret_bool ?_, HB.out⟩
    symm
    rw [List.any_eq_true]
    exact ⟨ls[i].st, List.mem_map_of_mem (List.getElem_mem h), HP.out⟩
  · have HB := mkHid hb
    have HN := mkHid hn
    clear hb hn
    go_wp2_with fail
    go_ret
    refine ⟨ret_bool ?_, HB.out⟩
    symm
    rw [Bool.eq_false_iff]
    intro h
    rw [List.any_eq_true] at h
    obtain ⟨z, hz, hp⟩ := h
    obtain ⟨l, hl, rfl⟩ := List.mem_map.1 hz
    rw [HN.out l hl] at hp
    cases hp
theorem any_not_allL {α : Type} (xs : List α) (p : α → Bool) : xs.any (fun z => !p z) = !xs.all p := by
  induction xs with
  | nil => rfl
  | cons z os ih => simp [List.any_cons, List.all_cons, ih, Bool.not_and]
theorem cell1_of {w : World} {B : Nat} {c0 : Value} {ty : TypeId} (h : w.heap[B]? = some (.cells #[c0] ty (0, 0))) : w.cell? ⟨B, 0, none⟩ = some c0 := cell_of_row _ _ _ _ _ _ h
theorem box2t {w : World} {B : Nat} {c0 c1 : Value} {ty : TypeId} (h : w.heap[B]? = some (.cells #[c0, c1] ty (0, 0))) : w.cell? ⟨B, 0, none⟩ = some c0 ∧ w.cell? ⟨B, 1, none⟩ = some c1 :=
  ⟨cell_of_row _ _ _ _ _ _ h, cell_of_row _ _ _ _ _ _ h⟩
theorem crowdClosure_any (l : Lt) (pb : Nat) (LA : Option Addr) (lc : Nat) (xs : List Cd) (w : World) (hl : xs.length ≤ 1048576) (hs : Sl w LA (cflat xs)) (hi : LaneIn w l) (hp : w.cell? ⟨pb, 0, none⟩ = some (.slice LA xs.length lc)) :
    Calls Try.prog 49 #[ltV l, .pointer (some ⟨pb, 0, none⟩)] w fun e w' => e = .returned (.bool (!laneValid xs l.st)) ∧ Below w.heap.size w w' := by
  have hal : Below w.heap.size w (w.alloc (.cells #[.slice l.ra l.zs.length l.rc, .int .i64 l.at_, .slice l.ta l.ts.length l.tc, .bool l.wt] 52)) := (Below.refl _ _).alloc (Nat.le_refl _) _
  have HC := mkHid (implLaneValid_any l LA lc xs _ hl (hs.below hal) (hi.below hal))
  have HB := mkHid hal
  have hp' := hal.cell (World.block_lt_of_cell? w _ hp) |>.trans hp
  clear hs hi hp hal
  go_enter Try.func49, Try.ntmps49
  go_wp2_with fail
  refine HC.out.mono ?_
  rintro e w2 ⟨rfl, b2⟩
  have HB2 := mkHid (HB.out.trans (b2.mono HB.out.size))
  clear b2
  go_wp2_with fail
  go_ret
  exact ⟨rfl, HB2.out⟩
theorem implCrowdValid_any (A : Option Addr) (c : Nat) (ls : List Lt) (m : IR) (LA : Option Addr) (lc : Nat) (xs : List Cd) (w : World) (hl : xs.length ≤ 1048576) (hll : ls.length ≤ 1000000000) (hml : m.zs.length ≤ 1000000000) (hs : Sl w LA (cflat xs)) (hg : TGrid w A ls) (hm : Sl w m.a (ints m.zs)) :
    Calls Try.prog 14 #[.agg #[.slice A ls.length c, .slice m.a m.zs.length m.c], .slice LA xs.length lc] w fun e w' => e = .returned (.bool (crowdValid xs (sts ls) m.zs)) ∧ Below w.heap.size w w' := by
  obtain ⟨o1, ho1⟩ : ∃ o1, o1 = Obj.cells #[.slice A ls.length c, .slice m.a m.zs.length m.c] 32 := ⟨_, rfl⟩
  obtain ⟨o2, ho2⟩ : ∃ o2, o2 = Obj.cells #[.slice LA xs.length lc] 34 := ⟨_, rfl⟩
  have hb : Below w.heap.size w ((w.alloc o1).alloc o2) := ((Below.refl _ _).alloc (Nat.le_refl _) _).alloc (by simp) _
  have q1 : ((w.alloc o1).alloc o2).heap[w.heap.size]? = some o1 := by
    rw [heap_alloc_old _ _ (by simp)]; exact heap_alloc_new _ _
  have q2 : ((w.alloc o1).alloc o2).heap[w.heap.size + 1]? = some o2 := by
    have := heap_alloc_new (w.alloc o1) o2
    simpa using this
  have HB := mkHid hb
  have HQ1 := mkHid (fun X (hX : Below ((w.alloc o1).alloc o2).heap.size ((w.alloc o1).alloc o2) X) => (hX.block w.heap.size (by simp; omega)).trans q1)
  have HQ2 := mkHid (fun X (hX : Below ((w.alloc o1).alloc o2).heap.size ((w.alloc o1).alloc o2) X) => (hX.block (w.heap.size + 1) (by simp)).trans q2)
  have HG := mkHid (hg.below hb)
  have HS := mkHid (hs.below hb)
  have HM := mkHid (hm.below hb)
  subst ho1 ho2
  have HNO := mkHid (fun h => crowdValid_no (xs := xs) (ss := sts ls) (mem := m.zs) h)
  have HALL := mkHid (show inB ls.length 1 8 = true → progValid xs = true → memValid m.zs = true → crowdValid xs (sts ls) m.zs = (sts ls).all (laneValid xs) from fun h1 h2 h3 => by
    unfold crowdValid
    rw [h2, h3, show ((sts ls).length : Int) = (ls.length : Int) from by simp, h1]; simp)
  obtain ⟨res, hres⟩ : ∃ res, res = crowdValid xs (sts ls) m.zs := ⟨_, rfl⟩
  rw [← hres] at HNO HALL ⊢
  rw [show ((sts ls).length : Int) = (ls.length : Int) from by simp] at HNO
  have HI := mkHid (fun X => isLanes_any (ls.length : Int) X)
  obtain ⟨v1, hv1⟩ : ∃ v, v = inB (ls.length : Int) 1 8 := ⟨_, rfl⟩
  obtain ⟨v2, hv2⟩ : ∃ v, v = progValid xs := ⟨_, rfl⟩
  obtain ⟨v3, hv3⟩ : ∃ v, v = memValid m.zs := ⟨_, rfl⟩
  have H1 := mkHid hv1
  have H2 := mkHid hv2
  have H3 := mkHid hv3
  rw [← hv1] at HI
  have HP := mkHid (implProgramValid_any LA lc xs _ hl HS.out)
  rw [← hv2] at HP
  obtain ⟨p0, p1⟩ := box2t (HQ1.out _ (Below.refl _ _))
  have p2 := cell1_of (HQ2.out _ (Below.refl _ _))
  clear hb q1 q2 hs hg hm hres hv1 hv2 hv3
  cases v1 with
  | false =>
    go_enter Try.func14, Try.ntmps14
    go_wp2_with fail
    refine (HI.out _).mono ?_
    rintro e w' ⟨rfl, rfl⟩
    go_wp2_with fail
    go_ret
    exact ⟨ret_bool (HNO.out (.inl H1.out.symm)).symm, HB.out⟩
  | true =>
    go_enter Try.func14, Try.ntmps14
    go_wp2_with fail
    refine (HI.out _).mono ?_
    rintro e w' ⟨rfl, rfl⟩
    go_wp2_with fail
    refine HP.out.mono ?_
    rintro e w3 ⟨rfl, b3⟩
    have HB3 := mkHid (HB.out.trans (b3.mono HB.out.size))
    have HG3 := mkHid (HG.out.below b3)
    have HS3 := mkHid (HS.out.below b3)
    have HM3 := mkHid (HM.out.below b3)
    obtain ⟨p0, p1⟩ := box2t (HQ1.out _ b3)
    have p2 := cell1_of (HQ2.out _ b3)
    have HBX := mkHid b3
    clear b3
    cases v2 with
    | false =>
      go_wp2_with fail
      go_ret
      exact ⟨ret_bool (HNO.out (.inr (.inl H2.out.symm))).symm, HB3.out⟩
    | true =>
      have HMV := mkHid (implMemoryValid_any m.a m.c m.zs w3 hml HM3.out)
      rw [← H3.out] at HMV
      go_wp2_with fail
      refine HMV.out.mono ?_
      rintro e w4 ⟨rfl, b4⟩
      have HB4 := mkHid (HB3.out.trans (b4.mono HB3.out.size))
      have HG4 := mkHid (HG3.out.below b4)
      have HS4 := mkHid (HS3.out.below b4)
      have HBX4 := mkHid (below_then HBX.out b4)
      obtain ⟨p0, p1⟩ := box2t (HQ1.out _ HBX4.out)
      have p2 := cell1_of (HQ2.out _ HBX4.out)
      clear b4
      cases v3 with
      | false =>
        go_wp2_with fail
        go_ret
        exact ⟨ret_bool (HNO.out (.inr (.inr (.inl H3.out.symm)))).symm, HB4.out⟩
      | true =>
        have HCF := mkHid (containsFuncL_any A c ls (.func (.func 49) #[] #[.pointer (some ⟨w.heap.size + 1, 0, none⟩)]) (fun s => !laneValid xs s) w4 (by omega) HG4.out.1 ⟨49, #[.pointer (some ⟨w.heap.size + 1, 0, none⟩)], rfl, fun args w => by kernel_rfl, fun l hl' X hX => crowdClosure_any l (w.heap.size + 1) LA lc xs X hl (HS4.out.below hX) ((show LaneIn w4 l from HG4.out.2 l hl').below hX) ((hX.cell (World.block_lt_of_cell? w4 _ p2)).trans p2)⟩)
        rw [any_not_allL, ← HALL.out H1.out.symm H2.out.symm H3.out.symm] at HCF
        go_wp2_with fail
        refine HCF.out.mono ?_
        rintro e w5 ⟨rfl, b5⟩
        have HB5 := mkHid (HB4.out.trans (b5.mono HB4.out.size))
        clear b5 p0 p1 p2
        go_wp2_with fail
        go_ret
        exact ⟨ret_bool (by simp), HB5.out⟩
theorem specCrowdValid_any (A : Option Addr) (c : Nat) (ls : List Lt) (m : IR) (LA : Option Addr) (lc : Nat) (xs : List Cd) (w : World) (hl : xs.length ≤ 1048576) (hll : ls.length ≤ 1000000000) (hml : m.zs.length ≤ 1000000000) (hs : Sl w LA (cflat xs)) (hg : TGrid w A ls) (hm : Sl w m.a (ints m.zs)) :
    Calls Try.prog 11 #[.agg #[.slice A ls.length c, .slice m.a m.zs.length m.c], .slice LA xs.length lc] w fun e w' => e = .returned (.bool (crowdValid xs (sts ls) m.zs)) ∧ Below w.heap.size w w' := by
  obtain ⟨o1, ho1⟩ : ∃ o1, o1 = Obj.cells #[.slice A ls.length c, .slice m.a m.zs.length m.c] 32 := ⟨_, rfl⟩
  have hb : Below w.heap.size w (w.alloc o1) := (Below.refl _ _).alloc (Nat.le_refl _) _
  have q1 : (w.alloc o1).heap[w.heap.size]? = some o1 := heap_alloc_new _ _
  have HB := mkHid hb
  have HQ1 := mkHid (fun X (hX : Below (w.alloc o1).heap.size (w.alloc o1) X) => (hX.block w.heap.size (by simp)).trans q1)
  have HG := mkHid (hg.below hb)
  have HS := mkHid (hs.below hb)
  have HM := mkHid (hm.below hb)
  subst ho1
  have HNO := mkHid (fun h => crowdValid_no (xs := xs) (ss := sts ls) (mem := m.zs) h)
  have HALL := mkHid (show (sts ls).all (laneValid xs) = true → crowdValid xs (sts ls) m.zs = (progValid xs && inB ls.length 1 8 && memValid m.zs) from fun h => by
    unfold crowdValid
    rw [h, show ((sts ls).length : Int) = (ls.length : Int) from by simp, Bool.and_true]
    cases progValid xs <;> cases inB (ls.length : Int) 1 8 <;> rfl)
  obtain ⟨res, hres⟩ : ∃ res, res = crowdValid xs (sts ls) m.zs := ⟨_, rfl⟩
  rw [← hres] at HNO HALL ⊢
  clear hb q1 hs hg hm hres
  go_enter Try.func11, Try.ntmps11
  go_wp2_with fail
  go_loopw [5] (fun iv wr => ∃ k : Nat, k ≤ ls.length ∧ iv = .int .i64 k ∧ Hid (((sts ls).take k).all (laneValid xs) = true) ∧ Below (w.alloc (.cells #[.slice A ls.length c, .slice m.a m.zs.length m.c] 32)).heap.size (w.alloc (.cells #[.slice A ls.length c, .slice m.a m.zs.length m.c] 32)) wr) (fun iv _ => ls.length - (intOf iv).toNat)
  case atStart => exact ⟨0, by omega, rfl, mkHid rfl, Below.refl _ _⟩
  case round =>
    obtain ⟨k, hk, rfl, HT, hb⟩ := hrel
    have HBW := mkHid hb
    obtain ⟨p0, p1⟩ := box2t (HQ1.out _ hb)
    have HBT := mkHid (HB.out.trans (hb.mono HB.out.size))
    by_cases hlt : k < ls.length
    · obtain ⟨b, off, hA, h0, h1, h2, h3⟩ := (HG.out.below hb).1.lt hlt
      have hC := specLaneValid_any ls[k] LA lc xs wr hl (HS.out.below hb) ((HG.out.below hb).lane hlt)
      have hkt : k < (sts ls).length := by simpa using hlt
      have HST := mkHid (show ((sts ls).take (k + 1)).all (laneValid xs) = (((sts ls).take k).all (laneValid xs) && laneValid xs ls[k].st) from by
        rw [List.take_succ_eq_append_getElem hkt, List.all_append]; simp)
      have HNN := mkHid (show laneValid xs ls[k].st = false → res = false from fun h => HNO.out (.inr (.inr (.inr (by
        rw [List.all_eq_false]
        exact ⟨_, List.mem_map_of_mem (List.getElem_mem hlt), by rw [h]; simp⟩)))))
      obtain ⟨v, hv⟩ : ∃ v, v = laneValid xs ls[k].st := ⟨_, rfl⟩
      rw [← hv] at hC HST HNN
      obtain ⟨l, hll'⟩ : ∃ l, l = ls[k] := ⟨_, rfl⟩
      simp only [← hll'] at h0 h1 h2 h3 hC
      obtain ⟨ra, rc, zs, at_, ta, tc, ts, wt⟩ := l
      simp only at h0 h1 h2 h3 hC
      have HC := mkHid hC
      subst hA
      clear hC hll' hb hv hkt
      cases v with
      | false =>
        go_wp2_with fail
        refine HC.out.mono ?_
        rintro e w2 ⟨rfl, b2⟩
        have HB2 := mkHid (HBT.out.trans (b2.mono HBT.out.size))
        clear b2 p0 p1
        go_wp2_with fail
        go_ret
        exact ⟨ret_bool (HNN.out trivial).symm, HB2.out⟩
      | true =>
        go_wp2_with fail
        refine HC.out.mono ?_
        rintro e w2 ⟨rfl, b2⟩
        have HB2 := mkHid (below_then HBW.out b2)
        clear b2 p0 p1
        go_wp2_with fail
        go_roundw
        case rel => exact ⟨k + 1, by omega, by go_num, mkHid (by rw [HST.out, HT.out]; rfl), HB2.out⟩
        case measure => simp [intOf] <;> omega
    · have HR := mkHid (HALL.out (by have := HT.out; rwa [List.take_of_length_le (by simp; omega)] at this))
      have HP := mkHid (specProgramValid_any LA lc xs wr hl (HS.out.below hb))
      have HM2 := mkHid (HM.out.below hb)
      have hC1 := fun X => l1In_any (ls.length : Int) 1 8 X
      obtain ⟨v1, hv1⟩ : ∃ v, v = progValid xs := ⟨_, rfl⟩
      obtain ⟨v2, hv2⟩ : ∃ v, v = inB (ls.length : Int) 1 8 := ⟨_, rfl⟩
      obtain ⟨v3, hv3⟩ : ∃ v, v = memValid m.zs := ⟨_, rfl⟩
      rw [← hv1] at HP HR
      rw [← hv2] at hC1 HR
      rw [← hv3] at HR
      have HC1 := mkHid hC1
      have H3 := mkHid hv3
      clear hv1 hv2 hv3 hC1 HT
      cases v1 with
      | false =>
        go_wp2_with fail
        refine HP.out.mono ?_
        rintro e w2 ⟨rfl, b2⟩
        have HB2 := mkHid (HBT.out.trans (b2.mono HBT.out.size))
        clear b2 p0 p1 hb
        go_wp2_with fail
        go_ret
        exact ⟨ret_bool (by rw [HR.out]; rfl), HB2.out⟩
      | true =>
        go_wp2_with fail
        refine HP.out.mono ?_
        rintro e w2 ⟨rfl, b2⟩
        have HB2 := mkHid (HBT.out.trans (b2.mono HBT.out.size))
        have HM3 := mkHid (HM2.out.below b2)
        obtain ⟨p0, p1⟩ := box2t (HQ1.out _ (below_then HBW.out b2))
        clear b2 hb
        go_wp2_with fail
        refine (HC1.out _).mono ?_
        rintro e w' ⟨rfl, rfl⟩
        cases v2 with
        | false =>
          go_wp2_with fail
          go_ret
          exact ⟨ret_bool (by rw [HR.out]; rfl), HB2.out⟩
        | true =>
          have HMV := mkHid (specMemoryValid_any m.a m.c m.zs w2 hml HM3.out)
          rw [← H3.out] at HMV
          go_wp2_with fail
          refine HMV.out.mono ?_
          rintro e w' ⟨rfl, rfl⟩
          clear p0 p1
          go_wp2_with fail
          go_ret
          exact ⟨ret_bool (by rw [HR.out]; rfl), HB2.out⟩
end Go.Proofs.Ytjmiilneennjaaa

namespace Go.Proofs.Ytjmiilneennjaaa
open Go.RowKit
set_option maxHeartbeats 1000000
set_option maxRecDepth 100000
set_option linter.unusedVariables false

theorem tflat_set1 (ls : List Lt) (k j : Nat) (l : Lt) (v : Value) (hk : k < ls.length) (hj : j < 4) (hc : ltCells l = (ltCells ls[k]).set j v) : (tflat ls).set (k * 4 + j) v = tflat (ls.set k l) := by
  apply List.ext_getElem?
  intro i
  simp only [List.getElem?_set, tflat_length]
  by_cases h : i < ls.length * 4
  · have h1 := tflat_at (ls.set k l) (i / 4) (i % 4) (by simp; omega) (Nat.mod_lt _ (by omega))
    have h0 := tflat_at ls (i / 4) (i % 4) (by omega) (Nat.mod_lt _ (by omega))
    rw [show i / 4 * 4 + i % 4 = i from by omega] at h1 h0
    rw [h1, h0]
    by_cases hi : k = i / 4
    · subst hi
      have hs : (ls.set (i / 4) l)[i / 4]'(by simp; omega) = l := by simp
      rw [hs, hc]
      by_cases e : i % 4 = j
      · rw [if_pos (by omega), if_pos (by omega), e]
        rw [List.getElem?_set_self (by simp [ltCells]; omega)]
      · rw [if_neg (by omega)]
        rw [List.getElem?_set_ne (fun e' => e e'.symm)]
    · have hs : (ls.set k l)[i / 4]'(by simp; omega) = ls[i / 4]'(by omega) := by rw [List.getElem_set_ne hi]
      rw [hs, if_neg (by omega)]
  · rw [if_neg (by omega), List.getElem?_eq_none (by rw [tflat_length]; omega), List.getElem?_eq_none (by rw [tflat_length]; simp; omega)]
theorem set_same {α : Type} (l : List α) (i : Nat) (h : i < l.length) (a : α) (ha : l[i] = a) : l.set i a = l := by
  subst ha; exact List.set_getElem_self h
theorem rows_keep (ls : List Lt) (k : Nat) (l : Lt) (hk : k < ls.length) (h1 : irR l = irR ls[k]) (h2 : irT l = irT ls[k]) : rowsL (ls.set k l) = rowsL ls := by
  rw [rowsL_set _ _ _ hk, h1, h2, set_same _ _ (by rw [rowsL_len]; omega) _ (rowsL_r ls k hk), set_same _ _ (by rw [rowsL_len]; omega) _ (rowsL_t ls k hk)]
theorem rows_setT (ls : List Lt) (k : Nat) (l : Lt) (hk : k < ls.length) (h1 : irR l = irR ls[k]) : rowsL (ls.set k l) = (rowsL ls).set (2 * k + 1) (irT l) := by
  rw [rowsL_set _ _ _ hk, h1, set_same _ _ (by rw [rowsL_len]; omega) _ (rowsL_r ls k hk)]
theorem rows_setR (ls : List Lt) (k : Nat) (l : Lt) (hk : k < ls.length) (h2 : irT l = irT ls[k]) : rowsL (ls.set k l) = (rowsL ls).set (2 * k) (irR l) := by
  rw [rowsL_set _ _ _ hk, List.set_comm _ _ (by omega), h2, set_same _ _ (by rw [rowsL_len]; omega) _ (rowsL_t ls k hk)]
theorem set_len {α : Type} (l : List α) (i : Nat) (a : α) : (l.set i a).length = l.length := List.length_set
section
variable {w w' : World} {base c G k : Nat} {ls : List Lt} {m : IR}
theorem CrAt.castA {A : Option Addr} (h : CrAt w base A c ls m) (hk : k < ls.length) : ∃ G, A = some ⟨G, 0, none⟩ ∧ base ≤ G ∧ G < w.heap.size := by
  obtain ⟨g, hg, h1, h2, _⟩ := own_open h.1 (i := k * 4) (by rw [tflat_length]; omega)
  exact ⟨g, hg, h1, h2⟩
theorem CrAt.cells (h : CrAt w base (some ⟨G, 0, none⟩) c ls m) (hk : k < ls.length) :
    (w.cell? ⟨G, k * 4, none⟩ = some (ltR ls[k]) ∧ w.cell? ⟨G, k * 4 + 1, none⟩ = some (.int .i64 ls[k].at_) ∧ w.cell? ⟨G, k * 4 + 2, none⟩ = some (ltT ls[k]) ∧ w.cell? ⟨G, k * 4 + 3, none⟩ = some (.bool ls[k].wt)) ∧
    (w.frozen? ⟨G, k * 4, none⟩ = false ∧ w.frozen? ⟨G, k * 4 + 1, none⟩ = false ∧ w.frozen? ⟨G, k * 4 + 2, none⟩ = false ∧ w.frozen? ⟨G, k * 4 + 3, none⟩ = false) := by
  refine ⟨?_, h.1.frozenAt _, h.1.frozenAt _, h.1.frozenAt _, h.1.frozenAt _⟩
  obtain ⟨b, off, hA, h0, h1, h2, h3⟩ := (Sl.of_own h.1).lt hk
  injection hA with hA
  injection hA with hA1 hA2
  subst hA1
  subst hA2
  simp only [Nat.zero_add] at h0 h1 h2 h3
  exact ⟨h0, h1, h2, h3⟩
theorem CrAt.heapG (h : CrAt w base (some ⟨G, 0, none⟩) c ls m) : ∃ cs, w.heap[G]? = some (.cells cs 52 (0, 0)) := own_heapA h.1 rfl
theorem CrAt.frmG (h : CrAt w base (some ⟨G, 0, none⟩) c ls m) (hb : base ≤ w.heap.size) (i : Nat) (v : Value) : Frm base w (w.setCell ⟨G, i, none⟩ v) :=
  Frm.own (grown_setCell w G i v) hb h.1 rfl (Nat.le_refl _) (.inr rfl)
/-- a store into a lane's own cells that leaves its rows. -/
theorem CrAt.put (h : CrAt w base (some ⟨G, 0, none⟩) c ls m) (hk : k < ls.length) (l : Lt) (j : Nat) (v : Value) (hj : j < 4) (hc : ltCells l = (ltCells ls[k]).set j v) (h1 : irR l = irR ls[k]) (h2 : irT l = irT ls[k]) :
    CrAt (w.setCell ⟨G, k * 4 + j, none⟩ v) base (some ⟨G, 0, none⟩) c (ls.set k l) m := by
  obtain ⟨cs, hq⟩ := h.heapG
  have hg := grown_setCell w G (k * 4 + j) v
  refine ⟨?_, ?_⟩
  · have := (h.1.stored (k * 4 + j) v).1
    rw [tflat_set1 ls k j l v hk hj hc] at this
    rw [set_len]
    exact this
  · rw [rows_keep ls k l hk h1 h2]
    exact h.2.other hg hq (by decide)
theorem CrAt.pc (h : CrAt w base (some ⟨G, 0, none⟩) c ls m) (hk : k < ls.length) (z : Int) :
    CrAt (w.setCell ⟨G, k * 4 + 1, none⟩ (.int .i64 z)) base (some ⟨G, 0, none⟩) c (ls.set k ⟨ls[k].ra, ls[k].rc, ls[k].zs, z, ls[k].ta, ls[k].tc, ls[k].ts, ls[k].wt⟩) m :=
  h.put hk _ 1 _ (by omega) rfl rfl rfl
theorem CrAt.wt (h : CrAt w base (some ⟨G, 0, none⟩) c ls m) (hk : k < ls.length) (b : Bool) :
    CrAt (w.setCell ⟨G, k * 4 + 3, none⟩ (.bool b)) base (some ⟨G, 0, none⟩) c (ls.set k ⟨ls[k].ra, ls[k].rc, ls[k].zs, ls[k].at_, ls[k].ta, ls[k].tc, ls[k].ts, b⟩) m :=
  h.put hk _ 3 _ (by omega) rfl rfl rfl
/-- the turns lie in another row, and the lane's cell is set to it. -/
theorem CrAt.turns (h : CrAt w base (some ⟨G, 0, none⟩) c ls m) (hk : k < ls.length) {A' : Option Addr} {c' : Nat} {ts : List Int} (hg : w.grownBy w' (ltT ls[k]).ownBlock) (ho : w'.ownsRow base 3 1 (.slice A' ts.length c') ts.length (ints ts))
    (hb : ∀ g, (Value.slice A' ts.length c').ownBlock = some g → (ltT ls[k]).ownBlock = some g ∨ w.heap.size ≤ g) :
    CrAt (w'.setCell ⟨G, k * 4 + 2, none⟩ (.slice A' ts.length c')) base (some ⟨G, 0, none⟩) c (ls.set k ⟨ls[k].ra, ls[k].rc, ls[k].zs, ls[k].at_, A', c', ts, ls[k].wt⟩) m := by
  obtain ⟨cs, hq⟩ := h.heapG
  have hne : (ltT ls[k]).ownBlock ≠ some G := own_ne_heapA (h.t hk) hq (by decide)
  have hl1 : w'.ownsRow base 52 4 (.slice (some ⟨G, 0, none⟩) ls.length c) ls.length (tflat ls) := own_grown' h.1 hg (fun g e1 e2 => by
    have e1 : G = g := by simpa [Value.ownBlock] using e1
    subst e1
    exact hne e2)
  obtain ⟨cs', hq'⟩ := own_heapA hl1 (g := G) rfl
  have hg2 := grown_setCell w' G (k * 4 + 2) (.slice A' ts.length c')
  refine ⟨?_, ?_⟩
  · have := (hl1.stored (k * 4 + 2) (.slice A' ts.length c')).1
    rw [tflat_set1 ls k 2 ⟨ls[k].ra, ls[k].rc, ls[k].zs, ls[k].at_, A', c', ts, ls[k].wt⟩ _ hk (by omega) rfl] at this
    rw [set_len]
    exact this
  · have hs := h.2.set (w' := w') (t := 2 * k + 2) (by rw [List.length_cons, rowsL_len]; omega) ⟨A', c', ts⟩ (by rw [List.getElem_cons_succ, rowsL_t ls k hk]; exact hg) ho (by rw [List.getElem_cons_succ, rowsL_t ls k hk]; exact hb)
    rw [show 2 * k + 2 = (2 * k + 1) + 1 from rfl, cons_set] at hs
    rw [rows_setT ls k ⟨ls[k].ra, ls[k].rc, ls[k].zs, ls[k].at_, A', c', ts, ls[k].wt⟩ hk rfl]
    exact hs.other hg2 hq' (by decide)
/-- a store into the turns. -/
theorem CrAt.turn (h : CrAt w base (some ⟨G, 0, none⟩) c ls m) (hk : k < ls.length) {T : Nat} (hT : ls[k].ta = some ⟨T, 0, none⟩) (i : Nat) (z : Int) :
    CrAt (w.setCell ⟨T, i, none⟩ (.int .i64 z)) base (some ⟨G, 0, none⟩) c (ls.set k ⟨ls[k].ra, ls[k].rc, ls[k].zs, ls[k].at_, ls[k].ta, ls[k].tc, ls[k].ts.set i z, ls[k].wt⟩) m := by
  have ho := h.t hk
  obtain ⟨cs, hq⟩ := h.heapG
  have hblk : (ltT ls[k]).ownBlock = some T := by unfold ltT; rw [hT]; rfl
  have hg : w.grownBy (w.setCell ⟨T, i, none⟩ (.int .i64 z)) (some T) := grown_setCell w T i _
  have hne : T ≠ G := fun e => own_ne_heapA ho hq (by decide) (by rw [hblk, e])
  have hst : (w.setCell ⟨T, i, none⟩ (.int .i64 z)).ownsRow base 3 1 (ltT ls[k]) ls[k].ts.length (ints (ls[k].ts.set i z)) := by
    have ho2 : w.ownsRow base 3 1 (.slice (some ⟨T, 0, none⟩) ls[k].ts.length ls[k].tc) ls[k].ts.length (ints ls[k].ts) := by
      have := ho
      unfold ltT at this
      rw [hT] at this
      exact this
    have := (ho2.stored i (.int .i64 z)).1
    rw [ints_set] at this
    unfold ltT
    rw [hT]
    exact this
  refine ⟨?_, ?_⟩
  · have hl1 : (w.setCell ⟨T, i, none⟩ (.int .i64 z)).ownsRow base 52 4 (.slice (some ⟨G, 0, none⟩) ls.length c) ls.length (tflat ls) := own_grown' h.1 hg (fun g e1 e2 => by
      have e1 : G = g := by simpa [Value.ownBlock] using e1
      injection e2 with e2
      omega)
    have hsame : tflat (ls.set k ⟨ls[k].ra, ls[k].rc, ls[k].zs, ls[k].at_, ls[k].ta, ls[k].tc, ls[k].ts.set i z, ls[k].wt⟩) = tflat ls := by
      have hc : ltCells ⟨ls[k].ra, ls[k].rc, ls[k].zs, ls[k].at_, ls[k].ta, ls[k].tc, ls[k].ts.set i z, ls[k].wt⟩ = (ltCells ls[k]).set 3 (.bool ls[k].wt) := by
        simp [ltCells, ltR, ltT]
      rw [← tflat_set1 ls k 3 _ (.bool ls[k].wt) hk (by omega) hc]
      refine set_same _ _ (by rw [tflat_length]; omega) _ ?_
      have := tflat_at ls k 3 hk (by omega)
      rw [List.getElem?_eq_getElem (by rw [tflat_length]; omega)] at this
      exact Option.some.inj this
    rw [hsame, set_len]
    exact hl1
  · have hs := h.2.set (w' := w.setCell ⟨T, i, none⟩ (.int .i64 z)) (t := 2 * k + 2) (by rw [List.length_cons, rowsL_len]; omega) ⟨ls[k].ta, ls[k].tc, ls[k].ts.set i z⟩ (by rw [List.getElem_cons_succ, rowsL_t ls k hk]; show w.grownBy _ (ltT ls[k]).ownBlock; rw [hblk]; exact hg)
      (by
        have e : (ls[k].ts.set i z).length = ls[k].ts.length := List.length_set
        show World.ownsRow _ base 3 1 (.slice ls[k].ta (ls[k].ts.set i z).length ls[k].tc) (ls[k].ts.set i z).length (ints (ls[k].ts.set i z))
        rw [e]; exact hst)
      (by
        rw [List.getElem_cons_succ, rowsL_t ls k hk]
        intro g e
        left
        simp only [irV, List.length_set] at e
        exact e)
    rw [show 2 * k + 2 = (2 * k + 1) + 1 from rfl, cons_set] at hs
    rw [rows_setT ls k ⟨ls[k].ra, ls[k].rc, ls[k].zs, ls[k].at_, ls[k].ta, ls[k].tc, ls[k].ts.set i z, ls[k].wt⟩ hk rfl]
    exact hs
/-- the registers have turned, in their row. -/
theorem CrAt.regs (h : CrAt w base (some ⟨G, 0, none⟩) c ls m) (hk : k < ls.length) {rs : List Int} (hl : rs.length = ls[k].zs.length) (hg : w.grownBy w' (ltR ls[k]).ownBlock) (ho : w'.ownsRow base 3 1 (ltR ls[k]) ls[k].zs.length (ints rs)) :
    CrAt w' base (some ⟨G, 0, none⟩) c (ls.set k ⟨ls[k].ra, ls[k].rc, rs, ls[k].at_, ls[k].ta, ls[k].tc, ls[k].ts, ls[k].wt⟩) m := by
  obtain ⟨cs, hq⟩ := h.heapG
  have hne : (ltR ls[k]).ownBlock ≠ some G := own_ne_heapA (h.r hk) hq (by decide)
  refine ⟨?_, ?_⟩
  · have hl1 : w'.ownsRow base 52 4 (.slice (some ⟨G, 0, none⟩) ls.length c) ls.length (tflat ls) := own_grown' h.1 hg (fun g e1 e2 => by
      have e1 : G = g := by simpa [Value.ownBlock] using e1
      subst e1
      exact hne e2)
    have hsame : tflat (ls.set k ⟨ls[k].ra, ls[k].rc, rs, ls[k].at_, ls[k].ta, ls[k].tc, ls[k].ts, ls[k].wt⟩) = tflat ls := by
      have hc : ltCells ⟨ls[k].ra, ls[k].rc, rs, ls[k].at_, ls[k].ta, ls[k].tc, ls[k].ts, ls[k].wt⟩ = (ltCells ls[k]).set 3 (.bool ls[k].wt) := by
        simp [ltCells, ltR, ltT, hl]
      rw [← tflat_set1 ls k 3 _ (.bool ls[k].wt) hk (by omega) hc]
      refine set_same _ _ (by rw [tflat_length]; omega) _ ?_
      have := tflat_at ls k 3 hk (by omega)
      rw [List.getElem?_eq_getElem (by rw [tflat_length]; omega)] at this
      exact Option.some.inj this
    rw [hsame, set_len]
    exact hl1
  · have hs := h.2.set (w' := w') (t := 2 * k + 1) (by rw [List.length_cons, rowsL_len]; omega) ⟨ls[k].ra, ls[k].rc, rs⟩ (by rw [List.getElem_cons_succ, rowsL_r ls k hk]; exact hg)
      (by
        show World.ownsRow _ base 3 1 (.slice ls[k].ra rs.length ls[k].rc) rs.length (ints rs)
        rw [hl]; exact ho)
      (by
        rw [List.getElem_cons_succ, rowsL_r ls k hk]
        intro g e
        left
        simp only [irV, hl] at e
        exact e)
    rw [cons_set] at hs
    rw [rows_setR ls k ⟨ls[k].ra, ls[k].rc, rs, ls[k].at_, ls[k].ta, ls[k].tc, ls[k].ts, ls[k].wt⟩ hk rfl]
    exact hs
end
end Go.Proofs.Ytjmiilneennjaaa
