/-
  Parts of a proof: DOrder, DMemory, CClone, PlainRun.
-/
import Derived.Test.YtjmiilneennjaaaPart21
import Derived.Test.YtjmiilneennjaaaPart03
import Derived.Test.YtjmiilneennjaaaPart19
import Derived.Test.YtjmiilneennjaaaPart06
import Derived.Deep.RegionLaw
import Derived.Test.YtjmiilneennjaaaPart18
namespace Go.Proofs.Ytjmiilneennjaaa
open Go.RowKit
set_option maxHeartbeats 1000000
set_option maxRecDepth 100000
set_option linter.unusedVariables false

theorem own_lit (w : World) (us : List Value) (e : TypeId) (hm : us.length ≤ 1000000) : (w.alloc (.cells us.toArray e)).ownsRow w.heap.size e 1 (.slice (some ⟨w.heap.size, 0, none⟩) us.length us.length) us.length us :=
  ⟨by simp, .inr ⟨w.heap.size, us.length, us.toArray, rfl, Nat.le_refl _, heap_alloc_new w _, Nat.le_refl _, by simp only [maxLen]; omega, by simp, by simp⟩⟩
theorem own_prefix {w : World} {base : Nat} {e : TypeId} {n c m : Nat} {A : Option Addr} {xs : List Value} (h : w.ownsRow base e 1 (.slice A n c) n xs) (hm : m ≤ n) : w.ownsRow base e 1 (.slice A m c) m (xs.take m) := by
  have hl := h.1
  refine ⟨by rw [List.length_take]; omega, ?_⟩
  rcases h.2 with ⟨hv, h0⟩ | ⟨g, cap, cur, hv, hb, hg, hn, hx, hs, ht⟩
  · left
    injection hv with h1 h2 h3
    subst h1
    have : m = 0 := by omega
    subst this
    exact ⟨by rw [h3], rfl⟩
  · right
    injection hv with h1 h2 h3
    refine ⟨g, cap, cur, by rw [h1, h3], hb, hg, by omega, hx, hs, ?_⟩
    rw [← ht, Nat.mul_one, Nat.mul_one, List.take_take, Nat.min_eq_left hm]
def zerosL (n : Nat) : List Int := List.replicate n 0
theorem madeZeros (n : Nat) : (madeCells (Value.int .i64 0).cells (n * 1)).toList = ints (zerosL n) := by
  apply List.ext_getElem?
  intro i
  by_cases h : i < n
  · simp [madeCells, h, Value.cells, ints, Nat.mod_one, zerosL]
  · rw [List.getElem?_eq_none (by simp [madeCells]; omega), List.getElem?_eq_none (by simp [ints, zerosL]; omega)]
def smallLane (z : Int) : Prop := -1000 ≤ z ∧ z ≤ 1000
/-- a list of numbers is drawn, in memory of the draw's own. -/
def DrawnRow (m : Nat) (br N : Nat) (w : World) (e : Ending) (w' : World) : Prop :=
  ∃ g c ys, e = .returned (.slice (some ⟨g, 0, none⟩) ys.length c) ∧ w'.ownsRow w.heap.size 3 1 (.slice (some ⟨g, 0, none⟩) ys.length c) ys.length (ints ys) ∧ ys.length ≤ m ∧ (∀ z ∈ ys, smallLane z) ∧ Rd w' br N ∧ w.grownBy w' (some br)
theorem oddAny (n : Int) (br N : Nat) (w : World) (hn : 1 ≤ n) (hn' : n ≤ 1000000) (hN : N ≤ 1000000000) (h : Rd w br N) :
    Calls Try.prog 91 #[.pointer (some ⟨br, 0, none⟩), .int .i64 n] w fun e w' => ∃ b : Bool, e = .returned (.bool b) ∧ Rd w' br (N + 1) ∧ w.grownBy w' (some br) := by
  go_enter Try.func91, Try.ntmps91
  go_wp2_with fail
  refine (pick_any _ _ _ _ hN h).mono ?_
  rintro e w1 ⟨r, rfl, h0, h1, hr, hg⟩
  have HR := mkHid hr
  have HG := mkHid hg
  clear hr hg h1 h
  go_wp2_with fail
  go_ret
  exact ⟨_, rfl, HR.out, HG.out⟩
end Go.Proofs.Ytjmiilneennjaaa

namespace Go.Proofs.Ytjmiilneennjaaa
open Go.RowKit
set_option maxHeartbeats 2000000
set_option maxRecDepth 100000
set_option linter.unusedVariables false

theorem l20Memory_any (n : Int) (br N : Nat) (w : World) (hn : 1 ≤ n ∧ n ≤ 1000000) (hN : N ≤ 990000000) (h : Rd w br N) :
    Calls Try.prog 90 #[.pointer (some ⟨br, 0, none⟩), .int .i64 n] w (DrawnRow 33 br (N + 200) w) := by
  have hlt0 := h.lt
  obtain ⟨i0, hi0, hz0, hz1, hz2⟩ := info_parts Ei.hi
  go_enter Try.func90, Try.ntmps90
  go_wp2_with fail
  refine (pick_any _ _ N _ (by omega) (h.below ((Below.refl _ _).alloc (Nat.le_refl _) _))).mono ?_
  rintro e w1 ⟨r, rfl, hr0, hr1, r1, g1⟩
  have hr1 := hr1 (by omega)
  have o1 := own_grown (own_empty w 3 1) g1 (by simp [Value.ownBlock]; omega)
  have hG1 := grown_trans (World.grownBy_alloc _ _ _) g1
  have hsz1 := hG1.size
  have hlit := LitAt.new (base := w1.heap.size) (lo := 1) (hi := 32) w1 [8, 16, 1 + r, 32] 3 (Nat.le_refl _) (by simp; omega)
  have HO1 := mkHid (o1.alloc (.cells #[.int .i64 8, .int .i64 16, .int .i64 (1 + r), .int .i64 32] 3))
  have HG1 := mkHid (grown_trans hG1 (World.grownBy_alloc _ (.cells #[.int .i64 8, .int .i64 16, .int .i64 (1 + r), .int .i64 32] 3) _))
  have R1 := mkHid (r1.below ((Below.refl _ _).alloc (Nat.le_refl _) (.cells #[.int .i64 8, .int .i64 16, .int .i64 (1 + r), .int .i64 32] 3)))
  have HL := mkHid hlit
  have hlt1 := r1.lt
  clear o1 g1 h r1 hG1 hlit
  go_wp2_with fail
  refine (pick_any _ _ _ _ (by omega) R1.out).mono ?_
  rintro e w2 ⟨q, rfl, q0, q1, r2, g2⟩
  have q1 := q1 (by omega)
  obtain ⟨qn, rfl⟩ := Int.eq_ofNat_of_zero_le q0
  obtain ⟨z, z0, z1, hc⟩ := (HL.out.grown hlt1 g2).at_ (j := qn) (by simp; omega)
  simp only [Nat.zero_add] at hc
  have HO2 := mkHid (own_grown HO1.out g2 (by simp [Value.ownBlock]; omega))
  have HG2 := mkHid (grown_trans HG1.out g2)
  have R2 := mkHid r2
  obtain ⟨j0, rfl⟩ := Int.eq_ofNat_of_zero_le (show 0 ≤ z by omega)
  clear r2 g2 HO1 HG1 R1 HL
  go_wp2_with fail
  clear hc
  go_loopw [5, 6] (fun v i wr => ∃ j : Nat, i = .int .i64 j ∧ ∃ g c ys, v = .slice (some ⟨g, 0, none⟩) ys.length c ∧ wr.ownsRow w.heap.size 3 1 (.slice (some ⟨g, 0, none⟩) ys.length c) ys.length (ints ys) ∧ ys.length + j = j0 ∧ (∀ z ∈ ys, smallLane z) ∧ Rd wr br (N + 2 + 3 * ys.length) ∧ w.grownBy wr (some br)) (fun _ i _ => (intOf i).toNat)
  case atStart => exact ⟨j0, rfl, _, 0, [], rfl, HO2.out, by simp, by simp, R2.out, HG2.out⟩
  case round =>
    obtain ⟨j, rfl, g, c, ys, rfl, hown, hj, hd, hrd, hgr⟩ := hrel
    have hsz := hgr.size
    have HO := mkHid hown
    have HG := mkHid hgr
    have HD := mkHid hd
    have HRD := mkHid hrd
    have hlt := hrd.lt
    clear hown hgr hd HO2 HG2 R2 hrd
    by_cases hlt : 0 < j
    · go_wp2_with fail
      refine (pick_any _ _ _ _ (by omega) HRD.out).mono ?_
      rintro e w3 ⟨a, rfl, a0, a1, r3, g3⟩
      have a1 := a1 (by omega)
      have R3 := mkHid r3
      have G3 := mkHid g3
      clear r3 g3
      go_wp2_with fail
      refine (pick_any _ _ _ _ (by omega) R3.out).mono ?_
      rintro e w4 ⟨b, rfl, b0, b1, r4, g4⟩
      have b1 := b1 (by omega)
      have hlit := LitAt.new (base := w4.heap.size) (lo := 0) (hi := 255) w4 [0, a, b] 3 (Nat.le_refl _) (by simp; omega)
      have HL := mkHid hlit
      have hlt4 := r4.lt
      have R4 := mkHid (r4.below ((Below.refl _ _).alloc (Nat.le_refl _) (.cells #[.int .i64 0, .int .i64 a, .int .i64 b] 3)))
      have G4 := mkHid (grown_trans (grown_trans G3.out g4) (World.grownBy_alloc _ (.cells #[.int .i64 0, .int .i64 a, .int .i64 b] 3) _))
      clear r4 g4 hlit
      go_wp2_with fail
      refine (pick_any _ _ _ _ (by omega) R4.out).mono ?_
      rintro e w5 ⟨q, rfl, q0, q1, r5, g5⟩
      have q1 := q1 (by omega)
      obtain ⟨qn, rfl⟩ := Int.eq_ofNat_of_zero_le q0
      obtain ⟨z, z0, z1, hc⟩ := (HL.out.grown hlt4 g5).at_ (j := qn) (by simp; omega)
      simp only [Nat.zero_add] at hc
      have hg5 := grown_trans G4.out g5
      have HR5 := mkHid r5
      have HO5 := mkHid (own_grown HO.out hg5 (fun g e => by have := (HO.out.lt g e).1; omega))
      have HG5 := mkHid (grown_trans HG.out hg5)
      have HQ := mkHid (show smallLane z by unfold smallLane; omega)
      have hsz5 := HG5.out.size
      clear r5 g5 hg5 G3 G4 R3 R4 HL
      go_wp2_with (at_builtin; refine wpList_appS Ei (HO5.out.alloc _) (newCells _ _ _) rfl (by simp [Value.oneCell']) (by omega) (by omega) (by simp; omega) rfl rfl rfl rfl ?_; intro g' c' w6 hown6 hg6; have HO6 := mkHid hown6; have HG6 := mkHid hg6; clear hown6 hg6)
      go_roundw
      case rel =>
        refine ⟨j - 1, by congr 1; omega, g', c', ys ++ [z], by simp, ?_, by simp; omega, ?_, ?_, ?_⟩
        · have := HO6.out
          rw [List.length_append]
          simpa [ints] using this
        · intro z' hz'
          rcases List.mem_append.1 hz' with h | h
          · exact HD.out z' h
          · simp only [List.mem_singleton] at h
            subst h
            exact HQ.out
        · refine Rd.mono (N := N + 2 + 3 * ys.length + 1 + 1 + 1) ?_ (by simp; omega)
          exact (HR5.out.below ((Below.refl _ _).alloc (Nat.le_refl _) _)).app (HO5.out.alloc _) hlt0 HG6.out
        · exact grown_app (grown_trans HG5.out (World.grownBy_alloc _ _ _)) (HO5.out.alloc _) (Nat.le_refl _) HG6.out
      case measure => simp [intOf] <;> omega
    · have hy1 : 1 ≤ ys.length ∧ ys.length ≤ 32 := by omega
      have R11 := mkHid (HRD.out.mono (M := N + 120) (by omega))
      have hj0 : j = 0 := by omega
      subst hj0
      clear HRD hj
      go_wp2_with fail
      refine (oddAny _ _ _ _ hn.1 hn.2 (by omega) R11.out).mono ?_
      rintro e w3 ⟨b, rfl, r3, g3⟩
      have HO3 := mkHid (own_grown HO.out g3 (fun g e => by have := (HO.out.lt g e).1; omega))
      have HG3 := mkHid (grown_trans HG.out g3)
      have hsz3 := HG3.out.size
      have HR3 := mkHid r3
      clear g3 r3 R11 HO HG
      cases b with
      | false =>
        go_wp2_with fail
        go_ret
        exact ⟨g, c, ys, rfl, HO3.out, by omega, HD.out, HR3.out.mono (by omega), HG3.out⟩
      | true =>
        go_wp2_with fail
        refine (pick_any _ _ _ _ (by omega) HR3.out).mono ?_
        rintro e w4 ⟨q, rfl, q0, q1, r4, g4⟩
        have HO4 := mkHid (own_grown HO3.out g4 (fun g e => by have := (HO3.out.lt g e).1; omega))
        have HG4 := mkHid (grown_trans HG3.out g4)
        have hsz4 := HG4.out.size
        have HR4 := mkHid (r4.mono (M := N + 130) (by omega))
        have hlt4 := r4.lt
        clear g4 r4 HR3 HO3 HG3
        have q1 := q1 (by omega)
        have hq3 : q = 0 ∨ q = 1 ∨ q = 2 := by omega
        clear q0 q1
        rcases hq3 with rfl | rfl | rfl
        · go_wp2_with fail
          go_ret
          refine ⟨w4.heap.size, 0, [], rfl, own_base (own_empty w4 _ _) hsz4, by simp, (fun z hz => absurd hz (by simp)), (HR4.out.below ((Below.refl _ _).alloc (Nat.le_refl _) _)).mono (by omega), grown_trans HG4.out (World.grownBy_alloc _ _ _)⟩
        · have hlit := LitAt.new (base := w4.heap.size) (lo := -1) (hi := 256) w4 [-1, 256] 3 (Nat.le_refl _) (by simp)
          have HL := mkHid hlit
          have HO5 := mkHid (HO4.out.alloc (.cells #[.int .i64 (-1), .int .i64 256] 3))
          have HG5 := mkHid (grown_trans HG4.out (World.grownBy_alloc _ (.cells #[.int .i64 (-1), .int .i64 256] 3) _))
          have HR5 := mkHid (HR4.out.below ((Below.refl _ _).alloc (Nat.le_refl _) (.cells #[.int .i64 (-1), .int .i64 256] 3)))
          clear hlit
          go_wp2_with fail
          refine (pick_any _ _ _ _ (by omega) HR5.out).mono ?_
          rintro e w6 ⟨p, rfl, p0, p1, r6, g6⟩
          have p1 := p1 (by omega)
          obtain ⟨pn, rfl⟩ := Int.eq_ofNat_of_zero_le p0
          obtain ⟨z, z0, z1, hc⟩ := (HL.out.grown hlt4 g6).at_ (j := pn) (by simp; omega)
          simp only [Nat.zero_add] at hc
          have HO6 := mkHid (own_grown HO5.out g6 (fun g e => by have := (HO5.out.lt g e).1; omega))
          have HG6 := mkHid (grown_trans HG5.out g6)
          have HR6 := mkHid r6
          obtain ⟨g', hg', hgb, hgs, hcell, hfr, hst⟩ := own_open HO6.out (i := 0) (by simp; omega)
          injection hg' with hg'
          injection hg' with hg'
          subst hg'
          have HST := mkHid (hst (.int .i64 z))
          have HQ := mkHid (show smallLane z by unfold smallLane; omega)
          clear g6 r6 hst
          go_wp2_with fail
          go_ret
          refine ⟨g, c, ys.set 0 z, ret_eq (by simp), ?_, by simp; omega, ?_, ?_, ?_⟩
          · have := HST.out
            rw [List.length_set]
            simpa [ints, List.map_set] using this
          · intro z' hz'
            rcases List.mem_or_eq_of_mem_set hz' with h | h
            · exact HD.out z' h
            · subst h; exact HQ.out
          · exact (HR6.out.grown (grown_setCell _ g 0 _) (fun g' hg' => by injection hg' with hg'; subst hg'; omega)).mono (by omega)
          · exact grown_app HG6.out HO6.out (Nat.le_refl _) (grown_setCell _ g 0 _)
        · go_wp2_with (at_make; refine wpList_make_full _ rfl _ _ _ rfl w4.heap.size _ i0 _ 1 Ei.ht hi0 hz0 hz1 _ _ _ _ 33 rfl rfl rfl rfl (by rw [hz2]; omega) (by simp only [maxLen]; omega) (Nat.le_refl _) ?_; intro w5 hown5 hg5; have HO5 := mkHid hown5; have HG5 := mkHid hg5; clear hown5 hg5)
          go_ret
          refine ⟨_, _, zerosL 33, rfl, ?_, by simp [zerosL], ?_, ?_, ?_⟩
          · have := HO5.out
            rw [madeZeros] at this
            exact own_base this hsz4
          · intro z hz
            rw [List.eq_of_mem_replicate hz]
            unfold smallLane; omega
          · exact (HR4.out.grown HG5.out (by simp)).mono (by omega)
          · exact grown_trans HG4.out (grown_none HG5.out _)
end Go.Proofs.Ytjmiilneennjaaa

namespace Go.Proofs.Ytjmiilneennjaaa
open Go.RowKit
set_option maxHeartbeats 2000000
set_option maxRecDepth 100000
set_option linter.unusedVariables false

/-- the boxes of a clone in the making. -/
structure Cln (w X : World) (a0 a2 : Value) (t : Int) (b : Bool) : Prop where
  q1 : X.heap[w.heap.size]? = some (.cells #[a0, .int .i64 t, a2, .bool b] 52 (0, 0))
  q2 : X.heap[w.heap.size + 1]? = some (.cells #[.slice none 0 0, .int .i64 0, .slice none 0 0, .bool false] 52 (0, 0))
  hb : Below w.heap.size w X
section
variable {w X X' : World} {a0 a2 : Value} {t : Int} {b : Bool}
theorem Cln.call (h : Cln w X a0 a2 t b) (k : Below X.heap.size X X') : Cln w X' a0 a2 t b :=
  ⟨(k.block _ (Array.getElem?_eq_some_iff.1 h.q1).1).trans h.q1, (k.block _ (Array.getElem?_eq_some_iff.1 h.q2).1).trans h.q2, h.hb.trans (k.mono h.hb.size)⟩
theorem Cln.drew (h : Cln w X a0 a2 t b) : Cln w X.drew a0 a2 t b := h.call ⟨rfl, rfl, rfl, Nat.le_refl _, fun i hi => rfl⟩
theorem Cln.put0 (h : Cln w X a0 a2 t b) (v : Value) : Cln w (X.setCell ⟨w.heap.size, 0, none⟩ v) v a2 t b := by
  have hg := grown_setCell X w.heap.size 0 v
  refine ⟨?_, (hg.block _ (Array.getElem?_eq_some_iff.1 h.q2).1 (fun e => by injection e with e; omega)).trans h.q2, h.hb.grown hg h.hb.size (fun g e => by injection e with e; omega)⟩
  have := heap_setCell_same X w.heap.size 0 _ _ v h.q1
  simpa using this
theorem Cln.put2 (h : Cln w X a0 a2 t b) (v : Value) : Cln w (X.setCell ⟨w.heap.size, 2, none⟩ v) a0 v t b := by
  have hg := grown_setCell X w.heap.size 2 v
  refine ⟨?_, (hg.block _ (Array.getElem?_eq_some_iff.1 h.q2).1 (fun e => by injection e with e; omega)).trans h.q2, h.hb.grown hg h.hb.size (fun g e => by injection e with e; omega)⟩
  have := heap_setCell_same X w.heap.size 2 _ _ v h.q1
  simpa using this
theorem Cln.cells (h : Cln w X a0 a2 t b) : (X.cell? ⟨w.heap.size, 0, none⟩ = some a0 ∧ X.cell? ⟨w.heap.size, 1, none⟩ = some (.int .i64 t) ∧ X.cell? ⟨w.heap.size, 2, none⟩ = some a2 ∧ X.cell? ⟨w.heap.size, 3, none⟩ = some (.bool b)) ∧
    (X.frozen? ⟨w.heap.size, 0, none⟩ = false ∧ X.frozen? ⟨w.heap.size, 1, none⟩ = false ∧ X.frozen? ⟨w.heap.size, 2, none⟩ = false ∧ X.frozen? ⟨w.heap.size, 3, none⟩ = false) := box4e h.q1
/-- a row of numbers where a lane's box has turned. -/
theorem Cln.own (h : Cln w X a0 a2 t b) {base s n : Nat} {v : Value} {xs : List Value} (ho : X.ownsRow base 3 s v n xs) (i : Nat) (u : Value) : (X.setCell ⟨w.heap.size, i, none⟩ u).ownsRow base 3 s v n xs :=
  own_grown' ho (grown_setCell X w.heap.size i u) (fun g e1 e2 => by injection e2 with e2; subst e2; exact own_ne_heapA ho h.q1 (by decide) e1)
theorem Cln.apt (h : Cln w X a0 a2 t b) {base : Nat} {rs : List IR} (ha : Apt X base rs) (i : Nat) (u : Value) : Apt (X.setCell ⟨w.heap.size, i, none⟩ u) base rs := ha.other (grown_setCell X w.heap.size i u) h.q1 (by decide)
theorem Cln.fin0 (h : Cln w X a0 a2 t b) {base : Nat} {rs : List IR} (ha : Apt X base rs) (v : Value) : Cln w (X.setCell ⟨w.heap.size, 0, none⟩ v) v a2 t b ∧ Apt (X.setCell ⟨w.heap.size, 0, none⟩ v) base rs := ⟨h.put0 v, h.apt ha 0 v⟩
theorem Cln.fin2 (h : Cln w X a0 a2 t b) {base : Nat} {rs : List IR} (ha : Apt X base rs) (v : Value) : Cln w (X.setCell ⟨w.heap.size, 2, none⟩ v) a0 v t b ∧ Apt (X.setCell ⟨w.heap.size, 2, none⟩ v) base rs := ⟨h.put2 v, h.apt ha 2 v⟩
end
theorem clone_any (x : Lt) (w : World) (h1 : x.zs.length ≤ 1048576) (h2 : x.ts.length ≤ 1048576) (hi : LaneIn w x) :
    Calls Try.prog 61 #[ltV x] w (RetLt x.st w) := by
  obtain ⟨ra, rc, zs, at_, ta, tc, ts, wt⟩ := x
  simp only at h1 h2 ⊢
  obtain ⟨o1, ho1⟩ : ∃ o1, o1 = Obj.cells #[.slice ra zs.length rc, .int .i64 at_, .slice ta ts.length tc, .bool wt] 52 := ⟨_, rfl⟩
  obtain ⟨o2, ho2⟩ : ∃ o2, o2 = Obj.cells #[.slice none 0 0, .int .i64 0, .slice none 0 0, .bool false] 52 := ⟨_, rfl⟩
  have hb : Below w.heap.size w ((w.alloc o1).alloc o2) := ((Below.refl _ _).alloc (Nat.le_refl _) _).alloc (by simp) _
  have q1 : ((w.alloc o1).alloc o2).heap[w.heap.size]? = some o1 := by
    rw [heap_alloc_old _ _ (by simp)]; exact heap_alloc_new _ _
  have q2 : ((w.alloc o1).alloc o2).heap[w.heap.size + 1]? = some o2 := by
    have := heap_alloc_new (w.alloc o1) o2
    simpa using this
  subst ho1 ho2
  have hk0 : Cln w _ (.slice ra zs.length rc) (.slice ta ts.length tc) at_ wt := ⟨q1, q2, hb⟩
  have HK0 := mkHid hk0.drew
  have HI := mkHid hi
  obtain ⟨⟨u0, u1, u2, u3⟩, f0, f1, f2, f3⟩ := hk0.cells
  clear hb q1 q2 hi hk0
  go_enter Try.func61, Try.ntmps61
  go_wp2_with fail
  generalize (w.alloc (.cells #[.slice ra zs.length rc, .int .i64 at_, .slice ta ts.length tc, .bool wt] 52)).alloc (.cells #[.slice none 0 0, .int .i64 0, .slice none 0 0, .bool false] 52) = W0 at *
  go_region_law (first
    | (go_simp
       go_at_call 60
       first
       | (refine (cloneInts_any ra rc zs _ (by omega) (by first | exact HI.out.1.1.below HK0.out.hb | exact HI.out.1.1.below HK9.out.hb | exact HI.out.1.1.below (HK9.out.put2 _).hb)).mono ?_
          rintro e w3 ⟨A3, c3, rfl, o3, b3⟩
          have HB3 := mkHid b3
          have HO3 := mkHid o3
          have HK3 := mkHid (show Cln w w3 _ _ at_ wt from by first | exact HK0.out.call b3 | exact HK9.out.call b3 | exact (HK9.out.put2 _).call b3)
          obtain ⟨⟨d0, d1, d2, d3⟩, e0, e1, e2, e3⟩ := HK3.out.cells
          clear o3 b3)
       | (refine (cloneInts_any ta tc ts _ (by omega) (by first | exact HI.out.2.1.below HK0.out.hb | exact HI.out.2.1.below HK3.out.hb | exact HI.out.2.1.below (HK3.out.put0 _).hb)).mono ?_
          rintro e w9 ⟨A9, c9, rfl, o9, b9⟩
          have HB9 := mkHid b9
          have HO9 := mkHid o9
          have HK9 := mkHid (show Cln w w9 _ _ at_ wt from by first | exact HK0.out.call b9 | exact HK3.out.call b9 | exact (HK3.out.put0 _).call b9)
          obtain ⟨⟨m0, m1, m2, m3⟩, n0, n1, n2, n3⟩ := HK9.out.cells
          clear o9 b9)))
  all_goals (
    have HAP : Hid (Apt w9 w.heap.size [⟨A3, c3, zs⟩, ⟨A9, c9, ts⟩]) := mkHid (by
      refine Apt.two' (r := ⟨A3, c3, zs⟩) (s := ⟨A9, c9, ts⟩) (own_base (by first | exact own_below HO3.out HB9.out | exact own_below (HK3.out.own HO3.out 0 _) HB9.out) HK0.out.hb.size) (own_base HO9.out (by first | exact HK3.out.hb.size | exact (HK3.out.put0 _).hb.size)) (fun g e1 e2 => ?_)
      have a := (HO3.out.lt g e1).2
      have b := (HO9.out.lt g e2).1
      try simp only [setCell_size] at b
      omega)
    clear u0 u1 u2 u3 f0 f1 f2 f3 d0 d1 d2 d3 e0 e1 e2 e3 m0 m1 m2 m3 n0 n1 n2 n3
    go_upto_region 2 with fail
    refine name_world ?_
    intro Wf hWf
    have hfin2 : Cln w Wf (.slice A3 zs.length c3) (.slice A9 ts.length c9) at_ wt ∧ Apt Wf w.heap.size [⟨A3, c3, zs⟩, ⟨A9, c9, ts⟩] := by
      rw [hWf]
      have hz := HK9.out
      have hap := HAP.out
      first
      | exact hz.fin2 hap _
      | exact ((hz.fin0 hap _).1.fin2 (hz.fin0 hap _).2 _)
      | exact ((hz.fin2 hap _).1.fin0 (hz.fin2 hap _).2 _)
    have HF := mkHid hfin2
    clear hWf hfin2
    obtain ⟨⟨u0, u1, u2, u3⟩, _⟩ := HF.out.1.cells
    obtain ⟨⟨d0, d1, d2, d3⟩, g0, g1, g2, g3⟩ := box4e HF.out.1.q2
    go_wp2_with fail
    have hgs := fun a b c d => grown_setCell' (grown_setCell' (grown_setCell' (grown_setCell Wf (w.heap.size + 1) 0 a) 1 b) 2 c) 3 d
    refine bodyPost_ret (v := ltV ⟨A3, c3, zs, at_, A9, c9, ts, wt⟩) (by simp [results, Try.results61, go_sem, d0, d1, d2, d3]) rfl ⟨_, rfl, rfl, HF.out.2.other (hgs _ _ _ _) HF.out.1.q2 (by decide), HF.out.1.hb.grown (hgs _ _ _ _) HF.out.1.hb.size (fun g e => by injection e with e; omega)⟩)
end Go.Proofs.Ytjmiilneennjaaa

namespace Go.Proofs.Ytjmiilneennjaaa
set_option maxHeartbeats 1000000
set_option linter.unusedVariables false

/-- the state after i steps of a lane alone. -/
def iterS (xs : List Cd) (id : Int) (s : LS) (mem : List Int) : Nat → LS × List Int
  | 0 => (s, mem)
  | i + 1 => stepS xs id (iterS xs id s mem i).1 (iterS xs id s mem i).2
theorem iterS_front (xs : List Cd) (id : Int) (s : LS) (mem : List Int) (i : Nat) : iterS xs id s mem (i + 1) = iterS xs id (stepS xs id s mem).1 (stepS xs id s mem).2 i := by
  induction i with
  | zero => rfl
  | succ i ih =>
    have h1 : iterS xs id s mem (i + 1 + 1) = stepS xs id (iterS xs id s mem (i + 1)).1 (iterS xs id s mem (i + 1)).2 := rfl
    rw [h1, ih]
    rfl
section
variable {xs : List Cd} {id : Int} {s : LS} {mem : List Int}
theorem iterS_ok (hv : progValid xs = true) (hid : 0 ≤ id ∧ id ≤ 7) (h : LaneOk xs s) (hm : memValid mem = true) (i : Nat) :
    LaneOk xs (iterS xs id s mem i).1 ∧ memValid (iterS xs id s mem i).2 = true ∧ (iterS xs id s mem i).2.length = mem.length := by
  induction i with
  | zero => exact ⟨h, hm, rfl⟩
  | succ i ih =>
    have := stepS_ok hv hid ih.1 ih.2.1
    exact ⟨this.1, this.2.1, this.2.2.trans ih.2.2⟩
theorem iterS_left (hv : progValid xs = true) (hid : 0 ≤ id ∧ id ≤ 7) (h : LaneOk xs s) (hm : memValid mem = true) : ∀ i, (∀ j, j < i → goesB xs.length (iterS xs id s mem j).1 = true) → left xs (iterS xs id s mem i).1 + i ≤ left xs s := by
  intro i
  induction i with
  | zero => intro _; simp [iterS]
  | succ i ih =>
    intro hg
    have h1 := ih fun j hj => hg j (by omega)
    have h2 := left_step hv (id := id) (mem := (iterS xs id s mem i).2) (iterS_ok hv hid h hm i).1 (hg i (by omega))
    have h3 : iterS xs id s mem (i + 1) = stepS xs id (iterS xs id s mem i).1 (iterS xs id s mem i).2 := rfl
    rw [h3]
    omega
/-- a lane alone has come to a barrier or to its end after N steps and not before. -/
structure RunsL (xs : List Cd) (id : Int) (s : LS) (mem : List Int) (N : Nat) : Prop where
  le : N ≤ 2624
  before : ∀ j, j < N → goesB xs.length (iterS xs id s mem j).1 = true
  stop : goesB xs.length (iterS xs id s mem N).1 = false
theorem runsL_of (hv : progValid xs = true) (hid : 0 ≤ id ∧ id ≤ 7) (h : LaneOk xs s) (hm : memValid mem = true) : ∃ N, RunsL xs id s mem N := by
  by_cases hx : ∃ N, N ≤ 2624 ∧ goesB xs.length (iterS xs id s mem N).1 = false
  · obtain ⟨N, n1, n2⟩ := hx
    obtain ⟨M, m1, m2, m3⟩ := first_time (p := fun i => !goesB xs.length (iterS xs id s mem i).1) N (by rw [n2]; rfl)
    refine ⟨M, by omega, fun j hj => ?_, ?_⟩
    · have := m3 j hj
      simpa using this
    · simpa using m2
  · exfalso
    have hall : ∀ j, j < 2625 → goesB xs.length (iterS xs id s mem j).1 = true := fun j hj => by
      cases hg : goesB xs.length (iterS xs id s mem j).1 with
      | true => rfl
      | false => exact absurd ⟨j, by omega, hg⟩ hx
    have h1 := iterS_left hv hid h hm 2625 hall
    have h2 := left_nonneg hv (iterS_ok hv hid h hm 2625).1
    have h3 := left_le hv h
    omega
theorem runsL_uniq {N M : Nat} (h : RunsL xs id s mem N) (k : RunsL xs id s mem M) : N = M := by
  rcases Nat.lt_trichotomy N M with h1 | h1 | h1
  · have := k.before N h1; rw [h.stop] at this; cases this
  · exact h1
  · have := h.before M h1; rw [k.stop] at this; cases this
theorem goesB_parts {n : Nat} {s : LS} : goesB n s = true ↔ s.wait = false ∧ s.pc ≠ n := by
  unfold goesB
  rw [Bool.and_eq_true, Bool.not_eq_true', Bool.not_eq_true']
  simp
theorem goesB_no {n : Nat} {s : LS} : goesB n s = false ↔ s.wait = true ∨ s.pc = n := by
  unfold goesB
  cases hw : s.wait <;> simp
theorem clear_goes {n : Nat} {s : LS} (h : goesB n s = true) : clearW s = s := by
  have := (goesB_parts.1 h).1
  unfold clearW
  rw [← this]
/-- a crowd of one lane. -/
def oneS (xs : List Cd) (s : LS) (mem : List Int) : Nat → LS × List Int
  | 0 => (s, mem)
  | i + 1 => (clearW (stepS xs 0 (oneS xs s mem i).1 (oneS xs s mem i).2).1, (stepS xs 0 (oneS xs s mem i).1 (oneS xs s mem i).2).2)
theorem pass_one (n : Nat) (s : LS) : passS n [s] = [clearW s] := by
  unfold passS
  cases h : goesB n s with
  | true => rw [if_pos (by simp [h]), clear_goes h]
  | false => rw [if_neg (by simp [h])]; rfl
theorem seq_one {f : Nat → Nat} (hf : ∀ i, f i = 0) (i : Nat) : seqC xs f [s] mem i = ([(oneS xs s mem i).1], (oneS xs s mem i).2) := by
  induction i with
  | zero => rfl
  | succ i ih =>
    have h1 : seqC xs f [s] mem (i + 1) = stepC xs (f i) (seqC xs f [s] mem i).1 (seqC xs f [s] mem i).2 := rfl
    rw [h1, ih, hf i]
    unfold stepC
    simp only [List.set_cons_zero, pass_one, laneAt, List.getD_cons_zero]
    rfl
theorem oneS_add (i j : Nat) : oneS xs s mem (i + j) = oneS xs (oneS xs s mem i).1 (oneS xs s mem i).2 j := by
  induction j with
  | zero => rfl
  | succ j ih =>
    have h1 : oneS xs s mem (i + (j + 1)) = (clearW (stepS xs 0 (oneS xs s mem (i + j)).1 (oneS xs s mem (i + j)).2).1, (stepS xs 0 (oneS xs s mem (i + j)).1 (oneS xs s mem (i + j)).2).2) := rfl
    rw [h1, ih]
    rfl
theorem oneS_iter {N : Nat} (h : ∀ j, j < N → goesB xs.length (iterS xs 0 s mem j).1 = true) (hw : s.wait = false) : ∀ j, j ≤ N → oneS xs s mem j = (clearW (iterS xs 0 s mem j).1, (iterS xs 0 s mem j).2) := by
  intro j
  induction j with
  | zero =>
    intro _
    have e : clearW s = s := by unfold clearW; rw [← hw]
    show (s, mem) = (clearW s, mem)
    rw [e]
  | succ j ih =>
    intro hj
    have h1 := ih (by omega)
    have hg := clear_goes (h j (by omega))
    have h2 : oneS xs s mem (j + 1) = (clearW (stepS xs 0 (oneS xs s mem j).1 (oneS xs s mem j).2).1, (stepS xs 0 (oneS xs s mem j).1 (oneS xs s mem j).2).2) := rfl
    rw [h2, h1, hg]
    rfl
end
/-- what is known of a lane that runs over all barriers, after k runs. -/
structure Chain (xs : List Cd) (mem0 : List Int) (k : Nat) (l : LS) (cells : List Int) : Prop where
  ok : LaneOk xs l
  mem : memValid cells = true
  len : cells.length = mem0.length
  at_ : ∃ i, clearW l = (oneS xs newLS mem0 i).1 ∧ cells = (oneS xs newLS mem0 i).2 ∧ ∀ j, j < i → (oneS xs newLS mem0 j).1.pc ≠ xs.length
  lf : left xs l + k ≤ 2624 ∨ (l.pc = xs.length ∧ l.wait = false ∧ k ≤ 2625)
theorem Chain.start {xs : List Cd} {mem0 : List Int} (hv : progValid xs = true) (hm : memValid mem0 = true) : Chain xs mem0 0 newLS mem0 :=
  ⟨newLS_ok xs, hm, rfl, ⟨0, rfl, rfl, fun j hj => absurd hj (by omega)⟩, .inl (by have := left_le hv (newLS_ok xs); omega)⟩
theorem Chain.next {xs : List Cd} {mem0 : List Int} {k N : Nat} {l : LS} {cells : List Int} (hv : progValid xs = true) (h : Chain xs mem0 k l cells) (hgo : l.wait = true ∨ l.pc < xs.length) (hN : RunsL xs 0 (clearW l) cells N) :
    Chain xs mem0 (k + 1) (iterS xs 0 (clearW l) cells N).1 (iterS xs 0 (clearW l) cells N).2 := by
  have hok := h.ok.clear
  have hi := iterS_ok hv (id := 0) (by omega) hok h.mem N
  obtain ⟨i, i1, i2, i3⟩ := h.at_
  have hl : left xs l + k ≤ 2624 := by
    rcases h.lf with h1 | ⟨h1, h2, h3⟩
    · exact h1
    · rcases hgo with h4 | h4
      · rw [h2] at h4; cases h4
      · omega
  refine ⟨hi.1, hi.2.1, hi.2.2.trans h.len, ⟨i + N, ?_, ?_, ?_⟩, ?_⟩
  · rw [oneS_add, ← i1, ← i2, oneS_iter hN.before rfl N (Nat.le_refl _)]
  · rw [oneS_add, ← i1, ← i2, oneS_iter hN.before rfl N (Nat.le_refl _)]
  · intro j hj
    by_cases h1 : j < i
    · exact i3 j h1
    · have e : j = i + (j - i) := by omega
      rw [e, oneS_add, ← i1, ← i2, oneS_iter hN.before rfl (j - i) (by omega)]
      exact (goesB_parts.1 (hN.before (j - i) (by omega))).2
  · by_cases hp : l.pc < xs.length
    · left
      have h1 := iterS_left hv (id := 0) (by omega) hok h.mem N hN.before
      have h2 : left xs (clearW l) = left xs l := rfl
      have h3 : 1 ≤ N := by
        rcases Nat.eq_zero_or_pos N with h0 | h0
        · exfalso
          have := hN.stop
          rw [h0] at this
          rcases goesB_no.1 this with h4 | h4
          · cases h4
          · have h5 : (clearW l).pc = xs.length := h4
            have h6 : (clearW l).pc = l.pc := rfl
            omega
        · exact h0
      omega
    · right
      have hpc := h.ok.pc
      have h0 : N = 0 := by
        rcases Nat.eq_zero_or_pos N with h0 | h0
        · exact h0
        · exfalso
          have := (goesB_parts.1 (hN.before 0 h0)).2
          have h6 : (iterS xs 0 (clearW l) cells 0).1.pc = l.pc := rfl
          omega
      subst h0
      have hn := left_nonneg hv h.ok
      refine ⟨?_, rfl, by omega⟩
      show l.pc = _
      omega
/-- the run is over: the memory is that of the crowd of one lane. -/
theorem Chain.done {xs : List Cd} {mem0 : List Int} {k : Nat} {l : LS} {cells : List Int} (hv : progValid xs = true) (h : Chain xs mem0 k l cells) (hp : ¬ (l.wait = true ∨ l.pc < xs.length) ∨ 3000 < k) {f : Nat → Nat} (hf : ∀ i, f i = 0) {N : Nat} (hN : Runs xs f 1 mem0 N) :
    (seqC xs f (List.replicate 1 newLS) mem0 N).2 = cells := by
  have hn := left_nonneg hv h.ok
  have hpc := h.ok.pc
  have hend : l.pc = xs.length := by
    rcases h.lf with h1 | h1
    · rcases hp with hp | hp
      · have : ¬ l.pc < xs.length := fun e => hp (.inr e)
        omega
      · omega
    · exact h1.1
  obtain ⟨i, i1, i2, i3⟩ := h.at_
  have hrep : List.replicate 1 newLS = [newLS] := rfl
  have ho : ∀ j, overB xs.length (seqC xs f (List.replicate 1 newLS) mem0 j).1 = ((oneS xs newLS mem0 j).1.pc == (xs.length : Int)) := fun j => by
    rw [hrep, seq_one hf]
    simp [overB]
  have hi : (oneS xs newLS mem0 i).1.pc = xs.length := by rw [← i1]; exact hend
  have e : N = i := by
    rcases Nat.lt_trichotomy N i with h1 | h1 | h1
    · exfalso
      have := hN.over
      rw [ho] at this
      exact i3 N h1 (by simpa using this)
    · exact h1
    · exfalso
      have := hN.before i h1
      rw [ho, hi] at this
      simp at this
  subst e
  rw [hrep, seq_one hf]
  exact i2.symm
/-- running a lane until it waits, in two parts. -/
theorem runsL_next {xs : List Cd} {id : Int} {s : LS} {mem : List Int} {N : Nat} (h : RunsL xs id s mem N) (hg : goesB xs.length s = true) : ∃ M, N = M + 1 ∧ RunsL xs id (stepS xs id s mem).1 (stepS xs id s mem).2 M := by
  cases N with
  | zero => have := h.stop; rw [show (iterS xs id s mem 0).1 = s from rfl, hg] at this; cases this
  | succ M =>
    refine ⟨M, rfl, by have := h.le; omega, fun j hj => ?_, ?_⟩
    · rw [← iterS_front]; exact h.before (j + 1) (by omega)
    · rw [← iterS_front]; exact h.stop
/-! ### when a crowd is over no lane waits -/
def doneB (n : Nat) (ss : List LS) : Bool := ss.all fun s => !s.wait && s.pc == (n : Int)
def Settled (n : Nat) (ss : List LS) : Prop := overB n ss = true → ∀ s ∈ ss, s.wait = false
theorem Settled.done {n : Nat} {ss : List LS} (h : Settled n ss) : doneB n ss = overB n ss := by
  cases ho : overB n ss with
  | true =>
    have h1 := h ho
    unfold doneB
    unfold overB at ho
    rw [List.all_eq_true] at ho ⊢
    intro s hs
    rw [h1 s hs, ho s hs]; rfl
  | false =>
    unfold overB at ho
    unfold doneB
    rw [List.all_eq_false] at ho ⊢
    obtain ⟨s, hs, h2⟩ := ho
    exact ⟨s, hs, by simp at h2 ⊢; exact fun _ => h2⟩
theorem passS_settled (n : Nat) (ss : List LS) : Settled n (passS n ss) := by
  intro ho s hs
  unfold passS at ho hs
  split at hs
  · rename_i h
    rw [if_pos h] at ho
    exfalso
    rw [List.any_eq_true] at h
    obtain ⟨a, ha, hg⟩ := h
    unfold overB at ho
    rw [List.all_eq_true] at ho
    have h1 := ho a ha
    have h2 := (goesB_parts.1 hg).2
    simp at h1
    exact h2 h1
  · obtain ⟨a, _, rfl⟩ := List.mem_map.1 hs
    rfl
theorem new_settled (n k : Nat) : Settled n (List.replicate k newLS) := by
  intro _ s hs
  rw [(List.mem_replicate.1 hs).2]; rfl
theorem seqC_settled {xs : List Cd} {f : Nat → Nat} {k : Nat} {mem : List Int} (i : Nat) : Settled xs.length (seqC xs f (List.replicate k newLS) mem i).1 := by
  cases i with
  | zero => exact new_settled _ _
  | succ i => exact passS_settled _ _
/-! ### a step of one lane, seen from the others -/
theorem laneAt_set_ne {ss : List LS} {k j : Nat} (s : LS) (h : j ≠ k) : laneAt (ss.set k s) j = laneAt ss j := by
  unfold laneAt
  rw [List.getD, List.getD, List.getElem?_set_ne (fun e => h e.symm)]
theorem laneAt_pass (n : Nat) {ss : List LS} {j : Nat} (hj : j < ss.length) : (laneAt (passS n ss) j).regs = (laneAt ss j).regs ∧ (laneAt (passS n ss) j).pc = (laneAt ss j).pc := by
  unfold passS
  split
  · exact ⟨rfl, rfl⟩
  · rw [laneAt_at (by simpa using hj), laneAt_at hj]
    simp [clearW]
theorem stepC_other {xs : List Cd} {k : Nat} {ss : List LS} {mem : List Int} {j : Nat} (hj : j < ss.length) (h : j ≠ k) :
    (laneAt (stepC xs k ss mem).1 j).regs = (laneAt ss j).regs ∧ (laneAt (stepC xs k ss mem).1 j).pc = (laneAt ss j).pc := by
  unfold stepC
  have h1 := laneAt_pass xs.length (ss := ss.set k (stepS xs (k : Int) (laneAt ss k) mem).1) (j := j) (by simpa using hj)
  rw [laneAt_set_ne _ h] at h1
  exact h1
/-- where no lane goes on none waits. -/
theorem pass_stuck (n : Nat) (ss : List LS) (h : (passS n ss).any (goesB n) = false) : ∀ s ∈ passS n ss, s.wait = false := by
  intro s hs
  unfold passS at h hs
  split at hs
  · rename_i h1
    rw [if_pos h1, h1] at h
    cases h
  · obtain ⟨a, _, rfl⟩ := List.mem_map.1 hs
    rfl
end Go.Proofs.Ytjmiilneennjaaa
