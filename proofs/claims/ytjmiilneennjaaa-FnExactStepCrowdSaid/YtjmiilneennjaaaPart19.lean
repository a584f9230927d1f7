/-
  Parts of a proof: COrder, CCrowd2, CCrNew, CPass, CPut2.
-/
import Derived.Test.YtjmiilneennjaaaPart06
import Derived.Test.YtjmiilneennjaaaPart01
import Derived.Test.YtjmiilneennjaaaPart18
import Derived.Test.YtjmiilneennjaaaPart15
import Derived.Test.YtjmiilneennjaaaPart17
namespace Go.Proofs.Ytjmiilneennjaaa
open Go.RowKit
set_option maxHeartbeats 1000000
set_option linter.unusedVariables false

/-! ### plain -/
def hasB (ys : List Int) (z : Int) : Bool := ys.any fun y => y == z
def orderValid (os : List Int) (l : Int) : Bool := inB l 1 8 && decide (os.length ≤ 40) && os.all (fun n => inB n 0 (l - 1)) && (List.range l.toNat).all (fun n : Nat => hasB os n)
def maskNat (os : List Int) : Nat := os.foldl (fun m z => m ||| 2 ^ z.toNat) 0
theorem maskNat_snoc (os : List Int) (z : Int) : maskNat (os ++ [z]) = maskNat os ||| 2 ^ z.toNat := by simp [maskNat]
theorem mask_bit (os : List Int) (m i : Nat) : (os.foldl (fun m z => m ||| 2 ^ z.toNat) m).testBit i = (m.testBit i || os.any fun z => z.toNat == i) := by
  induction os generalizing m with
  | nil => simp
  | cons z os ih =>
    rw [List.foldl_cons, ih, Nat.testBit_or, List.any_cons, Nat.testBit_two_pow, Bool.or_assoc]
    rfl
theorem maskNat_bit (os : List Int) (i : Nat) : (maskNat os).testBit i = os.any fun z => z.toNat == i := by unfold maskNat; rw [mask_bit]; simp
theorem maskNat_lt (os : List Int) (h : ∀ z ∈ os, z.toNat < 8) : maskNat os < 256 := by
  refine Nat.lt_pow_two_of_testBit (n := 8) _ fun i hi => ?_
  rw [maskNat_bit, List.any_eq_false]
  intro z hz e
  have := h z hz
  have e' : z.toNat = i := by simpa using e
  omega
/-- the mask's number is that of all lanes exactly if every lane occurs. -/
theorem mask_all (os : List Int) (l : Nat) (h : ∀ z ∈ os, 0 ≤ z ∧ z < l) : (maskNat os = 2 ^ l - 1) ↔ (List.range l).all (fun n : Nat => hasB os n) = true := by
  have hbit : ∀ i : Nat, (os.any fun z => z.toNat == i) = hasB os i := fun i => by
    unfold hasB
    rw [Bool.eq_iff_iff, List.any_eq_true, List.any_eq_true]
    constructor
    · rintro ⟨z, hz, e⟩
      have := h z hz
      have e' : z.toNat = i := by simpa using e
      exact ⟨z, hz, by rw [beq_iff_eq]; omega⟩
    · rintro ⟨z, hz, e⟩
      rw [beq_iff_eq] at e
      exact ⟨z, hz, by rw [beq_iff_eq]; omega⟩
  rw [List.all_eq_true]
  constructor
  · intro e n hn
    have hb := congrArg (fun m => Nat.testBit m n) e
    simp only [maskNat_bit, hbit, Nat.testBit_two_pow_sub_one] at hb
    rw [hb]
    simpa using List.mem_range.1 hn
  · intro hall
    apply Nat.eq_of_testBit_eq
    intro i
    rw [maskNat_bit, hbit, Nat.testBit_two_pow_sub_one]
    by_cases hi : i < l
    · rw [hall i (List.mem_range.2 hi)]; simp [hi]
    · have : hasB os i = false := by
        unfold hasB
        rw [List.any_eq_false]
        intro z hz e
        have := h z hz
        rw [beq_iff_eq] at e
        omega
      rw [this]; simp [hi]
theorem bits_or_nat (a b : Nat) (ha : a < 9223372036854775808) (hb : b < 9223372036854775808) : bits .or .i64 (a : Int) (b : Int) = ((a ||| b : Nat) : Int) := by
  have ho : ∀ m : Nat, m < 9223372036854775808 → (BitVec.ofInt 64 (m : Int)).toNat = m := fun m hm => by
    rw [BitVec.ofInt_natCast, BitVec.toNat_ofNat]; exact Nat.mod_eq_of_lt (by omega)
  have hx : a ||| b < 2 ^ 63 := Nat.or_lt_two_pow (by omega) (by omega)
  show IntKind.i64.wrap ((BitVec.ofInt 64 (a : Int) ||| BitVec.ofInt 64 (b : Int)).toNat : Int) = _
  rw [BitVec.toNat_or, ho a ha, ho b hb, IntKind.wrap_i64]
  omega
def maskOf (os : List Int) (l : Int) : Int := if inB l 1 8 && os.all (fun n => inB n 0 (l - 1)) then (maskNat os : Nat) else -1
def maskAll (l : Int) : Int := if inB l 1 8 then ((2 ^ l.toNat - 1 : Nat) : Int) else -1
theorem order_mask (os : List Int) (l : Int) : orderValid os l = (decide (os.length ≤ 40) && inB l 1 8 && (maskOf os l == maskAll l)) := by
  unfold orderValid maskOf maskAll
  cases hl : inB l 1 8 with
  | false => simp
  | true =>
    have hb := inB_t hl
    cases ha : os.all (fun n => inB n 0 (l - 1)) with
    | false =>
      have : ((-1 : Int) == ((2 ^ l.toNat - 1 : Nat) : Int)) = false := by rw [beq_eq_false_iff_ne]; omega
      simp only [Bool.true_and, Bool.false_and, Bool.and_false, if_true, Bool.and_true, this, Bool.false_eq_true, if_false]
    | true =>
      simp only [Bool.true_and, Bool.and_true, if_true]
      have hz : ∀ z ∈ os, 0 ≤ z ∧ z < (l.toNat : Nat) := fun z hz => by
        have := inB_t (List.all_eq_true.1 ha z hz)
        omega
      have h1 := mask_all os l.toNat hz
      cases hall : (List.range l.toNat).all (fun n : Nat => hasB os n) with
      | true => rw [h1.2 hall]; simp
      | false =>
        have hne : maskNat os ≠ 2 ^ l.toNat - 1 := fun e => by rw [h1.1 e] at hall; cases hall
        have : (((maskNat os : Nat) : Int) == ((2 ^ l.toNat - 1 : Nat) : Int)) = false := by rw [beq_eq_false_iff_ne]; omega
        rw [this]
theorem pow_lanes (l : Int) (h : 1 ≤ l ∧ l ≤ 8) : wrap64 (2 ^ l.toNat) = ((2 ^ l.toNat : Nat) : Int) := by
  have : l = 1 ∨ l = 2 ∨ l = 3 ∨ l = 4 ∨ l = 5 ∨ l = 6 ∨ l = 7 ∨ l = 8 := by omega
  rcases this with rfl | rfl | rfl | rfl | rfl | rfl | rfl | rfl <;> simp [wrap64]

end Go.Proofs.Ytjmiilneennjaaa

namespace Go.Proofs.Ytjmiilneennjaaa
open Go.RowKit
set_option maxHeartbeats 2000000
set_option maxRecDepth 100000
set_option linter.unusedVariables false

theorem own_emptyAt (w : World) (e : TypeId) (size : Nat) {base B : Nat} (hb : base ≤ w.heap.size) (hB : B = w.heap.size) : (w.alloc (.cells #[] e)).ownsRow base e size (.slice (some ⟨B, 0, none⟩) 0 0) 0 [] := by
  subst hB
  exact World.ownsRow_made w #[] 0 hb (by simp [maxLen]) (by simp)
def crowdOk (n : Int) (zs : List Int) : Bool := inB n 1 8 && memValid zs
def crowdN (n : Int) (zs : List Int) : Nat := if crowdOk n zs then n.toNat else 0
def crowdZ (n : Int) (zs : List Int) : List Int := if crowdOk n zs then zs else []
theorem crowd_no {n : Int} {zs : List Int} (h : crowdOk n zs = false) (w : World) (w' : World) (hb : Below w.heap.size w w') : RetCrowd (crowdN n zs) (crowdZ n zs) w (.returned (.agg #[.slice none 0 0, .slice none 0 0])) w' := by
  unfold crowdN crowdZ
  rw [h]
  exact ⟨none, 0, [], none, 0, rfl, rfl, (fun l hl => absurd hl (by simp)), ⟨World.ownsRow_nil _ _ _ _, LanesApart.nil _ _, World.ownsRow_nil _ _ _ _, fun l hl => absurd hl (by simp)⟩, hb⟩
theorem specNewCrowd_no (n : Int) (A : Option Addr) (c : Nat) (zs : List Int) (w : World) (hz : zs.length ≤ 1048576) (hs : Sl w A (ints zs)) (hno : crowdOk n zs = false) :
    Calls Try.prog 89 #[.int .i64 n, .slice A zs.length c] w (RetCrowd (crowdN n zs) (crowdZ n zs) w) := by
  have hb0 := (Below.refl w.heap.size w).alloc (Nat.le_refl _) crowd0
  have hs0 := hs.below hb0
  have hL := l1In_any n 1 8 (w.alloc crowd0)
  have hM := specMemoryValid_any A c zs (w.alloc crowd0) (by omega) hs0
  have hok : crowdOk n zs = (inB n 1 8 && memValid zs) := rfl
  rw [hno] at hok
  obtain ⟨v1, h1⟩ : ∃ v, v = inB n 1 8 := ⟨_, rfl⟩
  obtain ⟨v2, h2⟩ : ∃ v, v = memValid zs := ⟨_, rfl⟩
  rw [← h1] at hL hok
  rw [← h2] at hM hok
  have HB0 := mkHid hb0
  have HL := mkHid hL
  have HM := mkHid hM
  have HOK := mkHid hok
  have HNO := mkHid hno
  clear hb0 hs0 hL hM hok hs h2 h1 hno
  cases v1
  case false =>
    go_enter Try.func89, Try.ntmps89
    go_wp2_with fail
    refine HL.out.mono ?_
    rintro e w2 ⟨rfl, rfl⟩
    go_wp2_with fail
    refine bodyPost_ret (v := .agg #[.slice none 0 0, .slice none 0 0]) (by simp [results, Try.results89, go_sem]) rfl ?_
    exact crowd_no HNO.out _ _ ((Below.refl w.heap.size w).alloc (Nat.le_refl _) _)
  case true =>
    cases v2
    case true => have := HOK.out; cases this
    case false =>
      go_enter Try.func89, Try.ntmps89
      go_wp2_with fail
      refine HL.out.mono ?_
      rintro e w2 ⟨rfl, rfl⟩
      go_wp2_with fail
      refine HM.out.mono ?_
      rintro e w2 ⟨rfl, rfl⟩
      go_wp2_with fail
      refine bodyPost_ret (v := .agg #[.slice none 0 0, .slice none 0 0]) (by simp [results, Try.results89, go_sem]) rfl ?_
      exact crowd_no HNO.out _ _ ((Below.refl w.heap.size w).alloc (Nat.le_refl _) _)
theorem specNewCrowd_yes (n : Nat) (A : Option Addr) (c : Nat) (zs : List Int) (w : World) (hn : 1 ≤ n ∧ n ≤ 8) (hm : memValid zs = true) (hs : Sl w A (ints zs)) :
    Calls Try.prog 89 #[.int .i64 n, .slice A zs.length c] w (RetCrowd n zs w) := by
  have hz := inB_t (Bool.and_eq_true_iff.1 hm).1
  have LQ0 : 0 < zs.length := by omega
  have LQ1 : zs.length ≤ 32 := by omega
  obtain ⟨i0, hi0, hz0, hz1, hz2⟩ := info_parts El.hi
  have hb0 := (Below.refl w.heap.size w).alloc (Nat.le_refl _) crowd0
  have hs0 := hs.below hb0
  have hL := l1In_any n 1 8 (w.alloc crowd0)
  have hM := specMemoryValid_any A c zs (w.alloc crowd0) (by omega) hs0
  rw [inB_of (show (1 : Int) ≤ n by omega) (show (n : Int) ≤ 8 by omega)] at hL
  rw [hm] at hM
  obtain ⟨mb, mo, rfl, hcells⟩ := hs0.at_ (k := 0) (by simpa using LQ0)
  have HL := mkHid hL
  have HM := mkHid hM
  have hca : ∀ j u, (ints zs)[j]? = some u → ((w.alloc crowd0).alloc (.cells #[] 3)).cell? ((⟨mb, mo, none⟩ : Addr).add j) = some u := fun j u hu => by
    rw [add_flat]
    have h1 := hcells j u hu
    exact (((Below.refl _ _).alloc (Nat.le_refl _) _).cell (World.block_lt_of_cell? _ _ h1)).trans h1
  have HCA := mkHid hca
  clear hb0 hs0 hL hM hs hcells hca hm hz
  go_enter Try.func89, Try.ntmps89
  go_wp2_with fail
  refine HL.out.mono ?_
  rintro e w2 ⟨rfl, rfl⟩
  go_wp2_with fail
  refine HM.out.mono ?_
  rintro e w2 ⟨rfl, rfl⟩
  go_wp2_with
    (at_builtin
     refine wpList_appS Ei (own_emptyAt (w.alloc crowd0) _ _ (base := w.heap.size + 1) (by simp) (by simp)) HCA.out (by simp) (ints_one zs) (by omega) (by omega) (by simp) rfl rfl rfl rfl ?_
     intro g1 c1 w1 hown1 hg1
     have HO1 := mkHid hown1
     have HG1 := mkHid hg1
     clear hown1 hg1)
  have hgr1 := HG1.out
  have hsz1 : w.heap.size + 1 ≤ w1.heap.size := by have := hgr1.size; simp at this; omega
  have o1 : w1.ownsRow w.heap.size 3 1 (.slice (some ⟨g1, 0, none⟩) zs.length c1) zs.length (ints zs) := by have := own_base HO1.out (show w.heap.size ≤ w.heap.size + 1 by omega); simpa using this
  have b1 : Below (w.heap.size + 1) (w.alloc crowd0) w1 := ((Below.refl _ _).alloc (by simp) (.cells #[] 3)).grown hgr1 (by simp) (fun g e => by injection e with e; omega)
  have HBL := mkHid (fun g hg => (o1.lt g hg).2)
  have HO1 := mkHid (o1.alloc (.cells #[.slice none 0 0, .slice (some ⟨g1, 0, none⟩) zs.length c1] 32))
  have HB1 := mkHid (b1.alloc hsz1 (.cells #[.slice none 0 0, .slice (some ⟨g1, 0, none⟩) zs.length c1] 32))
  have HQ := mkHid (heap_alloc_new w1 (.cells #[.slice none 0 0, .slice (some ⟨g1, 0, none⟩) zs.length c1] 32))
  have hsz2 : (w1.alloc (.cells #[.slice none 0 0, .slice (some ⟨g1, 0, none⟩) zs.length c1] 32)).heap.size = w1.heap.size + 1 := by simp
  generalize w1.alloc (.cells #[.slice none 0 0, .slice (some ⟨g1, 0, none⟩) zs.length c1] 32) = w2 at *
  clear o1 b1 hgr1 HG1
  generalize w1.heap.size = C at *
  go_loopw [6] (fun i wr => ∃ k : Nat, k ≤ n ∧ i = .int .i64 k ∧ ∃ A c, ∃ ls : List Ln, ls.length = k ∧ wr.heap[C]? = some (.cells #[.slice A k c, .slice (some ⟨g1, 0, none⟩) zs.length c1] 32 (0, 0)) ∧ wr.ownsRow C 52 4 (.slice A k c) k (lflat ls) ∧ LanesApart wr C ls ∧ (∀ l ∈ ls, Fresh l) ∧ wr.ownsRow w.heap.size 3 1 (.slice (some ⟨g1, 0, none⟩) zs.length c1) zs.length (ints zs) ∧ Below (w.heap.size + 1) (w.alloc crowd0) wr ∧ C < wr.heap.size) (fun i _ => n - (intOf i).toNat)
  case atStart => exact ⟨0, by omega, rfl, none, 0, [], rfl, HQ.out, World.ownsRow_nil _ _ _ _, LanesApart.nil _ _, (fun l hl => absurd hl (by simp)), HO1.out, HB1.out, by omega⟩
  case round =>
    clear HQ HO1 HB1 hsz2 w2
    obtain ⟨k, hk, rfl, A, c, ls, hls, hq, hown, hap, hfr, hmem, hb, hCl⟩ := hrel
    have HQ := mkHid hq
    have HO := mkHid hown
    have HA := mkHid hap
    have HF := mkHid hfr
    have HM := mkHid hmem
    have HB := mkHid hb
    obtain ⟨⟨p0, p1⟩, f0, f1⟩ := box2 hq
    clear hq hown hap hfr hmem hb
    by_cases hlt : k < n
    · go_wp2_with fail
      go_region_law (first
        | (refine step_append_lies _ rfl _ _ _ rfl C _ i0 _ 4 64 El.ht hi0 hz0 hz1 hz2 rfl (by omega) _ _ _ rfl (HO2.out.alloc _) _ 1 1 (lnCells l) rfl (by simp) (newCellsAt _ _ _ (by simp)) (by simp [Value.oneCell']) (by omega) (by simp only [maxLen]; omega) (by omega) (by simp; omega) _ rfl ?_
           intro g3 c3 w3 hown3 hg3 hat3 hlt3
           have HO3 := mkHid hown3
           have HG3 := mkHid hg3
           have HQ3 := mkHid ((hg3.block C (by simp; omega) (fun e => own_ne_heap HO2.out HQ2.out (by decide) e.symm)).trans ((heap_alloc_old _ _ hl2).trans HQ2.out))
           obtain ⟨⟨p0, p1⟩, f0, f1⟩ := box2 HQ3.out
           clear hown3 hg3 hat3)
        | (go_simp
           go_at_call 96
           refine (specNewLane_any _).mono ?_
           rintro e w2 ⟨l, rfl, hf, ol, b2⟩
           have b2 := below_undrew b2
           have HB2 := mkHid b2
           have HOL := mkHid ol
           have HFL := mkHid hf
           have HO2 := mkHid (own_below HO.out b2)
           have hl2 : C < w2.heap.size := Nat.lt_of_lt_of_le hCl b2.size
           have HQ2 := mkHid ((b2.block C hCl).trans HQ.out)
           have q0 := (box2 HQ2.out).1.1
           have q1 : ∀ o, (w2.alloc o).cell? ⟨C, 0, none⟩ = some (.slice A k c) := fun o => (box2 ((heap_alloc_old w2 o hl2).trans HQ2.out)).1.1
           clear b2 ol hf))
      all_goals (
        have hg3 := HG3.out
        have hg3 : (w2.alloc (.cells (lnCells l).toArray 52)).grownBy w3 (Value.slice A k c).ownBlock := hg3
        have hal : Below w2.heap.size w2 (w2.alloc (.cells (lnCells l).toArray 52)) := (Below.refl _ _).alloc (Nat.le_refl _) _
        have ha2 : LanesApart w2 C (ls ++ [l]) := HA.out.snoc HB2.out (by omega) l HOL.out
        have ha3 : LanesApart w3 C (ls ++ [l]) := (ha2.below hal).kept hg3 (fun l' hl' g e1 => own_types2 ((ha2.below hal).1 l' hl') (own_below HO2.out hal) (by decide) e1)
        have hset := grown_setCell w3 C 0 (.slice (some ⟨g3, 0, none⟩) (k + 1) c3)
        have hm3 := own_grown' (own_below (own_below HM.out HB2.out) hal) hg3 (fun g e1 e2 => own_types2 (own_below (own_below HM.out HB2.out) hal) (own_below HO2.out hal) (by decide) e1 e2)
        have hsz3 : w2.heap.size + 1 ≤ w3.heap.size := by have := hg3.size; simpa using this
        have HR1 := mkHid (heap_setCell_same w3 C 0 _ _ (.slice (some ⟨g3, 0, none⟩) (k + 1) c3) HQ3.out)
        have HR2 := mkHid (own_grown' HO3.out hset (fun g e1 e2 => by injection e2 with e2; subst e2; exact own_ne_heap HO3.out HQ3.out (by decide) e1))
        have HR3 := mkHid (ha3.kept hset (fun l' hl' g e1 e2 => by injection e2 with e2; subst e2; exact own_ne_heap (ha3.1 l' hl') HQ3.out (by decide) e1))
        have HR4 := mkHid (own_grown' hm3 hset (fun g e1 e2 => by injection e2 with e2; subst e2; exact own_ne_heap hm3 HQ3.out (by decide) e1))
        have hB2 : Below (w.heap.size + 1) (w.alloc crowd0) w2 := HB.out.trans (HB2.out.mono (by omega))
        have hB3 := (hB2.alloc (by omega) (.cells (lnCells l).toArray 52)).grown hg3 (by simp; omega) (fun g e => by have := (HO2.out.lt g e).1; omega)
        have HR5 := mkHid (hB3.grown hset (by omega) (fun g e => by injection e with e; omega))
        have HR6 := mkHid (show ∀ l' ∈ ls ++ [l], Fresh l' from fun l' h => by
          rcases List.mem_append.1 h with h | h
          · exact HF.out l' h
          · rw [List.mem_singleton] at h; subst h; exact HFL.out)
        clear hg3 hal ha2 ha3 hset hm3 hB2 hB3 b2 q0 q1
        go_wp2_with fail
        go_roundw
        case rel =>
          refine ⟨k + 1, by omega, by go_num, some ⟨g3, 0, none⟩, c3, ls ++ [l], by simp [hls], ?_, ?_, HR3.out, HR6.out, HR4.out, HR5.out, by simp; omega⟩
          · have := HR1.out
            simpa using this
          · have := HR2.out
            rw [lflat_append]
            simpa [lflat] using this
        case measure => simp [intOf] <;> omega)
    · have hke : k = n := by omega
      subst hke
      have hr0 : wr.heap[w.heap.size]? = some crowd0 := by
        rw [HB.out.block w.heap.size (by omega)]; exact heap_alloc_new _ _
      obtain ⟨⟨r0, r1⟩, t0, t1⟩ := box2 hr0
      have HR0 := mkHid hr0
      clear hr0
      go_wp2_with fail
      have hset := grown_setCell' (grown_setCell wr w.heap.size 0 (.slice A k c)) 1 (.slice (some ⟨g1, 0, none⟩) zs.length c1)
      refine bodyPost_ret (v := .agg #[.slice A k c, .slice (some ⟨g1, 0, none⟩) zs.length c1]) (by simp [results, Try.results89, go_sem, r0, r1]) rfl ⟨A, c, ls, some ⟨g1, 0, none⟩, c1, by rw [hls], hls, HF.out, ⟨?_, ?_, ?_, ?_⟩, ?_⟩
      · rw [hls]
        exact own_base (own_grown' HO.out hset (fun g e1 e2 => by injection e2 with e2; subst e2; exact own_ne_heap HO.out HR0.out (by decide) e1)) (by omega)
      · have h := HA.out.kept hset (fun l' hl' g e1 e2 => by injection e2 with e2; subst e2; exact own_ne_heap (HA.out.1 l' hl') HR0.out (by decide) e1)
        exact ⟨fun l hl => own_base (h.1 l hl) (by omega), h.2⟩
      · exact own_grown' HM.out hset (fun g e1 e2 => by injection e2 with e2; subst e2; exact own_ne_heap HM.out HR0.out (by decide) e1)
      · intro l hl g e1 e2
        have h1 := (HA.out.1 l hl).lt g e1
        have h2 := HBL.out g e2
        omega
      · have h1 : Below w.heap.size w wr := ((Below.refl w.heap.size w).alloc (Nat.le_refl _) crowd0).trans (HB.out.mono (by omega))
        exact h1.grown hset h1.size (fun g e => by injection e with e; omega)
theorem specNewCrowd_any (n : Int) (A : Option Addr) (c : Nat) (zs : List Int) (w : World) (hz : zs.length ≤ 1048576) (hs : Sl w A (ints zs)) :
    Calls Try.prog 89 #[.int .i64 n, .slice A zs.length c] w (RetCrowd (crowdN n zs) (crowdZ n zs) w) := by
  cases h : crowdOk n zs with
  | false => exact specNewCrowd_no n A c zs w hz hs h
  | true =>
    have h' := Bool.and_eq_true_iff.1 h
    have hin := inB_t h'.1
    obtain ⟨m, rfl⟩ := Int.eq_ofNat_of_zero_le (show 0 ≤ n by omega)
    have := specNewCrowd_yes m A c zs w (by omega) h'.2 hs
    unfold crowdN crowdZ
    rw [h]
    exact this
theorem crowdN_le (n : Int) (zs : List Int) : crowdN n zs ≤ 8 := by
  unfold crowdN
  split
  · rename_i h
    have := inB_t (Bool.and_eq_true_iff.1 h).1
    omega
  · omega
theorem crowdZ_le (n : Int) (zs : List Int) : (crowdZ n zs).length ≤ 32 := by
  unfold crowdZ
  split
  · rename_i h
    have := inB_t (Bool.and_eq_true_iff.1 (Bool.and_eq_true_iff.1 h).2).1
    omega
  · simp
theorem fresh_same {xs ys : List Ln} (hl : xs.length = ys.length) (hx : ∀ l ∈ xs, Fresh l) (hy : ∀ l ∈ ys, Fresh l) : sameLns xs ys :=
  ⟨hl, fun k h h' => by
    obtain ⟨a1, a2, a3⟩ := hx _ (List.getElem_mem h)
    obtain ⟨b1, b2, b3⟩ := hy _ (List.getElem_mem h')
    exact ⟨a1.trans b1.symm, a2.trans b2.symm, a3.trans b3.symm⟩⟩
theorem fresh_four {xs : List Ln} (hx : ∀ l ∈ xs, Fresh l) : ∀ l ∈ xs, l.zs.length = 4 := fun l hl => by rw [(hx l hl).1]; rfl
end Go.Proofs.Ytjmiilneennjaaa

namespace Go.Proofs.Ytjmiilneennjaaa
open Go.RowKit
set_option maxHeartbeats 1000000
set_option maxRecDepth 100000
set_option linter.unusedVariables false

def ltOf (l : Ln) : Lt := ⟨l.ra, l.rc, l.zs, l.at_, none, 0, [], l.wt⟩
theorem lflat_tflat (ls : List Ln) : lflat ls = tflat (ls.map ltOf) := by
  induction ls with
  | nil => rfl
  | cons l ls ih => rw [List.map_cons, tflat_cons, ← ih]; rfl
theorem rowsL_of (ls : List Ln) (i : Nat) (hi : i < (rowsL (ls.map ltOf)).length) : (∃ k, ∃ hk : k < ls.length, i = 2 * k ∧ (rowsL (ls.map ltOf))[i] = irR (ltOf ls[k])) ∨ (rowsL (ls.map ltOf))[i] = ⟨none, 0, []⟩ := by
  have hi' := hi
  rw [rowsL_len, List.length_map] at hi'
  rcases Nat.mod_two_eq_zero_or_one i with h | h
  · left
    refine ⟨i / 2, by omega, by omega, ?_⟩
    have := rowsL_r (ls.map ltOf) (i / 2) (by rw [List.length_map]; omega)
    simp only [List.getElem_map] at this
    rw [← this]
    congr 1
    omega
  · right
    have := rowsL_t (ls.map ltOf) (i / 2) (by rw [List.length_map]; omega)
    simp only [List.getElem_map] at this
    rw [show (⟨none, 0, []⟩ : IR) = irT (ltOf (ls[i / 2]'(by omega))) from rfl, ← this]
    congr 1
    omega
theorem CrowdAt.cr {w : World} {base c d : Nat} {A B : Option Addr} {ls : List Ln} {zs : List Int} (h : CrowdAt w base A c ls B d zs) : CrAt w base A c (ls.map ltOf) ⟨B, d, zs⟩ := by
  obtain ⟨h1, h2, h3, h4⟩ := h
  refine ⟨by rw [List.length_map, ← lflat_tflat]; exact h1, ⟨fun r hr => ?_, fun i j hi hj hne g e1 e2 => ?_⟩⟩
  · rcases List.mem_cons.1 hr with rfl | hr
    · exact h3
    · obtain ⟨i, hi, rfl⟩ := List.mem_iff_getElem.1 hr
      rcases rowsL_of ls i hi with ⟨k, hk, _, e⟩ | e
      · rw [e]; exact h2.1 _ (List.getElem_mem hk)
      · rw [e]; exact World.ownsRow_nil _ _ _ _
  · cases i with
    | zero =>
      cases j with
      | zero => exact hne rfl
      | succ j =>
        rw [List.getElem_cons_zero] at e1
        rw [List.getElem_cons_succ] at e2
        rcases rowsL_of ls j (by simpa using hj) with ⟨k, hk, _, e⟩ | e
        · rw [e] at e2; exact h4 _ (List.getElem_mem hk) g e2 e1
        · rw [e] at e2; cases e2
    | succ i =>
      rw [List.getElem_cons_succ] at e1
      rcases rowsL_of ls i (by simpa using hi) with ⟨k, hk, ek, e⟩ | e
      · rw [e] at e1
        cases j with
        | zero => rw [List.getElem_cons_zero] at e2; exact h4 _ (List.getElem_mem hk) g e1 e2
        | succ j =>
          rw [List.getElem_cons_succ] at e2
          rcases rowsL_of ls j (by simpa using hj) with ⟨k', hk', ek', e'⟩ | e'
          · rw [e'] at e2; exact h2.2 k k' hk hk' (by omega) g e1 e2
          · rw [e'] at e2; cases e2
      · rw [e] at e1; cases e1
theorem fresh_sts {ls : List Ln} {n : Nat} (hl : ls.length = n) (h : ∀ l ∈ ls, Fresh l) : sts (ls.map ltOf) = List.replicate n newLS := by
  rw [List.eq_replicate_iff]
  refine ⟨by simp [hl], fun s hs => ?_⟩
  obtain ⟨t, ht, rfl⟩ := List.mem_map.1 hs
  obtain ⟨l, hl', rfl⟩ := List.mem_map.1 ht
  obtain ⟨e1, e2, e3⟩ := h l hl'
  show (⟨l.zs, l.at_, [], l.wt⟩ : LS) = newLS
  rw [e1, e2, e3]; rfl
/-- the crowd's box. -/
def CrBox (w : World) (C base : Nat) (A : Option Addr) (c : Nat) (ls : List Lt) (m : IR) : Prop :=
  w.heap[C]? = some (.cells #[.slice A ls.length c, .slice m.a m.zs.length m.c] 32 (0, 0)) ∧ CrAt w base A c ls m ∧ base ≤ w.heap.size
/-- what a call that steps a crowd hands back. -/
def CrPost (C base : Nat) (A : Option Addr) (c : Nat) (ls : List Lt) (m : IR) (ss' : List LS) (mem' : List Int) (w : World) (e : Ending) (w' : World) : Prop :=
  e = .returned (.tuple #[]) ∧ ∃ ls' : List Lt, ls'.length = ls.length ∧ mem'.length = m.zs.length ∧ sts ls' = ss' ∧ CrBox w' C base A c ls' ⟨m.a, m.c, mem'⟩ ∧ Frm base w w'
end Go.Proofs.Ytjmiilneennjaaa

namespace Go.Proofs.Ytjmiilneennjaaa
open Go.RowKit
set_option maxHeartbeats 2000000
set_option maxRecDepth 100000
set_option linter.unusedVariables false

theorem cr2 {w : World} {B : Nat} {c0 c1 : Value} {ty : TypeId} (h : w.heap[B]? = some (.cells #[c0, c1] ty (0, 0))) : w.cell? ⟨B, 0, none⟩ = some c0 ∧ w.cell? ⟨B, 1, none⟩ = some c1 :=
  ⟨cell_of_row _ _ _ _ _ _ h, cell_of_row _ _ _ _ _ _ h⟩
section
variable {w w' : World} {C base c : Nat} {A : Option Addr} {ls : List Lt} {m : IR}
theorem CrBox.drewN (h : CrBox w C base A c ls m) (n : Nat) : CrBox (w.drewN n) C base A c ls m := ⟨h.1, h.2.1.drewN n, h.2.2⟩
theorem CrBox.cells (h : CrBox w C base A c ls m) : w.cell? ⟨C, 0, none⟩ = some (.slice A ls.length c) ∧ w.cell? ⟨C, 1, none⟩ = some (.slice m.a m.zs.length m.c) := cr2 h.1
theorem CrBox.below (h : CrBox w C base A c ls m) (hb : Below w.heap.size w w') : CrBox w' C base A c ls m := ⟨(hb.block _ (Array.getElem?_eq_some_iff.1 h.1).1).trans h.1, h.2.1.below hb, Nat.le_trans h.2.2 hb.size⟩
theorem CrPost.same (h : CrBox w C base A c ls m) (hf : Frm base w w') (h' : CrBox w' C base A c ls m) : CrPost C base A c ls m (sts ls) m.zs w (.returned (.tuple #[])) w' :=
  ⟨rfl, ls, rfl, rfl, rfl, h', hf⟩
theorem CrPost.from_ {W : World} {ls' : List Lt} {m' : IR} {ss : List LS} {mem : List Int} {e : Ending} (hf : Frm base w W) (hl : ls'.length = ls.length) (hm : m'.zs.length = m.zs.length) (hma : m'.a = m.a) (hmc : m'.c = m.c) (h : CrPost C base A c ls' m' ss mem W e w') : CrPost C base A c ls m ss mem w e w' := by
  obtain ⟨h1, ls2, h2, h3, h4, h5, h6⟩ := h
  rw [hma, hmc] at h5
  exact ⟨h1, ls2, h2.trans hl, h3.trans hm, h4, h5, hf.trans h6⟩
end
theorem sts_set (ls : List Lt) (k : Nat) (l : Lt) : sts (ls.set k l) = (sts ls).set k l.st := by simp [sts]
theorem sts_at (ls : List Lt) {k : Nat} (h : k < ls.length) : laneAt (sts ls) k = ls[k].st := by
  rw [laneAt_at (by simpa using h)]; simp
theorem any_goes_at {n : Nat} {ls : List Lt} {k : Nat} (hk : k < ls.length) (h : goesB n ls[k].st = true) : passS n (sts ls) = sts ls := by
  unfold passS
  rw [if_pos]
  rw [List.any_eq_true]
  exact ⟨_, List.mem_map_of_mem (List.getElem_mem hk), h⟩
theorem none_goes {n : Nat} {ls ls' : List Lt} (hl : ls'.length = ls.length) (h : ∀ j (h : j < ls.length), goesB n ls[j].st = false) (hc : ∀ j (h1 : j < ls.length) (h2 : j < ls'.length), ls'[j].st = clearW ls[j].st) : sts ls' = passS n (sts ls) := by
  unfold passS
  rw [if_neg]
  · apply List.ext_getElem (by simp [hl])
    intro j h1 h2
    simp only [sts, List.getElem_map]
    exact hc j (by simpa using h2) (by simpa using h1)
  · rw [List.any_eq_true]
    rintro ⟨s, hs, hg⟩
    obtain ⟨l, hl', rfl⟩ := List.mem_map.1 hs
    obtain ⟨j, hj, rfl⟩ := List.mem_iff_getElem.1 hl'
    rw [h j hj] at hg
    cases hg
theorem pass_any (M lc O : Nat) (LA : Option Addr) (xs : List Cd) (P : Nat → Nat) (C base c : Nat) (A : Option Addr) (ls : List Lt) (m : IR) (w : World) (hl : 1 ≤ ls.length ∧ ls.length ≤ 8) (hM : MachAt w base M LA lc xs O P) (hB : CrBox w C base A c ls m) :
    Calls Try.prog 95 #[.pointer (some ⟨M, 0, none⟩), .pointer (some ⟨C, 0, none⟩)] w (CrPost C base A c ls m (passS xs.length (sts ls)) m.zs w) := by
  obtain ⟨G, rfl, hGb, hGl⟩ := hB.2.1.castA (k := 0) (by omega)
  have HB := mkHid hB
  have HM := mkHid hM
  obtain ⟨p0, p1⟩ := hB.cells
  clear hM hB
  obtain ⟨ll, hll⟩ : ∃ ll, ll = ls.length := ⟨_, rfl⟩
  have HLL := mkHid hll
  rw [← hll] at p0 hl
  clear hll
  go_enter Try.func95, Try.ntmps95
  go_wp2_with fail
  go_loopw [11] (fun iv wr => ∃ k : Nat, k ≤ ll ∧ iv = .int .i64 k ∧ Hid (∀ j (h : j < ls.length), j < k → goesB xs.length ls[j].st = false) ∧ ∃ q, wr = w.drewN q) (fun iv _ => ll - (intOf iv).toNat)
  case atStart => exact ⟨0, by omega, rfl, mkHid (fun j h h' => absurd h' (by omega)), 0, rfl⟩
  case round =>
    obtain ⟨k, hk, rfl, HNG, q, rfl⟩ := hrel
    by_cases hlt : k < ll
    · have hks : k < ls.length := by rw [← HLL.out]; exact hlt
      obtain ⟨⟨_, g1, _, g3⟩, _⟩ := HB.out.2.1.cells hks
      have HG := mkHid (goes_any M base lc O LA xs P G (k * 4) ls[k].st (w.drewN q) (HM.out.frm ((Frm.refl base w).drewN q)) g1 g3)
      obtain ⟨v, hv⟩ : ∃ v, v = goesB xs.length ls[k].st := ⟨_, rfl⟩
      have HV := mkHid hv
      rw [← hv] at HG
      clear g1 g3 hv
      cases v with
      | true =>
        go_wp2_with fail
        refine HG.out.mono ?_
        rintro e w2 ⟨rfl, n, rfl⟩
        go_wp2_with fail
        refine bodyPost_ret (results_none rfl _ _ _) rfl ?_
        rw [any_goes_at (by rw [← HLL.out]; exact hlt) HV.out.symm]
        exact CrPost.same HB.out ((Frm.refl base w).drewN (q + n)) (HB.out.drewN (q + n))
      | false =>
        go_wp2_with fail
        refine HG.out.mono ?_
        rintro e w2 ⟨rfl, n, rfl⟩
        go_wp2_with fail
        go_roundw
        case rel =>
          refine ⟨k + 1, by omega, by go_num, mkHid (fun j h h' => ?_), q + n, by first | rfl | exact World.drewN_drewN ..⟩
          by_cases e : j = k
          · subst e; exact HV.out.symm
          · exact HNG.out j h (by omega)
        case measure => simp [intOf] <;> omega
    · have hke : k = ll := by omega
      subst hke
      have HW := mkHid (HB.out.drewN q)
      have HF := mkHid ((Frm.refl base w).drewN q)
      obtain ⟨p0, p1⟩ := HW.out.cells
      rw [← HLL.out] at p0
      generalize w.drewN q = W at *
      go_wp2_with fail
      go_loopw [28] (fun iv wr => ∃ k' : Nat, k' ≤ k ∧ iv = .int .i64 k' ∧ ∃ ls' : List Lt, ls'.length = ls.length ∧ Hid (∀ j (h1 : j < ls.length) (h2 : j < ls'.length), (j < k' → ls'[j].st = clearW ls[j].st) ∧ (k' ≤ j → ls'[j] = ls[j])) ∧ CrBox wr C base (some ⟨G, 0, none⟩) c ls' m ∧ Frm base w wr) (fun iv _ => k - (intOf iv).toNat)
      case atStart => exact ⟨0, by omega, rfl, ls, rfl, mkHid (fun j h1 h2 => ⟨fun h => absurd h (by omega), fun _ => rfl⟩), HW.out, HF.out⟩
      case round =>
        clear p0 p1 HW HF
        obtain ⟨k', hk', rfl, ls', hll', HC, hbx, hf⟩ := hrel
        obtain ⟨p0, p1⟩ := hbx.cells
        have HBX := mkHid hbx
        have HF := mkHid hf
        rw [hll', ← HLL.out] at p0
        clear hbx hf
        by_cases hlt' : k' < k
        · have hks : k' < ls'.length := by rw [hll', ← HLL.out]; exact hlt'
          obtain ⟨⟨_, _, _, g3⟩, _, _, _, f3⟩ := HBX.out.2.1.cells hks
          have HKS := mkHid hks
          have HLN := mkHid hll'
          clear hll'
          go_wp2_with fail
          go_roundw
          case rel =>
            refine ⟨k' + 1, by omega, by go_num, ls'.set k' ⟨ls'[k'].ra, ls'[k'].rc, ls'[k'].zs, ls'[k'].at_, ls'[k'].ta, ls'[k'].tc, ls'[k'].ts, false⟩, by rw [set_len]; exact HLN.out, mkHid (fun j h1 h2 => ?_), ⟨?_, HBX.out.2.1.wt HKS.out false, ?_⟩, HF.out.trans (HBX.out.2.1.frmG HBX.out.2.2 _ _)⟩
            · rw [set_len] at h2
              have hc := HC.out j h1 h2
              rw [List.getElem_set]
              refine ⟨fun h => ?_, fun h => ?_⟩
              · split
                · rename_i e
                  subst e
                  rw [← hc.2 (Nat.le_refl _)]
                  rfl
                · exact hc.1 (by omega)
              · rw [if_neg (by omega)]
                exact hc.2 (by omega)
            · have hfr := (HBX.out.2.1.frmG HBX.out.2.2 (k' * 4 + 3) (.bool false)).2 C _ _ _ HBX.out.1 (by decide) (by decide)
              rw [set_len]
              exact hfr
            · rw [setCell_size]; exact HBX.out.2.2
          case measure => simp [intOf] <;> omega
        · have hke : k' = k := by omega
          subst hke
          go_wp2_with fail
          refine bodyPost_ret (results_none rfl _ _ _) rfl ?_
          refine ⟨rfl, ls', hll', rfl, ?_, HBX.out, HF.out⟩
          exact none_goes hll' (fun j h => HNG.out j h (by rw [HLL.out]; exact h)) (fun j h1 h2 => (HC.out j h1 h2).1 (by rw [HLL.out]; exact h1))
theorem stepOf_any (M lc O : Nat) (LA : Option Addr) (xs : List Cd) (P : Nat → Nat) (C base c k : Nat) (A : Option Addr) (ls : List Lt) (m : IR) (w : World) (hk : k < ls.length) (hok : CrowdOk xs (sts ls) m.zs) (hM : MachAt w base M LA lc xs O P) (hB : CrBox w C base A c ls m) :
    Calls Try.prog 63 #[.pointer (some ⟨M, 0, none⟩), .pointer (some ⟨C, 0, none⟩), .int .i64 k] w (CrPost C base A c ls m (stepC xs k (sts ls) m.zs).1 (stepC xs k (sts ls) m.zs).2 w) := by
  have hl8 := hok.len
  rw [show (sts ls).length = ls.length from by simp] at hl8
  obtain ⟨G, rfl, hGb, hGl⟩ := hB.2.1.castA (k := 0) (by omega)
  have hlane := hok.at_ (k := k) (by simpa using hk)
  rw [sts_at ls hk] at hlane
  have hst := stepS_ok hok.prog (id := (k : Int)) (by omega) hlane hok.mem
  have HS := mkHid (step_any M lc O LA xs P base G c k ls m w.drew hk k ls[k] rfl hok.prog hB.2.2 (by omega) hok.mem (hM.frm (Frm.refl base w).drew) hB.2.1.drew hlane)
  have HSC : Hid (stepC xs k (sts ls) m.zs = (passS xs.length ((sts ls).set k (stepS xs (k : Int) ls[k].st m.zs).1), (stepS xs (k : Int) ls[k].st m.zs).2)) := mkHid (by unfold stepC; rw [sts_at ls hk])
  have HML := mkHid hst.2.2
  generalize stepS xs (k : Int) ls[k].st m.zs = sm at *
  have HB := mkHid hB
  have HM := mkHid hM
  obtain ⟨p0, p1⟩ := hB.cells
  have hkl : (k : Int) < (ls.length : Int) := by omega
  have hk0 : (0 : Int) ≤ (k : Int) := by omega
  have HKL := mkHid hk
  obtain ⟨ll, hll⟩ : ∃ ll, ll = ls.length := ⟨_, rfl⟩
  have HLL := mkHid hll
  rw [← hll] at p0 hl8 hkl hk
  clear hM hB hok hlane hst hll
  go_enter Try.func63, Try.ntmps63
  go_wp2_with fail
  refine wp_region_still_tail 12 (by kernel_rfl) (by kernel_rfl) ?_
  simp only [List.take_succ_cons, List.take_zero, List.drop_succ_cons, List.drop_zero]
  change wpStill _ _ (World.drew _) _ _ _
  repeat still_step
  refine wpStill_nil ?_
  change wpList _ _ _ _ _ (World.drew _)
  go_wp2_with fail
  refine HS.out.mono ?_
  rintro e w2 ⟨rfl, l', hs', hc', hf'⟩
  have hf0 : Frm base w w2 := hf'.undrew
  have HBX : Hid (CrBox w2 C base (some ⟨G, 0, none⟩) c (ls.set k l') ⟨m.a, m.c, sm.2⟩) := mkHid ⟨by
    rw [set_len, show (⟨m.a, m.c, sm.2⟩ : IR).zs.length = m.zs.length from HML.out]
    exact hf0.2 _ _ _ _ HB.out.1 (by decide) (by decide), hc', Nat.le_trans HB.out.2.2 hf0.1.size⟩
  have HF := mkHid hf0
  have HP := mkHid (pass_any M lc O LA xs P C base c (some ⟨G, 0, none⟩) (ls.set k l') ⟨m.a, m.c, sm.2⟩ w2 (by rw [set_len, ← HLL.out]; exact hl8) (HM.out.frm hf0) HBX.out)
  rw [sts_set, hs'] at HP
  clear p0 p1 hs' hc' hf' hf0
  go_wp2_with fail
  refine HP.out.mono ?_
  rintro e w3 hcp
  have HCP := mkHid hcp
  obtain rfl := hcp.1
  clear hcp
  go_wp2_with fail
  refine bodyPost_ret (results_none rfl _ _ _) rfl ?_
  rw [HSC.out]
  exact CrPost.from_ (m' := ⟨m.a, m.c, sm.2⟩) HF.out (set_len ls k l') HML.out rfl rfl HCP.out
end Go.Proofs.Ytjmiilneennjaaa

namespace Go.Proofs.Ytjmiilneennjaaa
open Go.RowKit
set_option maxHeartbeats 1000000
set_option maxRecDepth 100000
set_option linter.unusedVariables false

/-- two rows are replaced by new ones. -/
theorem Apt.set2 {w : World} {base n : Nat} {rs : List IR} {r t : IR} (h : Apt w base rs) (hlt : ∀ r ∈ rs, ∀ g, (irV r).ownBlock = some g → g < n) (hb : base ≤ n) (k : Apt w n [r, t]) {i j : Nat} (hij : i ≠ j) : Apt w base ((rs.set i r).set j t) := by
  have kr := k.1 r (by simp)
  have kt := k.1 t (by simp)
  have key : ∀ a (ha : a < ((rs.set i r).set j t).length), (a = j ∧ ((rs.set i r).set j t)[a] = t) ∨ (a = i ∧ ((rs.set i r).set j t)[a] = r) ∨ (a ≠ i ∧ a ≠ j ∧ ∃ h : a < rs.length, ((rs.set i r).set j t)[a] = rs[a]) := fun a ha => by
    have hl : a < rs.length := by simpa using ha
    rw [List.getElem_set]
    split
    · rename_i e; exact .inl ⟨e.symm, rfl⟩
    · rename_i e
      rw [List.getElem_set]
      split
      · rename_i e'; exact .inr (.inl ⟨e'.symm, rfl⟩)
      · rename_i e'; exact .inr (.inr ⟨fun x => e' x.symm, fun x => e x.symm, hl, rfl⟩)
  refine ⟨fun s hs => ?_, fun a b ha hb' hne g h1 h2 => ?_⟩
  · obtain ⟨a, ha, rfl⟩ := List.mem_iff_getElem.1 hs
    rcases key a ha with ⟨_, e⟩ | ⟨_, e⟩ | ⟨_, _, hl, e⟩
    · rw [e]; exact own_base kt hb
    · rw [e]; exact own_base kr hb
    · rw [e]; exact h.1 _ (List.getElem_mem hl)
  · rcases key a ha with ⟨ea, e⟩ | ⟨ea, e⟩ | ⟨ea1, ea2, hla, e⟩
    · rw [e] at h1
      rcases key b hb' with ⟨eb, e'⟩ | ⟨eb, e'⟩ | ⟨_, _, hlb, e'⟩
      · omega
      · rw [e'] at h2
        exact k.2 1 0 (by simp) (by simp) (by omega) g h1 h2
      · rw [e'] at h2
        have a1 := (kt.lt g h1).1
        have a2 := hlt _ (List.getElem_mem hlb) g h2
        omega
    · rw [e] at h1
      rcases key b hb' with ⟨eb, e'⟩ | ⟨eb, e'⟩ | ⟨_, _, hlb, e'⟩
      · rw [e'] at h2
        exact k.2 0 1 (by simp) (by simp) (by omega) g h1 h2
      · omega
      · rw [e'] at h2
        have a1 := (kr.lt g h1).1
        have a2 := hlt _ (List.getElem_mem hlb) g h2
        omega
    · rw [e] at h1
      rcases key b hb' with ⟨eb, e'⟩ | ⟨eb, e'⟩ | ⟨_, _, hlb, e'⟩
      · rw [e'] at h2
        have a1 := (kt.lt g h2).1
        have a2 := hlt _ (List.getElem_mem hla) g h1
        omega
      · rw [e'] at h2
        have a1 := (kr.lt g h2).1
        have a2 := hlt _ (List.getElem_mem hla) g h1
        omega
      · rw [e'] at h2
        exact h.2 a b hla hlb hne g h1 h2
theorem own_set4 {w : World} {base c G k : Nat} {ls : List Lt} (h : w.ownsRow base 52 4 (.slice (some ⟨G, 0, none⟩) ls.length c) ls.length (tflat ls)) (hk : k < ls.length) (l : Lt) :
    ((((w.setCell ⟨G, k * 4, none⟩ (ltR l)).setCell ⟨G, k * 4 + 1, none⟩ (.int .i64 l.at_)).setCell ⟨G, k * 4 + 2, none⟩ (ltT l)).setCell ⟨G, k * 4 + 3, none⟩ (.bool l.wt)).ownsRow base 52 4 (.slice (some ⟨G, 0, none⟩) (ls.set k l).length c) (ls.set k l).length (tflat (ls.set k l)) := by
  have := ((((h.stored (k * 4) (ltR l)).1.stored (k * 4 + 1) (.int .i64 l.at_)).1.stored (k * 4 + 2) (ltT l)).1.stored (k * 4 + 3) (.bool l.wt)).1
  rw [tflat_set ls k l hk] at this
  rw [set_len]
  exact this
/-- lane k is replaced by a lane that a call has handed back; the call has turned the memory's row. -/
theorem CrAt.swap {w w5 : World} {base c G k : Nat} {ls : List Lt} {m : IR} {mem' : List Int} {l : Lt} (h : CrAt w base (some ⟨G, 0, none⟩) c ls m) (hk : k < ls.length) (hb : base ≤ w.heap.size) (hl : Apt w5 w.heap.size [irR l, irT l])
    (hm : w5.ownsRow base 3 1 (irV ⟨m.a, m.c, mem'⟩) mem'.length (ints mem')) (hml : mem'.length = m.zs.length) (hg : w.grownBy w5 (irV m).ownBlock) :
    CrAt w5 base (some ⟨G, 0, none⟩) c ls ⟨m.a, m.c, mem'⟩ ∧
    CrAt ((((w5.setCell ⟨G, k * 4, none⟩ (ltR l)).setCell ⟨G, k * 4 + 1, none⟩ (.int .i64 l.at_)).setCell ⟨G, k * 4 + 2, none⟩ (ltT l)).setCell ⟨G, k * 4 + 3, none⟩ (.bool l.wt)) base (some ⟨G, 0, none⟩) c (ls.set k l) ⟨m.a, m.c, mem'⟩ ∧
    Frm base w ((((w5.setCell ⟨G, k * 4, none⟩ (ltR l)).setCell ⟨G, k * 4 + 1, none⟩ (.int .i64 l.at_)).setCell ⟨G, k * 4 + 2, none⟩ (ltT l)).setCell ⟨G, k * 4 + 3, none⟩ (.bool l.wt)) := by
  have h5 : CrAt w5 base (some ⟨G, 0, none⟩) c ls ⟨m.a, m.c, mem'⟩ := h.setMem ⟨m.a, m.c, mem'⟩ hg hm (by simp only [irV, hml])
  have hblk : (irV ⟨m.a, m.c, mem'⟩).ownBlock = (irV m).ownBlock := by simp only [irV, hml]
  have hgs : w5.grownBy ((((w5.setCell ⟨G, k * 4, none⟩ (ltR l)).setCell ⟨G, k * 4 + 1, none⟩ (.int .i64 l.at_)).setCell ⟨G, k * 4 + 2, none⟩ (ltT l)).setCell ⟨G, k * 4 + 3, none⟩ (.bool l.wt)) (some G) := grown_setCell' (grown_setCell' (grown_setCell' (grown_setCell w5 G (k * 4) _) (k * 4 + 1) _) (k * 4 + 2) _) (k * 4 + 3) _
  obtain ⟨cs, hq⟩ := h5.heapG
  refine ⟨h5, ⟨own_set4 h5.1 hk l, ?_⟩, ?_⟩
  · have h2 := Apt.set2 (n := w.heap.size) (i := 2 * k + 1) (j := 2 * k + 2) h5.2 (fun r hr g e => by
      rcases List.mem_cons.1 hr with rfl | hr
      · rw [hblk] at e; exact (h.mem.lt g e).2
      · exact ((h.2.1 r (List.mem_cons_of_mem _ hr)).lt g e).2) hb hl (by omega)
    rw [show 2 * k + 2 = (2 * k + 1) + 1 from rfl, cons_set, cons_set, ← rowsL_set ls k l hk] at h2
    exact h2.other hgs hq (by decide)
  · have f1 : Frm base w w5 := Frm.rowOf hg hb h.mem (Nat.le_refl _) (.inl rfl)
    exact f1.trans (Frm.own hgs (Nat.le_trans hb hg.size) h5.1 rfl (Nat.le_refl _) (.inr rfl))
end Go.Proofs.Ytjmiilneennjaaa
