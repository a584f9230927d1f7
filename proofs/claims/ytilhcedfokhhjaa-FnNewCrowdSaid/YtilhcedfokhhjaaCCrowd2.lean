/-
  Contracts of NewCrowd of the program and of the reference.
-/
import Derived.Test.YtilhcedfokhhjaaCCrowd
import Derived.Test.YtilhcedfokhhjaaCOrder
namespace Go.Proofs.Ytilhcedfokhhjaa
open Go.RowKit
set_option maxHeartbeats 2000000
set_option linter.unusedVariables false

theorem own_emptyAt (w : World) (e : TypeId) (size : Nat) {base B : Nat} (hb : base ≤ w.heap.size) (hB : B = w.heap.size) : (w.alloc (.cells #[] e)).ownsRow base e size (.slice (some ⟨B, 0, none⟩) 0 0) 0 [] := by
  subst hB
  exact World.ownsRow_made w #[] 0 hb (by simp [maxLen]) (by simp)
def crowdOk (n : Int) (zs : List Int) : Bool := inB n 1 8 && memValid zs
def crowdN (n : Int) (zs : List Int) : Nat := if crowdOk n zs then n.toNat else 0
def crowdZ (n : Int) (zs : List Int) : List Int := if crowdOk n zs then zs else []
theorem crowd_no {n : Int} {zs : List Int} (h : crowdOk n zs = false) (w : World) (w' : World) (hb : Below w.heap.size w w') : RetCrowd (crowdN n zs) (crowdZ n zs) w (.returned (.agg #[.slice none 0 0, .slice none 0 0])) w' := by
  unfold crowdN crowdZ
  rw [h]
  exact ⟨none, 0, [], none, 0, rfl, rfl, (fun l hl => absurd hl (by simp)), ⟨World.ownsRow_nil _ _ _ _, LanesApart.nil _ _, World.ownsRow_nil _ _ _ _, fun l hl => absurd hl (by simp)⟩, hb⟩
theorem implNewCrowd_any (n : Int) (A : Option Addr) (c : Nat) (zs : List Int) (w : World) (hz : zs.length ≤ 1048576) (hs : Sl w A (ints zs)) :
    Calls Try.prog 21 #[.int .i64 n, .slice A zs.length c] w (RetCrowd (crowdN n zs) (crowdZ n zs) w) := by
  have hb0 := (Below.refl w.heap.size w).alloc (Nat.le_refl _) crowd0
  have hs0 := hs.below hb0
  have hL := isLanes_any n (w.alloc crowd0)
  have hM := implMemoryValid_any A c zs (w.alloc crowd0) (by omega) hs0
  have hok : crowdOk n zs = (inB n 1 8 && memValid zs) := rfl
  obtain ⟨v1, h1⟩ : ∃ v, v = inB n 1 8 := ⟨_, rfl⟩
  obtain ⟨v2, h2⟩ : ∃ v, v = memValid zs := ⟨_, rfl⟩
  rw [← h1] at hL hok
  rw [← h2] at hM hok
  have HB0 := mkHid hb0
  have HL := mkHid hL
  have HM := mkHid hM
  have HOK := mkHid hok
  have HS0 := mkHid hs0
  have H1 := mkHid h1
  clear hb0 hs0 hL hM hok hs h2 h1
  cases v1
  case false =>
    go_enter Try.func21, Try.ntmps21
    go_wp2_with fail
    refine HL.out.mono ?_
    rintro e w2 ⟨rfl, rfl⟩
    go_wp2_with fail
    refine bodyPost_ret (v := .agg #[.slice none 0 0, .slice none 0 0]) (by simp [results, Try.results21, go_sem]) rfl ?_
    exact crowd_no (by rw [HOK.out]; rfl) _ _ ((Below.refl w.heap.size w).alloc (Nat.le_refl _) _)
  case true =>
    have hin := inB_t H1.out.symm
    cases v2
    case false =>
      go_enter Try.func21, Try.ntmps21
      go_wp2_with fail
      refine HL.out.mono ?_
      rintro e w2 ⟨rfl, rfl⟩
      go_wp2_with fail
      refine HM.out.mono ?_
      rintro e w2 ⟨rfl, b2⟩
      obtain ⟨⟨r0, r1⟩, t0, t1⟩ := box2 (below_new _ b2)
      have B2 := mkHid (HB0.out.trans (b2.mono (by simp)))
      clear b2
      go_wp2_with fail
      refine bodyPost_ret (v := .agg #[.slice none 0 0, .slice none 0 0]) (by simp [results, Try.results21, go_sem, r0, r1]) rfl ?_
      have hset := grown_setCell' (grown_setCell w2 w.heap.size 0 (.slice none 0 0)) 1 (.slice none 0 0)
      exact crowd_no (by rw [HOK.out]; rfl) _ _ (B2.out.grown hset B2.out.size (fun g e => by injection e with e; omega))
    case true =>
      obtain ⟨m, rfl⟩ := Int.eq_ofNat_of_zero_le (show 0 ≤ n by omega)
      have HN : Hid (crowdN m zs = m ∧ crowdZ m zs = zs) := mkHid (by unfold crowdN crowdZ; rw [HOK.out]; exact ⟨rfl, rfl⟩)
      go_enter Try.func21, Try.ntmps21
      go_wp2_with fail
      refine HL.out.mono ?_
      rintro e w2 ⟨rfl, rfl⟩
      go_wp2_with fail
      refine HM.out.mono ?_
      rintro e w2 ⟨rfl, b2⟩
      have HNC := mkHid (newCrowd_any m A c zs w2 (by omega) hz (HS0.out.below b2))
      have B2 := mkHid b2
      clear b2
      go_wp2_with fail
      refine HNC.out.mono ?_
      rintro e w3 ⟨A3, c3, ls, B3, d3, rfl, hl3, hf3, hc3, hb3⟩
      have HR0 := mkHid (below_new _ (below_then B2.out hb3))
      obtain ⟨⟨r0, r1⟩, t0, t1⟩ := box2 HR0.out
      have BB3 := mkHid (HB0.out.trans ((below_then B2.out hb3).mono (by simp)))
      have HC3 := mkHid hc3
      have HF3 := mkHid hf3
      have HL3 := mkHid hl3
      have hw2 : w.heap.size + 1 ≤ w2.heap.size := by have := B2.out.size; simpa using this
      clear hb3 hc3 hf3 hl3
      go_wp2_with fail
      have hset := grown_setCell' (grown_setCell w3 w.heap.size 0 (.slice A3 ls.length c3)) 1 (.slice B3 zs.length d3)
      refine bodyPost_ret (v := .agg #[.slice A3 ls.length c3, .slice B3 zs.length d3]) (by simp [results, Try.results21, go_sem, r0, r1]) rfl ?_
      have h := HC3.out.old hset (fun g e => by injection e with e; omega)
      refine ⟨A3, c3, ls, B3, d3, by rw [HN.out.2], by rw [HN.out.1, HL3.out], HF3.out, ?_, BB3.out.grown hset BB3.out.size (fun g e => by injection e with e; omega)⟩
      rw [HN.out.2]
      exact ⟨own_base h.1 (by omega), ⟨fun l hl => own_base (h.2.1.1 l hl) (by omega), h.2.1.2⟩, own_base h.2.2.1 (by omega), h.2.2.2⟩
theorem specNewCrowd_no (n : Int) (A : Option Addr) (c : Nat) (zs : List Int) (w : World) (hz : zs.length ≤ 1048576) (hs : Sl w A (ints zs)) (hno : crowdOk n zs = false) :
    Calls Try.prog 23 #[.int .i64 n, .slice A zs.length c] w (RetCrowd (crowdN n zs) (crowdZ n zs) w) := by
  have hb0 := (Below.refl w.heap.size w).alloc (Nat.le_refl _) crowd0
  have hs0 := hs.below hb0
  have hL := l1In_any n 1 8 (w.alloc crowd0)
  have hM := specMemoryValid_any A c zs (w.alloc crowd0) (by omega) hs0
  have hok : crowdOk n zs = (inB n 1 8 && memValid zs) := rfl
  rw [hno] at hok
  obtain ⟨v1, h1⟩ : ∃ v, v = inB n 1 8 := ⟨_, rfl⟩
  obtain ⟨v2, h2⟩ : ∃ v, v = memValid zs := ⟨_, rfl⟩
  rw [← h1] at hL hok
  rw [← h2] at hM hok
  have HB0 := mkHid hb0
  have HL := mkHid hL
  have HM := mkHid hM
  have HOK := mkHid hok
  have HNO := mkHid hno
  clear hb0 hs0 hL hM hok hs h2 h1 hno
  cases v1
  case false =>
    go_enter Try.func23, Try.ntmps23
    go_wp2_with fail
    refine HL.out.mono ?_
    rintro e w2 ⟨rfl, rfl⟩
    go_wp2_with fail
    refine bodyPost_ret (v := .agg #[.slice none 0 0, .slice none 0 0]) (by simp [results, Try.results23, go_sem]) rfl ?_
    exact crowd_no HNO.out _ _ ((Below.refl w.heap.size w).alloc (Nat.le_refl _) _)
  case true =>
    cases v2
    case true => have := HOK.out; cases this
    case false =>
      go_enter Try.func23, Try.ntmps23
      go_wp2_with fail
      refine HL.out.mono ?_
      rintro e w2 ⟨rfl, rfl⟩
      go_wp2_with fail
      refine HM.out.mono ?_
      rintro e w2 ⟨rfl, rfl⟩
      go_wp2_with fail
      refine bodyPost_ret (v := .agg #[.slice none 0 0, .slice none 0 0]) (by simp [results, Try.results23, go_sem]) rfl ?_
      exact crowd_no HNO.out _ _ ((Below.refl w.heap.size w).alloc (Nat.le_refl _) _)
theorem specNewCrowd_yes (n : Nat) (A : Option Addr) (c : Nat) (zs : List Int) (w : World) (hn : 1 ≤ n ∧ n ≤ 8) (hm : memValid zs = true) (hs : Sl w A (ints zs)) :
    Calls Try.prog 23 #[.int .i64 n, .slice A zs.length c] w (RetCrowd n zs w) := by
  have hz := inB_t (Bool.and_eq_true_iff.1 hm).1
  have LQ0 : 0 < zs.length := by omega
  have LQ1 : zs.length ≤ 32 := by omega
  obtain ⟨i0, hi0, hz0, hz1, hz2⟩ := info_parts El.hi
  have hb0 := (Below.refl w.heap.size w).alloc (Nat.le_refl _) crowd0
  have hs0 := hs.below hb0
  have hL := l1In_any n 1 8 (w.alloc crowd0)
  have hM := specMemoryValid_any A c zs (w.alloc crowd0) (by omega) hs0
  rw [inB_of (show (1 : Int) ≤ n by omega) (show (n : Int) ≤ 8 by omega)] at hL
  rw [hm] at hM
  obtain ⟨mb, mo, rfl, hcells⟩ := hs0.at_ (k := 0) (by simpa using LQ0)
  have HL := mkHid hL
  have HM := mkHid hM
  have hca : ∀ j u, (ints zs)[j]? = some u → ((w.alloc crowd0).alloc (.cells #[] 3)).cell? ((⟨mb, mo, none⟩ : Addr).add j) = some u := fun j u hu => by
    rw [add_flat]
    have h1 := hcells j u hu
    exact (((Below.refl _ _).alloc (Nat.le_refl _) _).cell (World.block_lt_of_cell? _ _ h1)).trans h1
  have HCA := mkHid hca
  clear hb0 hs0 hL hM hs hcells hca hm hz
  go_enter Try.func23, Try.ntmps23
  go_wp2_with fail
  refine HL.out.mono ?_
  rintro e w2 ⟨rfl, rfl⟩
  go_wp2_with fail
  refine HM.out.mono ?_
  rintro e w2 ⟨rfl, rfl⟩
  go_wp2_with
    (at_builtin
     refine wpList_appS Ei (own_emptyAt (w.alloc crowd0) _ _ (base := w.heap.size + 1) (by simp) (by simp)) HCA.out (by simp) (ints_one zs) (by omega) (by omega) (by simp) rfl rfl rfl rfl ?_
     intro g1 c1 w1 hown1 hg1
     have HO1 := mkHid hown1
     have HG1 := mkHid hg1
     clear hown1 hg1)
  have hgr1 := HG1.out
  have hsz1 : w.heap.size + 1 ≤ w1.heap.size := by have := hgr1.size; simp at this; omega
  have o1 : w1.ownsRow w.heap.size 3 1 (.slice (some ⟨g1, 0, none⟩) zs.length c1) zs.length (ints zs) := by have := own_base HO1.out (show w.heap.size ≤ w.heap.size + 1 by omega); simpa using this
  have b1 : Below (w.heap.size + 1) (w.alloc crowd0) w1 := ((Below.refl _ _).alloc (by simp) (.cells #[] 3)).grown hgr1 (by simp) (fun g e => by injection e with e; omega)
  have HBL := mkHid (fun g hg => (o1.lt g hg).2)
  have HO1 := mkHid (o1.alloc (.cells #[.slice none 0 0, .slice (some ⟨g1, 0, none⟩) zs.length c1] 43))
  have HB1 := mkHid (b1.alloc hsz1 (.cells #[.slice none 0 0, .slice (some ⟨g1, 0, none⟩) zs.length c1] 43))
  have HQ := mkHid (heap_alloc_new w1 (.cells #[.slice none 0 0, .slice (some ⟨g1, 0, none⟩) zs.length c1] 43))
  have hsz2 : (w1.alloc (.cells #[.slice none 0 0, .slice (some ⟨g1, 0, none⟩) zs.length c1] 43)).heap.size = w1.heap.size + 1 := by simp
  generalize w1.alloc (.cells #[.slice none 0 0, .slice (some ⟨g1, 0, none⟩) zs.length c1] 43) = w2 at *
  clear o1 b1 hgr1 HG1
  generalize w1.heap.size = C at *
  go_loopw [6] (fun i wr => ∃ k : Nat, k ≤ n ∧ i = .int .i64 k ∧ ∃ A c, ∃ ls : List Ln, ls.length = k ∧ wr.heap[C]? = some (.cells #[.slice A k c, .slice (some ⟨g1, 0, none⟩) zs.length c1] 43 (0, 0)) ∧ wr.ownsRow C 48 4 (.slice A k c) k (lflat ls) ∧ LanesApart wr C ls ∧ (∀ l ∈ ls, Fresh l) ∧ wr.ownsRow w.heap.size 3 1 (.slice (some ⟨g1, 0, none⟩) zs.length c1) zs.length (ints zs) ∧ Below (w.heap.size + 1) (w.alloc crowd0) wr ∧ C < wr.heap.size) (fun i _ => n - (intOf i).toNat)
  case atStart => exact ⟨0, by omega, rfl, none, 0, [], rfl, HQ.out, World.ownsRow_nil _ _ _ _, LanesApart.nil _ _, (fun l hl => absurd hl (by simp)), HO1.out, HB1.out, by omega⟩
  case round =>
    clear HQ HO1 HB1 hsz2 w2
    obtain ⟨k, hk, rfl, A, c, ls, hls, hq, hown, hap, hfr, hmem, hb, hCl⟩ := hrel
    have HQ := mkHid hq
    have HO := mkHid hown
    have HA := mkHid hap
    have HF := mkHid hfr
    have HM := mkHid hmem
    have HB := mkHid hb
    obtain ⟨⟨p0, p1⟩, f0, f1⟩ := box2 hq
    clear hq hown hap hfr hmem hb
    by_cases hlt : k < n
    · go_wp2_with fail
      go_region_law (first
        | (refine step_append_lies _ rfl _ _ _ rfl C _ i0 _ 4 64 El.ht hi0 hz0 hz1 hz2 rfl (by omega) _ _ _ rfl (HO2.out.alloc _) _ 1 1 (lnCells l) rfl (by simp) (newCellsAt _ _ _ (by simp)) (by simp [Value.oneCell']) (by omega) (by simp only [maxLen]; omega) (by omega) (by simp; omega) _ rfl ?_
           intro g3 c3 w3 hown3 hg3 hat3 hlt3
           have HO3 := mkHid hown3
           have HG3 := mkHid hg3
           have HQ3 := mkHid ((hg3.block C (by simp; omega) (fun e => own_ne_heap HO2.out HQ2.out (by decide) e.symm)).trans ((heap_alloc_old _ _ hl2).trans HQ2.out))
           obtain ⟨⟨p0, p1⟩, f0, f1⟩ := box2 HQ3.out
           clear hown3 hg3 hat3)
        | (go_simp
           go_at_call 52
           refine (specNewLane_any _).mono ?_
           rintro e w2 ⟨l, rfl, hf, ol, b2⟩
           have b2 := below_undrew b2
           have HB2 := mkHid b2
           have HOL := mkHid ol
           have HFL := mkHid hf
           have HO2 := mkHid (own_below HO.out b2)
           have hl2 : C < w2.heap.size := Nat.lt_of_lt_of_le hCl b2.size
           have HQ2 := mkHid ((b2.block C hCl).trans HQ.out)
           have q0 := (box2 HQ2.out).1.1
           have q1 : ∀ o, (w2.alloc o).cell? ⟨C, 0, none⟩ = some (.slice A k c) := fun o => (box2 ((heap_alloc_old w2 o hl2).trans HQ2.out)).1.1
           clear b2 ol hf))
      all_goals (
        have hg3 := HG3.out
        have hg3 : (w2.alloc (.cells (lnCells l).toArray 48)).grownBy w3 (Value.slice A k c).ownBlock := hg3
        have hal : Below w2.heap.size w2 (w2.alloc (.cells (lnCells l).toArray 48)) := (Below.refl _ _).alloc (Nat.le_refl _) _
        have ha2 : LanesApart w2 C (ls ++ [l]) := HA.out.snoc HB2.out (by omega) l HOL.out
        have ha3 : LanesApart w3 C (ls ++ [l]) := (ha2.below hal).kept hg3 (fun l' hl' g e1 => own_types2 ((ha2.below hal).1 l' hl') (own_below HO2.out hal) (by decide) e1)
        have hset := grown_setCell w3 C 0 (.slice (some ⟨g3, 0, none⟩) (k + 1) c3)
        have hm3 := own_grown' (own_below (own_below HM.out HB2.out) hal) hg3 (fun g e1 e2 => own_types2 (own_below (own_below HM.out HB2.out) hal) (own_below HO2.out hal) (by decide) e1 e2)
        have hsz3 : w2.heap.size + 1 ≤ w3.heap.size := by have := hg3.size; simpa using this
        have HR1 := mkHid (heap_setCell_same w3 C 0 _ _ (.slice (some ⟨g3, 0, none⟩) (k + 1) c3) HQ3.out)
        have HR2 := mkHid (own_grown' HO3.out hset (fun g e1 e2 => by injection e2 with e2; subst e2; exact own_ne_heap HO3.out HQ3.out (by decide) e1))
        have HR3 := mkHid (ha3.kept hset (fun l' hl' g e1 e2 => by injection e2 with e2; subst e2; exact own_ne_heap (ha3.1 l' hl') HQ3.out (by decide) e1))
        have HR4 := mkHid (own_grown' hm3 hset (fun g e1 e2 => by injection e2 with e2; subst e2; exact own_ne_heap hm3 HQ3.out (by decide) e1))
        have hB2 : Below (w.heap.size + 1) (w.alloc crowd0) w2 := HB.out.trans (HB2.out.mono (by omega))
        have hB3 := (hB2.alloc (by omega) (.cells (lnCells l).toArray 48)).grown hg3 (by simp; omega) (fun g e => by have := (HO2.out.lt g e).1; omega)
        have HR5 := mkHid (hB3.grown hset (by omega) (fun g e => by injection e with e; omega))
        have HR6 := mkHid (show ∀ l' ∈ ls ++ [l], Fresh l' from fun l' h => by
          rcases List.mem_append.1 h with h | h
          · exact HF.out l' h
          · rw [List.mem_singleton] at h; subst h; exact HFL.out)
        clear hg3 hal ha2 ha3 hset hm3 hB2 hB3 b2 q0 q1
        go_wp2_with fail
        go_roundw
        case rel =>
          refine ⟨k + 1, by omega, by go_num, some ⟨g3, 0, none⟩, c3, ls ++ [l], by simp [hls], ?_, ?_, HR3.out, HR6.out, HR4.out, HR5.out, by simp; omega⟩
          · have := HR1.out
            simpa using this
          · have := HR2.out
            rw [lflat_append]
            simpa [lflat] using this
        case measure => simp [intOf] <;> omega)
    · have hke : k = n := by omega
      subst hke
      have hr0 : wr.heap[w.heap.size]? = some crowd0 := by
        rw [HB.out.block w.heap.size (by omega)]; exact heap_alloc_new _ _
      obtain ⟨⟨r0, r1⟩, t0, t1⟩ := box2 hr0
      have HR0 := mkHid hr0
      clear hr0
      go_wp2_with fail
      have hset := grown_setCell' (grown_setCell wr w.heap.size 0 (.slice A k c)) 1 (.slice (some ⟨g1, 0, none⟩) zs.length c1)
      refine bodyPost_ret (v := .agg #[.slice A k c, .slice (some ⟨g1, 0, none⟩) zs.length c1]) (by simp [results, Try.results23, go_sem, r0, r1]) rfl ⟨A, c, ls, some ⟨g1, 0, none⟩, c1, by rw [hls], hls, HF.out, ⟨?_, ?_, ?_, ?_⟩, ?_⟩
      · rw [hls]
        exact own_base (own_grown' HO.out hset (fun g e1 e2 => by injection e2 with e2; subst e2; exact own_ne_heap HO.out HR0.out (by decide) e1)) (by omega)
      · have h := HA.out.kept hset (fun l' hl' g e1 e2 => by injection e2 with e2; subst e2; exact own_ne_heap (HA.out.1 l' hl') HR0.out (by decide) e1)
        exact ⟨fun l hl => own_base (h.1 l hl) (by omega), h.2⟩
      · exact own_grown' HM.out hset (fun g e1 e2 => by injection e2 with e2; subst e2; exact own_ne_heap HM.out HR0.out (by decide) e1)
      · intro l hl g e1 e2
        have h1 := (HA.out.1 l hl).lt g e1
        have h2 := HBL.out g e2
        omega
      · have h1 : Below w.heap.size w wr := ((Below.refl w.heap.size w).alloc (Nat.le_refl _) crowd0).trans (HB.out.mono (by omega))
        exact h1.grown hset h1.size (fun g e => by injection e with e; omega)
theorem specNewCrowd_any (n : Int) (A : Option Addr) (c : Nat) (zs : List Int) (w : World) (hz : zs.length ≤ 1048576) (hs : Sl w A (ints zs)) :
    Calls Try.prog 23 #[.int .i64 n, .slice A zs.length c] w (RetCrowd (crowdN n zs) (crowdZ n zs) w) := by
  cases h : crowdOk n zs with
  | false => exact specNewCrowd_no n A c zs w hz hs h
  | true =>
    have h' := Bool.and_eq_true_iff.1 h
    have hin := inB_t h'.1
    obtain ⟨m, rfl⟩ := Int.eq_ofNat_of_zero_le (show 0 ≤ n by omega)
    have := specNewCrowd_yes m A c zs w (by omega) h'.2 hs
    unfold crowdN crowdZ
    rw [h]
    exact this
theorem crowdN_le (n : Int) (zs : List Int) : crowdN n zs ≤ 8 := by
  unfold crowdN
  split
  · rename_i h
    have := inB_t (Bool.and_eq_true_iff.1 h).1
    omega
  · omega
theorem crowdZ_le (n : Int) (zs : List Int) : (crowdZ n zs).length ≤ 32 := by
  unfold crowdZ
  split
  · rename_i h
    have := inB_t (Bool.and_eq_true_iff.1 (Bool.and_eq_true_iff.1 h).2).1
    omega
  · simp
theorem fresh_same {xs ys : List Ln} (hl : xs.length = ys.length) (hx : ∀ l ∈ xs, Fresh l) (hy : ∀ l ∈ ys, Fresh l) : sameLns xs ys :=
  ⟨hl, fun k h h' => by
    obtain ⟨a1, a2, a3⟩ := hx _ (List.getElem_mem h)
    obtain ⟨b1, b2, b3⟩ := hy _ (List.getElem_mem h')
    exact ⟨a1.trans b1.symm, a2.trans b2.symm, a3.trans b3.symm⟩⟩
theorem fresh_four {xs : List Ln} (hx : ∀ l ∈ xs, Fresh l) : ∀ l ∈ xs, l.zs.length = 4 := fun l hl => by rw [(hx l hl).1]; rfl
end Go.Proofs.Ytilhcedfokhhjaa
