/-
  Parts of a proof: DOrder, DMemory, DRun.
-/
import Derived.Test.YthpabcgnijfiaaaPart23
import Derived.Test.YthpabcgnijfiaaaPart03
import Derived.Test.YthpabcgnijfiaaaPart28
namespace Go.Proofs.Ythpabcgnijfiaaa
open Go.RowKit
set_option maxHeartbeats 1000000
set_option maxRecDepth 100000
set_option linter.unusedVariables false

theorem own_lit (w : World) (us : List Value) (e : TypeId) (hm : us.length ≤ 1000000) : (w.alloc (.cells us.toArray e)).ownsRow w.heap.size e 1 (.slice (some ⟨w.heap.size, 0, none⟩) us.length us.length) us.length us :=
  ⟨by simp, .inr ⟨w.heap.size, us.length, us.toArray, rfl, Nat.le_refl _, heap_alloc_new w _, Nat.le_refl _, by simp only [maxLen]; omega, by simp, by simp⟩⟩
theorem own_prefix {w : World} {base : Nat} {e : TypeId} {n c m : Nat} {A : Option Addr} {xs : List Value} (h : w.ownsRow base e 1 (.slice A n c) n xs) (hm : m ≤ n) : w.ownsRow base e 1 (.slice A m c) m (xs.take m) := by
  have hl := h.1
  refine ⟨by rw [List.length_take]; omega, ?_⟩
  rcases h.2 with ⟨hv, h0⟩ | ⟨g, cap, cur, hv, hb, hg, hn, hx, hs, ht⟩
  · left
    injection hv with h1 h2 h3
    subst h1
    have : m = 0 := by omega
    subst this
    exact ⟨by rw [h3], rfl⟩
  · right
    injection hv with h1 h2 h3
    refine ⟨g, cap, cur, by rw [h1, h3], hb, hg, by omega, hx, hs, ?_⟩
    rw [← ht, Nat.mul_one, Nat.mul_one, List.take_take, Nat.min_eq_left hm]
def zerosL (n : Nat) : List Int := List.replicate n 0
theorem madeZeros (n : Nat) : (madeCells (Value.int .i64 0).cells (n * 1)).toList = ints (zerosL n) := by
  apply List.ext_getElem?
  intro i
  by_cases h : i < n
  · simp [madeCells, h, Value.cells, ints, Nat.mod_one, zerosL]
  · rw [List.getElem?_eq_none (by simp [madeCells]; omega), List.getElem?_eq_none (by simp [ints, zerosL]; omega)]
def smallLane (z : Int) : Prop := -1000 ≤ z ∧ z ≤ 1000
/-- a list of numbers is drawn, in memory of the draw's own. -/
def DrawnRow (m : Nat) (br N : Nat) (w : World) (e : Ending) (w' : World) : Prop :=
  ∃ g c ys, e = .returned (.slice (some ⟨g, 0, none⟩) ys.length c) ∧ w'.ownsRow w.heap.size 3 1 (.slice (some ⟨g, 0, none⟩) ys.length c) ys.length (ints ys) ∧ ys.length ≤ m ∧ (∀ z ∈ ys, smallLane z) ∧ Rd w' br N ∧ w.grownBy w' (some br)

theorem oddAny (n : Int) (br N : Nat) (w : World) (hn : 1 ≤ n) (hn' : n ≤ 1000000) (hN : N ≤ 1000000000) (h : Rd w br N) :
    Calls Try.prog 50 #[.pointer (some ⟨br, 0, none⟩), .int .i64 n] w fun e w' => ∃ b : Bool, e = .returned (.bool b) ∧ Rd w' br (N + 1) ∧ w.grownBy w' (some br) := by
  go_enter Try.func50, Try.ntmps50
  go_wp2_with fail
  refine (pick_any _ _ _ _ hN h).mono ?_
  rintro e w1 ⟨r, rfl, h0, h1, hr, hg⟩
  have HR := mkHid hr
  have HG := mkHid hg
  clear hr hg h1 h
  go_wp2_with fail
  go_ret
  exact ⟨_, rfl, HR.out, HG.out⟩
theorem l20Order_any (lanes n : Int) (br N : Nat) (w : World) (hl : -10 ≤ lanes ∧ lanes ≤ 12) (hn : 1 ≤ n ∧ n ≤ 1000000) (hN : N ≤ 999000000) (h : Rd w br N) :
    Calls Try.prog 24 #[.pointer (some ⟨br, 0, none⟩), .int .i64 lanes, .int .i64 n] w (DrawnRow 41 br (N + 40) w) := by
  have hlt0 := h.lt
  obtain ⟨i0, hi0, hz0, hz1, hz2⟩ := info_parts Ei.hi
  go_enter Try.func24, Try.ntmps24
  go_wp2_with fail
  refine (pick_any _ _ N _ (by omega) (h.below ((Below.refl _ _).alloc (Nat.le_refl _) _))).mono ?_
  rintro e w1 ⟨r, rfl, hr0, hr1, r1, g1⟩
  have hr1 := hr1 (by omega)
  have o1 := own_grown (own_empty w 3 1) g1 (by simp [Value.ownBlock]; omega)
  have HO1 := mkHid o1
  have HG1 := mkHid (grown_trans (World.grownBy_alloc _ _ _) g1)
  have R1 := mkHid r1
  clear o1 g1 h r1
  obtain ⟨j0, rfl⟩ := Int.eq_ofNat_of_zero_le hr0
  go_wp2_with fail
  go_loopw [7, 8] (fun v i wr => ∃ j : Nat, i = .int .i64 j ∧ ∃ g c ys, v = .slice (some ⟨g, 0, none⟩) ys.length c ∧ wr.ownsRow w.heap.size 3 1 (.slice (some ⟨g, 0, none⟩) ys.length c) ys.length (ints ys) ∧ ys.length + j ≤ 11 ∧ (∀ z ∈ ys, smallLane z) ∧ Rd wr br (N + 1 + ys.length) ∧ w.grownBy wr (some br)) (fun _ i _ => (intOf i).toNat)
  case atStart => exact ⟨j0, rfl, _, 0, [], rfl, HO1.out, by simp; omega, by simp, R1.out, HG1.out⟩
  case round =>
    obtain ⟨j, rfl, g, c, ys, rfl, hown, hj, hd, hrd, hgr⟩ := hrel
    have hsz := hgr.size
    have HO := mkHid hown
    have HG := mkHid hgr
    have HD := mkHid hd
    have HRD := mkHid hrd
    clear hown hgr hd R1 HG1 HO1 hrd
    by_cases hlt : 0 < j
    · go_wp2_with fail
      all_goals (
        refine (pick_any _ _ _ _ (by omega) HRD.out).mono ?_
        rintro e w3 ⟨q, rfl, a1, a1', r3, g3⟩
        have a1' := a1' (by omega)
        have HQ := mkHid (show smallLane q by unfold smallLane; omega)
        have HR3 := mkHid r3
        have HO3 := mkHid (own_grown HO.out g3 (fun g e => by have := (HO.out.lt g e).1; omega))
        have HG3 := mkHid (grown_trans HG.out g3)
        have hsz3 := HG3.out.size
        clear g3 r3 a1'
        go_wp2_with (at_builtin; refine wpList_appS Ei (HO3.out.alloc _) (newCells _ _ _) rfl (by simp [Value.oneCell']) (by omega) (by omega) (by simp; omega) rfl rfl rfl rfl ?_; intro g' c' w4 hown4 hg4; have HO4 := mkHid hown4; have HG4 := mkHid hg4; clear hown4 hg4)
        go_roundw
        case rel =>
          refine ⟨j - 1, by congr 1; omega, g', c', ys ++ [q], by simp, ?_, by simp; omega, ?_, ?_, ?_⟩
          · have := HO4.out
            rw [List.length_append]
            simpa [ints] using this
          · intro z hz
            rcases List.mem_append.1 hz with h | h
            · exact HD.out z h
            · simp only [List.mem_singleton] at h
              subst h
              exact HQ.out
          · refine Rd.mono (N := N + 1 + ys.length + 1) ?_ (by simp; omega)
            exact (HR3.out.below ((Below.refl _ _).alloc (Nat.le_refl _) _)).app (HO3.out.alloc _) hlt0 HG4.out
          · exact grown_app (grown_trans HG3.out (World.grownBy_alloc _ _ _)) (HO3.out.alloc _) (Nat.le_refl _) HG4.out
        case measure => simp [intOf] <;> omega)
    · generalize hjj : (j : Int) = jz at *
      have hlt' : ¬ 0 < jz := by omega
      have hj11 : ys.length ≤ 11 := by omega
      have R11 := mkHid (HRD.out.mono (M := N + 12) (by omega))
      clear HRD hj hlt hjj
      go_wp2_with fail
      go_loopw [7, 9] (fun v i wr => ∃ j : Nat, i = .int .i64 j ∧ (j = 0 ∨ (j : Int) ≤ lanes) ∧ ∃ g c ys, v = .slice (some ⟨g, 0, none⟩) ys.length c ∧ wr.ownsRow w.heap.size 3 1 (.slice (some ⟨g, 0, none⟩) ys.length c) ys.length (ints ys) ∧ ys.length ≤ 11 + j ∧ (∀ z ∈ ys, smallLane z) ∧ Rd wr br (N + 12 + j) ∧ w.grownBy wr (some br)) (fun _ i _ => lanes.toNat - (intOf i).toNat)
      case atStart => exact ⟨0, rfl, .inl rfl, g, c, ys, rfl, HO.out, by omega, HD.out, R11.out, HG.out⟩
      case round =>
        obtain ⟨j, rfl, hjl, g, c, ys, rfl, hown, hj, hd, hrd, hgr⟩ := hrel
        have hsz := hgr.size
        clear HO HG HD R11 hj11 hsz
        have hsz := hgr.size
        have HO := mkHid hown
        have HG := mkHid hgr
        have HD := mkHid hd
        have HRD := mkHid hrd
        clear hown hgr hd hrd
        by_cases hlt : (j : Int) < lanes
        · have HQ := mkHid (show smallLane (j : Int) by unfold smallLane; omega)
          go_wp2_with fail
          refine (pick_any _ _ _ _ (by omega) HRD.out).mono ?_
          rintro e w3 ⟨q, rfl, a1, a1', r3, g3⟩
          have a1' := a1' (by omega)
          have HR3 := mkHid r3
          have HO3 := mkHid (own_grown HO.out g3 (fun g e => by have := (HO.out.lt g e).1; omega))
          have HG3 := mkHid (grown_trans HG.out g3)
          have hsz3 := HG3.out.size
          clear g3 r3
          cases hq : q == 0
          · have hol : (w3.alloc (.cells #[.int .i64 (j : Int)] 3)).ownsRow w3.heap.size 3 1 (.slice (some ⟨w3.heap.size, 0, none⟩) 1 1) 1 [.int .i64 (j : Int)] := own_lit w3 [.int .i64 (j : Int)] 3 (by simp)
            have HOL := mkHid hol
            have HN := mkHid (show ∀ p u, (ints ys)[p]? = some u → (w3.alloc (.cells #[.int .i64 (j : Int)] 3)).cell? ((⟨g, 0, none⟩ : Addr).add p) = some u from fun p u hu => by
              have h1 := Sl.of_own (HO3.out.alloc (.cells #[.int .i64 (j : Int)] 3))
              rcases h1 with h1 | ⟨b, off, h1, h2⟩
              · rw [h1] at hu; simp at hu
              · injection h1 with h1
                injection h1 with h1 h1'
                subst h1 h1'
                rw [add_flat]
                exact h2 p u hu)
            clear hol
            go_wp2_with (at_builtin; refine wpList_appS Ei HOL.out HN.out (by simp [ints]) (ints_one ys) (by omega) (by omega) (by simp) rfl rfl rfl rfl ?_; intro g' c' w4 hown4 hg4; have HO4 := mkHid hown4; have HG4 := mkHid hg4; clear hown4 hg4)
            go_roundw
            case rel =>
              refine ⟨j + 1, by go_num, .inr (by omega), g', c', (j : Int) :: ys, by simp [Nat.add_comm], ?_, by simp; omega, ?_, ?_, ?_⟩
              · have := own_base HO4.out (base' := w.heap.size) (by omega)
                simpa [ints, Nat.add_comm] using this
              · intro z hz
                rcases List.mem_cons.1 hz with h | h
                · subst h; exact HQ.out
                · exact HD.out z h
              · refine Rd.mono (N := N + 12 + j + 1) ?_ (by omega)
                exact (HR3.out.below ((Below.refl _ _).alloc (Nat.le_refl _) _)).grown HG4.out (fun g hg => by injection hg with hg; omega)
              · exact grown_app (grown_trans HG3.out (World.grownBy_alloc _ _ _)) HOL.out hsz3 HG4.out
            case measure => simp [intOf] <;> omega
          · go_wp2_with (at_builtin; refine wpList_appS Ei (HO3.out.alloc _) (newCells _ _ _) rfl (by simp [Value.oneCell']) (by omega) (by omega) (by simp; omega) rfl rfl rfl rfl ?_; intro g' c' w4 hown4 hg4; have HO4 := mkHid hown4; have HG4 := mkHid hg4; clear hown4 hg4)
            go_roundw
            case rel =>
              refine ⟨j + 1, by go_num, .inr (by omega), g', c', ys ++ [(j : Int)], by simp, ?_, by simp; omega, ?_, ?_, ?_⟩
              · have := HO4.out
                rw [List.length_append]
                simpa [ints] using this
              · intro z hz
                rcases List.mem_append.1 hz with h | h
                · exact HD.out z h
                · simp only [List.mem_singleton] at h
                  subst h
                  exact HQ.out
              · refine Rd.mono (N := N + 12 + j + 1) ?_ (by omega)
                exact (HR3.out.below ((Below.refl _ _).alloc (Nat.le_refl _) _)).app (HO3.out.alloc _) hlt0 HG4.out
              · exact grown_app (grown_trans HG3.out (World.grownBy_alloc _ _ _)) (HO3.out.alloc _) (Nat.le_refl _) HG4.out
            case measure => simp [intOf] <;> omega
        · have hj12 : j ≤ 12 := by omega
          have HRD2 := mkHid (HRD.out.mono (M := N + 24) (by omega))
          have hy23 : ys.length ≤ 23 := by omega
          clear HRD hjl hj
          go_wp2_with fail
          refine (oddAny _ _ _ _ hn.1 hn.2 (by omega) HRD2.out).mono ?_
          rintro e w3 ⟨b, rfl, r3, g3⟩
          have HO3 := mkHid (own_grown HO.out g3 (fun g e => by have := (HO.out.lt g e).1; omega))
          have HG3 := mkHid (grown_trans HG.out g3)
          have hsz3 := HG3.out.size
          have HR3 := mkHid r3
          clear g3 r3 HRD2 HO HG
          cases b with
          | false =>
            go_wp2_with fail
            go_ret
            exact ⟨g, c, ys, rfl, HO3.out, by omega, HD.out, HR3.out.mono (by omega), HG3.out⟩
          | true =>
            go_wp2_with fail
            refine (pick_any _ _ _ _ (by omega) HR3.out).mono ?_
            rintro e w4 ⟨q, rfl, q0, q1, r4, g4⟩
            have HO4 := mkHid (own_grown HO3.out g4 (fun g e => by have := (HO3.out.lt g e).1; omega))
            have HG4 := mkHid (grown_trans HG3.out g4)
            have hsz4 := HG4.out.size
            have HR4 := mkHid (r4.mono (M := N + 30) (by omega))
            clear g4 r4 HR3 HO3 HG3
            have hcap := own_cap HO4.out
            have q1 := q1 (by omega)
            have hq3 : q = 0 ∨ q = 1 ∨ q = 2 := by omega
            clear q0 q1
            rcases hq3 with rfl | rfl | rfl
            · obtain ⟨hh, hhd⟩ : ∃ hh, hh = ys.length / 2 := ⟨_, rfl⟩
              have e1 : ((ys.length : Nat) : Int) / 2 = (hh : Int) := by omega
              have e2 : ((ys.length : Nat) : Int).tdiv 2 = (hh : Int) := by rw [Int.tdiv_eq_ediv_of_nonneg (by omega)]; exact e1
              have e3 : (hh : Int) ≤ (c : Int) := by omega
              have e4 : hh ≤ c := by omega
              have HP := mkHid (own_prefix HO4.out (m := hh) (by omega))
              have HH := mkHid hhd
              clear hhd
              go_wp2_with fail
              go_ret
              have htl : (ys.take hh).length = hh := by rw [List.length_take, HH.out]; omega
              refine ⟨g, c, ys.take hh, ret_eq (by simp [htl]), ?_, by rw [htl, HH.out]; omega, fun z hz => HD.out z (List.mem_of_mem_take hz), HR4.out.mono (by omega), HG4.out⟩
              rw [htl]
              have := HP.out
              simpa [ints, List.map_take] using this
            · have HQ := mkHid (show smallLane lanes by unfold smallLane; omega)
              go_wp2_with (at_builtin; refine wpList_appS Ei (HO4.out.alloc _) (newCells _ _ _) rfl (by simp [Value.oneCell']) (by omega) (by omega) (by simp; omega) rfl rfl rfl rfl ?_; intro g' c' w5 hown5 hg5; have HO5 := mkHid hown5; have HG5 := mkHid hg5; clear hown5 hg5)
              go_ret
              refine ⟨g', c', ys ++ [lanes], ret_eq (by simp), ?_, by simp; omega, ?_, ?_, ?_⟩
              · have := HO5.out
                rw [List.length_append]
                simpa [ints] using this
              · intro z hz
                rcases List.mem_append.1 hz with h | h
                · exact HD.out z h
                · simp only [List.mem_singleton] at h
                  subst h
                  exact HQ.out
              · exact ((HR4.out.below ((Below.refl _ _).alloc (Nat.le_refl _) _)).app (HO4.out.alloc _) hlt0 HG5.out).mono (by omega)
              · exact grown_app (grown_trans HG4.out (World.grownBy_alloc _ _ _)) (HO4.out.alloc _) (Nat.le_refl _) HG5.out
            · go_wp2_with (at_make; refine wpList_make_full _ rfl _ _ _ rfl w4.heap.size _ i0 _ 1 Ei.ht hi0 hz0 hz1 _ _ _ _ 41 rfl rfl rfl rfl (by rw [hz2]; omega) (by simp only [maxLen]; omega) (Nat.le_refl _) ?_; intro w5 hown5 hg5; have HO5 := mkHid hown5; have HG5 := mkHid hg5; clear hown5 hg5)
              go_ret
              refine ⟨_, _, zerosL 41, rfl, ?_, by simp [zerosL], ?_, ?_, ?_⟩
              · have := HO5.out
                rw [madeZeros] at this
                exact own_base this hsz4
              · intro z hz
                rw [List.eq_of_mem_replicate hz]
                unfold smallLane; omega
              · exact (HR4.out.grown HG5.out (by simp)).mono (by omega)
              · exact grown_trans HG4.out (grown_none HG5.out _)
end Go.Proofs.Ythpabcgnijfiaaa

namespace Go.Proofs.Ythpabcgnijfiaaa
open Go.RowKit
set_option maxHeartbeats 2000000
set_option maxRecDepth 100000
set_option linter.unusedVariables false

theorem l20Memory_any (n : Int) (br N : Nat) (w : World) (hn : 1 ≤ n ∧ n ≤ 1000000) (hN : N ≤ 990000000) (h : Rd w br N) :
    Calls Try.prog 51 #[.pointer (some ⟨br, 0, none⟩), .int .i64 n] w (DrawnRow 33 br (N + 200) w) := by
  have hlt0 := h.lt
  obtain ⟨i0, hi0, hz0, hz1, hz2⟩ := info_parts Ei.hi
  go_enter Try.func51, Try.ntmps51
  go_wp2_with fail
  refine (pick_any _ _ N _ (by omega) (h.below ((Below.refl _ _).alloc (Nat.le_refl _) _))).mono ?_
  rintro e w1 ⟨r, rfl, hr0, hr1, r1, g1⟩
  have hr1 := hr1 (by omega)
  have o1 := own_grown (own_empty w 3 1) g1 (by simp [Value.ownBlock]; omega)
  have hG1 := grown_trans (World.grownBy_alloc _ _ _) g1
  have hsz1 := hG1.size
  have hlit := LitAt.new (base := w1.heap.size) (lo := 1) (hi := 32) w1 [8, 16, 1 + r, 32] 3 (Nat.le_refl _) (by simp; omega)
  have HO1 := mkHid (o1.alloc (.cells #[.int .i64 8, .int .i64 16, .int .i64 (1 + r), .int .i64 32] 3))
  have HG1 := mkHid (grown_trans hG1 (World.grownBy_alloc _ (.cells #[.int .i64 8, .int .i64 16, .int .i64 (1 + r), .int .i64 32] 3) _))
  have R1 := mkHid (r1.below ((Below.refl _ _).alloc (Nat.le_refl _) (.cells #[.int .i64 8, .int .i64 16, .int .i64 (1 + r), .int .i64 32] 3)))
  have HL := mkHid hlit
  have hlt1 := r1.lt
  clear o1 g1 h r1 hG1 hlit
  go_wp2_with fail
  refine (pick_any _ _ _ _ (by omega) R1.out).mono ?_
  rintro e w2 ⟨q, rfl, q0, q1, r2, g2⟩
  have q1 := q1 (by omega)
  obtain ⟨qn, rfl⟩ := Int.eq_ofNat_of_zero_le q0
  obtain ⟨z, z0, z1, hc⟩ := (HL.out.grown hlt1 g2).at_ (j := qn) (by simp; omega)
  simp only [Nat.zero_add] at hc
  have HO2 := mkHid (own_grown HO1.out g2 (by simp [Value.ownBlock]; omega))
  have HG2 := mkHid (grown_trans HG1.out g2)
  have R2 := mkHid r2
  obtain ⟨j0, rfl⟩ := Int.eq_ofNat_of_zero_le (show 0 ≤ z by omega)
  clear r2 g2 HO1 HG1 R1 HL
  go_wp2_with fail
  clear hc
  go_loopw [5, 6] (fun v i wr => ∃ j : Nat, i = .int .i64 j ∧ ∃ g c ys, v = .slice (some ⟨g, 0, none⟩) ys.length c ∧ wr.ownsRow w.heap.size 3 1 (.slice (some ⟨g, 0, none⟩) ys.length c) ys.length (ints ys) ∧ ys.length + j = j0 ∧ (∀ z ∈ ys, smallLane z) ∧ Rd wr br (N + 2 + 3 * ys.length) ∧ w.grownBy wr (some br)) (fun _ i _ => (intOf i).toNat)
  case atStart => exact ⟨j0, rfl, _, 0, [], rfl, HO2.out, by simp, by simp, R2.out, HG2.out⟩
  case round =>
    obtain ⟨j, rfl, g, c, ys, rfl, hown, hj, hd, hrd, hgr⟩ := hrel
    have hsz := hgr.size
    have HO := mkHid hown
    have HG := mkHid hgr
    have HD := mkHid hd
    have HRD := mkHid hrd
    have hlt := hrd.lt
    clear hown hgr hd HO2 HG2 R2 hrd
    by_cases hlt : 0 < j
    · go_wp2_with fail
      refine (pick_any _ _ _ _ (by omega) HRD.out).mono ?_
      rintro e w3 ⟨a, rfl, a0, a1, r3, g3⟩
      have a1 := a1 (by omega)
      have R3 := mkHid r3
      have G3 := mkHid g3
      clear r3 g3
      go_wp2_with fail
      refine (pick_any _ _ _ _ (by omega) R3.out).mono ?_
      rintro e w4 ⟨b, rfl, b0, b1, r4, g4⟩
      have b1 := b1 (by omega)
      have hlit := LitAt.new (base := w4.heap.size) (lo := 0) (hi := 255) w4 [0, a, b] 3 (Nat.le_refl _) (by simp; omega)
      have HL := mkHid hlit
      have hlt4 := r4.lt
      have R4 := mkHid (r4.below ((Below.refl _ _).alloc (Nat.le_refl _) (.cells #[.int .i64 0, .int .i64 a, .int .i64 b] 3)))
      have G4 := mkHid (grown_trans (grown_trans G3.out g4) (World.grownBy_alloc _ (.cells #[.int .i64 0, .int .i64 a, .int .i64 b] 3) _))
      clear r4 g4 hlit
      go_wp2_with fail
      refine (pick_any _ _ _ _ (by omega) R4.out).mono ?_
      rintro e w5 ⟨q, rfl, q0, q1, r5, g5⟩
      have q1 := q1 (by omega)
      obtain ⟨qn, rfl⟩ := Int.eq_ofNat_of_zero_le q0
      obtain ⟨z, z0, z1, hc⟩ := (HL.out.grown hlt4 g5).at_ (j := qn) (by simp; omega)
      simp only [Nat.zero_add] at hc
      have hg5 := grown_trans G4.out g5
      have HR5 := mkHid r5
      have HO5 := mkHid (own_grown HO.out hg5 (fun g e => by have := (HO.out.lt g e).1; omega))
      have HG5 := mkHid (grown_trans HG.out hg5)
      have HQ := mkHid (show smallLane z by unfold smallLane; omega)
      have hsz5 := HG5.out.size
      clear r5 g5 hg5 G3 G4 R3 R4 HL
      go_wp2_with (at_builtin; refine wpList_appS Ei (HO5.out.alloc _) (newCells _ _ _) rfl (by simp [Value.oneCell']) (by omega) (by omega) (by simp; omega) rfl rfl rfl rfl ?_; intro g' c' w6 hown6 hg6; have HO6 := mkHid hown6; have HG6 := mkHid hg6; clear hown6 hg6)
      go_roundw
      case rel =>
        refine ⟨j - 1, by congr 1; omega, g', c', ys ++ [z], by simp, ?_, by simp; omega, ?_, ?_, ?_⟩
        · have := HO6.out
          rw [List.length_append]
          simpa [ints] using this
        · intro z' hz'
          rcases List.mem_append.1 hz' with h | h
          · exact HD.out z' h
          · simp only [List.mem_singleton] at h
            subst h
            exact HQ.out
        · refine Rd.mono (N := N + 2 + 3 * ys.length + 1 + 1 + 1) ?_ (by simp; omega)
          exact (HR5.out.below ((Below.refl _ _).alloc (Nat.le_refl _) _)).app (HO5.out.alloc _) hlt0 HG6.out
        · exact grown_app (grown_trans HG5.out (World.grownBy_alloc _ _ _)) (HO5.out.alloc _) (Nat.le_refl _) HG6.out
      case measure => simp [intOf] <;> omega
    · have hy1 : 1 ≤ ys.length ∧ ys.length ≤ 32 := by omega
      have R11 := mkHid (HRD.out.mono (M := N + 120) (by omega))
      have hj0 : j = 0 := by omega
      subst hj0
      clear HRD hj
      go_wp2_with fail
      refine (oddAny _ _ _ _ hn.1 hn.2 (by omega) R11.out).mono ?_
      rintro e w3 ⟨b, rfl, r3, g3⟩
      have HO3 := mkHid (own_grown HO.out g3 (fun g e => by have := (HO.out.lt g e).1; omega))
      have HG3 := mkHid (grown_trans HG.out g3)
      have hsz3 := HG3.out.size
      have HR3 := mkHid r3
      clear g3 r3 R11 HO HG
      cases b with
      | false =>
        go_wp2_with fail
        go_ret
        exact ⟨g, c, ys, rfl, HO3.out, by omega, HD.out, HR3.out.mono (by omega), HG3.out⟩
      | true =>
        go_wp2_with fail
        refine (pick_any _ _ _ _ (by omega) HR3.out).mono ?_
        rintro e w4 ⟨q, rfl, q0, q1, r4, g4⟩
        have HO4 := mkHid (own_grown HO3.out g4 (fun g e => by have := (HO3.out.lt g e).1; omega))
        have HG4 := mkHid (grown_trans HG3.out g4)
        have hsz4 := HG4.out.size
        have HR4 := mkHid (r4.mono (M := N + 130) (by omega))
        have hlt4 := r4.lt
        clear g4 r4 HR3 HO3 HG3
        have q1 := q1 (by omega)
        have hq3 : q = 0 ∨ q = 1 ∨ q = 2 := by omega
        clear q0 q1
        rcases hq3 with rfl | rfl | rfl
        · go_wp2_with fail
          go_ret
          refine ⟨w4.heap.size, 0, [], rfl, own_base (own_empty w4 _ _) hsz4, by simp, (fun z hz => absurd hz (by simp)), (HR4.out.below ((Below.refl _ _).alloc (Nat.le_refl _) _)).mono (by omega), grown_trans HG4.out (World.grownBy_alloc _ _ _)⟩
        · have hlit := LitAt.new (base := w4.heap.size) (lo := -1) (hi := 256) w4 [-1, 256] 3 (Nat.le_refl _) (by simp)
          have HL := mkHid hlit
          have HO5 := mkHid (HO4.out.alloc (.cells #[.int .i64 (-1), .int .i64 256] 3))
          have HG5 := mkHid (grown_trans HG4.out (World.grownBy_alloc _ (.cells #[.int .i64 (-1), .int .i64 256] 3) _))
          have HR5 := mkHid (HR4.out.below ((Below.refl _ _).alloc (Nat.le_refl _) (.cells #[.int .i64 (-1), .int .i64 256] 3)))
          clear hlit
          go_wp2_with fail
          refine (pick_any _ _ _ _ (by omega) HR5.out).mono ?_
          rintro e w6 ⟨p, rfl, p0, p1, r6, g6⟩
          have p1 := p1 (by omega)
          obtain ⟨pn, rfl⟩ := Int.eq_ofNat_of_zero_le p0
          obtain ⟨z, z0, z1, hc⟩ := (HL.out.grown hlt4 g6).at_ (j := pn) (by simp; omega)
          simp only [Nat.zero_add] at hc
          have HO6 := mkHid (own_grown HO5.out g6 (fun g e => by have := (HO5.out.lt g e).1; omega))
          have HG6 := mkHid (grown_trans HG5.out g6)
          have HR6 := mkHid r6
          obtain ⟨g', hg', hgb, hgs, hcell, hfr, hst⟩ := own_open HO6.out (i := 0) (by simp; omega)
          injection hg' with hg'
          injection hg' with hg'
          subst hg'
          have HST := mkHid (hst (.int .i64 z))
          have HQ := mkHid (show smallLane z by unfold smallLane; omega)
          clear g6 r6 hst
          go_wp2_with fail
          go_ret
          refine ⟨g, c, ys.set 0 z, ret_eq (by simp), ?_, by simp; omega, ?_, ?_, ?_⟩
          · have := HST.out
            rw [List.length_set]
            simpa [ints, List.map_set] using this
          · intro z' hz'
            rcases List.mem_or_eq_of_mem_set hz' with h | h
            · exact HD.out z' h
            · subst h; exact HQ.out
          · exact (HR6.out.grown (grown_setCell _ g 0 _) (fun g' hg' => by injection hg' with hg'; subst hg'; omega)).mono (by omega)
          · exact grown_app HG6.out HO6.out (Nat.le_refl _) (grown_setCell _ g 0 _)
        · go_wp2_with (at_make; refine wpList_make_full _ rfl _ _ _ rfl w4.heap.size _ i0 _ 1 Ei.ht hi0 hz0 hz1 _ _ _ _ 33 rfl rfl rfl rfl (by rw [hz2]; omega) (by simp only [maxLen]; omega) (Nat.le_refl _) ?_; intro w5 hown5 hg5; have HO5 := mkHid hown5; have HG5 := mkHid hg5; clear hown5 hg5)
          go_ret
          refine ⟨_, _, zerosL 33, rfl, ?_, by simp [zerosL], ?_, ?_, ?_⟩
          · have := HO5.out
            rw [madeZeros] at this
            exact own_base this hsz4
          · intro z hz
            rw [List.eq_of_mem_replicate hz]
            unfold smallLane; omega
          · exact (HR4.out.grown HG5.out (by simp)).mono (by omega)
          · exact grown_trans HG4.out (grown_none HG5.out _)
end Go.Proofs.Ythpabcgnijfiaaa

namespace Go.Proofs.Ythpabcgnijfiaaa
open Go.RowKit
set_option maxHeartbeats 2000000
set_option maxRecDepth 100000
set_option linter.unusedVariables false

/-- a program, a number of lanes and a memory are drawn. -/
def DrawnRun (br : Nat) (w : World) (e : Ending) (w' : World) : Prop :=
  ∃ g c, ∃ ys : List Cd, ∃ l : Int, ∃ g2 c2, ∃ ms : List Int, e = .returned (.tuple #[.slice (some ⟨g, 0, none⟩) ys.length c, .int .i64 l, .slice (some ⟨g2, 0, none⟩) ms.length c2]) ∧ w'.ownsRow w.heap.size 71 4 (.slice (some ⟨g, 0, none⟩) ys.length c) ys.length (cflat ys) ∧ ys.length ≤ 50 ∧
    (0 ≤ l ∧ l ≤ 9) ∧ w'.ownsRow w.heap.size 3 1 (.slice (some ⟨g2, 0, none⟩) ms.length c2) ms.length (ints ms) ∧ ms.length ≤ 33 ∧ Rd w' br 910000000 ∧ w.grownBy w' (some br)
theorem own_far {w w' : World} {base s n br : Nat} {e : TypeId} {v : Value} {xs : List Value} (h : w.ownsRow base e s v n xs) (hg : w.grownBy w' (some br)) (hb : br < base) : w'.ownsRow base e s v n xs :=
  own_apart h hg (fun g e => by injection e with e; omega)
theorem l20Run_any (n : Int) (br N : Nat) (w : World) (hn : 1 ≤ n ∧ n ≤ 1000000) (hN : N ≤ 1000000) (h : Rd w br N) :
    Calls Try.prog 23 #[.pointer (some ⟨br, 0, none⟩), .int .i64 n] w (DrawnRun br w) := by
  have hlt := h.lt
  go_enter Try.func23, Try.ntmps23
  go_wp2_with fail
  refine (l20Program_any n br N w hn hN h).mono ?_
  rintro e w1 ⟨g, c, ys, rfl, hy, ho⟩
  have HO := mkHid ho.2.1
  have HG := mkHid ho.2.2.2.2.1
  have HR := mkHid ho.2.2.2.1
  clear ho h
  go_wp2_with fail
  refine (pick_any _ _ _ _ (by omega) HR.out).mono ?_
  rintro e w2 ⟨r, rfl, r0, r1, hr, hg⟩
  have HR05 : Hid (0 ≤ r ∧ r < 5) := mkHid ⟨r0, r1 (by omega)⟩
  clear r0 r1
  have h05 := HR05.out
  have HO2 := mkHid (own_far HO.out hg hlt)
  have HG2 := mkHid (grown_trans HG.out hg)
  have HR2 := mkHid hr
  clear hr hg HO HG HR
  go_wp2_with fail
  refine (oddAny _ _ _ _ (by omega) (by omega) (by omega) HR2.out).mono ?_
  rintro e w3 ⟨b, rfl, hr, hg⟩
  have HO3 := mkHid (own_far HO2.out hg hlt)
  have HG3 := mkHid (grown_trans HG2.out hg)
  have HR3 := mkHid hr
  clear hr hg HO2 HG2 HR2
  cases b with
  | true =>
    obtain ⟨l, hl⟩ : ∃ l : Int, l = 8 := ⟨_, rfl⟩
    have HL : Hid (1 ≤ l ∧ l ≤ 8) := mkHid (by have := HR05.out; omega)
    go_upto_region 5 with fail
    rw [← hl]
    clear hl
    go_wp2_with fail
    refine (oddAny _ _ _ _ (by omega) (by omega) (by omega) HR3.out).mono ?_
    rintro e w4 ⟨b2, rfl, hr, hg⟩
    have HO4 := mkHid (own_far HO3.out hg hlt)
    have HG4 := mkHid (grown_trans HG3.out hg)
    have HR4 := mkHid hr
    clear hr hg HO3 HG3 HR3
    cases b2 with
    | true =>
      go_wp2_with fail
      have hal : Below w4.heap.size w4 (w4.alloc (.cells #[.int .i64 0, .int .i64 9] 3)) := (Below.refl _ _).alloc (Nat.le_refl _) _
      have hq4 : (w4.alloc (.cells #[.int .i64 0, .int .i64 9] 3)).heap[w4.heap.size]? = some (.cells #[.int .i64 0, .int .i64 9] 3 (0, 0)) := heap_alloc_new w4 _
      refine (pick_any _ _ _ _ (by omega) (HR4.out.below hal)).mono ?_
      rintro e w5 ⟨r2, rfl, r20, r21, hr, hg⟩
      have r21 := r21 (by omega)
      have hbr4 := HR4.out.lt
      have hq5 := (hg.block _ (Array.getElem?_eq_some_iff.1 hq4).1 (fun e => by injection e with e; omega)).trans hq4
      have k0 : w5.cell? ⟨w4.heap.size, 0, none⟩ = some (.int .i64 0) := cell_of_row _ _ _ _ _ _ hq5
      have k1 : w5.cell? ⟨w4.heap.size, 1, none⟩ = some (.int .i64 9) := cell_of_row _ _ _ _ _ _ hq5
      have HO5 := mkHid (own_far (own_below HO4.out hal) hg hlt)
      have HG5 := mkHid (grown_trans (grown_below HG4.out hal) hg)
      have HR5 := mkHid hr
      clear hr hg hal hq4 hq5
      have h01 : r2 = 0 ∨ r2 = 1 := by omega
      rcases h01 with rfl | rfl
      all_goals (
        go_wp2_with fail
        refine (l20Memory_any n _ _ _ hn (by omega) HR5.out).mono ?_
        rintro e w6 ⟨g5, c5, ms, rfl, o5, hm5, _, r5, gg5⟩
        have O5 := mkHid (own_base o5 HG5.out.size)
        have O45 := mkHid (own_far HO5.out gg5 hlt)
        have G5 := mkHid (grown_trans HG5.out gg5)
        have R5 : Hid (Rd _ br 910000000) := mkHid (r5.mono (by omega))
        clear o5 r5 gg5
        go_wp2_with fail
        go_ret3
        exact ⟨g, c, ys, _, g5, c5, ms, rfl, O45.out, hy, by omega, O5.out, hm5, R5.out, G5.out⟩)
    | false =>
      go_wp2_with fail
      refine (l20Memory_any n _ _ _ hn (by omega) HR4.out).mono ?_
      rintro e w5 ⟨g5, c5, ms, rfl, o5, hm5, _, r5, gg5⟩
      have O5 := mkHid (own_base o5 HG4.out.size)
      have O45 := mkHid (own_far HO4.out gg5 hlt)
      have G5 := mkHid (grown_trans HG4.out gg5)
      have R5 : Hid (Rd _ br 910000000) := mkHid (r5.mono (by omega))
      clear o5 r5 gg5
      have hl := HL.out
      go_wp2_with fail
      go_ret3
      exact ⟨g, c, ys, l, g5, c5, ms, rfl, O45.out, hy, by omega, O5.out, hm5, R5.out, G5.out⟩
  | false =>
    obtain ⟨l, hl⟩ : ∃ l : Int, l = 1 + r := ⟨_, rfl⟩
    have HL : Hid (1 ≤ l ∧ l ≤ 8) := mkHid (by have := HR05.out; omega)
    go_upto_region 5 with fail
    rw [← hl]
    clear hl
    go_wp2_with fail
    refine (oddAny _ _ _ _ (by omega) (by omega) (by omega) HR3.out).mono ?_
    rintro e w4 ⟨b2, rfl, hr, hg⟩
    have HO4 := mkHid (own_far HO3.out hg hlt)
    have HG4 := mkHid (grown_trans HG3.out hg)
    have HR4 := mkHid hr
    clear hr hg HO3 HG3 HR3
    cases b2 with
    | true =>
      go_wp2_with fail
      have hal : Below w4.heap.size w4 (w4.alloc (.cells #[.int .i64 0, .int .i64 9] 3)) := (Below.refl _ _).alloc (Nat.le_refl _) _
      have hq4 : (w4.alloc (.cells #[.int .i64 0, .int .i64 9] 3)).heap[w4.heap.size]? = some (.cells #[.int .i64 0, .int .i64 9] 3 (0, 0)) := heap_alloc_new w4 _
      refine (pick_any _ _ _ _ (by omega) (HR4.out.below hal)).mono ?_
      rintro e w5 ⟨r2, rfl, r20, r21, hr, hg⟩
      have r21 := r21 (by omega)
      have hbr4 := HR4.out.lt
      have hq5 := (hg.block _ (Array.getElem?_eq_some_iff.1 hq4).1 (fun e => by injection e with e; omega)).trans hq4
      have k0 : w5.cell? ⟨w4.heap.size, 0, none⟩ = some (.int .i64 0) := cell_of_row _ _ _ _ _ _ hq5
      have k1 : w5.cell? ⟨w4.heap.size, 1, none⟩ = some (.int .i64 9) := cell_of_row _ _ _ _ _ _ hq5
      have HO5 := mkHid (own_far (own_below HO4.out hal) hg hlt)
      have HG5 := mkHid (grown_trans (grown_below HG4.out hal) hg)
      have HR5 := mkHid hr
      clear hr hg hal hq4 hq5
      have h01 : r2 = 0 ∨ r2 = 1 := by omega
      rcases h01 with rfl | rfl
      all_goals (
        go_wp2_with fail
        refine (l20Memory_any n _ _ _ hn (by omega) HR5.out).mono ?_
        rintro e w6 ⟨g5, c5, ms, rfl, o5, hm5, _, r5, gg5⟩
        have O5 := mkHid (own_base o5 HG5.out.size)
        have O45 := mkHid (own_far HO5.out gg5 hlt)
        have G5 := mkHid (grown_trans HG5.out gg5)
        have R5 : Hid (Rd _ br 910000000) := mkHid (r5.mono (by omega))
        clear o5 r5 gg5
        go_wp2_with fail
        go_ret3
        exact ⟨g, c, ys, _, g5, c5, ms, rfl, O45.out, hy, by omega, O5.out, hm5, R5.out, G5.out⟩)
    | false =>
      go_wp2_with fail
      refine (l20Memory_any n _ _ _ hn (by omega) HR4.out).mono ?_
      rintro e w5 ⟨g5, c5, ms, rfl, o5, hm5, _, r5, gg5⟩
      have O5 := mkHid (own_base o5 HG4.out.size)
      have O45 := mkHid (own_far HO4.out gg5 hlt)
      have G5 := mkHid (grown_trans HG4.out gg5)
      have R5 : Hid (Rd _ br 910000000) := mkHid (r5.mono (by omega))
      clear o5 r5 gg5
      have hl := HL.out
      go_wp2_with fail
      go_ret3
      exact ⟨g, c, ys, l, g5, c5, ms, rfl, O45.out, hy, by omega, O5.out, hm5, R5.out, G5.out⟩
/-- the draw of a run in an order. -/
def DrawnRunOrder (w : World) (e : Ending) (w' : World) : Prop :=
  ∃ g c, ∃ ys : List Cd, ∃ l : Int, ∃ g2 c2, ∃ ms : List Int, ∃ g3 c3, ∃ os : List Int, e = .returned (.tuple #[.slice (some ⟨g, 0, none⟩) ys.length c, .int .i64 l, .slice (some ⟨g2, 0, none⟩) ms.length c2, .slice (some ⟨g3, 0, none⟩) os.length c3]) ∧
    Sl w' (some ⟨g, 0, none⟩) (cflat ys) ∧ ys.length ≤ 50 ∧ Sl w' (some ⟨g2, 0, none⟩) (ints ms) ∧ ms.length ≤ 33 ∧ Sl w' (some ⟨g3, 0, none⟩) (ints os) ∧ os.length ≤ 41 ∧ Below w.heap.size w w'
theorem drawRunOrder_any (A : Option Addr) (c : Nat) (zs : List Int) (w : World) (hl : zs.length ≤ 9223372036854775807) (hcap : zs.length ≤ c) (hs : Sl w A (u8s zs)) (hz : ∀ z ∈ zs, 0 ≤ z ∧ z ≤ 255) :
    Calls Try.prog 6 #[.slice A zs.length c] w (DrawnRunOrder w) := by
  go_enter Try.func6, Try.ntmps6
  go_wp2_with fail
  refine (l20Open_any _ _ _ _ hl hcap hs hz).mono ?_
  rintro e w1 ⟨br, rfl, hbr, r1, b1⟩
  have HB1 := mkHid b1
  have HR1 := mkHid r1
  have hlt := r1.lt
  clear b1 hs hz r1
  go_wp2_with fail
  refine (l20Run_any 20 br 0 w1 (by omega) (by omega) HR1.out).mono ?_
  rintro e w2 ⟨g, c', ys, l, g2, c2, ms, rfl, o1, hy, hl2, o2, hm, r2, g2'⟩
  have O1 := mkHid o1
  have O2 := mkHid o2
  have HR2 := mkHid r2
  have HB2 := mkHid (HB1.out.grown g2' HB1.out.size (fun g e => by injection e with e; omega))
  clear o1 o2 r2 g2'
  go_wp2_with fail
  refine (l20Order_any l 14 br 910000000 w2 (by omega) (by omega) (by omega) HR2.out).mono ?_
  rintro e w3 ⟨g3, c3, os, rfl, o3, ho, _, r3, g3'⟩
  have O13 := mkHid (own_far O1.out g3' hlt)
  have O23 := mkHid (own_far O2.out g3' hlt)
  have O3 := mkHid o3
  have HB3 := mkHid (HB2.out.grown g3' HB2.out.size (fun g e => by injection e with e; omega))
  clear o3 r3 g3'
  go_wp2_with fail
  refine bodyPost_ret (v := .tuple #[.slice (some ⟨g, 0, none⟩) ys.length c', .int .i64 l, .slice (some ⟨g2, 0, none⟩) ms.length c2, .slice (some ⟨g3, 0, none⟩) os.length c3]) (by simp [results, Try.results6, go_sem]) rfl ?_
  exact ⟨g, c', ys, l, g2, c2, ms, g3, c3, os, rfl, Sl.of_own O13.out, hy, Sl.of_own O23.out, hm, Sl.of_own O3.out, ho, HB3.out⟩
end Go.Proofs.Ythpabcgnijfiaaa
