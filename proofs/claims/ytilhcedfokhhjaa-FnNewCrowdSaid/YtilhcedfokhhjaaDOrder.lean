/-
  Contracts of the draws of orders: l20Order, DrawOrderValid.
-/
import Derived.Test.YtilhcedfokhhjaaDReg
import Derived.Test.YtilhcedfokhhjaaLibApp
namespace Go.Proofs.Ytilhcedfokhhjaa
open Go.RowKit
set_option maxHeartbeats 1000000
set_option linter.unusedVariables false

theorem own_lit (w : World) (us : List Value) (e : TypeId) (hm : us.length ≤ 1000000) : (w.alloc (.cells us.toArray e)).ownsRow w.heap.size e 1 (.slice (some ⟨w.heap.size, 0, none⟩) us.length us.length) us.length us :=
  ⟨by simp, .inr ⟨w.heap.size, us.length, us.toArray, rfl, Nat.le_refl _, heap_alloc_new w _, Nat.le_refl _, by simp only [maxLen]; omega, by simp, by simp⟩⟩
theorem own_prefix {w : World} {base : Nat} {e : TypeId} {n c m : Nat} {A : Option Addr} {xs : List Value} (h : w.ownsRow base e 1 (.slice A n c) n xs) (hm : m ≤ n) : w.ownsRow base e 1 (.slice A m c) m (xs.take m) := by
  have hl := h.1
  refine ⟨by rw [List.length_take]; omega, ?_⟩
  rcases h.2 with ⟨hv, h0⟩ | ⟨g, cap, cur, hv, hb, hg, hn, hx, hs, ht⟩
  · left
    injection hv with h1 h2 h3
    subst h1
    have : m = 0 := by omega
    subst this
    exact ⟨by rw [h3], rfl⟩
  · right
    injection hv with h1 h2 h3
    refine ⟨g, cap, cur, by rw [h1, h3], hb, hg, by omega, hx, hs, ?_⟩
    rw [← ht, Nat.mul_one, Nat.mul_one, List.take_take, Nat.min_eq_left hm]
def zerosL (n : Nat) : List Int := List.replicate n 0
theorem madeZeros (n : Nat) : (madeCells (Value.int .i64 0).cells (n * 1)).toList = ints (zerosL n) := by
  apply List.ext_getElem?
  intro i
  by_cases h : i < n
  · simp [madeCells, h, Value.cells, ints, Nat.mod_one, zerosL]
  · rw [List.getElem?_eq_none (by simp [madeCells]; omega), List.getElem?_eq_none (by simp [ints, zerosL]; omega)]
def smallLane (z : Int) : Prop := -1000 ≤ z ∧ z ≤ 1000
/-- a list of numbers is drawn, in memory of the draw's own. -/
def DrawnRow (m : Nat) (br N : Nat) (w : World) (e : Ending) (w' : World) : Prop :=
  ∃ g c ys, e = .returned (.slice (some ⟨g, 0, none⟩) ys.length c) ∧ w'.ownsRow w.heap.size 3 1 (.slice (some ⟨g, 0, none⟩) ys.length c) ys.length (ints ys) ∧ ys.length ≤ m ∧ (∀ z ∈ ys, smallLane z) ∧ Rd w' br N ∧ w.grownBy w' (some br)

theorem oddAny (n : Int) (br N : Nat) (w : World) (hn : 1 ≤ n) (hn' : n ≤ 1000000) (hN : N ≤ 1000000000) (h : Rd w br N) :
    Calls Try.prog 59 #[.pointer (some ⟨br, 0, none⟩), .int .i64 n] w fun e w' => ∃ b : Bool, e = .returned (.bool b) ∧ Rd w' br (N + 1) ∧ w.grownBy w' (some br) := by
  go_enter Try.func59, Try.ntmps59
  go_wp2_with fail
  refine (pick_any _ _ _ _ hN h).mono ?_
  rintro e w1 ⟨r, rfl, h0, h1, hr, hg⟩
  have HR := mkHid hr
  have HG := mkHid hg
  clear hr hg h1 h
  go_wp2_with fail
  go_ret
  exact ⟨_, rfl, HR.out, HG.out⟩
theorem l20Order_any (lanes n : Int) (br N : Nat) (w : World) (hl : -10 ≤ lanes ∧ lanes ≤ 12) (hn : 1 ≤ n ∧ n ≤ 1000000) (hN : N ≤ 900000000) (h : Rd w br N) :
    Calls Try.prog 41 #[.pointer (some ⟨br, 0, none⟩), .int .i64 lanes, .int .i64 n] w (DrawnRow 41 br (N + 40) w) := by
  have hlt0 := h.lt
  obtain ⟨i0, hi0, hz0, hz1, hz2⟩ := info_parts Ei.hi
  go_enter Try.func41, Try.ntmps41
  go_wp2_with fail
  refine (pick_any _ _ N _ (by omega) (h.below ((Below.refl _ _).alloc (Nat.le_refl _) _))).mono ?_
  rintro e w1 ⟨r, rfl, hr0, hr1, r1, g1⟩
  have hr1 := hr1 (by omega)
  have o1 := own_grown (own_empty w 3 1) g1 (by simp [Value.ownBlock]; omega)
  have HO1 := mkHid o1
  have HG1 := mkHid (grown_trans (World.grownBy_alloc _ _ _) g1)
  have R1 := mkHid r1
  clear o1 g1 h r1
  obtain ⟨j0, rfl⟩ := Int.eq_ofNat_of_zero_le hr0
  go_wp2_with fail
  go_loopw [7, 8] (fun v i wr => ∃ j : Nat, i = .int .i64 j ∧ ∃ g c ys, v = .slice (some ⟨g, 0, none⟩) ys.length c ∧ wr.ownsRow w.heap.size 3 1 (.slice (some ⟨g, 0, none⟩) ys.length c) ys.length (ints ys) ∧ ys.length + j ≤ 11 ∧ (∀ z ∈ ys, smallLane z) ∧ Rd wr br (N + 1 + ys.length) ∧ w.grownBy wr (some br)) (fun _ i _ => (intOf i).toNat)
  case atStart => exact ⟨j0, rfl, _, 0, [], rfl, HO1.out, by simp; omega, by simp, R1.out, HG1.out⟩
  case round =>
    obtain ⟨j, rfl, g, c, ys, rfl, hown, hj, hd, hrd, hgr⟩ := hrel
    have hsz := hgr.size
    have HO := mkHid hown
    have HG := mkHid hgr
    have HD := mkHid hd
    have HRD := mkHid hrd
    clear hown hgr hd R1 HG1 HO1 hrd
    by_cases hlt : 0 < j
    · go_wp2_with fail
      all_goals (
        refine (pick_any _ _ _ _ (by omega) HRD.out).mono ?_
        rintro e w3 ⟨q, rfl, a1, a1', r3, g3⟩
        have a1' := a1' (by omega)
        have HQ := mkHid (show smallLane q by unfold smallLane; omega)
        have HR3 := mkHid r3
        have HO3 := mkHid (own_grown HO.out g3 (fun g e => by have := (HO.out.lt g e).1; omega))
        have HG3 := mkHid (grown_trans HG.out g3)
        have hsz3 := HG3.out.size
        clear g3 r3 a1'
        go_wp2_with (at_builtin; refine wpList_appS Ei (HO3.out.alloc _) (newCells _ _ _) rfl (by simp [Value.oneCell']) (by omega) (by omega) (by simp; omega) rfl rfl rfl rfl ?_; intro g' c' w4 hown4 hg4; have HO4 := mkHid hown4; have HG4 := mkHid hg4; clear hown4 hg4)
        go_roundw
        case rel =>
          refine ⟨j - 1, by congr 1; omega, g', c', ys ++ [q], by simp, ?_, by simp; omega, ?_, ?_, ?_⟩
          · have := HO4.out
            rw [List.length_append]
            simpa [ints] using this
          · intro z hz
            rcases List.mem_append.1 hz with h | h
            · exact HD.out z h
            · simp only [List.mem_singleton] at h
              subst h
              exact HQ.out
          · refine Rd.mono (N := N + 1 + ys.length + 1) ?_ (by simp; omega)
            exact (HR3.out.below ((Below.refl _ _).alloc (Nat.le_refl _) _)).app (HO3.out.alloc _) hlt0 HG4.out
          · exact grown_app (grown_trans HG3.out (World.grownBy_alloc _ _ _)) (HO3.out.alloc _) (Nat.le_refl _) HG4.out
        case measure => simp [intOf] <;> omega)
    · generalize hjj : (j : Int) = jz at *
      have hlt' : ¬ 0 < jz := by omega
      have hj11 : ys.length ≤ 11 := by omega
      have R11 := mkHid (HRD.out.mono (M := N + 12) (by omega))
      clear HRD hj hlt hjj
      go_wp2_with fail
      go_loopw [7, 9] (fun v i wr => ∃ j : Nat, i = .int .i64 j ∧ (j = 0 ∨ (j : Int) ≤ lanes) ∧ ∃ g c ys, v = .slice (some ⟨g, 0, none⟩) ys.length c ∧ wr.ownsRow w.heap.size 3 1 (.slice (some ⟨g, 0, none⟩) ys.length c) ys.length (ints ys) ∧ ys.length ≤ 11 + j ∧ (∀ z ∈ ys, smallLane z) ∧ Rd wr br (N + 12 + j) ∧ w.grownBy wr (some br)) (fun _ i _ => lanes.toNat - (intOf i).toNat)
      case atStart => exact ⟨0, rfl, .inl rfl, g, c, ys, rfl, HO.out, by omega, HD.out, R11.out, HG.out⟩
      case round =>
        obtain ⟨j, rfl, hjl, g, c, ys, rfl, hown, hj, hd, hrd, hgr⟩ := hrel
        have hsz := hgr.size
        clear HO HG HD R11 hj11 hsz
        have hsz := hgr.size
        have HO := mkHid hown
        have HG := mkHid hgr
        have HD := mkHid hd
        have HRD := mkHid hrd
        clear hown hgr hd hrd
        by_cases hlt : (j : Int) < lanes
        · have HQ := mkHid (show smallLane (j : Int) by unfold smallLane; omega)
          go_wp2_with fail
          refine (pick_any _ _ _ _ (by omega) HRD.out).mono ?_
          rintro e w3 ⟨q, rfl, a1, a1', r3, g3⟩
          have a1' := a1' (by omega)
          have HR3 := mkHid r3
          have HO3 := mkHid (own_grown HO.out g3 (fun g e => by have := (HO.out.lt g e).1; omega))
          have HG3 := mkHid (grown_trans HG.out g3)
          have hsz3 := HG3.out.size
          clear g3 r3
          cases hq : q == 0
          · have hol : (w3.alloc (.cells #[.int .i64 (j : Int)] 3)).ownsRow w3.heap.size 3 1 (.slice (some ⟨w3.heap.size, 0, none⟩) 1 1) 1 [.int .i64 (j : Int)] := own_lit w3 [.int .i64 (j : Int)] 3 (by simp)
            have HOL := mkHid hol
            have HN := mkHid (show ∀ p u, (ints ys)[p]? = some u → (w3.alloc (.cells #[.int .i64 (j : Int)] 3)).cell? ((⟨g, 0, none⟩ : Addr).add p) = some u from fun p u hu => by
              have h1 := Sl.of_own (HO3.out.alloc (.cells #[.int .i64 (j : Int)] 3))
              rcases h1 with h1 | ⟨b, off, h1, h2⟩
              · rw [h1] at hu; simp at hu
              · injection h1 with h1
                injection h1 with h1 h1'
                subst h1 h1'
                rw [add_flat]
                exact h2 p u hu)
            clear hol
            go_wp2_with (at_builtin; refine wpList_appS Ei HOL.out HN.out (by simp [ints]) (ints_one ys) (by omega) (by omega) (by simp) rfl rfl rfl rfl ?_; intro g' c' w4 hown4 hg4; have HO4 := mkHid hown4; have HG4 := mkHid hg4; clear hown4 hg4)
            go_roundw
            case rel =>
              refine ⟨j + 1, by go_num, .inr (by omega), g', c', (j : Int) :: ys, by simp [Nat.add_comm], ?_, by simp; omega, ?_, ?_, ?_⟩
              · have := own_base HO4.out (base' := w.heap.size) (by omega)
                simpa [ints, Nat.add_comm] using this
              · intro z hz
                rcases List.mem_cons.1 hz with h | h
                · subst h; exact HQ.out
                · exact HD.out z h
              · refine Rd.mono (N := N + 12 + j + 1) ?_ (by omega)
                exact (HR3.out.below ((Below.refl _ _).alloc (Nat.le_refl _) _)).grown HG4.out (fun g hg => by injection hg with hg; omega)
              · exact grown_app (grown_trans HG3.out (World.grownBy_alloc _ _ _)) HOL.out hsz3 HG4.out
            case measure => simp [intOf] <;> omega
          · go_wp2_with (at_builtin; refine wpList_appS Ei (HO3.out.alloc _) (newCells _ _ _) rfl (by simp [Value.oneCell']) (by omega) (by omega) (by simp; omega) rfl rfl rfl rfl ?_; intro g' c' w4 hown4 hg4; have HO4 := mkHid hown4; have HG4 := mkHid hg4; clear hown4 hg4)
            go_roundw
            case rel =>
              refine ⟨j + 1, by go_num, .inr (by omega), g', c', ys ++ [(j : Int)], by simp, ?_, by simp; omega, ?_, ?_, ?_⟩
              · have := HO4.out
                rw [List.length_append]
                simpa [ints] using this
              · intro z hz
                rcases List.mem_append.1 hz with h | h
                · exact HD.out z h
                · simp only [List.mem_singleton] at h
                  subst h
                  exact HQ.out
              · refine Rd.mono (N := N + 12 + j + 1) ?_ (by omega)
                exact (HR3.out.below ((Below.refl _ _).alloc (Nat.le_refl _) _)).app (HO3.out.alloc _) hlt0 HG4.out
              · exact grown_app (grown_trans HG3.out (World.grownBy_alloc _ _ _)) (HO3.out.alloc _) (Nat.le_refl _) HG4.out
            case measure => simp [intOf] <;> omega
        · have hj12 : j ≤ 12 := by omega
          have HRD2 := mkHid (HRD.out.mono (M := N + 24) (by omega))
          have hy23 : ys.length ≤ 23 := by omega
          clear HRD hjl hj
          go_wp2_with fail
          refine (oddAny _ _ _ _ hn.1 hn.2 (by omega) HRD2.out).mono ?_
          rintro e w3 ⟨b, rfl, r3, g3⟩
          have HO3 := mkHid (own_grown HO.out g3 (fun g e => by have := (HO.out.lt g e).1; omega))
          have HG3 := mkHid (grown_trans HG.out g3)
          have hsz3 := HG3.out.size
          have HR3 := mkHid r3
          clear g3 r3 HRD2 HO HG
          cases b with
          | false =>
            go_wp2_with fail
            go_ret
            exact ⟨g, c, ys, rfl, HO3.out, by omega, HD.out, HR3.out.mono (by omega), HG3.out⟩
          | true =>
            go_wp2_with fail
            refine (pick_any _ _ _ _ (by omega) HR3.out).mono ?_
            rintro e w4 ⟨q, rfl, q0, q1, r4, g4⟩
            have HO4 := mkHid (own_grown HO3.out g4 (fun g e => by have := (HO3.out.lt g e).1; omega))
            have HG4 := mkHid (grown_trans HG3.out g4)
            have hsz4 := HG4.out.size
            have HR4 := mkHid (r4.mono (M := N + 30) (by omega))
            clear g4 r4 HR3 HO3 HG3
            have hcap := own_cap HO4.out
            have q1 := q1 (by omega)
            have hq3 : q = 0 ∨ q = 1 ∨ q = 2 := by omega
            clear q0 q1
            rcases hq3 with rfl | rfl | rfl
            · obtain ⟨hh, hhd⟩ : ∃ hh, hh = ys.length / 2 := ⟨_, rfl⟩
              have e1 : ((ys.length : Nat) : Int) / 2 = (hh : Int) := by omega
              have e2 : ((ys.length : Nat) : Int).tdiv 2 = (hh : Int) := by rw [Int.tdiv_eq_ediv_of_nonneg (by omega)]; exact e1
              have e3 : (hh : Int) ≤ (c : Int) := by omega
              have e4 : hh ≤ c := by omega
              have HP := mkHid (own_prefix HO4.out (m := hh) (by omega))
              have HH := mkHid hhd
              clear hhd
              go_wp2_with fail
              go_ret
              have htl : (ys.take hh).length = hh := by rw [List.length_take, HH.out]; omega
              refine ⟨g, c, ys.take hh, ret_eq (by simp [htl]), ?_, by rw [htl, HH.out]; omega, fun z hz => HD.out z (List.mem_of_mem_take hz), HR4.out.mono (by omega), HG4.out⟩
              rw [htl]
              have := HP.out
              simpa [ints, List.map_take] using this
            · have HQ := mkHid (show smallLane lanes by unfold smallLane; omega)
              go_wp2_with (at_builtin; refine wpList_appS Ei (HO4.out.alloc _) (newCells _ _ _) rfl (by simp [Value.oneCell']) (by omega) (by omega) (by simp; omega) rfl rfl rfl rfl ?_; intro g' c' w5 hown5 hg5; have HO5 := mkHid hown5; have HG5 := mkHid hg5; clear hown5 hg5)
              go_ret
              refine ⟨g', c', ys ++ [lanes], ret_eq (by simp), ?_, by simp; omega, ?_, ?_, ?_⟩
              · have := HO5.out
                rw [List.length_append]
                simpa [ints] using this
              · intro z hz
                rcases List.mem_append.1 hz with h | h
                · exact HD.out z h
                · simp only [List.mem_singleton] at h
                  subst h
                  exact HQ.out
              · exact ((HR4.out.below ((Below.refl _ _).alloc (Nat.le_refl _) _)).app (HO4.out.alloc _) hlt0 HG5.out).mono (by omega)
              · exact grown_app (grown_trans HG4.out (World.grownBy_alloc _ _ _)) (HO4.out.alloc _) (Nat.le_refl _) HG5.out
            · go_wp2_with (at_make; refine wpList_make_full _ rfl _ _ _ rfl w4.heap.size _ i0 _ 1 Ei.ht hi0 hz0 hz1 _ _ _ _ 41 rfl rfl rfl rfl (by rw [hz2]; omega) (by simp only [maxLen]; omega) (Nat.le_refl _) ?_; intro w5 hown5 hg5; have HO5 := mkHid hown5; have HG5 := mkHid hg5; clear hown5 hg5)
              go_ret
              refine ⟨_, _, zerosL 41, rfl, ?_, by simp [zerosL], ?_, ?_, ?_⟩
              · have := HO5.out
                rw [madeZeros] at this
                exact own_base this hsz4
              · intro z hz
                rw [List.eq_of_mem_replicate hz]
                unfold smallLane; omega
              · exact (HR4.out.grown HG5.out (by simp)).mono (by omega)
              · exact grown_trans HG4.out (grown_none HG5.out _)
end Go.Proofs.Ytilhcedfokhhjaa
