/-
  Contracts of GraphReach of the reference (all arguments), and of PostDominates of the program and of the reference.
-/
import Derived.Test.YtabpcbikbhbcaaaCReach4
namespace Go.Proofs.Ytabpcbikbhbcaaa
open Go.RowKit
set_option maxHeartbeats 2000000
set_option linter.unusedVariables false

theorem RetBools_empty (w W : World) (e : TypeId) (h : Below w.heap.size w W) (he : e = 4) : RetBools [] w (.returned (.slice (some ⟨W.heap.size, 0, none⟩) 0 0)) (W.alloc (.cells #[] e)) := by
  subst he
  exact ⟨some ⟨W.heap.size, 0, none⟩, 0, rfl, own_base (own_empty W _ _) h.size, h.alloc h.size _⟩
theorem specGraphReach_any (A : Option Addr) (c : Nat) (rs : List Row) (src wo : Int) (w : World) (hn : rs.length ≤ 1000000000) (hs : Grid w A rs) :
    Calls Try.prog 23 #[.slice A rs.length c, .int .i64 src, .int .i64 wo] w (RetBools (graphReach (graph rs) src wo) w) := by
  have hgl : (graph rs).length = rs.length := by simp
  cases hb : reachOk (graph rs) src wo with
  | true =>
    have hbb := hb
    unfold reachOk at hbb
    rw [hgl, Bool.and_eq_true, Bool.and_eq_true] at hbb
    have hsb := inB_t hbb.1.2
    have hwb := inB_t hbb.2
    obtain ⟨sn, rfl⟩ := Int.eq_ofNat_of_zero_le hsb.1
    have := specReach_yes A c rs sn wo w hbb.1.1 hs (by omega) (by omega)
    unfold graphReach
    rw [hb]
    exact this
  | false =>
    have HG : Hid (graphReach (graph rs) src wo = []) := mkHid (by unfold graphReach; rw [hb]; rfl)
    have hV := specGraphValid_any A c rs w (by omega) hs
    obtain ⟨v1, h1⟩ : ∃ v, v = graphValid (graph rs) := ⟨_, rfl⟩
    obtain ⟨v2, h2⟩ : ∃ v, v = inB src 0 ((rs.length : Int) - 1) := ⟨_, rfl⟩
    obtain ⟨v3, h3⟩ : ∃ v, v = inB wo (-1) ((rs.length : Int) - 1) := ⟨_, rfl⟩
    have hbb : (v1 && v2 && v3) = false := by rw [h1, h2, h3, ← hb]; unfold reachOk; rw [hgl]
    rw [← h1] at hV
    have hC1 := fun w => l1In_any src 0 ((rs.length : Int) - 1) w
    simp only [← h2] at hC1
    have hC2 := fun w => l1In_any wo (-1) ((rs.length : Int) - 1) w
    simp only [← h3] at hC2
    have HV := mkHid hV
    have HC1 := mkHid hC1
    have HC2 := mkHid hC2
    clear hV hC1 hC2 hb hs h1 h2 h3 hgl
    cases v1
    case false =>
      clear hbb
      go_enter Try.func23, Try.ntmps23
      go_wp2_with fail
      refine HV.out.mono ?_
      rintro e w0 ⟨rfl, q0, rfl⟩
      have HB := mkHid (below_drewN (Below.refl w.heap.size w) q0)
      generalize w.drewN q0 = w0 at *
      go_wp2_with fail
      go_ret
      rw [HG.out]
      exact RetBools_empty w w0 _ HB.out rfl
    case true =>
      cases v2
      case false =>
        clear hbb
        go_enter Try.func23, Try.ntmps23
        go_wp2_with fail
        refine HV.out.mono ?_
        rintro e w0 ⟨rfl, q0, rfl⟩
        have HB := mkHid (below_drewN (Below.refl w.heap.size w) q0)
        generalize w.drewN q0 = w0 at *
        go_wp2_with fail
        refine (HC1.out _).mono ?_
        rintro e w' ⟨rfl, rfl⟩
        go_wp2_with fail
        go_ret
        rw [HG.out]
        exact RetBools_empty w w0 _ HB.out rfl
      case true =>
        have hv3 : v3 = false := by simpa using hbb
        subst hv3
        clear hbb
        go_enter Try.func23, Try.ntmps23
        go_wp2_with fail
        refine HV.out.mono ?_
        rintro e w0 ⟨rfl, q0, rfl⟩
        have HB := mkHid (below_drewN (Below.refl w.heap.size w) q0)
        generalize w.drewN q0 = w0 at *
        go_wp2_with fail
        refine (HC1.out _).mono ?_
        rintro e w' ⟨rfl, rfl⟩
        go_wp2_with fail
        refine (HC2.out _).mono ?_
        rintro e w' ⟨rfl, rfl⟩
        go_wp2_with fail
        go_ret
        rw [HG.out]
        exact RetBools_empty w w0 _ HB.out rfl
/-! ### PostDominates -/
def nodeB (g : List (List Int)) (a : Int) : Bool := inB a 0 ((g.length : Int) - 1)
def reachAt (g : List (List Int)) (a wo e : Int) : Bool := (reachB g a wo).getD e.toNat false
def postDom (g : List (List Int)) (a b e : Int) : Bool := (graphValid g && nodeB g a && nodeB g b && nodeB g e) && (reachAt g a (-1) e && (a == b || !reachAt g a b e))
theorem reachAt_cell {w : World} {A : Option Addr} {g : List (List Int)} {a wo : Int} {e : Nat} (hs : Sl w A (bools (reachB g a wo))) (he : e < (reachB g a wo).length) :
    ∃ b off, A = some ⟨b, off, none⟩ ∧ w.cell? ⟨b, off + e, none⟩ = some (.bool (reachAt g a wo e)) := by
  obtain ⟨b, off, hA, hc⟩ := hs.at_ (k := e) (by simpa using he)
  refine ⟨b, off, hA, ?_⟩
  rw [hc e _ (bools_at he)]
  simp [reachAt, List.getD, he]
theorem areNodes_any (A : Option Addr) (c : Nat) (rs : List Row) (B : Option Addr) (d : Nat) (zs : List Int) (w : World) (hn : rs.length ≤ 1000000000) (hz : zs.length ≤ 1000000) (hs : Grid w A rs) (hb : Sl w B (ints zs)) :
    Calls Try.prog 46 #[.slice A rs.length c, .slice B zs.length d] w fun e w' => e = .returned (.bool (zs.all (nodeB (graph rs)) && graphValid (graph rs))) ∧ w = w' := by
  have hgl : (graph rs).length = rs.length := by simp
  have HGL := mkHid hgl
  have hV := implGraphValid_any A c rs w (by omega) hs
  have HV := mkHid hV
  clear hgl hV hs
  go_enter Try.func46, Try.ntmps46
  go_wp2_with fail
  go_loop [9] (fun i => ∃ k : Nat, k ≤ zs.length ∧ i = .int .i64 k ∧ Hid ((zs.take k).all (nodeB (graph rs)) = true)) (fun i => zs.length - (intOf i).toNat)
  case atStart => exact ⟨0, by omega, rfl, mkHid (by simp)⟩
  case round =>
    obtain ⟨k, hk, rfl, HA⟩ := hrel
    by_cases hlt : k < zs.length
    · obtain ⟨bb, off, rfl, hc⟩ := hb.at_ (k := k) (by simpa using hlt)
      have h1 : w.cell? ⟨bb, off + k, none⟩ = some (.int .i64 zs[k]) := hc k _ (ints_at hlt)
      have HT : Hid ((zs.take (k + 1)).all (nodeB (graph rs)) = ((zs.take k).all (nodeB (graph rs)) && nodeB (graph rs) zs[k])) := mkHid (by rw [List.take_succ_eq_append_getElem hlt, List.all_append]; simp)
      have HM : Hid (zs[k] ∈ zs) := mkHid (List.getElem_mem hlt)
      obtain ⟨z, hzz⟩ : ∃ z, z = zs[k] := ⟨_, rfl⟩
      rw [← hzz] at h1 HT HM
      have hI := isNode_any A rs.length c z w (by omega)
      have hnb : nodeB (graph rs) z = inB z 0 ((rs.length : Int) - 1) := by unfold nodeB; rw [HGL.out]
      rw [← hnb] at hI
      obtain ⟨v, hv⟩ : ∃ v, v = nodeB (graph rs) z := ⟨_, rfl⟩
      rw [← hv] at hI HT
      have HI := mkHid hI
      have HVV := mkHid hv
      clear hc hzz hI hnb hv
      cases v with
      | false =>
        go_wp2_with fail
        refine HI.out.mono ?_
        rintro e w2 ⟨rfl, rfl⟩
        go_wp2_with fail
        go_ret
        refine ⟨ret_bool ?_, rfl⟩
        have : zs.all (nodeB (graph rs)) = false := by
          rw [List.all_eq_false]
          exact ⟨z, HM.out, by rw [← HVV.out]; simp⟩
        rw [this]; rfl
      | true =>
        go_wp2_with fail
        refine HI.out.mono ?_
        rintro e w2 ⟨rfl, rfl⟩
        go_wp2_with fail
        go_round
        case rel => exact ⟨k + 1, by omega, by go_num, mkHid (by rw [HT.out, HA.out]; rfl)⟩
        case measure => simp [intOf] <;> omega
    · have ha : zs.all (nodeB (graph rs)) = true := by have := HA.out; rwa [List.take_of_length_le (by omega)] at this
      have HAA := mkHid ha
      clear ha HA
      obtain ⟨v, hv⟩ : ∃ v, v = graphValid (graph rs) := ⟨_, rfl⟩
      rw [← hv] at HV
      have HVE := mkHid hv
      clear hv
      go_wp2_with fail
      refine HV.out.mono ?_
      rintro e w2 ⟨rfl, rfl⟩
      go_wp2_with fail
      go_ret
      exact ⟨ret_bool (by rw [HAA.out, Bool.true_and]; exact HVE.out), rfl⟩
theorem postDominates_any (A : Option Addr) (c : Nat) (rs : List Row) (a b e : Nat) (w : World) (hn : rs.length ≤ 1000000000) (hv : graphValid (graph rs) = true) (hs : Grid w A rs) (ha : a < rs.length) (hb : b < rs.length) (he : e < rs.length) :
    Calls Try.prog 47 #[.slice A rs.length c, .int .i64 a, .int .i64 b, .int .i64 e] w fun en w' => en = .returned (.bool (reachAt (graph rs) a (-1) e && ((a : Int) == b || !reachAt (graph rs) a b e))) ∧ Below w.heap.size w w' := by
  have hgl : (graph rs).length = rs.length := by simp
  have l1 := reachB_length (wo := -1) (src := (a : Int)) hv (by rw [hgl]; omega)
  have l2 := reachB_length (wo := (b : Int)) (src := (a : Int)) hv (by rw [hgl]; omega)
  rw [hgl] at l1 l2
  have h1 := reach_any A c rs a (-1) w hv hs ha
  have H1 := mkHid h1
  have HS := mkHid hs
  have HV := mkHid hv
  have L1 := mkHid l1
  have L2 := mkHid l2
  obtain ⟨r1, hr1⟩ : ∃ r, r = reachAt (graph rs) a (-1) e := ⟨_, rfl⟩
  obtain ⟨r2, hr2⟩ : ∃ r, r = reachAt (graph rs) a b e := ⟨_, rfl⟩
  rw [← hr1, ← hr2]
  have HR1 := mkHid hr1
  have HR2 := mkHid hr2
  clear h1 hs hv l1 l2 hgl hr1 hr2
  go_enter Try.func47, Try.ntmps47
  go_wp2_with fail
  refine H1.out.mono ?_
  rintro en w1 ⟨A1, c1, rfl, o1, b1⟩
  rw [L1.out]
  obtain ⟨bb, off, rfl, hc⟩ := reachAt_cell (Sl.of_own o1) (show e < (reachB (graph rs) a (-1)).length by rw [L1.out]; exact he)
  have HB1 := mkHid b1
  have hs1 := HS.out.below b1
  have h2 := reach_any A c rs a b w1 HV.out hs1 ha
  have H2 := mkHid h2
  clear o1 b1 hs1 h2 H1
  rw [← HR1.out] at hc
  cases r1 with
  | false =>
    go_wp2_with fail
    go_ret
    exact ⟨ret_bool (by simp), HB1.out⟩
  | true =>
    cases hab : (a : Int) == b with
    | true =>
      have HAB := mkHid hab
      go_wp2_with fail
      go_ret
      exact ⟨ret_bool (by rw [HAB.out]; rfl), HB1.out⟩
    | false =>
      have HAB := mkHid hab
      go_wp2_with fail
      refine H2.out.mono ?_
      rintro en w2 ⟨A2, c2, rfl, o2, b2⟩
      rw [L2.out]
      obtain ⟨b3, off3, rfl, hc3⟩ := reachAt_cell (Sl.of_own o2) (show e < (reachB (graph rs) a b).length by rw [L2.out]; exact he)
      rw [← HR2.out] at hc3
      have HB2 := mkHid (below_then HB1.out b2)
      clear o2 b2 hc
      go_wp2_with fail
      go_ret
      exact ⟨ret_bool (by rw [HAB.out]; simp), HB2.out⟩
end Go.Proofs.Ytabpcbikbhbcaaa
