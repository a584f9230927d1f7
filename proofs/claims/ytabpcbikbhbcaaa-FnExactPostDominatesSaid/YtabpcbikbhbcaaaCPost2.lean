/-
  Contracts of PostDominates of the program and of the reference.
-/
import Derived.Test.YtabpcbikbhbcaaaCPost
namespace Go.Proofs.Ytabpcbikbhbcaaa
open Go.RowKit
set_option maxHeartbeats 2000000
set_option linter.unusedVariables false

theorem lit_ints (w : World) (zs : List Int) : Sl (w.alloc (.cells (ints zs).toArray 3)) (some ⟨w.heap.size, 0, none⟩) (ints zs) :=
  .inr ⟨w.heap.size, 0, rfl, fun j u hu => by have := newCells w (ints zs) 3 j u hu; rwa [add_flat] at this⟩
theorem implPostDominates_any (A : Option Addr) (c : Nat) (rs : List Row) (a b e : Int) (w : World) (hn : rs.length ≤ 1000000000) (hs : Grid w A rs) :
    Calls Try.prog 30 #[.slice A rs.length c, .int .i64 a, .int .i64 b, .int .i64 e] w fun en w' => en = .returned (.bool (postDom (graph rs) a b e)) ∧ Below w.heap.size w w' := by
  have hgl : (graph rs).length = rs.length := by simp
  have hb0 : Below w.heap.size w (w.alloc (.cells #[.int .i64 a, .int .i64 b, .int .i64 e] 3)) := (Below.refl _ _).alloc (Nat.le_refl _) _
  have hA := areNodes_any A c rs (some ⟨w.heap.size, 0, none⟩) 3 [a, b, e] (w.alloc (.cells #[.int .i64 a, .int .i64 b, .int .i64 e] 3)) hn (by simp) (hs.below hb0) (lit_ints w [a, b, e])
  obtain ⟨v, hv⟩ : ∃ v, v = ([a, b, e].all (nodeB (graph rs)) && graphValid (graph rs)) := ⟨_, rfl⟩
  rw [← hv] at hA
  have hP : postDom (graph rs) a b e = (v && (reachAt (graph rs) a (-1) e && (a == b || !reachAt (graph rs) a b e))) := by
    unfold postDom
    rw [hv]
    simp only [List.all_cons, List.all_nil, Bool.and_true]
    cases graphValid (graph rs) <;> cases nodeB (graph rs) a <;> cases nodeB (graph rs) b <;> cases nodeB (graph rs) e <;> simp
  have HA := mkHid hA
  have HP := mkHid hP
  have HB0 := mkHid hb0
  have HS := mkHid (hs.below hb0)
  have HV := mkHid hv
  have HGL := mkHid hgl
  clear hA hP hb0 hs hv hgl
  cases v with
  | false =>
    go_enter Try.func30, Try.ntmps30
    go_wp2_with fail
    refine HA.out.mono ?_
    rintro en w2 ⟨rfl, rfl⟩
    go_wp2_with fail
    go_ret
    exact ⟨ret_bool (by rw [HP.out]; rfl), HB0.out⟩
  | true =>
    have hv := HV.out.symm
    simp only [List.all_cons, List.all_nil, Bool.and_true, Bool.and_eq_true] at hv
    obtain ⟨⟨ha, hb, he⟩, hgv⟩ := hv
    unfold nodeB at ha hb he
    rw [HGL.out] at ha hb he
    have ha := inB_t ha
    have hb := inB_t hb
    have he := inB_t he
    obtain ⟨a, rfl⟩ := Int.eq_ofNat_of_zero_le ha.1
    obtain ⟨b, rfl⟩ := Int.eq_ofNat_of_zero_le hb.1
    obtain ⟨e, rfl⟩ := Int.eq_ofNat_of_zero_le he.1
    have hD := postDominates_any A c rs a b e (w.alloc (.cells #[.int .i64 a, .int .i64 b, .int .i64 e] 3)) hn hgv HS.out (by omega) (by omega) (by omega)
    have HD := mkHid hD
    clear hD hgv ha hb he HV HS
    go_enter Try.func30, Try.ntmps30
    go_wp2_with fail
    refine HA.out.mono ?_
    rintro en w2 ⟨rfl, rfl⟩
    go_wp2_with fail
    refine HD.out.mono ?_
    rintro en w2 ⟨rfl, b2⟩
    have HB2 := mkHid (below_then HB0.out b2)
    clear b2
    go_wp2_with fail
    go_ret
    exact ⟨ret_bool (by rw [HP.out, Bool.true_and]), HB2.out⟩
theorem specPostDominates_any (A : Option Addr) (c : Nat) (rs : List Row) (a b e : Int) (w : World) (hn : rs.length ≤ 1000000000) (hs : Grid w A rs) :
    Calls Try.prog 29 #[.slice A rs.length c, .int .i64 a, .int .i64 b, .int .i64 e] w fun en w' => en = .returned (.bool (postDom (graph rs) a b e)) ∧ Below w.heap.size w w' := by
  have hgl : (graph rs).length = rs.length := by simp
  have hV := specGraphValid_any A c rs w (by omega) hs
  obtain ⟨v0, h0⟩ : ∃ v, v = graphValid (graph rs) := ⟨_, rfl⟩
  obtain ⟨v1, h1⟩ : ∃ v, v = nodeB (graph rs) a := ⟨_, rfl⟩
  obtain ⟨v2, h2⟩ : ∃ v, v = nodeB (graph rs) b := ⟨_, rfl⟩
  obtain ⟨v3, h3⟩ : ∃ v, v = nodeB (graph rs) e := ⟨_, rfl⟩
  rw [← h0] at hV
  have e1 : inB a 0 ((rs.length : Int) - 1) = v1 := by rw [h1]; unfold nodeB; rw [hgl]
  have e2 : inB b 0 ((rs.length : Int) - 1) = v2 := by rw [h2]; unfold nodeB; rw [hgl]
  have e3 : inB e 0 ((rs.length : Int) - 1) = v3 := by rw [h3]; unfold nodeB; rw [hgl]
  have hC1 := fun w => l1In_any a 0 ((rs.length : Int) - 1) w
  simp only [e1] at hC1
  have hC2 := fun w => l1In_any b 0 ((rs.length : Int) - 1) w
  simp only [e2] at hC2
  have hC3 := fun w => l1In_any e 0 ((rs.length : Int) - 1) w
  simp only [e3] at hC3
  have hP : postDom (graph rs) a b e = ((v0 && v1 && v2 && v3) && (reachAt (graph rs) a (-1) e && (a == b || !reachAt (graph rs) a b e))) := by
    unfold postDom; rw [h0, h1, h2, h3]
  have HV := mkHid hV
  have HC1 := mkHid hC1
  have HC2 := mkHid hC2
  have HC3 := mkHid hC3
  have HP := mkHid hP
  have HS := mkHid hs
  have HGL := mkHid hgl
  have H0 := mkHid h0
  have E1 := mkHid e1
  have E2 := mkHid e2
  have E3 := mkHid e3
  clear hV hC1 hC2 hC3 hP hs hgl h0 h1 h2 h3 e1 e2 e3
  go_enter Try.func29, Try.ntmps29
  go_wp2_with fail
  refine HV.out.mono ?_
  rintro en w0 ⟨rfl, q0, rfl⟩
  have HB := mkHid (below_drewN (Below.refl w.heap.size w) q0)
  have HS0 := mkHid (HS.out.drewN q0)
  generalize w.drewN q0 = w0 at *
  cases v0
  case false =>
    go_wp2_with fail
    go_ret
    exact ⟨ret_bool (by rw [HP.out]; rfl), HB.out⟩
  case true =>
    go_wp2_with fail
    refine (HC1.out _).mono ?_
    rintro en w' ⟨rfl, rfl⟩
    cases v1
    case false =>
      go_wp2_with fail
      go_ret
      exact ⟨ret_bool (by rw [HP.out]; rfl), HB.out⟩
    case true =>
      go_wp2_with fail
      refine (HC2.out _).mono ?_
      rintro en w' ⟨rfl, rfl⟩
      cases v2
      case false =>
        go_wp2_with fail
        go_ret
        exact ⟨ret_bool (by rw [HP.out]; rfl), HB.out⟩
      case true =>
        go_wp2_with fail
        refine (HC3.out _).mono ?_
        rintro en w' ⟨rfl, rfl⟩
        cases v3
        case false =>
          go_wp2_with fail
          go_ret
          exact ⟨ret_bool (by rw [HP.out]; rfl), HB.out⟩
        case true =>
          have ha := inB_t E1.out
          have hb := inB_t E2.out
          have he := inB_t E3.out
          obtain ⟨a, rfl⟩ := Int.eq_ofNat_of_zero_le ha.1
          obtain ⟨b, rfl⟩ := Int.eq_ofNat_of_zero_le hb.1
          obtain ⟨e, rfl⟩ := Int.eq_ofNat_of_zero_le he.1
          have hgv := H0.out.symm
          have l1 := reachB_length (wo := -1) (src := (a : Int)) hgv (by rw [HGL.out]; omega)
          have l2 := reachB_length (wo := (b : Int)) (src := (a : Int)) hgv (by rw [HGL.out]; omega)
          rw [HGL.out] at l1 l2
          have L1 := mkHid l1
          have L2 := mkHid l2
          have hr1 := specReach_yes A c rs a (-1) w0 hgv HS0.out (by omega) (by omega)
          have HR1 := mkHid hr1
          have hel : e < rs.length := by omega
          have hal : a < rs.length := by omega
          have hbl : (b : Int) < rs.length := by omega
          have HGV := mkHid hgv
          clear l1 l2 hr1 hgv ha hb he
          go_wp2_with fail
          refine HR1.out.mono ?_
          rintro en w1 ⟨A1, c1, rfl, o1, b1⟩
          rw [L1.out]
          obtain ⟨bb, off, rfl, hc⟩ := reachAt_cell (Sl.of_own o1) (show e < (reachB (graph rs) a (-1)).length by rw [L1.out]; exact hel)
          have HB1 := mkHid (below_then HB.out b1)
          have hs1 := HS0.out.below b1
          have h2 := specReach_yes A c rs a b w1 HGV.out hs1 hal (by omega)
          have H2 := mkHid h2
          clear o1 b1 hs1 h2 HR1
          obtain ⟨r1, hr1⟩ : ∃ r, r = reachAt (graph rs) a (-1) e := ⟨_, rfl⟩
          obtain ⟨r2, hr2⟩ : ∃ r, r = reachAt (graph rs) a b e := ⟨_, rfl⟩
          rw [← hr1] at hc
          rw [← hr1, ← hr2] at HP
          have HR2 := mkHid hr2
          clear hr1 hr2
          cases r1 with
          | false =>
            go_wp2_with fail
            go_ret
            exact ⟨ret_bool (by rw [HP.out]; simp), HB1.out⟩
          | true =>
            cases hab : (a : Int) == b with
            | true =>
              have HAB := mkHid hab
              go_wp2_with fail
              go_ret
              exact ⟨ret_bool (by rw [HP.out, HAB.out]; rfl), HB1.out⟩
            | false =>
              have HAB := mkHid hab
              go_wp2_with fail
              refine H2.out.mono ?_
              rintro en w2 ⟨A2, c2, rfl, o2, b2⟩
              rw [L2.out]
              obtain ⟨b3, off3, rfl, hc3⟩ := reachAt_cell (Sl.of_own o2) (show e < (reachB (graph rs) a b).length by rw [L2.out]; exact hel)
              rw [← HR2.out] at hc3
              have HB2 := mkHid (below_then HB1.out b2)
              clear o2 b2 hc
              go_wp2_with fail
              go_ret
              exact ⟨ret_bool (by rw [HP.out, HAB.out]; simp), HB2.out⟩
end Go.Proofs.Ytabpcbikbhbcaaa
