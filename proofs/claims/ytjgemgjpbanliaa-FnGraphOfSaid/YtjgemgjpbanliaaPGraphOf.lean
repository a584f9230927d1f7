/-
  Proved: FnGraphOf returns true for every code.
-/
import Derived.Test.YtjgemgjpbanliaaDGraphOf
import Derived.Test.YtjgemgjpbanliaaCGOf
import Derived.Test.YtjgemgjpbanliaaPlainReach3
import Derived.Test.YtjgemgjpbanliaaCSameRows
import Derived.Test.YtjgemgjpbanliaaFrame
namespace Go.Proofs.Ytjgemgjpbanliaa
open Go.ChangeShapes Go.WideShapes Go.ChangeAt Go.RowKit
set_option maxHeartbeats 2000000
set_option linter.unusedVariables false

theorem graphOf_walk (A : Option Addr) (c : Nat) (zs : List Int) (w : World) (hl : zs.length ≤ 9223372036854775807) (hcap : zs.length ≤ c) (hs : Sl w A (u8s zs)) (hz : ∀ z ∈ zs, 0 ≤ z ∧ z ≤ 255) :
    Calls Try.prog 7 #[.slice A zs.length c] w fun e w' => e = .returned (.bool true) ∧ Below w.heap.size w w' := by
  by_cases hbig : 1048576 < zs.length
  · go_enter Try.func7, Try.ntmps7
    go_wp2_with fail
    go_ret
    exact ⟨rfl, Below.refl _ _⟩
  · go_enter Try.func7, Try.ntmps7
    go_wp2_with fail
    refine (drawGraphOf_any _ _ _ _ hl hcap hs hz).mono ?_
    rintro e w1 ⟨g, c1, ys, rfl, s1, hy, b1⟩
    have S1 := mkHid s1
    have B1 := mkHid b1
    clear s1 b1 hs hz
    obtain ⟨bk, hbk⟩ : ∃ bk, bk = gOf ys := ⟨_, rfl⟩
    have hbl : bk.length ≤ 41 := by rw [hbk]; exact gOf_le _
    have HSM := mkHid (show ∀ qs : List Row, graph qs = bk → ∀ r ∈ qs, r.zs.length ≤ 9223372036854775807 from fun qs h => by rw [hbk] at h; exact gOf_small h)
    have himpl := fun A c w hs => implGraphOf_any A c ys w (by omega) hs
    have hspec := fun A c w hs => specGraphOf_any A c ys w (by omega) hs
    rw [← hbk] at himpl hspec
    have HIM := mkHid himpl
    have HSP := mkHid hspec
    have HBK := mkHid hbk
    clear hbk himpl hspec
    go_wp2_with fail
    refine (HIM.out _ _ _ S1.out).mono ?_
    rintro e w2 ⟨A2, c2, q2, rfl, g2, o2, a2, b2⟩
    have L2 := mkHid (graph_length g2)
    have E2 := mkHid g2
    have G2 := mkHid (a2.grid (Sl.of_own o2) (HSM.out q2 g2))
    have S2 := mkHid (S1.out.below b2)
    have B2 := mkHid (below_then B1.out b2)
    clear g2 o2 a2 b2
    go_wp2_with fail
    refine (HSP.out _ _ _ S2.out).mono ?_
    rintro e w3 ⟨A3, c3, q3, rfl, g3, d3, b3⟩
    have E3 := mkHid g3
    have G3 := mkHid d3
    have G23 := mkHid (G2.out.below b3)
    have S3 := mkHid (S2.out.below b3)
    have B3 := mkHid (below_then B2.out b3)
    clear g3 d3 b3
    have hQ := sameRows_same A2 A3 c2 c3 q2 q3 w3 (by have := L2.out; omega) (E2.out.trans E3.out.symm) G23.out G3.out
    rw [L2.out] at hQ
    have HQ := mkHid hQ
    clear hQ
    go_wp2_with fail
    refine HQ.out.mono ?_
    rintro e w4 ⟨rfl, k4, rfl⟩
    have G24 := mkHid (G23.out.drewN k4)
    have S4 := mkHid (S3.out.drewN k4)
    have B4 := mkHid (below_drewN B3.out k4)
    generalize w3.drewN k4 = w4 at *
    obtain ⟨v, hv⟩ : ∃ v, v = progValid ys := ⟨_, rfl⟩
    have hV := specProgramValid_any (some ⟨g, 0, none⟩) c1 ys w4 (by omega) S4.out
    rw [← hv] at hV
    have HV := mkHid hV
    have HVV := mkHid hv
    clear hV hv
    go_wp2_with fail
    refine HV.out.mono ?_
    rintro e w5 ⟨rfl, b5⟩
    have G25 := mkHid (G24.out.below b5)
    have S5 := mkHid (S4.out.below b5)
    have B5 := mkHid (below_then B4.out b5)
    clear b5
    cases v with
    | false =>
      have hb0 : bk = [] := by rw [HBK.out, gOf_no HVV.out.symm]
      subst hb0
      go_wp2_with fail
      refine (alive_any _).mono ?_
      rintro e w9 ⟨rfl, rfl⟩
      go_wp2_with fail
      go_ret
      exact ⟨rfl, B5.out⟩
    | true =>
      have hbal := (progValid_yes HVV.out.symm).2.2
      have hlen : bk.length = List.length ys + 1 := by rw [HBK.out, gOf_yes HVV.out.symm, graphOf_len, ops_len]
      have HLQ := mkHid (show q2.length = List.length ys + 1 from L2.out.trans hlen)
      have HROW := mkHid (show ∀ k (hk : k < List.length ys) (hk2 : k < q2.length), 1 ≤ q2[k].zs.length ∧ q2[k].zs.length ≤ 2 from fun k hk hk2 => by
        have h1 : (graph q2)[k]? = some (succs (ops ys) k) := by
          rw [E2.out, HBK.out, gOf_yes HVV.out.symm, List.getElem?_eq_getElem (by rw [graphOf_len, ops_len]; omega), graphOf_at (by rw [ops_len]; exact hk)]
        simp [hk2] at h1
        rw [h1]
        exact ⟨(succs_in hbal (by rw [ops_len]; exact hk)).2.2.1, succs_len _ _⟩)
      have HLAST := mkHid (show ∀ (h : List.length ys < q2.length), q2[List.length ys].zs = [] from fun h => by
        have h1 : (graph q2)[List.length ys]? = some [] := by
          rw [E2.out, HBK.out, gOf_yes HVV.out.symm]
          unfold graphOf
          rw [List.getElem?_append_right (by simp [ops_len])]
          simp [ops_len]
        simp [h] at h1
        exact h1)
      have HRE := mkHid (show ∀ k, k < List.length ys → ∀ W, Grid W A2 q2 → Calls Try.prog 28 #[.slice A2 (List.length ys + 1) c2, .int .i64 k, .int .i64 (-1)] W fun e w' => ∃ A c, e = .returned (.slice A (List.length ys + 1) c) ∧ (∃ bs : List Bool, Sl w' A (bools bs) ∧ bs[List.length ys]? = some true) ∧ Below W.heap.size W w' from fun k hk W hG => by
        have h1 := implGraphReach_any A2 c2 q2 k (-1) W (by have := HLQ.out; omega) hG
        have h2 := end_reach HVV.out.symm hk
        rw [E2.out, HBK.out, HLQ.out] at h1
        refine h1.mono ?_
        rintro e w' ⟨A, c, rfl, ho, hb⟩
        refine ⟨A, c, by rw [h2.1], ⟨_, Sl.of_own ho, ?_⟩, hb⟩
        rw [List.getElem?_eq_getElem (by rw [h2.1]; omega), h2.2 (by rw [h2.1]; omega)])
      have HGV := mkHid (show ∀ W, Grid W A2 q2 → Calls Try.prog 29 #[.slice A2 (List.length ys + 1) c2] W fun e w' => e = .returned (.bool true) ∧ W = w' from fun W hG => by
        have h1 := implGraphValid_any A2 c2 q2 W (by have := HLQ.out; omega) hG
        rw [E2.out, HBK.out, gOf_yes HVV.out.symm, graph_valid hbal (by rw [ops_len]; exact (progValid_yes HVV.out.symm).1), HLQ.out] at h1
        exact h1)
      rw [hlen]
      clear hbal HV HQ HIM HSP
      generalize List.length ys = n at *
      go_wp2_with fail
      go_loopw [6] (fun i wr => ∃ k : Nat, k ≤ n ∧ i = .int .i64 k ∧ Below w5.heap.size w5 wr) (fun i _ => n - (intOf i).toNat)
      case atStart => exact ⟨0, by omega, rfl, Below.refl _ _⟩
      case round =>
        obtain ⟨k, hk, rfl, hb⟩ := hrel
        have HB := mkHid hb
        by_cases hlt : k < n
        · have hk2 : k < q2.length := by rw [HLQ.out]; omega
          have HC := mkHid (HRE.out k hlt wr (G25.out.below hb))
          clear hb
          go_wp2_with fail
          refine HC.out.mono ?_
          rintro e w6 ⟨A6, c6, rfl, ⟨bs, hs6, hbt⟩, b6⟩
          have HB6 := mkHid (below_then HB.out b6)
          obtain ⟨hbn, hbe⟩ := List.getElem?_eq_some_iff.1 hbt
          obtain ⟨b7, off7, rfl, hc7⟩ := hs6.at_ (k := n) (by simpa using hbn)
          have h7 : w6.cell? ⟨b7, off7 + n, none⟩ = some (.bool true) := by
            have := hc7 n _ (bools_at hbn)
            rwa [hbe] at this
          obtain ⟨b, off, rfl, h1, h2, h3, h4⟩ := (G25.out.below HB6.out).at_ hk2
          have hzs := HROW.out k hlt hk2
          generalize q2[k] = r at *
          obtain ⟨a, cc, rz⟩ := r
          simp only at h1 hzs
          clear h2 h3 h4 hs6 hbt hbe hc7 b6 HC
          generalize rz.length = rl at *
          go_wp2_with fail
          go_roundw
          case rel => exact ⟨k + 1, by omega, by go_num, HB6.out⟩
          case measure => simp [intOf] <;> omega
        · have hke : k = n := by omega
          subst hke
          have hk2 : k < q2.length := by rw [HLQ.out]; omega
          have HC := mkHid (HGV.out wr (G25.out.below hb))
          obtain ⟨b, off, rfl, h1, h2, h3, h4⟩ := (G25.out.below hb).at_ hk2
          have hzs := HLAST.out hk2
          rw [hzs] at h1
          clear h2 h3 h4 hb hzs
          go_wp2_with fail
          refine HC.out.mono ?_
          rintro e w7 ⟨rfl, rfl⟩
          go_wp2_with fail
          go_ret
          exact ⟨rfl, below_then B5.out HB.out⟩
namespace fnGraphOf
set_option maxRecDepth 100000 in
theorem lifted (os : Os) (started : os.Started) (H : Type) (enc : TypeId × Value → H) :
    ReturnsInHanded {} Try.checked os 7 .any (Rows.fnGraphOfSpec.pre6 enc Try.prog Try.f7 Rows.fnGraphOfRow.domain false) (Rows.fnGraphOfSpec.post enc Try.prog Try.f7 false true false false) := by
  refine returnsInHanded_of_change (C := Try.checked) own started (by kernel_rfl) Try.func7
    (ChangeSpec.witness6 (enc := enc) (C := Try.checked) false ⟨#[], #[.slice none 0 0], []⟩ 8 (by kernel_rfl) (by kernel_rfl) (by kernel_rfl) (by kernel_rfl)) ?_
  intro W base args ds gs before hval0 hW hcnd _
  have hval : ∀ (j : Nat) t v, Try.f7.params[j]? = some t → args[j]? = some v → Value.okWide Try.prog W .any base t v := hval0
  have hW' := hW
  obtain ⟨p, q, hA0, hV, rfl, hfz, hnd⟩ := hW
  have hA : DataW.TrodAll enc Try.prog W 0 (fun _ => true) true Try.f7.params.toList args.toList ds p := hA0
  have hAk : DataW.TrodAll enc Try.prog W 0 (fun _ => true) true Try.f7.params.toList args.toList ds p := hA0
  rw [Try.params7] at hA hval
  obtain ⟨v0, vs0, d0, ds0, p0, q0, hargs, rfl, rfl, h0, r0⟩ := trodAll_cons hA
  obtain ⟨rfl, rfl, rfl⟩ := trodAll_nil r0
  obtain rfl : args = #[v0] := by cases args; simp_all
  obtain ⟨rfl, rfl⟩ := trodVars_none hV
  obtain ⟨Azs, czs, zs, rfl, nzs, kzs, szs, wzs⟩ := open_int_slice Try.underlying34 Try.underlying5 (by kernel_rfl) (hval 0 34 v0 rfl rfl) h0
  have wzs : ∀ z ∈ zs, 0 ≤ z ∧ z ≤ 255 := fun z hz => wf_u8_bounds (wzs z hz)
  clear hA0 hval0
  refine (graphOf_walk Azs czs zs W nzs kzs szs wzs).mono fun e W' ⟨he, hb⟩ => ?_
  subst he
  refine ⟨_, rfl, post_true laidOut (fun t ht => ?_) (by kernel_rfl) Try.underlying4 rfl rfl hW' hAk hb⟩
  rw [Try.params7] at ht
  simp only [List.mem_cons, List.not_mem_nil, or_false] at ht
  first | (rcases ht with rfl <;> exact ⟨by kernel_rfl, of_decide_eq_true (by kernel_rfl)⟩) | (obtain rfl := ht; exact ⟨by kernel_rfl, of_decide_eq_true (by kernel_rfl)⟩)
/-- The statement. -/
theorem proved : Rows.FnGraphOfSaid :=
  OpenClaim.holds_of_wide 7 Try.f7 rfl rfl rfl rfl rfl rfl rfl ⟨rfl, rfl, rfl, rfl, rfl⟩ rfl rfl rfl rfl rfl (by kernel_rfl) Try.func7 (by kernel_rfl)
    (of_decide_eq_true (by kernel_rfl)) (by unfold Func.isWrapper; first | (rw [if_pos (by decide +kernel)]; kernel_rfl) | (rw [if_neg (by decide +kernel)]; exact ⟨rfl, rfl⟩))
    (fun os started H enc _ => lifted os started H enc)
end fnGraphOf
#print axioms fnGraphOf.proved
end Go.Proofs.Ytjgemgjpbanliaa
