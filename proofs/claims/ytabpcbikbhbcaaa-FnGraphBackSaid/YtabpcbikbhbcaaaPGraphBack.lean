/-
  Proved: FnGraphBack returns true for every code.
-/
import Derived.Test.YtabpcbikbhbcaaaDGraphs
import Derived.Test.YtabpcbikbhbcaaaPlainBack
import Derived.Test.YtabpcbikbhbcaaaCBack3
import Derived.Test.YtabpcbikbhbcaaaCSameRows
import Derived.Test.YtabpcbikbhbcaaaFrame
namespace Go.Proofs.Ytabpcbikbhbcaaa
open Go.ChangeShapes Go.WideShapes Go.ChangeAt Go.RowKit
set_option maxHeartbeats 2000000
set_option linter.unusedVariables false

theorem total_le_mul {m : Nat} : ∀ (rs : List Row), (∀ r ∈ rs, r.zs.length ≤ m) → total rs ≤ m * rs.length
  | [], _ => by simp [total]
  | r :: rs, h => by
    have h1 := total_le_mul rs (fun s hs => h s (List.mem_cons_of_mem _ hs))
    have h2 := h r (List.mem_cons_self ..)
    unfold total at h1 ⊢
    rw [List.map_cons, List.sum_cons, List.length_cons, Nat.mul_add]
    omega
theorem total_backV {g : List (List Int)} (hv : graphValid g = true) {qs : List Row} (h : graph qs = back g) : total qs ≤ 4096 ∧ qs.length ≤ 64 := by
  have hl := graph_length h
  rw [back_length _ hv] at hl
  have h64 := (graph_nodes hv).1
  have := total_le_mul (m := 64) qs (fun r hr => back_row_le hv (h ▸ (List.mem_map_of_mem hr : r.zs ∈ graph qs)))
  omega
theorem graphBack_walk (A : Option Addr) (c : Nat) (zs : List Int) (w : World) (hl : zs.length ≤ 9223372036854775807) (hcap : zs.length ≤ c) (hs : Sl w A (u8s zs)) (hz : ∀ z ∈ zs, 0 ≤ z ∧ z ≤ 255) :
    Calls Try.prog 6 #[.slice A zs.length c] w fun e w' => e = .returned (.bool true) ∧ Below w.heap.size w w' := by
  by_cases hbig : 1048576 < zs.length
  · go_enter Try.func6, Try.ntmps6
    go_wp2_with fail
    go_ret
    exact ⟨rfl, Below.refl _ _⟩
  · go_enter Try.func6, Try.ntmps6
    go_wp2_with fail
    refine (drawGraphBack_any _ _ _ _ hl hcap hs hz).mono ?_
    rintro e w1 ⟨A1, c1, rs, rfl, g1, hn1, hn2, hr1, b1⟩
    have G1 := mkHid g1
    have B1 := mkHid b1
    have HR := mkHid hr1
    have htot : total rs ≤ 650 := by have := total_le_mul rs hr1; omega
    clear g1 b1 hr1 hs hz
    obtain ⟨n, hn⟩ : ∃ n, n = List.length rs := ⟨_, rfl⟩
    have HN := mkHid hn
    obtain ⟨bk, hbk⟩ : ∃ bk, bk = back (graph rs) := ⟨_, rfl⟩
    obtain ⟨v, hv⟩ : ∃ v, v = graphValid (graph rs) := ⟨_, rfl⟩
    have hgl : (graph rs).length = n := by rw [hn]; simp
    have hbl : bk.length ≤ 65 := by
      rw [hbk]; unfold back; split
      · simp; omega
      · simp
    have himpl := fun w hs => implGraphBack_any A1 c1 rs w (by omega) (by omega) hs
    have hspec := fun w hs => specGraphBack_any A1 c1 rs w (by omega) (by omega) hs
    have hval := fun w hs => specGraphValid_any A1 c1 rs w (by omega) hs
    rw [← hbk] at himpl hspec
    rw [← hv] at hval
    rw [← hn] at himpl hspec hval hn1 hn2 ⊢
    have HIM := mkHid himpl
    have HSP := mkHid hspec
    have HV := mkHid hval
    have HBK := mkHid hbk
    have HVV := mkHid hv
    have HSM := mkHid (show ∀ qs : List Row, graph qs = bk → ∀ r ∈ qs, r.zs.length ≤ 9223372036854775807 from fun qs h r hr => by
      have hm : r.zs ∈ back (graph rs) := by rw [← hbk, ← h]; exact List.mem_map_of_mem hr
      cases hvv : graphValid (graph rs) with
      | true => have := back_row_le hvv hm; omega
      | false => unfold back at hm; rw [hvv] at hm; cases hm)
    have HGL := mkHid hgl
    clear hn hbk hv himpl hspec hval hgl
    go_wp2_with fail
    refine (HIM.out _ G1.out).mono ?_
    rintro e w2 ⟨A2, c2, q2, rfl, g2, o2, a2, b2⟩
    have L2 := mkHid (graph_length g2)
    have E2 := mkHid g2
    have G2 := mkHid (a2.grid (Sl.of_own o2) (HSM.out q2 g2))
    have S2 := mkHid (G1.out.below b2)
    have B2 := mkHid (below_then B1.out b2)
    clear g2 o2 a2 b2
    go_wp2_with fail
    refine (HSP.out _ S2.out).mono ?_
    rintro e w3 ⟨A3, c3, q3, rfl, g3, d3, b3⟩
    have E3 := mkHid g3
    have G3 := mkHid d3
    have G23 := mkHid (G2.out.below b3)
    have S3 := mkHid (S2.out.below b3)
    have B3 := mkHid (below_then B2.out b3)
    clear g3 d3 b3
    have hQ := sameRows_same A2 A3 c2 c3 q2 q3 w3 (by have := L2.out; omega) (E2.out.trans E3.out.symm) G23.out G3.out
    rw [L2.out] at hQ
    have HQ := mkHid hQ
    clear hQ
    go_wp2_with fail
    refine HQ.out.mono ?_
    rintro e w4 ⟨rfl, k4, rfl⟩
    have G24 := mkHid (G23.out.drewN k4)
    have S4 := mkHid (S3.out.drewN k4)
    have B4 := mkHid (below_drewN B3.out k4)
    generalize w3.drewN k4 = w4 at *
    go_wp2_with fail
    refine (HV.out _ S4.out).mono ?_
    rintro e w5 ⟨rfl, k5, rfl⟩
    have G25 := mkHid (G24.out.drewN k5)
    have S5 := mkHid (S4.out.drewN k5)
    have B5 := mkHid (below_drewN B4.out k5)
    generalize w4.drewN k5 = w5 at *
    cases v with
    | false =>
      have hb0 : bk = [] := by rw [HBK.out]; unfold back; rw [← HVV.out]; rfl
      subst hb0
      go_wp2_with fail
      refine (alive_any _).mono ?_
      rintro e w9 ⟨rfl, rfl⟩
      go_wp2_with fail
      go_ret
      exact ⟨rfl, B5.out⟩
    | true =>
      have hlen : bk.length = n := by rw [HBK.out, back_length _ HVV.out.symm, HGL.out]
      have HLQ := mkHid (show q2.length = n from L2.out.trans hlen)
      have HVB := mkHid (show graphValid bk = true from by rw [HBK.out]; exact back_valid HVV.out.symm)
      have HBB := mkHid (show back (back bk) = bk from by rw [HBK.out]; exact back_back HVV.out.symm)
      have HEND := mkHid (show dTo (graph rs) bk n = 0 from by rw [HBK.out, ← HGL.out]; exact dTo_end HVV.out.symm)
      have hT2 := total_backV HVV.out.symm (E2.out.trans HBK.out)
      have HGV := mkHid (show ∀ W, Grid W A2 q2 → Calls Try.prog 13 #[.slice A2 n c2] W fun e w' => e = .returned (.bool true) ∧ W = w' from fun W hG => by
        have h1 := implGraphValid_any A2 c2 q2 W (by omega) hG
        rw [E2.out, HVB.out, HLQ.out] at h1
        exact h1)
      have HGB := mkHid (show ∀ W, Grid W A2 q2 → Calls Try.prog 18 #[.slice A2 n c2] W (RetApart (back bk) W) from fun W hG => by
        have h1 := implGraphBack_any A2 c2 q2 W (by omega) (by omega) hG
        rw [E2.out, HLQ.out] at h1
        exact h1)
      have HR2 := mkHid (show ∀ r ∈ q2, r.zs.length ≤ 64 from fun r hr => by
        have hm : r.zs ∈ back (graph rs) := by rw [← HBK.out, ← E2.out]; exact List.mem_map_of_mem hr
        exact back_row_le HVV.out.symm hm)
      have HDT := mkHid (show ∀ k (h1 : k < rs.length) (h2 : k < q2.length), dTo (graph rs) bk (k + 1) = dTo (graph rs) bk k + rs[k].zs.length - q2[k].zs.length from fun k h1 h2 => by
        rw [dTo, graph_at h1, ← E2.out, graph_at h2])
      rw [hlen]
      clear hT2 hlen HV HQ HIM HSP
      go_wp2_with fail
      go_loopw [5, 6] (fun e i wr => ∃ k : Nat, k ≤ n ∧ i = .int .i64 k ∧ ∃ d : Int, e = .int .i64 d ∧ -(100 * (k : Int)) ≤ d ∧ d ≤ 100 * k ∧ Hid (d = dTo (graph rs) bk k) ∧ ∃ m, wr = w5.drewN m) (fun _ i _ => n - (intOf i).toNat)
      case atStart => exact ⟨0, by omega, rfl, 0, rfl, by omega, by omega, mkHid rfl, 0, rfl⟩
      case round =>
        obtain ⟨k, hk, rfl, d, rfl, hd1, hd2, HD, m, rfl⟩ := hrel
        by_cases hlt : k < n
        · have hk1 : k < rs.length := by rw [← HN.out]; exact hlt
          have hk2 : k < q2.length := by rw [HLQ.out]; exact hlt
          obtain ⟨b, off, rfl, h1, h2, h3, h4⟩ := (S5.out.drewN m).at_ hk1
          obtain ⟨b', off', rfl, f1, f2, f3, f4⟩ := (G25.out.drewN m).at_ hk2
          have hl1 := HR.out _ (List.getElem_mem hk1)
          have hl2 := HR2.out _ (List.getElem_mem hk2)
          have hdt := HDT.out k hk1 hk2
          rw [← HD.out] at hdt
          generalize hX : w5.drewN m = X
          rw [hX] at h1 f1
          have HX := mkHid hX
          generalize rs[k] = r at *
          generalize q2[k] = s at *
          obtain ⟨ra, rc, rz⟩ := r
          obtain ⟨sa, sc, sz⟩ := s
          simp only at h1 f1 hl1 hl2 hdt
          have HDD := mkHid hdt
          clear h2 h3 h4 f2 f3 f4 hX hdt
          generalize rz.length = lr at *
          generalize sz.length = ls at *
          go_wp2_with fail
          go_quiet (fail)
          go_wp2_with fail
          have hX := HX.out
          subst hX
          go_roundw
          case rel => exact ⟨k + 1, by omega, by go_num, d + lr - ls, by first | rfl | go_num, by omega, by omega, mkHid HDD.out.symm, _, by first | rfl | exact World.drewN_drewN _ _ _⟩
          case measure => simp [intOf] <;> omega
        · have hke : k = n := by omega
          subst hke
          have hd0 : d = 0 := HD.out.trans HEND.out
          subst hd0
          have G6 := mkHid (G25.out.drewN m)
          have B6 := mkHid (below_drewN B5.out m)
          generalize w5.drewN m = w6 at *
          go_wp2_with fail
          refine (HGV.out _ G6.out).mono ?_
          rintro e w7 ⟨rfl, rfl⟩
          go_wp2_with fail
          refine (HGB.out _ G6.out).mono ?_
          rintro e w7 ⟨A7, c7, q7, rfl, g7, o7, a7, b7⟩
          have E7 := mkHid g7
          have hT7 := total_backV HVB.out g7
          have G7 := mkHid (a7.grid (Sl.of_own o7) (fun r hr => by
            have hm : r.zs ∈ back bk := by rw [← g7]; exact List.mem_map_of_mem hr
            have := back_row_le HVB.out hm
            omega))
          have G27 := mkHid (G6.out.below b7)
          have B7 := mkHid (below_then B6.out b7)
          have hl7 : (back bk).length = q7.length := by rw [← g7]; simp
          have hC := implGraphBack_any A7 c7 q7 w7 (by omega) (by omega) G7.out
          rw [E7.out, HBB.out, ← hl7] at hC
          have HC := mkHid hC
          clear g7 o7 a7 b7 hT7 hl7 hC
          go_wp2_with fail
          refine HC.out.mono ?_
          rintro e w8 ⟨A8, c8, q8, rfl, g8, o8, a8, b8⟩
          have hQ := sameRows_same A8 A2 c8 c2 q8 q2 w8 (by have := graph_length g8; omega) (g8.trans E2.out.symm) (a8.grid (Sl.of_own o8) (HSM.out q8 g8)) (G27.out.below b8)
          have B8 := mkHid (below_then B7.out b8)
          rw [graph_length g8] at hQ
          have HQ := mkHid hQ
          clear hQ g8 o8 a8 b8
          have hlb : bk.length = k := by rw [← E2.out]; simpa using HLQ.out
          have HLB := mkHid hlb
          clear hlb
          rw [HLB.out] at HQ ⊢
          go_wp2_with fail
          refine HQ.out.mono ?_
          rintro e w9 ⟨rfl, k9, rfl⟩
          go_wp2_with fail
          go_ret
          exact ⟨rfl, below_drewN B8.out k9⟩
namespace fnGraphBack
set_option maxRecDepth 100000 in
theorem lifted (os : Os) (started : os.Started) (H : Type) (enc : TypeId × Value → H) :
    ReturnsInHanded {} Try.checked os 6 .any (Rows.fnGraphBackSpec.pre6 enc Try.prog Try.f6 Rows.fnGraphBackRow.domain false) (Rows.fnGraphBackSpec.post enc Try.prog Try.f6 false true false false) := by
  refine returnsInHanded_of_change (C := Try.checked) own started (by kernel_rfl) Try.func6
    (ChangeSpec.witness6 (enc := enc) (C := Try.checked) false ⟨#[], #[.slice none 0 0], []⟩ 8 (by kernel_rfl) (by kernel_rfl) (by kernel_rfl) (by kernel_rfl)) ?_
  intro W base args ds gs before hval0 hW hcnd _
  have hval : ∀ (j : Nat) t v, Try.f6.params[j]? = some t → args[j]? = some v → Value.okWide Try.prog W .any base t v := hval0
  have hW' := hW
  obtain ⟨p, q, hA0, hV, rfl, hfz, hnd⟩ := hW
  have hA : DataW.TrodAll enc Try.prog W 0 (fun _ => true) true Try.f6.params.toList args.toList ds p := hA0
  have hAk : DataW.TrodAll enc Try.prog W 0 (fun _ => true) true Try.f6.params.toList args.toList ds p := hA0
  rw [Try.params6] at hA hval
  obtain ⟨v0, vs0, d0, ds0, p0, q0, hargs, rfl, rfl, h0, r0⟩ := trodAll_cons hA
  obtain ⟨rfl, rfl, rfl⟩ := trodAll_nil r0
  obtain rfl : args = #[v0] := by cases args; simp_all
  obtain ⟨rfl, rfl⟩ := trodVars_none hV
  obtain ⟨Azs, czs, zs, rfl, nzs, kzs, szs, wzs⟩ := open_int_slice Try.underlying27 Try.underlying5 (by kernel_rfl) (hval 0 27 v0 rfl rfl) h0
  have wzs : ∀ z ∈ zs, 0 ≤ z ∧ z ≤ 255 := fun z hz => wf_u8_bounds (wzs z hz)
  clear hA0 hval0
  refine (graphBack_walk Azs czs zs W nzs kzs szs wzs).mono fun e W' ⟨he, hb⟩ => ?_
  subst he
  refine ⟨_, rfl, post_true laidOut (fun t ht => ?_) (by kernel_rfl) Try.underlying4 rfl rfl hW' hAk hb⟩
  rw [Try.params6] at ht
  simp only [List.mem_cons, List.not_mem_nil, or_false] at ht
  first | (rcases ht with rfl <;> exact ⟨by kernel_rfl, of_decide_eq_true (by kernel_rfl)⟩) | (obtain rfl := ht; exact ⟨by kernel_rfl, of_decide_eq_true (by kernel_rfl)⟩)
/-- The statement. -/
theorem proved : Rows.FnGraphBackSaid :=
  OpenClaim.holds_of_wide 6 Try.f6 rfl rfl rfl rfl rfl rfl rfl ⟨rfl, rfl, rfl, rfl, rfl⟩ rfl rfl rfl rfl rfl (by kernel_rfl) Try.func6 (by kernel_rfl)
    (of_decide_eq_true (by kernel_rfl)) (by unfold Func.isWrapper; first | (rw [if_pos (by decide +kernel)]; kernel_rfl) | (rw [if_neg (by decide +kernel)]; exact ⟨rfl, rfl⟩))
    (fun os started H enc _ => lifted os started H enc)
end fnGraphBack
#print axioms fnGraphBack.proved
end Go.Proofs.Ytabpcbikbhbcaaa
