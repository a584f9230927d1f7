/-
  Proved: FnOrderTwice returns true for every code.
-/
import Derived.Test.YthpabcgnijfiaaaPart29
import Derived.Test.YthpabcgnijfiaaaPart18
import Derived.Test.YthpabcgnijfiaaaPart22
import Derived.Test.YthpabcgnijfiaaaPart03
namespace Go.Proofs.Ythpabcgnijfiaaa
open Go.ChangeShapes Go.WideShapes Go.ChangeAt Go.RowKit
set_option maxHeartbeats 2000000
set_option maxRecDepth 100000
set_option linter.unusedVariables false

theorem ranTo_twice {xs : List Cd} {z : Int} {mem os out : List Int} (h : RanTo xs z mem os out) (hne : out ≠ []) (hl : 2 * os.length ≤ 40) : RanTo xs z mem (os ++ os) out := by
  rcases h with ⟨_, rfl⟩ | ⟨h1, n, e, ho, N, hN, hout⟩
  · exact absurd rfl hne
  · have h2 := h1
    unfold ranB at h2
    simp only [Bool.and_eq_true] at h2
    have hv := orderValid_twice h2.2 hl
    have hr : ranB xs z mem (os ++ os) = true := by unfold ranB; rw [h2.1.1, h2.1.2, hv]; rfl
    obtain ⟨n', e', ho'⟩ := order_ok hv
    have hn : n' = n := by omega
    subst hn
    have hc : ∀ i, orderAt os i = orderAt (os ++ os) i := fun i => (orderAt_twice os ho.len.1 i).symm
    exact .inr ⟨hr, n', e', ho', N, runs_congr hc hN, by rw [hout, seqC_congr hc]⟩
theorem twice_walk (A : Option Addr) (c : Nat) (zs : List Int) (w : World) (hl : zs.length ≤ 9223372036854775807) (hcap : zs.length ≤ c) (hs : Sl w A (u8s zs)) (hz : ∀ z ∈ zs, 0 ≤ z ∧ z ≤ 255) :
    Calls Try.prog 5 #[.slice A zs.length c] w fun e w' => e = .returned (.bool true) ∧ Below w.heap.size w w' := by
  by_cases hbig : 1048576 < zs.length
  · go_enter Try.func5, Try.ntmps5
    go_wp2_with fail
    go_ret
    exact ⟨rfl, Below.refl _ _⟩
  · go_enter Try.func5, Try.ntmps5
    go_wp2_with fail
    refine (drawRunOrder_any _ _ _ _ hl hcap hs hz).mono ?_
    rintro e w1 ⟨g, c', ys, l, g2, c2, ms, g3, c3, os, rfl, s1, hy, s2, hm, s3, ho, b1⟩
    obtain ⟨out, hout⟩ := ranTo_ex ys l ms os
    have HR := mkHid hout
    have ho32 : out.length ≤ 32 := (ranTo_len hout).1
    have S1 := mkHid s1
    have S2 := mkHid s2
    have S3 := mkHid s3
    have B1 := mkHid b1
    clear s1 s2 s3 b1 hs hz hout
    go_wp2_with fail
    refine (implRunOrder_any _ _ _ _ _ _ _ _ _ _ out _ (by omega) (by omega) (by omega) S1.out S2.out S3.out HR.out).mono ?_
    rintro e w2 ⟨A2, c2', rfl, o2, b2⟩
    have SR := mkHid (Sl.of_own o2)
    have S1 := mkHid (S1.out.below b2)
    have S2 := mkHid (S2.out.below b2)
    have S3 := mkHid (S3.out.below b2)
    have B2 := mkHid (below_then B1.out b2)
    clear o2 b2
    go_wp2_with fail
    refine (specRunOrder_any _ _ _ _ _ _ _ _ _ _ out _ (by omega) (by omega) (by omega) S1.out S2.out S3.out HR.out).mono ?_
    rintro e w3 ⟨A3, c3', rfl, o3, b3⟩
    have SS := mkHid (Sl.of_own o3)
    have SR := mkHid (SR.out.below b3)
    have S1 := mkHid (S1.out.below b3)
    have S2 := mkHid (S2.out.below b3)
    have S3 := mkHid (S3.out.below b3)
    have B3 := mkHid (below_then B2.out b3)
    clear o3 b3
    go_wp2_with fail
    refine (sameInts_same _ _ _ _ _ _ (by omega) SR.out SS.out).mono ?_
    rintro e w4 ⟨rfl, k4, rfl⟩
    have hb4 : Below w3.heap.size w3 (w3.drewN k4) := below_drewN (Below.refl _ _) k4
    have SR := mkHid (SR.out.below hb4)
    have S1 := mkHid (S1.out.below hb4)
    have S2 := mkHid (S2.out.below hb4)
    have S3 := mkHid (S3.out.below hb4)
    have B4 := mkHid (below_then B3.out hb4)
    clear hb4
    generalize w3.drewN k4 = w4 at *
    by_cases h0 : out.length = 0
    · go_wp2_with fail
      refine (alive_any _).mono ?_
      rintro e w5 ⟨rfl, rfl⟩
      go_wp2_with fail
      go_ret
      exact ⟨rfl, B4.out⟩
    · by_cases h40 : 40 < 2 * os.length
      · go_wp2_with fail
        refine (alive_any _).mono ?_
        rintro e w5 ⟨rfl, rfl⟩
        go_wp2_with fail
        go_ret
        exact ⟨rfl, B4.out⟩
      · have HTW := mkHid (ranTo_twice HR.out (fun e => h0 (by rw [e]; rfl)) (by omega))
        obtain ⟨o2, ho2⟩ : ∃ o2, o2 = os ++ os := ⟨_, rfl⟩
        have HO2 := mkHid ho2
        have hl2 : os.length + os.length = o2.length := by rw [ho2]; simp
        rw [← ho2] at HTW
        clear ho2
        have HL2 := mkHid hl2
        have hosz : 1 ≤ os.length ∨ os.length = 0 := by omega
        clear hl2 hosz
        have h4 : 2 * (os.length : Int) ≤ 40 := by omega
        have hb0 : ((out.length : Int) == 0) = false := by simpa using h0
        go_wp2_with (at_builtin; first
          | (refine wpList_copyS rfl Ei (own_empty w4 _ _) (S3.out.alloc _) (by simp [ints]) (ints_one _) (by omega) (by omega) (by simp) rfl rfl rfl ?_
             intro r5 c5 w5 hown5 hg5 hat5
             have HO5 := mkHid hown5
             have HB5 := mkHid (below_grown ((Below.refl w4.heap.size w4).alloc (Nat.le_refl _) _) hg5 (fun g hg => by injection hg with hg; omega))
             clear hown5 hg5 hat5)
          | (refine wpList_appAt (news := ints os) Ei HO5.out HL2.out (show _ = ints o2 from by rw [HO2.out]; simp [ints]) (fun j u hu => by
               rcases S3.out.below HB5.out with h | ⟨b, off, h, h'⟩
               · rw [h] at hu; simp at hu
               · injection h with h
                 injection h with h h''
                 subst h h''
                 rw [add_flat]
                 exact h' j u hu) (by simp [ints]) (ints_one _) (by omega) (by omega) HB5.out.size rfl rfl rfl rfl ?_
             intro A6 c6 w6 hown6 hg6 hat6
             have HO6 := mkHid hown6
             have HB6 := mkHid (below_grown HB5.out hg6 (fun g hg => (HO5.out.lt g hg).1))
             clear hown6 hg6 hat6))
        refine (implRunOrder_any _ _ _ _ _ _ _ _ _ _ out _ (by omega) (by omega) (by have := HL2.out; omega) (S1.out.below HB6.out) (S2.out.below HB6.out) (Sl.of_own HO6.out) HTW.out).mono ?_
        rintro e w7 ⟨A7, c7, rfl, o7, b7⟩
        have S7 := mkHid (Sl.of_own o7)
        have SR7 := mkHid ((SR.out.below HB6.out).below b7)
        have B7 := mkHid (below_then (below_then B4.out HB6.out) b7)
        clear o7 b7
        go_wp2_with fail
        refine (sameInts_same _ _ _ _ _ _ (by omega) S7.out SR7.out).mono ?_
        rintro e w8 ⟨rfl, k8, rfl⟩
        go_wp2_with fail
        go_ret
        exact ⟨rfl, below_drewN B7.out k8⟩
namespace fnOrderTwice
set_option maxRecDepth 100000 in
theorem lifted (os : Os) (started : os.Started) (H : Type) (enc : TypeId × Value → H) :
    ReturnsInHanded {} Try.checked os 5 .any (Rows.fnOrderTwiceSpec.pre6 enc Try.prog Try.f5 Rows.fnOrderTwiceRow.domain false) (Rows.fnOrderTwiceSpec.post enc Try.prog Try.f5 false true false false) := by
  refine returnsInHanded_of_change (C := Try.checked) own started (by kernel_rfl) Try.func5
    (ChangeSpec.witness6 (enc := enc) (C := Try.checked) false ⟨#[], #[.slice none 0 0], []⟩ 8 (by kernel_rfl) (by kernel_rfl) (by kernel_rfl) (by kernel_rfl)) ?_
  intro W base args ds gs before hval0 hW hcnd _
  have hval : ∀ (j : Nat) t v, Try.f5.params[j]? = some t → args[j]? = some v → Value.okWide Try.prog W .any base t v := hval0
  have hW' := hW
  obtain ⟨p, q, hA0, hV, rfl, hfz, hnd⟩ := hW
  have hA : DataW.TrodAll enc Try.prog W 0 (fun _ => true) true Try.f5.params.toList args.toList ds p := hA0
  have hAk : DataW.TrodAll enc Try.prog W 0 (fun _ => true) true Try.f5.params.toList args.toList ds p := hA0
  rw [Try.params5] at hA hval
  obtain ⟨v0, vs0, d0, ds0, p0, q0, hargs, rfl, rfl, h0, r0⟩ := trodAll_cons hA
  obtain ⟨rfl, rfl, rfl⟩ := trodAll_nil r0
  obtain rfl : args = #[v0] := by cases args; simp_all
  obtain ⟨rfl, rfl⟩ := trodVars_none hV
  obtain ⟨Azs, czs, zs, rfl, nzs, kzs, szs, wzs⟩ := open_int_slice Try.underlying22 Try.underlying5 (by kernel_rfl) (hval 0 22 v0 rfl rfl) h0
  have wzs : ∀ z ∈ zs, 0 ≤ z ∧ z ≤ 255 := fun z hz => wf_u8_bounds (wzs z hz)
  clear hA0 hval0
  refine (twice_walk Azs czs zs W nzs kzs szs wzs).mono fun e W' ⟨he, hb⟩ => ?_
  subst he
  refine ⟨_, rfl, post_true laidOut (fun t ht => ?_) (by kernel_rfl) Try.underlying4 rfl rfl hW' hAk hb⟩
  rw [Try.params5] at ht
  simp only [List.mem_cons, List.not_mem_nil, or_false] at ht
  first | (rcases ht with rfl <;> exact ⟨by kernel_rfl, of_decide_eq_true (by kernel_rfl)⟩) | (obtain rfl := ht; exact ⟨by kernel_rfl, of_decide_eq_true (by kernel_rfl)⟩)
/-- The statement. -/
theorem proved : Rows.FnOrderTwiceSaid :=
  OpenClaim.holds_of_wide 5 Try.f5 rfl rfl rfl rfl rfl rfl rfl ⟨rfl, rfl, rfl, rfl, rfl⟩ rfl rfl rfl rfl rfl (by kernel_rfl) Try.func5 (by kernel_rfl)
    (of_decide_eq_true (by kernel_rfl)) (by unfold Func.isWrapper; first | (rw [if_pos (by decide +kernel)]; kernel_rfl) | (rw [if_neg (by decide +kernel)]; exact ⟨rfl, rfl⟩))
    (fun os started H enc _ => lifted os started H enc)
end fnOrderTwice
#print axioms fnOrderTwice.proved
end Go.Proofs.Ythpabcgnijfiaaa
