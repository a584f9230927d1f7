/-
  Proved: FnGraphWhole returns true for every code.
-/
import Derived.Test.YtjgemgjpbanliaaDGraphOf
import Derived.Test.YtjgemgjpbanliaaCGOf
import Derived.Test.YtjgemgjpbanliaaPlainReach3
import Derived.Test.YtjgemgjpbanliaaCSameRows
import Derived.Test.YtjgemgjpbanliaaFrame
namespace Go.Proofs.Ytjgemgjpbanliaa
open Go.ChangeShapes Go.WideShapes Go.ChangeAt Go.RowKit
set_option maxHeartbeats 2000000
set_option linter.unusedVariables false

theorem graphWhole_walk (A : Option Addr) (c : Nat) (zs : List Int) (w : World) (hl : zs.length ≤ 9223372036854775807) (hcap : zs.length ≤ c) (hs : Sl w A (u8s zs)) (hz : ∀ z ∈ zs, 0 ≤ z ∧ z ≤ 255) :
    Calls Try.prog 8 #[.slice A zs.length c] w fun e w' => e = .returned (.bool true) ∧ Below w.heap.size w w' := by
  by_cases hbig : 1048576 < zs.length
  · go_enter Try.func8, Try.ntmps8
    go_wp2_with fail
    go_ret
    exact ⟨rfl, Below.refl _ _⟩
  · go_enter Try.func8, Try.ntmps8
    go_wp2_with fail
    refine (drawGraphOf_any _ _ _ _ hl hcap hs hz).mono ?_
    rintro e w1 ⟨g, c1, ys, rfl, s1, hy, b1⟩
    have S1 := mkHid s1
    have B1 := mkHid b1
    clear s1 b1 hs hz
    obtain ⟨bk, hbk⟩ : ∃ bk, bk = gOf ys := ⟨_, rfl⟩
    have hbl : bk.length ≤ 41 := by rw [hbk]; exact gOf_le _
    have HSM := mkHid (show ∀ qs : List Row, graph qs = bk → ∀ r ∈ qs, r.zs.length ≤ 9223372036854775807 from fun qs h => by rw [hbk] at h; exact gOf_small h)
    have himpl := fun A c w hs => implGraphOf_any A c ys w (by omega) hs
    have hspec := fun A c w hs => specGraphOf_any A c ys w (by omega) hs
    rw [← hbk] at himpl hspec
    have HIM := mkHid himpl
    have HSP := mkHid hspec
    have HBK := mkHid hbk
    clear hbk himpl hspec
    go_wp2_with fail
    refine (HIM.out _ _ _ S1.out).mono ?_
    rintro e w2 ⟨A2, c2, q2, rfl, g2, o2, a2, b2⟩
    have L2 := mkHid (graph_length g2)
    have E2 := mkHid g2
    have G2 := mkHid (a2.grid (Sl.of_own o2) (HSM.out q2 g2))
    have S2 := mkHid (S1.out.below b2)
    have B2 := mkHid (below_then B1.out b2)
    clear g2 o2 a2 b2
    go_wp2_with fail
    refine (HSP.out _ _ _ S2.out).mono ?_
    rintro e w3 ⟨A3, c3, q3, rfl, g3, d3, b3⟩
    have E3 := mkHid g3
    have G3 := mkHid d3
    have G23 := mkHid (G2.out.below b3)
    have S3 := mkHid (S2.out.below b3)
    have B3 := mkHid (below_then B2.out b3)
    clear g3 d3 b3
    have hQ := sameRows_same A2 A3 c2 c3 q2 q3 w3 (by have := L2.out; omega) (E2.out.trans E3.out.symm) G23.out G3.out
    rw [L2.out] at hQ
    have HQ := mkHid hQ
    clear hQ
    go_wp2_with fail
    refine HQ.out.mono ?_
    rintro e w4 ⟨rfl, k4, rfl⟩
    have G24 := mkHid (G23.out.drewN k4)
    have S4 := mkHid (S3.out.drewN k4)
    have B4 := mkHid (below_drewN B3.out k4)
    generalize w3.drewN k4 = w4 at *
    have hC := implGraphReach_any A2 c2 q2 0 (-1) w4 (by have := L2.out; omega) G24.out
    rw [E2.out, L2.out, HBK.out] at hC
    have hwh := whole_reach ys
    obtain ⟨bs, hbs⟩ : ∃ bs, bs = graphReach (gOf ys) 0 (-1) := ⟨_, rfl⟩
    rw [← hbs] at hC
    rw [← HBK.out] at hC
    have HWT := mkHid (show ∀ k (h : k < bs.length), bs[k] = true from by rw [hbs]; exact hwh.2)
    have hbn : bs.length = bk.length := by rw [hbs, HBK.out]; exact hwh.1
    have HC := mkHid hC
    clear hC hwh hbs
    go_wp2_with fail
    refine HC.out.mono ?_
    rintro e w5 ⟨A5, c5, rfl, o5, b5⟩
    have S5 := mkHid (Sl.of_own o5)
    have B5 := mkHid (below_then B4.out b5)
    rw [hbn]
    clear o5 b5 HC HIM HSP HQ
    go_wp2_with fail
    go_loopw [6] (fun i wr => ∃ k : Nat, k ≤ bk.length ∧ i = .int .i64 k ∧ Below w5.heap.size w5 wr) (fun i _ => bk.length - (intOf i).toNat)
    case atStart => exact ⟨0, by omega, rfl, Below.refl _ _⟩
    case round =>
      obtain ⟨k, hk, rfl, hb⟩ := hrel
      have HB := mkHid hb
      by_cases hlt : k < bk.length
      · have hk2 : k < bs.length := by omega
        obtain ⟨b, off, rfl, hc⟩ := (S5.out.below hb).at_ (k := k) (by simpa using hk2)
        have h1 : wr.cell? ⟨b, off + k, none⟩ = some (.bool true) := by
          have := hc k _ (bools_at hk2)
          rwa [HWT.out k hk2] at this
        clear hc hb
        go_wp2_with fail
        go_roundw
        case rel => exact ⟨k + 1, by omega, by go_num, HB.out⟩
        case measure => simp [intOf] <;> omega
      · clear hb
        go_wp2_with fail
        refine (alive_any _).mono ?_
        rintro e w9 ⟨rfl, rfl⟩
        go_wp2_with fail
        go_ret
        exact ⟨rfl, below_then B5.out HB.out⟩
namespace fnGraphWhole
set_option maxRecDepth 100000 in
theorem lifted (os : Os) (started : os.Started) (H : Type) (enc : TypeId × Value → H) :
    ReturnsInHanded {} Try.checked os 8 .any (Rows.fnGraphWholeSpec.pre6 enc Try.prog Try.f8 Rows.fnGraphWholeRow.domain false) (Rows.fnGraphWholeSpec.post enc Try.prog Try.f8 false true false false) := by
  refine returnsInHanded_of_change (C := Try.checked) own started (by kernel_rfl) Try.func8
    (ChangeSpec.witness6 (enc := enc) (C := Try.checked) false ⟨#[], #[.slice none 0 0], []⟩ 8 (by kernel_rfl) (by kernel_rfl) (by kernel_rfl) (by kernel_rfl)) ?_
  intro W base args ds gs before hval0 hW hcnd _
  have hval : ∀ (j : Nat) t v, Try.f8.params[j]? = some t → args[j]? = some v → Value.okWide Try.prog W .any base t v := hval0
  have hW' := hW
  obtain ⟨p, q, hA0, hV, rfl, hfz, hnd⟩ := hW
  have hA : DataW.TrodAll enc Try.prog W 0 (fun _ => true) true Try.f8.params.toList args.toList ds p := hA0
  have hAk : DataW.TrodAll enc Try.prog W 0 (fun _ => true) true Try.f8.params.toList args.toList ds p := hA0
  rw [Try.params8] at hA hval
  obtain ⟨v0, vs0, d0, ds0, p0, q0, hargs, rfl, rfl, h0, r0⟩ := trodAll_cons hA
  obtain ⟨rfl, rfl, rfl⟩ := trodAll_nil r0
  obtain rfl : args = #[v0] := by cases args; simp_all
  obtain ⟨rfl, rfl⟩ := trodVars_none hV
  obtain ⟨Azs, czs, zs, rfl, nzs, kzs, szs, wzs⟩ := open_int_slice Try.underlying34 Try.underlying5 (by kernel_rfl) (hval 0 34 v0 rfl rfl) h0
  have wzs : ∀ z ∈ zs, 0 ≤ z ∧ z ≤ 255 := fun z hz => wf_u8_bounds (wzs z hz)
  clear hA0 hval0
  refine (graphWhole_walk Azs czs zs W nzs kzs szs wzs).mono fun e W' ⟨he, hb⟩ => ?_
  subst he
  refine ⟨_, rfl, post_true laidOut (fun t ht => ?_) (by kernel_rfl) Try.underlying4 rfl rfl hW' hAk hb⟩
  rw [Try.params8] at ht
  simp only [List.mem_cons, List.not_mem_nil, or_false] at ht
  first | (rcases ht with rfl <;> exact ⟨by kernel_rfl, of_decide_eq_true (by kernel_rfl)⟩) | (obtain rfl := ht; exact ⟨by kernel_rfl, of_decide_eq_true (by kernel_rfl)⟩)
/-- The statement. -/
theorem proved : Rows.FnGraphWholeSaid :=
  OpenClaim.holds_of_wide 8 Try.f8 rfl rfl rfl rfl rfl rfl rfl ⟨rfl, rfl, rfl, rfl, rfl⟩ rfl rfl rfl rfl rfl (by kernel_rfl) Try.func8 (by kernel_rfl)
    (of_decide_eq_true (by kernel_rfl)) (by unfold Func.isWrapper; first | (rw [if_pos (by decide +kernel)]; kernel_rfl) | (rw [if_neg (by decide +kernel)]; exact ⟨rfl, rfl⟩))
    (fun os started H enc _ => lifted os started H enc)
end fnGraphWhole
#print axioms fnGraphWhole.proved
end Go.Proofs.Ytjgemgjpbanliaa
