/-
  Proved: FnNewCrowd returns true for every code.
-/
import Derived.Test.YtilhcedfokhhjaaCCrowd2
import Derived.Test.YtilhcedfokhhjaaCSameC
import Derived.Test.YtilhcedfokhhjaaDCrowd
import Derived.Test.YtilhcedfokhhjaaFrame
namespace Go.Proofs.Ytilhcedfokhhjaa
open Go.ChangeShapes Go.WideShapes Go.ChangeAt Go.RowKit
set_option maxHeartbeats 2000000
set_option linter.unusedVariables false

theorem fresh_lane {a b : Ln} (ha : Fresh a) (hb : Fresh b) : a.zs = b.zs ∧ a.at_ = b.at_ ∧ a.wt = b.wt := by
  obtain ⟨a1, a2, a3⟩ := ha
  obtain ⟨b1, b2, b3⟩ := hb
  exact ⟨a1.trans b1.symm, a2.trans b2.symm, a3.trans b3.symm⟩
theorem crowd_ways (n : Int) (ys : List Int) : (crowdN n ys = 0 ∧ crowdZ n ys = []) ∨ (1 ≤ n ∧ (crowdN n ys : Int) = n ∧ crowdZ n ys = ys) := by
  unfold crowdN crowdZ
  cases h : crowdOk n ys with
  | false => exact .inl ⟨rfl, rfl⟩
  | true =>
    have := inB_t (Bool.and_eq_true_iff.1 h).1
    refine .inr ⟨by omega, ?_, rfl⟩
    rw [if_pos rfl]; omega
theorem crowd_walk (A : Option Addr) (c : Nat) (zs : List Int) (w : World) (hl : zs.length ≤ 9223372036854775807) (hcap : zs.length ≤ c) (hs : Sl w A (u8s zs)) (hz : ∀ z ∈ zs, 0 ≤ z ∧ z ≤ 255) :
    Calls Try.prog 7 #[.slice A zs.length c] w fun e w' => e = .returned (.bool true) ∧ Below w.heap.size w w' := by
  by_cases hbig : 1048576 < zs.length
  · go_enter Try.func7, Try.ntmps7
    go_wp2_with fail
    go_ret
    exact ⟨rfl, Below.refl _ _⟩
  · go_enter Try.func7, Try.ntmps7
    go_wp2_with fail
    refine (drawNewCrowd_any _ _ _ _ hl hcap hs hz).mono ?_
    rintro e w1 ⟨n, g, c1, ys, rfl, s1, hy, hn, hd, b1⟩
    have S1 := mkHid s1
    have B1 := mkHid b1
    clear s1 b1 hd hs hz
    obtain ⟨N, hN⟩ : ∃ N, N = crowdN n ys := ⟨_, rfl⟩
    obtain ⟨Z, hZ⟩ : ∃ Z, Z = crowdZ n ys := ⟨_, rfl⟩
    have hN8 : N ≤ 8 := by rw [hN]; exact crowdN_le _ _
    have hZ8 : Z.length ≤ 32 := by rw [hZ]; exact crowdZ_le _ _
    have hways := crowd_ways n ys
    have hspec := fun A c w hs => specNewCrowd_any n A c ys w (by omega) hs
    have himpl := fun A c w hs => implNewCrowd_any n A c ys w (by omega) hs
    rw [← hN, ← hZ] at hspec himpl hways
    have HSP := mkHid hspec
    have HIM := mkHid himpl
    have HW := mkHid hways
    clear hspec himpl hN hZ hways
    go_wp2_with fail
    refine (HIM.out _ _ _ S1.out).mono ?_
    rintro e w2 ⟨A2, c2, l2, M2, d2, rfl, hl2, hf2, hc2, hb2⟩
    obtain ⟨O2, hO2⟩ : ∃ O2, O2 = Obj.cells #[.slice A2 N c2, .slice M2 Z.length d2] 43 := ⟨_, rfl⟩
    have hal : Below w2.heap.size w2 (w2.alloc O2) := (Below.refl _ _).alloc (Nat.le_refl _) _
    have F2 := mkHid hf2
    have C2 := mkHid (hc2.below hal)
    have L2 := mkHid hl2
    have B02 := mkHid (below_then (below_then B1.out hb2) hal)
    have S2 := mkHid (S1.out.below (below_then hb2 hal))
    have HK5 : Hid (∀ X, Below (w2.alloc O2).heap.size (w2.alloc O2) X → X.heap[w2.heap.size]? = some (.cells #[.slice A2 N c2, .slice M2 Z.length d2] 43 (0, 0))) := mkHid (fun X hX => by
      rw [hX.block w2.heap.size (by simp), ← hO2]; exact heap_alloc_new _ _)
    have hZW : (w2.alloc O2).heap.size = w2.heap.size + 1 := by simp
    have q5 := (box2 (HK5.out _ (Below.refl _ _))).1
    rw [hl2]
    clear hf2 hc2 hb2 hal
    subst hO2
    obtain ⟨p0, p1⟩ := q5
    go_wp2_with fail
    generalize w2.alloc (Obj.cells #[.slice A2 N c2, .slice M2 Z.length d2] 43) = W2 at *
    generalize w2.heap.size = K5 at *
    have hQ := fun A4 M4 c4 d4 (l4 : List Ln) X h1 h2 h3 h4 h5 => sameCrowd_same A2 A4 M2 M4 c2 c4 d2 d4 l2 l4 Z X (by have := L2.out; omega) (by omega) h5 h1 h2 h3 h4
    simp only [L2.out] at hQ
    have HQ := mkHid hQ
    clear hQ
    clear p0 p1
    have q0 := (box2 (HK5.out W2.drew (by exact ⟨rfl, rfl, rfl, Nat.le_refl _, fun k _ => rfl⟩))).1
    obtain ⟨p0, p1⟩ := q0
    go_region_law (first
      | (go_simp
         go_at_call 23
         refine (HSP.out _ _ W2.drew (show Sl W2.drew _ _ from S2.out)).mono ?_
         rintro e w4 ⟨A4, c4, l4, M4, d4, rfl, hl4, hf4, hc4, hb4⟩
         have HB4 := mkHid (below_undrew hb4)
         have HG4 := mkHid (hc4.grid (fresh_four hf4))
         have HM4 := mkHid (Sl.of_own hc4.2.2.1)
         have HE4 := mkHid (fresh_same (L2.out.trans hl4.symm) F2.out hf4)
         obtain ⟨r0, r1⟩ := (box2 (HK5.out w4 HB4.out)).1
         rw [hl4]
         clear hf4 hc4 hb4)
      | (go_simp
         go_at_call 22
         refine (HQ.out A4 M4 c4 d4 l4 w4 ((C2.out.below HB4.out).grid (fresh_four F2.out)) HG4.out (Sl.of_own (C2.out.below HB4.out).2.2.1) HM4.out HE4.out).mono ?_
         rintro e w5 ⟨rfl, b5⟩
         have HB5 := mkHid (below_then HB4.out b5)
         clear b5))
    all_goals (
      clear HG4 HM4 HE4 HQ HSP HIM HB4
      have C5 := mkHid (C2.out.below HB5.out)
      have S5 := mkHid (S2.out.below HB5.out)
      have B5 := mkHid (below_then B02.out HB5.out)
      have HK6 : Hid (∀ X, Below w5.heap.size w5 X → X.heap[K5]? = some (.cells #[.slice A2 N c2, .slice M2 Z.length d2] 43 (0, 0))) := mkHid (fun X hX => HK5.out X (below_then HB5.out hX))
      clear HK5 C2 S2 B02 HB5
      clear p0 p1
      obtain ⟨p0, p1⟩ := (box2 (HK6.out _ (Below.refl _ _))).1
      rcases HW.out with ⟨hn0, hz0⟩ | ⟨hn1, hnn, hzz⟩
      · subst hn0 hz0
        clear HW
        go_wp2_with fail
        refine (alive_any _).mono ?_
        rintro e w9 ⟨rfl, rfl⟩
        go_wp2_with fail
        go_ret
        exact ⟨rfl, B5.out⟩
      · subst hzz
        have hNn : N ≠ 0 := by omega
        subst hnn
        clear HW hN8 p0 p1
        obtain ⟨p0, p1⟩ := (box2 (HK6.out _ (Below.refl _ _))).1
        go_wp2_with fail
        clear p0 p1
        go_loopw [6] (fun i wr => ∃ k : Nat, k ≤ N ∧ i = .int .i64 k ∧ Below w5.heap.size w5 wr) (fun i _ => N - (intOf i).toNat)
        case atStart => exact ⟨0, by omega, rfl, Below.refl _ _⟩
        case round =>
          obtain ⟨k, hk, rfl, hb⟩ := hrel
          have HB := mkHid hb
          have CR := mkHid (C5.out.below hb)
          obtain ⟨p0, p1⟩ := (box2 (HK6.out _ hb)).1
          clear hb
          by_cases hlt : k < N
          · have hlt2 : k < l2.length := by rw [L2.out]; exact hlt
            obtain ⟨b, off, rfl, h0, h1, h2, h3⟩ := (CR.out.grid (fresh_four F2.out)).1.lane hlt2
            have s1 := (CR.out.grid (fresh_four F2.out)).2 _ (List.getElem_mem hlt2)
            have f1 := F2.out _ (List.getElem_mem hlt2)
            generalize l2[k] = x at *
            obtain ⟨f1a, f1b, f1c⟩ := f1
            obtain ⟨ra, ca, xs, t, wt⟩ := x
            simp only at h0 h1 h3 s1 f1a f1b f1c
            subst f1a f1b f1c
            have S1 := mkHid s1.1
            have H0 := mkHid (show ∀ X, Below wr.heap.size wr X → X.cell? ⟨b, off + k * 4, none⟩ = some (.slice ra 4 ca) ∧ X.cell? ⟨b, off + k * 4 + 1, none⟩ = some (.int .i64 0) ∧ X.cell? ⟨b, off + k * 4 + 2, none⟩ = some (.slice none 0 0) ∧ X.cell? ⟨b, off + k * 4 + 3, none⟩ = some (.bool false) ∧ X.cell? ⟨K5, 0, none⟩ = some (.slice (some ⟨b, off, none⟩) N c2) from fun X hX => by
              refine ⟨(Ext.keeps ⟨X, hX⟩ h0), (Ext.keeps ⟨X, hX⟩ h1), (Ext.keeps ⟨X, hX⟩ h2), (Ext.keeps ⟨X, hX⟩ h3), ?_⟩
              exact (box2 (HK6.out X (below_then HB.out hX))).1.1)
            clear s1 HK6 CR C5
            go_wp2_with fail
            go_region_law (first
              | (go_simp
                 go_at_call 25
                 refine (implNewLane_any _).mono ?_
                 rintro e w6 ⟨l, rfl, hf, ol, b6⟩
                 have HB6 := mkHid (below_undrew b6)
                 obtain ⟨r0, r1, r2, r3, r4⟩ := H0.out w6 HB6.out
                 obtain ⟨l1, l2, l3⟩ := hf
                 obtain ⟨rb, cb, ys2, t2, wt2⟩ := l
                 simp only at l1 l2 l3
                 subst l1 l2 l3
                 have HSB := mkHid (Sl.of_own ol)
                 clear ol b6)
              | (go_simp
                 go_at_call 24
                 refine (sameLane_same ra rb ca cb [0, 0, 0, 0] 0 false w6 (by simp) (S1.out.below HB6.out) HSB.out).mono ?_
                 rintro e w7 ⟨rfl, b7⟩
                 have HB7 := mkHid (below_then HB6.out b7)
                 clear b7))
            all_goals (
              go_wp2_with fail
              go_roundw
              case rel => exact ⟨k + 1, by omega, by go_num, below_then HB.out HB7.out⟩
              case measure => simp [intOf] <;> omega)
          · have HBB := mkHid (below_then B5.out HB.out)
            have hke : k = N := by omega
            have HC := mkHid (sameInts_same M2 (some ⟨g, 0, none⟩) d2 c1 Z wr (by omega) (Sl.of_own CR.out.2.2.1) (S5.out.below HB.out))
            subst hke
            go_wp2_with fail
            refine HC.out.mono ?_
            rintro e w6 ⟨rfl, k6, rfl⟩
            have HB6 := mkHid (below_drewN HBB.out k6)
            go_wp2_with fail
            go_ret
            exact ⟨rfl, HB6.out⟩)
namespace fnNewCrowd
set_option maxRecDepth 100000 in
theorem lifted (os : Os) (started : os.Started) (H : Type) (enc : TypeId × Value → H) :
    ReturnsInHanded {} Try.checked os 7 .any (Rows.fnNewCrowdSpec.pre6 enc Try.prog Try.f7 Rows.fnNewCrowdRow.domain false) (Rows.fnNewCrowdSpec.post enc Try.prog Try.f7 false true false false) := by
  refine returnsInHanded_of_change (C := Try.checked) own started (by kernel_rfl) Try.func7
    (ChangeSpec.witness6 (enc := enc) (C := Try.checked) false ⟨#[], #[.slice none 0 0], []⟩ 8 (by kernel_rfl) (by kernel_rfl) (by kernel_rfl) (by kernel_rfl)) ?_
  intro W base args ds gs before hval0 hW hcnd _
  have hval : ∀ (j : Nat) t v, Try.f7.params[j]? = some t → args[j]? = some v → Value.okWide Try.prog W .any base t v := hval0
  have hW' := hW
  obtain ⟨p, q, hA0, hV, rfl, hfz, hnd⟩ := hW
  have hA : DataW.TrodAll enc Try.prog W 0 (fun _ => true) true Try.f7.params.toList args.toList ds p := hA0
  have hAk : DataW.TrodAll enc Try.prog W 0 (fun _ => true) true Try.f7.params.toList args.toList ds p := hA0
  rw [Try.params7] at hA hval
  obtain ⟨v0, vs0, d0, ds0, p0, q0, hargs, rfl, rfl, h0, r0⟩ := trodAll_cons hA
  obtain ⟨rfl, rfl, rfl⟩ := trodAll_nil r0
  obtain rfl : args = #[v0] := by cases args; simp_all
  obtain ⟨rfl, rfl⟩ := trodVars_none hV
  obtain ⟨Azs, czs, zs, rfl, nzs, kzs, szs, wzs⟩ := open_int_slice Try.underlying26 Try.underlying5 (by kernel_rfl) (hval 0 26 v0 rfl rfl) h0
  have wzs : ∀ z ∈ zs, 0 ≤ z ∧ z ≤ 255 := fun z hz => wf_u8_bounds (wzs z hz)
  clear hA0 hval0
  refine (crowd_walk Azs czs zs W nzs kzs szs wzs).mono fun e W' ⟨he, hb⟩ => ?_
  subst he
  refine ⟨_, rfl, post_true laidOut (fun t ht => ?_) (by kernel_rfl) Try.underlying4 rfl rfl hW' hAk hb⟩
  rw [Try.params7] at ht
  simp only [List.mem_cons, List.not_mem_nil, or_false] at ht
  first | (rcases ht with rfl <;> exact ⟨by kernel_rfl, of_decide_eq_true (by kernel_rfl)⟩) | (obtain rfl := ht; exact ⟨by kernel_rfl, of_decide_eq_true (by kernel_rfl)⟩)
/-- The statement. -/
theorem proved : Rows.FnNewCrowdSaid :=
  OpenClaim.holds_of_wide 7 Try.f7 rfl rfl rfl rfl rfl rfl rfl ⟨rfl, rfl, rfl, rfl, rfl⟩ rfl rfl rfl rfl rfl (by kernel_rfl) Try.func7 (by kernel_rfl)
    (of_decide_eq_true (by kernel_rfl)) (by unfold Func.isWrapper; first | (rw [if_pos (by decide +kernel)]; kernel_rfl) | (rw [if_neg (by decide +kernel)]; exact ⟨rfl, rfl⟩))
    (fun os started H enc _ => lifted os started H enc)
end fnNewCrowd
#print axioms fnNewCrowd.proved
end Go.Proofs.Ytilhcedfokhhjaa
