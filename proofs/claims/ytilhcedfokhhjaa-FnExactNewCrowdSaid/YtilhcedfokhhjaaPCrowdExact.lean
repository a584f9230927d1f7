/-
  Proved: FnExactNewCrowd returns true for all arguments.
-/
import Derived.Test.YtilhcedfokhhjaaCCrowd2
import Derived.Test.YtilhcedfokhhjaaFrame
namespace Go.Proofs.Ytilhcedfokhhjaa
open Go.ChangeShapes Go.WideShapes Go.ChangeAt Go.RowKit
set_option maxHeartbeats 2000000
set_option linter.unusedVariables false

theorem exactCrowd_walk (n : Int) (A : Option Addr) (c : Nat) (zs : List Int) (w : World) (hnb : -9223372036854775808 ≤ n ∧ n ≤ 9223372036854775807) (hl : zs.length ≤ 9223372036854775807) (hcap : zs.length ≤ c) (hs : Sl w A (ints zs)) (hz : ∀ z ∈ zs, -9223372036854775808 ≤ z ∧ z ≤ 9223372036854775807) :
    Calls Try.prog 8 #[.int .i64 n, .slice A zs.length c] w fun e w' => e = .returned (.bool true) ∧ Below w.heap.size w w' := by
  have S0 := mkHid hs
  clear hs hz
  by_cases hlen : zs.length ≤ 1048576
  · obtain ⟨N, hN⟩ : ∃ N, N = crowdN n zs := ⟨_, rfl⟩
    obtain ⟨Z, hZ⟩ : ∃ Z, Z = crowdZ n zs := ⟨_, rfl⟩
    have hN8 : N ≤ 8 := by rw [hN]; exact crowdN_le _ _
    have hZ8 : Z.length ≤ 32 := by rw [hZ]; exact crowdZ_le _ _
    have hspec := fun A c w hs => specNewCrowd_any n A c zs w hlen hs
    have himpl := fun A c w hs => implNewCrowd_any n A c zs w hlen hs
    rw [← hN, ← hZ] at hspec himpl
    have HSP := mkHid hspec
    have HIM := mkHid himpl
    clear hspec himpl hN hZ
    go_enter Try.func8, Try.ntmps8
    go_wp2_with fail
    refine (toIntS_any _ _ _ _ hlen S0.out).mono ?_
    rintro e w1 ⟨A1, c1, rfl, o1, b1⟩
    have S1 := mkHid (Sl.of_own o1)
    have B01 := mkHid b1
    clear o1 b1
    go_wp2_with fail
    refine (HSP.out _ _ _ S1.out).mono ?_
    rintro e w2 ⟨A2, c2, l2, M2, d2, rfl, hl2, hf2, hc2, hb2⟩
    obtain ⟨O2, hO2⟩ : ∃ O2, O2 = Obj.cells #[.slice A2 N c2, .slice M2 Z.length d2] 43 := ⟨_, rfl⟩
    have hal : Below w2.heap.size w2 (w2.alloc O2) := (Below.refl _ _).alloc (Nat.le_refl _) _
    have F2 := mkHid hf2
    have C2 := mkHid (hc2.below hal)
    have L2 := mkHid hl2
    have B02 := mkHid (below_then (below_then B01.out hb2) hal)
    have HK5 : Hid (∀ X, Below (w2.alloc O2).heap.size (w2.alloc O2) X → X.heap[w2.heap.size]? = some (.cells #[.slice A2 N c2, .slice M2 Z.length d2] 43 (0, 0))) := mkHid (fun X hX => by
      rw [hX.block w2.heap.size (by simp), ← hO2]; exact heap_alloc_new _ _)
    have hZW : (w2.alloc O2).heap.size = w2.heap.size + 1 := by simp
    rw [hl2]
    clear hf2 hc2 hb2 hal
    go_wp2_with fail
    rw [← hO2]
    clear hO2
    generalize w2.alloc O2 = W2 at *
    refine (toIntS_any _ _ _ _ hlen (S0.out.below B02.out)).mono ?_
    rintro e w3 ⟨A3, c3, rfl, o3, b3⟩
    have O3 := mkHid o3
    have B03 := mkHid (below_then B02.out b3)
    have B23 := mkHid b3
    clear o3 b3
    go_wp2_with fail
    refine (HIM.out _ _ _ (Sl.of_own O3.out)).mono ?_
    rintro e w4 ⟨A4, c4, l4, M4, d4, rfl, hl4, hf4, hc4, hb4⟩
    obtain ⟨O4, hO4⟩ : ∃ O4, O4 = Obj.cells #[.slice A4 N c4, .slice M4 Z.length d4] 43 := ⟨_, rfl⟩
    have hal : Below w4.heap.size w4 (w4.alloc O4) := (Below.refl _ _).alloc (Nat.le_refl _) _
    have F4 := mkHid hf4
    have C4 := mkHid (hc4.below hal)
    have L4 := mkHid hl4
    have B34 := mkHid (below_then hb4 hal)
    have B04 := mkHid (below_then B03.out B34.out)
    have B24 := mkHid (below_then B23.out B34.out)
    have O34 := mkHid (own_below O3.out B34.out)
    have HQ7 : Hid ((w4.alloc O4).heap[w4.heap.size]? = some (.cells #[.slice A4 N c4, .slice M4 Z.length d4] 43 (0, 0))) := mkHid (by rw [← hO4]; exact heap_alloc_new _ _)
    have hK7 : w3.heap.size ≤ w4.heap.size := hb4.size
    rw [hl4]
    clear hf4 hc4 hb4 hal
    have k5 := (box2 (HK5.out _ B24.out)).1
    subst hO4
    obtain ⟨p0, p1⟩ := k5
    go_wp2_with fail
    generalize w4.alloc (Obj.cells #[.slice A4 N c4, .slice M4 Z.length d4] 43) = W4 at *
    generalize w4.heap.size = K7 at *
    clear p0 p1
    have hS42 : sameLns l4 l2 := fresh_same (L4.out.trans L2.out.symm) F4.out F2.out
    have HS42 := mkHid hS42
    have hQ := fun X h1 h2 h3 h4 => eqCrowd_same A4 A2 M4 M2 c4 c2 d4 d2 l4 l2 Z X (by have := L4.out; omega) (by omega) hS42 h1 h2 h3 h4
    simp only [L4.out] at hQ
    have HQ := mkHid hQ
    clear hQ hS42
    have HSP2 : Hid (∀ X, Below W2.heap.size W2 X → LGrid X A2 l2 ∧ Sl X M2 (ints Z)) := mkHid (fun X hX => ⟨((C2.out.below hX).grid (fresh_four F2.out)), Sl.of_own (C2.out.below hX).2.2.1⟩)
    refine (HQ.out W4 (C4.out.grid (fresh_four F4.out)) (HSP2.out _ B24.out).1 (Sl.of_own C4.out.2.2.1) (HSP2.out _ B24.out).2).mono ?_
    rintro e w5 ⟨rfl, b5⟩
    have C45 := mkHid (C4.out.below b5)
    have O35 := mkHid (own_below O34.out b5)
    have HQ75 := mkHid ((b5.block K7 (Array.getElem?_eq_some_iff.1 HQ7.out).1).trans HQ7.out)
    have B05 := mkHid (below_then B04.out b5)
    have B25 := mkHid (below_then B24.out b5)
    clear b5
    go_wp2_with fail
    refine (toIntS_any _ _ _ _ hlen (S0.out.below B05.out)).mono ?_
    rintro e w6 ⟨A6, c6, rfl, o6, b6⟩
    have S6 := mkHid (Sl.of_own o6)
    have C46 := mkHid (C45.out.below b6)
    have O36 := mkHid (own_below O35.out b6)
    have HQ76 := mkHid ((b6.block K7 (Array.getElem?_eq_some_iff.1 HQ75.out).1).trans HQ75.out)
    have B06 := mkHid (below_then B05.out b6)
    have B26 := mkHid (below_then B25.out b6)
    clear o6 b6
    go_wp2_with fail
    refine (eqIntS_same _ _ _ _ _ _ (by omega) (Sl.of_own O36.out) S6.out).mono ?_
    rintro e w7 ⟨rfl, k7, rfl⟩
    have hb7 : Below w6.heap.size w6 (w6.drewN k7) := below_drewN (Below.refl _ _) k7
    have C47 := mkHid (C46.out.below hb7)
    have O37 := mkHid (own_below O36.out hb7)
    have HQ77 : Hid ((w6.drewN k7).heap[K7]? = _) := mkHid (HQ76.out)
    have B07 := mkHid (below_then B06.out hb7)
    have B27 := mkHid (below_then B26.out hb7)
    clear hb7
    generalize w6.drewN k7 = w7 at *
    go_wp2_with fail
    refine (markIntS_any _ _ _ _ _ _ (by omega) (by omega) (by omega) O37.out).mono ?_
    rintro e w8 ⟨rfl, o8, g8⟩
    have C48 := mkHid (C47.out.old g8 (fun g hg => (O3.out.lt g hg).2))
    have HQ78 := mkHid ((g8.block K7 (Array.getElem?_eq_some_iff.1 HQ77.out).1 (fun e => by have := (O3.out.lt K7 e.symm).2; omega)).trans HQ77.out)
    have B08 := mkHid (B07.out.grown g8 B07.out.size (fun g hg => by have := (O3.out.lt g hg).1; have := B02.out.size; omega))
    have B28 := mkHid (B27.out.grown g8 B27.out.size (fun g hg => (O3.out.lt g hg).1))
    obtain ⟨p0, p1⟩ := (box2 HQ78.out).1
    obtain ⟨r0, r1⟩ := (box2 (HK5.out _ B28.out)).1
    clear o8 g8
    go_wp2_with fail
    clear p0 p1 r0 r1
    refine (HQ.out w8 (C48.out.grid (fresh_four F4.out)) (HSP2.out _ B28.out).1 (Sl.of_own C48.out.2.2.1) (HSP2.out _ B28.out).2).mono ?_
    rintro e w9 ⟨rfl, b9⟩
    have C49 := mkHid (C48.out.below b9)
    have HQ79 := mkHid ((b9.block K7 (Array.getElem?_eq_some_iff.1 HQ78.out).1).trans HQ78.out)
    have B09 := mkHid (below_then B08.out b9)
    have B29 := mkHid (below_then B28.out b9)
    have hz39 : w3.heap.size ≤ w9.heap.size := by have := (C49.out); have h1 := (Array.getElem?_eq_some_iff.1 HQ79.out).1; omega
    obtain ⟨p0, p1⟩ := (box2 HQ79.out).1
    clear b9
    have hM := markCrowd_any A4 c4 l4 M4 d4 Z 1 w3.heap.size w9 (by omega) (by have := L4.out; omega) (by omega) (fresh_four F4.out) hz39 C49.out
    rw [L4.out] at hM
    have HM := mkHid hM
    clear hM
    go_wp2_with fail
    clear p0 p1
    refine HM.out.mono ?_
    rintro e w10 ⟨rfl, m10, b10, k10⟩
    have M10 := mkHid m10
    have HQ710 := mkHid ((k10 K7 _ HQ79.out).trans HQ79.out)
    have B010 := mkHid (B09.out.trans (b10.mono (by have := B03.out.size; omega)))
    have B210 := mkHid (B29.out.trans (b10.mono B23.out.size))
    obtain ⟨p0, p1⟩ := (box2 HQ710.out).1
    have hH := fun X h => heldCrowd_any A4 c4 l4 M4 d4 Z.length 1 w3.heap.size X (by omega) (by have := L4.out; omega) (by omega) h
    simp only [L4.out] at hH
    have HH := mkHid hH
    clear m10 b10 k10 hH
    go_wp2_with fail
    clear p0 p1
    refine (HH.out w10 M10.out).mono ?_
    rintro e w11 ⟨rfl, b11⟩
    have M11 := mkHid (M10.out.below b11)
    have HQ711 := mkHid ((b11.block K7 (Array.getElem?_eq_some_iff.1 HQ710.out).1).trans HQ710.out)
    have B011 := mkHid (below_then B010.out b11)
    have B211 := mkHid (below_then B210.out b11)
    clear b11
    go_wp2_with fail
    refine (toIntS_any _ _ _ _ hlen (S0.out.below B011.out)).mono ?_
    rintro e w12 ⟨A12, c12, rfl, o12, b12⟩
    have S12 := mkHid (Sl.of_own o12)
    have M12 := mkHid (M11.out.below b12)
    have HQ712 := mkHid ((b12.block K7 (Array.getElem?_eq_some_iff.1 HQ711.out).1).trans HQ711.out)
    have B012 := mkHid (below_then B011.out b12)
    have B212 := mkHid (below_then B211.out b12)
    clear o12 b12
    go_wp2_with fail
    refine (HIM.out _ _ _ S12.out).mono ?_
    rintro e w13 ⟨A13, c13, l13, M13, d13, rfl, hl13, hf13, hc13, hb13⟩
    have hal : Below w13.heap.size w13 (w13.alloc (Obj.cells #[.slice A13 N c13, .slice M13 Z.length d13] 43)) := (Below.refl _ _).alloc (Nat.le_refl _) _
    have hb14 := below_then hb13 hal
    have F13 := mkHid hf13
    have L13 := mkHid hl13
    have C13 := mkHid (hc13.below hal)
    have M13' := mkHid (M12.out.below hb14)
    have HQ713 := mkHid ((hb14.block K7 (Array.getElem?_eq_some_iff.1 HQ712.out).1).trans HQ712.out)
    have B013 := mkHid (below_then B012.out hb14)
    have B213 := mkHid (below_then B212.out hb14)
    have HQ11 := mkHid (heap_alloc_new w13 (Obj.cells #[.slice A13 N c13, .slice M13 Z.length d13] 43))
    obtain ⟨r0, r1⟩ := (box2 (HK5.out _ B213.out)).1
    rw [hl13]
    clear hf13 hl13 hc13 hb13 hal hb14
    go_wp2_with fail
    clear r0 r1
    generalize w13.alloc (Obj.cells #[.slice A13 N c13, .slice M13 Z.length d13] 43) = W13 at *
    have hS := fresh_same (L13.out.trans L2.out.symm) F13.out F2.out
    have hQ := eqCrowd_same A13 A2 M13 M2 c13 c2 d13 d2 l13 l2 Z W13 (by have := L13.out; omega) (by omega) hS (C13.out.grid (fresh_four F13.out)) (HSP2.out _ B213.out).1 (Sl.of_own C13.out.2.2.1) (HSP2.out _ B213.out).2
    simp only [L13.out] at hQ
    refine hQ.mono ?_
    rintro e w14 ⟨rfl, b14⟩
    have M14 := mkHid (M13'.out.below b14)
    have HQ714 := mkHid ((b14.block K7 (Array.getElem?_eq_some_iff.1 HQ713.out).1).trans HQ713.out)
    have B014 := mkHid (below_then B013.out b14)
    obtain ⟨p0, p1⟩ := (box2 HQ714.out).1
    clear b14 hQ hS
    go_wp2_with fail
    clear p0 p1
    refine (HH.out w14 M14.out).mono ?_
    rintro e w15 ⟨rfl, b15⟩
    have B015 := mkHid (below_then B014.out b15)
    clear b15
    go_wp2_with fail
    go_ret
    exact ⟨rfl, B015.out⟩
  · have hb : ((zs.length : Int) > 1048576) := by omega
    go_enter Try.func8, Try.ntmps8
    go_wp2_with fail
    go_ret
    exact ⟨rfl, Below.refl _ _⟩
namespace fnExactNewCrowd
set_option maxRecDepth 100000 in
theorem lifted (os : Os) (started : os.Started) (H : Type) (enc : TypeId × Value → H) :
    ReturnsInHanded {} Try.checked os 8 .any (Rows.fnExactNewCrowdSpec.pre6 enc Try.prog Try.f8 Rows.fnExactNewCrowdRow.domain false) (Rows.fnExactNewCrowdSpec.post enc Try.prog Try.f8 false true false false) := by
  refine returnsInHanded_of_change (C := Try.checked) own started (by kernel_rfl) Try.func8
    (ChangeSpec.witness6 (enc := enc) (C := Try.checked) false ⟨#[], #[.int .i64 0, .slice none 0 0], []⟩ 8 (by kernel_rfl) (by kernel_rfl) (by kernel_rfl) (by kernel_rfl)) ?_
  intro W base args ds gs before hval0 hW hcnd _
  have hval : ∀ (j : Nat) t v, Try.f8.params[j]? = some t → args[j]? = some v → Value.okWide Try.prog W .any base t v := hval0
  have hW' := hW
  obtain ⟨p, q, hA0, hV, rfl, hfz, hnd⟩ := hW
  have hA : DataW.TrodAll enc Try.prog W 0 (fun _ => true) true Try.f8.params.toList args.toList ds p := hA0
  have hAk : DataW.TrodAll enc Try.prog W 0 (fun _ => true) true Try.f8.params.toList args.toList ds p := hA0
  rw [Try.params8] at hA hval
  obtain ⟨v0, vs0, d0, ds0, p0, q0, hargs, rfl, rfl, h0, r0⟩ := trodAll_cons hA
  obtain ⟨v1, vs1, d1, ds1, p1, q1, rfl, rfl, rfl, h1, r1⟩ := trodAll_cons r0
  obtain ⟨rfl, rfl, rfl⟩ := trodAll_nil r1
  obtain rfl : args = #[v0, v1] := by cases args; simp_all
  obtain ⟨rfl, rfl⟩ := trodVars_none hV
  obtain ⟨n, rfl, rfl, rfl, w0⟩ := open_int Try.underlying3 (hval 0 3 v0 rfl rfl) h0
  have w0 := wf_i64_bounds w0
  obtain ⟨Ax, cx, x, rfl, nx, kx, sx, wx⟩ := open_int_slice Try.underlying22 Try.underlying3 (by kernel_rfl) (hval 1 22 v1 rfl rfl) h1
  have wx : ∀ z ∈ x, -9223372036854775808 ≤ z ∧ z ≤ 9223372036854775807 := fun z hz => wf_i64_bounds (wx z hz)
  clear hA0 hval0
  refine (exactCrowd_walk n Ax cx x W w0 nx kx sx wx).mono fun e W' ⟨he, hb⟩ => ?_
  subst he
  refine ⟨_, rfl, post_true laidOut (fun t ht => ?_) (by kernel_rfl) Try.underlying4 rfl rfl hW' hAk hb⟩
  rw [Try.params8] at ht
  simp only [List.mem_cons, List.not_mem_nil, or_false] at ht
  first | (rcases ht with rfl | rfl <;> exact ⟨by kernel_rfl, of_decide_eq_true (by kernel_rfl)⟩) | (obtain rfl := ht; exact ⟨by kernel_rfl, of_decide_eq_true (by kernel_rfl)⟩)
/-- The statement. -/
theorem proved : Rows.FnExactNewCrowdSaid :=
  OpenClaim.holds_of_wide 8 Try.f8 rfl rfl rfl rfl rfl rfl rfl ⟨rfl, rfl, rfl, rfl, rfl⟩ rfl rfl rfl rfl rfl (by kernel_rfl) Try.func8 (by kernel_rfl)
    (of_decide_eq_true (by kernel_rfl)) (by unfold Func.isWrapper; first | (rw [if_pos (by decide +kernel)]; kernel_rfl) | (rw [if_neg (by decide +kernel)]; exact ⟨rfl, rfl⟩))
    (fun os started H enc _ => lifted os started H enc)
end fnExactNewCrowd
#print axioms fnExactNewCrowd.proved
end Go.Proofs.Ytilhcedfokhhjaa
