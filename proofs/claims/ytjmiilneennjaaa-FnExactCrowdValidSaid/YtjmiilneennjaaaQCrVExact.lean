/-
  Proved: FnExactCrowdValid returns true for all arguments.
-/
import Derived.Test.YtjmiilneennjaaaPart03
import Derived.Test.YtjmiilneennjaaaPart20
namespace Go.Proofs.Ytjmiilneennjaaa
open Go.ChangeShapes Go.WideShapes Go.ChangeAt Go.RowKit
set_option maxHeartbeats 2000000
set_option maxRecDepth 100000
set_option linter.unusedVariables false

theorem below_drew (w : World) : Below w.heap.size w w.drew := ⟨rfl, rfl, rfl, Nat.le_refl _, fun i hi => rfl⟩
theorem RetCr.parts {ss : List LS} {zs : List Int} {w w' : World} {e : Ending} (h : RetCr ss zs w e w') : ∃ A c, ∃ ls : List Lt, ∃ a d, e = .returned (.agg #[.slice A ls.length c, .slice a zs.length d]) ∧ sts ls = ss ∧ ls.length = ss.length ∧ CrAt w' w.heap.size A c ls ⟨a, d, zs⟩ ∧ Below w.heap.size w w' := by
  obtain ⟨A, c, ls, ⟨a, d, zs'⟩, rfl, h1, rfl, h2, h3⟩ := h
  exact ⟨A, c, ls, a, d, rfl, h1, by rw [← h1]; simp, h2, h3⟩
theorem exactCrV_walk (x : CrArg) (y : Option Addr × Nat × List Cd) (w : World) (rx : x.ls.length ≤ 9223372036854775807 ∧ x.m.zs.length ≤ 9223372036854775807) (sx : TGrid w x.A x.ls ∧ Sl w x.m.a (ints x.m.zs)) (ry : y.2.2.length ≤ 9223372036854775807) (sy : Sl w y.1 (cflat y.2.2)) :
    Calls Try.prog 3 #[crV x, .slice y.1 y.2.2.length y.2.1] w fun e w' => e = .returned (.bool true) ∧ Below w.heap.size w w' := by
  obtain ⟨A, c, xs⟩ := y
  obtain ⟨CA, cc, ls, ⟨ma, mc, ms⟩⟩ := x
  simp only at rx sx ry sy ⊢
  have hal : Below w.heap.size w (w.alloc (.cells #[.slice CA ls.length cc, .slice ma ms.length mc] 25)) := (Below.refl _ _).alloc (Nat.le_refl _) _
  have hq : (w.alloc (.cells #[.slice CA ls.length cc, .slice ma ms.length mc] 25)).heap[w.heap.size]? = some (.cells #[.slice CA ls.length cc, .slice ma ms.length mc] 25 (0, 0)) := heap_alloc_new w _
  have GX := mkHid (sx.1.below hal)
  have SM := mkHid (sx.2.below hal)
  have SX := mkHid (sy.below hal)
  have HB := mkHid hal
  have HQ := mkHid hq
  have HZ := mkHid (szCrowd_any CA cc ls ⟨ma, mc, ms⟩ 1048576 _ (by omega) rx.1 rx.2 GX.out)
  have hrx := rx
  clear sx sy hal hq
  go_enter Try.func3, Try.ntmps3
  go_wp2_with fail
  generalize w.alloc (.cells #[.slice CA ls.length cc, .slice ma ms.length mc] 25) = W at *
  refine HZ.out.mono ?_
  rintro e w1 ⟨⟨v, rfl, v0, v1, ⟨hl1, hl2⟩, hm⟩ | rfl, b1⟩
  · have HL := mkHid hl2
    have G1 := mkHid (GX.out.below b1)
    have M1 := mkHid (SM.out.below b1)
    have S1 := mkHid (SX.out.below b1)
    have B1 := mkHid b1
    clear hl2 b1 HZ
    go_wp2_with fail
    refine (szCodeS_any _ _ _ _ _ (by omega) ry).mono ?_
    rintro e w2 ⟨⟨hle, rfl⟩ | ⟨hlt, rfl⟩, rfl⟩
    · obtain ⟨p0, p1⟩ := box2t ((B1.out.block _ (Array.getElem?_eq_some_iff.1 HQ.out).1).trans HQ.out)
      go_wp2_with fail
      refine (toCrowd_any CA cc ls ⟨ma, mc, ms⟩ _ hl1 HL.out hm G1.out M1.out).mono ?_
      rintro e w2 h
      obtain ⟨A2, c2, l2, a2, d2, rfl, st2, n2, cr2', b2⟩ := h.parts
      have C2 := mkHid cr2'
      have ST2 := mkHid st2
      have B2 := mkHid (below_then B1.out b2)
      have S2 := mkHid (S1.out.below b2)
      have hn2 : l2.length ≤ 1000000000 := by rw [n2]; simp; omega
      clear h st2 cr2' b2 p0 p1 n2
      go_wp2_with fail
      refine (toCodeS_any _ _ _ _ (by omega) S2.out).mono ?_
      rintro e w3 ⟨A3, c3, rfl, o3, b3⟩
      have P3 := mkHid (Sl.of_own o3)
      have C3 := mkHid (C2.out.below b3)
      have B3 := mkHid (below_then B2.out b3)
      clear o3 b3
      go_wp2_with fail
      refine (specCrowdValid_any A2 c2 l2 ⟨a2, d2, ms⟩ A3 c3 xs _ (by omega) hn2 (by simp only; omega) P3.out C3.out.grid' (Sl.of_own C3.out.mem)).mono ?_
      rintro e w4 ⟨rfl, b4⟩
      rw [ST2.out]
      have B4 := mkHid (below_then B3.out b4)
      obtain ⟨p0, p1⟩ := box2t ((B4.out.block _ (Array.getElem?_eq_some_iff.1 HQ.out).1).trans HQ.out)
      obtain ⟨ok, hok⟩ : ∃ ok, ok = crowdValid xs (sts ls) ms := ⟨_, rfl⟩
      have HOK := mkHid hok
      rw [← hok]
      clear b4 hok
      go_wp2_with fail
      refine (toCrowd_any CA cc ls ⟨ma, mc, ms⟩ _ hl1 HL.out hm (GX.out.below B4.out) (SM.out.below B4.out)).mono ?_
      rintro e w5 h
      obtain ⟨A5, c5, l5, a5, d5, rfl, st5, n5, cr5, b5⟩ := h.parts
      obtain ⟨o5, ho5⟩ : ∃ o5, o5 = Obj.cells #[.slice A5 l5.length c5, .slice a5 ms.length d5] 32 := ⟨_, rfl⟩
      have hal5 : Below w5.heap.size w5 (w5.alloc o5) := (Below.refl _ _).alloc (Nat.le_refl _) _
      have hq5 : (w5.alloc o5).heap[w5.heap.size]? = some o5 := heap_alloc_new w5 _
      have C5 := mkHid (cr5.below hal5)
      have ST5 := mkHid st5
      have B5 := mkHid (below_then (below_then B4.out b5) hal5)
      subst ho5
      have HQ5 := mkHid hq5
      have hn5 : l5.length ≤ 1000000000 := by rw [n5]; simp; omega
      clear h st5 cr5 b5 p0 p1 hal5 hq5 n5
      go_wp2_with fail
      generalize w5.alloc (.cells #[.slice A5 l5.length c5, .slice a5 ms.length d5] 32) = W5 at *
      refine (toCodeS_any _ _ _ _ (by omega) (SX.out.below B5.out)).mono ?_
      rintro e w6 ⟨A6, c6, rfl, o6, b6⟩
      have P6 := mkHid (Sl.of_own o6)
      have C6 := mkHid (C5.out.below b6)
      have B6 := mkHid (below_then B5.out b6)
      have HQ6 := mkHid ((b6.block _ (Array.getElem?_eq_some_iff.1 HQ5.out).1).trans HQ5.out)
      obtain ⟨r0, r1⟩ := box2t HQ6.out
      clear o6 b6
      go_wp2_with fail
      refine (implCrowdValid_any A5 c5 l5 ⟨a5, d5, ms⟩ A6 c6 xs _ (by omega) hn5 (by simp only; omega) P6.out C6.out.grid' (Sl.of_own C6.out.mem)).mono ?_
      rintro e w7 ⟨rfl, b7⟩
      rw [ST5.out, ← HOK.out]
      have B7 := mkHid (below_then B6.out b7)
      have P7 := mkHid (P6.out.below b7)
      have C7 := mkHid (C6.out.below b7)
      have HQ7 := mkHid ((b7.block _ (Array.getElem?_eq_some_iff.1 HQ6.out).1).trans HQ6.out)
      clear b7 r0 r1
      obtain ⟨p0, p1⟩ := box2t ((B7.out.block _ (Array.getElem?_eq_some_iff.1 HQ.out).1).trans HQ.out)
      obtain ⟨r0, r1⟩ := box2t HQ7.out
      have hokk : (ok != ok) = false := by cases ok <;> rfl
      go_wp2_with fail
      have HGD := mkHid ((GX.out.below B7.out).below (show Below w7.heap.size w7 w7.drew from below_drew _))
      have HMD := mkHid ((SM.out.below B7.out).below (show Below w7.heap.size w7 w7.drew from below_drew _))
      go_region_law (first
        | (go_simp
           go_at_call 12
           refine (toCrowd_any CA cc ls ⟨ma, mc, ms⟩ _ hl1 HL.out hm HGD.out HMD.out).mono ?_
           rintro e w8 h
           obtain ⟨A8, c8, l8, a8, d8, rfl, st8, n8, cr8, b8⟩ := h.parts
           have hb8 : Below w7.heap.size w7 w8 := (below_drew w7).trans b8
           have C8 := mkHid cr8
           have C78 := mkHid (C7.out.below hb8)
           have ST8 := mkHid st8
           have HB78 := mkHid hb8
           obtain ⟨k0, k1⟩ := box2t ((hb8.block _ (Array.getElem?_eq_some_iff.1 HQ7.out).1).trans HQ7.out)
           clear h st8 cr8 b8 hb8 n8)
        | (go_simp
           go_at_call 15
           refine (eqCr_same A5 A8 c5 c8 ⟨a5, d5, ms⟩ ⟨a8, d8, ms⟩ l5 l8 _ (by omega) (by simp only; omega) (ST5.out.trans ST8.out.symm) rfl C78.out.grid' C8.out.grid' (Sl.of_own C78.out.mem) (Sl.of_own C8.out.mem)).mono ?_
           rintro e w9 ⟨rfl, b9⟩
           have HB79 := mkHid (below_then HB78.out b9)
           clear b9))
      all_goals (
        have B9 := mkHid (below_then B7.out HB79.out)
        have P9 := mkHid (P7.out.below HB79.out)
        clear p0 p1 r0 r1 k0 k1
        go_wp2_with fail
        refine (toCodeS_any _ _ _ _ (by omega) (SX.out.below B9.out)).mono ?_
        rintro e w10 ⟨A10, c10, rfl, o10, b10⟩
        have P10 := mkHid (Sl.of_own o10)
        have P910 := mkHid (P9.out.below b10)
        have B10 := mkHid (below_then B9.out b10)
        clear o10 b10
        go_wp2_with fail
        refine (eqCodeS_same _ _ _ _ _ _ (by omega) P910.out P10.out).mono ?_
        rintro e w11 ⟨rfl, b11⟩
        have B11 := mkHid (HB.out.trans ((below_then B10.out b11).mono HB.out.size))
        clear b11
        go_wp2_with fail
        go_ret
        exact ⟨rfl, B11.out⟩)
    · have B9 := mkHid (HB.out.trans (B1.out.mono HB.out.size))
      go_wp2_with fail
      go_ret
      exact ⟨rfl, B9.out⟩
  · have B9 := mkHid (HB.out.trans (b1.mono HB.out.size))
    clear b1
    go_wp2_with fail
    go_ret
    exact ⟨rfl, B9.out⟩
namespace fnExactCrowdValid
set_option maxRecDepth 100000 in
theorem lifted (os : Os) (started : os.Started) (H : Type) (enc : TypeId × Value → H) :
    ReturnsInHanded {} Try.checked os 3 .any (Rows.fnExactCrowdValidSpec.pre6 enc Try.prog Try.f3 Rows.fnExactCrowdValidRow.domain false) (Rows.fnExactCrowdValidSpec.post enc Try.prog Try.f3 false true false false) := by
  refine returnsInHanded_of_change (C := Try.checked) own started (by kernel_rfl) Try.func3
    (ChangeSpec.witness6 (enc := enc) (C := Try.checked) false ⟨#[], #[.agg #[.slice none 0 0, .slice none 0 0], .slice none 0 0], []⟩ 8 (by kernel_rfl) (by kernel_rfl) (by kernel_rfl) (by kernel_rfl)) ?_
  intro W base args ds gs before hval0 hW hcnd _
  have hval : ∀ (j : Nat) t v, Try.f3.params[j]? = some t → args[j]? = some v → Value.okWide Try.prog W .any base t v := hval0
  have hW' := hW
  obtain ⟨p, q, hA0, hV, rfl, hfz, hnd⟩ := hW
  have hA : DataW.TrodAll enc Try.prog W 0 (fun _ => true) true Try.f3.params.toList args.toList ds p := hA0
  have hAk : DataW.TrodAll enc Try.prog W 0 (fun _ => true) true Try.f3.params.toList args.toList ds p := hA0
  rw [Try.params3] at hA hval
  obtain ⟨v0, vs0, d0, ds0, p0, q0, hargs, rfl, rfl, h0, r0⟩ := trodAll_cons hA
  obtain ⟨v1, vs1, d1, ds1, p1, q1, rfl, rfl, rfl, h1, r1⟩ := trodAll_cons r0
  obtain ⟨rfl, rfl, rfl⟩ := trodAll_nil r1
  obtain rfl : args = #[v0, v1] := by cases args; simp_all
  obtain ⟨rfl, rfl⟩ := trodVars_none hV
  obtain ⟨x, rx, rfl, sx⟩ := open_crowd (hval 0 25 v0 rfl rfl) h0
  obtain ⟨y, ry, rfl, sy⟩ := open_codes (hval 1 26 v1 rfl rfl) h1
  clear hA0 hval0
  refine (exactCrV_walk x y W rx sx ry sy).mono fun e W' ⟨he, hb⟩ => ?_
  subst he
  refine ⟨_, rfl, post_true laidOut (fun t ht => ?_) (by kernel_rfl) Try.underlying4 rfl rfl hW' hAk hb⟩
  rw [Try.params3] at ht
  simp only [List.mem_cons, List.not_mem_nil, or_false] at ht
  first | (rcases ht with rfl | rfl <;> exact ⟨by kernel_rfl, of_decide_eq_true (by kernel_rfl)⟩) | (obtain rfl := ht; exact ⟨by kernel_rfl, of_decide_eq_true (by kernel_rfl)⟩)
/-- The statement. -/
theorem proved : Rows.FnExactCrowdValidSaid :=
  OpenClaim.holds_of_wide 3 Try.f3 rfl rfl rfl rfl rfl rfl rfl ⟨rfl, rfl, rfl, rfl, rfl⟩ rfl rfl rfl rfl rfl (by kernel_rfl) Try.func3 (by kernel_rfl)
    (of_decide_eq_true (by kernel_rfl)) (by unfold Func.isWrapper; first | (rw [if_pos (by decide +kernel)]; kernel_rfl) | (rw [if_neg (by decide +kernel)]; exact ⟨rfl, rfl⟩))
    (fun os started H enc _ => lifted os started H enc)
end fnExactCrowdValid
#print axioms fnExactCrowdValid.proved
end Go.Proofs.Ytjmiilneennjaaa
