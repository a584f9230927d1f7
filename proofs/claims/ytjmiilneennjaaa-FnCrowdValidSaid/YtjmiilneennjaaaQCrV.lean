/-
  Proved: FnCrowdValid returns true for every code.
-/
import Derived.Test.YtjmiilneennjaaaPart35
import Derived.Test.YtjmiilneennjaaaPart03
namespace Go.Proofs.Ytjmiilneennjaaa
open Go.ChangeShapes Go.WideShapes Go.ChangeAt Go.RowKit
set_option maxHeartbeats 2000000
set_option maxRecDepth 100000
set_option linter.unusedVariables false
set_option linter.unusedSimpArgs false

theorem crowd_bare (xs : List Cd) (mem : List Int) : crowdValid xs [] mem = false := crowdValid_no (.inl rfl)
theorem crowd_blank (xs : List Cd) (ss : List LS) : crowdValid xs ss [] = false := crowdValid_no (.inr (.inr (.inl rfl)))
theorem crV_walk (A : Option Addr) (c : Nat) (zs : List Int) (w : World) (hl : zs.length ≤ 9223372036854775807) (hcap : zs.length ≤ c) (hs : Sl w A (u8s zs)) (hz : ∀ z ∈ zs, 0 ≤ z ∧ z ≤ 255) :
    Calls Try.prog 4 #[.slice A zs.length c] w fun e w' => e = .returned (.bool true) ∧ Below w.heap.size w w' := by
  by_cases hbig : 1048576 < zs.length
  · go_enter Try.func4, Try.ntmps4
    go_wp2_with fail
    go_ret
    exact ⟨rfl, Below.refl _ _⟩
  · go_enter Try.func4, Try.ntmps4
    go_wp2_with fail
    refine (drawCrowdValid_any _ _ _ _ hl hcap hs hz).mono ?_
    rintro e w1 ⟨A2, a2, ls, m, g, c', ys, rfl, hin⟩
    obtain ⟨o6, ho6⟩ : ∃ o6, o6 = Obj.cells #[.slice A2 ls.length a2, .slice m.a m.zs.length m.c] 32 := ⟨_, rfl⟩
    have hal6 : Below w1.heap.size w1 (w1.alloc o6) := (Below.refl _ _).alloc (Nat.le_refl _) _
    have HI := mkHid (hin.below hal6)
    have hq6 : (w1.alloc o6).heap[w1.heap.size]? = some o6 := heap_alloc_new w1 o6
    have hls8 := hin.sm.1
    have hm34 := hin.sm.2
    have hy := hin.len
    subst ho6
    have HQ := mkHid hq6
    clear hin hal6 hq6 hs hz
    go_upto_region 4 with fail
    generalize w1.alloc (.cells #[.slice A2 ls.length a2, .slice m.a m.zs.length m.c] 32) = W1 at *
    generalize w1.heap.size = X at *
    obtain ⟨ok, hok⟩ : ∃ ok, ok = crowdValid ys (sts ls) m.zs := ⟨_, rfl⟩
    have HC := mkHid (implCrowdValid_any A2 a2 ls m (some ⟨g, 0, none⟩) c' ys W1 (by omega) (by omega) (by omega) HI.out.code HI.out.grid HI.out.mem)
    rw [← hok] at HC
    have HOK := mkHid hok
    obtain ⟨p0, p1⟩ := box2t HQ.out
    clear hok
    go_wp2_with fail
    refine HC.out.mono ?_
    rintro e w2 ⟨rfl, b2⟩
    have HI2 := mkHid (HI.out.below b2)
    have HQ2 := mkHid ((b2.block _ (Array.getElem?_eq_some_iff.1 HQ.out).1).trans HQ.out)
    have HC2 := mkHid (specCrowdValid_any A2 a2 ls m (some ⟨g, 0, none⟩) c' ys w2 (by omega) (by omega) (by omega) HI2.out.code HI2.out.grid HI2.out.mem)
    rw [← HOK.out] at HC2
    clear b2 HI HQ HC p0 p1
    obtain ⟨p0, p1⟩ := box2t HQ2.out
    go_wp2_with fail
    refine HC2.out.mono ?_
    rintro e w3 ⟨rfl, b3⟩
    have HI3 := mkHid (HI2.out.below b3)
    have HQ3 := mkHid ((b3.block _ (Array.getElem?_eq_some_iff.1 HQ2.out).1).trans HQ2.out)
    have HC3 := mkHid (implCrowdValid_any none 0 [] m (some ⟨g, 0, none⟩) c' ys w3 (by omega) (by simp) (by omega) HI3.out.code ⟨Sl.nil _ _, fun l h => by simp at h⟩ HI3.out.mem)
    rw [show sts ([] : List Lt) = [] from rfl, crowd_bare] at HC3
    have hokk : (ok != ok) = false := by cases ok <;> rfl
    clear b3 HI2 HQ2 HC2 p0 p1 HOK
    obtain ⟨p0, p1⟩ := box2t HQ3.out
    go_wp2_with fail
    refine HC3.out.mono ?_
    rintro e w4 ⟨rfl, b4⟩
    have HI4 := mkHid (HI3.out.below b4)
    have HQ4 := mkHid ((b4.block _ (Array.getElem?_eq_some_iff.1 HQ3.out).1).trans HQ3.out)
    have HC4 := mkHid (implCrowdValid_any A2 a2 ls ⟨none, 0, []⟩ (some ⟨g, 0, none⟩) c' ys w4 (by omega) (by omega) (by simp) HI4.out.code HI4.out.grid (Sl.nil _ _))
    rw [crowd_blank] at HC4
    clear b4 HI3 HQ3 HC3 p0 p1
    obtain ⟨p0, p1⟩ := box2t HQ4.out
    go_wp2_with fail
    refine HC4.out.mono ?_
    rintro e w5 ⟨rfl, b5⟩
    have HB5 := mkHid (below_then HI4.out.hb b5)
    clear b5 HI4 HQ4 HC4 p0 p1
    go_wp2_with fail
    refine (alive_any _).mono ?_
    rintro e w9 ⟨rfl, rfl⟩
    go_wp2_with fail
    go_ret
    exact ⟨rfl, HB5.out⟩
namespace fnCrowdValid
set_option maxRecDepth 100000 in
theorem lifted (os : Os) (started : os.Started) (H : Type) (enc : TypeId × Value → H) :
    ReturnsInHanded {} Try.checked os 4 .any (Rows.fnCrowdValidSpec.pre6 enc Try.prog Try.f4 Rows.fnCrowdValidRow.domain false) (Rows.fnCrowdValidSpec.post enc Try.prog Try.f4 false true false false) := by
  refine returnsInHanded_of_change (C := Try.checked) own started (by kernel_rfl) Try.func4
    (ChangeSpec.witness6 (enc := enc) (C := Try.checked) false ⟨#[], #[.slice none 0 0], []⟩ 8 (by kernel_rfl) (by kernel_rfl) (by kernel_rfl) (by kernel_rfl)) ?_
  intro W base args ds gs before hval0 hW hcnd _
  have hval : ∀ (j : Nat) t v, Try.f4.params[j]? = some t → args[j]? = some v → Value.okWide Try.prog W .any base t v := hval0
  have hW' := hW
  obtain ⟨p, q, hA0, hV, rfl, hfz, hnd⟩ := hW
  have hA : DataW.TrodAll enc Try.prog W 0 (fun _ => true) true Try.f4.params.toList args.toList ds p := hA0
  have hAk : DataW.TrodAll enc Try.prog W 0 (fun _ => true) true Try.f4.params.toList args.toList ds p := hA0
  rw [Try.params4] at hA hval
  obtain ⟨v0, vs0, d0, ds0, p0, q0, hargs, rfl, rfl, h0, r0⟩ := trodAll_cons hA
  obtain ⟨rfl, rfl, rfl⟩ := trodAll_nil r0
  obtain rfl : args = #[v0] := by cases args; simp_all
  obtain ⟨rfl, rfl⟩ := trodVars_none hV
  obtain ⟨Azs, czs, zs, rfl, nzs, kzs, szs, wzs⟩ := open_int_slice Try.underlying39 Try.underlying5 (by kernel_rfl) (hval 0 39 v0 rfl rfl) h0
  have wzs : ∀ z ∈ zs, 0 ≤ z ∧ z ≤ 255 := fun z hz => wf_u8_bounds (wzs z hz)
  clear hA0 hval0
  refine (crV_walk Azs czs zs W nzs kzs szs wzs).mono fun e W' ⟨he, hb⟩ => ?_
  subst he
  refine ⟨_, rfl, post_true laidOut (fun t ht => ?_) (by kernel_rfl) Try.underlying4 rfl rfl hW' hAk hb⟩
  rw [Try.params4] at ht
  simp only [List.mem_cons, List.not_mem_nil, or_false] at ht
  first | (rcases ht with rfl <;> exact ⟨by kernel_rfl, of_decide_eq_true (by kernel_rfl)⟩) | (obtain rfl := ht; exact ⟨by kernel_rfl, of_decide_eq_true (by kernel_rfl)⟩)
/-- The statement. -/
theorem proved : Rows.FnCrowdValidSaid :=
  OpenClaim.holds_of_wide 4 Try.f4 rfl rfl rfl rfl rfl rfl rfl ⟨rfl, rfl, rfl, rfl, rfl⟩ rfl rfl rfl rfl rfl (by kernel_rfl) Try.func4 (by kernel_rfl)
    (of_decide_eq_true (by kernel_rfl)) (by unfold Func.isWrapper; first | (rw [if_pos (by decide +kernel)]; kernel_rfl) | (rw [if_neg (by decide +kernel)]; exact ⟨rfl, rfl⟩))
    (fun os started H enc _ => lifted os started H enc)
end fnCrowdValid
#print axioms fnCrowdValid.proved
end Go.Proofs.Ytjmiilneennjaaa
