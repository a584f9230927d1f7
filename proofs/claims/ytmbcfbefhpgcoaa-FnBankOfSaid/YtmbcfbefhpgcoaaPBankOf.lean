/-
  Proved: FnBankOf returns true for every code.
-/
import Derived.Test.YtmbcfbefhpgcoaaCNum
import Derived.Test.YtmbcfbefhpgcoaaCDraw
import Derived.Test.YtmbcfbefhpgcoaaFrame
namespace Go.Proofs.Ytmbcfbefhpgcoaa
open Go.ChangeShapes Go.WideShapes Go.ChangeAt Go.RowKit
set_option maxHeartbeats 400000
set_option linter.unusedVariables false

theorem drawBankOf_any (A : Option Addr) (c : Nat) (zs : List Int) (w : World) (hl : zs.length ≤ 9223372036854775807) (hcap : zs.length ≤ c) (hs : Sl w A (u8s zs)) (hz : ∀ z ∈ zs, 0 ≤ z ∧ z ≤ 255) :
    Calls Try.prog 23 #[.slice A zs.length c] w fun e w' => ∃ a b : Int, e = .returned (.tuple #[.int .i64 a, .int .i64 b]) ∧ (-1 ≤ a ∧ a ≤ 256) ∧ (-1 ≤ b ∧ b ≤ 33) ∧ Below w.heap.size w w' := by
  go_enter Try.func23, Try.ntmps23
  go_wp2_with fail
  refine (l20Open_any _ _ _ _ hl hcap hs hz).mono ?_
  rintro e w1 ⟨br, rfl, hbr, r1, b1⟩
  go_wp2_with fail
  refine (pick_any _ _ 0 _ (by omega) r1).mono ?_
  rintro e w2 ⟨a, rfl, ha, ha', r2, g2⟩
  have ha' := ha' (by omega)
  go_wp2_with fail
  refine (pick_any _ _ _ _ (by omega) r2).mono ?_
  rintro e w3 ⟨b, rfl, hb, hb', r3, g3⟩
  have hb' := hb' (by omega)
  go_wp2_with fail
  go_ret2
  exact ⟨_, _, rfl, by omega, by omega, (b1.grown g2 b1.size (by simpa using hbr)).grown g3 (Nat.le_trans b1.size g2.size) (by simpa using hbr)⟩

theorem bankOf_walk (A : Option Addr) (c : Nat) (zs : List Int) (w : World) (hl : zs.length ≤ 9223372036854775807) (hcap : zs.length ≤ c) (hs : Sl w A (u8s zs)) (hz : ∀ z ∈ zs, 0 ≤ z ∧ z ≤ 255) :
    Calls Try.prog 8 #[.slice A zs.length c] w fun e w' => e = .returned (.bool true) ∧ Below w.heap.size w w' := by
  go_enter Try.func8, Try.ntmps8
  go_wp2_with fail
  · go_ret
    exact ⟨rfl, Below.refl _ _⟩
  · refine (drawBankOf_any _ _ _ _ hl hcap hs hz).mono ?_
    rintro e w1 ⟨a, b, rfl, ha, hb, b1⟩
    by_cases hv : (0 ≤ a ∧ a ≤ 255) ∧ (1 ≤ b ∧ b ≤ 32)
    · obtain ⟨hv1, hv2⟩ := hv
      have E := mkHid (bankOf_yes hv1 hv2)
      have h0 : 0 ≤ a % b := Int.emod_nonneg _ (by omega)
      have h1 : a % b < b := Int.emod_lt_of_pos _ (by omega)
      go_wp2_with fail
      refine (implBankOf_any _ _ _).mono ?_
      rw [E.out]
      rintro e w2 ⟨rfl, rfl⟩
      go_wp2_with fail
      refine (specBankOf_any _ _ _).mono ?_
      rw [E.out]
      rintro e w2 ⟨rfl, rfl⟩
      by_cases h255 : a = 255
      · have HA := mkHid h255
        have hb0 : (a == 255) = true := by simp [h255]
        clear h255
        go_wp2_with fail
        refine (implBankOf_any _ _ _).mono ?_
        rintro e w2 ⟨rfl, rfl⟩
        go_wp2_with fail
        go_ret
        exact ⟨rfl, b1⟩
      · have E2 := mkHid (bankOf_yes (c := a + 1) (b := b) (by omega) hv2)
        have E3 := mkHid (Int.emod_add_emod a b 1)
        have hb0 : (a == 255) = false := by simp [h255]
        have hb1 : ((a + 1) % b == (a % b + 1) % b) = true := by rw [E3.out]; simp
        clear h255
        go_wp2_with fail
        refine (implBankOf_any _ _ _).mono ?_
        rw [E2.out]
        rintro e w2 ⟨rfl, rfl⟩
        go_wp2_with fail
        go_ret
        exact ⟨rfl, b1⟩
    · have E := mkHid (bankOf_no (c := a) (b := b) (by omega))
      go_wp2_with fail
      refine (implBankOf_any _ _ _).mono ?_
      rw [E.out]
      rintro e w2 ⟨rfl, rfl⟩
      go_wp2_with fail
      refine (specBankOf_any _ _ _).mono ?_
      rw [E.out]
      rintro e w2 ⟨rfl, rfl⟩
      go_wp2_with fail
      refine (alive_any _).mono ?_
      rintro e w2 ⟨rfl, rfl⟩
      go_wp2_with fail
      go_ret
      exact ⟨rfl, b1⟩
namespace fnBankOf
set_option maxRecDepth 100000 in
theorem lifted (os : Os) (started : os.Started) (H : Type) (enc : TypeId × Value → H) :
    ReturnsInHanded {} Try.checked os 8 .any (Rows.fnBankOfSpec.pre6 enc Try.prog Try.f8 Rows.fnBankOfRow.domain false) (Rows.fnBankOfSpec.post enc Try.prog Try.f8 false true false false) := by
  refine returnsInHanded_of_change (C := Try.checked) own started (by kernel_rfl) Try.func8
    (ChangeSpec.witness6 (enc := enc) (C := Try.checked) false ⟨#[], #[.slice none 0 0], []⟩ 8 (by kernel_rfl) (by kernel_rfl) (by kernel_rfl) (by kernel_rfl)) ?_
  intro W base args ds gs before hval0 hW hcnd _
  have hval : ∀ (j : Nat) t v, Try.f8.params[j]? = some t → args[j]? = some v → Value.okWide Try.prog W .any base t v := hval0
  have hW' := hW
  obtain ⟨p, q, hA0, hV, rfl, hfz, hnd⟩ := hW
  have hA : DataW.TrodAll enc Try.prog W 0 (fun _ => true) true Try.f8.params.toList args.toList ds p := hA0
  have hAk : DataW.TrodAll enc Try.prog W 0 (fun _ => true) true Try.f8.params.toList args.toList ds p := hA0
  rw [Try.params8] at hA hval
  obtain ⟨v0, vs0, d0, ds0, p0, q0, hargs, rfl, rfl, h0, r0⟩ := trodAll_cons hA
  obtain ⟨rfl, rfl, rfl⟩ := trodAll_nil r0
  obtain rfl : args = #[v0] := by cases args; simp_all
  obtain ⟨rfl, rfl⟩ := trodVars_none hV
  obtain ⟨Azs, czs, zs, rfl, nzs, kzs, szs, wzs⟩ := open_int_slice Try.underlying30 Try.underlying5 (by kernel_rfl) (hval 0 30 v0 rfl rfl) h0
  have wzs : ∀ z ∈ zs, 0 ≤ z ∧ z ≤ 255 := fun z hz => wf_u8_bounds (wzs z hz)
  clear hA0 hval0
  refine (bankOf_walk Azs czs zs W nzs kzs szs wzs).mono fun e W' ⟨he, hb⟩ => ?_
  subst he
  refine ⟨_, rfl, post_true laidOut (fun t ht => ?_) (by kernel_rfl) Try.underlying4 rfl rfl hW' hAk hb⟩
  rw [Try.params8] at ht
  simp only [List.mem_cons, List.not_mem_nil, or_false] at ht
  first | (rcases ht with rfl <;> exact ⟨by kernel_rfl, of_decide_eq_true (by kernel_rfl)⟩) | (obtain rfl := ht; exact ⟨by kernel_rfl, of_decide_eq_true (by kernel_rfl)⟩)
/-- The statement. -/
theorem proved : Rows.FnBankOfSaid :=
  OpenClaim.holds_of_wide 8 Try.f8 rfl rfl rfl rfl rfl rfl rfl ⟨rfl, rfl, rfl, rfl, rfl⟩ rfl rfl rfl rfl rfl (by kernel_rfl) Try.func8 (by kernel_rfl)
    (of_decide_eq_true (by kernel_rfl)) (by unfold Func.isWrapper; first | (rw [if_pos (by decide +kernel)]; kernel_rfl) | (rw [if_neg (by decide +kernel)]; exact ⟨rfl, rfl⟩))
    (fun os started H enc _ => lifted os started H enc)
end fnBankOf
#print axioms fnBankOf.proved
end Go.Proofs.Ytmbcfbefhpgcoaa
