/-
  Proved: FnLinesLeast returns true for every code.
-/
import Derived.Test.YtmbcfbefhpgcoabDSize
import Derived.Test.YtmbcfbefhpgcoabCNum
import Derived.Test.YtmbcfbefhpgcoabFrame
namespace Go.Proofs.Ytmbcfbefhpgcoab
open Go.ChangeShapes Go.WideShapes Go.ChangeAt Go.RowKit
set_option maxHeartbeats 1000000
set_option linter.unusedVariables false

theorem drawLinesLeast_any (A : Option Addr) (c : Nat) (zs : List Int) (w : World) (hl : zs.length ≤ 9223372036854775807) (hcap : zs.length ≤ c) (hs : Sl w A (u8s zs)) (hz : ∀ z ∈ zs, 0 ≤ z ∧ z ≤ 255) :
    Calls Try.prog 6 #[.slice A zs.length c] w fun e w' => ∃ m s : Int, e = .returned (.tuple #[.int .i64 m, .int .i64 s]) ∧ (-1 ≤ m ∧ m ≤ 9) ∧ (0 ≤ s ∧ s ≤ 65) ∧ Below w.heap.size w w' := by
  go_enter Try.func6, Try.ntmps6
  go_wp2_with fail
  refine (l20Open_any _ _ _ _ hl hcap hs hz).mono ?_
  rintro e w1 ⟨br, rfl, hbr, r1, b1⟩
  have HB1 := mkHid b1
  clear b1 hs hz
  go_wp2_with fail
  refine (pick_any _ _ _ _ (by omega) r1).mono ?_
  rintro e w2 ⟨q, rfl, q0, q1, r2, g2⟩
  have q1 := q1 (by omega)
  have HB2 := mkHid (HB1.out.grown g2 HB1.out.size (by simpa using hbr))
  clear g2 r1
  go_wp2_with fail
  refine (l20Size_any _ _ _ (by omega) r2).mono ?_
  rintro e w3 ⟨s, rfl, hsz, r3, g3⟩
  have HB3 := mkHid (HB2.out.grown g3 HB2.out.size (by simpa using hbr))
  clear g3 r2 r3
  go_wp2_with fail
  go_ret2
  exact ⟨_, s, rfl, by omega, hsz, HB3.out⟩
theorem least_room (m s : Int) (hm : 0 ≤ m ∧ m ≤ 8) (hs : 1 ≤ s ∧ s ≤ 64) : (0 ≤ (m + s - 1) / s ∧ (m + s - 1) / s ≤ 8) ∧ m ≤ (m + s - 1) / s * s ∧ (m + s - 1) / s * s ≤ 512 ∧ ((m + s - 1) / s - 1) * s < m + 1 ∧ -64 ≤ ((m + s - 1) / s - 1) * s ∧ ((m + s - 1) / s = 0 ∨ ((m + s - 1) / s - 1) * s < m) := by
  have h1 := Int.mul_ediv_add_emod (m + s - 1) s
  have h2 := Int.emod_nonneg (m + s - 1) (show s ≠ 0 by omega)
  have h3 := Int.emod_lt_of_pos (m + s - 1) (show 0 < s by omega)
  have h4 : 0 ≤ (m + s - 1) / s := Int.ediv_nonneg (by omega) (by omega)
  have h5 : (m + s - 1) / s ≤ 8 := by
    have : (m + s - 1) / s < 9 := Int.ediv_lt_of_lt_mul (by omega) (by omega)
    omega
  rw [Int.mul_comm] at h1
  generalize (m + s - 1) % s = r at *
  generalize (m + s - 1) / s = n at *
  have h6 : (n - 1) * s = n * s - s := by rw [Int.sub_mul, Int.one_mul]
  rw [h6]
  refine ⟨⟨h4, h5⟩, by omega, ?_, by omega, by omega, ?_⟩
  · omega
  · by_cases h0 : n = 0
    · exact .inl h0
    · right
      have : 1 * s ≤ n * s := Int.mul_le_mul_of_nonneg_right (by omega) (by omega)
      omega
theorem least_walk (A : Option Addr) (c : Nat) (zs : List Int) (w : World) (hl : zs.length ≤ 9223372036854775807) (hcap : zs.length ≤ c) (hs : Sl w A (u8s zs)) (hz : ∀ z ∈ zs, 0 ≤ z ∧ z ≤ 255) :
    Calls Try.prog 3 #[.slice A zs.length c] w fun e w' => e = .returned (.bool true) ∧ Below w.heap.size w w' := by
  by_cases hbig : 1048576 < zs.length
  · go_enter Try.func3, Try.ntmps3
    go_wp2_with fail
    go_ret
    exact ⟨rfl, Below.refl _ _⟩
  · go_enter Try.func3, Try.ntmps3
    go_wp2_with fail
    refine (drawLinesLeast_any _ _ _ _ hl hcap hs hz).mono ?_
    rintro e w1 ⟨m, s, rfl, hm, hsz, b1⟩
    clear hs hz
    have B1 := mkHid b1
    clear b1
    obtain ⟨n, hn⟩ : ∃ n, n = linesLeast m s := ⟨_, rfl⟩
    have HN := mkHid hn
    clear hn
    go_wp2_with fail
    refine (implLinesLeast_any _ _ _).mono ?_
    rw [← HN.out]
    rintro e w2 ⟨rfl, rfl⟩
    go_wp2_with fail
    refine (specLinesLeast_any _ _ _).mono ?_
    rw [← HN.out]
    rintro e w2 ⟨rfl, rfl⟩
    by_cases hv : (0 ≤ m ∧ m ≤ 8) ∧ (1 ≤ s ∧ s ≤ 64)
    case neg =>
      have h0 : n = -1 := by rw [HN.out]; exact linesLeast_no (by omega)
      subst h0
      go_wp2_with fail
      refine (alive_any _).mono ?_
      rintro e w9 ⟨rfl, rfl⟩
      go_wp2_with fail
      go_ret
      exact ⟨rfl, B1.out⟩
    case pos =>
      have hq := least_room m s hv.1 hv.2
      rw [← linesLeast_yes hv.1 hv.2, ← HN.out] at hq
      obtain ⟨⟨k1, k2⟩, k3, k4, k5, k6, k7⟩ := hq
      by_cases h0 : n = 0
      · subst h0
        go_wp2_with fail
        go_ret
        exact ⟨rfl, B1.out⟩
      · have hne : (n == 0) = false := by simpa using h0
        have k8 : (n - 1) * s < m := by omega
        generalize hP : n * s = P at *
        generalize hR : (n - 1) * s = R at *
        clear k7 h0
        go_wp2_with fail
        go_ret
        exact ⟨rfl, B1.out⟩
namespace fnLinesLeast
set_option maxRecDepth 100000 in
theorem lifted (os : Os) (started : os.Started) (H : Type) (enc : TypeId × Value → H) :
    ReturnsInHanded {} Try.checked os 3 .any (Rows.fnLinesLeastSpec.pre6 enc Try.prog Try.f3 Rows.fnLinesLeastRow.domain false) (Rows.fnLinesLeastSpec.post enc Try.prog Try.f3 false true false false) := by
  refine returnsInHanded_of_change (C := Try.checked) own started (by kernel_rfl) Try.func3
    (ChangeSpec.witness6 (enc := enc) (C := Try.checked) false ⟨#[], #[.slice none 0 0], []⟩ 8 (by kernel_rfl) (by kernel_rfl) (by kernel_rfl) (by kernel_rfl)) ?_
  intro W base args ds gs before hval0 hW hcnd _
  have hval : ∀ (j : Nat) t v, Try.f3.params[j]? = some t → args[j]? = some v → Value.okWide Try.prog W .any base t v := hval0
  have hW' := hW
  obtain ⟨p, q, hA0, hV, rfl, hfz, hnd⟩ := hW
  have hA : DataW.TrodAll enc Try.prog W 0 (fun _ => true) true Try.f3.params.toList args.toList ds p := hA0
  have hAk : DataW.TrodAll enc Try.prog W 0 (fun _ => true) true Try.f3.params.toList args.toList ds p := hA0
  rw [Try.params3] at hA hval
  obtain ⟨v0, vs0, d0, ds0, p0, q0, hargs, rfl, rfl, h0, r0⟩ := trodAll_cons hA
  obtain ⟨rfl, rfl, rfl⟩ := trodAll_nil r0
  obtain rfl : args = #[v0] := by cases args; simp_all
  obtain ⟨rfl, rfl⟩ := trodVars_none hV
  obtain ⟨Azs, czs, zs, rfl, nzs, kzs, szs, wzs⟩ := open_int_slice Try.underlying22 Try.underlying5 (by kernel_rfl) (hval 0 22 v0 rfl rfl) h0
  have wzs : ∀ z ∈ zs, 0 ≤ z ∧ z ≤ 255 := fun z hz => wf_u8_bounds (wzs z hz)
  clear hA0 hval0
  refine (least_walk Azs czs zs W nzs kzs szs wzs).mono fun e W' ⟨he, hb⟩ => ?_
  subst he
  refine ⟨_, rfl, post_true laidOut (fun t ht => ?_) (by kernel_rfl) Try.underlying4 rfl rfl hW' hAk hb⟩
  rw [Try.params3] at ht
  simp only [List.mem_cons, List.not_mem_nil, or_false] at ht
  first | (rcases ht with rfl <;> exact ⟨by kernel_rfl, of_decide_eq_true (by kernel_rfl)⟩) | (obtain rfl := ht; exact ⟨by kernel_rfl, of_decide_eq_true (by kernel_rfl)⟩)
/-- The statement. -/
theorem proved : Rows.FnLinesLeastSaid :=
  OpenClaim.holds_of_wide 3 Try.f3 rfl rfl rfl rfl rfl rfl rfl ⟨rfl, rfl, rfl, rfl, rfl⟩ rfl rfl rfl rfl rfl (by kernel_rfl) Try.func3 (by kernel_rfl)
    (of_decide_eq_true (by kernel_rfl)) (by unfold Func.isWrapper; first | (rw [if_pos (by decide +kernel)]; kernel_rfl) | (rw [if_neg (by decide +kernel)]; exact ⟨rfl, rfl⟩))
    (fun os started H enc _ => lifted os started H enc)
end fnLinesLeast
#print axioms fnLinesLeast.proved
end Go.Proofs.Ytmbcfbefhpgcoab
