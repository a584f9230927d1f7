/-
  Proved: FnFirstRace returns true for every code.
-/
import Derived.Test.YtbhjicjcilneeaaDList
import Derived.Test.YtbhjicjcilneeaaCRaceCells
import Derived.Test.YtbhjicjcilneeaaFrame
import Derived.Test.YtbhjicjcilneeaaCNum
namespace Go.Proofs.Ytbhjicjcilneeaa
open Go.ChangeShapes Go.WideShapes Go.ChangeAt Go.RowKit
set_option maxHeartbeats 800000
set_option linter.unusedVariables false

theorem raceUpto_free (xs : List Acc) (h : Free xs xs.length) (k : Nat) (hk : k ≤ xs.length) : raceUpto xs k = [] := by
  induction k with
  | zero => rfl
  | succ k ih =>
    rw [raceUpto_succ xs k (by omega), ih (by omega), if_neg]
    · rfl
    · intro hh
      unfold hits at hh
      rw [List.any_eq_true] at hh
      obtain ⟨a, ha, hc⟩ := hh
      obtain ⟨i, hi, rfl⟩ := List.mem_iff_getElem.1 ha
      have hi' : i < k := by have := List.length_take_le k xs; omega
      have := h k (by omega) i hi' xs[i] xs[k] (List.getElem?_eq_getElem (by omega)) (List.getElem?_eq_getElem (by omega))
      rw [List.getElem_take] at hc
      rw [hc] at this
      cases this
theorem flat_take (xs : List Acc) (m : Nat) : flat (xs.take m) = (flat xs).take (m * 4) := by
  induction m generalizing xs with
  | zero => simp [flat]
  | succ m ih =>
    cases xs with
    | nil => simp [flat]
    | cons a xs =>
      rw [List.take_succ_cons, flat_cons, flat_cons, ih, List.take_append, show (accCells a).length = 4 from rfl, show (m + 1) * 4 - 4 = m * 4 from by omega, List.take_of_length_le (show (accCells a).length ≤ (m + 1) * 4 by show 4 ≤ (m + 1) * 4; omega)]
theorem Sl.take {w : World} {A : Option Addr} {xs : List Value} (h : Sl w A xs) (n : Nat) : Sl w A (xs.take n) := by
  rcases h with rfl | ⟨b, off, rfl, hc⟩
  · exact .inl (by simp)
  · refine .inr ⟨b, off, rfl, fun j u hu => hc j u ?_⟩
    rw [List.getElem?_take] at hu
    split at hu
    · exact hu
    · cases hu
theorem Free.take {xs : List Acc} {m : Nat} (h : Free xs m) : Free (xs.take m) (xs.take m).length := fun k hk i hi a b ha hb => by
  have h1 : k < m := by have := List.length_take_le m xs; omega
  rw [List.getElem?_take] at ha hb
  rw [if_pos (by omega)] at ha hb
  exact h k h1 i hi a b ha hb

theorem race_walk (A : Option Addr) (c : Nat) (zs : List Int) (w : World) (hl : zs.length ≤ 9223372036854775807) (hcap : zs.length ≤ c) (hs : Sl w A (u8s zs)) (hz : ∀ z ∈ zs, 0 ≤ z ∧ z ≤ 255) :
    Calls Try.prog 8 #[.slice A zs.length c] w fun e w' => e = .returned (.bool true) ∧ Below w.heap.size w w' := by
  by_cases hbig : 1048576 < zs.length
  · go_enter Try.func8, Try.ntmps8
    go_wp2_with fail
    go_ret
    exact ⟨rfl, Below.refl _ _⟩
  · go_enter Try.func8, Try.ntmps8
    go_wp2_with fail
    refine (drawFirstRace_any _ _ _ _ hl hcap hs hz).mono ?_
    rintro e w1 ⟨A1, c1, xs, rfl, s1, hx, hxc, _, b1⟩
    clear hs hz
    go_wp2_with fail
    refine (implFirstRace_any _ _ _ _ (by omega) hxc s1).mono ?_
    rintro e w2 ⟨i, j, f, rfl, hR, b2⟩
    have s2 := s1.below b2
    have HR := mkHid hR
    go_wp2_with fail
    refine (specFirstRace_any _ _ _ _ (by omega) s2).mono ?_
    rintro e w3 ⟨i', j', f', rfl, hR', b3⟩
    obtain ⟨rfl, rfl, rfl⟩ := HR.out.unique hR'
    have s3 := s2.below b3
    have B3 := mkHid (below_then b1 (below_then b2 b3))
    clear hR' b1 b2 b3 s1 s2
    rcases hR with ⟨rfl, n, m, rfl, rfl, hnm, hm, hF, hA, a, b, ha, hb, hc⟩ | ⟨rfl, rfl, rfl, hF⟩
    · have hnl : n < xs.length := by omega
      have ea : xs[n]? = some xs[n] := List.getElem?_eq_getElem hnl
      have eb : xs[m]? = some xs[m] := List.getElem?_eq_getElem hm
      have e1 : a = xs[n] := by rw [ea] at ha; injection ha with ha; exact ha.symm
      have e2 : b = xs[m] := by rw [eb] at hb; injection hb with hb; exact hb.symm
      subst e1
      subst e2
      have HCl := mkHid hc
      clear ea eb ha hb hc
      have hlen : (xs.take m).length = m := by simp; omega
      have hC := implFirstRace_any A1 c1 (xs.take m) w3 (by omega) (by omega) (by rw [flat_take]; exact s3.take _)
      rw [hlen] at hC
      have HC := mkHid hC
      have HN := mkHid (Race.unique (i := -1) (j := -1) (f := false) (.inr ⟨rfl, rfl, rfl, hF.take⟩) (i' := -1) (j' := -1) (f' := false))
      have HF := mkHid hF.take
      clear hC hF hA hlen HN
      go_wp2_with fail
      refine HC.out.mono ?_
      rintro e w4 ⟨p, q, f, rfl, hR4, b4⟩
      obtain ⟨rfl, rfl, rfl⟩ := Race.unique (.inr ⟨rfl, rfl, rfl, HF.out⟩) hR4
      have s4 := s3.below b4
      have B4 := mkHid (below_then B3.out b4)
      clear hR4 b4 s3
      obtain ⟨b', off', rfl, h0, h1, h2, h3⟩ := s4.acc hnl
      obtain ⟨b2, off2, hbb, g0, g1, g2, g3⟩ := s4.acc (k := m) hm
      injection hbb with hbb
      injection hbb with e1 e2
      subst e1
      subst e2
      have h0 := fun u : Ext w4 => u.keeps h0
      have h1 := fun u : Ext w4 => u.keeps h1
      have h2 := fun u : Ext w4 => u.keeps h2
      have h3 := fun u : Ext w4 => u.keeps h3
      have g0 := fun u : Ext w4 => u.keeps g0
      have g1 := fun u : Ext w4 => u.keeps g1
      have g2 := fun u : Ext w4 => u.keeps g2
      have g3 := fun u : Ext w4 => u.keeps g3
      clear s4
      go_wp2_with fail
      refine wp_region_ext (by kernel_rfl) (by kernel_rfl) ?_
      repeat (go_big_quiet_step ((go_at_call 32; with_reducible exact ext_call (implClash_w xs[n] xs[m] _ HCl.out))))
      refine wpQuiet_nil (ext_end fun X hX => ?_)
      clear h0 h1 h2 h3 g0 g1 g2 g3
      have HX := mkHid hX
      clear hX
      go_wp2_with fail
      go_ret
      exact ⟨rfl, below_then B4.out HX.out⟩
    · have hnil : asc (raceUpto xs xs.length) = [] := by rw [raceUpto_free xs hF _ (Nat.le_refl _)]; exact asc_nil
      have hC := implRaceCells_any A1 c1 xs w3 (by omega) hxc s3
      rw [hnil] at hC
      have HC := mkHid hC
      clear hC hnil hF s3
      go_wp2_with fail
      refine HC.out.mono ?_
      rintro e w4 ⟨A4, c4, rfl, o4, b4⟩
      have B4 := mkHid (below_then B3.out b4)
      clear b4 o4
      go_wp2_with fail
      refine (alive_any _).mono ?_
      rintro e w5 ⟨rfl, rfl⟩
      go_wp2_with fail
      go_ret
      exact ⟨rfl, B4.out⟩
namespace fnFirstRace
set_option maxRecDepth 100000 in
theorem lifted (os : Os) (started : os.Started) (H : Type) (enc : TypeId × Value → H) :
    ReturnsInHanded {} Try.checked os 8 .any (Rows.fnFirstRaceSpec.pre6 enc Try.prog Try.f8 Rows.fnFirstRaceRow.domain false) (Rows.fnFirstRaceSpec.post enc Try.prog Try.f8 false true false false) := by
  refine returnsInHanded_of_change (C := Try.checked) own started (by kernel_rfl) Try.func8
    (ChangeSpec.witness6 (enc := enc) (C := Try.checked) false ⟨#[], #[.slice none 0 0], []⟩ 8 (by kernel_rfl) (by kernel_rfl) (by kernel_rfl) (by kernel_rfl)) ?_
  intro W base args ds gs before hval0 hW hcnd _
  have hval : ∀ (j : Nat) t v, Try.f8.params[j]? = some t → args[j]? = some v → Value.okWide Try.prog W .any base t v := hval0
  have hW' := hW
  obtain ⟨p, q, hA0, hV, rfl, hfz, hnd⟩ := hW
  have hA : DataW.TrodAll enc Try.prog W 0 (fun _ => true) true Try.f8.params.toList args.toList ds p := hA0
  have hAk : DataW.TrodAll enc Try.prog W 0 (fun _ => true) true Try.f8.params.toList args.toList ds p := hA0
  rw [Try.params8] at hA hval
  obtain ⟨v0, vs0, d0, ds0, p0, q0, hargs, rfl, rfl, h0, r0⟩ := trodAll_cons hA
  obtain ⟨rfl, rfl, rfl⟩ := trodAll_nil r0
  obtain rfl : args = #[v0] := by cases args; simp_all
  obtain ⟨rfl, rfl⟩ := trodVars_none hV
  obtain ⟨Azs, czs, zs, rfl, nzs, kzs, szs, wzs⟩ := open_int_slice Try.underlying30 Try.underlying5 (by kernel_rfl) (hval 0 30 v0 rfl rfl) h0
  have wzs : ∀ z ∈ zs, 0 ≤ z ∧ z ≤ 255 := fun z hz => wf_u8_bounds (wzs z hz)
  clear hA0 hval0
  refine (race_walk Azs czs zs W nzs kzs szs wzs).mono fun e W' ⟨he, hb⟩ => ?_
  subst he
  refine ⟨_, rfl, post_true laidOut (fun t ht => ?_) (by kernel_rfl) Try.underlying4 rfl rfl hW' hAk hb⟩
  rw [Try.params8] at ht
  simp only [List.mem_cons, List.not_mem_nil, or_false] at ht
  first | (rcases ht with rfl <;> exact ⟨by kernel_rfl, of_decide_eq_true (by kernel_rfl)⟩) | (obtain rfl := ht; exact ⟨by kernel_rfl, of_decide_eq_true (by kernel_rfl)⟩)
/-- The statement. -/
theorem proved : Rows.FnFirstRaceSaid :=
  OpenClaim.holds_of_wide 8 Try.f8 rfl rfl rfl rfl rfl rfl rfl ⟨rfl, rfl, rfl, rfl, rfl⟩ rfl rfl rfl rfl rfl (by kernel_rfl) Try.func8 (by kernel_rfl)
    (of_decide_eq_true (by kernel_rfl)) (by unfold Func.isWrapper; first | (rw [if_pos (by decide +kernel)]; kernel_rfl) | (rw [if_neg (by decide +kernel)]; exact ⟨rfl, rfl⟩))
    (fun os started H enc _ => lifted os started H enc)
end fnFirstRace
#print axioms fnFirstRace.proved
end Go.Proofs.Ytbhjicjcilneeaa
