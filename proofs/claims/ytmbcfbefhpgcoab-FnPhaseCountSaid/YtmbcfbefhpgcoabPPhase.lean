/-
  Proved: FnPhaseCount returns true for every code.
-/
import Derived.Test.YtmbcfbefhpgcoabDAccs
import Derived.Test.YtmbcfbefhpgcoabFrame
import Derived.Test.YtmbcfbefhpgcoabCNum
namespace Go.Proofs.Ytmbcfbefhpgcoab
open Go.ChangeShapes Go.WideShapes Go.ChangeAt Go.RowKit
set_option maxHeartbeats 400000
set_option linter.unusedVariables false

def DrawnPhase (w : World) (e : Ending) (w' : World) : Prop :=
  ∃ A c xs p, e = .returned (.tuple #[.slice A xs.length c, .int .i64 p]) ∧ Sl w' A (flat xs) ∧ xs.length ≤ 9 ∧ (∀ a ∈ xs, DrawnAcc a) ∧ (0 ≤ p ∧ p ≤ 3) ∧ Below w.heap.size w w'
theorem drawPhaseCount_any (A : Option Addr) (c : Nat) (zs : List Int) (w : World) (hl : zs.length ≤ 9223372036854775807) (hcap : zs.length ≤ c) (hs : Sl w A (u8s zs)) (hz : ∀ z ∈ zs, 0 ≤ z ∧ z ≤ 255) :
    Calls Try.prog 10 #[.slice A zs.length c] w (DrawnPhase w) := by
  go_enter Try.func10, Try.ntmps10
  go_wp2_with fail
  refine (l20Open_any _ _ _ _ hl hcap hs hz).mono ?_
  rintro e w1 ⟨br, rfl, hbr, r1, b1⟩
  go_wp2_with fail
  refine (l20Accesses_any _ _ _ (by omega) r1).mono ?_
  rintro e w2 ⟨A2, c2, xs, rfl, o2, hx, hd, r2, g2⟩
  have HD := mkHid hd
  clear hd
  go_wp2_with fail
  refine (pick_any _ _ _ _ (by omega) r2).mono ?_
  rintro e w3 ⟨p, rfl, hp, hp', r3, g3⟩
  have hp' := hp' (by omega)
  have HE := mkHid (Sl.of_own (own_grown o2 g3 (fun g e => by have h1 := (o2.lt g e).1; have h2 := r1.lt; omega)))
  have HB := mkHid ((b1.grown g2 b1.size (by simpa using hbr)).grown g3 (Nat.le_trans b1.size g2.size) (by simpa using hbr))
  clear g2 g3 o2 r3 r2
  go_wp2_with fail
  go_ret2
  exact ⟨A2, c2, xs, p, rfl, HE.out, hx, HD.out, by omega, HB.out⟩

def sumPhases (xs : List Acc) : Nat → Nat
  | 0 => 0
  | k + 1 => sumPhases xs k + phaseCount xs k
theorem phaseCount_cons (a : Acc) (xs : List Acc) (p : Int) : phaseCount (a :: xs) p = phaseCount xs p + if (a.phase == p) = true then 1 else 0 := by
  unfold phaseCount
  by_cases e : (a.phase == p) = true <;> simp [e]
theorem sumPhases_all (xs : List Acc) (h : ∀ a ∈ xs, DrawnAcc a) : sumPhases xs 4 = xs.length := by
  induction xs with
  | nil => rfl
  | cons a xs ih =>
    have h1 := ih (fun b hb => h b (List.mem_cons_of_mem _ hb))
    obtain ⟨_, _, h2, h3⟩ := h a (List.mem_cons_self ..)
    have h4 : a.phase = 0 ∨ a.phase = 1 ∨ a.phase = 2 := by omega
    simp only [sumPhases, phaseCount_cons] at h1 ⊢
    rcases h4 with h4 | h4 | h4 <;> simp [h4] <;> simp at h1 <;> omega
theorem sumPhases_le (xs : List Acc) (k : Nat) : sumPhases xs k ≤ k * xs.length := by
  induction k with
  | zero => simp [sumPhases]
  | succ k ih => have := phaseCount_le xs k xs.length; rw [List.take_length] at this; simp only [sumPhases, Nat.succ_mul]; omega
theorem phaseWrites_le_count (xs : List Acc) (p : Int) : phaseWrites xs p ≤ phaseCount xs p := by
  induction xs with
  | nil => simp [phaseWrites, phaseCount]
  | cons a xs ih =>
    unfold phaseWrites phaseCount at *
    by_cases e : (a.phase == p) = true <;> by_cases f : a.write = true <;> simp_all <;> omega

theorem phase_walk (A : Option Addr) (c : Nat) (zs : List Int) (w : World) (hl : zs.length ≤ 9223372036854775807) (hcap : zs.length ≤ c) (hs : Sl w A (u8s zs)) (hz : ∀ z ∈ zs, 0 ≤ z ∧ z ≤ 255) :
    Calls Try.prog 4 #[.slice A zs.length c] w fun e w' => e = .returned (.bool true) ∧ Below w.heap.size w w' := by
  by_cases hbig : 1048576 < zs.length
  · go_enter Try.func4, Try.ntmps4
    go_wp2_with fail
    go_ret
    exact ⟨rfl, Below.refl _ _⟩
  · go_enter Try.func4, Try.ntmps4
    go_wp2_with fail
    refine (drawPhaseCount_any _ _ _ _ hl hcap hs hz).mono ?_
    rintro e w1 ⟨A1, c1, xs, p, rfl, s1, hx, hd, hp, b1⟩
    have HD := mkHid hd
    have hw := phaseWrites_le_count xs p
    clear hd hs
    go_wp2_with fail
    refine (implPhaseCount_any _ _ _ _ _ (by omega) s1).mono ?_
    rintro e w2 ⟨rfl, b2⟩
    have s2 := s1.below b2
    go_wp2_with fail
    refine (specPhaseCount_any _ _ _ _ _ (by omega) s2).mono ?_
    rintro e w3 ⟨rfl, rfl⟩
    have B2 := mkHid (below_then b1 b2)
    clear b1 b2
    go_wp2_with fail
    go_loopw [9, 10] (fun s i wr => ∃ k : Nat, k ≤ 4 ∧ i = .int .i64 k ∧ s = .int .i64 (sumPhases xs k) ∧ Below w.heap.size w wr ∧ Sl wr A1 (flat xs)) (fun _ i _ => 4 - (intOf i).toNat)
    case atStart => exact ⟨0, by omega, rfl, rfl, B2.out, s2⟩
    case round =>
      obtain ⟨k, hk, rfl, rfl, hb, hs⟩ := hrel
      have HB := mkHid hb
      clear hb s1 s2
      have l1 := sumPhases_le xs k
      have l2 : k * xs.length ≤ 4 * xs.length := Nat.mul_le_mul_right _ hk
      have l3 := phaseCount_le xs k xs.length
      rw [List.take_length] at l3
      by_cases hlt : k < 4
      · go_wp2_with fail
        refine (implPhaseCount_any _ _ _ _ _ (by omega) hs).mono ?_
        rintro e w4 ⟨rfl, b4⟩
        have HS := mkHid (hs.below b4)
        have HB4 := mkHid b4
        clear b4 hs
        go_wp2_with fail
        go_roundw
        case rel => exact ⟨k + 1, by omega, by go_num, by congr 1, below_then HB.out HB4.out, HS.out⟩
        case measure => simp [intOf]; omega
      · have : k = 4 := by omega
        subst this
        have hsum : ((sumPhases xs 4 : Nat) : Int) == (xs.length : Int) := by rw [sumPhases_all xs HD.out]; simp
        go_wp2_with fail
        refine (alive_any _).mono ?_
        rintro e w4 ⟨rfl, rfl⟩
        go_wp2_with fail
        go_ret
        exact ⟨rfl, HB.out⟩
namespace fnPhaseCount
set_option maxRecDepth 100000 in
theorem lifted (os : Os) (started : os.Started) (H : Type) (enc : TypeId × Value → H) :
    ReturnsInHanded {} Try.checked os 4 .any (Rows.fnPhaseCountSpec.pre6 enc Try.prog Try.f4 Rows.fnPhaseCountRow.domain false) (Rows.fnPhaseCountSpec.post enc Try.prog Try.f4 false true false false) := by
  refine returnsInHanded_of_change (C := Try.checked) own started (by kernel_rfl) Try.func4
    (ChangeSpec.witness6 (enc := enc) (C := Try.checked) false ⟨#[], #[.slice none 0 0], []⟩ 8 (by kernel_rfl) (by kernel_rfl) (by kernel_rfl) (by kernel_rfl)) ?_
  intro W base args ds gs before hval0 hW hcnd _
  have hval : ∀ (j : Nat) t v, Try.f4.params[j]? = some t → args[j]? = some v → Value.okWide Try.prog W .any base t v := hval0
  have hW' := hW
  obtain ⟨p, q, hA0, hV, rfl, hfz, hnd⟩ := hW
  have hA : DataW.TrodAll enc Try.prog W 0 (fun _ => true) true Try.f4.params.toList args.toList ds p := hA0
  have hAk : DataW.TrodAll enc Try.prog W 0 (fun _ => true) true Try.f4.params.toList args.toList ds p := hA0
  rw [Try.params4] at hA hval
  obtain ⟨v0, vs0, d0, ds0, p0, q0, hargs, rfl, rfl, h0, r0⟩ := trodAll_cons hA
  obtain ⟨rfl, rfl, rfl⟩ := trodAll_nil r0
  obtain rfl : args = #[v0] := by cases args; simp_all
  obtain ⟨rfl, rfl⟩ := trodVars_none hV
  obtain ⟨Azs, czs, zs, rfl, nzs, kzs, szs, wzs⟩ := open_int_slice Try.underlying22 Try.underlying5 (by kernel_rfl) (hval 0 22 v0 rfl rfl) h0
  have wzs : ∀ z ∈ zs, 0 ≤ z ∧ z ≤ 255 := fun z hz => wf_u8_bounds (wzs z hz)
  clear hA0 hval0
  refine (phase_walk Azs czs zs W nzs kzs szs wzs).mono fun e W' ⟨he, hb⟩ => ?_
  subst he
  refine ⟨_, rfl, post_true laidOut (fun t ht => ?_) (by kernel_rfl) Try.underlying4 rfl rfl hW' hAk hb⟩
  rw [Try.params4] at ht
  simp only [List.mem_cons, List.not_mem_nil, or_false] at ht
  first | (rcases ht with rfl <;> exact ⟨by kernel_rfl, of_decide_eq_true (by kernel_rfl)⟩) | (obtain rfl := ht; exact ⟨by kernel_rfl, of_decide_eq_true (by kernel_rfl)⟩)
/-- The statement. -/
theorem proved : Rows.FnPhaseCountSaid :=
  OpenClaim.holds_of_wide 4 Try.f4 rfl rfl rfl rfl rfl rfl rfl ⟨rfl, rfl, rfl, rfl, rfl⟩ rfl rfl rfl rfl rfl (by kernel_rfl) Try.func4 (by kernel_rfl)
    (of_decide_eq_true (by kernel_rfl)) (by unfold Func.isWrapper; first | (rw [if_pos (by decide +kernel)]; kernel_rfl) | (rw [if_neg (by decide +kernel)]; exact ⟨rfl, rfl⟩))
    (fun os started H enc _ => lifted os started H enc)
end fnPhaseCount
#print axioms fnPhaseCount.proved
end Go.Proofs.Ytmbcfbefhpgcoab
