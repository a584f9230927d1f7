/-
  Contracts of MemoryValid of the program and of the reference.
-/
import Derived.Test.YtilhcedfokhhjaaCFunc
import Derived.Test.YtilhcedfokhhjaaCNum
namespace Go.Proofs.Ytilhcedfokhhjaa
open Go.RowKit
set_option maxHeartbeats 2000000
set_option linter.unusedVariables false

def memValid (zs : List Int) : Bool := inB zs.length 1 32 && zs.all fun z => inB z 0 255
theorem mem_any_not_all (os : List Int) (p : Int → Bool) : os.any (fun z => !p z) = !os.all p := by
  induction os with
  | nil => rfl
  | cons z os ih => simp [List.any_cons, List.all_cons, ih, Bool.not_and]
theorem memWord_any (z : Int) (w : World) : Calls Try.prog 47 #[.int .i64 z] w fun e w' => e = .returned (.bool (inB z 0 255)) ∧ w = w' := by
  go_enter Try.func47, Try.ntmps47
  go_wp2_with (go_at_call 37; refine (within_any _ _ _ _).mono ?_; rintro e w' ⟨rfl, rfl⟩)
  go_ret
  exact ⟨rfl, rfl⟩
theorem notWord_any (z : Int) (w : World) : Calls Try.prog 62 #[.int .i64 z] w fun e w' => e = .returned (.bool (!inB z 0 255)) ∧ w = w' := by
  go_enter Try.func62, Try.ntmps62
  go_wp2_with (go_at_call 47; refine (memWord_any _ _).mono ?_; rintro e w' ⟨rfl, rfl⟩)
  go_ret
  exact ⟨rfl, rfl⟩
theorem implMemoryValid_any (A : Option Addr) (c : Nat) (zs : List Int) (w : World) (hn : zs.length ≤ 1000000000) (hs : Sl w A (ints zs)) :
    Calls Try.prog 49 #[.slice A zs.length c] w fun e w' => e = .returned (.bool (memValid zs)) ∧ Below w.heap.size w w' := by
  have hA : Answers (.func (.func 62) #[] #[]) (fun z => !inB z 0 255) zs w :=
    ⟨62, #[], rfl, fun args w => by kernel_rfl, fun z _ X hX => (notWord_any z X).mono fun e w' ⟨he, hw⟩ => ⟨he, hw ▸ Below.refl _ _⟩⟩
  have hF := containsFunc_any A c zs _ _ _ (by omega) hs hA
  rw [mem_any_not_all] at hF
  obtain ⟨b, hb⟩ : ∃ b, b = zs.all (fun z => inB z 0 255) := ⟨_, rfl⟩
  rw [← hb] at hF
  have hW := within_any (zs.length : Int) 1 32 w
  cases hi : inB (zs.length : Int) 1 32
  all_goals (
    rw [hi] at hW
    have HV : Hid (memValid zs = (inB (zs.length : Int) 1 32 && b)) := mkHid (by unfold memValid; rw [hb])
    have HF := mkHid hF
    have HW := mkHid hW
    have HI := mkHid hi
    clear hF hW hi hb hA
    go_enter Try.func49, Try.ntmps49
    go_wp2_with fail
    refine HW.out.mono ?_
    rintro e w' ⟨rfl, rfl⟩
    go_wp2_with fail)
  · go_ret
    exact ⟨ret_bool (by rw [HV.out, HI.out]; rfl), Below.refl _ _⟩
  · refine HF.out.mono ?_
    rintro e w2 ⟨rfl, b2⟩
    have B2 := mkHid b2
    clear b2
    go_wp2_with fail
    go_ret
    exact ⟨ret_bool (by rw [HV.out, HI.out]; simp), B2.out⟩
theorem memWord2_any (z : Int) (w : World) : Calls Try.prog 60 #[.int .i64 z] w fun e w' => e = .returned (.bool (inB z 0 255)) ∧ w = w' := by
  go_enter Try.func60, Try.ntmps60
  go_wp2_with (go_at_call 31; refine (l1In_any _ _ _ _).mono ?_; rintro e w' ⟨rfl, rfl⟩)
  go_ret
  exact ⟨rfl, rfl⟩
theorem specMemoryValid_any (A : Option Addr) (c : Nat) (zs : List Int) (w : World) (hn : zs.length ≤ 1000000000) (hs : Sl w A (ints zs)) :
    Calls Try.prog 51 #[.slice A zs.length c] w fun e w' => e = .returned (.bool (memValid zs)) ∧ w = w' := by
  have HW := mkHid (l1In_any (zs.length : Int) 1 32 w)
  go_enter Try.func51, Try.ntmps51
  go_wp2_with fail
  go_loop [3] (fun i => ∃ k : Nat, k ≤ zs.length ∧ i = .int .i64 k ∧ Hid ((zs.take k).all (fun z => inB z 0 255) = true)) (fun i => zs.length - (intOf i).toNat)
  case atStart => exact ⟨0, by omega, rfl, mkHid rfl⟩
  case round =>
    obtain ⟨k, hk, rfl, HH⟩ := hrel
    by_cases hlt : k < zs.length
    · obtain ⟨b, off, rfl, hc⟩ := hs.at_ (k := k) (by simpa using hlt)
      have h1 : w.cell? ⟨b, off + k, none⟩ = some (.int .i64 zs[k]) := hc k _ (ints_at hlt)
      have HT := mkHid (List.take_succ_eq_append_getElem hlt)
      have hm := List.getElem_mem hlt
      have hM := memWord2_any zs[k] w
      obtain ⟨z, hz⟩ : ∃ z, z = zs[k] := ⟨_, rfl⟩
      rw [← hz] at h1 HT hm hM
      have HMM := mkHid hm
      cases hv : inB z 0 255
      all_goals (
        rw [hv] at hM
        have HV := mkHid hv
        have HM := mkHid hM
        clear hM hv hm hz hc
        go_wp2_with fail
        refine HM.out.mono ?_
        rintro e w' ⟨rfl, rfl⟩
        go_wp2_with fail)
      · go_ret
        refine ⟨ret_bool ?_, rfl⟩
        unfold memValid
        have : zs.all (fun z => inB z 0 255) = false := by rw [List.all_eq_false]; exact ⟨z, HMM.out, by rw [HV.out]; simp⟩
        rw [this, Bool.and_false]
      · go_round
        case rel => exact ⟨k + 1, by omega, by go_num, mkHid (by rw [HT.out, List.all_append, HH.out]; simp [HV.out])⟩
        case measure => simp [intOf] <;> omega
    · have hf : zs.all (fun z => inB z 0 255) = true := by have := HH.out; rwa [List.take_of_length_le (by omega)] at this
      have HF := mkHid hf
      clear hf
      go_wp2_with fail
      refine HW.out.mono ?_
      rintro e w' ⟨rfl, rfl⟩
      go_wp2_with fail
      go_ret
      exact ⟨ret_bool (by unfold memValid; rw [HF.out, Bool.and_true]), rfl⟩
end Go.Proofs.Ytilhcedfokhhjaa
