/-
  Proved: FnLinesTouched returns true for every code.
-/
import Derived.Test.YtmgpbhehmoohmaaDCells
import Derived.Test.YtmgpbhehmoohmaaCLines2
import Derived.Test.YtmgpbhehmoohmaaPlainCard
import Derived.Test.YtmgpbhehmoohmaaFrame
namespace Go.Proofs.Ytmgpbhehmoohmaa
open Go.ChangeShapes Go.WideShapes Go.ChangeAt Go.RowKit
set_option maxHeartbeats 800000
set_option linter.unusedVariables false

theorem linesOf_one (zs : List Int) : (linesOf zs 1).length = card zs := by unfold linesOf; rw [map_div_one]; rfl
theorem least_le {m n : Nat} {s : Int} (hm : m ≤ 8) (hs : 1 ≤ s ∧ s ≤ 64) (h : m ≤ n * s.toNat) : linesLeast m s ≤ n := by
  rw [linesLeast_yes (by omega) hs]
  obtain ⟨k, hk⟩ := Int.eq_ofNat_of_zero_le (show 0 ≤ s by omega)
  subst hk
  have h1 : ((m : Int) + k - 1) / k < (n : Int) + 1 := by
    apply Int.ediv_lt_of_lt_mul (by omega)
    have : (m : Int) ≤ (n : Int) * k := by exact_mod_cast h
    rw [Int.add_mul]
    omega
  omega
theorem touched_walk (A : Option Addr) (c : Nat) (zs : List Int) (w : World) (hl : zs.length ≤ 9223372036854775807) (hcap : zs.length ≤ c) (hs : Sl w A (u8s zs)) (hz : ∀ z ∈ zs, 0 ≤ z ∧ z ≤ 255) :
    Calls Try.prog 8 #[.slice A zs.length c] w fun e w' => e = .returned (.bool true) ∧ Below w.heap.size w w' := by
  by_cases hbig : 1048576 < zs.length
  · go_enter Try.func8, Try.ntmps8
    go_wp2_with fail
    go_ret
    exact ⟨rfl, Below.refl _ _⟩
  · go_enter Try.func8, Try.ntmps8
    go_wp2_with fail
    refine (drawLinesTouched_any _ _ _ _ hl hcap hs hz).mono ?_
    rintro e w1 ⟨A1, c1, ys, s, rfl, s1, hy, hyc, hsz, _, b1⟩
    clear hs hz
    have S1 := mkHid s1
    have B1 := mkHid b1
    clear s1 b1
    go_wp2_with fail
    refine (implLinesTouched_any _ _ _ _ _ (by omega) S1.out).mono ?_
    rintro e w2 ⟨rfl, b2⟩
    have S2 := mkHid (S1.out.below b2)
    have B2 := mkHid (below_then B1.out b2)
    clear b2
    cases hok : (areCells ys && inB s 1 64) with
    | false =>
      have hno : linesTouched ys s = -1 := by simp [linesTouched, hok]
      have hT := fun (w : World) (h : Sl w A1 (ints ys)) => specLinesTouched_any A1 c1 ys s w (by omega) h
      rw [hno] at hT
      rw [hno]
      have HT := mkHid (hT w2 S2.out)
      clear hok hno hT
      go_wp2_with fail
      refine HT.out.mono ?_
      rintro e w3 ⟨rfl, b3⟩
      have B3 := mkHid (below_then B2.out b3)
      clear b3
      go_wp2_with fail
      refine (alive_any _).mono ?_
      rintro e w4 ⟨rfl, rfl⟩
      go_wp2_with fail
      go_ret
      exact ⟨rfl, B3.out⟩
    | true =>
      have h2 := hok
      rw [Bool.and_eq_true] at h2
      have h8 := (areCells_all h2.1).1
      have hi := inB_t h2.2
      have hyes := linesTouched_yes h2.1 h2.2
      obtain ⟨n, hn⟩ : ∃ n, n = (linesOf ys s).length := ⟨_, rfl⟩
      have hnl : n ≤ ys.length := by rw [hn]; exact Nat.le_trans (asc_le _) (by simp)
      rw [← hn] at hyes
      obtain ⟨d, hd⟩ : ∃ d, d = linesTouched ys (2 * s) := ⟨_, rfl⟩
      have hdn : 32 < s ∨ d ≤ n := by
        by_cases h32 : s ≤ 32
        · right
          rw [hd, linesTouched_yes h2.1 (inB_of (by omega) (by omega)), hn]
          have := lines_double ys s hi.1
          simpa [card, linesOf] using this
        · left; omega
      have h1 : linesTouched ys 1 = (card ys : Int) := by rw [linesTouched_yes h2.1 (by decide), linesOf_one]
      have hcard : card ys ≤ 8 := Nat.le_trans (card_le _) h8
      have hq : linesLeast (card ys) s ≤ n := by
        refine least_le hcard hi ?_
        rw [hn]
        exact card_lines ys s hi.1
      have hT := specLinesTouched_any A1 c1 ys s w2 (by omega) S2.out
      rw [hyes] at hT
      rw [hyes]
      have HT := mkHid hT
      have HD := mkHid hd
      have H1 := mkHid h1
      clear hok h2 hyes hT hn hd h1
      go_wp2_with fail
      refine HT.out.mono ?_
      rintro e w3 ⟨rfl, b3⟩
      have S3 := mkHid (S2.out.below b3)
      have B3 := mkHid (below_then B2.out b3)
      clear b3
      go_wp2_with fail
      refine (implLinesTouched_any _ _ _ _ _ (by omega) S3.out).mono ?_
      rw [← HD.out]
      rintro e w4 ⟨rfl, b4⟩
      have S4 := mkHid (S3.out.below b4)
      have B4 := mkHid (below_then B3.out b4)
      clear b4
      by_cases h32 : 32 < s
      case' neg => have hdn' : d ≤ n := by omega
      all_goals (
        go_wp2_with fail
        refine (implLinesTouched_any _ _ _ _ _ (by omega) S4.out).mono ?_
        rw [H1.out]
        rintro e w5 ⟨rfl, b5⟩
        have B5 := mkHid (below_then B4.out b5)
        clear b5
        go_wp2_with fail
        refine (implLinesLeast_any _ _ _).mono ?_
        rintro e w6 ⟨rfl, rfl⟩
        go_wp2_with fail
        go_ret
        exact ⟨rfl, B5.out⟩)
namespace fnLinesTouched
set_option maxRecDepth 100000 in
theorem lifted (os : Os) (started : os.Started) (H : Type) (enc : TypeId × Value → H) :
    ReturnsInHanded {} Try.checked os 8 .any (Rows.fnLinesTouchedSpec.pre6 enc Try.prog Try.f8 Rows.fnLinesTouchedRow.domain false) (Rows.fnLinesTouchedSpec.post enc Try.prog Try.f8 false true false false) := by
  refine returnsInHanded_of_change (C := Try.checked) own started (by kernel_rfl) Try.func8
    (ChangeSpec.witness6 (enc := enc) (C := Try.checked) false ⟨#[], #[.slice none 0 0], []⟩ 8 (by kernel_rfl) (by kernel_rfl) (by kernel_rfl) (by kernel_rfl)) ?_
  intro W base args ds gs before hval0 hW hcnd _
  have hval : ∀ (j : Nat) t v, Try.f8.params[j]? = some t → args[j]? = some v → Value.okWide Try.prog W .any base t v := hval0
  have hW' := hW
  obtain ⟨p, q, hA0, hV, rfl, hfz, hnd⟩ := hW
  have hA : DataW.TrodAll enc Try.prog W 0 (fun _ => true) true Try.f8.params.toList args.toList ds p := hA0
  have hAk : DataW.TrodAll enc Try.prog W 0 (fun _ => true) true Try.f8.params.toList args.toList ds p := hA0
  rw [Try.params8] at hA hval
  obtain ⟨v0, vs0, d0, ds0, p0, q0, hargs, rfl, rfl, h0, r0⟩ := trodAll_cons hA
  obtain ⟨rfl, rfl, rfl⟩ := trodAll_nil r0
  obtain rfl : args = #[v0] := by cases args; simp_all
  obtain ⟨rfl, rfl⟩ := trodVars_none hV
  obtain ⟨Azs, czs, zs, rfl, nzs, kzs, szs, wzs⟩ := open_int_slice Try.underlying28 Try.underlying5 (by kernel_rfl) (hval 0 28 v0 rfl rfl) h0
  have wzs : ∀ z ∈ zs, 0 ≤ z ∧ z ≤ 255 := fun z hz => wf_u8_bounds (wzs z hz)
  clear hA0 hval0
  refine (touched_walk Azs czs zs W nzs kzs szs wzs).mono fun e W' ⟨he, hb⟩ => ?_
  subst he
  refine ⟨_, rfl, post_true laidOut (fun t ht => ?_) (by kernel_rfl) Try.underlying4 rfl rfl hW' hAk hb⟩
  rw [Try.params8] at ht
  simp only [List.mem_cons, List.not_mem_nil, or_false] at ht
  first | (rcases ht with rfl <;> exact ⟨by kernel_rfl, of_decide_eq_true (by kernel_rfl)⟩) | (obtain rfl := ht; exact ⟨by kernel_rfl, of_decide_eq_true (by kernel_rfl)⟩)
/-- The statement. -/
theorem proved : Rows.FnLinesTouchedSaid :=
  OpenClaim.holds_of_wide 8 Try.f8 rfl rfl rfl rfl rfl rfl rfl ⟨rfl, rfl, rfl, rfl, rfl⟩ rfl rfl rfl rfl rfl (by kernel_rfl) Try.func8 (by kernel_rfl)
    (of_decide_eq_true (by kernel_rfl)) (by unfold Func.isWrapper; first | (rw [if_pos (by decide +kernel)]; kernel_rfl) | (rw [if_neg (by decide +kernel)]; exact ⟨rfl, rfl⟩))
    (fun os started H enc _ => lifted os started H enc)
end fnLinesTouched
#print axioms fnLinesTouched.proved
end Go.Proofs.Ytmgpbhehmoohmaa
