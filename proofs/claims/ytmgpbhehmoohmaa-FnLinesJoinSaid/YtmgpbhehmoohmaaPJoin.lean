/-
  Proved: FnLinesJoin returns true for every code.
-/
import Derived.Test.YtmgpbhehmoohmaaDCells
import Derived.Test.YtmgpbhehmoohmaaCLines2
import Derived.Test.YtmgpbhehmoohmaaPlainCard
import Derived.Test.YtmgpbhehmoohmaaFrame
namespace Go.Proofs.Ytmgpbhehmoohmaa
open Go.ChangeShapes Go.WideShapes Go.ChangeAt Go.RowKit
set_option maxHeartbeats 800000
set_option linter.unusedVariables false

theorem Sl.take {w : World} {A : Option Addr} {xs : List Value} (h : Sl w A xs) (n : Nat) : Sl w A (xs.take n) := by
  rcases h with rfl | ⟨b, off, rfl, hc⟩
  · exact .inl (by simp)
  · refine .inr ⟨b, off, rfl, fun j u hu => hc j u ?_⟩
    rw [List.getElem?_take] at hu
    split at hu
    · exact hu
    · cases hu
theorem Sl.drop {w : World} {A : Option Addr} {xs : List Value} (h : Sl w A xs) (n : Nat) : Sl w (A.map fun x => x.add n) (xs.drop n) := by
  rcases h with rfl | ⟨b, off, rfl, hc⟩
  · exact .inl (by simp)
  · refine .inr ⟨b, off + n, by simp [add_flat], fun j u hu => ?_⟩
    rw [List.getElem?_drop] at hu
    rw [Nat.add_assoc]
    exact hc (n + j) u hu
theorem areCells_sub {a b : List Int} (h : areCells b = true) (hl : a.length ≤ b.length) (hs : ∀ z ∈ a, z ∈ b) : areCells a = true := by
  have h8 := areCells_all h
  exact areCells_of (by omega) (fun z hz => h8.2 z (hs z hz))
theorem linesOf_card (zs : List Int) (s : Int) : (linesOf zs s).length = card (zs.map (· / s)) := rfl
theorem join_walk (A : Option Addr) (c : Nat) (zs : List Int) (w : World) (hl : zs.length ≤ 9223372036854775807) (hcap : zs.length ≤ c) (hs : Sl w A (u8s zs)) (hz : ∀ z ∈ zs, 0 ≤ z ∧ z ≤ 255) :
    Calls Try.prog 9 #[.slice A zs.length c] w fun e w' => e = .returned (.bool true) ∧ Below w.heap.size w w' := by
  by_cases hbig : 1048576 < zs.length
  · go_enter Try.func9, Try.ntmps9
    go_wp2_with fail
    go_ret
    exact ⟨rfl, Below.refl _ _⟩
  · go_enter Try.func9, Try.ntmps9
    go_wp2_with fail
    refine (drawLinesTouched_any _ _ _ _ hl hcap hs hz).mono ?_
    rintro e w1 ⟨A1, c1, ys, s, rfl, s1, hy, hyc, hsz, _, b1⟩
    clear hs hz
    have S1 := mkHid s1
    have B1 := mkHid b1
    clear s1 b1
    go_wp2_with fail
    refine (implLinesTouched_any _ _ _ _ _ (by omega) S1.out).mono ?_
    rintro e w2 ⟨rfl, b2⟩
    have S2 := mkHid (S1.out.below b2)
    have B2 := mkHid (below_then B1.out b2)
    clear b2
    cases hok : (areCells ys && inB s 1 64) with
    | false =>
      have hno : linesTouched ys s = -1 := by simp [linesTouched, hok]
      have hT := fun (w : World) (h : Sl w A1 (ints ys)) => specLinesTouched_any A1 c1 ys s w (by omega) h
      rw [hno] at hT
      rw [hno]
      have HT := mkHid (hT w2 S2.out)
      clear hok hno hT
      go_wp2_with fail
      refine HT.out.mono ?_
      rintro e w3 ⟨rfl, b3⟩
      have B3 := mkHid (below_then B2.out b3)
      clear b3
      go_wp2_with fail
      refine (alive_any _).mono ?_
      rintro e w4 ⟨rfl, rfl⟩
      go_wp2_with fail
      go_ret
      exact ⟨rfl, B3.out⟩
    | true =>
      have h2 := hok
      rw [Bool.and_eq_true] at h2
      have hi := inB_t h2.2
      have hyes := linesTouched_yes h2.1 h2.2
      have hm : ys.length / 2 ≤ ys.length := Nat.div_le_self _ _
      have ht : areCells (ys.take (ys.length / 2)) = true := areCells_sub h2.1 (by simp; omega) (fun z hz => List.mem_of_mem_take hz)
      have hd : areCells (ys.drop (ys.length / 2)) = true := areCells_sub h2.1 (by simp) (fun z hz => List.mem_of_mem_drop hz)
      obtain ⟨n, hn⟩ : ∃ n, n = (linesOf ys s).length := ⟨_, rfl⟩
      obtain ⟨a, ha⟩ : ∃ a, a = (linesOf (ys.take (ys.length / 2)) s).length := ⟨_, rfl⟩
      obtain ⟨b, hb⟩ : ∃ b, b = (linesOf (ys.drop (ys.length / 2)) s).length := ⟨_, rfl⟩
      have hA := linesTouched_yes ht h2.2
      have hB := linesTouched_yes hd h2.2
      rw [← hn] at hyes
      rw [← ha] at hA
      rw [← hb] at hB
      have hnl : n ≤ 8 := by rw [hn, linesOf_card]; exact Nat.le_trans (card_le _) (by simpa using (areCells_all h2.1).1)
      have hab : n ≤ a + b := by
        rw [hn, ha, hb, linesOf_card, linesOf_card, linesOf_card]
        have := card_append ((ys.take (ys.length / 2)).map (· / s)) ((ys.drop (ys.length / 2)).map (· / s))
        rwa [← List.map_append, List.take_append_drop] at this
      have han : a ≤ n := by
        rw [hn, ha, linesOf_card, linesOf_card]
        exact card_sub fun z hz => by
          rw [List.mem_map] at hz ⊢
          obtain ⟨y, hy, rfl⟩ := hz
          exact ⟨y, List.mem_of_mem_take hy, rfl⟩
      have hbn : b ≤ n := by
        rw [hn, hb, linesOf_card, linesOf_card]
        exact card_sub fun z hz => by
          rw [List.mem_map] at hz ⊢
          obtain ⟨y, hy, rfl⟩ := hz
          exact ⟨y, List.mem_of_mem_drop hy, rfl⟩
      have hT := specLinesTouched_any A1 c1 ys s w2 (by omega) S2.out
      rw [hyes] at hT
      rw [hyes]
      have HT := mkHid hT
      have HA := mkHid hA
      have HB := mkHid hB
      have i1 : (0 : Int) ≤ (ys.length : Int) / 2 := by omega
      have i2 : (ys.length : Int) / 2 ≤ (c1 : Int) := by omega
      have i3 : (ys.length : Int) / 2 ≤ (ys.length : Int) := by omega
      have HL1 : Hid ((ys.take (ys.length / 2)).length = ys.length / 2) := mkHid (by simp; omega)
      have HL2 : Hid ((ys.drop (ys.length / 2)).length = ys.length - ys.length / 2) := mkHid (by simp)
      clear hok h2 hyes hT hn ha hb hA hB ht hd
      go_wp2_with fail
      refine HT.out.mono ?_
      rintro e w3 ⟨rfl, b3⟩
      have S3 := mkHid (S2.out.below b3)
      have B3 := mkHid (below_then B2.out b3)
      clear b3
      have hC1 := implLinesTouched_any A1 c1 (ys.take (ys.length / 2)) s w3 (by rw [HL1.out]; omega) (by have := S3.out.take (ys.length / 2); rwa [← List.map_take] at this)
      rw [HL1.out, HA.out] at hC1
      have HC1 := mkHid hC1
      clear hC1
      go_wp2_with fail
      refine HC1.out.mono ?_
      rintro e w4 ⟨rfl, b4⟩
      have S4 := mkHid (S3.out.below b4)
      have B4 := mkHid (below_then B3.out b4)
      clear b4
      have hC2 := fun (A : Option Addr) (c : Nat) (h : Sl w4 A (ints (ys.drop (ys.length / 2)))) => implLinesTouched_any A c (ys.drop (ys.length / 2)) s w4 (by rw [HL2.out]; omega) h
      rw [HL2.out, HB.out] at hC2
      have HC2 := mkHid hC2
      clear hC2
      have hend : ∀ w5, Below w4.heap.size w4 w5 → Below w.heap.size w w5 := fun w5 h => below_then B4.out h
      have HEnd := mkHid hend
      clear hend
      by_cases hcc : c1 = ys.length / 2
      · have h0 : ys.length = 0 := by omega
        have HN : Hid (∀ A, Sl w4 A (ints (ys.drop (ys.length / 2)))) := mkHid (fun A => .inl (by rw [List.eq_nil_of_length_eq_zero h0]; rfl))
        clear h0
        go_wp2_with fail
        all_goals (
          refine (HC2.out _ _ (HN.out _)).mono ?_
          rintro e w5 ⟨rfl, b5⟩
          have B5 := mkHid (HEnd.out _ b5)
          clear b5
          go_wp2_with fail
          go_ret
          exact ⟨rfl, B5.out⟩)
      · have HN := mkHid (S4.out.drop (ys.length / 2))
        go_wp2_with fail
        refine (HC2.out _ _ (by have := HN.out; rwa [← List.map_drop] at this)).mono ?_
        rintro e w5 ⟨rfl, b5⟩
        have B5 := mkHid (HEnd.out _ b5)
        clear b5
        go_wp2_with fail
        go_ret
        exact ⟨rfl, B5.out⟩
namespace fnLinesJoin
set_option maxRecDepth 100000 in
theorem lifted (os : Os) (started : os.Started) (H : Type) (enc : TypeId × Value → H) :
    ReturnsInHanded {} Try.checked os 9 .any (Rows.fnLinesJoinSpec.pre6 enc Try.prog Try.f9 Rows.fnLinesJoinRow.domain false) (Rows.fnLinesJoinSpec.post enc Try.prog Try.f9 false true false false) := by
  refine returnsInHanded_of_change (C := Try.checked) own started (by kernel_rfl) Try.func9
    (ChangeSpec.witness6 (enc := enc) (C := Try.checked) false ⟨#[], #[.slice none 0 0], []⟩ 8 (by kernel_rfl) (by kernel_rfl) (by kernel_rfl) (by kernel_rfl)) ?_
  intro W base args ds gs before hval0 hW hcnd _
  have hval : ∀ (j : Nat) t v, Try.f9.params[j]? = some t → args[j]? = some v → Value.okWide Try.prog W .any base t v := hval0
  have hW' := hW
  obtain ⟨p, q, hA0, hV, rfl, hfz, hnd⟩ := hW
  have hA : DataW.TrodAll enc Try.prog W 0 (fun _ => true) true Try.f9.params.toList args.toList ds p := hA0
  have hAk : DataW.TrodAll enc Try.prog W 0 (fun _ => true) true Try.f9.params.toList args.toList ds p := hA0
  rw [Try.params9] at hA hval
  obtain ⟨v0, vs0, d0, ds0, p0, q0, hargs, rfl, rfl, h0, r0⟩ := trodAll_cons hA
  obtain ⟨rfl, rfl, rfl⟩ := trodAll_nil r0
  obtain rfl : args = #[v0] := by cases args; simp_all
  obtain ⟨rfl, rfl⟩ := trodVars_none hV
  obtain ⟨Azs, czs, zs, rfl, nzs, kzs, szs, wzs⟩ := open_int_slice Try.underlying28 Try.underlying5 (by kernel_rfl) (hval 0 28 v0 rfl rfl) h0
  have wzs : ∀ z ∈ zs, 0 ≤ z ∧ z ≤ 255 := fun z hz => wf_u8_bounds (wzs z hz)
  clear hA0 hval0
  refine (join_walk Azs czs zs W nzs kzs szs wzs).mono fun e W' ⟨he, hb⟩ => ?_
  subst he
  refine ⟨_, rfl, post_true laidOut (fun t ht => ?_) (by kernel_rfl) Try.underlying4 rfl rfl hW' hAk hb⟩
  rw [Try.params9] at ht
  simp only [List.mem_cons, List.not_mem_nil, or_false] at ht
  first | (rcases ht with rfl <;> exact ⟨by kernel_rfl, of_decide_eq_true (by kernel_rfl)⟩) | (obtain rfl := ht; exact ⟨by kernel_rfl, of_decide_eq_true (by kernel_rfl)⟩)
/-- The statement. -/
theorem proved : Rows.FnLinesJoinSaid :=
  OpenClaim.holds_of_wide 9 Try.f9 rfl rfl rfl rfl rfl rfl rfl ⟨rfl, rfl, rfl, rfl, rfl⟩ rfl rfl rfl rfl rfl (by kernel_rfl) Try.func9 (by kernel_rfl)
    (of_decide_eq_true (by kernel_rfl)) (by unfold Func.isWrapper; first | (rw [if_pos (by decide +kernel)]; kernel_rfl) | (rw [if_neg (by decide +kernel)]; exact ⟨rfl, rfl⟩))
    (fun os started H enc _ => lifted os started H enc)
end fnLinesJoin
#print axioms fnLinesJoin.proved
end Go.Proofs.Ytmgpbhehmoohmaa
