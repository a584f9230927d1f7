/-
  Proved: FnLineNumbers returns true for every code.
-/
import Derived.Test.YtmgpbhehmoohmaaDCells
import Derived.Test.YtmgpbhehmoohmaaCLines2
import Derived.Test.YtmgpbhehmoohmaaPlainCard
import Derived.Test.YtmgpbhehmoohmaaCSame
import Derived.Test.YtmgpbhehmoohmaaFrame
namespace Go.Proofs.Ytmgpbhehmoohmaa
open Go.ChangeShapes Go.WideShapes Go.ChangeAt Go.RowKit
set_option maxHeartbeats 1000000
set_option linter.unusedVariables false

theorem rev_step (xs : List Int) (n : Nat) (h : n < xs.length) : (xs.drop n).reverse = (xs.drop (n + 1)).reverse ++ [xs[n]] := by
  rw [List.drop_eq_getElem_cons h, List.reverse_cons]
theorem areCells_reverse (xs : List Int) : areCells xs.reverse = areCells xs := by simp [areCells]
theorem lineNumbers_reverse (xs : List Int) (s : Int) : lineNumbers xs.reverse s = lineNumbers xs s := by
  unfold lineNumbers linesOf
  rw [areCells_reverse, List.map_reverse, asc_reverse]

theorem lines_walk (A : Option Addr) (c : Nat) (zs : List Int) (w : World) (hl : zs.length ≤ 9223372036854775807) (hcap : zs.length ≤ c) (hs : Sl w A (u8s zs)) (hz : ∀ z ∈ zs, 0 ≤ z ∧ z ≤ 255) :
    Calls Try.prog 6 #[.slice A zs.length c] w fun e w' => e = .returned (.bool true) ∧ Below w.heap.size w w' := by
  by_cases hbig : 1048576 < zs.length
  · go_enter Try.func6, Try.ntmps6
    go_wp2_with fail
    go_ret
    exact ⟨rfl, Below.refl _ _⟩
  · go_enter Try.func6, Try.ntmps6
    go_wp2_with fail
    refine (drawLineNumbers_any _ _ _ _ hl hcap hs hz).mono ?_
    rintro e w1 ⟨A1, c1, xs, s, rfl, s1, hx, hxc, hsz, _, b1⟩
    clear hs hz
    have S1 := mkHid s1
    have B1 := mkHid b1
    clear s1 b1
    obtain ⟨ys, hys⟩ : ∃ ys, ys = lineNumbers xs s := ⟨_, rfl⟩
    have hyl : ys.length ≤ xs.length := by rw [hys]; exact lineNumbers_le _ _
    have HY := mkHid hys
    clear hys
    go_wp2_with fail
    refine (implLineNumbers_any _ _ _ _ _ (by omega) S1.out).mono ?_
    rw [← HY.out]
    rintro e w2 ⟨A2, c2, rfl, o2, b2⟩
    have S2 := mkHid (Sl.of_own o2)
    have SX2 := mkHid (S1.out.below b2)
    have B2 := mkHid (below_then B1.out b2)
    clear o2 b2
    go_wp2_with fail
    refine (specLineNumbers_any _ _ _ _ _ (by omega) SX2.out).mono ?_
    rw [← HY.out]
    rintro e w3 ⟨A3, c3, rfl, o3, b3⟩
    have S33 := mkHid (Sl.of_own o3)
    have S3 := mkHid (S2.out.below b3)
    have SX3 := mkHid (SX2.out.below b3)
    have B3 := mkHid (below_then B2.out b3)
    clear o3 b3
    go_wp2_with fail
    refine (sameInts_same _ _ _ _ _ _ (by omega) S3.out S33.out).mono ?_
    rintro e w4 ⟨rfl, k4, rfl⟩
    have S4 := mkHid (S3.out.drewN k4)
    have SX4 := mkHid (SX3.out.drewN k4)
    have B4 := mkHid (below_drewN B3.out k4)
    generalize w3.drewN k4 = w4 at *
    clear S33
    by_cases h0 : ys.length = 0
    · obtain rfl : ys = [] := List.eq_nil_of_length_eq_zero h0
      go_wp2_with fail
      refine (alive_any _).mono ?_
      rintro e w5 ⟨rfl, rfl⟩
      go_wp2_with fail
      go_ret
      exact ⟨rfl, B4.out⟩
    have hval : areCells xs = true ∧ inB s 1 64 = true := by
      have h1 := HY.out
      unfold lineNumbers at h1
      split at h1
      · rename_i h2; simpa using h2
      · rw [h1] at h0; simp at h0
    have hyes := lineNumbers_yes hval.1 hval.2
    have HU : Hid (Up ys) := mkHid (by rw [HY.out, hyes]; exact (asc_spec _).1)
    have HM : Hid (∀ x ∈ xs, x / s ∈ ys) := mkHid (by
      intro x hx
      rw [HY.out, hyes, linesOf, (asc_spec _).2, List.mem_map]
      exact ⟨x, hx, rfl⟩)
    have HX : Hid (∀ x ∈ xs, 0 ≤ x ∧ x ≤ 255) := mkHid (areCells_all hval.1).2
    have hi := inB_t hval.2
    have hb0 : (((ys.length : Nat) : Int) == 0) = false := by rw [beq_eq_false_iff_ne]; omega
    clear hval hyes h0
    go_wp2_with fail
    go_loopw [6, 7] (fun v iv wr => ∃ m : Nat, m ≤ xs.length ∧ iv = .int .i64 ((m : Int) - 1) ∧ (∃ A c, ∃ t : List Int, Hid (t = (xs.drop m).reverse) ∧ t.length + m = xs.length ∧ v = .slice A t.length c ∧ wr.ownsRow w4.heap.size 3 1 (.slice A t.length c) t.length (ints t)) ∧ Below w4.heap.size w4 wr) (fun _ iv _ => (intOf iv + 1).toNat)
    case atStart => exact ⟨xs.length, by omega, rfl, ⟨_, 0, [], mkHid (by simp), by simp, rfl, own_empty w4 _ _⟩, (Below.refl _ _).alloc (Nat.le_refl _) _⟩
    case round =>
      obtain ⟨m, hm, rfl, ⟨A5, c5, t, HT, htl, rfl, hown⟩, hb⟩ := hrel
      obtain ⟨wo, rfl⟩ : ∃ wo : World, wo = wr := ⟨_, rfl⟩
      have hsz := hb.size
      have HB := mkHid hb
      have HO := mkHid hown
      clear hb hown
      obtain rfl | ⟨n, rfl⟩ : m = 0 ∨ ∃ n, m = n + 1 := by
        cases m with
        | zero => exact .inl rfl
        | succ n => exact .inr ⟨n, rfl⟩
      · -- all turned
        go_wp2_with fail
        go_loopw [10] (fun jv wr => ∃ j : Nat, 1 ≤ j ∧ j ≤ ys.length + 1 ∧ jv = .int .i64 j ∧ ∃ q, wr = wo.drewN q) (fun jv _ => ys.length + 1 - (intOf jv).toNat)
        case atStart => exact ⟨1, by omega, by omega, rfl, 0, rfl⟩
        case round =>
          obtain ⟨j, hj1, hj, rfl, q, rfl⟩ := hrel
          by_cases hlt : j < ys.length
          · obtain ⟨b, off, rfl, hc⟩ := (S4.out.below HB.out).at_ (k := j) (by simpa using hlt)
            have h1 : wo.cell? ⟨b, off + (j - 1), none⟩ = some (.int .i64 ys[j - 1]) := hc (j - 1) _ (ints_at (by omega))
            have h2 : wo.cell? ⟨b, off + j, none⟩ = some (.int .i64 ys[j]) := hc j _ (ints_at hlt)
            have hup := List.pairwise_iff_getElem.1 HU.out (j - 1) j (by omega) hlt (by omega)
            have hd : decide (ys[j] ≤ ys[j - 1]) = false := by simp; omega
            have i1 : (0 : Int) ≤ (j : Int) - 1 := by omega
            have i2 : (j : Int) - 1 < (ys.length : Int) := by omega
            have i3 : (0 : Int) ≤ (j : Int) := by omega
            have i4 : (j : Int) < (ys.length : Int) := by omega
            clear hc hup
            go_wp2_with fail
            go_quiet (fail)
            go_wp2_with fail
            go_roundw
            case rel => exact ⟨j + 1, by omega, by omega, by go_num, _, by first | rfl | exact World.drewN_drewN _ _ _⟩
            case measure => simp [intOf]; omega
          · have hA : Hid (lineNumbers t s = ys) := mkHid (by
              rw [HY.out, HT.out, List.drop_zero]
              exact lineNumbers_reverse xs s)
            have S5 := mkHid ((S4.out.below HB.out).drewN q)
            have O5 := mkHid (own_drewN HO.out q)
            have B5 := mkHid (below_then B4.out (below_drewN HB.out q))
            generalize wo.drewN q = w5 at *
            go_wp2_with fail
            refine (implLineNumbers_any _ _ _ _ _ (by omega) (Sl.of_own O5.out)).mono ?_
            rw [hA.out]
            rintro e w6 ⟨A6, c6, rfl, o6, b6⟩
            have S6 := mkHid (Sl.of_own o6)
            have S56 := mkHid (S5.out.below b6)
            have B6 := mkHid (below_then B5.out b6)
            clear o6 b6
            go_wp2_with fail
            refine (sameInts_same _ _ _ _ _ _ (by omega) S6.out S56.out).mono ?_
            rintro e w7 ⟨rfl, k7, rfl⟩
            have B7 := mkHid (below_drewN B6.out k7)
            generalize w6.drewN k7 = w7 at *
            go_wp2_with fail
            go_ret
            exact ⟨rfl, B7.out⟩
      · have e : (Value.int .i64 (((n + 1 : Nat) : Int) - 1)) = .int .i64 n := by congr 1; omega
        rw [e]
        clear e
        have hlt : n < xs.length := by omega
        have HR := mkHid (rev_step xs n hlt)
        obtain ⟨b, off, rfl, hcx⟩ := (SX4.out.below HB.out).at_ (k := n) (by simpa using hlt)
        have h1 : wo.cell? ⟨b, off + n, none⟩ = some (.int .i64 xs[n]) := hcx n _ (ints_at hlt)
        have hxn := HX.out xs[n] (List.getElem_mem hlt)
        clear hcx
        go_wp2_with (at_builtin; refine wpList_app Ei (HO.out.alloc _) (newCells _ _ _) rfl (by simp [Value.oneCell']) (by omega) (by omega) (by simp; omega) rfl rfl rfl rfl ?_; intro A' c' w6 hown6 hg6; have HO6 := mkHid hown6; have HG6 := mkHid hg6; clear hown6 hg6)
        clear h1
        have HB6 : Hid (Below w4.heap.size w4 w6) := mkHid ((HB.out.alloc hsz _).grown HG6.out (by simp; omega) (fun g hg => (HO.out.lt g hg).1))
        have hle6 := HG6.out.size
        have hb6 : Below wo.heap.size wo w6 → True := fun _ => trivial
        clear hb6
        go_loopw [8, 9] (fun bv jv wr => ∃ j : Nat, j ≤ ys.length ∧ jv = .int .i64 j ∧ bv = .bool (memB (ys.take j) (xs[n] / s)) ∧ ∃ q, wr = w6.drewN q) (fun _ jv _ => ys.length - (intOf jv).toNat)
        case atStart => exact ⟨0, by omega, rfl, by simp [memB], 0, rfl⟩
        case round =>
          obtain ⟨j, hj, rfl, rfl, q, rfl⟩ := hrel
          obtain ⟨b2, off2, hbb, hcx⟩ := (SX4.out.below HB6.out).at_ (k := n) (by simpa using hlt)
          injection hbb with hbb
          injection hbb with e1 e2
          subst e1
          subst e2
          have h1 : w6.cell? ⟨b, off + n, none⟩ = some (.int .i64 xs[n]) := hcx n _ (ints_at hlt)
          clear hcx
          by_cases hltj : j < ys.length
          · obtain ⟨b3, off3, rfl, hc⟩ := (S4.out.below HB6.out).at_ (k := j) (by simpa using hltj)
            have hy : w6.cell? ⟨b3, off3 + j, none⟩ = some (.int .i64 ys[j]) := hc j _ (ints_at hltj)
            have HS := mkHid (memB_succ ys (xs[n] / s) j hltj)
            have i3 : (0 : Int) ≤ (j : Int) := by omega
            have i4 : (j : Int) < (ys.length : Int) := by omega
            have i5 : (0 : Int) ≤ (n : Int) := by omega
            have i6 : (n : Int) < (xs.length : Int) := by omega
            clear hc
            cases hb : memB (ys.take j) (xs[n] / s) with
            | true =>
              have HBb := mkHid hb
              clear hb
              go_wp2_with fail
              go_quiet (fail)
              go_wp2_with fail
              go_roundw
              case rel => exact ⟨j + 1, by omega, by go_num, by rw [HS.out, HBb.out]; rfl, _, by first | rfl | exact World.drewN_drewN _ _ _⟩
              case measure => simp [intOf]; omega
            | false =>
              have HBb := mkHid hb
              clear hb
              go_wp2_with fail
              go_quiet (fail)
              go_wp2_with fail
              go_roundw
              case rel => exact ⟨j + 1, by omega, by go_num, by rw [HS.out, HBb.out]; rfl, _, by first | rfl | exact World.drewN_drewN _ _ _⟩
              case measure => simp [intOf]; omega
          · have : j = ys.length := by omega
            subst this
            rw [List.take_length]
            have hin : memB ys (xs[n] / s) = true := memB_mem (HM.out _ (List.getElem_mem hlt))
            rw [hin]
            clear hin
            go_wp2_with fail
            go_roundw
            case rel =>
              refine ⟨n, by omega, rfl, ⟨A', c', t ++ [xs[n]], mkHid (by rw [HT.out]; exact HR.out.symm), by simp; omega, by simp, ?_⟩, below_drewN HB6.out q⟩
              have := own_drewN HO6.out q
              rw [List.length_append]
              simpa [ints] using this
            case measure => simp [intOf] <;> omega
namespace fnLineNumbers
set_option maxRecDepth 100000 in
theorem lifted (os : Os) (started : os.Started) (H : Type) (enc : TypeId × Value → H) :
    ReturnsInHanded {} Try.checked os 6 .any (Rows.fnLineNumbersSpec.pre6 enc Try.prog Try.f6 Rows.fnLineNumbersRow.domain false) (Rows.fnLineNumbersSpec.post enc Try.prog Try.f6 false true false false) := by
  refine returnsInHanded_of_change (C := Try.checked) own started (by kernel_rfl) Try.func6
    (ChangeSpec.witness6 (enc := enc) (C := Try.checked) false ⟨#[], #[.slice none 0 0], []⟩ 8 (by kernel_rfl) (by kernel_rfl) (by kernel_rfl) (by kernel_rfl)) ?_
  intro W base args ds gs before hval0 hW hcnd _
  have hval : ∀ (j : Nat) t v, Try.f6.params[j]? = some t → args[j]? = some v → Value.okWide Try.prog W .any base t v := hval0
  have hW' := hW
  obtain ⟨p, q, hA0, hV, rfl, hfz, hnd⟩ := hW
  have hA : DataW.TrodAll enc Try.prog W 0 (fun _ => true) true Try.f6.params.toList args.toList ds p := hA0
  have hAk : DataW.TrodAll enc Try.prog W 0 (fun _ => true) true Try.f6.params.toList args.toList ds p := hA0
  rw [Try.params6] at hA hval
  obtain ⟨v0, vs0, d0, ds0, p0, q0, hargs, rfl, rfl, h0, r0⟩ := trodAll_cons hA
  obtain ⟨rfl, rfl, rfl⟩ := trodAll_nil r0
  obtain rfl : args = #[v0] := by cases args; simp_all
  obtain ⟨rfl, rfl⟩ := trodVars_none hV
  obtain ⟨Azs, czs, zs, rfl, nzs, kzs, szs, wzs⟩ := open_int_slice Try.underlying28 Try.underlying5 (by kernel_rfl) (hval 0 28 v0 rfl rfl) h0
  have wzs : ∀ z ∈ zs, 0 ≤ z ∧ z ≤ 255 := fun z hz => wf_u8_bounds (wzs z hz)
  clear hA0 hval0
  refine (lines_walk Azs czs zs W nzs kzs szs wzs).mono fun e W' ⟨he, hb⟩ => ?_
  subst he
  refine ⟨_, rfl, post_true laidOut (fun t ht => ?_) (by kernel_rfl) Try.underlying4 rfl rfl hW' hAk hb⟩
  rw [Try.params6] at ht
  simp only [List.mem_cons, List.not_mem_nil, or_false] at ht
  first | (rcases ht with rfl <;> exact ⟨by kernel_rfl, of_decide_eq_true (by kernel_rfl)⟩) | (obtain rfl := ht; exact ⟨by kernel_rfl, of_decide_eq_true (by kernel_rfl)⟩)
/-- The statement. -/
theorem proved : Rows.FnLineNumbersSaid :=
  OpenClaim.holds_of_wide 6 Try.f6 rfl rfl rfl rfl rfl rfl rfl ⟨rfl, rfl, rfl, rfl, rfl⟩ rfl rfl rfl rfl rfl (by kernel_rfl) Try.func6 (by kernel_rfl)
    (of_decide_eq_true (by kernel_rfl)) (by unfold Func.isWrapper; first | (rw [if_pos (by decide +kernel)]; kernel_rfl) | (rw [if_neg (by decide +kernel)]; exact ⟨rfl, rfl⟩))
    (fun os started H enc _ => lifted os started H enc)
end fnLineNumbers
#print axioms fnLineNumbers.proved
end Go.Proofs.Ytmgpbhehmoohmaa
