/-
  Proved: FnLinesShift returns true for every code.
-/
import Derived.Test.YtmgpbhehmoohmaaDCells
import Derived.Test.YtmgpbhehmoohmaaCLines2
import Derived.Test.YtmgpbhehmoohmaaPlainCard
import Derived.Test.YtmgpbhehmoohmaaCSame
import Derived.Test.YtmgpbhehmoohmaaFrame
namespace Go.Proofs.Ytmgpbhehmoohmaa
open Go.ChangeShapes Go.WideShapes Go.ChangeAt Go.RowKit
set_option maxHeartbeats 1000000
set_option linter.unusedVariables false

theorem areCells_shift {xs : List Int} {s : Int} (h : areCells xs = true) (hs : 1 ≤ s) (h' : ∀ x ∈ xs, x + s ≤ 255) : areCells (xs.map (· + s)) = true := by
  have h8 := areCells_all h
  refine areCells_of (by simpa using h8.1) (fun z hz => ?_)
  rw [List.mem_map] at hz
  obtain ⟨x, hx, rfl⟩ := hz
  have h1 := (h8.2 x hx).1
  have h2 := h' x hx
  show 0 ≤ x + s ∧ x + s ≤ 255
  omega
theorem shift_lines {xs : List Int} {s : Int} (h : lineNumbers xs s ≠ []) (h' : ∀ x ∈ xs, x + s ≤ 255) : lineNumbers (xs.map (· + s)) s = (lineNumbers xs s).map (· + 1) := by
  have hv : areCells xs = true ∧ inB s 1 64 = true := by
    unfold lineNumbers at h
    split at h
    · rename_i h2; simpa using h2
    · exact absurd rfl h
  have hi := inB_t hv.2
  rw [lineNumbers_yes hv.1 hv.2, lineNumbers_yes (areCells_shift hv.1 hi.1 h') hv.2]
  exact lines_shift xs s hi.1
theorem shift_walk (A : Option Addr) (c : Nat) (zs : List Int) (w : World) (hl : zs.length ≤ 9223372036854775807) (hcap : zs.length ≤ c) (hs : Sl w A (u8s zs)) (hz : ∀ z ∈ zs, 0 ≤ z ∧ z ≤ 255) :
    Calls Try.prog 7 #[.slice A zs.length c] w fun e w' => e = .returned (.bool true) ∧ Below w.heap.size w w' := by
  by_cases hbig : 1048576 < zs.length
  · go_enter Try.func7, Try.ntmps7
    go_wp2_with fail
    go_ret
    exact ⟨rfl, Below.refl _ _⟩
  · go_enter Try.func7, Try.ntmps7
    go_wp2_with fail
    refine (drawLineNumbers_any _ _ _ _ hl hcap hs hz).mono ?_
    rintro e w1 ⟨A1, c1, xs, s, rfl, s1, hx, hxc, hsz, hsm, b1⟩
    clear hs hz
    have S1 := mkHid s1
    have B1 := mkHid b1
    have HX := mkHid hsm
    clear s1 b1 hsm
    obtain ⟨ys, hys⟩ : ∃ ys, ys = lineNumbers xs s := ⟨_, rfl⟩
    have hyl : ys.length ≤ xs.length := by rw [hys]; exact lineNumbers_le _ _
    have HY := mkHid hys
    clear hys
    go_wp2_with fail
    refine (implLineNumbers_any _ _ _ _ _ (by omega) S1.out).mono ?_
    rw [← HY.out]
    rintro e w2 ⟨A2, c2, rfl, o2, b2⟩
    have S2 := mkHid (Sl.of_own o2)
    have SX2 := mkHid (S1.out.below b2)
    have B2 := mkHid (below_then B1.out b2)
    clear o2 b2
    go_wp2_with fail
    refine (specLineNumbers_any _ _ _ _ _ (by omega) SX2.out).mono ?_
    rw [← HY.out]
    rintro e w3 ⟨A3, c3, rfl, o3, b3⟩
    have S33 := mkHid (Sl.of_own o3)
    have S3 := mkHid (S2.out.below b3)
    have SX3 := mkHid (SX2.out.below b3)
    have B3 := mkHid (below_then B2.out b3)
    clear o3 b3
    go_wp2_with fail
    refine (sameInts_same _ _ _ _ _ _ (by omega) S3.out S33.out).mono ?_
    rintro e w4 ⟨rfl, k4, rfl⟩
    have S4 := mkHid (S3.out.drewN k4)
    have SX4 := mkHid (SX3.out.drewN k4)
    have B4 := mkHid (below_drewN B3.out k4)
    generalize w3.drewN k4 = w4 at *
    clear S33
    go_wp2_with fail
    go_loopw [6, 7] (fun v iv wr => ∃ k : Nat, k ≤ xs.length ∧ iv = .int .i64 k ∧ Hid (∀ x ∈ xs.take k, x + s ≤ 255) ∧ (∃ A c, v = .slice A k c ∧ wr.ownsRow w4.heap.size 3 1 (.slice A k c) k (ints ((xs.take k).map (· + s)))) ∧ Below w4.heap.size w4 wr) (fun _ iv _ => xs.length - (intOf iv).toNat)
    case atStart => exact ⟨0, by omega, rfl, mkHid (by simp), ⟨_, 0, rfl, own_empty w4 _ _⟩, (Below.refl _ _).alloc (Nat.le_refl _) _⟩
    case round =>
      obtain ⟨k, hk, rfl, HS, ⟨A5, c5, rfl, hown⟩, hb⟩ := hrel
      have hsz5 := hb.size
      have HB := mkHid hb
      have HO := mkHid hown
      clear hb hown
      by_cases hlt : k < xs.length
      · obtain ⟨b, off, rfl, hcx⟩ := (SX4.out.below HB.out).at_ (k := k) (by simpa using hlt)
        have h1 : wr.cell? ⟨b, off + k, none⟩ = some (.int .i64 xs[k]) := hcx k _ (ints_at hlt)
        have hxk := HX.out xs[k] (List.getElem_mem hlt)
        unfold smallCell at hxk
        have HT : Hid ((xs.take (k + 1)).map (· + s) = (xs.take k).map (· + s) ++ [xs[k] + s]) := mkHid (by rw [List.take_succ_eq_append_getElem hlt, List.map_append]; rfl)
        have HT2 : Hid (xs[k] + s ≤ 255 → ∀ x ∈ xs.take (k + 1), x + s ≤ 255) := mkHid (by
          intro h x hx
          rw [List.take_succ_eq_append_getElem hlt, List.mem_append, List.mem_singleton] at hx
          rcases hx with hx | rfl
          · exact HS.out x hx
          · exact h)
        clear hcx
        by_cases hov : 255 < xs[k] + s
        · go_wp2_with fail
          refine (alive_any _).mono ?_
          rintro e w5 ⟨rfl, rfl⟩
          go_wp2_with fail
          go_ret
          exact ⟨rfl, below_then B4.out HB.out⟩
        · go_wp2_with (at_builtin; refine wpList_app Ei (HO.out.alloc _) (newCells _ _ _) rfl (by simp [Value.oneCell']) (by omega) (by omega) (by simp; omega) rfl rfl rfl rfl ?_; intro A' c' w6 hown6 hg6; have HO6 := mkHid hown6; have HG6 := mkHid hg6; clear hown6 hg6)
          go_roundw
          case rel =>
            refine ⟨k + 1, by omega, by go_num, mkHid (HT2.out (by omega)), ⟨A', c', rfl, ?_⟩, ?_⟩
            · rw [HT.out]
              simpa [ints] using HO6.out
            · exact (HB.out.alloc hsz5 _).grown HG6.out (by simp; omega) (fun g hg => (HO.out.lt g hg).1)
          case measure => simp [intOf]; omega
      · have : k = xs.length := by omega
        subst this
        have hall := HS.out
        rw [List.take_length] at hall
        have hO := HO.out
        rw [List.take_length] at hO
        obtain ⟨vs, hvs⟩ : ∃ vs, vs = lineNumbers (xs.map (· + s)) s := ⟨_, rfl⟩
        have hlen : (xs.map (· + s)).length = xs.length := by simp
        have hC := implLineNumbers_any A5 c5 (xs.map (· + s)) s wr (by omega) (Sl.of_own hO)
        rw [hlen, ← hvs] at hC
        have HC := mkHid hC
        have hvl : vs.length ≤ xs.length := by rw [hvs]; have := lineNumbers_le (xs.map (· + s)) s; omega
        have HV : Hid (ys ≠ [] → vs = ys.map (· + 1)) := mkHid (by
          intro hne
          rw [hvs, HY.out]
          exact shift_lines (by rw [← HY.out]; exact hne) hall)
        have HYB : Hid (∀ y ∈ ys, -1 ≤ y ∧ y ≤ 256) := mkHid (by
          intro y hy
          rw [HY.out] at hy
          unfold lineNumbers at hy
          split at hy
          · rename_i hv
            rw [Bool.and_eq_true] at hv
            have h8 := areCells_all hv.1
            have hi := inB_t hv.2
            rw [linesOf, (asc_spec _).2, List.mem_map] at hy
            obtain ⟨x, hx, rfl⟩ := hy
            have := h8.2 x hx
            have h1 := Int.ediv_nonneg this.1 (show 0 ≤ s by omega)
            have h2 := Int.ediv_le_self s this.1
            omega
          · cases hy)
        have S5 := mkHid (S4.out.below HB.out)
        have B5 := mkHid (below_then B4.out HB.out)
        clear hC hO hlen hvs hall HS HX
        go_wp2_with fail
        refine HC.out.mono ?_
        rintro e w6 ⟨A6, c6, rfl, o6, b6⟩
        have SV6 := mkHid (Sl.of_own o6)
        have S6 := mkHid (S5.out.below b6)
        have B6 := mkHid (below_then B5.out b6)
        clear o6 b6
        by_cases h0 : ys = []
        · subst h0
          go_wp2_with fail
          go_loopw [9] (fun iv wr => iv = .int .i64 0 ∧ wr = w6) (fun _ _ => 0)
          case atStart => exact ⟨rfl, rfl⟩
          case round =>
            obtain ⟨rfl, rfl⟩ := hrel
            go_wp2_with fail
            go_ret
            exact ⟨rfl, B6.out⟩
        · have hv := HV.out h0
          subst hv
          have h0' : 0 < ys.length := List.length_pos_iff.2 h0
          have hb0 : (((ys.length : Nat) : Int) == 0) = false := by rw [beq_eq_false_iff_ne]; omega
          have hml : (ys.map (· + 1)).length = ys.length := by simp
          clear HV h0 hvl
          go_wp2_with fail
          go_loopw [9] (fun iv wr => ∃ j : Nat, j ≤ ys.length ∧ iv = .int .i64 j ∧ ∃ q, wr = w6.drewN q) (fun iv _ => ys.length - (intOf iv).toNat)
          case atStart => exact ⟨0, by omega, rfl, 0, rfl⟩
          case round =>
            obtain ⟨j, hj, rfl, q, rfl⟩ := hrel
            by_cases hltj : j < ys.length
            · obtain ⟨b2, off2, rfl, hcy⟩ := S6.out.at_ (k := j) (by simpa using hltj)
              obtain ⟨b3, off3, rfl, hcv⟩ := SV6.out.at_ (k := j) (by simpa using hltj)
              have h1 : w6.cell? ⟨b2, off2 + j, none⟩ = some (.int .i64 ys[j]) := hcy j _ (ints_at hltj)
              have h2 : w6.cell? ⟨b3, off3 + j, none⟩ = some (.int .i64 (ys[j] + 1)) := hcv j _ (by simp [ints, hltj])
              have hyj := HYB.out ys[j] (List.getElem_mem hltj)
              have hd : decide ((ys.length : Int) ≤ (j : Int)) = false := by simp; omega
              have hd2 : (ys[j] + 1 != ys[j] + 1) = false := by simp
              have i3 : (0 : Int) ≤ (j : Int) := by omega
              have i4 : (j : Int) < (ys.length : Int) := by omega
              have hw := IntWalk.i64_in (ys[j] + 1) (by omega)
              clear hcy hcv
              go_wp2_with fail
              go_quiet (fail)
              go_wp2_with fail
              go_roundw
              case rel => exact ⟨j + 1, by omega, by go_num, _, by first | rfl | exact World.drewN_drewN _ _ _⟩
              case measure => simp [intOf]; omega
            · go_wp2_with fail
              go_ret
              exact ⟨rfl, below_drewN B6.out q⟩
namespace fnLinesShift
set_option maxRecDepth 100000 in
theorem lifted (os : Os) (started : os.Started) (H : Type) (enc : TypeId × Value → H) :
    ReturnsInHanded {} Try.checked os 7 .any (Rows.fnLinesShiftSpec.pre6 enc Try.prog Try.f7 Rows.fnLinesShiftRow.domain false) (Rows.fnLinesShiftSpec.post enc Try.prog Try.f7 false true false false) := by
  refine returnsInHanded_of_change (C := Try.checked) own started (by kernel_rfl) Try.func7
    (ChangeSpec.witness6 (enc := enc) (C := Try.checked) false ⟨#[], #[.slice none 0 0], []⟩ 8 (by kernel_rfl) (by kernel_rfl) (by kernel_rfl) (by kernel_rfl)) ?_
  intro W base args ds gs before hval0 hW hcnd _
  have hval : ∀ (j : Nat) t v, Try.f7.params[j]? = some t → args[j]? = some v → Value.okWide Try.prog W .any base t v := hval0
  have hW' := hW
  obtain ⟨p, q, hA0, hV, rfl, hfz, hnd⟩ := hW
  have hA : DataW.TrodAll enc Try.prog W 0 (fun _ => true) true Try.f7.params.toList args.toList ds p := hA0
  have hAk : DataW.TrodAll enc Try.prog W 0 (fun _ => true) true Try.f7.params.toList args.toList ds p := hA0
  rw [Try.params7] at hA hval
  obtain ⟨v0, vs0, d0, ds0, p0, q0, hargs, rfl, rfl, h0, r0⟩ := trodAll_cons hA
  obtain ⟨rfl, rfl, rfl⟩ := trodAll_nil r0
  obtain rfl : args = #[v0] := by cases args; simp_all
  obtain ⟨rfl, rfl⟩ := trodVars_none hV
  obtain ⟨Azs, czs, zs, rfl, nzs, kzs, szs, wzs⟩ := open_int_slice Try.underlying28 Try.underlying5 (by kernel_rfl) (hval 0 28 v0 rfl rfl) h0
  have wzs : ∀ z ∈ zs, 0 ≤ z ∧ z ≤ 255 := fun z hz => wf_u8_bounds (wzs z hz)
  clear hA0 hval0
  refine (shift_walk Azs czs zs W nzs kzs szs wzs).mono fun e W' ⟨he, hb⟩ => ?_
  subst he
  refine ⟨_, rfl, post_true laidOut (fun t ht => ?_) (by kernel_rfl) Try.underlying4 rfl rfl hW' hAk hb⟩
  rw [Try.params7] at ht
  simp only [List.mem_cons, List.not_mem_nil, or_false] at ht
  first | (rcases ht with rfl <;> exact ⟨by kernel_rfl, of_decide_eq_true (by kernel_rfl)⟩) | (obtain rfl := ht; exact ⟨by kernel_rfl, of_decide_eq_true (by kernel_rfl)⟩)
/-- The statement. -/
theorem proved : Rows.FnLinesShiftSaid :=
  OpenClaim.holds_of_wide 7 Try.f7 rfl rfl rfl rfl rfl rfl rfl ⟨rfl, rfl, rfl, rfl, rfl⟩ rfl rfl rfl rfl rfl (by kernel_rfl) Try.func7 (by kernel_rfl)
    (of_decide_eq_true (by kernel_rfl)) (by unfold Func.isWrapper; first | (rw [if_pos (by decide +kernel)]; kernel_rfl) | (rw [if_neg (by decide +kernel)]; exact ⟨rfl, rfl⟩))
    (fun os started H enc _ => lifted os started H enc)
end fnLinesShift
#print axioms fnLinesShift.proved
end Go.Proofs.Ytmgpbhehmoohmaa
