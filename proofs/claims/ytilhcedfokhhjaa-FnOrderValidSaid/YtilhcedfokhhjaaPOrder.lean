/-
  Proved: FnOrderValid returns true for every code.
-/
import Derived.Test.YtilhcedfokhhjaaDOrder2
import Derived.Test.YtilhcedfokhhjaaCOrder
import Derived.Test.YtilhcedfokhhjaaLibAppG
import Derived.Test.YtilhcedfokhhjaaFrame
namespace Go.Proofs.Ytilhcedfokhhjaa
open Go.ChangeShapes Go.WideShapes Go.ChangeAt Go.RowKit
set_option maxHeartbeats 1000000
set_option linter.unusedVariables false

def lessOf (ys : List Int) (l : Int) : List Int := ys.filter fun z => z != l - 1
theorem lessOf_take (ys : List Int) (l : Int) (k : Nat) (h : k < ys.length) : lessOf (ys.take (k + 1)) l = lessOf (ys.take k) l ++ if (ys[k] != l - 1) = true then [ys[k]] else [] := by
  unfold lessOf
  rw [List.take_succ_eq_append_getElem h, List.filter_append]
  congr 1
  by_cases e : (ys[k] != l - 1) = true
  · simp only [List.filter_cons, e, if_true, List.filter_nil]
  · simp only [List.filter_cons, e, List.filter_nil]
    first | done | rfl
theorem order_twice {ys : List Int} {l : Int} (h : orderValid ys l = true) (h2 : 2 * ys.length ≤ 40) : orderValid (ys ++ ys) l = true := by
  unfold orderValid at *
  simp only [Bool.and_eq_true, decide_eq_true_eq, List.all_append] at *
  refine ⟨⟨⟨h.1.1.1, by rw [List.length_append]; omega⟩, h.1.2, h.1.2⟩, ?_⟩
  have h3 := List.all_eq_true.1 h.2
  rw [List.all_eq_true]
  intro n hn
  have := h3 n hn
  unfold hasB at *
  rw [List.any_append, this]; rfl
theorem order_less (ys : List Int) (l : Int) : orderValid (lessOf ys l) l = false := by
  cases hv : orderValid (lessOf ys l) l with
  | false => rfl
  | true =>
    exfalso
    unfold orderValid at hv
    simp only [Bool.and_eq_true] at hv
    have hb := inB_t hv.1.1.1
    have h1 := List.all_eq_true.1 hv.2 (l - 1).toNat (List.mem_range.2 (by omega))
    unfold hasB at h1
    rw [List.any_eq_true] at h1
    obtain ⟨z, hz, e⟩ := h1
    rw [beq_iff_eq] at e
    unfold lessOf at hz
    have := (List.mem_filter.1 hz).2
    rw [bne_iff_ne] at this
    omega
theorem order_walk (A : Option Addr) (c : Nat) (zs : List Int) (w : World) (hl : zs.length ≤ 9223372036854775807) (hcap : zs.length ≤ c) (hs : Sl w A (u8s zs)) (hz : ∀ z ∈ zs, 0 ≤ z ∧ z ≤ 255) :
    Calls Try.prog 4 #[.slice A zs.length c] w fun e w' => e = .returned (.bool true) ∧ Below w.heap.size w w' := by
  by_cases hbig : 1048576 < zs.length
  · go_enter Try.func4, Try.ntmps4
    go_wp2_with fail
    go_ret
    exact ⟨rfl, Below.refl _ _⟩
  · go_enter Try.func4, Try.ntmps4
    go_wp2_with fail
    refine (drawOrderValid_any _ _ _ _ hl hcap hs hz).mono ?_
    rintro e w1 ⟨g, c', ys, l, rfl, s1, hy, hyc, hlb, hsm, b1⟩
    clear hs hz
    have S1 := mkHid s1
    have B1 := mkHid b1
    clear s1 b1 hsm
    obtain ⟨ok, hok⟩ : ∃ ok, ok = orderValid ys l := ⟨_, rfl⟩
    have HK := mkHid hok
    clear hok
    go_wp2_with fail
    refine (implOrderValid_any _ _ _ _ _ (by omega) S1.out).mono ?_
    rw [← HK.out]
    rintro e w2 ⟨rfl, b2⟩
    have S2 := mkHid (S1.out.below b2)
    have B2 := mkHid (below_then B1.out b2)
    clear b2
    go_wp2_with fail
    refine (specOrderValid_any _ _ _ _ _ (by omega) S2.out).mono ?_
    rw [← HK.out]
    rintro e w3 ⟨rfl, rfl⟩
    cases ok with
    | false =>
      go_wp2_with fail
      refine (alive_any _).mono ?_
      rintro e w9 ⟨rfl, rfl⟩
      go_wp2_with fail
      go_ret
      exact ⟨rfl, B2.out⟩
    | true =>
      go_wp2_with fail
      go_loopw [6, 7] (fun v i wr => ∃ k : Nat, k ≤ ys.length ∧ i = .int .i64 k ∧ ∃ g' c'' qs, v = .slice (some ⟨g', 0, none⟩) qs.length c'' ∧ Hid (qs = lessOf (ys.take k) l) ∧ qs.length ≤ k ∧ wr.ownsRow w2.heap.size 3 1 (.slice (some ⟨g', 0, none⟩) qs.length c'') qs.length (ints qs) ∧ Below w2.heap.size w2 wr) (fun _ i _ => ys.length - (intOf i).toNat)
      case atStart => exact ⟨0, by omega, rfl, w2.heap.size, 0, [], rfl, mkHid rfl, by simp, own_empty _ _ _, (Below.refl _ _).alloc (Nat.le_refl _) _⟩
      case round =>
        obtain ⟨k, hk, rfl, g', c'', qs, rfl, HQ, hql, hown, hb⟩ := hrel
        have HO := mkHid hown
        have HB := mkHid hb
        have S3 := mkHid (S2.out.below hb)
        have hsz := hb.size
        clear hown hb
        by_cases hlt : k < ys.length
        · obtain ⟨bb, off, hA, hc⟩ := S3.out.at_ (k := k) (by simpa using hlt)
          injection hA with hA
          injection hA with hA1 hA2
          subst hA1 hA2
          have h1 : wr.cell? ⟨g, k, none⟩ = some (.int .i64 ys[k]) := by have := hc k _ (ints_at hlt); simpa using this
          have HT := mkHid (lessOf_take ys l k hlt)
          obtain ⟨y, hyk⟩ : ∃ y, y = ys[k] := ⟨_, rfl⟩
          rw [← hyk] at h1 HT
          clear hc hyk
          cases hq : y != l - 1 with
          | false =>
            have HE := mkHid hq
            go_wp2_with fail
            go_roundw
            case rel => exact ⟨k + 1, by omega, by go_num, g', c'', qs, rfl, mkHid (by rw [HT.out, HE.out, HQ.out]; simp), by omega, HO.out, HB.out⟩
            case measure => simp [intOf] <;> omega
          | true =>
            have HE := mkHid hq
            have h1' := h1
            go_wp2_with (at_builtin; refine wpList_appS Ei (HO.out.alloc _) (newCells _ _ _) rfl (by simp [Value.oneCell']) (by omega) (by omega) (by simp; omega) rfl rfl rfl rfl ?_; intro g'' c3 w4 hown4 hg4; have HO4 := mkHid hown4; have HG4 := mkHid hg4; clear hown4 hg4)
            go_roundw
            case rel =>
              refine ⟨k + 1, by omega, by go_num, g'', c3, qs ++ [y], by simp, mkHid (by rw [HT.out, HE.out, HQ.out]; simp), by simp; omega, ?_, ?_⟩
              · have := HO4.out
                rw [List.length_append]
                simpa [ints] using this
              · exact below_grown (HB.out.alloc hsz _) HG4.out (fun g hg => by injection hg with hg; subst hg; exact (HO.out.lt _ rfl).1)
            case measure => simp [intOf] <;> omega
        · have : k = ys.length := by omega
          have hqe : qs = lessOf ys l := by have := HQ.out; rwa [List.take_of_length_le (by omega)] at this
          have hls := order_less ys l
          rw [← hqe] at hls
          have HLS := mkHid hls
          have BR := mkHid (below_then B2.out HB.out)
          have SQ := mkHid (Sl.of_own HO.out)
          clear hqe hls HQ
          by_cases h40 : 40 < 2 * ys.length
          · have hC := implOrderValid_any (some ⟨g', 0, none⟩) c'' qs l wr (by omega) SQ.out
            rw [HLS.out] at hC
            have HC := mkHid hC
            clear hC
            go_wp2_with fail
            refine HC.out.mono ?_
            rintro e w5 ⟨rfl, b5⟩
            have B5 := mkHid (below_then BR.out b5)
            clear b5
            go_wp2_with fail
            go_ret
            exact ⟨rfl, B5.out⟩
          · have hN : ∀ (w : World) (u : Below wr.heap.size wr w) p u, (ints ys)[p]? = some u → w.cell? ((⟨g, 0, none⟩ : Addr).add p) = some u := fun w u p x hx => by
              have h1 := S3.out.below u
              rcases h1 with h1 | ⟨b, off, h1, h2⟩
              · rw [h1] at hx; simp at hx
              · injection h1 with h1
                injection h1 with h1 h1'
                subst h1 h1'
                rw [add_flat]
                exact h2 p x hx
            have HN := mkHid hN
            have hB0 : Below wr.heap.size wr (wr.alloc (.cells #[] 3)) := (Below.refl _ _).alloc (Nat.le_refl _) _
            have HB0 := mkHid hB0
            have hz0 : 0 + ys.length = ys.length := Nat.zero_add _
            have HTW := mkHid (order_twice HK.out.symm (by omega))
            clear hN hB0
            go_wp2_with (at_builtin; first
              | (refine wpList_appG Ei (own_empty wr _ _) (HN.out _ HB0.out) (by simp [ints]) (ints_one ys) (by omega) (by omega) (by simp) (by simp [Region.wanted, yielded, go_sem]; try omega) rfl rfl rfl ?_; intro g5 c5 w5 hown5 hg5; rw [hz0] at hown5 ⊢; have HO5 := mkHid hown5; have HG5 := mkHid hg5; have HB5 := mkHid (below_grown HB0.out hg5 (fun g hg => by injection hg with hg; omega)); have hs5 := hg5.size; clear hown5 hg5)
              | (refine wpList_appG Ei HO5.out (HN.out _ HB5.out) (by simp [ints]) (ints_one ys) (by omega) (by omega) (by simp at hs5; omega) (by simp [Region.wanted, yielded, go_sem]; try omega) rfl rfl rfl ?_; intro g6 c6 w6 hown6 hg6; have HO6 := mkHid hown6; have HB6 := mkHid (below_grown HB5.out hg6 (fun g hg => by injection hg with hg; have := (HO5.out.lt g5 rfl).1; omega)); clear hown6 hg6))
            have hC := implOrderValid_any (some ⟨g6, 0, none⟩) c6 (ys ++ ys) l w6 (by simp; omega) (by have := Sl.of_own HO6.out; simpa [ints] using this)
            rw [HTW.out, List.length_append] at hC
            have HC := mkHid hC
            clear hC
            refine HC.out.mono ?_
            rintro e w7 ⟨rfl, b7⟩
            have B7 := mkHid (below_then HB6.out b7)
            have SQ7 := mkHid (SQ.out.below B7.out)
            clear b7
            have hC := implOrderValid_any (some ⟨g', 0, none⟩) c'' qs l w7 (by omega) SQ7.out
            rw [HLS.out] at hC
            have HC7 := mkHid hC
            clear hC
            go_wp2_with fail
            refine HC7.out.mono ?_
            rintro e w8 ⟨rfl, b8⟩
            have B8 := mkHid (below_then BR.out (below_then B7.out b8))
            clear b8
            go_wp2_with fail
            go_ret
            exact ⟨rfl, B8.out⟩
namespace fnOrderValid
set_option maxRecDepth 100000 in
theorem lifted (os : Os) (started : os.Started) (H : Type) (enc : TypeId × Value → H) :
    ReturnsInHanded {} Try.checked os 4 .any (Rows.fnOrderValidSpec.pre6 enc Try.prog Try.f4 Rows.fnOrderValidRow.domain false) (Rows.fnOrderValidSpec.post enc Try.prog Try.f4 false true false false) := by
  refine returnsInHanded_of_change (C := Try.checked) own started (by kernel_rfl) Try.func4
    (ChangeSpec.witness6 (enc := enc) (C := Try.checked) false ⟨#[], #[.slice none 0 0], []⟩ 8 (by kernel_rfl) (by kernel_rfl) (by kernel_rfl) (by kernel_rfl)) ?_
  intro W base args ds gs before hval0 hW hcnd _
  have hval : ∀ (j : Nat) t v, Try.f4.params[j]? = some t → args[j]? = some v → Value.okWide Try.prog W .any base t v := hval0
  have hW' := hW
  obtain ⟨p, q, hA0, hV, rfl, hfz, hnd⟩ := hW
  have hA : DataW.TrodAll enc Try.prog W 0 (fun _ => true) true Try.f4.params.toList args.toList ds p := hA0
  have hAk : DataW.TrodAll enc Try.prog W 0 (fun _ => true) true Try.f4.params.toList args.toList ds p := hA0
  rw [Try.params4] at hA hval
  obtain ⟨v0, vs0, d0, ds0, p0, q0, hargs, rfl, rfl, h0, r0⟩ := trodAll_cons hA
  obtain ⟨rfl, rfl, rfl⟩ := trodAll_nil r0
  obtain rfl : args = #[v0] := by cases args; simp_all
  obtain ⟨rfl, rfl⟩ := trodVars_none hV
  obtain ⟨Azs, czs, zs, rfl, nzs, kzs, szs, wzs⟩ := open_int_slice Try.underlying26 Try.underlying5 (by kernel_rfl) (hval 0 26 v0 rfl rfl) h0
  have wzs : ∀ z ∈ zs, 0 ≤ z ∧ z ≤ 255 := fun z hz => wf_u8_bounds (wzs z hz)
  clear hA0 hval0
  refine (order_walk Azs czs zs W nzs kzs szs wzs).mono fun e W' ⟨he, hb⟩ => ?_
  subst he
  refine ⟨_, rfl, post_true laidOut (fun t ht => ?_) (by kernel_rfl) Try.underlying4 rfl rfl hW' hAk hb⟩
  rw [Try.params4] at ht
  simp only [List.mem_cons, List.not_mem_nil, or_false] at ht
  first | (rcases ht with rfl <;> exact ⟨by kernel_rfl, of_decide_eq_true (by kernel_rfl)⟩) | (obtain rfl := ht; exact ⟨by kernel_rfl, of_decide_eq_true (by kernel_rfl)⟩)
/-- The statement. -/
theorem proved : Rows.FnOrderValidSaid :=
  OpenClaim.holds_of_wide 4 Try.f4 rfl rfl rfl rfl rfl rfl rfl ⟨rfl, rfl, rfl, rfl, rfl⟩ rfl rfl rfl rfl rfl (by kernel_rfl) Try.func4 (by kernel_rfl)
    (of_decide_eq_true (by kernel_rfl)) (by unfold Func.isWrapper; first | (rw [if_pos (by decide +kernel)]; kernel_rfl) | (rw [if_neg (by decide +kernel)]; exact ⟨rfl, rfl⟩))
    (fun os started H enc _ => lifted os started H enc)
end fnOrderValid
#print axioms fnOrderValid.proved
end Go.Proofs.Ytilhcedfokhhjaa
