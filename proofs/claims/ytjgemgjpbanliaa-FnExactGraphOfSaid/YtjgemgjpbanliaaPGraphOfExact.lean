/-
  Proved: FnExactGraphOf returns true for all arguments.
-/
import Derived.Test.YtjgemgjpbanliaaOpenCodes
import Derived.Test.YtjgemgjpbanliaaCGraphOf2
namespace Go.Proofs.Ytjgemgjpbanliaa
open Go.ChangeShapes Go.WideShapes Go.ChangeAt Go.RowKit
set_option maxHeartbeats 2000000
set_option linter.unusedVariables false

theorem own_onl {w w' : World} {base : Nat} {e : TypeId} {size n : Nat} {v : Value} {xs : List Value} {rs : List Row} (h : w.ownsRow base e size v n xs) (ho : Onl w w' rs) (hne : ∀ r ∈ rs, ∀ g, (rowV r).ownBlock = some g → v.ownBlock ≠ some g) : w'.ownsRow base e size v n xs := by
  refine ⟨h.1, ?_⟩
  rcases h.2 with h2 | ⟨g, cap, cur, hv, h1, h2, h3⟩
  · exact .inl h2
  · right
    refine ⟨g, cap, cur, hv, h1, ?_, h3⟩
    rw [ho.2.2.2.2 g (Array.getElem?_eq_some_iff.1 h2).1 (fun r hr e => hne r hr g e (by rw [hv]; rfl))]
    exact h2
theorem Onl.belowA {w w' : World} {rs : List Row} {lo base : Nat} (h : Onl w w' rs) (hown : RowsApart w lo rs) (hb : base ≤ lo) (hbw : base ≤ w.heap.size) : Below base w w' :=
  ⟨h.1, h.2.1, h.2.2.1, h.2.2.2.1, fun i hi => h.2.2.2.2 i (by omega) (fun r hr e => by have := ((hown.1 r hr).lt i e).1; omega)⟩
theorem RowsApart.heads {w : World} {lo n c : Nat} {A : Option Addr} {rs : List Row} (h : RowsApart w lo rs) (ho : w.ownsRow lo 38 1 (.slice A n c) n (rowVs rs)) : ∀ a, A = some a → ∀ r ∈ rs, (rowV r).ownBlock ≠ some a.block := by
  intro a ha r hr e
  subst ha
  rcases ho.2 with ⟨hv, _⟩ | ⟨g, cap, cur, hv, _⟩
  · cases hv
  · injection hv with hv
    injection hv with hv
    subst hv
    exact own_types' ho (h.1 r hr) (by decide) e rfl
theorem RowsApart.far {w w' : World} {lo : Nat} {rs : List Row} {row : Option Nat} (h : RowsApart w lo rs) (hg : w.grownBy w' row) (hr : ∀ g, row = some g → g < lo) : RowsApart w' lo rs :=
  h.kept hg (fun r hr' g e1 e2 => by have := hr g e2; have := ((h.1 r hr').lt g e1).1; omega)
def RowsMarked (w' : World) (lo : Nat) (k0 : Int) (rs : List Row) : Prop := ∀ j (h : j < rs.length), w'.ownsRow lo 3 1 (rowV rs[j]) rs[j].zs.length (ints (marks (k0 + (total (rs.take j) : Nat)) rs[j].zs.length))
theorem RowsMarked.below {w w' : World} {lo : Nat} {k : Int} {rs : List Row} (h : RowsMarked w lo k rs) (hb : Below w.heap.size w w') : RowsMarked w' lo k rs := fun j hj => own_below (h j hj) hb
theorem RowsMarked.sl {w : World} {lo : Nat} {k : Int} {rs : List Row} (h : RowsMarked w lo k rs) : ∀ j (h : j < rs.length), Sl w rs[j].a (ints (marks (k + (total (rs.take j) : Nat)) rs[j].zs.length)) := fun j hj => Sl.of_own (h j hj)
theorem gOf_len (xs : List Cd) : (gOf xs).length ≤ 41 := by
  cases hv : progValid xs with
  | false => rw [gOf_no hv]; simp
  | true =>
    rw [gOf_yes hv, graphOf_len, ops_len]
    have := (progValid_yes hv).1
    omega
theorem gOf_rows (xs : List Cd) : ∀ z ∈ gOf xs, z.length ≤ 2 := by
  intro z hz
  cases hv : progValid xs with
  | false => rw [gOf_no hv] at hz; simp at hz
  | true =>
    rw [gOf_yes hv] at hz
    unfold graphOf at hz
    rcases List.mem_append.1 hz with h | h
    · obtain ⟨a, _, rfl⟩ := List.mem_map.1 h
      exact succs_len _ _
    · rw [List.mem_singleton] at h; subst h; simp
theorem total_gOf {xs : List Cd} {qs : List Row} (h : graph qs = gOf xs) : total qs ≤ 82 := by
  have h1 := total_bound qs 2 fun r hr => gOf_rows xs _ (by rw [← h]; exact List.mem_map_of_mem hr)
  have h2 := gOf_len xs
  rw [← graph_length h] at h2
  omega
theorem exactGraphOf_walk (x : Option Addr × Nat × List Cd) (w : World) (hl : x.2.2.length ≤ 9223372036854775807) (hs : Sl w x.1 (cflat x.2.2)) :
    Calls Try.prog 5 #[.slice x.1 x.2.2.length x.2.1] w fun e w' => e = .returned (.bool true) ∧ Below w.heap.size w w' := by
  obtain ⟨A, c, xs⟩ := x
  simp only at hl hs ⊢
  obtain ⟨bk, hbk⟩ : ∃ bk, bk = gOf xs := ⟨_, rfl⟩
  have hbl : bk.length ≤ 41 := by rw [hbk]; exact gOf_len _
  have HBZ := mkHid (show ∀ z ∈ bk, z.length ≤ 9223372036854775807 from fun z hz => by rw [hbk] at hz; have := gOf_rows xs z hz; omega)
  have HBT := mkHid (show ∀ qs : List Row, graph qs = bk → total qs ≤ 1000000000 from fun qs h => by rw [hbk] at h; have := total_gOf h; omega)
  have himpl := fun A c w hl hs => implGraphOf_any A c xs w hl hs
  have hspec := fun A c w hl hs => specGraphOf_any A c xs w hl hs
  rw [← hbk] at himpl hspec
  have HIM := mkHid himpl
  have HSP := mkHid hspec
  clear hbk himpl hspec
  have S0 := mkHid hs
  clear hs
  go_enter Try.func5, Try.ntmps5
  go_wp2_with fail
  refine (szCodeS_any _ _ _ _ _ (by omega) hl).mono ?_
  rintro e w1 ⟨⟨hle, rfl⟩ | ⟨hlt, rfl⟩, rfl⟩
  · go_wp2_with fail
    refine (toCodeS_any _ _ _ _ (by omega) S0.out).mono ?_
    rintro e w1 ⟨A1, c1, rfl, o1, b1⟩
    have S1 := mkHid (Sl.of_own o1)
    have B1 := mkHid b1
    clear o1 b1
    go_wp2_with fail
    refine (HSP.out _ _ _ (by omega) S1.out).mono ?_
    rintro e w2 ⟨A2, c2, q2, rfl, g2, d2, b2⟩
    have G2 := mkHid d2
    have E2 := mkHid g2
    have L2 := mkHid (graph_length g2)
    have B02 := mkHid (below_then B1.out b2)
    clear g2 d2 b2
    go_wp2_with fail
    refine (toCodeS_any _ _ _ _ (by omega) (S0.out.below B02.out)).mono ?_
    rintro e w3 ⟨A3, c3, rfl, o3, b3⟩
    have O3 := mkHid o3
    have S3 := mkHid (Sl.of_own o3)
    have B03 := mkHid (below_then B02.out b3)
    have B23 := mkHid b3
    clear o3 b3
    go_wp2_with fail
    refine (HIM.out _ _ _ (by omega) S3.out).mono ?_
    rintro e w4 ⟨A4, c4, q4, rfl, g4, o4, a4, b4⟩
    have E4 := mkHid g4
    have L4 := mkHid (graph_length g4)
    have O4 := mkHid o4
    have P4 := mkHid a4
    have hb4l : ∀ r ∈ q4, r.zs.length ≤ 9223372036854775807 := fun r hr => HBZ.out _ (by rw [← E4.out]; exact List.mem_map_of_mem hr)
    have H4L := mkHid hb4l
    have O34 := mkHid (own_below O3.out b4)
    have B04 := mkHid (below_then B03.out b4)
    have B24 := mkHid (below_then B23.out b4)
    have hz4 := b4.size
    clear g4 o4 a4 b4 hb4l
    have hQ := eqIntSS_same A4 A2 c4 c2 q4 q2 w4 (by have := L4.out; omega) (E4.out.trans E2.out.symm) (P4.out.grid (Sl.of_own O4.out) H4L.out) (G2.out.below B24.out)
    rw [L4.out] at hQ
    have HQ := mkHid hQ
    clear hQ
    go_wp2_with fail
    refine HQ.out.mono ?_
    rintro e w5 ⟨rfl, k5, rfl⟩
    have O45 := mkHid (own_drewN O4.out k5)
    have P45 := mkHid (P4.out.below (below_drewN (Below.refl _ _) k5))
    have O35 := mkHid (own_drewN O34.out k5)
    have B05 := mkHid (below_drewN B04.out k5)
    have B25 := mkHid (below_drewN B24.out k5)
    have hz5 : (w4.drewN k5).heap.size = w4.heap.size := rfl
    generalize w4.drewN k5 = w5 at *
    go_wp2_with fail
    refine (toCodeS_any _ _ _ _ (by omega) (S0.out.below B05.out)).mono ?_
    rintro e w6 ⟨A6, c6, rfl, o6, b6⟩
    have S6 := mkHid (Sl.of_own o6)
    have O46 := mkHid (own_below O45.out b6)
    have P46 := mkHid (P45.out.below b6)
    have O36 := mkHid (own_below O35.out b6)
    have B06 := mkHid (below_then B05.out b6)
    have B26 := mkHid (below_then B25.out b6)
    have hz6 := b6.size
    clear o6 b6
    go_wp2_with fail
    refine (eqCodeS_same _ _ _ _ _ _ (by omega) (Sl.of_own O36.out) S6.out).mono ?_
    rintro e w7 ⟨rfl, b7⟩
    have O47 := mkHid (own_below O46.out b7)
    have P47 := mkHid (P46.out.below b7)
    have O37 := mkHid (own_below O36.out b7)
    have B07 := mkHid (below_then B06.out b7)
    have B27 := mkHid (below_then B26.out b7)
    have hz7 := b7.size
    clear b7
    go_wp2_with fail
    refine (markCodeS_any _ _ _ _ _ _ (by omega) (by omega) (by omega) O37.out).mono ?_
    rintro e w8 ⟨rfl, o8, g8⟩
    have hlt8 : ∀ g, (Value.slice A3 xs.length c3).ownBlock = some g → w2.heap.size ≤ g ∧ g < w3.heap.size := fun g hg => O3.out.lt g hg
    have O48 := mkHid (own_apart O47.out g8 (fun g hg => (hlt8 g hg).2))
    have P48 := mkHid (P47.out.far g8 (fun g hg => (hlt8 g hg).2))
    have B08 := mkHid (B07.out.grown g8 B07.out.size (fun g hg => by have := (hlt8 g hg).1; have := B02.out.size; omega))
    have B28 := mkHid (B27.out.grown g8 B27.out.size (fun g hg => (hlt8 g hg).1))
    have hz8 := g8.size
    clear o8 g8 hlt8
    have hQ := eqIntSS_same A4 A2 c4 c2 q4 q2 w8 (by have := L4.out; omega) (E4.out.trans E2.out.symm) (P48.out.grid (Sl.of_own O48.out) H4L.out) (G2.out.below B28.out)
    rw [L4.out] at hQ
    have HQ8 := mkHid hQ
    clear hQ
    go_wp2_with fail
    refine HQ8.out.mono ?_
    rintro e w9 ⟨rfl, k9, rfl⟩
    have O49 := mkHid (own_drewN O48.out k9)
    have P49 := mkHid (P48.out.below (below_drewN (Below.refl _ _) k9))
    have B09 := mkHid (below_drewN B08.out k9)
    have B29 := mkHid (below_drewN B28.out k9)
    have hz9 : (w8.drewN k9).heap.size = w8.heap.size := rfl
    generalize w8.drewN k9 = w9 at *
    have hM := markRows_any A4 c4 q4 1 w3.heap.size w9 (by omega) (by have := L4.out; omega) (HBT.out q4 E4.out) (Sl.of_own O49.out) (P49.out.heads O49.out) P49.out
    have hM : Calls Try.prog 20 #[.slice A4 q4.length c4, .int .i64 1] w9 fun e w' => e = .returned (.int .i64 (1 + (total q4 : Nat))) ∧ Onl w9 w' q4 ∧ RowsMarked w' w3.heap.size 1 q4 := hM
    rw [L4.out] at hM
    have HM9 := mkHid hM
    have ht4 := HBT.out q4 E4.out
    clear hM
    obtain ⟨t4, ht4e⟩ : ∃ t4, t4 = total q4 := ⟨_, rfl⟩
    have HT4 := mkHid ht4e
    rw [← ht4e] at HM9 ht4
    clear ht4e
    go_wp2_with fail
    refine HM9.out.mono ?_
    rintro e w10 ⟨rfl, hon, hmk⟩
    have O410 := mkHid (own_onl O49.out hon (fun r hr g hg e => by
      obtain ⟨ad, had, hadb⟩ : ∃ ad, A4 = some ad ∧ ad.block = g := by
        cases A4 with
        | none => cases e
        | some ad => exact ⟨ad, rfl, by simpa [Value.ownBlock] using e⟩
      exact P49.out.heads O49.out ad had r hr (by rw [hadb]; exact hg)))
    have MK := mkHid hmk
    have B10 := mkHid (B09.out.trans (hon.belowA P49.out (base := w.heap.size) (by have := B03.out.size; omega) B09.out.size))
    have B210 := mkHid (B29.out.trans (hon.belowA P49.out (base := w2.heap.size) (by have := B23.out.size; omega) B29.out.size))
    have hz10 := hon.2.2.2.1
    clear hon hmk
    have hH := heldRows_any A4 c4 q4 1 w10 (by omega) (by have := L4.out; omega) (by rw [← HT4.out]; exact ht4) (Sl.of_own O410.out) MK.out.sl
    rw [L4.out, ← HT4.out] at hH
    have HH := mkHid hH
    clear hH
    go_wp2_with fail
    refine HH.out.mono ?_
    rintro e w11 ⟨rfl, rfl⟩
    go_wp2_with fail
    refine (toCodeS_any _ _ _ _ (by omega) (S0.out.below B10.out)).mono ?_
    rintro e w12 ⟨A12, c12, rfl, o12, b12⟩
    have S12 := mkHid (Sl.of_own o12)
    have O412 := mkHid (own_below O410.out b12)
    have MK12 := mkHid (MK.out.below b12)
    have B12 := mkHid (below_then B10.out b12)
    have B212 := mkHid (below_then B210.out b12)
    clear o12 b12
    go_wp2_with fail
    refine (HIM.out _ _ _ (by omega) S12.out).mono ?_
    rintro e w13 ⟨A13, c13, q13, rfl, g13, o13, a13, b13⟩
    have hl13 : ∀ r ∈ q13, r.zs.length ≤ 9223372036854775807 := fun r hr => HBZ.out _ (by rw [← g13]; exact List.mem_map_of_mem hr)
    have G13 := mkHid (a13.grid (Sl.of_own o13) hl13)
    have L13 := mkHid (graph_length g13)
    have E13 := mkHid g13
    have O413 := mkHid (own_below O412.out b13)
    have MK13 := mkHid (MK12.out.below b13)
    have B13 := mkHid (below_then B12.out b13)
    have B213 := mkHid (below_then B212.out b13)
    clear g13 o13 a13 b13 hl13
    have hQ := eqIntSS_same A13 A2 c13 c2 q13 q2 w13 (by have := L13.out; omega) (E13.out.trans E2.out.symm) G13.out (G2.out.below B213.out)
    rw [L13.out] at hQ
    have HQ13 := mkHid hQ
    clear hQ
    go_wp2_with fail
    refine HQ13.out.mono ?_
    rintro e w14 ⟨rfl, k14, rfl⟩
    have B14 := mkHid (below_drewN B13.out k14)
    have O414 := mkHid (own_drewN O413.out k14)
    have MK14 := mkHid (MK13.out.below (below_drewN (Below.refl _ _) k14))
    generalize w13.drewN k14 = w14 at *
    have hH := heldRows_any A4 c4 q4 1 w14 (by omega) (by have := L4.out; omega) (by rw [← HT4.out]; exact ht4) (Sl.of_own O414.out) MK14.out.sl
    rw [L4.out, ← HT4.out] at hH
    have HH14 := mkHid hH
    clear hH
    go_wp2_with fail
    refine HH14.out.mono ?_
    rintro e w15 ⟨rfl, rfl⟩
    go_wp2_with fail
    go_ret
    exact ⟨rfl, B14.out⟩
  · go_wp2_with fail
    go_ret
    exact ⟨rfl, Below.refl _ _⟩
namespace fnExactGraphOf
set_option maxRecDepth 100000 in
theorem lifted (os : Os) (started : os.Started) (H : Type) (enc : TypeId × Value → H) :
    ReturnsInHanded {} Try.checked os 5 .any (Rows.fnExactGraphOfSpec.pre6 enc Try.prog Try.f5 Rows.fnExactGraphOfRow.domain false) (Rows.fnExactGraphOfSpec.post enc Try.prog Try.f5 false true false false) := by
  refine returnsInHanded_of_change (C := Try.checked) own started (by kernel_rfl) Try.func5
    (ChangeSpec.witness6 (enc := enc) (C := Try.checked) false ⟨#[], #[.slice none 0 0], []⟩ 8 (by kernel_rfl) (by kernel_rfl) (by kernel_rfl) (by kernel_rfl)) ?_
  intro W base args ds gs before hval0 hW hcnd _
  have hval : ∀ (j : Nat) t v, Try.f5.params[j]? = some t → args[j]? = some v → Value.okWide Try.prog W .any base t v := hval0
  have hW' := hW
  obtain ⟨p, q, hA0, hV, rfl, hfz, hnd⟩ := hW
  have hA : DataW.TrodAll enc Try.prog W 0 (fun _ => true) true Try.f5.params.toList args.toList ds p := hA0
  have hAk : DataW.TrodAll enc Try.prog W 0 (fun _ => true) true Try.f5.params.toList args.toList ds p := hA0
  rw [Try.params5] at hA hval
  obtain ⟨v0, vs0, d0, ds0, p0, q0, hargs, rfl, rfl, h0, r0⟩ := trodAll_cons hA
  obtain ⟨rfl, rfl, rfl⟩ := trodAll_nil r0
  obtain rfl : args = #[v0] := by cases args; simp_all
  obtain ⟨rfl, rfl⟩ := trodVars_none hV
  obtain ⟨x, rx, rfl, sx⟩ := open_codes (hval 0 22 v0 rfl rfl) h0
  clear hA0 hval0
  refine (exactGraphOf_walk x W rx sx).mono fun e W' ⟨he, hb⟩ => ?_
  subst he
  refine ⟨_, rfl, post_true laidOut (fun t ht => ?_) (by kernel_rfl) Try.underlying4 rfl rfl hW' hAk hb⟩
  rw [Try.params5] at ht
  simp only [List.mem_cons, List.not_mem_nil, or_false] at ht
  first | (rcases ht with rfl <;> exact ⟨by kernel_rfl, of_decide_eq_true (by kernel_rfl)⟩) | (obtain rfl := ht; exact ⟨by kernel_rfl, of_decide_eq_true (by kernel_rfl)⟩)
/-- The statement. -/
theorem proved : Rows.FnExactGraphOfSaid :=
  OpenClaim.holds_of_wide 5 Try.f5 rfl rfl rfl rfl rfl rfl rfl ⟨rfl, rfl, rfl, rfl, rfl⟩ rfl rfl rfl rfl rfl (by kernel_rfl) Try.func5 (by kernel_rfl)
    (of_decide_eq_true (by kernel_rfl)) (by unfold Func.isWrapper; first | (rw [if_pos (by decide +kernel)]; kernel_rfl) | (rw [if_neg (by decide +kernel)]; exact ⟨rfl, rfl⟩))
    (fun os started H enc _ => lifted os started H enc)
end fnExactGraphOf
#print axioms fnExactGraphOf.proved
end Go.Proofs.Ytjgemgjpbanliaa
