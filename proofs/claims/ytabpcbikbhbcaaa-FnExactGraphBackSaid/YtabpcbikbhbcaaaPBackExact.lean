/-
  Proved: FnExactGraphBack returns true for all arguments.
-/
import Derived.Test.YtabpcbikbhbcaaaOpenRows
import Derived.Test.YtabpcbikbhbcaaaCBack3
namespace Go.Proofs.Ytabpcbikbhbcaaa
open Go.ChangeShapes Go.WideShapes Go.ChangeAt Go.RowKit
set_option maxHeartbeats 2000000
set_option linter.unusedVariables false

theorem total_graph {rs qs : List Row} (h : graph rs = graph qs) : total rs = total qs := by
  have e : ∀ xs : List Row, total xs = ((graph xs).map List.length).sum := fun xs => by unfold total graph; rw [List.map_map]; rfl
  rw [e, e, h]
theorem own_onl {w w' : World} {base : Nat} {e : TypeId} {size n : Nat} {v : Value} {xs : List Value} {rs : List Row} (h : w.ownsRow base e size v n xs) (ho : Onl w w' rs) (hne : ∀ r ∈ rs, ∀ g, (rowV r).ownBlock = some g → v.ownBlock ≠ some g) : w'.ownsRow base e size v n xs := by
  refine ⟨h.1, ?_⟩
  rcases h.2 with h2 | ⟨g, cap, cur, hv, h1, h2, h3⟩
  · exact .inl h2
  · right
    refine ⟨g, cap, cur, hv, h1, ?_, h3⟩
    rw [ho.2.2.2.2 g (Array.getElem?_eq_some_iff.1 h2).1 (fun r hr e => hne r hr g e (by rw [hv]; rfl))]
    exact h2
theorem RetRows.lo {g : List (List Int)} {w w' : World} {A : Option Addr} {c : Nat} {rs : List Row} (h2 : w'.ownsRow w.heap.size 30 1 (.slice A g.length c) g.length (rowVs rs)) (h3 : ∀ b, (Value.slice A g.length c).ownBlock = some b → RowsOwn w' (b + 1) rs) (h4 : A = none → rs = []) (hb : Below w.heap.size w w') :
    ∃ lo, w.heap.size ≤ lo ∧ lo ≤ w'.heap.size ∧ (∀ a, A = some a → a.block < lo) ∧ RowsOwn w' lo rs ∧ Sl w' A (rowVs rs) := by
  cases A with
  | none =>
    have := h4 rfl
    subst this
    exact ⟨w.heap.size, Nat.le_refl _, hb.size, (fun a ha => by cases ha), RowsOwn.nil _ _, Sl.nil _ _⟩
  | some a =>
    have hlt := h2.lt a.block rfl
    exact ⟨a.block + 1, by omega, by omega, (fun a' ha => by injection ha with ha; subst ha; omega), h3 a.block rfl, Sl.of_own h2⟩
theorem Onl.belowA {w w' : World} {rs : List Row} {lo base : Nat} (h : Onl w w' rs) (hown : RowsApart w lo rs) (hb : base ≤ lo) (hbw : base ≤ w.heap.size) : Below base w w' :=
  ⟨h.1, h.2.1, h.2.2.1, h.2.2.2.1, fun i hi => h.2.2.2.2 i (by omega) (fun r hr e => by have := ((hown.1 r hr).lt i e).1; omega)⟩
theorem RowsApart.onl {w w' : World} {lo : Nat} {rs qs : List Row} (h : RowsApart w lo rs) (ho : Onl w w' qs) (hne : ∀ r ∈ qs, ∀ g, (rowV r).ownBlock = some g → g < lo) : RowsApart w' lo rs :=
  ⟨fun r hr => own_onl (h.1 r hr) ho (fun q hq g e e2 => by have h1 := hne q hq g e; have h2 := ((h.1 r hr).lt g e2).1; omega), h.2⟩
theorem RowsApart.heads {w : World} {lo n c : Nat} {A : Option Addr} {rs : List Row} (h : RowsApart w lo rs) (ho : w.ownsRow lo 30 1 (.slice A n c) n (rowVs rs)) : ∀ a, A = some a → ∀ r ∈ rs, (rowV r).ownBlock ≠ some a.block := by
  intro a ha r hr e
  subst ha
  rcases ho.2 with ⟨hv, _⟩ | ⟨g, cap, cur, hv, _⟩
  · cases hv
  · injection hv with hv
    injection hv with hv
    subst hv
    exact own_types' ho (h.1 r hr) (by decide) e rfl
def RowsMarked (w' : World) (lo : Nat) (k0 : Int) (rs : List Row) : Prop := ∀ j (h : j < rs.length), w'.ownsRow lo 3 1 (rowV rs[j]) rs[j].zs.length (ints (marks (k0 + (total (rs.take j) : Nat)) rs[j].zs.length))
theorem RowsMarked.below {w w' : World} {lo : Nat} {k : Int} {rs : List Row} (h : RowsMarked w lo k rs) (hb : Below w.heap.size w w') : RowsMarked w' lo k rs := fun j hj => own_below (h j hj) hb
theorem RowsMarked.sl {w : World} {lo : Nat} {k : Int} {rs : List Row} (h : RowsMarked w lo k rs) : ∀ j (h : j < rs.length), Sl w rs[j].a (ints (marks (k + (total (rs.take j) : Nat)) rs[j].zs.length)) := fun j hj => Sl.of_own (h j hj)
theorem exactBack_walk (x : Option Addr × Nat × List Row) (w : World) (hl : x.2.2.length ≤ 9223372036854775807) (hs : Grid w x.1 x.2.2) :
    Calls Try.prog 5 #[.slice x.1 x.2.2.length x.2.1] w fun e w' => e = .returned (.bool true) ∧ Below w.heap.size w w' := by
  obtain ⟨A, c, rs⟩ := x
  simp only at hl hs ⊢
  have S0 := mkHid hs
  clear hs
  go_enter Try.func5, Try.ntmps5
  go_wp2_with fail
  refine (szIntSS_tot _ _ _ _ _ (by omega) hl S0.out).mono ?_
  rintro e w1 ⟨⟨v, rfl, hv0, hln⟩ | rfl, rfl⟩
  · have hlz : ∀ z ∈ graph rs, z.length ≤ 9223372036854775807 := fun z hz => by
      obtain ⟨r, hr, rfl⟩ := List.mem_map.1 hz
      have := total_le hr; omega
    have HZ := mkHid hlz
    have HRN := mkHid (show ∀ r ∈ rs, r.zs.length ≤ 1048576 from fun r hr => by have := total_le hr; omega)
    have hgl : (graph rs).length = rs.length := by simp
    have HGL := mkHid hgl
    have hrl : rs.length ≤ 1048576 := by omega
    have htl : total rs ≤ 1048576 := by omega
    have HTL := mkHid htl
    obtain ⟨bk, hbk⟩ : ∃ bk, bk = back (graph rs) := ⟨_, rfl⟩
    have hbl : bk.length ≤ 64 := by rw [hbk]; exact back_le _
    have hbz : ∀ z ∈ bk, z.length ≤ 9223372036854775807 := fun z hz => by rw [hbk] at hz; have := back_rows rs z hz; omega
    have hbt : ∀ qs : List Row, graph qs = bk → total qs ≤ 1000000000 := fun qs h => by rw [hbk] at h; have := total_back h; omega
    have HBT := mkHid hbt
    have HBZ := mkHid hbz
    have HBK := mkHid hbk
    clear hlz hgl hln htl hbk hbt hbz
    go_wp2_with fail
    refine (toIntSS_any _ _ _ _ hrl HRN.out S0.out).mono ?_
    rintro e w1 ⟨A1, c1, q1, rfl, g1, o1, p1, n1, b1⟩
    have G1 := mkHid (RetRows.grid g1 o1 p1 n1 HZ.out)
    have L1 := mkHid (graph_length g1)
    have E1 := mkHid g1
    have T1 : Hid (total q1 ≤ 1048576) := mkHid (by rw [total_graph g1]; exact HTL.out)
    have B1 := mkHid b1
    clear g1 o1 p1 n1 b1
    rw [HGL.out] at L1 ⊢
    have hC := specGraphBack_any A1 c1 q1 w1 T1.out (by have := L1.out; omega) G1.out
    rw [E1.out, L1.out, ← HBK.out] at hC
    have HC := mkHid hC
    clear hC
    go_wp2_with fail
    refine HC.out.mono ?_
    rintro e w2 ⟨A2, c2, q2, rfl, g2, d2, b2⟩
    have G2 := mkHid d2
    have E2 := mkHid g2
    have L2 := mkHid (graph_length g2)
    have B02 := mkHid (below_then B1.out b2)
    clear g2 d2 b2
    go_wp2_with fail
    refine (toIntSS_any _ _ _ _ hrl HRN.out (S0.out.below B02.out)).mono ?_
    rintro e w3 ⟨A3, c3, q3, rfl, g3, o3, p3, n3, b3⟩
    obtain ⟨lo, hlo1, hlo2, hlo3, hro3, hsl3⟩ := RetRows.lo o3 p3 n3 b3
    have G3 := mkHid (RetRows.grid g3 o3 p3 n3 HZ.out)
    have L3 := mkHid (graph_length g3)
    have E3 := mkHid g3
    have T3 : Hid (total q3 ≤ 1048576) := mkHid (by rw [total_graph g3]; exact HTL.out)
    have B03 := mkHid (below_then B02.out b3)
    have B23 := mkHid b3
    have R3 := mkHid hro3
    have S3 := mkHid hsl3
    have HLO := mkHid hlo3
    clear g3 o3 p3 n3 b3 hro3 hsl3 hlo3
    rw [HGL.out] at L3 ⊢
    have hC := implGraphBack_any A3 c3 q3 w3 T3.out (by have := L3.out; omega) G3.out
    rw [E3.out, L3.out, ← HBK.out] at hC
    have HC3 := mkHid hC
    clear hC
    go_wp2_with fail
    refine HC3.out.mono ?_
    rintro e w4 ⟨A4, c4, q4, rfl, g4, o4, a4, b4⟩
    have E4 := mkHid g4
    have L4 := mkHid (graph_length g4)
    have O4 := mkHid o4
    have P4 := mkHid a4
    have hb4l : ∀ r ∈ q4, r.zs.length ≤ 9223372036854775807 := fun r hr => HBZ.out _ (by rw [← E4.out]; exact List.mem_map_of_mem hr)
    have H4L := mkHid hb4l
    have G34 := mkHid (G3.out.below b4)
    have R34 := mkHid (R3.out.below b4)
    have S34 := mkHid (S3.out.below b4)
    have B04 := mkHid (below_then B03.out b4)
    have B24 := mkHid (below_then B23.out b4)
    have hz4 := b4.size
    clear g4 o4 a4 b4 hb4l
    have hQ := eqIntSS_same A4 A2 c4 c2 q4 q2 w4 (by have := L4.out; omega) (E4.out.trans E2.out.symm) (P4.out.grid (Sl.of_own O4.out) H4L.out) (G2.out.below B24.out)
    rw [L4.out] at hQ
    have HQ := mkHid hQ
    clear hQ
    go_wp2_with fail
    refine HQ.out.mono ?_
    rintro e w5 ⟨rfl, k5, rfl⟩
    have O45 := mkHid (own_drewN O4.out k5)
    have P45 := mkHid (P4.out.below (below_drewN (Below.refl _ _) k5))
    have G35 := mkHid (G34.out.drewN k5)
    have R35 := mkHid (R34.out.below (below_drewN (Below.refl _ _) k5))
    have S35 := mkHid (S34.out.drewN k5)
    have B05 := mkHid (below_drewN B04.out k5)
    have B25 := mkHid (below_drewN B24.out k5)
    have hz5 : (w4.drewN k5).heap.size = w4.heap.size := rfl
    generalize w4.drewN k5 = w5 at *
    go_wp2_with fail
    refine (toIntSS_any _ _ _ _ hrl HRN.out (S0.out.below B05.out)).mono ?_
    rintro e w6 ⟨A6, c6, q6, rfl, g6, o6, p6, n6, b6⟩
    have G6 := mkHid (RetRows.grid g6 o6 p6 n6 HZ.out)
    have L6 := mkHid (graph_length g6)
    have E6 := mkHid g6
    have O46 := mkHid (own_below O45.out b6)
    have P46 := mkHid (P45.out.below b6)
    have G36 := mkHid (G35.out.below b6)
    have R36 := mkHid (R35.out.below b6)
    have S36 := mkHid (S35.out.below b6)
    have B06 := mkHid (below_then B05.out b6)
    have B26 := mkHid (below_then B25.out b6)
    have hz6 := b6.size
    clear g6 o6 p6 n6 b6
    rw [HGL.out] at L6 ⊢
    have hQ := eqIntSS_same A3 A6 c3 c6 q3 q6 w6 (by have := L3.out; omega) (E3.out.trans E6.out.symm) G36.out G6.out
    rw [L3.out] at hQ
    have HQ6 := mkHid hQ
    clear hQ
    go_wp2_with fail
    refine HQ6.out.mono ?_
    rintro e w7 ⟨rfl, k7, rfl⟩
    have O47 := mkHid (own_drewN O46.out k7)
    have P47 := mkHid (P46.out.below (below_drewN (Below.refl _ _) k7))
    have R37 := mkHid (R36.out.below (below_drewN (Below.refl _ _) k7))
    have S37 := mkHid (S36.out.drewN k7)
    have B07 := mkHid (below_drewN B06.out k7)
    have B27 := mkHid (below_drewN B26.out k7)
    have hz7 : (w6.drewN k7).heap.size = w6.heap.size := rfl
    generalize w6.drewN k7 = w7 at *
    have hM := markIntSS_any A3 c3 q3 1 lo w7 (by omega) (by have := L3.out; omega) T3.out S37.out HLO.out (by omega) R37.out
    rw [L3.out] at hM
    have HM := mkHid hM
    have ht3 := T3.out
    clear hM
    generalize total q3 = t3 at *
    go_wp2_with fail
    refine HM.out.mono ?_
    rintro e w8 ⟨rfl, hon⟩
    have hbr : ∀ r ∈ q3, ∀ g, (rowV r).ownBlock = some g → lo ≤ g ∧ g < w3.heap.size := fun r hr g hg => (R3.out.1 r hr).lt g hg
    have O48 := mkHid (own_onl O47.out hon (fun r hr g hg e => by have h1 := hbr r hr g hg; have h2 := (O4.out.lt g e).1; omega))
    have P48 := mkHid (P47.out.onl hon (fun r hr g hg => (hbr r hr g hg).2))
    have B08 := mkHid (B07.out.trans (hon.below R37.out (base := w.heap.size) (by have := B02.out.size; omega) B07.out.size))
    have B28 := mkHid (B27.out.trans (hon.below R37.out (base := w2.heap.size) hlo1 B27.out.size))
    have hz8 := hon.2.2.2.1
    clear hon hbr
    have hQ := eqIntSS_same A4 A2 c4 c2 q4 q2 w8 (by have := L4.out; omega) (E4.out.trans E2.out.symm) (P48.out.grid (Sl.of_own O48.out) H4L.out) (G2.out.below B28.out)
    rw [L4.out] at hQ
    have HQ8 := mkHid hQ
    clear hQ
    go_wp2_with fail
    refine HQ8.out.mono ?_
    rintro e w9 ⟨rfl, k9, rfl⟩
    have O49 := mkHid (own_drewN O48.out k9)
    have P49 := mkHid (P48.out.below (below_drewN (Below.refl _ _) k9))
    have B09 := mkHid (below_drewN B08.out k9)
    have B29 := mkHid (below_drewN B28.out k9)
    have hz9 : (w8.drewN k9).heap.size = w8.heap.size := rfl
    generalize w8.drewN k9 = w9 at *
    have hM := markRows_any A4 c4 q4 1 w3.heap.size w9 (by omega) (by have := L4.out; omega) (HBT.out q4 E4.out) (Sl.of_own O49.out) (P49.out.heads O49.out) P49.out
    have hM : Calls Try.prog 19 #[.slice A4 q4.length c4, .int .i64 1] w9 fun e w' => e = .returned (.int .i64 (1 + (total q4 : Nat))) ∧ Onl w9 w' q4 ∧ RowsMarked w' w3.heap.size 1 q4 := hM
    rw [L4.out] at hM
    have HM9 := mkHid hM
    have ht4 := HBT.out q4 E4.out
    clear hM
    obtain ⟨t4, ht4e⟩ : ∃ t4, t4 = total q4 := ⟨_, rfl⟩
    have HT4 := mkHid ht4e
    rw [← ht4e] at HM9 ht4
    clear ht4e
    go_wp2_with fail
    refine HM9.out.mono ?_
    rintro e w10 ⟨rfl, hon, hmk⟩
    have O410 := mkHid (own_onl O49.out hon (fun r hr g hg e => by
      obtain ⟨ad, had, hadb⟩ : ∃ ad, A4 = some ad ∧ ad.block = g := by
        cases A4 with
        | none => cases e
        | some ad => exact ⟨ad, rfl, by simpa [Value.ownBlock] using e⟩
      exact P49.out.heads O49.out ad had r hr (by rw [hadb]; exact hg)))
    have MK := mkHid hmk
    have B10 := mkHid (B09.out.trans (hon.belowA P49.out (base := w.heap.size) (by have := B03.out.size; omega) B09.out.size))
    have B210 := mkHid (B29.out.trans (hon.belowA P49.out (base := w2.heap.size) (by have := B23.out.size; omega) B29.out.size))
    have hz10 := hon.2.2.2.1
    clear hon hmk
    have hH := heldRows_any A4 c4 q4 1 w10 (by omega) (by have := L4.out; omega) (by rw [← HT4.out]; exact ht4) (Sl.of_own O410.out) MK.out.sl
    rw [L4.out, ← HT4.out] at hH
    have HH := mkHid hH
    clear hH
    go_wp2_with fail
    refine HH.out.mono ?_
    rintro e w11 ⟨rfl, rfl⟩
    go_wp2_with fail
    refine (toIntSS_any _ _ _ _ hrl HRN.out (S0.out.below B10.out)).mono ?_
    rintro e w12 ⟨A12, c12, q12, rfl, g12, o12, p12, n12, b12⟩
    have G12 := mkHid (RetRows.grid g12 o12 p12 n12 HZ.out)
    have L12 := mkHid (graph_length g12)
    have E12 := mkHid g12
    have T12 : Hid (total q12 ≤ 1048576) := mkHid (by rw [total_graph g12]; exact HTL.out)
    have O412 := mkHid (own_below O410.out b12)
    have MK12 := mkHid (MK.out.below b12)
    have B12 := mkHid (below_then B10.out b12)
    have B212 := mkHid (below_then B210.out b12)
    clear g12 o12 p12 n12 b12
    rw [HGL.out] at L12 ⊢
    have hC := implGraphBack_any A12 c12 q12 w12 T12.out (by have := L12.out; omega) G12.out
    rw [E12.out, L12.out, ← HBK.out] at hC
    have HC12 := mkHid hC
    clear hC
    go_wp2_with fail
    refine HC12.out.mono ?_
    rintro e w13 ⟨A13, c13, q13, rfl, g13, o13, a13, b13⟩
    have hl13 : ∀ r ∈ q13, r.zs.length ≤ 9223372036854775807 := fun r hr => HBZ.out _ (by rw [← g13]; exact List.mem_map_of_mem hr)
    have G13 := mkHid (a13.grid (Sl.of_own o13) hl13)
    have L13 := mkHid (graph_length g13)
    have E13 := mkHid g13
    have O413 := mkHid (own_below O412.out b13)
    have MK13 := mkHid (MK12.out.below b13)
    have B13 := mkHid (below_then B12.out b13)
    have B213 := mkHid (below_then B212.out b13)
    clear g13 o13 a13 b13 hl13
    have hQ := eqIntSS_same A13 A2 c13 c2 q13 q2 w13 (by have := L13.out; omega) (E13.out.trans E2.out.symm) G13.out (G2.out.below B213.out)
    rw [L13.out] at hQ
    have HQ13 := mkHid hQ
    clear hQ
    go_wp2_with fail
    refine HQ13.out.mono ?_
    rintro e w14 ⟨rfl, k14, rfl⟩
    have B14 := mkHid (below_drewN B13.out k14)
    have O414 := mkHid (own_drewN O413.out k14)
    have MK14 := mkHid (MK13.out.below (below_drewN (Below.refl _ _) k14))
    generalize w13.drewN k14 = w14 at *
    have hH := heldRows_any A4 c4 q4 1 w14 (by omega) (by have := L4.out; omega) (by rw [← HT4.out]; exact ht4) (Sl.of_own O414.out) MK14.out.sl
    rw [L4.out, ← HT4.out] at hH
    have HH14 := mkHid hH
    clear hH
    go_wp2_with fail
    refine HH14.out.mono ?_
    rintro e w15 ⟨rfl, rfl⟩
    go_wp2_with fail
    go_ret
    exact ⟨rfl, B14.out⟩
  · go_wp2_with fail
    go_ret
    exact ⟨rfl, Below.refl _ _⟩
namespace fnExactGraphBack
set_option maxRecDepth 100000 in
theorem lifted (os : Os) (started : os.Started) (H : Type) (enc : TypeId × Value → H) :
    ReturnsInHanded {} Try.checked os 5 .any (Rows.fnExactGraphBackSpec.pre6 enc Try.prog Try.f5 Rows.fnExactGraphBackRow.domain false) (Rows.fnExactGraphBackSpec.post enc Try.prog Try.f5 false true false false) := by
  refine returnsInHanded_of_change (C := Try.checked) own started (by kernel_rfl) Try.func5
    (ChangeSpec.witness6 (enc := enc) (C := Try.checked) false ⟨#[], #[.slice none 0 0], []⟩ 8 (by kernel_rfl) (by kernel_rfl) (by kernel_rfl) (by kernel_rfl)) ?_
  intro W base args ds gs before hval0 hW hcnd _
  have hval : ∀ (j : Nat) t v, Try.f5.params[j]? = some t → args[j]? = some v → Value.okWide Try.prog W .any base t v := hval0
  have hW' := hW
  obtain ⟨p, q, hA0, hV, rfl, hfz, hnd⟩ := hW
  have hA : DataW.TrodAll enc Try.prog W 0 (fun _ => true) true Try.f5.params.toList args.toList ds p := hA0
  have hAk : DataW.TrodAll enc Try.prog W 0 (fun _ => true) true Try.f5.params.toList args.toList ds p := hA0
  rw [Try.params5] at hA hval
  obtain ⟨v0, vs0, d0, ds0, p0, q0, hargs, rfl, rfl, h0, r0⟩ := trodAll_cons hA
  obtain ⟨rfl, rfl, rfl⟩ := trodAll_nil r0
  obtain rfl : args = #[v0] := by cases args; simp_all
  obtain ⟨rfl, rfl⟩ := trodVars_none hV
  obtain ⟨x, rx, rfl, sx⟩ := open_rows (hval 0 22 v0 rfl rfl) h0
  clear hA0 hval0
  refine (exactBack_walk x W rx sx).mono fun e W' ⟨he, hb⟩ => ?_
  subst he
  refine ⟨_, rfl, post_true laidOut (fun t ht => ?_) (by kernel_rfl) Try.underlying4 rfl rfl hW' hAk hb⟩
  rw [Try.params5] at ht
  simp only [List.mem_cons, List.not_mem_nil, or_false] at ht
  first | (rcases ht with rfl <;> exact ⟨by kernel_rfl, of_decide_eq_true (by kernel_rfl)⟩) | (obtain rfl := ht; exact ⟨by kernel_rfl, of_decide_eq_true (by kernel_rfl)⟩)
/-- The statement. -/
theorem proved : Rows.FnExactGraphBackSaid :=
  OpenClaim.holds_of_wide 5 Try.f5 rfl rfl rfl rfl rfl rfl rfl ⟨rfl, rfl, rfl, rfl, rfl⟩ rfl rfl rfl rfl rfl (by kernel_rfl) Try.func5 (by kernel_rfl)
    (of_decide_eq_true (by kernel_rfl)) (by unfold Func.isWrapper; first | (rw [if_pos (by decide +kernel)]; kernel_rfl) | (rw [if_neg (by decide +kernel)]; exact ⟨rfl, rfl⟩))
    (fun os started H enc _ => lifted os started H enc)
end fnExactGraphBack
#print axioms fnExactGraphBack.proved
end Go.Proofs.Ytabpcbikbhbcaaa
