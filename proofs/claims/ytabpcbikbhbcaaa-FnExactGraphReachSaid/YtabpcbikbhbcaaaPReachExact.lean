/-
  Proved: FnExactGraphReach returns true for all arguments.
-/
import Derived.Test.YtabpcbikbhbcaaaOpenRows
import Derived.Test.YtabpcbikbhbcaaaCPost
import Derived.Test.YtabpcbikbhbcaaaCMarks
namespace Go.Proofs.Ytabpcbikbhbcaaa
open Go.ChangeShapes Go.WideShapes Go.ChangeAt Go.RowKit
set_option maxHeartbeats 2000000
set_option linter.unusedVariables false

theorem total_graph {rs qs : List Row} (h : graph rs = graph qs) : total rs = total qs := by
  have e : ∀ xs : List Row, total xs = ((graph xs).map List.length).sum := fun xs => by unfold total graph; rw [List.map_map]; rfl
  rw [e, e, h]
theorem own_onl {w w' : World} {base : Nat} {e : TypeId} {size n : Nat} {v : Value} {xs : List Value} {rs : List Row} (h : w.ownsRow base e size v n xs) (ho : Onl w w' rs) (hne : ∀ r ∈ rs, ∀ g, (rowV r).ownBlock = some g → v.ownBlock ≠ some g) : w'.ownsRow base e size v n xs := by
  refine ⟨h.1, ?_⟩
  rcases h.2 with h2 | ⟨g, cap, cur, hv, h1, h2, h3⟩
  · exact .inl h2
  · right
    refine ⟨g, cap, cur, hv, h1, ?_, h3⟩
    rw [ho.2.2.2.2 g (Array.getElem?_eq_some_iff.1 h2).1 (fun r hr e => hne r hr g e (by rw [hv]; rfl))]
    exact h2
/-- a copy's rows: where they lie. -/
theorem RetRows.lo {g : List (List Int)} {w w' : World} {A : Option Addr} {c : Nat} {rs : List Row} (h2 : w'.ownsRow w.heap.size 30 1 (.slice A g.length c) g.length (rowVs rs)) (h3 : ∀ b, (Value.slice A g.length c).ownBlock = some b → RowsOwn w' (b + 1) rs) (h4 : A = none → rs = []) (hb : Below w.heap.size w w') :
    ∃ lo, w.heap.size ≤ lo ∧ lo ≤ w'.heap.size ∧ (∀ a, A = some a → a.block < lo) ∧ RowsOwn w' lo rs ∧ Sl w' A (rowVs rs) := by
  cases A with
  | none =>
    have := h4 rfl
    subst this
    exact ⟨w.heap.size, Nat.le_refl _, hb.size, (fun a ha => by cases ha), RowsOwn.nil _ _, Sl.nil _ _⟩
  | some a =>
    have hlt := h2.lt a.block rfl
    exact ⟨a.block + 1, by omega, by omega, (fun a' ha => by injection ha with ha; subst ha; omega), h3 a.block rfl, Sl.of_own h2⟩
theorem graphReach_le (g : List (List Int)) (a b : Int) : (graphReach g a b).length ≤ 64 := by
  unfold graphReach
  split
  · rename_i h
    unfold reachOk at h
    rw [Bool.and_eq_true, Bool.and_eq_true] at h
    have := inB_t h.1.2
    rw [reachB_length h.1.1 (by omega)]
    exact (graph_nodes h.1.1).1
  · simp
theorem exactReach_walk (x : Option Addr × Nat × List Row) (a b : Int) (w : World) (hl : x.2.2.length ≤ 9223372036854775807) (hs : Grid w x.1 x.2.2) (ha : -9223372036854775808 ≤ a ∧ a ≤ 9223372036854775807) (hb : -9223372036854775808 ≤ b ∧ b ≤ 9223372036854775807) :
    Calls Try.prog 7 #[.slice x.1 x.2.2.length x.2.1, .int .i64 a, .int .i64 b] w fun e w' => e = .returned (.bool true) ∧ Below w.heap.size w w' := by
  obtain ⟨A, c, rs⟩ := x
  simp only at hl hs ⊢
  have S0 := mkHid hs
  clear hs
  go_enter Try.func7, Try.ntmps7
  go_wp2_with fail
  refine (szIntSS_tot _ _ _ _ _ (by omega) hl S0.out).mono ?_
  rintro e w1 ⟨⟨v, rfl, hv0, hln⟩ | rfl, rfl⟩
  · have hlz : ∀ z ∈ graph rs, z.length ≤ 9223372036854775807 := fun z hz => by
      obtain ⟨r, hr, rfl⟩ := List.mem_map.1 hz
      have := total_le hr; omega
    have HZ := mkHid hlz
    have HRN := mkHid (show ∀ r ∈ rs, r.zs.length ≤ 1048576 from fun r hr => by have := total_le hr; omega)
    have hgl : (graph rs).length = rs.length := by simp
    have HGL := mkHid hgl
    have hrl : rs.length ≤ 1048576 := by omega
    have htl : total rs ≤ 1048576 := by omega
    have HTL := mkHid htl
    obtain ⟨zs, hzs⟩ : ∃ zs, zs = graphReach (graph rs) a b := ⟨_, rfl⟩
    have hzl : zs.length ≤ 64 := by rw [hzs]; exact graphReach_le _ _ _
    have HZS := mkHid hzs
    clear hlz hgl hln htl hzs
    go_wp2_with fail
    refine (toIntSS_any _ _ _ _ hrl HRN.out S0.out).mono ?_
    rintro e w1 ⟨A1, c1, q1, rfl, g1, o1, p1, n1, b1⟩
    have G1 := mkHid (RetRows.grid g1 o1 p1 n1 HZ.out)
    have L1 := mkHid (graph_length g1)
    have E1 := mkHid g1
    have B1 := mkHid b1
    clear g1 o1 p1 n1 b1
    rw [HGL.out] at L1 ⊢
    have hC := specGraphReach_any A1 c1 q1 a b w1 (by have := L1.out; omega) G1.out
    rw [E1.out, L1.out, ← HZS.out] at hC
    have HC := mkHid hC
    clear hC
    go_wp2_with fail
    refine HC.out.mono ?_
    rintro e w2 ⟨A2, c2, rfl, o2, b2⟩
    have O2 := mkHid o2
    have B02 := mkHid (below_then B1.out b2)
    clear o2 b2
    go_wp2_with fail
    refine (toIntSS_any _ _ _ _ hrl HRN.out (S0.out.below B02.out)).mono ?_
    rintro e w3 ⟨A3, c3, q3, rfl, g3, o3, p3, n3, b3⟩
    obtain ⟨lo, hlo1, hlo2, hlo3, hro3, hsl3⟩ := RetRows.lo o3 p3 n3 b3
    have G3 := mkHid (RetRows.grid g3 o3 p3 n3 HZ.out)
    have L3 := mkHid (graph_length g3)
    have E3 := mkHid g3
    have B03 := mkHid (below_then B02.out b3)
    have O23 := mkHid (own_below O2.out b3)
    have R3 := mkHid hro3
    have S3 := mkHid hsl3
    have HLO := mkHid hlo3
    clear g3 o3 p3 n3 b3 hro3 hsl3 hlo3
    rw [HGL.out] at L3 ⊢
    have hC := implGraphReach_any A3 c3 q3 a b w3 (by have := L3.out; omega) G3.out
    rw [E3.out, L3.out, ← HZS.out] at hC
    have HC3 := mkHid hC
    clear hC
    go_wp2_with fail
    refine HC3.out.mono ?_
    rintro e w4 ⟨A4, c4, rfl, o4, b4⟩
    have O4 := mkHid o4
    have O24 := mkHid (own_below O23.out b4)
    have G34 := mkHid (G3.out.below b4)
    have R34 := mkHid (R3.out.below b4)
    have S34 := mkHid (S3.out.below b4)
    have B04 := mkHid (below_then B03.out b4)
    have hz4 := b4.size
    clear o4 b4
    go_wp2_with fail
    refine (eqBoolS_same _ _ _ _ _ _ (by omega) (Sl.of_own O4.out) (Sl.of_own O24.out)).mono ?_
    rintro e w5 ⟨rfl, k5, rfl⟩
    have O45 := mkHid (own_drewN O4.out k5)
    have O25 := mkHid (own_drewN O24.out k5)
    have G35 := mkHid (G34.out.drewN k5)
    have R35 := mkHid (R34.out.below (below_drewN (Below.refl _ _) k5))
    have S35 := mkHid (S34.out.drewN k5)
    have B05 := mkHid (below_drewN B04.out k5)
    have hz5 : (w4.drewN k5).heap.size = w4.heap.size := rfl
    generalize w4.drewN k5 = w5 at *
    go_wp2_with fail
    refine (toIntSS_any _ _ _ _ hrl HRN.out (S0.out.below B05.out)).mono ?_
    rintro e w6 ⟨A6, c6, q6, rfl, g6, o6, p6, n6, b6⟩
    have G6 := mkHid (RetRows.grid g6 o6 p6 n6 HZ.out)
    have L6 := mkHid (graph_length g6)
    have E6 := mkHid g6
    have O46 := mkHid (own_below O45.out b6)
    have O26 := mkHid (own_below O25.out b6)
    have G36 := mkHid (G35.out.below b6)
    have R36 := mkHid (R35.out.below b6)
    have S36 := mkHid (S35.out.below b6)
    have B06 := mkHid (below_then B05.out b6)
    have hz6 := b6.size
    clear g6 o6 p6 n6 b6
    rw [HGL.out] at L6 ⊢
    have hQ := eqIntSS_same A3 A6 c3 c6 q3 q6 w6 (by have := L3.out; omega) (E3.out.trans E6.out.symm) G36.out G6.out
    rw [L3.out] at hQ
    have HQ := mkHid hQ
    clear hQ
    go_wp2_with fail
    refine HQ.out.mono ?_
    rintro e w7 ⟨rfl, k7, rfl⟩
    have O47 := mkHid (own_drewN O46.out k7)
    have O27 := mkHid (own_drewN O26.out k7)
    have R37 := mkHid (R36.out.below (below_drewN (Below.refl _ _) k7))
    have S37 := mkHid (S36.out.drewN k7)
    have B07 := mkHid (below_drewN B06.out k7)
    have hz7 : (w6.drewN k7).heap.size = w6.heap.size := rfl
    generalize w6.drewN k7 = w7 at *
    have htq : total q3 = total rs := total_graph (E3.out)
    have hM := markIntSS_any A3 c3 q3 1 lo w7 (by omega) (by have := L3.out; omega) (by rw [htq]; exact HTL.out) S37.out HLO.out (by omega) R37.out
    rw [L3.out, htq] at hM
    have HM := mkHid hM
    have htl := HTL.out
    clear hM htq
    generalize total rs = tt at *
    go_wp2_with fail
    refine HM.out.mono ?_
    rintro e w8 ⟨rfl, hon⟩
    have hbr : ∀ r ∈ q3, ∀ g, (rowV r).ownBlock = some g → lo ≤ g ∧ g < w3.heap.size := fun r hr g hg => (R3.out.1 r hr).lt g hg
    have O48 := mkHid (own_onl O47.out hon (fun r hr g hg e => by have h1 := hbr r hr g hg; have h2 := (O4.out.lt g e).1; omega))
    have O28 := mkHid (own_onl O27.out hon (fun r hr g hg e => by have h1 := hbr r hr g hg; have h2 := (O2.out.lt g e).2; omega))
    have B08 := mkHid (B07.out.trans (hon.below R37.out (base := w.heap.size) (by have := B02.out.size; omega) B07.out.size))
    clear hon hbr
    go_wp2_with fail
    refine (eqBoolS_same _ _ _ _ _ _ (by omega) (Sl.of_own O48.out) (Sl.of_own O28.out)).mono ?_
    rintro e w9 ⟨rfl, k9, rfl⟩
    have O49 := mkHid (own_drewN O48.out k9)
    have O29 := mkHid (own_drewN O28.out k9)
    have B09 := mkHid (below_drewN B08.out k9)
    generalize w8.drewN k9 = w9 at *
    go_wp2_with fail
    refine (markBoolS_any _ _ _ _ _ _ (by omega) (by omega) (by omega) O49.out).mono ?_
    rintro e w10 ⟨rfl, o10, g10⟩
    have O410 := mkHid o10
    have O210 := mkHid (own_grown' O29.out g10 (fun g e1 e2 => by have h1 := (O2.out.lt g e1).2; have h2 := (O4.out.lt g e2).1; have := B03.out.size; omega))
    have B10 := mkHid (B09.out.grown g10 B09.out.size (fun g hg => by have := (O49.out.lt g hg).1; have := B03.out.size; omega))
    clear o10 g10
    go_wp2_with fail
    refine (heldBoolS_any _ _ _ _ _ (by omega) (by omega) (by omega) (Sl.of_own O410.out)).mono ?_
    rintro e w11 ⟨rfl, rfl⟩
    go_wp2_with fail
    refine (toIntSS_any _ _ _ _ hrl HRN.out (S0.out.below B10.out)).mono ?_
    rintro e w12 ⟨A12, c12, q12, rfl, g12, o12, p12, n12, b12⟩
    have G12 := mkHid (RetRows.grid g12 o12 p12 n12 HZ.out)
    have L12 := mkHid (graph_length g12)
    have E12 := mkHid g12
    have S412 := mkHid ((Sl.of_own O410.out).below b12)
    have S212 := mkHid ((Sl.of_own O210.out).below b12)
    have B12 := mkHid (below_then B10.out b12)
    clear g12 o12 p12 n12 b12
    rw [HGL.out] at L12 ⊢
    have hC := implGraphReach_any A12 c12 q12 a b w12 (by have := L12.out; omega) G12.out
    rw [E12.out, L12.out, ← HZS.out] at hC
    have HC12 := mkHid hC
    clear hC
    go_wp2_with fail
    refine HC12.out.mono ?_
    rintro e w13 ⟨A13, c13, rfl, o13, b13⟩
    have S13 := mkHid (Sl.of_own o13)
    have S413 := mkHid (S412.out.below b13)
    have S213 := mkHid (S212.out.below b13)
    have B13 := mkHid (below_then B12.out b13)
    clear o13 b13
    go_wp2_with fail
    refine (eqBoolS_same _ _ _ _ _ _ (by omega) S13.out S213.out).mono ?_
    rintro e w14 ⟨rfl, k14, rfl⟩
    have B14 := mkHid (below_drewN B13.out k14)
    have S414 := mkHid (S413.out.drewN k14)
    generalize w13.drewN k14 = w14 at *
    go_wp2_with fail
    refine (heldBoolS_any _ _ _ _ _ (by omega) (by omega) (by omega) S414.out).mono ?_
    rintro e w15 ⟨rfl, rfl⟩
    go_wp2_with fail
    go_ret
    exact ⟨rfl, B14.out⟩
  · go_wp2_with fail
    go_ret
    exact ⟨rfl, Below.refl _ _⟩
namespace fnExactGraphReach
set_option maxRecDepth 100000 in
theorem lifted (os : Os) (started : os.Started) (H : Type) (enc : TypeId × Value → H) :
    ReturnsInHanded {} Try.checked os 7 .any (Rows.fnExactGraphReachSpec.pre6 enc Try.prog Try.f7 Rows.fnExactGraphReachRow.domain false) (Rows.fnExactGraphReachSpec.post enc Try.prog Try.f7 false true false false) := by
  refine returnsInHanded_of_change (C := Try.checked) own started (by kernel_rfl) Try.func7
    (ChangeSpec.witness6 (enc := enc) (C := Try.checked) false ⟨#[], #[.slice none 0 0, .int .i64 0, .int .i64 0], []⟩ 8 (by kernel_rfl) (by kernel_rfl) (by kernel_rfl) (by kernel_rfl)) ?_
  intro W base args ds gs before hval0 hW hcnd _
  have hval : ∀ (j : Nat) t v, Try.f7.params[j]? = some t → args[j]? = some v → Value.okWide Try.prog W .any base t v := hval0
  have hW' := hW
  obtain ⟨p, q, hA0, hV, rfl, hfz, hnd⟩ := hW
  have hA : DataW.TrodAll enc Try.prog W 0 (fun _ => true) true Try.f7.params.toList args.toList ds p := hA0
  have hAk : DataW.TrodAll enc Try.prog W 0 (fun _ => true) true Try.f7.params.toList args.toList ds p := hA0
  rw [Try.params7] at hA hval
  obtain ⟨v0, vs0, d0, ds0, p0, q0, hargs, rfl, rfl, h0, r0⟩ := trodAll_cons hA
  obtain ⟨v1, vs1, d1, ds1, p1, q1, rfl, rfl, rfl, h1, r1⟩ := trodAll_cons r0
  obtain ⟨v2, vs2, d2, ds2, p2, q2, rfl, rfl, rfl, h2, r2⟩ := trodAll_cons r1
  obtain ⟨rfl, rfl, rfl⟩ := trodAll_nil r2
  obtain rfl : args = #[v0, v1, v2] := by cases args; simp_all
  obtain ⟨rfl, rfl⟩ := trodVars_none hV
  obtain ⟨x, rx, rfl, sx⟩ := open_rows (hval 0 22 v0 rfl rfl) h0
  obtain ⟨a, rfl, rfl, rfl, w1⟩ := open_int Try.underlying3 (hval 1 3 v1 rfl rfl) h1
  have w1 := wf_i64_bounds w1
  obtain ⟨b, rfl, rfl, rfl, w2⟩ := open_int Try.underlying3 (hval 2 3 v2 rfl rfl) h2
  have w2 := wf_i64_bounds w2
  clear hA0 hval0
  refine (exactReach_walk x a b W rx sx w1 w2).mono fun e W' ⟨he, hb⟩ => ?_
  subst he
  refine ⟨_, rfl, post_true laidOut (fun t ht => ?_) (by kernel_rfl) Try.underlying4 rfl rfl hW' hAk hb⟩
  rw [Try.params7] at ht
  simp only [List.mem_cons, List.not_mem_nil, or_false] at ht
  first | (rcases ht with rfl | rfl | rfl <;> exact ⟨by kernel_rfl, of_decide_eq_true (by kernel_rfl)⟩) | (obtain rfl := ht; exact ⟨by kernel_rfl, of_decide_eq_true (by kernel_rfl)⟩)
/-- The statement. -/
theorem proved : Rows.FnExactGraphReachSaid :=
  OpenClaim.holds_of_wide 7 Try.f7 rfl rfl rfl rfl rfl rfl rfl ⟨rfl, rfl, rfl, rfl, rfl⟩ rfl rfl rfl rfl rfl (by kernel_rfl) Try.func7 (by kernel_rfl)
    (of_decide_eq_true (by kernel_rfl)) (by unfold Func.isWrapper; first | (rw [if_pos (by decide +kernel)]; kernel_rfl) | (rw [if_neg (by decide +kernel)]; exact ⟨rfl, rfl⟩))
    (fun os started H enc _ => lifted os started H enc)
end fnExactGraphReach
#print axioms fnExactGraphReach.proved
end Go.Proofs.Ytabpcbikbhbcaaa
