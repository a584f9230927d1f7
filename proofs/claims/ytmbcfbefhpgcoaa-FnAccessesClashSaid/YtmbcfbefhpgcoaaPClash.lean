/-
  Proved: FnAccessesClash returns true for every code.
-/
import Derived.Test.YtmbcfbefhpgcoaaDClash
import Derived.Test.YtmbcfbefhpgcoaaCNum
import Derived.Test.YtmbcfbefhpgcoaaFrame
namespace Go.Proofs.Ytmbcfbefhpgcoaa
open Go.ChangeShapes Go.WideShapes Go.ChangeAt Go.RowKit
set_option maxHeartbeats 2000000
set_option linter.unusedVariables false

theorem clash_comm (a b : Acc) : clash b a = clash a b := by
  unfold clash
  have h1 : (b.phase == a.phase) = (a.phase == b.phase) := Bool.eq_iff_iff.2 ⟨fun h => by rw [beq_iff_eq] at *; exact h.symm, fun h => by rw [beq_iff_eq] at *; exact h.symm⟩
  have h2 : (b.who != a.who) = (a.who != b.who) := Bool.eq_iff_iff.2 ⟨fun h => by rw [bne_iff_ne] at *; exact fun e => h e.symm, fun h => by rw [bne_iff_ne] at *; exact fun e => h e.symm⟩
  have h3 : (b.cell == a.cell) = (a.cell == b.cell) := Bool.eq_iff_iff.2 ⟨fun h => by rw [beq_iff_eq] at *; exact h.symm, fun h => by rw [beq_iff_eq] at *; exact h.symm⟩
  rw [h1, h2, h3, Bool.or_comm]
theorem clash_reads (a b : Acc) : clash ⟨a.who, a.cell, false, a.phase⟩ ⟨b.who, b.cell, false, b.phase⟩ = false := by simp [clash]
theorem clash_self (a : Acc) : clash a a = false := by simp [clash]
theorem clash_walk (A : Option Addr) (c : Nat) (zs : List Int) (w : World) (hl : zs.length ≤ 9223372036854775807) (hcap : zs.length ≤ c) (hs : Sl w A (u8s zs)) (hz : ∀ z ∈ zs, 0 ≤ z ∧ z ≤ 255) :
    Calls Try.prog 6 #[.slice A zs.length c] w fun e w' => e = .returned (.bool true) ∧ Below w.heap.size w w' := by
  by_cases hbig : 1048576 < zs.length
  · go_enter Try.func6, Try.ntmps6
    go_wp2_with fail
    go_ret
    exact ⟨rfl, Below.refl _ _⟩
  · go_enter Try.func6, Try.ntmps6
    go_wp2_with fail
    refine (drawAccessesClash_any _ _ _ _ hl hcap hs hz).mono ?_
    rintro e w1 ⟨⟨x0, x1, x2, x3⟩, ⟨y0, y1, y2, y3⟩, rfl, b1⟩
    clear hs hz
    have hx : Ba ((w1.alloc (.cells #[.int .i64 x0, .int .i64 x1, .bool x2, .int .i64 x3] 25)).alloc (.cells #[.int .i64 y0, .int .i64 y1, .bool y2, .int .i64 y3] 25)) w1.heap.size ⟨x0, x1, x2, x3⟩ := (Ba.new w1 ⟨x0, x1, x2, x3⟩).below ((Below.refl _ _).alloc (Nat.le_refl _) _)
    have hy : Ba ((w1.alloc (.cells #[.int .i64 x0, .int .i64 x1, .bool x2, .int .i64 x3] 25)).alloc (.cells #[.int .i64 y0, .int .i64 y1, .bool y2, .int .i64 y3] 25)) (w1.heap.size + 1) ⟨y0, y1, y2, y3⟩ := by
      have := Ba.new (w1.alloc (.cells #[.int .i64 x0, .int .i64 x1, .bool x2, .int .i64 x3] 25)) ⟨y0, y1, y2, y3⟩
      simpa using this
    have hb : Below w.heap.size w ((w1.alloc (.cells #[.int .i64 x0, .int .i64 x1, .bool x2, .int .i64 x3] 25)).alloc (.cells #[.int .i64 y0, .int .i64 y1, .bool y2, .int .i64 y3] 25)) := (b1.alloc b1.size _).alloc (b1.alloc b1.size _).size _
    have HX := mkHid hx
    have HY := mkHid hy
    have HB := mkHid hb
    clear b1 hx hy hb
    go_wp2_with fail
    generalize hW : (w1.alloc (.cells #[.int .i64 x0, .int .i64 x1, .bool x2, .int .i64 x3] 25)).alloc (.cells #[.int .i64 y0, .int .i64 y1, .bool y2, .int .i64 y3] 25) = w2 at *
    clear hW
    generalize hg1 : w1.heap.size + 1 = g2 at *
    generalize hg2 : w1.heap.size = g1 at *
    clear hg1 hg2
    obtain ⟨ok, hok⟩ : ∃ ok, ok = clash ⟨x0, x1, x2, x3⟩ ⟨y0, y1, y2, y3⟩ := ⟨_, rfl⟩
    have HK := mkHid hok
    clear hok
    refine (implClash_any ⟨x0, x1, x2, x3⟩ ⟨y0, y1, y2, y3⟩ _).mono ?_
    rw [← HK.out]
    rintro e w3 ⟨rfl, b3⟩
    have HX3 := mkHid (HX.out.below b3)
    have HY3 := mkHid (HY.out.below b3)
    have HB3 := mkHid (below_then HB.out b3)
    clear b3 HX HY HB
    obtain ⟨c0, c1, c2, c3⟩ := HX3.out.cells
    obtain ⟨d0, d1, d2, d3⟩ := HY3.out.cells
    go_wp2_with fail
    refine (specClash_any ⟨x0, x1, x2, x3⟩ ⟨y0, y1, y2, y3⟩ _).mono ?_
    rw [← HK.out]
    rintro e w4 ⟨rfl, b4⟩
    have HX4 := mkHid (HX3.out.below b4)
    have HY4 := mkHid (HY3.out.below b4)
    have HB4 := mkHid (below_then HB3.out b4)
    clear b4 c0 c1 c2 c3 d0 d1 d2 d3 HX3 HY3 HB3
    obtain ⟨c0, c1, c2, c3⟩ := HX4.out.cells
    obtain ⟨d0, d1, d2, d3⟩ := HY4.out.cells
    have hYm : Ba (w4.alloc (.cells #[.int .i64 x0, .int .i64 x1, .bool x2, .int .i64 x3] 25)) g2 ⟨y0, y1, y2, y3⟩ := HY4.out.below ((Below.refl _ _).alloc (Nat.le_refl _) _)
    obtain ⟨m0, m1, m2, m3⟩ := hYm.cells
    clear hYm
    have hX6 : Ba ((w4.alloc (.cells #[.int .i64 x0, .int .i64 x1, .bool false, .int .i64 x3] 25)).alloc (.cells #[.int .i64 y0, .int .i64 y1, .bool false, .int .i64 y3] 25)) w4.heap.size ⟨x0, x1, false, x3⟩ := (Ba.new w4 ⟨x0, x1, false, x3⟩).below ((Below.refl _ _).alloc (Nat.le_refl _) _)
    have hY6 : Ba ((w4.alloc (.cells #[.int .i64 x0, .int .i64 x1, .bool false, .int .i64 x3] 25)).alloc (.cells #[.int .i64 y0, .int .i64 y1, .bool false, .int .i64 y3] 25)) (w4.heap.size + 1) ⟨y0, y1, false, y3⟩ := by
      have := Ba.new (w4.alloc (.cells #[.int .i64 x0, .int .i64 x1, .bool false, .int .i64 x3] 25)) ⟨y0, y1, false, y3⟩
      simpa using this
    have hb6 : Below w4.heap.size w4 ((w4.alloc (.cells #[.int .i64 x0, .int .i64 x1, .bool false, .int .i64 x3] 25)).alloc (.cells #[.int .i64 y0, .int .i64 y1, .bool false, .int .i64 y3] 25)) := ((Below.refl _ _).alloc (Nat.le_refl _) _).alloc (by simp) _
    have hX5 : Ba ((w4.alloc (.cells #[.int .i64 x0, .int .i64 x1, .bool false, .int .i64 x3] 25)).alloc (.cells #[.int .i64 y0, .int .i64 y1, .bool false, .int .i64 y3] 25)) g1 ⟨x0, x1, x2, x3⟩ := HX4.out.below hb6
    have hY5 : Ba ((w4.alloc (.cells #[.int .i64 x0, .int .i64 x1, .bool false, .int .i64 x3] 25)).alloc (.cells #[.int .i64 y0, .int .i64 y1, .bool false, .int .i64 y3] 25)) g2 ⟨y0, y1, y2, y3⟩ := HY4.out.below hb6
    obtain ⟨p0, p1, p2, p3⟩ := hX5.cells
    obtain ⟨r0, r1, r2, r3⟩ := hY5.cells
    have HX5 := mkHid hX5
    have HY5 := mkHid hY5
    have HX6 := mkHid hX6
    have HY6 := mkHid hY6
    have HB6 := mkHid (below_then HB4.out hb6)
    clear hX5 hY5 hX6 hY6 hb6
    go_wp2_with fail
    clear c0 c1 c2 c3 d0 d1 d2 d3 p0 p1 p2 p3 r0 r1 r2 r3 m0 m1 m2 m3
    generalize hW : (w4.alloc (.cells #[.int .i64 x0, .int .i64 x1, .bool false, .int .i64 x3] 25)).alloc (.cells #[.int .i64 y0, .int .i64 y1, .bool false, .int .i64 y3] 25) = w6 at *
    generalize hG : w4.heap.size = g6 at *
    generalize hG' : g6 + 1 = g7 at *
    clear hW hG hG'
    have q1 := clash_comm ⟨x0, x1, x2, x3⟩ ⟨y0, y1, y2, y3⟩
    rw [← HK.out] at q1
    have q2 := clash_reads ⟨x0, x1, x2, x3⟩ ⟨y0, y1, y2, y3⟩
    have q3 := clash_self ⟨x0, x1, x2, x3⟩
    have Q1 := mkHid q1
    have Q2 := mkHid q2
    have Q3 := mkHid q3
    clear q1 q2 q3
    refine (implClash_any ⟨y0, y1, y2, y3⟩ ⟨x0, x1, x2, x3⟩ _).mono ?_
    rw [Q1.out]
    rintro e w7 ⟨rfl, b7⟩
    have HX7 := mkHid (HX6.out.below b7)
    have HY7 := mkHid (HY6.out.below b7)
    have HX57 := mkHid (HX5.out.below b7)
    have HB7 := mkHid (below_then HB6.out b7)
    clear b7
    obtain ⟨c0, c1, c2, c3⟩ := HX7.out.cells
    obtain ⟨d0, d1, d2, d3⟩ := HY7.out.cells
    go_wp2_with fail
    refine (implClash_any ⟨x0, x1, false, x3⟩ ⟨y0, y1, false, y3⟩ _).mono ?_
    rw [Q2.out]
    rintro e w8 ⟨rfl, b8⟩
    have HX8 := mkHid (HX57.out.below b8)
    have HB8 := mkHid (below_then HB7.out b8)
    clear b8 c0 c1 c2 c3 d0 d1 d2 d3
    obtain ⟨c0, c1, c2, c3⟩ := HX8.out.cells
    go_wp2_with fail
    refine (implClash_any ⟨x0, x1, x2, x3⟩ ⟨x0, x1, x2, x3⟩ _).mono ?_
    rw [Q3.out]
    rintro e w9 ⟨rfl, b9⟩
    have HB9 := mkHid (below_then HB8.out b9)
    clear b9 c0 c1 c2 c3
    go_wp2_with fail
    refine (alive_any _).mono ?_
    rintro e w10 ⟨rfl, rfl⟩
    go_wp2_with fail
    go_ret
    exact ⟨rfl, HB9.out⟩
namespace fnAccessesClash
set_option maxRecDepth 100000 in
theorem lifted (os : Os) (started : os.Started) (H : Type) (enc : TypeId × Value → H) :
    ReturnsInHanded {} Try.checked os 6 .any (Rows.fnAccessesClashSpec.pre6 enc Try.prog Try.f6 Rows.fnAccessesClashRow.domain false) (Rows.fnAccessesClashSpec.post enc Try.prog Try.f6 false true false false) := by
  refine returnsInHanded_of_change (C := Try.checked) own started (by kernel_rfl) Try.func6
    (ChangeSpec.witness6 (enc := enc) (C := Try.checked) false ⟨#[], #[.slice none 0 0], []⟩ 8 (by kernel_rfl) (by kernel_rfl) (by kernel_rfl) (by kernel_rfl)) ?_
  intro W base args ds gs before hval0 hW hcnd _
  have hval : ∀ (j : Nat) t v, Try.f6.params[j]? = some t → args[j]? = some v → Value.okWide Try.prog W .any base t v := hval0
  have hW' := hW
  obtain ⟨p, q, hA0, hV, rfl, hfz, hnd⟩ := hW
  have hA : DataW.TrodAll enc Try.prog W 0 (fun _ => true) true Try.f6.params.toList args.toList ds p := hA0
  have hAk : DataW.TrodAll enc Try.prog W 0 (fun _ => true) true Try.f6.params.toList args.toList ds p := hA0
  rw [Try.params6] at hA hval
  obtain ⟨v0, vs0, d0, ds0, p0, q0, hargs, rfl, rfl, h0, r0⟩ := trodAll_cons hA
  obtain ⟨rfl, rfl, rfl⟩ := trodAll_nil r0
  obtain rfl : args = #[v0] := by cases args; simp_all
  obtain ⟨rfl, rfl⟩ := trodVars_none hV
  obtain ⟨Azs, czs, zs, rfl, nzs, kzs, szs, wzs⟩ := open_int_slice Try.underlying30 Try.underlying5 (by kernel_rfl) (hval 0 30 v0 rfl rfl) h0
  have wzs : ∀ z ∈ zs, 0 ≤ z ∧ z ≤ 255 := fun z hz => wf_u8_bounds (wzs z hz)
  clear hA0 hval0
  refine (clash_walk Azs czs zs W nzs kzs szs wzs).mono fun e W' ⟨he, hb⟩ => ?_
  subst he
  refine ⟨_, rfl, post_true laidOut (fun t ht => ?_) (by kernel_rfl) Try.underlying4 rfl rfl hW' hAk hb⟩
  rw [Try.params6] at ht
  simp only [List.mem_cons, List.not_mem_nil, or_false] at ht
  first | (rcases ht with rfl <;> exact ⟨by kernel_rfl, of_decide_eq_true (by kernel_rfl)⟩) | (obtain rfl := ht; exact ⟨by kernel_rfl, of_decide_eq_true (by kernel_rfl)⟩)
/-- The statement. -/
theorem proved : Rows.FnAccessesClashSaid :=
  OpenClaim.holds_of_wide 6 Try.f6 rfl rfl rfl rfl rfl rfl rfl ⟨rfl, rfl, rfl, rfl, rfl⟩ rfl rfl rfl rfl rfl (by kernel_rfl) Try.func6 (by kernel_rfl)
    (of_decide_eq_true (by kernel_rfl)) (by unfold Func.isWrapper; first | (rw [if_pos (by decide +kernel)]; kernel_rfl) | (rw [if_neg (by decide +kernel)]; exact ⟨rfl, rfl⟩))
    (fun os started H enc _ => lifted os started H enc)
end fnAccessesClash
#print axioms fnAccessesClash.proved
end Go.Proofs.Ytmbcfbefhpgcoaa
