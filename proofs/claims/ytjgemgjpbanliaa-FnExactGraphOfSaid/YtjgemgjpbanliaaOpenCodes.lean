/-
  An argument that is a slice of instructions: its value's form, and what it holds.
-/
import Derived.Test.YtjgemgjpbanliaaCCodeS
import Derived.Test.YtjgemgjpbanliaaFrame
import Derived.Deep.Fields
namespace Go.Proofs.Ytjgemgjpbanliaa
open Go.ChangeShapes Go.WideShapes Go.ChangeAt Go.RowKit Go.Deep
set_option linter.unusedVariables false

theorem open_codes {H : Type} {enc : TypeId × Value → H} {W : World} {r : Reach} {b0 base : Nat} {sp : Nat → Bool} {held : Bool} {v : Value} {d : DataW H} {ps : List MemPlace}
    (hv : Value.okWide Try.prog W r b0 22 v) (h : DataW.Trod enc Try.prog W base sp held 22 v d ps) :
    ∃ x : Option Addr × Nat × List Cd, ∃ _ : x.2.2.length ≤ 9223372036854775807, v = .slice x.1 x.2.2.length x.2.1 ∧ Sl W x.1 (cflat x.2.2) := by
  obtain ⟨a0, len, cap, rfl⟩ := okWide_slice Try.underlying22 hv
  obtain ⟨fuel, hf⟩ := h
  rcases open_slice Try.underlying22 hf with ⟨hcs, hx⟩ | ⟨a, len', cap', m, n, D, Pl, hcs, hb, hl, hm, hmm, hx, hi⟩
  · simp [Value.cells] at hcs
    obtain ⟨rfl, rfl, rfl⟩ := hcs
    exact ⟨(none, 0, []), by simp, rfl, Sl.nil _ _⟩
  · simp [Value.cells] at hcs
    obtain ⟨rfl, rfl, rfl⟩ := hcs
    have hC : Try.prog.cellsOf 46 = 4 := by kernel_rfl
    rw [hC] at hi
    have each : ∀ i, i < len → ∃ x : Cd, ∀ j u, (cdCells x)[j]? = some u → W.cell? (a.add (i * 4 + j)) = some u := fun i hil => by
      obtain ⟨cs, hcells, ht⟩ := hi i (by rw [hmm]; split <;> omega)
      obtain ⟨ys, n', _, _, hlen, hyl, hfld⟩ := DataW.trod_struct Try.underlying46 ht
      obtain ⟨_, hcl, hat⟩ := World.cells?_some hcells
      match cs, hcl with
      | [c0, c1, c2, c3], _ =>
        match ys, hyl with
        | [y0, y1, y2, y3], _ =>
          have k1 : Try.prog.cellsOf 3 = 1 := by kernel_rfl
          have f0 := hfld 0 _ rfl
          have f1 := hfld 1 _ rfl
          have f2 := hfld 2 _ rfl
          have f3 := hfld 3 _ rfl
          simp [k1] at f0 f1 f2 f3
          obtain ⟨z0, e0, _, _⟩ := DataW.trod_int Try.underlying3 f0
          obtain ⟨z1, e1, _, _⟩ := DataW.trod_int Try.underlying3 f1
          obtain ⟨z2, e2, _, _⟩ := DataW.trod_int Try.underlying3 f2
          obtain ⟨z3, e3, _, _⟩ := DataW.trod_int Try.underlying3 f3
          simp only [List.cons.injEq, and_true] at e0 e1 e2 e3
          subst e0 e1 e2 e3
          refine ⟨⟨z0, z1, z2, z3⟩, fun j u hu => ?_⟩
          have hj : j < 4 := by have := (List.getElem?_eq_some_iff.1 hu).1; simpa [cdCells] using this
          have := hat j hj
          rw [add_add] at this
          rw [this]
          exact hu
    have hch : ∃ xs : List Cd, xs.length = len ∧ ∀ i, (hi : i < xs.length) → ∀ j u, (cdCells xs[i])[j]? = some u → W.cell? (a.add (i * 4 + j)) = some u := by
      clear hf hx hi hmm hl hv
      induction len with
      | zero => exact ⟨[], rfl, fun i hi => by simp at hi⟩
      | succ len ih =>
        obtain ⟨xs, hxl, hxs⟩ := ih (fun i hi => each i (by omega))
        obtain ⟨x, hx⟩ := each len (by omega)
        refine ⟨xs ++ [x], by simp [hxl], fun i hi j u hu => ?_⟩
        by_cases h : i < xs.length
        · rw [List.getElem_append_left h] at hu
          exact hxs i h j u hu
        · have : i = len := by simp [hxl] at hi; omega
          subst this
          rw [List.getElem_append_right (by omega)] at hu
          simp at hu
          exact hx j u hu
    obtain ⟨xs, rfl, hxs⟩ := hch
    have hlen : xs.length ≤ 9223372036854775807 := by unfold maxLen at hm; omega
    refine ⟨(some a, cap, xs), hlen, rfl, ?_⟩
    by_cases h0 : xs.length = 0
    · rw [List.eq_nil_of_length_eq_zero h0]; exact Sl.nil _ _
    · obtain ⟨b, off, spot⟩ := a
      have hspot : spot = none := by
        have := World.cell?_spot (hxs 0 (by omega) 0 _ rfl)
        simpa [Addr.add] using this
      subst hspot
      refine .inr ⟨b, off, rfl, fun j u hu => ?_⟩
      have hj : j < xs.length * 4 := by
        have := (List.getElem?_eq_some_iff.1 hu).1
        rwa [cflat_length] at this
      have h1 := cflat_at xs (j / 4) (j % 4) (by omega) (Nat.mod_lt _ (by omega))
      rw [show j / 4 * 4 + j % 4 = j from by omega] at h1
      rw [h1] at hu
      have := hxs (j / 4) (by omega) (j % 4) u hu
      rw [show j / 4 * 4 + j % 4 = j from by omega] at this
      rw [← add_flat]
      exact this
end Go.Proofs.Ytjgemgjpbanliaa
