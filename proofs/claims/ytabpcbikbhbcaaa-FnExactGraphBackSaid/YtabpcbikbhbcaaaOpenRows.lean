/-
  An argument that is a slice of slices of ints: its value's form, and what it holds.
-/
import Derived.Test.YtabpcbikbhbcaaaCRows
import Derived.Test.YtabpcbikbhbcaaaFrame
import Derived.Deep.Matrix
namespace Go.Proofs.Ytabpcbikbhbcaaa
open Go.ChangeShapes Go.WideShapes Go.ChangeAt Go.RowKit Go.Deep
set_option linter.unusedVariables false

theorem open_rows {H : Type} {enc : TypeId × Value → H} {W : World} {r : Reach} {b0 base : Nat} {held : Bool} {v : Value} {d : DataW H} {ps : List MemPlace}
    (hv : Value.okWide Try.prog W r b0 22 v) (h : DataW.Trod enc Try.prog W base (fun _ => true) held 22 v d ps) :
    ∃ x : Option Addr × Nat × List Row, ∃ _ : x.2.2.length ≤ 9223372036854775807, v = .slice x.1 x.2.2.length x.2.1 ∧ Grid W x.1 x.2.2 := by
  obtain ⟨a0, len, cap, rfl⟩ := okWide_slice Try.underlying22 hv
  obtain ⟨fuel, hf⟩ := h
  rcases open_int_rows Try.underlying22 Try.underlying30 Try.underlying3 (by kernel_rfl) (by kernel_rfl) hf with ⟨hcs, _⟩ | ⟨a, len', cap', A, L, C, Z, hcs, _, hl, hm, _, hrows⟩
  · simp [Value.cells] at hcs
    obtain ⟨rfl, rfl, rfl⟩ := hcs
    exact ⟨(none, 0, []), by simp, rfl, Sl.nil _ _, fun r hr => absurd hr (by simp)⟩
  · simp [Value.cells] at hcs
    obtain ⟨rfl, rfl, rfl⟩ := hcs
    have hml : len ≤ 9223372036854775807 := by unfold maxLen at hm; omega
    obtain ⟨rs, hrs⟩ : ∃ rs : List Row, rs = (List.range len).map fun r => ⟨A r, C r, (Z r).take (L r)⟩ := ⟨_, rfl⟩
    have hlen : rs.length = len := by rw [hrs]; simp
    have hzl : ∀ r, r < len → ((Z r).take (L r)).length = L r := fun r hr => by
      obtain ⟨_, h2, _, h4, _⟩ := hrows r (by omega)
      rw [List.length_take]; omega
    refine ⟨(some a, cap, rs), by rw [hlen]; exact hml, by rw [hlen], ?_, ?_⟩
    · by_cases h0 : len = 0
      · have : rs = [] := List.eq_nil_of_length_eq_zero (by omega)
        show Sl W (some a) (rowVs rs)
        rw [this]; exact Sl.nil _ _
      · obtain ⟨b, off, spot⟩ := a
        have hspot : spot = none := by
          have := World.cell?_spot (hrows 0 (by omega)).1
          simpa [Addr.add] using this
        subst hspot
        refine .inr ⟨b, off, rfl, fun j u hu => ?_⟩
        have hj : j < len := by
          have := (List.getElem?_eq_some_iff.1 hu).1
          simpa [hlen] using this
        have h1 := (hrows j (by omega)).1
        rw [add_flat] at h1
        rw [h1]
        have h2 : (rowVs rs)[j]? = some (.slice (A j) (L j) (C j)) := by
          rw [hrs]
          simp only [rowVs, List.map_map, List.getElem?_map, List.getElem?_range hj, Option.map_some, Function.comp, rowV]
          rw [hzl j hj]
        exact (h2.symm.trans hu)
    · intro r hr
      simp only at hr
      rw [hrs] at hr
      obtain ⟨j, hj, rfl⟩ := List.mem_map.1 hr
      have hj := List.mem_range.1 hj
      obtain ⟨h1, h2, h3, h4, h5, h6, h7⟩ := hrows j (by omega)
      have hL := hzl j hj
      simp only
      rw [hL]
      refine ⟨?_, h2, by unfold maxLen at h3; omega⟩
      cases hA : A j with
      | none =>
        have : (Z j).take (L j) = [] := List.eq_nil_of_length_eq_zero (by rw [hL]; have := h6 hA; omega)
        rw [this]; exact Sl.nil _ _
      | some a' =>
        by_cases h0 : L j = 0
        · have : (Z j).take (L j) = [] := List.eq_nil_of_length_eq_zero (by rw [hL]; exact h0)
          rw [this]; exact Sl.nil _ _
        · obtain ⟨b, off, spot⟩ := a'
          have hspot : spot = none := by
            have := World.cell?_spot ((h7 _ hA).2 0 (by omega))
            simpa [Addr.add] using this
          subst hspot
          refine .inr ⟨b, off, rfl, fun i u hu => ?_⟩
          have hi : i < L j := by
            have := (List.getElem?_eq_some_iff.1 hu).1
            simp only [ints, List.length_map] at this
            omega
          have hc := (h7 _ hA).2 i (by omega)
          rw [add_flat] at hc
          rw [hc]
          rw [← hu, ints, List.getElem?_map, List.getElem?_take, if_pos hi, List.getElem?_eq_getElem (by omega)]
          simp [List.getD, show i < (Z j).length by omega]
end Go.Proofs.Ytabpcbikbhbcaaa
