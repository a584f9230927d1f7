/-
  How the blocks of a program lie in memory while they are collected: the rows around the places, the places' own blocks, the stack, and the blocks themselves.
-/
import Derived.Test.YtabpcbikbhbcaaaCCodeS
import Derived.Test.YtabpcbikbhbcaaaPlainProg
import Derived.Test.YtabpcbikbhbcaaaLibAppG
import Derived.Deep.AppendLies
import Derived.WalkSmall
namespace Go.Proofs.Ytabpcbikbhbcaaa
open Go.RowKit
set_option maxHeartbeats 1000000
set_option linter.unusedVariables false

theorem own_types3 {w : World} {b1 b2 s1 s2 g n m : Nat} {e1 e2 : TypeId} {v1 v2 : Value} {xs ys : List Value} (h : w.ownsRow b1 e1 s1 v1 n xs) (k : w.ownsRow b2 e2 s2 v2 m ys) (hne : e1 ≠ e2) (h1 : v1.ownBlock = some g) : v2.ownBlock ≠ some g := fun h2 => by
  rcases h.2 with ⟨h5, _⟩ | ⟨g', cap', cur', h5, _, h6, _⟩
  · rw [h5] at h1; cases h1
  · rcases k.2 with ⟨h7, _⟩ | ⟨g'', cap'', cur'', h7, _, h8, _⟩
    · rw [h7] at h2; cases h2
    · rw [h5] at h1
      rw [h7] at h2
      have e1 : g' = g := by simpa [Value.ownBlock] using h1
      have e2 : g'' = g := by simpa [Value.ownBlock] using h2
      subst e1 e2
      rw [h6] at h8
      simp only [Option.some.injEq, Obj.cells.injEq] at h8
      exact hne h8.2.1
theorem own_ne_heap3 {w : World} {b s n C : Nat} {e ty : TypeId} {v : Value} {xs : List Value} {cs : Array Value} {fr : Nat × Nat} (h : w.ownsRow b e s v n xs) (hq : w.heap[C]? = some (.cells cs ty fr)) (hne : e ≠ ty) : v.ownBlock ≠ some C := fun hv => by
  rcases h.2 with ⟨h1, _⟩ | ⟨g, cap, cur, h1, _, h2, _⟩
  · rw [h1] at hv; cases hv
  · rw [h1] at hv
    have e1 : g = C := by simpa [Value.ownBlock] using hv
    subst e1
    rw [h2] at hq
    simp only [Option.some.injEq, Obj.cells.injEq] at hq
    exact hne hq.2.1
theorem box3 {w : World} {B : Nat} {c0 c1 c2 : Value} {ty : TypeId} (h : w.heap[B]? = some (.cells #[c0, c1, c2] ty (0, 0))) :
    (w.cell? ⟨B, 0, none⟩ = some c0 ∧ w.cell? ⟨B, 1, none⟩ = some c1 ∧ w.cell? ⟨B, 2, none⟩ = some c2) ∧ w.frozen? ⟨B, 0, none⟩ = false ∧ w.frozen? ⟨B, 1, none⟩ = false ∧ w.frozen? ⟨B, 2, none⟩ = false :=
  ⟨⟨cell_of_row _ _ _ _ _ _ h, cell_of_row _ _ _ _ _ _ h, cell_of_row _ _ _ _ _ _ h⟩, frozen_of_row _ _ _ _ _ h, frozen_of_row _ _ _ _ _ h, frozen_of_row _ _ _ _ _ h⟩
def updB {α : Type} (f : Nat → α) (k : Nat) (x : α) : Nat → α := fun j => if j = k then x else f j
theorem updB_same {α : Type} (f : Nat → α) (k : Nat) (x : α) : updB f k x k = x := if_pos rfl
theorem updB_ne {α : Type} (f : Nat → α) {k j : Nat} (x : α) (h : j ≠ k) : updB f k x j = f j := if_neg h
abbrev ptrV (b : Nat) : Value := .pointer (some ⟨b, 0, none⟩)
def ptrs (P : Nat → Nat) (s : List Nat) : List Value := s.map fun b => ptrV (P b)
theorem ptrs_len (P : Nat → Nat) (s : List Nat) : (ptrs P s).length = s.length := by simp [ptrs]
theorem ptrs_one (P : Nat → Nat) (s : List Nat) : ∀ u ∈ ptrs P s, u.oneCell' = true := by
  intro u hu
  obtain ⟨b, _, rfl⟩ := List.mem_map.1 hu
  rfl
theorem ptrs_upd {P : Nat → Nat} {s : List Nat} {k x : Nat} (h : ∀ b ∈ s, b < k) : ptrs (updB P k x) s = ptrs P s :=
  List.map_congr_left fun b hb => by rw [updB_ne]; have := h b hb; omega
theorem ptrs_stk (P : Nat → Nat) (os : List Int) {j k x : Nat} (h : j ≤ k) : ptrs (updB P k x) (stk os j) = ptrs P (stk os j) :=
  ptrs_upd fun b hb => by have := (stk_lt hb).1; omega
def ownV (P : Nat → Nat) (os : List Int) (j : Nat) : Value :=
  if opensB (opAt os j) then ptrV (P j) else if opAt os j = 12 ∨ opAt os j = 14 then (match (stk os j).getLast? with | some b => ptrV (P b) | none => .pointer none) else .pointer none
theorem ownV_upd (P : Nat → Nat) (os : List Int) {j k x : Nat} (h : j < k) : ownV (updB P k x) os j = ownV P os j := by
  unfold ownV
  rw [updB_ne _ _ (by omega)]
  split
  · rfl
  · split
    · cases hl : (stk os j).getLast? with
      | none => rfl
      | some b => simp only; rw [updB_ne]; have := (last_lt hl).1; omega
    · rfl
def ownL (P : Nat → Nat) (os : List Int) (k n : Nat) : List Value := (List.range k).map (ownV P os) ++ List.replicate (n - k) (.pointer none)
theorem fill_set {α : Type} (f : Nat → α) (z : α) {k n : Nat} (h : k < n) : ((List.range k).map f ++ List.replicate (n - k) z).set k (f k) = (List.range (k + 1)).map f ++ List.replicate (n - (k + 1)) z := by
  rw [List.set_append_right _ _ (by simp), List.range_succ, show n - k = (n - (k + 1)) + 1 from by omega, List.replicate_succ]
  simp
theorem fill_nil {α : Type} (f : Nat → α) (z : α) {k n : Nat} (h : k < n) (hz : f k = z) : (List.range k).map f ++ List.replicate (n - k) z = (List.range (k + 1)).map f ++ List.replicate (n - (k + 1)) z := by
  rw [List.range_succ, show n - k = (n - (k + 1)) + 1 from by omega, List.replicate_succ]
  simp [hz]
theorem ownL_set (P : Nat → Nat) (os : List Int) {k n : Nat} {v : Value} (h : k < n) (hv : v = ownV P os k) : (ownL P os k n).set k v = ownL P os (k + 1) n := by
  subst hv; exact fill_set _ _ h
theorem ownL_nil (P : Nat → Nat) (os : List Int) {k n : Nat} (h : k < n) (hv : ownV P os k = .pointer none) : ownL P os k n = ownL P os (k + 1) n := fill_nil _ _ h hv
theorem ownL_upd (P : Nat → Nat) (os : List Int) (k n x : Nat) : ownL (updB P k x) os k n = ownL P os k n := by
  unfold ownL
  congr 1
  exact List.map_congr_left fun j hj => ownV_upd P os (List.mem_range.1 hj)
def rowVal (os : List Int) (Rw : Nat → Nat × Nat) (j : Nat) : Value := .slice (some ⟨(Rw j).1, 0, none⟩) (stk os j).length (Rw j).2
def rowL (os : List Int) (Rw : Nat → Nat × Nat) (k n : Nat) : List Value := (List.range k).map (rowVal os Rw) ++ List.replicate (n - k) (.slice none 0 0)
theorem rowL_set (os : List Int) (Rw : Nat → Nat × Nat) {k n r c : Nat} (h : k < n) : (rowL os Rw k n).set k (.slice (some ⟨r, 0, none⟩) (stk os k).length c) = rowL os (updB Rw k (r, c)) (k + 1) n := by
  have h1 : rowVal os (updB Rw k (r, c)) k = .slice (some ⟨r, 0, none⟩) (stk os k).length c := by unfold rowVal; rw [updB_same]
  have h2 : rowL os Rw k n = (List.range k).map (rowVal os (updB Rw k (r, c))) ++ List.replicate (n - k) (.slice none 0 0) := by
    unfold rowL
    congr 1
    exact List.map_congr_left fun j hj => by
      unfold rowVal
      rw [updB_ne]; have := List.mem_range.1 hj; omega
  rw [h2, ← h1]
  exact fill_set _ _ h

/-! ### append onto an empty literal: a copy -/
theorem run_app_none {P : Program} {w : World} {t ty e : TypeId} {i : TypeInfo} (ht : P.underlying t = some (.slice e)) (hi : P.info? e = some i) (g : Nat) :
    (Builtin.append_ #[t, t] ty #[.slice (some ⟨g, 0, none⟩) 0 0, .slice none 0 0]).run P w = .ok (.slice (some ⟨g, 0, none⟩) 0 0) w := by
  simp [Builtin.append_, run_underlying ht, sizeOf, typeInfo, hi, Builtin.lenOf, Builtin.firstCells, storeCells]
theorem wpList_copy {P : Program} {w : World} {ops : Array Oper} {rest : List Oper} {o : Oper} {a : Act} {Q : Exit → Act → World → Prop} {t e : TypeId} {z : Value} {size bytes : Nat} (I : ElemI P t e z size bytes)
    {base base' g0 m : Nat} {xs : List Value} {S : Value} (hown : w.ownsRow base e size (.slice (some ⟨g0, 0, none⟩) 0 0) 0 []) (hS : w.ownsRow base' e size S m xs) (h1 : ∀ u ∈ xs, u.oneCell' = true)
    (hbytes : m * bytes ≤ 140737488355328) (h63 : m ≤ 9223372036854775807) (hbase : base ≤ w.heap.size)
    {s x : Operand} (hgd : o.guard = none) (ho : o.op = .call { callee := .builtin .append, args := #[s, x], argTypes := #[t, t] }) (hs : a.eval s = .slice (some ⟨g0, 0, none⟩) 0 0) (hx : a.eval x = S)
    (h : ∀ r c' w', w'.ownsRow base e size (.slice (some ⟨r, 0, none⟩) m c') m xs → w.grownBy w' (some g0) → (r = g0 ∨ r = w.heap.size) → wpList P ops Q rest (a.put o.dst (.slice (some ⟨r, 0, none⟩) m c')) w') : wpList P ops Q (o :: rest) a w := by
  obtain ⟨i, hi, hz0, hz1, hz2⟩ := info_parts I.hi
  have hl := hS.1
  rcases hS.2 with ⟨rfl, rfl⟩ | ⟨g, c, cur, rfl, h3⟩
  · have hxs : xs = [] := List.eq_nil_of_length_eq_zero (by simpa using hl)
    subst hxs
    refine wpList_plain hgd fun K hK => ?_
    unfold Oper.wp execOp
    simp only [ho, resolve, invoke, builtin, Sem.run_bind, Sem.run_pure, Result.andThen_ok, List.map_toArray, List.map_cons, List.map_nil, hs, hx, run_app_none I.ht hi]
    exact hK _ _ (h g0 0 w hown (World.grownBy.refl _ _) (.inl rfl))
  · refine wpList_append_own_at w hgd s x t ho base e i z size bytes I.ht hi hz0 hz1 hz2 I.hz I.hs _ 0 [] hs hown _ m c xs hx hl (hS.cells rfl) h1 (by simp only [maxLen]; omega) (by rw [Nat.zero_add]; exact hbytes) hbase ?_
    intro v' w' hown' hg hnil hat
    rw [Nat.zero_add, List.nil_append] at hown'
    obtain ⟨r, c', rfl⟩ := own_some hown' (fun e => by have := hnil.1 e; simp at this)
    refine h r c' w' hown' hg ?_
    rcases hat with hat | hat
    · left; simpa [Value.ownBlock] using hat
    · right; simpa [Value.ownBlock] using hat
theorem nilPtrs (n : Nat) : (madeCells (Value.pointer none).cells (n * 1)).toList = List.replicate n (.pointer none) := by
  apply List.ext_getElem?
  intro i
  by_cases h : i < n
  · simp [madeCells, h, Value.cells, Nat.mod_one]
  · rw [List.getElem?_eq_none (by simp [madeCells]; omega), List.getElem?_eq_none (by simp; omega)]
theorem nilRows (n : Nat) : (madeCells (Value.slice none 0 0).cells (n * 1)).toList = List.replicate n (.slice none 0 0) := by
  apply List.ext_getElem?
  intro i
  by_cases h : i < n
  · simp [madeCells, h, Value.cells, Nat.mod_one]
  · rw [List.getElem?_eq_none (by simp [madeCells]; omega), List.getElem?_eq_none (by simp; omega)]
end Go.Proofs.Ytabpcbikbhbcaaa
