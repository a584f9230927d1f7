/-
  Lanes without turns: how they lie in memory; contracts of NewLane of the program and of the reference, eqLane, eqLaneS, eqCrowd.
-/
import Derived.Test.YtilhcedfokhhjaaCToInt
import Derived.Test.YtilhcedfokhhjaaCFunc
import Derived.Test.YtilhcedfokhhjaaLibApp
import Derived.Deep.AppendLies
namespace Go.Proofs.Ytilhcedfokhhjaa
open Go.RowKit
set_option maxHeartbeats 2000000
set_option linter.unusedVariables false

/-- a lane without turns. -/
structure Ln where
  ra : Option Addr
  rc : Nat
  zs : List Int
  at_ : Int
  wt : Bool
abbrev lnR (l : Ln) : Value := .slice l.ra l.zs.length l.rc
abbrev lnCells (l : Ln) : List Value := [lnR l, .int .i64 l.at_, .slice none 0 0, .bool l.wt]
abbrev lnV (l : Ln) : Value := .agg #[.slice l.ra l.zs.length l.rc, .int .i64 l.at_, .slice none 0 0, .bool l.wt]
def lflat (xs : List Ln) : List Value := xs.flatMap lnCells
theorem lflat_cons (a : Ln) (xs : List Ln) : lflat (a :: xs) = lnCells a ++ lflat xs := by simp [lflat]
theorem lflat_append (xs ys : List Ln) : lflat (xs ++ ys) = lflat xs ++ lflat ys := by simp [lflat]
theorem lflat_length (xs : List Ln) : (lflat xs).length = xs.length * 4 := by
  induction xs with
  | nil => rfl
  | cons a xs ih => rw [lflat_cons, List.length_append, ih]; simp [lnCells]; omega
theorem lflat_at (xs : List Ln) (k j : Nat) (hk : k < xs.length) (hj : j < 4) : (lflat xs)[k * 4 + j]? = (lnCells xs[k])[j]? := by
  induction xs generalizing k with
  | nil => simp at hk
  | cons a xs ih =>
    rw [lflat_cons]
    cases k with
    | zero => simp only [Nat.zero_mul, Nat.zero_add]; rw [List.getElem?_append_left (by simp [lnCells]; omega)]; rfl
    | succ k =>
      rw [List.getElem?_append_right (by simp [lnCells]; omega)]
      have : (k + 1) * 4 + j - (lnCells a).length = k * 4 + j := by simp [lnCells]; omega
      rw [this, ih k (by simpa using hk)]
      rfl
theorem Sl.lane {w : World} {A : Option Addr} {xs : List Ln} (h : Sl w A (lflat xs)) {k : Nat} (hk : k < xs.length) :
    ∃ b off, A = some ⟨b, off, none⟩ ∧ w.cell? ⟨b, off + k * 4, none⟩ = some (.slice xs[k].ra xs[k].zs.length xs[k].rc) ∧ w.cell? ⟨b, off + k * 4 + 1, none⟩ = some (.int .i64 xs[k].at_) ∧
      w.cell? ⟨b, off + k * 4 + 2, none⟩ = some (.slice none 0 0) ∧ w.cell? ⟨b, off + k * 4 + 3, none⟩ = some (.bool xs[k].wt) := by
  obtain ⟨b, off, rfl, hc⟩ := h.at_ (k := k * 4) (by rw [lflat_length]; omega)
  refine ⟨b, off, rfl, ?_, ?_, ?_, ?_⟩
  · have := hc (k * 4) _ (lflat_at xs k 0 hk (by omega)); simpa [Nat.add_assoc] using this
  · have := hc (k * 4 + 1) _ (lflat_at xs k 1 hk (by omega)); simpa [Nat.add_assoc] using this
  · have := hc (k * 4 + 2) _ (lflat_at xs k 2 hk (by omega)); simpa [Nat.add_assoc] using this
  · have := hc (k * 4 + 3) _ (lflat_at xs k 3 hk (by omega)); simpa [Nat.add_assoc] using this
theorem lflat_one (xs : List Ln) : ∀ u ∈ lflat xs, u.oneCell' = true := by
  intro u hu
  simp only [lflat, List.mem_flatMap] at hu
  obtain ⟨a, _, h⟩ := hu
  simp only [lnCells, List.mem_cons, List.not_mem_nil, or_false] at h
  rcases h with rfl | rfl | rfl | rfl <;> rfl
theorem El : ElemI Try.prog 41 48 (.agg #[.slice none 0 0, .int .i64 0, .slice none 0 0, .bool false]) 4 64 := ⟨Try.underlying41, by kernel_rfl, rfl, by omega⟩
/-- the lanes' registers lie in blocks of their own, in whatever order. -/
def LanesApart (w : World) (lo : Nat) (ls : List Ln) : Prop :=
  (∀ l ∈ ls, w.ownsRow lo 3 1 (lnR l) l.zs.length (ints l.zs)) ∧ ∀ i j (hi : i < ls.length) (hj : j < ls.length), i ≠ j → ∀ g, (lnR ls[i]).ownBlock = some g → (lnR ls[j]).ownBlock ≠ some g
theorem LanesApart.nil (w : World) (lo : Nat) : LanesApart w lo [] := ⟨fun r hr => absurd hr (by simp), fun i j hi => absurd hi (by simp)⟩
theorem LanesApart.below {w w' : World} {lo : Nat} {ls : List Ln} (h : LanesApart w lo ls) (hb : Below w.heap.size w w') : LanesApart w' lo ls :=
  ⟨fun r hr => own_below (h.1 r hr) hb, h.2⟩
theorem LanesApart.kept {w w' : World} {lo : Nat} {ls : List Ln} {row : Option Nat} (h : LanesApart w lo ls) (hg : w.grownBy w' row) (hne : ∀ l ∈ ls, ∀ g, (lnR l).ownBlock = some g → row ≠ some g) : LanesApart w' lo ls :=
  ⟨fun r hr => own_grown' (h.1 r hr) hg (fun g e1 e2 => hne r hr g e1 e2), h.2⟩
theorem LanesApart.snoc {w w' : World} {lo : Nat} {ls : List Ln} (h : LanesApart w lo ls) (hb : Below w.heap.size w w') (hlo : lo ≤ w.heap.size) (l : Ln) (hl : w'.ownsRow w.heap.size 3 1 (lnR l) l.zs.length (ints l.zs)) : LanesApart w' lo (ls ++ [l]) := by
  have hlt : ∀ k (hk : k < ls.length) g, (lnR ls[k]).ownBlock = some g → g < w.heap.size := fun k hk g e => ((h.1 _ (List.getElem_mem hk)).lt g e).2
  refine ⟨fun s hs => ?_, fun i j hi hj hne g h1 h2 => ?_⟩
  · rcases List.mem_append.1 hs with h1 | h1
    · exact own_below (h.1 s h1) hb
    · rw [List.mem_singleton] at h1
      subst h1
      exact own_base hl hlo
  · rw [List.length_append, List.length_singleton] at hi hj
    rw [List.getElem_append] at h1 h2
    split at h1
    · split at h2
      · exact h.2 i j (by assumption) (by assumption) hne g h1 h2
      · have h3 := hlt i (by assumption) g h1
        rw [List.getElem_singleton] at h2
        have h4 := (hl.lt g h2).1
        omega
    · split at h2
      · have h3 := hlt j (by assumption) g h2
        rw [List.getElem_singleton] at h1
        have h4 := (hl.lt g h1).1
        omega
      · omega
/-! ### a new lane -/
def Fresh (l : Ln) : Prop := l.zs = [0, 0, 0, 0] ∧ l.at_ = 0 ∧ l.wt = false
def RetLane (w : World) (e : Ending) (w' : World) : Prop :=
  ∃ l : Ln, e = .returned (lnV l) ∧ Fresh l ∧ w'.ownsRow w.heap.size 3 1 (lnR l) l.zs.length (ints l.zs) ∧ Below w.heap.size w w'
theorem zeros4 : (madeCells (Value.int .i64 0).cells (4 * 1)).toList = ints [0, 0, 0, 0] := by simp [madeCells, Value.cells, List.range_succ, ints]
theorem box4 {w : World} {B : Nat} {c0 c1 c2 c3 : Value} {ty : TypeId} (h : w.heap[B]? = some (.cells #[c0, c1, c2, c3] ty (0, 0))) :
    (w.cell? ⟨B, 0, none⟩ = some c0 ∧ w.cell? ⟨B, 1, none⟩ = some c1 ∧ w.cell? ⟨B, 2, none⟩ = some c2 ∧ w.cell? ⟨B, 3, none⟩ = some c3) ∧ w.frozen? ⟨B, 0, none⟩ = false ∧ w.frozen? ⟨B, 1, none⟩ = false ∧ w.frozen? ⟨B, 2, none⟩ = false ∧ w.frozen? ⟨B, 3, none⟩ = false :=
  ⟨⟨cell_of_row _ _ _ _ _ _ h, cell_of_row _ _ _ _ _ _ h, cell_of_row _ _ _ _ _ _ h, cell_of_row _ _ _ _ _ _ h⟩, frozen_of_row _ _ _ _ _ h, frozen_of_row _ _ _ _ _ h, frozen_of_row _ _ _ _ _ h, frozen_of_row _ _ _ _ _ h⟩
theorem box2 {w : World} {B : Nat} {c0 c1 : Value} {ty : TypeId} (h : w.heap[B]? = some (.cells #[c0, c1] ty (0, 0))) :
    (w.cell? ⟨B, 0, none⟩ = some c0 ∧ w.cell? ⟨B, 1, none⟩ = some c1) ∧ w.frozen? ⟨B, 0, none⟩ = false ∧ w.frozen? ⟨B, 1, none⟩ = false :=
  ⟨⟨cell_of_row _ _ _ _ _ _ h, cell_of_row _ _ _ _ _ _ h⟩, frozen_of_row _ _ _ _ _ h, frozen_of_row _ _ _ _ _ h⟩
theorem below_new {w w' : World} (o : Obj) (h : Below (w.alloc o).heap.size (w.alloc o) w') : w'.heap[w.heap.size]? = some o := by
  rw [h.block w.heap.size (by simp)]
  exact heap_alloc_new w o
theorem grown_set4l {w w1 : World} {g : Nat} {i j k l : Nat} {a b c d : Value} (h : w.grownBy w1 (some g)) :
    w.grownBy ((((w1.setCell ⟨g, i, none⟩ a).setCell ⟨g, j, none⟩ b).setCell ⟨g, k, none⟩ c).setCell ⟨g, l, none⟩ d) (some g) :=
  grown_setCell' (grown_setCell' (grown_setCell' (grown_setCell' h i a) j b) k c) l d
theorem implNewLane_any (w : World) : Calls Try.prog 25 #[] w (RetLane w) := by
  obtain ⟨i0, hi0, hz0, hz1, hz2⟩ := info_parts Ei.hi
  go_enter Try.func25, Try.ntmps25
  go_wp2_with
    (at_make
     refine wpList_make_full _ rfl _ _ _ rfl w.heap.size _ i0 _ 1 Ei.ht hi0 hz0 hz1 _ _ _ _ 4 rfl rfl rfl rfl (by rw [hz2]; omega) (by simp only [maxLen]; omega) (by simp) ?_
     intro w1 hown1 hg1
     have HO := mkHid hown1
     have HB := mkHid (((Below.refl w.heap.size w).alloc (Nat.le_refl _) _).trans ((grown_belowNone hg1).mono (by simp)))
     obtain ⟨⟨p0, p1, p2, p3⟩, f0, f1, f2, f3⟩ := box4 (below_new _ (grown_belowNone hg1))
     clear hown1 hg1)
  refine bodyPost_ret (v := lnV ⟨some ⟨w.heap.size + 1, 0, none⟩, 4, [0, 0, 0, 0], 0, false⟩) (by simp [results, Try.results25, go_sem, p0, p1, p2, p3]) rfl ⟨_, rfl, ⟨rfl, rfl, rfl⟩, ?_, ?_⟩
  · have h := HO.out
    rw [zeros4] at h
    have e : (w.alloc (.cells #[.slice none 0 0, .int .i64 0, .slice none 0 0, .bool false] 48)).heap.size = w.heap.size + 1 := by simp
    rw [e] at h
    exact own_grown' h (grown_set4l (World.grownBy.refl _ _)) (fun g e1 e2 => by
      have e1' : w.heap.size + 1 = g := by simpa [Value.ownBlock] using e1
      have e2' : w.heap.size = g := by simpa using e2
      omega)
  · exact HB.out.grown (grown_set4l (World.grownBy.refl _ _)) HB.out.size (fun g e => by injection e with e; omega)
theorem specNewLane_any (w : World) : Calls Try.prog 52 #[] w (RetLane w) := by
  obtain ⟨i0, hi0, hz0, hz1, hz2⟩ := info_parts Ei.hi
  go_enter Try.func52, Try.ntmps52
  go_wp2_with
    (at_make
     refine wpList_make_full _ rfl _ _ _ rfl w.heap.size _ i0 _ 1 Ei.ht hi0 hz0 hz1 _ _ _ _ 4 rfl rfl rfl rfl (by rw [hz2]; omega) (by simp only [maxLen]; omega) (by simp) ?_
     intro w1 hown1 hg1
     have HO := mkHid hown1
     have HB := mkHid (((Below.refl w.heap.size w).alloc (Nat.le_refl _) _).trans ((grown_belowNone hg1).mono (by simp)))
     obtain ⟨⟨p0, p1, p2, p3⟩, f0, f1, f2, f3⟩ := box4 (below_new _ (grown_belowNone hg1))
     clear hown1 hg1)
  refine bodyPost_ret (v := lnV ⟨some ⟨w.heap.size + 1, 0, none⟩, 4, [0, 0, 0, 0], 0, false⟩) (by simp [results, Try.results52, go_sem, p0, p1, p2, p3]) rfl ⟨_, rfl, ⟨rfl, rfl, rfl⟩, ?_, ?_⟩
  · have h := HO.out
    rw [zeros4] at h
    have e : (w.alloc (.cells #[.slice none 0 0, .int .i64 0, .slice none 0 0, .bool false] 48)).heap.size = w.heap.size + 1 := by simp
    rw [e] at h
    exact own_grown' h (grown_set4l (World.grownBy.refl _ _)) (fun g e1 e2 => by
      have e1' : w.heap.size + 1 = g := by simpa [Value.ownBlock] using e1
      have e2' : w.heap.size = g := by simpa using e2
      omega)
  · exact HB.out.grown (grown_set4l (World.grownBy.refl _ _)) HB.out.size (fun g e => by injection e with e; omega)
end Go.Proofs.Ytilhcedfokhhjaa
