/-
  Contracts on slices of instructions: how they lie in memory, and the laws' helpers szCodeS, toCodeS, eqCodeS, markCodeS.
-/
import Derived.Test.YtabpcbikbhbcaaaCCode
import Derived.Test.YtabpcbikbhbcaaaLib2
namespace Go.Proofs.Ytabpcbikbhbcaaa
open Go.RowKit
set_option maxHeartbeats 1000000
set_option linter.unusedVariables false

abbrev cdCells (x : Cd) : List Value := [.int .i64 x.op, .int .i64 x.a, .int .i64 x.b, .int .i64 x.c]
def cflat (xs : List Cd) : List Value := xs.flatMap cdCells
theorem cflat_nil : cflat [] = [] := rfl
theorem cflat_cons (a : Cd) (xs : List Cd) : cflat (a :: xs) = cdCells a ++ cflat xs := by simp [cflat]
theorem cflat_append (xs ys : List Cd) : cflat (xs ++ ys) = cflat xs ++ cflat ys := by simp [cflat]
theorem cflat_length (xs : List Cd) : (cflat xs).length = xs.length * 4 := by
  induction xs with
  | nil => rfl
  | cons a xs ih => rw [cflat_cons, List.length_append, ih]; simp [cdCells]; omega
theorem cflat_at (xs : List Cd) (k j : Nat) (hk : k < xs.length) (hj : j < 4) : (cflat xs)[k * 4 + j]? = (cdCells xs[k])[j]? := by
  induction xs generalizing k with
  | nil => simp at hk
  | cons a xs ih =>
    rw [cflat_cons]
    cases k with
    | zero => simp only [Nat.zero_mul, Nat.zero_add]; rw [List.getElem?_append_left (by simp [cdCells]; omega)]; rfl
    | succ k =>
      rw [List.getElem?_append_right (by simp [cdCells]; omega)]
      have : (k + 1) * 4 + j - (cdCells a).length = k * 4 + j := by simp [cdCells]; omega
      rw [this, ih k (by simpa using hk)]
      rfl
theorem cflat_one (xs : List Cd) : ∀ u ∈ cflat xs, u.oneCell' = true := by
  intro u hu
  simp only [cflat, List.mem_flatMap] at hu
  obtain ⟨a, _, h⟩ := hu
  simp only [cdCells, List.mem_cons, List.not_mem_nil, or_false] at h
  rcases h with rfl | rfl | rfl | rfl <;> rfl

theorem Sl.cd {w : World} {A : Option Addr} {xs : List Cd} (h : Sl w A (cflat xs)) {k : Nat} (hk : k < xs.length) :
    ∃ b off, A = some ⟨b, off, none⟩ ∧ w.cell? ⟨b, off + k * 4, none⟩ = some (.int .i64 xs[k].op) ∧ w.cell? ⟨b, off + k * 4 + 1, none⟩ = some (.int .i64 xs[k].a) ∧
      w.cell? ⟨b, off + k * 4 + 2, none⟩ = some (.int .i64 xs[k].b) ∧ w.cell? ⟨b, off + k * 4 + 3, none⟩ = some (.int .i64 xs[k].c) := by
  obtain ⟨b, off, rfl, hc⟩ := h.at_ (k := k * 4) (by rw [cflat_length]; omega)
  refine ⟨b, off, rfl, ?_, ?_, ?_, ?_⟩
  · have := hc (k * 4) _ (cflat_at xs k 0 hk (by omega)); simpa [Nat.add_assoc] using this
  · have := hc (k * 4 + 1) _ (cflat_at xs k 1 hk (by omega)); simpa [Nat.add_assoc] using this
  · have := hc (k * 4 + 2) _ (cflat_at xs k 2 hk (by omega)); simpa [Nat.add_assoc] using this
  · have := hc (k * 4 + 3) _ (cflat_at xs k 3 hk (by omega)); simpa [Nat.add_assoc] using this

theorem cdData (a b : Cd) : cdCells a = cdCells b ↔ a = b := by
  obtain ⟨x, y, u, p⟩ := a
  obtain ⟨x', y', u', p'⟩ := b
  simp [cdCells]
theorem Ec : ElemI Try.prog 53 59 (.agg #[.int .i64 0, .int .i64 0, .int .i64 0, .int .i64 0]) 4 32 := ⟨Try.underlying53, by kernel_rfl, rfl, by omega⟩
def RetCds (xs : List Cd) (w : World) (e : Ending) (w' : World) : Prop :=
  ∃ A c, e = .returned (.slice A xs.length c) ∧ w'.ownsRow w.heap.size 59 4 (.slice A xs.length c) xs.length (cflat xs) ∧ Below w.heap.size w w'

def cd0 : Cd := ⟨0, 0, 0, 0⟩
theorem cflat_zeros (n : Nat) : (madeCells (Value.agg #[.int .i64 0, .int .i64 0, .int .i64 0, .int .i64 0]).cells (n * 4)).toList = cflat (List.replicate n cd0) := by
  apply List.ext_getElem?
  intro i
  by_cases h : i < n * 4
  · have h1 := cflat_at (List.replicate n cd0) (i / 4) (i % 4) (by simp; omega) (Nat.mod_lt _ (by omega))
    rw [show i / 4 * 4 + i % 4 = i from by omega] at h1
    rw [h1]
    have h2 : i % 4 = 0 ∨ i % 4 = 1 ∨ i % 4 = 2 ∨ i % 4 = 3 := by omega
    rcases h2 with h2 | h2 | h2 | h2 <;> simp [madeCells, h, h2, Value.cells, cd0, cdCells]
  · rw [List.getElem?_eq_none (by simp [madeCells]; omega), List.getElem?_eq_none (by rw [cflat_length]; simp; omega)]

theorem cflat_set (ys : List Cd) (k : Nat) (a : Cd) (hk : k < ys.length) :
    ((((cflat ys).set (k * 4) (.int .i64 a.op)).set (k * 4 + 1) (.int .i64 a.a)).set (k * 4 + 2) (.int .i64 a.b)).set (k * 4 + 3) (.int .i64 a.c) = cflat (ys.set k a) := by
  apply List.ext_getElem?
  intro i
  simp only [List.getElem?_set, List.length_set, cflat_length]
  by_cases h : i < ys.length * 4
  · have h1 := cflat_at (ys.set k a) (i / 4) (i % 4) (by simp; omega) (Nat.mod_lt _ (by omega))
    have h0 := cflat_at ys (i / 4) (i % 4) (by omega) (Nat.mod_lt _ (by omega))
    rw [show i / 4 * 4 + i % 4 = i from by omega] at h1 h0
    rw [h1, h0]
    have h2 : i % 4 = 0 ∨ i % 4 = 1 ∨ i % 4 = 2 ∨ i % 4 = 3 := by omega
    by_cases hi : k = i / 4
    · subst hi
      have hs : (ys.set (i / 4) a)[i / 4]'(by simp; omega) = a := by simp
      rw [hs]
      rcases h2 with h2 | h2 | h2 | h2
      · rw [if_neg (by omega), if_neg (by omega), if_neg (by omega), if_pos (by omega), h2]; simp [cdCells]; omega
      · rw [if_neg (by omega), if_neg (by omega), if_pos (by omega), h2]; simp [cdCells]; omega
      · rw [if_neg (by omega), if_pos (by omega), h2]; simp [cdCells]; omega
      · rw [if_pos (by omega), h2]; simp [cdCells]; omega
    · have hs : (ys.set k a)[i / 4]'(by simp; omega) = ys[i / 4]'(by omega) := by rw [List.getElem_set_ne hi]
      rw [hs]
      rw [if_neg (by omega), if_neg (by omega), if_neg (by omega), if_neg (by omega)]
  · rw [if_neg (by omega), if_neg (by omega), if_neg (by omega), if_neg (by omega), List.getElem?_eq_none (by rw [cflat_length]; omega), List.getElem?_eq_none (by rw [cflat_length]; simp; omega)]

theorem own_cd {w : World} {base : Nat} {e : TypeId} {g n c : Nat} {ys : List Cd} (h : w.ownsRow base e 4 (.slice (some ⟨g, 0, none⟩) n c) n (cflat ys)) {k : Nat} (hk : k < ys.length) (a : Cd) :
    (w.cell? ⟨g, k * 4, none⟩ = some (.int .i64 ys[k].op) ∧ w.cell? ⟨g, k * 4 + 1, none⟩ = some (.int .i64 ys[k].a) ∧ w.cell? ⟨g, k * 4 + 2, none⟩ = some (.int .i64 ys[k].b) ∧ w.cell? ⟨g, k * 4 + 3, none⟩ = some (.int .i64 ys[k].c)) ∧
    (w.frozen? ⟨g, k * 4, none⟩ = false ∧ w.frozen? ⟨g, k * 4 + 1, none⟩ = false ∧ w.frozen? ⟨g, k * 4 + 2, none⟩ = false ∧ w.frozen? ⟨g, k * 4 + 3, none⟩ = false) ∧
    ((((w.setCell ⟨g, k * 4, none⟩ (.int .i64 a.op)).setCell ⟨g, k * 4 + 1, none⟩ (.int .i64 a.a)).setCell ⟨g, k * 4 + 2, none⟩ (.int .i64 a.b)).setCell ⟨g, k * 4 + 3, none⟩ (.int .i64 a.c)).ownsRow base e 4 (.slice (some ⟨g, 0, none⟩) n c) n (cflat (ys.set k a)) := by
  refine ⟨?_, ⟨h.frozenAt _, h.frozenAt _, h.frozenAt _, h.frozenAt _⟩, ?_⟩
  · obtain ⟨b, off, hA, h0, h1, h2, h3⟩ := (Sl.of_own h).cd hk
    injection hA with hA
    injection hA with hA1 hA2
    subst hA1
    subst hA2
    simp only [Nat.zero_add] at h0 h1 h2 h3
    exact ⟨h0, h1, h2, h3⟩
  · rw [← cflat_set ys k a hk]
    exact ((((h.stored _ _).1.stored _ _).1.stored _ _).1.stored _ _).1

theorem grown_set4c {w w1 : World} {g : Nat} (h : w.grownBy w1 (some g)) (i j k l : Nat) (a b c d : Value) :
    w.grownBy ((((w1.setCell ⟨g, i, none⟩ a).setCell ⟨g, j, none⟩ b).setCell ⟨g, k, none⟩ c).setCell ⟨g, l, none⟩ d) (some g) :=
  grown_setCell' (grown_setCell' (grown_setCell' (grown_setCell' h i a) j b) k c) l d

def markCd (k : Int) (i : Nat) : Cd := ⟨k + 4 * i, k + 4 * i + 1, k + 4 * i + 1 + 1, k + 4 * i + 1 + 1 + 1⟩
def markCds (k : Int) (n : Nat) : List Cd := (List.range n).map (markCd k)
theorem markCds_length (k : Int) (n : Nat) : (markCds k n).length = n := by simp [markCds]
theorem markCds_at (k : Int) (n i : Nat) (h : i < (markCds k n).length) : (markCds k n)[i] = markCd k i := by simp [markCds]
theorem markCds_step (k : Int) (xs : List Cd) (i : Nat) (h : i < xs.length) : (markCds k i ++ xs.drop i).set i (markCd k i) = markCds k (i + 1) ++ xs.drop (i + 1) := by
  have h1 : xs.drop i = xs[i] :: xs.drop (i + 1) := List.drop_eq_getElem_cons h
  rw [h1, List.set_append_right _ _ (by simp [markCds_length])]
  have h2 : markCds k (i + 1) = markCds k i ++ [markCd k i] := by simp [markCds, List.range_succ]
  rw [markCds_length, Nat.sub_self, List.set_cons_zero, h2]
  simp only [List.append_assoc, List.singleton_append]
end Go.Proofs.Ytabpcbikbhbcaaa
