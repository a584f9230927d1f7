/-
  Plain words on how many different numbers a list holds, and on lines of cells.
-/
import Derived.Test.YtjgmghlgjjfifaaPlainAsc
namespace Go.Proofs.Ytjgmghlgjjfifaa
set_option linter.unusedVariables false

def memB (ys : List Int) (z : Int) : Bool := ys.any fun y => y == z
theorem memB_succ (ys : List Int) (z : Int) (j : Nat) (h : j < ys.length) : memB (ys.take (j + 1)) z = (memB (ys.take j) z || ys[j] == z) := by
  unfold memB
  rw [List.take_succ_eq_append_getElem h, List.any_append]
  simp
theorem memB_mem {ys : List Int} {z : Int} (h : z ∈ ys) : memB ys z = true := by
  unfold memB
  rw [List.any_eq_true]
  exact ⟨z, h, by simp⟩
theorem nodup_le : ∀ (a b : List Int), a.Nodup → (∀ z ∈ a, z ∈ b) → a.length ≤ b.length
  | [], b, _, _ => by simp
  | x :: a, b, hn, hs => by
    rw [List.nodup_cons] at hn
    have hx : x ∈ b := hs x (List.mem_cons_self ..)
    have h1 := nodup_le a (b.erase x) hn.2 (fun z hz => (List.mem_erase_of_ne (fun e => hn.1 (by rw [← e]; exact hz))).2 (hs z (List.mem_cons_of_mem _ hz)))
    rw [List.length_erase_of_mem hx] at h1
    have : 0 < b.length := List.length_pos_of_mem hx
    simp only [List.length_cons]
    omega
theorem up_nodup {a : List Int} (h : Up a) : a.Nodup := List.Pairwise.imp (fun {x y} (hxy : x < y) => by intro e; omega) h

/-- how many different numbers. -/
def card (l : List Int) : Nat := (asc l).length
theorem card_le (l : List Int) : card l ≤ l.length := asc_le l
theorem card_sub {a b : List Int} (h : ∀ z ∈ a, z ∈ b) : card a ≤ card b :=
  nodup_le _ _ (up_nodup (asc_spec a).1) fun z hz => ((asc_spec b).2 z).2 (h z (((asc_spec a).2 z).1 hz))
theorem card_nodup {a : List Int} (h : a.Nodup) : card a = a.length := by
  refine Nat.le_antisymm (card_le a) (nodup_le _ _ h fun z hz => ((asc_spec a).2 z).2 hz)
theorem card_of_le {a : List Int} {b : List Int} (h : ∀ z ∈ a, z ∈ b) : card a ≤ b.length := Nat.le_trans (card_sub h) (card_le b)
theorem card_append (a b : List Int) : card (a ++ b) ≤ card a + card b := by
  have : card (a ++ b) ≤ (asc a ++ asc b).length := card_of_le fun z hz => by
    rw [List.mem_append] at hz ⊢
    rcases hz with h | h
    · exact .inl (((asc_spec a).2 z).2 h)
    · exact .inr (((asc_spec b).2 z).2 h)
  simpa [card] using this
theorem card_map (f : Int → Int) (l : List Int) : card (l.map f) ≤ card l := by
  have : card (l.map f) ≤ ((asc l).map f).length := card_of_le fun z hz => by
    rw [List.mem_map] at hz ⊢
    obtain ⟨x, hx, rfl⟩ := hz
    exact ⟨x, ((asc_spec l).2 x).2 hx, rfl⟩
  simpa [card] using this
theorem card_nil : card [] = 0 := by simp [card, asc_nil]
theorem card_pos {l : List Int} (h : l ≠ []) : 0 < card l := by
  cases l with
  | nil => exact absurd rfl h
  | cons x l => exact List.length_pos_of_mem (((asc_spec (x :: l)).2 x).2 (List.mem_cons_self ..))
theorem card_eq_nil {l : List Int} (h : card l = 0) : l = [] := Decidable.byContradiction fun hn => by have := card_pos hn; omega

/-- one line has room for s cells. -/
theorem one_line (ys : List Int) (q s : Int) (hs : 1 ≤ s) (hn : ys.Nodup) (hq : ∀ y ∈ ys, y / s = q) : ys.length ≤ s.toNat := by
  have h1 : ∀ y ∈ ys, y ∈ (List.range s.toNat).map fun i : Nat => q * s + (i : Int) := by
    intro y hy
    have h := hq y hy
    have h2 := Int.emod_nonneg y (show s ≠ 0 by omega)
    have h3 := Int.emod_lt_of_pos y (show 0 < s by omega)
    have h4 := Int.mul_ediv_add_emod y s
    rw [List.mem_map]
    refine ⟨(y % s).toNat, by rw [List.mem_range]; omega, ?_⟩
    rw [← h, Int.mul_comm]
    omega
  have := nodup_le _ _ hn h1
  simpa using this
theorem lines_room : ∀ (qs ys : List Int) (s : Int), 1 ≤ s → ys.Nodup → (∀ y ∈ ys, y / s ∈ qs) → ys.length ≤ qs.length * s.toNat
  | [], ys, s, _, _, h => by
    cases ys with
    | nil => simp
    | cons y ys => exact absurd (h y (List.mem_cons_self ..)) (by simp)
  | q :: qs, ys, s, hs, hn, h => by
    have hp := one_line (ys.filter fun y => y / s == q) q s hs (List.Nodup.sublist List.filter_sublist hn) (fun y hy => by
      have := (List.mem_filter.1 hy).2
      simpa using this)
    have hr := lines_room qs (ys.filter fun y => !(y / s == q)) s hs (List.Nodup.sublist List.filter_sublist hn) (fun y hy => by
      have h1 := List.mem_filter.1 hy
      have h2 := h y h1.1
      rw [List.mem_cons] at h2
      rcases h2 with e | e
      · have := h1.2; simp [e] at this
      · exact e)
    have hsum : ∀ l : List Int, l.length = (l.filter fun y => y / s == q).length + (l.filter fun y => !(y / s == q)).length := by
      intro l
      induction l with
      | nil => rfl
      | cons y l ih =>
        by_cases e : (y / s == q) = true
        · rw [List.filter_cons_of_pos (by simpa using e), List.filter_cons_of_neg (by simp [e])]
          simp only [List.length_cons]; omega
        · rw [List.filter_cons_of_neg (by simpa using e), List.filter_cons_of_pos (by simpa using e)]
          simp only [List.length_cons]; omega
    have := hsum ys
    rw [List.length_cons, Nat.succ_mul]
    omega
/-- as many lines as so many different cells need. -/
theorem card_lines (l : List Int) (s : Int) (hs : 1 ≤ s) : card l ≤ card (l.map (· / s)) * s.toNat :=
  lines_room (asc (l.map (· / s))) (asc l) s hs (up_nodup (asc_spec l).1) fun y hy => ((asc_spec _).2 _).2 (by
    rw [List.mem_map]
    exact ⟨y, ((asc_spec l).2 y).1 hy, rfl⟩)
theorem lines_double (l : List Int) (s : Int) (hs : 1 ≤ s) : card (l.map (· / (2 * s))) ≤ card (l.map (· / s)) := by
  have : l.map (· / (2 * s)) = (l.map (· / s)).map (· / 2) := by
    rw [List.map_map]
    refine List.map_congr_left fun z _ => ?_
    show z / (2 * s) = z / s / 2
    rw [Int.ediv_ediv_of_nonneg (by omega), Int.mul_comm]
  rw [this]
  exact card_map _ _
theorem asc_map_add (l : List Int) (k : Int) : asc (l.map (· + k)) = (asc l).map (· + k) := by
  refine asc_eq ?_ fun z => ?_
  · exact List.pairwise_map.2 (List.Pairwise.imp (fun {x y} (h : x < y) => by show x + k < y + k; omega) (asc_spec l).1)
  · simp only [List.mem_map]
    constructor
    · rintro ⟨y, hy, rfl⟩
      exact ⟨y, ((asc_spec l).2 y).1 hy, rfl⟩
    · rintro ⟨y, hy, rfl⟩
      exact ⟨y, ((asc_spec l).2 y).2 hy, rfl⟩
theorem lines_shift (l : List Int) (s : Int) (hs : 1 ≤ s) : asc ((l.map (· + s)).map (· / s)) = (asc (l.map (· / s))).map (· + 1) := by
  rw [← asc_map_add]
  congr 1
  rw [List.map_map, List.map_map]
  refine List.map_congr_left fun z _ => ?_
  show (z + s) / s = z / s + 1
  rw [Int.add_ediv_of_dvd_right (Int.dvd_refl s), Int.ediv_self (by omega)]
theorem asc_reverse (l : List Int) : asc l.reverse = asc l := asc_congr fun z => List.mem_reverse
theorem up_lt {ys : List Int} (h : Up ys) {j : Nat} (hj : j < ys.length) (h1 : 1 ≤ j) : ys[j - 1] < ys[j] := List.pairwise_iff_getElem.1 h (j - 1) j (by omega) hj (by omega)
end Go.Proofs.Ytjgmghlgjjfifaa
