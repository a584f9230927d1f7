/-
  Contracts of the cells' lines: l12Ok, areCells, LineNumbers, LinesTouched, IsGathered of the program and of the reference.
-/
import Derived.Test.YtjgmghlgjjfifaaCFunc
import Derived.Test.YtjgmghlgjjfifaaCNum
import Derived.Test.YtjgmghlgjjfifaaCCells
import Derived.Test.YtjgmghlgjjfifaaCSpecCells
namespace Go.Proofs.Ytjgmghlgjjfifaa
open Go.RowKit
set_option maxHeartbeats 400000
set_option linter.unusedVariables false

def areCells (zs : List Int) : Bool := decide (zs.length ≤ 8) && zs.all fun z => inB z 0 255
theorem areCells_all {zs : List Int} (h : areCells zs = true) : zs.length ≤ 8 ∧ ∀ z ∈ zs, 0 ≤ z ∧ z ≤ 255 := by
  simp only [areCells, Bool.and_eq_true, decide_eq_true_eq, List.all_eq_true] at h
  exact ⟨h.1, fun z hz => inB_t (h.2 z hz)⟩
theorem areCells_of {zs : List Int} (h : zs.length ≤ 8) (h' : ∀ z ∈ zs, 0 ≤ z ∧ z ≤ 255) : areCells zs = true := by
  simp only [areCells, Bool.and_eq_true, decide_eq_true_eq, List.all_eq_true]
  exact ⟨h, fun z hz => inB_of (h' z hz).1 (h' z hz).2⟩
theorem any_all (zs : List Int) : zs.any (fun z => !inB z 0 255) = !zs.all (fun z => inB z 0 255) := by
  induction zs with
  | nil => rfl
  | cons z zs ih => rw [List.any_cons, List.all_cons, ih, Bool.not_and]
/-- the lines that cells touch. -/
def linesOf (zs : List Int) (s : Int) : List Int := asc (zs.map (· / s))
def lineNumbers (zs : List Int) (s : Int) : List Int := if areCells zs && inB s 1 64 then linesOf zs s else []
theorem lineNumbers_le (zs : List Int) (s : Int) : (lineNumbers zs s).length ≤ zs.length := by
  unfold lineNumbers
  split
  · exact Nat.le_trans (asc_le _) (by simp)
  · simp
theorem lineNumbers_yes {zs : List Int} {s : Int} (h : areCells zs = true) (h' : inB s 1 64 = true) : lineNumbers zs s = linesOf zs s := by simp [lineNumbers, h, h']
theorem lineNumbers_no {zs : List Int} {s : Int} (h : areCells zs = false ∨ inB s 1 64 = false) : lineNumbers zs s = [] := by
  unfold lineNumbers
  rcases h with h | h <;> simp [h]
def linesTouched (zs : List Int) (s : Int) : Int := if areCells zs && inB s 1 64 then (linesOf zs s).length else -1
theorem linesTouched_yes {zs : List Int} {s : Int} (h : areCells zs = true) (h' : inB s 1 64 = true) : linesTouched zs s = (linesOf zs s).length := by simp [linesTouched, h, h']
theorem linesTouched_no {zs : List Int} {s : Int} (h : areCells zs = false ∨ inB s 1 64 = false) : linesTouched zs s = -1 := by
  unfold linesTouched
  rcases h with h | h <;> simp [h]
theorem RetInts_none {w w' : World} (h : Below w.heap.size w w') : RetInts [] w (.returned (.slice none 0 0)) w' := ⟨none, 0, rfl, World.ownsRow_nil _ _ _ _, h⟩

theorem l12Ok_any (A : Option Addr) (c : Nat) (zs : List Int) (s : Int) (w : World) (hl : zs.length ≤ 9223372036854775807) (hs : Sl w A (ints zs)) :
    Calls Try.prog 40 #[.slice A zs.length c, .int .i64 s] w fun e w' => e = .returned (.bool (areCells zs && inB s 1 64)) ∧ w = w' := by
  go_enter Try.func40, Try.ntmps40
  go_wp2_with fail
  go_loop [5] (fun iv => ∃ k : Nat, k ≤ zs.length ∧ iv = .int .i64 k ∧ Hid (∀ j (h : j < zs.length), j < k → inB zs[j] 0 255 = true)) (fun iv => zs.length - (intOf iv).toNat)
  case atStart => exact ⟨0, by omega, rfl, mkHid (fun j h h' => absurd h' (by omega))⟩
  case round =>
    obtain ⟨k, hk, rfl, HN⟩ := hrel
    by_cases hlt : k < zs.length
    · obtain ⟨b, off, rfl, hc⟩ := hs.at_ (k := k) (by simpa using hlt)
      have h1 : w.cell? ⟨b, off + k, none⟩ = some (.int .i64 zs[k]) := hc k _ (ints_at hlt)
      clear hc hs
      cases hp : inB zs[k] 0 255 with
      | true =>
        have HP := mkHid hp
        have hC := fun w => l1In_any zs[k] 0 255 w
        simp only [hp] at hC
        have HC := mkHid hC
        clear hp hC
        go_wp2_with (go_at_call 41; refine (HC.out _).mono ?_; rintro e w' ⟨rfl, rfl⟩)
        go_round
        case rel =>
          refine ⟨k + 1, by omega, by go_num, mkHid (fun j h h' => ?_)⟩
          by_cases e : j = k
          · subst e; exact HP.out
          · exact HN.out j h (by omega)
        case measure => simp [intOf]; omega
      | false =>
        have HP := mkHid hp
        have hC := fun w => l1In_any zs[k] 0 255 w
        simp only [hp] at hC
        have HC := mkHid hC
        clear hp hC
        go_wp2_with (go_at_call 41; refine (HC.out _).mono ?_; rintro e w' ⟨rfl, rfl⟩)
        go_ret
        refine ⟨ret_bool ?_, rfl⟩
        have : areCells zs = false := by
          rw [Bool.eq_false_iff]
          intro h
          have := (areCells_all h).2 zs[k] (List.getElem_mem hlt)
          have := inB_f HP.out
          omega
        rw [this]; rfl
    · have hall : ∀ z ∈ zs, 0 ≤ z ∧ z ≤ 255 := fun z hz => by
        obtain ⟨j, hj, rfl⟩ := List.mem_iff_getElem.1 hz
        exact inB_t (HN.out j hj (by omega))
      have HA := mkHid hall
      clear hall
      by_cases h8 : zs.length ≤ 8
      · go_wp2_with (go_at_call 41; refine (l1In_any _ _ _ _).mono ?_; rintro e w' ⟨rfl, rfl⟩)
        go_ret
        refine ⟨ret_bool ?_, rfl⟩
        rw [areCells_of h8 HA.out]; simp
      · go_wp2_with fail
        go_ret
        refine ⟨ret_bool ?_, rfl⟩
        have : areCells zs = false := by
          rw [Bool.eq_false_iff]
          intro h
          exact h8 (areCells_all h).1
        rw [this]; rfl
theorem notCell_any (z : Int) (w : World) : Calls Try.prog 59 #[.int .i64 z] w fun e w' => e = .returned (.bool (!inB z 0 255)) ∧ Below w.heap.size w w' := by
  go_enter Try.func59, Try.ntmps59
  go_wp2_with (go_at_call 48; refine (isCell_any _ _).mono ?_; rintro e w' ⟨rfl, rfl⟩)
  go_ret
  exact ⟨rfl, Below.refl _ _⟩
theorem notCell_answers (zs : List Int) (w : World) : Answers (.func (.func 59) #[] #[]) (fun z => !inB z 0 255) zs w :=
  ⟨59, #[], rfl, fun args w => by kernel_rfl, fun z _ X _ => by simpa using notCell_any z X⟩
theorem areCells_any (A : Option Addr) (c : Nat) (zs : List Int) (w : World) (hl : zs.length ≤ 9223372036854775807) (hs : Sl w A (ints zs)) :
    Calls Try.prog 36 #[.slice A zs.length c] w fun e w' => e = .returned (.bool (areCells zs)) ∧ Below w.heap.size w w' := by
  by_cases h8 : zs.length ≤ 8
  · go_enter Try.func36, Try.ntmps36
    go_wp2_with fail
    refine (containsFunc_any _ _ _ _ _ _ hl hs (notCell_answers zs w)).mono ?_
    rintro e w1 ⟨rfl, hb⟩
    have HB := mkHid hb
    have HE := mkHid (any_all zs)
    clear hb hs
    generalize zs.any (fun z => !inB z 0 255) = b at *
    go_wp2_with fail
    go_ret
    refine ⟨ret_bool ?_, HB.out⟩
    rw [HE.out]
    simp [areCells, h8]
  · go_enter Try.func36, Try.ntmps36
    go_wp2_with fail
    go_ret
    refine ⟨ret_bool ?_, Below.refl _ _⟩
    simp [areCells, h8]
theorem lineNumbersIn_any (A : Option Addr) (c : Nat) (zs : List Int) (s : Int) (w : World) (hl : zs.length ≤ 8) (hz : ∀ z ∈ zs, 0 ≤ z ∧ z ≤ 255) (h1 : 1 ≤ s) (h2 : s ≤ 64) (hs : Sl w A (ints zs)) :
    Calls Try.prog 52 #[.slice A zs.length c, .int .i64 s] w (RetInts (linesOf zs s) w) := by
  have HZ := mkHid hz
  clear hz
  go_enter Try.func52, Try.ntmps52
  go_wp2_with fail
  go_loopw [5, 10] (fun v i wr => ∃ k : Nat, k ≤ zs.length ∧ i = .int .i64 k ∧ (∃ A c, v = .slice A k c ∧ wr.ownsRow w.heap.size 3 1 (.slice A k c) k (ints ((zs.take k).map (· / s)))) ∧ Below w.heap.size w wr) (fun _ i _ => zs.length - (intOf i).toNat)
  case atStart => exact ⟨0, by omega, rfl, ⟨none, 0, rfl, World.ownsRow_nil _ _ _ _⟩, Below.refl _ _⟩
  case round =>
    obtain ⟨k, hk, rfl, ⟨A1, c1, rfl, hown⟩, hb⟩ := hrel
    have hsz := hb.size
    have HB := mkHid hb
    have HO := mkHid hown
    have hs1 := hs.below hb
    clear hb hown
    by_cases hlt : k < zs.length
    · obtain ⟨b, off, rfl, hc⟩ := hs1.at_ (k := k) (by simpa using hlt)
      have h1 : wr.cell? ⟨b, off + k, none⟩ = some (.int .i64 zs[k]) := hc k _ (ints_at hlt)
      have hzk := HZ.out zs[k] (List.getElem_mem hlt)
      have HT : Hid ((zs.take (k + 1)).map (· / s) = (zs.take k).map (· / s) ++ [zs[k] / s]) := mkHid (by rw [List.take_succ_eq_append_getElem hlt, List.map_append]; rfl)
      clear hc hs1 hs
      go_wp2_with (at_builtin; refine wpList_app Ei (HO.out.alloc _) (newCells _ _ _) rfl (by simp [Value.oneCell']) (by omega) (by omega) (by simp; omega) rfl rfl rfl rfl ?_; intro A' c' w1 hown1 hg1; have HO1 := mkHid hown1; have HG1 := mkHid hg1; clear hown1 hg1)
      go_roundw
      case rel =>
        refine ⟨k + 1, by omega, by go_num, ⟨A', c', rfl, ?_⟩, ?_⟩
        · rw [HT.out]
          simpa [ints] using HO1.out
        · exact (HB.out.alloc hsz _).grown HG1.out (by simp; omega) (fun g hg => (HO.out.lt g hg).1)
      case measure => simp [intOf]; omega
    · have : k = zs.length := by omega
      subst this
      have hO := HO.out
      rw [List.take_length] at hO
      have hlen : (zs.map (· / s)).length = zs.length := by simp
      have hA := ascending_any A1 c1 (zs.map (· / s)) w.heap.size wr (by simp; omega) (by rw [hlen]; exact hO)
      rw [hlen] at hA
      have HA := mkHid hA
      have HO := mkHid hO
      clear hO hA hlen
      go_wp2_with fail
      refine HA.out.mono ?_
      intro e w2 hR
      have hR2 := RetInts_asc hR HB.out (by have := HO.out; simpa using this)
      obtain ⟨A2, c2, rfl, ho2, hb2⟩ := hR2
      have HR := mkHid (And.intro ho2 hb2)
      clear ho2 hb2 hR
      go_wp2_with fail
      go_ret
      exact ⟨A2, c2, rfl, HR.out.1, HR.out.2⟩
def lineAccs (zs : List Int) (s : Int) : List Acc := zs.map fun z => ⟨0, z / s, true, 0⟩
theorem lineAccs_written (zs : List Int) (s : Int) : writtenCells (lineAccs zs s) = zs.map (· / s) := by
  induction zs with
  | nil => rfl
  | cons z zs ih =>
    simp only [lineAccs, writtenCells, List.map_cons, List.filter_cons_of_pos] at ih ⊢
    rw [ih]
theorem specLineNumbers_any (A : Option Addr) (c : Nat) (zs : List Int) (s : Int) (w : World) (hl : zs.length ≤ 1000000000) (hs : Sl w A (ints zs)) :
    Calls Try.prog 42 #[.slice A zs.length c, .int .i64 s] w (RetInts (lineNumbers zs s) w) := by
  cases hok : (areCells zs && inB s 1 64) with
  | false =>
    have hno : lineNumbers zs s = [] := by simp [lineNumbers, hok]
    have HN := mkHid hno
    have HOK := mkHid hok
    clear hok hno
    go_enter Try.func42, Try.ntmps42
    go_wp2_with fail
    go_loopw [5, 6] (fun v i wr => v = .slice (some ⟨w.heap.size, 0, none⟩) 0 0 ∧ i = .int .i64 0 ∧ wr = w.alloc (.cells #[] 52)) (fun _ _ _ => 0)
    case atStart => exact ⟨rfl, rfl, rfl⟩
    case round =>
      obtain ⟨rfl, rfl, rfl⟩ := hrel
      have hE := specCellsWritten_any (some ⟨w.heap.size, 0, none⟩) 0 [] (w.alloc (.cells #[] 52)) (by simp) (Sl.nil _ _)
      have hnil : asc (writtenCells []) = [] := asc_nil
      rw [hnil] at hE
      have HE := mkHid hE
      have HS := mkHid (hs.alloc (.cells #[] 52))
      clear hE hnil hs
      by_cases h0 : 0 < zs.length
      · have hC := l12Ok_any A c zs s (w.alloc (.cells #[] 52)) (by omega) HS.out
        rw [HOK.out] at hC
        have HC := mkHid hC
        clear hC
        go_wp2_with fail
        refine HC.out.mono ?_
        rintro e w1 ⟨rfl, rfl⟩
        go_wp2_with fail
        refine HE.out.mono ?_
        rintro e w2 ⟨A2, c2, rfl, o2, b2⟩
        have HR := mkHid (And.intro (own_base o2 (base' := w.heap.size) (by simp)) (below_then ((Below.refl _ _).alloc (Nat.le_refl _) _) b2))
        clear o2 b2
        go_wp2_with fail
        go_ret
        rw [HN.out]
        exact ⟨A2, c2, rfl, HR.out.1, HR.out.2⟩
      · obtain rfl : zs = [] := List.eq_nil_of_length_eq_zero (by omega)
        go_wp2_with fail
        refine HE.out.mono ?_
        rintro e w2 ⟨A2, c2, rfl, o2, b2⟩
        have HR := mkHid (And.intro (own_base o2 (base' := w.heap.size) (by simp)) (below_then ((Below.refl _ _).alloc (Nat.le_refl _) _) b2))
        clear o2 b2
        go_wp2_with fail
        go_ret
        rw [HN.out]
        exact ⟨A2, c2, rfl, HR.out.1, HR.out.2⟩
  | true =>
    have h2 := hok
    rw [Bool.and_eq_true] at h2
    obtain ⟨h8, hz⟩ := areCells_all h2.1
    have hi2 := inB_t h2.2
    have HN := mkHid (lineNumbers_yes h2.1 h2.2)
    have HOK := mkHid hok
    have HZ := mkHid hz
    clear hok h2 hz
    go_enter Try.func42, Try.ntmps42
    go_wp2_with fail
    go_loopw [5, 6] (fun v i wr => ∃ k : Nat, k ≤ zs.length ∧ i = .int .i64 k ∧ (∃ A c, v = .slice A k c ∧ wr.ownsRow w.heap.size 52 4 (.slice A k c) k (flat (lineAccs (zs.take k) s))) ∧ Below w.heap.size w wr) (fun _ i _ => zs.length - (intOf i).toNat)
    case atStart => exact ⟨0, by omega, rfl, ⟨_, 0, rfl, own_empty w _ _⟩, (Below.refl _ _).alloc (Nat.le_refl _) _⟩
    case round =>
      obtain ⟨k, hk, rfl, ⟨A1, c1, rfl, hown⟩, hb⟩ := hrel
      have hsz := hb.size
      have HB := mkHid hb
      have HO := mkHid hown
      have hs1 := hs.below hb
      have HS := mkHid hs1
      clear hb hown
      by_cases hlt : k < zs.length
      · obtain ⟨b, off, rfl, hc⟩ := hs1.at_ (k := k) (by simpa using hlt)
        have h1 : wr.cell? ⟨b, off + k, none⟩ = some (.int .i64 zs[k]) := hc k _ (ints_at hlt)
        have hzk := HZ.out zs[k] (List.getElem_mem hlt)
        have HT : Hid (lineAccs (zs.take (k + 1)) s = lineAccs (zs.take k) s ++ [⟨0, zs[k] / s, true, 0⟩]) := mkHid (by rw [List.take_succ_eq_append_getElem hlt, lineAccs, List.map_append]; rfl)
        have hC := l12Ok_any (some ⟨b, off, none⟩) c zs s wr (by omega) HS.out
        rw [HOK.out] at hC
        have HC := mkHid hC
        clear hc hs1 hs hC
        go_wp2_with fail
        refine HC.out.mono ?_
        rintro e w1 ⟨rfl, rfl⟩
        go_wp2_with (at_builtin; refine wpList_app Ea (HO.out.alloc _) (newCells _ _ _) rfl (by simp [Value.oneCell']) (by omega) (by omega) (by simp; omega) rfl rfl rfl rfl ?_; intro A' c' w1 hown1 hg1; have HO1 := mkHid hown1; have HG1 := mkHid hg1; clear hown1 hg1)
        go_roundw
        case rel =>
          refine ⟨k + 1, by omega, by go_num, ⟨A', c', rfl, ?_⟩, ?_⟩
          · rw [HT.out, flat_append]
            exact HO1.out
          · exact (HB.out.alloc hsz _).grown HG1.out (by simp; omega) (fun g hg => (HO.out.lt g hg).1)
        case measure => simp [intOf]; omega
      · have : k = zs.length := by omega
        subst this
        have hO := HO.out
        rw [List.take_length] at hO
        have hlen : (lineAccs zs s).length = zs.length := by simp [lineAccs]
        have hE := specCellsWritten_any A1 c1 (lineAccs zs s) wr (by omega) (Sl.of_own hO)
        rw [hlen, lineAccs_written] at hE
        have HE := mkHid hE
        clear hE hO hlen
        go_wp2_with fail
        refine HE.out.mono ?_
        rintro e w2 ⟨A2, c2, rfl, o2, b2⟩
        have HR := mkHid (And.intro (own_base o2 hsz) (below_then HB.out b2))
        clear o2 b2
        go_wp2_with fail
        go_ret
        rw [HN.out]
        exact ⟨A2, c2, rfl, HR.out.1, HR.out.2⟩
end Go.Proofs.Ytjgmghlgjjfifaa
