/-
  Contracts of LinesTouched and IsGathered of the program and of the reference; of the laws' helper toIntS.
-/
import Derived.Test.YtjgmghlgjjfifaaCLines
namespace Go.Proofs.Ytjgmghlgjjfifaa
open Go.RowKit
set_option maxHeartbeats 400000
set_option linter.unusedVariables false

theorem ints_zeros (n : Nat) : (madeCells (Value.int .i64 0).cells (n * 1)).toList = ints (List.replicate n 0) := by
  apply List.ext_getElem?
  intro i
  by_cases h : i < n
  · simp [madeCells, h, Value.cells, ints, Nat.mod_one]
  · rw [List.getElem?_eq_none (by simp [madeCells]; omega), List.getElem?_eq_none (by simp [ints]; omega)]
theorem toIntS_any (A : Option Addr) (c : Nat) (zs : List Int) (w : World) (hl : zs.length ≤ 1048576) (hs : Sl w A (ints zs)) :
    Calls Try.prog 14 #[.slice A zs.length c] w (RetInts zs w) := by
  obtain ⟨i0, hi0, hz0, hz1, hz2⟩ := info_parts Ei.hi
  go_enter Try.func14, Try.ntmps14
  go_wp2_with (at_make; refine wpList_make_full _ rfl _ _ _ rfl w.heap.size _ i0 _ 1 Ei.ht hi0 hz0 hz1 _ _ _ _ zs.length rfl rfl rfl rfl (by rw [hz2]; omega) (by simp only [maxLen]; omega) (Nat.le_refl _) ?_; intro w1 hown1 hg1; have HO := mkHid hown1; have HG := mkHid hg1; clear hown1 hg1)
  go_loopw [4] (fun i wr => ∃ k : Nat, k ≤ zs.length ∧ i = .int .i64 k ∧ wr.ownsRow w.heap.size 3 1 (.slice (some ⟨w.heap.size, 0, none⟩) zs.length zs.length) zs.length (ints (zs.take k ++ List.replicate (zs.length - k) 0)) ∧ Below w.heap.size w wr) (fun i _ => zs.length - (intOf i).toNat)
  case atStart =>
    refine ⟨0, by omega, rfl, ?_, (Below.refl _ _).grown HG.out (Nat.le_refl _) (by simp)⟩
    have := HO.out
    rw [ints_zeros] at this
    simpa using this
  case round =>
    obtain ⟨k, hk, rfl, hown, hb⟩ := hrel
    have hs' := hs.below hb
    have HB := mkHid hb
    have hsz := hb.size
    clear hb
    by_cases hlt : k < zs.length
    · obtain ⟨b, off, rfl, hc⟩ := hs'.at_ (k := k) (by simpa using hlt)
      have h1 : wr.cell? ⟨b, off + k, none⟩ = some (.int .i64 zs[k]) := hc k _ (ints_at hlt)
      obtain ⟨g, hg, hgb, hgs, hcell, hfr, hst⟩ := own_open hown (i := k) (by simp; omega)
      injection hg with hg
      injection hg with hg
      subst hg
      have HS := mkHid (hst (.int .i64 zs[k]))
      have HE := mkHid (set_take_fill zs 0 k hlt)
      have HG := mkHid (grown_setCell' (World.grownBy.refl wr (some w.heap.size)) k (.int .i64 zs[k]))
      clear hst hown hc hs hs'
      go_wp2_with fail
      go_roundw
      case rel =>
        refine ⟨k + 1, by omega, by go_num, ?_, below_grown HB.out HG.out (by simp)⟩
        rw [← HE.out]
        have := HS.out
        simpa [ints] using this
      case measure => simp [intOf]; omega
    · have : k = zs.length := by omega
      subst this
      go_wp2_with fail
      go_ret
      refine ⟨_, _, rfl, by simpa using hown, HB.out⟩
theorem implLinesTouched_any (A : Option Addr) (c : Nat) (zs : List Int) (s : Int) (w : World) (hl : zs.length ≤ 9223372036854775807) (hs : Sl w A (ints zs)) :
    Calls Try.prog 30 #[.slice A zs.length c, .int .i64 s] w fun e w' => e = .returned (.int .i64 (linesTouched zs s)) ∧ Below w.heap.size w w' := by
  go_enter Try.func30, Try.ntmps30
  go_wp2_with fail
  refine (areCells_any _ _ _ _ hl hs).mono ?_
  rintro e w1 ⟨rfl, hb⟩
  have HB := mkHid hb
  have hs1 := hs.below hb
  clear hb hs
  cases ha : areCells zs with
  | false =>
    have HL := mkHid (linesTouched_no (s := s) (.inl ha))
    clear ha
    go_wp2_with fail
    go_ret
    exact ⟨ret_int HL.out.symm, HB.out⟩
  | true =>
    have HA := mkHid ha
    clear ha
    go_wp2_with fail
    refine (isLineSize_any _ _).mono ?_
    rintro e w2 ⟨rfl, rfl⟩
    cases hi : inB s 1 64 with
    | false =>
      have HL := mkHid (linesTouched_no (zs := zs) (.inr hi))
      clear hi
      go_wp2_with fail
      go_ret
      exact ⟨ret_int HL.out.symm, HB.out⟩
    | true =>
      have h8 := areCells_all HA.out
      have hi2 := inB_t hi
      have HL := mkHid (linesTouched_yes HA.out hi)
      have HC := mkHid (lineNumbersIn_any A c zs s w1 h8.1 h8.2 hi2.1 hi2.2 hs1)
      clear hi h8
      go_wp2_with fail
      refine HC.out.mono ?_
      rintro e w3 ⟨A3, c3, rfl, o3, b3⟩
      have HR := mkHid (below_then HB.out b3)
      clear o3 b3
      go_wp2_with fail
      go_ret
      exact ⟨ret_int HL.out.symm, HR.out⟩
theorem specLinesTouched_any (A : Option Addr) (c : Nat) (zs : List Int) (s : Int) (w : World) (hl : zs.length ≤ 1000000000) (hs : Sl w A (ints zs)) :
    Calls Try.prog 56 #[.slice A zs.length c, .int .i64 s] w fun e w' => e = .returned (.int .i64 (linesTouched zs s)) ∧ Below w.heap.size w w' := by
  have h0 := l12Ok_any A c zs s w (by omega) hs
  cases hok : (areCells zs && inB s 1 64) with
  | false =>
    rw [hok] at h0
    have hno : linesTouched zs s = -1 := by simp [linesTouched, hok]
    have HN := mkHid hno
    have H0 := mkHid h0
    clear hok hno h0
    go_enter Try.func56, Try.ntmps56
    go_wp2_with fail
    refine H0.out.mono ?_
    rintro e w1 ⟨rfl, rfl⟩
    go_wp2_with fail
    go_ret
    exact ⟨ret_int HN.out.symm, Below.refl _ _⟩
  | true =>
    rw [hok] at h0
    have h2 := hok
    rw [Bool.and_eq_true] at h2
    have HN := mkHid (linesTouched_yes h2.1 h2.2)
    have hC := specLineNumbers_any A c zs s w hl hs
    rw [lineNumbers_yes h2.1 h2.2] at hC
    have H0 := mkHid h0
    have HC := mkHid hC
    clear hok h2 h0 hC
    go_enter Try.func56, Try.ntmps56
    go_wp2_with fail
    refine H0.out.mono ?_
    rintro e w1 ⟨rfl, rfl⟩
    go_wp2_with fail
    refine HC.out.mono ?_
    rintro e w3 ⟨A3, c3, rfl, o3, b3⟩
    have HR := mkHid b3
    clear o3 b3
    go_wp2_with fail
    go_ret
    exact ⟨ret_int HN.out.symm, HR.out⟩
/-- whether cells touch as few lines as they can. -/
def gathered (zs : List Int) (s : Int) : Bool := areCells zs && inB s 1 64 && decide (((linesOf zs s).length : Int) = linesLeast (linesOf zs 1).length s)
theorem map_div_one (zs : List Int) : zs.map (· / (1 : Int)) = zs := by
  induction zs with
  | nil => rfl
  | cons z zs ih => rw [List.map_cons, ih]; simp
theorem implIsGathered_any (A : Option Addr) (c : Nat) (zs : List Int) (s : Int) (w : World) (hl : zs.length ≤ 9223372036854775807) (hs : Sl w A (ints zs)) :
    Calls Try.prog 28 #[.slice A zs.length c, .int .i64 s] w fun e w' => e = .returned (.bool (gathered zs s)) ∧ Below w.heap.size w w' := by
  go_enter Try.func28, Try.ntmps28
  go_wp2_with fail
  refine (areCells_any _ _ _ _ hl hs).mono ?_
  rintro e w1 ⟨rfl, hb⟩
  have HB := mkHid hb
  have hs1 := hs.below hb
  clear hb hs
  cases ha : areCells zs with
  | false =>
    have HL : Hid (gathered zs s = false) := mkHid (by simp [gathered, ha])
    clear ha
    go_wp2_with fail
    go_ret
    exact ⟨ret_bool HL.out.symm, HB.out⟩
  | true =>
    have HA := mkHid ha
    clear ha
    go_wp2_with fail
    refine (isLineSize_any _ _).mono ?_
    rintro e w2 ⟨rfl, rfl⟩
    cases hi : inB s 1 64 with
    | false =>
      have HL : Hid (gathered zs s = false) := mkHid (by simp [gathered, hi])
      clear hi
      go_wp2_with fail
      go_ret
      exact ⟨ret_bool HL.out.symm, HB.out⟩
    | true =>
      have h8 := areCells_all HA.out
      have hi2 := inB_t hi
      have HL : Hid (gathered zs s = decide (((linesOf zs s).length : Int) = linesLeast (linesOf zs 1).length s)) := mkHid (by simp [gathered, hi, HA.out])
      have h8l := h8.1
      have HC := mkHid (lineNumbersIn_any A c zs s w1 h8.1 h8.2 hi2.1 hi2.2 hs1)
      have HS1 := mkHid hs1
      have hll : (asc zs).length ≤ 8 := Nat.le_trans (asc_le _) h8.1
      have hle : (linesOf zs 1).length = (asc zs).length := by unfold linesOf; rw [map_div_one]
      rw [hle] at HL
      clear hi h8 hs1 hle
      go_wp2_with fail
      refine HC.out.mono ?_
      rintro e w3 ⟨A3, c3, rfl, o3, b3⟩
      have HR := mkHid (below_then HB.out b3)
      have HS3 := mkHid (HS1.out.below b3)
      clear o3 b3
      go_wp2_with fail
      refine (cloneInts_any _ _ _ _ (by omega) HS3.out).mono ?_
      rintro e w4 ⟨A4, c4, rfl, o4, b4⟩
      have HR4 := mkHid (below_then HR.out b4)
      have HO4 := mkHid o4
      clear o4 b4
      go_wp2_with fail
      refine (ascending_any _ _ _ _ _ (by omega) HO4.out).mono ?_
      rintro e w5 ⟨rfl, o5, g5⟩
      have HR5 := mkHid (below_grown HR4.out g5 (fun g hg => Nat.le_trans HR.out.size (HO4.out.lt g hg).1))
      clear o5 g5
      go_wp2_with fail
      refine (implLinesLeast_any _ _ _).mono ?_
      rintro e w6 ⟨rfl, rfl⟩
      go_wp2_with fail
      go_ret
      exact ⟨ret_bool (by rw [HL.out]; rw [Bool.eq_iff_iff]; simp), HR5.out⟩
theorem specIsGathered_any (A : Option Addr) (c : Nat) (zs : List Int) (s : Int) (w : World) (hl : zs.length ≤ 1000000000) (hs : Sl w A (ints zs)) :
    Calls Try.prog 34 #[.slice A zs.length c, .int .i64 s] w fun e w' => e = .returned (.bool (gathered zs s)) ∧ Below w.heap.size w w' := by
  have h0 := l12Ok_any A c zs s w (by omega) hs
  cases hok : (areCells zs && inB s 1 64) with
  | false =>
    rw [hok] at h0
    have hno : gathered zs s = false := by simp [gathered, hok]
    have HN := mkHid hno
    have H0 := mkHid h0
    clear hok hno h0
    go_enter Try.func34, Try.ntmps34
    go_wp2_with fail
    refine H0.out.mono ?_
    rintro e w1 ⟨rfl, rfl⟩
    go_wp2_with fail
    go_ret
    exact ⟨ret_bool HN.out.symm, Below.refl _ _⟩
  | true =>
    rw [hok] at h0
    have h2 := hok
    rw [Bool.and_eq_true] at h2
    have HN : Hid (gathered zs s = decide (((linesOf zs s).length : Int) = linesLeast (linesOf zs 1).length s)) := mkHid (by simp [gathered, h2.1, h2.2])
    have h8l := (areCells_all h2.1).1
    have hC := specLinesTouched_any A c zs s w hl hs
    rw [linesTouched_yes h2.1 h2.2] at hC
    have H0 := mkHid h0
    have HC := mkHid hC
    have HD := mkHid (lineNumbers_yes (s := 1) h2.1 (by decide))
    have hlen : (linesOf zs 1).length ≤ 8 := Nat.le_trans (asc_le _) (by simpa using h8l)
    clear hok h2 h0 hC
    go_enter Try.func34, Try.ntmps34
    go_wp2_with fail
    refine H0.out.mono ?_
    rintro e w1 ⟨rfl, rfl⟩
    go_wp2_with fail
    refine HC.out.mono ?_
    rintro e w3 ⟨rfl, b3⟩
    have HR := mkHid b3
    have HS3 := mkHid (hs.below b3)
    have hD := specLineNumbers_any A c zs 1 w3 hl HS3.out
    rw [HD.out] at hD
    have HE := mkHid hD
    clear b3 hD
    go_wp2_with fail
    refine HE.out.mono ?_
    rintro e w4 ⟨A4, c4, rfl, o4, b4⟩
    have HR4 := mkHid (below_then HR.out b4)
    clear o4 b4
    go_wp2_with fail
    refine (specLinesLeast_any _ _ _).mono ?_
    rintro e w5 ⟨rfl, rfl⟩
    go_wp2_with fail
    go_ret
    exact ⟨ret_bool (by rw [HN.out]; rw [Bool.eq_iff_iff]; simp), HR4.out⟩
end Go.Proofs.Ytjgmghlgjjfifaa
