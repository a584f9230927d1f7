/-
  Contracts of BankLoads of the program and of the reference.
-/
import Derived.Test.YtjgmghlgjjfifaaCLines2
import Derived.Test.YtjgmghlgjjfifaaPlainBanks
import Derived.RegionTactic
namespace Go.Proofs.Ytjgmghlgjjfifaa
open Go.RowKit
set_option maxHeartbeats 800000
set_option linter.unusedVariables false

def bankLoads (zs : List Int) (b : Int) : List Int := if areCells zs && inB b 1 32 then cnt (asc zs) b else []
theorem bankLoads_yes {zs : List Int} {b : Int} (h : areCells zs = true) (h' : inB b 1 32 = true) : bankLoads zs b = cnt (asc zs) b := by simp [bankLoads, h, h']
theorem bankLoads_no {zs : List Int} {b : Int} (h : areCells zs = false ∨ inB b 1 32 = false) : bankLoads zs b = [] := by
  unfold bankLoads
  rcases h with h | h <;> simp [h]
theorem bankLoads_le (zs : List Int) (b : Int) : (bankLoads zs b).length ≤ 32 := by
  unfold bankLoads
  split
  · rename_i h
    rw [Bool.and_eq_true] at h
    have := inB_t h.2
    rw [cnt_length]; omega
  · simp
theorem asc_cells {zs : List Int} (h : areCells zs = true) : (asc zs).length ≤ 8 ∧ ∀ z ∈ asc zs, 0 ≤ z ∧ z ≤ 255 := by
  have h8 := areCells_all h
  exact ⟨Nat.le_trans (asc_le _) h8.1, fun z hz => h8.2 z (((asc_spec zs).2 z).1 hz)⟩
theorem bank_of {c b : Int} (hc : 0 ≤ c ∧ c ≤ 255) (hb : 1 ≤ b ∧ b ≤ 32) : ∃ j : Nat, c % b = (j : Int) ∧ j < b.toNat := by
  have h1 := Int.emod_nonneg c (show b ≠ 0 by omega)
  have h2 := Int.emod_lt_of_pos c (show 0 < b by omega)
  exact ⟨(c % b).toNat, by omega, by omega⟩

theorem implBankLoads_no (A : Option Addr) (c : Nat) (zs : List Int) (b : Int) (w : World) (hl : zs.length ≤ 9223372036854775807) (hs : Sl w A (ints zs)) (hno : (areCells zs && inB b 1 32) = false) :
    Calls Try.prog 20 #[.slice A zs.length c, .int .i64 b] w fun e w' => e = .returned (.slice none 0 0) ∧ Below w.heap.size w w' := by
  go_enter Try.func20, Try.ntmps20
  go_wp2_with fail
  refine (areCells_any _ _ _ _ hl hs).mono ?_
  rintro e w1 ⟨rfl, hb⟩
  have HB := mkHid hb
  clear hb hs
  cases ha : areCells zs with
  | false =>
    clear ha hno
    go_wp2_with fail
    go_ret
    exact ⟨rfl, HB.out⟩
  | true =>
    rw [ha, Bool.true_and] at hno
    have hC := fun w => isBanks_any b w
    simp only [hno] at hC
    have HC := mkHid hC
    clear ha hno hC
    go_wp2_with fail
    refine (HC.out _).mono ?_
    rintro e w2 ⟨rfl, rfl⟩
    go_wp2_with fail
    go_ret
    exact ⟨rfl, HB.out⟩
theorem implBankLoads_yes (A : Option Addr) (c : Nat) (zs : List Int) (b : Int) (w : World) (hs : Sl w A (ints zs)) (ha : areCells zs = true) (hi : inB b 1 32 = true) :
    Calls Try.prog 20 #[.slice A zs.length c, .int .i64 b] w (RetInts (cnt (asc zs) b) w) := by
  obtain ⟨i0, hi0, hz0, hz1, hz2⟩ := info_parts Ei.hi
  have h8 := areCells_all ha
  have hl8 := h8.1
  have hb := inB_t hi
  have HAs := mkHid (asc_cells ha)
  have hal := HAs.out.1
  have hA := areCells_any A c zs w (by omega) hs
  rw [ha] at hA
  have HA := mkHid hA
  have hC := fun w => isBanks_any b w
  simp only [hi] at hC
  have HC := mkHid hC
  have HS := mkHid hs
  clear ha hi hA hC hs h8
  obtain ⟨m, hm⟩ := Int.eq_ofNat_of_zero_le (show 0 ≤ b by omega)
  subst hm
  go_enter Try.func20, Try.ntmps20
  go_wp2_with fail
  refine HA.out.mono ?_
  rintro e w1 ⟨rfl, b1⟩
  have HS1 := mkHid (HS.out.below b1)
  have HB1 := mkHid b1
  have hz1' := b1.size
  clear b1
  go_wp2_with fail
  refine (HC.out _).mono ?_
  rintro e w1' ⟨rfl, rfl⟩
  go_wp2_with (at_make; refine wpList_make_full _ rfl _ _ _ rfl w1.heap.size _ i0 _ 1 Ei.ht hi0 hz0 hz1 _ _ _ _ m rfl rfl rfl rfl (by rw [hz2]; omega) (by simp only [maxLen]; omega) (Nat.le_refl _) ?_; intro w2 hown2 hg2; have HO := mkHid hown2; have HG := mkHid hg2; clear hown2 hg2)
  have HS2 := mkHid (HS1.out.below (grown_belowNone HG.out))
  have B2 := mkHid (below_then HB1.out (grown_belowNone HG.out))
  have hz2' := HG.out.size
  refine (cloneInts_any _ _ _ _ (by omega) HS2.out).mono ?_
  rintro e w3 ⟨A3, c3, rfl, o3, b3⟩
  have HO3 := mkHid o3
  have HL3 := mkHid (own_below HO.out b3)
  have B3 := mkHid (below_then B2.out b3)
  have hz3 := b3.size
  clear o3 b3
  go_wp2_with fail
  refine (ascending_any _ _ _ _ _ (by omega) HO3.out).mono ?_
  rintro e w4 ⟨rfl, o4, g4⟩
  have HL4 := mkHid (own_grown' HL3.out g4 (fun g hg hh => by have h1 := (HO3.out.lt g hh).1; have h2 := (HO.out.lt g hg).2; omega))
  have B4 := mkHid (below_grown B3.out g4 (fun g hg => by have h1 := (HO3.out.lt g hg).1; have := B2.out.size; omega))
  have S4 := mkHid (Sl.of_own o4)
  have HO4 := mkHid o4
  clear o4 g4
  generalize hys : asc zs = ys at *
  clear hys
  go_wp2_with fail
  go_loopw [22] (fun i wr => ∃ k : Nat, k ≤ ys.length ∧ i = .int .i64 k ∧ wr.ownsRow w1.heap.size 3 1 (.slice (some ⟨w1.heap.size, 0, none⟩) m m) m (ints (cnt (ys.take k) m)) ∧ w4.grownBy wr (some w1.heap.size)) (fun i _ => ys.length - (intOf i).toNat)
  case atStart =>
    refine ⟨0, by omega, rfl, ?_, World.grownBy.refl _ _⟩
    have := HL4.out
    rw [ints_zeros] at this
    simpa [cnt_nil] using this
  case round =>
    obtain ⟨k, hk, rfl, hown, hg⟩ := hrel
    have HG5 := mkHid hg
    have hs5 : Sl wr A3 (ints ys) := S4.out.grown hg (fun a ha e => by
      have e : a.block = w1.heap.size := by injection e
      have h1 := (HO4.out.lt a.block (by rw [ha]; rfl)).1
      have h2 := (HO.out.lt w1.heap.size rfl).2
      omega)
    clear hg
    by_cases hlt : k < ys.length
    · obtain ⟨bb, off, rfl, hc⟩ := hs5.at_ (k := k) (by simpa using hlt)
      have h1 : wr.cell? ⟨bb, off + k, none⟩ = some (.int .i64 ys[k]) := hc k _ (ints_at hlt)
      have hy := HAs.out.2 ys[k] (List.getElem_mem hlt)
      obtain ⟨j, hj, hjm⟩ := bank_of hy hb
      have hjl : j < (cnt (ys.take k) m).length := by rw [cnt_length]; exact hjm
      obtain ⟨g, hgg, hgb, hgs, hcell, hfr, hst⟩ := own_open hown (i := j) (by simp [ints]; exact hjl)
      injection hgg with hgg
      injection hgg with hgg
      subst hgg
      have hv : (ints (cnt (ys.take k) m))[j]'(by simp [ints]; exact hjl) = .int .i64 (cnt (ys.take k) m)[j] := by simp [ints]
      rw [hv] at hcell
      have hbd := cnt_bound (ys.take k) m j hjl
      have htl : (ys.take k).length ≤ k := List.length_take_le _ _
      have HS5 := mkHid (by have := hst (.int .i64 ((cnt (ys.take k) m)[j] + 1)); rwa [show (ints (cnt (ys.take k) m)).set j (.int .i64 ((cnt (ys.take k) m)[j] + 1)) = ints ((cnt (ys.take k) m).set j ((cnt (ys.take k) m)[j] + 1)) by simp [ints]] at this)
      have HE : Hid (cnt (ys.take (k + 1)) m = (cnt (ys.take k) m).set j ((cnt (ys.take k) m)[j] + 1)) := mkHid (by
        rw [List.take_succ_eq_append_getElem hlt]
        exact cnt_snoc _ _ _ j hj hjl)
      have HG6 := mkHid (grown_setCell' HG5.out j (.int .i64 ((cnt (ys.take k) m)[j] + 1)))
      simp only [Int.toNat_natCast] at hjm
      generalize (cnt (ys.take k) m)[j] = v at *
      clear hst hc hv
      go_wp2_with fail
      go_roundw
      case rel =>
        refine ⟨k + 1, by omega, by go_num, ?_, HG6.out⟩
        rw [HE.out]
        exact HS5.out
      case measure => simp [intOf]; omega
    · have : k = ys.length := by omega
      subst this
      have hO := hown
      rw [List.take_length] at hO
      have HO5 := mkHid hO
      clear hO hown
      go_wp2_with fail
      go_ret
      have hlen : (cnt ys m).length = m := by rw [cnt_length]; simp
      refine ⟨_, m, by rw [hlen]; rfl, ?_, below_grown B4.out HG5.out (fun g e => by injection e with e; omega)⟩
      rw [hlen]
      exact own_base HO5.out (by omega)
theorem implBankLoads_any (A : Option Addr) (c : Nat) (zs : List Int) (b : Int) (w : World) (hl : zs.length ≤ 9223372036854775807) (hs : Sl w A (ints zs)) :
    Calls Try.prog 20 #[.slice A zs.length c, .int .i64 b] w (RetInts (bankLoads zs b) w) := by
  cases hok : (areCells zs && inB b 1 32) with
  | false =>
    have : bankLoads zs b = [] := by simp [bankLoads, hok]
    rw [this]
    exact (implBankLoads_no A c zs b w hl hs hok).mono fun e w' ⟨he, hb⟩ => by subst he; exact RetInts_none hb
  | true =>
    rw [Bool.and_eq_true] at hok
    rw [bankLoads_yes hok.1 hok.2]
    exact implBankLoads_yes A c zs b w hs hok.1 hok.2
theorem specBankLoads_any (A : Option Addr) (c : Nat) (zs : List Int) (b : Int) (w : World) (hl : zs.length ≤ 1000000000) (hs : Sl w A (ints zs)) :
    Calls Try.prog 19 #[.slice A zs.length c, .int .i64 b] w (RetInts (bankLoads zs b) w) := by
  obtain ⟨i0, hi0, hz0, hz1, hz2⟩ := info_parts Ei.hi
  have h12 := l12Ok_any A c zs 1 w (by omega) hs
  rw [show inB 1 1 64 = true from by decide, Bool.and_true] at h12
  have hC := fun w => l1In_any b 1 32 w
  cases ha : areCells zs with
  | false =>
    rw [ha] at h12
    have HN := mkHid (bankLoads_no (b := b) (.inl ha))
    have H12 := mkHid h12
    clear h12 ha hC
    go_enter Try.func19, Try.ntmps19
    go_wp2_with fail
    refine H12.out.mono ?_
    rintro e w1 ⟨rfl, rfl⟩
    go_wp2_with fail
    go_ret
    rw [HN.out]
    exact ⟨_, 0, rfl, own_empty w _ _, (Below.refl _ _).alloc (Nat.le_refl _) _⟩
  | true =>
    cases hi : inB b 1 32 with
    | false =>
      rw [ha] at h12
      have HN := mkHid (bankLoads_no (zs := zs) (.inr hi))
      simp only [hi] at hC
      have HC := mkHid hC
      have H12 := mkHid h12
      clear h12 ha hC hi
      go_enter Try.func19, Try.ntmps19
      go_wp2_with fail
      refine H12.out.mono ?_
      rintro e w1 ⟨rfl, rfl⟩
      go_wp2_with fail
      refine (HC.out _).mono ?_
      rintro e w1 ⟨rfl, rfl⟩
      go_wp2_with fail
      go_ret
      rw [HN.out]
      exact ⟨_, 0, rfl, own_empty w _ _, (Below.refl _ _).alloc (Nat.le_refl _) _⟩
    | true =>
      rw [ha] at h12
      have HN := mkHid (bankLoads_yes ha hi)
      have hb := inB_t hi
      have HAs := mkHid (asc_cells ha)
      have hal := HAs.out.1
      have hl8 := (areCells_all ha).1
      have hLN : lineNumbers zs 1 = asc zs := by rw [lineNumbers_yes ha (by decide), linesOf, map_div_one]
      have HLN := mkHid hLN
      simp only [hi] at hC
      have HC := mkHid hC
      have H12 := mkHid h12
      clear h12 ha hC hi hLN
      obtain ⟨m, hm⟩ := Int.eq_ofNat_of_zero_le (show 0 ≤ b by omega)
      subst hm
      go_enter Try.func19, Try.ntmps19
      go_wp2_with fail
      refine H12.out.mono ?_
      rintro e w1 ⟨rfl, rfl⟩
      go_wp2_with fail
      refine (HC.out _).mono ?_
      rintro e w1 ⟨rfl, rfl⟩
      go_wp2_with (at_make; refine wpList_make_full _ rfl _ _ _ rfl w.heap.size _ i0 _ 1 Ei.ht hi0 hz0 hz1 _ _ _ _ m rfl rfl rfl rfl (by rw [hz2]; omega) (by simp only [maxLen]; omega) (Nat.le_refl _) ?_; intro w2 hown2 hg2; have HO := mkHid hown2; have HG := mkHid hg2; clear hown2 hg2)
      have HS2 := mkHid (hs.below (grown_belowNone HG.out))
      have B2 := mkHid (grown_belowNone HG.out)
      have hz2' := HG.out.size
      refine (specLineNumbers_any _ _ _ _ _ (by omega) HS2.out).mono ?_
      rw [HLN.out]
      rintro e w3 ⟨A3, c3, rfl, o3, b3⟩
      have HO3 := mkHid o3
      have HL3 := mkHid (own_below HO.out b3)
      have B3 := mkHid (below_then B2.out b3)
      have S3 := mkHid (Sl.of_own o3)
      clear o3 b3
      generalize hys : asc zs = ys at *
      clear hys
      go_wp2_with fail
      go_loopw [7] (fun i wr => ∃ k : Nat, k ≤ ys.length ∧ i = .int .i64 k ∧ wr.ownsRow w.heap.size 3 1 (.slice (some ⟨w.heap.size, 0, none⟩) m m) m (ints (cnt (ys.take k) m)) ∧ w3.grownBy wr (some w.heap.size)) (fun i _ => ys.length - (intOf i).toNat)
      case atStart =>
        refine ⟨0, by omega, rfl, ?_, World.grownBy.refl _ _⟩
        have := HL3.out
        rw [ints_zeros] at this
        simpa [cnt_nil] using this
      case round =>
        obtain ⟨k, hk, rfl, hown, hg⟩ := hrel
        have HG5 := mkHid hg
        have hs5 : Sl wr A3 (ints ys) := S3.out.grown hg (fun a ha e => by
          have e : a.block = w.heap.size := by injection e
          have h1 := (HO3.out.lt a.block (by rw [ha]; rfl)).1
          have h2 := (HO.out.lt w.heap.size rfl).2
          omega)
        clear hg
        by_cases hlt : k < ys.length
        · obtain ⟨bb, off, rfl, hc⟩ := hs5.at_ (k := k) (by simpa using hlt)
          have h1 : wr.cell? ⟨bb, off + k, none⟩ = some (.int .i64 ys[k]) := hc k _ (ints_at hlt)
          have hy := HAs.out.2 ys[k] (List.getElem_mem hlt)
          obtain ⟨j, hj, hjm⟩ := bank_of hy hb
          have hjl : j < (cnt (ys.take k) m).length := by rw [cnt_length]; exact hjm
          obtain ⟨g, hgg, hgb, hgs, hcell, hfr, hst⟩ := own_open hown (i := j) (by simp [ints]; exact hjl)
          injection hgg with hgg
          injection hgg with hgg
          subst hgg
          have hv : (ints (cnt (ys.take k) m))[j]'(by simp [ints]; exact hjl) = .int .i64 (cnt (ys.take k) m)[j] := by simp [ints]
          rw [hv] at hcell
          have hbd := cnt_bound (ys.take k) m j hjl
          have htl : (ys.take k).length ≤ k := List.length_take_le _ _
          have HS5 := mkHid (by have := hst (.int .i64 ((cnt (ys.take k) m)[j] + 1)); rwa [show (ints (cnt (ys.take k) m)).set j (.int .i64 ((cnt (ys.take k) m)[j] + 1)) = ints ((cnt (ys.take k) m).set j ((cnt (ys.take k) m)[j] + 1)) by simp [ints]] at this)
          have HE : Hid (cnt (ys.take (k + 1)) m = (cnt (ys.take k) m).set j ((cnt (ys.take k) m)[j] + 1)) := mkHid (by
            rw [List.take_succ_eq_append_getElem hlt]
            exact cnt_snoc _ _ _ j hj hjl)
          have HG6 := mkHid (grown_setCell' HG5.out j (.int .i64 ((cnt (ys.take k) m)[j] + 1)))
          simp only [Int.toNat_natCast] at hjm
          generalize (cnt (ys.take k) m)[j] = v at *
          have htm : ys[k].tmod (m : Int) = (j : Int) := by rw [Int.tmod_eq_emod_of_nonneg hy.1]; exact hj
          clear hst hc hv
          go_wp2_with fail
          go_region
          go_wp2_with fail
          go_roundw
          case rel =>
            refine ⟨k + 1, by omega, by go_num, ?_, grown_drewN HG6.out 1⟩
            rw [HE.out]
            exact HS5.out
          case measure => simp [intOf]; omega
        · have : k = ys.length := by omega
          subst this
          have hO := hown
          rw [List.take_length] at hO
          have HO5 := mkHid hO
          clear hO hown
          go_wp2_with fail
          go_ret
          have hlen : (cnt ys m).length = m := by rw [cnt_length]; simp
          rw [HN.out]
          refine ⟨_, m, by rw [hlen]; rfl, ?_, below_grown B3.out HG5.out (fun g e => by injection e with e; omega)⟩
          rw [hlen]
          exact own_base HO5.out (by omega)
end Go.Proofs.Ytjgmghlgjjfifaa
