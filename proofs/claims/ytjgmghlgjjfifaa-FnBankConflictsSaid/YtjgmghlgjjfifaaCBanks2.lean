/-
  Contracts of BankRounds and BankConflicts of the program and of the reference.
-/
import Derived.Test.YtjgmghlgjjfifaaCBanks
namespace Go.Proofs.Ytjgmghlgjjfifaa
open Go.RowKit
set_option maxHeartbeats 800000
set_option linter.unusedVariables false

def bankRounds (zs : List Int) (b : Int) : Int := maxOf (bankLoads zs b)
theorem bankLoads_bound (zs : List Int) (b : Int) : ∀ z ∈ bankLoads zs b, 0 ≤ z ∧ z ≤ 8 := by
  intro z hz
  unfold bankLoads at hz
  split at hz
  · rename_i h
    rw [Bool.and_eq_true] at h
    have h1 := cnt_mem_bound hz
    have h2 := (asc_cells h.1).1
    omega
  · cases hz
theorem specBankRounds_any (A : Option Addr) (c : Nat) (zs : List Int) (b : Int) (w : World) (hl : zs.length ≤ 1000000000) (hs : Sl w A (ints zs)) :
    Calls Try.prog 21 #[.slice A zs.length c, .int .i64 b] w fun e w' => e = .returned (.int .i64 (bankRounds zs b)) ∧ Below w.heap.size w w' := by
  have HBd := mkHid (bankLoads_bound zs b)
  have hle := bankLoads_le zs b
  have HR := mkHid (show bankRounds zs b = maxOf (bankLoads zs b) from rfl)
  have hC := specBankLoads_any A c zs b w hl hs
  have HC := mkHid hC
  clear hC
  generalize bankLoads zs b = ls at *
  go_enter Try.func21, Try.ntmps21
  go_wp2_with fail
  refine HC.out.mono ?_
  rintro e w1 ⟨A1, c1, rfl, o1, b1⟩
  have S1 := mkHid (Sl.of_own o1)
  have B1 := mkHid b1
  clear o1 b1
  go_wp2_with fail
  go_loop [6, 7] (fun v i => ∃ k : Nat, k ≤ ls.length ∧ i = .int .i64 k ∧ v = .int .i64 (maxOf (ls.take k))) (fun _ i => ls.length - (intOf i).toNat)
  case atStart => exact ⟨0, by omega, rfl, rfl⟩
  case round =>
    obtain ⟨k, hk, rfl, rfl⟩ := hrel
    by_cases hlt : k < ls.length
    · obtain ⟨bb, off, rfl, hc⟩ := S1.out.at_ (k := k) (by simpa using hlt)
      have h1 : w1.cell? ⟨bb, off + k, none⟩ = some (.int .i64 ls[k]) := hc k _ (ints_at hlt)
      have HT : Hid (maxOf (ls.take (k + 1)) = max (maxOf (ls.take k)) ls[k]) := mkHid (by rw [List.take_succ_eq_append_getElem hlt, maxOf_snoc])
      generalize ls[k] = z at *
      generalize maxOf (ls.take k) = mx at *
      clear hc
      go_wp2_with fail
      go_round
      case rel => exact ⟨k + 1, by omega, by go_num, by rw [HT.out]⟩
      case measure => simp [intOf]; omega
    · have : k = ls.length := by omega
      subst this
      go_wp2_with fail
      go_ret
      exact ⟨ret_int HR.out.symm, B1.out⟩
theorem sliceMax_any (A : Option Addr) (c : Nat) (zs : List Int) (w : World) (hl : zs.length ≤ 1000000000) (h0 : 0 < zs.length) (hz : ∀ z ∈ zs, 0 ≤ z) (hs : Sl w A (ints zs)) :
    Calls Try.prog 45 #[.slice A zs.length c] w fun e w' => e = .returned (.int .i64 (maxOf zs)) ∧ w = w' := by
  have HZ := mkHid hz
  clear hz
  obtain ⟨b, off, rfl, hc⟩ := hs.at_ (k := 0) (by simpa using h0)
  have hc0 : w.cell? ⟨b, off, none⟩ = some (.int .i64 zs[0]) := by have := hc 0 _ (ints_at h0); simpa using this
  have HC := mkHid hc
  have H1 : Hid (maxOf (zs.take 1) = zs[0]) := mkHid (by
    rw [List.take_succ_eq_append_getElem h0]
    have := HZ.out zs[0] (List.getElem_mem h0)
    simp only [List.take_zero, List.nil_append, maxOf, List.foldl_cons, List.foldl_nil]
    omega)
  clear hc hs
  go_enter Try.func45, Try.ntmps45
  go_wp2_with fail
  clear hc0
  go_loop [3, 4] (fun v i => ∃ k : Nat, 1 ≤ k ∧ k ≤ zs.length ∧ i = .int .i64 k ∧ v = .int .i64 (maxOf (zs.take k))) (fun _ i => zs.length - (intOf i).toNat)
  case atStart => exact ⟨1, by omega, by omega, rfl, by rw [H1.out]⟩
  case round =>
    obtain ⟨k, hk1, hk, rfl, rfl⟩ := hrel
    by_cases hlt : k < zs.length
    · have h1 : w.cell? ⟨b, off + k, none⟩ = some (.int .i64 zs[k]) := HC.out k _ (ints_at hlt)
      have HT : Hid (maxOf (zs.take (k + 1)) = max (maxOf (zs.take k)) zs[k]) := mkHid (by rw [List.take_succ_eq_append_getElem hlt, maxOf_snoc])
      generalize zs[k] = z at *
      generalize maxOf (zs.take k) = mx at *
      go_wp2_with fail
      go_round
      case rel => exact ⟨k + 1, by omega, by omega, by go_num, by rw [HT.out]⟩
      case measure => simp [intOf]; omega
    · have : k = zs.length := by omega
      subst this
      go_wp2_with fail
      go_ret
      exact ⟨rfl, rfl⟩
theorem implBankRounds_any (A : Option Addr) (c : Nat) (zs : List Int) (b : Int) (w : World) (hl : zs.length ≤ 9223372036854775807) (hs : Sl w A (ints zs)) :
    Calls Try.prog 22 #[.slice A zs.length c, .int .i64 b] w fun e w' => e = .returned (.int .i64 (bankRounds zs b)) ∧ Below w.heap.size w w' := by
  have q : ∀ (w : World) (a : Option Addr) (n c n' c' : Nat), (binOp .eql 22 (.slice a n c) (.slice none n' c')).run Try.prog w = .ok (.bool a.isNone) w := fun w a n c n' c' => Lib.run_eql_slice_nil w _ _ a n c n' c' Try.underlying22
  cases hok : (areCells zs && inB b 1 32) with
  | false =>
    have hno : bankRounds zs b = -1 := by simp [bankRounds, bankLoads, hok, maxOf]
    have HN := mkHid hno
    have HC := mkHid (implBankLoads_no A c zs b w hl hs hok)
    clear hok hno
    go_enter Try.func22, Try.ntmps22
    go_wp2_with fail
    refine HC.out.mono ?_
    rintro e w1 ⟨rfl, b1⟩
    have B1 := mkHid b1
    clear b1
    go_wp2_with fail
    go_ret
    exact ⟨ret_int HN.out.symm, B1.out⟩
  | true =>
    have HBd := mkHid (bankLoads_bound zs b)
    have hle := bankLoads_le zs b
    have HR := mkHid (show bankRounds zs b = maxOf (bankLoads zs b) from rfl)
    rw [Bool.and_eq_true] at hok
    have hpos : 0 < (bankLoads zs b).length := by
      rw [bankLoads_yes hok.1 hok.2, cnt_length]
      have := inB_t hok.2
      omega
    have hC := implBankLoads_yes A c zs b w hs hok.1 hok.2
    rw [← bankLoads_yes hok.1 hok.2] at hC
    have HC := mkHid hC
    clear hC hok
    generalize bankLoads zs b = ls at *
    go_enter Try.func22, Try.ntmps22
    go_wp2_with fail
    refine HC.out.mono ?_
    rintro e w1 ⟨A1, c1, rfl, o1, b1⟩
    have S1 := mkHid (Sl.of_own o1)
    have B1 := mkHid b1
    clear o1 b1
    obtain ⟨bb, off, rfl, _⟩ := S1.out.at_ (k := 0) (by simpa using hpos)
    go_wp2_with fail
    refine (sliceMax_any _ _ _ _ (by omega) hpos (fun z hz => (HBd.out z hz).1) S1.out).mono ?_
    rintro e w2 ⟨rfl, rfl⟩
    go_wp2_with fail
    go_ret
    exact ⟨ret_int HR.out.symm, B1.out⟩
def bankConflicts (zs : List Int) (b : Int) : List Int := if areCells zs && inB b 1 32 then confUpto zs b zs.length else []
theorem bankConflicts_le (zs : List Int) (b : Int) : (bankConflicts zs b).length ≤ zs.length := by
  unfold bankConflicts
  split
  · exact confUpto_le _ _ _
  · simp
theorem isLate_any (o c b : Int) (pc pb : Addr) (w : World) (hb : 1 ≤ b ∧ b ≤ 32) (ho : 0 ≤ o ∧ o ≤ 255) (hc : 0 ≤ c ∧ c ≤ 255) (h1 : w.cell? pc = some (.int .i64 c)) (h2 : w.cell? pb = some (.int .i64 b)) :
    Calls Try.prog 39 #[.int .i64 o, .pointer (some pc), .pointer (some pb)] w fun e w' => e = .returned (.bool (decide (o < c) && (o % b == c % b))) ∧ Below w.heap.size w w' := by
  have t1 : o.tmod b = o % b := Int.tmod_eq_emod_of_nonneg ho.1
  have t2 : c.tmod b = c % b := Int.tmod_eq_emod_of_nonneg hc.1
  have hb0 : (b == 0) = false := by rw [beq_eq_false_iff_ne]; omega
  by_cases hlt : o < c
  · have hd : decide (o < c) = true := by simpa using hlt
    have HD := mkHid hd
    go_enter Try.func39, Try.ntmps39
    go_wp2_with fail
    go_quiet (fail)
    go_wp2_with fail
    go_ret
    refine ⟨ret_bool ?_, below_drewN (Below.refl _ _) _⟩
    first | rw [HD.out, Bool.true_and] | (simp [hlt])
  · have hd : decide (o < c) = false := by simpa using hlt
    have HD := mkHid hd
    go_enter Try.func39, Try.ntmps39
    go_wp2_with fail
    go_quiet (fail)
    go_wp2_with fail
    go_ret
    refine ⟨ret_bool ?_, below_drewN (Below.refl _ _) _⟩
    first | rw [HD.out, Bool.false_and] | (simp [hlt])
theorem implBankConflicts_any (A : Option Addr) (c : Nat) (zs : List Int) (b : Int) (w : World) (hl : zs.length ≤ 9223372036854775807) (hs : Sl w A (ints zs)) :
    Calls Try.prog 15 #[.slice A zs.length c, .int .i64 b] w (RetInts (bankConflicts zs b) w) := by
  cases hok : (areCells zs && inB b 1 32) with
  | false =>
    have hno : bankConflicts zs b = [] := by simp [bankConflicts, hok]
    have HN := mkHid hno
    have hA := areCells_any A c zs (w.alloc (.cells #[.int .i64 b] 3)) hl (hs.alloc _)
    have hC := fun w => isBanks_any b w
    cases ha : areCells zs with
    | false =>
      rw [ha] at hA
      have HA := mkHid hA
      clear ha hno hA hC hok
      go_enter Try.func15, Try.ntmps15
      go_wp2_with fail
      refine HA.out.mono ?_
      rintro e w1 ⟨rfl, b1⟩
      have B1 := mkHid (below_then ((Below.refl _ _).alloc (Nat.le_refl _) _) b1)
      clear b1
      go_wp2_with fail
      go_ret
      rw [HN.out]
      exact RetInts_none B1.out
    | true =>
      rw [ha] at hA
      rw [ha, Bool.true_and] at hok
      simp only [hok] at hC
      have HA := mkHid hA
      have HC := mkHid hC
      clear ha hno hA hC hok
      go_enter Try.func15, Try.ntmps15
      go_wp2_with fail
      refine HA.out.mono ?_
      rintro e w1 ⟨rfl, b1⟩
      have hcb : w1.cell? ⟨w.heap.size, 0, none⟩ = some (.int .i64 b) := (b1.cell (by simp)).trans (by have := newCells w [.int .i64 b] 3 0 _ rfl; rw [add_flat] at this; exact this)
      have B1 := mkHid (below_then ((Below.refl _ _).alloc (Nat.le_refl _) _) b1)
      clear b1
      go_wp2_with fail
      refine (HC.out _).mono ?_
      rintro e w2 ⟨rfl, rfl⟩
      go_wp2_with fail
      go_ret
      rw [HN.out]
      exact RetInts_none B1.out
  | true =>
    rw [Bool.and_eq_true] at hok
    have hyes : bankConflicts zs b = confUpto zs b zs.length := by simp [bankConflicts, hok.1, hok.2]
    have HN := mkHid hyes
    have h8 := areCells_all hok.1
    have hl8 := h8.1
    have HZ := mkHid h8.2
    have hb := inB_t hok.2
    have hA := areCells_any A c zs (w.alloc (.cells #[.int .i64 b] 3)) hl (hs.alloc _)
    rw [hok.1] at hA
    have hC := fun w => isBanks_any b w
    simp only [hok.2] at hC
    have HA := mkHid hA
    have HC := mkHid hC
    clear hA hC hok h8 hyes
    go_enter Try.func15, Try.ntmps15
    go_wp2_with fail
    refine HA.out.mono ?_
    rintro e w1 ⟨rfl, b1⟩
    have hcb : w1.cell? ⟨w.heap.size, 0, none⟩ = some (.int .i64 b) := (b1.cell (by simp)).trans (by have := newCells w [.int .i64 b] 3 0 _ rfl; rw [add_flat] at this; exact this)
    have B1 := mkHid (below_then ((Below.refl _ _).alloc (Nat.le_refl _) _) b1)
    have hz1 : w.heap.size < w1.heap.size := by have := b1.size; simp at this; omega
    have HS1 := mkHid (hs.below B1.out)
    clear b1 hs
    go_wp2_with fail
    refine (HC.out _).mono ?_
    rintro e w2 ⟨rfl, rfl⟩
    have HCB := mkHid hcb
    clear hcb
    go_wp2_with fail
    go_loopw [5, 18] (fun v i wr => ∃ k : Nat, k ≤ zs.length ∧ i = .int .i64 k ∧ (∃ A c ls, Hid (ls = confUpto zs b k) ∧ v = .slice A ls.length c ∧ wr.ownsRow w1.heap.size 3 1 (.slice A ls.length c) ls.length (ints ls)) ∧ Below w1.heap.size w1 wr) (fun _ i _ => zs.length - (intOf i).toNat)
    case atStart => exact ⟨0, by omega, rfl, ⟨none, 0, [], mkHid rfl, rfl, World.ownsRow_nil _ _ _ _⟩, Below.refl _ _⟩
    case round =>
      obtain ⟨k, hk, rfl, ⟨A5, c5, ls, HLS, rfl, hown⟩, hbel⟩ := hrel
      have hsz := hbel.size
      have HB := mkHid hbel
      have HO := mkHid hown
      have hs5 := HS1.out.below hbel
      have hlsl : ls.length ≤ k := by rw [HLS.out]; exact confUpto_le _ _ _
      clear hbel hown
      by_cases hlt : k < zs.length
      · have HS5 := mkHid hs5
        obtain ⟨bb, off, rfl, hc⟩ := hs5.at_ (k := k) (by simpa using hlt)
        have h1 : wr.cell? ⟨bb, off + k, none⟩ = some (.int .i64 zs[k]) := hc k _ (ints_at hlt)
        have HT := mkHid (confUpto_succ zs b k hlt)
        have hzk := HZ.out zs[k] (List.getElem_mem hlt)
        clear hc hs5
        go_wp2_with fail
        refine (containsFunc_any _ _ _ _ (fun o => decide (o < zs[k]) && (o % b == zs[k] % b)) _ (by omega) (HS5.out.alloc _) ?_).mono ?_
        · refine ⟨_, _, rfl, fun args w => by kernel_rfl, fun o ho X hX => ?_⟩
          have k1 : X.cell? ⟨wr.heap.size, 0, none⟩ = some (.int .i64 zs[k]) := (hX.cell (by simp)).trans (by have := newCells wr [.int .i64 zs[k]] 3 0 _ rfl; rw [add_flat] at this; exact this)
          have k2 : X.cell? ⟨w.heap.size, 0, none⟩ = some (.int .i64 b) := ((HB.out.alloc hsz _).trans (hX.mono (by simp; omega))).cell (p := ⟨w.heap.size, 0, none⟩) hz1 |>.trans HCB.out
          exact isLate_any o zs[k] b _ _ X hb (HZ.out o ho) hzk k1 k2
        rintro e w3 ⟨rfl, b3⟩
        have HB3 := mkHid ((HB.out.alloc hsz _).trans (b3.mono (by simp; omega)))
        have HO3 := mkHid (own_below (HO.out.alloc _) b3)
        have hs3 := HB3.out.size
        have hlate : (zs.any fun o => decide (o < zs[k]) && (o % b == zs[k] % b)) = late zs b zs[k] := rfl
        rw [hlate]
        clear b3 h1 hlate
        cases hlt2 : late zs b zs[k] with
        | true =>
          have HLT := mkHid hlt2
          clear hlt2
          go_wp2_with (at_builtin; refine wpList_app Ei (HO3.out.alloc _) (newCells _ _ _) rfl (by simp [Value.oneCell']) (by omega) (by omega) (by simp; omega) rfl rfl rfl rfl ?_; intro A' c' w4 hown4 hg4; have HO4 := mkHid hown4; have HG4 := mkHid hg4; clear hown4 hg4)
          go_roundw
          case rel =>
            refine ⟨k + 1, by omega, by go_num, ⟨A', c', ls ++ [(k : Int)], mkHid ?_, by simp, ?_⟩, ?_⟩
            · rw [HT.out, if_pos HLT.out, HLS.out]
            · have := HO4.out
              rw [List.length_append]
              simpa [ints] using this
            · exact (HB3.out.alloc hs3 _).grown HG4.out (by simp; omega) (fun g hg => (HO3.out.lt g hg).1)
          case measure => simp [intOf]; omega
        | false =>
          have HLT := mkHid hlt2
          clear hlt2
          go_wp2_with fail
          go_roundw
          case rel =>
            refine ⟨k + 1, by omega, by go_num, ⟨A5, c5, ls, mkHid ?_, rfl, HO3.out⟩, HB3.out⟩
            rw [HT.out, if_neg (by rw [HLT.out]; simp), HLS.out, List.append_nil]
          case measure => simp [intOf]; omega
      · have : k = zs.length := by omega
        subst this
        have he : ls = bankConflicts zs b := by rw [HN.out, HLS.out]
        go_wp2_with fail
        go_ret
        rw [← he]
        exact ⟨A5, c5, rfl, own_base HO.out (by omega), below_then B1.out HB.out⟩
end Go.Proofs.Ytjgmghlgjjfifaa
