/-
  Contracts of the laws' helpers szIntSS (with the sum), markIntSS, eqBoolS, markBoolS, heldBoolS.
-/
import Derived.Test.YtabpcbikbhbcaaaCReach3
import Derived.Test.YtabpcbikbhbcaaaCRows
namespace Go.Proofs.Ytabpcbikbhbcaaa
open Go.RowKit
set_option maxHeartbeats 2000000
set_option linter.unusedVariables false

def total (rs : List Row) : Nat := (rs.map fun r => r.zs.length).sum
theorem total_take (rs : List Row) (k : Nat) (h : k < rs.length) : total (rs.take (k + 1)) = total (rs.take k) + rs[k].zs.length := by
  unfold total
  rw [List.take_succ_eq_append_getElem h]
  simp only [List.map_append, List.sum_append, List.map_cons, List.map_nil, List.sum_cons, List.sum_nil, Nat.add_zero]
theorem total_le {rs : List Row} {r : Row} (h : r ∈ rs) : r.zs.length ≤ total rs := by
  unfold total
  induction rs with
  | nil => cases h
  | cons x rs ih =>
    simp only [List.map_cons, List.sum_cons]
    rcases List.mem_cons.1 h with h | h
    · subst h; omega
    · have := ih h; omega
def LeftTotal (rs : List Row) (l : Int) (w : World) (e : Ending) (w' : World) : Prop :=
  ((∃ v : Int, e = .returned (.int .i64 v) ∧ 0 ≤ v ∧ (rs.length : Int) + (total rs : Nat) ≤ l) ∨ e = .returned (.int .i64 (-1))) ∧ w = w'
theorem szIntSS_tot (A : Option Addr) (c : Nat) (rs : List Row) (l : Int) (w : World) (hl : 0 ≤ l ∧ l ≤ 1048576) (hn : rs.length ≤ 9223372036854775807) (hs : Grid w A rs) :
    Calls Try.prog 10 #[.slice A rs.length c, .int .i64 l] w (LeftTotal rs l w) := by
  by_cases h : (rs.length : Int) ≤ l
  · go_enter Try.func10, Try.ntmps10
    go_wp2_with fail
    go_loop [1, 5] (fun v i => ∃ k : Nat, k ≤ rs.length ∧ i = .int .i64 k ∧ ∃ q : Int, v = .int .i64 q ∧ 0 ≤ q ∧ q ≤ l ∧ Hid (q = l - rs.length - (total (rs.take k) : Nat))) (fun _ i => rs.length - (intOf i).toNat)
    case atStart => exact ⟨0, by omega, rfl, l - rs.length, by first | rfl | simp, by omega, by omega, mkHid (by simp [total])⟩
    case round =>
      obtain ⟨k, hk, rfl, q, rfl, hq0, hql, HH⟩ := hrel
      by_cases hlt : k < rs.length
      · obtain ⟨b, off, rfl, h1, h2, h3, h4⟩ := hs.at_ hlt
        have HT := mkHid (total_take rs k hlt)
        obtain ⟨r, hr⟩ : ∃ r, r = rs[k] := ⟨_, rfl⟩
        rw [← hr] at h1 h2 h3 h4 HT
        clear hr h2 h3
        obtain ⟨a, c', zs⟩ := r
        simp only at h1 h4 HT
        go_wp2_with fail
        refine (szIntS_any _ _ _ _ _ (by omega) h4).mono ?_
        rintro e w2 ⟨⟨hle, rfl⟩ | ⟨hlt2, rfl⟩, rfl⟩
        · go_wp2_with fail
          go_round
          case rel => exact ⟨k + 1, by omega, by go_num, _, rfl, by omega, by omega, mkHid (by rw [HT.out, HH.out]; omega)⟩
          case measure => simp [intOf] <;> omega
        · go_wp2_with fail
          go_ret
          exact ⟨.inr rfl, rfl⟩
      · go_wp2_with fail
        go_ret
        refine ⟨.inl ⟨q, rfl, hq0, ?_⟩, rfl⟩
        have := HH.out
        rw [List.take_of_length_le (by omega)] at this
        omega
  · go_enter Try.func10, Try.ntmps10
    go_wp2_with fail
    go_ret
    exact ⟨.inr rfl, rfl⟩
/-! ### only these rows' blocks have turned -/
def Onl (w w' : World) (rs : List Row) : Prop :=
  w'.os = w.os ∧ w'.tape = w.tape ∧ w'.output = w.output ∧ w.heap.size ≤ w'.heap.size ∧ ∀ i, i < w.heap.size → (∀ r ∈ rs, (rowV r).ownBlock ≠ some i) → w'.heap[i]? = w.heap[i]?
theorem Onl.refl (w : World) (rs : List Row) : Onl w w rs := ⟨rfl, rfl, rfl, Nat.le_refl _, fun _ _ _ => rfl⟩
theorem Onl.step {w w1 w2 : World} {rs : List Row} {r : Row} (h : Onl w w1 rs) (hr : r ∈ rs) (hg : w1.grownBy w2 (rowV r).ownBlock) : Onl w w2 rs :=
  ⟨hg.os.trans h.1, hg.tape.trans h.2.1, hg.output.trans h.2.2.1, Nat.le_trans h.2.2.2.1 hg.size, fun i hi hn => (hg.block i (Nat.lt_of_lt_of_le hi h.2.2.2.1) (fun e => hn r hr e.symm)).trans (h.2.2.2.2 i hi hn)⟩
theorem Onl.below {w w' : World} {rs : List Row} {lo base : Nat} (h : Onl w w' rs) (hown : RowsOwn w lo rs) (hb : base ≤ lo) (hbw : base ≤ w.heap.size) : Below base w w' :=
  ⟨h.1, h.2.1, h.2.2.1, h.2.2.2.1, fun i hi => h.2.2.2.2 i (by omega) (fun r hr e => by have := ((hown.1 r hr).lt i e).1; omega)⟩
theorem cell_block {w w' : World} {b o : Nat} (h : w'.heap[b]? = w.heap[b]?) : w'.cell? ⟨b, o, none⟩ = w.cell? ⟨b, o, none⟩ := by simp [World.cell?, h]
theorem RowsOwn.block_ne {w : World} {lo : Nat} {rs : List Row} (h : RowsOwn w lo rs) {i j : Nat} (hij : i < j) (hj : j < rs.length) {g : Nat} (h1 : (rowV (rs[i]'(by omega))).ownBlock = some g) : (rowV rs[j]).ownBlock ≠ some g := fun h2 => by
  have := List.pairwise_iff_getElem.1 h.2 i j (by omega) hj hij g g h1 h2
  omega
theorem markIntSS_any (A : Option Addr) (c : Nat) (rs : List Row) (k0 : Int) (lo : Nat) (w : World) (hk0 : 0 ≤ k0 ∧ k0 ≤ 1000000) (hn : rs.length ≤ 1048576) (ht : total rs ≤ 1048576) (hA : Sl w A (rowVs rs)) (hAb : ∀ a, A = some a → a.block < lo) (hlo : lo ≤ w.heap.size) (hown : RowsOwn w lo rs) :
    Calls Try.prog 19 #[.slice A rs.length c, .int .i64 k0] w fun e w' => e = .returned (.int .i64 (k0 + (total rs : Nat))) ∧ Onl w w' rs := by
  have HOW := mkHid hown
  have HA := mkHid hA
  have HAB := mkHid hAb
  clear hown hA hAb
  go_enter Try.func19, Try.ntmps19
  go_wp2_with fail
  go_loopw [1, 5] (fun kv i wr => ∃ k : Nat, k ≤ rs.length ∧ i = .int .i64 k ∧ (∃ t : Nat, kv = .int .i64 (k0 + t) ∧ t ≤ total rs ∧ Hid (t = total (rs.take k))) ∧ Onl w wr rs ∧ (∀ j (h : j < rs.length), k ≤ j → wr.ownsRow lo 3 1 (rowV rs[j]) rs[j].zs.length (ints rs[j].zs))) (fun _ i _ => rs.length - (intOf i).toNat)
  case atStart => exact ⟨0, by omega, rfl, ⟨0, by simp, by omega, mkHid (by simp [total])⟩, Onl.refl _ _, fun j h _ => HOW.out.1 _ (List.getElem_mem h)⟩
  case round =>
    obtain ⟨k, hk, rfl, ⟨t, rfl, htt, HT⟩, honl, hrest⟩ := hrel
    have HON := mkHid honl
    have HRS := mkHid hrest
    clear honl hrest
    by_cases hlt : k < rs.length
    · obtain ⟨b, off, rfl, hc⟩ := HA.out.at_ (k := k) (by simpa using hlt)
      have hblo := HAB.out _ rfl
      have h1 : wr.cell? ⟨b, off + k, none⟩ = some (.slice rs[k].a rs[k].zs.length rs[k].c) := by
        have hb1 : b < lo := hblo
        rw [cell_block (HON.out.2.2.2.2 b (by omega) (fun r hr e => by have := ((HOW.out.1 r hr).lt b e).1; omega))]
        exact hc k _ (by rw [List.getElem?_map, List.getElem?_eq_getElem hlt]; rfl)
      have htk := total_take rs k hlt
      have htk2 : total (rs.take (k + 1)) ≤ total rs := by
        unfold total
        have e : rs = rs.take (k + 1) ++ rs.drop (k + 1) := (List.take_append_drop _ _).symm
        have : (rs.map fun r => r.zs.length).sum = ((rs.take (k + 1)).map fun r => r.zs.length).sum + ((rs.drop (k + 1)).map fun r => r.zs.length).sum := by
          conv => lhs; rw [e]
          rw [List.map_append, List.sum_append]
        omega
      have hro := HRS.out k hlt (Nat.le_refl _)
      have HM : Hid (rs[k] ∈ rs) := mkHid (List.getElem_mem hlt)
      have hbne : ∀ j (h : j < rs.length), k < j → ∀ g, (rowV rs[k]).ownBlock = some g → (rowV rs[j]).ownBlock ≠ some g := fun j h hkj g e => HOW.out.block_ne hkj h e
      have HBN := mkHid hbne
      obtain ⟨r, hr⟩ : ∃ r, r = rs[k] := ⟨_, rfl⟩
      rw [← hr] at h1 htk hro HM HBN
      have HTK := mkHid htk
      have hrt := total_le HM.out
      obtain ⟨ra, rc, zs⟩ := r
      simp only at h1 htk hro hrt
      have HRO := mkHid (show wr.ownsRow lo 3 1 (.slice ra zs.length rc) zs.length (ints zs) from hro)
      have hl2 : t + zs.length ≤ total rs := by have := HT.out; omega
      clear hc hr hro htk hbne htk2
      go_wp2_with fail
      refine (markIntS_any _ _ _ _ _ _ (by omega) (by omega) (by omega) HRO.out).mono ?_
      rintro e w2 ⟨rfl, o2, g2⟩
      have HON2 := mkHid (HON.out.step HM.out g2)
      have HRS2 := mkHid (show ∀ j (h : j < rs.length), k + 1 ≤ j → w2.ownsRow lo 3 1 (rowV rs[j]) rs[j].zs.length (ints rs[j].zs) from fun j h hj => own_grown' (HRS.out j h (by omega)) g2 (fun g e1 e2 => HBN.out j h (by omega) g e2 e1))
      clear o2 g2
      go_wp2_with fail
      go_roundw
      case rel => exact ⟨k + 1, by omega, by go_num, ⟨t + zs.length, by congr 1; omega, hl2, mkHid (by rw [HTK.out, ← HT.out])⟩, HON2.out, HRS2.out⟩
      case measure => simp [intOf] <;> omega
    · have hte : t = total rs := by have := HT.out; rwa [List.take_of_length_le (by omega)] at this
      subst hte
      go_wp2_with fail
      go_ret
      exact ⟨rfl, HON.out⟩
/-! ### bools -/
def markBs (k : Int) (n : Nat) : List Bool := (List.range n).map fun i : Nat => (k + (i : Int)) % 3 == 0
theorem markBs_length (k : Int) (n : Nat) : (markBs k n).length = n := by simp [markBs]
theorem markB_step (k : Int) (bs : List Bool) (i : Nat) (h : i < bs.length) : (bools (markBs k i ++ bs.drop i)).set i (.bool ((k + (i : Int)) % 3 == 0)) = bools (markBs k (i + 1) ++ bs.drop (i + 1)) := by
  have h1 : bs.drop i = bs[i] :: bs.drop (i + 1) := List.drop_eq_getElem_cons h
  have h2 : markBs k (i + 1) = markBs k i ++ [(k + (i : Int)) % 3 == 0] := by simp [markBs, List.range_succ]
  rw [h1, h2, bools, bools, List.map_append, List.map_append, List.set_append_right _ _ (by simp [markBs_length])]
  simp only [List.map_cons, markBs_length, List.length_map, Nat.sub_self, List.set_cons_zero, List.map_append, List.append_assoc, List.map_nil, List.cons_append, List.nil_append]
theorem markBoolS_any (A : Option Addr) (c : Nat) (bs : List Bool) (k0 : Int) (base : Nat) (w : World) (hk0 : 0 ≤ k0) (hk1 : k0 ≤ 2000000000) (hn : bs.length ≤ 2000000000)
    (hown : w.ownsRow base 4 1 (.slice A bs.length c) bs.length (bools bs)) :
    Calls Try.prog 26 #[.slice A bs.length c, .int .i64 k0] w fun e w' =>
      e = .returned (.int .i64 (k0 + bs.length)) ∧ w'.ownsRow base 4 1 (.slice A bs.length c) bs.length (bools (markBs k0 bs.length)) ∧ w.grownBy w' (Value.slice A bs.length c).ownBlock := by
  go_enter Try.func26, Try.ntmps26
  go_wp2_with fail
  go_loopw [1, 5] (fun kv i wr => ∃ k : Nat, k ≤ bs.length ∧ i = .int .i64 k ∧ kv = .int .i64 (k0 + k) ∧ wr.ownsRow base 4 1 (.slice A bs.length c) bs.length (bools (markBs k0 k ++ bs.drop k)) ∧ w.grownBy wr (Value.slice A bs.length c).ownBlock) (fun _ i _ => bs.length - (intOf i).toNat)
  case atStart => exact ⟨0, by omega, rfl, by simp, by simpa [markBs] using hown, World.grownBy.refl _ _⟩
  case round =>
    obtain ⟨k, hk, rfl, rfl, hownr, hgr⟩ := hrel
    clear hown
    by_cases hlt : k < bs.length
    · obtain ⟨g, rfl, hgb, hgs, hcell, hfr, hst⟩ := own_open hownr (i := k) (by simp [markBs_length]; omega)
      have HS := mkHid (hst (.bool ((k0 + (k : Int)) % 3 == 0)))
      have HG := mkHid (grown_setCell' hgr k (.bool ((k0 + (k : Int)) % 3 == 0)))
      have hm : (k0 + (k : Int)).tmod 3 = (k0 + (k : Int)) % 3 := Int.tmod_eq_emod_of_nonneg (by omega)
      clear hst hgr hownr
      go_wp2_with fail
      go_roundw
      case rel => exact ⟨k + 1, by omega, by go_num, by congr 1; omega, by rw [← markB_step k0 bs k hlt]; exact HS.out, HG.out⟩
      case measure => simp [intOf] <;> omega
    · have : k = bs.length := by omega
      subst this
      have HO := mkHid hownr
      have HG := mkHid hgr
      clear hownr hgr
      go_wp2_with fail
      go_ret
      exact ⟨rfl, by simpa using HO.out, HG.out⟩
theorem heldBoolS_any (A : Option Addr) (c : Nat) (n : Nat) (k0 : Int) (w : World) (hk0 : 0 ≤ k0) (hk1 : k0 ≤ 2000000000) (hn : n ≤ 2000000000) (hs : Sl w A (bools (markBs k0 n))) :
    Calls Try.prog 27 #[.slice A n c, .int .i64 k0] w fun e w' => e = .returned (.int .i64 (k0 + n)) ∧ w = w' := by
  go_enter Try.func27, Try.ntmps27
  go_wp2_with fail
  go_loop [1, 5] (fun kv i => ∃ k : Nat, k ≤ n ∧ i = .int .i64 k ∧ kv = .int .i64 (k0 + k)) (fun _ i => n - (intOf i).toNat)
  case atStart => exact ⟨0, by omega, rfl, by simp⟩
  case round =>
    obtain ⟨k, hk, rfl, rfl⟩ := hrel
    by_cases hlt : k < n
    · obtain ⟨b, off, rfl, hc⟩ := hs.at_ (k := k) (by simpa [markBs_length] using hlt)
      have h1 : w.cell? ⟨b, off + k, none⟩ = some (.bool ((k0 + (k : Int)) % 3 == 0)) := hc k _ (by simp [markBs, hlt])
      have hm : (k0 + (k : Int)).tmod 3 = (k0 + (k : Int)) % 3 := Int.tmod_eq_emod_of_nonneg (by omega)
      obtain ⟨v, hv⟩ : ∃ v, ((k0 + (k : Int)) % 3 == 0) = v := ⟨_, rfl⟩
      rw [hv] at h1
      clear hc hs
      cases v
      all_goals (
        go_wp2_with fail
        go_round
        case rel => exact ⟨k + 1, by omega, by go_num, by congr 1; omega⟩
        case measure => simp [intOf] <;> omega)
    · have : k = n := by omega
      subst this
      go_wp2_with fail
      go_ret
      exact ⟨rfl, rfl⟩
theorem eqBoolS_same (A B : Option Addr) (c d : Nat) (bs : List Bool) (w : World) (hn : bs.length ≤ 9223372036854775807) (hx : Sl w A (bools bs)) (hy : Sl w B (bools bs)) :
    Calls Try.prog 25 #[.slice A bs.length c, .slice B bs.length d] w fun e w' => e = .returned (.bool true) ∧ ∃ k, w' = w.drewN k := by
  go_enter Try.func25, Try.ntmps25
  go_wp2_with fail
  go_loopw [5] (fun i wr => ∃ k : Nat, k ≤ bs.length ∧ i = .int .i64 k ∧ ∃ n, wr = w.drewN n) (fun i _ => bs.length - (intOf i).toNat)
  case atStart => exact ⟨0, by omega, rfl, 0, rfl⟩
  case round =>
    obtain ⟨k, hk, rfl, n, rfl⟩ := hrel
    by_cases hlt : k < bs.length
    · obtain ⟨b, off, rfl, hc⟩ := hx.at_ (k := k) (by simpa using hlt)
      obtain ⟨b', off', rfl, hc'⟩ := hy.at_ (k := k) (by simpa using hlt)
      have h1 : w.cell? ⟨b, off + k, none⟩ = some (.bool bs[k]) := hc k _ (bools_at hlt)
      have h2 : w.cell? ⟨b', off' + k, none⟩ = some (.bool bs[k]) := hc' k _ (bools_at hlt)
      generalize bs[k] = v at *
      generalize hX : w.drewN n = X
      have e1 := fun u : Drew X => u.keeps (show X.cell? _ = _ from by rw [← hX]; exact h1)
      have e2 := fun u : Drew X => u.keeps (show X.cell? _ = _ from by rw [← hX]; exact h2)
      have HX := mkHid hX
      clear hX h1 h2 hc hc' hx hy
      cases v
      all_goals (
        go_wp2_with fail
        refine wp_region_drew (by kernel_rfl) (by kernel_rfl) ?_
        repeat (go_big_quiet_step (fail))
        refine wpQuiet_nil (drew_end fun Y m hY => ?_)
        clear e1 e2
        subst hY
        have hX := HX.out
        subst hX
        go_wp2_with fail
        go_roundw
        case rel => exact ⟨k + 1, by omega, by go_num, _, by first | rfl | exact World.drewN_drewN _ _ _⟩
        case measure => simp [intOf] <;> omega)
    · go_wp2_with fail
      go_ret
      exact ⟨rfl, n, rfl⟩
end Go.Proofs.Ytabpcbikbhbcaaa
