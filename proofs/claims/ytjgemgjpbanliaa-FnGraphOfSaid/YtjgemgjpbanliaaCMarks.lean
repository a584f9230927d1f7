/-
  Contracts of the laws' helpers szIntSS (with the sum), markIntSS, eqBoolS, markBoolS, heldBoolS.
-/
import Derived.Test.YtjgemgjpbanliaaCReach3
import Derived.Test.YtjgemgjpbanliaaCRows
namespace Go.Proofs.Ytjgemgjpbanliaa
open Go.RowKit
set_option maxHeartbeats 2000000
set_option linter.unusedVariables false

def total (rs : List Row) : Nat := (rs.map fun r => r.zs.length).sum
theorem total_take (rs : List Row) (k : Nat) (h : k < rs.length) : total (rs.take (k + 1)) = total (rs.take k) + rs[k].zs.length := by
  unfold total
  rw [List.take_succ_eq_append_getElem h]
  simp only [List.map_append, List.sum_append, List.map_cons, List.map_nil, List.sum_cons, List.sum_nil, Nat.add_zero]
theorem total_le {rs : List Row} {r : Row} (h : r ∈ rs) : r.zs.length ≤ total rs := by
  unfold total
  induction rs with
  | nil => cases h
  | cons x rs ih =>
    simp only [List.map_cons, List.sum_cons]
    rcases List.mem_cons.1 h with h | h
    · subst h; omega
    · have := ih h; omega
/-! ### only these rows' blocks have turned -/
def Onl (w w' : World) (rs : List Row) : Prop :=
  w'.os = w.os ∧ w'.tape = w.tape ∧ w'.output = w.output ∧ w.heap.size ≤ w'.heap.size ∧ ∀ i, i < w.heap.size → (∀ r ∈ rs, (rowV r).ownBlock ≠ some i) → w'.heap[i]? = w.heap[i]?
theorem Onl.refl (w : World) (rs : List Row) : Onl w w rs := ⟨rfl, rfl, rfl, Nat.le_refl _, fun _ _ _ => rfl⟩
theorem Onl.step {w w1 w2 : World} {rs : List Row} {r : Row} (h : Onl w w1 rs) (hr : r ∈ rs) (hg : w1.grownBy w2 (rowV r).ownBlock) : Onl w w2 rs :=
  ⟨hg.os.trans h.1, hg.tape.trans h.2.1, hg.output.trans h.2.2.1, Nat.le_trans h.2.2.2.1 hg.size, fun i hi hn => (hg.block i (Nat.lt_of_lt_of_le hi h.2.2.2.1) (fun e => hn r hr e.symm)).trans (h.2.2.2.2 i hi hn)⟩
theorem Onl.below {w w' : World} {rs : List Row} {lo base : Nat} (h : Onl w w' rs) (hown : RowsOwn w lo rs) (hb : base ≤ lo) (hbw : base ≤ w.heap.size) : Below base w w' :=
  ⟨h.1, h.2.1, h.2.2.1, h.2.2.2.1, fun i hi => h.2.2.2.2 i (by omega) (fun r hr e => by have := ((hown.1 r hr).lt i e).1; omega)⟩
theorem cell_block {w w' : World} {b o : Nat} (h : w'.heap[b]? = w.heap[b]?) : w'.cell? ⟨b, o, none⟩ = w.cell? ⟨b, o, none⟩ := by simp [World.cell?, h]
theorem RowsOwn.block_ne {w : World} {lo : Nat} {rs : List Row} (h : RowsOwn w lo rs) {i j : Nat} (hij : i < j) (hj : j < rs.length) {g : Nat} (h1 : (rowV (rs[i]'(by omega))).ownBlock = some g) : (rowV rs[j]).ownBlock ≠ some g := fun h2 => by
  have := List.pairwise_iff_getElem.1 h.2 i j (by omega) hj hij g g h1 h2
  omega
theorem markIntSS_any (A : Option Addr) (c : Nat) (rs : List Row) (k0 : Int) (lo : Nat) (w : World) (hk0 : 0 ≤ k0 ∧ k0 ≤ 1000000) (hn : rs.length ≤ 1048576) (ht : total rs ≤ 1048576) (hA : Sl w A (rowVs rs)) (hAb : ∀ a, A = some a → a.block < lo) (hlo : lo ≤ w.heap.size) (hown : RowsOwn w lo rs) :
    Calls Try.prog 20 #[.slice A rs.length c, .int .i64 k0] w fun e w' => e = .returned (.int .i64 (k0 + (total rs : Nat))) ∧ Onl w w' rs := by
  have HOW := mkHid hown
  have HA := mkHid hA
  have HAB := mkHid hAb
  clear hown hA hAb
  go_enter Try.func20, Try.ntmps20
  go_wp2_with fail
  go_loopw [1, 5] (fun kv i wr => ∃ k : Nat, k ≤ rs.length ∧ i = .int .i64 k ∧ (∃ t : Nat, kv = .int .i64 (k0 + t) ∧ t ≤ total rs ∧ Hid (t = total (rs.take k))) ∧ Onl w wr rs ∧ (∀ j (h : j < rs.length), k ≤ j → wr.ownsRow lo 3 1 (rowV rs[j]) rs[j].zs.length (ints rs[j].zs))) (fun _ i _ => rs.length - (intOf i).toNat)
  case atStart => exact ⟨0, by omega, rfl, ⟨0, by simp, by omega, mkHid (by simp [total])⟩, Onl.refl _ _, fun j h _ => HOW.out.1 _ (List.getElem_mem h)⟩
  case round =>
    obtain ⟨k, hk, rfl, ⟨t, rfl, htt, HT⟩, honl, hrest⟩ := hrel
    have HON := mkHid honl
    have HRS := mkHid hrest
    clear honl hrest
    by_cases hlt : k < rs.length
    · obtain ⟨b, off, rfl, hc⟩ := HA.out.at_ (k := k) (by simpa using hlt)
      have hblo := HAB.out _ rfl
      have h1 : wr.cell? ⟨b, off + k, none⟩ = some (.slice rs[k].a rs[k].zs.length rs[k].c) := by
        have hb1 : b < lo := hblo
        rw [cell_block (HON.out.2.2.2.2 b (by omega) (fun r hr e => by have := ((HOW.out.1 r hr).lt b e).1; omega))]
        exact hc k _ (by rw [List.getElem?_map, List.getElem?_eq_getElem hlt]; rfl)
      have htk := total_take rs k hlt
      have htk2 : total (rs.take (k + 1)) ≤ total rs := by
        unfold total
        have e : rs = rs.take (k + 1) ++ rs.drop (k + 1) := (List.take_append_drop _ _).symm
        have : (rs.map fun r => r.zs.length).sum = ((rs.take (k + 1)).map fun r => r.zs.length).sum + ((rs.drop (k + 1)).map fun r => r.zs.length).sum := by
          conv => lhs; rw [e]
          rw [List.map_append, List.sum_append]
        omega
      have hro := HRS.out k hlt (Nat.le_refl _)
      have HM : Hid (rs[k] ∈ rs) := mkHid (List.getElem_mem hlt)
      have hbne : ∀ j (h : j < rs.length), k < j → ∀ g, (rowV rs[k]).ownBlock = some g → (rowV rs[j]).ownBlock ≠ some g := fun j h hkj g e => HOW.out.block_ne hkj h e
      have HBN := mkHid hbne
      obtain ⟨r, hr⟩ : ∃ r, r = rs[k] := ⟨_, rfl⟩
      rw [← hr] at h1 htk hro HM HBN
      have HTK := mkHid htk
      have hrt := total_le HM.out
      obtain ⟨ra, rc, zs⟩ := r
      simp only at h1 htk hro hrt
      have HRO := mkHid (show wr.ownsRow lo 3 1 (.slice ra zs.length rc) zs.length (ints zs) from hro)
      have hl2 : t + zs.length ≤ total rs := by have := HT.out; omega
      clear hc hr hro htk hbne htk2
      go_wp2_with fail
      refine (markIntS_any _ _ _ _ _ _ (by omega) (by omega) (by omega) HRO.out).mono ?_
      rintro e w2 ⟨rfl, o2, g2⟩
      have HON2 := mkHid (HON.out.step HM.out g2)
      have HRS2 := mkHid (show ∀ j (h : j < rs.length), k + 1 ≤ j → w2.ownsRow lo 3 1 (rowV rs[j]) rs[j].zs.length (ints rs[j].zs) from fun j h hj => own_grown' (HRS.out j h (by omega)) g2 (fun g e1 e2 => HBN.out j h (by omega) g e2 e1))
      clear o2 g2
      go_wp2_with fail
      go_roundw
      case rel => exact ⟨k + 1, by omega, by go_num, ⟨t + zs.length, by congr 1; omega, hl2, mkHid (by rw [HTK.out, ← HT.out])⟩, HON2.out, HRS2.out⟩
      case measure => simp [intOf] <;> omega
    · have hte : t = total rs := by have := HT.out; rwa [List.take_of_length_le (by omega)] at this
      subst hte
      go_wp2_with fail
      go_ret
      exact ⟨rfl, HON.out⟩
/-! ### bools -/
def markBs (k : Int) (n : Nat) : List Bool := (List.range n).map fun i : Nat => (k + (i : Int)) % 3 == 0
theorem markBs_length (k : Int) (n : Nat) : (markBs k n).length = n := by simp [markBs]
theorem markB_step (k : Int) (bs : List Bool) (i : Nat) (h : i < bs.length) : (bools (markBs k i ++ bs.drop i)).set i (.bool ((k + (i : Int)) % 3 == 0)) = bools (markBs k (i + 1) ++ bs.drop (i + 1)) := by
  have h1 : bs.drop i = bs[i] :: bs.drop (i + 1) := List.drop_eq_getElem_cons h
  have h2 : markBs k (i + 1) = markBs k i ++ [(k + (i : Int)) % 3 == 0] := by simp [markBs, List.range_succ]
  rw [h1, h2, bools, bools, List.map_append, List.map_append, List.set_append_right _ _ (by simp [markBs_length])]
  simp only [List.map_cons, markBs_length, List.length_map, Nat.sub_self, List.set_cons_zero, List.map_append, List.append_assoc, List.map_nil, List.cons_append, List.nil_append]
end Go.Proofs.Ytjgemgjpbanliaa
