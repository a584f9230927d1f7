/-
  Rows in blocks of their own, in whatever order; what stands in them after marking; the plain law of predecessors.
-/
import Derived.Test.YtabpcbikbhbcaaaCMarks
namespace Go.Proofs.Ytabpcbikbhbcaaa
open Go.RowKit
set_option maxHeartbeats 2000000
set_option linter.unusedVariables false

/-! ### predecessors -/
def rowHits (row : List Int) (a b : Int) : List Int := (row.filter fun v => v == a).map fun _ => b
def backUpto (g : List (List Int)) (a : Int) (k : Nat) : List Int := (List.range k).flatMap fun b : Nat => rowHits (g.getD b []) a b
def back (g : List (List Int)) : List (List Int) := if graphValid g then (List.range g.length).map fun a : Nat => backUpto g a g.length else []
def backCur (g : List (List Int)) (k j : Nat) (a : Int) : List Int := backUpto g a k ++ rowHits ((g.getD k []).take j) a k
theorem backCur_zero (g : List (List Int)) (k : Nat) (a : Int) : backCur g k 0 a = backUpto g a k := by simp [backCur, rowHits]
theorem backUpto_succ (g : List (List Int)) (a : Int) (k : Nat) : backUpto g a (k + 1) = backUpto g a k ++ rowHits (g.getD k []) a k := by simp [backUpto, List.range_succ]
theorem backCur_succ (g : List (List Int)) (k j : Nat) (a : Int) (h : j < (g.getD k []).length) : backCur g k (j + 1) a = backCur g k j a ++ if ((g.getD k [])[j] == a) = true then [(k : Int)] else [] := by
  unfold backCur rowHits
  rw [List.take_succ_eq_append_getElem h, List.filter_append, List.map_append, List.append_assoc]
  congr 2
  generalize (g.getD k [])[j] = x
  cases e : x == a <;> simp [e]
theorem backCur_full (g : List (List Int)) (k : Nat) (a : Int) (j : Nat) (h : (g.getD k []).length ≤ j) : backCur g k j a = backUpto g a (k + 1) := by
  unfold backCur
  rw [List.take_of_length_le h, backUpto_succ]
theorem rowHits_le (row : List Int) (a b : Int) : (rowHits row a b).length ≤ row.length := by
  unfold rowHits; rw [List.length_map]; exact List.length_filter_le _ _
theorem back_len (rs : List Row) (a : Int) (k : Nat) (hk : k ≤ rs.length) : (backUpto (graph rs) a k).length ≤ total (rs.take k) := by
  induction k with
  | zero => simp [backUpto]
  | succ k ih =>
    rw [backUpto_succ, List.length_append, total_take rs k (by omega), graph_at (show k < rs.length by omega)]
    have h1 := ih (by omega)
    have h2 := rowHits_le (rs[k]'(by omega)).zs a k
    omega
theorem total_take_le (rs : List Row) (k : Nat) : total (rs.take k) ≤ total rs := by
  unfold total
  have e : rs = rs.take k ++ rs.drop k := (List.take_append_drop _ _).symm
  have : (rs.map fun r => r.zs.length).sum = ((rs.take k).map fun r => r.zs.length).sum + ((rs.drop k).map fun r => r.zs.length).sum := by
    conv => lhs; rw [e]
    rw [List.map_append, List.sum_append]
  omega
theorem backCur_len (rs : List Row) (a : Int) (k j : Nat) (hk : k < rs.length) : (backCur (graph rs) k j a).length ≤ total rs := by
  have h1 := back_len rs a k (by omega)
  have h2 := rowHits_le (((graph rs).getD k []).take j) a k
  have h3 := total_take_le rs (k + 1)
  rw [total_take rs k hk] at h3
  rw [graph_at hk] at h2
  have h4 : ((rs[k]).zs.take j).length ≤ rs[k].zs.length := List.length_take_le' _ _
  unfold backCur
  rw [List.length_append, graph_at hk]
  omega
/-! ### rows in blocks of their own -/
def RowsApart (w : World) (lo : Nat) (rs : List Row) : Prop :=
  (∀ r ∈ rs, w.ownsRow lo 3 1 (rowV r) r.zs.length (ints r.zs)) ∧ ∀ i j (hi : i < rs.length) (hj : j < rs.length), i ≠ j → ∀ g, (rowV rs[i]).ownBlock = some g → (rowV rs[j]).ownBlock ≠ some g
theorem RowsOwn.apart' {w : World} {lo : Nat} {rs : List Row} (h : RowsOwn w lo rs) : RowsApart w lo rs := by
  refine ⟨h.1, fun i j hi hj hne g h1 h2 => ?_⟩
  rcases Nat.lt_or_gt_of_ne hne with h3 | h3
  · exact h.block_ne h3 hj h1 h2
  · exact h.block_ne h3 hi h2 h1
theorem RowsApart.kept {w w' : World} {lo : Nat} {rs : List Row} {row : Option Nat} (h : RowsApart w lo rs) (hg : w.grownBy w' row) (hne : ∀ r ∈ rs, ∀ g, (rowV r).ownBlock = some g → row ≠ some g) : RowsApart w' lo rs :=
  ⟨fun r hr => own_grown' (h.1 r hr) hg (fun g e1 e2 => hne r hr g e1 e2), h.2⟩
theorem RowsApart.below {w w' : World} {lo : Nat} {rs : List Row} (h : RowsApart w lo rs) (hb : Below w.heap.size w w') : RowsApart w' lo rs :=
  ⟨fun r hr => own_below (h.1 r hr) hb, h.2⟩
theorem RowsApart.set {w w' : World} {lo t : Nat} {rs : List Row} (h : RowsApart w lo rs) (ht : t < rs.length) (r : Row) (hg : w.grownBy w' (rowV rs[t]).ownBlock) (hr : w'.ownsRow lo 3 1 (rowV r) r.zs.length (ints r.zs))
    (hb : ∀ g, (rowV r).ownBlock = some g → (rowV rs[t]).ownBlock = some g ∨ w.heap.size ≤ g) : RowsApart w' lo (rs.set t r) := by
  refine ⟨fun s hs => ?_, fun i j hi hj hne g h1 h2 => ?_⟩
  · obtain ⟨i, hi, rfl⟩ := List.mem_iff_getElem.1 hs
    rw [List.length_set] at hi
    rw [List.getElem_set]
    split
    · exact hr
    · rename_i hne
      exact own_grown' (h.1 _ (List.getElem_mem hi)) hg (fun g e1 e2 => h.2 i t hi ht (fun e => hne e.symm) g e1 e2)
  · rw [List.length_set] at hi hj
    have hlt : ∀ k (hk : k < rs.length) g, (rowV rs[k]).ownBlock = some g → g < w.heap.size := fun k hk g e => ((h.1 _ (List.getElem_mem hk)).lt g e).2
    rw [List.getElem_set] at h1 h2
    by_cases e1 : t = i
    · by_cases e2 : t = j
      · omega
      · rw [if_pos e1] at h1
        rw [if_neg e2] at h2
        rcases hb g h1 with h3 | h3
        · exact h.2 t j ht hj e2 g h3 h2
        · have := hlt j hj g h2; omega
    · rw [if_neg e1] at h1
      by_cases e2 : t = j
      · rw [if_pos e2] at h2
        rcases hb g h2 with h3 | h3
        · exact h.2 t i ht hi e1 g h3 h1
        · have := hlt i hi g h1; omega
      · rw [if_neg e2] at h2
        exact h.2 i j hi hj hne g h1 h2
theorem RowsApart.grid {w : World} {lo : Nat} {rs : List Row} {A : Option Addr} (h : RowsApart w lo rs) (hA : Sl w A (rowVs rs)) (hl : ∀ r ∈ rs, r.zs.length ≤ 9223372036854775807) : Grid w A rs :=
  ⟨hA, fun r hr => ⟨Sl.of_own (h.1 r hr), own_cap (h.1 r hr), hl r hr⟩⟩
theorem markRows_any (A : Option Addr) (c : Nat) (rs : List Row) (k0 : Int) (lo : Nat) (w : World) (hk0 : 0 ≤ k0 ∧ k0 ≤ 1000000) (hn : rs.length ≤ 1048576) (ht : total rs ≤ 1000000000) (hA : Sl w A (rowVs rs)) (hAb : ∀ a, A = some a → ∀ r ∈ rs, (rowV r).ownBlock ≠ some a.block) (hown : RowsApart w lo rs) :
    Calls Try.prog 19 #[.slice A rs.length c, .int .i64 k0] w fun e w' => e = .returned (.int .i64 (k0 + (total rs : Nat))) ∧ Onl w w' rs ∧ (∀ j (h : j < rs.length), w'.ownsRow lo 3 1 (rowV rs[j]) rs[j].zs.length (ints (marks (k0 + (total (rs.take j) : Nat)) rs[j].zs.length))) := by
  have HOW := mkHid hown
  have HA := mkHid hA
  have HAB := mkHid hAb
  clear hown hA hAb
  go_enter Try.func19, Try.ntmps19
  go_wp2_with fail
  go_loopw [1, 5] (fun kv i wr => ∃ k : Nat, k ≤ rs.length ∧ i = .int .i64 k ∧ (∃ t : Nat, kv = .int .i64 (k0 + t) ∧ t ≤ total rs ∧ Hid (t = total (rs.take k))) ∧ Onl w wr rs ∧ (∀ j (h : j < rs.length), k ≤ j → wr.ownsRow lo 3 1 (rowV rs[j]) rs[j].zs.length (ints rs[j].zs)) ∧ (∀ j (h : j < rs.length), j < k → wr.ownsRow lo 3 1 (rowV rs[j]) rs[j].zs.length (ints (marks (k0 + (total (rs.take j) : Nat)) rs[j].zs.length)))) (fun _ i _ => rs.length - (intOf i).toNat)
  case atStart => exact ⟨0, by omega, rfl, ⟨0, by simp, by omega, mkHid (by simp [total])⟩, Onl.refl _ _, (fun j h _ => HOW.out.1 _ (List.getElem_mem h)), (fun j h h' => absurd h' (by omega))⟩
  case round =>
    obtain ⟨k, hk, rfl, ⟨t, rfl, htt, HT⟩, honl, hrest, hdone⟩ := hrel
    have HON := mkHid honl
    have HRS := mkHid hrest
    have HDN := mkHid hdone
    clear honl hrest hdone
    by_cases hlt : k < rs.length
    · obtain ⟨b, off, rfl, hc⟩ := HA.out.at_ (k := k) (by simpa using hlt)
      have hbne0 := HAB.out _ rfl
      have h1 : wr.cell? ⟨b, off + k, none⟩ = some (.slice rs[k].a rs[k].zs.length rs[k].c) := by
        have h0 : w.cell? ⟨b, off + k, none⟩ = some (.slice rs[k].a rs[k].zs.length rs[k].c) := hc k _ (by rw [List.getElem?_map, List.getElem?_eq_getElem hlt]; rfl)
        rw [cell_block (HON.out.2.2.2.2 b (World.block_lt_of_cell? w _ h0) (fun r hr e => hbne0 r hr e))]
        exact h0
      have htk := total_take rs k hlt
      have htk2 := total_take_le rs (k + 1)
      have hro := HRS.out k hlt (Nat.le_refl _)
      have HM : Hid (rs[k] ∈ rs) := mkHid (List.getElem_mem hlt)
      have hbne : ∀ j (h : j < rs.length), j ≠ k → ∀ g, (rowV rs[k]).ownBlock = some g → (rowV rs[j]).ownBlock ≠ some g := fun j h hkj g e => HOW.out.2 k j hlt h (fun e => hkj e.symm) g e
      have HBN := mkHid hbne
      have hkk : ∀ (r' : Row), r' = rs[k] → w = w := fun _ _ => rfl
      obtain ⟨r, hr⟩ : ∃ r, r = rs[k] := ⟨_, rfl⟩
      rw [← hr] at h1 htk hro HM HBN
      have HTK := mkHid htk
      have HREQ := mkHid hr
      have hrt := total_le HM.out
      obtain ⟨ra, rc, zs⟩ := r
      simp only at h1 htk hro hrt
      have HRO := mkHid (show wr.ownsRow lo 3 1 (.slice ra zs.length rc) zs.length (ints zs) from hro)
      have hl2 : t + zs.length ≤ total rs := by have := HT.out; omega
      clear hc hr hro htk hbne htk2 hkk hbne0
      go_wp2_with fail
      refine (markIntS_any _ _ _ _ _ _ (by omega) (by omega) (by omega) HRO.out).mono ?_
      rintro e w2 ⟨rfl, o2, g2⟩
      have HON2 := mkHid (HON.out.step HM.out g2)
      have HRS2 := mkHid (show ∀ j (h : j < rs.length), k + 1 ≤ j → w2.ownsRow lo 3 1 (rowV rs[j]) rs[j].zs.length (ints rs[j].zs) from fun j h hj => own_grown' (HRS.out j h (by omega)) g2 (fun g e1 e2 => HBN.out j h (by omega) g e2 e1))
      have HDN2 := mkHid (show ∀ j (h : j < rs.length), j < k + 1 → w2.ownsRow lo 3 1 (rowV rs[j]) rs[j].zs.length (ints (marks (k0 + (total (rs.take j) : Nat)) rs[j].zs.length)) from fun j h hj => by
        by_cases e : j = k
        · subst e
          rw [← HREQ.out, ← HT.out]
          exact o2
        · exact own_grown' (HDN.out j h (by omega)) g2 (fun g e1 e2 => HBN.out j h e g e2 e1))
      clear o2 g2
      go_wp2_with fail
      go_roundw
      case rel => exact ⟨k + 1, by omega, by go_num, ⟨t + zs.length, by congr 1; omega, hl2, mkHid (by rw [HTK.out, ← HT.out])⟩, HON2.out, HRS2.out, HDN2.out⟩
      case measure => simp [intOf] <;> omega
    · have hte : t = total rs := by have := HT.out; rwa [List.take_of_length_le (by omega)] at this
      have hke : k = rs.length := by omega
      subst hte
      go_wp2_with fail
      go_ret
      exact ⟨rfl, HON.out, fun j h => HDN.out j h (by omega)⟩
theorem heldRows_any (A : Option Addr) (c : Nat) (rs : List Row) (k0 : Int) (w : World) (hk0 : 0 ≤ k0 ∧ k0 ≤ 1000000) (hn : rs.length ≤ 1048576) (ht : total rs ≤ 1000000000) (hA : Sl w A (rowVs rs)) (hown : ∀ j (h : j < rs.length), Sl w rs[j].a (ints (marks (k0 + (total (rs.take j) : Nat)) rs[j].zs.length))) :
    Calls Try.prog 20 #[.slice A rs.length c, .int .i64 k0] w fun e w' => e = .returned (.int .i64 (k0 + (total rs : Nat))) ∧ w = w' := by
  have HOW := mkHid hown
  have HA := mkHid hA
  clear hown hA
  go_enter Try.func20, Try.ntmps20
  go_wp2_with fail
  go_loop [1, 5] (fun kv i => ∃ k : Nat, k ≤ rs.length ∧ i = .int .i64 k ∧ (∃ t : Nat, kv = .int .i64 (k0 + t) ∧ t ≤ total rs ∧ Hid (t = total (rs.take k)))) (fun _ i => rs.length - (intOf i).toNat)
  case atStart => exact ⟨0, by omega, rfl, ⟨0, by simp, by omega, mkHid (by simp [total])⟩⟩
  case round =>
    obtain ⟨k, hk, rfl, ⟨t, rfl, htt, HT⟩⟩ := hrel
    by_cases hlt : k < rs.length
    · obtain ⟨b, off, rfl, hc⟩ := HA.out.at_ (k := k) (by simpa using hlt)
      have h1 : w.cell? ⟨b, off + k, none⟩ = some (.slice rs[k].a rs[k].zs.length rs[k].c) := hc k _ (by rw [List.getElem?_map, List.getElem?_eq_getElem hlt]; rfl)
      have htk := total_take rs k hlt
      have htk2 := total_take_le rs (k + 1)
      have hro := HOW.out k hlt
      rw [← HT.out] at hro
      obtain ⟨r, hr⟩ : ∃ r, r = rs[k] := ⟨_, rfl⟩
      rw [← hr] at h1 htk hro
      have HTK := mkHid htk
      obtain ⟨ra, rc, zs⟩ := r
      simp only at h1 htk hro
      have hH := heldIntS_any ra rc zs.length (k0 + t) w (by omega) (by omega) (by omega) hro
      have HH := mkHid hH
      have hl2 : t + zs.length ≤ total rs := by have := HT.out; omega
      clear hc hr hro htk htk2 hH
      go_wp2_with fail
      refine HH.out.mono ?_
      rintro e w2 ⟨rfl, rfl⟩
      go_wp2_with fail
      go_round
      case rel => exact ⟨k + 1, by omega, by go_num, ⟨t + zs.length, by congr 1; omega, hl2, mkHid (by rw [HTK.out, ← HT.out])⟩⟩
      case measure => simp [intOf] <;> omega
    · have hte : t = total rs := by have := HT.out; rwa [List.take_of_length_le (by omega)] at this
      subst hte
      go_wp2_with fail
      go_ret
      exact ⟨rfl, rfl⟩
end Go.Proofs.Ytabpcbikbhbcaaa
