/-
  Contracts of the laws' helpers markLaneS, heldLaneS, markCrowd, heldCrowd, at lanes with four registers and without turns.
-/
import Derived.Test.YtilhcedfokhhjaaCLane2
namespace Go.Proofs.Ytilhcedfokhhjaa
open Go.RowKit
set_option maxHeartbeats 2000000
set_option linter.unusedVariables false

def mkLn (k0 : Int) (i : Nat) (l : Ln) : Ln := ⟨l.ra, l.rc, marks (k0 + 6 * i) 4, k0 + 6 * i + 4, (k0 + 6 * i + 4 + 1) % 3 == 0⟩
def markLns (k0 : Int) (ls : List Ln) : List Ln := ls.mapIdx (mkLn k0)
theorem markLns_length (k0 : Int) (ls : List Ln) : (markLns k0 ls).length = ls.length := by simp [markLns]
theorem markLns_at (k0 : Int) (ls : List Ln) (i : Nat) (h : i < ls.length) : (markLns k0 ls)[i]'(by rw [markLns_length]; exact h) = mkLn k0 i ls[i] := by simp [markLns]
def midLns (k0 : Int) (ls : List Ln) (j : Nat) : List Ln := (markLns k0 ls).take j ++ ls.drop j
theorem midLns_length (k0 : Int) (ls : List Ln) (j : Nat) (h : j ≤ ls.length) : (midLns k0 ls j).length = ls.length := by
  unfold midLns; rw [List.length_append, List.length_take, List.length_drop, markLns_length]; omega
theorem midLns_at (k0 : Int) (ls : List Ln) (j : Nat) (h : j < ls.length) : (midLns k0 ls j)[j]'(by rw [midLns_length _ _ _ (by omega)]; exact h) = ls[j] := by
  unfold midLns
  rw [List.getElem_append_right (by rw [List.length_take, markLns_length]; omega)]
  simp [List.length_take, markLns_length, Nat.min_eq_left (Nat.le_of_lt h)]
theorem midLns_step (k0 : Int) (ls : List Ln) (j : Nat) (h : j < ls.length) : (midLns k0 ls j).set j (mkLn k0 j ls[j]) = midLns k0 ls (j + 1) := by
  unfold midLns
  have hm : j < (markLns k0 ls).length := by rw [markLns_length]; exact h
  rw [List.set_append_right _ _ (by rw [List.length_take]; omega), List.take_succ_eq_append_getElem hm, markLns_at _ _ _ h, List.drop_eq_getElem_cons h]
  rw [List.length_take, markLns_length, Nat.min_eq_left (Nat.le_of_lt h), Nat.sub_self, List.set_cons_zero]
  simp only [List.append_assoc, List.cons_append, List.nil_append]
theorem midLns_full (k0 : Int) (ls : List Ln) : midLns k0 ls ls.length = markLns k0 ls := by
  unfold midLns
  rw [List.drop_length, List.append_nil, List.take_of_length_le (by rw [markLns_length]; exact Nat.le_refl _)]
theorem mem_markLns {k0 : Int} {ls : List Ln} {l : Ln} (h : l ∈ markLns k0 ls) : l.zs.length = 4 := by
  obtain ⟨i, hi, rfl⟩ := List.mem_iff_getElem.1 h
  rw [markLns_length] at hi
  rw [markLns_at _ _ _ hi]
  simp [mkLn, marks_length]
theorem lflat_set2 (ys : List Ln) (k : Nat) (a : Ln) (hk : k < ys.length) (hr : lnR a = lnR ys[k]) :
    ((lflat ys).set (k * 4 + 1) (.int .i64 a.at_)).set (k * 4 + 3) (.bool a.wt) = lflat (ys.set k a) := by
  apply List.ext_getElem?
  intro i
  simp only [List.getElem?_set, List.length_set, lflat_length]
  by_cases h : i < ys.length * 4
  · have h1 := lflat_at (ys.set k a) (i / 4) (i % 4) (by simp; omega) (Nat.mod_lt _ (by omega))
    have h0 := lflat_at ys (i / 4) (i % 4) (by omega) (Nat.mod_lt _ (by omega))
    rw [show i / 4 * 4 + i % 4 = i from by omega] at h1 h0
    rw [h1, h0]
    have h2 : i % 4 = 0 ∨ i % 4 = 1 ∨ i % 4 = 2 ∨ i % 4 = 3 := by omega
    by_cases hi : k = i / 4
    · subst hi
      have hs : (ys.set (i / 4) a)[i / 4]'(by simp; omega) = a := by simp
      rw [hs]
      rcases h2 with h2 | h2 | h2 | h2
      · rw [if_neg (by omega), if_neg (by omega), h2]; simp only [lnCells, List.getElem?_cons_zero]; rw [hr]
      · rw [if_neg (by omega), if_pos (by omega), h2]; simp [lnCells]; omega
      · rw [if_neg (by omega), if_neg (by omega), h2]; simp [lnCells]
      · rw [if_pos (by omega), h2]; simp [lnCells]; omega
    · have hs : (ys.set k a)[i / 4]'(by simp; omega) = ys[i / 4]'(by omega) := by rw [List.getElem_set_ne hi]
      rw [hs, if_neg (by omega), if_neg (by omega)]
  · rw [if_neg (by omega), if_neg (by omega), List.getElem?_eq_none (by rw [lflat_length]; omega), List.getElem?_eq_none (by rw [lflat_length]; simp; omega)]
theorem own_lane {w : World} {base : Nat} {e : TypeId} {g n c : Nat} {ys : List Ln} (h : w.ownsRow base e 4 (.slice (some ⟨g, 0, none⟩) n c) n (lflat ys)) {k : Nat} (hk : k < ys.length) (a : Ln) (hr : lnR a = lnR ys[k]) :
    (w.cell? ⟨g, k * 4, none⟩ = some (.slice ys[k].ra ys[k].zs.length ys[k].rc) ∧ w.cell? ⟨g, k * 4 + 1, none⟩ = some (.int .i64 ys[k].at_) ∧ w.cell? ⟨g, k * 4 + 2, none⟩ = some (.slice none 0 0) ∧ w.cell? ⟨g, k * 4 + 3, none⟩ = some (.bool ys[k].wt)) ∧
    (w.frozen? ⟨g, k * 4 + 1, none⟩ = false ∧ w.frozen? ⟨g, k * 4 + 3, none⟩ = false) ∧
    ((w.setCell ⟨g, k * 4 + 1, none⟩ (.int .i64 a.at_)).setCell ⟨g, k * 4 + 3, none⟩ (.bool a.wt)).ownsRow base e 4 (.slice (some ⟨g, 0, none⟩) n c) n (lflat (ys.set k a)) := by
  refine ⟨?_, ⟨h.frozenAt _, h.frozenAt _⟩, ?_⟩
  · obtain ⟨b, off, hA, h0, h1, h2, h3⟩ := (Sl.of_own h).lane hk
    injection hA with hA
    injection hA with hA1 hA2
    subst hA1
    subst hA2
    simp only [Nat.zero_add] at h0 h1 h2 h3
    exact ⟨h0, h1, h2, h3⟩
  · rw [← lflat_set2 ys k a hk hr]
    exact ((h.stored _ _).1.stored _ _).1
theorem LanesApart.mark {w w' : World} {lo t : Nat} {ls : List Ln} (h : LanesApart w lo ls) (ht : t < ls.length) (l : Ln) (hr : lnR l = lnR ls[t]) (hg : w.grownBy w' (lnR ls[t]).ownBlock) (ho : w'.ownsRow lo 3 1 (lnR l) l.zs.length (ints l.zs)) : LanesApart w' lo (ls.set t l) := by
  have hb : ∀ i (hi : i < (ls.set t l).length), (lnR (ls.set t l)[i]).ownBlock = (lnR (ls[i]'(by simpa using hi))).ownBlock := fun i hi => by
    rw [List.getElem_set]
    split
    · rename_i e; subst e; rw [hr]
    · rfl
  refine ⟨fun s hs => ?_, fun i j hi hj hne g h1 h2 => ?_⟩
  · obtain ⟨i, hi, rfl⟩ := List.mem_iff_getElem.1 hs
    rw [List.length_set] at hi
    rw [List.getElem_set]
    split
    · exact ho
    · rename_i hne
      exact own_grown' (h.1 _ (List.getElem_mem hi)) hg (fun g e1 e2 => h.2 i t hi ht (fun e => hne e.symm) g e1 e2)
  · rw [hb] at h1 h2
    exact h.2 i j (by simpa using hi) (by simpa using hj) hne g h1 h2
/-- only the lanes' own blocks have turned. -/
def OnlL (w w' : World) (v : Value) (ls : List Ln) : Prop :=
  w'.os = w.os ∧ w'.tape = w.tape ∧ w'.output = w.output ∧ w.heap.size ≤ w'.heap.size ∧ ∀ i, i < w.heap.size → v.ownBlock ≠ some i → (∀ l ∈ ls, (lnR l).ownBlock ≠ some i) → w'.heap[i]? = w.heap[i]?
theorem OnlL.refl (w : World) (v : Value) (ls : List Ln) : OnlL w w v ls := ⟨rfl, rfl, rfl, Nat.le_refl _, fun _ _ _ _ => rfl⟩
theorem OnlL.step {w w1 w2 : World} {v : Value} {ls : List Ln} {row : Option Nat} (h : OnlL w w1 v ls) (hg : w1.grownBy w2 row) (hr : ∀ i, row = some i → v.ownBlock = some i ∨ ∃ l ∈ ls, (lnR l).ownBlock = some i) : OnlL w w2 v ls :=
  ⟨hg.os.trans h.1, hg.tape.trans h.2.1, hg.output.trans h.2.2.1, Nat.le_trans h.2.2.2.1 hg.size, fun i hi hv hn => (hg.block i (Nat.lt_of_lt_of_le hi h.2.2.2.1) (fun e => by
    rcases hr i e.symm with h1 | ⟨l, hl, h1⟩
    · exact hv h1
    · exact hn l hl h1)).trans (h.2.2.2.2 i hi hv hn)⟩
theorem own_types' {w : World} {b1 b2 s1 s2 B g n c m : Nat} {e1 e2 : TypeId} {v : Value} {xs ys : List Value} (h : w.ownsRow b1 e1 s1 (.slice (some ⟨B, 0, none⟩) n c) n xs) (k : w.ownsRow b2 e2 s2 v m ys) (hne : e1 ≠ e2) (hv : v.ownBlock = some g) : g ≠ B := by
  intro e
  subst e
  rcases k.2 with ⟨h1, _⟩ | ⟨g2, c2, cur2, hv2, _, hg2, _⟩
  · rw [h1] at hv; cases hv
  · rw [hv2] at hv
    have e2 : g2 = g := by simpa [Value.ownBlock] using hv
    subst e2
    rcases h.2 with ⟨h1, _⟩ | ⟨g1, c1, cur1, hv1, _, hg1, _⟩
    · cases h1
    · have e1 : g2 = g1 := by injection hv1 with hv; injection hv with hv; injection hv
      subst e1
      rw [hg1] at hg2
      injection hg2 with hg2
      injection hg2 with _ ht _
      exact hne ht
theorem own_types2 {w : World} {b1 b2 s1 s2 g n m : Nat} {e1 e2 : TypeId} {v1 v2 : Value} {xs ys : List Value} (h : w.ownsRow b1 e1 s1 v1 n xs) (k : w.ownsRow b2 e2 s2 v2 m ys) (hne : e1 ≠ e2) (h1 : v1.ownBlock = some g) : v2.ownBlock ≠ some g := fun h2 => by
  rcases h.2 with ⟨h5, _⟩ | ⟨g', cap', cur', h5, _⟩
  · rw [h5] at h1; cases h1
  · rw [h5] at h1 h
    have e : g' = g := by simpa [Value.ownBlock] using h1
    subst e
    exact own_types' h k hne h2 rfl
theorem own_ne_heap {w : World} {b s n C : Nat} {e ty : TypeId} {v : Value} {xs : List Value} {cs : Array Value} {fr : Nat × Nat} (h : w.ownsRow b e s v n xs) (hq : w.heap[C]? = some (.cells cs ty fr)) (hne : e ≠ ty) : v.ownBlock ≠ some C := fun hv => by
  rcases h.2 with ⟨h1, _⟩ | ⟨g, cap, cur, h1, _, h2, _⟩
  · rw [h1] at hv; cases hv
  · rw [h1] at hv
    have e1 : g = C := by simpa [Value.ownBlock] using hv
    subst e1
    rw [hq] at h2
    injection h2 with h2
    injection h2 with _ h3 _
    exact hne h3.symm
theorem markNil_any (k0 : Int) (w : World) :
    Calls Try.prog 28 #[.slice none 0 0, .int .i64 k0] w fun e w' => e = .returned (.int .i64 k0) ∧ w = w' := by
  go_enter Try.func28, Try.ntmps28
  go_wp2
  go_loop [1, 5] (fun kv i => i = .int .i64 0 ∧ kv = .int .i64 k0) (fun _ i => 0)
  case atStart => exact ⟨rfl, rfl⟩
  case round =>
    obtain ⟨rfl, rfl⟩ := hrel
    go_wp2
    go_ret
    exact ⟨rfl, rfl⟩
theorem markLaneS_any (A : Option Addr) (c : Nat) (ls : List Ln) (k0 : Int) (lo : Nat) (w : World) (hk0 : 0 ≤ k0 ∧ k0 ≤ 1000000) (hn : ls.length ≤ 1048576) (h4 : ∀ l ∈ ls, l.zs.length = 4)
    (ho : w.ownsRow lo 48 4 (.slice A ls.length c) ls.length (lflat ls)) (hown : LanesApart w lo ls) :
    Calls Try.prog 54 #[.slice A ls.length c, .int .i64 k0] w fun e w' => e = .returned (.int .i64 (k0 + 6 * ls.length)) ∧ w'.ownsRow lo 48 4 (.slice A ls.length c) ls.length (lflat (markLns k0 ls)) ∧ LanesApart w' lo (markLns k0 ls) ∧ OnlL w w' (.slice A ls.length c) ls := by
  have H4 := mkHid h4
  have HO0 := mkHid ho
  have HA0 := mkHid hown
  clear h4 ho hown
  go_enter Try.func54, Try.ntmps54
  go_wp2_with fail
  go_loopw [1, 5] (fun kv i wr => ∃ k : Nat, k ≤ ls.length ∧ i = .int .i64 k ∧ kv = .int .i64 (k0 + 6 * k) ∧ wr.ownsRow lo 48 4 (.slice A ls.length c) ls.length (lflat (midLns k0 ls k)) ∧ LanesApart wr lo (midLns k0 ls k) ∧ OnlL w wr (.slice A ls.length c) ls) (fun _ i _ => ls.length - (intOf i).toNat)
  case atStart => exact ⟨0, by omega, rfl, by simp, by simpa [midLns] using HO0.out, by simpa [midLns] using HA0.out, OnlL.refl _ _ _⟩
  case round =>
    obtain ⟨k, hk, rfl, rfl, ho, ha, hon⟩ := hrel
    have HO := mkHid ho
    have HA := mkHid ha
    have HN := mkHid hon
    clear ho ha hon
    by_cases hlt : k < ls.length
    · have hml : k < (midLns k0 ls k).length := by rw [midLns_length _ _ _ hk]; exact hlt
      have hmk := midLns_at k0 ls k hlt
      have hz4 := H4.out _ (List.getElem_mem hlt)
      have HST := mkHid (midLns_step k0 ls k hlt)
      have hrr : lnR (mkLn k0 k ls[k]) = lnR ((midLns k0 ls k)[k]'(by rw [midLns_length _ _ _ hk]; exact hlt)) := by rw [hmk]; simp [mkLn, marks_length, hz4]
      have HRR := mkHid hrr
      have HML := mkHid hml
      obtain ⟨g, hg, hgb, hgs⟩ : ∃ g, A = some ⟨g, 0, none⟩ ∧ lo ≤ g ∧ g < wr.heap.size := by
        obtain ⟨g, hg, hgb, hgs, _⟩ := own_open HO.out (i := k * 4) (by rw [lflat_length, midLns_length _ _ _ hk]; omega)
        exact ⟨g, hg, hgb, hgs⟩
      subst hg
      have p0 := (own_lane HO.out hml _ hrr).1.1
      have hrow := HA.out.1 _ (List.getElem_mem hml)
      rw [hmk] at p0 hrow
      have HM : Hid (ls[k] ∈ ls) := mkHid (List.getElem_mem hlt)
      have HMK := mkHid hmk
      obtain ⟨l, hl⟩ : ∃ l, l = ls[k] := ⟨_, rfl⟩
      rw [← hl] at p0 hrow hz4 HM HST HRR HMK
      have hz4' := hz4
      have hrow' : wr.ownsRow lo 3 1 (.slice l.ra l.zs.length l.rc) l.zs.length (ints l.zs) := hrow
      rw [hz4] at p0
      have hC := markIntS_any l.ra l.rc l.zs (k0 + 6 * (k : Int)) lo wr (by omega) (by omega) (by omega) hrow'
      rw [hz4] at hC
      have HC := mkHid hC
      have HRW := mkHid hrow'
      have HZ4 := mkHid hz4
      clear hl hrow hrow' hz4 hz4' hC hmk hrr hml
      go_wp2_with fail
      refine HC.out.mono ?_
      rintro e w2 ⟨rfl, o2, g2⟩
      have HO2 := mkHid (own_grown' HO.out g2 (fun g' e1 e2 => by
        have e1' : g = g' := by simpa [Value.ownBlock] using e1
        rw [← HZ4.out] at e2
        exact own_types' HO.out HRW.out (by decide) e2 e1'.symm))
      have hlr : (Value.slice l.ra 4 l.rc) = lnR l := by rw [lnR, HZ4.out]
      have HA2 := mkHid (HA.out.mark HML.out (mkLn k0 k l) HRR.out (by rw [HMK.out, ← hlr]; exact g2) (by
        have h : w2.ownsRow lo 3 1 (.slice l.ra 4 l.rc) 4 (ints (marks (k0 + 6 * (k : Int)) 4)) := o2
        simp only [lnR, mkLn, marks_length]
        exact h))
      have HN2 := mkHid (HN.out.step g2 (fun i e => .inr ⟨l, HM.out, by rw [← hlr]; exact e⟩))
      obtain ⟨p1, p2, p3⟩ := (own_lane HO2.out HML.out _ HRR.out).1.2
      obtain ⟨f1, f3⟩ := (own_lane HO2.out HML.out _ HRR.out).2.1
      clear p0
      have HF := mkHid (own_lane HO2.out HML.out _ HRR.out).2.2
      have HGR := mkHid (grown_setCell' (grown_setCell w2 g (k * 4 + 1) (.int .i64 (mkLn k0 k l).at_)) (k * 4 + 3) (.bool (mkLn k0 k l).wt))
      clear o2 g2 hlr
      have hat : (mkLn k0 k l).at_ = k0 + 6 * (k : Int) + 4 := rfl
      have hwt : (mkLn k0 k l).wt = ((k0 + 6 * (k : Int) + 4 + 1) % 3 == 0) := rfl
      rw [hat, hwt] at HF HGR
      have HOT := HO2
      clear hat hwt
      go_wp2_with fail
      refine (markNil_any _ _).mono ?_
      rintro e w3 ⟨rfl, rfl⟩
      go_wp2_with fail
      go_roundw
      case rel =>
        refine ⟨k + 1, by omega, by go_num, by congr 1; omega, ?_, ?_, ?_⟩
        · rw [← HST.out]; exact HF.out
        · rw [← HST.out]
          exact HA2.out.kept HGR.out (fun l' hl' g' e1 e2 => by
            injection e2 with e2
            exact own_types' HO2.out (HA2.out.1 l' hl') (by decide) e1 e2.symm)
        · exact HN2.out.step HGR.out (fun i e => .inl (by injection e with e; rw [← e]; rfl))
      case measure => simp [intOf] <;> omega
    · have : k = ls.length := by omega
      subst this
      go_wp2_with fail
      go_ret
      have h1 := HO.out
      have h2 := HA.out
      rw [midLns_full] at h1 h2
      exact ⟨rfl, h1, h2, HN.out⟩
theorem heldLaneS_any (A : Option Addr) (c : Nat) (ls : List Ln) (k0 : Int) (w : World) (hk0 : 0 ≤ k0 ∧ k0 ≤ 1000000) (hn : ls.length ≤ 1048576) (hs : LGrid w A (markLns k0 ls)) :
    Calls Try.prog 55 #[.slice A ls.length c, .int .i64 k0] w fun e w' => e = .returned (.int .i64 (k0 + 6 * ls.length)) ∧ w = w' := by
  have HS := mkHid hs
  have HNIL := mkHid (fun k (hk : 0 ≤ k ∧ k ≤ 2000000000) => heldIntS_any none 0 0 k w hk.1 hk.2 (by omega) (Sl.nil _ _))
  clear hs
  go_enter Try.func55, Try.ntmps55
  go_wp2_with fail
  go_loop [1, 5] (fun kv i => ∃ k : Nat, k ≤ ls.length ∧ i = .int .i64 k ∧ kv = .int .i64 (k0 + 6 * k)) (fun _ i => ls.length - (intOf i).toNat)
  case atStart => exact ⟨0, by omega, rfl, by simp⟩
  case round =>
    obtain ⟨k, hk, rfl, rfl⟩ := hrel
    by_cases hlt : k < ls.length
    · have hml : k < (markLns k0 ls).length := by rw [markLns_length]; exact hlt
      obtain ⟨b, off, rfl, h0, h1, h2, h3⟩ := HS.out.1.lane hml
      have hsl := (HS.out.2 _ (List.getElem_mem hml)).1
      rw [markLns_at _ _ _ hlt] at h0 h1 h3 hsl
      have hC := heldIntS_any ls[k].ra ls[k].rc 4 (k0 + 6 * (k : Int)) w (by omega) (by omega) (by omega) hsl
      simp only [mkLn, marks_length] at h0 h1 h3
      have HC := mkHid hC
      have HN := mkHid (HNIL.out (k0 + 6 * (k : Int) + 4 + 1) (by omega))
      generalize ls[k] = l at *
      clear hml hsl hC
      go_wp2_with fail
      refine HC.out.mono ?_
      rintro e w2 ⟨rfl, rfl⟩
      go_wp2_with fail
      refine HN.out.mono ?_
      rintro e w2 ⟨rfl, rfl⟩
      go_wp2_with fail
      go_round
      case rel => exact ⟨k + 1, by omega, by go_num, by congr 1; omega⟩
      case measure => simp [intOf] <;> omega
    · have : k = ls.length := by omega
      subst this
      go_wp2_with fail
      go_ret
      exact ⟨rfl, rfl⟩
/-! ### crowds -/
/-- a crowd in memory of one's own, from base on. -/
def CrowdAt (w : World) (base : Nat) (A : Option Addr) (c : Nat) (ls : List Ln) (B : Option Addr) (d : Nat) (zs : List Int) : Prop :=
  w.ownsRow base 48 4 (.slice A ls.length c) ls.length (lflat ls) ∧ LanesApart w base ls ∧ w.ownsRow base 3 1 (.slice B zs.length d) zs.length (ints zs) ∧ ∀ l ∈ ls, ∀ g, (lnR l).ownBlock = some g → (Value.slice B zs.length d).ownBlock ≠ some g
theorem CrowdAt.below {w w' : World} {base : Nat} {A : Option Addr} {c : Nat} {ls : List Ln} {B : Option Addr} {d : Nat} {zs : List Int} (h : CrowdAt w base A c ls B d zs) (hb : Below w.heap.size w w') : CrowdAt w' base A c ls B d zs :=
  ⟨own_below h.1 hb, h.2.1.below hb, own_below h.2.2.1 hb, h.2.2.2⟩
theorem CrowdAt.old {w w' : World} {base : Nat} {A : Option Addr} {c : Nat} {ls : List Ln} {B : Option Addr} {d : Nat} {zs : List Int} {row : Option Nat} (h : CrowdAt w base A c ls B d zs) (hg : w.grownBy w' row) (hr : ∀ g, row = some g → g < base) : CrowdAt w' base A c ls B d zs :=
  ⟨own_apart h.1 hg hr, h.2.1.kept hg (fun l hl g e1 e2 => by have h1 := (h.2.1.1 l hl).lt g e1; have := hr g e2; omega), own_apart h.2.2.1 hg hr, h.2.2.2⟩
theorem CrowdAt.grid {w : World} {base : Nat} {A : Option Addr} {c : Nat} {ls : List Ln} {B : Option Addr} {d : Nat} {zs : List Int} (h : CrowdAt w base A c ls B d zs) (h4 : ∀ l ∈ ls, l.zs.length = 4) : LGrid w A ls :=
  ⟨Sl.of_own h.1, fun l hl => ⟨Sl.of_own (h.2.1.1 l hl), by have := h4 l hl; omega⟩⟩
theorem markLns_blocks {k0 : Int} {ls : List Ln} (h4 : ∀ l ∈ ls, l.zs.length = 4) {l : Ln} (h : l ∈ markLns k0 ls) : ∃ m ∈ ls, lnR l = lnR m := by
  obtain ⟨i, hi, rfl⟩ := List.mem_iff_getElem.1 h
  rw [markLns_length] at hi
  refine ⟨ls[i], List.getElem_mem hi, ?_⟩
  rw [markLns_at _ _ _ hi]
  simp [mkLn, marks_length, h4 _ (List.getElem_mem hi)]
theorem markCrowd_any (A : Option Addr) (c : Nat) (ls : List Ln) (B : Option Addr) (d : Nat) (zs : List Int) (k0 : Int) (base : Nat) (w : World) (hk0 : 0 ≤ k0 ∧ k0 ≤ 1000) (hn : ls.length ≤ 8) (hz : zs.length ≤ 1048576) (h4 : ∀ l ∈ ls, l.zs.length = 4) (hb : base ≤ w.heap.size) (h : CrowdAt w base A c ls B d zs) :
    Calls Try.prog 29 #[.agg #[.slice A ls.length c, .slice B zs.length d], .int .i64 k0] w fun e w' => e = .returned (.int .i64 (k0 + 6 * ls.length + zs.length)) ∧ CrowdAt w' base A c (markLns k0 ls) B d (marks (k0 + 6 * ls.length) zs.length) ∧ Below base w w' ∧ ∀ (i : Nat) (cs : Array Value), w.heap[i]? = some (Obj.cells cs 43 (0, 0)) → w'.heap[i]? = w.heap[i]? := by
  obtain ⟨o1, ho1⟩ : ∃ o1, o1 = Obj.cells #[.slice A ls.length c, .slice B zs.length d] 43 := ⟨_, rfl⟩
  have hb1 : Below w.heap.size w (w.alloc o1) := (Below.refl _ _).alloc (Nat.le_refl _) _
  have h1 := h.below hb1
  have hM := markLaneS_any A c ls k0 base (w.alloc o1) (by omega) (by omega) h4 h1.1 h1.2.1
  have q1 : (w.alloc o1).heap[w.heap.size]? = some o1 := heap_alloc_new _ _
  have hne1 : (Value.slice A ls.length c).ownBlock ≠ some w.heap.size := fun e => by have := (h.1.lt _ e).2; omega
  have hne2 : ∀ l ∈ ls, (lnR l).ownBlock ≠ some w.heap.size := fun l hl e => by have := ((h.2.1.1 l hl).lt _ e).2; omega
  have HB1 := mkHid hb1
  have Q1 := mkHid (fun X (hX : OnlL (w.alloc o1) X (.slice A ls.length c) ls) => (hX.2.2.2.2 w.heap.size (by simp) hne1 hne2).trans q1)
  have H1 := mkHid h1
  have H4 := mkHid h4
  subst ho1
  have HM := mkHid hM
  clear hM hb1 h1 q1 hne1 hne2 h h4
  go_enter Try.func29, Try.ntmps29
  go_wp2_with fail
  refine HM.out.mono ?_
  rintro e w2 ⟨rfl, o2, a2, n2⟩
  obtain ⟨p0, p1⟩ := (box2 (Q1.out w2 n2)).1
  have HB2 : Hid (Below base w w2) := mkHid (by
    refine ⟨n2.1, n2.2.1, n2.2.2.1, ?_, fun i hi => ?_⟩
    · have := n2.2.2.2.1; simp at this; omega
    · rw [n2.2.2.2.2 i (by simp; omega) (fun e => by have := (H1.out.1.lt i e).1; omega) (fun l hl e => by have := ((H1.out.2.1.1 l hl).lt i e).1; omega)]
      exact (HB1.out.block i (by omega)))
  have HK2 : Hid (∀ (i : Nat) (cs : Array Value), w.heap[i]? = some (Obj.cells cs 43 (0, 0)) → w2.heap[i]? = w.heap[i]?) := mkHid (fun i cs hi => by
    have hlt := (Array.getElem?_eq_some_iff.1 hi).1
    have h0 : (w.alloc (.cells #[.slice A ls.length c, .slice B zs.length d] 43)).heap[i]? = w.heap[i]? := heap_alloc_old _ _ hlt
    rw [n2.2.2.2.2 i (by simp; omega) (own_ne_heap H1.out.1 (h0.trans hi) (by decide)) (fun l hl => own_ne_heap (H1.out.2.1.1 l hl) (h0.trans hi) (by decide)), h0])
  have hmem : w2.ownsRow base 3 1 (.slice B zs.length d) zs.length (ints zs) := by
    have h0 := H1.out.2.2.1
    refine ⟨h0.1, ?_⟩
    rcases h0.2 with h2 | ⟨g, cap, cur, hv, h1, h2, h3⟩
    · exact .inl h2
    · right
      refine ⟨g, cap, cur, hv, h1, ?_, h3⟩
      rw [n2.2.2.2.2 g (Array.getElem?_eq_some_iff.1 h2).1 (fun e => ?_) (fun l hl e => H1.out.2.2.2 l hl g e (by rw [hv]; rfl))]
      · exact h2
      · exact own_types2 H1.out.1 h0 (by decide) e (by rw [hv]; rfl)
  have HO2 := mkHid o2
  have HA2 := mkHid a2
  have HMM := mkHid hmem
  have hsz2 := HB2.out.size
  clear o2 a2 n2 hmem
  go_wp2_with fail
  refine (markIntS_any _ _ _ _ _ _ (by omega) (by omega) (by omega) HMM.out).mono ?_
  rintro e w3 ⟨rfl, o3, g3⟩
  have HC : Hid (CrowdAt w3 base A c (markLns k0 ls) B d (marks (k0 + 6 * ls.length) zs.length)) := mkHid (by
    refine ⟨?_, HA2.out.kept g3 (fun l hl g e1 e2 => ?_), by rw [marks_length]; exact o3, fun l hl g e => ?_⟩
    · rw [markLns_length]
      exact own_grown' HO2.out g3 (fun g e1 e2 => by
        exact own_types2 HO2.out HMM.out (by decide) e1 e2)
    · obtain ⟨m, hm, e⟩ := markLns_blocks H4.out hl
      rw [e] at e1
      exact H1.out.2.2.2 m hm g e1 e2
    · obtain ⟨m, hm, e'⟩ := markLns_blocks H4.out hl
      rw [e'] at e
      rw [marks_length]
      exact H1.out.2.2.2 m hm g e)
  have HK3 : Hid (∀ (i : Nat) (cs : Array Value), w.heap[i]? = some (Obj.cells cs 43 (0, 0)) → w3.heap[i]? = w.heap[i]?) := mkHid (fun i cs hi => by
    have h2 := HK2.out i cs hi
    have hlt := (Array.getElem?_eq_some_iff.1 (h2.trans hi)).1
    rw [g3.block i hlt (fun e => own_ne_heap HMM.out (h2.trans hi) (by decide) e.symm), h2])
  have HB3 := mkHid (HB2.out.grown g3 (Nat.le_trans hb hsz2) (fun g e => (HMM.out.lt g e).1))
  clear o3 g3
  go_wp2_with fail
  go_ret
  exact ⟨rfl, HC.out, HB3.out, HK3.out⟩
theorem heldCrowd_any (A : Option Addr) (c : Nat) (ls : List Ln) (B : Option Addr) (d : Nat) (n : Nat) (k0 : Int) (base : Nat) (w : World) (hk0 : 0 ≤ k0 ∧ k0 ≤ 1000) (hn : ls.length ≤ 8) (hz : n ≤ 1048576) (h : CrowdAt w base A c (markLns k0 ls) B d (marks (k0 + 6 * ls.length) n)) :
    Calls Try.prog 30 #[.agg #[.slice A ls.length c, .slice B n d], .int .i64 k0] w fun e w' => e = .returned (.int .i64 (k0 + 6 * ls.length + n)) ∧ Below w.heap.size w w' := by
  have hb1 : Below w.heap.size w (w.alloc (.cells #[.slice A ls.length c, .slice B n d] 43)) := (Below.refl _ _).alloc (Nat.le_refl _) _
  have h1 := h.below hb1
  have hM := heldLaneS_any A c ls k0 _ (by omega) (by omega) (h1.grid fun l hl => mem_markLns hl)
  have hI := heldIntS_any B d n (k0 + 6 * ls.length) _ (by omega) (by omega) (by omega) (Sl.of_own h1.2.2.1)
  have HM := mkHid hM
  have HI := mkHid hI
  have HB := mkHid hb1
  clear hM hI hb1 h h1
  go_enter Try.func30, Try.ntmps30
  go_wp2_with fail
  refine HM.out.mono ?_
  rintro e w2 ⟨rfl, rfl⟩
  go_wp2_with fail
  refine HI.out.mono ?_
  rintro e w2 ⟨rfl, rfl⟩
  go_wp2_with fail
  go_ret
  exact ⟨rfl, HB.out⟩
end Go.Proofs.Ytilhcedfokhhjaa
