/-
  Contract of the reference's GraphOf.
-/
import Derived.Test.YtabpcbikbhbcaaaCGraphOf
namespace Go.Proofs.Ytabpcbikbhbcaaa
open Go.RowKit
set_option maxHeartbeats 4000000
set_option maxRecDepth 100000
set_option linter.unusedVariables false

theorem succs_open {os : List Int} (h : balB os = true) {k : Nat} (hk : k < os.length) (ho : opensB (opAt os k) = true) : succs os k = [(k : Int) + 1, forkTo os k] ∧ (forkTo os k != (k : Int) + 1) = true ∧ forkTo os k ≤ os.length := by
  have h1 := bal_end h ho hk
  have h2 := oth_bound os k os.length
  have h3 : (k : Int) + 1 < forkTo os k ∧ forkTo os k ≤ os.length := by unfold forkTo; split <;> omega
  have h4 := opens_not ho
  unfold succs
  rw [if_neg (by simpa using h4.2), if_pos ho, if_neg (by omega)]
  exact ⟨rfl, by rw [bne_iff_ne]; omega, h3.2⟩
theorem succs_else {os : List Int} {k b : Nat} (hop : opAt os k = 12) (hl : (stk os k).getLast? = some b) : succs os k = [endOf os b os.length + 1] := by
  unfold succs
  rw [if_pos hop, topOf_some hl]; rfl
theorem succs_end {os : List Int} {k b : Nat} (hop : opAt os k = 14) (hl : (stk os k).getLast? = some b) : succs os k = if opAt os b = 13 then [(b : Int) + 1, (k : Int) + 1] else [(k : Int) + 1] := by
  unfold succs
  rw [if_neg (by rw [hop]; decide), if_neg (by rw [hop]; decide), if_pos hop, topOf_some hl]; rfl
theorem succs_other {os : List Int} {k : Nat} (ho : opensB (opAt os k) = false) (h12 : opAt os k ≠ 12) (h14 : opAt os k ≠ 14) : succs os k = [(k : Int) + 1] := by
  unfold succs
  rw [if_neg h12, if_neg (by rw [ho]; decide), if_neg h14]
theorem succs_len (os : List Int) (k : Nat) : (succs os k).length ≤ 2 := by
  unfold succs
  repeat' split
  all_goals simp
theorem graph_snoc (os : List Int) (k : Nat) (qs : List Row) (r : Row) (h : graph qs = (List.range k).map (succs os)) (hr : r.zs = succs os k) : graph (qs ++ [r]) = (List.range (k + 1)).map (succs os) := by
  rw [List.range_succ, List.map_append, ← h, List.map_cons, List.map_nil, ← hr, graph, List.map_append]; rfl
/-- two rows that lie in blocks of their own share none. -/
def Apart (r s : Row) : Prop := ∀ g h, (rowV r).ownBlock = some g → (rowV s).ownBlock = some h → g ≠ h
theorem pw_snoc {w2 w' : World} {lo : Nat} {qs : List Row} {r : Row} (h : qs.Pairwise Apart) (h1 : ∀ s ∈ qs, w2.ownsRow lo 3 1 (rowV s) s.zs.length (ints s.zs)) (h2 : w'.ownsRow w2.heap.size 3 1 (rowV r) r.zs.length (ints r.zs)) : (qs ++ [r]).Pairwise Apart := by
  rw [List.pairwise_append]
  refine ⟨h, List.pairwise_singleton _ _, fun s hs t ht g k hg hk => ?_⟩
  rw [List.mem_singleton] at ht
  subst ht
  have h3 := ((h1 s hs).lt g hg).2
  have h4 := (h2.lt k hk).1
  omega
/-- the call hands back rows that lie apart, all in memory of its own. -/
def RetGridO (g : List (List Int)) (w : World) (e : Ending) (w' : World) : Prop :=
  ∃ g0 c qs, e = .returned (.slice (some ⟨g0, 0, none⟩) g.length c) ∧ graph qs = g ∧ w'.ownsRow w.heap.size 30 1 (.slice (some ⟨g0, 0, none⟩) g.length c) g.length (rowVs qs) ∧ (∀ r ∈ qs, w'.ownsRow w.heap.size 3 1 (rowV r) r.zs.length (ints r.zs)) ∧ qs.Pairwise Apart ∧ Below w.heap.size w w'
theorem gOf_rows {xs : List Cd} (hv : progValid xs = true) : ∀ z ∈ gOf xs, z.length ≤ 2 := by
  intro z hz
  rw [gOf_yes hv] at hz
  unfold graphOf at hz
  rcases List.mem_append.1 hz with h | h
  · obtain ⟨a, _, rfl⟩ := List.mem_map.1 h
    exact succs_len _ _
  · rw [List.mem_singleton] at h; subst h; simp
theorem specGraphOf_no (A : Option Addr) (c : Nat) (xs : List Cd) (w : World) (hl : xs.length ≤ 1048576) (hs : Sl w A (cflat xs)) (hv : progValid xs = false) :
    Calls Try.prog 50 #[.slice A xs.length c] w (RetGrid (gOf xs) w) := by
  have h0 : 0 < xs.length := by
    rcases Nat.eq_zero_or_pos xs.length with h | h
    · rw [List.eq_nil_of_length_eq_zero h] at hv
      exact absurd hv (by decide)
    · exact h
  have hb := (Below.refl w.heap.size w).alloc (Nat.le_refl _) (.cells #[] 30)
  have HV := mkHid (show ∀ W, Sl W A (cflat xs) → Calls Try.prog 53 #[.slice A xs.length c] W fun e w' => e = .returned (.bool false) ∧ Below W.heap.size W w' from fun W h => by
    have := specProgramValid_any A c xs W hl h
    rwa [hv] at this)
  have HBB := mkHid hb
  have HS := mkHid (hs.below hb)
  obtain ⟨gg, hgg⟩ : ∃ gg, gg = gOf xs := ⟨_, rfl⟩
  rw [← hgg]
  have HGG := mkHid (hgg.trans (gOf_no hv))
  clear hv hb hs hgg
  go_enter Try.func50, Try.ntmps50
  go_wp2_with fail
  go_loopw [3, 4] (fun v i wr => v = .slice (some ⟨w.heap.size, 0, none⟩) 0 0 ∧ i = .int .i64 0 ∧ wr = w.alloc (.cells #[] 30)) (fun _ _ _ => 0)
  case atStart => exact ⟨rfl, rfl, rfl⟩
  case round =>
    obtain ⟨rfl, rfl, rfl⟩ := hrel
    have h00 : (0 : Int) < (xs.length : Int) := by omega
    have HC := mkHid (HV.out _ HS.out)
    go_wp2_with fail
    refine HC.out.mono ?_
    rintro e w2 ⟨rfl, b2⟩
    have HC2 := mkHid (HV.out _ (HS.out.below b2))
    have HB2 := mkHid (below_then HBB.out b2)
    clear b2
    go_wp2_with fail
    refine HC2.out.mono ?_
    rintro e w3 ⟨rfl, b3⟩
    have HB3 := mkHid (below_then HB2.out b3)
    clear b3
    go_wp2_with fail
    go_ret
    have hg := HGG.out
    subst hg
    exact ⟨_, 0, [], rfl, rfl, ⟨Sl.nil _ _, fun r hr => absurd hr (by simp)⟩, HB3.out⟩
theorem specGraphOf_own (A : Option Addr) (c : Nat) (xs : List Cd) (w : World) (hs : Sl w A (cflat xs)) (hv : progValid xs = true) :
    Calls Try.prog 50 #[.slice A xs.length c] w (RetGridO (gOf xs) w) := by
  have h40 := (progValid_yes hv).1
  have HBAL := mkHid (progValid_yes hv).2.2
  have HV := mkHid (show ∀ W, Sl W A (cflat xs) → Calls Try.prog 53 #[.slice A xs.length c] W fun e w' => e = .returned (.bool true) ∧ Below W.heap.size W w' from fun W h => by
    have := specProgramValid_any A c xs W (by omega) h
    rwa [hv] at this)
  have HEND := mkHid (fun b W h1 h2 h3 => l4End_any A c xs b W (by omega) HBAL.out h1 h2 h3)
  have HAR := mkHid (fun at_ W h1 h2 => l4Around_any A c xs at_ W (by omega) h1 h2)
  have HTOP := mkHid (show ∀ k b, k ≤ xs.length → (stk (ops xs) k).getLast? = some b → arnd (ops xs) k 0 = b from fun k b hk hl => by
    rw [arnd_top (progValid_ok hv hk), topOf_some hl])
  have HAT := mkHid (show ∀ k (h : k < xs.length), opAt (ops xs) k = xs[k].op from fun k h => ops_at h)
  have HON := mkHid (ops_len xs)
  obtain ⟨gg, hgg⟩ : ∃ gg, gg = gOf xs := ⟨_, rfl⟩
  rw [← hgg]
  have HGG := mkHid (hgg.trans (gOf_yes hv))
  have HS := mkHid hs
  clear hv hs hgg
  go_enter Try.func50, Try.ntmps50
  go_wp2_with fail
  go_loopw [3, 4] (fun v i wr => ∃ k : Nat, k ≤ xs.length ∧ i = .int .i64 k ∧ ∃ g0 c0, ∃ qs : List Row, v = .slice (some ⟨g0, 0, none⟩) k c0 ∧ qs.length = k ∧ Hid (graph qs = (List.range k).map (succs (ops xs))) ∧ wr.ownsRow w.heap.size 30 1 (.slice (some ⟨g0, 0, none⟩) k c0) k (rowVs qs) ∧ (∀ r ∈ qs, wr.ownsRow w.heap.size 3 1 (rowV r) r.zs.length (ints r.zs)) ∧ Hid (qs.Pairwise Apart) ∧ Below w.heap.size w wr) (fun _ i _ => xs.length - (intOf i).toNat)
  case atStart => exact ⟨0, by omega, rfl, w.heap.size, 0, [], rfl, rfl, mkHid rfl, own_empty w _ _, (fun r hr => absurd hr (by simp)), mkHid List.Pairwise.nil, (Below.refl _ _).alloc (Nat.le_refl _) _⟩
  case round =>
    obtain ⟨k, hk, rfl, g0, c0, qs, rfl, hq, HQ, hown, hrows, HP, hb⟩ := hrel
    have HB := mkHid hb
    have HO := mkHid hown
    have HR := mkHid hrows
    have HVR := mkHid (HV.out wr (HS.out.below hb))
    clear hb hown hrows
    by_cases hlt : k < xs.length
    · obtain ⟨b0, off, hA, e0, e1, e2, e3⟩ := (HS.out.below HB.out).cd hlt
      have hop := HAT.out k hlt
      obtain ⟨op, hope⟩ : ∃ op, op = xs[k].op := ⟨_, rfl⟩
      rw [← hope] at hop e0
      have HOP := mkHid hop
      have HE := mkHid (show ∀ X, Below wr.heap.size wr X → X.cell? ⟨b0, off + k * 4, none⟩ = some (.int .i64 op) from fun X hX => Ext.keeps ⟨X, hX⟩ e0)
      clear hope hop e0 e1 e2 e3
      subst hA
      go_wp2_with fail
      refine HVR.out.mono ?_
      rintro e w2 ⟨rfl, b2⟩
      have HB2 := mkHid (below_then HB.out b2)
      have HO2 := mkHid (own_below HO.out b2)
      have HR2 := mkHid (show ∀ r ∈ qs, w2.ownsRow w.heap.size 3 1 (rowV r) r.zs.length (ints r.zs) from fun r hr => own_below (HR.out r hr) b2)
      have HBW := mkHid b2
      have hsz2 := HB2.out.size
      obtain ⟨X1, hX1⟩ : ∃ X1, X1 = w2.alloc (.cells #[.int .i64 ((k : Int) + 1)] 3) := ⟨_, rfl⟩
      have HX := mkHid (show Below w2.heap.size w2 X1 from by rw [hX1]; exact (Below.refl _ _).alloc (Nat.le_refl _) _)
      have HN1 := mkHid (show X1.ownsRow w2.heap.size 3 1 (.slice (some ⟨w2.heap.size, 0, none⟩) 1 1) 1 (ints [(k : Int) + 1]) from by rw [hX1]; exact own_lits w2 [(k : Int) + 1] (Nat.le_refl _) rfl rfl (by omega))
      have HSX := mkHid (show X1.heap.size = w2.heap.size + 1 from by rw [hX1]; simp)
      have e0 := HE.out X1 (below_then b2 HX.out)
      subst hX1
      clear b2 HVR HB HO HR
      have hops : op = 11 ∨ op = 13 ∨ op = 12 ∨ op = 14 ∨ ((op == 11) = false ∧ (op == 13) = false ∧ (op == 12) = false ∧ (op == 14) = false) := by
        simp only [beq_eq_false_iff_ne]; omega
      rcases hops with rfl | rfl | rfl | rfl | ⟨n11, n13, n12, n14⟩
      · have hsu := succs_open HBAL.out (k := k) (by rw [HON.out]; exact hlt) (by rw [HOP.out]; rfl)
        have hC := HEND.out k (w2.alloc (.cells #[.int .i64 ((k : Int) + 1)] 3)) hlt (by rw [HOP.out]; rfl) (HS.out.below (below_then HB2.out HX.out))
        obtain ⟨o, ho⟩ : ∃ o, o = oth (ops xs) k (ops xs).length := ⟨_, rfl⟩
        obtain ⟨en, hen⟩ : ∃ en, en = endOf (ops xs) k (ops xs).length := ⟨_, rfl⟩
        have hbo := oth_bound (ops xs) k (ops xs).length
        have hbe := bal_end HBAL.out (b := k) (by rw [HOP.out]; rfl) (by rw [HON.out]; exact hlt)
        rw [← ho, ← hen] at hC
        obtain ⟨f, hf⟩ : ∃ f, f = forkTo (ops xs) k := ⟨_, rfl⟩
        have hff := hf
        unfold forkTo at hff
        rw [← ho, ← hen] at hff
        rw [← hf] at hsu
        have HSU := mkHid hsu.1
        have hne := hsu.2.1
        have HC := mkHid hC
        rw [← ho, HON.out] at hbo
        rw [← hen, HON.out] at hbe
        clear hsu hC ho hen hf
        go_wp2_with fail
        refine HC.out.mono ?_
        rintro e w3 ⟨rfl, b3⟩
        by_cases h0 : 0 ≤ o
        · rw [if_pos h0] at hff
          have hob : o ≤ 1000 := by omega
          subst hff
          go_wp2_with (at_builtin; first
            | (refine wpList_appS Ei ((own_below HN1.out b3).alloc _) (newCellsAt _ _ _ (by simp)) rfl (by simp [Value.oneCell']) (by omega) (by omega) (by have := b3.size; have := HSX.out; simp at *; omega) rfl rfl rfl rfl ?_
               intro g' c' w4 hown4 hg4
               have hb4 : Below w2.heap.size w2 w4 := ((below_then HX.out b3).alloc (by have := b3.size; have := HSX.out; simp at *; omega) _).grown hg4 (by have := b3.size; have := HSX.out; simp at *; omega) (fun q e => by injection e with e; omega)
               have HB3 := mkHid (HB2.out.trans ((hb4).mono hsz2))
               have HNY := mkHid (show (w4).ownsRow w2.heap.size 3 1 (rowV ⟨some ⟨g', 0, none⟩, c', [(k : Int) + 1, o + 1]⟩) ([(k : Int) + 1, o + 1] : List Int).length (ints [(k : Int) + 1, o + 1]) from by simpa [rowV, ints] using hown4)
               have HNX := mkHid (own_base HNY.out hsz2)
               have HPX := mkHid (pw_snoc HP.out HR2.out HNY.out)
               have HO3 := mkHid ((own_below HO2.out (hb4)).alloc (.cells #[.slice (some ⟨g', 0, none⟩) 2 c'] 30))
               have HR3 := mkHid (show ∀ r ∈ qs ++ [(⟨some ⟨g', 0, none⟩, c', [(k : Int) + 1, o + 1]⟩ : Row)], (w4).ownsRow w.heap.size 3 1 (rowV r) r.zs.length (ints r.zs) from fun r hr => by
                 rcases List.mem_append.1 hr with h | h
                 · exact own_below (HR2.out r h) (hb4)
                 · rw [List.mem_singleton] at h; subst h; exact HNX.out)
               have hsz3 := HB3.out.size
               clear hown4 hg4 hb4)
            | (refine wpList_appS Er HO3.out (newCellsAt _ _ _ (by simp)) rfl (by simp [Value.oneCell']) (by omega) (by omega) (by simp at hsz3 ⊢; omega) rfl rfl rfl rfl ?_
               intro g2 c2 w9 hown2 hg2
               have HO4 := mkHid hown2
               have HG4 := mkHid hg2
               clear hown2 hg2))
          go_roundw
          case rel =>
            have h1 := HB3.out.alloc HB3.out.size (.cells #[.slice (some ⟨g', 0, none⟩) 2 c'] 30)
            refine ⟨k + 1, by omega, by go_num, g2, c2, qs ++ [⟨some ⟨g', 0, none⟩, c', [(k : Int) + 1, o + 1]⟩], rfl, by simp [hq], mkHid (graph_snoc (ops xs) k qs _ HQ.out (by rw [HSU.out])), by rw [show rowVs (qs ++ [(⟨some ⟨g', 0, none⟩, c', [(k : Int) + 1, o + 1]⟩ : Row)]) = rowVs qs ++ [rowV ⟨some ⟨g', 0, none⟩, c', [(k : Int) + 1, o + 1]⟩] from by simp [rowVs]]; exact HO4.out, fun r hr => ?_, HPX, ?_⟩
            · exact own_grown' ((HR3.out r hr).alloc _) HG4.out (fun g' e1 e2 => by
                injection e2 with e2
                exact own_types' HO3.out ((HR3.out r hr).alloc _) (by decide) e1 e2.symm)
            · exact h1.grown HG4.out h1.size (fun g' e => by injection e with e; subst e; exact (HO2.out.lt g0 rfl).1)
          case measure => simp [intOf] <;> omega

        · rw [if_neg h0] at hff
          subst hff
          go_wp2_with (at_builtin; first
            | (refine wpList_appS Ei ((own_below HN1.out b3).alloc _) (newCellsAt _ _ _ (by simp)) rfl (by simp [Value.oneCell']) (by omega) (by omega) (by have := b3.size; have := HSX.out; simp at *; omega) rfl rfl rfl rfl ?_
               intro g' c' w4 hown4 hg4
               have hb4 : Below w2.heap.size w2 w4 := ((below_then HX.out b3).alloc (by have := b3.size; have := HSX.out; simp at *; omega) _).grown hg4 (by have := b3.size; have := HSX.out; simp at *; omega) (fun q e => by injection e with e; omega)
               have HB3 := mkHid (HB2.out.trans ((hb4).mono hsz2))
               have HNY := mkHid (show (w4).ownsRow w2.heap.size 3 1 (rowV ⟨some ⟨g', 0, none⟩, c', [(k : Int) + 1, en + 1]⟩) ([(k : Int) + 1, en + 1] : List Int).length (ints [(k : Int) + 1, en + 1]) from by simpa [rowV, ints] using hown4)
               have HNX := mkHid (own_base HNY.out hsz2)
               have HPX := mkHid (pw_snoc HP.out HR2.out HNY.out)
               have HO3 := mkHid ((own_below HO2.out (hb4)).alloc (.cells #[.slice (some ⟨g', 0, none⟩) 2 c'] 30))
               have HR3 := mkHid (show ∀ r ∈ qs ++ [(⟨some ⟨g', 0, none⟩, c', [(k : Int) + 1, en + 1]⟩ : Row)], (w4).ownsRow w.heap.size 3 1 (rowV r) r.zs.length (ints r.zs) from fun r hr => by
                 rcases List.mem_append.1 hr with h | h
                 · exact own_below (HR2.out r h) (hb4)
                 · rw [List.mem_singleton] at h; subst h; exact HNX.out)
               have hsz3 := HB3.out.size
               clear hown4 hg4 hb4)
            | (refine wpList_appS Er HO3.out (newCellsAt _ _ _ (by simp)) rfl (by simp [Value.oneCell']) (by omega) (by omega) (by simp at hsz3 ⊢; omega) rfl rfl rfl rfl ?_
               intro g2 c2 w9 hown2 hg2
               have HO4 := mkHid hown2
               have HG4 := mkHid hg2
               clear hown2 hg2))
          go_roundw
          case rel =>
            have h1 := HB3.out.alloc HB3.out.size (.cells #[.slice (some ⟨g', 0, none⟩) 2 c'] 30)
            refine ⟨k + 1, by omega, by go_num, g2, c2, qs ++ [⟨some ⟨g', 0, none⟩, c', [(k : Int) + 1, en + 1]⟩], rfl, by simp [hq], mkHid (graph_snoc (ops xs) k qs _ HQ.out (by rw [HSU.out])), by rw [show rowVs (qs ++ [(⟨some ⟨g', 0, none⟩, c', [(k : Int) + 1, en + 1]⟩ : Row)]) = rowVs qs ++ [rowV ⟨some ⟨g', 0, none⟩, c', [(k : Int) + 1, en + 1]⟩] from by simp [rowVs]]; exact HO4.out, fun r hr => ?_, HPX, ?_⟩
            · exact own_grown' ((HR3.out r hr).alloc _) HG4.out (fun g' e1 e2 => by
                injection e2 with e2
                exact own_types' HO3.out ((HR3.out r hr).alloc _) (by decide) e1 e2.symm)
            · exact h1.grown HG4.out h1.size (fun g' e => by injection e with e; subst e; exact (HO2.out.lt g0 rfl).1)
          case measure => simp [intOf] <;> omega
      · have hsu := succs_open HBAL.out (k := k) (by rw [HON.out]; exact hlt) (by rw [HOP.out]; rfl)
        have hC := HEND.out k (w2.alloc (.cells #[.int .i64 ((k : Int) + 1)] 3)) hlt (by rw [HOP.out]; rfl) (HS.out.below (below_then HB2.out HX.out))
        obtain ⟨o, ho⟩ : ∃ o, o = oth (ops xs) k (ops xs).length := ⟨_, rfl⟩
        obtain ⟨en, hen⟩ : ∃ en, en = endOf (ops xs) k (ops xs).length := ⟨_, rfl⟩
        have hbo := oth_bound (ops xs) k (ops xs).length
        have hbe := bal_end HBAL.out (b := k) (by rw [HOP.out]; rfl) (by rw [HON.out]; exact hlt)
        rw [← ho, ← hen] at hC
        obtain ⟨f, hf⟩ : ∃ f, f = forkTo (ops xs) k := ⟨_, rfl⟩
        have hff := hf
        unfold forkTo at hff
        rw [← ho, ← hen] at hff
        rw [← hf] at hsu
        have HSU := mkHid hsu.1
        have hne := hsu.2.1
        have HC := mkHid hC
        rw [← ho, HON.out] at hbo
        rw [← hen, HON.out] at hbe
        clear hsu hC ho hen hf
        go_wp2_with fail
        refine HC.out.mono ?_
        rintro e w3 ⟨rfl, b3⟩
        by_cases h0 : 0 ≤ o
        · rw [if_pos h0] at hff
          have hob : o ≤ 1000 := by omega
          subst hff
          go_wp2_with (at_builtin; first
            | (refine wpList_appS Ei ((own_below HN1.out b3).alloc _) (newCellsAt _ _ _ (by simp)) rfl (by simp [Value.oneCell']) (by omega) (by omega) (by have := b3.size; have := HSX.out; simp at *; omega) rfl rfl rfl rfl ?_
               intro g' c' w4 hown4 hg4
               have hb4 : Below w2.heap.size w2 w4 := ((below_then HX.out b3).alloc (by have := b3.size; have := HSX.out; simp at *; omega) _).grown hg4 (by have := b3.size; have := HSX.out; simp at *; omega) (fun q e => by injection e with e; omega)
               have HB3 := mkHid (HB2.out.trans ((hb4).mono hsz2))
               have HNY := mkHid (show (w4).ownsRow w2.heap.size 3 1 (rowV ⟨some ⟨g', 0, none⟩, c', [(k : Int) + 1, o + 1]⟩) ([(k : Int) + 1, o + 1] : List Int).length (ints [(k : Int) + 1, o + 1]) from by simpa [rowV, ints] using hown4)
               have HNX := mkHid (own_base HNY.out hsz2)
               have HPX := mkHid (pw_snoc HP.out HR2.out HNY.out)
               have HO3 := mkHid ((own_below HO2.out (hb4)).alloc (.cells #[.slice (some ⟨g', 0, none⟩) 2 c'] 30))
               have HR3 := mkHid (show ∀ r ∈ qs ++ [(⟨some ⟨g', 0, none⟩, c', [(k : Int) + 1, o + 1]⟩ : Row)], (w4).ownsRow w.heap.size 3 1 (rowV r) r.zs.length (ints r.zs) from fun r hr => by
                 rcases List.mem_append.1 hr with h | h
                 · exact own_below (HR2.out r h) (hb4)
                 · rw [List.mem_singleton] at h; subst h; exact HNX.out)
               have hsz3 := HB3.out.size
               clear hown4 hg4 hb4)
            | (refine wpList_appS Er HO3.out (newCellsAt _ _ _ (by simp)) rfl (by simp [Value.oneCell']) (by omega) (by omega) (by simp at hsz3 ⊢; omega) rfl rfl rfl rfl ?_
               intro g2 c2 w9 hown2 hg2
               have HO4 := mkHid hown2
               have HG4 := mkHid hg2
               clear hown2 hg2))
          go_roundw
          case rel =>
            have h1 := HB3.out.alloc HB3.out.size (.cells #[.slice (some ⟨g', 0, none⟩) 2 c'] 30)
            refine ⟨k + 1, by omega, by go_num, g2, c2, qs ++ [⟨some ⟨g', 0, none⟩, c', [(k : Int) + 1, o + 1]⟩], rfl, by simp [hq], mkHid (graph_snoc (ops xs) k qs _ HQ.out (by rw [HSU.out])), by rw [show rowVs (qs ++ [(⟨some ⟨g', 0, none⟩, c', [(k : Int) + 1, o + 1]⟩ : Row)]) = rowVs qs ++ [rowV ⟨some ⟨g', 0, none⟩, c', [(k : Int) + 1, o + 1]⟩] from by simp [rowVs]]; exact HO4.out, fun r hr => ?_, HPX, ?_⟩
            · exact own_grown' ((HR3.out r hr).alloc _) HG4.out (fun g' e1 e2 => by
                injection e2 with e2
                exact own_types' HO3.out ((HR3.out r hr).alloc _) (by decide) e1 e2.symm)
            · exact h1.grown HG4.out h1.size (fun g' e => by injection e with e; subst e; exact (HO2.out.lt g0 rfl).1)
          case measure => simp [intOf] <;> omega

        · rw [if_neg h0] at hff
          subst hff
          go_wp2_with (at_builtin; first
            | (refine wpList_appS Ei ((own_below HN1.out b3).alloc _) (newCellsAt _ _ _ (by simp)) rfl (by simp [Value.oneCell']) (by omega) (by omega) (by have := b3.size; have := HSX.out; simp at *; omega) rfl rfl rfl rfl ?_
               intro g' c' w4 hown4 hg4
               have hb4 : Below w2.heap.size w2 w4 := ((below_then HX.out b3).alloc (by have := b3.size; have := HSX.out; simp at *; omega) _).grown hg4 (by have := b3.size; have := HSX.out; simp at *; omega) (fun q e => by injection e with e; omega)
               have HB3 := mkHid (HB2.out.trans ((hb4).mono hsz2))
               have HNY := mkHid (show (w4).ownsRow w2.heap.size 3 1 (rowV ⟨some ⟨g', 0, none⟩, c', [(k : Int) + 1, en + 1]⟩) ([(k : Int) + 1, en + 1] : List Int).length (ints [(k : Int) + 1, en + 1]) from by simpa [rowV, ints] using hown4)
               have HNX := mkHid (own_base HNY.out hsz2)
               have HPX := mkHid (pw_snoc HP.out HR2.out HNY.out)
               have HO3 := mkHid ((own_below HO2.out (hb4)).alloc (.cells #[.slice (some ⟨g', 0, none⟩) 2 c'] 30))
               have HR3 := mkHid (show ∀ r ∈ qs ++ [(⟨some ⟨g', 0, none⟩, c', [(k : Int) + 1, en + 1]⟩ : Row)], (w4).ownsRow w.heap.size 3 1 (rowV r) r.zs.length (ints r.zs) from fun r hr => by
                 rcases List.mem_append.1 hr with h | h
                 · exact own_below (HR2.out r h) (hb4)
                 · rw [List.mem_singleton] at h; subst h; exact HNX.out)
               have hsz3 := HB3.out.size
               clear hown4 hg4 hb4)
            | (refine wpList_appS Er HO3.out (newCellsAt _ _ _ (by simp)) rfl (by simp [Value.oneCell']) (by omega) (by omega) (by simp at hsz3 ⊢; omega) rfl rfl rfl rfl ?_
               intro g2 c2 w9 hown2 hg2
               have HO4 := mkHid hown2
               have HG4 := mkHid hg2
               clear hown2 hg2))
          go_roundw
          case rel =>
            have h1 := HB3.out.alloc HB3.out.size (.cells #[.slice (some ⟨g', 0, none⟩) 2 c'] 30)
            refine ⟨k + 1, by omega, by go_num, g2, c2, qs ++ [⟨some ⟨g', 0, none⟩, c', [(k : Int) + 1, en + 1]⟩], rfl, by simp [hq], mkHid (graph_snoc (ops xs) k qs _ HQ.out (by rw [HSU.out])), by rw [show rowVs (qs ++ [(⟨some ⟨g', 0, none⟩, c', [(k : Int) + 1, en + 1]⟩ : Row)]) = rowVs qs ++ [rowV ⟨some ⟨g', 0, none⟩, c', [(k : Int) + 1, en + 1]⟩] from by simp [rowVs]]; exact HO4.out, fun r hr => ?_, HPX, ?_⟩
            · exact own_grown' ((HR3.out r hr).alloc _) HG4.out (fun g' e1 e2 => by
                injection e2 with e2
                exact own_types' HO3.out ((HR3.out r hr).alloc _) (by decide) e1 e2.symm)
            · exact h1.grown HG4.out h1.size (fun g' e => by injection e with e; subst e; exact (HO2.out.lt g0 rfl).1)
          case measure => simp [intOf] <;> omega
      · obtain ⟨b, hlast⟩ := bal_top HBAL.out (k := k) (by rw [HON.out]; exact hlt) (.inl HOP.out)
        have hbk := last_lt hlast
        have hbn : b < xs.length := by omega
        have hC := HAR.out k (w2.alloc (.cells #[.int .i64 ((k : Int) + 1)] 3)) (by omega) (HS.out.below (below_then HB2.out HX.out))
        rw [HTOP.out k b (by omega) hlast] at hC
        have HC := mkHid hC
        clear hC
        have HSU := mkHid (succs_else HOP.out hlast)
        have hE := fun W h => HEND.out b W hbn hbk.2 h
        obtain ⟨o, ho⟩ : ∃ o, o = oth (ops xs) b (ops xs).length := ⟨_, rfl⟩
        obtain ⟨en, hen⟩ : ∃ en, en = endOf (ops xs) b (ops xs).length := ⟨_, rfl⟩
        have hbe := bal_end HBAL.out (b := b) hbk.2 (by rw [HON.out]; exact hbn)
        rw [← hen, HON.out] at hbe
        simp only [← ho, ← hen] at hE
        rw [← hen] at HSU
        have HEE := mkHid hE
        clear hE ho hen hbk hlast
        go_wp2_with fail
        refine HC.out.mono ?_
        rintro e w3 ⟨rfl, b3⟩
        go_wp2_with fail
        refine (HEE.out w3 (HS.out.below (below_then HB2.out (below_then HX.out b3)))).mono ?_
        rintro e w4 ⟨rfl, b4⟩
        have hb4 : Below w2.heap.size w2 (w4.alloc (.cells #[.int .i64 (en + 1)] 3)) := (below_then (below_then HX.out b3) b4).alloc (by have := b3.size; have := b4.size; simp at *; omega) _
        have HB3 := mkHid (HB2.out.trans ((hb4).mono hsz2))
        have HNY := mkHid (show (w4.alloc (.cells #[.int .i64 (en + 1)] 3)).ownsRow w2.heap.size 3 1 (rowV ⟨some ⟨w4.heap.size, 0, none⟩, 1, [en + 1]⟩) ([en + 1] : List Int).length (ints [en + 1]) from own_lits w4 [en + 1] (by have := b3.size; have := b4.size; simp at *; omega) rfl rfl (by simp))
        have HNX := mkHid (own_base HNY.out hsz2)
        have HPX := mkHid (pw_snoc HP.out HR2.out HNY.out)
        have HO3 := mkHid ((own_below HO2.out (hb4)).alloc (.cells #[.slice (some ⟨w4.heap.size, 0, none⟩) 1 1] 30))
        have HR3 := mkHid (show ∀ r ∈ qs ++ [(⟨some ⟨w4.heap.size, 0, none⟩, 1, [en + 1]⟩ : Row)], (w4.alloc (.cells #[.int .i64 (en + 1)] 3)).ownsRow w.heap.size 3 1 (rowV r) r.zs.length (ints r.zs) from fun r hr => by
          rcases List.mem_append.1 hr with h | h
          · exact own_below (HR2.out r h) (hb4)
          · rw [List.mem_singleton] at h; subst h; exact HNX.out)
        have hsz3 := HB3.out.size
        clear hb4
        go_wp2_with (at_builtin; first
          | (refine wpList_appS Er HO3.out (newCellsAt _ _ _ (by simp)) rfl (by simp [Value.oneCell']) (by omega) (by omega) (by simp at hsz3 ⊢; omega) rfl rfl rfl rfl ?_
             intro g2 c2 w9 hown2 hg2
             have HO4 := mkHid hown2
             have HG4 := mkHid hg2
             clear hown2 hg2))
        go_roundw
        case rel =>
          have h1 := HB3.out.alloc HB3.out.size (.cells #[.slice (some ⟨w4.heap.size, 0, none⟩) 1 1] 30)
          refine ⟨k + 1, by omega, by go_num, g2, c2, qs ++ [⟨some ⟨w4.heap.size, 0, none⟩, 1, [en + 1]⟩], rfl, by simp [hq], mkHid (graph_snoc (ops xs) k qs _ HQ.out (by rw [HSU.out])), by rw [show rowVs (qs ++ [(⟨some ⟨w4.heap.size, 0, none⟩, 1, [en + 1]⟩ : Row)]) = rowVs qs ++ [rowV ⟨some ⟨w4.heap.size, 0, none⟩, 1, [en + 1]⟩] from by simp [rowVs]]; exact HO4.out, fun r hr => ?_, HPX, ?_⟩
          · exact own_grown' ((HR3.out r hr).alloc _) HG4.out (fun g' e1 e2 => by
              injection e2 with e2
              exact own_types' HO3.out ((HR3.out r hr).alloc _) (by decide) e1 e2.symm)
          · exact h1.grown HG4.out h1.size (fun g' e => by injection e with e; subst e; exact (HO2.out.lt g0 rfl).1)
        case measure => simp [intOf] <;> omega
      · obtain ⟨b, hlast⟩ := bal_top HBAL.out (k := k) (by rw [HON.out]; exact hlt) (.inr HOP.out)
        have hbk := last_lt hlast
        have hbn : b < xs.length := by omega
        have hC := HAR.out k (w2.alloc (.cells #[.int .i64 ((k : Int) + 1)] 3)) (by omega) (HS.out.below (below_then HB2.out HX.out))
        rw [HTOP.out k b (by omega) hlast] at hC
        have HC := mkHid hC
        clear hC
        have hsu := succs_end HOP.out hlast
        have hbo := HAT.out b hbn
        obtain ⟨zb, hzb⟩ : ∃ zb, zb = xs[b].op := ⟨_, rfl⟩
        have HZB := mkHid hzb
        rw [← hzb] at hbo
        rw [hbo] at hsu
        have HSU := mkHid hsu
        clear hbk hlast hzb hbo hsu
        go_wp2_with fail
        refine HC.out.mono ?_
        rintro e w3 ⟨rfl, b3⟩
        have hb23 := below_then HX.out b3
        obtain ⟨b1, off1, hA1, f0, _, _, _⟩ := (HS.out.below (below_then HB2.out hb23)).cd hbn
        injection hA1 with hA1
        injection hA1 with hA2 hA3
        subst hA2 hA3
        rw [← HZB.out] at f0
        by_cases h13 : zb = 13
        · subst h13
          have HSV := mkHid (HSU.out.trans (if_pos rfl))
          have hb4 : Below w2.heap.size w2 (w3.alloc (.cells #[.int .i64 ((b : Int) + 1), .int .i64 ((k : Int) + 1)] 3)) := hb23.alloc (by have := b3.size; simp at *; omega) _
          have HB3 := mkHid (HB2.out.trans ((hb4).mono hsz2))
          have HNY := mkHid (show (w3.alloc (.cells #[.int .i64 ((b : Int) + 1), .int .i64 ((k : Int) + 1)] 3)).ownsRow w2.heap.size 3 1 (rowV ⟨some ⟨w3.heap.size, 0, none⟩, 2, [(b : Int) + 1, (k : Int) + 1]⟩) ([(b : Int) + 1, (k : Int) + 1] : List Int).length (ints [(b : Int) + 1, (k : Int) + 1]) from own_lits w3 [(b : Int) + 1, (k : Int) + 1] (by have := b3.size; simp at *; omega) rfl rfl (by simp))
          have HNX := mkHid (own_base HNY.out hsz2)
          have HPX := mkHid (pw_snoc HP.out HR2.out HNY.out)
          have HO3 := mkHid ((own_below HO2.out (hb4)).alloc (.cells #[.slice (some ⟨w3.heap.size, 0, none⟩) 2 2] 30))
          have HR3 := mkHid (show ∀ r ∈ qs ++ [(⟨some ⟨w3.heap.size, 0, none⟩, 2, [(b : Int) + 1, (k : Int) + 1]⟩ : Row)], (w3.alloc (.cells #[.int .i64 ((b : Int) + 1), .int .i64 ((k : Int) + 1)] 3)).ownsRow w.heap.size 3 1 (rowV r) r.zs.length (ints r.zs) from fun r hr => by
            rcases List.mem_append.1 hr with h | h
            · exact own_below (HR2.out r h) (hb4)
            · rw [List.mem_singleton] at h; subst h; exact HNX.out)
          have hsz3 := HB3.out.size
          clear hb4 hb23
          go_wp2_with (at_builtin; first
            | (refine wpList_appS Er HO3.out (newCellsAt _ _ _ (by simp)) rfl (by simp [Value.oneCell']) (by omega) (by omega) (by simp at hsz3 ⊢; omega) rfl rfl rfl rfl ?_
               intro g2 c2 w9 hown2 hg2
               have HO4 := mkHid hown2
               have HG4 := mkHid hg2
               clear hown2 hg2))
          go_roundw
          case rel =>
            have h1 := HB3.out.alloc HB3.out.size (.cells #[.slice (some ⟨w3.heap.size, 0, none⟩) 2 2] 30)
            refine ⟨k + 1, by omega, by go_num, g2, c2, qs ++ [⟨some ⟨w3.heap.size, 0, none⟩, 2, [(b : Int) + 1, (k : Int) + 1]⟩], rfl, by simp [hq], mkHid (graph_snoc (ops xs) k qs _ HQ.out (by rw [HSV.out])), by rw [show rowVs (qs ++ [(⟨some ⟨w3.heap.size, 0, none⟩, 2, [(b : Int) + 1, (k : Int) + 1]⟩ : Row)]) = rowVs qs ++ [rowV ⟨some ⟨w3.heap.size, 0, none⟩, 2, [(b : Int) + 1, (k : Int) + 1]⟩] from by simp [rowVs]]; exact HO4.out, fun r hr => ?_, HPX, ?_⟩
            · exact own_grown' ((HR3.out r hr).alloc _) HG4.out (fun g' e1 e2 => by
                injection e2 with e2
                exact own_types' HO3.out ((HR3.out r hr).alloc _) (by decide) e1 e2.symm)
            · exact h1.grown HG4.out h1.size (fun g' e => by injection e with e; subst e; exact (HO2.out.lt g0 rfl).1)
          case measure => simp [intOf] <;> omega

        · have HSV := mkHid (HSU.out.trans (if_neg h13))
          have n13 : (zb == 13) = false := by simpa using h13
          clear h13
          have HB3 := mkHid (HB2.out.trans ((hb23).mono hsz2))
          have HNY := mkHid (show (w3).ownsRow w2.heap.size 3 1 (rowV ⟨some ⟨w2.heap.size, 0, none⟩, 1, [(k : Int) + 1]⟩) ([(k : Int) + 1] : List Int).length (ints [(k : Int) + 1]) from own_below HN1.out b3)
          have HNX := mkHid (own_base HNY.out hsz2)
          have HPX := mkHid (pw_snoc HP.out HR2.out HNY.out)
          have HO3 := mkHid ((own_below HO2.out (hb23)).alloc (.cells #[.slice (some ⟨w2.heap.size, 0, none⟩) 1 1] 30))
          have HR3 := mkHid (show ∀ r ∈ qs ++ [(⟨some ⟨w2.heap.size, 0, none⟩, 1, [(k : Int) + 1]⟩ : Row)], (w3).ownsRow w.heap.size 3 1 (rowV r) r.zs.length (ints r.zs) from fun r hr => by
            rcases List.mem_append.1 hr with h | h
            · exact own_below (HR2.out r h) (hb23)
            · rw [List.mem_singleton] at h; subst h; exact HNX.out)
          have hsz3 := HB3.out.size
          clear hb23
          go_wp2_with (at_builtin; first
            | (refine wpList_appS Er HO3.out (newCellsAt _ _ _ (by simp)) rfl (by simp [Value.oneCell']) (by omega) (by omega) (by simp at hsz3 ⊢; omega) rfl rfl rfl rfl ?_
               intro g2 c2 w9 hown2 hg2
               have HO4 := mkHid hown2
               have HG4 := mkHid hg2
               clear hown2 hg2))
          go_roundw
          case rel =>
            have h1 := HB3.out.alloc HB3.out.size (.cells #[.slice (some ⟨w2.heap.size, 0, none⟩) 1 1] 30)
            refine ⟨k + 1, by omega, by go_num, g2, c2, qs ++ [⟨some ⟨w2.heap.size, 0, none⟩, 1, [(k : Int) + 1]⟩], rfl, by simp [hq], mkHid (graph_snoc (ops xs) k qs _ HQ.out (by rw [HSV.out])), by rw [show rowVs (qs ++ [(⟨some ⟨w2.heap.size, 0, none⟩, 1, [(k : Int) + 1]⟩ : Row)]) = rowVs qs ++ [rowV ⟨some ⟨w2.heap.size, 0, none⟩, 1, [(k : Int) + 1]⟩] from by simp [rowVs]]; exact HO4.out, fun r hr => ?_, HPX, ?_⟩
            · exact own_grown' ((HR3.out r hr).alloc _) HG4.out (fun g' e1 e2 => by
                injection e2 with e2
                exact own_types' HO3.out ((HR3.out r hr).alloc _) (by decide) e1 e2.symm)
            · exact h1.grown HG4.out h1.size (fun g' e => by injection e with e; subst e; exact (HO2.out.lt g0 rfl).1)
          case measure => simp [intOf] <;> omega
      · have HSU := mkHid (succs_other (os := ops xs) (k := k) (by rw [HOP.out]; unfold opensB; rw [n11, n13]; rfl) (by rw [HOP.out]; simpa using n12) (by rw [HOP.out]; simpa using n14))
        have HB3 := mkHid (HB2.out.trans ((HX.out).mono hsz2))
        have HNY := mkHid (show (w2.alloc (.cells #[.int .i64 ((k : Int) + 1)] 3)).ownsRow w2.heap.size 3 1 (rowV ⟨some ⟨w2.heap.size, 0, none⟩, 1, [(k : Int) + 1]⟩) ([(k : Int) + 1] : List Int).length (ints [(k : Int) + 1]) from HN1.out)
        have HNX := mkHid (own_base HNY.out hsz2)
        have HPX := mkHid (pw_snoc HP.out HR2.out HNY.out)
        have HO3 := mkHid ((own_below HO2.out (HX.out)).alloc (.cells #[.slice (some ⟨w2.heap.size, 0, none⟩) 1 1] 30))
        have HR3 := mkHid (show ∀ r ∈ qs ++ [(⟨some ⟨w2.heap.size, 0, none⟩, 1, [(k : Int) + 1]⟩ : Row)], (w2.alloc (.cells #[.int .i64 ((k : Int) + 1)] 3)).ownsRow w.heap.size 3 1 (rowV r) r.zs.length (ints r.zs) from fun r hr => by
          rcases List.mem_append.1 hr with h | h
          · exact own_below (HR2.out r h) (HX.out)
          · rw [List.mem_singleton] at h; subst h; exact HNX.out)
        have hsz3 := HB3.out.size
        go_wp2_with (at_builtin; first
          | (refine wpList_appS Er HO3.out (newCellsAt _ _ _ (by simp)) rfl (by simp [Value.oneCell']) (by omega) (by omega) (by simp at hsz3 ⊢; omega) rfl rfl rfl rfl ?_
             intro g2 c2 w9 hown2 hg2
             have HO4 := mkHid hown2
             have HG4 := mkHid hg2
             clear hown2 hg2))
        go_roundw
        case rel =>
          have h1 := HB3.out.alloc HB3.out.size (.cells #[.slice (some ⟨w2.heap.size, 0, none⟩) 1 1] 30)
          refine ⟨k + 1, by omega, by go_num, g2, c2, qs ++ [⟨some ⟨w2.heap.size, 0, none⟩, 1, [(k : Int) + 1]⟩], rfl, by simp [hq], mkHid (graph_snoc (ops xs) k qs _ HQ.out (by rw [HSU.out])), by rw [show rowVs (qs ++ [(⟨some ⟨w2.heap.size, 0, none⟩, 1, [(k : Int) + 1]⟩ : Row)]) = rowVs qs ++ [rowV ⟨some ⟨w2.heap.size, 0, none⟩, 1, [(k : Int) + 1]⟩] from by simp [rowVs]]; exact HO4.out, fun r hr => ?_, HPX, ?_⟩
          · exact own_grown' ((HR3.out r hr).alloc _) HG4.out (fun g' e1 e2 => by
              injection e2 with e2
              exact own_types' HO3.out ((HR3.out r hr).alloc _) (by decide) e1 e2.symm)
          · exact h1.grown HG4.out h1.size (fun g' e => by injection e with e; subst e; exact (HO2.out.lt g0 rfl).1)
        case measure => simp [intOf] <;> omega
    · have hke : k = xs.length := by omega
      subst hke
      have hsz := HB.out.size
      go_wp2_with fail
      refine HVR.out.mono ?_
      rintro e w2 ⟨rfl, b2⟩
      have HB2 := mkHid (below_then HB.out b2)
      have HO2 := mkHid (own_below HO.out b2)
      have HR2 := mkHid (show ∀ r ∈ qs, w2.ownsRow w.heap.size 3 1 (rowV r) r.zs.length (ints r.zs) from fun r hr => own_below (HR.out r hr) b2)
      have hsz2 := HB2.out.size
      have hb3 : Below w2.heap.size w2 (w2.alloc (.cells #[] 3)) := (Below.refl _ _).alloc (Nat.le_refl _) _
      have HB3 := mkHid (HB2.out.trans ((hb3).mono hsz2))
      have HNY := mkHid (show (w2.alloc (.cells #[] 3)).ownsRow w2.heap.size 3 1 (rowV ⟨some ⟨w2.heap.size, 0, none⟩, 0, []⟩) ([] : List Int).length (ints []) from own_emptyB w2 _ (Nat.le_refl _) rfl)
      have HNX := mkHid (own_base HNY.out hsz2)
      have HPX := mkHid (pw_snoc HP.out HR2.out HNY.out)
      have HO3 := mkHid ((own_below HO2.out (hb3)).alloc (.cells #[.slice (some ⟨w2.heap.size, 0, none⟩) 0 0] 30))
      have HR3 := mkHid (show ∀ r ∈ qs ++ [(⟨some ⟨w2.heap.size, 0, none⟩, 0, []⟩ : Row)], (w2.alloc (.cells #[] 3)).ownsRow w.heap.size 3 1 (rowV r) r.zs.length (ints r.zs) from fun r hr => by
        rcases List.mem_append.1 hr with h | h
        · exact own_below (HR2.out r h) (hb3)
        · rw [List.mem_singleton] at h; subst h; exact HNX.out)
      have hsz3 := HB3.out.size
      clear hb3 b2
      go_wp2_with (at_builtin; first
        | (refine wpList_appS Er HO3.out (newCellsAt _ _ _ (by simp)) rfl (by simp [Value.oneCell']) (by omega) (by omega) (by simp at hsz3 ⊢; omega) rfl rfl rfl rfl ?_
           intro g2 c2 w9 hown2 hg2
           have HO4 := mkHid hown2
           have HG4 := mkHid hg2
           clear hown2 hg2))

      go_ret
      have hgq : graph (qs ++ [(⟨some ⟨w2.heap.size, 0, none⟩, 0, []⟩ : Row)]) = gg := by
        rw [HGG.out, graph, List.map_append, show qs.map (fun r => r.zs) = graph qs from rfl, HQ.out]
        unfold graphOf
        rw [HON.out]; rfl
      have hgl : gg.length = xs.length + 1 := by rw [← hgq]; simp [graph, hq]
      have h1 := HB3.out.alloc HB3.out.size (.cells #[.slice (some ⟨w2.heap.size, 0, none⟩) 0 0] 30)
      refine ⟨g2, c2, qs ++ [⟨some ⟨w2.heap.size, 0, none⟩, 0, []⟩], by rw [hgl]; rfl, hgq, ?_, fun r hr => ?_, HPX.out, h1.grown HG4.out h1.size (fun g' e => by injection e with e; subst e; exact (HO2.out.lt g0 rfl).1)⟩
      · rw [hgl, show rowVs (qs ++ [(⟨some ⟨w2.heap.size, 0, none⟩, 0, []⟩ : Row)]) = rowVs qs ++ [rowV ⟨some ⟨w2.heap.size, 0, none⟩, 0, []⟩] from by simp [rowVs]]
        exact HO4.out
      · exact own_grown' ((HR3.out r hr).alloc _) HG4.out (fun g' e1 e2 => by
          injection e2 with e2
          exact own_types' HO3.out ((HR3.out r hr).alloc _) (by decide) e1 e2.symm)
theorem specGraphOf_yes (A : Option Addr) (c : Nat) (xs : List Cd) (w : World) (hs : Sl w A (cflat xs)) (hv : progValid xs = true) :
    Calls Try.prog 50 #[.slice A xs.length c] w (RetGrid (gOf xs) w) := by
  refine (specGraphOf_own A c xs w hs hv).mono ?_
  rintro e w' ⟨g0, c0, qs, rfl, hq, ho, hr, _, hb⟩
  refine ⟨_, c0, qs, rfl, hq, ⟨Sl.of_own ho, fun r h => ⟨Sl.of_own (hr r h), own_cap (hr r h), ?_⟩⟩, hb⟩
  have hm : r.zs ∈ graph qs := List.mem_map_of_mem h
  have := gOf_rows hv _ (hq ▸ hm)
  omega
theorem specGraphOf_any (A : Option Addr) (c : Nat) (xs : List Cd) (w : World) (hl : xs.length ≤ 1048576) (hs : Sl w A (cflat xs)) :
    Calls Try.prog 50 #[.slice A xs.length c] w (RetGrid (gOf xs) w) := by
  cases hv : progValid xs with
  | true => exact specGraphOf_yes A c xs w hs hv
  | false => exact specGraphOf_no A c xs w hl hs hv
end Go.Proofs.Ytabpcbikbhbcaaa
