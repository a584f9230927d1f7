/-
  Slices of slices of ints: how they lie in memory; the laws' helpers szIntS, szIntSS, toIntSS, eqIntSS.
-/
import Derived.Test.YtabpcbikbhbcaaaCToInt
import Derived.Test.YtabpcbikbhbcaaaLib2
import Derived.Test.YtabpcbikbhbcaaaLibDrew
namespace Go.Proofs.Ytabpcbikbhbcaaa
open Go.RowKit
set_option maxHeartbeats 1000000
set_option linter.unusedVariables false

structure Row where
  a : Option Addr
  c : Nat
  zs : List Int
abbrev rowV (r : Row) : Value := .slice r.a r.zs.length r.c
abbrev rowVs (rs : List Row) : List Value := rs.map rowV
/-- the rows lie in w. -/
def Grid (w : World) (A : Option Addr) (rs : List Row) : Prop :=
  Sl w A (rowVs rs) ∧ ∀ r ∈ rs, Sl w r.a (ints r.zs) ∧ r.zs.length ≤ r.c ∧ r.zs.length ≤ 9223372036854775807
abbrev graph (rs : List Row) : List (List Int) := rs.map Row.zs
theorem Grid.below {w w' : World} {A : Option Addr} {rs : List Row} (h : Grid w A rs) (hb : Below w.heap.size w w') : Grid w' A rs :=
  ⟨h.1.below hb, fun r hr => ⟨(h.2 r hr).1.below hb, (h.2 r hr).2⟩⟩
theorem Grid.drewN {w : World} {A : Option Addr} {rs : List Row} (h : Grid w A rs) (n : Nat) : Grid (w.drewN n) A rs := h
theorem Grid.at_ {w : World} {A : Option Addr} {rs : List Row} (h : Grid w A rs) {k : Nat} (hk : k < rs.length) :
    ∃ b off, A = some ⟨b, off, none⟩ ∧ w.cell? ⟨b, off + k, none⟩ = some (.slice rs[k].a rs[k].zs.length rs[k].c) ∧ Sl w rs[k].a (ints rs[k].zs) ∧ rs[k].zs.length ≤ rs[k].c ∧ rs[k].zs.length ≤ 9223372036854775807 := by
  obtain ⟨b, off, rfl, hc⟩ := h.1.at_ (k := k) (by simpa using hk)
  exact ⟨b, off, rfl, hc k _ (by rw [List.getElem?_map, List.getElem?_eq_getElem hk]; rfl), h.2 _ (List.getElem_mem hk)⟩
/-- the rows are the call's own: each in a block of its own, in ascending order, from lo on. -/
def RowsOwn (w : World) (lo : Nat) (rs : List Row) : Prop :=
  (∀ r ∈ rs, w.ownsRow lo 3 1 (rowV r) r.zs.length (ints r.zs)) ∧ rs.Pairwise (fun r s => ∀ g h, (rowV r).ownBlock = some g → (rowV s).ownBlock = some h → g < h)
theorem RowsOwn.nil (w : World) (lo : Nat) : RowsOwn w lo [] := ⟨fun r hr => absurd hr (by simp), List.Pairwise.nil⟩
theorem RowsOwn.rows {w : World} {lo : Nat} {rs : List Row} (h : RowsOwn w lo rs) {A : Option Addr} (hA : Sl w A (rowVs rs)) (hl : ∀ r ∈ rs, r.zs.length ≤ 9223372036854775807) : Grid w A rs :=
  ⟨hA, fun r hr => ⟨Sl.of_own (h.1 r hr), own_cap (h.1 r hr), hl r hr⟩⟩
theorem RowsOwn.below {w w' : World} {lo : Nat} {rs : List Row} (h : RowsOwn w lo rs) (hb : Below w.heap.size w w') : RowsOwn w' lo rs :=
  ⟨fun r hr => own_below (h.1 r hr) hb, h.2⟩
theorem RowsOwn.apart {w w' : World} {lo : Nat} {rs : List Row} {row : Option Nat} (h : RowsOwn w lo rs) (hg : w.grownBy w' row) (hr : ∀ g, row = some g → g < lo) : RowsOwn w' lo rs :=
  ⟨fun r hr' => own_apart (h.1 r hr') hg hr, h.2⟩
/-- one more row, younger than all others. -/
theorem RowsOwn.snoc {w w' : World} {lo : Nat} {rs : List Row} (h : RowsOwn w lo rs) (hb : Below w.heap.size w w') (hlo : lo ≤ w.heap.size) (r : Row) (hr : w'.ownsRow w.heap.size 3 1 (rowV r) r.zs.length (ints r.zs)) : RowsOwn w' lo (rs ++ [r]) := by
  refine ⟨fun s hs => ?_, ?_⟩
  · rcases List.mem_append.1 hs with h1 | h1
    · exact own_below (h.1 s h1) hb
    · rw [List.mem_singleton] at h1
      subst h1
      exact own_base hr hlo
  · rw [List.pairwise_append]
    refine ⟨h.2, List.pairwise_singleton _ _, fun s hs t ht g k hg hk => ?_⟩
    rw [List.mem_singleton] at ht
    subst ht
    have h1 := ((h.1 s hs).lt g hg).2
    have h2 := (hr.lt k hk).1
    omega
theorem Er : ElemI Try.prog 22 30 (.slice none 0 0) 1 24 := ⟨Try.underlying22, by kernel_rfl, rfl, by omega⟩
/-- the call hands back a slice of slices of ints in memory of its own. -/
def RetRows (g : List (List Int)) (w : World) (e : Ending) (w' : World) : Prop :=
  ∃ A c rs, e = .returned (.slice A g.length c) ∧ graph rs = g ∧ w'.ownsRow w.heap.size 30 1 (.slice A g.length c) g.length (rowVs rs) ∧ (∀ b, (Value.slice A g.length c).ownBlock = some b → RowsOwn w' (b + 1) rs) ∧ (A = none → rs = []) ∧ Below w.heap.size w w'
theorem graph_length {rs : List Row} {g : List (List Int)} (h : graph rs = g) : rs.length = g.length := by rw [← h]; simp
theorem RetRows.grid {g : List (List Int)} {w w' : World} {A : Option Addr} {c : Nat} {rs : List Row} (h1 : graph rs = g) (h2 : w'.ownsRow w.heap.size 30 1 (.slice A g.length c) g.length (rowVs rs)) (h3 : ∀ b, (Value.slice A g.length c).ownBlock = some b → RowsOwn w' (b + 1) rs) (h4 : A = none → rs = []) (hl : ∀ z ∈ g, z.length ≤ 9223372036854775807) : Grid w' A rs := by
  have hl' : ∀ r ∈ rs, r.zs.length ≤ 9223372036854775807 := fun r hr => hl _ (by rw [← h1]; exact List.mem_map_of_mem hr)
  cases A with
  | none => rw [h4 rfl]; exact ⟨Sl.nil _ _, fun r hr => absurd hr (by simp)⟩
  | some a => exact (h3 a.block rfl).rows (Sl.of_own h2) hl'

theorem szIntS_any (A : Option Addr) (n c : Nat) (l : Int) (w : World) (hl : 0 ≤ l ∧ l ≤ 1048576) (hn : n ≤ 9223372036854775807) :
    Calls Try.prog 31 #[.slice A n c, .int .i64 l] w (LeftOver n l w) := by
  by_cases h : (n : Int) ≤ l
  · go_enter Try.func31, Try.ntmps31
    go_wp2
    go_ret
    exact ⟨.inl ⟨h, rfl⟩, rfl⟩
  · go_enter Try.func31, Try.ntmps31
    go_wp2
    go_ret
    exact ⟨.inr ⟨by omega, rfl⟩, rfl⟩
/-- what the size counter hands back: -1, or a number such that the rows and their number are within what was left. -/
def LeftRows (rs : List Row) (l : Int) (w : World) (e : Ending) (w' : World) : Prop :=
  ((∃ v : Int, e = .returned (.int .i64 v) ∧ 0 ≤ v ∧ v ≤ l ∧ (rs.length : Int) ≤ l ∧ ∀ r ∈ rs, (r.zs.length : Int) ≤ l) ∨ e = .returned (.int .i64 (-1))) ∧ w = w'
theorem szIntSS_any (A : Option Addr) (c : Nat) (rs : List Row) (l : Int) (w : World) (hl : 0 ≤ l ∧ l ≤ 1048576) (hn : rs.length ≤ 9223372036854775807) (hs : Grid w A rs) :
    Calls Try.prog 10 #[.slice A rs.length c, .int .i64 l] w (LeftRows rs l w) := by
  by_cases h : (rs.length : Int) ≤ l
  · go_enter Try.func10, Try.ntmps10
    go_wp2_with fail
    go_loop [1, 5] (fun v i => ∃ k : Nat, k ≤ rs.length ∧ i = .int .i64 k ∧ ∃ q : Int, v = .int .i64 q ∧ 0 ≤ q ∧ q ≤ l ∧ Hid (∀ j (h : j < rs.length), j < k → (rs[j].zs.length : Int) ≤ l)) (fun _ i => rs.length - (intOf i).toNat)
    case atStart => exact ⟨0, by omega, rfl, l - rs.length, by first | rfl | simp, by omega, by omega, mkHid (fun j h h' => absurd h' (by omega))⟩
    case round =>
      obtain ⟨k, hk, rfl, q, rfl, hq0, hql, HH⟩ := hrel
      by_cases hlt : k < rs.length
      · obtain ⟨b, off, rfl, h1, h2, h3, h4⟩ := hs.at_ hlt
        obtain ⟨r, hr⟩ : ∃ r, r = rs[k] := ⟨_, rfl⟩
        rw [← hr] at h1 h2 h3 h4
        have HR := mkHid hr
        clear hr h2 h3
        obtain ⟨a, c', zs⟩ := r
        simp only at h1 h4
        go_wp2_with fail
        refine (szIntS_any _ _ _ _ _ (by omega) h4).mono ?_
        rintro e w2 ⟨⟨hle, rfl⟩ | ⟨hlt2, rfl⟩, rfl⟩
        · go_wp2_with fail
          go_round
          case rel =>
            refine ⟨k + 1, by omega, by go_num, _, rfl, by omega, by omega, mkHid (fun j h h' => ?_)⟩
            by_cases e : j = k
            · subst e; rw [← HR.out]; simp only; omega
            · exact HH.out j h (by omega)
          case measure => simp [intOf] <;> omega
        · go_wp2_with fail
          go_ret
          exact ⟨.inr rfl, rfl⟩
      · go_wp2_with fail
        go_ret
        refine ⟨.inl ⟨q, rfl, hq0, hql, h, fun r hr => ?_⟩, rfl⟩
        obtain ⟨j, hj, rfl⟩ := List.mem_iff_getElem.1 hr
        exact HH.out j hj (by omega)
  · go_enter Try.func10, Try.ntmps10
    go_wp2_with fail
    go_ret
    exact ⟨.inr rfl, rfl⟩
def nilRow : Row := ⟨none, 0, []⟩
theorem rows_nils (n : Nat) : (madeCells (Value.slice none 0 0).cells (n * 1)).toList = rowVs (List.replicate n nilRow) := by
  apply List.ext_getElem?
  intro i
  by_cases h : i < n
  · simp [madeCells, h, Value.cells, rowVs, rowV, nilRow, Nat.mod_one]
  · rw [List.getElem?_eq_none (by simp [madeCells]; omega), List.getElem?_eq_none (by simp; omega)]
theorem toIntSS_any (A : Option Addr) (c : Nat) (rs : List Row) (w : World) (hl : rs.length ≤ 1048576) (hlr : ∀ r ∈ rs, r.zs.length ≤ 1048576) (hs : Grid w A rs) :
    Calls Try.prog 12 #[.slice A rs.length c] w (RetRows (graph rs) w) := by
  obtain ⟨i0, hi0, hz0, hz1, hz2⟩ := info_parts Er.hi
  go_enter Try.func12, Try.ntmps12
  go_wp2_with (at_make; refine wpList_make_full _ rfl _ _ _ rfl w.heap.size _ i0 _ 1 Er.ht hi0 hz0 hz1 _ _ _ _ rs.length rfl rfl rfl rfl (by rw [hz2]; omega) (by simp only [maxLen]; omega) (Nat.le_refl _) ?_; intro w1 hown1 hg1; have HO := mkHid hown1; have HG := mkHid hg1; clear hown1 hg1)
  go_loopw [4] (fun i wr => ∃ k : Nat, k ≤ rs.length ∧ i = .int .i64 k ∧ ∃ qs : List Row, qs.length = k ∧ Hid (graph qs = graph (rs.take k)) ∧ wr.ownsRow w.heap.size 30 1 (.slice (some ⟨w.heap.size, 0, none⟩) rs.length rs.length) rs.length (rowVs (qs ++ List.replicate (rs.length - k) nilRow)) ∧ RowsOwn wr (w.heap.size + 1) qs ∧ Below w.heap.size w wr) (fun i _ => rs.length - (intOf i).toNat)
  case atStart =>
    refine ⟨0, by omega, rfl, [], rfl, mkHid rfl, ?_, RowsOwn.nil _ _, (Below.refl _ _).grown HG.out (Nat.le_refl _) (by simp)⟩
    have := HO.out
    rw [rows_nils] at this
    simpa using this
  case round =>
    obtain ⟨k, hk, rfl, qs, hq, HQ, hown, hrows, hb⟩ := hrel
    have hs' := hs.below hb
    have HB := mkHid hb
    have hsz := hb.size
    have HRO := mkHid hrows
    clear hb hrows
    by_cases hlt : k < rs.length
    · obtain ⟨b, off, rfl, h1, h2, h3, h4⟩ := hs'.at_ hlt
      have hlk := hlr _ (List.getElem_mem hlt)
      have HT := mkHid (List.take_succ_eq_append_getElem hlt)
      obtain ⟨r, hr⟩ : ∃ r, r = rs[k] := ⟨_, rfl⟩
      rw [← hr] at h1 h2 h3 h4 hlk HT
      obtain ⟨a, c', zs⟩ := r
      simp only at h1 h2 h3 h4 hlk
      have H2 := mkHid h2
      have hgs := (hown.lt w.heap.size rfl).2
      have HOW := mkHid hown
      clear hr h2 h3 hown hs hs'
      go_wp2_with fail
      refine (toIntS_any _ _ _ _ hlk H2.out).mono ?_
      rintro e w2 ⟨A2, c2, rfl, o2, b2⟩
      have hown2 := own_below HOW.out b2
      obtain ⟨g, hg, hgb, hgs2, hcell, hfr, hst⟩ := own_open hown2 (i := k) (by simp; omega)
      injection hg with hg
      injection hg with hg
      subst hg
      have HS := mkHid (hst (.slice A2 zs.length c2))
      have HG2 := mkHid (grown_setCell w2 w.heap.size k (.slice A2 zs.length c2))
      have HR2 := mkHid (HRO.out.snoc b2 (by omega) ⟨A2, c2, zs⟩ o2)
      have B2 := mkHid (below_then HB.out b2)
      clear hst hown2 o2 b2
      go_wp2_with fail
      go_roundw
      case rel =>
        refine ⟨k + 1, by omega, by go_num, qs ++ [⟨A2, c2, zs⟩], by simp [hq], mkHid ?_, ?_, ?_, ?_⟩
        · rw [HT.out]
          have := HQ.out
          simp only [graph, List.map_append, List.map_cons, List.map_nil] at this ⊢
          rw [this]
        · have h := HS.out
          have e : (rowVs (qs ++ List.replicate (rs.length - k) nilRow)).set k (.slice A2 zs.length c2) = rowVs ((qs ++ [⟨A2, c2, zs⟩]) ++ List.replicate (rs.length - (k + 1)) nilRow) := by
            rw [show rs.length - k = (rs.length - (k + 1)) + 1 by omega, List.replicate_succ]
            simp only [rowVs, List.map_append, List.map_cons, List.map_nil]
            rw [List.set_append_right _ _ (by simp [hq])]
            simp [hq]
          rw [e] at h
          exact h
        · exact HR2.out.apart HG2.out (fun g hg => by injection hg with hg; omega)
        · exact below_grown B2.out HG2.out (fun g hg => by injection hg with hg; omega)
      case measure => simp [intOf] <;> omega
    · have : k = rs.length := by omega
      subst this
      have HOW := mkHid hown
      clear hown hs'
      go_wp2_with fail
      go_ret
      have hgq : graph qs = graph rs := by have := HQ.out; rwa [List.take_length] at this
      have hlen : (graph rs).length = rs.length := by simp
      refine ⟨some ⟨w.heap.size, 0, none⟩, rs.length, qs, by simp [hlen], hgq, by rw [hlen]; simpa using HOW.out, fun b hb => ?_, fun h => (by cases h), HB.out⟩
      rw [hlen] at hb
      have : w.heap.size = b := by simpa [Value.ownBlock] using hb
      rw [← this]; exact HRO.out
theorem eqIntSS_same (A B : Option Addr) (c d : Nat) (rs qs : List Row) (w : World) (hn : rs.length ≤ 9223372036854775807) (hg : graph rs = graph qs) (hx : Grid w A rs) (hy : Grid w B qs) :
    Calls Try.prog 14 #[.slice A rs.length c, .slice B rs.length d] w fun e w' => e = .returned (.bool true) ∧ ∃ k, w' = w.drewN k := by
  have hlen : qs.length = rs.length := by have := congrArg List.length hg; simpa using this.symm
  have HL := mkHid hlen
  have HG := mkHid hg
  clear hlen hg
  go_enter Try.func14, Try.ntmps14
  go_wp2_with fail
  go_loopw [5] (fun i wr => ∃ k : Nat, k ≤ rs.length ∧ i = .int .i64 k ∧ ∃ n, wr = w.drewN n) (fun i _ => rs.length - (intOf i).toNat)
  case atStart => exact ⟨0, by omega, rfl, 0, rfl⟩
  case round =>
    obtain ⟨k, hk, rfl, n, rfl⟩ := hrel
    by_cases hlt : k < rs.length
    · have hlt2 : k < qs.length := by rw [HL.out]; exact hlt
      obtain ⟨b, off, rfl, h1, h2, h3, h4⟩ := hx.at_ hlt
      obtain ⟨b', off', rfl, g1, g2, g3, g4⟩ := hy.at_ hlt2
      have hz : qs[k].zs = rs[k].zs := by
        have h0 : (graph rs)[k]? = (graph qs)[k]? := by rw [HG.out]
        simp [hlt, hlt2] at h0
        exact h0.symm
      rw [hz] at g1 g2
      generalize hX : w.drewN n = X
      have H2 : Hid (Sl X rs[k].a (ints rs[k].zs)) := mkHid (by rw [← hX]; exact h2)
      have G2 : Hid (Sl X qs[k].a (ints rs[k].zs)) := mkHid (by rw [← hX]; exact g2)
      have h1 : X.cell? ⟨b, off + k, none⟩ = some (.slice rs[k].a rs[k].zs.length rs[k].c) := by rw [← hX]; exact h1
      have g1 : X.cell? ⟨b', off' + k, none⟩ = some (.slice qs[k].a rs[k].zs.length qs[k].c) := by rw [← hX]; exact g1
      have HX := mkHid hX
      clear hX h2 g2 h3 g3 g4 hz hx hy
      generalize rs[k] = r at *
      generalize qs[k] = q at *
      obtain ⟨a, c', zs⟩ := r
      obtain ⟨a', c'', zs'⟩ := q
      simp only at h1 g1 h4 H2 G2
      have h1 := fun u : Drew X => u.keeps h1
      have g1 := fun u : Drew X => u.keeps g1
      go_wp2_with fail
      refine wp_region_drew (by kernel_rfl) (by kernel_rfl) ?_
      repeat (go_big_quiet_step ((go_at_call 36; with_reducible exact drew_call (eqIntS_same _ _ _ _ _ _ h4 (Drew.sl _ H2.out) (Drew.sl _ G2.out)))))
      refine wpQuiet_nil (drew_end fun Y m hY => ?_)
      clear h1 g1
      subst hY
      have hX := HX.out
      subst hX
      go_wp2_with fail
      go_roundw
      case rel => exact ⟨k + 1, by omega, by go_num, _, by first | rfl | exact World.drewN_drewN _ _ _⟩
      case measure => simp [intOf] <;> omega
    · go_wp2_with fail
      go_ret
      exact ⟨rfl, n, rfl⟩
end Go.Proofs.Ytabpcbikbhbcaaa
