/-
  Contracts on slices of instructions: how they lie in memory, and the laws' helpers szCodeS, toCodeS, eqCodeS, markCodeS.
-/
import Derived.Test.YtjgemgjpbanliaaCCode
import Derived.Test.YtjgemgjpbanliaaLib2
namespace Go.Proofs.Ytjgemgjpbanliaa
open Go.RowKit
set_option maxHeartbeats 1000000
set_option linter.unusedVariables false

abbrev cdCells (x : Cd) : List Value := [.int .i64 x.op, .int .i64 x.a, .int .i64 x.b, .int .i64 x.c]
def cflat (xs : List Cd) : List Value := xs.flatMap cdCells
theorem cflat_nil : cflat [] = [] := rfl
theorem cflat_cons (a : Cd) (xs : List Cd) : cflat (a :: xs) = cdCells a ++ cflat xs := by simp [cflat]
theorem cflat_append (xs ys : List Cd) : cflat (xs ++ ys) = cflat xs ++ cflat ys := by simp [cflat]
theorem cflat_length (xs : List Cd) : (cflat xs).length = xs.length * 4 := by
  induction xs with
  | nil => rfl
  | cons a xs ih => rw [cflat_cons, List.length_append, ih]; simp [cdCells]; omega
theorem cflat_at (xs : List Cd) (k j : Nat) (hk : k < xs.length) (hj : j < 4) : (cflat xs)[k * 4 + j]? = (cdCells xs[k])[j]? := by
  induction xs generalizing k with
  | nil => simp at hk
  | cons a xs ih =>
    rw [cflat_cons]
    cases k with
    | zero => simp only [Nat.zero_mul, Nat.zero_add]; rw [List.getElem?_append_left (by simp [cdCells]; omega)]; rfl
    | succ k =>
      rw [List.getElem?_append_right (by simp [cdCells]; omega)]
      have : (k + 1) * 4 + j - (cdCells a).length = k * 4 + j := by simp [cdCells]; omega
      rw [this, ih k (by simpa using hk)]
      rfl
theorem cflat_one (xs : List Cd) : ∀ u ∈ cflat xs, u.oneCell' = true := by
  intro u hu
  simp only [cflat, List.mem_flatMap] at hu
  obtain ⟨a, _, h⟩ := hu
  simp only [cdCells, List.mem_cons, List.not_mem_nil, or_false] at h
  rcases h with rfl | rfl | rfl | rfl <;> rfl

theorem Sl.cd {w : World} {A : Option Addr} {xs : List Cd} (h : Sl w A (cflat xs)) {k : Nat} (hk : k < xs.length) :
    ∃ b off, A = some ⟨b, off, none⟩ ∧ w.cell? ⟨b, off + k * 4, none⟩ = some (.int .i64 xs[k].op) ∧ w.cell? ⟨b, off + k * 4 + 1, none⟩ = some (.int .i64 xs[k].a) ∧
      w.cell? ⟨b, off + k * 4 + 2, none⟩ = some (.int .i64 xs[k].b) ∧ w.cell? ⟨b, off + k * 4 + 3, none⟩ = some (.int .i64 xs[k].c) := by
  obtain ⟨b, off, rfl, hc⟩ := h.at_ (k := k * 4) (by rw [cflat_length]; omega)
  refine ⟨b, off, rfl, ?_, ?_, ?_, ?_⟩
  · have := hc (k * 4) _ (cflat_at xs k 0 hk (by omega)); simpa [Nat.add_assoc] using this
  · have := hc (k * 4 + 1) _ (cflat_at xs k 1 hk (by omega)); simpa [Nat.add_assoc] using this
  · have := hc (k * 4 + 2) _ (cflat_at xs k 2 hk (by omega)); simpa [Nat.add_assoc] using this
  · have := hc (k * 4 + 3) _ (cflat_at xs k 3 hk (by omega)); simpa [Nat.add_assoc] using this

theorem szCodeS_any (A : Option Addr) (n c : Nat) (l : Int) (w : World) (hl : 0 ≤ l ∧ l ≤ 1048576) (hn : n ≤ 9223372036854775807) :
    Calls Try.prog 9 #[.slice A n c, .int .i64 l] w (LeftOver n l w) := by
  by_cases h : (n : Int) ≤ l
  · go_enter Try.func9, Try.ntmps9
    go_wp2
    go_ret
    exact ⟨.inl ⟨h, rfl⟩, rfl⟩
  · go_enter Try.func9, Try.ntmps9
    go_wp2
    go_ret
    exact ⟨.inr ⟨by omega, rfl⟩, rfl⟩
theorem cdData (a b : Cd) : cdCells a = cdCells b ↔ a = b := by
  obtain ⟨x, y, u, p⟩ := a
  obtain ⟨x', y', u', p'⟩ := b
  simp [cdCells]
theorem eqCode_any (a b : Cd) (w : World) : Calls Try.prog 34 #[cdV a, cdV b] w fun e w' => e = .returned (.bool (decide (a = b))) ∧ Below w.heap.size w w' := by
  obtain ⟨x, y, u, p⟩ := a
  obtain ⟨x', y', u', p'⟩ := b
  go_enter Try.func34, Try.ntmps34
  go_wp2
  all_goals go_ret
  all_goals refine ⟨ret_bool ?_, ((Below.refl _ _).alloc (Nat.le_refl _) _).alloc (by simp) _⟩
  all_goals first
    | (have h : (x != x') = true := by assumption
       rw [bne_iff_ne] at h
       simp [h])
    | (have h : (y != y') = true := by assumption
       rw [bne_iff_ne] at h
       simp [h])
    | (have h : (u != u') = true := by assumption
       rw [bne_iff_ne] at h
       simp [h])
    | (have h : (p != p') = true := by assumption
       rw [bne_iff_ne] at h
       simp [h])
    | (have h1 : (x != x') = false := by assumption
       have h2 : (y != y') = false := by assumption
       have h3 : (u != u') = false := by assumption
       have h4 : (p != p') = false := by assumption
       simp at h1 h2 h3 h4
       simp [h1, h2, h3, h4])
theorem Ec : ElemI Try.prog 25 44 (.agg #[.int .i64 0, .int .i64 0, .int .i64 0, .int .i64 0]) 4 32 := ⟨Try.underlying25, by kernel_rfl, rfl, by omega⟩
def RetCds (xs : List Cd) (w : World) (e : Ending) (w' : World) : Prop :=
  ∃ A c, e = .returned (.slice A xs.length c) ∧ w'.ownsRow w.heap.size 44 4 (.slice A xs.length c) xs.length (cflat xs) ∧ Below w.heap.size w w'

def cd0 : Cd := ⟨0, 0, 0, 0⟩
theorem cflat_zeros (n : Nat) : (madeCells (Value.agg #[.int .i64 0, .int .i64 0, .int .i64 0, .int .i64 0]).cells (n * 4)).toList = cflat (List.replicate n cd0) := by
  apply List.ext_getElem?
  intro i
  by_cases h : i < n * 4
  · have h1 := cflat_at (List.replicate n cd0) (i / 4) (i % 4) (by simp; omega) (Nat.mod_lt _ (by omega))
    rw [show i / 4 * 4 + i % 4 = i from by omega] at h1
    rw [h1]
    have h2 : i % 4 = 0 ∨ i % 4 = 1 ∨ i % 4 = 2 ∨ i % 4 = 3 := by omega
    rcases h2 with h2 | h2 | h2 | h2 <;> simp [madeCells, h, h2, Value.cells, cd0, cdCells]
  · rw [List.getElem?_eq_none (by simp [madeCells]; omega), List.getElem?_eq_none (by rw [cflat_length]; simp; omega)]

theorem cflat_set (ys : List Cd) (k : Nat) (a : Cd) (hk : k < ys.length) :
    ((((cflat ys).set (k * 4) (.int .i64 a.op)).set (k * 4 + 1) (.int .i64 a.a)).set (k * 4 + 2) (.int .i64 a.b)).set (k * 4 + 3) (.int .i64 a.c) = cflat (ys.set k a) := by
  apply List.ext_getElem?
  intro i
  simp only [List.getElem?_set, List.length_set, cflat_length]
  by_cases h : i < ys.length * 4
  · have h1 := cflat_at (ys.set k a) (i / 4) (i % 4) (by simp; omega) (Nat.mod_lt _ (by omega))
    have h0 := cflat_at ys (i / 4) (i % 4) (by omega) (Nat.mod_lt _ (by omega))
    rw [show i / 4 * 4 + i % 4 = i from by omega] at h1 h0
    rw [h1, h0]
    have h2 : i % 4 = 0 ∨ i % 4 = 1 ∨ i % 4 = 2 ∨ i % 4 = 3 := by omega
    by_cases hi : k = i / 4
    · subst hi
      have hs : (ys.set (i / 4) a)[i / 4]'(by simp; omega) = a := by simp
      rw [hs]
      rcases h2 with h2 | h2 | h2 | h2
      · rw [if_neg (by omega), if_neg (by omega), if_neg (by omega), if_pos (by omega), h2]; simp [cdCells]; omega
      · rw [if_neg (by omega), if_neg (by omega), if_pos (by omega), h2]; simp [cdCells]; omega
      · rw [if_neg (by omega), if_pos (by omega), h2]; simp [cdCells]; omega
      · rw [if_pos (by omega), h2]; simp [cdCells]; omega
    · have hs : (ys.set k a)[i / 4]'(by simp; omega) = ys[i / 4]'(by omega) := by rw [List.getElem_set_ne hi]
      rw [hs]
      rw [if_neg (by omega), if_neg (by omega), if_neg (by omega), if_neg (by omega)]
  · rw [if_neg (by omega), if_neg (by omega), if_neg (by omega), if_neg (by omega), List.getElem?_eq_none (by rw [cflat_length]; omega), List.getElem?_eq_none (by rw [cflat_length]; simp; omega)]

theorem own_cd {w : World} {base : Nat} {e : TypeId} {g n c : Nat} {ys : List Cd} (h : w.ownsRow base e 4 (.slice (some ⟨g, 0, none⟩) n c) n (cflat ys)) {k : Nat} (hk : k < ys.length) (a : Cd) :
    (w.cell? ⟨g, k * 4, none⟩ = some (.int .i64 ys[k].op) ∧ w.cell? ⟨g, k * 4 + 1, none⟩ = some (.int .i64 ys[k].a) ∧ w.cell? ⟨g, k * 4 + 2, none⟩ = some (.int .i64 ys[k].b) ∧ w.cell? ⟨g, k * 4 + 3, none⟩ = some (.int .i64 ys[k].c)) ∧
    (w.frozen? ⟨g, k * 4, none⟩ = false ∧ w.frozen? ⟨g, k * 4 + 1, none⟩ = false ∧ w.frozen? ⟨g, k * 4 + 2, none⟩ = false ∧ w.frozen? ⟨g, k * 4 + 3, none⟩ = false) ∧
    ((((w.setCell ⟨g, k * 4, none⟩ (.int .i64 a.op)).setCell ⟨g, k * 4 + 1, none⟩ (.int .i64 a.a)).setCell ⟨g, k * 4 + 2, none⟩ (.int .i64 a.b)).setCell ⟨g, k * 4 + 3, none⟩ (.int .i64 a.c)).ownsRow base e 4 (.slice (some ⟨g, 0, none⟩) n c) n (cflat (ys.set k a)) := by
  refine ⟨?_, ⟨h.frozenAt _, h.frozenAt _, h.frozenAt _, h.frozenAt _⟩, ?_⟩
  · obtain ⟨b, off, hA, h0, h1, h2, h3⟩ := (Sl.of_own h).cd hk
    injection hA with hA
    injection hA with hA1 hA2
    subst hA1
    subst hA2
    simp only [Nat.zero_add] at h0 h1 h2 h3
    exact ⟨h0, h1, h2, h3⟩
  · rw [← cflat_set ys k a hk]
    exact ((((h.stored _ _).1.stored _ _).1.stored _ _).1.stored _ _).1

theorem grown_set4c {w w1 : World} {g : Nat} (h : w.grownBy w1 (some g)) (i j k l : Nat) (a b c d : Value) :
    w.grownBy ((((w1.setCell ⟨g, i, none⟩ a).setCell ⟨g, j, none⟩ b).setCell ⟨g, k, none⟩ c).setCell ⟨g, l, none⟩ d) (some g) :=
  grown_setCell' (grown_setCell' (grown_setCell' (grown_setCell' h i a) j b) k c) l d

theorem toCodeS_any (A : Option Addr) (c : Nat) (xs : List Cd) (w : World) (hl : xs.length ≤ 1048576) (hs : Sl w A (cflat xs)) :
    Calls Try.prog 11 #[.slice A xs.length c] w (RetCds xs w) := by
  obtain ⟨i0, hi0, hz0, hz1, hz2⟩ := info_parts Ec.hi
  go_enter Try.func11, Try.ntmps11
  go_wp2_with (at_make; refine wpList_make_full _ rfl _ _ _ rfl w.heap.size _ i0 _ 4 Ec.ht hi0 hz0 hz1 _ _ _ _ xs.length rfl rfl rfl rfl (by rw [hz2]; omega) (by simp only [maxLen]; omega) (Nat.le_refl _) ?_; intro w1 hown1 hg1; have HO := mkHid hown1; have HG := mkHid hg1; clear hown1 hg1)
  go_loopw [4] (fun i wr => ∃ k : Nat, k ≤ xs.length ∧ i = .int .i64 k ∧ wr.ownsRow w.heap.size 44 4 (.slice (some ⟨w.heap.size, 0, none⟩) xs.length xs.length) xs.length (cflat (xs.take k ++ List.replicate (xs.length - k) cd0)) ∧ Below w.heap.size w wr) (fun i _ => xs.length - (intOf i).toNat)
  case atStart => exact ⟨0, by omega, rfl, by have := HO.out; rw [cflat_zeros] at this; simpa using this, (Below.refl _ _).grown HG.out (Nat.le_refl _) (by simp)⟩
  case round =>
    obtain ⟨k, hk, rfl, hown, hb⟩ := hrel
    have hs' := hs.below hb
    have HB := mkHid hb
    have HO := mkHid hown
    have hsz := hb.size
    clear hb
    by_cases hlt : k < xs.length
    · obtain ⟨b, off, rfl, h0, h1, h2, h3⟩ := hs'.cd hlt
      have hset := set_take_fill xs cd0 k hlt
      have HS := mkHid hset
      have hkl : k < (xs.take k ++ List.replicate (xs.length - k) cd0).length := by simp; omega
      clear hset hown
      go_wp2_with (go_at_call 31; refine (toCode_any xs[k] _).mono ?_; rintro e w2 ⟨rfl, hb2⟩; have HB2 := mkHid hb2; have hsz2 := hb2.size; have HO2 := mkHid (own_cd (own_below HO.out hb2) hkl xs[k]); clear hb2; obtain ⟨⟨p0, p1, p2, p3⟩, ⟨f0, f1, f2, f3⟩, _⟩ := HO2.out)
      go_roundw
      case rel =>
        refine ⟨k + 1, by omega, by go_num, ?_, ?_⟩
        · rw [← HS.out]; exact HO2.out.2.2
        · refine below_grown (row := some w.heap.size) (HB.out.trans (HB2.out.mono hsz)) (grown_set4c (World.grownBy.refl _ _) _ _ _ _ _ _ _ _) (by simp)
      case measure => simp [intOf]; omega
    · have : k = xs.length := by omega
      subst this
      go_wp2
      go_ret
      refine ⟨_, _, rfl, by simpa using HO.out, HB.out⟩

theorem eqCode_same (a : Cd) (w : World) : Calls Try.prog 34 #[cdV a, cdV a] w fun e w' => e = .returned (.bool true) ∧ Below w.heap.size w w' :=
  (eqCode_any a a w).mono fun e w' ⟨he, hb⟩ => ⟨by rw [he]; simp, hb⟩
theorem eqCodeS_same (A B : Option Addr) (c d : Nat) (xs : List Cd) (w : World) (hl : xs.length ≤ 9223372036854775807) (hx : Sl w A (cflat xs)) (hy : Sl w B (cflat xs)) :
    Calls Try.prog 13 #[.slice A xs.length c, .slice B xs.length d] w fun e w' => e = .returned (.bool true) ∧ Below w.heap.size w w' := by
  go_enter Try.func13, Try.ntmps13
  go_wp2
  go_loopw [5] (fun i wr => ∃ k : Nat, k ≤ xs.length ∧ i = .int .i64 k ∧ Below w.heap.size w wr) (fun i _ => xs.length - (intOf i).toNat)
  case atStart => exact ⟨0, by omega, rfl, Below.refl _ _⟩
  case round =>
    obtain ⟨k, hk, rfl, hb⟩ := hrel
    have hx' := hx.below hb
    have hy' := hy.below hb
    have HB := mkHid hb
    clear hb
    by_cases hlt : k < xs.length
    · obtain ⟨b, off, rfl, h0, h1, h2, h3⟩ := hx'.cd hlt
      obtain ⟨b', off', rfl, g0, g1, g2, g3⟩ := hy'.cd hlt
      have h0 := fun u : Ext wr => u.keeps h0
      have h1 := fun u : Ext wr => u.keeps h1
      have h2 := fun u : Ext wr => u.keeps h2
      have h3 := fun u : Ext wr => u.keeps h3
      have g0 := fun u : Ext wr => u.keeps g0
      have g1 := fun u : Ext wr => u.keeps g1
      have g2 := fun u : Ext wr => u.keeps g2
      have g3 := fun u : Ext wr => u.keeps g3
      clear hx hy hx' hy'
      go_wp2
      refine wp_region_ext (by kernel_rfl) (by kernel_rfl) ?_
      repeat (go_big_quiet_step ((go_at_call 34; with_reducible exact ext_call (eqCode_same xs[k] _))))
      refine wpQuiet_nil (ext_end fun X hX => ?_)
      clear h0 h1 h2 h3 g0 g1 g2 g3
      have HX := mkHid hX
      clear hX
      go_wp2
      go_roundw
      case rel => exact ⟨k + 1, by omega, by go_num, below_then HB.out HX.out⟩
      case measure => simp [intOf]; omega
    · go_wp2
      go_ret
      exact ⟨rfl, HB.out⟩
def markCd (k : Int) (i : Nat) : Cd := ⟨k + 4 * i, k + 4 * i + 1, k + 4 * i + 1 + 1, k + 4 * i + 1 + 1 + 1⟩
def markCds (k : Int) (n : Nat) : List Cd := (List.range n).map (markCd k)
theorem markCds_length (k : Int) (n : Nat) : (markCds k n).length = n := by simp [markCds]
theorem markCds_at (k : Int) (n i : Nat) (h : i < (markCds k n).length) : (markCds k n)[i] = markCd k i := by simp [markCds]
theorem markCds_step (k : Int) (xs : List Cd) (i : Nat) (h : i < xs.length) : (markCds k i ++ xs.drop i).set i (markCd k i) = markCds k (i + 1) ++ xs.drop (i + 1) := by
  have h1 : xs.drop i = xs[i] :: xs.drop (i + 1) := List.drop_eq_getElem_cons h
  rw [h1, List.set_append_right _ _ (by simp [markCds_length])]
  have h2 : markCds k (i + 1) = markCds k i ++ [markCd k i] := by simp [markCds, List.range_succ]
  rw [markCds_length, Nat.sub_self, List.set_cons_zero, h2]
  simp only [List.append_assoc, List.singleton_append]
theorem markCodeS_any (A : Option Addr) (c : Nat) (xs : List Cd) (k0 : Int) (base : Nat) (w : World) (hk0 : 0 ≤ k0) (hk1 : k0 ≤ 2000000000) (hn : xs.length ≤ 2000000000)
    (hown : w.ownsRow base 44 4 (.slice A xs.length c) xs.length (cflat xs)) :
    Calls Try.prog 19 #[.slice A xs.length c, .int .i64 k0] w fun e w' =>
      e = .returned (.int .i64 (k0 + 4 * xs.length)) ∧ w'.ownsRow base 44 4 (.slice A xs.length c) xs.length (cflat (markCds k0 xs.length)) ∧ w.grownBy w' (Value.slice A xs.length c).ownBlock := by
  go_enter Try.func19, Try.ntmps19
  go_wp2
  go_loopw [1, 5] (fun kv i wr => ∃ k : Nat, k ≤ xs.length ∧ i = .int .i64 k ∧ kv = .int .i64 (k0 + 4 * k) ∧ wr.ownsRow base 44 4 (.slice A xs.length c) xs.length (cflat (markCds k0 k ++ xs.drop k)) ∧ w.grownBy wr (Value.slice A xs.length c).ownBlock) (fun _ i _ => xs.length - (intOf i).toNat)
  case atStart => exact ⟨0, by omega, rfl, by simp, by simpa [markCds] using hown, World.grownBy.refl _ _⟩
  case round =>
    obtain ⟨k, hk, rfl, rfl, hownr, hgr⟩ := hrel
    clear hown
    by_cases hlt : k < xs.length
    · have hkl : k < (markCds k0 k ++ xs.drop k).length := by simp [markCds_length]; omega
      obtain ⟨b, off, hA, _⟩ := (Sl.of_own hownr).cd hkl
      have hform := own_open hownr (i := 0) (by rw [cflat_length]; omega)
      obtain ⟨g, hA', hgb, hgs, _⟩ := hform
      subst hA'
      clear hA
      have HO := mkHid (own_cd hownr hkl (markCd k0 k))
      have HS := mkHid (markCds_step k0 xs k hlt)
      have HG := mkHid (grown_set4c hgr (k * 4) (k * 4 + 1) (k * 4 + 2) (k * 4 + 3) (.int .i64 (markCd k0 k).op) (.int .i64 (markCd k0 k).a) (.int .i64 (markCd k0 k).b) (.int .i64 (markCd k0 k).c))
      clear hownr hgr
      obtain ⟨⟨p0, p1, p2, p3⟩, ⟨f0, f1, f2, f3⟩, _⟩ := HO.out
      go_wp2
      go_roundw
      case rel =>
        refine ⟨k + 1, by omega, by go_num, by congr 1; omega, ?_, ?_⟩
        · rw [← HS.out]
          exact HO.out.2.2
        · exact HG.out
      case measure => simp [intOf]; omega
    · have : k = xs.length := by omega
      subst this
      have HO := mkHid hownr
      have HG := mkHid hgr
      clear hownr hgr
      go_wp2
      go_ret
      exact ⟨rfl, by simpa using HO.out, HG.out⟩
end Go.Proofs.Ytjgemgjpbanliaa
