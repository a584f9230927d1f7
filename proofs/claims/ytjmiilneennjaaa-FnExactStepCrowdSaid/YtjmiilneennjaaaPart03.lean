/-
  Parts of a proof: Lib2, CCodeS, Frame, OpenCodes, CToInt, LibApp, LibDrew, CApart, OpenCrowd.
-/
import Derived.Test.YtjmiilneennjaaaPart01
import Derived.Test.YtjmiilneennjaaaPart02
import Derived.Test.YtjmiilneennjaaaRows
import Derived.ProofKit
import Derived.OpenShut
import Derived.Deep.Slices
import Derived.Deep.Fields
import Derived.Deep.RegionLaw
import Derived.Lib.SmallJoins
namespace Go.Proofs.Ytjmiilneennjaaa
open Go.RowKit
set_option linter.unusedVariables false

theorem own_empty (w : World) (e : TypeId) (size : Nat) : (w.alloc (.cells #[] e)).ownsRow w.heap.size e size (.slice (some ⟨w.heap.size, 0, none⟩) 0 0) 0 [] :=
  World.ownsRow_made w #[] 0 (Nat.le_refl _) (by simp [maxLen]) (by simp)
theorem own_grown {w w' : World} {base br : Nat} {e : TypeId} {size n : Nat} {v : Value} {xs : List Value} (h : w.ownsRow base e size v n xs) (hg : w.grownBy w' (some br)) (hne : ∀ g, v.ownBlock = some g → g ≠ br) : w'.ownsRow base e size v n xs :=
  h.kept hg (by cases hv : v.ownBlock with
    | none => exact .inl rfl
    | some g => exact .inr (fun e => hne g hv (by injection e)))
theorem own_cap {w : World} {base : Nat} {e : TypeId} {size n c : Nat} {A : Option Addr} {xs : List Value} (h : w.ownsRow base e size (.slice A n c) n xs) : n ≤ c := by
  rcases h.2 with ⟨hv, h0⟩ | ⟨g, cap, cur, hv, _, _, hn, _⟩
  · omega
  · injection hv with _ _ hc
    omega
/-- the cells of a new block, its number said otherwise. -/
theorem newCellsAt (w : World) (us : List Value) (e : TypeId) {B : Nat} (hB : B = w.heap.size) : ∀ j x, us[j]? = some x → (w.alloc (.cells us.toArray e)).cell? ((⟨B, 0, none⟩ : Addr).add j) = some x := by
  subst hB
  exact newCells w us e
/-- a row stands, where an older block has turned. -/
theorem own_apart {w w' : World} {base : Nat} {e : TypeId} {size n : Nat} {v : Value} {xs : List Value} {row : Option Nat} (h : w.ownsRow base e size v n xs) (hg : w.grownBy w' row) (hr : ∀ g, row = some g → g < base) : w'.ownsRow base e size v n xs :=
  h.kept hg (by
    cases hv : v.ownBlock with
    | none => exact .inl rfl
    | some g =>
      refine .inr fun e => ?_
      have h1 := (h.lt g hv).1
      have h2 := hr g e.symm
      omega)
theorem own_base {w : World} {base base' : Nat} {e : TypeId} {size n : Nat} {v : Value} {xs : List Value} (h : w.ownsRow base e size v n xs) (hle : base' ≤ base) : w.ownsRow base' e size v n xs := by
  refine ⟨h.1, ?_⟩
  rcases h.2 with h2 | ⟨g, cap, cur, h3, h4, h5⟩
  · exact .inl h2
  · exact .inr ⟨g, cap, cur, h3, Nat.le_trans hle h4, h5⟩
theorem grown_none {a w : World} (h : a.grownBy w none) (row : Option Nat) : a.grownBy w row := ⟨h.os, h.tape, h.output, h.size, fun i hi _ => h.block i hi (by simp)⟩
theorem grown_belowNone {a w : World} (h : a.grownBy w none) : Below a.heap.size a w := ⟨h.os, h.tape, h.output, h.size, fun i hi => h.block i hi (by simp)⟩
/-- a row stands, where another row's block has turned. -/
theorem own_grown' {w w' : World} {base : Nat} {e : TypeId} {size n : Nat} {v : Value} {xs : List Value} {row : Option Nat} (h : w.ownsRow base e size v n xs) (hg : w.grownBy w' row) (hne : ∀ g, v.ownBlock = some g → row = some g → False) : w'.ownsRow base e size v n xs :=
  h.kept hg (by
    cases hv : v.ownBlock with
    | none => exact .inl rfl
    | some g => exact .inr fun e => hne g hv e.symm)
end Go.Proofs.Ytjmiilneennjaaa

namespace Go.Proofs.Ytjmiilneennjaaa
open Go.RowKit
set_option maxHeartbeats 1000000
set_option linter.unusedVariables false

abbrev cdCells (x : Cd) : List Value := [.int .i64 x.op, .int .i64 x.a, .int .i64 x.b, .int .i64 x.c]
def cflat (xs : List Cd) : List Value := xs.flatMap cdCells
theorem cflat_nil : cflat [] = [] := rfl
theorem cflat_cons (a : Cd) (xs : List Cd) : cflat (a :: xs) = cdCells a ++ cflat xs := by simp [cflat]
theorem cflat_append (xs ys : List Cd) : cflat (xs ++ ys) = cflat xs ++ cflat ys := by simp [cflat]
theorem cflat_length (xs : List Cd) : (cflat xs).length = xs.length * 4 := by
  induction xs with
  | nil => rfl
  | cons a xs ih => rw [cflat_cons, List.length_append, ih]; simp [cdCells]; omega
theorem cflat_at (xs : List Cd) (k j : Nat) (hk : k < xs.length) (hj : j < 4) : (cflat xs)[k * 4 + j]? = (cdCells xs[k])[j]? := by
  induction xs generalizing k with
  | nil => simp at hk
  | cons a xs ih =>
    rw [cflat_cons]
    cases k with
    | zero => simp only [Nat.zero_mul, Nat.zero_add]; rw [List.getElem?_append_left (by simp [cdCells]; omega)]; rfl
    | succ k =>
      rw [List.getElem?_append_right (by simp [cdCells]; omega)]
      have : (k + 1) * 4 + j - (cdCells a).length = k * 4 + j := by simp [cdCells]; omega
      rw [this, ih k (by simpa using hk)]
      rfl
theorem cflat_one (xs : List Cd) : ∀ u ∈ cflat xs, u.oneCell' = true := by
  intro u hu
  simp only [cflat, List.mem_flatMap] at hu
  obtain ⟨a, _, h⟩ := hu
  simp only [cdCells, List.mem_cons, List.not_mem_nil, or_false] at h
  rcases h with rfl | rfl | rfl | rfl <;> rfl

theorem Sl.cd {w : World} {A : Option Addr} {xs : List Cd} (h : Sl w A (cflat xs)) {k : Nat} (hk : k < xs.length) :
    ∃ b off, A = some ⟨b, off, none⟩ ∧ w.cell? ⟨b, off + k * 4, none⟩ = some (.int .i64 xs[k].op) ∧ w.cell? ⟨b, off + k * 4 + 1, none⟩ = some (.int .i64 xs[k].a) ∧
      w.cell? ⟨b, off + k * 4 + 2, none⟩ = some (.int .i64 xs[k].b) ∧ w.cell? ⟨b, off + k * 4 + 3, none⟩ = some (.int .i64 xs[k].c) := by
  obtain ⟨b, off, rfl, hc⟩ := h.at_ (k := k * 4) (by rw [cflat_length]; omega)
  refine ⟨b, off, rfl, ?_, ?_, ?_, ?_⟩
  · have := hc (k * 4) _ (cflat_at xs k 0 hk (by omega)); simpa [Nat.add_assoc] using this
  · have := hc (k * 4 + 1) _ (cflat_at xs k 1 hk (by omega)); simpa [Nat.add_assoc] using this
  · have := hc (k * 4 + 2) _ (cflat_at xs k 2 hk (by omega)); simpa [Nat.add_assoc] using this
  · have := hc (k * 4 + 3) _ (cflat_at xs k 3 hk (by omega)); simpa [Nat.add_assoc] using this

theorem szCodeS_any (A : Option Addr) (n c : Nat) (l : Int) (w : World) (hl : 0 ≤ l ∧ l ≤ 1048576) (hn : n ≤ 9223372036854775807) :
    Calls Try.prog 10 #[.slice A n c, .int .i64 l] w (LeftOver n l w) := by
  by_cases h : (n : Int) ≤ l
  · go_enter Try.func10, Try.ntmps10
    go_wp2
    go_ret
    exact ⟨.inl ⟨h, rfl⟩, rfl⟩
  · go_enter Try.func10, Try.ntmps10
    go_wp2
    go_ret
    exact ⟨.inr ⟨by omega, rfl⟩, rfl⟩
theorem cdData (a b : Cd) : cdCells a = cdCells b ↔ a = b := by
  obtain ⟨x, y, u, p⟩ := a
  obtain ⟨x', y', u', p'⟩ := b
  simp [cdCells]
theorem eqCode_any (a b : Cd) (w : World) : Calls Try.prog 52 #[cdV a, cdV b] w fun e w' => e = .returned (.bool (decide (a = b))) ∧ Below w.heap.size w w' := by
  obtain ⟨x, y, u, p⟩ := a
  obtain ⟨x', y', u', p'⟩ := b
  go_enter Try.func52, Try.ntmps52
  go_wp2
  all_goals go_ret
  all_goals refine ⟨ret_bool ?_, ((Below.refl _ _).alloc (Nat.le_refl _) _).alloc (by simp) _⟩
  all_goals first
    | (have h : (x != x') = true := by assumption
       rw [bne_iff_ne] at h
       simp [h])
    | (have h : (y != y') = true := by assumption
       rw [bne_iff_ne] at h
       simp [h])
    | (have h : (u != u') = true := by assumption
       rw [bne_iff_ne] at h
       simp [h])
    | (have h : (p != p') = true := by assumption
       rw [bne_iff_ne] at h
       simp [h])
    | (have h1 : (x != x') = false := by assumption
       have h2 : (y != y') = false := by assumption
       have h3 : (u != u') = false := by assumption
       have h4 : (p != p') = false := by assumption
       simp at h1 h2 h3 h4
       simp [h1, h2, h3, h4])
theorem Ec : ElemI Try.prog 34 69 (.agg #[.int .i64 0, .int .i64 0, .int .i64 0, .int .i64 0]) 4 32 := ⟨Try.underlying34, by kernel_rfl, rfl, by omega⟩
def RetCds (xs : List Cd) (w : World) (e : Ending) (w' : World) : Prop :=
  ∃ A c, e = .returned (.slice A xs.length c) ∧ w'.ownsRow w.heap.size 69 4 (.slice A xs.length c) xs.length (cflat xs) ∧ Below w.heap.size w w'

def cd0 : Cd := ⟨0, 0, 0, 0⟩
theorem cflat_zeros (n : Nat) : (madeCells (Value.agg #[.int .i64 0, .int .i64 0, .int .i64 0, .int .i64 0]).cells (n * 4)).toList = cflat (List.replicate n cd0) := by
  apply List.ext_getElem?
  intro i
  by_cases h : i < n * 4
  · have h1 := cflat_at (List.replicate n cd0) (i / 4) (i % 4) (by simp; omega) (Nat.mod_lt _ (by omega))
    rw [show i / 4 * 4 + i % 4 = i from by omega] at h1
    rw [h1]
    have h2 : i % 4 = 0 ∨ i % 4 = 1 ∨ i % 4 = 2 ∨ i % 4 = 3 := by omega
    rcases h2 with h2 | h2 | h2 | h2 <;> simp [madeCells, h, h2, Value.cells, cd0, cdCells]
  · rw [List.getElem?_eq_none (by simp [madeCells]; omega), List.getElem?_eq_none (by rw [cflat_length]; simp; omega)]

theorem cflat_set (ys : List Cd) (k : Nat) (a : Cd) (hk : k < ys.length) :
    ((((cflat ys).set (k * 4) (.int .i64 a.op)).set (k * 4 + 1) (.int .i64 a.a)).set (k * 4 + 2) (.int .i64 a.b)).set (k * 4 + 3) (.int .i64 a.c) = cflat (ys.set k a) := by
  apply List.ext_getElem?
  intro i
  simp only [List.getElem?_set, List.length_set, cflat_length]
  by_cases h : i < ys.length * 4
  · have h1 := cflat_at (ys.set k a) (i / 4) (i % 4) (by simp; omega) (Nat.mod_lt _ (by omega))
    have h0 := cflat_at ys (i / 4) (i % 4) (by omega) (Nat.mod_lt _ (by omega))
    rw [show i / 4 * 4 + i % 4 = i from by omega] at h1 h0
    rw [h1, h0]
    have h2 : i % 4 = 0 ∨ i % 4 = 1 ∨ i % 4 = 2 ∨ i % 4 = 3 := by omega
    by_cases hi : k = i / 4
    · subst hi
      have hs : (ys.set (i / 4) a)[i / 4]'(by simp; omega) = a := by simp
      rw [hs]
      rcases h2 with h2 | h2 | h2 | h2
      · rw [if_neg (by omega), if_neg (by omega), if_neg (by omega), if_pos (by omega), h2]; simp [cdCells]; omega
      · rw [if_neg (by omega), if_neg (by omega), if_pos (by omega), h2]; simp [cdCells]; omega
      · rw [if_neg (by omega), if_pos (by omega), h2]; simp [cdCells]; omega
      · rw [if_pos (by omega), h2]; simp [cdCells]; omega
    · have hs : (ys.set k a)[i / 4]'(by simp; omega) = ys[i / 4]'(by omega) := by rw [List.getElem_set_ne hi]
      rw [hs]
      rw [if_neg (by omega), if_neg (by omega), if_neg (by omega), if_neg (by omega)]
  · rw [if_neg (by omega), if_neg (by omega), if_neg (by omega), if_neg (by omega), List.getElem?_eq_none (by rw [cflat_length]; omega), List.getElem?_eq_none (by rw [cflat_length]; simp; omega)]

theorem own_cd {w : World} {base : Nat} {e : TypeId} {g n c : Nat} {ys : List Cd} (h : w.ownsRow base e 4 (.slice (some ⟨g, 0, none⟩) n c) n (cflat ys)) {k : Nat} (hk : k < ys.length) (a : Cd) :
    (w.cell? ⟨g, k * 4, none⟩ = some (.int .i64 ys[k].op) ∧ w.cell? ⟨g, k * 4 + 1, none⟩ = some (.int .i64 ys[k].a) ∧ w.cell? ⟨g, k * 4 + 2, none⟩ = some (.int .i64 ys[k].b) ∧ w.cell? ⟨g, k * 4 + 3, none⟩ = some (.int .i64 ys[k].c)) ∧
    (w.frozen? ⟨g, k * 4, none⟩ = false ∧ w.frozen? ⟨g, k * 4 + 1, none⟩ = false ∧ w.frozen? ⟨g, k * 4 + 2, none⟩ = false ∧ w.frozen? ⟨g, k * 4 + 3, none⟩ = false) ∧
    ((((w.setCell ⟨g, k * 4, none⟩ (.int .i64 a.op)).setCell ⟨g, k * 4 + 1, none⟩ (.int .i64 a.a)).setCell ⟨g, k * 4 + 2, none⟩ (.int .i64 a.b)).setCell ⟨g, k * 4 + 3, none⟩ (.int .i64 a.c)).ownsRow base e 4 (.slice (some ⟨g, 0, none⟩) n c) n (cflat (ys.set k a)) := by
  refine ⟨?_, ⟨h.frozenAt _, h.frozenAt _, h.frozenAt _, h.frozenAt _⟩, ?_⟩
  · obtain ⟨b, off, hA, h0, h1, h2, h3⟩ := (Sl.of_own h).cd hk
    injection hA with hA
    injection hA with hA1 hA2
    subst hA1
    subst hA2
    simp only [Nat.zero_add] at h0 h1 h2 h3
    exact ⟨h0, h1, h2, h3⟩
  · rw [← cflat_set ys k a hk]
    exact ((((h.stored _ _).1.stored _ _).1.stored _ _).1.stored _ _).1

theorem grown_set4c {w w1 : World} {g : Nat} (h : w.grownBy w1 (some g)) (i j k l : Nat) (a b c d : Value) :
    w.grownBy ((((w1.setCell ⟨g, i, none⟩ a).setCell ⟨g, j, none⟩ b).setCell ⟨g, k, none⟩ c).setCell ⟨g, l, none⟩ d) (some g) :=
  grown_setCell' (grown_setCell' (grown_setCell' (grown_setCell' h i a) j b) k c) l d

theorem toCodeS_any (A : Option Addr) (c : Nat) (xs : List Cd) (w : World) (hl : xs.length ≤ 1048576) (hs : Sl w A (cflat xs)) :
    Calls Try.prog 13 #[.slice A xs.length c] w (RetCds xs w) := by
  obtain ⟨i0, hi0, hz0, hz1, hz2⟩ := info_parts Ec.hi
  go_enter Try.func13, Try.ntmps13
  go_wp2_with (at_make; refine wpList_make_full _ rfl _ _ _ rfl w.heap.size _ i0 _ 4 Ec.ht hi0 hz0 hz1 _ _ _ _ xs.length rfl rfl rfl rfl (by rw [hz2]; omega) (by simp only [maxLen]; omega) (Nat.le_refl _) ?_; intro w1 hown1 hg1; have HO := mkHid hown1; have HG := mkHid hg1; clear hown1 hg1)
  go_loopw [4] (fun i wr => ∃ k : Nat, k ≤ xs.length ∧ i = .int .i64 k ∧ wr.ownsRow w.heap.size 69 4 (.slice (some ⟨w.heap.size, 0, none⟩) xs.length xs.length) xs.length (cflat (xs.take k ++ List.replicate (xs.length - k) cd0)) ∧ Below w.heap.size w wr) (fun i _ => xs.length - (intOf i).toNat)
  case atStart => exact ⟨0, by omega, rfl, by have := HO.out; rw [cflat_zeros] at this; simpa using this, (Below.refl _ _).grown HG.out (Nat.le_refl _) (by simp)⟩
  case round =>
    obtain ⟨k, hk, rfl, hown, hb⟩ := hrel
    have hs' := hs.below hb
    have HB := mkHid hb
    have HO := mkHid hown
    have hsz := hb.size
    clear hb
    by_cases hlt : k < xs.length
    · obtain ⟨b, off, rfl, h0, h1, h2, h3⟩ := hs'.cd hlt
      have hset := set_take_fill xs cd0 k hlt
      have HS := mkHid hset
      have hkl : k < (xs.take k ++ List.replicate (xs.length - k) cd0).length := by simp; omega
      clear hset hown
      go_wp2_with (go_at_call 45; refine (toCode_any xs[k] _).mono ?_; rintro e w2 ⟨rfl, hb2⟩; have HB2 := mkHid hb2; have hsz2 := hb2.size; have HO2 := mkHid (own_cd (own_below HO.out hb2) hkl xs[k]); clear hb2; obtain ⟨⟨p0, p1, p2, p3⟩, ⟨f0, f1, f2, f3⟩, _⟩ := HO2.out)
      go_roundw
      case rel =>
        refine ⟨k + 1, by omega, by go_num, ?_, ?_⟩
        · rw [← HS.out]; exact HO2.out.2.2
        · refine below_grown (row := some w.heap.size) (HB.out.trans (HB2.out.mono hsz)) (grown_set4c (World.grownBy.refl _ _) _ _ _ _ _ _ _ _) (by simp)
      case measure => simp [intOf]; omega
    · have : k = xs.length := by omega
      subst this
      go_wp2
      go_ret
      refine ⟨_, _, rfl, by simpa using HO.out, HB.out⟩

theorem eqCode_same (a : Cd) (w : World) : Calls Try.prog 52 #[cdV a, cdV a] w fun e w' => e = .returned (.bool true) ∧ Below w.heap.size w w' :=
  (eqCode_any a a w).mono fun e w' ⟨he, hb⟩ => ⟨by rw [he]; simp, hb⟩
theorem eqCodeS_same (A B : Option Addr) (c d : Nat) (xs : List Cd) (w : World) (hl : xs.length ≤ 9223372036854775807) (hx : Sl w A (cflat xs)) (hy : Sl w B (cflat xs)) :
    Calls Try.prog 16 #[.slice A xs.length c, .slice B xs.length d] w fun e w' => e = .returned (.bool true) ∧ Below w.heap.size w w' := by
  go_enter Try.func16, Try.ntmps16
  go_wp2
  go_loopw [5] (fun i wr => ∃ k : Nat, k ≤ xs.length ∧ i = .int .i64 k ∧ Below w.heap.size w wr) (fun i _ => xs.length - (intOf i).toNat)
  case atStart => exact ⟨0, by omega, rfl, Below.refl _ _⟩
  case round =>
    obtain ⟨k, hk, rfl, hb⟩ := hrel
    have hx' := hx.below hb
    have hy' := hy.below hb
    have HB := mkHid hb
    clear hb
    by_cases hlt : k < xs.length
    · obtain ⟨b, off, rfl, h0, h1, h2, h3⟩ := hx'.cd hlt
      obtain ⟨b', off', rfl, g0, g1, g2, g3⟩ := hy'.cd hlt
      have h0 := fun u : Ext wr => u.keeps h0
      have h1 := fun u : Ext wr => u.keeps h1
      have h2 := fun u : Ext wr => u.keeps h2
      have h3 := fun u : Ext wr => u.keeps h3
      have g0 := fun u : Ext wr => u.keeps g0
      have g1 := fun u : Ext wr => u.keeps g1
      have g2 := fun u : Ext wr => u.keeps g2
      have g3 := fun u : Ext wr => u.keeps g3
      clear hx hy hx' hy'
      go_wp2
      refine wp_region_ext (by kernel_rfl) (by kernel_rfl) ?_
      repeat (go_big_quiet_step ((go_at_call 52; with_reducible exact ext_call (eqCode_same xs[k] _))))
      refine wpQuiet_nil (ext_end fun X hX => ?_)
      clear h0 h1 h2 h3 g0 g1 g2 g3
      have HX := mkHid hX
      clear hX
      go_wp2
      go_roundw
      case rel => exact ⟨k + 1, by omega, by go_num, below_then HB.out HX.out⟩
      case measure => simp [intOf]; omega
    · go_wp2
      go_ret
      exact ⟨rfl, HB.out⟩
def markCd (k : Int) (i : Nat) : Cd := ⟨k + 4 * i, k + 4 * i + 1, k + 4 * i + 1 + 1, k + 4 * i + 1 + 1 + 1⟩
def markCds (k : Int) (n : Nat) : List Cd := (List.range n).map (markCd k)
theorem markCds_length (k : Int) (n : Nat) : (markCds k n).length = n := by simp [markCds]
theorem markCds_at (k : Int) (n i : Nat) (h : i < (markCds k n).length) : (markCds k n)[i] = markCd k i := by simp [markCds]
theorem markCds_step (k : Int) (xs : List Cd) (i : Nat) (h : i < xs.length) : (markCds k i ++ xs.drop i).set i (markCd k i) = markCds k (i + 1) ++ xs.drop (i + 1) := by
  have h1 : xs.drop i = xs[i] :: xs.drop (i + 1) := List.drop_eq_getElem_cons h
  rw [h1, List.set_append_right _ _ (by simp [markCds_length])]
  have h2 : markCds k (i + 1) = markCds k i ++ [markCd k i] := by simp [markCds, List.range_succ]
  rw [markCds_length, Nat.sub_self, List.set_cons_zero, h2]
  simp only [List.append_assoc, List.singleton_append]
theorem markCodeS_any (A : Option Addr) (c : Nat) (xs : List Cd) (k0 : Int) (base : Nat) (w : World) (hk0 : 0 ≤ k0) (hk1 : k0 ≤ 4000000000000000) (hn : xs.length ≤ 2000000000)
    (hown : w.ownsRow base 69 4 (.slice A xs.length c) xs.length (cflat xs)) :
    Calls Try.prog 22 #[.slice A xs.length c, .int .i64 k0] w fun e w' =>
      e = .returned (.int .i64 (k0 + 4 * xs.length)) ∧ w'.ownsRow base 69 4 (.slice A xs.length c) xs.length (cflat (markCds k0 xs.length)) ∧ w.grownBy w' (Value.slice A xs.length c).ownBlock := by
  go_enter Try.func22, Try.ntmps22
  go_wp2
  go_loopw [1, 5] (fun kv i wr => ∃ k : Nat, k ≤ xs.length ∧ i = .int .i64 k ∧ kv = .int .i64 (k0 + 4 * k) ∧ wr.ownsRow base 69 4 (.slice A xs.length c) xs.length (cflat (markCds k0 k ++ xs.drop k)) ∧ w.grownBy wr (Value.slice A xs.length c).ownBlock) (fun _ i _ => xs.length - (intOf i).toNat)
  case atStart => exact ⟨0, by omega, rfl, by simp, by simpa [markCds] using hown, World.grownBy.refl _ _⟩
  case round =>
    obtain ⟨k, hk, rfl, rfl, hownr, hgr⟩ := hrel
    clear hown
    by_cases hlt : k < xs.length
    · have hkl : k < (markCds k0 k ++ xs.drop k).length := by simp [markCds_length]; omega
      obtain ⟨b, off, hA, _⟩ := (Sl.of_own hownr).cd hkl
      have hform := own_open hownr (i := 0) (by rw [cflat_length]; omega)
      obtain ⟨g, hA', hgb, hgs, _⟩ := hform
      subst hA'
      clear hA
      have HO := mkHid (own_cd hownr hkl (markCd k0 k))
      have HS := mkHid (markCds_step k0 xs k hlt)
      have HG := mkHid (grown_set4c hgr (k * 4) (k * 4 + 1) (k * 4 + 2) (k * 4 + 3) (.int .i64 (markCd k0 k).op) (.int .i64 (markCd k0 k).a) (.int .i64 (markCd k0 k).b) (.int .i64 (markCd k0 k).c))
      clear hownr hgr
      obtain ⟨⟨p0, p1, p2, p3⟩, ⟨f0, f1, f2, f3⟩, _⟩ := HO.out
      go_wp2
      go_roundw
      case rel =>
        refine ⟨k + 1, by omega, by go_num, by congr 1; omega, ?_, ?_⟩
        · rw [← HS.out]
          exact HO.out.2.2
        · exact HG.out
      case measure => simp [intOf]; omega
    · have : k = xs.length := by omega
      subst this
      have HO := mkHid hownr
      have HG := mkHid hgr
      clear hownr hgr
      go_wp2
      go_ret
      exact ⟨rfl, by simpa using HO.out, HG.out⟩
end Go.Proofs.Ytjmiilneennjaaa

namespace Go.Proofs.Ytjmiilneennjaaa
open Go.ChangeShapes Go.WideShapes Go.ChangeAt Go.RowKit
set_option linter.unusedVariables false

theorem own : ownKnob Try.prog.godebug = none := by kernel_rfl
theorem laidOut : laidOutB Try.prog = true := by kernel_rfl

/-- All arguments read as they did, where nothing below the heap's old size has turned. -/
theorem trodAll_below {H : Type} {enc : TypeId × Value → H} {P : Program} (hl : laidOutB P = true) {W W' : World} (hb : Below W.heap.size W W') :
    ∀ (ts : List TypeId) (vs : List Value) (ds : List (DataW H)) (ps : List MemPlace), (∀ t ∈ ts, P.readableRec t = true ∧ t < P.types.size) →
      DataW.TrodAll enc P W 0 (fun _ => true) true ts vs ds ps → (∀ x ∈ ps, x.block < W.heap.size) → DataW.TrodAll enc P W' 0 (fun b => decide (b < W.heap.size)) true ts vs ds ps
  | [], vs, ds, ps, _, h, _ => by
    obtain ⟨rfl, rfl, rfl⟩ := trodAll_nil h
    rfl
  | t :: ts, vs, ds, ps, ht, h, hlt => by
    obtain ⟨v, vs1, d, ds1, a, b, rfl, rfl, rfl, h1, h2⟩ := trodAll_cons h
    obtain ⟨ht1, ht2⟩ := ht t (List.mem_cons_self ..)
    exact ⟨a, b, Below.trod hl ht1 ht2 h1 hb (fun x hx => hlt x (List.mem_append_left _ hx)),
      trodAll_below hl hb ts vs1 ds1 b (fun t' h' => ht t' (List.mem_cons_of_mem _ h')) h2 (fun x hx => hlt x (List.mem_append_right _ hx)), rfl⟩

theorem post_true {H : Type} {enc : TypeId × Value → H} {P : Program} {f : Func} {s : ChangeSpec} {W W' : World} {args : Array Value} {ds : List (DataW H)} {p : List MemPlace} {tb : TypeId}
    (hl : laidOutB P = true) (hts : ∀ t ∈ f.params.toList, P.readableRec t = true ∧ t < P.types.size) (hres : f.resultTypes = #[tb]) (htb : P.underlying tb = some .bool)
    (hvars : s.vars = []) (hfn : s.fn H (ds ++ []) = { results := [.lit (.bool true)], args := ds, vars := [] })
    (hW : DataW.Whole enc P f.params.toList s.vars false W args.toList ds [] (p ++ []))
    (hA : DataW.TrodAll enc P W 0 (fun _ => true) true f.params.toList args.toList ds p) (hb : Below W.heap.size W W') :
    s.post enc P f false true false false W args (.bool true) W' := by
  have hlt : ∀ x ∈ p, x.block < W.heap.size := fun x hx => hW.lt x (by simpa using hx)
  refine ⟨ds, [], p ++ [], [], p, [], hW, ?_, ?_, ?_, hb.frame _, fun h => by cases h⟩
  · rw [hres, hfn]
    exact trodAll_cons_mk (shut_bool htb _) trodAll_mk0
  · rw [hfn]
    exact trodAll_below hl hb _ _ _ _ hts hA hlt
  · rw [hfn, hvars]
    rfl

/-- an argument that is a slice of ints of kind k: its value's form, and what it holds. -/
theorem open_int_slice {H : Type} {enc : TypeId × Value → H} {P : Program} {W : World} {r : Reach} {b0 base : Nat} {sp : Nat → Bool} {held : Bool} {t e : TypeId} {k : IntKind} {v : Value} {d : DataW H} {ps : List MemPlace}
    (ht : P.underlying t = some (.slice e)) (he : P.underlying e = some (.int k)) (hc : P.cellsOf e = 1) (hv : Value.okWide P W r b0 t v) (h : DataW.Trod enc P W base sp held t v d ps) :
    ∃ A c, ∃ zs : List Int, v = .slice A zs.length c ∧ zs.length ≤ 9223372036854775807 ∧ zs.length ≤ c ∧ Sl W A (zs.map (Value.int k)) ∧ ∀ z ∈ zs, (Lit.int k z).wf = true := by
  obtain ⟨a0, len, cap, rfl⟩ := okWide_slice ht hv
  obtain ⟨fuel, hf⟩ := h
  rcases open_ints ht he hc hf with ⟨hcs, hx⟩ | ⟨a, len', cap', zs, hcs, _, hl, hm, hz, hx, hcell, hwz⟩
  · simp [Value.cells] at hcs
    obtain ⟨rfl, rfl, rfl⟩ := hcs
    exact ⟨none, 0, [], rfl, by simp, by simp, Sl.nil _ _, by simp⟩
  · simp [Value.cells] at hcs
    obtain ⟨rfl, rfl, rfl⟩ := hcs
    have hle : len ≤ zs.length := by rw [hz]; split <;> omega
    have hlen : (zs.take len).length = len := by simp; omega
    refine ⟨some a, cap, zs.take len, by rw [hlen], by rw [hlen]; unfold maxLen at hm; omega, by omega, ?_, fun z hz' => hwz z (List.mem_of_mem_take hz')⟩
    by_cases h0 : len = 0
    · subst h0; exact .inl (by simp)
    · obtain ⟨b, off, spot⟩ := a
      have hspot : spot = none := by
        have := World.cell?_spot (hcell 0 (by omega))
        simpa [Addr.add] using this
      subst hspot
      refine .inr ⟨b, off, rfl, fun j u hu => ?_⟩
      have hj : j < len := by
        have := (List.getElem?_eq_some_iff.1 hu).1
        simp at this
        omega
      rw [← add_flat, hcell j (by omega), ← hu]
      simp [hj, List.getD, List.getElem?_eq_getElem (show j < zs.length by omega)]

theorem wf_i64_bounds {z : Int} (h : (Lit.int .i64 z).wf = true) : -9223372036854775808 ≤ z ∧ z ≤ 9223372036854775807 := by
  simpa [Lit.wf, IntKind.min, IntKind.max, IntKind.signed, IntKind.bits] using h
theorem wf_u8_bounds {z : Int} (h : (Lit.int .u8 z).wf = true) : 0 ≤ z ∧ z ≤ 255 := by
  simpa [Lit.wf, IntKind.min, IntKind.max, IntKind.signed, IntKind.bits] using h
end Go.Proofs.Ytjmiilneennjaaa

namespace Go.Proofs.Ytjmiilneennjaaa
open Go.ChangeShapes Go.WideShapes Go.ChangeAt Go.RowKit Go.Deep
set_option maxRecDepth 100000
set_option linter.unusedVariables false

theorem open_codes {H : Type} {enc : TypeId × Value → H} {W : World} {r : Reach} {b0 base : Nat} {sp : Nat → Bool} {held : Bool} {v : Value} {d : DataW H} {ps : List MemPlace}
    (hv : Value.okWide Try.prog W r b0 26 v) (h : DataW.Trod enc Try.prog W base sp held 26 v d ps) :
    ∃ x : Option Addr × Nat × List Cd, ∃ _ : x.2.2.length ≤ 9223372036854775807, v = .slice x.1 x.2.2.length x.2.1 ∧ Sl W x.1 (cflat x.2.2) := by
  obtain ⟨a0, len, cap, rfl⟩ := okWide_slice Try.underlying26 hv
  obtain ⟨fuel, hf⟩ := h
  rcases open_slice Try.underlying26 hf with ⟨hcs, hx⟩ | ⟨a, len', cap', m, n, D, Pl, hcs, hb, hl, hm, hmm, hx, hi⟩
  · simp [Value.cells] at hcs
    obtain ⟨rfl, rfl, rfl⟩ := hcs
    exact ⟨(none, 0, []), by simp, rfl, Sl.nil _ _⟩
  · simp [Value.cells] at hcs
    obtain ⟨rfl, rfl, rfl⟩ := hcs
    have hC : Try.prog.cellsOf 71 = 4 := by kernel_rfl
    rw [hC] at hi
    have each : ∀ i, i < len → ∃ x : Cd, ∀ j u, (cdCells x)[j]? = some u → W.cell? (a.add (i * 4 + j)) = some u := fun i hil => by
      obtain ⟨cs, hcells, ht⟩ := hi i (by rw [hmm]; split <;> omega)
      obtain ⟨ys, n', _, _, hlen, hyl, hfld⟩ := DataW.trod_struct Try.underlying71 ht
      obtain ⟨_, hcl, hat⟩ := World.cells?_some hcells
      match cs, hcl with
      | [c0, c1, c2, c3], _ =>
        match ys, hyl with
        | [y0, y1, y2, y3], _ =>
          have k1 : Try.prog.cellsOf 3 = 1 := by kernel_rfl
          have f0 := hfld 0 _ rfl
          have f1 := hfld 1 _ rfl
          have f2 := hfld 2 _ rfl
          have f3 := hfld 3 _ rfl
          simp [k1] at f0 f1 f2 f3
          obtain ⟨z0, e0, _, _⟩ := DataW.trod_int Try.underlying3 f0
          obtain ⟨z1, e1, _, _⟩ := DataW.trod_int Try.underlying3 f1
          obtain ⟨z2, e2, _, _⟩ := DataW.trod_int Try.underlying3 f2
          obtain ⟨z3, e3, _, _⟩ := DataW.trod_int Try.underlying3 f3
          simp only [List.cons.injEq, and_true] at e0 e1 e2 e3
          subst e0 e1 e2 e3
          refine ⟨⟨z0, z1, z2, z3⟩, fun j u hu => ?_⟩
          have hj : j < 4 := by have := (List.getElem?_eq_some_iff.1 hu).1; simpa [cdCells] using this
          have := hat j hj
          rw [add_add] at this
          rw [this]
          exact hu
    have hch : ∃ xs : List Cd, xs.length = len ∧ ∀ i, (hi : i < xs.length) → ∀ j u, (cdCells xs[i])[j]? = some u → W.cell? (a.add (i * 4 + j)) = some u := by
      clear hf hx hi hmm hl hv
      induction len with
      | zero => exact ⟨[], rfl, fun i hi => by simp at hi⟩
      | succ len ih =>
        obtain ⟨xs, hxl, hxs⟩ := ih (fun i hi => each i (by omega))
        obtain ⟨x, hx⟩ := each len (by omega)
        refine ⟨xs ++ [x], by simp [hxl], fun i hi j u hu => ?_⟩
        by_cases h : i < xs.length
        · rw [List.getElem_append_left h] at hu
          exact hxs i h j u hu
        · have : i = len := by simp [hxl] at hi; omega
          subst this
          rw [List.getElem_append_right (by omega)] at hu
          simp at hu
          exact hx j u hu
    obtain ⟨xs, rfl, hxs⟩ := hch
    have hlen : xs.length ≤ 9223372036854775807 := by unfold maxLen at hm; omega
    refine ⟨(some a, cap, xs), hlen, rfl, ?_⟩
    by_cases h0 : xs.length = 0
    · rw [List.eq_nil_of_length_eq_zero h0]; exact Sl.nil _ _
    · obtain ⟨b, off, spot⟩ := a
      have hspot : spot = none := by
        have := World.cell?_spot (hxs 0 (by omega) 0 _ rfl)
        simpa [Addr.add] using this
      subst hspot
      refine .inr ⟨b, off, rfl, fun j u hu => ?_⟩
      have hj : j < xs.length * 4 := by
        have := (List.getElem?_eq_some_iff.1 hu).1
        rwa [cflat_length] at this
      have h1 := cflat_at xs (j / 4) (j % 4) (by omega) (Nat.mod_lt _ (by omega))
      rw [show j / 4 * 4 + j % 4 = j from by omega] at h1
      rw [h1] at hu
      have := hxs (j / 4) (by omega) (j % 4) u hu
      rw [show j / 4 * 4 + j % 4 = j from by omega] at this
      rw [← add_flat]
      exact this
end Go.Proofs.Ytjmiilneennjaaa

namespace Go.Proofs.Ytjmiilneennjaaa
open Go.RowKit
set_option maxHeartbeats 400000
set_option linter.unusedVariables false

theorem ints_zeros (n : Nat) : (madeCells (Value.int .i64 0).cells (n * 1)).toList = ints (List.replicate n 0) := by
  apply List.ext_getElem?
  intro i
  by_cases h : i < n
  · simp [madeCells, h, Value.cells, ints, Nat.mod_one]
  · rw [List.getElem?_eq_none (by simp [madeCells]; omega), List.getElem?_eq_none (by simp [ints]; omega)]
theorem toIntS_any (A : Option Addr) (c : Nat) (zs : List Int) (w : World) (hl : zs.length ≤ 1048576) (hs : Sl w A (ints zs)) :
    Calls Try.prog 44 #[.slice A zs.length c] w (RetInts zs w) := by
  obtain ⟨i0, hi0, hz0, hz1, hz2⟩ := info_parts Ei.hi
  go_enter Try.func44, Try.ntmps44
  go_wp2_with (at_make; refine wpList_make_full _ rfl _ _ _ rfl w.heap.size _ i0 _ 1 Ei.ht hi0 hz0 hz1 _ _ _ _ zs.length rfl rfl rfl rfl (by rw [hz2]; omega) (by simp only [maxLen]; omega) (Nat.le_refl _) ?_; intro w1 hown1 hg1; have HO := mkHid hown1; have HG := mkHid hg1; clear hown1 hg1)
  go_loopw [4] (fun i wr => ∃ k : Nat, k ≤ zs.length ∧ i = .int .i64 k ∧ wr.ownsRow w.heap.size 3 1 (.slice (some ⟨w.heap.size, 0, none⟩) zs.length zs.length) zs.length (ints (zs.take k ++ List.replicate (zs.length - k) 0)) ∧ Below w.heap.size w wr) (fun i _ => zs.length - (intOf i).toNat)
  case atStart =>
    refine ⟨0, by omega, rfl, ?_, (Below.refl _ _).grown HG.out (Nat.le_refl _) (by simp)⟩
    have := HO.out
    rw [ints_zeros] at this
    simpa using this
  case round =>
    obtain ⟨k, hk, rfl, hown, hb⟩ := hrel
    have hs' := hs.below hb
    have HB := mkHid hb
    have hsz := hb.size
    clear hb
    by_cases hlt : k < zs.length
    · obtain ⟨b, off, rfl, hc⟩ := hs'.at_ (k := k) (by simpa using hlt)
      have h1 : wr.cell? ⟨b, off + k, none⟩ = some (.int .i64 zs[k]) := hc k _ (ints_at hlt)
      obtain ⟨g, hg, hgb, hgs, hcell, hfr, hst⟩ := own_open hown (i := k) (by simp; omega)
      injection hg with hg
      injection hg with hg
      subst hg
      have HS := mkHid (hst (.int .i64 zs[k]))
      have HE := mkHid (set_take_fill zs 0 k hlt)
      have HG := mkHid (grown_setCell' (World.grownBy.refl wr (some w.heap.size)) k (.int .i64 zs[k]))
      clear hst hown hc hs hs'
      go_wp2_with fail
      go_roundw
      case rel =>
        refine ⟨k + 1, by omega, by go_num, ?_, below_grown HB.out HG.out (by simp)⟩
        rw [← HE.out]
        have := HS.out
        simpa [ints] using this
      case measure => simp [intOf]; omega
    · have : k = zs.length := by omega
      subst this
      go_wp2_with fail
      go_ret
      refine ⟨_, _, rfl, by simpa using hown, HB.out⟩
end Go.Proofs.Ytjmiilneennjaaa

namespace Go.Proofs.Ytjmiilneennjaaa
open Go.RowKit

theorem own_some {w : World} {base : Nat} {e : TypeId} {size n : Nat} {v : Value} {xs : List Value} (h : w.ownsRow base e size v n xs) (hne : v ≠ .slice none 0 0) : ∃ g c, v = .slice (some ⟨g, 0, none⟩) n c := by
  rcases h.2 with ⟨rfl, _⟩ | ⟨g, cap, cur, rfl, _⟩
  · exact absurd rfl hne
  · exact ⟨g, cap, rfl⟩

theorem wpList_appS {P : Program} {w : World} {ops : Array Oper} {rest : List Oper} {o : Oper} {a : Act} {Q : Exit → Act → World → Prop} {t e : TypeId} {z : Value} {size bytes : Nat} (I : ElemI P t e z size bytes)
    {base g0 n c0 : Nat} {xs : List Value} (hown : w.ownsRow base e size (.slice (some ⟨g0, 0, none⟩) n c0) n xs)
    {ad : Addr} {m c : Nat} {news : List Value} (hnews : ∀ j u, news[j]? = some u → w.cell? (ad.add j) = some u) (hl : news.length = m * size) (h1 : ∀ u ∈ news, u.oneCell' = true)
    (hbytes : (n + m) * bytes ≤ 140737488355328) (h63 : n + m ≤ 9223372036854775807) (hbase : base ≤ w.heap.size)
    {s x : Operand} (hgd : o.guard = none) (ho : o.op = .call { callee := .builtin .append, args := #[s, x], argTypes := #[t, t] }) (hs : a.eval s = .slice (some ⟨g0, 0, none⟩) n c0) (hx : a.eval x = .slice (some ad) m c)
    (h : ∀ g' c' w', w'.ownsRow base e size (.slice (some ⟨g', 0, none⟩) (n + m) c') (n + m) (xs ++ news) → w.grownBy w' (some g0) → wpList P ops Q rest (a.put o.dst (.slice (some ⟨g', 0, none⟩) (n + m) c')) w') : wpList P ops Q (o :: rest) a w := by
  obtain ⟨i, hi, hz0, hz1, hz2⟩ := info_parts I.hi
  refine wpList_append_own w hgd s x t ho base e i z size bytes I.ht hi hz0 hz1 hz2 I.hz I.hs _ n xs hs hown ad m c news hx hl hnews h1 (by simp only [maxLen]; omega) hbytes hbase ?_
  intro v' w' hown' hg hn
  obtain ⟨g, c', rfl⟩ := own_some hown' (fun e => by have := hn.1 e; simp at this)
  exact h g c' w' hown' hg

theorem step_appS {P : Program} {w : World} {ops : Array Oper} {o : Oper} {a : Act} {K : Act → World → Prop} {Q : Exit → Act → World → Prop} {E : Prop} {t e : TypeId} {z : Value} {size bytes : Nat} (I : ElemI P t e z size bytes)
    {base g0 n c0 : Nat} {xs : List Value} (hown : w.ownsRow base e size (.slice (some ⟨g0, 0, none⟩) n c0) n xs)
    {ad : Addr} {m c : Nat} {news : List Value} (hnews : ∀ j u, news[j]? = some u → w.cell? (ad.add j) = some u) (hl : news.length = m * size) (h1 : ∀ u ∈ news, u.oneCell' = true)
    (hbytes : (n + m) * bytes ≤ 140737488355328) (h63 : n + m ≤ 9223372036854775807) (hbase : base ≤ w.heap.size)
    {s x : Operand} (hgd : o.guard = none) (ho : o.op = .call { callee := .builtin .append, args := #[s, x], argTypes := #[t, t] }) (hs : a.eval s = .slice (some ⟨g0, 0, none⟩) n c0) (hx : a.eval x = .slice (some ad) m c)
    (h : ∀ g' c' w', w'.ownsRow base e size (.slice (some ⟨g', 0, none⟩) (n + m) c') (n + m) (xs ++ news) → w.grownBy w' (some g0) → K (a.put o.dst (.slice (some ⟨g', 0, none⟩) (n + m) c')) w') :
    if Region.wanted o (yielded ops a.tmps) = true then Oper.wp P o a w K Q else E := by
  obtain ⟨i, hi, hz0, hz1, hz2⟩ := info_parts I.hi
  have hw : Region.wanted o (yielded ops a.tmps) = true := by simp [Region.wanted, hgd]
  rw [if_pos hw]
  obtain ⟨v', w', hrun, hown', hg, hn⟩ := run_append_own (P := P) (w := w) base t o.type e i z size bytes I.ht hi hz0 hz1 hz2 I.hz I.hs _ n xs hown ad m c news hl hnews h1 (by simp only [maxLen]; omega) hbytes hbase
  obtain ⟨g, c', rfl⟩ := own_some hown' (fun e => by have := hn.1 e; simp at this)
  unfold Oper.wp
  simp [execOp, ho, resolve, invoke, builtin, hs, hx, hrun, Result.andThen]
  exact h g c' w' hown' hg
end Go.Proofs.Ytjmiilneennjaaa

namespace Go.Proofs.Ytjmiilneennjaaa
open Go.RowKit
set_option linter.unusedVariables false

/-- the worlds that have only drawn. -/
def Drew (w : World) : Type := { u : World // ∃ n, u = w.drewN n }
instance drewNonempty (w : World) : Nonempty (Drew w) := ⟨⟨w, 0, rfl⟩⟩
theorem Drew.keeps {w : World} (u : Drew w) {p : Addr} {v : Value} (h : w.cell? p = some v) : u.1.cell? p = some v := by
  obtain ⟨n, hn⟩ := u.2; rw [hn]; exact h
theorem Drew.sl {w : World} (u : Drew w) {A : Option Addr} {xs : List Value} (h : Sl w A xs) : Sl u.1 A xs := by
  obtain ⟨n, hn⟩ := u.2; rw [hn]; exact h
theorem wp_region_drew {P : Program} {id : Nat} {Q : Exit → Act → World → Prop} {a : Act} {w : World} {l : List Oper} (hm : P.follows .mixedOrders = true) (hB : Region.lexB .any l.toArray = true)
    (h : wpQuiet P l.toArray (fun w' => ∃ u : Drew w, w' = u.1) (fun a' => ∀ w', (∃ u : Drew w, w' = u.1) → Q .normal a' w') l a) : (Code.region id l.toArray true).wp P Q a w :=
  wp_region_quiet (C := fun w' => ∃ u : Drew w, w' = u.1) hm hB ⟨⟨{ w with drawn := w.drawn + 1 }, ⟨1, rfl⟩⟩, rfl⟩ (by simpa using h)
theorem drew_call {P : Program} {f : FuncId} {args : Array Value} {w : World} {u : Drew w} {v : Value} (h : Calls P f args u.1 fun e w' => e = .returned v ∧ ∃ k, w' = u.1.drewN k) :
    Calls P f args u.1 fun e w' => e = .returned v ∧ ∃ u' : Drew w, w' = u'.1 :=
  h.mono fun e w' ⟨he, k, hk⟩ => ⟨he, ⟨w', by obtain ⟨n, hn⟩ := u.2; exact ⟨n + k, by rw [hk, hn, World.drewN_drewN]⟩⟩, rfl⟩
theorem drew_end {w : World} {Q : World → Prop} (h : ∀ X n, X = w.drewN n → Q X) : ∀ w', (∃ u : Drew w, w' = u.1) → Q w' := by
  rintro _ ⟨u, rfl⟩
  obtain ⟨n, hn⟩ := u.2
  exact h u.1 n hn

end Go.Proofs.Ytjmiilneennjaaa

namespace Go.Proofs.Ytjmiilneennjaaa
open Go.RowKit
set_option maxHeartbeats 1000000
set_option linter.unusedVariables false

theorem own_typesA {w : World} {b1 b2 s1 s2 g n m : Nat} {e1 e2 : TypeId} {v1 v2 : Value} {xs ys : List Value} (h : w.ownsRow b1 e1 s1 v1 n xs) (k : w.ownsRow b2 e2 s2 v2 m ys) (hne : e1 ≠ e2) (h1 : v1.ownBlock = some g) : v2.ownBlock ≠ some g := fun h2 => by
  rcases h.2 with ⟨h5, _⟩ | ⟨g', cap', cur', h5, _, h6, _⟩
  · rw [h5] at h1; cases h1
  · rcases k.2 with ⟨h7, _⟩ | ⟨g'', cap'', cur'', h7, _, h8, _⟩
    · rw [h7] at h2; cases h2
    · rw [h5] at h1
      rw [h7] at h2
      have e1 : g' = g := by simpa [Value.ownBlock] using h1
      have e2 : g'' = g := by simpa [Value.ownBlock] using h2
      subst e1 e2
      rw [h6] at h8
      simp only [Option.some.injEq, Obj.cells.injEq] at h8
      exact hne h8.2.1
theorem own_ne_heapA {w : World} {b s n C : Nat} {e ty : TypeId} {v : Value} {xs : List Value} {cs : Array Value} {fr : Nat × Nat} (h : w.ownsRow b e s v n xs) (hq : w.heap[C]? = some (.cells cs ty fr)) (hne : e ≠ ty) : v.ownBlock ≠ some C := fun hv => by
  rcases h.2 with ⟨h1, _⟩ | ⟨g, cap, cur, h1, _, h2, _⟩
  · rw [h1] at hv; cases hv
  · rw [h1] at hv
    have e1 : g = C := by simpa [Value.ownBlock] using hv
    subst e1
    rw [h2] at hq
    simp only [Option.some.injEq, Obj.cells.injEq] at hq
    exact hne hq.2.1
/-- an owned row's block has the row's type. -/
theorem own_heapA {w : World} {b s n g : Nat} {e : TypeId} {v : Value} {xs : List Value} (h : w.ownsRow b e s v n xs) (hv : v.ownBlock = some g) : ∃ cs, w.heap[g]? = some (.cells cs e (0, 0)) := by
  rcases h.2 with ⟨h1, _⟩ | ⟨g', cap, cur, h1, _, h2, _⟩
  · rw [h1] at hv; cases hv
  · rw [h1] at hv
    have e1 : g' = g := by simpa [Value.ownBlock] using hv
    subst e1
    exact ⟨cur, h2⟩
/-! ### rows -/
structure IR where
  a : Option Addr
  c : Nat
  zs : List Int
abbrev irV (r : IR) : Value := .slice r.a r.zs.length r.c
def Apt (w : World) (lo : Nat) (rs : List IR) : Prop :=
  (∀ r ∈ rs, w.ownsRow lo 3 1 (irV r) r.zs.length (ints r.zs)) ∧ ∀ i j (hi : i < rs.length) (hj : j < rs.length), i ≠ j → ∀ g, (irV rs[i]).ownBlock = some g → (irV rs[j]).ownBlock ≠ some g
theorem Apt.nil (w : World) (lo : Nat) : Apt w lo [] := ⟨fun r hr => absurd hr (by simp), fun i j hi => absurd hi (by simp)⟩
theorem Apt.at_ {w : World} {lo : Nat} {rs : List IR} (h : Apt w lo rs) {i : Nat} (hi : i < rs.length) : w.ownsRow lo 3 1 (irV rs[i]) rs[i].zs.length (ints rs[i].zs) := h.1 _ (List.getElem_mem hi)
theorem Apt.kept {w w' : World} {lo : Nat} {rs : List IR} {row : Option Nat} (h : Apt w lo rs) (hg : w.grownBy w' row) (hne : ∀ r ∈ rs, ∀ g, (irV r).ownBlock = some g → row ≠ some g) : Apt w' lo rs :=
  ⟨fun r hr => own_grown' (h.1 r hr) hg (fun g e1 e2 => hne r hr g e1 e2), h.2⟩
theorem Apt.below {w w' : World} {lo : Nat} {rs : List IR} (h : Apt w lo rs) (hb : Below w.heap.size w w') : Apt w' lo rs :=
  ⟨fun r hr => own_below (h.1 r hr) hb, h.2⟩
theorem Apt.old {w w' : World} {lo : Nat} {rs : List IR} {row : Option Nat} (h : Apt w lo rs) (hg : w.grownBy w' row) (hr : ∀ g, row = some g → g < lo) : Apt w' lo rs :=
  h.kept hg fun r hr' g e1 e2 => by have h1 := (h.1 r hr').lt g e1; have := hr g e2; omega
theorem Apt.lower {w : World} {lo lo' : Nat} {rs : List IR} (h : Apt w lo rs) (hl : lo' ≤ lo) : Apt w lo' rs := ⟨fun r hr => own_base (h.1 r hr) hl, h.2⟩
/-- where a block of another type has turned. -/
theorem Apt.other {w w' : World} {lo g : Nat} {rs : List IR} (h : Apt w lo rs) (hg : w.grownBy w' (some g)) {cs : Array Value} {ty : TypeId} {fr : Nat × Nat} (hq : w.heap[g]? = some (.cells cs ty fr)) (hty : 3 ≠ ty) : Apt w' lo rs :=
  h.kept hg fun r hr g' e1 e2 => by injection e2 with e2; subst e2; exact own_ne_heapA (h.1 r hr) hq hty e1
theorem Apt.set {w w' : World} {lo t : Nat} {rs : List IR} (h : Apt w lo rs) (ht : t < rs.length) (r : IR) (hg : w.grownBy w' (irV rs[t]).ownBlock) (hr : w'.ownsRow lo 3 1 (irV r) r.zs.length (ints r.zs))
    (hb : ∀ g, (irV r).ownBlock = some g → (irV rs[t]).ownBlock = some g ∨ w.heap.size ≤ g) : Apt w' lo (rs.set t r) := by
  refine ⟨fun s hs => ?_, fun i j hi hj hne g h1 h2 => ?_⟩
  · obtain ⟨i, hi, rfl⟩ := List.mem_iff_getElem.1 hs
    rw [List.length_set] at hi
    rw [List.getElem_set]
    split
    · exact hr
    · rename_i hne
      exact own_grown' (h.1 _ (List.getElem_mem hi)) hg (fun g e1 e2 => h.2 i t hi ht (fun e => hne e.symm) g e1 e2)
  · rw [List.length_set] at hi hj
    have hlt : ∀ k (hk : k < rs.length) g, (irV rs[k]).ownBlock = some g → g < w.heap.size := fun k hk g e => ((h.1 _ (List.getElem_mem hk)).lt g e).2
    rw [List.getElem_set] at h1 h2
    by_cases e1 : t = i
    · by_cases e2 : t = j
      · omega
      · rw [if_pos e1] at h1
        rw [if_neg e2] at h2
        rcases hb g h1 with h3 | h3
        · exact h.2 t j ht hj e2 g h3 h2
        · have := hlt j hj g h2; omega
    · rw [if_neg e1] at h1
      by_cases e2 : t = j
      · rw [if_pos e2] at h2
        rcases hb g h2 with h3 | h3
        · exact h.2 t i ht hi e1 g h3 h1
        · have := hlt i hi g h1; omega
      · rw [if_neg e2] at h2
        exact h.2 i j hi hj hne g h1 h2
/-- one more row, younger than all others. -/
theorem Apt.snoc {w w' : World} {lo : Nat} {rs : List IR} (h : Apt w lo rs) (hb : Below w.heap.size w w') (hlo : lo ≤ w.heap.size) (r : IR) (hl : w'.ownsRow w.heap.size 3 1 (irV r) r.zs.length (ints r.zs)) : Apt w' lo (rs ++ [r]) := by
  have hlt : ∀ k (hk : k < rs.length) g, (irV rs[k]).ownBlock = some g → g < w.heap.size := fun k hk g e => ((h.1 _ (List.getElem_mem hk)).lt g e).2
  refine ⟨fun s hs => ?_, fun i j hi hj hne g h1 h2 => ?_⟩
  · rcases List.mem_append.1 hs with h1 | h1
    · exact own_below (h.1 s h1) hb
    · rw [List.mem_singleton] at h1
      subst h1
      exact own_base hl hlo
  · rw [List.length_append, List.length_singleton] at hi hj
    rw [List.getElem_append] at h1 h2
    split at h1
    · split at h2
      · exact h.2 i j (by assumption) (by assumption) hne g h1 h2
      · have h3 := hlt i (by assumption) g h1
        rw [List.getElem_singleton] at h2
        have h4 := (hl.lt g h2).1
        omega
    · split at h2
      · have h3 := hlt j (by assumption) g h2
        rw [List.getElem_singleton] at h1
        have h4 := (hl.lt g h1).1
        omega
      · omega
/-- a part of the rows, in whatever order. -/
theorem Apt.sub {w : World} {lo : Nat} {rs qs : List IR} (h : Apt w lo rs) (f : Nat → Nat) (hf : ∀ i, i < qs.length → f i < rs.length ∧ rs[f i]? = qs[i]?) (hinj : ∀ i j, i < qs.length → j < qs.length → f i = f j → i = j) : Apt w lo qs := by
  have key : ∀ i (hi : i < qs.length), ∃ h : f i < rs.length, rs[f i] = qs[i] := fun i hi => by
    obtain ⟨h1, h2⟩ := hf i hi
    rw [List.getElem?_eq_getElem h1, List.getElem?_eq_getElem hi] at h2
    exact ⟨h1, Option.some.inj h2⟩
  refine ⟨fun r hr => ?_, fun i j hi hj hne g h1 h2 => ?_⟩
  · obtain ⟨i, hi, rfl⟩ := List.mem_iff_getElem.1 hr
    obtain ⟨h1, h2⟩ := key i hi
    rw [← h2]
    exact h.1 _ (List.getElem_mem h1)
  · obtain ⟨a1, a2⟩ := key i hi
    obtain ⟨b1, b2⟩ := key j hj
    rw [← a2] at h1
    rw [← b2] at h2
    exact h.2 (f i) (f j) a1 b1 (fun e => hne (hinj i j hi hj e)) g h1 h2
/-! ### lanes -/
structure Lt where
  ra : Option Addr
  rc : Nat
  zs : List Int
  at_ : Int
  ta : Option Addr
  tc : Nat
  ts : List Int
  wt : Bool
abbrev ltR (l : Lt) : Value := .slice l.ra l.zs.length l.rc
abbrev ltT (l : Lt) : Value := .slice l.ta l.ts.length l.tc
abbrev ltCells (l : Lt) : List Value := [ltR l, .int .i64 l.at_, ltT l, .bool l.wt]
abbrev ltV (l : Lt) : Value := .agg #[.slice l.ra l.zs.length l.rc, .int .i64 l.at_, .slice l.ta l.ts.length l.tc, .bool l.wt]
def tflat (xs : List Lt) : List Value := xs.flatMap ltCells
theorem tflat_nil : tflat [] = [] := rfl
theorem tflat_cons (a : Lt) (xs : List Lt) : tflat (a :: xs) = ltCells a ++ tflat xs := by simp [tflat]
theorem tflat_append (xs ys : List Lt) : tflat (xs ++ ys) = tflat xs ++ tflat ys := by simp [tflat]
theorem tflat_length (xs : List Lt) : (tflat xs).length = xs.length * 4 := by
  induction xs with
  | nil => rfl
  | cons a xs ih => rw [tflat_cons, List.length_append, ih]; simp [ltCells]; omega
theorem tflat_at (xs : List Lt) (k j : Nat) (hk : k < xs.length) (hj : j < 4) : (tflat xs)[k * 4 + j]? = (ltCells xs[k])[j]? := by
  induction xs generalizing k with
  | nil => simp at hk
  | cons a xs ih =>
    rw [tflat_cons]
    cases k with
    | zero => simp only [Nat.zero_mul, Nat.zero_add]; rw [List.getElem?_append_left (by simp [ltCells]; omega)]; rfl
    | succ k =>
      rw [List.getElem?_append_right (by simp [ltCells]; omega)]
      have : (k + 1) * 4 + j - (ltCells a).length = k * 4 + j := by simp [ltCells]; omega
      rw [this, ih k (by simpa using hk)]
      rfl
theorem Sl.lt {w : World} {A : Option Addr} {xs : List Lt} (h : Sl w A (tflat xs)) {k : Nat} (hk : k < xs.length) :
    ∃ b off, A = some ⟨b, off, none⟩ ∧ w.cell? ⟨b, off + k * 4, none⟩ = some (.slice xs[k].ra xs[k].zs.length xs[k].rc) ∧ w.cell? ⟨b, off + k * 4 + 1, none⟩ = some (.int .i64 xs[k].at_) ∧
      w.cell? ⟨b, off + k * 4 + 2, none⟩ = some (.slice xs[k].ta xs[k].ts.length xs[k].tc) ∧ w.cell? ⟨b, off + k * 4 + 3, none⟩ = some (.bool xs[k].wt) := by
  obtain ⟨b, off, rfl, hc⟩ := h.at_ (k := k * 4) (by rw [tflat_length]; omega)
  refine ⟨b, off, rfl, ?_, ?_, ?_, ?_⟩
  · have := hc (k * 4) _ (tflat_at xs k 0 hk (by omega)); simpa [Nat.add_assoc] using this
  · have := hc (k * 4 + 1) _ (tflat_at xs k 1 hk (by omega)); simpa [Nat.add_assoc] using this
  · have := hc (k * 4 + 2) _ (tflat_at xs k 2 hk (by omega)); simpa [Nat.add_assoc] using this
  · have := hc (k * 4 + 3) _ (tflat_at xs k 3 hk (by omega)); simpa [Nat.add_assoc] using this
theorem tflat_one (xs : List Lt) : ∀ u ∈ tflat xs, u.oneCell' = true := by
  intro u hu
  simp only [tflat, List.mem_flatMap] at hu
  obtain ⟨a, _, h⟩ := hu
  simp only [ltCells, List.mem_cons, List.not_mem_nil, or_false] at h
  rcases h with rfl | rfl | rfl | rfl <;> rfl
theorem Elt : ElemI Try.prog 30 52 (.agg #[.slice none 0 0, .int .i64 0, .slice none 0 0, .bool false]) 4 64 := ⟨Try.underlying30, by kernel_rfl, rfl, by omega⟩
/-- a lane's cells are stored one by one. -/
theorem tflat_set (ys : List Lt) (k : Nat) (a : Lt) (hk : k < ys.length) :
    ((((tflat ys).set (k * 4) (ltR a)).set (k * 4 + 1) (.int .i64 a.at_)).set (k * 4 + 2) (ltT a)).set (k * 4 + 3) (.bool a.wt) = tflat (ys.set k a) := by
  apply List.ext_getElem?
  intro i
  simp only [List.getElem?_set, List.length_set, tflat_length]
  by_cases h : i < ys.length * 4
  · have h1 := tflat_at (ys.set k a) (i / 4) (i % 4) (by simp; omega) (Nat.mod_lt _ (by omega))
    have h0 := tflat_at ys (i / 4) (i % 4) (by omega) (Nat.mod_lt _ (by omega))
    rw [show i / 4 * 4 + i % 4 = i from by omega] at h1 h0
    rw [h1, h0]
    have h2 : i % 4 = 0 ∨ i % 4 = 1 ∨ i % 4 = 2 ∨ i % 4 = 3 := by omega
    by_cases hi : k = i / 4
    · subst hi
      have hs : (ys.set (i / 4) a)[i / 4]'(by simp; omega) = a := by simp
      rw [hs]
      rcases h2 with h2 | h2 | h2 | h2
      · rw [if_neg (by omega), if_neg (by omega), if_neg (by omega), if_pos (by omega), h2]; simp [ltCells]; omega
      · rw [if_neg (by omega), if_neg (by omega), if_pos (by omega), h2]; simp [ltCells]; omega
      · rw [if_neg (by omega), if_pos (by omega), h2]; simp [ltCells]; omega
      · rw [if_pos (by omega), h2]; simp [ltCells]; omega
    · have hs : (ys.set k a)[i / 4]'(by simp; omega) = ys[i / 4]'(by omega) := by rw [List.getElem_set_ne hi]
      rw [hs, if_neg (by omega), if_neg (by omega), if_neg (by omega), if_neg (by omega)]
  · rw [if_neg (by omega), if_neg (by omega), if_neg (by omega), if_neg (by omega), List.getElem?_eq_none (by rw [tflat_length]; omega), List.getElem?_eq_none (by rw [tflat_length]; simp; omega)]
/-- the lanes lie in w. -/
def TGrid (w : World) (A : Option Addr) (ls : List Lt) : Prop :=
  Sl w A (tflat ls) ∧ ∀ l ∈ ls, (Sl w l.ra (ints l.zs) ∧ l.zs.length ≤ 9223372036854775807) ∧ (Sl w l.ta (ints l.ts) ∧ l.ts.length ≤ 9223372036854775807)
theorem TGrid.below {w w' : World} {A : Option Addr} {ls : List Lt} (h : TGrid w A ls) (hb : Below w.heap.size w w') : TGrid w' A ls :=
  ⟨h.1.below hb, fun l hl => ⟨⟨(h.2 l hl).1.1.below hb, (h.2 l hl).1.2⟩, ⟨(h.2 l hl).2.1.below hb, (h.2 l hl).2.2⟩⟩⟩
/-- what a lane is, wherever it lies. -/
structure LS where
  regs : List Int
  pc : Int
  turns : List Int
  wait : Bool
deriving DecidableEq
abbrev Lt.st (l : Lt) : LS := ⟨l.zs, l.at_, l.ts, l.wt⟩
abbrev sts (ls : List Lt) : List LS := ls.map Lt.st
/-! ### crowds -/
abbrev irR (l : Lt) : IR := ⟨l.ra, l.rc, l.zs⟩
abbrev irT (l : Lt) : IR := ⟨l.ta, l.tc, l.ts⟩
def rowsL : List Lt → List IR
  | [] => []
  | l :: ls => irR l :: irT l :: rowsL ls
theorem rowsL_len (ls : List Lt) : (rowsL ls).length = 2 * ls.length := by
  induction ls with
  | nil => rfl
  | cons l ls ih => simp only [rowsL, List.length_cons, ih]; omega
theorem rowsL_append (ls ms : List Lt) : rowsL (ls ++ ms) = rowsL ls ++ rowsL ms := by
  induction ls with
  | nil => rfl
  | cons l ls ih => simp only [rowsL, List.cons_append, ih]
theorem rowsL_r (ls : List Lt) (k : Nat) (hk : k < ls.length) : (rowsL ls)[2 * k]'(by rw [rowsL_len]; omega) = irR ls[k] := by
  induction ls generalizing k with
  | nil => simp at hk
  | cons l ls ih =>
    cases k with
    | zero => rfl
    | succ k => exact ih k (by simpa using hk)
theorem rowsL_t (ls : List Lt) (k : Nat) (hk : k < ls.length) : (rowsL ls)[2 * k + 1]'(by rw [rowsL_len]; omega) = irT ls[k] := by
  induction ls generalizing k with
  | nil => simp at hk
  | cons l ls ih =>
    cases k with
    | zero => rfl
    | succ k => exact ih k (by simpa using hk)
theorem rowsL_set (ls : List Lt) (k : Nat) (l : Lt) (hk : k < ls.length) : rowsL (ls.set k l) = ((rowsL ls).set (2 * k) (irR l)).set (2 * k + 1) (irT l) := by
  induction ls generalizing k with
  | nil => simp at hk
  | cons a ls ih =>
    cases k with
    | zero => rfl
    | succ k =>
      rw [List.set_cons_succ, show 2 * (k + 1) = 2 * k + 1 + 1 from by omega]
      simp only [rowsL, List.set_cons_succ]
      rw [ih k (by simpa using hk)]
/-- a crowd in memory of one's own, from base on: the lanes' row, their registers and turns, and the memory, all apart. -/
def CrAt (w : World) (base : Nat) (A : Option Addr) (c : Nat) (ls : List Lt) (m : IR) : Prop :=
  w.ownsRow base 52 4 (.slice A ls.length c) ls.length (tflat ls) ∧ Apt w base (m :: rowsL ls)
section
variable {w w' : World} {base c : Nat} {A : Option Addr} {ls : List Lt} {m : IR}
theorem CrAt.below (h : CrAt w base A c ls m) (hb : Below w.heap.size w w') : CrAt w' base A c ls m := ⟨own_below h.1 hb, h.2.below hb⟩
theorem CrAt.lower {lo : Nat} (h : CrAt w base A c ls m) (hl : lo ≤ base) : CrAt w lo A c ls m := ⟨own_base h.1 hl, h.2.lower hl⟩
theorem CrAt.old {row : Option Nat} (h : CrAt w base A c ls m) (hg : w.grownBy w' row) (hr : ∀ g, row = some g → g < base) : CrAt w' base A c ls m := ⟨own_apart h.1 hg hr, h.2.old hg hr⟩
/-- where a block of another type has turned. -/
theorem CrAt.other {g : Nat} (h : CrAt w base A c ls m) (hg : w.grownBy w' (some g)) {cs : Array Value} {ty : TypeId} {fr : Nat × Nat} (hq : w.heap[g]? = some (.cells cs ty fr)) (h1 : 3 ≠ ty) (h2 : 52 ≠ ty) : CrAt w' base A c ls m :=
  ⟨own_grown' h.1 hg (fun g' e1 e2 => by injection e2 with e2; subst e2; exact own_ne_heapA h.1 hq h2 e1), h.2.other hg hq h1⟩
theorem CrAt.mem (h : CrAt w base A c ls m) : w.ownsRow base 3 1 (irV m) m.zs.length (ints m.zs) := h.2.1 m (List.mem_cons_self ..)
theorem CrAt.r (h : CrAt w base A c ls m) {k : Nat} (hk : k < ls.length) : w.ownsRow base 3 1 (ltR ls[k]) ls[k].zs.length (ints ls[k].zs) := by
  have := h.2.at_ (i := 2 * k + 1) (by rw [List.length_cons, rowsL_len]; omega)
  rw [List.getElem_cons_succ, rowsL_r _ _ hk] at this
  exact this
theorem CrAt.t (h : CrAt w base A c ls m) {k : Nat} (hk : k < ls.length) : w.ownsRow base 3 1 (ltT ls[k]) ls[k].ts.length (ints ls[k].ts) := by
  have := h.2.at_ (i := 2 * k + 2) (by rw [List.length_cons, rowsL_len]; omega)
  rw [List.getElem_cons_succ, rowsL_t _ _ hk] at this
  exact this
theorem CrAt.grid (h : CrAt w base A c ls m) (hl : ∀ l ∈ ls, l.zs.length ≤ 9223372036854775807 ∧ l.ts.length ≤ 9223372036854775807) : TGrid w A ls := by
  refine ⟨Sl.of_own h.1, fun l hl' => ?_⟩
  obtain ⟨k, hk, rfl⟩ := List.mem_iff_getElem.1 hl'
  exact ⟨⟨Sl.of_own (h.r hk), (hl _ hl').1⟩, ⟨Sl.of_own (h.t hk), (hl _ hl').2⟩⟩
/-- an owned row holds no more than a slice can. -/
theorem own_max {w : World} {b s n : Nat} {e : TypeId} {v : Value} {xs : List Value} (h : w.ownsRow b e s v n xs) : n ≤ 9223372036854775807 := by
  rcases h.2 with ⟨_, rfl⟩ | ⟨g, cap, cur, _, _, _, hn, hm, _⟩
  · omega
  · unfold maxLen at hm; omega
theorem CrAt.grid' (h : CrAt w base A c ls m) : TGrid w A ls := h.grid fun l hl => by
  obtain ⟨k, hk, rfl⟩ := List.mem_iff_getElem.1 hl
  exact ⟨own_max (h.r hk), own_max (h.t hk)⟩
/-- the memory's row has turned. -/
theorem CrAt.setMem (h : CrAt w base A c ls m) (m' : IR) (hg : w.grownBy w' (irV m).ownBlock) (hm : w'.ownsRow base 3 1 (irV m') m'.zs.length (ints m'.zs)) (hb : (irV m').ownBlock = (irV m).ownBlock) : CrAt w' base A c ls m' := by
  refine ⟨own_grown' h.1 hg (fun g e1 e2 => own_typesA h.1 h.mem (by decide) e1 e2), ?_⟩
  have := h.2.set (t := 0) (by simp) m' hg hm (fun g e => .inl (by rw [hb] at e; exact e))
  exact this
theorem cons_set {α : Type} (m : α) (rs : List α) (i : Nat) (r : α) : (m :: rs).set (i + 1) r = m :: rs.set i r := rfl
end
end Go.Proofs.Ytjmiilneennjaaa

namespace Go.Proofs.Ytjmiilneennjaaa
open Go.ChangeShapes Go.WideShapes Go.ChangeAt Go.RowKit Go.Deep
set_option maxRecDepth 100000
set_option linter.unusedVariables false

section
variable {H : Type} {enc : TypeId × Value → H} {W : World} {base : Nat} {sp : Nat → Bool} {held : Bool}
theorem open_ints1 {fuel : Nat} {v : Value} {y : DataW H × List MemPlace} (hf : DataW.trod enc Try.prog W base sp held fuel 23 [v] = some y) :
    ∃ A c, ∃ zs : List Int, v = .slice A zs.length c ∧ zs.length ≤ 9223372036854775807 ∧ Sl W A (ints zs) := by
  rcases open_ints Try.underlying23 Try.underlying3 (by kernel_rfl) hf with ⟨hcs, hx⟩ | ⟨a, len, cap, zs, hcs, _, hl, hm, hz, hx, hcell, hwz⟩
  · simp only [List.cons.injEq, and_true] at hcs
    subst hcs
    exact ⟨none, 0, [], rfl, by simp, Sl.nil _ _⟩
  · simp only [List.cons.injEq, and_true] at hcs
    subst hcs
    have hle : len ≤ zs.length := by rw [hz]; split <;> omega
    have hlen : (zs.take len).length = len := by simp; omega
    refine ⟨some a, cap, zs.take len, by rw [hlen], by rw [hlen]; unfold maxLen at hm; omega, ?_⟩
    by_cases h0 : len = 0
    · subst h0; exact .inl (by simp [ints])
    · obtain ⟨b, off, spot⟩ := a
      have hspot : spot = none := by
        have := World.cell?_spot (hcell 0 (by omega))
        simpa [Addr.add] using this
      subst hspot
      refine .inr ⟨b, off, rfl, fun j u hu => ?_⟩
      have hj : j < len := by
        have := (List.getElem?_eq_some_iff.1 hu).1
        simp only [ints, List.length_map, List.length_take] at this
        omega
      rw [← add_flat, hcell j (by omega), ← hu, ints, List.getElem?_map, List.getElem?_take, if_pos hj, List.getElem?_eq_getElem (by omega)]
      simp [List.getD, show j < zs.length by omega]
theorem open_lanes1 {fuel : Nat} {v : Value} {y : DataW H × List MemPlace} (hf : DataW.trod enc Try.prog W base sp held fuel 22 [v] = some y) :
    ∃ A c, ∃ ls : List Lt, v = .slice A ls.length c ∧ ls.length ≤ 9223372036854775807 ∧ TGrid W A ls := by
  rcases open_slice Try.underlying22 hf with ⟨hcs, hx⟩ | ⟨a, len, cap, m, n, D, Pl, hcs, hb, hl, hm, hmm, hx, hi⟩
  · simp only [List.cons.injEq, and_true] at hcs
    subst hcs
    exact ⟨none, 0, [], rfl, by simp, Sl.nil _ _, fun l hl => absurd hl (by simp)⟩
  · simp only [List.cons.injEq, and_true] at hcs
    subst hcs
    have hC : Try.prog.cellsOf 105 = 4 := by kernel_rfl
    rw [hC] at hi
    have each : ∀ i, i < len → ∃ x : Lt, (∀ j u, (ltCells x)[j]? = some u → W.cell? (a.add (i * 4 + j)) = some u) ∧ (Sl W x.ra (ints x.zs) ∧ x.zs.length ≤ 9223372036854775807) ∧ (Sl W x.ta (ints x.ts) ∧ x.ts.length ≤ 9223372036854775807) := fun i hil => by
      obtain ⟨cs, hcells, ht⟩ := hi i (by rw [hmm]; split <;> omega)
      obtain ⟨ys, n', _, _, hlen, hyl, hfld⟩ := DataW.trod_struct Try.underlying105 ht
      obtain ⟨_, hcl, hat⟩ := World.cells?_some hcells
      match cs, hcl with
      | [c0, c1, c2, c3], _ =>
        match ys, hyl with
        | [y0, y1, y2, y3], _ =>
          have k1 : Try.prog.cellsOf 3 = 1 := by kernel_rfl
          have k2 : Try.prog.cellsOf 23 = 1 := by kernel_rfl
          have k3 : Try.prog.cellsOf 4 = 1 := by kernel_rfl
          have f0 := hfld 0 _ rfl
          have f1 := hfld 1 _ rfl
          have f2 := hfld 2 _ rfl
          have f3 := hfld 3 _ rfl
          simp [k1, k2, k3] at f0 f1 f2 f3
          obtain ⟨ra, rc, zs, e0, l0, s0⟩ := open_ints1 f0
          obtain ⟨z1, e1, _, _⟩ := DataW.trod_int Try.underlying3 f1
          obtain ⟨ta, tc, ts, e2, l2, s2⟩ := open_ints1 f2
          obtain ⟨z3, e3, _⟩ := DataW.trod_bool Try.underlying4 f3
          simp only [List.cons.injEq, and_true] at e1 e3
          subst e0 e1 e2 e3
          refine ⟨⟨ra, rc, zs, z1, ta, tc, ts, z3⟩, fun j u hu => ?_, ⟨s0, l0⟩, ⟨s2, l2⟩⟩
          have hj : j < 4 := by have := (List.getElem?_eq_some_iff.1 hu).1; simpa [ltCells] using this
          have := hat j hj
          rw [add_add] at this
          rw [this]
          exact hu
    have hch : ∃ xs : List Lt, xs.length = len ∧ (∀ i, (hi : i < xs.length) → ∀ j u, (ltCells xs[i])[j]? = some u → W.cell? (a.add (i * 4 + j)) = some u) ∧ ∀ x ∈ xs, (Sl W x.ra (ints x.zs) ∧ x.zs.length ≤ 9223372036854775807) ∧ (Sl W x.ta (ints x.ts) ∧ x.ts.length ≤ 9223372036854775807) := by
      clear hf hx hi hmm hl
      induction len with
      | zero => exact ⟨[], rfl, fun i hi => by simp at hi, fun x hx => absurd hx (by simp)⟩
      | succ len ih =>
        obtain ⟨xs, hxl, hxs, hxg⟩ := ih (fun i hi => each i (by omega))
        obtain ⟨x, hx, hg⟩ := each len (by omega)
        refine ⟨xs ++ [x], by simp [hxl], fun i hi j u hu => ?_, fun y hy => ?_⟩
        · by_cases h : i < xs.length
          · rw [List.getElem_append_left h] at hu
            exact hxs i h j u hu
          · have : i = len := by simp [hxl] at hi; omega
            subst this
            rw [List.getElem_append_right (by omega)] at hu
            simp at hu
            exact hx j u hu
        · rcases List.mem_append.1 hy with h | h
          · exact hxg y h
          · rw [List.mem_singleton] at h; subst h; exact hg
    obtain ⟨xs, rfl, hxs, hxg⟩ := hch
    have hlen : xs.length ≤ 9223372036854775807 := by unfold maxLen at hm; omega
    refine ⟨some a, cap, xs, rfl, hlen, ?_, hxg⟩
    by_cases h0 : xs.length = 0
    · rw [List.eq_nil_of_length_eq_zero h0]; exact Sl.nil _ _
    · obtain ⟨b, off, spot⟩ := a
      have hspot : spot = none := by
        have := World.cell?_spot (hxs 0 (by omega) 0 _ rfl)
        simpa [Addr.add] using this
      subst hspot
      refine .inr ⟨b, off, rfl, fun j u hu => ?_⟩
      have hj : j < xs.length * 4 := by
        have := (List.getElem?_eq_some_iff.1 hu).1
        rwa [tflat_length] at this
      have h1 := tflat_at xs (j / 4) (j % 4) (by omega) (Nat.mod_lt _ (by omega))
      rw [show j / 4 * 4 + j % 4 = j from by omega] at h1
      rw [h1] at hu
      have := hxs (j / 4) (by omega) (j % 4) u hu
      rw [show j / 4 * 4 + j % 4 = j from by omega] at this
      rw [← add_flat]
      exact this
end
/-- an argument that is a crowd. -/
structure CrArg where
  A : Option Addr
  c : Nat
  ls : List Lt
  m : IR
abbrev crV (x : CrArg) : Value := .agg #[.slice x.A x.ls.length x.c, .slice x.m.a x.m.zs.length x.m.c]
theorem open_crowd {H : Type} {enc : TypeId × Value → H} {W : World} {r : Reach} {b0 base : Nat} {sp : Nat → Bool} {held : Bool} {v : Value} {d : DataW H} {ps : List MemPlace}
    (hv : Value.okWide Try.prog W r b0 25 v) (h : DataW.Trod enc Try.prog W base sp held 25 v d ps) :
    ∃ x : CrArg, ∃ _ : x.ls.length ≤ 9223372036854775807 ∧ x.m.zs.length ≤ 9223372036854775807, v = crV x ∧ TGrid W x.A x.ls ∧ Sl W x.m.a (ints x.m.zs) := by
  obtain ⟨v0, v1, y0, y1, n, rfl, _, _, h0, h1⟩ := Go.Joins.open_agg2 Try.underlying25 (by kernel_rfl) (by kernel_rfl) hv h
  obtain ⟨A, c, ls, rfl, l0, g0⟩ := open_lanes1 h0
  obtain ⟨a, c1, zs, rfl, l1, s1⟩ := open_ints1 h1
  exact ⟨⟨A, c, ls, ⟨a, c1, zs⟩⟩, ⟨l0, l1⟩, rfl, g0, s1⟩
end Go.Proofs.Ytjmiilneennjaaa
