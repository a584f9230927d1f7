/-
  Contract of the reference's CellsWritten: the written cells in ascending order, each once.
-/
import Derived.Test.YtjgmghlgjjfifaaCWritten
import Derived.Test.YtjgmghlgjjfifaaLibApp
import Derived.Test.YtjgmghlgjjfifaaTReg
namespace Go.Proofs.Ytjgmghlgjjfifaa
open Go.RowKit
set_option maxHeartbeats 1000000
set_option linter.unusedVariables false

theorem own_emptyAt (w : World) (e : TypeId) (size : Nat) {base B : Nat} (hb : base ≤ w.heap.size) (hB : B = w.heap.size) : (w.alloc (.cells #[] e)).ownsRow base e size (.slice (some ⟨B, 0, none⟩) 0 0) 0 [] := by
  subst hB
  exact World.ownsRow_made w #[] 0 hb (by simp [maxLen]) (by simp)
/-- the cells of an owned row from place a on, wherever they are asked for. -/
theorem own_drop {w : World} {base : Nat} {e : TypeId} {g n c a : Nat} {xs : List Value} (h : w.ownsRow base e 1 (.slice (some ⟨g, 0, none⟩) n c) n xs) :
    ∀ j u, (xs.drop a)[j]? = some u → w.cell? ((⟨g, a, none⟩ : Addr).add j) = some u := by
  intro j u hu
  rw [List.getElem?_drop] at hu
  have := h.cells (g := g) rfl (a + j) u hu
  rw [add_flat] at this ⊢
  simpa using this

theorem own_dropAt {w W : World} {base : Nat} {e : TypeId} {g n c a : Nat} {p : Addr} {xs : List Value} (h : w.ownsRow base e 1 (.slice (some ⟨g, 0, none⟩) n c) n xs) (hb : Below w.heap.size w W) (hp : p = ⟨g, a, none⟩ ∨ c = a) :
    ∀ j u, (xs.drop a)[j]? = some u → W.cell? (p.add j) = some u := by
  intro j u hu
  have hk := own_drop h j u hu
  have hlt := World.block_lt_of_cell? w _ hk
  have h1 := h.1
  have h2 := own_cap h
  rcases hp with rfl | hc
  · exact (hb.cell hlt).trans hk
  · rw [List.getElem?_eq_none (by simp; omega)] at hu
    cases hu

theorem kept_cells {w W : World} {p : Addr} {xs : List Value} (hb : Below w.heap.size w W) (h : ∀ j u, xs[j]? = some u → w.cell? (p.add j) = some u) : ∀ j u, xs[j]? = some u → W.cell? (p.add j) = some u :=
  fun j u hu => (hb.cell (World.block_lt_of_cell? w _ (h j u hu))).trans (h j u hu)
theorem own_takeAt {w W : World} {base : Nat} {e : TypeId} {g n c a : Nat} {xs : List Value} (h : w.ownsRow base e 1 (.slice (some ⟨g, 0, none⟩) n c) n xs) (hb : Below w.heap.size w W) :
    ∀ j u, (xs.take a)[j]? = some u → W.cell? ((⟨g, 0, none⟩ : Addr).add j) = some u :=
  kept_cells hb fun j u hu => h.cells (g := g) rfl j u (by
    rw [List.getElem?_take] at hu
    split at hu
    · exact hu
    · cases hu)
/-- a call to append in a region. -/
theorem yields_appS {P : Program} {w : World} {o : Oper} {a : Act} {G : Value → World → Prop} {t e : TypeId} {z : Value} {size bytes : Nat} (I : ElemI P t e z size bytes)
    {base g0 n c0 : Nat} {xs : List Value} (hown : w.ownsRow base e size (.slice (some ⟨g0, 0, none⟩) n c0) n xs)
    {ad : Addr} {m c : Nat} {news : List Value} (hnews : ∀ j u, news[j]? = some u → w.cell? (ad.add j) = some u) (hl : news.length = m * size) (h1 : ∀ u ∈ news, u.oneCell' = true)
    (hbytes : (n + m) * bytes ≤ 140737488355328) (h63 : n + m ≤ 9223372036854775807) (hbase : base ≤ w.heap.size)
    {s x : Operand} (ho : o.op = .call { callee := .builtin .append, args := #[s, x], argTypes := #[t, t] }) (hs : a.eval s = .slice (some ⟨g0, 0, none⟩) n c0) (hx : a.eval x = .slice (some ad) m c)
    (h : ∀ g' c' w', w'.ownsRow base e size (.slice (some ⟨g', 0, none⟩) (n + m) c') (n + m) (xs ++ news) → w.grownBy w' (some g0) → G (.slice (some ⟨g', 0, none⟩) (n + m) c') w') : yields P o a w G := by
  obtain ⟨i, hi, hz0, hz1, hz2⟩ := info_parts I.hi
  obtain ⟨v', w', hrun, hown', hg, hn⟩ := run_append_own (P := P) (w := w) base t o.type e i z size bytes I.ht hi hz0 hz1 hz2 I.hz I.hs _ n xs hown ad m c news hl hnews h1 (by simp only [maxLen]; omega) hbytes hbase
  obtain ⟨g, c', rfl⟩ := own_some hown' (fun e => by have := hn.1 e; simp at this)
  unfold yields
  simp [execOp, ho, resolve, invoke, builtin, hs, hx, hrun, Result.andThen]
  exact h g c' w' hown' hg

abbrev rowV (g n c : Nat) : Value := .slice (some ⟨g, 0, none⟩) n c
/-- a row of the region's own. -/
def kRow (base n : Nat) (e : TypeId) (xs : List Value) : Kind := ⟨Nat × Nat, fun p => rowV p.1 n p.2, fun p w => w.ownsRow base e 1 (rowV p.1 n p.2) n xs⟩
def kEmpty (base : Nat) (e : TypeId) : Kind := ⟨Nat, fun g => rowV g 0 0, fun g w => w.ownsRow base e 1 (rowV g 0 0) 0 [] ∧ w.cell? ⟨g, 0, none⟩ = none⟩
def kOne (z : Value) : Kind := ⟨Nat, fun g => rowV g 1 1, fun g w => w.cell? ⟨g, 0, none⟩ = some z⟩

def regIns (a m : Nat) (ys rest : List Value) (z : Value) (w0 : World) : Reg where
  nd := [0, 4, 10, 11, 13]
  K := fun
    | 0 => kEmpty w0.heap.size 3
    | 4 => kRow w0.heap.size a 3 ys
    | 10 => kOne z
    | 11 => kRow w0.heap.size (a + 1) 3 (ys ++ [z])
    | 13 => kRow w0.heap.size (a + 1 + m) 3 (ys ++ [z] ++ rest)
    | _ => ⟨Unit, fun _ => undef, fun _ _ => True⟩
  ne := fun i => by
    split <;> first | exact ⟨((0, 0) : Nat × Nat)⟩ | exact ⟨(0 : Nat)⟩ | exact ⟨()⟩
  I := fun _ w => Below w0.heap.size w0 w
  mono := fun _ _ h => h
  hy := fun
    | 4 => [0]
    | 11 => [4, 10]
    | 13 => [11]
    | _ => []
  kills := fun
    | 4 => [0, 11, 13]
    | 11 => [0, 4, 10, 13]
    | 13 => [0, 4, 10, 11]
    | _ => []
  live := [13]
theorem regIns_alloc (a m : Nat) (ys rest : List Value) (z : Value) (w0 w : World) (o : Obj) (i : Nat) : (regIns a m ys rest z w0).keeps i w (w.alloc o) := by
  intro k hk _ _
  simp only [regIns, List.mem_cons, List.not_mem_nil, or_false] at hk
  rcases hk with rfl | rfl | rfl | rfl | rfl
  · exact fun (y : Nat) h => ⟨h.1.alloc o, by rw [World.cell?_alloc_lt w o ⟨y, 0, none⟩ (h.1.lt y rfl).2]; exact h.2⟩
  · exact fun (y : Nat × Nat) h => World.ownsRow.alloc h o
  · exact fun (y : Nat) h => (World.cell?_alloc_lt w o ⟨y, 0, none⟩ (World.block_lt_of_cell? w _ h)).trans h
  · exact fun (y : Nat × Nat) h => World.ownsRow.alloc h o
  · exact fun (y : Nat × Nat) h => World.ownsRow.alloc h o

theorem specCellsWritten_any (A : Option Addr) (c : Nat) (xs : List Acc) (w : World) (hl : xs.length ≤ 1100000000000) (hs : Sl w A (flat xs)) :
    Calls Try.prog 61 #[.slice A xs.length c] w (RetInts (asc (writtenCells xs)) w) := by
  go_enter Try.func61, Try.ntmps61
  go_wp2_with fail
  go_loopw [3, 4] (fun v i wr => ∃ k : Nat, k ≤ xs.length ∧ i = .int .i64 k ∧ (∃ g c, ∃ ys : List Int, v = .slice (some ⟨g, 0, none⟩) ys.length c ∧ wr.ownsRow w.heap.size 3 1 (.slice (some ⟨g, 0, none⟩) ys.length c) ys.length (ints ys) ∧ Up ys ∧ ys.length ≤ k ∧ Hid (∀ z, z ∈ ys ↔ z ∈ writtenCells (xs.take k))) ∧ Below w.heap.size w wr) (fun _ i _ => xs.length - (intOf i).toNat)
  case atStart => exact ⟨0, by omega, rfl, ⟨_, 0, [], rfl, own_empty w _ _, List.Pairwise.nil, by simp, mkHid (by simp [writtenCells])⟩, (Below.refl _ _).alloc (Nat.le_refl _) _⟩
  case round =>
    obtain ⟨k, hk, rfl, ⟨g, c1, ys, rfl, hown, hup, hyl, HM⟩, hb⟩ := hrel
    obtain ⟨wo, rfl⟩ : ∃ wo : World, wo = wr := ⟨_, rfl⟩
    have hsz := hb.size
    have hgs := (hown.lt g rfl)
    have hcap := own_cap hown
    have HB := mkHid hb
    have HO := mkHid hown
    have HU := mkHid hup
    have hs1 := hs.below hb
    clear hb hown hup
    by_cases hlt : k < xs.length
    · obtain ⟨b, off, rfl, h0, h1, h2, h3⟩ := hs1.acc hlt
      have HT := mkHid (writtenCells_take xs k hlt)
      clear hs hs1
      go_wp2_with fail
      go_loopw [5] (fun av wr => ∃ a : Nat, a ≤ ys.length ∧ av = .int .i64 a ∧ Hid (Place ys xs[k].cell a) ∧ ∃ q, wr = wo.drewN q) (fun av _ => (intOf av).toNat)
      case atStart => exact ⟨ys.length, by omega, rfl, mkHid (Place.end_ _ _), 0, rfl⟩
      case round =>
        obtain ⟨a, ha, rfl, HP, q, rfl⟩ := hrel
        have i3 : (0 : Int) ≤ (k : Int) := by omega
        have i4 : (k : Int) < (xs.length : Int) := by omega
        by_cases hgo : 0 < a ∧ ∃ h : a - 1 < ys.length, xs[k].cell ≤ ys[a - 1]
        · obtain ⟨ha0, hal, hz⟩ := hgo
          have hcy : wo.cell? ⟨g, a - 1, none⟩ = some (.int .i64 ys[a - 1]) := by
            have := HO.out.cells (g := g) rfl (a - 1) _ (ints_at hal)
            rw [add_flat] at this
            simpa using this
          have hd0 : decide ((0 : Int) < (a : Int)) = true := by simp; omega
          have i1 : (0 : Int) ≤ (a : Int) - 1 := by omega
          have i2 : (a : Int) - 1 < (ys.length : Int) := by omega
          have HP2 := mkHid (HP.out.down ha0 hal hz)
          go_wp2_with fail
          go_quiet (fail)
          go_wp2_with fail
          go_roundw
          case rel => exact ⟨a - 1, by omega, by congr 1; omega, HP2, _, by first | rfl | exact World.drewN_drewN _ _ _⟩
          case measure => simp [intOf]; omega
        · have hlo : a = 0 ∨ ∃ h : a - 1 < ys.length, ys[a - 1] < xs[k].cell := by
            by_cases h0 : a = 0
            · exact .inl h0
            · right
              refine ⟨by omega, ?_⟩
              have := not_and.1 hgo (by omega)
              have := not_exists.1 this (by omega)
              omega
          have HL := mkHid hlo
          clear hgo hlo
          by_cases ha0 : 0 < a
          case' pos =>
            obtain ⟨hal, hz⟩ : ∃ h : a - 1 < ys.length, ys[a - 1] < xs[k].cell := HL.out.resolve_left (by omega)
            have hcy : wo.cell? ⟨g, a - 1, none⟩ = some (.int .i64 ys[a - 1]) := by
              have := HO.out.cells (g := g) rfl (a - 1) _ (ints_at hal)
              rw [add_flat] at this
              simpa using this
            have hd0 : decide ((0 : Int) < (a : Int)) = true := by simp; omega
            have i1 : (0 : Int) ≤ (a : Int) - 1 := by omega
            have i2 : (a : Int) - 1 < (ys.length : Int) := by omega
            have hzd : decide (xs[k].cell ≤ ys[a - 1]) = false := by simp; omega
            go_wp2_with fail
            go_quiet (fail)
            go_wp2_with fail
            clear hcy hd0 i1 i2 hzd hz
          case' neg =>
            have hd0 : decide ((0 : Int) < (a : Int)) = false := by simp; omega
            go_wp2_with fail
            go_quiet (fail)
            go_wp2_with fail
            clear hd0
          all_goals (
            clear ha0
            cases hw : xs[k].write with
            | false =>
              have HW := mkHid hw
              rw [hw] at h2
              clear hw
              go_quiet (fail)
              go_wp2_with fail
              go_roundw
              case rel =>
                refine ⟨k + 1, by omega, by go_num, ⟨g, c1, ys, rfl, HO.out, HU.out, by omega, ?_⟩, below_drewN HB.out _⟩
                refine mkHid ?_
                rw [HT.out, if_neg (by rw [HW.out]; simp), List.append_nil]
                exact HM.out
              case measure => simp [intOf]; omega
            | true =>
              have HW := mkHid hw
              rw [hw] at h2
              clear hw
              by_cases hin : ∃ h : a < ys.length, ys[a] = xs[k].cell
              · obtain ⟨hal, hz⟩ := hin
                have hcy : wo.cell? ⟨g, a, none⟩ = some (.int .i64 ys[a]) := by
                  have := HO.out.cells (g := g) rfl a _ (ints_at hal)
                  rw [add_flat] at this
                  simpa using this
                have hd0 : decide ((a : Int) < (ys.length : Int)) = true := by simp; omega
                have i1 : (0 : Int) ≤ (a : Int) := by omega
                have i2 : (a : Int) < (ys.length : Int) := by omega
                have hzd : (ys[a] == xs[k].cell) = true := by simp [hz]
                have HZ := mkHid (place_mem hal hz)
                clear hz
                go_quiet (fail)
                go_wp2_with fail
                go_roundw
                case rel =>
                  refine ⟨k + 1, by omega, by go_num, ⟨g, c1, ys, rfl, HO.out, HU.out, by omega, ?_⟩, below_drewN HB.out _⟩
                  refine mkHid ?_
                  rw [HT.out, if_pos HW.out]
                  intro z
                  rw [List.mem_append, ← HM.out z]
                  constructor
                  · exact .inl
                  · rintro (h | h)
                    · exact h
                    · rw [List.mem_singleton.1 h]; exact HZ.out
                case measure => simp [intOf]; omega
              · have HN : Hid (∀ h : a < ys.length, ys[a] ≠ xs[k].cell) := mkHid (fun h e => hin ⟨h, e⟩)
                clear hin
                by_cases hal : a < ys.length
                case' pos =>
                  have hcy : wo.cell? ⟨g, a, none⟩ = some (.int .i64 ys[a]) := by
                    have := HO.out.cells (g := g) rfl a _ (ints_at hal)
                    rw [add_flat] at this
                    simpa using this
                  have hd0 : decide ((a : Int) < (ys.length : Int)) = true := by simp; omega
                  have i1 : (0 : Int) ≤ (a : Int) := by omega
                  have i2 : (a : Int) < (ys.length : Int) := by omega
                  have hzd : (ys[a] == xs[k].cell) = false := by rw [beq_eq_false_iff_ne]; exact HN.out hal
                  go_quiet (fail)
                  clear hcy hd0 i1 i2 hzd
                case' neg =>
                  have hd0 : decide ((a : Int) < (ys.length : Int)) = false := by simp; omega
                  go_quiet (fail)
                  clear hd0
                all_goals (
                  have i1 : (0 : Int) ≤ (a : Int) := by omega
                  have i2 : (a : Int) ≤ (ys.length : Int) := by omega
                  have i3 : (a : Int) ≤ (c1 : Int) := by omega
                  have i4 : (ys.length : Int) ≤ (c1 : Int) := by omega
                  have j1 : (0 + (ys.length - a)) * 8 ≤ 140737488355328 := by omega
                  have j2 : 0 + (ys.length - a) ≤ 9223372036854775807 := by omega
                  have j3 : ((ints ys).drop a).length = (ys.length - a) * 1 := by simp [ints]
                  have j4 : ∀ u ∈ (ints ys).drop a, u.oneCell' = true := by
                    intro u hu
                    obtain ⟨y, _, rfl⟩ := List.mem_map.1 (List.mem_of_mem_drop hu)
                    rfl
                  have t1 : ((ints ys).take a).length = a * 1 := by simp [ints]; omega
                  have t4 : ∀ u ∈ (ints ys).take a, u.oneCell' = true := by
                    intro u hu
                    obtain ⟨y, _, rfl⟩ := List.mem_map.1 (List.mem_of_mem_take hu)
                    rfl
                  have t2 : (0 + a) * 8 ≤ 140737488355328 := by omega
                  have t3 : 0 + a ≤ 9223372036854775807 := by omega
                  have s4 : ∀ u ∈ [Value.int .i64 xs[k].cell], u.oneCell' = true := by
                    intro u hu
                    rw [List.mem_singleton.1 hu]; rfl
                  have s2 : (a + 1) * 8 ≤ 140737488355328 := by omega
                  have s3 : a + 1 ≤ 9223372036854775807 := by omega
                  have r2 : (a + 1 + (ys.length - a)) * 8 ≤ 140737488355328 := by omega
                  have r3 : a + 1 + (ys.length - a) ≤ 9223372036854775807 := by omega
                  have HP2 := mkHid (place_ins HU.out HP.out ha HL.out HN.out)
                  have HLen : Hid ((ys.take a ++ [xs[k].cell] ++ ys.drop a).length = a + 1 + (ys.length - a)) := mkHid (by simp; omega)
                  have HIn : Hid (ints (ys.take a ++ [xs[k].cell] ++ ys.drop a) = (ints ys).take a ++ [.int .i64 xs[k].cell] ++ (ints ys).drop a) := mkHid (by simp [ints, List.map_take, List.map_drop])
                  by_cases hca : c1 = a
                  all_goals (try (exfalso; omega))
                  all_goals (
                    go_wp2_with (at_builtin; go_must (refine wpList_appS Ei (own_emptyAt _ _ _ (base := wo.heap.size) (Nat.le_refl _) rfl) (own_dropAt HO.out ((below_drewN (Below.refl _ _) _).alloc (Nat.le_refl _) _) (by first | exact .inl rfl | exact .inr (by assumption) | exact .inr rfl)) j3 j4 j1 j2 (by simp) rfl rfl rfl rfl ?_); intro g1 c' w1 hown1 hg1; have HO1 := mkHid hown1; have HG1 := mkHid hg1; clear hown1 hg1)
                    have HW1 : Hid (Below wo.heap.size wo w1) := mkHid (((below_drewN (Below.refl _ _) _).alloc (Nat.le_refl _) _).grown HG1.out (by simp) (fun g hg => by cases hg; exact Nat.le_refl _))
                    have HY := mkHid (own_takeAt (a := a) HO.out HW1.out)
                    have HT1 : Hid (∀ j u, ((ints ys).drop a)[j]? = some u → w1.cell? ((⟨g1, 0, none⟩ : Addr).add j) = some u) := mkHid (fun j u hu => HO1.out.cells (g := g1) rfl j u (by simpa using hu))
                    have hcl : w1.cell? ⟨b, off + k * 4 + 1, none⟩ = some (.int .i64 xs[k].cell) := (HW1.out.cell (World.block_lt_of_cell? wo _ h1)).trans h1
                    have hw1 := HW1.out.size
                    have hclR : ∀ u : (regIns a (ys.length - a) ((ints ys).take a) ((ints ys).drop a) (.int .i64 xs[k].cell) w1).W, u.1.cell? ⟨b, off + k * 4 + 1, none⟩ = some (.int .i64 xs[k].cell) := fun u => by
                      obtain ⟨_, hb⟩ := u.2
                      exact (Below.cell hb (World.block_lt_of_cell? w1 _ hcl)).trans hcl
                    have hcl0 : w1.cell? ⟨b, off + k * 4, none⟩ = some (.int .i64 xs[k].who) := (HW1.out.cell (World.block_lt_of_cell? wo _ h0)).trans h0
                    have hclR0 : ∀ u : (regIns a (ys.length - a) ((ints ys).take a) ((ints ys).drop a) (.int .i64 xs[k].cell) w1).W, u.1.cell? ⟨b, off + k * 4, none⟩ = some (.int .i64 xs[k].who) := fun u => by
                      obtain ⟨_, hb⟩ := u.2
                      exact (Below.cell hb (World.block_lt_of_cell? w1 _ hcl0)).trans hcl0
                    clear HG1 HO1 j1 j2 h0 h1 h2 h3 hcl hcl0
                    refine wp_region_N (regIns a (ys.length - a) ((ints ys).take a) ((ints ys).drop a) (.int .i64 xs[k].cell) w1) (by kernel_rfl) (by kernel_rfl) (by kernel_rfl) ⟨rfl, rfl, rfl, Nat.le_refl _, fun _ _ => rfl⟩ (fun ch => ?_)
                    -- 0
                    refine wpN_nd rfl rfl ?_ (fun x hx0 => ?_)
                    · intro m w hm hI hh
                      simp [yields, go_sem]
                      exact ⟨(w.heap.size : Nat), rfl, ⟨own_emptyAt w _ _ (Below.size hI) rfl, by rw [cell_of_row _ _ 0 _ _ _ (heap_alloc_new w _)]; rfl⟩, Below.alloc hI (Below.size hI) _, regIns_alloc _ _ _ _ _ _ _ _ _⟩
                    obtain ⟨g0, rfl⟩ : ∃ g : Nat, g = x := ⟨x, rfl⟩
                    show wpN _ _ _ _ _ _ _ (Act.put _ _ (.slice (some ⟨g0, 0, none⟩) 0 0))
                    simp only [Act.put, List.setIfInBounds_toArray, List.set_cons_succ, List.set_cons_zero]
                    refine wpN_det rfl rfl rfl (fun K hK => ?_); go_big_quiet_op; first | (refine hK _ ?_; clear hK K) | (refine ⟨_, fun _ => rfl, hK _ ?_⟩; clear hK K)
                    refine wpN_det rfl rfl rfl (fun K hK => ?_); go_big_quiet_op; first | (refine hK _ ?_; clear hK K) | (refine ⟨_, fun _ => rfl, hK _ ?_⟩; clear hK K)
                    refine wpN_det rfl rfl rfl (fun K hK => ?_); go_big_quiet_op; first | (refine hK _ ?_; clear hK K) | (refine ⟨_, fun _ => rfl, hK _ ?_⟩; clear hK K)
                    -- 4
                    refine wpN_nd rfl rfl ?_ (fun x hx4 => ?_)
                    · intro m w hm hI hh
                      have h0 := hh 0 (List.mem_singleton_self 0)
                      rw [hx0] at h0
                      have hz : 0 + a = a := Nat.zero_add a
                      refine yields_appS Ei h0.1 (kept_cells hI HY.out) t1 t4 t2 t3 (Below.size hI) rfl rfl rfl ?_
                      intro g' c' w' hown' hg'
                      rw [hz] at hown' ⊢
                      refine ⟨((g', c') : Nat × Nat), rfl, hown', Below.grown hI hg' (Below.size hI) (fun g e => by cases e; exact (h0.1.lt g0 rfl).1), ?_⟩
                      intro k hk hne hkill
                      have : k = 10 := by
                        simp only [regIns, List.mem_cons, List.not_mem_nil, or_false] at hk hkill
                        omega
                      subst this
                      intro (y : Nat) hy
                      refine hg'.cell hy (fun e => ?_)
                      have e : y = g0 := by injection e
                      subst e
                      have := h0.2
                      rw [show w.cell? ⟨y, 0, none⟩ = some (.int .i64 xs[k].cell) from hy] at this
                      cases this
                    obtain ⟨⟨g2, c2⟩, rfl⟩ : ∃ g : Nat × Nat, g = x := ⟨x, rfl⟩
                    show wpN _ _ _ _ _ _ _ (Act.put _ _ (.slice (some ⟨g2, 0, none⟩) a c2))
                    simp only [Act.put, List.setIfInBounds_toArray, List.set_cons_succ, List.set_cons_zero]
                    refine wpN_det rfl rfl rfl (fun K hK => ?_); go_big_quiet_op; first | (refine hK _ ?_; clear hK K) | (refine ⟨_, fun _ => rfl, hK _ ?_⟩; clear hK K)
                    refine wpN_det rfl rfl rfl (fun K hK => ?_); go_big_quiet_op; first | (refine hK _ ?_; clear hK K) | (refine ⟨_, fun _ => rfl, hK _ ?_⟩; clear hK K)
                    refine wpN_det rfl rfl rfl (fun K hK => ?_); go_big_quiet_op; first | (refine hK _ ?_; clear hK K) | (refine ⟨_, fun _ => rfl, hK _ ?_⟩; clear hK K)
                    refine wpN_det rfl rfl rfl (fun K hK => ?_); go_big_quiet_op; first | (refine hK _ ?_; clear hK K) | (refine ⟨_, fun _ => rfl, hK _ ?_⟩; clear hK K)
                    refine wpN_det rfl rfl rfl (fun K hK => ?_); go_big_quiet_op; first | (refine hK _ ?_; clear hK K) | (refine ⟨_, fun _ => rfl, hK _ ?_⟩; clear hK K)
                    -- 10
                    refine wpN_nd rfl rfl ?_ (fun x hx10 => ?_)
                    · intro m w hm hI hh
                      simp [yields, go_sem]
                      refine ⟨(w.heap.size : Nat), rfl, ?_, Below.alloc hI (Below.size hI) _, regIns_alloc _ _ _ _ _ _ _ _ _⟩
                      have := newCells w [.int .i64 xs[k].cell] 3 0 _ rfl
                      rw [add_flat] at this
                      exact this
                    obtain ⟨g3, rfl⟩ : ∃ g : Nat, g = x := ⟨x, rfl⟩
                    show wpN _ _ _ _ _ _ _ (Act.put _ _ (.slice (some ⟨g3, 0, none⟩) 1 1))
                    simp only [Act.put, List.setIfInBounds_toArray, List.set_cons_succ, List.set_cons_zero]
                    -- 11
                    refine wpN_nd rfl rfl ?_ (fun x hx11 => ?_)
                    · intro m w hm hI hh
                      have h4 := hh 4 (by exact List.mem_cons_self ..)
                      have h10 := hh 10 (by exact List.mem_cons_of_mem _ (List.mem_cons_self ..))
                      rw [hx4] at h4
                      rw [hx10] at h10
                      have h10' : w.cell? ⟨g3, 0, none⟩ = some (.int .i64 xs[k].cell) := h10
                      refine yields_appS Ei h4 (news := [.int .i64 xs[k].cell]) (m := 1) (c := 1) (ad := ⟨g3, 0, none⟩) (fun j u hu => ?_) rfl s4 s2 s3 (Below.size hI) rfl rfl rfl ?_
                      · have : j = 0 := by
                          have := (List.getElem?_eq_some_iff.1 hu).1
                          simp at this; exact this
                        subst this
                        rw [add_flat]
                        rw [show (0 + 0 : Nat) = 0 from rfl, h10']
                        exact hu
                      intro g' c' w' hown' hg'
                      refine ⟨((g', c') : Nat × Nat), rfl, hown', Below.grown hI hg' (Below.size hI) (fun g e => by cases e; exact (h4.lt g2 rfl).1), ?_⟩
                      intro k hk hne hkill
                      exfalso
                      simp only [regIns, List.mem_cons, List.not_mem_nil, or_false] at hk hkill
                      omega
                    obtain ⟨⟨g5, c5⟩, rfl⟩ : ∃ g : Nat × Nat, g = x := ⟨x, rfl⟩
                    show wpN _ _ _ _ _ _ _ (Act.put _ _ (.slice (some ⟨g5, 0, none⟩) (a + 1) c5))
                    simp only [Act.put, List.setIfInBounds_toArray, List.set_cons_succ, List.set_cons_zero]
                    refine wpN_det rfl rfl rfl (fun K hK => ?_); go_big_quiet_op; first | (refine hK _ ?_; clear hK K) | (refine ⟨_, fun _ => rfl, hK _ ?_⟩; clear hK K)
                    -- 13
                    refine wpN_nd rfl rfl ?_ (fun x hx13 => ?_)
                    · intro m w hm hI hh
                      have h11 := hh 11 (List.mem_singleton_self 11)
                      rw [hx11] at h11
                      refine yields_appS Ei h11 (kept_cells hI HT1.out) j3 j4 r2 r3 (Below.size hI) rfl rfl rfl ?_
                      intro g' c' w' hown' hg'
                      refine ⟨((g', c') : Nat × Nat), rfl, hown', Below.grown hI hg' (Below.size hI) (fun g e => by cases e; exact (h11.lt g5 rfl).1), ?_⟩
                      intro k hk hne hkill
                      exfalso
                      simp only [regIns, List.mem_cons, List.not_mem_nil, or_false] at hk hkill
                      omega
                    obtain ⟨⟨g4, c4⟩, rfl⟩ : ∃ g : Nat × Nat, g = x := ⟨x, rfl⟩
                    show wpN _ _ _ _ _ _ _ (Act.put _ _ (.slice (some ⟨g4, 0, none⟩) (a + 1 + (ys.length - a)) c4))
                    simp only [Act.put, List.setIfInBounds_toArray, List.set_cons_succ, List.set_cons_zero]
                    refine wpN_det rfl rfl rfl (fun K hK => ?_); go_big_quiet_op; first | (refine hK _ ?_; clear hK K) | (refine ⟨_, fun _ => rfl, hK _ ?_⟩; clear hK K)
                    refine wpN_end (fun w4 hI4 hV => ?_)
                    have h13 := hV 13 (List.mem_singleton_self 13)
                    rw [hx13] at h13
                    have HO4 : Hid (w4.ownsRow w1.heap.size 3 1 (.slice (some ⟨g4, 0, none⟩) (a + 1 + (ys.length - a)) c4) (a + 1 + (ys.length - a)) ((ints ys).take a ++ [.int .i64 xs[k].cell] ++ (ints ys).drop a)) := mkHid h13
                    have B4 : Hid (Below w1.heap.size w1 w4) := mkHid hI4
                    clear h13 hV hI4 hx0 hx4 hx10 hx11 hx13 hclR hclR0 t1 t2 t3 t4 s2 s3 s4 r2 r3 j3 j4
                    go_wp2_with fail
                    go_roundw
                    case rel =>
                      refine ⟨k + 1, by omega, by go_num, ⟨g4, c4, ys.take a ++ [xs[k].cell] ++ ys.drop a, by rw [HLen.out], ?_, HP2.out.1, by rw [HLen.out]; omega, mkHid ?_⟩, HB.out.trans ((below_then HW1.out B4.out).mono hsz)⟩
                      · rw [HLen.out, HIn.out]
                        exact own_base HO4.out (by omega)
                      · rw [HT.out, if_pos HW.out]
                        intro x
                        rw [HP2.out.2 x, HM.out x, List.mem_append, List.mem_singleton]
                    case measure => simp [intOf]; omega)))
    · have : k = xs.length := by omega
      subst this
      have hA : ys = asc (writtenCells xs) := (asc_eq HU.out (by have := HM.out; rwa [List.take_length] at this)).symm
      subst hA
      go_wp2_with fail
      go_ret
      exact ⟨_, _, rfl, HO.out, HB.out⟩
end Go.Proofs.Ytjgmghlgjjfifaa
