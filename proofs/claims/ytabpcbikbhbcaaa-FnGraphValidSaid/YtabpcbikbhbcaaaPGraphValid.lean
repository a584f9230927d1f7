/-
  Proved: FnGraphValid returns true for every code.
-/
import Derived.Test.YtabpcbikbhbcaaaDGraphs
import Derived.Test.YtabpcbikbhbcaaaPlainBack
import Derived.Test.YtabpcbikbhbcaaaTReg
import Derived.Test.YtabpcbikbhbcaaaFrame
namespace Go.Proofs.Ytabpcbikbhbcaaa
open Go.ChangeShapes Go.WideShapes Go.ChangeAt Go.RowKit
set_option maxHeartbeats 4000000
set_option maxRecDepth 100000
set_option linter.unusedVariables false

/-! ### a call to append in a region -/
theorem yieldsV_app {P : Program} {w : World} {o : Oper} {a : Act} {G : Value → World → Prop} {t e : TypeId} {z : Value} {size bytes : Nat} (I : ElemI P t e z size bytes)
    {base g0 n c0 : Nat} {xs : List Value} (hown : w.ownsRow base e size (.slice (some ⟨g0, 0, none⟩) n c0) n xs)
    {ad : Addr} {m c : Nat} {news : List Value} (hnews : ∀ j u, news[j]? = some u → w.cell? (ad.add j) = some u) (hl : news.length = m * size) (h1 : ∀ u ∈ news, u.oneCell' = true)
    (hbytes : (n + m) * bytes ≤ 140737488355328) (h63 : n + m ≤ 9223372036854775807) (hbase : base ≤ w.heap.size)
    {s x : Operand} (ho : o.op = .call { callee := .builtin .append, args := #[s, x], argTypes := #[t, t] }) (hs : a.eval s = .slice (some ⟨g0, 0, none⟩) n c0) (hx : a.eval x = .slice (some ad) m c)
    (h : ∀ g' c' w', w'.ownsRow base e size (.slice (some ⟨g', 0, none⟩) (n + m) c') (n + m) (xs ++ news) → w.grownBy w' (some g0) → G (.slice (some ⟨g', 0, none⟩) (n + m) c') w') : yields P o a w G := by
  obtain ⟨i, hi, hz0, hz1, hz2⟩ := info_parts I.hi
  obtain ⟨v', w', hrun, hown', hg, hn⟩ := run_append_own (P := P) (w := w) base t o.type e i z size bytes I.ht hi hz0 hz1 hz2 I.hz I.hs _ n xs hown ad m c news hl hnews h1 (by simp only [maxLen]; omega) hbytes hbase
  obtain ⟨g, c', rfl⟩ := own_some hown' (fun e => by have := hn.1 e; simp at this)
  unfold yields
  simp [execOp, ho, resolve, invoke, builtin, hs, hx, hrun, Result.andThen]
  exact h g c' w' hown' hg
theorem runV_none {P : Program} {w : World} {t ty e : TypeId} {i : TypeInfo} (ht : P.underlying t = some (.slice e)) (hi : P.info? e = some i) (g c : Nat) :
    (Builtin.append_ #[t, t] ty #[.slice (some ⟨g, 0, none⟩) 0 0, .slice none 0 c]).run P w = .ok (.slice (some ⟨g, 0, none⟩) 0 0) w := by
  simp [Builtin.append_, run_underlying ht, sizeOf, typeInfo, hi, Builtin.lenOf, Builtin.firstCells, storeCells]
/-- an empty row takes a slice, nil too. -/
theorem yieldsV_copy {P : Program} {w : World} {o : Oper} {a : Act} {G : Value → World → Prop} {t e : TypeId} {z : Value} {bytes : Nat} (I : ElemI P t e z 1 bytes)
    {base g0 : Nat} (hown : w.ownsRow base e 1 (.slice (some ⟨g0, 0, none⟩) 0 0) 0 [])
    {A : Option Addr} {m c : Nat} {news : List Value} (hS : Sl w A news) (hl : news.length = m) (h1 : ∀ u ∈ news, u.oneCell' = true)
    (hbytes : m * bytes ≤ 140737488355328) (h63 : m ≤ 9223372036854775807) (hbase : base ≤ w.heap.size)
    {s x : Operand} (ho : o.op = .call { callee := .builtin .append, args := #[s, x], argTypes := #[t, t] }) (hs : a.eval s = .slice (some ⟨g0, 0, none⟩) 0 0) (hx : a.eval x = .slice A m c)
    (h : ∀ g' c' w', w'.ownsRow base e 1 (.slice (some ⟨g', 0, none⟩) m c') m news → w.grownBy w' (some g0) → G (.slice (some ⟨g', 0, none⟩) m c') w') : yields P o a w G := by
  cases A with
  | none =>
    have hn : news = [] := by
      rcases hS with h | ⟨b, off, h, _⟩
      · exact h
      · cases h
    subst hn
    have hm : m = 0 := by simpa using hl.symm
    subst hm
    obtain ⟨i, hi, hz0, hz1, hz2⟩ := info_parts I.hi
    unfold yields
    simp [execOp, ho, resolve, invoke, builtin, hs, hx, runV_none I.ht hi, Result.andThen]
    exact h g0 0 w hown (World.grownBy.refl _ _)
  | some ad =>
    refine yieldsV_app I hown (ad := ad) (m := m) (c := c) (news := news) (fun j u hu => ?_) (by omega) h1 (by rw [Nat.zero_add]; exact hbytes) (by omega) hbase ho hs hx (fun g' c' w' ho' hg' => ?_)
    · rcases hS with rfl | ⟨b, off, h, hc⟩
      · cases hu
      · injection h with h
        subst h
        rw [add_flat]
        exact hc j u hu
    · rw [Nat.zero_add] at ho' ⊢
      exact h g' c' w' ho' hg'
/-! ### the region that builds the first wrong graph -/
abbrev rowG (g n c : Nat) : Value := .slice (some ⟨g, 0, none⟩) n c
def kVE (base : Nat) (e : TypeId) : Kind := ⟨Nat, fun g => rowG g 0 0, fun g w => w.ownsRow base e 1 (rowG g 0 0) 0 [] ∧ w.cell? ⟨g, 0, none⟩ = none⟩
def kVR (base n : Nat) (e : TypeId) (xs : List Value) : Kind := ⟨Nat × Nat, fun p => rowG p.1 n p.2, fun p w => w.ownsRow base e 1 (rowG p.1 n p.2) n xs⟩
def kV1 (z : Value) : Kind := ⟨Nat, fun g => rowG g 1 1, fun g w => w.cell? ⟨g, 0, none⟩ = some z⟩
/-- a row of rows whose first one lies in a block of its own. -/
def kVG (base m n : Nat) (e e2 : TypeId) (xs tail : List Value) : Kind := ⟨(Nat × Nat) × (Nat × Nat), fun p => rowG p.1.1 n p.1.2, fun p w => w.ownsRow base e2 1 (rowG p.1.1 n p.1.2) n (rowG p.2.1 m p.2.2 :: tail) ∧ w.ownsRow base e 1 (rowG p.2.1 m p.2.2) m xs⟩
def regV (m t : Nat) (ys tail : List Value) (z : Value) (w0 : World) : Reg where
  nd := [0, 4, 7, 8, 9, 12]
  K := fun
    | 0 => kVE w0.heap.size 3
    | 4 => kVR w0.heap.size m 3 ys
    | 7 => kV1 z
    | 8 => kVR w0.heap.size (m + 1) 3 (ys ++ [z])
    | 9 => kVG w0.heap.size (m + 1) 1 3 30 (ys ++ [z]) []
    | 12 => kVG w0.heap.size (m + 1) (1 + t) 3 30 (ys ++ [z]) tail
    | _ => ⟨Unit, fun _ => undef, fun _ _ => True⟩
  ne := fun i => by
    split <;> first | exact ⟨((0, 0) : Nat × Nat)⟩ | exact ⟨(((0, 0), (0, 0)) : (Nat × Nat) × (Nat × Nat))⟩ | exact ⟨(0 : Nat)⟩ | exact ⟨()⟩
  I := fun _ w => Below w0.heap.size w0 w
  mono := fun _ _ h => h
  hy := fun
    | 4 => [0]
    | 8 => [4, 7]
    | 9 => [8]
    | 12 => [9]
    | _ => []
  kills := fun
    | 4 => [0, 8, 9, 12]
    | 8 => [0, 4, 7, 9, 12]
    | 12 => [0, 4, 7, 8, 9]
    | _ => []
  live := [12]
theorem regV_alloc (m t : Nat) (ys tail : List Value) (z : Value) (w0 w : World) (o : Obj) (i : Nat) : (regV m t ys tail z w0).keeps i w (w.alloc o) := by
  intro k hk _ _
  simp only [regV, List.mem_cons, List.not_mem_nil, or_false] at hk
  rcases hk with rfl | rfl | rfl | rfl | rfl | rfl
  · exact fun (y : Nat) h => ⟨h.1.alloc o, by rw [World.cell?_alloc_lt w o ⟨y, 0, none⟩ (h.1.lt y rfl).2]; exact h.2⟩
  · exact fun (y : Nat × Nat) h => World.ownsRow.alloc h o
  · exact fun (y : Nat) h => (World.cell?_alloc_lt w o ⟨y, 0, none⟩ (World.block_lt_of_cell? w _ h)).trans h
  · exact fun (y : Nat × Nat) h => World.ownsRow.alloc h o
  · exact fun (y : (Nat × Nat) × (Nat × Nat)) h => ⟨World.ownsRow.alloc h.1 o, World.ownsRow.alloc h.2 o⟩
  · exact fun (y : (Nat × Nat) × (Nat × Nat)) h => ⟨World.ownsRow.alloc h.1 o, World.ownsRow.alloc h.2 o⟩
/-! ### the wrong graphs -/
theorem bad_first {zs : List Int} {tail : List (List Int)} : graphValid ((zs ++ [((tail.length + 1 : Nat) : Int)]) :: tail) = false := by
  cases h : graphValid ((zs ++ [((tail.length + 1 : Nat) : Int)]) :: tail) with
  | false => rfl
  | true =>
    exfalso
    have := (graph_nodes h).2 0 (by simp) ((tail.length + 1 : Nat) : Int) (by simp)
    simp at this
theorem bad_twice {tail : List (List Int)} : graphValid ([0, 0] :: tail) = false := by
  cases h : graphValid ([0, 0] :: tail) with
  | false => rfl
  | true =>
    exfalso
    have := rowOk_nodup (valid_row h (b := 0) (by simp))
    simp at this
theorem own_litV (w : World) (arr : Array Value) {e : TypeId} {base B : Nat} (hb : base ≤ w.heap.size) (hB : B = w.heap.size) (hm : arr.size = 1 := by rfl) : (w.alloc (.cells arr e)).ownsRow base e 1 (.slice (some ⟨B, 0, none⟩) 1 1) 1 arr.toList := by
  subst hB
  exact World.ownsRow_lit (w := w) (base := base) (e := e) (size := 1) arr 1 hb (by simp [maxLen]) (by rw [hm])
theorem keptV {w W : World} {p : Addr} {xs : List Value} (hb : Below w.heap.size w W) (h : ∀ j u, xs[j]? = some u → w.cell? (p.add j) = some u) : ∀ j u, xs[j]? = some u → W.cell? (p.add j) = some u :=
  fun j u hu => (hb.cell (World.block_lt_of_cell? w _ (h j u hu))).trans (h j u hu)
theorem graphValid_walk (A : Option Addr) (c : Nat) (zs : List Int) (w : World) (hl : zs.length ≤ 9223372036854775807) (hcap : zs.length ≤ c) (hs : Sl w A (u8s zs)) (hz : ∀ z ∈ zs, 0 ≤ z ∧ z ≤ 255) :
    Calls Try.prog 4 #[.slice A zs.length c] w fun e w' => e = .returned (.bool true) ∧ Below w.heap.size w w' := by
  by_cases hbig : 1048576 < zs.length
  · go_enter Try.func4, Try.ntmps4
    go_wp2_with fail
    go_ret
    exact ⟨rfl, Below.refl _ _⟩
  · go_enter Try.func4, Try.ntmps4
    go_wp2_with fail
    refine (drawGraphValid_any _ _ _ _ hl hcap hs hz).mono ?_
    rintro e w1 ⟨A1, c1, rs, rfl, g1, hn1, hn2, hr1, b1, hcp⟩
    have G1 := mkHid g1
    have B1 := mkHid b1
    have HR := mkHid hr1
    clear g1 b1 hr1 hs hz
    obtain ⟨v, hv⟩ : ∃ v, v = graphValid (graph rs) := ⟨_, rfl⟩
    have himpl := fun w hs => implGraphValid_any A1 c1 rs w (by omega) hs
    have hspec := fun w hs => specGraphValid_any A1 c1 rs w (by omega) hs
    rw [← hv] at himpl hspec
    have HIM := mkHid himpl
    have HSP := mkHid hspec
    clear himpl hspec hv
    go_wp2_with fail
    refine (HIM.out _ G1.out).mono ?_
    rintro e w2 ⟨rfl, rfl⟩
    go_wp2_with fail
    refine (HSP.out _ G1.out).mono ?_
    rintro e w2 ⟨rfl, k2, rfl⟩
    have G2 := mkHid (G1.out.drewN k2)
    have B2 := mkHid (below_drewN B1.out k2)
    generalize w1.drewN k2 = w2 at *
    clear G1 B1 HIM HSP
    cases v with
    | false =>
      go_wp2_with fail
      refine (alive_any _).mono ?_
      rintro e w9 ⟨rfl, rfl⟩
      go_wp2_with fail
      go_ret
      exact ⟨rfl, B2.out⟩
    | true =>
      cases rs with
      | nil => simp at hn1
      | cons r tail =>
      obtain ⟨ra, rc, xs⟩ := r
      obtain ⟨b, off, rfl, h1, h2, h3, h4⟩ := G2.out.at_ (k := 0) (by simp)
      have h1 : w2.cell? ⟨b, off, none⟩ = some (.slice ra xs.length rc) := h1
      have S2 := mkHid (show Sl w2 ra (ints xs) from h2)
      have hx10 : xs.length ≤ 10 := HR.out _ (List.mem_cons_self ..)
      have htl : List.length tail ≤ 64 := by simp at hn2; omega
      have HTC := mkHid (show ∀ j u, (rowVs tail)[j]? = some u → w2.cell? ((⟨b, off + 1, none⟩ : Addr).add j) = some u from fun j u hu => by
        rcases G2.out.1 with h | ⟨b', off', he, hc⟩
        · cases h
        · injection he with he
          injection he with he1 he2
          subst he1 he2
          rw [add_flat]
          have := hc (j + 1) u (by simpa [rowVs] using hu)
          rw [show off + 1 + j = off + (j + 1) by omega]
          exact this)
      obtain ⟨t, ht⟩ : ∃ t, t = List.length tail := ⟨_, rfl⟩
      have HT := mkHid ht
      obtain ⟨m, hm⟩ : ∃ m, m = xs.length := ⟨_, rfl⟩
      have HM := mkHid hm
      rw [List.length_cons, ← ht] at hn2 hcp ⊢
      rw [← hm] at h1 hx10
      rw [← ht] at htl
      have hne : (((t + 1 : Nat) : Int) == 0) = false := by rw [beq_eq_false_iff_ne]; omega
      have hne' : ((t : Int) + 1 == 0) = false := by rw [beq_eq_false_iff_ne]; omega
      have HC := mkHid h1
      have HTL := mkHid (show ∀ r ∈ tail, Sl w2 r.a (ints r.zs) ∧ r.zs.length ≤ r.c ∧ r.zs.length ≤ 9223372036854775807 from fun r hr => G2.out.2 r (List.mem_cons_of_mem _ hr))
      clear ht hm h2 h3 h4 hn1
      go_wp2_with fail
      have HNC := mkHid (show ((ints xs).length = m) from by rw [HM.out]; simp [ints])
      have HNL := mkHid (show (rowVs tail).length = t from by rw [HT.out]; simp [rowVs])
      have hone : ∀ u ∈ ints xs, u.oneCell' = true := fun u hu => by
        obtain ⟨z, _, rfl⟩ := List.mem_map.1 hu
        rfl
      have honeT : ∀ u ∈ rowVs tail, u.oneCell' = true := fun u hu => by
        obtain ⟨z, _, rfl⟩ := List.mem_map.1 hu
        rfl
      have HON := mkHid hone
      have HOT := mkHid honeT
      have hclR : ∀ u : (regV m t (ints xs) (rowVs tail) (.int .i64 ((t : Int) + 1)) w2).W, u.1.cell? ⟨b, off, none⟩ = some (.slice ra m rc) := fun u => by
        obtain ⟨_, hb⟩ := u.2
        exact (Below.cell hb (World.block_lt_of_cell? w2 _ HC.out)).trans HC.out
      clear hone honeT h1
      refine wp_region_N (regV m t (ints xs) (rowVs tail) (.int .i64 ((t : Int) + 1)) w2) (by kernel_rfl) (by kernel_rfl) (by kernel_rfl) ⟨rfl, rfl, rfl, Nat.le_refl _, fun _ _ => rfl⟩ (fun ch => ?_)
      -- 0
      refine wpN_nd rfl rfl ?_ (fun x hx0 => ?_)
      · intro m' w hm hI hh
        simp [yields, go_sem]
        exact ⟨(w.heap.size : Nat), rfl, ⟨own_emptyB w _ (Below.size hI) rfl, by rw [cell_of_row _ _ 0 _ _ _ (heap_alloc_new w _)]; rfl⟩, Below.alloc hI (Below.size hI) _, regV_alloc _ _ _ _ _ _ _ _ _⟩
      obtain ⟨g0, rfl⟩ : ∃ g : Nat, g = x := ⟨x, rfl⟩
      show wpN _ _ _ _ _ _ _ (Act.put _ _ (.slice (some ⟨g0, 0, none⟩) 0 0))
      simp only [Act.put, List.setIfInBounds_toArray, List.set_cons_succ, List.set_cons_zero]
      refine wpN_det rfl rfl rfl (fun K hK => ?_); go_big_quiet_op; first | (refine hK _ ?_; clear hK K) | (refine ⟨_, fun _ => rfl, hK _ ?_⟩; clear hK K)
      refine wpN_det rfl rfl rfl (fun K hK => ?_); go_big_quiet_op; first | (refine hK _ ?_; clear hK K) | (refine ⟨_, fun _ => rfl, hK _ ?_⟩; clear hK K)
      refine wpN_det rfl rfl rfl (fun K hK => ?_); go_big_quiet_op; first | (refine hK _ ?_; clear hK K) | (refine ⟨_, fun _ => rfl, hK _ ?_⟩; clear hK K)
      -- 4
      refine wpN_nd rfl rfl ?_ (fun x hx4 => ?_)
      · intro m' w hm hI hh
        have h0 := hh 0 (List.mem_singleton_self 0)
        rw [hx0] at h0
        refine yieldsV_copy Ei h0.1 (S2.out.below hI) HNC.out HON.out (by omega) (by omega) (Below.size hI) rfl rfl rfl ?_
        intro g' c' w' hown' hg'
        refine ⟨((g', c') : Nat × Nat), rfl, hown', Below.grown hI hg' (Below.size hI) (fun g e => by cases e; exact (h0.1.lt g0 rfl).1), ?_⟩
        intro k hk hne hkill
        have : k = 7 := by
          simp only [regV, List.mem_cons, List.not_mem_nil, or_false] at hk hkill
          omega
        subst this
        intro (y : Nat) hy
        refine hg'.cell hy (fun e => ?_)
        have e : y = g0 := by injection e
        subst e
        have := h0.2
        rw [show w.cell? ⟨y, 0, none⟩ = some (.int .i64 ((t : Int) + 1)) from hy] at this
        cases this
      obtain ⟨⟨g2, c2⟩, rfl⟩ : ∃ g : Nat × Nat, g = x := ⟨x, rfl⟩
      show wpN _ _ _ _ _ _ _ (Act.put _ _ (.slice (some ⟨g2, 0, none⟩) m c2))
      simp only [Act.put, List.setIfInBounds_toArray, List.set_cons_succ, List.set_cons_zero]
      refine wpN_det rfl rfl rfl (fun K hK => ?_); go_big_quiet_op; first | (refine hK _ ?_; clear hK K) | (refine ⟨_, fun _ => rfl, hK _ ?_⟩; clear hK K)
      refine wpN_det rfl rfl rfl (fun K hK => ?_); go_big_quiet_op; first | (refine hK _ ?_; clear hK K) | (refine ⟨_, fun _ => rfl, hK _ ?_⟩; clear hK K)
      -- 7
      refine wpN_nd rfl rfl ?_ (fun x hx7 => ?_)
      · intro m' w hm hI hh
        simp [yields, go_sem]
        refine ⟨(w.heap.size : Nat), rfl, ?_, Below.alloc hI (Below.size hI) _, regV_alloc _ _ _ _ _ _ _ _ _⟩
        have := newCells w [.int .i64 ((t : Int) + 1)] 3 0 _ rfl
        rw [add_flat] at this
        exact this
      obtain ⟨g3, rfl⟩ : ∃ g : Nat, g = x := ⟨x, rfl⟩
      show wpN _ _ _ _ _ _ _ (Act.put _ _ (.slice (some ⟨g3, 0, none⟩) 1 1))
      simp only [Act.put, List.setIfInBounds_toArray, List.set_cons_succ, List.set_cons_zero]
      -- 8
      refine wpN_nd rfl rfl ?_ (fun x hx8 => ?_)
      · intro m' w hm hI hh
        have h4 := hh 4 (by exact List.mem_cons_self ..)
        have h7 := hh 7 (by exact List.mem_cons_of_mem _ (List.mem_cons_self ..))
        rw [hx4] at h4
        rw [hx7] at h7
        have h7' : w.cell? ⟨g3, 0, none⟩ = some (.int .i64 ((t : Int) + 1)) := h7
        refine yieldsV_app Ei h4 (news := [.int .i64 ((t : Int) + 1)]) (m := 1) (c := 1) (ad := ⟨g3, 0, none⟩) (fun j u hu => ?_) rfl (fun u hu => by rw [List.mem_singleton.1 hu]; rfl) (by omega) (by omega) (Below.size hI) rfl rfl rfl ?_
        · have : j = 0 := by
            have := (List.getElem?_eq_some_iff.1 hu).1
            simp at this; exact this
          subst this
          rw [add_flat]
          rw [show (0 + 0 : Nat) = 0 from rfl, h7']
          exact hu
        intro g' c' w' hown' hg'
        refine ⟨((g', c') : Nat × Nat), rfl, hown', Below.grown hI hg' (Below.size hI) (fun g e => by cases e; exact (h4.lt g2 rfl).1), ?_⟩
        intro k hk hne hkill
        exfalso
        simp only [regV, List.mem_cons, List.not_mem_nil, or_false] at hk hkill
        omega
      obtain ⟨⟨g5, c5⟩, rfl⟩ : ∃ g : Nat × Nat, g = x := ⟨x, rfl⟩
      show wpN _ _ _ _ _ _ _ (Act.put _ _ (.slice (some ⟨g5, 0, none⟩) (m + 1) c5))
      simp only [Act.put, List.setIfInBounds_toArray, List.set_cons_succ, List.set_cons_zero]
      -- 9
      refine wpN_nd rfl rfl ?_ (fun x hx9 => ?_)
      · intro m' w hm hI hh
        have h8 := hh 8 (List.mem_singleton_self 8)
        rw [hx8] at h8
        simp [yields, go_sem]
        refine ⟨(((w.heap.size, 1), (g5, c5)) : (Nat × Nat) × (Nat × Nat)), rfl, ⟨?_, World.ownsRow.alloc h8 _⟩, Below.alloc hI (Below.size hI) _, regV_alloc _ _ _ _ _ _ _ _ _⟩
        have := World.ownsRow_lit (w := w) (base := w2.heap.size) (e := 30) (size := 1) #[rowG g5 (m + 1) c5] 1 (Below.size hI) (by simp [maxLen]) (by simp)
        exact this
      obtain ⟨⟨⟨g6, c6⟩, ⟨g7, c7⟩⟩, rfl⟩ : ∃ g : (Nat × Nat) × (Nat × Nat), g = x := ⟨x, rfl⟩
      show wpN _ _ _ _ _ _ _ (Act.put _ _ (.slice (some ⟨g6, 0, none⟩) 1 c6))
      simp only [Act.put, List.setIfInBounds_toArray, List.set_cons_succ, List.set_cons_zero]
      refine wpN_det rfl rfl rfl (fun K hK => ?_); go_big_quiet_op; first | (refine hK _ ?_; clear hK K) | (refine ⟨_, fun _ => rfl, hK _ ?_⟩; clear hK K)
      have i1 : (1 : Int) ≤ ((t + 1 : Nat) : Int) := by omega
      have i2 : ((t + 1 : Nat) : Int) ≤ (c1 : Int) := by omega
      have i3 : (1 : Int) ≤ (c1 : Int) := by omega
      by_cases hc1 : c1 = 1
      case' pos =>
        refine wpN_det rfl rfl rfl (fun K hK => ?_); go_big_quiet_op; first | (refine hK _ ?_; clear hK K) | (refine ⟨_, fun _ => rfl, hK _ ?_⟩; clear hK K)
        have HTP : Hid (∀ j u, (rowVs tail)[j]? = some u → w2.cell? ((⟨b, off, none⟩ : Addr).add j) = some u) := mkHid (fun j u hu => by
          have h0 : (rowVs tail).length = 0 := by rw [HNL.out]; omega
          rw [List.getElem?_eq_none (by omega)] at hu
          cases hu)
      case' neg =>
        refine wpN_det rfl rfl rfl (fun K hK => ?_); go_big_quiet_op; first | (refine hK _ ?_; clear hK K) | (refine ⟨_, fun _ => rfl, hK _ ?_⟩; clear hK K)
        have HTP := HTC
      all_goals (
        clear HTC
        -- 12
        refine wpN_nd rfl rfl ?_ (fun x hx12 => ?_)
        · intro m' w hm hI hh
          have h9 := hh 9 (List.mem_singleton_self 9)
          rw [hx9] at h9
          refine yieldsV_app Er h9.1 (keptV hI HTP.out) (HNL.out.trans (Nat.mul_one t).symm) HOT.out (by omega) (by omega) (Below.size hI) rfl rfl rfl ?_
          intro g' c' w' hown' hg'
          refine ⟨(((g', c'), (g7, c7)) : (Nat × Nat) × (Nat × Nat)), rfl, ⟨hown', ?_⟩, Below.grown hI hg' (Below.size hI) (fun g e => by cases e; exact (h9.1.lt g6 rfl).1), ?_⟩
          · exact own_grown' h9.2 hg' (fun g e1 e2 => by
              injection e2 with e2
              exact own_types' h9.1 h9.2 (by decide) e1 e2.symm)
          intro k hk hne hkill
          exfalso
          simp only [regV, List.mem_cons, List.not_mem_nil, or_false] at hk hkill
          omega
        obtain ⟨⟨⟨g8, c8⟩, ⟨g9, c9⟩⟩, rfl⟩ : ∃ g : (Nat × Nat) × (Nat × Nat), g = x := ⟨x, rfl⟩
        show wpN _ _ _ _ _ _ _ (Act.put _ _ (.slice (some ⟨g8, 0, none⟩) (1 + t) c8))
        simp only [Act.put, List.setIfInBounds_toArray, List.set_cons_succ, List.set_cons_zero]
        refine wpN_det rfl rfl rfl (fun K hK => ?_); go_big_quiet_op; first | (refine hK _ ?_; clear hK K) | (refine ⟨_, fun _ => rfl, hK _ ?_⟩; clear hK K)
        refine wpN_end (fun w4 hI4 hV => ?_)
        have h12 := hV 12 (List.mem_singleton_self 12)
        rw [hx12] at h12
        have B4 : Hid (Below w2.heap.size w2 w4) := mkHid hI4
        have HO4 : Hid (w4.ownsRow w2.heap.size 30 1 (.slice (some ⟨g8, 0, none⟩) (1 + t) c8) (1 + t) (rowG g9 (m + 1) c9 :: rowVs tail)) := mkHid h12.1
        have HO9 : Hid (w4.ownsRow w2.heap.size 3 1 (rowG g9 (m + 1) c9) (m + 1) (ints xs ++ [.int .i64 ((t : Int) + 1)])) := mkHid h12.2
        have hz4 := B4.out.size
        have HA := mkHid (show Grid w4 (some ⟨g8, 0, none⟩) ((⟨some ⟨g9, 0, none⟩, c9, xs ++ [((t + 1 : Nat) : Int)]⟩ : Row) :: tail) from by
          have e : (xs ++ [((t + 1 : Nat) : Int)]).length = m + 1 := by rw [List.length_append, ← HM.out]; rfl
          refine ⟨?_, fun r hr => ?_⟩
          · have e2 : rowVs ((⟨some ⟨g9, 0, none⟩, c9, xs ++ [((t + 1 : Nat) : Int)]⟩ : Row) :: tail) = rowG g9 (m + 1) c9 :: rowVs tail := by
              simp only [rowVs, List.map_cons, rowV]
              rw [e]
            rw [e2]
            exact Sl.of_own HO4.out
          · rcases List.mem_cons.1 hr with h | h
            · subst h
              refine ⟨?_, ?_, ?_⟩
              · have := Sl.of_own HO9.out
                simpa [ints] using this
              · have := own_cap HO9.out
                show (xs ++ [((t + 1 : Nat) : Int)]).length ≤ c9
                rw [e]; exact this
              · show (xs ++ [((t + 1 : Nat) : Int)]).length ≤ _
                rw [e]; omega
            · have := HTL.out r h
              exact ⟨this.1.below B4.out, this.2⟩)
        have HCA := mkHid (show ∀ W, Grid W (some ⟨g8, 0, none⟩) ((⟨some ⟨g9, 0, none⟩, c9, xs ++ [((t + 1 : Nat) : Int)]⟩ : Row) :: tail) → Calls Try.prog 13 #[.slice (some ⟨g8, 0, none⟩) (1 + t) c8] W fun e w' => e = .returned (.bool false) ∧ W = w' from fun W hG => by
          have h1 := implGraphValid_any (some ⟨g8, 0, none⟩) c8 _ W (by simp; have := HT.out; omega) hG
          have e1 : graphValid (graph ((⟨some ⟨g9, 0, none⟩, c9, xs ++ [((t + 1 : Nat) : Int)]⟩ : Row) :: tail)) = false := by
            have := bad_first (zs := xs) (tail := graph tail)
            rw [show (graph tail).length = t from by rw [HT.out]; simp] at this
            exact this
          rw [e1, List.length_cons, ← HT.out, Nat.add_comm t 1] at h1
          exact h1)
        have HCB := mkHid (show ∀ W g c, Grid W (some ⟨g, 0, none⟩) ((⟨some ⟨w4.heap.size, 0, none⟩, 2, [0, 0]⟩ : Row) :: tail) → Calls Try.prog 13 #[.slice (some ⟨g, 0, none⟩) (1 + t) c] W fun e w' => e = .returned (.bool false) ∧ W = w' from fun W g c hG => by
          have h1 := implGraphValid_any (some ⟨g, 0, none⟩) c _ W (by simp; have := HT.out; omega) hG
          have e1 : graphValid (graph ((⟨some ⟨w4.heap.size, 0, none⟩, 2, [0, 0]⟩ : Row) :: tail)) = false := bad_twice (tail := graph tail)
          rw [e1, List.length_cons, ← HT.out, Nat.add_comm t 1] at h1
          exact h1)
        have hr0 : (w4.alloc (.cells #[.int .i64 0, .int .i64 0] 3)).ownsRow w4.heap.size 3 1 (.slice (some ⟨w4.heap.size, 0, none⟩) 2 2) 2 (ints [0, 0]) := own_lits w4 [0, 0] (Nat.le_refl _) rfl rfl (by omega)
        have HR0 := mkHid hr0
        clear hr0 h12 hV hI4 hx0 hx4 hx7 hx8 hx9 hx12 hclR
        go_wp2_with (at_builtin; refine wpList_appS Er (own_litV _ _ (base := w2.heap.size) (by simp; omega) (by simp)) (keptV ((B4.out.alloc hz4 _).alloc (by simp; omega) _) HTP.out) (HNL.out.trans (Nat.mul_one t).symm) HOT.out (by omega) (by omega) (by simp; omega) rfl rfl rfl rfl ?_; intro g5 c5 w5 hown5 hg5; have HO5 := mkHid hown5; have HG5 := mkHid hg5; clear hown5 hg5)
        have hb5 : Below w4.heap.size w4 w5 := (((Below.refl _ _).alloc (Nat.le_refl _) _).alloc (by simp) _).grown HG5.out (by simp; omega) (fun q e => by injection e with e; omega)
        have HAG := mkHid (HA.out.below hb5)
        have HBW := mkHid (below_then B2.out (below_then B4.out hb5))
        have HBG := mkHid (show Grid w5 (some ⟨g5, 0, none⟩) ((⟨some ⟨w4.heap.size, 0, none⟩, 2, [0, 0]⟩ : Row) :: tail) from by
          refine ⟨Sl.of_own HO5.out, fun r hr => ?_⟩
          rcases List.mem_cons.1 hr with h | h
          · subst h
            have := own_grown' (HR0.out.alloc (.cells #[.slice (some ⟨w4.heap.size, 0, none⟩) 2 2] 30)) HG5.out (fun g e1 e2 => by
              have e1 : some w4.heap.size = some g := e1
              injection e1 with e1
              injection e2 with e2
              omega)
            exact ⟨Sl.of_own this, Nat.le_refl _, by simp⟩
          · have := HTL.out r h
            exact ⟨(this.1.below B4.out).below hb5, this.2⟩)
        clear hb5
        refine (HCA.out _ HAG.out).mono ?_
        rintro e w6 ⟨rfl, rfl⟩
        go_wp2_with fail
        refine (HCB.out _ _ _ HBG.out).mono ?_
        rintro e w6 ⟨rfl, rfl⟩
        go_wp2_with fail
        go_ret
        exact ⟨rfl, HBW.out⟩)
namespace fnGraphValid
set_option maxRecDepth 100000 in
theorem lifted (os : Os) (started : os.Started) (H : Type) (enc : TypeId × Value → H) :
    ReturnsInHanded {} Try.checked os 4 .any (Rows.fnGraphValidSpec.pre6 enc Try.prog Try.f4 Rows.fnGraphValidRow.domain false) (Rows.fnGraphValidSpec.post enc Try.prog Try.f4 false true false false) := by
  refine returnsInHanded_of_change (C := Try.checked) own started (by kernel_rfl) Try.func4
    (ChangeSpec.witness6 (enc := enc) (C := Try.checked) false ⟨#[], #[.slice none 0 0], []⟩ 8 (by kernel_rfl) (by kernel_rfl) (by kernel_rfl) (by kernel_rfl)) ?_
  intro W base args ds gs before hval0 hW hcnd _
  have hval : ∀ (j : Nat) t v, Try.f4.params[j]? = some t → args[j]? = some v → Value.okWide Try.prog W .any base t v := hval0
  have hW' := hW
  obtain ⟨p, q, hA0, hV, rfl, hfz, hnd⟩ := hW
  have hA : DataW.TrodAll enc Try.prog W 0 (fun _ => true) true Try.f4.params.toList args.toList ds p := hA0
  have hAk : DataW.TrodAll enc Try.prog W 0 (fun _ => true) true Try.f4.params.toList args.toList ds p := hA0
  rw [Try.params4] at hA hval
  obtain ⟨v0, vs0, d0, ds0, p0, q0, hargs, rfl, rfl, h0, r0⟩ := trodAll_cons hA
  obtain ⟨rfl, rfl, rfl⟩ := trodAll_nil r0
  obtain rfl : args = #[v0] := by cases args; simp_all
  obtain ⟨rfl, rfl⟩ := trodVars_none hV
  obtain ⟨Azs, czs, zs, rfl, nzs, kzs, szs, wzs⟩ := open_int_slice Try.underlying27 Try.underlying5 (by kernel_rfl) (hval 0 27 v0 rfl rfl) h0
  have wzs : ∀ z ∈ zs, 0 ≤ z ∧ z ≤ 255 := fun z hz => wf_u8_bounds (wzs z hz)
  clear hA0 hval0
  refine (graphValid_walk Azs czs zs W nzs kzs szs wzs).mono fun e W' ⟨he, hb⟩ => ?_
  subst he
  refine ⟨_, rfl, post_true laidOut (fun t ht => ?_) (by kernel_rfl) Try.underlying4 rfl rfl hW' hAk hb⟩
  rw [Try.params4] at ht
  simp only [List.mem_cons, List.not_mem_nil, or_false] at ht
  first | (rcases ht with rfl <;> exact ⟨by kernel_rfl, of_decide_eq_true (by kernel_rfl)⟩) | (obtain rfl := ht; exact ⟨by kernel_rfl, of_decide_eq_true (by kernel_rfl)⟩)
/-- The statement. -/
theorem proved : Rows.FnGraphValidSaid :=
  OpenClaim.holds_of_wide 4 Try.f4 rfl rfl rfl rfl rfl rfl rfl ⟨rfl, rfl, rfl, rfl, rfl⟩ rfl rfl rfl rfl rfl (by kernel_rfl) Try.func4 (by kernel_rfl)
    (of_decide_eq_true (by kernel_rfl)) (by unfold Func.isWrapper; first | (rw [if_pos (by decide +kernel)]; kernel_rfl) | (rw [if_neg (by decide +kernel)]; exact ⟨rfl, rfl⟩))
    (fun os started H enc _ => lifted os started H enc)
end fnGraphValid
#print axioms fnGraphValid.proved
end Go.Proofs.Ytabpcbikbhbcaaa
