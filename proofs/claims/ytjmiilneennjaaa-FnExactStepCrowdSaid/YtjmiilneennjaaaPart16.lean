/-
  Parts of a proof: LibCopy, CCopy.
-/
import Derived.Test.YtjmiilneennjaaaPart03
import Derived.Maps.AppendAt
import Derived.Deep.RegionLaw
import Derived.Deep.AppendLies
import Derived.Deep.RegionHeld3
namespace Go.Proofs.Ytjmiilneennjaaa
open Go.RowKit
set_option linter.unusedVariables false

theorem run_app_nilS {P : Program} {w : World} {t ty e : TypeId} {i : TypeInfo} (ht : P.underlying t = some (.slice e)) (hi : P.info? e = some i) (g c : Nat) :
    (Builtin.append_ #[t, t] ty #[.slice (some ⟨g, 0, none⟩) 0 0, .slice none 0 c]).run P w = .ok (.slice (some ⟨g, 0, none⟩) 0 0) w := by
  simp [Builtin.append_, run_underlying ht, sizeOf, typeInfo, hi, Builtin.lenOf, Builtin.firstCells, storeCells]
theorem wp_copy {P : Program} {w : World} {o : Oper} {a : Act} {K : Act → World → Prop} {Q : Exit → Act → World → Prop} {t e : TypeId} {z : Value} {size bytes : Nat} (I : ElemI P t e z size bytes)
    {base g0 m c : Nat} {A : Option Addr} {xs : List Value} (hown : w.ownsRow base e size (.slice (some ⟨g0, 0, none⟩) 0 0) 0 []) (hS : Sl w A xs) (hl : xs.length = m * size) (h1 : ∀ u ∈ xs, u.oneCell' = true)
    (hbytes : m * bytes ≤ 140737488355328) (h63 : m ≤ 9223372036854775807) (hbase : base ≤ w.heap.size)
    {s x : Operand} (ho : o.op = .call { callee := .builtin .append, args := #[s, x], argTypes := #[t, t] }) (hs : a.eval s = .slice (some ⟨g0, 0, none⟩) 0 0) (hx : a.eval x = .slice A m c)
    (h : ∀ r c' w', w'.ownsRow base e size (.slice (some ⟨r, 0, none⟩) m c') m xs → w.grownBy w' (some g0) → (r = g0 ∨ r = w.heap.size) → K (a.put o.dst (.slice (some ⟨r, 0, none⟩) m c')) w') : o.wp P a w K Q := by
  obtain ⟨i, hi, hz0, hz1, hz2⟩ := info_parts I.hi
  have hz := I.hs
  cases A with
  | none =>
    have hxs : xs = [] := by
      rcases hS with hS | ⟨b, off, hA, _⟩
      · exact hS
      · cases hA
    subst hxs
    have hm : m = 0 := by
      rcases Nat.eq_zero_or_pos m with h0 | h0
      · exact h0
      · have := Nat.mul_pos h0 hz; simp at hl; omega
    subst hm
    unfold Oper.wp execOp
    simp only [ho, resolve, invoke, builtin, Sem.run_bind, Sem.run_pure, Result.andThen_ok, List.map_toArray, List.map_cons, List.map_nil, hs, hx, run_app_nilS I.ht hi]
    exact h g0 0 w hown (World.grownBy.refl _ _) (.inl rfl)
  | some ad =>
    have hnews : ∀ j u, xs[j]? = some u → w.cell? (ad.add j) = some u := by
      rcases hS with hS | ⟨b, off, hA, hc⟩
      · subst hS; intro j u hu; simp at hu
      · injection hA with hA; subst hA
        intro j u hu
        rw [add_flat]
        exact hc j u hu
    obtain ⟨v', w', hr, h2, h3, h4, h5⟩ := run_append_own_at (P := P) w base t o.type e i z size bytes I.ht hi hz0 hz1 hz2 I.hz I.hs _ 0 [] hown ad m c xs hl hnews h1 (by simp only [maxLen]; omega) (by rw [Nat.zero_add]; exact hbytes) hbase
    unfold Oper.wp execOp
    simp only [ho, resolve, invoke, builtin, Sem.run_bind, Sem.run_pure, Result.andThen_ok, List.map_toArray, List.map_cons, List.map_nil, hs, hx, hr]
    rw [Nat.zero_add, List.nil_append] at h2
    obtain ⟨r, c', rfl⟩ := own_some h2 (fun e => by have := h4.1 e; simp at this)
    refine h r c' w' h2 h3 ?_
    rcases h5 with h5 | h5
    · left; simpa [Value.ownBlock] using h5
    · right; simpa [Value.ownBlock] using h5
theorem step_copy {P : Program} {ops : Array Oper} {w : World} {o : Oper} {a : Act} {K : Act → World → Prop} {Q : Exit → Act → World → Prop} {E : Prop} (hgd : o.guard = none) {t e : TypeId} {z : Value} {size bytes : Nat} (I : ElemI P t e z size bytes)
    {base g0 m c : Nat} {A : Option Addr} {xs : List Value} (hown : w.ownsRow base e size (.slice (some ⟨g0, 0, none⟩) 0 0) 0 []) (hS : Sl w A xs) (hl : xs.length = m * size) (h1 : ∀ u ∈ xs, u.oneCell' = true)
    (hbytes : m * bytes ≤ 140737488355328) (h63 : m ≤ 9223372036854775807) (hbase : base ≤ w.heap.size)
    {s x : Operand} (ho : o.op = .call { callee := .builtin .append, args := #[s, x], argTypes := #[t, t] }) (hs : a.eval s = .slice (some ⟨g0, 0, none⟩) 0 0) (hx : a.eval x = .slice A m c)
    (h : ∀ r c' w', w'.ownsRow base e size (.slice (some ⟨r, 0, none⟩) m c') m xs → w.grownBy w' (some g0) → (r = g0 ∨ r = w.heap.size) → K (a.put o.dst (.slice (some ⟨r, 0, none⟩) m c')) w') :
    if Region.wanted o (yielded ops a.tmps) = true then Oper.wp P o a w K Q else E := by
  have hw : Region.wanted o (yielded ops a.tmps) = true := by simp [Region.wanted, hgd]
  rw [if_pos hw]
  exact wp_copy I hown hS hl h1 hbytes h63 hbase ho hs hx h
theorem wpList_copyS {P : Program} {w : World} {ops : Array Oper} {rest : List Oper} {o : Oper} {a : Act} {Q : Exit → Act → World → Prop} (hgd : o.guard = none) {t e : TypeId} {z : Value} {size bytes : Nat} (I : ElemI P t e z size bytes)
    {base g0 m c : Nat} {A : Option Addr} {xs : List Value} (hown : w.ownsRow base e size (.slice (some ⟨g0, 0, none⟩) 0 0) 0 []) (hS : Sl w A xs) (hl : xs.length = m * size) (h1 : ∀ u ∈ xs, u.oneCell' = true)
    (hbytes : m * bytes ≤ 140737488355328) (h63 : m ≤ 9223372036854775807) (hbase : base ≤ w.heap.size)
    {s x : Operand} (ho : o.op = .call { callee := .builtin .append, args := #[s, x], argTypes := #[t, t] }) (hs : a.eval s = .slice (some ⟨g0, 0, none⟩) 0 0) (hx : a.eval x = .slice A m c)
    (h : ∀ r c' w', w'.ownsRow base e size (.slice (some ⟨r, 0, none⟩) m c') m xs → w.grownBy w' (some g0) → (r = g0 ∨ r = w.heap.size) → wpList P ops Q rest (a.put o.dst (.slice (some ⟨r, 0, none⟩) m c')) w') : wpList P ops Q (o :: rest) a w :=
  wpList_plain hgd fun K hK => wp_copy I hown hS hl h1 hbytes h63 hbase ho hs hx fun r c' w' h2 h3 h4 => hK _ _ (h r c' w' h2 h3 h4)
end Go.Proofs.Ytjmiilneennjaaa

namespace Go.Proofs.Ytjmiilneennjaaa
open Go.RowKit
set_option maxHeartbeats 2000000
set_option maxRecDepth 100000
set_option linter.unusedVariables false

theorem Apt.app {w w' : World} {lo mid : Nat} {rs qs : List IR} (h : Apt w lo rs) (hb : Below w.heap.size w w') (hlo : lo ≤ mid) (hm : w.heap.size ≤ mid) (k : Apt w' mid qs) : Apt w' lo (rs ++ qs) := by
  have h' := h.below hb
  refine ⟨fun r hr => ?_, fun i j hi hj hne g h1 h2 => ?_⟩
  · rcases List.mem_append.1 hr with h1 | h1
    · exact h'.1 r h1
    · exact own_base (k.1 r h1) hlo
  · rw [List.length_append] at hi hj
    have hlt : ∀ i (hi : i < rs.length) g, (irV rs[i]).ownBlock = some g → g < w.heap.size := fun i hi g e => ((h.1 _ (List.getElem_mem hi)).lt g e).2
    have hge : ∀ i (hi : i < qs.length) g, (irV qs[i]).ownBlock = some g → mid ≤ g := fun i hi g e => ((k.1 _ (List.getElem_mem hi)).lt g e).1
    rw [List.getElem_append] at h1 h2
    split at h1
    · split at h2
      · exact h.2 i j (by assumption) (by assumption) hne g h1 h2
      · have a := hlt i (by assumption) g h1
        have b := hge _ (by omega) g h2
        omega
    · split at h2
      · have a := hlt j (by assumption) g h2
        have b := hge _ (by omega) g h1
        omega
      · exact k.2 (i - rs.length) (j - rs.length) (by omega) (by omega) (by omega) g h1 h2
theorem Apt.two {w w' : World} {lo mid : Nat} {r s : IR} (h : w.ownsRow lo 3 1 (irV r) r.zs.length (ints r.zs)) (hb : Below w.heap.size w w') (hlo : lo ≤ mid) (hm : w.heap.size ≤ mid) (k : w'.ownsRow mid 3 1 (irV s) s.zs.length (ints s.zs)) : Apt w' lo [r, s] := by
  have a : Apt w lo [r] := ⟨fun x hx => by rw [List.mem_singleton] at hx; subst hx; exact h, fun i j hi hj hne => by simp at hi hj; omega⟩
  have b : Apt w' mid [s] := ⟨fun x hx => by rw [List.mem_singleton] at hx; subst hx; exact k, fun i j hi hj hne => by simp at hi hj; omega⟩
  exact a.app hb hlo hm b
/-- a lane in memory of one's own. -/
def RetLt (s : LS) (w : World) (e : Ending) (w' : World) : Prop := ∃ l : Lt, e = .returned (ltV l) ∧ l.st = s ∧ Apt w' w.heap.size [irR l, irT l] ∧ Below w.heap.size w w'
theorem Apt.two' {w : World} {lo : Nat} {r s : IR} (h : w.ownsRow lo 3 1 (irV r) r.zs.length (ints r.zs)) (k : w.ownsRow lo 3 1 (irV s) s.zs.length (ints s.zs)) (hne : ∀ g, (irV r).ownBlock = some g → (irV s).ownBlock ≠ some g) : Apt w lo [r, s] := by
  refine ⟨fun x hx => ?_, fun i j hi hj hne' g h1 h2 => ?_⟩
  · simp only [List.mem_cons, List.not_mem_nil, or_false] at hx
    rcases hx with rfl | rfl
    · exact h
    · exact k
  · simp at hi hj
    have hij : (i = 0 ∧ j = 1) ∨ (i = 1 ∧ j = 0) := by omega
    rcases hij with ⟨rfl, rfl⟩ | ⟨rfl, rfl⟩
    · exact hne g h1 h2
    · exact hne g h2 h1
theorem EIC : ElemI Try.prog 23 3 (.int .i64 0) 1 8 := ⟨Try.underlying23, by kernel_rfl, rfl, by omega⟩
theorem own_emptyH {w : World} {base g : Nat} (hg : w.heap[g]? = some (.cells #[] 3 (0, 0))) (hb : base ≤ g) : w.ownsRow base 3 1 (.slice (some ⟨g, 0, none⟩) 0 0) 0 [] :=
  ⟨rfl, .inr ⟨g, 0, #[], rfl, hb, hg, by omega, by simp [maxLen], by simp, by simp⟩⟩
theorem keepA' {w : World} {p : Addr} {v : Value} (h : w.cell? p = some v) (o : Obj) : (w.alloc o).cell? p = some v := (World.cell?_alloc_lt w o p (World.block_lt_of_cell? w _ h)).trans h
theorem below_dr {n : Nat} {a b : World} (h : Below n a b) : Below n a b.drew := ⟨h.os, h.tape, h.output, h.size, h.block⟩
theorem box4e {w : World} {B : Nat} {c0 c1 c2 c3 : Value} {ty : TypeId} (h : w.heap[B]? = some (.cells #[c0, c1, c2, c3] ty (0, 0))) :
    (w.cell? ⟨B, 0, none⟩ = some c0 ∧ w.cell? ⟨B, 1, none⟩ = some c1 ∧ w.cell? ⟨B, 2, none⟩ = some c2 ∧ w.cell? ⟨B, 3, none⟩ = some c3) ∧ w.frozen? ⟨B, 0, none⟩ = false ∧ w.frozen? ⟨B, 1, none⟩ = false ∧ w.frozen? ⟨B, 2, none⟩ = false ∧ w.frozen? ⟨B, 3, none⟩ = false :=
  ⟨⟨cell_of_row _ _ _ _ _ _ h, cell_of_row _ _ _ _ _ _ h, cell_of_row _ _ _ _ _ _ h, cell_of_row _ _ _ _ _ _ h⟩, frozen_of_row _ _ _ _ _ h, frozen_of_row _ _ _ _ _ h, frozen_of_row _ _ _ _ _ h, frozen_of_row _ _ _ _ _ h⟩
theorem below_g1 {W0 w3 : World} {e : Obj} (h : (W0.alloc e).drew.grownBy w3 (some W0.heap.size)) : Below W0.heap.size W0 w3 := by
  have h' : (W0.alloc e).grownBy w3 (some W0.heap.size) := ⟨h.os, h.tape, h.output, h.size, h.block⟩
  exact ((Below.refl W0.heap.size W0).alloc (Nat.le_refl _) e).grown h' (by simp) (fun g e => by injection e with e; omega)
theorem below_g2 {W0 w3 : World} {e e' : Obj} {g : Nat} (h : ((W0.alloc e).alloc e').drew.grownBy w3 (some g)) (hg : W0.heap.size ≤ g) : Below W0.heap.size W0 w3 := by
  have h' : ((W0.alloc e).alloc e').grownBy w3 (some g) := ⟨h.os, h.tape, h.output, h.size, h.block⟩
  exact (((Below.refl W0.heap.size W0).alloc (Nat.le_refl _) e).alloc (by simp) e').grown h' (by simp; omega) (fun g e => by injection e with e; omega)
theorem empt_a {W0 w3 : World} {e e' : Obj} (h : ((W0.alloc e).alloc e').drew.grownBy w3 (some (W0.heap.size + 1))) : w3.heap[W0.heap.size]? = some e := by
  rw [h.block W0.heap.size (by show W0.heap.size < ((W0.alloc e).alloc e').heap.size; simp; omega) (fun x => by injection x with x; omega)]
  show ((W0.alloc e).alloc e').heap[W0.heap.size]? = some e
  rw [heap_alloc_old _ _ (by simp)]; exact heap_alloc_new _ _
theorem empt_b {W0 w3 : World} {e e' : Obj} (h : ((W0.alloc e).alloc e').drew.grownBy w3 (some W0.heap.size)) : w3.heap[W0.heap.size + 1]? = some e' := by
  rw [h.block (W0.heap.size + 1) (by show W0.heap.size + 1 < ((W0.alloc e).alloc e').heap.size; simp) (fun x => by injection x with x; omega)]
  show ((W0.alloc e).alloc e').heap[W0.heap.size + 1]? = some e'
  have := heap_alloc_new (W0.alloc e) e'
  simpa using this
theorem empt_n' (W0 : World) (e e' : Obj) : ((W0.alloc e).alloc e').heap[W0.heap.size + 1]? = some e' := by
  have := heap_alloc_new (W0.alloc e) e'
  simpa using this
theorem empt_n (W0 : World) (e e' : Obj) : ((W0.alloc e).alloc e').drew.heap[W0.heap.size + 1]? = some e' := empt_n' W0 e e'
theorem l6Copy_any (x : Lt) (w : World) (h1 : x.zs.length ≤ 1048576) (h2 : x.ts.length ≤ 1048576) (hR : Sl w x.ra (ints x.zs)) (hT : Sl w x.ta (ints x.ts)) :
    Calls Try.prog 73 #[ltV x] w (RetLt x.st w) := by
  obtain ⟨ra, rc, zs, at_, ta, tc, ts, wt⟩ := x
  simp only at h1 h2 hR hT ⊢
  obtain ⟨o1, ho1⟩ : ∃ o1, o1 = Obj.cells #[.slice ra zs.length rc, .int .i64 at_, .slice ta ts.length tc, .bool wt] 52 := ⟨_, rfl⟩
  obtain ⟨o2, ho2⟩ : ∃ o2, o2 = Obj.cells #[.slice none 0 0, .int .i64 0, .slice none 0 0, .bool false] 52 := ⟨_, rfl⟩
  have hb : Below w.heap.size w ((w.alloc o1).alloc o2) := ((Below.refl _ _).alloc (Nat.le_refl _) _).alloc (by simp) _
  have q1 : ((w.alloc o1).alloc o2).heap[w.heap.size]? = some o1 := by
    rw [heap_alloc_old _ _ (by simp)]; exact heap_alloc_new _ _
  have q2 : ((w.alloc o1).alloc o2).heap[w.heap.size + 1]? = some o2 := by
    have := heap_alloc_new (w.alloc o1) o2
    simpa using this
  have hsz : ((w.alloc o1).alloc o2).heap.size = w.heap.size + 2 := by simp
  have HB0 := mkHid hb
  have HR := mkHid (hR.below hb)
  have HT := mkHid (hT.below hb)
  have HSZ := mkHid hsz
  subst ho1 ho2
  have HQ2 := mkHid q2
  obtain ⟨⟨c0, c1, c2, c3⟩, _⟩ := box4e q1
  clear hR hT q1 q2 hsz hb
  go_enter Try.func73, Try.ntmps73
  go_wp2_with fail
  generalize (w.alloc (.cells #[.slice ra zs.length rc, .int .i64 at_, .slice ta ts.length tc, .bool wt] 52)).alloc (.cells #[.slice none 0 0, .int .i64 0, .slice none 0 0, .bool false] 52) = W0 at *
  generalize hws : w.heap.size = ws at *
  go_region_held3 (fun w' => w'.cell? ⟨ws, 0, none⟩ = some (.slice ra zs.length rc) ∧ w'.cell? ⟨ws, 1, none⟩ = some (.int .i64 at_) ∧ w'.cell? ⟨ws, 2, none⟩ = some (.slice ta ts.length tc) ∧ w'.cell? ⟨ws, 3, none⟩ = some (.bool wt)) (go_keep) ((
       first
        | ((first
            | refine step_copy (t := 23) (e := 3) (z := .int .i64 0) (size := 1) (bytes := 8) (m := zs.length) (c := rc) (A := ra) (xs := ints zs) (g0 := W0.heap.size) (base := ws) rfl EIC (own_emptyH (by first | exact heap_alloc_new _ _ | exact (heap_alloc_old _ _ (by simp)).trans (heap_alloc_new _ _)) (by have := HSZ.out; omega)) (HR.out.below (by first | exact below_dr ((Below.refl _ _).alloc (Nat.le_refl _) _) | exact below_dr (((Below.refl _ _).alloc (Nat.le_refl _) _).alloc (by simp) _))) (by simp [ints]) (ints_one _) (by omega) (by omega) (by have := HSZ.out; simp; omega) rfl rfl rfl ?_
            | refine step_copy (t := 23) (e := 3) (z := .int .i64 0) (size := 1) (bytes := 8) (m := zs.length) (c := rc) (A := ra) (xs := ints zs) (g0 := W0.heap.size + 1) (base := ws) rfl EIC (own_emptyH (by first | exact empt_n _ _ _ | exact empt_n' _ _ _) (by have := HSZ.out; omega)) (HR.out.below (by first | exact below_dr (((Below.refl _ _).alloc (Nat.le_refl _) _).alloc (by simp) _) | exact ((Below.refl _ _).alloc (Nat.le_refl _) _).alloc (by simp) _)) (by simp [ints]) (ints_one _) (by omega) (by omega) (by have := HSZ.out; simp; omega) rfl rfl rfl ?_)
           intro r3 k3 w3 o3 g3 h3
           have HO3 := mkHid o3
           have HG3 := mkHid g3
           have HR3 := mkHid h3
           have HT3 := mkHid (show Below W0.heap.size W0 w3 from by first | exact below_g1 g3 | exact below_g2 g3 (by omega))
           have c0' := (HT3.out.cell (World.block_lt_of_cell? _ _ c0)).trans c0
           have c1' := (HT3.out.cell (World.block_lt_of_cell? _ _ c1)).trans c1
           have c2' := (HT3.out.cell (World.block_lt_of_cell? _ _ c2)).trans c2
           have c3' := (HT3.out.cell (World.block_lt_of_cell? _ _ c3)).trans c3
           clear o3 g3 h3)
        | ((first
            | refine step_copy (t := 23) (e := 3) (z := .int .i64 0) (size := 1) (bytes := 8) (m := ts.length) (c := tc) (A := ta) (xs := ints ts) (g0 := w3.heap.size) (base := ws) rfl EIC (own_emptyH (heap_alloc_new _ _) (by have := HT3.out.size; have := HSZ.out; omega)) (HT.out.below (by first | exact HT3.out.alloc HT3.out.size _ | exact below_dr (HT3.out.alloc HT3.out.size _))) (by simp [ints]) (ints_one _) (by omega) (by omega) (by have := HT3.out.size; have := HSZ.out; simp; omega) rfl rfl rfl ?_
            | refine step_copy (t := 23) (e := 3) (z := .int .i64 0) (size := 1) (bytes := 8) (m := ts.length) (c := tc) (A := ta) (xs := ints ts) (g0 := W0.heap.size + 1) (base := ws) rfl EIC (own_emptyH (empt_b HG3.out) (by have := HSZ.out; omega)) (HT.out.below HT3.out) (by simp [ints]) (ints_one _) (by omega) (by omega) (by have := HT3.out.size; have := HSZ.out; omega) rfl rfl rfl ?_
            | refine step_copy (t := 23) (e := 3) (z := .int .i64 0) (size := 1) (bytes := 8) (m := ts.length) (c := tc) (A := ta) (xs := ints ts) (g0 := W0.heap.size) (base := ws) rfl EIC (own_emptyH (empt_a HG3.out) (by have := HSZ.out; omega)) (HT.out.below HT3.out) (by simp [ints]) (ints_one _) (by omega) (by omega) (by have := HT3.out.size; have := HSZ.out; omega) rfl rfl rfl ?_)
           intro r9 k9 w9 o9 g9 h9
           have HO9 := mkHid o9
           have HG9 := mkHid g9
           have HR9 := mkHid h9
           have HT9 := mkHid (show Below W0.heap.size W0 w9 from by first | exact (HT3.out.alloc HT3.out.size _).grown g9 (by have := HT3.out.size; simp; omega) (fun g e => by injection e with e; have := HT3.out.size; omega) | exact HT3.out.grown g9 HT3.out.size (fun g e => by injection e with e; omega))
           have hlt : ws + 1 < W0.heap.size := by have := HSZ.out; omega
           obtain ⟨⟨d0, d1, d2, d3⟩, f0, f1, f2, f3⟩ := box4e ((HT9.out.block (ws + 1) hlt).trans HQ2.out)
           have c0'' := (HT9.out.cell (World.block_lt_of_cell? _ _ c0)).trans c0
           have c1'' := (HT9.out.cell (World.block_lt_of_cell? _ _ c1)).trans c1
           have c2'' := (HT9.out.cell (World.block_lt_of_cell? _ _ c2)).trans c2
           have c3'' := (HT9.out.cell (World.block_lt_of_cell? _ _ c3)).trans c3
           clear o9 g9 h9)))
  all_goals (
    have HNE := mkHid (show r3 ≠ r9 from by
      have a := HR3.out
      have b := HR9.out
      have c := (HO3.out.lt r3 rfl).2
      have d := HSZ.out
      have e1 : (W0.alloc (.cells #[] 3)).heap.size = W0.heap.size + 1 := by simp
      have e2 : ((W0.alloc (.cells #[] 3)).alloc (.cells #[] 3)).heap.size = W0.heap.size + 2 := by simp
      have e3 : (w3.alloc (.cells #[] 3)).heap.size = w3.heap.size + 1 := by simp
      have f1 : (W0.alloc (.cells #[] 3)).drew.heap.size = W0.heap.size + 1 := e1
      have f2 : ((W0.alloc (.cells #[] 3)).alloc (.cells #[] 3)).drew.heap.size = W0.heap.size + 2 := e2
      omega)
    have HO39 := mkHid (show w9.ownsRow ws 3 1 (.slice (some ⟨r3, 0, none⟩) zs.length k3) zs.length (ints zs) from by
      have a := HR3.out
      have c := (HO3.out.lt r3 rfl).2
      have e1 : (W0.alloc (.cells #[] 3)).heap.size = W0.heap.size + 1 := by simp
      have e2 : ((W0.alloc (.cells #[] 3)).alloc (.cells #[] 3)).heap.size = W0.heap.size + 2 := by simp
      have f1 : (W0.alloc (.cells #[] 3)).drew.heap.size = W0.heap.size + 1 := e1
      have f2 : ((W0.alloc (.cells #[] 3)).alloc (.cells #[] 3)).drew.heap.size = W0.heap.size + 2 := e2
      first
        | exact own_grown' (HO3.out.alloc _) HG9.out (fun g e1 e2 => by
            have e1 : r3 = g := by simpa [Value.ownBlock] using e1
            injection e2 with e2
            omega)
        | exact own_grown' HO3.out HG9.out (fun g e1 e2 => by
            have e1 : r3 = g := by simpa [Value.ownBlock] using e1
            injection e2 with e2
            omega))
    have hb3 := (HO39.out.lt r3 rfl).1
    have hr3 : W0.heap.size ≤ r3 := by
      have a := HR3.out
      have e1 : (W0.alloc (.cells #[] 3)).heap.size = W0.heap.size + 1 := by simp
      have e2 : ((W0.alloc (.cells #[] 3)).alloc (.cells #[] 3)).heap.size = W0.heap.size + 2 := by simp
      have f1 : (W0.alloc (.cells #[] 3)).drew.heap.size = W0.heap.size + 1 := e1
      have f2 : ((W0.alloc (.cells #[] 3)).alloc (.cells #[] 3)).drew.heap.size = W0.heap.size + 2 := e2
      omega
    have hr9 : W0.heap.size ≤ r9 := by
      have b := HR9.out
      have c := HT3.out.size
      have e3 : (w3.alloc (.cells #[] 3)).heap.size = w3.heap.size + 1 := by simp
      omega
    have H39 := mkHid (And.intro hr3 hr9)
    clear c0 c1 c2 c3 c0' c1' c2' c3' c0'' c1'' c2'' c3'' hb3 hr3 hr9
    go_wp2_with fail
    have hgs : ∀ a b c d, w9.grownBy ((((w9.setCell ⟨ws + 1, 0, none⟩ a).setCell ⟨ws + 1, 1, none⟩ b).setCell ⟨ws + 1, 2, none⟩ c).setCell ⟨ws + 1, 3, none⟩ d) (some (ws + 1)) := fun a b c d =>
      grown_setCell' (grown_setCell' (grown_setCell' (grown_setCell w9 (ws + 1) 0 a) 1 b) 2 c) 3 d
    refine bodyPost_ret (v := ltV ⟨some ⟨r3, 0, none⟩, k3, zs, at_, some ⟨r9, 0, none⟩, k9, ts, wt⟩) (by simp [results, Try.results73, go_sem, d0, d1, d2, d3]) rfl ⟨_, rfl, rfl, ?_, ?_⟩
    · rw [hws]
      have h39 := H39.out
      have hsz := HSZ.out
      refine Apt.two' (own_grown' HO39.out (hgs _ _ _ _) (fun g e1 e2 => ?_)) (own_grown' HO9.out (hgs _ _ _ _) (fun g e1 e2 => ?_)) (fun g e1 e2 => ?_)
      · have e1 : r3 = g := by simpa [Value.ownBlock] using e1
        injection e2 with e2
        omega
      · have e1 : r9 = g := by simpa [Value.ownBlock] using e1
        injection e2 with e2
        omega
      · have e1 : r3 = g := by simpa [Value.ownBlock] using e1
        have e2 : r9 = g := by simpa [Value.ownBlock] using e2
        exact HNE.out (by omega)
    · rw [hws]
      have hB : Below ws w w9 := HB0.out.trans (HT9.out.mono (by have := HSZ.out; omega))
      exact hB.grown (hgs _ _ _ _) (by have := hB.size; omega) (fun g e => by injection e with e; omega))
end Go.Proofs.Ytjmiilneennjaaa
