/-
  Contract of the draw of a graph, l20Graph.
-/
import Derived.Test.YtabpcbikbhbcaaaDProgV
import Derived.Test.YtabpcbikbhbcaaaCGraphOf2
import Derived.Test.YtabpcbikbhbcaaaCBack3
namespace Go.Proofs.Ytabpcbikbhbcaaa
open Go.RowKit
set_option maxHeartbeats 4000000
set_option maxRecDepth 100000
set_option linter.unusedVariables false

theorem wpList_appV {P : Program} {w : World} {ops : Array Oper} {rest : List Oper} {o : Oper} {a : Act} {Q : Exit → Act → World → Prop} {t e : TypeId} {z : Value} {size bytes : Nat} (I : ElemI P t e z size bytes)
    {base n : Nat} {A0 : Option Addr} {c0 : Nat} {xs : List Value} (hown : w.ownsRow base e size (.slice A0 n c0) n xs)
    {ad : Addr} {m c : Nat} {news : List Value} (hnews : ∀ j u, news[j]? = some u → w.cell? (ad.add j) = some u) (hl : news.length = m * size) (h1 : ∀ u ∈ news, u.oneCell' = true)
    (hbytes : (n + m) * bytes ≤ 140737488355328) (h63 : n + m ≤ 9223372036854775807) (hbase : base ≤ w.heap.size)
    {s x : Operand} (hgd : o.guard = none) (ho : o.op = .call { callee := .builtin .append, args := #[s, x], argTypes := #[t, t] }) (hs : a.eval s = .slice A0 n c0) (hx : a.eval x = .slice (some ad) m c)
    (h : ∀ A' c' w', w'.ownsRow base e size (.slice A' (n + m) c') (n + m) (xs ++ news) → w.grownBy w' (Value.slice A0 n c0).ownBlock → wpList P ops Q rest (a.put o.dst (.slice A' (n + m) c')) w') : wpList P ops Q (o :: rest) a w := by
  obtain ⟨i, hi, hz0, hz1, hz2⟩ := info_parts I.hi
  refine wpList_append_own w hgd s x t ho base e i z size bytes I.ht hi hz0 hz1 hz2 I.hz I.hs _ n xs hs hown ad m c news hx hl hnews h1 (by simp only [maxLen]; omega) hbytes hbase ?_
  intro v' w' hown' hg hn
  rcases hown'.2 with ⟨rfl, h0⟩ | ⟨g, cap, cur, rfl, _⟩
  · have key : Value.slice none (n + m) 0 = Value.slice none 0 0 := by rw [show n + m = 0 by omega]
    have h9 := h none 0 w'
    rw [key] at h9
    exact h9 hown' hg
  · exact h _ _ w' hown' hg

/-- a graph is being gathered in rows of the call's own that lie apart, while a reader reads. -/
def GAt (w0 w : World) (br N g0 c : Nat) (rs : List Row) : Prop :=
  w.ownsRow w0.heap.size 30 1 (.slice (some ⟨g0, 0, none⟩) rs.length c) rs.length (rowVs rs) ∧ (∀ r ∈ rs, w.ownsRow w0.heap.size 3 1 (rowV r) r.zs.length (ints r.zs)) ∧ rs.Pairwise Apart ∧ Rd w br N ∧ w0.grownBy w (some br) ∧ br < w0.heap.size
section
variable {w0 w1 w w' W : World} {br N M g0 c : Nat} {rs : List Row}
theorem GAt.size (h : GAt w0 w br N g0 c rs) : w0.heap.size ≤ w.heap.size := h.2.2.2.2.1.size
theorem GAt.rd (h : GAt w0 w br N g0 c rs) : Rd w br N := h.2.2.2.1
theorem GAt.mono (h : GAt w0 w br N g0 c rs) (hM : N ≤ M) : GAt w0 w br M g0 c rs := ⟨h.1, h.2.1, h.2.2.1, h.rd.mono hM, h.2.2.2.2⟩
theorem GAt.pick (h : GAt w0 w br N g0 c rs) (hr : Rd w' br M) (hg : w.grownBy w' (some br)) : GAt w0 w' br M g0 c rs :=
  ⟨own_grown h.1 hg (fun q e => by have := (h.1.lt q e).1; have := h.2.2.2.2.2; omega), fun r hr' => own_grown (h.2.1 r hr') hg (fun q e => by have := ((h.2.1 r hr').lt q e).1; have := h.2.2.2.2.2; omega), h.2.2.1, hr, grown_trans h.2.2.2.2.1 hg, h.2.2.2.2.2⟩
theorem GAt.below (h : GAt w0 w br N g0 c rs) (hb : Below w.heap.size w w') : GAt w0 w' br N g0 c rs :=
  ⟨own_below h.1 hb, fun r hr => own_below (h.2.1 r hr) hb, h.2.2.1, h.rd.below hb, grown_below h.2.2.2.2.1 hb, h.2.2.2.2.2⟩
/-- a younger row grows. -/
theorem GAt.row (h1 : GAt w0 w1 br M g0 c rs) (h : GAt w0 w br N g0 c rs) {gr : Nat} (hgr : w1.heap.size ≤ gr) (hW : Below w.heap.size w W) (hg : W.grownBy w' (some gr)) : GAt w0 w' br N g0 c rs := by
  have hk := h.below hW
  have hbr := h.2.2.2.2.2
  have hs1 := h1.size
  refine ⟨own_grown hk.1 hg (fun q e => by have := (h1.1.lt q e).2; omega), fun r hr => own_grown (hk.2.1 r hr) hg (fun q e => by have := ((h1.2.1 r hr).lt q e).2; omega), h.2.2.1, hk.rd.grown hg (fun q e => by injection e with e; omega), ?_, hbr⟩
  exact ⟨hg.os.trans hk.2.2.2.2.1.os, hg.tape.trans hk.2.2.2.2.1.tape, hg.output.trans hk.2.2.2.2.1.output, Nat.le_trans hk.2.2.2.2.1.size hg.size, fun i hi hn => (hg.block i (Nat.lt_of_lt_of_le hi hk.2.2.2.2.1.size) (fun e => by injection e with e; omega)).trans (hk.2.2.2.2.1.block i hi hn)⟩
/-- one more row is appended. -/
theorem GAt.snoc (h1 : GAt w0 w1 br M g0 c rs) (h : GAt w0 w br N g0 c rs) {r : Row} (hr : w.ownsRow w1.heap.size 3 1 (rowV r) r.zs.length (ints r.zs)) {o : Obj} {g' c' : Nat} (hown : w'.ownsRow w0.heap.size 30 1 (.slice (some ⟨g', 0, none⟩) (rs.length + 1) c') (rs.length + 1) (rowVs rs ++ [rowV r])) (hg : (w.alloc o).grownBy w' (some g0)) : GAt w0 w' br N g' c' (rs ++ [r]) := by
  have hk := h.below ((Below.refl _ _).alloc (Nat.le_refl _) o)
  have hgb := (hk.1.lt g0 rfl).1
  have hbr := h.2.2.2.2.2
  have ht : ∀ s : Row, w.ownsRow w0.heap.size 3 1 (rowV s) s.zs.length (ints s.zs) → w'.ownsRow w0.heap.size 3 1 (rowV s) s.zs.length (ints s.zs) := fun s hs =>
    own_grown' (hs.alloc o) hg (fun g' e1 e2 => by
      injection e2 with e2
      exact own_types' hk.1 (hs.alloc o) (by decide) e1 e2.symm)
  refine ⟨by rw [List.length_append]; simpa [rowVs] using hown, fun s hs => ?_, pw_snoc h1.2.2.1 h1.2.1 hr, hk.rd.grown hg (fun q e => by injection e with e; omega), grown_app hk.2.2.2.2.1 hk.1 (Nat.le_refl _) hg, hbr⟩
  rcases List.mem_append.1 hs with h2 | h2
  · exact ht s (h.2.1 s h2)
  · rw [List.mem_singleton] at h2; subst h2
    exact ht s (own_base hr h1.size)
theorem GAt.grid (h : GAt w0 w br N g0 c rs) (hl : ∀ r ∈ rs, r.zs.length ≤ 1000) {v : World} (hv : w.grownBy v (some br)) : Grid v (some ⟨g0, 0, none⟩) rs :=
  ⟨Sl.of_own (own_grown h.1 hv (fun q e => by have := (h.1.lt q e).1; have := h.2.2.2.2.2; omega)), fun r hr => ⟨Sl.of_own (own_grown (h.2.1 r hr) hv (fun q e => by have := ((h.2.1 r hr).lt q e).1; have := h.2.2.2.2.2; omega)), own_cap (h.2.1 r hr), by have := hl r hr; omega⟩⟩
/-- the first row has grown: it is put back into its place. -/
theorem GAt.first {r : Row} (h : GAt w0 w br N g0 c (r :: rs)) (hW : Below w.heap.size w W) {A' : Option Addr} {c' n' : Nat} {zs' : List Int} (hz : zs'.length = n')
    (hown : w'.ownsRow w0.heap.size 3 1 (.slice A' n' c') n' (ints zs')) (hg : W.grownBy w' (rowV r).ownBlock) (hl : ∀ r ∈ (⟨A', c', zs'⟩ : Row) :: rs, r.zs.length ≤ 1000) :
    w'.cell? ⟨g0, 0, none⟩ = some (rowV r) ∧ w'.frozen? ⟨g0, 0, none⟩ = false ∧ (∀ v, (w'.setCell ⟨g0, 0, none⟩ (.slice A' n' c')).grownBy v (some br) → Grid v (some ⟨g0, 0, none⟩) (⟨A', c', zs'⟩ :: rs)) ∧ Rd (w'.setCell ⟨g0, 0, none⟩ (.slice A' n' c')) br N ∧ w0.grownBy (w'.setCell ⟨g0, 0, none⟩ (.slice A' n' c')) (some br) := by
  subst hz
  have hk := h.below hW
  have hbr := h.2.2.2.2.2
  have hown1 : w'.ownsRow w0.heap.size 30 1 (.slice (some ⟨g0, 0, none⟩) (rs.length + 1) c) (rs.length + 1) (rowVs (r :: rs)) :=
    own_grown' hk.1 hg (fun g e1 e2 => by
      injection e1 with e1
      exact own_types' hk.1 (hk.2.1 r (List.mem_cons_self ..)) (by decide) e2 e1.symm)
  obtain ⟨g, he, hgb, hgs, hc, hf, hst⟩ := own_open hown1 (i := 0) (by simp)
  injection he with he
  injection he with he
  subst he
  have hset := hst (.slice A' zs'.length c')
  have hgc := grown_setCell w' g0 0 (.slice A' zs'.length c')
  have hrd : Rd w' br N := hk.rd.grown hg (fun q e => by
    have := ((hk.2.1 r (List.mem_cons_self ..)).lt q e).1
    omega)
  have hne : ∀ {v : Value} {n : Nat} {xs : List Value}, w'.ownsRow w0.heap.size 3 1 v n xs → (w'.setCell ⟨g0, 0, none⟩ (.slice A' zs'.length c')).ownsRow w0.heap.size 3 1 v n xs := fun hv =>
    own_grown' hv hgc (fun q e1 e2 => by
      injection e2 with e2
      exact own_types' hown1 hv (by decide) e1 e2.symm)
  have hgw := grown_app hk.2.2.2.2.1 (hk.2.1 r (List.mem_cons_self ..)) (Nat.le_refl _) hg
  have hkeep : ∀ {v : World} {u : Value} {e : TypeId} {n : Nat} {xs : List Value}, (w'.setCell ⟨g0, 0, none⟩ (.slice A' zs'.length c')).grownBy v (some br) → (w'.setCell ⟨g0, 0, none⟩ (.slice A' zs'.length c')).ownsRow w0.heap.size e 1 u n xs → v.ownsRow w0.heap.size e 1 u n xs := fun hv hu => own_grown hu hv (fun q e => by have := (hu.lt q e).1; omega)
  refine ⟨hc, hf, fun v hv => ⟨by simpa [rowVs] using Sl.of_own (hkeep hv hset), fun s hs => ?_⟩, hrd.grown hgc (fun q e => by injection e with e; omega), grown_app hgw hown1 (Nat.le_refl _) hgc⟩
  rcases List.mem_cons.1 hs with h2 | h2
  · subst h2
    exact ⟨Sl.of_own (hkeep hv (hne hown)), own_cap hown, by have := hl _ (List.mem_cons_self ..); omega⟩
  · have h3 : w'.ownsRow w0.heap.size 3 1 (rowV s) s.zs.length (ints s.zs) := own_grown' (hk.2.1 s (List.mem_cons_of_mem _ h2)) hg (fun q e1 e2 =>
      (List.pairwise_cons.1 h.2.2.1).1 s h2 q q e2 e1 rfl)
    exact ⟨Sl.of_own (hkeep hv (hne h3)), own_cap h3, by have := hl s (List.mem_cons_of_mem _ h2); omega⟩
end
/-- a graph is drawn. -/
def DrawnGraph (br N : Nat) (w : World) (e : Ending) (w' : World) : Prop :=
  ∃ A c rs, e = .returned (.slice A (List.length rs) c) ∧ (∀ v, w'.grownBy v (some br) → Grid v A rs) ∧ 1 ≤ List.length rs ∧ List.length rs ≤ 65 ∧ (∀ r ∈ rs, r.zs.length ≤ 10) ∧ Rd w' br N ∧ w.grownBy w' (some br) ∧ List.length rs ≤ c
theorem _root_.Go.World.ownsRow.castLen {w : World} {base : Nat} {e : TypeId} {size n m c : Nat} {A : Option Addr} {xs : List Value} (h : w.ownsRow base e size (.slice A m c) m xs) (hn : n = m) : w.ownsRow base e size (.slice A n c) n xs := by subst hn; exact h
theorem gOf_len {xs : List Cd} (hv : progValid xs = true) : (gOf xs).length = xs.length + 1 := by
  rw [gOf_yes hv]
  unfold graphOf
  simp [ops_len]
theorem l20Graph_any (n : Int) (br N : Nat) (w : World) (hn : 1 ≤ n) (hn' : n ≤ 1000000) (hN : N ≤ 900000) (h : Rd w br N) :
    Calls Try.prog 37 #[.pointer (some ⟨br, 0, none⟩), .int .i64 n] w (DrawnGraph br 900001000 w) := by
  have hbr := h.lt
  have HR := mkHid h
  clear h
  go_enter Try.func37, Try.ntmps37
  go_wp2_with fail
  refine (pick_any _ _ _ _ (by omega) HR.out).mono ?_
  rintro e w1 ⟨q, rfl, q0, q1, r, gr⟩
  have q1 := q1 (by omega)
  obtain ⟨q, rfl⟩ := Int.eq_ofNat_of_zero_le q0
  have HG0 := mkHid (show GAt w (w1.alloc (.cells #[] 30)) br (N + 1) w1.heap.size 0 [] from
    ⟨own_emptyB w1 _ gr.size rfl, fun r hr => absurd hr (by simp), List.Pairwise.nil, r.below ((Below.refl _ _).alloc (Nat.le_refl _) _), grown_trans gr (World.grownBy_alloc _ _ _), hbr⟩)
  have hsz0 := HG0.out.size
  clear r gr HR
  go_wp2_with fail
  go_loopw [6, 7] (fun gv kv wr => ∃ k : Nat, kv = .int .i64 k ∧ (k : Int) ≤ 1 + q ∧ ∃ g0 c, ∃ rs : List Row, gv = .slice (some ⟨g0, 0, none⟩) (List.length rs) c ∧ List.length rs = k ∧ (∀ r ∈ rs, r.zs.length ≤ 8) ∧ GAt w wr br (N + 1 + 8 * k) g0 c rs) (fun _ kv _ => (1 + q - (intOf kv)).toNat)
  case atStart => exact ⟨0, rfl, by omega, _, _, [], rfl, rfl, fun r hr => absurd hr (by simp), HG0.out⟩
  case round =>
    clear HG0 hsz0
    obtain ⟨k, rfl, hk, g0, c, rs, rfl, hrs, hl8, hg⟩ := hrel
    have HL := mkHid hl8
    have HG := mkHid hg
    have hsz := hg.size
    have HN := mkHid hrs.symm
    rw [hrs]
    clear hg hl8 hrs
    by_cases hlt : (k : Int) < 1 + q
    · have hrow0 : (wr.alloc (.cells #[] 3)).ownsRow wr.heap.size 3 1 (.slice (some ⟨wr.heap.size, 0, none⟩) 0 0) 0 (ints []) := own_emptyB wr _ (Nat.le_refl _) rfl
      have HROW := mkHid hrow0
      have HG1 := mkHid (HG.out.below ((Below.refl _ _).alloc (Nat.le_refl _) (.cells #[] 3)))
      clear hrow0
      go_wp2_with fail
      go_loopw [8, 9] (fun rv jv wx => ∃ j : Nat, jv = .int .i64 j ∧ (j : Int) ≤ 1 + q ∧ ∃ gr cr, ∃ zs : List Int, rv = .slice (some ⟨gr, 0, none⟩) (List.length zs) cr ∧ List.length zs ≤ j ∧ wx.ownsRow wr.heap.size 3 1 (.slice (some ⟨gr, 0, none⟩) (List.length zs) cr) (List.length zs) (ints zs) ∧ GAt w wx br (N + 1 + 8 * k + j) g0 c rs) (fun _ jv _ => (1 + q - (intOf jv)).toNat)
      case atStart => exact ⟨0, rfl, by omega, _, _, [], rfl, by simp, HROW.out, HG1.out⟩
      case round =>
        clear HG1 HROW
        obtain ⟨j, rfl, hj, gr, cr, zs, rfl, hzl, hown, hg⟩ := hrel
        have HOW := mkHid hown
        have HGG := mkHid hg
        have hgr := hown.lt gr rfl
        have hgs := hg.size
        obtain ⟨m, hm⟩ : ∃ m, m = List.length zs := ⟨_, rfl⟩
        have HM := mkHid hm
        rw [← hm] at hzl HOW ⊢
        clear hown hg hm
        by_cases hjl : (j : Int) < 1 + q
        · go_wp2_with fail
          refine (pick_any _ _ _ _ (by omega) HGG.out.rd).mono ?_
          rintro e w4 ⟨p, rfl, p0, p1, r, gr4⟩
          have p1 := p1 (by omega)
          have HOW4 := mkHid (own_grown HOW.out gr4 (fun q' e => by have := (HOW.out.lt q' e).1; omega))
          have HG4 := mkHid (HGG.out.pick r gr4)
          have hs4 := gr4.size
          clear r gr4 HOW HGG
          by_cases hp : p = 0
          · subst hp
            go_wp2_with (at_builtin; refine wpList_appS Ei (HOW4.out.alloc _) (newCellsAt _ _ _ (by simp)) rfl (by simp [Value.oneCell']) (by omega) (by omega) (by simp; omega) rfl rfl rfl rfl ?_; intro g5 c5 w5 hown5 hg5; have HOW5 := mkHid hown5; have HG5 := mkHid (HG.out.row HG4.out (by omega) ((Below.refl _ _).alloc (Nat.le_refl _) _) hg5); clear hown5 hg5)
            go_roundw
            case rel =>
              refine ⟨j + 1, by go_num, by omega, g5, c5, zs ++ [(j : Int)], by rw [List.length_append, ← HM.out]; rfl, by rw [List.length_append, ← HM.out]; simp; omega, ?_, HG5.out.mono (by omega)⟩
              rw [List.length_append, ← HM.out]
              simpa [ints] using HOW5.out
            case measure => simp [intOf] <;> omega
          · have np : (p == 0) = false := by rw [beq_eq_false_iff_ne]; exact hp
            clear hp
            go_wp2_with fail
            go_roundw
            case rel => exact ⟨j + 1, by go_num, by omega, gr, cr, zs, by rw [← HM.out], by rw [← HM.out]; omega, by rw [← HM.out]; exact HOW4.out, HG4.out.mono (by omega)⟩
            case measure => simp [intOf] <;> omega
        · have hje : 1 + (q : Int) ≤ (j : Int) := by omega
          go_wp2_with (at_builtin; refine wpList_appS Er ((HGG.out.below ((Below.refl _ _).alloc (Nat.le_refl _) _)).1.castLen HN.out) (newCellsAt _ _ _ (by simp)) rfl (by simp [Value.oneCell']) (by omega) (by omega) (by simp; omega) rfl rfl rfl rfl ?_; intro g5 c5 w5 hown5 hg5; have HOW5 := mkHid hown5; have HG5 := mkHid hg5; clear hown5 hg5)
          go_roundw
          case rel =>
            refine ⟨k + 1, by go_num, by omega, g5, c5, rs ++ [⟨some ⟨gr, 0, none⟩, cr, zs⟩], by rw [List.length_append, ← HN.out]; rfl, by rw [List.length_append, ← HN.out]; rfl, fun s hs => ?_, GAt.mono (GAt.snoc HG.out HGG.out (by rw [show (rowV (⟨some ⟨gr, 0, none⟩, cr, zs⟩ : Row)) = .slice (some ⟨gr, 0, none⟩) m cr from by simp only [rowV]; rw [HM.out], show (⟨some ⟨gr, 0, none⟩, cr, zs⟩ : Row).zs.length = m from HM.out.symm]; exact HOW.out) (by
              rw [← HN.out, show (rowV (⟨some ⟨gr, 0, none⟩, cr, zs⟩ : Row)) = .slice (some ⟨gr, 0, none⟩) m cr from by simp only [rowV]; rw [HM.out]]
              exact HOW5.out) HG5.out) (by omega)⟩
            rcases List.mem_append.1 hs with h | h
            · exact HL.out s h
            · rw [List.mem_singleton] at h; subst h
              show zs.length ≤ 8
              rw [← HM.out]; omega
          case measure => simp [intOf] <;> omega
    · have hke : 1 + (q : Int) ≤ (k : Int) := by omega
      go_upto_region 13 with fail
      go_cut [6, 37] from 10 (fun s6 s37 wx => ∃ ob : Bool, s37 = .bool ob ∧ s6 = .slice (some ⟨g0, 0, none⟩) k c ∧ GAt w wx br (N + 2 + 8 * k) g0 c rs)
      case first =>
        go_wp2_with fail
        refine (oddV _ _ _ _ (by omega) (by omega) (by omega) HG.out.rd).mono ?_
        rintro e wo ⟨ob, rfl, r, gr⟩
        have HG := mkHid (HG.out.pick r gr)
        clear r gr
        go_wp2_with fail
        go_meet
        case rel => exact ⟨ob, rfl, rfl, HG.out.mono (by omega)⟩
      case rest =>
      clear HG hsz
      obtain ⟨ob, rfl, rfl, hg⟩ := hcut
      have HG := mkHid hg
      have hsz := hg.size
      clear hg
      go_upto_if 37 with fail
      go_cut [6] from 10 (fun s6 wx => ∃ g c, ∃ rs : List Row, s6 = .slice (some ⟨g, 0, none⟩) (List.length rs) c ∧ 1 ≤ List.length rs ∧ List.length rs ≤ 41 ∧ (∀ r ∈ rs, r.zs.length ≤ 8) ∧ GAt w wx br 900000500 g c rs)
      case first =>
        cases ob with
        | false =>
          go_wp2_with fail
          go_meet
          case rel => exact ⟨g0, c, rs, by rw [← HN.out], by rw [← HN.out]; omega, by rw [← HN.out]; omega, HL.out, HG.out.mono (by omega)⟩
        | true =>
          go_wp2_with fail
          refine (l20ProgramV_any _ _ _ (by omega) HG.out.rd).mono ?_
          rintro e w5 ⟨g5, c5, zs5, rfl, hv5, ho5⟩
          have HV5 := mkHid hv5
          have HO5 := mkHid ho5
          obtain ⟨m, hm⟩ : ∃ m, m = List.length zs5 := ⟨_, rfl⟩
          have HM := mkHid hm
          have HC := mkHid (specGraphOf_own (some ⟨g5, 0, none⟩) c5 zs5 w5 (Sl.of_own (by have := ho5.2.1; exact this)) hv5)
          rw [← hm] at HC ⊢
          clear hm ho5 hv5
          go_wp2_with fail
          refine HC.out.mono ?_
          rintro e w6 ⟨g6, c6, qs, rfl, hq, h1, h2, h3, h4⟩
          have HQ := mkHid hq
          have H1 := mkHid h1
          have H2 := mkHid h2
          have H3 := mkHid h3
          have H4 := mkHid h4
          clear hq h1 h2 h3 h4 HC
          go_wp2_with fail
          go_meet
          case rel =>
            have hgl : (gOf zs5).length = qs.length := by rw [← HQ.out]; simp
            have h40 := (progValid_yes HV5.out).1
            have hgy := gOf_len HV5.out
            have hsz5 := HO5.out.size
            refine ⟨g6, c6, qs, by rw [hgl], by omega, by omega, fun r hr => ?_, ?_, fun r hr => own_base (H2.out r hr) (by omega), H3.out, (HO5.out.2.2.2.1.mono (by omega)).below H4.out, grown_below (grown_trans HG.out.2.2.2.2.1 HO5.out.2.2.2.2.1) H4.out, hbr⟩
            · have hm : r.zs ∈ graph qs := List.mem_map_of_mem hr
              rw [HQ.out] at hm
              have := gOf_rows HV5.out _ hm
              omega
            · have := own_base H1.out (show w.heap.size ≤ w5.heap.size by omega)
              rwa [hgl] at this
      case rest =>
        clear HG hsz hlt hke HN HL hk
        obtain ⟨g1, c1, rs1, rfl, hr1, hr2, hl1, hg1⟩ := hcut
        cases rs1 with
        | nil => simp at hr1
        | cons r rs2 =>
        obtain ⟨ra, rc, zs⟩ := r
        have HL := mkHid hl1
        have HG := mkHid hg1
        have hsz := hg1.size
        have hzl : zs.length ≤ 8 := hl1 _ (List.mem_cons_self ..)
        obtain ⟨n1, hn1⟩ : ∃ n1, n1 = List.length ((⟨ra, rc, zs⟩ : Row) :: rs2) := ⟨_, rfl⟩
        have HN := mkHid hn1
        rw [← hn1] at hr1 hr2 ⊢
        clear hl1 hg1 hn1
        go_wp2_with fail
        refine (oddV _ _ _ _ hn (by omega) (by omega) HG.out.rd).mono ?_
        rintro e wo ⟨ob, rfl, r, gr⟩
        have HG := mkHid (HG.out.pick r gr)
        clear r gr
        cases ob with
        | false =>
          go_wp2_with fail
          go_ret
          exact ⟨_, c1, _, by rw [HN.out]; rfl, fun v hv => HG.out.grid (fun r hr => by have := HL.out r hr; omega) hv, by rw [← HN.out]; exact hr1, by rw [← HN.out]; omega, fun r hr => by have := HL.out r hr; omega, HG.out.rd.mono (by omega), HG.out.2.2.2.2.1, own_cap HG.out.1⟩
        | true =>
          go_wp2_with fail
          refine (pick_any _ _ _ _ (by omega) HG.out.rd).mono ?_
          rintro e wp ⟨p, rfl, p0, p1, r, gr⟩
          have p1 := p1 (by omega)
          have HG := mkHid (HG.out.pick r gr)
          have hsz := HG.out.size
          obtain ⟨_, he, _, _, hc, _, _⟩ := own_open HG.out.1 (i := 0) (by simp)
          injection he with he
          injection he with he
          subst he
          have hc : wp.cell? ⟨g1, 0, none⟩ = some (.slice ra zs.length rc) := hc
          have HR0 := mkHid (show wp.ownsRow w.heap.size 3 1 (.slice ra zs.length rc) zs.length (ints zs) from HG.out.2.1 _ (List.mem_cons_self ..))
          clear r gr
          by_cases hp0 : p = 0
          · subst hp0
            go_wp2_with (at_builtin; refine wpList_appV Ei (HR0.out.alloc _) (newCellsAt _ _ _ (by simp)) rfl (by simp [Value.oneCell']) (by omega) (by omega) (by simp; omega) rfl rfl rfl rfl ?_; intro A5 c5 w5 hown5 hg5; obtain ⟨hc5, hf5, hgr5, hrd5, hgw5⟩ := HG.out.first ((Below.refl _ _).alloc (Nat.le_refl _) _) (A' := A5) (c' := c5) (n' := zs.length + 1) (zs' := zs ++ [(n1 : Int)]) (by simp) (by simpa [ints] using hown5) hg5 (fun s hs => by
                rcases List.mem_cons.1 hs with h | h
                · subst h; simp; omega
                · have := HL.out s (List.mem_cons_of_mem _ h); omega); have HGR := mkHid hgr5; have HRD := mkHid hrd5; have HGW := mkHid hgw5; clear hown5 hg5 hgr5 hrd5 hgw5)
            go_ret
            exact ⟨_, c1, (⟨A5, c5, zs ++ [(n1 : Int)]⟩ : Row) :: rs2, by rw [HN.out]; rfl, HGR.out, by simp, by have := HN.out; simp at this ⊢; omega, fun s hs => by
              rcases List.mem_cons.1 hs with h | h
              · subst h; simp; omega
              · have := HL.out s (List.mem_cons_of_mem _ h); omega, HRD.out.mono (by omega), HGW.out, by have := own_cap HG.out.1; simpa using this⟩
          · by_cases hp1 : p = 1
            · subst hp1
              go_wp2_with (at_builtin; refine wpList_appV Ei (HR0.out.alloc _) (newCellsAt _ _ _ (by simp)) rfl (by simp [Value.oneCell']) (by omega) (by omega) (by simp; omega) rfl rfl rfl rfl ?_; intro A5 c5 w5 hown5 hg5; obtain ⟨hc5, hf5, hgr5, hrd5, hgw5⟩ := HG.out.first ((Below.refl _ _).alloc (Nat.le_refl _) _) (A' := A5) (c' := c5) (n' := zs.length + 2) (zs' := zs ++ [0, 0]) (by simp) (by simpa [ints] using hown5) hg5 (fun s hs => by
                  rcases List.mem_cons.1 hs with h | h
                  · subst h; simp; omega
                  · have := HL.out s (List.mem_cons_of_mem _ h); omega); have HGR := mkHid hgr5; have HRD := mkHid hrd5; have HGW := mkHid hgw5; clear hown5 hg5 hgr5 hrd5 hgw5)
              go_ret
              exact ⟨_, c1, (⟨A5, c5, zs ++ [0, 0]⟩ : Row) :: rs2, by rw [HN.out]; rfl, HGR.out, by simp, by have := HN.out; simp at this ⊢; omega, fun s hs => by
                rcases List.mem_cons.1 hs with h | h
                · subst h; simp; omega
                · have := HL.out s (List.mem_cons_of_mem _ h); omega, HRD.out.mono (by omega), HGW.out, by have := own_cap HG.out.1; simpa using this⟩
            · have np0 : (p == 0) = false := by rw [beq_eq_false_iff_ne]; exact hp0
              have np1 : (p == 1) = false := by rw [beq_eq_false_iff_ne]; exact hp1
              clear hp0 hp1
              obtain ⟨i0, hi0, hz0, hz1, hz2⟩ := info_parts Er.hi
              go_wp2_with (at_make; refine wpList_make_full _ rfl _ _ _ rfl wp.heap.size _ i0 _ 1 Er.ht hi0 hz0 hz1 _ _ _ _ 65 rfl rfl rfl rfl (by rw [hz2]; omega) (by simp only [maxLen]; omega) (Nat.le_refl _) ?_; intro w5 hown5 hg5; have HO5 := mkHid hown5; have HG5 := mkHid hg5; clear hown5 hg5)
              go_ret
              have ho := HO5.out
              rw [rows_nils] at ho
              have hb5 : Below wp.heap.size wp w5 := (Below.refl _ _).grown HG5.out (Nat.le_refl _) (by simp)
              refine ⟨_, 65, List.replicate 65 nilRow, by rw [List.length_replicate]; rfl, fun v hv => ⟨Sl.of_own (own_grown ho hv (fun q e => by have := (ho.lt q e).1; have := HG.out.2.2.2.2.2; omega)), fun r hr => ?_⟩, by rw [List.length_replicate]; omega, by rw [List.length_replicate]; omega, fun r hr => ?_, (HG.out.rd.below hb5).mono (by omega), grown_below HG.out.2.2.2.2.1 hb5, by rw [List.length_replicate]; exact Nat.le_refl _⟩
              · rw [List.eq_of_mem_replicate hr]
                exact ⟨Sl.nil _ _, by simp [nilRow], by simp [nilRow]⟩
              · rw [List.eq_of_mem_replicate hr]; simp [nilRow]
end Go.Proofs.Ytabpcbikbhbcaaa
