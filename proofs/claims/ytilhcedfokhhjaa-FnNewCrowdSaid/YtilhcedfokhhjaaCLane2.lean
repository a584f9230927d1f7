/-
  Contracts of the laws' helpers eqLane, eqLaneS, eqCrowd, at lanes without turns.
-/
import Derived.Test.YtilhcedfokhhjaaCLane
import Derived.Test.YtilhcedfokhhjaaCSame
namespace Go.Proofs.Ytilhcedfokhhjaa
open Go.RowKit
set_option maxHeartbeats 2000000
set_option linter.unusedVariables false

def LGrid (w : World) (A : Option Addr) (ls : List Ln) : Prop := Sl w A (lflat ls) ∧ ∀ l ∈ ls, Sl w l.ra (ints l.zs) ∧ l.zs.length ≤ 9223372036854775807
theorem LGrid.below {w w' : World} {A : Option Addr} {ls : List Ln} (h : LGrid w A ls) (hb : Below w.heap.size w w') : LGrid w' A ls :=
  ⟨h.1.below hb, fun l hl => ⟨(h.2 l hl).1.below hb, (h.2 l hl).2⟩⟩
def sameLn (a b : Ln) : Prop := a.zs = b.zs ∧ a.at_ = b.at_ ∧ a.wt = b.wt
def sameLns (xs ys : List Ln) : Prop := xs.length = ys.length ∧ ∀ k (h : k < xs.length) (h' : k < ys.length), sameLn xs[k] ys[k]
theorem eqLane_same (ra rb : Option Addr) (ca cb : Nat) (zs : List Int) (t : Int) (b : Bool) (w : World) (hl : zs.length ≤ 9223372036854775807) (hx : Sl w ra (ints zs)) (hy : Sl w rb (ints zs)) :
    Calls Try.prog 64 #[.agg #[.slice ra zs.length ca, .int .i64 t, .slice none 0 0, .bool b], .agg #[.slice rb zs.length cb, .int .i64 t, .slice none 0 0, .bool b]] w fun e w' => e = .returned (.bool true) ∧ Below w.heap.size w w' := by
  obtain ⟨o1, ho1⟩ : ∃ o1, o1 = Obj.cells #[.slice ra zs.length ca, .int .i64 t, .slice none 0 0, .bool b] 48 := ⟨_, rfl⟩
  obtain ⟨o2, ho2⟩ : ∃ o2, o2 = Obj.cells #[.slice rb zs.length cb, .int .i64 t, .slice none 0 0, .bool b] 48 := ⟨_, rfl⟩
  have hb : Below w.heap.size w ((w.alloc o1).alloc o2) := ((Below.refl _ _).alloc (Nat.le_refl _) _).alloc (by simp) _
  have hE := eqIntS_same ra rb ca cb zs ((w.alloc o1).alloc o2) hl (hx.below hb) (hy.below hb)
  have hN := fun X : World => eqIntS_same none none 0 0 [] X (by simp) (Sl.nil _ _) (Sl.nil _ _)
  have q1 : ∀ k, (((w.alloc o1).alloc o2).drewN k).heap[w.heap.size]? = some o1 := fun k => by
    show ((w.alloc o1).alloc o2).heap[w.heap.size]? = some o1
    rw [heap_alloc_old _ _ (by simp)]; exact heap_alloc_new _ _
  have q2 : ∀ k, (((w.alloc o1).alloc o2).drewN k).heap[w.heap.size + 1]? = some o2 := fun k => by
    show ((w.alloc o1).alloc o2).heap[w.heap.size + 1]? = some o2
    have := heap_alloc_new (w.alloc o1) o2
    simpa using this
  have HB := mkHid hb
  subst ho1 ho2
  have HE := mkHid hE
  have HN := mkHid hN
  have p1 := fun k => (box4 (q1 k)).1
  have p2 := fun k => (box4 (q2 k)).1
  have P1 := mkHid p1
  have P2 := mkHid p2
  clear hE hN q1 q2 hb hx hy p1 p2
  go_enter Try.func64, Try.ntmps64
  go_wp2_with fail
  refine HE.out.mono ?_
  rintro e w2 ⟨rfl, k, rfl⟩
  obtain ⟨a0, a1, a2, a3⟩ := P1.out k
  obtain ⟨b0, b1, b2, b3⟩ := P2.out k
  have HB2 := mkHid (below_drewN HB.out k)
  go_wp2_with fail
  refine (HN.out _).mono ?_
  rintro e w2 ⟨rfl, k2, rfl⟩
  have HB3 := mkHid (below_drewN HB2.out k2)
  rw [World.drewN_drewN] at HB3 ⊢
  obtain ⟨a0, a1, a2, a3⟩ := P1.out (k + k2)
  obtain ⟨b0, b1, b2, b3⟩ := P2.out (k + k2)
  go_wp2_with fail
  go_ret
  exact ⟨rfl, HB3.out⟩
theorem eqLaneS_same (A B : Option Addr) (c d : Nat) (xs ys : List Ln) (w : World) (hl : xs.length ≤ 9223372036854775807) (hs : sameLns xs ys) (hx : LGrid w A xs) (hy : LGrid w B ys) :
    Calls Try.prog 53 #[.slice A xs.length c, .slice B xs.length d] w fun e w' => e = .returned (.bool true) ∧ Below w.heap.size w w' := by
  have HS := mkHid hs
  have HX := mkHid hx
  have HY := mkHid hy
  clear hs hx hy
  go_enter Try.func53, Try.ntmps53
  go_wp2_with fail
  go_loopw [5] (fun i wr => ∃ k : Nat, k ≤ xs.length ∧ i = .int .i64 k ∧ Below w.heap.size w wr) (fun i _ => xs.length - (intOf i).toNat)
  case atStart => exact ⟨0, by omega, rfl, Below.refl _ _⟩
  case round =>
    obtain ⟨k, hk, rfl, hb⟩ := hrel
    have HB := mkHid hb
    have hx' := HX.out.below hb
    have hy' := HY.out.below hb
    clear hb
    by_cases hlt : k < xs.length
    · have hlt2 : k < ys.length := by rw [← HS.out.1]; exact hlt
      obtain ⟨e1, e2, e3⟩ := HS.out.2 k hlt hlt2
      obtain ⟨b, off, rfl, h0, h1, h2, h3⟩ := hx'.1.lane hlt
      obtain ⟨b', off', rfl, g0, g1, g2, g3⟩ := hy'.1.lane hlt2
      have s1 := hx'.2 _ (List.getElem_mem hlt)
      have s2 := hy'.2 _ (List.getElem_mem hlt2)
      rw [← e1] at g0 s2
      rw [← e2] at g1
      rw [← e3] at g3
      generalize ys[k] = y at *
      generalize xs[k] = x at *
      obtain ⟨ra, ca, zs, t, wt⟩ := x
      obtain ⟨rb, cb, zs', t', wt'⟩ := y
      simp only at h0 h1 h3 g0 g1 g3 s1 s2
      have h0 := fun u : Ext wr => u.keeps h0
      have h1 := fun u : Ext wr => u.keeps h1
      have h2 := fun u : Ext wr => u.keeps h2
      have h3 := fun u : Ext wr => u.keeps h3
      have g0 := fun u : Ext wr => u.keeps g0
      have g1 := fun u : Ext wr => u.keeps g1
      have g2 := fun u : Ext wr => u.keeps g2
      have g3 := fun u : Ext wr => u.keeps g3
      have HC := mkHid (fun u : Ext wr => eqLane_same ra rb ca cb zs t wt u.1 s1.2 (s1.1.below u.2) (s2.1.below u.2))
      clear hx' hy' s1 s2 e1 e2 e3
      go_wp2_with fail
      refine wp_region_ext (by kernel_rfl) (by kernel_rfl) ?_
      repeat (go_big_quiet_step ((go_at_call 64; with_reducible exact ext_call (HC.out _))))
      refine wpQuiet_nil (ext_end fun X hX => ?_)
      clear h0 h1 h2 h3 g0 g1 g2 g3
      have HXX := mkHid hX
      clear hX HC
      go_wp2_with fail
      go_roundw
      case rel => exact ⟨k + 1, by omega, by go_num, below_then HB.out HXX.out⟩
      case measure => simp [intOf] <;> omega
    · clear hx' hy'
      go_wp2_with fail
      go_ret
      exact ⟨rfl, HB.out⟩
theorem eqCrowd_same (A B MA MB : Option Addr) (c d mc md : Nat) (xs ys : List Ln) (zs : List Int) (w : World) (hl : xs.length ≤ 9223372036854775807) (hz : zs.length ≤ 9223372036854775807) (hs : sameLns xs ys) (hx : LGrid w A xs) (hy : LGrid w B ys) (h1 : Sl w MA (ints zs)) (h2 : Sl w MB (ints zs)) :
    Calls Try.prog 27 #[.agg #[.slice A xs.length c, .slice MA zs.length mc], .agg #[.slice B xs.length d, .slice MB zs.length md]] w fun e w' => e = .returned (.bool true) ∧ Below w.heap.size w w' := by
  obtain ⟨o1, ho1⟩ : ∃ o1, o1 = Obj.cells #[.slice A xs.length c, .slice MA zs.length mc] 43 := ⟨_, rfl⟩
  obtain ⟨o2, ho2⟩ : ∃ o2, o2 = Obj.cells #[.slice B xs.length d, .slice MB zs.length md] 43 := ⟨_, rfl⟩
  have hb : Below w.heap.size w ((w.alloc o1).alloc o2) := ((Below.refl _ _).alloc (Nat.le_refl _) _).alloc (by simp) _
  have hE := eqLaneS_same A B c d xs ys ((w.alloc o1).alloc o2) hl hs (hx.below hb) (hy.below hb)
  have q1 : ((w.alloc o1).alloc o2).heap[w.heap.size]? = some o1 := by
    rw [heap_alloc_old _ _ (by simp)]; exact heap_alloc_new _ _
  have q2 : ((w.alloc o1).alloc o2).heap[w.heap.size + 1]? = some o2 := by
    have := heap_alloc_new (w.alloc o1) o2
    simpa using this
  have HB := mkHid hb
  have Q1 := mkHid (fun X (hX : Below ((w.alloc o1).alloc o2).heap.size ((w.alloc o1).alloc o2) X) => (hX.block w.heap.size (by simp; omega)).trans q1)
  have Q2 := mkHid (fun X (hX : Below ((w.alloc o1).alloc o2).heap.size ((w.alloc o1).alloc o2) X) => (hX.block (w.heap.size + 1) (by simp)).trans q2)
  subst ho1 ho2
  have HE := mkHid hE
  have H1 := mkHid h1
  have H2 := mkHid h2
  clear hE hb q1 q2 hx hy h1 h2 hs
  go_enter Try.func27, Try.ntmps27
  go_wp2_with fail
  refine HE.out.mono ?_
  rintro e w2 ⟨rfl, b2⟩
  obtain ⟨p0, p1⟩ := (box2 (Q1.out w2 b2)).1
  obtain ⟨r0, r1⟩ := (box2 (Q2.out w2 b2)).1
  have HB2 := mkHid (HB.out.trans (b2.mono HB.out.size))
  clear b2
  go_wp2_with fail
  refine (eqIntS_same MA MB mc md zs w2 hz (H1.out.below HB2.out) (H2.out.below HB2.out)).mono ?_
  rintro e w3 ⟨rfl, k, rfl⟩
  have HB3 := mkHid (below_drewN HB2.out k)
  go_wp2_with fail
  go_ret
  exact ⟨rfl, HB3.out⟩
end Go.Proofs.Ytilhcedfokhhjaa
