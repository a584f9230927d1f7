/-
  Parts of a proof: CBlk2.
-/
import Derived.Test.YtjmiilneennjaaaPart04
namespace Go.Proofs.Ytjmiilneennjaaa
open Go.RowKit
set_option maxHeartbeats 4000000
set_option maxRecDepth 100000
set_option linter.unusedVariables false

def ops (xs : List Cd) : List Int := xs.map fun x => x.op
theorem ops_len (xs : List Cd) : (ops xs).length = xs.length := by simp [ops]
theorem ops_at {xs : List Cd} {k : Nat} (h : k < xs.length) : opAt (ops xs) k = xs[k].op := by
  unfold opAt ops
  simp [List.getD, h]
/-- what blocks hands back of a program whose blocks are properly nested. -/
def BlkRet (w : World) (os : List Int) (n base : Nat) (Av Ov : Value) : Prop :=
  ∃ R O P Rw S, Av = .slice (some ⟨R, 0, none⟩) n n ∧ Ov = .slice (some ⟨O, 0, none⟩) n n ∧ BlkInv w os n n n base R O P Rw S
def RetBlocks (xs : List Cd) (w : World) (e : Ending) (w' : World) : Prop :=
  ∃ Av Ov : Value, e = .returned (.tuple #[Av, Ov, .bool (balB (ops xs))]) ∧ Below w.heap.size w w' ∧ (balB (ops xs) = true → BlkRet w' (ops xs) xs.length w.heap.size Av Ov)
theorem bal_no {xs : List Cd} {k : Nat} (hk : k < xs.length) (h : stepOk (ops xs) k = false) : balB (ops xs) = false := by
  unfold balB
  rw [okUpto_no (by rw [ops_len]; exact hk) h]; rfl
theorem stepOk_open {os : List Int} {k : Nat} (h : opensB (opAt os k) = true) : stepOk os k = decide ((stk os k).length < 3) := by unfold stepOk; rw [if_pos h]
theorem stepOk_else {os : List Int} {k : Nat} (h : opAt os k = 12) : stepOk os k = elseOk os k := by unfold stepOk; rw [if_neg (by rw [h]; decide), if_pos h]
theorem stepOk_end {os : List Int} {k : Nat} (h : opAt os k = 14) : stepOk os k = !(stk os k).isEmpty := by unfold stepOk; rw [if_neg (by rw [h]; decide), if_neg (by rw [h]; decide), if_pos h]
theorem stepOk_other {os : List Int} {k : Nat} (h : opensB (opAt os k) = false) (h12 : opAt os k ≠ 12) (h14 : opAt os k ≠ 14) : stepOk os k = true := by unfold stepOk; rw [if_neg (by rw [h]; decide), if_neg h12, if_neg h14]
theorem okUpto_s (os : List Int) (k : Nat) : okUpto os (k + 1) = (okUpto os k && stepOk os k) := rfl
theorem own_emptyB (w : World) (e : TypeId) {base B : Nat} (hb : base ≤ w.heap.size) (hB : B = w.heap.size) : (w.alloc (.cells #[] e)).ownsRow base e 1 (.slice (some ⟨B, 0, none⟩) 0 0) 0 [] := by
  subst hB
  exact World.ownsRow_made w #[] 0 hb (by simp [maxLen]) (by simp)
def _root_.Go.Value.isSlice (v : Value) (n : Nat) : Prop := ∃ A c, v = .slice A n c
theorem box4c {w : World} {B : Nat} {c0 c1 c2 c3 : Value} {ty : TypeId} (h : w.heap[B]? = some (.cells #[c0, c1, c2, c3] ty (0, 0))) :
    (w.cell? ⟨B, 0, none⟩ = some c0 ∧ w.cell? ⟨B, 1, none⟩ = some c1 ∧ w.cell? ⟨B, 2, none⟩ = some c2 ∧ w.cell? ⟨B, 3, none⟩ = some c3) ∧ w.frozen? ⟨B, 0, none⟩ = false :=
  ⟨⟨cell_of_row _ _ _ _ _ _ h, cell_of_row _ _ _ _ _ _ h, cell_of_row _ _ _ _ _ _ h, cell_of_row _ _ _ _ _ _ h⟩, frozen_of_row _ _ _ _ _ h⟩
theorem blocks_any (A : Option Addr) (c : Nat) (xs : List Cd) (w : World) (hl : xs.length ≤ 1000) (hs : Sl w A (cflat xs)) :
    Calls Try.prog 77 #[.slice A xs.length c] w (RetBlocks xs w) := by
  obtain ⟨i0, hi0, hz0, hz1, hz2⟩ := info_parts Eq2.hi
  obtain ⟨j0, hj0, hy0, hy1, hy2⟩ := info_parts Ep.hi
  obtain ⟨os, hos⟩ : ∃ os, os = ops xs := ⟨_, rfl⟩
  have HOS := mkHid hos
  have hon : os.length = xs.length := by rw [hos]; exact ops_len xs
  have HAT := mkHid (show ∀ k (h : k < xs.length), opAt os k = xs[k].op from fun k h => by rw [hos]; exact ops_at h)
  have HNO := mkHid (show ∀ k, k < xs.length → stepOk os k = false → balB os = false from fun k hk h => by rw [hos] at h ⊢; exact bal_no hk h)
  unfold RetBlocks
  rw [← hos]
  clear hos
  have HS0 := mkHid hs
  clear hs
  go_enter Try.func77, Try.ntmps77
  go_wp2_with (at_make; first
    | (refine wpList_make_full _ rfl _ _ _ rfl w.heap.size _ i0 _ 1 Eq2.ht hi0 hz0 hz1 _ _ _ _ xs.length rfl rfl rfl rfl (by rw [hz2]; omega) (by simp only [maxLen]; omega) (Nat.le_refl _) ?_
       intro w1 hown1 hg1
       have HR1 := mkHid hown1
       have HG1 := mkHid hg1
       have hsz1 := hg1.size
       clear hown1 hg1)
    | (refine wpList_make_full _ rfl _ _ _ rfl w.heap.size _ j0 _ 1 Ep.ht hj0 hy0 hy1 _ _ _ _ xs.length rfl rfl rfl rfl (by rw [hy2]; omega) (by simp only [maxLen]; omega) (by omega) ?_
       intro w2 hown2 hg2
       have HO2 := mkHid hown2
       have HG2 := mkHid hg2
       clear hown2 hg2))
  have hI0 : BlkInv w2 os xs.length 0 0 w.heap.size w.heap.size w1.heap.size (fun _ => 0) (fun _ => (0, 0)) (.slice none 0 0) := by
    refine ⟨?_, ?_, World.ownsRow_nil _ _ _ _, by simp [Value.ownBlock], fun b hb => absurd hb (by omega), fun a b ha => absurd ha (by omega), fun j hj => absurd hj (by omega), fun j hj => absurd hj (by omega), fun j hj => absurd hj (by omega)⟩
    · have := own_below HR1.out (grown_belowNone HG2.out)
      rw [nilRows] at this
      simpa [rowL] using this
    · have := HO2.out
      rw [nilPtrs] at this
      simpa [ownL] using this
  have HI0 := mkHid hI0
  have HB0 := mkHid (below_then (grown_belowNone HG1.out) (grown_belowNone HG2.out))
  obtain ⟨O, hO⟩ : ∃ O, O = w1.heap.size := ⟨_, rfl⟩
  rw [← hO] at HI0 ⊢
  clear hI0 HR1 HO2 HG1 HG2
  go_loopw [19, 7] (fun i s wr => ∃ k : Nat, k ≤ xs.length ∧ i = .int .i64 k ∧ ∃ P Rw, BlkInv wr os xs.length k k w.heap.size w.heap.size O P Rw s ∧ s.isSlice (stk os k).length ∧ okUpto os k = true ∧ Below w.heap.size w wr) (fun i _ _ => xs.length - (intOf i).toNat)
  case atStart => exact ⟨0, by omega, rfl, _, _, HI0.out, ⟨none, 0, rfl⟩, rfl, HB0.out⟩
  case round =>
    clear HI0 HB0 hO hsz1
    obtain ⟨k, hk, rfl, P, Rw, hinv, ⟨sA, sc, rfl⟩, hok, hb⟩ := hrel
    have HI := mkHid hinv
    have HB := mkHid hb
    have HK := mkHid hok
    have hs' := HS0.out.below hb
    have hsz := hb.size
    have h3 := stk_three hok
    by_cases hlt : k < xs.length
    · obtain ⟨b0, off, rfl, e0, e1, e2, e3⟩ := hs'.cd hlt
      have hop := HAT.out k hlt
      have HSR := mkHid hs'
      obtain ⟨x, hx⟩ : ∃ x, x = xs[k] := ⟨_, rfl⟩
      rw [← hx] at e0 e1 e2 e3 hop
      obtain ⟨op, xa, xb, xc⟩ := x
      simp only at e0 e1 e2 e3 hop
      have hOlt : O < wr.heap.size := (hinv.hO.lt O rfl).2
      have hRlt : w.heap.size < wr.heap.size := (hinv.hR.lt _ rfl).2
      have HX := mkHid hx
      clear hx hs' hb hinv hok
      obtain ⟨L, hL⟩ : ∃ L, L = (stk os k).length := ⟨_, rfl⟩
      have HL := mkHid hL
      rw [← hL] at h3 ⊢
      obtain ⟨X1, hX1⟩ : ∃ X1, X1 = (wr.alloc (.cells #[.int .i64 op, .int .i64 xa, .int .i64 xb, .int .i64 xc] 69)).alloc (.cells #[] 101) := ⟨_, rfl⟩
      have hbX : Below wr.heap.size wr X1 := by rw [hX1]; exact ((Below.refl _ _).alloc (Nat.le_refl _) _).alloc (by simp) _
      have hXs : X1.heap.size = wr.heap.size + 2 := by rw [hX1]; simp
      have hX0 : X1.heap[wr.heap.size]? = some (.cells #[.int .i64 op, .int .i64 xa, .int .i64 xb, .int .i64 xc] 69 (0, 0)) := by
        rw [hX1, heap_alloc_old _ _ (by simp)]; exact heap_alloc_new _ _
      have hLit : X1.ownsRow w.heap.size 101 1 (.slice (some ⟨wr.heap.size + 1, 0, none⟩) 0 0) 0 [] := by
        rw [hX1]; exact own_emptyB _ _ (by simp; omega) (by simp)
      have HS1 := mkHid (show X1.ownsRow w.heap.size 101 1 (.slice sA L sc) L (ptrs P (stk os k)) from by rw [hL]; exact (HI.out.below hbX).hS)
      have HLit := mkHid hLit
      have HX0 := mkHid hX0
      have HBX := mkHid hbX
      have HXS := mkHid hXs
      clear hbX hXs hX0 hLit hL
      subst hX1
      have hops : op = 11 ∨ op = 13 ∨ op = 12 ∨ op = 14 ∨ ((op == 11) = false ∧ (op == 13) = false ∧ (op == 12) = false ∧ (op == 14) = false) := by
        simp only [beq_eq_false_iff_ne]; omega
      rcases hops with rfl | rfl | rfl | rfl | ⟨n11, n13, n12, n14⟩
      · have HO := mkHid (show w.heap.size ≤ O from (HI.out.hO.lt O rfl).1)
        have hst := stepOk_open (os := os) (k := k) (by rw [hop]; rfl)
        rw [← HL.out] at hst
        have HST := mkHid hst
        clear hst
        by_cases hL3 : L < 3
        · have hgg : ¬ (3 : Int) < (L : Int) + 1 := by omega
          go_wp2_with (at_builtin; first
            | (refine wpList_copy Ep HLit.out HS1.out (ptrs_one _ _) (by omega) (by omega) (by rw [HXS.out]; omega) rfl rfl rfl rfl ?_
               intro r c' w3 hown3 hg3 hat3
               have hb3 : Below wr.heap.size wr w3 := HBX.out.grown hg3 HBX.out.size (fun g e => by injection e with e; omega)
               have hi3 := HI.out.below hb3
               have hrr : wr.heap.size < r := by have := HXS.out; omega
               have hi4 := hi3.row hlt (r := r) (c := c') (by rw [← HL.out]; exact hown3) (by omega) (fun e => by have := (HI.out.hS.lt r e).2; omega)
               rw [← HL.out] at hi4
               have HI4 := mkHid hi4
               have hR4 := (grown_setCell w3 w.heap.size k (.slice (some ⟨r, 0, none⟩) L c')).size
               have HB4 := mkHid ((HB.out.trans (hb3.mono hsz)).setCell (p := ⟨w.heap.size, k, none⟩) (Nat.le_refl _) (.slice (some ⟨r, 0, none⟩) L c'))
               have HE4 : Hid ((w3.setCell ⟨w.heap.size, k, none⟩ (.slice (some ⟨r, 0, none⟩) L c')).heap[wr.heap.size]? = some (.cells #[.int .i64 11, .int .i64 xa, .int .i64 xb, .int .i64 xc] 69 (0, 0))) := mkHid (by
                 rw [(grown_setCell w3 w.heap.size k _).block wr.heap.size (by have := hg3.size; have := HXS.out; omega) (fun e => by injection e with e; omega), hg3.block wr.heap.size (by have := HXS.out; omega) (fun e => by injection e with e; omega)]
                 exact HX0.out)
               have hf := hi3.hR.frozenAt k
               obtain ⟨u0, hu0⟩ : ∃ u, w3.cell? ⟨w.heap.size, k, none⟩ = some u := ⟨_, (hi3.hR.cellAt k (by omega)).trans (List.getElem?_eq_getElem (by rw [hi3.hR.1]; omega))⟩
               have g0 := (box4c HE4.out).1.1
               have hmid := hi4.mid hlt (H := w3.heap.size) (by rw [setCell_size]) (o := .cells #[.int .i64 k, .int .i64 (-1), .int .i64 (-1)] 103)
               rw [← HL.out] at hmid
               have HMS := mkHid (hmid.1.alloc (.cells #[.pointer (some ⟨w3.heap.size, 0, none⟩)] 101))
               obtain ⟨v0, y0⟩ := hmid.2.2.2.2
               have y1 := hmid.2.2.2.1
               have y2 := hmid.2.2.1
               have hs3 : wr.heap.size + 2 ≤ w3.heap.size := by have := hg3.size; have := HXS.out; omega
               clear hmid
               clear hi3 hi4 hown3 hg3 hat3 hb3)
            | (refine wpList_append_lies _ rfl _ _ _ rfl w.heap.size _ j0 _ 1 8 Ep.ht hj0 hy0 hy1 hy2 rfl (by omega) _ _ _ rfl HMS.out _ 1 1 [.pointer (some ⟨w3.heap.size, 0, none⟩)] rfl (by simp) (newCellsAt3 _ _ _ (by simp)) (by simp [Value.oneCell']) (by omega) (by simp only [maxLen]; omega) (by omega) (by simp; omega) _ rfl ?_
               intro g c2 w8 hown8 hg8 hat8 hlt8
               have hW : Below ((((w3.setCell ⟨w.heap.size, k, none⟩ (.slice (some ⟨r, 0, none⟩) L c')).alloc (.cells #[.int .i64 k, .int .i64 (-1), .int .i64 (-1)] 103)).setCell ⟨O, k, none⟩ (ptrV w3.heap.size))).heap.size (((w3.setCell ⟨w.heap.size, k, none⟩ (.slice (some ⟨r, 0, none⟩) L c')).alloc (.cells #[.int .i64 k, .int .i64 (-1), .int .i64 (-1)] 103)).setCell ⟨O, k, none⟩ (ptrV w3.heap.size)) ((((w3.setCell ⟨w.heap.size, k, none⟩ (.slice (some ⟨r, 0, none⟩) L c')).alloc (.cells #[.int .i64 k, .int .i64 (-1), .int .i64 (-1)] 103)).setCell ⟨O, k, none⟩ (ptrV w3.heap.size)).alloc (.cells #[.pointer (some ⟨w3.heap.size, 0, none⟩)] 101)) := (Below.refl _ _).alloc (Nat.le_refl _) _
               have HI8 := mkHid (HI4.out.open hlt (by rw [hop]; rfl) (H := w3.heap.size) (by rw [setCell_size]) (by rw [setCell_size]; omega) hW (by rw [← HL.out]) hown8 hg8 (by rcases hat8 with h | h; exact .inl h; exact .inr (Nat.le_of_eq h.symm)))
               have HB8 := mkHid ((((HB4.out.alloc (by rw [setCell_size]; omega) (.cells #[.int .i64 k, .int .i64 (-1), .int .i64 (-1)] 103)).setCell (p := ⟨O, k, none⟩) (HO.out) (ptrV w3.heap.size)).alloc (by simp; omega) (.cells #[.pointer (some ⟨w3.heap.size, 0, none⟩)] 101)).grown hg8 (by simp; omega) (fun g e => (HI.out.hS.lt g (by rw [← HL.out]; exact e)).1))
               clear hown8 hg8 hat8 hlt8 hW y0 y1 y2))
          go_roundw
          case rel => exact ⟨k + 1, by omega, by go_num, _, _, HI8.out, ⟨_, _, by rw [stk_s, if_pos (by rw [hop]; rfl), List.length_append, List.length_singleton, ← HL.out]⟩, by rw [okUpto_s, HK.out, HST.out, decide_eq_true hL3]; rfl, HB8.out⟩
          case measure => simp [intOf] <;> omega

        · have hgg : (3 : Int) < (L : Int) + 1 := by omega
          have HF := mkHid (HNO.out k hlt (by rw [HST.out, decide_eq_false hL3]))
          go_wp2_with (at_builtin; first
            | (refine wpList_copy Ep HLit.out HS1.out (ptrs_one _ _) (by omega) (by omega) (by rw [HXS.out]; omega) rfl rfl rfl rfl ?_
               intro r c' w3 hown3 hg3 hat3
               have hb3 : Below wr.heap.size wr w3 := HBX.out.grown hg3 HBX.out.size (fun g e => by injection e with e; omega)
               have hi3 := HI.out.below hb3
               have hrr : wr.heap.size < r := by have := HXS.out; omega
               have hi4 := hi3.row hlt (r := r) (c := c') (by rw [← HL.out]; exact hown3) (by omega) (fun e => by have := (HI.out.hS.lt r e).2; omega)
               rw [← HL.out] at hi4
               have HI4 := mkHid hi4
               have hR4 := (grown_setCell w3 w.heap.size k (.slice (some ⟨r, 0, none⟩) L c')).size
               have HB4 := mkHid ((HB.out.trans (hb3.mono hsz)).setCell (p := ⟨w.heap.size, k, none⟩) (Nat.le_refl _) (.slice (some ⟨r, 0, none⟩) L c'))
               have HE4 : Hid ((w3.setCell ⟨w.heap.size, k, none⟩ (.slice (some ⟨r, 0, none⟩) L c')).heap[wr.heap.size]? = some (.cells #[.int .i64 11, .int .i64 xa, .int .i64 xb, .int .i64 xc] 69 (0, 0))) := mkHid (by
                 rw [(grown_setCell w3 w.heap.size k _).block wr.heap.size (by have := hg3.size; have := HXS.out; omega) (fun e => by injection e with e; omega), hg3.block wr.heap.size (by have := HXS.out; omega) (fun e => by injection e with e; omega)]
                 exact HX0.out)
               have hf := hi3.hR.frozenAt k
               obtain ⟨u0, hu0⟩ : ∃ u, w3.cell? ⟨w.heap.size, k, none⟩ = some u := ⟨_, (hi3.hR.cellAt k (by omega)).trans (List.getElem?_eq_getElem (by rw [hi3.hR.1]; omega))⟩
               have g0 := (box4c HE4.out).1.1
               have hmid := hi4.mid hlt (H := w3.heap.size) (by rw [setCell_size]) (o := .cells #[.int .i64 k, .int .i64 (-1), .int .i64 (-1)] 103)
               rw [← HL.out] at hmid
               have HMS := mkHid (hmid.1.alloc (.cells #[.pointer (some ⟨w3.heap.size, 0, none⟩)] 101))
               obtain ⟨v0, y0⟩ := hmid.2.2.2.2
               have y1 := hmid.2.2.2.1
               have y2 := hmid.2.2.1
               have hs3 : wr.heap.size + 2 ≤ w3.heap.size := by have := hg3.size; have := HXS.out; omega
               clear hmid
               clear hi3 hi4 hown3 hg3 hat3 hb3)
            | (refine wpList_append_lies _ rfl _ _ _ rfl w.heap.size _ j0 _ 1 8 Ep.ht hj0 hy0 hy1 hy2 rfl (by omega) _ _ _ rfl HMS.out _ 1 1 [.pointer (some ⟨w3.heap.size, 0, none⟩)] rfl (by simp) (newCellsAt3 _ _ _ (by simp)) (by simp [Value.oneCell']) (by omega) (by simp only [maxLen]; omega) (by omega) (by simp; omega) _ rfl ?_
               intro g c2 w8 hown8 hg8 hat8 hlt8
               have hW : Below ((((w3.setCell ⟨w.heap.size, k, none⟩ (.slice (some ⟨r, 0, none⟩) L c')).alloc (.cells #[.int .i64 k, .int .i64 (-1), .int .i64 (-1)] 103)).setCell ⟨O, k, none⟩ (ptrV w3.heap.size))).heap.size (((w3.setCell ⟨w.heap.size, k, none⟩ (.slice (some ⟨r, 0, none⟩) L c')).alloc (.cells #[.int .i64 k, .int .i64 (-1), .int .i64 (-1)] 103)).setCell ⟨O, k, none⟩ (ptrV w3.heap.size)) ((((w3.setCell ⟨w.heap.size, k, none⟩ (.slice (some ⟨r, 0, none⟩) L c')).alloc (.cells #[.int .i64 k, .int .i64 (-1), .int .i64 (-1)] 103)).setCell ⟨O, k, none⟩ (ptrV w3.heap.size)).alloc (.cells #[.pointer (some ⟨w3.heap.size, 0, none⟩)] 101)) := (Below.refl _ _).alloc (Nat.le_refl _) _
               have HI8 := mkHid (HI4.out.open hlt (by rw [hop]; rfl) (H := w3.heap.size) (by rw [setCell_size]) (by rw [setCell_size]; omega) hW (by rw [← HL.out]) hown8 hg8 (by rcases hat8 with h | h; exact .inl h; exact .inr (Nat.le_of_eq h.symm)))
               have HB8 := mkHid ((((HB4.out.alloc (by rw [setCell_size]; omega) (.cells #[.int .i64 k, .int .i64 (-1), .int .i64 (-1)] 103)).setCell (p := ⟨O, k, none⟩) (HO.out) (ptrV w3.heap.size)).alloc (by simp; omega) (.cells #[.pointer (some ⟨w3.heap.size, 0, none⟩)] 101)).grown hg8 (by simp; omega) (fun g e => (HI.out.hS.lt g (by rw [← HL.out]; exact e)).1))
               clear hown8 hg8 hat8 hlt8 hW y0 y1 y2))
          go_ret3
          refine ⟨.slice none 0 0, .slice none 0 0, ?_, HB8.out, fun h => by rw [HF.out] at h; cases h⟩
          rw [HF.out]
          rfl
      · have HO := mkHid (show w.heap.size ≤ O from (HI.out.hO.lt O rfl).1)
        have hst := stepOk_open (os := os) (k := k) (by rw [hop]; rfl)
        rw [← HL.out] at hst
        have HST := mkHid hst
        clear hst
        by_cases hL3 : L < 3
        · have hgg : ¬ (3 : Int) < (L : Int) + 1 := by omega
          go_wp2_with (at_builtin; first
            | (refine wpList_copy Ep HLit.out HS1.out (ptrs_one _ _) (by omega) (by omega) (by rw [HXS.out]; omega) rfl rfl rfl rfl ?_
               intro r c' w3 hown3 hg3 hat3
               have hb3 : Below wr.heap.size wr w3 := HBX.out.grown hg3 HBX.out.size (fun g e => by injection e with e; omega)
               have hi3 := HI.out.below hb3
               have hrr : wr.heap.size < r := by have := HXS.out; omega
               have hi4 := hi3.row hlt (r := r) (c := c') (by rw [← HL.out]; exact hown3) (by omega) (fun e => by have := (HI.out.hS.lt r e).2; omega)
               rw [← HL.out] at hi4
               have HI4 := mkHid hi4
               have hR4 := (grown_setCell w3 w.heap.size k (.slice (some ⟨r, 0, none⟩) L c')).size
               have HB4 := mkHid ((HB.out.trans (hb3.mono hsz)).setCell (p := ⟨w.heap.size, k, none⟩) (Nat.le_refl _) (.slice (some ⟨r, 0, none⟩) L c'))
               have HE4 : Hid ((w3.setCell ⟨w.heap.size, k, none⟩ (.slice (some ⟨r, 0, none⟩) L c')).heap[wr.heap.size]? = some (.cells #[.int .i64 13, .int .i64 xa, .int .i64 xb, .int .i64 xc] 69 (0, 0))) := mkHid (by
                 rw [(grown_setCell w3 w.heap.size k _).block wr.heap.size (by have := hg3.size; have := HXS.out; omega) (fun e => by injection e with e; omega), hg3.block wr.heap.size (by have := HXS.out; omega) (fun e => by injection e with e; omega)]
                 exact HX0.out)
               have hf := hi3.hR.frozenAt k
               obtain ⟨u0, hu0⟩ : ∃ u, w3.cell? ⟨w.heap.size, k, none⟩ = some u := ⟨_, (hi3.hR.cellAt k (by omega)).trans (List.getElem?_eq_getElem (by rw [hi3.hR.1]; omega))⟩
               have g0 := (box4c HE4.out).1.1
               have hmid := hi4.mid hlt (H := w3.heap.size) (by rw [setCell_size]) (o := .cells #[.int .i64 k, .int .i64 (-1), .int .i64 (-1)] 103)
               rw [← HL.out] at hmid
               have HMS := mkHid (hmid.1.alloc (.cells #[.pointer (some ⟨w3.heap.size, 0, none⟩)] 101))
               obtain ⟨v0, y0⟩ := hmid.2.2.2.2
               have y1 := hmid.2.2.2.1
               have y2 := hmid.2.2.1
               have hs3 : wr.heap.size + 2 ≤ w3.heap.size := by have := hg3.size; have := HXS.out; omega
               clear hmid
               clear hi3 hi4 hown3 hg3 hat3 hb3)
            | (refine wpList_append_lies _ rfl _ _ _ rfl w.heap.size _ j0 _ 1 8 Ep.ht hj0 hy0 hy1 hy2 rfl (by omega) _ _ _ rfl HMS.out _ 1 1 [.pointer (some ⟨w3.heap.size, 0, none⟩)] rfl (by simp) (newCellsAt3 _ _ _ (by simp)) (by simp [Value.oneCell']) (by omega) (by simp only [maxLen]; omega) (by omega) (by simp; omega) _ rfl ?_
               intro g c2 w8 hown8 hg8 hat8 hlt8
               have hW : Below ((((w3.setCell ⟨w.heap.size, k, none⟩ (.slice (some ⟨r, 0, none⟩) L c')).alloc (.cells #[.int .i64 k, .int .i64 (-1), .int .i64 (-1)] 103)).setCell ⟨O, k, none⟩ (ptrV w3.heap.size))).heap.size (((w3.setCell ⟨w.heap.size, k, none⟩ (.slice (some ⟨r, 0, none⟩) L c')).alloc (.cells #[.int .i64 k, .int .i64 (-1), .int .i64 (-1)] 103)).setCell ⟨O, k, none⟩ (ptrV w3.heap.size)) ((((w3.setCell ⟨w.heap.size, k, none⟩ (.slice (some ⟨r, 0, none⟩) L c')).alloc (.cells #[.int .i64 k, .int .i64 (-1), .int .i64 (-1)] 103)).setCell ⟨O, k, none⟩ (ptrV w3.heap.size)).alloc (.cells #[.pointer (some ⟨w3.heap.size, 0, none⟩)] 101)) := (Below.refl _ _).alloc (Nat.le_refl _) _
               have HI8 := mkHid (HI4.out.open hlt (by rw [hop]; rfl) (H := w3.heap.size) (by rw [setCell_size]) (by rw [setCell_size]; omega) hW (by rw [← HL.out]) hown8 hg8 (by rcases hat8 with h | h; exact .inl h; exact .inr (Nat.le_of_eq h.symm)))
               have HB8 := mkHid ((((HB4.out.alloc (by rw [setCell_size]; omega) (.cells #[.int .i64 k, .int .i64 (-1), .int .i64 (-1)] 103)).setCell (p := ⟨O, k, none⟩) (HO.out) (ptrV w3.heap.size)).alloc (by simp; omega) (.cells #[.pointer (some ⟨w3.heap.size, 0, none⟩)] 101)).grown hg8 (by simp; omega) (fun g e => (HI.out.hS.lt g (by rw [← HL.out]; exact e)).1))
               clear hown8 hg8 hat8 hlt8 hW y0 y1 y2))
          go_roundw
          case rel => exact ⟨k + 1, by omega, by go_num, _, _, HI8.out, ⟨_, _, by rw [stk_s, if_pos (by rw [hop]; rfl), List.length_append, List.length_singleton, ← HL.out]⟩, by rw [okUpto_s, HK.out, HST.out, decide_eq_true hL3]; rfl, HB8.out⟩
          case measure => simp [intOf] <;> omega

        · have hgg : (3 : Int) < (L : Int) + 1 := by omega
          have HF := mkHid (HNO.out k hlt (by rw [HST.out, decide_eq_false hL3]))
          go_wp2_with (at_builtin; first
            | (refine wpList_copy Ep HLit.out HS1.out (ptrs_one _ _) (by omega) (by omega) (by rw [HXS.out]; omega) rfl rfl rfl rfl ?_
               intro r c' w3 hown3 hg3 hat3
               have hb3 : Below wr.heap.size wr w3 := HBX.out.grown hg3 HBX.out.size (fun g e => by injection e with e; omega)
               have hi3 := HI.out.below hb3
               have hrr : wr.heap.size < r := by have := HXS.out; omega
               have hi4 := hi3.row hlt (r := r) (c := c') (by rw [← HL.out]; exact hown3) (by omega) (fun e => by have := (HI.out.hS.lt r e).2; omega)
               rw [← HL.out] at hi4
               have HI4 := mkHid hi4
               have hR4 := (grown_setCell w3 w.heap.size k (.slice (some ⟨r, 0, none⟩) L c')).size
               have HB4 := mkHid ((HB.out.trans (hb3.mono hsz)).setCell (p := ⟨w.heap.size, k, none⟩) (Nat.le_refl _) (.slice (some ⟨r, 0, none⟩) L c'))
               have HE4 : Hid ((w3.setCell ⟨w.heap.size, k, none⟩ (.slice (some ⟨r, 0, none⟩) L c')).heap[wr.heap.size]? = some (.cells #[.int .i64 13, .int .i64 xa, .int .i64 xb, .int .i64 xc] 69 (0, 0))) := mkHid (by
                 rw [(grown_setCell w3 w.heap.size k _).block wr.heap.size (by have := hg3.size; have := HXS.out; omega) (fun e => by injection e with e; omega), hg3.block wr.heap.size (by have := HXS.out; omega) (fun e => by injection e with e; omega)]
                 exact HX0.out)
               have hf := hi3.hR.frozenAt k
               obtain ⟨u0, hu0⟩ : ∃ u, w3.cell? ⟨w.heap.size, k, none⟩ = some u := ⟨_, (hi3.hR.cellAt k (by omega)).trans (List.getElem?_eq_getElem (by rw [hi3.hR.1]; omega))⟩
               have g0 := (box4c HE4.out).1.1
               have hmid := hi4.mid hlt (H := w3.heap.size) (by rw [setCell_size]) (o := .cells #[.int .i64 k, .int .i64 (-1), .int .i64 (-1)] 103)
               rw [← HL.out] at hmid
               have HMS := mkHid (hmid.1.alloc (.cells #[.pointer (some ⟨w3.heap.size, 0, none⟩)] 101))
               obtain ⟨v0, y0⟩ := hmid.2.2.2.2
               have y1 := hmid.2.2.2.1
               have y2 := hmid.2.2.1
               have hs3 : wr.heap.size + 2 ≤ w3.heap.size := by have := hg3.size; have := HXS.out; omega
               clear hmid
               clear hi3 hi4 hown3 hg3 hat3 hb3)
            | (refine wpList_append_lies _ rfl _ _ _ rfl w.heap.size _ j0 _ 1 8 Ep.ht hj0 hy0 hy1 hy2 rfl (by omega) _ _ _ rfl HMS.out _ 1 1 [.pointer (some ⟨w3.heap.size, 0, none⟩)] rfl (by simp) (newCellsAt3 _ _ _ (by simp)) (by simp [Value.oneCell']) (by omega) (by simp only [maxLen]; omega) (by omega) (by simp; omega) _ rfl ?_
               intro g c2 w8 hown8 hg8 hat8 hlt8
               have hW : Below ((((w3.setCell ⟨w.heap.size, k, none⟩ (.slice (some ⟨r, 0, none⟩) L c')).alloc (.cells #[.int .i64 k, .int .i64 (-1), .int .i64 (-1)] 103)).setCell ⟨O, k, none⟩ (ptrV w3.heap.size))).heap.size (((w3.setCell ⟨w.heap.size, k, none⟩ (.slice (some ⟨r, 0, none⟩) L c')).alloc (.cells #[.int .i64 k, .int .i64 (-1), .int .i64 (-1)] 103)).setCell ⟨O, k, none⟩ (ptrV w3.heap.size)) ((((w3.setCell ⟨w.heap.size, k, none⟩ (.slice (some ⟨r, 0, none⟩) L c')).alloc (.cells #[.int .i64 k, .int .i64 (-1), .int .i64 (-1)] 103)).setCell ⟨O, k, none⟩ (ptrV w3.heap.size)).alloc (.cells #[.pointer (some ⟨w3.heap.size, 0, none⟩)] 101)) := (Below.refl _ _).alloc (Nat.le_refl _) _
               have HI8 := mkHid (HI4.out.open hlt (by rw [hop]; rfl) (H := w3.heap.size) (by rw [setCell_size]) (by rw [setCell_size]; omega) hW (by rw [← HL.out]) hown8 hg8 (by rcases hat8 with h | h; exact .inl h; exact .inr (Nat.le_of_eq h.symm)))
               have HB8 := mkHid ((((HB4.out.alloc (by rw [setCell_size]; omega) (.cells #[.int .i64 k, .int .i64 (-1), .int .i64 (-1)] 103)).setCell (p := ⟨O, k, none⟩) (HO.out) (ptrV w3.heap.size)).alloc (by simp; omega) (.cells #[.pointer (some ⟨w3.heap.size, 0, none⟩)] 101)).grown hg8 (by simp; omega) (fun g e => (HI.out.hS.lt g (by rw [← HL.out]; exact e)).1))
               clear hown8 hg8 hat8 hlt8 hW y0 y1 y2))
          go_ret3
          refine ⟨.slice none 0 0, .slice none 0 0, ?_, HB8.out, fun h => by rw [HF.out] at h; cases h⟩
          rw [HF.out]
          rfl
      · have hst := stepOk_else (os := os) (k := k) hop
        have HST := mkHid hst
        clear hst
        cases hl : (stk os k).getLast? with
        | none =>
          have hem : stk os k = [] := by
            cases hq : stk os k with
            | nil => rfl
            | cons a t => rw [hq, List.getLast?_cons] at hl; cases hl
          have hL0 : L = 0 := by rw [HL.out, hem]; rfl
          subst hL0
          have HF := mkHid (HNO.out k hlt (show stepOk os k = false from by rw [HST.out]; unfold elseOk; rw [hl]))
          clear hl hem
          go_wp2_with (at_builtin; first
            | (refine wpList_copy Ep HLit.out HS1.out (ptrs_one _ _) (by omega) (by omega) (by rw [HXS.out]; omega) rfl rfl rfl rfl ?_
               intro r c' w3 hown3 hg3 hat3
               have hb3 : Below wr.heap.size wr w3 := HBX.out.grown hg3 HBX.out.size (fun g e => by injection e with e; omega)
               have hi3 := HI.out.below hb3
               have hrr : wr.heap.size < r := by have := HXS.out; omega
               have hi4 := hi3.row hlt (r := r) (c := c') (by rw [← HL.out]; exact hown3) (by omega) (fun e => by have := (HI.out.hS.lt r e).2; omega)
               rw [← HL.out] at hi4
               have HI4 := mkHid hi4
               have hR4 := (grown_setCell w3 w.heap.size k (.slice (some ⟨r, 0, none⟩) 0 c')).size
               have HB4 := mkHid ((HB.out.trans (hb3.mono hsz)).setCell (p := ⟨w.heap.size, k, none⟩) (Nat.le_refl _) (.slice (some ⟨r, 0, none⟩) 0 c'))
               have HE4 : Hid ((w3.setCell ⟨w.heap.size, k, none⟩ (.slice (some ⟨r, 0, none⟩) 0 c')).heap[wr.heap.size]? = some (.cells #[.int .i64 12, .int .i64 xa, .int .i64 xb, .int .i64 xc] 69 (0, 0))) := mkHid (by
                 rw [(grown_setCell w3 w.heap.size k _).block wr.heap.size (by have := hg3.size; have := HXS.out; omega) (fun e => by injection e with e; omega), hg3.block wr.heap.size (by have := HXS.out; omega) (fun e => by injection e with e; omega)]
                 exact HX0.out)
               have hf := hi3.hR.frozenAt k
               obtain ⟨u0, hu0⟩ : ∃ u, w3.cell? ⟨w.heap.size, k, none⟩ = some u := ⟨_, (hi3.hR.cellAt k (by omega)).trans (List.getElem?_eq_getElem (by rw [hi3.hR.1]; omega))⟩
               have g0 := (box4c HE4.out).1.1
               clear hi3 hi4 hown3 hg3 hat3 hb3))
          go_ret3
          refine ⟨.slice none 0 0, .slice none 0 0, ?_, HB4.out, fun h => by rw [HF.out] at h; cases h⟩
          rw [HF.out]
          rfl

        | some b =>
          have hel : elseOk os k = (opAt os b == 11 && decide (oth os b k < 0)) := by unfold elseOk; rw [hl]
          obtain ⟨g, cc, m, hS, hm, hmc, hz9⟩ := HI.out.top hl
          have hbk := last_lt hl
          have hbn : b < xs.length := by omega
          have hLm : L = m + 1 := by rw [HL.out]; exact hm
          subst hLm
          injection hS with hS1 hS2 hS3
          subst hS1 hS3
          have hbo := HAT.out b hbn
          obtain ⟨zb, hzb⟩ : ∃ zb, zb = xs[b].op := ⟨_, rfl⟩
          rw [← hzb] at hbo
          obtain ⟨o, hoo⟩ : ∃ o, o = oth os b k := ⟨_, rfl⟩
          have HOO := mkHid hoo
          have HBK := mkHid hbk
          have HLL := mkHid hl
          have HM := mkHid hm
          have HBO := mkHid hbo
          have HZB := mkHid hzb
          clear hbk hl hm hz9 hbo hzb hoo

          rw [← HOO.out, HBO.out] at hel
          have HEL := mkHid hel
          clear hel
          by_cases hz : zb = 11
          · subst hz
            by_cases ho0 : o < 0
            · have ho0' : ¬ (0 : Int) ≤ o := by omega
              have HOK := mkHid (show stepOk os k = true from by rw [HST.out, HEL.out, decide_eq_true ho0]; rfl)
              go_wp2_with (at_builtin; first
                | (refine wpList_copy Ep HLit.out HS1.out (ptrs_one _ _) (by omega) (by omega) (by rw [HXS.out]; omega) rfl rfl rfl rfl ?_
                   intro r c' w3 hown3 hg3 hat3
                   have hb3 : Below wr.heap.size wr w3 := HBX.out.grown hg3 HBX.out.size (fun g e => by injection e with e; omega)
                   have hi3 := HI.out.below hb3
                   have hrr : wr.heap.size < r := by have := HXS.out; omega
                   have hi4 := hi3.row hlt (r := r) (c := c') (by rw [← HL.out]; exact hown3) (by omega) (fun e => by have := (HI.out.hS.lt r e).2; omega)
                   rw [← HL.out] at hi4
                   have HI4 := mkHid hi4
                   have hR4 := (grown_setCell w3 w.heap.size k (.slice (some ⟨r, 0, none⟩) (m + 1) c')).size
                   have HB4 := mkHid ((HB.out.trans (hb3.mono hsz)).setCell (p := ⟨w.heap.size, k, none⟩) (Nat.le_refl _) (.slice (some ⟨r, 0, none⟩) (m + 1) c'))
                   have HE4 : Hid ((w3.setCell ⟨w.heap.size, k, none⟩ (.slice (some ⟨r, 0, none⟩) (m + 1) c')).heap[wr.heap.size]? = some (.cells #[.int .i64 12, .int .i64 xa, .int .i64 xb, .int .i64 xc] 69 (0, 0))) := mkHid (by
                     rw [(grown_setCell w3 w.heap.size k _).block wr.heap.size (by have := hg3.size; have := HXS.out; omega) (fun e => by injection e with e; omega), hg3.block wr.heap.size (by have := HXS.out; omega) (fun e => by injection e with e; omega)]
                     exact HX0.out)
                   have hf := hi3.hR.frozenAt k
                   obtain ⟨u0, hu0⟩ : ∃ u, w3.cell? ⟨w.heap.size, k, none⟩ = some u := ⟨_, (hi3.hR.cellAt k (by omega)).trans (List.getElem?_eq_getElem (by rw [hi3.hR.1]; omega))⟩
                   have g0 := (box4c HE4.out).1.1
                   obtain ⟨⟨t0, t1, t2, ⟨v0, t3⟩, t4⟩, s0, s1, s2, s3, s4⟩ := hi4.facts hlt HM.out HLL.out
                   rw [← HOO.out] at t2 s1
                   obtain ⟨b1, off1, hA1, f0, _, _, _⟩ := (HS0.out.below HB4.out).cd hbn
                   injection hA1 with hA1
                   injection hA1 with hA2 hA3
                   subst hA2 hA3
                   rw [← HZB.out] at f0

                   have HPB := mkHid (hi4.hP b HBK.out.1 HBK.out.2).1
                   have HOB := mkHid (hi4.hO.lt O rfl).1
                   clear hi3 hi4 hown3 hg3 hat3 hb3))
              go_roundw
              case rel => exact ⟨k + 1, by omega, by go_num, _, _, HI4.out.else_ hlt HLL.out hop, ⟨_, _, by rw [stk_s, if_neg (by rw [hop]; decide), if_neg (by rw [hop]; decide), HM.out]⟩, by rw [okUpto_s, HK.out, HOK.out]; rfl, ((HB4.out.setCell (p := ⟨O, k, none⟩) HOB.out (ptrV (P b))).setCell (p := ⟨P b, 1, none⟩) HPB.out _)⟩
              case measure => simp [intOf] <;> omega

            · have ho0' : (0 : Int) ≤ o := by omega
              have HF := mkHid (HNO.out k hlt (by rw [HST.out, HEL.out, decide_eq_false ho0]; rfl))
              go_wp2_with (at_builtin; first
                | (refine wpList_copy Ep HLit.out HS1.out (ptrs_one _ _) (by omega) (by omega) (by rw [HXS.out]; omega) rfl rfl rfl rfl ?_
                   intro r c' w3 hown3 hg3 hat3
                   have hb3 : Below wr.heap.size wr w3 := HBX.out.grown hg3 HBX.out.size (fun g e => by injection e with e; omega)
                   have hi3 := HI.out.below hb3
                   have hrr : wr.heap.size < r := by have := HXS.out; omega
                   have hi4 := hi3.row hlt (r := r) (c := c') (by rw [← HL.out]; exact hown3) (by omega) (fun e => by have := (HI.out.hS.lt r e).2; omega)
                   rw [← HL.out] at hi4
                   have HI4 := mkHid hi4
                   have hR4 := (grown_setCell w3 w.heap.size k (.slice (some ⟨r, 0, none⟩) (m + 1) c')).size
                   have HB4 := mkHid ((HB.out.trans (hb3.mono hsz)).setCell (p := ⟨w.heap.size, k, none⟩) (Nat.le_refl _) (.slice (some ⟨r, 0, none⟩) (m + 1) c'))
                   have HE4 : Hid ((w3.setCell ⟨w.heap.size, k, none⟩ (.slice (some ⟨r, 0, none⟩) (m + 1) c')).heap[wr.heap.size]? = some (.cells #[.int .i64 12, .int .i64 xa, .int .i64 xb, .int .i64 xc] 69 (0, 0))) := mkHid (by
                     rw [(grown_setCell w3 w.heap.size k _).block wr.heap.size (by have := hg3.size; have := HXS.out; omega) (fun e => by injection e with e; omega), hg3.block wr.heap.size (by have := HXS.out; omega) (fun e => by injection e with e; omega)]
                     exact HX0.out)
                   have hf := hi3.hR.frozenAt k
                   obtain ⟨u0, hu0⟩ : ∃ u, w3.cell? ⟨w.heap.size, k, none⟩ = some u := ⟨_, (hi3.hR.cellAt k (by omega)).trans (List.getElem?_eq_getElem (by rw [hi3.hR.1]; omega))⟩
                   have g0 := (box4c HE4.out).1.1
                   obtain ⟨⟨t0, t1, t2, ⟨v0, t3⟩, t4⟩, s0, s1, s2, s3, s4⟩ := hi4.facts hlt HM.out HLL.out
                   rw [← HOO.out] at t2 s1
                   obtain ⟨b1, off1, hA1, f0, _, _, _⟩ := (HS0.out.below HB4.out).cd hbn
                   injection hA1 with hA1
                   injection hA1 with hA2 hA3
                   subst hA2 hA3
                   rw [← HZB.out] at f0

                   clear hi3 hi4 hown3 hg3 hat3 hb3))
              go_ret3
              refine ⟨.slice none 0 0, .slice none 0 0, ?_, HB4.out, fun h => by rw [HF.out] at h; cases h⟩
              rw [HF.out]
              rfl

          · have hzz : (zb != 11) = true := by simp [hz]
            have HF := mkHid (HNO.out k hlt (by rw [HST.out, HEL.out, show (zb == 11) = false from by simp [hz]]; rfl))
            go_wp2_with (at_builtin; first
              | (refine wpList_copy Ep HLit.out HS1.out (ptrs_one _ _) (by omega) (by omega) (by rw [HXS.out]; omega) rfl rfl rfl rfl ?_
                 intro r c' w3 hown3 hg3 hat3
                 have hb3 : Below wr.heap.size wr w3 := HBX.out.grown hg3 HBX.out.size (fun g e => by injection e with e; omega)
                 have hi3 := HI.out.below hb3
                 have hrr : wr.heap.size < r := by have := HXS.out; omega
                 have hi4 := hi3.row hlt (r := r) (c := c') (by rw [← HL.out]; exact hown3) (by omega) (fun e => by have := (HI.out.hS.lt r e).2; omega)
                 rw [← HL.out] at hi4
                 have HI4 := mkHid hi4
                 have hR4 := (grown_setCell w3 w.heap.size k (.slice (some ⟨r, 0, none⟩) (m + 1) c')).size
                 have HB4 := mkHid ((HB.out.trans (hb3.mono hsz)).setCell (p := ⟨w.heap.size, k, none⟩) (Nat.le_refl _) (.slice (some ⟨r, 0, none⟩) (m + 1) c'))
                 have HE4 : Hid ((w3.setCell ⟨w.heap.size, k, none⟩ (.slice (some ⟨r, 0, none⟩) (m + 1) c')).heap[wr.heap.size]? = some (.cells #[.int .i64 12, .int .i64 xa, .int .i64 xb, .int .i64 xc] 69 (0, 0))) := mkHid (by
                   rw [(grown_setCell w3 w.heap.size k _).block wr.heap.size (by have := hg3.size; have := HXS.out; omega) (fun e => by injection e with e; omega), hg3.block wr.heap.size (by have := HXS.out; omega) (fun e => by injection e with e; omega)]
                   exact HX0.out)
                 have hf := hi3.hR.frozenAt k
                 obtain ⟨u0, hu0⟩ : ∃ u, w3.cell? ⟨w.heap.size, k, none⟩ = some u := ⟨_, (hi3.hR.cellAt k (by omega)).trans (List.getElem?_eq_getElem (by rw [hi3.hR.1]; omega))⟩
                 have g0 := (box4c HE4.out).1.1
                 obtain ⟨⟨t0, t1, t2, ⟨v0, t3⟩, t4⟩, s0, s1, s2, s3, s4⟩ := hi4.facts hlt HM.out HLL.out
                 rw [← HOO.out] at t2 s1
                 obtain ⟨b1, off1, hA1, f0, _, _, _⟩ := (HS0.out.below HB4.out).cd hbn
                 injection hA1 with hA1
                 injection hA1 with hA2 hA3
                 subst hA2 hA3
                 rw [← HZB.out] at f0

                 clear hi3 hi4 hown3 hg3 hat3 hb3))
            go_ret3
            refine ⟨.slice none 0 0, .slice none 0 0, ?_, HB4.out, fun h => by rw [HF.out] at h; cases h⟩
            rw [HF.out]
            rfl
      · have hst := stepOk_end (os := os) (k := k) hop
        have HST := mkHid hst
        clear hst
        cases hl : (stk os k).getLast? with
        | none =>
          have hem : stk os k = [] := by
            cases hq : stk os k with
            | nil => rfl
            | cons a t => rw [hq, List.getLast?_cons] at hl; cases hl
          have hL0 : L = 0 := by rw [HL.out, hem]; rfl
          subst hL0
          have HF := mkHid (HNO.out k hlt (show stepOk os k = false from by rw [HST.out, hem]; rfl))
          clear hl hem
          go_wp2_with (at_builtin; first
            | (refine wpList_copy Ep HLit.out HS1.out (ptrs_one _ _) (by omega) (by omega) (by rw [HXS.out]; omega) rfl rfl rfl rfl ?_
               intro r c' w3 hown3 hg3 hat3
               have hb3 : Below wr.heap.size wr w3 := HBX.out.grown hg3 HBX.out.size (fun g e => by injection e with e; omega)
               have hi3 := HI.out.below hb3
               have hrr : wr.heap.size < r := by have := HXS.out; omega
               have hi4 := hi3.row hlt (r := r) (c := c') (by rw [← HL.out]; exact hown3) (by omega) (fun e => by have := (HI.out.hS.lt r e).2; omega)
               rw [← HL.out] at hi4
               have HI4 := mkHid hi4
               have hR4 := (grown_setCell w3 w.heap.size k (.slice (some ⟨r, 0, none⟩) 0 c')).size
               have HB4 := mkHid ((HB.out.trans (hb3.mono hsz)).setCell (p := ⟨w.heap.size, k, none⟩) (Nat.le_refl _) (.slice (some ⟨r, 0, none⟩) 0 c'))
               have HE4 : Hid ((w3.setCell ⟨w.heap.size, k, none⟩ (.slice (some ⟨r, 0, none⟩) 0 c')).heap[wr.heap.size]? = some (.cells #[.int .i64 14, .int .i64 xa, .int .i64 xb, .int .i64 xc] 69 (0, 0))) := mkHid (by
                 rw [(grown_setCell w3 w.heap.size k _).block wr.heap.size (by have := hg3.size; have := HXS.out; omega) (fun e => by injection e with e; omega), hg3.block wr.heap.size (by have := HXS.out; omega) (fun e => by injection e with e; omega)]
                 exact HX0.out)
               have hf := hi3.hR.frozenAt k
               obtain ⟨u0, hu0⟩ : ∃ u, w3.cell? ⟨w.heap.size, k, none⟩ = some u := ⟨_, (hi3.hR.cellAt k (by omega)).trans (List.getElem?_eq_getElem (by rw [hi3.hR.1]; omega))⟩
               have g0 := (box4c HE4.out).1.1
               clear hi3 hi4 hown3 hg3 hat3 hb3))
          go_ret3
          refine ⟨.slice none 0 0, .slice none 0 0, ?_, HB4.out, fun h => by rw [HF.out] at h; cases h⟩
          rw [HF.out]
          rfl

        | some b =>
          obtain ⟨g, cc, m, hS, hm, hmc, hz9⟩ := HI.out.top hl
          have hbk := last_lt hl
          have hbn : b < xs.length := by omega
          have hLm : L = m + 1 := by rw [HL.out]; exact hm
          subst hLm
          injection hS with hS1 hS2 hS3
          subst hS1 hS3
          have hbo := HAT.out b hbn
          obtain ⟨zb, hzb⟩ : ∃ zb, zb = xs[b].op := ⟨_, rfl⟩
          rw [← hzb] at hbo
          obtain ⟨o, hoo⟩ : ∃ o, o = oth os b k := ⟨_, rfl⟩
          have HOO := mkHid hoo
          have HBK := mkHid hbk
          have HLL := mkHid hl
          have HM := mkHid hm
          have HBO := mkHid hbo
          have HZB := mkHid hzb
          clear hbk hl hm hz9 hbo hzb hoo

          have HOK := mkHid (show stepOk os k = true from by
            rw [HST.out]
            cases hq : stk os k with
            | nil => have := HM.out; rw [hq] at this; cases this
            | cons a t => rfl)
          go_wp2_with (at_builtin; first
            | (refine wpList_copy Ep HLit.out HS1.out (ptrs_one _ _) (by omega) (by omega) (by rw [HXS.out]; omega) rfl rfl rfl rfl ?_
               intro r c' w3 hown3 hg3 hat3
               have hb3 : Below wr.heap.size wr w3 := HBX.out.grown hg3 HBX.out.size (fun g e => by injection e with e; omega)
               have hi3 := HI.out.below hb3
               have hrr : wr.heap.size < r := by have := HXS.out; omega
               have hi4 := hi3.row hlt (r := r) (c := c') (by rw [← HL.out]; exact hown3) (by omega) (fun e => by have := (HI.out.hS.lt r e).2; omega)
               rw [← HL.out] at hi4
               have HI4 := mkHid hi4
               have hR4 := (grown_setCell w3 w.heap.size k (.slice (some ⟨r, 0, none⟩) (m + 1) c')).size
               have HB4 := mkHid ((HB.out.trans (hb3.mono hsz)).setCell (p := ⟨w.heap.size, k, none⟩) (Nat.le_refl _) (.slice (some ⟨r, 0, none⟩) (m + 1) c'))
               have HE4 : Hid ((w3.setCell ⟨w.heap.size, k, none⟩ (.slice (some ⟨r, 0, none⟩) (m + 1) c')).heap[wr.heap.size]? = some (.cells #[.int .i64 14, .int .i64 xa, .int .i64 xb, .int .i64 xc] 69 (0, 0))) := mkHid (by
                 rw [(grown_setCell w3 w.heap.size k _).block wr.heap.size (by have := hg3.size; have := HXS.out; omega) (fun e => by injection e with e; omega), hg3.block wr.heap.size (by have := HXS.out; omega) (fun e => by injection e with e; omega)]
                 exact HX0.out)
               have hf := hi3.hR.frozenAt k
               obtain ⟨u0, hu0⟩ : ∃ u, w3.cell? ⟨w.heap.size, k, none⟩ = some u := ⟨_, (hi3.hR.cellAt k (by omega)).trans (List.getElem?_eq_getElem (by rw [hi3.hR.1]; omega))⟩
               have g0 := (box4c HE4.out).1.1
               obtain ⟨⟨t0, t1, t2, ⟨v0, t3⟩, t4⟩, s0, s1, s2, s3, s4⟩ := hi4.facts hlt HM.out HLL.out
               rw [← HOO.out] at t2 s1
               obtain ⟨b1, off1, hA1, f0, _, _, _⟩ := (HS0.out.below HB4.out).cd hbn
               injection hA1 with hA1
               injection hA1 with hA2 hA3
               subst hA2 hA3
               rw [← HZB.out] at f0

               have HPB := mkHid (hi4.hP b HBK.out.1 HBK.out.2).1
               have HOB := mkHid (hi4.hO.lt O rfl).1
               clear hi3 hi4 hown3 hg3 hat3 hb3))
          go_roundw
          case rel => exact ⟨k + 1, by omega, by go_num, _, _, HI4.out.end_ hlt HM.out HLL.out hop, ⟨_, _, by rw [stk_s, if_neg (by rw [hop]; decide), if_pos hop, List.length_dropLast, HM.out, Nat.add_sub_cancel]⟩, by rw [okUpto_s, HK.out, HOK.out]; rfl, ((HB4.out.setCell (p := ⟨O, k, none⟩) HOB.out (ptrV (P b))).setCell (p := ⟨P b, 2, none⟩) HPB.out _)⟩
          case measure => simp [intOf] <;> omega
      · have HN : Hid (opensB (opAt os k) = false ∧ opAt os k ≠ 12 ∧ opAt os k ≠ 14) := mkHid (by
          rw [hop]
          refine ⟨by unfold opensB; rw [n11, n13]; rfl, by simpa using n12, by simpa using n14⟩)
        go_wp2_with (at_builtin; first
          | (refine wpList_copy Ep HLit.out HS1.out (ptrs_one _ _) (by omega) (by omega) (by rw [HXS.out]; omega) rfl rfl rfl rfl ?_
             intro r c' w3 hown3 hg3 hat3
             have hb3 : Below wr.heap.size wr w3 := HBX.out.grown hg3 HBX.out.size (fun g e => by injection e with e; omega)
             have hi3 := HI.out.below hb3
             have hrr : wr.heap.size < r := by have := HXS.out; omega
             have hi4 := hi3.row hlt (r := r) (c := c') (by rw [← HL.out]; exact hown3) (by omega) (fun e => by have := (HI.out.hS.lt r e).2; omega)
             rw [← HL.out] at hi4
             have HI4 := mkHid hi4
             have hR4 := (grown_setCell w3 w.heap.size k (.slice (some ⟨r, 0, none⟩) L c')).size
             have HB4 := mkHid ((HB.out.trans (hb3.mono hsz)).setCell (p := ⟨w.heap.size, k, none⟩) (Nat.le_refl _) (.slice (some ⟨r, 0, none⟩) L c'))
             have HE4 : Hid ((w3.setCell ⟨w.heap.size, k, none⟩ (.slice (some ⟨r, 0, none⟩) L c')).heap[wr.heap.size]? = some (.cells #[.int .i64 op, .int .i64 xa, .int .i64 xb, .int .i64 xc] 69 (0, 0))) := mkHid (by
               rw [(grown_setCell w3 w.heap.size k _).block wr.heap.size (by have := hg3.size; have := HXS.out; omega) (fun e => by injection e with e; omega), hg3.block wr.heap.size (by have := HXS.out; omega) (fun e => by injection e with e; omega)]
               exact HX0.out)
             have hf := hi3.hR.frozenAt k
             obtain ⟨u0, hu0⟩ : ∃ u, w3.cell? ⟨w.heap.size, k, none⟩ = some u := ⟨_, (hi3.hR.cellAt k (by omega)).trans (List.getElem?_eq_getElem (by rw [hi3.hR.1]; omega))⟩
             have g0 := (box4c HE4.out).1.1
             clear hi3 hi4 hown3 hg3 hat3 hb3))
        go_roundw
        case rel => exact ⟨k + 1, by omega, by go_num, _, _, HI4.out.other hlt HN.out.1 HN.out.2.1 HN.out.2.2, ⟨sA, sc, by rw [HL.out, stk_s, if_neg (by rw [HN.out.1]; decide), if_neg HN.out.2.2]⟩, by rw [okUpto_s, HK.out, stepOk_other HN.out.1 HN.out.2.1 HN.out.2.2]; rfl, HB4.out⟩
        case measure => simp [intOf] <;> omega

    · have hke : k = xs.length := by omega
      subst hke
      have hbal : balB os = ((((stk os xs.length).length : Nat) : Int) == 0) := by
        unfold balB
        rw [hon, hok, Bool.true_and]
        cases hq : stk os xs.length with
        | nil => rfl
        | cons a t => simp; omega
      have HBAL := mkHid hbal
      clear hbal hs' hinv hok hb h3
      go_wp2_with fail
      go_ret3
      refine ⟨_, _, ?_, HB.out, fun _ => ⟨_, _, _, _, _, rfl, rfl, HI.out⟩⟩
      rw [HBAL.out]
      rfl
end Go.Proofs.Ytjmiilneennjaaa
