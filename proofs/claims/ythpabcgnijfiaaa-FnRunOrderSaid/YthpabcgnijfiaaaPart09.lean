/-
  Parts of a proof: CComp2, CMach, CPut.
-/
import Derived.Test.YthpabcgnijfiaaaPart08
import Derived.Test.YthpabcgnijfiaaaPart07
namespace Go.Proofs.Ythpabcgnijfiaaa
open Go.RowKit
set_option maxHeartbeats 1000000
set_option maxRecDepth 100000
set_option linter.unusedVariables false

theorem implCompute_any (x : Cd) (id : Int) (base R rc B d : Nat) (rs mem : List Int) (w : World) (hv : codeValid x = true) (ho : x.op ≤ 10) (h4 : rs.length = 4) (hw : ∀ z ∈ rs, 0 ≤ z ∧ z ≤ 255) (hm : 1 ≤ mem.length ∧ mem.length ≤ 32) (hR : w.ownsRow base 3 1 (rowAt R 4 rc) 4 (ints rs)) (hM : w.ownsRow base 3 1 (rowAt B mem.length d) mem.length (ints mem)) (hne : R ≠ B) :
    Calls Try.prog 73 #[cdV x, .int .i64 id, rowAt R 4 rc, rowAt B mem.length d] w (CompRet base R rc B d rs mem x id w) := by
  obtain ⟨v1, v2, v3, v4, v5, v6, v7⟩ := valid_nums hv
  obtain ⟨r1, r2, r3, r4, r5, r6, r7, r8, r9, _, _⟩ := regs_num x.op
  obtain ⟨op, a, b, c⟩ := x
  simp only at v1 v2 v3 v4 v5 v6 v7 r1 r2 r3 r4 r5 r6 r7 r8 r9 ho
  rcases (show op = 1 ∨ op = 2 ∨ op = 3 ∨ op = 4 ∨ op = 5 ∨ op = 6 ∨ op = 7 ∨ op = 8 ∨ op = 9 ∨ op = 10 by omega) with rfl | rfl | rfl | rfl | rfl | rfl | rfl | rfl | rfl | rfl
  · have ha := v1 (by decide)
    obtain ⟨a, rfl⟩ := Int.eq_ofNat_of_zero_le ha.1
    exact implComp1 a b c id base R rc B d rs mem w (by omega) h4 hw hm hR hM hne
  · have ha := v1 (by decide)
    obtain ⟨a, rfl⟩ := Int.eq_ofNat_of_zero_le ha.1
    exact implComp2 a b c id base R rc B d rs mem w (by omega) h4 hw hm hR hM hne
  · have ha := v1 (by decide)
    obtain ⟨a, rfl⟩ := Int.eq_ofNat_of_zero_le ha.1
    have hb := v2 (by decide)
    obtain ⟨b, rfl⟩ := Int.eq_ofNat_of_zero_le hb.1
    exact implComp3 a b c id base R rc B d rs mem w (by omega) (by omega) h4 hw hm hR hM hne
  · have ha := v1 (by decide)
    obtain ⟨a, rfl⟩ := Int.eq_ofNat_of_zero_le ha.1
    have hb := v2 (by decide)
    obtain ⟨b, rfl⟩ := Int.eq_ofNat_of_zero_le hb.1
    exact implComp4 a b c id base R rc B d rs mem w (by omega) (by omega) h4 hw hm hR hM hne
  · have ha := v1 (by decide)
    obtain ⟨a, rfl⟩ := Int.eq_ofNat_of_zero_le ha.1
    have hb := v2 (by decide)
    obtain ⟨b, rfl⟩ := Int.eq_ofNat_of_zero_le hb.1
    exact implComp5 a b c id base R rc B d rs mem w (by omega) (by omega) h4 hw hm hR hM hne
  · have ha := v1 (by decide)
    obtain ⟨a, rfl⟩ := Int.eq_ofNat_of_zero_le ha.1
    have hb := v2 (by decide)
    obtain ⟨b, rfl⟩ := Int.eq_ofNat_of_zero_le hb.1
    have hc := v3 (by decide)
    obtain ⟨c, rfl⟩ := Int.eq_ofNat_of_zero_le hc.1
    exact implComp6 a b c id base R rc B d rs mem w (by omega) (by omega) (by omega) h4 hw hm hR hM hne
  · have ha := v1 (by decide)
    obtain ⟨a, rfl⟩ := Int.eq_ofNat_of_zero_le ha.1
    have hb := v2 (by decide)
    obtain ⟨b, rfl⟩ := Int.eq_ofNat_of_zero_le hb.1
    have hc := v3 (by decide)
    obtain ⟨c, rfl⟩ := Int.eq_ofNat_of_zero_le hc.1
    exact implComp7 a b c id base R rc B d rs mem w (by omega) (by omega) (by omega) h4 hw hm hR hM hne
  · have ha := v1 (by decide)
    obtain ⟨a, rfl⟩ := Int.eq_ofNat_of_zero_le ha.1
    have hb := v2 (by decide)
    obtain ⟨b, rfl⟩ := Int.eq_ofNat_of_zero_le hb.1
    exact implComp8 a b c id base R rc B d rs mem w (by omega) (by omega) h4 hw hm hR hM hne
  · have ha := v1 (by decide)
    obtain ⟨a, rfl⟩ := Int.eq_ofNat_of_zero_le ha.1
    have hb := v2 (by decide)
    obtain ⟨b, rfl⟩ := Int.eq_ofNat_of_zero_le hb.1
    exact implComp9 a b c id base R rc B d rs mem w (by omega) (by omega) h4 hw hm hR hM hne
  · exact implComp10 a b c id base R rc B d rs mem w hR hM
theorem specCompute_any (x : Cd) (id : Int) (base R rc B d : Nat) (rs mem : List Int) (w : World) (hv : codeValid x = true) (ho : x.op ≤ 10) (h4 : rs.length = 4) (hw : ∀ z ∈ rs, 0 ≤ z ∧ z ≤ 255) (hm : 1 ≤ mem.length ∧ mem.length ≤ 32) (hR : w.ownsRow base 3 1 (rowAt R 4 rc) 4 (ints rs)) (hM : w.ownsRow base 3 1 (rowAt B mem.length d) mem.length (ints mem)) (hne : R ≠ B) :
    Calls Try.prog 68 #[rowAt R 4 rc, rowAt B mem.length d, cdV x, .int .i64 id] w (CompRet base R rc B d rs mem x id w) := by
  obtain ⟨v1, v2, v3, v4, v5, v6, v7⟩ := valid_nums hv
  obtain ⟨r1, r2, r3, r4, r5, r6, r7, r8, r9, _, _⟩ := regs_num x.op
  obtain ⟨op, a, b, c⟩ := x
  simp only at v1 v2 v3 v4 v5 v6 v7 r1 r2 r3 r4 r5 r6 r7 r8 r9 ho
  rcases (show op = 1 ∨ op = 2 ∨ op = 3 ∨ op = 4 ∨ op = 5 ∨ op = 6 ∨ op = 7 ∨ op = 8 ∨ op = 9 ∨ op = 10 by omega) with rfl | rfl | rfl | rfl | rfl | rfl | rfl | rfl | rfl | rfl
  · have ha := v1 (by decide)
    obtain ⟨a, rfl⟩ := Int.eq_ofNat_of_zero_le ha.1
    exact specComp1 a b c id base R rc B d rs mem w (by omega) h4 hw hm hR hM hne
  · have ha := v1 (by decide)
    obtain ⟨a, rfl⟩ := Int.eq_ofNat_of_zero_le ha.1
    exact specComp2 a b c id base R rc B d rs mem w (by omega) h4 hw hm hR hM hne
  · have ha := v1 (by decide)
    obtain ⟨a, rfl⟩ := Int.eq_ofNat_of_zero_le ha.1
    have hb := v2 (by decide)
    obtain ⟨b, rfl⟩ := Int.eq_ofNat_of_zero_le hb.1
    exact specComp3 a b c id base R rc B d rs mem w (by omega) (by omega) h4 hw hm hR hM hne
  · have ha := v1 (by decide)
    obtain ⟨a, rfl⟩ := Int.eq_ofNat_of_zero_le ha.1
    have hb := v2 (by decide)
    obtain ⟨b, rfl⟩ := Int.eq_ofNat_of_zero_le hb.1
    exact specComp4 a b c id base R rc B d rs mem w (by omega) (by omega) h4 hw hm hR hM hne
  · have ha := v1 (by decide)
    obtain ⟨a, rfl⟩ := Int.eq_ofNat_of_zero_le ha.1
    have hb := v2 (by decide)
    obtain ⟨b, rfl⟩ := Int.eq_ofNat_of_zero_le hb.1
    exact specComp5 a b c id base R rc B d rs mem w (by omega) (by omega) h4 hw hm hR hM hne
  · have ha := v1 (by decide)
    obtain ⟨a, rfl⟩ := Int.eq_ofNat_of_zero_le ha.1
    have hb := v2 (by decide)
    obtain ⟨b, rfl⟩ := Int.eq_ofNat_of_zero_le hb.1
    have hc := v3 (by decide)
    obtain ⟨c, rfl⟩ := Int.eq_ofNat_of_zero_le hc.1
    exact specComp6 a b c id base R rc B d rs mem w (by omega) (by omega) (by omega) h4 hw hm hR hM hne
  · have ha := v1 (by decide)
    obtain ⟨a, rfl⟩ := Int.eq_ofNat_of_zero_le ha.1
    have hb := v2 (by decide)
    obtain ⟨b, rfl⟩ := Int.eq_ofNat_of_zero_le hb.1
    have hc := v3 (by decide)
    obtain ⟨c, rfl⟩ := Int.eq_ofNat_of_zero_le hc.1
    exact specComp7 a b c id base R rc B d rs mem w (by omega) (by omega) (by omega) h4 hw hm hR hM hne
  · have ha := v1 (by decide)
    obtain ⟨a, rfl⟩ := Int.eq_ofNat_of_zero_le ha.1
    have hb := v2 (by decide)
    obtain ⟨b, rfl⟩ := Int.eq_ofNat_of_zero_le hb.1
    exact specComp8 a b c id base R rc B d rs mem w (by omega) (by omega) h4 hw hm hR hM hne
  · have ha := v1 (by decide)
    obtain ⟨a, rfl⟩ := Int.eq_ofNat_of_zero_le ha.1
    have hb := v2 (by decide)
    obtain ⟨b, rfl⟩ := Int.eq_ofNat_of_zero_le hb.1
    exact specComp9 a b c id base R rc B d rs mem w (by omega) (by omega) h4 hw hm hR hM hne
  · exact specComp10 a b c id base R rc B d rs mem w hR hM
end Go.Proofs.Ythpabcgnijfiaaa

namespace Go.Proofs.Ythpabcgnijfiaaa
open Go.RowKit
set_option maxHeartbeats 1000000
set_option maxRecDepth 100000
set_option linter.unusedVariables false

/-- nothing below lo has turned, nor any block that holds neither numbers nor lanes. -/
def Frm (lo : Nat) (w w' : World) : Prop :=
  Below lo w w' ∧ ∀ (i : Nat) (cs : Array Value) (ty : TypeId) (fr : Nat × Nat), w.heap[i]? = some (.cells cs ty fr) → ty ≠ 3 → ty ≠ 31 → w'.heap[i]? = some (.cells cs ty fr)
theorem Frm.refl (lo : Nat) (w : World) : Frm lo w w := ⟨Below.refl _ _, fun _ _ _ _ h _ _ => h⟩
theorem Frm.trans {lo : Nat} {a b c : World} (h : Frm lo a b) (k : Frm lo b c) : Frm lo a c :=
  ⟨h.1.trans k.1, fun i cs ty fr hi h1 h2 => k.2 i cs ty fr (h.2 i cs ty fr hi h1 h2) h1 h2⟩
theorem Frm.below {lo : Nat} {a b : World} (h : Below a.heap.size a b) (hl : lo ≤ a.heap.size) : Frm lo a b :=
  ⟨h.mono hl, fun i cs ty fr hi _ _ => (h.block i (Array.getElem?_eq_some_iff.1 hi).1).trans hi⟩
theorem Frm.grown {lo g : Nat} {a b : World} (h : a.grownBy b (some g)) (hlo : lo ≤ a.heap.size) (hg : lo ≤ g) {cs : Array Value} {ty : TypeId} {fr : Nat × Nat} (hq : a.heap[g]? = some (.cells cs ty fr)) (hty : ty = 3 ∨ ty = 31) : Frm lo a b :=
  ⟨(Below.refl lo a).grown h hlo (fun g' e => by injection e with e; omega), fun i cs' ty' fr' hi h1 h2 => (h.block i (Array.getElem?_eq_some_iff.1 hi).1 (fun e => by
    injection e with e
    subst e
    rw [hi] at hq
    simp only [Option.some.injEq, Obj.cells.injEq] at hq
    rcases hty with h3 | h3
    · exact h1 (hq.2.1.trans h3)
    · exact h2 (hq.2.1.trans h3))).trans hi⟩
theorem Frm.own {lo base s n g : Nat} {a b : World} {e : TypeId} {v : Value} {xs : List Value} (h : a.grownBy b (some g)) (hlo : lo ≤ a.heap.size) (ho : a.ownsRow base e s v n xs) (hv : v.ownBlock = some g) (hb : lo ≤ base) (hty : e = 3 ∨ e = 31) : Frm lo a b := by
  obtain ⟨cs, hc⟩ := own_heapA ho hv
  exact Frm.grown h hlo (by have := (ho.lt g hv).1; omega) hc hty
theorem Frm.drew {lo : Nat} {a b : World} (h : Frm lo a b) : Frm lo a b.drew := ⟨⟨h.1.os, h.1.tape, h.1.output, h.1.size, h.1.block⟩, h.2⟩
theorem Frm.undrew {lo : Nat} {a b : World} (h : Frm lo a.drew b) : Frm lo a b := ⟨⟨h.1.os, h.1.tape, h.1.output, h.1.size, h.1.block⟩, h.2⟩
theorem Frm.alloc {lo : Nat} {a b : World} (h : Frm lo a b) (hl : lo ≤ b.heap.size) (o : Obj) : Frm lo a (b.alloc o) := h.trans (Frm.below ((Below.refl _ _).alloc (Nat.le_refl _) o) hl)
structure MachAt (w : World) (lo M : Nat) (LA : Option Addr) (lc : Nat) (xs : List Cd) (O : Nat) (P : Nat → Nat) : Prop where
  hm : w.heap[M]? = some (.cells #[.slice LA xs.length lc, rowAt O xs.length xs.length] 93 (0, 0))
  ho : ∃ cs : Array Value, w.heap[O]? = some (.cells cs 97 (0, 0)) ∧ ∀ k, k < xs.length → cs[k]? = some (ownV P (ops xs) k)
  hp : ∀ b, b < xs.length → opensB (opAt (ops xs) b) = true → w.heap[P b]? = some (.cells #[.int .i64 b, .int .i64 (oth (ops xs) b (ops xs).length), .int .i64 (endOf (ops xs) b (ops xs).length)] 96 (0, 0))
  hl : Sl w LA (cflat xs)
  hb : ∀ ad, LA = some ad → xs ≠ [] → ad.block < lo
section
variable {w w' : World} {lo M lc O : Nat} {LA : Option Addr} {xs : List Cd} {P : Nat → Nat}
theorem Sl.keepLow {w w' : World} {lo : Nat} {A : Option Addr} {us : List Value} (h : Sl w A us) (hb : Below lo w w') (hl : ∀ ad, A = some ad → us ≠ [] → ad.block < lo) : Sl w' A us := by
  rcases h with rfl | ⟨b, off, rfl, hc⟩
  · exact .inl rfl
  · by_cases hn : us = []
    · exact .inl hn
    · refine .inr ⟨b, off, rfl, fun j u hu => ?_⟩
      have := hl _ rfl hn
      exact (hb.cell (p := ⟨b, off + j, none⟩) this).trans (hc j u hu)
theorem cflat_ne {xs : List Cd} (h : cflat xs ≠ []) : xs ≠ [] := fun e => h (by rw [e]; rfl)
theorem MachAt.frm (h : MachAt w lo M LA lc xs O P) (hf : Frm lo w w') : MachAt w' lo M LA lc xs O P := by
  obtain ⟨cs, h1, h2⟩ := h.ho
  exact ⟨hf.2 _ _ _ _ h.hm (by decide) (by decide), ⟨cs, hf.2 _ _ _ _ h1 (by decide) (by decide), h2⟩, fun b hb ho => hf.2 _ _ _ _ (h.hp b hb ho) (by decide) (by decide), h.hl.keepLow hf.1 (fun ad e hn => h.hb ad e (cflat_ne hn)), h.hb⟩
theorem MachAt.lower {lo' : Nat} (h : MachAt w lo M LA lc xs O P) (hl : lo ≤ lo') : MachAt w lo' M LA lc xs O P := ⟨h.hm, h.ho, h.hp, h.hl, fun ad e hn => by have := h.hb ad e hn; omega⟩
theorem MachAt.m2 (h : MachAt w lo M LA lc xs O P) : w.cell? ⟨M, 0, none⟩ = some (.slice LA xs.length lc) ∧ w.cell? ⟨M, 1, none⟩ = some (rowAt O xs.length xs.length) :=
  ⟨cell_of_row _ _ _ _ _ _ h.hm, cell_of_row _ _ _ _ _ _ h.hm⟩
theorem MachAt.own (h : MachAt w lo M LA lc xs O P) {k : Nat} (hk : k < xs.length) : w.cell? ⟨O, k, none⟩ = some (ownV P (ops xs) k) := by
  obtain ⟨cs, h1, h2⟩ := h.ho
  rw [cell_of_row _ _ _ _ _ _ h1]
  exact h2 k hk
theorem MachAt.blk (h : MachAt w lo M LA lc xs O P) {b : Nat} (hb : b < xs.length) (ho : opensB (opAt (ops xs) b) = true) :
    w.cell? ⟨P b, 0, none⟩ = some (.int .i64 b) ∧ w.cell? ⟨P b, 1, none⟩ = some (.int .i64 (oth (ops xs) b (ops xs).length)) ∧ w.cell? ⟨P b, 2, none⟩ = some (.int .i64 (endAt xs b)) :=
  ⟨cell_of_row _ _ _ _ _ _ (h.hp b hb ho), cell_of_row _ _ _ _ _ _ (h.hp b hb ho), cell_of_row _ _ _ _ _ _ (h.hp b hb ho)⟩
end
theorem newMachine_any (LA : Option Addr) (lc : Nat) (xs : List Cd) (lo : Nat) (w : World) (hv : progValid xs = true) (hs : Sl w LA (cflat xs)) (hlo : ∀ ad, LA = some ad → xs ≠ [] → ad.block < lo) :
    Calls Try.prog 39 #[.slice LA xs.length lc] w fun e w' => ∃ M O P, e = .returned (.pointer (some ⟨M, 0, none⟩)) ∧ MachAt w' lo M LA lc xs O P ∧ Below w.heap.size w w' := by
  have h40 := (progValid_yes hv).1
  have HBAL := mkHid (progValid_yes hv).2.2
  have HBL := mkHid (blocks_any LA lc xs w (by omega) hs)
  have HS := mkHid hs
  have HLO := mkHid hlo
  have HVV := mkHid hv
  clear hs hlo hv
  go_enter Try.func39, Try.ntmps39
  go_wp2_with fail
  refine HBL.out.mono ?_
  rintro e w2 ⟨Av, Ov, rfl, b2, hbr⟩
  obtain ⟨R, O, P, Rw, S, rfl, rfl, hI⟩ := hbr HBAL.out
  have HB2 := mkHid b2
  have HI := mkHid hI
  rw [HBAL.out]
  clear b2 hbr hI HBL
  go_wp2_with fail
  go_ret
  refine ⟨w2.heap.size, O, P, rfl, ?_, HB2.out.alloc HB2.out.size _⟩
  have hal : Below w2.heap.size w2 (w2.alloc (.cells #[.slice LA xs.length lc, rowAt O xs.length xs.length] 93)) := (Below.refl _ _).alloc (Nat.le_refl _) _
  have hI := HI.out.below hal
  obtain ⟨cs, hc⟩ := own_heapA hI.hO (g := O) rfl
  have hlen : (ops xs).length = xs.length := ops_len xs
  refine ⟨heap_alloc_new _ _, ⟨cs, hc, fun k hk => ?_⟩, fun b hb ho => ?_, (HS.out.below HB2.out).below hal, HLO.out⟩
  · have := hI.ownAt hk
    rw [cell_of_row _ _ _ _ _ _ hc] at this
    exact this
  · have := (hI.hP b hb ho).2
    rw [hlen]
    exact this
end Go.Proofs.Ythpabcgnijfiaaa

namespace Go.Proofs.Ythpabcgnijfiaaa
open Go.RowKit
set_option maxHeartbeats 1000000
set_option maxRecDepth 100000
set_option linter.unusedVariables false

theorem tflat_set1 (ls : List Lt) (k j : Nat) (l : Lt) (v : Value) (hk : k < ls.length) (hj : j < 4) (hc : ltCells l = (ltCells ls[k]).set j v) : (tflat ls).set (k * 4 + j) v = tflat (ls.set k l) := by
  apply List.ext_getElem?
  intro i
  simp only [List.getElem?_set, tflat_length]
  by_cases h : i < ls.length * 4
  · have h1 := tflat_at (ls.set k l) (i / 4) (i % 4) (by simp; omega) (Nat.mod_lt _ (by omega))
    have h0 := tflat_at ls (i / 4) (i % 4) (by omega) (Nat.mod_lt _ (by omega))
    rw [show i / 4 * 4 + i % 4 = i from by omega] at h1 h0
    rw [h1, h0]
    by_cases hi : k = i / 4
    · subst hi
      have hs : (ls.set (i / 4) l)[i / 4]'(by simp; omega) = l := by simp
      rw [hs, hc]
      by_cases e : i % 4 = j
      · rw [if_pos (by omega), if_pos (by omega), e]
        rw [List.getElem?_set_self (by simp [ltCells]; omega)]
      · rw [if_neg (by omega)]
        rw [List.getElem?_set_ne (fun e' => e e'.symm)]
    · have hs : (ls.set k l)[i / 4]'(by simp; omega) = ls[i / 4]'(by omega) := by rw [List.getElem_set_ne hi]
      rw [hs, if_neg (by omega)]
  · rw [if_neg (by omega), List.getElem?_eq_none (by rw [tflat_length]; omega), List.getElem?_eq_none (by rw [tflat_length]; simp; omega)]
theorem set_same {α : Type} (l : List α) (i : Nat) (h : i < l.length) (a : α) (ha : l[i] = a) : l.set i a = l := by
  subst ha; exact List.set_getElem_self h
theorem rows_keep (ls : List Lt) (k : Nat) (l : Lt) (hk : k < ls.length) (h1 : irR l = irR ls[k]) (h2 : irT l = irT ls[k]) : rowsL (ls.set k l) = rowsL ls := by
  rw [rowsL_set _ _ _ hk, h1, h2, set_same _ _ (by rw [rowsL_len]; omega) _ (rowsL_r ls k hk), set_same _ _ (by rw [rowsL_len]; omega) _ (rowsL_t ls k hk)]
theorem rows_setT (ls : List Lt) (k : Nat) (l : Lt) (hk : k < ls.length) (h1 : irR l = irR ls[k]) : rowsL (ls.set k l) = (rowsL ls).set (2 * k + 1) (irT l) := by
  rw [rowsL_set _ _ _ hk, h1, set_same _ _ (by rw [rowsL_len]; omega) _ (rowsL_r ls k hk)]
theorem rows_setR (ls : List Lt) (k : Nat) (l : Lt) (hk : k < ls.length) (h2 : irT l = irT ls[k]) : rowsL (ls.set k l) = (rowsL ls).set (2 * k) (irR l) := by
  rw [rowsL_set _ _ _ hk, List.set_comm _ _ (by omega), h2, set_same _ _ (by rw [rowsL_len]; omega) _ (rowsL_t ls k hk)]
theorem set_len {α : Type} (l : List α) (i : Nat) (a : α) : (l.set i a).length = l.length := List.length_set
section
variable {w w' : World} {base c G k : Nat} {ls : List Lt} {m : IR}
theorem CrAt.castA {A : Option Addr} (h : CrAt w base A c ls m) (hk : k < ls.length) : ∃ G, A = some ⟨G, 0, none⟩ ∧ base ≤ G ∧ G < w.heap.size := by
  obtain ⟨g, hg, h1, h2, _⟩ := own_open h.1 (i := k * 4) (by rw [tflat_length]; omega)
  exact ⟨g, hg, h1, h2⟩
theorem CrAt.cells (h : CrAt w base (some ⟨G, 0, none⟩) c ls m) (hk : k < ls.length) :
    (w.cell? ⟨G, k * 4, none⟩ = some (ltR ls[k]) ∧ w.cell? ⟨G, k * 4 + 1, none⟩ = some (.int .i64 ls[k].at_) ∧ w.cell? ⟨G, k * 4 + 2, none⟩ = some (ltT ls[k]) ∧ w.cell? ⟨G, k * 4 + 3, none⟩ = some (.bool ls[k].wt)) ∧
    (w.frozen? ⟨G, k * 4, none⟩ = false ∧ w.frozen? ⟨G, k * 4 + 1, none⟩ = false ∧ w.frozen? ⟨G, k * 4 + 2, none⟩ = false ∧ w.frozen? ⟨G, k * 4 + 3, none⟩ = false) := by
  refine ⟨?_, h.1.frozenAt _, h.1.frozenAt _, h.1.frozenAt _, h.1.frozenAt _⟩
  obtain ⟨b, off, hA, h0, h1, h2, h3⟩ := (Sl.of_own h.1).lt hk
  injection hA with hA
  injection hA with hA1 hA2
  subst hA1
  subst hA2
  simp only [Nat.zero_add] at h0 h1 h2 h3
  exact ⟨h0, h1, h2, h3⟩
theorem CrAt.heapG (h : CrAt w base (some ⟨G, 0, none⟩) c ls m) : ∃ cs, w.heap[G]? = some (.cells cs 31 (0, 0)) := own_heapA h.1 rfl
theorem CrAt.frmG (h : CrAt w base (some ⟨G, 0, none⟩) c ls m) (hb : base ≤ w.heap.size) (i : Nat) (v : Value) : Frm base w (w.setCell ⟨G, i, none⟩ v) :=
  Frm.own (grown_setCell w G i v) hb h.1 rfl (Nat.le_refl _) (.inr rfl)
/-- a store into a lane's own cells that leaves its rows. -/
theorem CrAt.put (h : CrAt w base (some ⟨G, 0, none⟩) c ls m) (hk : k < ls.length) (l : Lt) (j : Nat) (v : Value) (hj : j < 4) (hc : ltCells l = (ltCells ls[k]).set j v) (h1 : irR l = irR ls[k]) (h2 : irT l = irT ls[k]) :
    CrAt (w.setCell ⟨G, k * 4 + j, none⟩ v) base (some ⟨G, 0, none⟩) c (ls.set k l) m := by
  obtain ⟨cs, hq⟩ := h.heapG
  have hg := grown_setCell w G (k * 4 + j) v
  refine ⟨?_, ?_⟩
  · have := (h.1.stored (k * 4 + j) v).1
    rw [tflat_set1 ls k j l v hk hj hc] at this
    rw [set_len]
    exact this
  · rw [rows_keep ls k l hk h1 h2]
    exact h.2.other hg hq (by decide)
theorem CrAt.pc (h : CrAt w base (some ⟨G, 0, none⟩) c ls m) (hk : k < ls.length) (z : Int) :
    CrAt (w.setCell ⟨G, k * 4 + 1, none⟩ (.int .i64 z)) base (some ⟨G, 0, none⟩) c (ls.set k ⟨ls[k].ra, ls[k].rc, ls[k].zs, z, ls[k].ta, ls[k].tc, ls[k].ts, ls[k].wt⟩) m :=
  h.put hk _ 1 _ (by omega) rfl rfl rfl
theorem CrAt.wt (h : CrAt w base (some ⟨G, 0, none⟩) c ls m) (hk : k < ls.length) (b : Bool) :
    CrAt (w.setCell ⟨G, k * 4 + 3, none⟩ (.bool b)) base (some ⟨G, 0, none⟩) c (ls.set k ⟨ls[k].ra, ls[k].rc, ls[k].zs, ls[k].at_, ls[k].ta, ls[k].tc, ls[k].ts, b⟩) m :=
  h.put hk _ 3 _ (by omega) rfl rfl rfl
/-- the turns lie in another row, and the lane's cell is set to it. -/
theorem CrAt.turns (h : CrAt w base (some ⟨G, 0, none⟩) c ls m) (hk : k < ls.length) {A' : Option Addr} {c' : Nat} {ts : List Int} (hg : w.grownBy w' (ltT ls[k]).ownBlock) (ho : w'.ownsRow base 3 1 (.slice A' ts.length c') ts.length (ints ts))
    (hb : ∀ g, (Value.slice A' ts.length c').ownBlock = some g → (ltT ls[k]).ownBlock = some g ∨ w.heap.size ≤ g) :
    CrAt (w'.setCell ⟨G, k * 4 + 2, none⟩ (.slice A' ts.length c')) base (some ⟨G, 0, none⟩) c (ls.set k ⟨ls[k].ra, ls[k].rc, ls[k].zs, ls[k].at_, A', c', ts, ls[k].wt⟩) m := by
  obtain ⟨cs, hq⟩ := h.heapG
  have hne : (ltT ls[k]).ownBlock ≠ some G := own_ne_heapA (h.t hk) hq (by decide)
  have hl1 : w'.ownsRow base 31 4 (.slice (some ⟨G, 0, none⟩) ls.length c) ls.length (tflat ls) := own_grown' h.1 hg (fun g e1 e2 => by
    have e1 : G = g := by simpa [Value.ownBlock] using e1
    subst e1
    exact hne e2)
  obtain ⟨cs', hq'⟩ := own_heapA hl1 (g := G) rfl
  have hg2 := grown_setCell w' G (k * 4 + 2) (.slice A' ts.length c')
  refine ⟨?_, ?_⟩
  · have := (hl1.stored (k * 4 + 2) (.slice A' ts.length c')).1
    rw [tflat_set1 ls k 2 ⟨ls[k].ra, ls[k].rc, ls[k].zs, ls[k].at_, A', c', ts, ls[k].wt⟩ _ hk (by omega) rfl] at this
    rw [set_len]
    exact this
  · have hs := h.2.set (w' := w') (t := 2 * k + 2) (by rw [List.length_cons, rowsL_len]; omega) ⟨A', c', ts⟩ (by rw [List.getElem_cons_succ, rowsL_t ls k hk]; exact hg) ho (by rw [List.getElem_cons_succ, rowsL_t ls k hk]; exact hb)
    rw [show 2 * k + 2 = (2 * k + 1) + 1 from rfl, cons_set] at hs
    rw [rows_setT ls k ⟨ls[k].ra, ls[k].rc, ls[k].zs, ls[k].at_, A', c', ts, ls[k].wt⟩ hk rfl]
    exact hs.other hg2 hq' (by decide)
/-- a store into the turns. -/
theorem CrAt.turn (h : CrAt w base (some ⟨G, 0, none⟩) c ls m) (hk : k < ls.length) {T : Nat} (hT : ls[k].ta = some ⟨T, 0, none⟩) (i : Nat) (z : Int) :
    CrAt (w.setCell ⟨T, i, none⟩ (.int .i64 z)) base (some ⟨G, 0, none⟩) c (ls.set k ⟨ls[k].ra, ls[k].rc, ls[k].zs, ls[k].at_, ls[k].ta, ls[k].tc, ls[k].ts.set i z, ls[k].wt⟩) m := by
  have ho := h.t hk
  obtain ⟨cs, hq⟩ := h.heapG
  have hblk : (ltT ls[k]).ownBlock = some T := by unfold ltT; rw [hT]; rfl
  have hg : w.grownBy (w.setCell ⟨T, i, none⟩ (.int .i64 z)) (some T) := grown_setCell w T i _
  have hne : T ≠ G := fun e => own_ne_heapA ho hq (by decide) (by rw [hblk, e])
  have hst : (w.setCell ⟨T, i, none⟩ (.int .i64 z)).ownsRow base 3 1 (ltT ls[k]) ls[k].ts.length (ints (ls[k].ts.set i z)) := by
    have ho2 : w.ownsRow base 3 1 (.slice (some ⟨T, 0, none⟩) ls[k].ts.length ls[k].tc) ls[k].ts.length (ints ls[k].ts) := by
      have := ho
      unfold ltT at this
      rw [hT] at this
      exact this
    have := (ho2.stored i (.int .i64 z)).1
    rw [ints_set] at this
    unfold ltT
    rw [hT]
    exact this
  refine ⟨?_, ?_⟩
  · have hl1 : (w.setCell ⟨T, i, none⟩ (.int .i64 z)).ownsRow base 31 4 (.slice (some ⟨G, 0, none⟩) ls.length c) ls.length (tflat ls) := own_grown' h.1 hg (fun g e1 e2 => by
      have e1 : G = g := by simpa [Value.ownBlock] using e1
      injection e2 with e2
      omega)
    have hsame : tflat (ls.set k ⟨ls[k].ra, ls[k].rc, ls[k].zs, ls[k].at_, ls[k].ta, ls[k].tc, ls[k].ts.set i z, ls[k].wt⟩) = tflat ls := by
      have hc : ltCells ⟨ls[k].ra, ls[k].rc, ls[k].zs, ls[k].at_, ls[k].ta, ls[k].tc, ls[k].ts.set i z, ls[k].wt⟩ = (ltCells ls[k]).set 3 (.bool ls[k].wt) := by
        simp [ltCells, ltR, ltT]
      rw [← tflat_set1 ls k 3 _ (.bool ls[k].wt) hk (by omega) hc]
      refine set_same _ _ (by rw [tflat_length]; omega) _ ?_
      have := tflat_at ls k 3 hk (by omega)
      rw [List.getElem?_eq_getElem (by rw [tflat_length]; omega)] at this
      exact Option.some.inj this
    rw [hsame, set_len]
    exact hl1
  · have hs := h.2.set (w' := w.setCell ⟨T, i, none⟩ (.int .i64 z)) (t := 2 * k + 2) (by rw [List.length_cons, rowsL_len]; omega) ⟨ls[k].ta, ls[k].tc, ls[k].ts.set i z⟩ (by rw [List.getElem_cons_succ, rowsL_t ls k hk]; show w.grownBy _ (ltT ls[k]).ownBlock; rw [hblk]; exact hg)
      (by
        have e : (ls[k].ts.set i z).length = ls[k].ts.length := List.length_set
        show World.ownsRow _ base 3 1 (.slice ls[k].ta (ls[k].ts.set i z).length ls[k].tc) (ls[k].ts.set i z).length (ints (ls[k].ts.set i z))
        rw [e]; exact hst)
      (by
        rw [List.getElem_cons_succ, rowsL_t ls k hk]
        intro g e
        left
        simp only [irV, List.length_set] at e
        exact e)
    rw [show 2 * k + 2 = (2 * k + 1) + 1 from rfl, cons_set] at hs
    rw [rows_setT ls k ⟨ls[k].ra, ls[k].rc, ls[k].zs, ls[k].at_, ls[k].ta, ls[k].tc, ls[k].ts.set i z, ls[k].wt⟩ hk rfl]
    exact hs
/-- the registers have turned, in their row. -/
theorem CrAt.regs (h : CrAt w base (some ⟨G, 0, none⟩) c ls m) (hk : k < ls.length) {rs : List Int} (hl : rs.length = ls[k].zs.length) (hg : w.grownBy w' (ltR ls[k]).ownBlock) (ho : w'.ownsRow base 3 1 (ltR ls[k]) ls[k].zs.length (ints rs)) :
    CrAt w' base (some ⟨G, 0, none⟩) c (ls.set k ⟨ls[k].ra, ls[k].rc, rs, ls[k].at_, ls[k].ta, ls[k].tc, ls[k].ts, ls[k].wt⟩) m := by
  obtain ⟨cs, hq⟩ := h.heapG
  have hne : (ltR ls[k]).ownBlock ≠ some G := own_ne_heapA (h.r hk) hq (by decide)
  refine ⟨?_, ?_⟩
  · have hl1 : w'.ownsRow base 31 4 (.slice (some ⟨G, 0, none⟩) ls.length c) ls.length (tflat ls) := own_grown' h.1 hg (fun g e1 e2 => by
      have e1 : G = g := by simpa [Value.ownBlock] using e1
      subst e1
      exact hne e2)
    have hsame : tflat (ls.set k ⟨ls[k].ra, ls[k].rc, rs, ls[k].at_, ls[k].ta, ls[k].tc, ls[k].ts, ls[k].wt⟩) = tflat ls := by
      have hc : ltCells ⟨ls[k].ra, ls[k].rc, rs, ls[k].at_, ls[k].ta, ls[k].tc, ls[k].ts, ls[k].wt⟩ = (ltCells ls[k]).set 3 (.bool ls[k].wt) := by
        simp [ltCells, ltR, ltT, hl]
      rw [← tflat_set1 ls k 3 _ (.bool ls[k].wt) hk (by omega) hc]
      refine set_same _ _ (by rw [tflat_length]; omega) _ ?_
      have := tflat_at ls k 3 hk (by omega)
      rw [List.getElem?_eq_getElem (by rw [tflat_length]; omega)] at this
      exact Option.some.inj this
    rw [hsame, set_len]
    exact hl1
  · have hs := h.2.set (w' := w') (t := 2 * k + 1) (by rw [List.length_cons, rowsL_len]; omega) ⟨ls[k].ra, ls[k].rc, rs⟩ (by rw [List.getElem_cons_succ, rowsL_r ls k hk]; exact hg)
      (by
        show World.ownsRow _ base 3 1 (.slice ls[k].ra rs.length ls[k].rc) rs.length (ints rs)
        rw [hl]; exact ho)
      (by
        rw [List.getElem_cons_succ, rowsL_r ls k hk]
        intro g e
        left
        simp only [irV, hl] at e
        exact e)
    rw [cons_set] at hs
    rw [rows_setR ls k ⟨ls[k].ra, ls[k].rc, rs, ls[k].at_, ls[k].ta, ls[k].tc, ls[k].ts, ls[k].wt⟩ hk rfl]
    exact hs
end
end Go.Proofs.Ythpabcgnijfiaaa
