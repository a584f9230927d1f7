/-
  Parts of a proof: CComp2, CMach.
-/
import Derived.Test.YtjmiilneennjaaaPart08
import Derived.Test.YtjmiilneennjaaaPart07
namespace Go.Proofs.Ytjmiilneennjaaa
open Go.RowKit
set_option maxHeartbeats 1000000
set_option maxRecDepth 100000
set_option linter.unusedVariables false

theorem implCompute_any (x : Cd) (id : Int) (base R rc B d : Nat) (rs mem : List Int) (w : World) (hv : codeValid x = true) (ho : x.op ≤ 10) (h4 : rs.length = 4) (hw : ∀ z ∈ rs, 0 ≤ z ∧ z ≤ 255) (hm : 1 ≤ mem.length ∧ mem.length ≤ 32) (hR : w.ownsRow base 3 1 (rowAt R 4 rc) 4 (ints rs)) (hM : w.ownsRow base 3 1 (rowAt B mem.length d) mem.length (ints mem)) (hne : R ≠ B) :
    Calls Try.prog 99 #[cdV x, .int .i64 id, rowAt R 4 rc, rowAt B mem.length d] w (CompRet base R rc B d rs mem x id w) := by
  obtain ⟨v1, v2, v3, v4, v5, v6, v7⟩ := valid_nums hv
  obtain ⟨r1, r2, r3, r4, r5, r6, r7, r8, r9, _, _⟩ := regs_num x.op
  obtain ⟨op, a, b, c⟩ := x
  simp only at v1 v2 v3 v4 v5 v6 v7 r1 r2 r3 r4 r5 r6 r7 r8 r9 ho
  rcases (show op = 1 ∨ op = 2 ∨ op = 3 ∨ op = 4 ∨ op = 5 ∨ op = 6 ∨ op = 7 ∨ op = 8 ∨ op = 9 ∨ op = 10 by omega) with rfl | rfl | rfl | rfl | rfl | rfl | rfl | rfl | rfl | rfl
  · have ha := v1 (by decide)
    obtain ⟨a, rfl⟩ := Int.eq_ofNat_of_zero_le ha.1
    exact implComp1 a b c id base R rc B d rs mem w (by omega) h4 hw hm hR hM hne
  · have ha := v1 (by decide)
    obtain ⟨a, rfl⟩ := Int.eq_ofNat_of_zero_le ha.1
    exact implComp2 a b c id base R rc B d rs mem w (by omega) h4 hw hm hR hM hne
  · have ha := v1 (by decide)
    obtain ⟨a, rfl⟩ := Int.eq_ofNat_of_zero_le ha.1
    have hb := v2 (by decide)
    obtain ⟨b, rfl⟩ := Int.eq_ofNat_of_zero_le hb.1
    exact implComp3 a b c id base R rc B d rs mem w (by omega) (by omega) h4 hw hm hR hM hne
  · have ha := v1 (by decide)
    obtain ⟨a, rfl⟩ := Int.eq_ofNat_of_zero_le ha.1
    have hb := v2 (by decide)
    obtain ⟨b, rfl⟩ := Int.eq_ofNat_of_zero_le hb.1
    exact implComp4 a b c id base R rc B d rs mem w (by omega) (by omega) h4 hw hm hR hM hne
  · have ha := v1 (by decide)
    obtain ⟨a, rfl⟩ := Int.eq_ofNat_of_zero_le ha.1
    have hb := v2 (by decide)
    obtain ⟨b, rfl⟩ := Int.eq_ofNat_of_zero_le hb.1
    exact implComp5 a b c id base R rc B d rs mem w (by omega) (by omega) h4 hw hm hR hM hne
  · have ha := v1 (by decide)
    obtain ⟨a, rfl⟩ := Int.eq_ofNat_of_zero_le ha.1
    have hb := v2 (by decide)
    obtain ⟨b, rfl⟩ := Int.eq_ofNat_of_zero_le hb.1
    have hc := v3 (by decide)
    obtain ⟨c, rfl⟩ := Int.eq_ofNat_of_zero_le hc.1
    exact implComp6 a b c id base R rc B d rs mem w (by omega) (by omega) (by omega) h4 hw hm hR hM hne
  · have ha := v1 (by decide)
    obtain ⟨a, rfl⟩ := Int.eq_ofNat_of_zero_le ha.1
    have hb := v2 (by decide)
    obtain ⟨b, rfl⟩ := Int.eq_ofNat_of_zero_le hb.1
    have hc := v3 (by decide)
    obtain ⟨c, rfl⟩ := Int.eq_ofNat_of_zero_le hc.1
    exact implComp7 a b c id base R rc B d rs mem w (by omega) (by omega) (by omega) h4 hw hm hR hM hne
  · have ha := v1 (by decide)
    obtain ⟨a, rfl⟩ := Int.eq_ofNat_of_zero_le ha.1
    have hb := v2 (by decide)
    obtain ⟨b, rfl⟩ := Int.eq_ofNat_of_zero_le hb.1
    exact implComp8 a b c id base R rc B d rs mem w (by omega) (by omega) h4 hw hm hR hM hne
  · have ha := v1 (by decide)
    obtain ⟨a, rfl⟩ := Int.eq_ofNat_of_zero_le ha.1
    have hb := v2 (by decide)
    obtain ⟨b, rfl⟩ := Int.eq_ofNat_of_zero_le hb.1
    exact implComp9 a b c id base R rc B d rs mem w (by omega) (by omega) h4 hw hm hR hM hne
  · exact implComp10 a b c id base R rc B d rs mem w hR hM
theorem specCompute_any (x : Cd) (id : Int) (base R rc B d : Nat) (rs mem : List Int) (w : World) (hv : codeValid x = true) (ho : x.op ≤ 10) (h4 : rs.length = 4) (hw : ∀ z ∈ rs, 0 ≤ z ∧ z ≤ 255) (hm : 1 ≤ mem.length ∧ mem.length ≤ 32) (hR : w.ownsRow base 3 1 (rowAt R 4 rc) 4 (ints rs)) (hM : w.ownsRow base 3 1 (rowAt B mem.length d) mem.length (ints mem)) (hne : R ≠ B) :
    Calls Try.prog 94 #[rowAt R 4 rc, rowAt B mem.length d, cdV x, .int .i64 id] w (CompRet base R rc B d rs mem x id w) := by
  obtain ⟨v1, v2, v3, v4, v5, v6, v7⟩ := valid_nums hv
  obtain ⟨r1, r2, r3, r4, r5, r6, r7, r8, r9, _, _⟩ := regs_num x.op
  obtain ⟨op, a, b, c⟩ := x
  simp only at v1 v2 v3 v4 v5 v6 v7 r1 r2 r3 r4 r5 r6 r7 r8 r9 ho
  rcases (show op = 1 ∨ op = 2 ∨ op = 3 ∨ op = 4 ∨ op = 5 ∨ op = 6 ∨ op = 7 ∨ op = 8 ∨ op = 9 ∨ op = 10 by omega) with rfl | rfl | rfl | rfl | rfl | rfl | rfl | rfl | rfl | rfl
  · have ha := v1 (by decide)
    obtain ⟨a, rfl⟩ := Int.eq_ofNat_of_zero_le ha.1
    exact specComp1 a b c id base R rc B d rs mem w (by omega) h4 hw hm hR hM hne
  · have ha := v1 (by decide)
    obtain ⟨a, rfl⟩ := Int.eq_ofNat_of_zero_le ha.1
    exact specComp2 a b c id base R rc B d rs mem w (by omega) h4 hw hm hR hM hne
  · have ha := v1 (by decide)
    obtain ⟨a, rfl⟩ := Int.eq_ofNat_of_zero_le ha.1
    have hb := v2 (by decide)
    obtain ⟨b, rfl⟩ := Int.eq_ofNat_of_zero_le hb.1
    exact specComp3 a b c id base R rc B d rs mem w (by omega) (by omega) h4 hw hm hR hM hne
  · have ha := v1 (by decide)
    obtain ⟨a, rfl⟩ := Int.eq_ofNat_of_zero_le ha.1
    have hb := v2 (by decide)
    obtain ⟨b, rfl⟩ := Int.eq_ofNat_of_zero_le hb.1
    exact specComp4 a b c id base R rc B d rs mem w (by omega) (by omega) h4 hw hm hR hM hne
  · have ha := v1 (by decide)
    obtain ⟨a, rfl⟩ := Int.eq_ofNat_of_zero_le ha.1
    have hb := v2 (by decide)
    obtain ⟨b, rfl⟩ := Int.eq_ofNat_of_zero_le hb.1
    exact specComp5 a b c id base R rc B d rs mem w (by omega) (by omega) h4 hw hm hR hM hne
  · have ha := v1 (by decide)
    obtain ⟨a, rfl⟩ := Int.eq_ofNat_of_zero_le ha.1
    have hb := v2 (by decide)
    obtain ⟨b, rfl⟩ := Int.eq_ofNat_of_zero_le hb.1
    have hc := v3 (by decide)
    obtain ⟨c, rfl⟩ := Int.eq_ofNat_of_zero_le hc.1
    exact specComp6 a b c id base R rc B d rs mem w (by omega) (by omega) (by omega) h4 hw hm hR hM hne
  · have ha := v1 (by decide)
    obtain ⟨a, rfl⟩ := Int.eq_ofNat_of_zero_le ha.1
    have hb := v2 (by decide)
    obtain ⟨b, rfl⟩ := Int.eq_ofNat_of_zero_le hb.1
    have hc := v3 (by decide)
    obtain ⟨c, rfl⟩ := Int.eq_ofNat_of_zero_le hc.1
    exact specComp7 a b c id base R rc B d rs mem w (by omega) (by omega) (by omega) h4 hw hm hR hM hne
  · have ha := v1 (by decide)
    obtain ⟨a, rfl⟩ := Int.eq_ofNat_of_zero_le ha.1
    have hb := v2 (by decide)
    obtain ⟨b, rfl⟩ := Int.eq_ofNat_of_zero_le hb.1
    exact specComp8 a b c id base R rc B d rs mem w (by omega) (by omega) h4 hw hm hR hM hne
  · have ha := v1 (by decide)
    obtain ⟨a, rfl⟩ := Int.eq_ofNat_of_zero_le ha.1
    have hb := v2 (by decide)
    obtain ⟨b, rfl⟩ := Int.eq_ofNat_of_zero_le hb.1
    exact specComp9 a b c id base R rc B d rs mem w (by omega) (by omega) h4 hw hm hR hM hne
  · exact specComp10 a b c id base R rc B d rs mem w hR hM
end Go.Proofs.Ytjmiilneennjaaa

namespace Go.Proofs.Ytjmiilneennjaaa
open Go.RowKit
set_option maxHeartbeats 1000000
set_option maxRecDepth 100000
set_option linter.unusedVariables false

/-- nothing below lo has turned, nor any block that holds neither numbers nor lanes. -/
def Frm (lo : Nat) (w w' : World) : Prop :=
  Below lo w w' ∧ ∀ (i : Nat) (cs : Array Value) (ty : TypeId) (fr : Nat × Nat), w.heap[i]? = some (.cells cs ty fr) → ty ≠ 3 → ty ≠ 52 → w'.heap[i]? = some (.cells cs ty fr)
theorem Frm.refl (lo : Nat) (w : World) : Frm lo w w := ⟨Below.refl _ _, fun _ _ _ _ h _ _ => h⟩
theorem Frm.trans {lo : Nat} {a b c : World} (h : Frm lo a b) (k : Frm lo b c) : Frm lo a c :=
  ⟨h.1.trans k.1, fun i cs ty fr hi h1 h2 => k.2 i cs ty fr (h.2 i cs ty fr hi h1 h2) h1 h2⟩
theorem Frm.below {lo : Nat} {a b : World} (h : Below a.heap.size a b) (hl : lo ≤ a.heap.size) : Frm lo a b :=
  ⟨h.mono hl, fun i cs ty fr hi _ _ => (h.block i (Array.getElem?_eq_some_iff.1 hi).1).trans hi⟩
theorem Frm.grown {lo g : Nat} {a b : World} (h : a.grownBy b (some g)) (hlo : lo ≤ a.heap.size) (hg : lo ≤ g) {cs : Array Value} {ty : TypeId} {fr : Nat × Nat} (hq : a.heap[g]? = some (.cells cs ty fr)) (hty : ty = 3 ∨ ty = 52) : Frm lo a b :=
  ⟨(Below.refl lo a).grown h hlo (fun g' e => by injection e with e; omega), fun i cs' ty' fr' hi h1 h2 => (h.block i (Array.getElem?_eq_some_iff.1 hi).1 (fun e => by
    injection e with e
    subst e
    rw [hi] at hq
    simp only [Option.some.injEq, Obj.cells.injEq] at hq
    rcases hty with h3 | h3
    · exact h1 (hq.2.1.trans h3)
    · exact h2 (hq.2.1.trans h3))).trans hi⟩
theorem Frm.own {lo base s n g : Nat} {a b : World} {e : TypeId} {v : Value} {xs : List Value} (h : a.grownBy b (some g)) (hlo : lo ≤ a.heap.size) (ho : a.ownsRow base e s v n xs) (hv : v.ownBlock = some g) (hb : lo ≤ base) (hty : e = 3 ∨ e = 52) : Frm lo a b := by
  obtain ⟨cs, hc⟩ := own_heapA ho hv
  exact Frm.grown h hlo (by have := (ho.lt g hv).1; omega) hc hty
theorem Frm.drew {lo : Nat} {a b : World} (h : Frm lo a b) : Frm lo a b.drew := ⟨⟨h.1.os, h.1.tape, h.1.output, h.1.size, h.1.block⟩, h.2⟩
theorem Frm.undrew {lo : Nat} {a b : World} (h : Frm lo a.drew b) : Frm lo a b := ⟨⟨h.1.os, h.1.tape, h.1.output, h.1.size, h.1.block⟩, h.2⟩
theorem Frm.alloc {lo : Nat} {a b : World} (h : Frm lo a b) (hl : lo ≤ b.heap.size) (o : Obj) : Frm lo a (b.alloc o) := h.trans (Frm.below ((Below.refl _ _).alloc (Nat.le_refl _) o) hl)
structure MachAt (w : World) (lo M : Nat) (LA : Option Addr) (lc : Nat) (xs : List Cd) (O : Nat) (P : Nat → Nat) : Prop where
  hm : w.heap[M]? = some (.cells #[.slice LA xs.length lc, rowAt O xs.length xs.length] 119 (0, 0))
  ho : ∃ cs : Array Value, w.heap[O]? = some (.cells cs 101 (0, 0)) ∧ ∀ k, k < xs.length → cs[k]? = some (ownV P (ops xs) k)
  hp : ∀ b, b < xs.length → opensB (opAt (ops xs) b) = true → w.heap[P b]? = some (.cells #[.int .i64 b, .int .i64 (oth (ops xs) b (ops xs).length), .int .i64 (endOf (ops xs) b (ops xs).length)] 103 (0, 0))
  hl : Sl w LA (cflat xs)
  hb : ∀ ad, LA = some ad → xs ≠ [] → ad.block < lo
section
variable {w w' : World} {lo M lc O : Nat} {LA : Option Addr} {xs : List Cd} {P : Nat → Nat}
theorem Sl.keepLow {w w' : World} {lo : Nat} {A : Option Addr} {us : List Value} (h : Sl w A us) (hb : Below lo w w') (hl : ∀ ad, A = some ad → us ≠ [] → ad.block < lo) : Sl w' A us := by
  rcases h with rfl | ⟨b, off, rfl, hc⟩
  · exact .inl rfl
  · by_cases hn : us = []
    · exact .inl hn
    · refine .inr ⟨b, off, rfl, fun j u hu => ?_⟩
      have := hl _ rfl hn
      exact (hb.cell (p := ⟨b, off + j, none⟩) this).trans (hc j u hu)
theorem cflat_ne {xs : List Cd} (h : cflat xs ≠ []) : xs ≠ [] := fun e => h (by rw [e]; rfl)
theorem MachAt.frm (h : MachAt w lo M LA lc xs O P) (hf : Frm lo w w') : MachAt w' lo M LA lc xs O P := by
  obtain ⟨cs, h1, h2⟩ := h.ho
  exact ⟨hf.2 _ _ _ _ h.hm (by decide) (by decide), ⟨cs, hf.2 _ _ _ _ h1 (by decide) (by decide), h2⟩, fun b hb ho => hf.2 _ _ _ _ (h.hp b hb ho) (by decide) (by decide), h.hl.keepLow hf.1 (fun ad e hn => h.hb ad e (cflat_ne hn)), h.hb⟩
theorem MachAt.lower {lo' : Nat} (h : MachAt w lo M LA lc xs O P) (hl : lo ≤ lo') : MachAt w lo' M LA lc xs O P := ⟨h.hm, h.ho, h.hp, h.hl, fun ad e hn => by have := h.hb ad e hn; omega⟩
theorem MachAt.m2 (h : MachAt w lo M LA lc xs O P) : w.cell? ⟨M, 0, none⟩ = some (.slice LA xs.length lc) ∧ w.cell? ⟨M, 1, none⟩ = some (rowAt O xs.length xs.length) :=
  ⟨cell_of_row _ _ _ _ _ _ h.hm, cell_of_row _ _ _ _ _ _ h.hm⟩
theorem MachAt.own (h : MachAt w lo M LA lc xs O P) {k : Nat} (hk : k < xs.length) : w.cell? ⟨O, k, none⟩ = some (ownV P (ops xs) k) := by
  obtain ⟨cs, h1, h2⟩ := h.ho
  rw [cell_of_row _ _ _ _ _ _ h1]
  exact h2 k hk
theorem MachAt.blk (h : MachAt w lo M LA lc xs O P) {b : Nat} (hb : b < xs.length) (ho : opensB (opAt (ops xs) b) = true) :
    w.cell? ⟨P b, 0, none⟩ = some (.int .i64 b) ∧ w.cell? ⟨P b, 1, none⟩ = some (.int .i64 (oth (ops xs) b (ops xs).length)) ∧ w.cell? ⟨P b, 2, none⟩ = some (.int .i64 (endAt xs b)) :=
  ⟨cell_of_row _ _ _ _ _ _ (h.hp b hb ho), cell_of_row _ _ _ _ _ _ (h.hp b hb ho), cell_of_row _ _ _ _ _ _ (h.hp b hb ho)⟩
end
theorem newMachine_any (LA : Option Addr) (lc : Nat) (xs : List Cd) (lo : Nat) (w : World) (hv : progValid xs = true) (hs : Sl w LA (cflat xs)) (hlo : ∀ ad, LA = some ad → xs ≠ [] → ad.block < lo) :
    Calls Try.prog 62 #[.slice LA xs.length lc] w fun e w' => ∃ M O P, e = .returned (.pointer (some ⟨M, 0, none⟩)) ∧ MachAt w' lo M LA lc xs O P ∧ Below w.heap.size w w' := by
  have h40 := (progValid_yes hv).1
  have HBAL := mkHid (progValid_yes hv).2.2
  have HBL := mkHid (blocks_any LA lc xs w (by omega) hs)
  have HS := mkHid hs
  have HLO := mkHid hlo
  have HVV := mkHid hv
  clear hs hlo hv
  go_enter Try.func62, Try.ntmps62
  go_wp2_with fail
  refine HBL.out.mono ?_
  rintro e w2 ⟨Av, Ov, rfl, b2, hbr⟩
  obtain ⟨R, O, P, Rw, S, rfl, rfl, hI⟩ := hbr HBAL.out
  have HB2 := mkHid b2
  have HI := mkHid hI
  rw [HBAL.out]
  clear b2 hbr hI HBL
  go_wp2_with fail
  go_ret
  refine ⟨w2.heap.size, O, P, rfl, ?_, HB2.out.alloc HB2.out.size _⟩
  have hal : Below w2.heap.size w2 (w2.alloc (.cells #[.slice LA xs.length lc, rowAt O xs.length xs.length] 119)) := (Below.refl _ _).alloc (Nat.le_refl _) _
  have hI := HI.out.below hal
  obtain ⟨cs, hc⟩ := own_heapA hI.hO (g := O) rfl
  have hlen : (ops xs).length = xs.length := ops_len xs
  refine ⟨heap_alloc_new _ _, ⟨cs, hc, fun k hk => ?_⟩, fun b hb ho => ?_, (HS.out.below HB2.out).below hal, HLO.out⟩
  · have := hI.ownAt hk
    rw [cell_of_row _ _ _ _ _ _ hc] at this
    exact this
  · have := (hI.hP b hb ho).2
    rw [hlen]
    exact this
end Go.Proofs.Ytjmiilneennjaaa
