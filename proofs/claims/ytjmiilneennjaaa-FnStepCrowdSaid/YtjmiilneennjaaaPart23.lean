/-
  Parts of a proof: DOut.
-/
import Derived.Test.YtjmiilneennjaaaPart22
import Derived.Test.YtjmiilneennjaaaPart03
namespace Go.Proofs.Ytjmiilneennjaaa
open Go.RowKit
set_option maxHeartbeats 1000000
set_option maxRecDepth 100000
set_option linter.unusedVariables false

/-- a list of instructions is being gathered in a row of the call's own, while a reader reads. -/
def OutAt (w0 w : World) (br N g c n : Nat) (ys : List Cd) : Prop :=
  ys.length = n ∧ w.ownsRow w0.heap.size 69 4 (.slice (some ⟨g, 0, none⟩) n c) n (cflat ys) ∧ (∀ y ∈ ys, SmallCd y) ∧ Rd w br N ∧ w0.grownBy w (some br) ∧ br < w0.heap.size
section
variable {w0 w w' : World} {br N M g c n : Nat} {ys : List Cd}
theorem OutAt.size (h : OutAt w0 w br N g c n ys) : w0.heap.size ≤ w.heap.size := h.2.2.2.2.1.size
theorem OutAt.mono (h : OutAt w0 w br N g c n ys) (hM : N ≤ M) : OutAt w0 w br M g c n ys := ⟨h.1, h.2.1, h.2.2.1, h.2.2.2.1.mono hM, h.2.2.2.2⟩
theorem OutAt.pick (h : OutAt w0 w br N g c n ys) (hr : Rd w' br M) (hg : w.grownBy w' (some br)) : OutAt w0 w' br M g c n ys :=
  ⟨h.1, own_grown h.2.1 hg (fun q e => by have := (h.2.1.lt q e).1; have := h.2.2.2.2.2; omega), h.2.2.1, hr, grown_trans h.2.2.2.2.1 hg, h.2.2.2.2.2⟩
/-- more instructions are appended, whose cells lie in a new block or in a row that was drawn. -/
theorem OutAt.app (h : OutAt w0 w br N g c n ys) {W : World} (hW : Below w.heap.size w W) {g' c' m : Nat} {zs : List Cd} (hz : zs.length = m) (hs : ∀ z ∈ zs, SmallCd z)
    (hown : w'.ownsRow w0.heap.size 69 4 (.slice (some ⟨g', 0, none⟩) (n + m) c') (n + m) (cflat ys ++ cflat zs)) (hg : W.grownBy w' (some g)) : OutAt w0 w' br N g' c' (n + m) (ys ++ zs) := by
  have hgb := (h.2.1.lt g rfl).1
  have hbr := h.2.2.2.2.2
  refine ⟨by rw [List.length_append, h.1, hz], by rw [cflat_append]; exact hown, fun y hy => ?_, (h.2.2.2.1.below hW).grown hg (fun q e => by injection e with e; omega), ?_, hbr⟩
  · rcases List.mem_append.1 hy with h1 | h1
    · exact h.2.2.1 y h1
    · exact hs y h1
  · exact grown_app (grown_below h.2.2.2.2.1 hW) (own_below h.2.1 hW) (Nat.le_refl _) hg
theorem OutAt.app1 (h : OutAt w0 w br N g c n ys) {g' c' : Nat} (z : Cd) (hs : SmallCd z) (hown : w'.ownsRow w0.heap.size 69 4 (.slice (some ⟨g', 0, none⟩) (n + 1) c') (n + 1) (cflat ys ++ cdCells z)) (hg : (w.alloc (.cells (cdCells z).toArray 69)).grownBy w' (some g)) : OutAt w0 w' br N g' c' (n + 1) (ys ++ [z]) :=
  h.app ((Below.refl _ _).alloc (Nat.le_refl _) _) rfl (fun y hy => by rw [List.mem_singleton] at hy; subst hy; exact hs) (by simpa [cflat] using hown) hg
theorem OutAt.rel {room : Int} (h : OutAt w0 w br N g c n ys) (hM : N ≤ M) (hn : (n : Int) ≤ room) :
    ∃ g' c' ys', (Value.slice (some ⟨g, 0, none⟩) n c = .slice (some ⟨g', 0, none⟩) (List.length ys') c') ∧ ((List.length ys' : Nat) : Int) ≤ room ∧ OutAt w0 w br M g' c' (List.length ys') ys' :=
  ⟨g, c, ys, by rw [h.1], by rw [h.1]; exact hn, by rw [h.1]; exact h.mono hM⟩
theorem OutAt.lit (h : OutAt w0 w br N g c n ys) (o : Obj) : (w.alloc o).ownsRow w0.heap.size 69 4 (.slice (some ⟨g, 0, none⟩) n c) n (cflat ys) := h.2.1.alloc o
end
theorem small_of (op a b c : Int) (h0 : -1 ≤ op ∧ op ≤ 256) (h1 : -1 ≤ a ∧ a ≤ 256) (h2 : -1 ≤ b ∧ b ≤ 256) (h3 : -1 ≤ c ∧ c ≤ 256) : SmallCd ⟨op, a, b, c⟩ := ⟨h0, h1, h2, h3⟩
theorem OutAt.many {w0 w w' : World} {br N g c n g' c' m : Nat} {ys : List Cd} (h : OutAt w0 w br N g c n ys) (zs : List Cd) (hz : zs.length = m) (hs : ∀ z ∈ zs, SmallCd z) (hown : w'.ownsRow w0.heap.size 69 4 (.slice (some ⟨g', 0, none⟩) (n + m) c') (n + m) (cflat ys ++ cflat zs)) (hg : (w.alloc (.cells (cflat zs).toArray 69)).grownBy w' (some g)) : OutAt w0 w' br N g' c' (n + m) (ys ++ zs) :=
  h.app ((Below.refl _ _).alloc (Nat.le_refl _) _) hz hs hown hg
theorem OutAt.set {w0 w : World} {br N g c n : Nat} {ys : List Cd} (h : OutAt w0 w br N g c n ys) {k : Nat} (hk : k < n) (x : Cd) (hs : SmallCd x) :
    ((w.cell? ⟨g, k * 4, none⟩ = some (.int .i64 (ys[k]'(by rw [h.1]; exact hk)).op) ∧ w.cell? ⟨g, k * 4 + 1, none⟩ = some (.int .i64 (ys[k]'(by rw [h.1]; exact hk)).a) ∧ w.cell? ⟨g, k * 4 + 2, none⟩ = some (.int .i64 (ys[k]'(by rw [h.1]; exact hk)).b) ∧ w.cell? ⟨g, k * 4 + 3, none⟩ = some (.int .i64 (ys[k]'(by rw [h.1]; exact hk)).c)) ∧
    (w.frozen? ⟨g, k * 4, none⟩ = false ∧ w.frozen? ⟨g, k * 4 + 1, none⟩ = false ∧ w.frozen? ⟨g, k * 4 + 2, none⟩ = false ∧ w.frozen? ⟨g, k * 4 + 3, none⟩ = false)) ∧
    OutAt w0 ((((w.setCell ⟨g, k * 4, none⟩ (.int .i64 x.op)).setCell ⟨g, k * 4 + 1, none⟩ (.int .i64 x.a)).setCell ⟨g, k * 4 + 2, none⟩ (.int .i64 x.b)).setCell ⟨g, k * 4 + 3, none⟩ (.int .i64 x.c)) br N g c n (ys.set k x) := by
  obtain ⟨h1, h2, h3, h4, h5, h6⟩ := h
  have hgb := (h2.lt g rfl).1
  have ho := own_cd h2 (show k < ys.length by omega) x
  have hg := grown_set4c (World.grownBy.refl w (some g)) (k * 4) (k * 4 + 1) (k * 4 + 2) (k * 4 + 3) (.int .i64 x.op) (.int .i64 x.a) (.int .i64 x.b) (.int .i64 x.c)
  refine ⟨⟨ho.1, ho.2.1⟩, by rw [List.length_set]; exact h1, ho.2.2, fun y hy => ?_, h4.grown hg (fun q e => by injection e with e; omega), grown_app h5 h2 (Nat.le_refl _) hg, h6⟩
  rcases List.mem_or_eq_of_mem_set hy with h | h
  · exact h3 y h
  · subst h; exact hs
/-- a literal takes the list's place, and the list is to be appended to it. -/
theorem OutAt.lead {w0 w : World} {br N g c n m : Nat} {ys : List Cd} (h : OutAt w0 w br N g c n ys) (zs : List Cd) (hz : zs.length = m) (hm : m ≤ 1000) (hs : ∀ z ∈ zs, SmallCd z) : OutAt w0 (w.alloc (.cells (cflat zs).toArray 69)) br N w.heap.size m m zs := by
  obtain ⟨h1, h2, h3, h4, h5, h6⟩ := h
  refine ⟨hz, ?_, hs, h4.below ((Below.refl _ _).alloc (Nat.le_refl _) _), grown_trans h5 (World.grownBy_alloc _ _ _), h6⟩
  have := World.ownsRow_lit (w := w) (base := w0.heap.size) (e := 69) (size := 4) (cflat zs).toArray m h5.size (by simp only [maxLen]; omega) (by simp [cflat_length, hz])
  simpa using this
theorem small_list (zs : List Cd) (h : zs.all (fun z => decide (-1 ≤ z.op ∧ z.op ≤ 256) && decide (-1 ≤ z.a ∧ z.a ≤ 256) && decide (-1 ≤ z.b ∧ z.b ≤ 256) && decide (-1 ≤ z.c ∧ z.c ≤ 256)) = true) : ∀ z ∈ zs, SmallCd z := by
  intro z hz
  have := List.all_eq_true.1 h z hz
  simp only [Bool.and_eq_true, decide_eq_true_eq] at this
  exact ⟨this.1.1.1, this.1.1.2, this.1.2, this.2⟩
def eights : List Cd := [⟨11, 0, 0, 0⟩, ⟨11, 0, 0, 0⟩, ⟨11, 0, 0, 0⟩, ⟨11, 0, 0, 0⟩, ⟨14, 0, 0, 0⟩, ⟨14, 0, 0, 0⟩, ⟨14, 0, 0, 0⟩, ⟨14, 0, 0, 0⟩]
theorem OutAt.rel34 {w0 w : World} {br N M g c n : Nat} {ys : List Cd} (h : OutAt w0 w br N g c n ys) (hM : N ≤ M) (hn : n ≤ 34) :
    ∃ g' c' ys', (Value.slice (some ⟨g, 0, none⟩) n c = .slice (some ⟨g', 0, none⟩) (List.length ys') c') ∧ List.length ys' ≤ 34 ∧ OutAt w0 w br M g' c' (List.length ys') ys' :=
  ⟨g, c, ys, by rw [h.1], by rw [h.1]; exact hn, by rw [h.1]; exact h.mono hM⟩
def lenV : Value → Nat
  | .slice _ n _ => n
  | _ => 0
theorem OutAt.rel41 {w0 w : World} {br N g c n : Nat} {ys : List Cd} (h : OutAt w0 w br N g c n ys) (T : Nat) (hM : N ≤ T + 20 * n) (hn : n ≤ 41) :
    ∃ g' c' ys', (Value.slice (some ⟨g, 0, none⟩) n c = .slice (some ⟨g', 0, none⟩) (List.length ys') c') ∧ List.length ys' ≤ 41 ∧ OutAt w0 w br (T + 20 * List.length ys') g' c' (List.length ys') ys' :=
  ⟨g, c, ys, by rw [h.1], by rw [h.1]; exact hn, by rw [h.1]; exact h.mono hM⟩
end Go.Proofs.Ytjmiilneennjaaa
