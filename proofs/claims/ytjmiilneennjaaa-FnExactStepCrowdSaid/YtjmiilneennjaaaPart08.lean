/-
  Parts of a proof: CComp.
-/
import Derived.Test.YtjmiilneennjaaaPart07
import Derived.StillTailTactics
namespace Go.Proofs.Ytjmiilneennjaaa
open Go.RowKit
set_option maxHeartbeats 1000000
set_option maxRecDepth 100000
set_option linter.unusedVariables false

abbrev rowAt (R n c : Nat) : Value := .slice (some ⟨R, 0, none⟩) n c
/-- the call has turned the registers' row or the memory's. -/
def CompRet (base R rc B d : Nat) (rs mem : List Int) (x : Cd) (id : Int) (w : World) (e : Ending) (w' : World) : Prop :=
  e = .returned (.tuple #[]) ∧ w'.ownsRow base 3 1 (rowAt R 4 rc) 4 (ints (comp x id rs mem).1) ∧ w'.ownsRow base 3 1 (rowAt B mem.length d) mem.length (ints (comp x id rs mem).2) ∧
    (((comp x id rs mem).2 = mem ∧ w.grownBy w' (some R)) ∨ ((comp x id rs mem).1 = rs ∧ w.grownBy w' (some B)))
theorem ints_set (zs : List Int) (i : Nat) (z : Int) : (ints zs).set i (.int .i64 z) = ints (zs.set i z) := by simp [ints, List.map_set]
section
variable {base R rc B d : Nat} {rs mem : List Int} {x : Cd} {id : Int} {w : World}
theorem CompRet.drew {e : Ending} {W : World} (h : CompRet base R rc B d rs mem x id w e W) : CompRet base R rc B d rs mem x id w e W.drew := by
  obtain ⟨h1, h2, h3, h4⟩ := h
  refine ⟨h1, h2, h3, ?_⟩
  rcases h4 with ⟨h4, g⟩ | ⟨h4, g⟩
  · exact .inl ⟨h4, ⟨g.os, g.tape, g.output, g.size, g.block⟩⟩
  · exact .inr ⟨h4, ⟨g.os, g.tape, g.output, g.size, g.block⟩⟩
theorem comp_reg (hR : w.ownsRow base 3 1 (rowAt R 4 rc) 4 (ints rs)) (hM : w.ownsRow base 3 1 (rowAt B mem.length d) mem.length (ints mem)) (hne : R ≠ B) {i : Nat} {v : Int} (o : Obj) (h1 : comp x id rs mem = (rs.set i v, mem)) :
    CompRet base R rc B d rs mem x id w (.returned (.tuple #[])) ((w.alloc o).setCell ⟨R, i, none⟩ (.int .i64 v)) := by
  have hst := ((hR.alloc o).stored i (.int .i64 v)).1
  have hg := grown_setCell (w.alloc o) R i (.int .i64 v)
  refine ⟨rfl, ?_, ?_, .inl ⟨by rw [h1], grown_trans (World.grownBy_alloc _ _ _) hg⟩⟩
  · rw [h1]
    rw [ints_set] at hst
    exact hst
  · rw [h1]
    exact own_grown' (hM.alloc o) hg (fun g e1 e2 => by
      have e1 : B = g := by simpa [Value.ownBlock] using e1
      injection e2 with e2
      omega)
theorem comp_mem (hR : w.ownsRow base 3 1 (rowAt R 4 rc) 4 (ints rs)) (hM : w.ownsRow base 3 1 (rowAt B mem.length d) mem.length (ints mem)) (hne : R ≠ B) {i : Nat} {v : Int} (o : Obj) (h1 : comp x id rs mem = (rs, mem.set i v)) :
    CompRet base R rc B d rs mem x id w (.returned (.tuple #[])) ((w.alloc o).setCell ⟨B, i, none⟩ (.int .i64 v)) := by
  have hst := ((hM.alloc o).stored i (.int .i64 v)).1
  have hg := grown_setCell (w.alloc o) B i (.int .i64 v)
  refine ⟨rfl, ?_, ?_, .inr ⟨by rw [h1], grown_trans (World.grownBy_alloc _ _ _) hg⟩⟩
  · rw [h1]
    exact own_grown' (hR.alloc o) hg (fun g e1 e2 => by
      have e1 : R = g := by simpa [Value.ownBlock] using e1
      injection e2 with e2
      omega)
  · rw [h1]
    rw [ints_set] at hst
    exact hst
theorem comp_same (hR : w.ownsRow base 3 1 (rowAt R 4 rc) 4 (ints rs)) (hM : w.ownsRow base 3 1 (rowAt B mem.length d) mem.length (ints mem)) (o : Obj) (h1 : comp x id rs mem = (rs, mem)) :
    CompRet base R rc B d rs mem x id w (.returned (.tuple #[])) (w.alloc o) := by
  refine ⟨rfl, ?_, ?_, .inl ⟨by rw [h1], World.grownBy_alloc _ _ _⟩⟩
  · rw [h1]; exact hR.alloc o
  · rw [h1]; exact hM.alloc o
theorem reg_cell (hR : w.ownsRow base 3 1 (rowAt R 4 rc) 4 (ints rs)) (h4 : rs.length = 4) {r : Nat} (hr : r ≤ 3) (o : Obj) : (w.alloc o).cell? ⟨R, r, none⟩ = some (.int .i64 (rg rs r)) ∧ (w.alloc o).frozen? ⟨R, r, none⟩ = false := by
  refine ⟨?_, (hR.alloc o).frozenAt r⟩
  have hlt : r < rs.length := by omega
  rw [(hR.alloc o).cellAt r (by omega), ints_at hlt]
  unfold rg
  rw [Int.toNat_natCast, List.getD, List.getElem?_eq_getElem hlt]
  rfl
theorem mem_cell (hM : w.ownsRow base 3 1 (rowAt B mem.length d) mem.length (ints mem)) {i : Nat} (hi : i < mem.length) (o : Obj) : (w.alloc o).cell? ⟨B, i, none⟩ = some (.int .i64 (mem.getD i 0)) ∧ (w.alloc o).frozen? ⟨B, i, none⟩ = false := by
  refine ⟨?_, (hM.alloc o).frozenAt i⟩
  rw [(hM.alloc o).cellAt i (by omega), ints_at hi]
  rw [List.getD, List.getElem?_eq_getElem hi]
  rfl
end
theorem implComp1 (a : Nat) (z c : Int) (id : Int) (base R rc B d : Nat) (rs mem : List Int) (w : World) (ha : a ≤ 3) (h4 : rs.length = 4) (hw : ∀ z ∈ rs, 0 ≤ z ∧ z ≤ 255) (hm : 1 ≤ mem.length ∧ mem.length ≤ 32) (hR : w.ownsRow base 3 1 (rowAt R 4 rc) 4 (ints rs)) (hM : w.ownsRow base 3 1 (rowAt B mem.length d) mem.length (ints mem)) (hne : R ≠ B) :
    Calls Try.prog 99 #[cdV ⟨1, a, z, c⟩, .int .i64 id, rowAt R 4 rc, rowAt B mem.length d] w (CompRet base R rc B d rs mem ⟨1, a, z, c⟩ id w) := by
  have ia : (a : Int) < 4 := by omega
  have ja : (0 : Int) ≤ (a : Int) := by omega
  have ra := fun o => (reg_cell hR h4 (r := a) (by omega) o).1
  have va := rg_word h4 hw (r := (a : Int)) (by omega)
  have fa := fun o => (reg_cell hR h4 (r := a) ha o).2
  clear va
  have HR := mkHid hR
  have HM := mkHid hM
  have HB := mkHid hm
  have H4 := mkHid h4
  clear hR hM hm h4 hw
  go_enter Try.func99, Try.ntmps99
  go_wp2_with fail
  go_end0
  exact comp_reg HR.out HM.out hne _ (by simp [comp])
theorem implComp2 (a : Nat) (b c : Int) (id : Int) (base R rc B d : Nat) (rs mem : List Int) (w : World) (ha : a ≤ 3) (h4 : rs.length = 4) (hw : ∀ z ∈ rs, 0 ≤ z ∧ z ≤ 255) (hm : 1 ≤ mem.length ∧ mem.length ≤ 32) (hR : w.ownsRow base 3 1 (rowAt R 4 rc) 4 (ints rs)) (hM : w.ownsRow base 3 1 (rowAt B mem.length d) mem.length (ints mem)) (hne : R ≠ B) :
    Calls Try.prog 99 #[cdV ⟨2, a, b, c⟩, .int .i64 id, rowAt R 4 rc, rowAt B mem.length d] w (CompRet base R rc B d rs mem ⟨2, a, b, c⟩ id w) := by
  have ia : (a : Int) < 4 := by omega
  have ja : (0 : Int) ≤ (a : Int) := by omega
  have ra := fun o => (reg_cell hR h4 (r := a) (by omega) o).1
  have va := rg_word h4 hw (r := (a : Int)) (by omega)
  have fa := fun o => (reg_cell hR h4 (r := a) ha o).2
  clear va
  have HR := mkHid hR
  have HM := mkHid hM
  have HB := mkHid hm
  have H4 := mkHid h4
  clear hR hM hm h4 hw
  go_enter Try.func99, Try.ntmps99
  go_wp2_with fail
  go_end0
  exact comp_reg HR.out HM.out hne _ (by simp [comp])
theorem implComp3 (a b : Nat) (c : Int) (id : Int) (base R rc B d : Nat) (rs mem : List Int) (w : World) (ha : a ≤ 3) (hb : b ≤ 3) (h4 : rs.length = 4) (hw : ∀ z ∈ rs, 0 ≤ z ∧ z ≤ 255) (hm : 1 ≤ mem.length ∧ mem.length ≤ 32) (hR : w.ownsRow base 3 1 (rowAt R 4 rc) 4 (ints rs)) (hM : w.ownsRow base 3 1 (rowAt B mem.length d) mem.length (ints mem)) (hne : R ≠ B) :
    Calls Try.prog 99 #[cdV ⟨3, a, b, c⟩, .int .i64 id, rowAt R 4 rc, rowAt B mem.length d] w (CompRet base R rc B d rs mem ⟨3, a, b, c⟩ id w) := by
  have ia : (a : Int) < 4 := by omega
  have ja : (0 : Int) ≤ (a : Int) := by omega
  have ra := fun o => (reg_cell hR h4 (r := a) (by omega) o).1
  have va := rg_word h4 hw (r := (a : Int)) (by omega)
  have ib : (b : Int) < 4 := by omega
  have jb : (0 : Int) ≤ (b : Int) := by omega
  have rb := fun o => (reg_cell hR h4 (r := b) (by omega) o).1
  have vb := rg_word h4 hw (r := (b : Int)) (by omega)
  have fa := fun o => (reg_cell hR h4 (r := a) ha o).2
  have HC := mkHid (fun X => implWordAdd_any (rg rs a) (rg rs b) X va vb)
  have HCR := mkHid (show comp ⟨3, a, b, c⟩ id rs mem = (rs.set a ((rg rs a + rg rs b) % 256), mem) from by simp [comp])
  have HR := mkHid hR
  have HM := mkHid hM
  have HB := mkHid hm
  have H4 := mkHid h4
  clear hR hM hm h4 hw
  clear va vb
  generalize rg rs a = xa at *
  generalize rg rs b = xb at *
  go_enter Try.func99, Try.ntmps99
  go_wp2_with fail
  refine wp_region_still_tail 15 (by kernel_rfl) (by kernel_rfl) ?_
  simp only [List.take_succ_cons, List.take_zero, List.drop_succ_cons, List.drop_zero]
  change wpStill _ _ (World.drew _) _ _ _
  repeat still_step
  refine wpStill_step (fun K hK => ?_)
  go_simp
  refine ⟨_, (HC.out _).mono (fun e w' h => ⟨h.1, h.2.symm⟩), hK _ ?_⟩
  clear hK K
  repeat still_step
  refine wpStill_nil ?_
  change wpList _ _ _ _ _ (World.drew _)
  go_wp2_with fail
  go_end0
  exact (comp_reg HR.out HM.out hne _ HCR.out).drew
theorem implComp4 (a b : Nat) (c : Int) (id : Int) (base R rc B d : Nat) (rs mem : List Int) (w : World) (ha : a ≤ 3) (hb : b ≤ 3) (h4 : rs.length = 4) (hw : ∀ z ∈ rs, 0 ≤ z ∧ z ≤ 255) (hm : 1 ≤ mem.length ∧ mem.length ≤ 32) (hR : w.ownsRow base 3 1 (rowAt R 4 rc) 4 (ints rs)) (hM : w.ownsRow base 3 1 (rowAt B mem.length d) mem.length (ints mem)) (hne : R ≠ B) :
    Calls Try.prog 99 #[cdV ⟨4, a, b, c⟩, .int .i64 id, rowAt R 4 rc, rowAt B mem.length d] w (CompRet base R rc B d rs mem ⟨4, a, b, c⟩ id w) := by
  have ia : (a : Int) < 4 := by omega
  have ja : (0 : Int) ≤ (a : Int) := by omega
  have ra := fun o => (reg_cell hR h4 (r := a) (by omega) o).1
  have va := rg_word h4 hw (r := (a : Int)) (by omega)
  have ib : (b : Int) < 4 := by omega
  have jb : (0 : Int) ≤ (b : Int) := by omega
  have rb := fun o => (reg_cell hR h4 (r := b) (by omega) o).1
  have vb := rg_word h4 hw (r := (b : Int)) (by omega)
  have fa := fun o => (reg_cell hR h4 (r := a) ha o).2
  have HC := mkHid (fun X => implWordMul_any (rg rs a) (rg rs b) X va vb)
  have HCR := mkHid (show comp ⟨4, a, b, c⟩ id rs mem = (rs.set a ((rg rs a * rg rs b) % 256), mem) from by simp [comp])
  have HR := mkHid hR
  have HM := mkHid hM
  have HB := mkHid hm
  have H4 := mkHid h4
  clear hR hM hm h4 hw
  clear va vb
  generalize rg rs a = xa at *
  generalize rg rs b = xb at *
  go_enter Try.func99, Try.ntmps99
  go_wp2_with fail
  refine wp_region_still_tail 15 (by kernel_rfl) (by kernel_rfl) ?_
  simp only [List.take_succ_cons, List.take_zero, List.drop_succ_cons, List.drop_zero]
  change wpStill _ _ (World.drew _) _ _ _
  repeat still_step
  refine wpStill_step (fun K hK => ?_)
  go_simp
  refine ⟨_, (HC.out _).mono (fun e w' h => ⟨h.1, h.2.symm⟩), hK _ ?_⟩
  clear hK K
  repeat still_step
  refine wpStill_nil ?_
  change wpList _ _ _ _ _ (World.drew _)
  go_wp2_with fail
  go_end0
  exact (comp_reg HR.out HM.out hne _ HCR.out).drew
theorem implComp5 (a b : Nat) (c : Int) (id : Int) (base R rc B d : Nat) (rs mem : List Int) (w : World) (ha : a ≤ 3) (hb : b ≤ 3) (h4 : rs.length = 4) (hw : ∀ z ∈ rs, 0 ≤ z ∧ z ≤ 255) (hm : 1 ≤ mem.length ∧ mem.length ≤ 32) (hR : w.ownsRow base 3 1 (rowAt R 4 rc) 4 (ints rs)) (hM : w.ownsRow base 3 1 (rowAt B mem.length d) mem.length (ints mem)) (hne : R ≠ B) :
    Calls Try.prog 99 #[cdV ⟨5, a, b, c⟩, .int .i64 id, rowAt R 4 rc, rowAt B mem.length d] w (CompRet base R rc B d rs mem ⟨5, a, b, c⟩ id w) := by
  have ia : (a : Int) < 4 := by omega
  have ja : (0 : Int) ≤ (a : Int) := by omega
  have ra := fun o => (reg_cell hR h4 (r := a) (by omega) o).1
  have va := rg_word h4 hw (r := (a : Int)) (by omega)
  have ib : (b : Int) < 4 := by omega
  have jb : (0 : Int) ≤ (b : Int) := by omega
  have rb := fun o => (reg_cell hR h4 (r := b) (by omega) o).1
  have vb := rg_word h4 hw (r := (b : Int)) (by omega)
  have fa := fun o => (reg_cell hR h4 (r := a) ha o).2
  have HCR := mkHid (show comp ⟨5, a, b, c⟩ id rs mem = (rs.set a (rg rs b), mem) from by simp [comp])
  have HR := mkHid hR
  have HM := mkHid hM
  have HB := mkHid hm
  have H4 := mkHid h4
  clear hR hM hm h4 hw
  clear va vb
  generalize rg rs a = xa at *
  generalize rg rs b = xb at *
  go_enter Try.func99, Try.ntmps99
  go_wp2_with fail
  refine wp_region_still_tail 9 (by kernel_rfl) (by kernel_rfl) ?_
  simp only [List.take_succ_cons, List.take_zero, List.drop_succ_cons, List.drop_zero]
  change wpStill _ _ (World.drew _) _ _ _
  repeat still_step
  refine wpStill_nil ?_
  change wpList _ _ _ _ _ (World.drew _)
  go_wp2_with fail
  go_end0
  exact (comp_reg HR.out HM.out hne _ HCR.out).drew
theorem implComp6 (a b c : Nat) (id : Int) (base R rc B d : Nat) (rs mem : List Int) (w : World) (ha : a ≤ 3) (hb : b ≤ 3) (hc : c ≤ 3) (h4 : rs.length = 4) (hw : ∀ z ∈ rs, 0 ≤ z ∧ z ≤ 255) (hm : 1 ≤ mem.length ∧ mem.length ≤ 32) (hR : w.ownsRow base 3 1 (rowAt R 4 rc) 4 (ints rs)) (hM : w.ownsRow base 3 1 (rowAt B mem.length d) mem.length (ints mem)) (hne : R ≠ B) :
    Calls Try.prog 99 #[cdV ⟨6, a, b, c⟩, .int .i64 id, rowAt R 4 rc, rowAt B mem.length d] w (CompRet base R rc B d rs mem ⟨6, a, b, c⟩ id w) := by
  have ia : (a : Int) < 4 := by omega
  have ja : (0 : Int) ≤ (a : Int) := by omega
  have ra := fun o => (reg_cell hR h4 (r := a) (by omega) o).1
  have va := rg_word h4 hw (r := (a : Int)) (by omega)
  have ib : (b : Int) < 4 := by omega
  have jb : (0 : Int) ≤ (b : Int) := by omega
  have rb := fun o => (reg_cell hR h4 (r := b) (by omega) o).1
  have vb := rg_word h4 hw (r := (b : Int)) (by omega)
  have ic : (c : Int) < 4 := by omega
  have jc : (0 : Int) ≤ (c : Int) := by omega
  have rc := fun o => (reg_cell hR h4 (r := c) (by omega) o).1
  have vc := rg_word h4 hw (r := (c : Int)) (by omega)
  have fa := fun o => (reg_cell hR h4 (r := a) ha o).2
  have HC := mkHid (fun X => implWordLess_any (rg rs b) (rg rs c) X vb vc)
  have HCR := mkHid (show comp ⟨6, a, b, c⟩ id rs mem = (rs.set a (lessI (rg rs b) (rg rs c)), mem) from by simp [comp, lessI])
  have HR := mkHid hR
  have HM := mkHid hM
  have HB := mkHid hm
  have H4 := mkHid h4
  clear hR hM hm h4 hw
  clear va vb vc
  generalize rg rs a = xa at *
  generalize rg rs b = xb at *
  generalize rg rs c = xc at *
  go_enter Try.func99, Try.ntmps99
  go_wp2_with fail
  refine wp_region_still_tail 15 (by kernel_rfl) (by kernel_rfl) ?_
  simp only [List.take_succ_cons, List.take_zero, List.drop_succ_cons, List.drop_zero]
  change wpStill _ _ (World.drew _) _ _ _
  repeat still_step
  refine wpStill_step (fun K hK => ?_)
  go_simp
  refine ⟨_, (HC.out _).mono (fun e w' h => ⟨h.1, h.2.symm⟩), hK _ ?_⟩
  clear hK K
  repeat still_step
  refine wpStill_nil ?_
  change wpList _ _ _ _ _ (World.drew _)
  go_wp2_with fail
  go_end0
  exact (comp_reg HR.out HM.out hne _ HCR.out).drew
theorem implComp7 (a b c : Nat) (id : Int) (base R rc B d : Nat) (rs mem : List Int) (w : World) (ha : a ≤ 3) (hb : b ≤ 3) (hc : c ≤ 3) (h4 : rs.length = 4) (hw : ∀ z ∈ rs, 0 ≤ z ∧ z ≤ 255) (hm : 1 ≤ mem.length ∧ mem.length ≤ 32) (hR : w.ownsRow base 3 1 (rowAt R 4 rc) 4 (ints rs)) (hM : w.ownsRow base 3 1 (rowAt B mem.length d) mem.length (ints mem)) (hne : R ≠ B) :
    Calls Try.prog 99 #[cdV ⟨7, a, b, c⟩, .int .i64 id, rowAt R 4 rc, rowAt B mem.length d] w (CompRet base R rc B d rs mem ⟨7, a, b, c⟩ id w) := by
  have ia : (a : Int) < 4 := by omega
  have ja : (0 : Int) ≤ (a : Int) := by omega
  have ra := fun o => (reg_cell hR h4 (r := a) (by omega) o).1
  have va := rg_word h4 hw (r := (a : Int)) (by omega)
  have ib : (b : Int) < 4 := by omega
  have jb : (0 : Int) ≤ (b : Int) := by omega
  have rb := fun o => (reg_cell hR h4 (r := b) (by omega) o).1
  have vb := rg_word h4 hw (r := (b : Int)) (by omega)
  have ic : (c : Int) < 4 := by omega
  have jc : (0 : Int) ≤ (c : Int) := by omega
  have rc := fun o => (reg_cell hR h4 (r := c) (by omega) o).1
  have vc := rg_word h4 hw (r := (c : Int)) (by omega)
  have fa := fun o => (reg_cell hR h4 (r := a) ha o).2
  have HCR := mkHid (show comp ⟨7, a, b, c⟩ id rs mem = (if rg rs c = 0 then rs else rs.set a (rg rs b), mem) from by simp [comp])
  have HR := mkHid hR
  have HM := mkHid hM
  have HB := mkHid hm
  have H4 := mkHid h4
  clear hR hM hm h4 hw
  clear va vb vc
  generalize rg rs a = xa at *
  generalize rg rs b = xb at *
  generalize rg rs c = xc at *
  by_cases h0 : xc = 0
  · subst h0
    have HS := mkHid (HCR.out.trans (by rw [if_pos rfl]))
    go_enter Try.func99, Try.ntmps99
    go_wp2_with fail
    go_end0
    exact comp_same HR.out HM.out _ HS.out
  · have hb0 : (xc != 0) = true := by simpa using h0
    have hb1 : (xc == 0) = false := by simpa using h0
    have HS := mkHid (HCR.out.trans (by rw [if_neg h0]))
    clear h0
    go_enter Try.func99, Try.ntmps99
    go_wp2_with fail
    refine wp_region_still_tail 9 (by kernel_rfl) (by kernel_rfl) ?_
    simp only [List.take_succ_cons, List.take_zero, List.drop_succ_cons, List.drop_zero]
    change wpStill _ _ (World.drew _) _ _ _
    repeat still_step
    refine wpStill_nil ?_
    change wpList _ _ _ _ _ (World.drew _)
    go_wp2_with fail
    go_end0
    exact (comp_reg HR.out HM.out hne _ HS.out).drew
theorem implComp8 (a b : Nat) (c : Int) (id : Int) (base R rc B d : Nat) (rs mem : List Int) (w : World) (ha : a ≤ 3) (hb : b ≤ 3) (h4 : rs.length = 4) (hw : ∀ z ∈ rs, 0 ≤ z ∧ z ≤ 255) (hm : 1 ≤ mem.length ∧ mem.length ≤ 32) (hR : w.ownsRow base 3 1 (rowAt R 4 rc) 4 (ints rs)) (hM : w.ownsRow base 3 1 (rowAt B mem.length d) mem.length (ints mem)) (hne : R ≠ B) :
    Calls Try.prog 99 #[cdV ⟨8, a, b, c⟩, .int .i64 id, rowAt R 4 rc, rowAt B mem.length d] w (CompRet base R rc B d rs mem ⟨8, a, b, c⟩ id w) := by
  have ia : (a : Int) < 4 := by omega
  have ja : (0 : Int) ≤ (a : Int) := by omega
  have ra := fun o => (reg_cell hR h4 (r := a) (by omega) o).1
  have va := rg_word h4 hw (r := (a : Int)) (by omega)
  have ib : (b : Int) < 4 := by omega
  have jb : (0 : Int) ≤ (b : Int) := by omega
  have rb := fun o => (reg_cell hR h4 (r := b) (by omega) o).1
  have vb := rg_word h4 hw (r := (b : Int)) (by omega)
  have fa := fun o => (reg_cell hR h4 (r := a) ha o).2
  obtain ⟨n, hn⟩ : ∃ n, n = mem.length := ⟨_, rfl⟩
  have hlt := cellOf_lt (z := rg rs b) hm.1 vb.1
  have rm := fun o => (mem_cell hM hlt o).1
  have fm := fun o => (mem_cell hM hlt o).2
  have hmd : (rg rs b).tmod (mem.length : Int) = (cellOf (rg rs b) mem : Nat) := by
    rw [Int.tmod_eq_emod_of_nonneg vb.1]
    unfold cellOf
    have := Int.emod_nonneg (rg rs b) (show (mem.length : Int) ≠ 0 by omega)
    omega
  have hme : (rg rs b) % (mem.length : Int) = (cellOf (rg rs b) mem : Nat) := by
    rw [← Int.tmod_eq_emod_of_nonneg vb.1]; exact hmd
  have HCR := mkHid (show comp ⟨8, a, b, c⟩ id rs mem = (rs.set a (mem.getD (cellOf (rg rs b) mem) 0), mem) from by simp [comp])
  have HR := mkHid hR
  have HM := mkHid hM
  have HB := mkHid hm
  have H4 := mkHid h4
  clear hR hM hm h4 hw
  generalize mem.getD (cellOf (rg rs b) mem) 0 = y at *
  generalize cellOf (rg rs b) mem = q at *
  have q0 : ¬ n = 0 := by have := HB.out; omega
  have q1 : (0 : Int) ≤ (q : Int) := by omega
  have q2 : (q : Int) < (n : Int) := by omega
  have q3 : (n : Int) ≤ 32 := by have := HB.out; omega
  have HN := mkHid hn
  rw [← hn] at hmd hme ⊢
  clear hn hlt
  have va' := va.1
  have vb' := vb.1
  clear va
  generalize rg rs a = xa at *
  generalize rg rs b = xb at *
  go_enter Try.func99, Try.ntmps99
  go_wp2_with fail
  refine wp_region_still_tail 15 (by kernel_rfl) (by kernel_rfl) ?_
  simp only [List.take_succ_cons, List.take_zero, List.drop_succ_cons, List.drop_zero]
  change wpStill _ _ (World.drew _) _ _ _
  repeat still_step
  refine wpStill_nil ?_
  change wpList _ _ _ _ _ (World.drew _)
  go_wp2_with fail
  go_end0
  exact (comp_reg HR.out HM.out hne _ HCR.out).drew
theorem implComp9 (a b : Nat) (c : Int) (id : Int) (base R rc B d : Nat) (rs mem : List Int) (w : World) (ha : a ≤ 3) (hb : b ≤ 3) (h4 : rs.length = 4) (hw : ∀ z ∈ rs, 0 ≤ z ∧ z ≤ 255) (hm : 1 ≤ mem.length ∧ mem.length ≤ 32) (hR : w.ownsRow base 3 1 (rowAt R 4 rc) 4 (ints rs)) (hM : w.ownsRow base 3 1 (rowAt B mem.length d) mem.length (ints mem)) (hne : R ≠ B) :
    Calls Try.prog 99 #[cdV ⟨9, a, b, c⟩, .int .i64 id, rowAt R 4 rc, rowAt B mem.length d] w (CompRet base R rc B d rs mem ⟨9, a, b, c⟩ id w) := by
  have ia : (a : Int) < 4 := by omega
  have ja : (0 : Int) ≤ (a : Int) := by omega
  have ra := fun o => (reg_cell hR h4 (r := a) (by omega) o).1
  have va := rg_word h4 hw (r := (a : Int)) (by omega)
  have ib : (b : Int) < 4 := by omega
  have jb : (0 : Int) ≤ (b : Int) := by omega
  have rb := fun o => (reg_cell hR h4 (r := b) (by omega) o).1
  have vb := rg_word h4 hw (r := (b : Int)) (by omega)
  have fa := fun o => (reg_cell hR h4 (r := a) ha o).2
  obtain ⟨n, hn⟩ : ∃ n, n = mem.length := ⟨_, rfl⟩
  have hlt := cellOf_lt (z := rg rs b) hm.1 vb.1
  have rm := fun o => (mem_cell hM hlt o).1
  have fm := fun o => (mem_cell hM hlt o).2
  have hmd : (rg rs b).tmod (mem.length : Int) = (cellOf (rg rs b) mem : Nat) := by
    rw [Int.tmod_eq_emod_of_nonneg vb.1]
    unfold cellOf
    have := Int.emod_nonneg (rg rs b) (show (mem.length : Int) ≠ 0 by omega)
    omega
  have hme : (rg rs b) % (mem.length : Int) = (cellOf (rg rs b) mem : Nat) := by
    rw [← Int.tmod_eq_emod_of_nonneg vb.1]; exact hmd
  have HCR := mkHid (show comp ⟨9, a, b, c⟩ id rs mem = (rs, mem.set (cellOf (rg rs b) mem) (rg rs a)) from by simp [comp])
  have HR := mkHid hR
  have HM := mkHid hM
  have HB := mkHid hm
  have H4 := mkHid h4
  clear hR hM hm h4 hw
  generalize mem.getD (cellOf (rg rs b) mem) 0 = y at *
  generalize cellOf (rg rs b) mem = q at *
  have q0 : ¬ n = 0 := by have := HB.out; omega
  have q1 : (0 : Int) ≤ (q : Int) := by omega
  have q2 : (q : Int) < (n : Int) := by omega
  have q3 : (n : Int) ≤ 32 := by have := HB.out; omega
  have HN := mkHid hn
  rw [← hn] at hmd hme ⊢
  clear hn hlt
  have va' := va.1
  have vb' := vb.1
  clear va
  generalize rg rs a = xa at *
  generalize rg rs b = xb at *
  go_enter Try.func99, Try.ntmps99
  go_wp2_with fail
  refine wp_region_still_tail 15 (by kernel_rfl) (by kernel_rfl) ?_
  simp only [List.take_succ_cons, List.take_zero, List.drop_succ_cons, List.drop_zero]
  change wpStill _ _ (World.drew _) _ _ _
  repeat still_step
  refine wpStill_nil ?_
  change wpList _ _ _ _ _ (World.drew _)
  go_wp2_with fail
  go_end0
  exact (comp_mem HR.out HM.out hne _ HCR.out).drew
theorem implComp10 (a b c : Int) (id : Int) (base R rc B d : Nat) (rs mem : List Int) (w : World) (hR : w.ownsRow base 3 1 (rowAt R 4 rc) 4 (ints rs)) (hM : w.ownsRow base 3 1 (rowAt B mem.length d) mem.length (ints mem)) :
    Calls Try.prog 99 #[cdV ⟨10, a, b, c⟩, .int .i64 id, rowAt R 4 rc, rowAt B mem.length d] w (CompRet base R rc B d rs mem ⟨10, a, b, c⟩ id w) := by
  have HR := mkHid hR
  have HM := mkHid hM
  clear hR hM
  go_enter Try.func99, Try.ntmps99
  go_wp2_with fail
  go_end0
  exact comp_same HR.out HM.out _ (by simp [comp])
theorem specComp1 (a : Nat) (z c : Int) (id : Int) (base R rc B d : Nat) (rs mem : List Int) (w : World) (ha : a ≤ 3) (h4 : rs.length = 4) (hw : ∀ z ∈ rs, 0 ≤ z ∧ z ≤ 255) (hm : 1 ≤ mem.length ∧ mem.length ≤ 32) (hR : w.ownsRow base 3 1 (rowAt R 4 rc) 4 (ints rs)) (hM : w.ownsRow base 3 1 (rowAt B mem.length d) mem.length (ints mem)) (hne : R ≠ B) :
    Calls Try.prog 94 #[rowAt R 4 rc, rowAt B mem.length d, cdV ⟨1, a, z, c⟩, .int .i64 id] w (CompRet base R rc B d rs mem ⟨1, a, z, c⟩ id w) := by
  have ia : (a : Int) < 4 := by omega
  have ja : (0 : Int) ≤ (a : Int) := by omega
  have ra := fun o => (reg_cell hR h4 (r := a) (by omega) o).1
  have va := rg_word h4 hw (r := (a : Int)) (by omega)
  have fa := fun o => (reg_cell hR h4 (r := a) ha o).2
  clear va
  have HR := mkHid hR
  have HM := mkHid hM
  have HB := mkHid hm
  have H4 := mkHid h4
  clear hR hM hm h4 hw
  go_enter Try.func94, Try.ntmps94
  go_wp2_with fail
  go_end0
  exact comp_reg HR.out HM.out hne _ (by simp [comp])
theorem specComp2 (a : Nat) (b c : Int) (id : Int) (base R rc B d : Nat) (rs mem : List Int) (w : World) (ha : a ≤ 3) (h4 : rs.length = 4) (hw : ∀ z ∈ rs, 0 ≤ z ∧ z ≤ 255) (hm : 1 ≤ mem.length ∧ mem.length ≤ 32) (hR : w.ownsRow base 3 1 (rowAt R 4 rc) 4 (ints rs)) (hM : w.ownsRow base 3 1 (rowAt B mem.length d) mem.length (ints mem)) (hne : R ≠ B) :
    Calls Try.prog 94 #[rowAt R 4 rc, rowAt B mem.length d, cdV ⟨2, a, b, c⟩, .int .i64 id] w (CompRet base R rc B d rs mem ⟨2, a, b, c⟩ id w) := by
  have ia : (a : Int) < 4 := by omega
  have ja : (0 : Int) ≤ (a : Int) := by omega
  have ra := fun o => (reg_cell hR h4 (r := a) (by omega) o).1
  have va := rg_word h4 hw (r := (a : Int)) (by omega)
  have fa := fun o => (reg_cell hR h4 (r := a) ha o).2
  clear va
  have HR := mkHid hR
  have HM := mkHid hM
  have HB := mkHid hm
  have H4 := mkHid h4
  clear hR hM hm h4 hw
  go_enter Try.func94, Try.ntmps94
  go_wp2_with fail
  go_end0
  exact comp_reg HR.out HM.out hne _ (by simp [comp])
theorem specComp3 (a b : Nat) (c : Int) (id : Int) (base R rc B d : Nat) (rs mem : List Int) (w : World) (ha : a ≤ 3) (hb : b ≤ 3) (h4 : rs.length = 4) (hw : ∀ z ∈ rs, 0 ≤ z ∧ z ≤ 255) (hm : 1 ≤ mem.length ∧ mem.length ≤ 32) (hR : w.ownsRow base 3 1 (rowAt R 4 rc) 4 (ints rs)) (hM : w.ownsRow base 3 1 (rowAt B mem.length d) mem.length (ints mem)) (hne : R ≠ B) :
    Calls Try.prog 94 #[rowAt R 4 rc, rowAt B mem.length d, cdV ⟨3, a, b, c⟩, .int .i64 id] w (CompRet base R rc B d rs mem ⟨3, a, b, c⟩ id w) := by
  have ia : (a : Int) < 4 := by omega
  have ja : (0 : Int) ≤ (a : Int) := by omega
  have ra := fun o => (reg_cell hR h4 (r := a) (by omega) o).1
  have va := rg_word h4 hw (r := (a : Int)) (by omega)
  have ib : (b : Int) < 4 := by omega
  have jb : (0 : Int) ≤ (b : Int) := by omega
  have rb := fun o => (reg_cell hR h4 (r := b) (by omega) o).1
  have vb := rg_word h4 hw (r := (b : Int)) (by omega)
  have fa := fun o => (reg_cell hR h4 (r := a) ha o).2
  have HC := mkHid (fun X => specWordAdd_any (rg rs a) (rg rs b) X va vb)
  have HCR := mkHid (show comp ⟨3, a, b, c⟩ id rs mem = (rs.set a ((rg rs a + rg rs b) % 256), mem) from by simp [comp])
  have HR := mkHid hR
  have HM := mkHid hM
  have HB := mkHid hm
  have H4 := mkHid h4
  clear hR hM hm h4 hw
  clear va vb
  generalize rg rs a = xa at *
  generalize rg rs b = xb at *
  go_enter Try.func94, Try.ntmps94
  go_wp2_with fail
  refine wp_region_still_tail 15 (by kernel_rfl) (by kernel_rfl) ?_
  simp only [List.take_succ_cons, List.take_zero, List.drop_succ_cons, List.drop_zero]
  change wpStill _ _ (World.drew _) _ _ _
  repeat still_step
  refine wpStill_step (fun K hK => ?_)
  go_simp
  refine ⟨_, (HC.out _).mono (fun e w' h => ⟨h.1, h.2.symm⟩), hK _ ?_⟩
  clear hK K
  repeat still_step
  refine wpStill_nil ?_
  change wpList _ _ _ _ _ (World.drew _)
  go_wp2_with fail
  go_end0
  exact (comp_reg HR.out HM.out hne _ HCR.out).drew
theorem specComp4 (a b : Nat) (c : Int) (id : Int) (base R rc B d : Nat) (rs mem : List Int) (w : World) (ha : a ≤ 3) (hb : b ≤ 3) (h4 : rs.length = 4) (hw : ∀ z ∈ rs, 0 ≤ z ∧ z ≤ 255) (hm : 1 ≤ mem.length ∧ mem.length ≤ 32) (hR : w.ownsRow base 3 1 (rowAt R 4 rc) 4 (ints rs)) (hM : w.ownsRow base 3 1 (rowAt B mem.length d) mem.length (ints mem)) (hne : R ≠ B) :
    Calls Try.prog 94 #[rowAt R 4 rc, rowAt B mem.length d, cdV ⟨4, a, b, c⟩, .int .i64 id] w (CompRet base R rc B d rs mem ⟨4, a, b, c⟩ id w) := by
  have ia : (a : Int) < 4 := by omega
  have ja : (0 : Int) ≤ (a : Int) := by omega
  have ra := fun o => (reg_cell hR h4 (r := a) (by omega) o).1
  have va := rg_word h4 hw (r := (a : Int)) (by omega)
  have ib : (b : Int) < 4 := by omega
  have jb : (0 : Int) ≤ (b : Int) := by omega
  have rb := fun o => (reg_cell hR h4 (r := b) (by omega) o).1
  have vb := rg_word h4 hw (r := (b : Int)) (by omega)
  have fa := fun o => (reg_cell hR h4 (r := a) ha o).2
  have HC := mkHid (fun X => specWordMul_any (rg rs a) (rg rs b) X va vb)
  have HCR := mkHid (show comp ⟨4, a, b, c⟩ id rs mem = (rs.set a ((rg rs a * rg rs b) % 256), mem) from by simp [comp])
  have HR := mkHid hR
  have HM := mkHid hM
  have HB := mkHid hm
  have H4 := mkHid h4
  clear hR hM hm h4 hw
  clear va vb
  generalize rg rs a = xa at *
  generalize rg rs b = xb at *
  go_enter Try.func94, Try.ntmps94
  go_wp2_with fail
  refine wp_region_still_tail 15 (by kernel_rfl) (by kernel_rfl) ?_
  simp only [List.take_succ_cons, List.take_zero, List.drop_succ_cons, List.drop_zero]
  change wpStill _ _ (World.drew _) _ _ _
  repeat still_step
  refine wpStill_step (fun K hK => ?_)
  go_simp
  refine ⟨_, (HC.out _).mono (fun e w' h => ⟨h.1, h.2.symm⟩), hK _ ?_⟩
  clear hK K
  repeat still_step
  refine wpStill_nil ?_
  change wpList _ _ _ _ _ (World.drew _)
  go_wp2_with fail
  go_end0
  exact (comp_reg HR.out HM.out hne _ HCR.out).drew
theorem specComp5 (a b : Nat) (c : Int) (id : Int) (base R rc B d : Nat) (rs mem : List Int) (w : World) (ha : a ≤ 3) (hb : b ≤ 3) (h4 : rs.length = 4) (hw : ∀ z ∈ rs, 0 ≤ z ∧ z ≤ 255) (hm : 1 ≤ mem.length ∧ mem.length ≤ 32) (hR : w.ownsRow base 3 1 (rowAt R 4 rc) 4 (ints rs)) (hM : w.ownsRow base 3 1 (rowAt B mem.length d) mem.length (ints mem)) (hne : R ≠ B) :
    Calls Try.prog 94 #[rowAt R 4 rc, rowAt B mem.length d, cdV ⟨5, a, b, c⟩, .int .i64 id] w (CompRet base R rc B d rs mem ⟨5, a, b, c⟩ id w) := by
  have ia : (a : Int) < 4 := by omega
  have ja : (0 : Int) ≤ (a : Int) := by omega
  have ra := fun o => (reg_cell hR h4 (r := a) (by omega) o).1
  have va := rg_word h4 hw (r := (a : Int)) (by omega)
  have ib : (b : Int) < 4 := by omega
  have jb : (0 : Int) ≤ (b : Int) := by omega
  have rb := fun o => (reg_cell hR h4 (r := b) (by omega) o).1
  have vb := rg_word h4 hw (r := (b : Int)) (by omega)
  have fa := fun o => (reg_cell hR h4 (r := a) ha o).2
  have HCR := mkHid (show comp ⟨5, a, b, c⟩ id rs mem = (rs.set a (rg rs b), mem) from by simp [comp])
  have HR := mkHid hR
  have HM := mkHid hM
  have HB := mkHid hm
  have H4 := mkHid h4
  clear hR hM hm h4 hw
  clear va vb
  generalize rg rs a = xa at *
  generalize rg rs b = xb at *
  go_enter Try.func94, Try.ntmps94
  go_wp2_with fail
  refine wp_region_still_tail 9 (by kernel_rfl) (by kernel_rfl) ?_
  simp only [List.take_succ_cons, List.take_zero, List.drop_succ_cons, List.drop_zero]
  change wpStill _ _ (World.drew _) _ _ _
  repeat still_step
  refine wpStill_nil ?_
  change wpList _ _ _ _ _ (World.drew _)
  go_wp2_with fail
  go_end0
  exact (comp_reg HR.out HM.out hne _ HCR.out).drew
theorem specComp6 (a b c : Nat) (id : Int) (base R rc B d : Nat) (rs mem : List Int) (w : World) (ha : a ≤ 3) (hb : b ≤ 3) (hc : c ≤ 3) (h4 : rs.length = 4) (hw : ∀ z ∈ rs, 0 ≤ z ∧ z ≤ 255) (hm : 1 ≤ mem.length ∧ mem.length ≤ 32) (hR : w.ownsRow base 3 1 (rowAt R 4 rc) 4 (ints rs)) (hM : w.ownsRow base 3 1 (rowAt B mem.length d) mem.length (ints mem)) (hne : R ≠ B) :
    Calls Try.prog 94 #[rowAt R 4 rc, rowAt B mem.length d, cdV ⟨6, a, b, c⟩, .int .i64 id] w (CompRet base R rc B d rs mem ⟨6, a, b, c⟩ id w) := by
  have ia : (a : Int) < 4 := by omega
  have ja : (0 : Int) ≤ (a : Int) := by omega
  have ra := fun o => (reg_cell hR h4 (r := a) (by omega) o).1
  have va := rg_word h4 hw (r := (a : Int)) (by omega)
  have ib : (b : Int) < 4 := by omega
  have jb : (0 : Int) ≤ (b : Int) := by omega
  have rb := fun o => (reg_cell hR h4 (r := b) (by omega) o).1
  have vb := rg_word h4 hw (r := (b : Int)) (by omega)
  have ic : (c : Int) < 4 := by omega
  have jc : (0 : Int) ≤ (c : Int) := by omega
  have rc := fun o => (reg_cell hR h4 (r := c) (by omega) o).1
  have vc := rg_word h4 hw (r := (c : Int)) (by omega)
  have fa := fun o => (reg_cell hR h4 (r := a) ha o).2
  have HC := mkHid (fun X => specWordLess_any (rg rs b) (rg rs c) X vb vc)
  have HCR := mkHid (show comp ⟨6, a, b, c⟩ id rs mem = (rs.set a (lessI (rg rs b) (rg rs c)), mem) from by simp [comp, lessI])
  have HR := mkHid hR
  have HM := mkHid hM
  have HB := mkHid hm
  have H4 := mkHid h4
  clear hR hM hm h4 hw
  clear va vb vc
  generalize rg rs a = xa at *
  generalize rg rs b = xb at *
  generalize rg rs c = xc at *
  go_enter Try.func94, Try.ntmps94
  go_wp2_with fail
  refine wp_region_still_tail 15 (by kernel_rfl) (by kernel_rfl) ?_
  simp only [List.take_succ_cons, List.take_zero, List.drop_succ_cons, List.drop_zero]
  change wpStill _ _ (World.drew _) _ _ _
  repeat still_step
  refine wpStill_step (fun K hK => ?_)
  go_simp
  refine ⟨_, (HC.out _).mono (fun e w' h => ⟨h.1, h.2.symm⟩), hK _ ?_⟩
  clear hK K
  repeat still_step
  refine wpStill_nil ?_
  change wpList _ _ _ _ _ (World.drew _)
  go_wp2_with fail
  go_end0
  exact (comp_reg HR.out HM.out hne _ HCR.out).drew
theorem specComp7 (a b c : Nat) (id : Int) (base R rc B d : Nat) (rs mem : List Int) (w : World) (ha : a ≤ 3) (hb : b ≤ 3) (hc : c ≤ 3) (h4 : rs.length = 4) (hw : ∀ z ∈ rs, 0 ≤ z ∧ z ≤ 255) (hm : 1 ≤ mem.length ∧ mem.length ≤ 32) (hR : w.ownsRow base 3 1 (rowAt R 4 rc) 4 (ints rs)) (hM : w.ownsRow base 3 1 (rowAt B mem.length d) mem.length (ints mem)) (hne : R ≠ B) :
    Calls Try.prog 94 #[rowAt R 4 rc, rowAt B mem.length d, cdV ⟨7, a, b, c⟩, .int .i64 id] w (CompRet base R rc B d rs mem ⟨7, a, b, c⟩ id w) := by
  have ia : (a : Int) < 4 := by omega
  have ja : (0 : Int) ≤ (a : Int) := by omega
  have ra := fun o => (reg_cell hR h4 (r := a) (by omega) o).1
  have va := rg_word h4 hw (r := (a : Int)) (by omega)
  have ib : (b : Int) < 4 := by omega
  have jb : (0 : Int) ≤ (b : Int) := by omega
  have rb := fun o => (reg_cell hR h4 (r := b) (by omega) o).1
  have vb := rg_word h4 hw (r := (b : Int)) (by omega)
  have ic : (c : Int) < 4 := by omega
  have jc : (0 : Int) ≤ (c : Int) := by omega
  have rc := fun o => (reg_cell hR h4 (r := c) (by omega) o).1
  have vc := rg_word h4 hw (r := (c : Int)) (by omega)
  have fa := fun o => (reg_cell hR h4 (r := a) ha o).2
  have HCR := mkHid (show comp ⟨7, a, b, c⟩ id rs mem = (if rg rs c = 0 then rs else rs.set a (rg rs b), mem) from by simp [comp])
  have HR := mkHid hR
  have HM := mkHid hM
  have HB := mkHid hm
  have H4 := mkHid h4
  clear hR hM hm h4 hw
  clear va vb vc
  generalize rg rs a = xa at *
  generalize rg rs b = xb at *
  generalize rg rs c = xc at *
  by_cases h0 : xc = 0
  · subst h0
    have HS := mkHid (HCR.out.trans (by rw [if_pos rfl]))
    go_enter Try.func94, Try.ntmps94
    go_wp2_with fail
    go_end0
    exact comp_same HR.out HM.out _ HS.out
  · have hb0 : (xc != 0) = true := by simpa using h0
    have hb1 : (xc == 0) = false := by simpa using h0
    have HS := mkHid (HCR.out.trans (by rw [if_neg h0]))
    clear h0
    go_enter Try.func94, Try.ntmps94
    go_wp2_with fail
    refine wp_region_still_tail 9 (by kernel_rfl) (by kernel_rfl) ?_
    simp only [List.take_succ_cons, List.take_zero, List.drop_succ_cons, List.drop_zero]
    change wpStill _ _ (World.drew _) _ _ _
    repeat still_step
    refine wpStill_nil ?_
    change wpList _ _ _ _ _ (World.drew _)
    go_wp2_with fail
    go_end0
    exact (comp_reg HR.out HM.out hne _ HS.out).drew
theorem specComp8 (a b : Nat) (c : Int) (id : Int) (base R rc B d : Nat) (rs mem : List Int) (w : World) (ha : a ≤ 3) (hb : b ≤ 3) (h4 : rs.length = 4) (hw : ∀ z ∈ rs, 0 ≤ z ∧ z ≤ 255) (hm : 1 ≤ mem.length ∧ mem.length ≤ 32) (hR : w.ownsRow base 3 1 (rowAt R 4 rc) 4 (ints rs)) (hM : w.ownsRow base 3 1 (rowAt B mem.length d) mem.length (ints mem)) (hne : R ≠ B) :
    Calls Try.prog 94 #[rowAt R 4 rc, rowAt B mem.length d, cdV ⟨8, a, b, c⟩, .int .i64 id] w (CompRet base R rc B d rs mem ⟨8, a, b, c⟩ id w) := by
  have ia : (a : Int) < 4 := by omega
  have ja : (0 : Int) ≤ (a : Int) := by omega
  have ra := fun o => (reg_cell hR h4 (r := a) (by omega) o).1
  have va := rg_word h4 hw (r := (a : Int)) (by omega)
  have ib : (b : Int) < 4 := by omega
  have jb : (0 : Int) ≤ (b : Int) := by omega
  have rb := fun o => (reg_cell hR h4 (r := b) (by omega) o).1
  have vb := rg_word h4 hw (r := (b : Int)) (by omega)
  have fa := fun o => (reg_cell hR h4 (r := a) ha o).2
  obtain ⟨n, hn⟩ : ∃ n, n = mem.length := ⟨_, rfl⟩
  have hlt := cellOf_lt (z := rg rs b) hm.1 vb.1
  have rm := fun o => (mem_cell hM hlt o).1
  have fm := fun o => (mem_cell hM hlt o).2
  have hmd : (rg rs b).tmod (mem.length : Int) = (cellOf (rg rs b) mem : Nat) := by
    rw [Int.tmod_eq_emod_of_nonneg vb.1]
    unfold cellOf
    have := Int.emod_nonneg (rg rs b) (show (mem.length : Int) ≠ 0 by omega)
    omega
  have hme : (rg rs b) % (mem.length : Int) = (cellOf (rg rs b) mem : Nat) := by
    rw [← Int.tmod_eq_emod_of_nonneg vb.1]; exact hmd
  have HCR := mkHid (show comp ⟨8, a, b, c⟩ id rs mem = (rs.set a (mem.getD (cellOf (rg rs b) mem) 0), mem) from by simp [comp])
  have HR := mkHid hR
  have HM := mkHid hM
  have HB := mkHid hm
  have H4 := mkHid h4
  clear hR hM hm h4 hw
  generalize mem.getD (cellOf (rg rs b) mem) 0 = y at *
  generalize cellOf (rg rs b) mem = q at *
  have q0 : ¬ n = 0 := by have := HB.out; omega
  have q1 : (0 : Int) ≤ (q : Int) := by omega
  have q2 : (q : Int) < (n : Int) := by omega
  have q3 : (n : Int) ≤ 32 := by have := HB.out; omega
  have HN := mkHid hn
  rw [← hn] at hmd hme ⊢
  clear hn hlt
  have va' := va.1
  have vb' := vb.1
  clear va
  generalize rg rs a = xa at *
  generalize rg rs b = xb at *
  go_enter Try.func94, Try.ntmps94
  go_wp2_with fail
  refine wp_region_still_tail 15 (by kernel_rfl) (by kernel_rfl) ?_
  simp only [List.take_succ_cons, List.take_zero, List.drop_succ_cons, List.drop_zero]
  change wpStill _ _ (World.drew _) _ _ _
  repeat still_step
  refine wpStill_nil ?_
  change wpList _ _ _ _ _ (World.drew _)
  go_wp2_with fail
  go_end0
  exact (comp_reg HR.out HM.out hne _ HCR.out).drew
theorem specComp9 (a b : Nat) (c : Int) (id : Int) (base R rc B d : Nat) (rs mem : List Int) (w : World) (ha : a ≤ 3) (hb : b ≤ 3) (h4 : rs.length = 4) (hw : ∀ z ∈ rs, 0 ≤ z ∧ z ≤ 255) (hm : 1 ≤ mem.length ∧ mem.length ≤ 32) (hR : w.ownsRow base 3 1 (rowAt R 4 rc) 4 (ints rs)) (hM : w.ownsRow base 3 1 (rowAt B mem.length d) mem.length (ints mem)) (hne : R ≠ B) :
    Calls Try.prog 94 #[rowAt R 4 rc, rowAt B mem.length d, cdV ⟨9, a, b, c⟩, .int .i64 id] w (CompRet base R rc B d rs mem ⟨9, a, b, c⟩ id w) := by
  have ia : (a : Int) < 4 := by omega
  have ja : (0 : Int) ≤ (a : Int) := by omega
  have ra := fun o => (reg_cell hR h4 (r := a) (by omega) o).1
  have va := rg_word h4 hw (r := (a : Int)) (by omega)
  have ib : (b : Int) < 4 := by omega
  have jb : (0 : Int) ≤ (b : Int) := by omega
  have rb := fun o => (reg_cell hR h4 (r := b) (by omega) o).1
  have vb := rg_word h4 hw (r := (b : Int)) (by omega)
  have fa := fun o => (reg_cell hR h4 (r := a) ha o).2
  obtain ⟨n, hn⟩ : ∃ n, n = mem.length := ⟨_, rfl⟩
  have hlt := cellOf_lt (z := rg rs b) hm.1 vb.1
  have rm := fun o => (mem_cell hM hlt o).1
  have fm := fun o => (mem_cell hM hlt o).2
  have hmd : (rg rs b).tmod (mem.length : Int) = (cellOf (rg rs b) mem : Nat) := by
    rw [Int.tmod_eq_emod_of_nonneg vb.1]
    unfold cellOf
    have := Int.emod_nonneg (rg rs b) (show (mem.length : Int) ≠ 0 by omega)
    omega
  have hme : (rg rs b) % (mem.length : Int) = (cellOf (rg rs b) mem : Nat) := by
    rw [← Int.tmod_eq_emod_of_nonneg vb.1]; exact hmd
  have HCR := mkHid (show comp ⟨9, a, b, c⟩ id rs mem = (rs, mem.set (cellOf (rg rs b) mem) (rg rs a)) from by simp [comp])
  have HR := mkHid hR
  have HM := mkHid hM
  have HB := mkHid hm
  have H4 := mkHid h4
  clear hR hM hm h4 hw
  generalize mem.getD (cellOf (rg rs b) mem) 0 = y at *
  generalize cellOf (rg rs b) mem = q at *
  have q0 : ¬ n = 0 := by have := HB.out; omega
  have q1 : (0 : Int) ≤ (q : Int) := by omega
  have q2 : (q : Int) < (n : Int) := by omega
  have q3 : (n : Int) ≤ 32 := by have := HB.out; omega
  have HN := mkHid hn
  rw [← hn] at hmd hme ⊢
  clear hn hlt
  have va' := va.1
  have vb' := vb.1
  clear va
  generalize rg rs a = xa at *
  generalize rg rs b = xb at *
  go_enter Try.func94, Try.ntmps94
  go_wp2_with fail
  refine wp_region_still_tail 15 (by kernel_rfl) (by kernel_rfl) ?_
  simp only [List.take_succ_cons, List.take_zero, List.drop_succ_cons, List.drop_zero]
  change wpStill _ _ (World.drew _) _ _ _
  repeat still_step
  refine wpStill_nil ?_
  change wpList _ _ _ _ _ (World.drew _)
  go_wp2_with fail
  go_end0
  exact (comp_mem HR.out HM.out hne _ HCR.out).drew
theorem specComp10 (a b c : Int) (id : Int) (base R rc B d : Nat) (rs mem : List Int) (w : World) (hR : w.ownsRow base 3 1 (rowAt R 4 rc) 4 (ints rs)) (hM : w.ownsRow base 3 1 (rowAt B mem.length d) mem.length (ints mem)) :
    Calls Try.prog 94 #[rowAt R 4 rc, rowAt B mem.length d, cdV ⟨10, a, b, c⟩, .int .i64 id] w (CompRet base R rc B d rs mem ⟨10, a, b, c⟩ id w) := by
  have HR := mkHid hR
  have HM := mkHid hM
  clear hR hM
  go_enter Try.func94, Try.ntmps94
  go_wp2_with fail
  go_end0
  exact comp_same HR.out HM.out _ (by simp [comp])
end Go.Proofs.Ytjmiilneennjaaa
