/-
  Contract of the draw of a line's size: l20Size: some number from 0 to 65.
-/
import Derived.Test.YtjgmghlgjjfifaaDReg
import Derived.Test.YtjgmghlgjjfifaaLib2
namespace Go.Proofs.Ytjgmghlgjjfifaa
open Go.RowKit
set_option maxHeartbeats 400000
set_option linter.unusedVariables false

def DrawnInt (lo hi : Int) (br N : Nat) (w : World) (e : Ending) (w' : World) : Prop :=
  ∃ r : Int, e = .returned (.int .i64 r) ∧ (lo ≤ r ∧ r ≤ hi) ∧ Rd w' br N ∧ w.grownBy w' (some br)

def regSize (br N : Nat) (w0 : World) : Reg where
  nd := [1, 4, 6, 7, 9, 11, 13]
  K := fun
    | 1 => kInt 0 6
    | 4 => kInt 0 8
    | 6 => kLit w0.heap.size 4 0 65
    | 7 => kLit w0.heap.size 7 0 3
    | 9 => kInt 0 6
    | 11 => kInt 0 3
    | 13 => kInt 0 65
    | _ => kNone
  ne := fun i => by
    split <;> first | exact kInt_ne _ _ (by omega) | exact kLit_ne _ _ _ _ | exact ⟨()⟩
  I := drawI br N w0
  mono := drawI_mono br N w0
  hy := fun
    | 11 => [7]
    | 13 => [6]
    | _ => []
  kills := fun _ => []

theorem regSize_keeps (br N : Nat) (w0 : World) (hlt : br < w0.heap.size) {w w' : World} (hg : w.grownBy w' (some br)) (i : Nat) : (regSize br N w0).keeps i w w' := by
  intro k hk _ _
  simp only [regSize, List.mem_cons, List.not_mem_nil, or_false] at hk
  rcases hk with rfl | rfl | rfl | rfl | rfl | rfl | rfl
  all_goals first | exact fun y h => h | exact fun y h => LitAt.grown h hlt hg

theorem pow_small (n : Nat) (hn : n ≤ 6) : 0 ≤ wrap64 (2 ^ n) ∧ wrap64 (2 ^ n) ≤ 65 := by
  have : n = 0 ∨ n = 1 ∨ n = 2 ∨ n = 3 ∨ n = 4 ∨ n = 5 ∨ n = 6 := by omega
  rcases this with rfl | rfl | rfl | rfl | rfl | rfl | rfl <;> simp [wrap64]
theorem l20Size_any (br N : Nat) (w : World) (hN : N ≤ 900000000) (h : Rd w br N) :
    Calls Try.prog 54 #[.pointer (some ⟨br, 0, none⟩)] w (DrawnInt 0 65 br (N + 15) w) := by
  have hlt := h.lt
  have hkeep := @regSize_keeps br N w hlt
  go_enter Try.func54, Try.ntmps54
  go_wp2_with fail
  refine wp_region_N (regSize br N w) (by kernel_rfl) (by kernel_rfl) (by kernel_rfl) (drawI_start h) (fun xs => ?_)
  refine wpN_det rfl rfl rfl (fun K hK => ?_); go_big_quiet_op; first | (refine hK _ ?_; clear hK K) | (refine ⟨_, fun _ => rfl, hK _ ?_⟩; clear hK K)
  refine wpN_nd rfl rfl ?_ (fun x hx1 => ?_)
  · intro m w hm hI hh
    simp [yields, go_sem]
    refine (pick_any _ _ _ _ (by omega) hI.1).mono ?_
    rintro e w' ⟨r, rfl, h0, h1, hr, hg⟩
    exact ⟨_, rfl, ⟨r, h0, by omega⟩, rfl, trivial, drawI_pick hI hr hg, hkeep hg _⟩
  obtain ⟨r1, p1⟩ := x
  obtain ⟨n1, rfl⟩ := Int.eq_ofNat_of_zero_le p1.1
  show wpN _ _ _ _ _ _ _ (Act.put _ _ (.int .i64 n1))
  simp only [Act.put, List.setIfInBounds_toArray, List.set_cons_succ, List.set_cons_zero]
  refine wpN_det rfl rfl rfl (fun K hK => ?_); go_big_quiet_op; first | (refine hK _ ?_; clear hK K) | (refine ⟨_, fun _ => rfl, hK _ ?_⟩; clear hK K)
  have z1 := pow_small n1 (by omega)
  generalize wrap64 (2 ^ n1) = y1 at z1 ⊢
  refine wpN_det rfl rfl rfl (fun K hK => ?_); go_big_quiet_op; first | (refine hK _ ?_; clear hK K) | (refine ⟨_, fun _ => rfl, hK _ ?_⟩; clear hK K)
  refine wpN_nd rfl rfl ?_ (fun x hx4 => ?_)
  · intro m w hm hI hh
    simp [yields, go_sem]
    refine (pick_any _ _ _ _ (by omega) hI.1).mono ?_
    rintro e w' ⟨r, rfl, h0, h1, hr, hg⟩
    exact ⟨_, rfl, ⟨r, h0, by omega⟩, rfl, trivial, drawI_pick hI hr hg, hkeep hg _⟩
  obtain ⟨r4, p4⟩ := x
  obtain ⟨n4, rfl⟩ := Int.eq_ofNat_of_zero_le p4.1
  show wpN _ _ _ _ _ _ _ (Act.put _ _ (.int .i64 n4))
  simp only [Act.put, List.setIfInBounds_toArray, List.set_cons_succ, List.set_cons_zero]
  refine wpN_det rfl rfl rfl (fun K hK => ?_); go_big_quiet_op; first | (refine hK _ ?_; clear hK K) | (refine ⟨_, fun _ => rfl, hK _ ?_⟩; clear hK K)
  refine wpN_nd rfl rfl ?_ (fun x hx6 => ?_)
  · intro m w hm hI hh
    simp [yields, go_sem]
    exact ⟨(w.heap.size : Nat), rfl, LitAt.new w [y1, 1 + n4, 0, 65] _ hI.2.size (by simp <;> omega), drawI_alloc hI _, hkeep (World.grownBy_alloc _ _ _) _⟩
  obtain ⟨g6, rfl⟩ : ∃ g : Nat, g = x := ⟨x, rfl⟩
  show wpN _ _ _ _ _ _ _ (Act.put _ _ (.slice (some ⟨g6, 0, none⟩) 4 4))
  simp only [Act.put, List.setIfInBounds_toArray, List.set_cons_succ, List.set_cons_zero]
  refine wpN_nd rfl rfl ?_ (fun x hx7 => ?_)
  · intro m w hm hI hh
    simp [yields, go_sem]
    exact ⟨(w.heap.size : Nat), rfl, LitAt.new w [0, 0, 0, 1, 1, 2, 3] _ hI.2.size (by simp <;> omega), drawI_alloc hI _, hkeep (World.grownBy_alloc _ _ _) _⟩
  obtain ⟨g7, rfl⟩ : ∃ g : Nat, g = x := ⟨x, rfl⟩
  show wpN _ _ _ _ _ _ _ (Act.put _ _ (.slice (some ⟨g7, 0, none⟩) 7 7))
  simp only [Act.put, List.setIfInBounds_toArray, List.set_cons_succ, List.set_cons_zero]
  refine wpN_det rfl rfl rfl (fun K hK => ?_); go_big_quiet_op; first | (refine hK _ ?_; clear hK K) | (refine ⟨_, fun _ => rfl, hK _ ?_⟩; clear hK K)
  refine wpN_nd rfl rfl ?_ (fun x hx9 => ?_)
  · intro m w hm hI hh
    simp [yields, go_sem]
    refine (pick_any _ _ _ _ (by omega) hI.1).mono ?_
    rintro e w' ⟨r, rfl, h0, h1, hr, hg⟩
    exact ⟨_, rfl, ⟨r, h0, by omega⟩, rfl, trivial, drawI_pick hI hr hg, hkeep hg _⟩
  obtain ⟨r9, p9⟩ := x
  obtain ⟨n9, rfl⟩ := Int.eq_ofNat_of_zero_le p9.1
  show wpN _ _ _ _ _ _ _ (Act.put _ _ (.int .i64 n9))
  simp only [Act.put, List.setIfInBounds_toArray, List.set_cons_succ, List.set_cons_zero]
  refine wpN_det rfl rfl rfl (fun K hK => ?_); go_big_quiet_op; first | (refine hK _ ?_; clear hK K) | (refine ⟨_, fun _ => rfl, hK _ ?_⟩; clear hK K)
  refine wpN_nd rfl rfl ?_ (fun x hx11 => ?_)
  · intro m w hm hI hh
    have hl := hh 7 (List.mem_singleton_self 7)
    rw [hx7] at hl
    obtain ⟨z, z0, z1, hc⟩ := LitAt.at_ hl (j := n9) (by omega)
    simp only [Nat.zero_add] at hc
    simp [yields, go_sem, hc]
    exact ⟨⟨z, z0, z1⟩, rfl, trivial, drawI_mono _ _ _ _ _ hI, hkeep (World.grownBy.refl _ _) _⟩
  obtain ⟨r11, p11⟩ := x
  obtain ⟨n11, rfl⟩ := Int.eq_ofNat_of_zero_le p11.1
  show wpN _ _ _ _ _ _ _ (Act.put _ _ (.int .i64 n11))
  simp only [Act.put, List.setIfInBounds_toArray, List.set_cons_succ, List.set_cons_zero]
  refine wpN_det rfl rfl rfl (fun K hK => ?_); go_big_quiet_op; first | (refine hK _ ?_; clear hK K) | (refine ⟨_, fun _ => rfl, hK _ ?_⟩; clear hK K)
  refine wpN_nd rfl rfl ?_ (fun x hx13 => ?_)
  · intro m w hm hI hh
    have hl := hh 6 (List.mem_singleton_self 6)
    rw [hx6] at hl
    obtain ⟨z, z0, z1, hc⟩ := LitAt.at_ hl (j := n11) (by omega)
    simp only [Nat.zero_add] at hc
    simp [yields, go_sem, hc]
    exact ⟨⟨z, z0, z1⟩, rfl, trivial, drawI_mono _ _ _ _ _ hI, hkeep (World.grownBy.refl _ _) _⟩
  obtain ⟨r13, p13⟩ := x
  obtain ⟨n13, rfl⟩ := Int.eq_ofNat_of_zero_le p13.1
  show wpN _ _ _ _ _ _ _ (Act.put _ _ (.int .i64 n13))
  simp only [Act.put, List.setIfInBounds_toArray, List.set_cons_succ, List.set_cons_zero]
  refine wpN_det rfl rfl rfl (fun K hK => ?_); go_big_quiet_op; first | (refine hK _ ?_; clear hK K) | (refine ⟨_, fun _ => rfl, hK _ ?_⟩; clear hK K)
  refine wpN_end (fun w' hI _ => ?_)
  have hr := hI.1
  have hg := hI.2
  simp at hr
  have HR := mkHid hr
  have HG := mkHid hg
  clear hr hg hI h
  go_wp2_with fail
  go_ret
  exact ⟨_, rfl, by omega, HR.out, HG.out⟩
end Go.Proofs.Ytjgmghlgjjfifaa
