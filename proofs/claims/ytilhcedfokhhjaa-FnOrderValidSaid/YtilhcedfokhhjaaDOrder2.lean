/-
  Contract of the draw DrawOrderValid.
-/
import Derived.Test.YtilhcedfokhhjaaDOrder
namespace Go.Proofs.Ytilhcedfokhhjaa
open Go.RowKit
set_option maxHeartbeats 1000000
set_option linter.unusedVariables false

/-- a list of small numbers in a row of the region's own. -/
def kList (base m : Nat) : Kind := ⟨Nat × Nat × List Int, fun x => .slice (some ⟨x.1, 0, none⟩) x.2.2.length x.2.1, fun x w => w.ownsRow base 3 1 (.slice (some ⟨x.1, 0, none⟩) x.2.2.length x.2.1) x.2.2.length (ints x.2.2) ∧ x.2.2.length ≤ m ∧ ∀ z ∈ x.2.2, smallLane z⟩
theorem kList_ne (base m : Nat) : Nonempty (kList base m).X := ⟨((0 : Nat), (0 : Nat), ([] : List Int))⟩
def regOrder (br N : Nat) (w0 : World) : Reg where
  nd := [2, 7, 9, 11]
  K := fun
    | 2 => kList w0.heap.size 41
    | 7 => kLit w0.heap.size 6 0 9
    | 9 => kInt 0 5
    | 11 => kInt 0 9
    | _ => kNone
  ne := fun i => by
    split <;> first | exact kInt_ne _ _ (by omega) | exact kLit_ne _ _ _ _ | exact kList_ne _ _ | exact ⟨()⟩
  I := fun m w => drawI br N w0 (100 * m) w
  mono := fun m w h => ⟨h.1.mono (by omega), h.2⟩
  hy := fun
    | 11 => [7]
    | _ => []
  kills := fun _ => []
  live := [2]

theorem regOrder_keeps (br N : Nat) (w0 : World) (hlt : br < w0.heap.size) {w w' : World} (hg : w.grownBy w' (some br)) (i : Nat) : (regOrder br N w0).keeps i w w' := by
  intro k hk _ _
  simp only [regOrder, List.mem_cons, List.not_mem_nil, or_false] at hk
  rcases hk with rfl | rfl | rfl | rfl
  all_goals first | exact fun y h => h | exact fun y h => LitAt.grown h hlt hg | exact fun y h => ⟨own_apart h.1 hg (fun g e => by injection e with e; omega), h.2⟩
theorem drawOrderValid_any (A : Option Addr) (c : Nat) (zs : List Int) (w : World) (hl : zs.length ≤ 9223372036854775807) (hcap : zs.length ≤ c) (hs : Sl w A (u8s zs)) (hz : ∀ z ∈ zs, 0 ≤ z ∧ z ≤ 255) :
    Calls Try.prog 13 #[.slice A zs.length c] w fun e w' => ∃ g c' ys, ∃ l : Int, e = .returned (.tuple #[.slice (some ⟨g, 0, none⟩) ys.length c', .int .i64 l]) ∧ Sl w' (some ⟨g, 0, none⟩) (ints ys) ∧ ys.length ≤ 41 ∧ ys.length ≤ c' ∧ (0 ≤ l ∧ l ≤ 9) ∧ (∀ z ∈ ys, smallLane z) ∧ Below w.heap.size w w' := by
  go_enter Try.func13, Try.ntmps13
  go_wp2_with fail
  refine (l20Open_any _ _ _ _ hl hcap hs hz).mono ?_
  rintro e w1 ⟨br, rfl, hbr, r1, b1⟩
  have HB1 := mkHid b1
  clear b1 hs hz
  go_wp2_with fail
  refine (pick_any _ _ _ _ (by omega) r1).mono ?_
  rintro e w2 ⟨q, rfl, q0, q1, r2, g2⟩
  have q1 := q1 (by omega)
  have HB2 := mkHid (HB1.out.grown g2 HB1.out.size (by simpa using hbr))
  clear g2 r1
  obtain ⟨nn, hnn⟩ : ∃ nn, nn = 1 + q := ⟨_, rfl⟩
  have hlt := r2.lt
  have hkeep := @regOrder_keeps br 1 w2 hlt
  go_wp2_with fail
  rw [← hnn]
  have hn1 : 1 ≤ nn ∧ nn ≤ 5 := by omega
  clear hnn q0 q1
  refine wp_region_N (regOrder br 1 w2) (by kernel_rfl) (by kernel_rfl) (by kernel_rfl) (drawI_start r2) (fun xs => ?_)
  refine wpN_det rfl rfl rfl (fun K hK => ?_); go_big_quiet_op; first | (refine hK _ ?_; clear hK K) | (refine ⟨_, fun _ => rfl, hK _ ?_⟩; clear hK K)
  refine wpN_det rfl rfl rfl (fun K hK => ?_); go_big_quiet_op; first | (refine hK _ ?_; clear hK K) | (refine ⟨_, fun _ => rfl, hK _ ?_⟩; clear hK K)
  refine wpN_nd rfl rfl ?_ (fun x hx2 => ?_)
  · intro m w hm hI hh
    simp [yields, go_sem]
    refine (l20Order_any _ _ _ _ _ (by omega) (by omega) (by omega) hI.1).mono ?_
    rintro e w' ⟨g, c', ys, rfl, ho, hy, hd, hr, hg⟩
    exact ⟨_, rfl, ⟨(g, c', ys), rfl, ⟨own_base ho hI.2.size, hy, hd⟩, ⟨hr.mono (by omega), grown_trans hI.2 hg⟩, hkeep hg _⟩⟩
  obtain ⟨g2, c2, ys2⟩ := x
  show wpN _ _ _ _ _ _ _ (Act.put _ _ (.slice (some ⟨g2, 0, none⟩) ys2.length c2))
  simp only [Act.put, List.setIfInBounds_toArray, List.set_cons_succ, List.set_cons_zero]
  refine wpN_det rfl rfl rfl (fun K hK => ?_); go_big_quiet_op; first | (refine hK _ ?_; clear hK K) | (refine ⟨_, fun _ => rfl, hK _ ?_⟩; clear hK K)
  refine wpN_det rfl rfl rfl (fun K hK => ?_); go_big_quiet_op; first | (refine hK _ ?_; clear hK K) | (refine ⟨_, fun _ => rfl, hK _ ?_⟩; clear hK K)
  refine wpN_det rfl rfl rfl (fun K hK => ?_); go_big_quiet_op; first | (refine hK _ ?_; clear hK K) | (refine ⟨_, fun _ => rfl, hK _ ?_⟩; clear hK K)
  refine wpN_det rfl rfl rfl (fun K hK => ?_); go_big_quiet_op; first | (refine hK _ ?_; clear hK K) | (refine ⟨_, fun _ => rfl, hK _ ?_⟩; clear hK K)
  refine wpN_nd rfl rfl ?_ (fun x hx7 => ?_)
  · intro m w hm hI hh
    simp [yields, go_sem]
    exact ⟨(w.heap.size : Nat), rfl, LitAt.new w [nn, nn, nn, nn, 0, 9] _ hI.2.size (by simp <;> omega), (⟨(drawI_alloc hI _).1.mono (by omega), (drawI_alloc hI _).2⟩), hkeep (World.grownBy_alloc _ _ _) _⟩
  obtain ⟨g7, rfl⟩ : ∃ g : Nat, g = x := ⟨x, rfl⟩
  show wpN _ _ _ _ _ _ _ (Act.put _ _ (.slice (some ⟨g7, 0, none⟩) 6 6))
  simp only [Act.put, List.setIfInBounds_toArray, List.set_cons_succ, List.set_cons_zero]
  refine wpN_det rfl rfl rfl (fun K hK => ?_); go_big_quiet_op; first | (refine hK _ ?_; clear hK K) | (refine ⟨_, fun _ => rfl, hK _ ?_⟩; clear hK K)
  refine wpN_nd rfl rfl ?_ (fun x hx9 => ?_)
  · intro m w hm hI hh
    simp [yields, go_sem]
    refine (pick_any _ _ _ _ (by omega) hI.1).mono ?_
    rintro e w' ⟨r, rfl, h0, h1, hr, hg⟩
    exact ⟨_, rfl, ⟨r, h0, by omega⟩, rfl, trivial, (⟨(drawI_pick hI hr hg).1.mono (by omega), (drawI_pick hI hr hg).2⟩), hkeep hg _⟩
  obtain ⟨r9, p9⟩ := x
  obtain ⟨n9, rfl⟩ := Int.eq_ofNat_of_zero_le p9.1
  show wpN _ _ _ _ _ _ _ (Act.put _ _ (.int .i64 n9))
  simp only [Act.put, List.setIfInBounds_toArray, List.set_cons_succ, List.set_cons_zero]
  refine wpN_det rfl rfl rfl (fun K hK => ?_); go_big_quiet_op; first | (refine hK _ ?_; clear hK K) | (refine ⟨_, fun _ => rfl, hK _ ?_⟩; clear hK K)
  refine wpN_nd rfl rfl ?_ (fun x hx11 => ?_)
  · intro m w hm hI hh
    have hl := hh 7 (List.mem_singleton_self 7)
    rw [hx7] at hl
    obtain ⟨z, z0, z1, hc⟩ := LitAt.at_ hl (j := n9) (by omega)
    simp only [Nat.zero_add] at hc
    simp [yields, go_sem, hc]
    exact ⟨⟨z, z0, z1⟩, rfl, trivial, (⟨hI.1.mono (by omega), hI.2⟩), hkeep (World.grownBy.refl _ _) _⟩
  obtain ⟨r11, p11⟩ := x
  obtain ⟨n11, rfl⟩ := Int.eq_ofNat_of_zero_le p11.1
  show wpN _ _ _ _ _ _ _ (Act.put _ _ (.int .i64 n11))
  simp only [Act.put, List.setIfInBounds_toArray, List.set_cons_succ, List.set_cons_zero]
  refine wpN_det rfl rfl rfl (fun K hK => ?_); go_big_quiet_op; first | (refine hK _ ?_; clear hK K) | (refine ⟨_, fun _ => rfl, hK _ ?_⟩; clear hK K)
  refine wpN_det rfl rfl rfl (fun K hK => ?_); go_big_quiet_op; first | (refine hK _ ?_; clear hK K) | (refine ⟨_, fun _ => rfl, hK _ ?_⟩; clear hK K)
  refine wpN_end (fun w' hI hV => ?_)
  have hlv := hV 2 (List.mem_singleton_self 2)
  rw [hx2] at hlv
  obtain ⟨ho, hy, hd⟩ := hlv
  simp only at ho hy hd
  have HS := mkHid (Sl.of_own ho)
  have HC := own_cap ho
  have HD := mkHid hd
  have HB3 := mkHid (HB2.out.grown hI.2 HB2.out.size (by simpa using hbr))
  clear hI ho hd hV
  go_wp2_with fail
  go_ret2
  exact ⟨g2, c2, ys2, _, rfl, HS.out, hy, HC, by omega, HD.out, HB3.out⟩
end Go.Proofs.Ytilhcedfokhhjaa
