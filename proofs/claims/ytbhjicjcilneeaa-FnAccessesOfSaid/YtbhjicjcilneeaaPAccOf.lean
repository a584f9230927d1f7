/-
  Proved: FnAccessesOf returns true for every code.
-/
import Derived.Test.YtbhjicjcilneeaaCDel2
import Derived.Test.YtbhjicjcilneeaaDAccs
import Derived.Test.YtbhjicjcilneeaaLibDrew
import Derived.Test.YtbhjicjcilneeaaCNum
import Derived.Test.YtbhjicjcilneeaaFrame
import Derived.Laws.StructEq
namespace Go.Proofs.Ytbhjicjcilneeaa
open Go.ChangeShapes Go.WideShapes Go.ChangeAt Go.RowKit
set_option maxHeartbeats 2000000
set_option linter.unusedVariables false

theorem run_neq_acc (a : Acc) (w : World) : (binOp .neq 35 (accV a) (accV a)).run Try.prog w = .ok (.bool false) w := by
  have hp : Try.prog.stoodInHeld 35 = false := by kernel_rfl
  have ht : Try.prog.underlying 35 = some (.struct (Try.prog.fieldsOf 35)) := by simp [Program.fieldsOf, Try.underlying35]
  rw [run_neq_struct, run_equalIn_agg w 9999 35 _ _ ht hp]
  simp [Program.fieldsOf, Try.underlying35, Op.eqFields, go_sem, Try.underlying3, Try.underlying4]
theorem sameAccesses_same (A B : Option Addr) (c d : Nat) (xs : List Acc) (w : World) (hl : xs.length ≤ 1000000000) (hx : Sl w A (flat xs)) (hy : Sl w B (flat xs)) :
    Calls Try.prog 18 #[.slice A xs.length c, .slice B xs.length d] w fun e w' => e = .returned (.bool true) ∧ ∃ k, w' = w.drewN k := by
  have hm : Try.prog.eqGuardType Try.prog.depth 35 = false := by kernel_rfl
  go_enter Try.func18, Try.ntmps18
  go_wp2_with fail
  go_loopw [5] (fun i wr => ∃ k : Nat, k ≤ xs.length ∧ i = .int .i64 k ∧ ∃ n, wr = w.drewN n) (fun i _ => xs.length - (intOf i).toNat)
  case atStart => exact ⟨0, by omega, rfl, 0, rfl⟩
  case round =>
    obtain ⟨k, hk, rfl, n, rfl⟩ := hrel
    by_cases hlt : k < xs.length
    · obtain ⟨b, off, rfl, h0, h1, h2, h3⟩ := hx.acc hlt
      obtain ⟨b', off', rfl, g0, g1, g2, g3⟩ := hy.acc hlt
      obtain ⟨x, hxk⟩ : ∃ x, x = xs[k] := ⟨_, rfl⟩
      rw [← hxk] at h0 h1 h2 h3 g0 g1 g2 g3
      have hq : ∀ w, _ := fun w => run_neq_acc x w
      obtain ⟨x0, x1, x2, x3⟩ := x
      simp only at h0 h1 h2 h3 g0 g1 g2 g3
      simp only [accV] at hq
      generalize hX : w.drewN n = X
      have e0 := fun u : Drew X => u.keeps (show X.cell? _ = _ from by rw [← hX]; exact h0)
      have e1 := fun u : Drew X => u.keeps (show X.cell? _ = _ from by rw [← hX]; exact h1)
      have e2 := fun u : Drew X => u.keeps (show X.cell? _ = _ from by rw [← hX]; exact h2)
      have e3 := fun u : Drew X => u.keeps (show X.cell? _ = _ from by rw [← hX]; exact h3)
      have d0 := fun u : Drew X => u.keeps (show X.cell? _ = _ from by rw [← hX]; exact g0)
      have d1 := fun u : Drew X => u.keeps (show X.cell? _ = _ from by rw [← hX]; exact g1)
      have d2 := fun u : Drew X => u.keeps (show X.cell? _ = _ from by rw [← hX]; exact g2)
      have d3 := fun u : Drew X => u.keeps (show X.cell? _ = _ from by rw [← hX]; exact g3)
      have HX := mkHid hX
      clear hX h0 h1 h2 h3 g0 g1 g2 g3 hxk hx hy
      go_wp2_with fail
      refine wp_region_drew (by kernel_rfl) (by kernel_rfl) ?_
      repeat (go_big_quiet_step (fail))
      refine wpQuiet_nil (drew_end fun Y m hY => ?_)
      clear e0 e1 e2 e3 d0 d1 d2 d3 hq
      subst hY
      have hX := HX.out
      subst hX
      go_wp2_with fail
      go_roundw
      case rel => exact ⟨k + 1, by omega, by go_num, _, by first | rfl | exact World.drewN_drewN _ _ _⟩
      case measure => simp [intOf] <;> omega
    · go_wp2_with fail
      go_ret
      exact ⟨rfl, n, rfl⟩
theorem drawAccessesOf_any (A : Option Addr) (c : Nat) (zs : List Int) (w : World) (hl : zs.length ≤ 9223372036854775807) (hcap : zs.length ≤ c) (hs : Sl w A (u8s zs)) (hz : ∀ z ∈ zs, 0 ≤ z ∧ z ≤ 255) :
    Calls Try.prog 16 #[.slice A zs.length c] w fun e w' => ∃ A' c' xs, ∃ l : Int, e = .returned (.tuple #[.slice A' xs.length c', .int .i64 l]) ∧ Sl w' A' (flat xs) ∧ xs.length ≤ 9 ∧ (0 ≤ l ∧ l ≤ 3) ∧ (∀ a ∈ xs, DrawnAcc a) ∧ Below w.heap.size w w' := by
  go_enter Try.func16, Try.ntmps16
  go_wp2_with fail
  refine (l20Open_any _ _ _ _ hl hcap hs hz).mono ?_
  rintro e w1 ⟨br, rfl, hbr, r1, b1⟩
  go_wp2_with fail
  refine (l20Accesses_any _ _ _ (by omega) r1).mono ?_
  rintro e w2 ⟨A2, c2, xs, rfl, o2, hx, hd, r2, g2⟩
  have HD := mkHid hd
  have HO := mkHid o2
  have HB := mkHid (b1.grown g2 b1.size (by simpa using hbr))
  have hbl := r1.lt
  clear hd o2 g2 r1 b1 hs hz
  go_wp2_with fail
  refine (pick_any _ _ _ _ (by omega) r2).mono ?_
  rintro e w3 ⟨q, rfl, q0, q1, r3, g3⟩
  have q1 := q1 (by omega)
  have HO3 := mkHid (own_grown HO.out g3 (fun g e => by have := (HO.out.lt g e).1; omega))
  have HB3 := mkHid (HB.out.grown g3 HB.out.size (by simpa using hbr))
  clear g3 r3 r2
  go_wp2_with fail
  go_ret2
  exact ⟨A2, c2, xs, q, rfl, Sl.of_own HO3.out, hx, by omega, HD.out, HB3.out⟩
theorem ofLane_at (xs : List Acc) (l : Int) (k : Nat) (h : k < xs.length) (he : (xs[k].who == l) = true) : ∃ h' : (ofLane (xs.take k) l).length < (ofLane xs l).length, (ofLane xs l)[(ofLane (xs.take k) l).length] = xs[k] := by
  have h1 : ofLane xs l = ofLane (xs.take k) l ++ xs[k] :: ofLane (xs.drop (k + 1)) l := by
    have h2 : xs = xs.take k ++ xs[k] :: xs.drop (k + 1) := by rw [← List.drop_eq_getElem_cons h, List.take_append_drop]
    have h3 : ofLane xs l = ofLane (xs.take k ++ xs[k] :: xs.drop (k + 1)) l := by rw [← h2]
    rw [h3]
    unfold ofLane
    rw [List.filter_append, List.filter_cons, if_pos he]
  have h2 : (ofLane (xs.take k) l).length < (ofLane xs l).length := by rw [h1]; simp
  refine ⟨h2, ?_⟩
  have h3 : (ofLane xs l)[(ofLane (xs.take k) l).length]? = some xs[k] := by
    rw [h1, List.getElem?_append_right (Nat.le_refl _), Nat.sub_self]; rfl
  exact Option.some.inj ((List.getElem?_eq_getElem h2).symm.trans h3)
def laneSum (xs : List Acc) (n : Nat) : Nat := ((List.range n).map fun i : Nat => (ofLane xs i).length).sum
theorem laneSum_succ (xs : List Acc) (n : Nat) : laneSum xs (n + 1) = laneSum xs n + (ofLane xs n).length := by simp [laneSum, List.range_succ]
theorem laneSum_list (xs : List Acc) : laneSum xs 4 = (ofLane xs 0).length + (ofLane xs 1).length + (ofLane xs 2).length + (ofLane xs 3).length := by
  rw [laneSum_succ, laneSum_succ, laneSum_succ, laneSum_succ]
  simp [laneSum]
theorem laneSum_four (xs : List Acc) (h : ∀ a ∈ xs, DrawnAcc a) : laneSum xs 4 = xs.length := by
  induction xs with
  | nil => rfl
  | cons x xs ih =>
    have h1 := ih fun a ha => h a (List.mem_cons_of_mem _ ha)
    have h2 := (h x (List.mem_cons_self ..)).1
    have h3 : x.who = 0 ∨ x.who = 1 ∨ x.who = 2 := by omega
    rw [laneSum_list] at h1 ⊢
    unfold ofLane at *
    rcases h3 with h3 | h3 | h3 <;> simp [List.filter_cons, h3] <;> omega
theorem of_walk (A : Option Addr) (c : Nat) (zs : List Int) (w : World) (hl : zs.length ≤ 9223372036854775807) (hcap : zs.length ≤ c) (hs : Sl w A (u8s zs)) (hz : ∀ z ∈ zs, 0 ≤ z ∧ z ≤ 255) :
    Calls Try.prog 4 #[.slice A zs.length c] w fun e w' => e = .returned (.bool true) ∧ Below w.heap.size w w' := by
  have hmm : Try.prog.eqGuardType Try.prog.depth 35 = false := by kernel_rfl
  by_cases hbig : 1048576 < zs.length
  · go_enter Try.func4, Try.ntmps4
    go_wp2_with fail
    go_ret
    exact ⟨rfl, Below.refl _ _⟩
  · go_enter Try.func4, Try.ntmps4
    go_wp2_with fail
    refine (drawAccessesOf_any _ _ _ _ hl hcap hs hz).mono ?_
    rintro e w1 ⟨A1, c1, xs, l, rfl, s1, hx, hlb, hd, b1⟩
    clear hs hz
    have S1 := mkHid s1
    have B1 := mkHid b1
    have HSUM := mkHid (laneSum_four xs hd)
    clear s1 b1 hd
    obtain ⟨ys, hys⟩ : ∃ ys, ys = ofLane xs l := ⟨_, rfl⟩
    have HY := mkHid hys
    have hyl : ys.length ≤ xs.length := by rw [hys]; exact ofLane_le _ _
    clear hys
    go_wp2_with fail
    refine (implAccessesOf_any _ _ _ _ _ (by omega) S1.out).mono ?_
    rw [← HY.out]
    rintro e w2 ⟨A2, c2, rfl, o2, b2⟩
    have S2 := mkHid (Sl.of_own o2)
    have SX2 := mkHid (S1.out.below b2)
    have B2 := mkHid (below_then B1.out b2)
    clear o2 b2
    go_wp2_with fail
    refine (specAccessesOf_any _ _ _ _ _ (by omega) SX2.out).mono ?_
    rw [← HY.out]
    rintro e w3 ⟨A3, c3, rfl, o3, b3⟩
    have S33 := mkHid (Sl.of_own o3)
    have S3 := mkHid (S2.out.below b3)
    have SX3 := mkHid (SX2.out.below b3)
    have B3 := mkHid (below_then B2.out b3)
    clear o3 b3
    go_wp2_with fail
    refine (sameAccesses_same _ _ _ _ _ _ (by omega) S3.out S33.out).mono ?_
    rintro e w4 ⟨rfl, k4, rfl⟩
    have S4 := mkHid (S3.out.drewN k4)
    have SX4 := mkHid (SX3.out.drewN k4)
    have B4 := mkHid (below_drewN B3.out k4)
    generalize w3.drewN k4 = w4 at *
    clear S33
    go_wp2_with fail
    go_loopw [6, 7] (fun v i wr => ∃ k : Nat, k ≤ xs.length ∧ i = .int .i64 k ∧ ∃ m : Nat, v = .int .i64 m ∧ m ≤ k ∧ Hid (m = (ofLane (xs.take k) l).length) ∧ ∃ q, wr = w4.drewN q) (fun _ i _ => xs.length - (intOf i).toNat)
    case atStart => exact ⟨0, by omega, rfl, 0, rfl, by omega, mkHid rfl, 0, rfl⟩
    case round =>
      obtain ⟨k, hk, rfl, m, rfl, hmk, HM, q, rfl⟩ := hrel
      by_cases hlt : k < xs.length
      · obtain ⟨b, off, rfl, h0, h1, h2, h3⟩ := SX4.out.acc hlt
        have HT := mkHid (ofLane_take xs l k hlt)
        cases hq : xs[k].who == l with
        | false =>
          rw [hq] at HT
          have h0' : (w4.drewN q).cell? ⟨b, off + k * 4, none⟩ = some (.int .i64 xs[k].who) := h0
          generalize xs[k].who = x0 at *
          clear h1 h2 h3
          have HE := mkHid hq
          go_wp2_with fail
          go_roundw
          case rel => exact ⟨k + 1, by omega, by go_num, m, rfl, by omega, mkHid (by rw [HT.out]; simpa using HM.out), q, rfl⟩
          case measure => simp [intOf] <;> omega
        | true =>
          obtain ⟨hml, hme⟩ := ofLane_at xs l k hlt hq
          rw [hq] at HT
          have hml' : m < ys.length := by rw [HY.out, HM.out]; exact hml
          have hye : ys[m] = xs[k] := by
            have h5 : ys[m]? = some xs[k] := by rw [HY.out, HM.out, ← hme]; exact List.getElem?_eq_getElem hml
            exact Option.some.inj ((List.getElem?_eq_getElem hml').symm.trans h5)
          obtain ⟨b', off', rfl, g0, g1, g2, g3⟩ := S4.out.acc hml'
          rw [hye] at g0 g1 g2 g3
          obtain ⟨x, hxk⟩ : ∃ x, x = xs[k] := ⟨_, rfl⟩
          rw [← hxk] at h0 h1 h2 h3 g0 g1 g2 g3 hq
          have hne : ∀ w, _ := fun w => run_neq_acc x w
          obtain ⟨x0, x1, x2, x3⟩ := x
          simp only at h0 h1 h2 h3 g0 g1 g2 g3 hq
          simp only [accV] at hne
          have hgi : ¬ ys.length ≤ m := by omega
          have hgi2 : ¬ (ys.length : Int) ≤ (m : Int) := by omega
          generalize hX : w4.drewN q = X
          have h0' : X.cell? ⟨b, off + k * 4, none⟩ = some (.int .i64 x0) := by rw [← hX]; exact h0
          have e0 := fun u : Drew X => u.keeps (show X.cell? _ = _ from by rw [← hX]; exact h0)
          have e1 := fun u : Drew X => u.keeps (show X.cell? _ = _ from by rw [← hX]; exact h1)
          have e2 := fun u : Drew X => u.keeps (show X.cell? _ = _ from by rw [← hX]; exact h2)
          have e3 := fun u : Drew X => u.keeps (show X.cell? _ = _ from by rw [← hX]; exact h3)
          have d0 := fun u : Drew X => u.keeps (show X.cell? _ = _ from by rw [← hX]; exact g0)
          have d1 := fun u : Drew X => u.keeps (show X.cell? _ = _ from by rw [← hX]; exact g1)
          have d2 := fun u : Drew X => u.keeps (show X.cell? _ = _ from by rw [← hX]; exact g2)
          have d3 := fun u : Drew X => u.keeps (show X.cell? _ = _ from by rw [← hX]; exact g3)
          have HX := mkHid hX
          have HQ := mkHid hq
          clear hX h0 h1 h2 h3 g0 g1 g2 g3 hxk hye hme hml
          go_wp2_with fail
          have n1 : ¬ ys.length ≤ m := by omega
          have n2 : ¬ (ys.length : Int) ≤ (m : Int) := by omega
          refine wp_region_drew (by kernel_rfl) (by kernel_rfl) ?_
          repeat (go_big_quiet_step (fail))
          refine wpQuiet_nil (drew_end fun Y m' hY => ?_)
          clear e0 e1 e2 e3 d0 d1 d2 d3 hne h0'
          subst hY
          have hX := HX.out
          subst hX
          go_wp2_with fail
          go_roundw
          case rel => exact ⟨k + 1, by omega, by go_num, m + 1, by go_num, by omega, mkHid (by rw [HT.out]; simpa using HM.out), _, by first | rfl | exact World.drewN_drewN _ _ _⟩
          case measure => simp [intOf] <;> omega
      · have hme : m = ys.length := by have := HM.out; rwa [List.take_of_length_le (by omega), ← HY.out] at this
        have BQ := mkHid (below_drewN B4.out q)
        have SXQ := mkHid (SX4.out.drewN q)
        generalize w4.drewN q = w5 at *
        clear HM
        subst hme
        go_wp2_with fail
        go_loopw [8, 9] (fun v i wr => ∃ n : Nat, n ≤ 4 ∧ i = .int .i64 n ∧ ∃ t : Nat, v = .int .i64 t ∧ t ≤ n * 9 ∧ Hid (t = laneSum xs n) ∧ Below w5.heap.size w5 wr) (fun _ i _ => 5 - (intOf i).toNat)
        case atStart => exact ⟨0, by omega, rfl, 0, rfl, by omega, mkHid rfl, Below.refl _ _⟩
        case round =>
          obtain ⟨n, hn, rfl, t, rfl, htn, HTT, hb⟩ := hrel
          by_cases hn4 : n ≤ 3
          · have HB := mkHid hb
            have hC := implAccessesOf_any A1 c1 xs n wr (by omega) (SXQ.out.below hb)
            have HC := mkHid hC
            have HS := mkHid (laneSum_succ xs n)
            have hol := ofLane_le xs n
            clear hb hC
            go_wp2_with fail
            refine HC.out.mono ?_
            rintro e w6 ⟨A6, c6, rfl, o6, b6⟩
            have HB6 := mkHid (below_then HB.out b6)
            clear o6 b6
            generalize hol' : (ofLane xs n).length = ol at *
            go_wp2_with fail
            go_roundw
            case rel => exact ⟨n + 1, by omega, by go_num, t + ol, by go_num, by omega, mkHid (by rw [HS.out, HTT.out]), HB6.out⟩
            case measure => simp [intOf] <;> omega
          · have hte : t = xs.length := by
              have h4 : n = 4 := by omega
              have := HTT.out
              rw [h4, HSUM.out] at this
              exact this
            have HB := mkHid (below_then BQ.out hb)
            subst hte
            clear hb HTT
            go_wp2_with fail
            refine (alive_any _).mono ?_
            rintro e w9 ⟨rfl, rfl⟩
            go_wp2_with fail
            go_ret
            exact ⟨rfl, HB.out⟩
namespace fnAccessesOf
set_option maxRecDepth 100000 in
theorem lifted (os : Os) (started : os.Started) (H : Type) (enc : TypeId × Value → H) :
    ReturnsInHanded {} Try.checked os 4 .any (Rows.fnAccessesOfSpec.pre6 enc Try.prog Try.f4 Rows.fnAccessesOfRow.domain false) (Rows.fnAccessesOfSpec.post enc Try.prog Try.f4 false true false false) := by
  refine returnsInHanded_of_change (C := Try.checked) own started (by kernel_rfl) Try.func4
    (ChangeSpec.witness6 (enc := enc) (C := Try.checked) false ⟨#[], #[.slice none 0 0], []⟩ 8 (by kernel_rfl) (by kernel_rfl) (by kernel_rfl) (by kernel_rfl)) ?_
  intro W base args ds gs before hval0 hW hcnd _
  have hval : ∀ (j : Nat) t v, Try.f4.params[j]? = some t → args[j]? = some v → Value.okWide Try.prog W .any base t v := hval0
  have hW' := hW
  obtain ⟨p, q, hA0, hV, rfl, hfz, hnd⟩ := hW
  have hA : DataW.TrodAll enc Try.prog W 0 (fun _ => true) true Try.f4.params.toList args.toList ds p := hA0
  have hAk : DataW.TrodAll enc Try.prog W 0 (fun _ => true) true Try.f4.params.toList args.toList ds p := hA0
  rw [Try.params4] at hA hval
  obtain ⟨v0, vs0, d0, ds0, p0, q0, hargs, rfl, rfl, h0, r0⟩ := trodAll_cons hA
  obtain ⟨rfl, rfl, rfl⟩ := trodAll_nil r0
  obtain rfl : args = #[v0] := by cases args; simp_all
  obtain ⟨rfl, rfl⟩ := trodVars_none hV
  obtain ⟨Azs, czs, zs, rfl, nzs, kzs, szs, wzs⟩ := open_int_slice Try.underlying30 Try.underlying5 (by kernel_rfl) (hval 0 30 v0 rfl rfl) h0
  have wzs : ∀ z ∈ zs, 0 ≤ z ∧ z ≤ 255 := fun z hz => wf_u8_bounds (wzs z hz)
  clear hA0 hval0
  refine (of_walk Azs czs zs W nzs kzs szs wzs).mono fun e W' ⟨he, hb⟩ => ?_
  subst he
  refine ⟨_, rfl, post_true laidOut (fun t ht => ?_) (by kernel_rfl) Try.underlying4 rfl rfl hW' hAk hb⟩
  rw [Try.params4] at ht
  simp only [List.mem_cons, List.not_mem_nil, or_false] at ht
  first | (rcases ht with rfl <;> exact ⟨by kernel_rfl, of_decide_eq_true (by kernel_rfl)⟩) | (obtain rfl := ht; exact ⟨by kernel_rfl, of_decide_eq_true (by kernel_rfl)⟩)
/-- The statement. -/
theorem proved : Rows.FnAccessesOfSaid :=
  OpenClaim.holds_of_wide 4 Try.f4 rfl rfl rfl rfl rfl rfl rfl ⟨rfl, rfl, rfl, rfl, rfl⟩ rfl rfl rfl rfl rfl (by kernel_rfl) Try.func4 (by kernel_rfl)
    (of_decide_eq_true (by kernel_rfl)) (by unfold Func.isWrapper; first | (rw [if_pos (by decide +kernel)]; kernel_rfl) | (rw [if_neg (by decide +kernel)]; exact ⟨rfl, rfl⟩))
    (fun os started H enc _ => lifted os started H enc)
end fnAccessesOf
#print axioms fnAccessesOf.proved
end Go.Proofs.Ytbhjicjcilneeaa
