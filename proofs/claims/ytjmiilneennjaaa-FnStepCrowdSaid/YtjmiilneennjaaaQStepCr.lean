/-
  Proved: FnStepCrowd returns true for every code.
-/
import Derived.Test.YtjmiilneennjaaaPart35
import Derived.Test.YtjmiilneennjaaaPart38
import Derived.Test.YtjmiilneennjaaaPart30
import Derived.Test.YtjmiilneennjaaaPart27
import Derived.Test.YtjmiilneennjaaaPart03
namespace Go.Proofs.Ytjmiilneennjaaa
open Go.ChangeShapes Go.WideShapes Go.ChangeAt Go.RowKit
set_option maxHeartbeats 2000000
set_option maxRecDepth 100000
set_option linter.unusedVariables false
set_option linter.unusedSimpArgs false

/-! ### the plain law -/
theorem crowd_valid {xs : List Cd} {ss : List LS} {mem : List Int} (h : CrowdOk xs ss mem) : crowdValid xs ss mem = true := by
  unfold crowdValid
  have hl := h.len
  rw [inB_of (by omega) (by omega), h.prog, h.mem]
  simp only [Bool.true_and]
  rw [List.all_eq_true]
  intro s hs
  unfold laneValid
  rw [h.prog, laneOk_iff.2 (h.lanes s hs)]
  rfl
def stuckB (n : Nat) (s : LS) : Bool := s.wait || (s.pc == (n : Int))
theorem stuck_goes {n : Nat} {s : LS} (h : stuckB n s = true) : goesB n s = false := by
  unfold stuckB at h
  unfold goesB
  cases h1 : s.wait with
  | true => rfl
  | false => rw [h1] at h; simp at h; simp [h]
theorem stuck_free {xs : List Cd} {k : Nat} {ss : List LS} {mem : List Int} (h : (stepC xs k ss mem).1.all (stuckB xs.length) = true) : (stepC xs k ss mem).1.any (fun s => s.wait) = false := by
  have h1 : (stepC xs k ss mem).1.any (goesB xs.length) = false := by
    rw [List.any_eq_false]
    intro s hs
    rw [stuck_goes (List.all_eq_true.1 h s hs)]
    simp
  rw [List.any_eq_false]
  intro s hs
  rw [pass_stuck _ _ h1 s hs]
  simp
/-- what a step of a crowd answers, seen from the law. -/
def CrLaw (xs : List Cd) (ss : List LS) (z : Int) (r : List LS × List Int) : Prop :=
  ((1 ≤ ss.length ∧ ss.length ≤ 8) ∧ r.2.length ≤ 32) ∧ (0 ≤ z ∧ z < ss.length) ∧ r.1.length = ss.length ∧ crowdValid xs r.1 r.2 = true ∧ (∀ j : Nat, j < ss.length → (j : Int) ≠ z → (laneAt r.1 j).regs = (laneAt ss j).regs ∧ (laneAt r.1 j).pc = (laneAt ss j).pc) ∧ (r.1.all (stuckB xs.length) = true → r.1.any (fun s => s.wait) = false)
theorem crTo_ways (xs : List Cd) (ss : List LS) (z : Int) (mem : List Int) : crTo xs ss z mem = ([], []) ∨ CrLaw xs ss z (crTo xs ss z mem) := by
  unfold crTo
  cases h : crOk xs ss z mem with
  | false => exact .inl rfl
  | true =>
    right
    obtain ⟨_, h2, h3, h4⟩ := crOk_yes h
    obtain ⟨q, rfl⟩ := Int.eq_ofNat_of_zero_le h3
    have hl := h2.len
    have h5 := stepC_ok h2 (k := q) (by omega)
    rw [if_pos rfl, Int.toNat_natCast]
    exact ⟨⟨hl, (memValid_parts.1 h5.1.mem).1.2⟩, ⟨by omega, by omega⟩, h5.2.1, crowd_valid h5.1, fun j hj hne => stepC_other hj (by omega), fun h => stuck_free h⟩
theorem all_take {α : Type} (p : α → Bool) (xs : List α) (k : Nat) (h : k < xs.length) : (xs.take (k + 1)).all p = ((xs.take k).all p && p xs[k]) := by
  rw [List.take_succ_eq_append_getElem h, List.all_append]; simp
theorem any_take {α : Type} (p : α → Bool) (xs : List α) (k : Nat) (h : k < xs.length) : (xs.take (k + 1)).any p = ((xs.take k).any p || p xs[k]) := by
  rw [List.take_succ_eq_append_getElem h, List.any_append]; simp
/-! ### the walk -/
theorem RetCr.split {ss : List LS} {zs : List Int} {w w' : World} {e : Ending} (h : RetCr ss zs w e w') : ∃ A c, ∃ ls : List Lt, ∃ a d, e = .returned (.agg #[.slice A ls.length c, .slice a zs.length d]) ∧ sts ls = ss ∧ CrAt w' w.heap.size A c ls ⟨a, d, zs⟩ ∧ Below w.heap.size w w' := by
  obtain ⟨A, c, ls, ⟨a, d, zs'⟩, rfl, h1, rfl, h2, h3⟩ := h
  exact ⟨A, c, ls, a, d, rfl, h1, h2, h3⟩
theorem stepCr_walk (A : Option Addr) (c : Nat) (zs : List Int) (w : World) (hl : zs.length ≤ 9223372036854775807) (hcap : zs.length ≤ c) (hs : Sl w A (u8s zs)) (hz : ∀ z ∈ zs, 0 ≤ z ∧ z ≤ 255) :
    Calls Try.prog 6 #[.slice A zs.length c] w fun e w' => e = .returned (.bool true) ∧ Below w.heap.size w w' := by
  by_cases hbig : 1048576 < zs.length
  · go_enter Try.func6, Try.ntmps6
    go_wp2_with fail
    go_ret
    exact ⟨rfl, Below.refl _ _⟩
  · go_enter Try.func6, Try.ntmps6
    go_wp2_with fail
    refine (drawStepCrowd_any _ _ _ _ hl hcap hs hz).mono ?_
    rintro e w1 ⟨A2, a2, ls, m, g, c', ys, z, rfl, hz8, hin⟩
    obtain ⟨o6, ho6⟩ : ∃ o6, o6 = Obj.cells #[.slice A2 ls.length a2, .slice m.a m.zs.length m.c] 32 := ⟨_, rfl⟩
    have hal6 : Below w1.heap.size w1 (w1.alloc o6) := (Below.refl _ _).alloc (Nat.le_refl _) _
    have HI := mkHid (hin.below hal6)
    have hq6 : (w1.alloc o6).heap[w1.heap.size]? = some o6 := heap_alloc_new w1 o6
    have hls8 := hin.sm.1
    have hm34 := hin.sm.2
    have hy := hin.len
    subst ho6
    have HQ := mkHid hq6
    clear hin hal6 hq6 hs hz
    go_upto_region 4 with fail
    generalize w1.alloc (.cells #[.slice A2 ls.length a2, .slice m.a m.zs.length m.c] 32) = W1 at *
    generalize w1.heap.size = X1 at *
    obtain ⟨r, hr⟩ : ∃ r, r = crTo ys (sts ls) z m.zs := ⟨_, rfl⟩
    have HWAY := mkHid (crTo_ways ys (sts ls) z m.zs)
    rw [← hr] at HWAY
    have HC := mkHid (implStepCrowd_any A2 a2 ls m (some ⟨g, 0, none⟩) c' ys z W1 (by omega) (by omega) (by omega) HI.out.code HI.out.grid HI.out.mem)
    have HSP := mkHid (fun X (hX : Below W1.heap.size W1 X) => specStepCrowd_any A2 a2 ls m (some ⟨g, 0, none⟩) c' ys z X (by omega) (by omega) (by omega) (HI.out.code.below hX) (HI.out.grid.below hX) (HI.out.mem.below hX))
    simp only [← hr] at HC HSP
    obtain ⟨p0, p1⟩ := box2t HQ.out
    clear hr
    go_wp2_with fail
    refine HC.out.mono ?_
    rintro e w3 h
    obtain ⟨A3, a3, l3, m3, d3, rfl, hs3, hc3, hb3⟩ := h.split
    obtain ⟨o7, ho7⟩ : ∃ o7, o7 = Obj.cells #[.slice A3 l3.length a3, .slice m3 r.2.length d3] 32 := ⟨_, rfl⟩
    have hal7 : Below w3.heap.size w3 (w3.alloc o7) := (Below.refl _ _).alloc (Nat.le_refl _) _
    have hq7 : (w3.alloc o7).heap[w3.heap.size]? = some o7 := heap_alloc_new w3 o7
    have HB3 := mkHid (below_then hb3 hal7)
    have HC3 := mkHid (hc3.below hal7)
    have HS3 := mkHid hs3
    have HQ3 := mkHid ((HB3.out.block _ (Array.getElem?_eq_some_iff.1 HQ.out).1).trans HQ.out)
    have HM3 : Hid (l3.length ≤ 9223372036854775807 ∧ r.2.length ≤ 9223372036854775807) := mkHid ⟨own_max hc3.1, own_max hc3.mem⟩
    subst ho7
    have HQ7 := mkHid hq7
    clear h hs3 hc3 hb3 hal7 hq7 p0 p1 HC
    obtain ⟨p0, p1⟩ := box2t HQ3.out
    go_upto_region 5 with fail
    generalize w3.alloc (.cells #[.slice A3 l3.length a3, .slice m3 r.2.length d3] 32) = W3 at *
    generalize w3.heap.size = X2 at *
    clear p0 p1
    obtain ⟨p0, p1⟩ := box2t HQ3.out
    obtain ⟨r0, r1⟩ := box2t HQ7.out
    go_wp2_with fail
    go_region_law (first
      | (go_simp
         go_at_call 19
         refine (HSP.out W3.drew (HB3.out.trans ⟨rfl, rfl, rfl, Nat.le_refl _, fun i hi => rfl⟩)).mono ?_
         rintro e w4 h
         obtain ⟨A4, a4, l4, m4, d4, rfl, hs4, hc4, hb4⟩ := h.split
         have hb4 := below_undrew hb4
         have HB4 := mkHid hb4
         have HC34 := mkHid (HC3.out.below hb4)
         have HSM := mkHid (sameCr_same A3 A4 a3 a4 ⟨m3, d3, r.2⟩ ⟨m4, d4, r.2⟩ l3 l4 w4 HM3.out.1 HM3.out.2 (HS3.out.trans hs4.symm) rfl HC34.out.grid' hc4.grid' (Sl.of_own HC34.out.mem) (Sl.of_own hc4.mem))
         obtain ⟨s0, s1⟩ := box2t ((hb4.block _ (Array.getElem?_eq_some_iff.1 HQ7.out).1).trans HQ7.out)
         obtain ⟨t0, t1⟩ := box2t ((hb4.block _ (Array.getElem?_eq_some_iff.1 HQ3.out).1).trans HQ3.out)
         clear h hs4 hc4 hb4)
      | (go_simp
         go_at_call 25
         refine HSM.out.mono ?_
         rintro e w5 ⟨rfl, b5⟩
         have HB5 := mkHid (below_then HB4.out b5)
         clear b5))
    all_goals (
      have HI5 := mkHid (HI.out.below (HB3.out.trans (HB5.out.mono HB3.out.size)))
      have HC5 := mkHid (HC3.out.below HB5.out)
      have HQ5 := mkHid ((HB5.out.block _ (Array.getElem?_eq_some_iff.1 HQ3.out).1).trans HQ3.out)
      have HQ75 := mkHid ((HB5.out.block _ (Array.getElem?_eq_some_iff.1 HQ7.out).1).trans HQ7.out)
      clear p0 p1 r0 r1 s0 s1 t0 t1 HSM HC34 HB4 HSP HC3 HI HQ HQ3 HQ7
      obtain ⟨p0, p1⟩ := box2t HQ5.out
      obtain ⟨r0, r1⟩ := box2t HQ75.out
      rcases HWAY.out with hno | hyes
      · have hl3 : l3 = [] := by
          have h1 := HS3.out
          rw [hno] at h1
          simpa using h1
        subst hl3
        clear hno HWAY
        go_wp2_with fail
        refine (alive_any _).mono ?_
        rintro e w9 ⟨rfl, rfl⟩
        go_wp2_with fail
        go_ret
        exact ⟨rfl, HI5.out.hb⟩
      · obtain ⟨⟨hl18, hr32⟩, hz0, hlen, hcv, hoth, hfree⟩ := hyes
        rw [← HS3.out] at hlen hoth hfree hcv
        obtain ⟨n, hn⟩ : ∃ n, n = ls.length := ⟨_, rfl⟩
        have hn3 : l3.length = n := by rw [hn]; simpa using hlen
        have HN := mkHid hn
        have HN3 := mkHid hn3
        have HOTH : Hid (∀ j (h1 : j < ls.length) (h2 : j < l3.length), (j : Int) ≠ z → (l3[j]'h2).zs = (ls[j]'h1).zs ∧ (l3[j]'h2).at_ = (ls[j]'h1).at_) := mkHid (fun j h1 h2 hne => by
          have h := hoth j (by simpa using h1) hne
          rw [sts_at l3 h2, sts_at ls h1] at h
          exact h)
        have HFREE := mkHid hfree
        have hcvw := fun X (hX : Below w5.heap.size w5 X) => implCrowdValid_any A3 a3 l3 ⟨m3, d3, r.2⟩ (some ⟨g, 0, none⟩) c' ys X (by omega) (by omega) (by simp only; omega) (HI5.out.code.below hX) (HC5.out.below hX).grid' (Sl.of_own (HC5.out.below hX).mem)
        simp only [hcv, hn3] at hcvw
        have HCV := mkHid hcvw
        have HQ5 := mkHid (show w5.heap[X1]? = some (.cells #[.slice A2 n a2, .slice m.a m.zs.length m.c] 32 (0, 0)) by rw [hn]; exact HQ5.out)
        have HQ75 := mkHid (show w5.heap[X2]? = some (.cells #[.slice A3 n a3, .slice m3 r.2.length d3] 32 (0, 0)) by rw [← hn3]; exact HQ75.out)
        have hn18 : 1 ≤ n ∧ n ≤ 8 := by rw [hn]; simpa using hl18
        have HZ0 := mkHid hz0
        clear hl18 hr32 hz0 hlen hcv hoth hfree hcvw HWAY hn hn3 p0 p1 r0 r1
        obtain ⟨p0, p1⟩ := box2t HQ5.out
        obtain ⟨r0, r1⟩ := box2t HQ75.out
        go_wp2_with fail
        clear p0 p1 r0 r1
        go_loopw [7, 8, 9] (fun sv wv iv wr => ∃ k : Nat, k ≤ n ∧ iv = .int .i64 k ∧ (∃ b1 : Bool, sv = .bool b1 ∧ Hid (b1 = ((sts l3).take k).all (stuckB ys.length))) ∧ (∃ b2 : Bool, wv = .bool b2 ∧ Hid (b2 = ((sts l3).take k).any (fun s => s.wait))) ∧ Below w5.heap.size w5 wr) (fun _ _ iv _ => n - (intOf iv).toNat)
        case atStart => exact ⟨0, by omega, rfl, ⟨true, rfl, mkHid (by simp)⟩, ⟨false, rfl, mkHid (by simp)⟩, Below.refl _ _⟩
        case round =>
          obtain ⟨k, hk, rfl, ⟨b1, rfl, HB1⟩, ⟨b2, rfl, HB2⟩, hb⟩ := hrel
          have HBR := mkHid hb
          obtain ⟨p0, p1⟩ := box2t ((hb.block _ (Array.getElem?_eq_some_iff.1 HQ5.out).1).trans HQ5.out)
          obtain ⟨r0, r1⟩ := box2t ((hb.block _ (Array.getElem?_eq_some_iff.1 HQ75.out).1).trans HQ75.out)
          by_cases hlt : k < n
          · have h1 : k < ls.length := by rw [← HN.out]; exact hlt
            have h2 : k < l3.length := by rw [HN3.out]; exact hlt
            have hgr := HI5.out.grid.below hb
            have hg3 := HC5.out.grid'.below hb
            obtain ⟨b, off, hA, e0, e1, e2, e3⟩ := hgr.1.lt h1
            obtain ⟨b', off', hA', g0, g1, g2, g3⟩ := hg3.1.lt h2
            have s1 := (hgr.lane h1).1
            have s2 := (hg3.lane h2).1
            have HO := mkHid (HOTH.out k h1 h2)
            have HA1 : Hid (((sts l3).take (k + 1)).all (stuckB ys.length) = (((sts l3).take k).all (stuckB ys.length) && stuckB ys.length (l3[k]'h2).st)) := mkHid (by rw [all_take _ _ _ (by simpa using h2)]; simp)
            have HA2 : Hid (((sts l3).take (k + 1)).any (fun s => s.wait) = (((sts l3).take k).any (fun s => s.wait) || (l3[k]'h2).wt)) := mkHid (by rw [any_take _ _ _ (by simpa using h2)]; simp)
            generalize l3[k]'h2 = y at *
            generalize ls[k]'h1 = x at *
            obtain ⟨xr, xc, xz, xat, xta, xtc, xts, xw⟩ := x
            obtain ⟨yr, yc, yz, yat, yta, ytc, yts, yw⟩ := y
            simp only at e0 e1 e2 e3 g0 g1 g2 g3 s1 s2 HO HA1 HA2
            subst hA hA'
            have p0 := fun u : Drew wr => u.keeps p0
            have r0 := fun u : Drew wr => u.keeps r0
            have e0 := fun u : Drew wr => u.keeps e0
            have e1 := fun u : Drew wr => u.keeps e1
            have g0 := fun u : Drew wr => u.keeps g0
            have g1 := fun u : Drew wr => u.keeps g1
            have g3 := fun u : Drew wr => u.keeps g3
            clear hb hgr hg3 h1 h2 p1 r1 e2 e3 g2
            by_cases hkz : (k : Int) = z
            · have hne : ((k : Int) != z) = false := by simpa using hkz
              clear hkz s1 s2 HO
              go_wp2_with fail
              refine wp_region_drew (by kernel_rfl) (by kernel_rfl) ?_
              repeat (go_big_quiet_step (fail))
              refine wpQuiet_nil (drew_end fun Y nn hY => ?_)
              have HBY := mkHid (show Below w5.heap.size w5 Y by rw [hY]; exact below_drewN HBR.out nn)
              have r0 : Y.cell? ⟨X2, 0, none⟩ = some (.slice (some ⟨b', off', none⟩) n a3) := r0 ⟨Y, nn, hY⟩
              have g1 : Y.cell? ⟨b', off' + k * 4 + 1, none⟩ = some (.int .i64 yat) := g1 ⟨Y, nn, hY⟩
              have g3 : Y.cell? ⟨b', off' + k * 4 + 3, none⟩ = some (.bool yw) := g3 ⟨Y, nn, hY⟩
              clear p0 e0 e1 g0 hY hne
              cases b1 <;> cases yw <;> cases b2
              all_goals (
                go_wp2_with fail
                go_roundw
                case rel =>
                  refine ⟨k + 1, by omega, by go_num, ⟨_, rfl, mkHid ?_⟩, ⟨_, rfl, mkHid ?_⟩, HBY.out⟩
                  · rw [HA1.out, ← HB1.out]; simp [stuckB]
                  · rw [HA2.out, ← HB2.out]; simp
                case measure => simp [intOf] <;> omega)
            · obtain ⟨rfl, rfl⟩ := HO.out hkz
              have hne : ((k : Int) != z) = true := by simpa using hkz
              have HC := mkHid (fun u : Drew wr => sameInts_same yr xr yc xc yz u.1 s1.2 (u.sl s2.1) (u.sl s1.1))
              clear hkz s1 s2 HO
              go_wp2_with fail
              refine wp_region_drew (by kernel_rfl) (by kernel_rfl) ?_
              repeat (go_big_quiet_step ((go_at_call 26; with_reducible exact drew_call (HC.out _))))
              refine wpQuiet_nil (drew_end fun Y nn hY => ?_)
              have HBY := mkHid (show Below w5.heap.size w5 Y by rw [hY]; exact below_drewN HBR.out nn)
              have r0 : Y.cell? ⟨X2, 0, none⟩ = some (.slice (some ⟨b', off', none⟩) n a3) := r0 ⟨Y, nn, hY⟩
              have g1 : Y.cell? ⟨b', off' + k * 4 + 1, none⟩ = some (.int .i64 yat) := g1 ⟨Y, nn, hY⟩
              have g3 : Y.cell? ⟨b', off' + k * 4 + 3, none⟩ = some (.bool yw) := g3 ⟨Y, nn, hY⟩
              clear p0 e0 e1 g0 hY hne
              cases b1 <;> cases yw <;> cases b2
              all_goals (
                go_wp2_with fail
                go_roundw
                case rel =>
                  refine ⟨k + 1, by omega, by go_num, ⟨_, rfl, mkHid ?_⟩, ⟨_, rfl, mkHid ?_⟩, HBY.out⟩
                  · rw [HA1.out, ← HB1.out]; simp [stuckB]
                  · rw [HA2.out, ← HB2.out]; simp
                case measure => simp [intOf] <;> omega)
          · have hke : k = n := by omega
            subst hke
            have ht : (sts l3).take k = sts l3 := List.take_of_length_le (by rw [← HN3.out]; simp)
            rw [ht] at HB1 HB2
            clear hb hlt hk ht
            cases b1 with
            | false =>
              clear HB2 HFREE
              go_wp2_with fail
              refine (HCV.out _ HBR.out).mono ?_
              rintro e w9 ⟨rfl, b9⟩
              have HB9 := mkHid (HI5.out.hb.trans ((below_then HBR.out b9).mono HI5.out.hb.size))
              clear b9 p0 p1 r0 r1
              go_wp2_with fail
              go_ret
              exact ⟨rfl, HB9.out⟩
            | true =>
              obtain rfl : b2 = false := by rw [HB2.out]; exact HFREE.out HB1.out.symm
              go_wp2_with fail
              refine (HCV.out _ HBR.out).mono ?_
              rintro e w9 ⟨rfl, b9⟩
              have HB9 := mkHid (HI5.out.hb.trans ((below_then HBR.out b9).mono HI5.out.hb.size))
              clear b9 p0 p1 r0 r1
              go_wp2_with fail
              go_ret
              exact ⟨rfl, HB9.out⟩)
namespace fnStepCrowd
set_option maxRecDepth 100000 in
theorem lifted (os : Os) (started : os.Started) (H : Type) (enc : TypeId × Value → H) :
    ReturnsInHanded {} Try.checked os 6 .any (Rows.fnStepCrowdSpec.pre6 enc Try.prog Try.f6 Rows.fnStepCrowdRow.domain false) (Rows.fnStepCrowdSpec.post enc Try.prog Try.f6 false true false false) := by
  refine returnsInHanded_of_change (C := Try.checked) own started (by kernel_rfl) Try.func6
    (ChangeSpec.witness6 (enc := enc) (C := Try.checked) false ⟨#[], #[.slice none 0 0], []⟩ 8 (by kernel_rfl) (by kernel_rfl) (by kernel_rfl) (by kernel_rfl)) ?_
  intro W base args ds gs before hval0 hW hcnd _
  have hval : ∀ (j : Nat) t v, Try.f6.params[j]? = some t → args[j]? = some v → Value.okWide Try.prog W .any base t v := hval0
  have hW' := hW
  obtain ⟨p, q, hA0, hV, rfl, hfz, hnd⟩ := hW
  have hA : DataW.TrodAll enc Try.prog W 0 (fun _ => true) true Try.f6.params.toList args.toList ds p := hA0
  have hAk : DataW.TrodAll enc Try.prog W 0 (fun _ => true) true Try.f6.params.toList args.toList ds p := hA0
  rw [Try.params6] at hA hval
  obtain ⟨v0, vs0, d0, ds0, p0, q0, hargs, rfl, rfl, h0, r0⟩ := trodAll_cons hA
  obtain ⟨rfl, rfl, rfl⟩ := trodAll_nil r0
  obtain rfl : args = #[v0] := by cases args; simp_all
  obtain ⟨rfl, rfl⟩ := trodVars_none hV
  obtain ⟨Azs, czs, zs, rfl, nzs, kzs, szs, wzs⟩ := open_int_slice Try.underlying39 Try.underlying5 (by kernel_rfl) (hval 0 39 v0 rfl rfl) h0
  have wzs : ∀ z ∈ zs, 0 ≤ z ∧ z ≤ 255 := fun z hz => wf_u8_bounds (wzs z hz)
  clear hA0 hval0
  refine (stepCr_walk Azs czs zs W nzs kzs szs wzs).mono fun e W' ⟨he, hb⟩ => ?_
  subst he
  refine ⟨_, rfl, post_true laidOut (fun t ht => ?_) (by kernel_rfl) Try.underlying4 rfl rfl hW' hAk hb⟩
  rw [Try.params6] at ht
  simp only [List.mem_cons, List.not_mem_nil, or_false] at ht
  first | (rcases ht with rfl <;> exact ⟨by kernel_rfl, of_decide_eq_true (by kernel_rfl)⟩) | (obtain rfl := ht; exact ⟨by kernel_rfl, of_decide_eq_true (by kernel_rfl)⟩)
/-- The statement. -/
theorem proved : Rows.FnStepCrowdSaid :=
  OpenClaim.holds_of_wide 6 Try.f6 rfl rfl rfl rfl rfl rfl rfl ⟨rfl, rfl, rfl, rfl, rfl⟩ rfl rfl rfl rfl rfl (by kernel_rfl) Try.func6 (by kernel_rfl)
    (of_decide_eq_true (by kernel_rfl)) (by unfold Func.isWrapper; first | (rw [if_pos (by decide +kernel)]; kernel_rfl) | (rw [if_neg (by decide +kernel)]; exact ⟨rfl, rfl⟩))
    (fun os started H enc _ => lifted os started H enc)
end fnStepCrowd
#print axioms fnStepCrowd.proved
end Go.Proofs.Ytjmiilneennjaaa
