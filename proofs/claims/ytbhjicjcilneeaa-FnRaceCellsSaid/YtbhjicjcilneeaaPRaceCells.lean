/-
  Proved: FnRaceCells returns true for every code.
-/
import Derived.Test.YtbhjicjcilneeaaDList
import Derived.Test.YtbhjicjcilneeaaCSpecRace
import Derived.Test.YtbhjicjcilneeaaCCells
import Derived.Test.YtbhjicjcilneeaaCSame
import Derived.Test.YtbhjicjcilneeaaFrame
import Derived.Test.YtbhjicjcilneeaaCNum
namespace Go.Proofs.Ytbhjicjcilneeaa
open Go.ChangeShapes Go.WideShapes Go.ChangeAt Go.RowKit
set_option maxHeartbeats 1000000
set_option linter.unusedVariables false

def memB (ys : List Int) (z : Int) : Bool := ys.any fun y => y == z
theorem memB_succ (ys : List Int) (z : Int) (j : Nat) (h : j < ys.length) : memB (ys.take (j + 1)) z = (memB (ys.take j) z || ys[j] == z) := by
  unfold memB
  rw [List.take_succ_eq_append_getElem h, List.any_append]
  simp
theorem memB_mem {ys : List Int} {z : Int} (h : z ∈ ys) : memB ys z = true := by
  unfold memB
  rw [List.any_eq_true]
  exact ⟨z, h, by simp⟩
theorem nodup_le : ∀ (a b : List Int), a.Nodup → (∀ z ∈ a, z ∈ b) → a.length ≤ b.length
  | [], b, _, _ => by simp
  | x :: a, b, hn, hs => by
    rw [List.nodup_cons] at hn
    have hx : x ∈ b := hs x (List.mem_cons_self ..)
    have h1 := nodup_le a (b.erase x) hn.2 (fun z hz => (List.mem_erase_of_ne (fun e => hn.1 (by rw [← e]; exact hz))).2 (hs z (List.mem_cons_of_mem _ hz)))
    rw [List.length_erase_of_mem hx] at h1
    have : 0 < b.length := List.length_pos_of_mem hx
    simp only [List.length_cons]
    omega
theorem up_nodup {a : List Int} (h : Up a) : a.Nodup := List.Pairwise.imp (fun {x y} (hxy : x < y) => by intro e; omega) h
theorem race_written (xs : List Acc) (k : Nat) (hk : k ≤ xs.length) (z : Int) (h : z ∈ raceUpto xs k) : z ∈ writtenCells xs := by
  induction k with
  | zero => simp [raceUpto] at h
  | succ k ih =>
    have hlt : k < xs.length := by omega
    rw [raceUpto_succ xs k hlt, List.mem_append] at h
    rcases h with h | h
    · exact ih (by omega) h
    · split at h
      · rename_i hh
        simp only [List.mem_singleton] at h
        subst h
        unfold hits at hh
        rw [List.any_eq_true] at hh
        obtain ⟨a, ha, hc⟩ := hh
        have hcell := clash_cell hc
        simp [clash] at hc
        unfold writtenCells
        rw [List.mem_map]
        rcases hc.2 with hw | hw
        · exact ⟨a, by rw [List.mem_filter]; exact ⟨List.mem_of_mem_take ha, hw⟩, hcell⟩
        · exact ⟨xs[k], by rw [List.mem_filter]; exact ⟨List.getElem_mem hlt, hw⟩, rfl⟩
      · cases h
theorem hits_take (xs : List Acc) (m k : Nat) (hk : k ≤ m) (b : Acc) : hits (xs.take m) k b = hits xs k b := by
  unfold hits
  rw [List.take_take, Nat.min_eq_left hk]
theorem raceUpto_take (xs : List Acc) (m k : Nat) (hk : k ≤ m) (hm : m ≤ xs.length) : raceUpto (xs.take m) k = raceUpto xs k := by
  induction k with
  | zero => rfl
  | succ k ih =>
    rw [raceUpto_succ (xs.take m) k (by simp; omega), raceUpto_succ xs k (by omega), ih (by omega), List.getElem_take, hits_take xs m k (by omega)]
theorem raceUpto_sub (xs : List Acc) (k n : Nat) (hk : k ≤ n) (hn : n ≤ xs.length) (z : Int) (h : z ∈ raceUpto xs k) : z ∈ raceUpto xs n := by
  induction n with
  | zero =>
    have : k = 0 := by omega
    subst this; exact h
  | succ n ih =>
    by_cases e : k = n + 1
    · subst e; exact h
    · rw [raceUpto_succ xs n (by omega), List.mem_append]
      exact .inl (ih (by omega) (by omega))
theorem race_half (xs : List Acc) (m : Nat) (hm : m ≤ xs.length) : (asc (raceUpto (xs.take m) m)).length ≤ (asc (raceUpto xs xs.length)).length := by
  refine nodup_le _ _ (up_nodup (asc_spec _).1) (fun z hz => ?_)
  rw [(asc_spec _).2] at hz ⊢
  rw [raceUpto_take xs m m (Nat.le_refl _) hm] at hz
  exact raceUpto_sub xs m _ hm (Nat.le_refl _) z hz
theorem raceUpto_free' (xs : List Acc) (h : Free xs xs.length) (k : Nat) (hk : k ≤ xs.length) : raceUpto xs k = [] := by
  induction k with
  | zero => rfl
  | succ k ih =>
    rw [raceUpto_succ xs k (by omega), ih (by omega), if_neg]
    · rfl
    · intro hh
      unfold hits at hh
      rw [List.any_eq_true] at hh
      obtain ⟨a, ha, hc⟩ := hh
      obtain ⟨i, hi, rfl⟩ := List.mem_iff_getElem.1 ha
      have hi' : i < k := by have := List.length_take_le k xs; omega
      have := h k (by omega) i hi' xs[i] xs[k] (List.getElem?_eq_getElem (by omega)) (List.getElem?_eq_getElem (by omega))
      rw [List.getElem_take] at hc
      rw [hc] at this
      cases this
theorem race_found {xs : List Acc} {i j : Int} {f : Bool} (h : Race xs i j f) : decide ((0 : Int) < ((asc (raceUpto xs xs.length)).length : Int)) = f := by
  rcases h with ⟨rfl, n, m, rfl, rfl, hnm, hm, hF, hA, a, b, ha, hb, hc⟩ | ⟨rfl, rfl, rfl, hF⟩
  · have hmem : xs[m].cell ∈ raceUpto xs xs.length := by
      refine raceUpto_sub xs (m + 1) _ (by omega) (Nat.le_refl _) _ ?_
      rw [raceUpto_succ xs m hm, List.mem_append]
      right
      have : hits xs m xs[m] = true := by
        unfold hits
        rw [List.any_eq_true]
        refine ⟨a, ?_, ?_⟩
        · rw [List.mem_iff_getElem?]
          exact ⟨n, by rw [List.getElem?_take, if_pos hnm]; exact ha⟩
        · have : b = xs[m] := by
            rw [List.getElem?_eq_getElem hm] at hb; injection hb with hb; exact hb.symm
          rw [← this]; exact hc
      rw [if_pos this]; simp
    have hm2 := ((asc_spec _).2 _).2 hmem
    have := List.length_pos_of_mem hm2
    simp; omega
  · rw [raceUpto_free' xs hF _ (Nat.le_refl _), asc_nil]
    simp
theorem flat_take (xs : List Acc) (m : Nat) : flat (xs.take m) = (flat xs).take (m * 4) := by
  induction m generalizing xs with
  | zero => simp [flat]
  | succ m ih =>
    cases xs with
    | nil => simp [flat]
    | cons a xs =>
      rw [List.take_succ_cons, flat_cons, flat_cons, ih, List.take_append, show (accCells a).length = 4 from rfl, show (m + 1) * 4 - 4 = m * 4 from by omega, List.take_of_length_le (show (accCells a).length ≤ (m + 1) * 4 by show 4 ≤ (m + 1) * 4; omega)]
theorem Sl.take {w : World} {A : Option Addr} {xs : List Value} (h : Sl w A xs) (n : Nat) : Sl w A (xs.take n) := by
  rcases h with rfl | ⟨b, off, rfl, hc⟩
  · exact .inl (by simp)
  · refine .inr ⟨b, off, rfl, fun j u hu => hc j u ?_⟩
    rw [List.getElem?_take] at hu
    split at hu
    · exact hu
    · cases hu

theorem raceCells_walk (A : Option Addr) (c : Nat) (zs : List Int) (w : World) (hl : zs.length ≤ 9223372036854775807) (hcap : zs.length ≤ c) (hs : Sl w A (u8s zs)) (hz : ∀ z ∈ zs, 0 ≤ z ∧ z ≤ 255) :
    Calls Try.prog 9 #[.slice A zs.length c] w fun e w' => e = .returned (.bool true) ∧ Below w.heap.size w w' := by
  by_cases hbig : 1048576 < zs.length
  · go_enter Try.func9, Try.ntmps9
    go_wp2_with fail
    go_ret
    exact ⟨rfl, Below.refl _ _⟩
  · go_enter Try.func9, Try.ntmps9
    go_wp2_with fail
    refine (drawRaceCells_any _ _ _ _ hl hcap hs hz).mono ?_
    rintro e w1 ⟨A1, c1, xs, rfl, s1, hx, hxc, _, b1⟩
    clear hs hz
    have S1 := mkHid s1
    have B1 := mkHid b1
    clear s1 b1
    obtain ⟨ys, hys⟩ : ∃ ys, ys = asc (raceUpto xs xs.length) := ⟨_, rfl⟩
    obtain ⟨vs, hvs⟩ : ∃ vs, vs = asc (writtenCells xs) := ⟨_, rfl⟩
    have HU : Hid (Up ys) := mkHid (by rw [hys]; exact (asc_spec _).1)
    have HM : Hid (∀ z ∈ ys, z ∈ vs) := mkHid (by
      intro z hz
      rw [hys, (asc_spec _).2] at hz
      rw [hvs, (asc_spec _).2]
      exact race_written xs _ (Nat.le_refl _) z hz)
    have hyl : ys.length ≤ xs.length := by
      rw [hys]
      exact Nat.le_trans (asc_le _) (raceUpto_le xs _)
    have hvl : vs.length ≤ xs.length := by
      rw [hvs]
      exact Nat.le_trans (asc_le _) (by have := writtenCells_le xs xs.length; rwa [List.take_length] at this)
    have HHalf : Hid ((asc (raceUpto (xs.take (xs.length / 2)) (xs.take (xs.length / 2)).length)).length ≤ ys.length) := mkHid (by
      have h2 : (xs.take (xs.length / 2)).length = xs.length / 2 := by simp; omega
      rw [h2, hys]
      exact race_half xs _ (Nat.div_le_self _ _))
    have HFnd : Hid (∀ i j f, Race xs i j f → decide ((0 : Int) < (ys.length : Int)) = f) := mkHid (fun i j f h => by rw [hys]; exact race_found h)
    have HY := mkHid hys
    have HV := mkHid hvs
    clear hys hvs
    go_wp2_with fail
    refine (implRaceCells_any _ _ _ _ (by omega) hxc S1.out).mono ?_
    rw [← HY.out]
    rintro e w2 ⟨A2, c2, rfl, o2, b2⟩
    have S2 := mkHid (Sl.of_own o2)
    have SX2 := mkHid (S1.out.below b2)
    have B2 := mkHid (below_then B1.out b2)
    clear o2 b2
    go_wp2_with fail
    refine (specRaceCells_any _ _ _ _ (by omega) SX2.out).mono ?_
    rw [← HY.out]
    rintro e w3 ⟨A3, c3, rfl, o3, b3⟩
    have S33 := mkHid (Sl.of_own o3)
    have S3 := mkHid (S2.out.below b3)
    have SX3 := mkHid (SX2.out.below b3)
    have B3 := mkHid (below_then B2.out b3)
    clear o3 b3
    go_wp2_with fail
    refine (sameInts_same _ _ _ _ _ _ (by omega) S3.out S33.out).mono ?_
    rintro e w4 ⟨rfl, k4, rfl⟩
    have S4 := mkHid (S3.out.drewN k4)
    have SX4 := mkHid (SX3.out.drewN k4)
    have B4 := mkHid (below_drewN B3.out k4)
    generalize w3.drewN k4 = w4 at *
    clear S33
    go_wp2_with fail
    refine (implCellsWritten_any _ _ _ _ (by omega) SX4.out).mono ?_
    rw [← HV.out]
    rintro e w5 ⟨A5, c5, rfl, o5, b5⟩
    have SV5 := mkHid (Sl.of_own o5)
    have S5 := mkHid (S4.out.below b5)
    have SX5 := mkHid (SX4.out.below b5)
    have B5 := mkHid (below_then B4.out b5)
    clear o5 b5
    go_wp2_with fail
    go_loopw [6] (fun kv wr => ∃ k : Nat, k ≤ ys.length ∧ kv = .int .i64 k ∧ ∃ q, wr = w5.drewN q) (fun kv _ => ys.length - (intOf kv).toNat)
    case atStart => exact ⟨0, by omega, rfl, 0, rfl⟩
    case round =>
      obtain ⟨k, hk, rfl, q, rfl⟩ := hrel
      by_cases hlt : k < ys.length
      · obtain ⟨b, off, rfl, hc⟩ := S5.out.at_ (k := k) (by simpa using hlt)
        have h1 : w5.cell? ⟨b, off + k, none⟩ = some (.int .i64 ys[k]) := hc k _ (ints_at hlt)
        have hprev : 0 < k → w5.cell? ⟨b, off + (k - 1), none⟩ = some (.int .i64 (ys.getD (k - 1) 0)) := fun h0 => by
          have h2 : k - 1 < ys.length := by omega
          have := hc (k - 1) _ (ints_at h2)
          rw [this]
          simp [List.getD, h2]
        have HPrev := mkHid hprev
        have HC := mkHid hc
        clear hc hprev
        go_wp2_with fail
        go_loopw [7, 8] (fun bv jv wr => ∃ j : Nat, j ≤ vs.length ∧ jv = .int .i64 j ∧ bv = .bool (memB (vs.take j) ys[k]) ∧ ∃ q, wr = w5.drewN q) (fun _ jv _ => vs.length - (intOf jv).toNat)
        case atStart => exact ⟨0, by omega, rfl, by simp [memB], q, rfl⟩
        case round =>
          obtain ⟨j, hj, rfl, rfl, q, rfl⟩ := hrel
          have i5 : (0 : Int) ≤ (k : Int) := by omega
          have i6 : (k : Int) < (ys.length : Int) := by omega
          by_cases hltj : j < vs.length
          · obtain ⟨b3, off3, rfl, hcv⟩ := SV5.out.at_ (k := j) (by simpa using hltj)
            have hy : w5.cell? ⟨b3, off3 + j, none⟩ = some (.int .i64 vs[j]) := hcv j _ (ints_at hltj)
            have HS := mkHid (memB_succ vs ys[k] j hltj)
            have i3 : (0 : Int) ≤ (j : Int) := by omega
            have i4 : (j : Int) < (vs.length : Int) := by omega
            clear hcv
            cases hb : memB (vs.take j) ys[k] with
            | true =>
              have HBb := mkHid hb
              clear hb
              go_wp2_with fail
              go_quiet (fail)
              go_wp2_with fail
              go_roundw
              case rel => exact ⟨j + 1, by omega, by go_num, by rw [HS.out, HBb.out]; rfl, _, by first | rfl | exact World.drewN_drewN _ _ _⟩
              case measure => simp [intOf]; omega
            | false =>
              have HBb := mkHid hb
              clear hb
              go_wp2_with fail
              go_quiet (fail)
              go_wp2_with fail
              go_roundw
              case rel => exact ⟨j + 1, by omega, by go_num, by rw [HS.out, HBb.out]; rfl, _, by first | rfl | exact World.drewN_drewN _ _ _⟩
              case measure => simp [intOf]; omega
          · have : j = vs.length := by omega
            subst this
            have hin : memB vs ys[k] = true := memB_mem (HM.out _ (List.getElem_mem hlt))
            rw [List.take_length, hin]
            clear hin
            by_cases h0 : 0 < k
            · have hp := HPrev.out h0
              have hl1 : k - 1 < ys.length := by omega
              have hg : ys.getD (k - 1) 0 = ys[k - 1] := by simp [List.getD, hl1]
              rw [hg] at hp
              have hup := List.pairwise_iff_getElem.1 HU.out (k - 1) k hl1 hlt (by omega)
              have hd : decide (ys[k] ≤ ys[k - 1]) = false := by simp; omega
              have hd0 : decide ((0 : Int) < (k : Int)) = true := by simp; omega
              have i1 : (0 : Int) ≤ (k : Int) - 1 := by omega
              have i2 : (k : Int) - 1 < (ys.length : Int) := by omega
              clear hup hg
              go_wp2_with fail
              go_quiet (fail)
              go_wp2_with fail
              go_roundw
              case rel => exact ⟨k + 1, by omega, by go_num, _, by first | rfl | exact World.drewN_drewN _ _ _⟩
              case measure => simp [intOf]; omega
            · have hd0 : decide ((0 : Int) < (k : Int)) = false := by simp; omega
              go_wp2_with fail
              go_quiet (fail)
              go_wp2_with fail
              go_roundw
              case rel => exact ⟨k + 1, by omega, by go_num, _, by first | rfl | exact World.drewN_drewN _ _ _⟩
              case measure => simp [intOf]; omega
      · have SX6 := mkHid (SX5.out.drewN q)
        have B6 := mkHid (below_drewN B5.out q)
        generalize w5.drewN q = w6 at *
        go_wp2_with fail
        refine (implFirstRace_any _ _ _ _ (by omega) hxc SX6.out).mono ?_
        rintro e w7 ⟨i, j, f, rfl, hR, b7⟩
        have hf := HFnd.out i j f hR
        have SX7 := mkHid (SX6.out.below b7)
        have B7 := mkHid (below_then B6.out b7)
        clear hR b7
        have hlen : (xs.take (xs.length / 2)).length = xs.length / 2 := by simp; omega
        have hC := implRaceCells_any A1 c1 (xs.take (xs.length / 2)) w7 (by omega) (by omega) (by rw [flat_take]; exact SX7.out.take _)
        rw [hlen] at hC
        have hhalf := HHalf.out
        rw [hlen] at hhalf
        have HC := mkHid hC
        clear hC hlen
        have i1 : (0 : Int) ≤ (xs.length : Int) / 2 := by omega
        have i2 : (xs.length : Int) / 2 ≤ (c1 : Int) := by omega
        cases f
        all_goals generalize asc (raceUpto (xs.take (xs.length / 2)) (xs.length / 2)) = hs at *
        case' false =>
          have h0 : ys = [] := by simp at hf; exact hf
          subst h0
          obtain rfl : hs = [] := List.eq_nil_of_length_eq_zero (by simpa using hhalf)
        case' true =>
          have h0 : 0 < ys.length := by simp at hf; omega
        all_goals (
          clear hf
          go_wp2_with fail
          refine HC.out.mono ?_
          rintro e w8 ⟨A8, c8, rfl, o8, b8⟩
          have B8 := mkHid (below_then B7.out b8)
          clear o8 b8
          go_wp2_with fail
          refine (alive_any _).mono ?_
          rintro e w9 ⟨rfl, rfl⟩
          go_wp2_with fail
          go_ret
          exact ⟨rfl, B8.out⟩)
namespace fnRaceCells
set_option maxRecDepth 100000 in
theorem lifted (os : Os) (started : os.Started) (H : Type) (enc : TypeId × Value → H) :
    ReturnsInHanded {} Try.checked os 9 .any (Rows.fnRaceCellsSpec.pre6 enc Try.prog Try.f9 Rows.fnRaceCellsRow.domain false) (Rows.fnRaceCellsSpec.post enc Try.prog Try.f9 false true false false) := by
  refine returnsInHanded_of_change (C := Try.checked) own started (by kernel_rfl) Try.func9
    (ChangeSpec.witness6 (enc := enc) (C := Try.checked) false ⟨#[], #[.slice none 0 0], []⟩ 8 (by kernel_rfl) (by kernel_rfl) (by kernel_rfl) (by kernel_rfl)) ?_
  intro W base args ds gs before hval0 hW hcnd _
  have hval : ∀ (j : Nat) t v, Try.f9.params[j]? = some t → args[j]? = some v → Value.okWide Try.prog W .any base t v := hval0
  have hW' := hW
  obtain ⟨p, q, hA0, hV, rfl, hfz, hnd⟩ := hW
  have hA : DataW.TrodAll enc Try.prog W 0 (fun _ => true) true Try.f9.params.toList args.toList ds p := hA0
  have hAk : DataW.TrodAll enc Try.prog W 0 (fun _ => true) true Try.f9.params.toList args.toList ds p := hA0
  rw [Try.params9] at hA hval
  obtain ⟨v0, vs0, d0, ds0, p0, q0, hargs, rfl, rfl, h0, r0⟩ := trodAll_cons hA
  obtain ⟨rfl, rfl, rfl⟩ := trodAll_nil r0
  obtain rfl : args = #[v0] := by cases args; simp_all
  obtain ⟨rfl, rfl⟩ := trodVars_none hV
  obtain ⟨Azs, czs, zs, rfl, nzs, kzs, szs, wzs⟩ := open_int_slice Try.underlying30 Try.underlying5 (by kernel_rfl) (hval 0 30 v0 rfl rfl) h0
  have wzs : ∀ z ∈ zs, 0 ≤ z ∧ z ≤ 255 := fun z hz => wf_u8_bounds (wzs z hz)
  clear hA0 hval0
  refine (raceCells_walk Azs czs zs W nzs kzs szs wzs).mono fun e W' ⟨he, hb⟩ => ?_
  subst he
  refine ⟨_, rfl, post_true laidOut (fun t ht => ?_) (by kernel_rfl) Try.underlying4 rfl rfl hW' hAk hb⟩
  rw [Try.params9] at ht
  simp only [List.mem_cons, List.not_mem_nil, or_false] at ht
  first | (rcases ht with rfl <;> exact ⟨by kernel_rfl, of_decide_eq_true (by kernel_rfl)⟩) | (obtain rfl := ht; exact ⟨by kernel_rfl, of_decide_eq_true (by kernel_rfl)⟩)
/-- The statement. -/
theorem proved : Rows.FnRaceCellsSaid :=
  OpenClaim.holds_of_wide 9 Try.f9 rfl rfl rfl rfl rfl rfl rfl ⟨rfl, rfl, rfl, rfl, rfl⟩ rfl rfl rfl rfl rfl (by kernel_rfl) Try.func9 (by kernel_rfl)
    (of_decide_eq_true (by kernel_rfl)) (by unfold Func.isWrapper; first | (rw [if_pos (by decide +kernel)]; kernel_rfl) | (rw [if_neg (by decide +kernel)]; exact ⟨rfl, rfl⟩))
    (fun os started H enc _ => lifted os started H enc)
end fnRaceCells
#print axioms fnRaceCells.proved
end Go.Proofs.Ytbhjicjcilneeaa
