/-
  Proved: FnRunLane returns true for every code.
-/
import Derived.Test.YtjmiilneennjaaaPart30
import Derived.Test.YtjmiilneennjaaaPart28
import Derived.Test.YtjmiilneennjaaaPart29
import Derived.Test.YtjmiilneennjaaaPart03
namespace Go.Proofs.Ytjmiilneennjaaa
open Go.ChangeShapes Go.WideShapes Go.ChangeAt Go.RowKit
set_option maxHeartbeats 2000000
set_option maxRecDepth 100000
set_option linter.unusedVariables false
set_option linter.unusedSimpArgs false

/-- what the law asks of a run of a lane. -/
structure RunFacts (xs : List Cd) (s : LS) (id : Int) (mem : List Int) (r : LS × List Int) : Prop where
  valid : laneValid xs r.1 = true
  stop : r.1.wait = true ∨ r.1.pc = xs.length
  len : r.2.length = mem.length
  pos : 1 ≤ mem.length
  wait : goesB xs.length s = true → (stepS xs id s mem).1.wait = true → r = stepS xs id s mem
  next : goesB xs.length s = true → (stepS xs id s mem).1.wait = false → RunTo xs (stepS xs id s mem).1 id (stepS xs id s mem).2 r
theorem runFacts {xs : List Cd} {s : LS} {id : Int} {mem : List Int} {r : LS × List Int} (hok : okS xs s id mem = true) (hr : RunTo xs s id mem r) : RunFacts xs s id mem r := by
  rcases hr with ⟨h, _⟩ | ⟨_, N, hN, rfl⟩
  · rw [hok] at h; cases h
  have ho := okS_iff.1 hok
  have hi := iterS_ok ho.prog ho.id8 ho.lane.clear ho.mem N
  have hnx : goesB xs.length s = true → ∃ M, N = M + 1 ∧ RunsL xs id (stepS xs id s mem).1 (stepS xs id s mem).2 M ∧ iterS xs id (clearW s) mem N = iterS xs id (stepS xs id s mem).1 (stepS xs id s mem).2 M := fun hg => by
    have hN' := hN
    rw [clear_goes hg] at hN'
    obtain ⟨M, e, hM⟩ := runsL_next hN' hg
    refine ⟨M, e, hM, ?_⟩
    rw [clear_goes hg, e, iterS_front]
  refine ⟨?_, goesB_no.1 hN.stop, hi.2.2, (memValid_parts.1 ho.mem).1.1, fun hg hw => ?_, fun hg hw => ?_⟩
  · unfold laneValid
    rw [ho.prog, laneOk_iff.2 hi.1]; rfl
  · obtain ⟨M, e, hM, he⟩ := hnx hg
    rw [he]
    cases M with
    | zero => rfl
    | succ M =>
      have := (goesB_parts.1 (hM.before 0 (by omega))).1
      rw [show (iterS xs id (stepS xs id s mem).1 (stepS xs id s mem).2 0).1 = (stepS xs id s mem).1 from rfl, hw] at this
      cases this
  · obtain ⟨M, e, hM, he⟩ := hnx hg
    have hs := stepS_ok ho.prog ho.id8 ho.lane ho.mem
    refine .inr ⟨okS_iff.2 ⟨ho.prog, hs.1, ho.id8, hs.2.1⟩, M, ?_, ?_⟩
    · have e2 : clearW (stepS xs id s mem).1 = (stepS xs id s mem).1 := by unfold clearW; rw [← hw]
      rw [e2]; exact hM
    · have e2 : clearW (stepS xs id s mem).1 = (stepS xs id s mem).1 := by unfold clearW; rw [← hw]
      rw [e2]; exact he
theorem runLane_walk (A : Option Addr) (c : Nat) (zs : List Int) (w : World) (hl : zs.length ≤ 9223372036854775807) (hcap : zs.length ≤ c) (hs : Sl w A (u8s zs)) (hz : ∀ z ∈ zs, 0 ≤ z ∧ z ≤ 255) :
    Calls Try.prog 7 #[.slice A zs.length c] w fun e w' => e = .returned (.bool true) ∧ Below w.heap.size w w' := by
  by_cases hbig : 1048576 < zs.length
  · go_enter Try.func7, Try.ntmps7
    go_wp2_with fail
    go_ret
    exact ⟨rfl, Below.refl _ _⟩
  · go_enter Try.func7, Try.ntmps7
    go_wp2_with fail
    refine (drawRunLane_any _ _ _ _ hl hcap hs hz).mono ?_
    rintro e w1 ⟨⟨xa, xc, xz, xat, xta, xtc, xts, xw⟩, g, c', ys, id, g2, c2, ms, rfl, hi, s1, hy, s2, hm, b1⟩
    obtain ⟨r, hr⟩ := runTo_ex ys (Lt.st ⟨xa, xc, xz, xat, xta, xtc, xts, xw⟩) id ms
    have HR := mkHid hr
    have HI := mkHid hi
    have S1 := mkHid s1
    have S2 := mkHid s2
    have BW := mkHid b1
    clear hi s1 s2 b1 hr hs hz
    have hal : Below w1.heap.size w1 (w1.alloc (.cells #[.slice xa xz.length xc, .int .i64 xat, .slice xta xts.length xtc, .bool xw] 52)) := (Below.refl _ _).alloc (Nat.le_refl _) _
    have BX := mkHid (show LaneBox (w1.alloc (.cells #[.slice xa xz.length xc, .int .i64 xat, .slice xta xts.length xtc, .bool xw] 52)) w1.heap.size ⟨xa, xc, xz, xat, xta, xtc, xts, xw⟩ from heap_alloc_new w1 _)
    have HI := mkHid (HI.out.below hal)
    have S1 := mkHid (S1.out.below hal)
    have S2 := mkHid (S2.out.below hal)
    have BW := mkHid (below_then BW.out hal)
    clear hal
    obtain ⟨⟨x0, x1, x2, x3⟩, _⟩ := box4e BX.out
    simp only [ltR, ltT] at x0 x2
    go_wp2_with fail
    generalize w1.alloc (.cells #[.slice xa xz.length xc, .int .i64 xat, .slice xta xts.length xtc, .bool xw] 52) = w2 at *
    generalize w1.heap.size = X at *
    refine (implRunLane_any ⟨xa, xc, xz, xat, xta, xtc, xts, xw⟩ (some ⟨g, 0, none⟩) c' ys id (some ⟨g2, 0, none⟩) c2 ms r w2 (by omega) (by omega) S1.out HI.out S2.out HR.out).mono ?_
    rintro e w3 ⟨⟨ya, yc, yz, yat, yta, ytc, yts, yw⟩, A3, c3, rfl, hst3, hap3, b3⟩
    have HY := mkHid hap3.laneW.1
    have SY := mkHid (show Sl w3 A3 (ints r.2) from hap3.laneW.2)
    have HST3 := mkHid hst3
    have HL3 := mkHid (own_max (hap3.1 _ (List.mem_cons_self ..)))
    clear hst3 hap3 x0 x1 x2 x3
    have HI := mkHid (HI.out.below b3)
    have S1 := mkHid (S1.out.below b3)
    have S2 := mkHid (S2.out.below b3)
    have BX := mkHid (BX.out.below b3)
    have BW := mkHid (below_then BW.out b3)
    clear b3
    have hal : Below w3.heap.size w3 (w3.alloc (.cells #[.slice ya yz.length yc, .int .i64 yat, .slice yta yts.length ytc, .bool yw] 52)) := (Below.refl _ _).alloc (Nat.le_refl _) _
    have BY := mkHid (show LaneBox (w3.alloc (.cells #[.slice ya yz.length yc, .int .i64 yat, .slice yta yts.length ytc, .bool yw] 52)) w3.heap.size ⟨ya, yc, yz, yat, yta, ytc, yts, yw⟩ from heap_alloc_new w3 _)
    have HI := mkHid (HI.out.below hal)
    have S1 := mkHid (S1.out.below hal)
    have S2 := mkHid (S2.out.below hal)
    have BX := mkHid (BX.out.below hal)
    have HY := mkHid (HY.out.below hal)
    have SY := mkHid (SY.out.below hal)
    have BW := mkHid (below_then BW.out hal)
    clear hal
    obtain ⟨⟨x0, x1, x2, x3⟩, _⟩ := box4e BX.out
    simp only [ltR, ltT] at x0 x2
    go_wp2_with fail
    generalize w3.alloc (.cells #[.slice ya yz.length yc, .int .i64 yat, .slice yta yts.length ytc, .bool yw] 52) = w4 at *
    generalize w3.heap.size = Y at *
    refine (specRunLane_any ⟨xa, xc, xz, xat, xta, xtc, xts, xw⟩ (some ⟨g, 0, none⟩) c' ys id (some ⟨g2, 0, none⟩) c2 ms r w4 (by omega) (by omega) S1.out HI.out S2.out HR.out).mono ?_
    rintro e w5 ⟨⟨za, zc, zz, zat, zta, ztc, zts, zw⟩, A5, c5, rfl, hst5, hap5, b5⟩
    have HZ := mkHid hap5.laneW.1
    have SZ := mkHid (show Sl w5 A5 (ints r.2) from hap5.laneW.2)
    have HST5 := mkHid hst5
    clear hst5 hap5 x0 x1 x2 x3
    have HI := mkHid (HI.out.below b5)
    have S1 := mkHid (S1.out.below b5)
    have S2 := mkHid (S2.out.below b5)
    have BX := mkHid (BX.out.below b5)
    have HY := mkHid (HY.out.below b5)
    have SY := mkHid (SY.out.below b5)
    have BY := mkHid (BY.out.below b5)
    have BW := mkHid (below_then BW.out b5)
    clear b5
    have hal : Below w5.heap.size w5 (w5.alloc (.cells #[.slice za zz.length zc, .int .i64 zat, .slice zta zts.length ztc, .bool zw] 52)) := (Below.refl _ _).alloc (Nat.le_refl _) _
    have BZ := mkHid (show LaneBox (w5.alloc (.cells #[.slice za zz.length zc, .int .i64 zat, .slice zta zts.length ztc, .bool zw] 52)) w5.heap.size ⟨za, zc, zz, zat, zta, ztc, zts, zw⟩ from heap_alloc_new w5 _)
    have HI := mkHid (HI.out.below hal)
    have S1 := mkHid (S1.out.below hal)
    have S2 := mkHid (S2.out.below hal)
    have BX := mkHid (BX.out.below hal)
    have HY := mkHid (HY.out.below hal)
    have SY := mkHid (SY.out.below hal)
    have BY := mkHid (BY.out.below hal)
    have HZ := mkHid (HZ.out.below hal)
    have SZ := mkHid (SZ.out.below hal)
    have BW := mkHid (below_then BW.out hal)
    clear hal
    obtain ⟨⟨y0, y1, y2, y3⟩, _⟩ := box4e BY.out
    simp only [ltR, ltT] at y0 y2
    obtain ⟨⟨z0, z1, z2, z3⟩, _⟩ := box4e BZ.out
    simp only [ltR, ltT] at z0 z2
    go_wp2_with fail
    generalize w5.alloc (.cells #[.slice za zz.length zc, .int .i64 zat, .slice zta zts.length ztc, .bool zw] 52) = w6 at *
    generalize w5.heap.size = Z at *
    refine (sameLt_same ⟨ya, yc, yz, yat, yta, ytc, yts, yw⟩ ⟨za, zc, zz, zat, zta, ztc, zts, zw⟩ w6 (HST3.out.trans HST5.out.symm) HY.out HZ.out).mono ?_
    rintro e w7 ⟨rfl, b7⟩
    clear y0 y1 y2 y3 z0 z1 z2 z3 BZ
    have HI := mkHid (HI.out.below b7)
    have S1 := mkHid (S1.out.below b7)
    have S2 := mkHid (S2.out.below b7)
    have BX := mkHid (BX.out.below b7)
    have HY := mkHid (HY.out.below b7)
    have SY := mkHid (SY.out.below b7)
    have BY := mkHid (BY.out.below b7)
    have HZ := mkHid (HZ.out.below b7)
    have SZ := mkHid (SZ.out.below b7)
    have BW := mkHid (below_then BW.out b7)
    clear b7
    go_wp2_with fail
    refine (sameInts_same _ _ _ _ _ _ HL3.out SY.out SZ.out).mono ?_
    rintro e w8 ⟨rfl, k8, rfl⟩
    have b8 : Below w7.heap.size w7 (w7.drewN k8) := below_drewN (Below.refl _ _) k8
    clear HZ SZ HST5
    have HI := mkHid (HI.out.below b8)
    have S1 := mkHid (S1.out.below b8)
    have S2 := mkHid (S2.out.below b8)
    have BX := mkHid (BX.out.below b8)
    have HY := mkHid (HY.out.below b8)
    have SY := mkHid (SY.out.below b8)
    have BY := mkHid (BY.out.below b8)
    have BW := mkHid (below_then BW.out b8)
    clear b8
    generalize w7.drewN k8 = w8 at *
    cases hok : okS ys (Lt.st ⟨xa, xc, xz, xat, xta, xtc, xts, xw⟩) id ms with
    | false =>
      have hre : r = (lsNil, []) := by
        rcases HR.out with ⟨_, h⟩ | ⟨h, _⟩
        · exact h
        · rw [hok] at h; cases h
      subst hre
      obtain ⟨⟨y0, y1, y2, y3⟩, _⟩ := box4e BY.out
      simp only [ltR, ltT] at y0 y2
      have HSN := mkHid (sameLt_same ⟨ya, yc, yz, yat, yta, ytc, yts, yw⟩ ⟨none, 0, [], 0, none, 0, [], false⟩ w8 HST3.out HY.out ⟨⟨Sl.nil _ _, by simp⟩, ⟨Sl.nil _ _, by simp⟩⟩)
      go_wp2_with fail
      refine HSN.out.mono ?_
      rintro e w9 ⟨rfl, b9⟩
      clear HSN y0 y1 y2 y3
      have HI := mkHid (HI.out.below b9)
      have S1 := mkHid (S1.out.below b9)
      have S2 := mkHid (S2.out.below b9)
      have BX := mkHid (BX.out.below b9)
      have HY := mkHid (HY.out.below b9)
      have SY := mkHid (SY.out.below b9)
      have BY := mkHid (BY.out.below b9)
      have BW := mkHid (below_then BW.out b9)
      clear b9
      go_wp2_with fail
      refine (alive_any _).mono ?_
      rintro e w10 ⟨rfl, rfl⟩
      go_wp2_with fail
      go_ret
      exact ⟨rfl, BW.out⟩
    | true =>
      have HF := mkHid (runFacts hok HR.out)
      have hpos : 1 ≤ r.2.length := by have h1 := HF.out.len; have h2 := HF.out.pos; omega
      have hb0 : ((r.2.length : Int) == 0) = false := by
        have : ¬ (r.2.length : Int) = 0 := by omega
        simpa using this
      have hpx : 0 ≤ xat ∧ xat ≤ (ys.length : Int) := (okS_iff.1 hok).lane.pc
      have HOK := mkHid hok
      have HYW : Hid (yw = true ∨ yat = (ys.length : Int)) := mkHid (by
        have := HF.out.stop
        rw [← HST3.out] at this
        exact this)
      have HVY : Hid (laneValid ys (Lt.st ⟨ya, yc, yz, yat, yta, ytc, yts, yw⟩) = true) := mkHid (by rw [HST3.out]; exact HF.out.valid)
      clear hok hpos
      cases xw with
      | true =>
        obtain ⟨⟨x0, x1, x2, x3⟩, _⟩ := box4e BX.out
        simp only [ltR, ltT] at x0 x2
        cases yw with
        | true =>
          obtain ⟨⟨y0, y1, y2, y3⟩, _⟩ := box4e BY.out
          simp only [ltR, ltT] at y0 y2
          go_wp2_with fail
          refine (implLaneValid_any ⟨ya, yc, yz, yat, yta, ytc, yts, true⟩ (some ⟨g, 0, none⟩) c' ys _ (by omega) S1.out HY.out).mono ?_
          rintro e wv ⟨rfl, bv⟩
          rw [HVY.out]
          clear y0 y1 y2 y3
          have HI := mkHid (HI.out.below bv)
          have S1 := mkHid (S1.out.below bv)
          have S2 := mkHid (S2.out.below bv)
          have BX := mkHid (BX.out.below bv)
          have HY := mkHid (HY.out.below bv)
          have SY := mkHid (SY.out.below bv)
          have BY := mkHid (BY.out.below bv)
          have BW := mkHid (below_then BW.out bv)
          clear bv
          obtain ⟨⟨y0, y1, y2, y3⟩, _⟩ := box4e BY.out
          simp only [ltR, ltT] at y0 y2
          go_wp2_with fail
          go_ret
          exact ⟨rfl, BW.out⟩
        | false =>
          have hyat : (yat == (ys.length : Int)) = true := by
            rcases HYW.out with h | h
            · cases h
            · simpa using h
          obtain ⟨⟨y0, y1, y2, y3⟩, _⟩ := box4e BY.out
          simp only [ltR, ltT] at y0 y2
          go_wp2_with fail
          refine (implLaneValid_any ⟨ya, yc, yz, yat, yta, ytc, yts, false⟩ (some ⟨g, 0, none⟩) c' ys _ (by omega) S1.out HY.out).mono ?_
          rintro e wv ⟨rfl, bv⟩
          rw [HVY.out]
          clear y0 y1 y2 y3
          have HI := mkHid (HI.out.below bv)
          have S1 := mkHid (S1.out.below bv)
          have S2 := mkHid (S2.out.below bv)
          have BX := mkHid (BX.out.below bv)
          have HY := mkHid (HY.out.below bv)
          have SY := mkHid (SY.out.below bv)
          have BY := mkHid (BY.out.below bv)
          have BW := mkHid (below_then BW.out bv)
          clear bv
          obtain ⟨⟨y0, y1, y2, y3⟩, _⟩ := box4e BY.out
          simp only [ltR, ltT] at y0 y2
          go_wp2_with fail
          go_ret
          exact ⟨rfl, BW.out⟩
      | false =>
        by_cases hat : xat = (ys.length : Int)
        · have hbt : (xat == (ys.length : Int)) = true := by simpa using hat
          clear hat hpx
          obtain ⟨⟨x0, x1, x2, x3⟩, _⟩ := box4e BX.out
          simp only [ltR, ltT] at x0 x2
          cases yw with
          | true =>
            obtain ⟨⟨y0, y1, y2, y3⟩, _⟩ := box4e BY.out
            simp only [ltR, ltT] at y0 y2
            go_wp2_with fail
            refine (implLaneValid_any ⟨ya, yc, yz, yat, yta, ytc, yts, true⟩ (some ⟨g, 0, none⟩) c' ys _ (by omega) S1.out HY.out).mono ?_
            rintro e wv ⟨rfl, bv⟩
            rw [HVY.out]
            clear y0 y1 y2 y3
            have HI := mkHid (HI.out.below bv)
            have S1 := mkHid (S1.out.below bv)
            have S2 := mkHid (S2.out.below bv)
            have BX := mkHid (BX.out.below bv)
            have HY := mkHid (HY.out.below bv)
            have SY := mkHid (SY.out.below bv)
            have BY := mkHid (BY.out.below bv)
            have BW := mkHid (below_then BW.out bv)
            clear bv
            obtain ⟨⟨y0, y1, y2, y3⟩, _⟩ := box4e BY.out
            simp only [ltR, ltT] at y0 y2
            go_wp2_with fail
            go_ret
            exact ⟨rfl, BW.out⟩
          | false =>
            have hyat : (yat == (ys.length : Int)) = true := by
              rcases HYW.out with h | h
              · cases h
              · simpa using h
            obtain ⟨⟨y0, y1, y2, y3⟩, _⟩ := box4e BY.out
            simp only [ltR, ltT] at y0 y2
            go_wp2_with fail
            refine (implLaneValid_any ⟨ya, yc, yz, yat, yta, ytc, yts, false⟩ (some ⟨g, 0, none⟩) c' ys _ (by omega) S1.out HY.out).mono ?_
            rintro e wv ⟨rfl, bv⟩
            rw [HVY.out]
            clear y0 y1 y2 y3
            have HI := mkHid (HI.out.below bv)
            have S1 := mkHid (S1.out.below bv)
            have S2 := mkHid (S2.out.below bv)
            have BX := mkHid (BX.out.below bv)
            have HY := mkHid (HY.out.below bv)
            have SY := mkHid (SY.out.below bv)
            have BY := mkHid (BY.out.below bv)
            have BW := mkHid (below_then BW.out bv)
            clear bv
            obtain ⟨⟨y0, y1, y2, y3⟩, _⟩ := box4e BY.out
            simp only [ltR, ltT] at y0 y2
            go_wp2_with fail
            go_ret
            exact ⟨rfl, BW.out⟩
        · have hbt : (xat == (ys.length : Int)) = false := by simpa using hat
          have HG : Hid (goesB ys.length (Lt.st ⟨xa, xc, xz, xat, xta, xtc, xts, false⟩) = true) := mkHid (goesB_parts.2 ⟨rfl, hat⟩)
          clear hat hpx
          obtain ⟨⟨x0, x1, x2, x3⟩, _⟩ := box4e BX.out
          simp only [ltR, ltT] at x0 x2
          go_wp2_with fail
          refine (implStepLane_any ⟨xa, xc, xz, xat, xta, xtc, xts, false⟩ (some ⟨g, 0, none⟩) c' ys id (some ⟨g2, 0, none⟩) c2 ms _ (by omega) (by omega) S1.out HI.out S2.out).mono ?_
          rintro e w9 ⟨⟨aa, ac, az, aat, ata, atc, ats, aw⟩, A9, c9, rfl, hst9, hap9, b9⟩
          obtain ⟨s9, hs9⟩ : ∃ s9, s9 = stepTo ys (Lt.st ⟨xa, xc, xz, xat, xta, xtc, xts, false⟩) id ms := ⟨_, rfl⟩
          have hss : s9 = stepS ys id (Lt.st ⟨xa, xc, xz, xat, xta, xtc, xts, false⟩) ms := by rw [hs9]; unfold stepTo; rw [HOK.out]; rfl
          rw [← hs9] at hst9 hap9 ⊢
          have HW1 := mkHid (HF.out.wait HG.out)
          have HN1 := mkHid (HF.out.next HG.out)
          rw [← hss] at HW1 HN1
          have HA := mkHid hap9.laneW.1
          have SA := mkHid (show Sl w9 A9 (ints s9.2) from hap9.laneW.2)
          have HLA : Hid (s9.2.length = ms.length) := mkHid (by rw [hss]; exact (stepS_ok (okS_iff.1 HOK.out).prog (okS_iff.1 HOK.out).id8 (okS_iff.1 HOK.out).lane (okS_iff.1 HOK.out).mem).2.2)
          have HSTA := mkHid hst9
          have HAW : Hid (aw = s9.1.wait) := mkHid (by rw [← hst9])
          clear hst9 hap9 hs9 hss x0 x1 x2 x3
          have HI := mkHid (HI.out.below b9)
          have S1 := mkHid (S1.out.below b9)
          have S2 := mkHid (S2.out.below b9)
          have BX := mkHid (BX.out.below b9)
          have HY := mkHid (HY.out.below b9)
          have SY := mkHid (SY.out.below b9)
          have BY := mkHid (BY.out.below b9)
          have BW := mkHid (below_then BW.out b9)
          clear b9
          have hal : Below w9.heap.size w9 (w9.alloc (.cells #[.slice aa az.length ac, .int .i64 aat, .slice ata ats.length atc, .bool aw] 52)) := (Below.refl _ _).alloc (Nat.le_refl _) _
          have BA := mkHid (show LaneBox (w9.alloc (.cells #[.slice aa az.length ac, .int .i64 aat, .slice ata ats.length atc, .bool aw] 52)) w9.heap.size ⟨aa, ac, az, aat, ata, atc, ats, aw⟩ from heap_alloc_new w9 _)
          have HI := mkHid (HI.out.below hal)
          have S1 := mkHid (S1.out.below hal)
          have S2 := mkHid (S2.out.below hal)
          have BX := mkHid (BX.out.below hal)
          have HY := mkHid (HY.out.below hal)
          have SY := mkHid (SY.out.below hal)
          have BY := mkHid (BY.out.below hal)
          have HA := mkHid (HA.out.below hal)
          have SA := mkHid (SA.out.below hal)
          have BW := mkHid (below_then BW.out hal)
          clear hal
          cases aw with
          | true =>
            obtain ⟨⟨a0, a1, a2, a3⟩, _⟩ := box4e BA.out
            simp only [ltR, ltT] at a0 a2
            obtain ⟨⟨y0, y1, y2, y3⟩, _⟩ := box4e BY.out
            simp only [ltR, ltT] at y0 y2
            have hrw := HW1.out HAW.out.symm
            have HLR : Hid (r.2 = s9.2) := mkHid (by rw [hrw])
            have HSR : Hid (r.1 = s9.1) := mkHid (by rw [hrw])
            clear hrw
            go_wp2_with fail
            generalize w9.alloc (.cells #[.slice aa az.length ac, .int .i64 aat, .slice ata ats.length atc, .bool true] 52) = w10 at *
            generalize w9.heap.size = Q at *
            refine (sameLt_same ⟨ya, yc, yz, yat, yta, ytc, yts, yw⟩ ⟨aa, ac, az, aat, ata, atc, ats, true⟩ _ (HST3.out.trans (HSR.out.trans HSTA.out.symm)) HY.out HA.out).mono ?_
            rintro e w11 ⟨rfl, b11⟩
            clear a0 a1 a2 a3 y0 y1 y2 y3
            have HI := mkHid (HI.out.below b11)
            have S1 := mkHid (S1.out.below b11)
            have S2 := mkHid (S2.out.below b11)
            have BX := mkHid (BX.out.below b11)
            have HY := mkHid (HY.out.below b11)
            have SY := mkHid (SY.out.below b11)
            have BY := mkHid (BY.out.below b11)
            have HA := mkHid (HA.out.below b11)
            have SA := mkHid (SA.out.below b11)
            have BA := mkHid (BA.out.below b11)
            have BW := mkHid (below_then BW.out b11)
            clear b11
            go_wp2_with fail
            rw [← HLR.out] at SA ⊢
            refine (sameInts_same _ _ _ _ _ _ HL3.out SY.out SA.out).mono ?_
            rintro e w12 ⟨rfl, k12, rfl⟩
            go_wp2_with fail
            go_ret
            exact ⟨rfl, below_drewN BW.out k12⟩
          | false =>
            obtain ⟨⟨a0, a1, a2, a3⟩, _⟩ := box4e BA.out
            simp only [ltR, ltT] at a0 a2
            obtain ⟨⟨y0, y1, y2, y3⟩, _⟩ := box4e BY.out
            simp only [ltR, ltT] at y0 y2
            go_wp2_with fail
            generalize w9.alloc (.cells #[.slice aa az.length ac, .int .i64 aat, .slice ata ats.length atc, .bool false] 52) = w10 at *
            generalize w9.heap.size = Q at *
            refine (implRunLane_any ⟨aa, ac, az, aat, ata, atc, ats, false⟩ (some ⟨g, 0, none⟩) c' ys id A9 c9 s9.2 r _ (by omega) (by have := HLA.out; omega) S1.out HA.out SA.out (by rw [HSTA.out]; exact HN1.out HAW.out.symm)).mono ?_
            rintro e w11 ⟨⟨ba, bc, bz, bat, bta, btc, bts, bw⟩, A11, c11, rfl, hst11, hap11, b11⟩
            have HB := mkHid hap11.laneW.1
            have SB := mkHid (show Sl w11 A11 (ints r.2) from hap11.laneW.2)
            have HSTB := mkHid hst11
            clear hst11 hap11 a0 a1 a2 a3 y0 y1 y2 y3
            have HI := mkHid (HI.out.below b11)
            have S1 := mkHid (S1.out.below b11)
            have S2 := mkHid (S2.out.below b11)
            have BX := mkHid (BX.out.below b11)
            have HY := mkHid (HY.out.below b11)
            have SY := mkHid (SY.out.below b11)
            have BY := mkHid (BY.out.below b11)
            have HA := mkHid (HA.out.below b11)
            have SA := mkHid (SA.out.below b11)
            have BA := mkHid (BA.out.below b11)
            have BW := mkHid (below_then BW.out b11)
            clear b11
            have hal : Below w11.heap.size w11 (w11.alloc (.cells #[.slice ba bz.length bc, .int .i64 bat, .slice bta bts.length btc, .bool bw] 52)) := (Below.refl _ _).alloc (Nat.le_refl _) _
            have BB := mkHid (show LaneBox (w11.alloc (.cells #[.slice ba bz.length bc, .int .i64 bat, .slice bta bts.length btc, .bool bw] 52)) w11.heap.size ⟨ba, bc, bz, bat, bta, btc, bts, bw⟩ from heap_alloc_new w11 _)
            have HI := mkHid (HI.out.below hal)
            have S1 := mkHid (S1.out.below hal)
            have S2 := mkHid (S2.out.below hal)
            have BX := mkHid (BX.out.below hal)
            have HY := mkHid (HY.out.below hal)
            have SY := mkHid (SY.out.below hal)
            have BY := mkHid (BY.out.below hal)
            have HA := mkHid (HA.out.below hal)
            have SA := mkHid (SA.out.below hal)
            have BA := mkHid (BA.out.below hal)
            have HB := mkHid (HB.out.below hal)
            have SB := mkHid (SB.out.below hal)
            have BW := mkHid (below_then BW.out hal)
            clear hal
            cases yw with
            | true =>
              obtain ⟨⟨y0, y1, y2, y3⟩, _⟩ := box4e BY.out
              simp only [ltR, ltT] at y0 y2
              go_wp2_with fail
              refine (implLaneValid_any ⟨ya, yc, yz, yat, yta, ytc, yts, true⟩ (some ⟨g, 0, none⟩) c' ys _ (by omega) S1.out HY.out).mono ?_
              rintro e wv ⟨rfl, bv⟩
              rw [HVY.out]
              clear y0 y1 y2 y3
              have HI := mkHid (HI.out.below bv)
              have S1 := mkHid (S1.out.below bv)
              have S2 := mkHid (S2.out.below bv)
              have BX := mkHid (BX.out.below bv)
              have HY := mkHid (HY.out.below bv)
              have SY := mkHid (SY.out.below bv)
              have BY := mkHid (BY.out.below bv)
              have HA := mkHid (HA.out.below bv)
              have SA := mkHid (SA.out.below bv)
              have BA := mkHid (BA.out.below bv)
              have HB := mkHid (HB.out.below bv)
              have SB := mkHid (SB.out.below bv)
              have BB := mkHid (BB.out.below bv)
              have BW := mkHid (below_then BW.out bv)
              clear bv
              obtain ⟨⟨y0, y1, y2, y3⟩, _⟩ := box4e BY.out
              simp only [ltR, ltT] at y0 y2
              obtain ⟨⟨b0, b1, b2, b3⟩, _⟩ := box4e BB.out
              simp only [ltR, ltT] at b0 b2
              go_wp2_with fail
              refine (sameLt_same ⟨ba, bc, bz, bat, bta, btc, bts, bw⟩ ⟨ya, yc, yz, yat, yta, ytc, yts, true⟩ _ (HSTB.out.trans HST3.out.symm) HB.out HY.out).mono ?_
              rintro e w13 ⟨rfl, b13⟩
              clear b0 b1 b2 b3 y0 y1 y2 y3
              have HI := mkHid (HI.out.below b13)
              have S1 := mkHid (S1.out.below b13)
              have S2 := mkHid (S2.out.below b13)
              have BX := mkHid (BX.out.below b13)
              have HY := mkHid (HY.out.below b13)
              have SY := mkHid (SY.out.below b13)
              have BY := mkHid (BY.out.below b13)
              have HA := mkHid (HA.out.below b13)
              have SA := mkHid (SA.out.below b13)
              have BA := mkHid (BA.out.below b13)
              have HB := mkHid (HB.out.below b13)
              have SB := mkHid (SB.out.below b13)
              have BB := mkHid (BB.out.below b13)
              have BW := mkHid (below_then BW.out b13)
              clear b13
              go_wp2_with fail
              refine (sameInts_same _ _ _ _ _ _ HL3.out SB.out SY.out).mono ?_
              rintro e w14 ⟨rfl, k14, rfl⟩
              go_wp2_with fail
              go_ret
              exact ⟨rfl, below_drewN BW.out k14⟩
            | false =>
              have hyat : (yat == (ys.length : Int)) = true := by
                rcases HYW.out with h | h
                · cases h
                · simpa using h
              obtain ⟨⟨y0, y1, y2, y3⟩, _⟩ := box4e BY.out
              simp only [ltR, ltT] at y0 y2
              go_wp2_with fail
              refine (implLaneValid_any ⟨ya, yc, yz, yat, yta, ytc, yts, false⟩ (some ⟨g, 0, none⟩) c' ys _ (by omega) S1.out HY.out).mono ?_
              rintro e wv ⟨rfl, bv⟩
              rw [HVY.out]
              clear y0 y1 y2 y3
              have HI := mkHid (HI.out.below bv)
              have S1 := mkHid (S1.out.below bv)
              have S2 := mkHid (S2.out.below bv)
              have BX := mkHid (BX.out.below bv)
              have HY := mkHid (HY.out.below bv)
              have SY := mkHid (SY.out.below bv)
              have BY := mkHid (BY.out.below bv)
              have HA := mkHid (HA.out.below bv)
              have SA := mkHid (SA.out.below bv)
              have BA := mkHid (BA.out.below bv)
              have HB := mkHid (HB.out.below bv)
              have SB := mkHid (SB.out.below bv)
              have BB := mkHid (BB.out.below bv)
              have BW := mkHid (below_then BW.out bv)
              clear bv
              obtain ⟨⟨y0, y1, y2, y3⟩, _⟩ := box4e BY.out
              simp only [ltR, ltT] at y0 y2
              obtain ⟨⟨b0, b1, b2, b3⟩, _⟩ := box4e BB.out
              simp only [ltR, ltT] at b0 b2
              go_wp2_with fail
              refine (sameLt_same ⟨ba, bc, bz, bat, bta, btc, bts, bw⟩ ⟨ya, yc, yz, yat, yta, ytc, yts, false⟩ _ (HSTB.out.trans HST3.out.symm) HB.out HY.out).mono ?_
              rintro e w13 ⟨rfl, b13⟩
              clear b0 b1 b2 b3 y0 y1 y2 y3
              have HI := mkHid (HI.out.below b13)
              have S1 := mkHid (S1.out.below b13)
              have S2 := mkHid (S2.out.below b13)
              have BX := mkHid (BX.out.below b13)
              have HY := mkHid (HY.out.below b13)
              have SY := mkHid (SY.out.below b13)
              have BY := mkHid (BY.out.below b13)
              have HA := mkHid (HA.out.below b13)
              have SA := mkHid (SA.out.below b13)
              have BA := mkHid (BA.out.below b13)
              have HB := mkHid (HB.out.below b13)
              have SB := mkHid (SB.out.below b13)
              have BB := mkHid (BB.out.below b13)
              have BW := mkHid (below_then BW.out b13)
              clear b13
              go_wp2_with fail
              refine (sameInts_same _ _ _ _ _ _ HL3.out SB.out SY.out).mono ?_
              rintro e w14 ⟨rfl, k14, rfl⟩
              go_wp2_with fail
              go_ret
              exact ⟨rfl, below_drewN BW.out k14⟩
namespace fnRunLane
set_option maxRecDepth 100000 in
theorem lifted (os : Os) (started : os.Started) (H : Type) (enc : TypeId × Value → H) :
    ReturnsInHanded {} Try.checked os 7 .any (Rows.fnRunLaneSpec.pre6 enc Try.prog Try.f7 Rows.fnRunLaneRow.domain false) (Rows.fnRunLaneSpec.post enc Try.prog Try.f7 false true false false) := by
  refine returnsInHanded_of_change (C := Try.checked) own started (by kernel_rfl) Try.func7
    (ChangeSpec.witness6 (enc := enc) (C := Try.checked) false ⟨#[], #[.slice none 0 0], []⟩ 8 (by kernel_rfl) (by kernel_rfl) (by kernel_rfl) (by kernel_rfl)) ?_
  intro W base args ds gs before hval0 hW hcnd _
  have hval : ∀ (j : Nat) t v, Try.f7.params[j]? = some t → args[j]? = some v → Value.okWide Try.prog W .any base t v := hval0
  have hW' := hW
  obtain ⟨p, q, hA0, hV, rfl, hfz, hnd⟩ := hW
  have hA : DataW.TrodAll enc Try.prog W 0 (fun _ => true) true Try.f7.params.toList args.toList ds p := hA0
  have hAk : DataW.TrodAll enc Try.prog W 0 (fun _ => true) true Try.f7.params.toList args.toList ds p := hA0
  rw [Try.params7] at hA hval
  obtain ⟨v0, vs0, d0, ds0, p0, q0, hargs, rfl, rfl, h0, r0⟩ := trodAll_cons hA
  obtain ⟨rfl, rfl, rfl⟩ := trodAll_nil r0
  obtain rfl : args = #[v0] := by cases args; simp_all
  obtain ⟨rfl, rfl⟩ := trodVars_none hV
  obtain ⟨Azs, czs, zs, rfl, nzs, kzs, szs, wzs⟩ := open_int_slice Try.underlying39 Try.underlying5 (by kernel_rfl) (hval 0 39 v0 rfl rfl) h0
  have wzs : ∀ z ∈ zs, 0 ≤ z ∧ z ≤ 255 := fun z hz => wf_u8_bounds (wzs z hz)
  clear hA0 hval0
  refine (runLane_walk Azs czs zs W nzs kzs szs wzs).mono fun e W' ⟨he, hb⟩ => ?_
  subst he
  refine ⟨_, rfl, post_true laidOut (fun t ht => ?_) (by kernel_rfl) Try.underlying4 rfl rfl hW' hAk hb⟩
  rw [Try.params7] at ht
  simp only [List.mem_cons, List.not_mem_nil, or_false] at ht
  first | (rcases ht with rfl <;> exact ⟨by kernel_rfl, of_decide_eq_true (by kernel_rfl)⟩) | (obtain rfl := ht; exact ⟨by kernel_rfl, of_decide_eq_true (by kernel_rfl)⟩)
/-- The statement. -/
theorem proved : Rows.FnRunLaneSaid :=
  OpenClaim.holds_of_wide 7 Try.f7 rfl rfl rfl rfl rfl rfl rfl ⟨rfl, rfl, rfl, rfl, rfl⟩ rfl rfl rfl rfl rfl (by kernel_rfl) Try.func7 (by kernel_rfl)
    (of_decide_eq_true (by kernel_rfl)) (by unfold Func.isWrapper; first | (rw [if_pos (by decide +kernel)]; kernel_rfl) | (rw [if_neg (by decide +kernel)]; exact ⟨rfl, rfl⟩))
    (fun os started H enc _ => lifted os started H enc)
end fnRunLane
#print axioms fnRunLane.proved
end Go.Proofs.Ytjmiilneennjaaa
