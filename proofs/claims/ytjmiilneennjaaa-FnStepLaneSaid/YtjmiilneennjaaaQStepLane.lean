/-
  Proved: FnStepLane returns true for every code.
-/
import Derived.Test.YtjmiilneennjaaaPart30
import Derived.Test.YtjmiilneennjaaaPart28
import Derived.Test.YtjmiilneennjaaaPart29
import Derived.Test.YtjmiilneennjaaaPart03
import Derived.Test.YtjmiilneennjaaaPart33
namespace Go.Proofs.Ytjmiilneennjaaa
open Go.ChangeShapes Go.WideShapes Go.ChangeAt Go.RowKit
set_option maxHeartbeats 2000000
set_option maxRecDepth 100000
set_option linter.unusedVariables false
set_option linter.unusedSimpArgs false

theorem below_drew1 {n : Nat} {a b : World} (h : Below n a b) : Below n a b.drew := ⟨h.os, h.tape, h.output, h.size, h.block⟩
theorem stepLane_walk (A : Option Addr) (c : Nat) (zs : List Int) (w : World) (hl : zs.length ≤ 9223372036854775807) (hcap : zs.length ≤ c) (hs : Sl w A (u8s zs)) (hz : ∀ z ∈ zs, 0 ≤ z ∧ z ≤ 255) :
    Calls Try.prog 8 #[.slice A zs.length c] w fun e w' => e = .returned (.bool true) ∧ Below w.heap.size w w' := by
  by_cases hbig : 1048576 < zs.length
  · go_enter Try.func8, Try.ntmps8
    go_wp2_with fail
    go_ret
    exact ⟨rfl, Below.refl _ _⟩
  · go_enter Try.func8, Try.ntmps8
    go_wp2_with fail
    refine (drawStepLane_any _ _ _ _ hl hcap hs hz).mono ?_
    rintro e w1 ⟨⟨xa, xc, xz, xat, xta, xtc, xts, xw⟩, g, c', ys, id, g2, c2, ms, rfl, hi, s1, hy, s2, hm, b1⟩
    obtain ⟨r, hr⟩ : ∃ r, r = stepTo ys (Lt.st ⟨xa, xc, xz, xat, xta, xtc, xts, xw⟩) id ms := ⟨_, rfl⟩
    have HR := mkHid hr
    have HI := mkHid hi
    have S1 := mkHid s1
    have S2 := mkHid s2
    have BW := mkHid b1
    clear hi s1 s2 b1 hr hs hz
    have hal : Below w1.heap.size w1 (w1.alloc (.cells #[.slice xa xz.length xc, .int .i64 xat, .slice xta xts.length xtc, .bool xw] 52)) := (Below.refl _ _).alloc (Nat.le_refl _) _
    have BX := mkHid (show LaneBox (w1.alloc (.cells #[.slice xa xz.length xc, .int .i64 xat, .slice xta xts.length xtc, .bool xw] 52)) w1.heap.size ⟨xa, xc, xz, xat, xta, xtc, xts, xw⟩ from heap_alloc_new w1 _)
    have HI := mkHid (HI.out.below hal)
    have S1 := mkHid (S1.out.below hal)
    have S2 := mkHid (S2.out.below hal)
    have BW := mkHid (below_then BW.out hal)
    clear hal
    obtain ⟨⟨x0, x1, x2, x3⟩, _⟩ := box4e BX.out
    simp only [ltR, ltT] at x0 x2
    go_wp2_with fail
    generalize w1.alloc (.cells #[.slice xa xz.length xc, .int .i64 xat, .slice xta xts.length xtc, .bool xw] 52) = w2 at *
    generalize w1.heap.size = X at *
    refine (show Calls _ _ _ _ (RetLM r w2) from by rw [HR.out]; exact implStepLane_any ⟨xa, xc, xz, xat, xta, xtc, xts, xw⟩ (some ⟨g, 0, none⟩) c' ys id (some ⟨g2, 0, none⟩) c2 ms w2 (by omega) (by omega) S1.out HI.out S2.out).mono ?_
    rintro e w3 ⟨⟨ya, yc, yz, yat, yta, ytc, yts, yw⟩, A3, c3, rfl, hst3, hap3, b3⟩
    have HY := mkHid hap3.laneW.1
    have SY := mkHid (show Sl w3 A3 (ints r.2) from hap3.laneW.2)
    have HST3 := mkHid hst3
    have HL3 := mkHid (own_max (hap3.1 _ (List.mem_cons_self ..)))
    clear hst3 hap3 x0 x1 x2 x3
    have HI := mkHid (HI.out.below b3)
    have S1 := mkHid (S1.out.below b3)
    have S2 := mkHid (S2.out.below b3)
    have BX := mkHid (BX.out.below b3)
    have BW := mkHid (below_then BW.out b3)
    clear b3
    have hal : Below w3.heap.size w3 (w3.alloc (.cells #[.slice ya yz.length yc, .int .i64 yat, .slice yta yts.length ytc, .bool yw] 52)) := (Below.refl _ _).alloc (Nat.le_refl _) _
    have BY := mkHid (show LaneBox (w3.alloc (.cells #[.slice ya yz.length yc, .int .i64 yat, .slice yta yts.length ytc, .bool yw] 52)) w3.heap.size ⟨ya, yc, yz, yat, yta, ytc, yts, yw⟩ from heap_alloc_new w3 _)
    have HI := mkHid (HI.out.below hal)
    have S1 := mkHid (S1.out.below hal)
    have S2 := mkHid (S2.out.below hal)
    have BX := mkHid (BX.out.below hal)
    have HY := mkHid (HY.out.below hal)
    have SY := mkHid (SY.out.below hal)
    have BW := mkHid (below_then BW.out hal)
    clear hal
    obtain ⟨⟨x0, x1, x2, x3⟩, _⟩ := box4e BX.out
    simp only [ltR, ltT] at x0 x2
    go_wp2_with fail
    generalize w3.alloc (.cells #[.slice ya yz.length yc, .int .i64 yat, .slice yta yts.length ytc, .bool yw] 52) = w4 at *
    generalize w3.heap.size = Y at *
    refine (show Calls _ _ _ _ (RetLM r w4) from by rw [HR.out]; exact specStepLane_any ⟨xa, xc, xz, xat, xta, xtc, xts, xw⟩ (some ⟨g, 0, none⟩) c' ys id (some ⟨g2, 0, none⟩) c2 ms w4 (by omega) (by omega) S1.out HI.out S2.out).mono ?_
    rintro e w5 ⟨⟨za, zc, zz, zat, zta, ztc, zts, zw⟩, A5, c5, rfl, hst5, hap5, b5⟩
    have HZ := mkHid hap5.laneW.1
    have SZ := mkHid (show Sl w5 A5 (ints r.2) from hap5.laneW.2)
    have HST5 := mkHid hst5
    clear hst5 hap5 x0 x1 x2 x3
    have HI := mkHid (HI.out.below b5)
    have S1 := mkHid (S1.out.below b5)
    have S2 := mkHid (S2.out.below b5)
    have BX := mkHid (BX.out.below b5)
    have HY := mkHid (HY.out.below b5)
    have SY := mkHid (SY.out.below b5)
    have BY := mkHid (BY.out.below b5)
    have BW := mkHid (below_then BW.out b5)
    clear b5
    have hal : Below w5.heap.size w5 (w5.alloc (.cells #[.slice za zz.length zc, .int .i64 zat, .slice zta zts.length ztc, .bool zw] 52)) := (Below.refl _ _).alloc (Nat.le_refl _) _
    have BZ := mkHid (show LaneBox (w5.alloc (.cells #[.slice za zz.length zc, .int .i64 zat, .slice zta zts.length ztc, .bool zw] 52)) w5.heap.size ⟨za, zc, zz, zat, zta, ztc, zts, zw⟩ from heap_alloc_new w5 _)
    have HI := mkHid (HI.out.below hal)
    have S1 := mkHid (S1.out.below hal)
    have S2 := mkHid (S2.out.below hal)
    have BX := mkHid (BX.out.below hal)
    have HY := mkHid (HY.out.below hal)
    have SY := mkHid (SY.out.below hal)
    have BY := mkHid (BY.out.below hal)
    have HZ := mkHid (HZ.out.below hal)
    have SZ := mkHid (SZ.out.below hal)
    have BW := mkHid (below_then BW.out hal)
    clear hal
    obtain ⟨⟨y0, y1, y2, y3⟩, _⟩ := box4e BY.out
    simp only [ltR, ltT] at y0 y2
    obtain ⟨⟨z0, z1, z2, z3⟩, _⟩ := box4e BZ.out
    simp only [ltR, ltT] at z0 z2
    go_wp2_with fail
    generalize w5.alloc (.cells #[.slice za zz.length zc, .int .i64 zat, .slice zta zts.length ztc, .bool zw] 52) = w6 at *
    generalize w5.heap.size = Z at *
    refine (sameLt_same ⟨ya, yc, yz, yat, yta, ytc, yts, yw⟩ ⟨za, zc, zz, zat, zta, ztc, zts, zw⟩ w6 (HST3.out.trans HST5.out.symm) HY.out HZ.out).mono ?_
    rintro e w7 ⟨rfl, b7⟩
    clear y0 y1 y2 y3 z0 z1 z2 z3 BZ
    have HI := mkHid (HI.out.below b7)
    have S1 := mkHid (S1.out.below b7)
    have S2 := mkHid (S2.out.below b7)
    have BX := mkHid (BX.out.below b7)
    have HY := mkHid (HY.out.below b7)
    have SY := mkHid (SY.out.below b7)
    have BY := mkHid (BY.out.below b7)
    have HZ := mkHid (HZ.out.below b7)
    have SZ := mkHid (SZ.out.below b7)
    have BW := mkHid (below_then BW.out b7)
    clear b7
    go_wp2_with fail
    refine (sameInts_same _ _ _ _ _ _ HL3.out SY.out SZ.out).mono ?_
    rintro e w8 ⟨rfl, k8, rfl⟩
    have b8 : Below w7.heap.size w7 (w7.drewN k8) := below_drewN (Below.refl _ _) k8
    clear HZ SZ HST5
    have HI := mkHid (HI.out.below b8)
    have S1 := mkHid (S1.out.below b8)
    have S2 := mkHid (S2.out.below b8)
    have BX := mkHid (BX.out.below b8)
    have HY := mkHid (HY.out.below b8)
    have SY := mkHid (SY.out.below b8)
    have BY := mkHid (BY.out.below b8)
    have BW := mkHid (below_then BW.out b8)
    clear b8
    generalize w7.drewN k8 = w8 at *
    cases hok : okS ys (Lt.st ⟨xa, xc, xz, xat, xta, xtc, xts, xw⟩) id ms with
    | false =>
      have hre : r = (lsNil, []) := by rw [HR.out]; unfold stepTo; rw [hok]; rfl
      subst hre
      obtain ⟨⟨y0, y1, y2, y3⟩, _⟩ := box4e BY.out
      simp only [ltR, ltT] at y0 y2
      have HSN := mkHid (sameLt_same ⟨ya, yc, yz, yat, yta, ytc, yts, yw⟩ ⟨none, 0, [], 0, none, 0, [], false⟩ w8 HST3.out HY.out ⟨⟨Sl.nil _ _, by simp⟩, ⟨Sl.nil _ _, by simp⟩⟩)
      go_wp2_with fail
      refine HSN.out.mono ?_
      rintro e w9 ⟨rfl, b9⟩
      clear HSN y0 y1 y2 y3
      have HI := mkHid (HI.out.below b9)
      have S1 := mkHid (S1.out.below b9)
      have S2 := mkHid (S2.out.below b9)
      have BX := mkHid (BX.out.below b9)
      have HY := mkHid (HY.out.below b9)
      have SY := mkHid (SY.out.below b9)
      have BY := mkHid (BY.out.below b9)
      have BW := mkHid (below_then BW.out b9)
      clear b9
      go_wp2_with fail
      refine (alive_any _).mono ?_
      rintro e w10 ⟨rfl, rfl⟩
      go_wp2_with fail
      go_ret
      exact ⟨rfl, BW.out⟩
    | true =>
      have ho := okS_iff.1 hok
      have HO := mkHid ho
      have hrs : r = stepS ys id (Lt.st ⟨xa, xc, xz, xat, xta, xtc, xts, xw⟩) ms := by rw [HR.out]; unfold stepTo; rw [hok]; rfl
      have HRS := mkHid hrs
      have hso := stepS_ok ho.prog ho.id8 ho.lane ho.mem
      rw [← hrs] at hso
      have HSO := mkHid hso
      have hlm : r.2.length = ms.length := hso.2.2
      have hpos : 1 ≤ ms.length := (memValid_parts.1 ho.mem).1.1
      have hb0 : ((r.2.length : Int) == 0) = false := by
        have : ¬ (r.2.length : Int) = 0 := by omega
        simpa using this
      have hpx : 0 ≤ xat ∧ xat ≤ (ys.length : Int) := ho.lane.pc
      have HLM := mkHid hlm
      have HPOS := mkHid hpos
      clear hok ho hrs hso hlm hpos
      cases xw with
      | true =>
        have HG : Hid (goesB ys.length (Lt.st ⟨xa, xc, xz, xat, xta, xtc, xts, true⟩) = false) := mkHid (goesB_no.2 (.inl rfl))
        clear hpx
        have hre : r = (Lt.st ⟨xa, xc, xz, xat, xta, xtc, xts, true⟩, ms) := by rw [HRS.out, stepS_rest HG.out]
        subst hre
        obtain ⟨⟨x0, x1, x2, x3⟩, _⟩ := box4e BX.out
        simp only [ltR, ltT] at x0 x2
        obtain ⟨⟨y0, y1, y2, y3⟩, _⟩ := box4e BY.out
        simp only [ltR, ltT] at y0 y2
        go_wp2_with fail
        refine (sameLt_same ⟨ya, yc, yz, yat, yta, ytc, yts, yw⟩ ⟨xa, xc, xz, xat, xta, xtc, xts, true⟩ w8 HST3.out HY.out HI.out).mono ?_
        rintro e w9 ⟨rfl, b9⟩
        clear x0 x1 x2 x3 y0 y1 y2 y3
        have HI := mkHid (HI.out.below b9)
        have S1 := mkHid (S1.out.below b9)
        have S2 := mkHid (S2.out.below b9)
        have BX := mkHid (BX.out.below b9)
        have HY := mkHid (HY.out.below b9)
        have SY := mkHid (SY.out.below b9)
        have BY := mkHid (BY.out.below b9)
        have BW := mkHid (below_then BW.out b9)
        clear b9
        go_wp2_with fail
        refine (sameInts_same _ _ _ _ _ _ HL3.out SY.out S2.out).mono ?_
        rintro e w10 ⟨rfl, k10, rfl⟩
        go_wp2_with fail
        go_ret
        exact ⟨rfl, below_drewN BW.out k10⟩
      | false =>
        by_cases hat : xat = (ys.length : Int)
        · have hbt : (xat == (ys.length : Int)) = true := by simpa using hat
          have HG : Hid (goesB ys.length (Lt.st ⟨xa, xc, xz, xat, xta, xtc, xts, false⟩) = false) := mkHid (goesB_no.2 (.inr hat))
          clear hat hpx
          have hre : r = (Lt.st ⟨xa, xc, xz, xat, xta, xtc, xts, false⟩, ms) := by rw [HRS.out, stepS_rest HG.out]
          subst hre
          obtain ⟨⟨x0, x1, x2, x3⟩, _⟩ := box4e BX.out
          simp only [ltR, ltT] at x0 x2
          obtain ⟨⟨y0, y1, y2, y3⟩, _⟩ := box4e BY.out
          simp only [ltR, ltT] at y0 y2
          go_wp2_with fail
          refine (sameLt_same ⟨ya, yc, yz, yat, yta, ytc, yts, yw⟩ ⟨xa, xc, xz, xat, xta, xtc, xts, false⟩ w8 HST3.out HY.out HI.out).mono ?_
          rintro e w9 ⟨rfl, b9⟩
          clear x0 x1 x2 x3 y0 y1 y2 y3
          have HI := mkHid (HI.out.below b9)
          have S1 := mkHid (S1.out.below b9)
          have S2 := mkHid (S2.out.below b9)
          have BX := mkHid (BX.out.below b9)
          have HY := mkHid (HY.out.below b9)
          have SY := mkHid (SY.out.below b9)
          have BY := mkHid (BY.out.below b9)
          have BW := mkHid (below_then BW.out b9)
          clear b9
          go_wp2_with fail
          refine (sameInts_same _ _ _ _ _ _ HL3.out SY.out S2.out).mono ?_
          rintro e w10 ⟨rfl, k10, rfl⟩
          go_wp2_with fail
          go_ret
          exact ⟨rfl, below_drewN BW.out k10⟩
        · have hbt : (xat == (ys.length : Int)) = false := by simpa using hat
          have HG : Hid (goesB ys.length (Lt.st ⟨xa, xc, xz, xat, xta, xtc, xts, false⟩) = true) := mkHid (goesB_parts.2 ⟨rfl, hat⟩)
          obtain ⟨p, rfl⟩ := Int.eq_ofNat_of_zero_le hpx.1
          have hpl : p < ys.length := by omega
          have hrd : r = doStep ys id p (codeAt ys p) (Lt.st ⟨xa, xc, xz, (p : Int), xta, xtc, xts, false⟩) ms := by rw [HRS.out, stepS_go HG.out]; rfl
          have HD : Hid (dif yz xz 4 + dif r.2 ms ms.length ≤ 1) := mkHid (by
            have h1 := doStep_dif ys id p (codeAt ys p) (Lt.st ⟨xa, xc, xz, (p : Int), xta, xtc, xts, false⟩) ms 4 ms.length
            rw [← hrd, ← HST3.out] at h1
            exact h1)
          have HNX : Hid (yat ∈ succs (ops ys) p) := mkHid (by
            have h1 := doStep_next (id := id) (mem := ms) HO.out.prog HO.out.lane hpl rfl
            rw [← hrd, ← HST3.out] at h1
            exact h1)
          have hxz4 : xz.length = 4 := HO.out.lane.regs
          have hyz4 : yz.length = 4 := by have := HSO.out.1.regs; rw [← HST3.out] at this; exact this
          have HX4 := mkHid hxz4
          have HY4 := mkHid hyz4
          have HPV := mkHid HO.out.prog
          have HPL := mkHid hpl
          have HVY : Hid (laneValid ys (Lt.st ⟨ya, yc, yz, yat, yta, ytc, yts, yw⟩) = true) := mkHid (by rw [HST3.out]; unfold laneValid; rw [HO.out.prog, laneOk_iff.2 HSO.out.1]; rfl)
          have HMV := mkHid HSO.out.2.1
          have HLVC := mkHid (fun W hs hy => implLaneValid_any ⟨ya, yc, yz, yat, yta, ytc, yts, yw⟩ (some ⟨g, 0, none⟩) c' ys W (by omega) hs hy)
          have HMVC := mkHid (fun W hs => implMemoryValid_any A3 c3 r.2 W (by have := HLM.out; omega) hs)
          simp only [HVY.out] at HLVC
          simp only [HMV.out] at HMVC
          clear hat hpx hrd hxz4 hyz4 hpl
          obtain ⟨⟨x0, x1, x2, x3⟩, _⟩ := box4e BX.out
          simp only [ltR, ltT] at x0 x2
          go_wp2_with fail
          clear x0 x1 x2 x3
          go_loopw [11, 12] (fun cv iv wr => ∃ k : Nat, k ≤ 4 ∧ iv = .int .i64 k ∧ (∃ d : Nat, cv = .int .i64 d ∧ Hid (d = dif yz xz k) ∧ d ≤ k) ∧ Below w8.heap.size w8 wr) (fun _ iv _ => 4 - (intOf iv).toNat)
          case atStart => exact ⟨0, by omega, rfl, ⟨0, rfl, mkHid rfl, by omega⟩, Below.refl _ _⟩
          case round =>
            obtain ⟨k, hk, rfl, ⟨d, rfl, HDD, hdk⟩, hb⟩ := hrel
            have HBR := mkHid hb
            have HI := mkHid (HI.out.below hb)
            have S1 := mkHid (S1.out.below hb)
            have S2 := mkHid (S2.out.below hb)
            have BX := mkHid (BX.out.below hb)
            have HY := mkHid (HY.out.below hb)
            have SY := mkHid (SY.out.below hb)
            have BY := mkHid (BY.out.below hb)
            have BW := mkHid (below_then BW.out hb)
            clear hb
            by_cases hk4 : k < 4
            · have h1 : k < yz.length := by have := HY4.out; omega
              have h2 : k < xz.length := by have := HX4.out; omega
              obtain ⟨bx, ox, hxa, hxc⟩ := HI.out.1.1.at_ (k := k) (by simpa [ints] using h2)
              obtain ⟨by_, oy, hya, hyc⟩ := HY.out.1.1.at_ (k := k) (by simpa [ints] using h1)
              simp only at hxa hya
              subst hxa hya
              have cx := hxc k _ (ints_at h2)
              have cy := hyc k _ (ints_at h1)
              have hgx : xz.getD k 0 = xz[k] := by simp [List.getD, h2]
              have hgy : yz.getD k 0 = yz[k] := by simp [List.getD, h1]
              have HDN : Hid (dif yz xz (k + 1) = dif yz xz k + (if yz[k] = xz[k] then 0 else 1)) := mkHid (by rw [← hgx, ← hgy]; rfl)
              have H12 := mkHid (And.intro h1 h2)
              have h14 : (k : Int) < (yz.length : Int) := by omega
              have h24 : (k : Int) < (xz.length : Int) := by omega
              generalize yz[k] = u at *
              generalize xz[k] = v at *
              clear hxc hyc hgx hgy h1 h2
              obtain ⟨⟨x0, x1, x2, x3⟩, _⟩ := box4e BX.out
              simp only [ltR, ltT] at x0 x2
              obtain ⟨⟨y0, y1, y2, y3⟩, _⟩ := box4e BY.out
              simp only [ltR, ltT] at y0 y2
              clear x1 x2 x3 y1 y2 y3
              have x0 := fun u : Drew wr => u.keeps x0
              have y0 := fun u : Drew wr => u.keeps y0
              have cx := fun u : Drew wr => u.keeps cx
              have cy := fun u : Drew wr => u.keeps cy
              by_cases e : u = v
              · have hne : (u != v) = false := by simpa using e
                have HDK : Hid (d = dif yz xz (k + 1)) := mkHid (by rw [HDN.out, if_pos e]; exact HDD.out)
                clear e
                go_wp2_with fail
                refine wp_region_drew (by kernel_rfl) (by kernel_rfl) ?_
                repeat (go_big_quiet_step (fail))
                refine wpQuiet_nil (drew_end fun Y m hY => ?_)
                clear x0 y0 cx cy
                subst hY
                go_wp2_with fail
                go_roundw
                case rel => exact ⟨k + 1, by omega, by go_num, ⟨d, rfl, HDK.out, by omega⟩, below_drewN HBR.out m⟩
                case measure => simp [intOf] <;> omega
              · have hne : (u != v) = true := by simpa using e
                have HDK : Hid (d + 1 = dif yz xz (k + 1)) := mkHid (by rw [HDN.out, if_neg e, ← HDD.out])
                clear e
                go_wp2_with fail
                refine wp_region_drew (by kernel_rfl) (by kernel_rfl) ?_
                repeat (go_big_quiet_step (fail))
                refine wpQuiet_nil (drew_end fun Y m hY => ?_)
                clear x0 y0 cx cy
                subst hY
                go_wp2_with fail
                go_roundw
                case rel => exact ⟨k + 1, by omega, by go_num, ⟨d + 1, by go_num, HDK.out, by omega⟩, below_drewN HBR.out m⟩
                case measure => simp [intOf] <;> omega
            · have hke : k = 4 := by omega
              have HKE := mkHid hke
              clear hke
              have HD4 : Hid (d + dif r.2 ms ms.length ≤ 1) := mkHid (by
                have h1 := HD.out
                have e : d = dif yz xz 4 := by rw [HDD.out, HKE.out]
                rw [← e] at h1; exact h1)
              clear HD
              have hd4 : d ≤ 4 := by omega
              generalize wr = w9 at *
              go_wp2_with fail
              clear hk4 hk hdk
              go_loopw [11, 13] (fun cv iv wr => ∃ k : Nat, k ≤ ms.length ∧ iv = .int .i64 k ∧ (∃ q : Nat, cv = .int .i64 q ∧ Hid (q = d + dif r.2 ms k) ∧ q ≤ 4 + k) ∧ Below w9.heap.size w9 wr) (fun _ iv _ => ms.length - (intOf iv).toNat)
              case atStart => exact ⟨0, by omega, rfl, ⟨d, rfl, mkHid rfl, by omega⟩, Below.refl _ _⟩
              case round =>
                obtain ⟨k, hk, rfl, ⟨q, rfl, HQQ, hqk⟩, hb⟩ := hrel
                have HBR9 := mkHid hb
                have HI := mkHid (HI.out.below hb)
                have S1 := mkHid (S1.out.below hb)
                have S2 := mkHid (S2.out.below hb)
                have BX := mkHid (BX.out.below hb)
                have HY := mkHid (HY.out.below hb)
                have SY := mkHid (SY.out.below hb)
                have BY := mkHid (BY.out.below hb)
                have BW := mkHid (below_then BW.out hb)
                clear hb
                by_cases hk4 : k < ms.length
                · have h1 : k < r.2.length := by have := HLM.out; omega
                  obtain ⟨bx, ox, hxa, hxc⟩ := S2.out.at_ (k := k) (by simpa [ints] using hk4)
                  obtain ⟨by_, oy, hya, hyc⟩ := SY.out.at_ (k := k) (by simpa [ints] using h1)
                  injection hxa with hxa
                  injection hxa with hxa hxb
                  subst hxa hxb hya
                  have cx := hxc k _ (ints_at hk4)
                  simp only [Nat.zero_add] at cx
                  have cy := hyc k _ (ints_at h1)
                  have hgx : ms.getD k 0 = ms[k] := by simp [List.getD, hk4]
                  have hgy : r.2.getD k 0 = r.2[k] := by simp [List.getD, h1]
                  have HDN : Hid (dif r.2 ms (k + 1) = dif r.2 ms k + (if r.2[k] = ms[k] then 0 else 1)) := mkHid (by rw [← hgx, ← hgy]; rfl)
                  have H12 := mkHid h1
                  have h14 : (k : Int) < (r.2.length : Int) := by omega
                  generalize r.2[k] = u at *
                  generalize ms[k] = v at *
                  clear hxc hyc hgx hgy h1
                  have cx := fun u : Drew wr => u.keeps cx
                  have cy := fun u : Drew wr => u.keeps cy
                  by_cases e : u = v
                  · have hne : (u != v) = false := by simpa using e
                    have HDK : Hid (q = d + dif r.2 ms (k + 1)) := mkHid (by rw [HDN.out, if_pos e]; exact HQQ.out)
                    clear e
                    go_wp2_with fail
                    refine wp_region_drew (by kernel_rfl) (by kernel_rfl) ?_
                    repeat (go_big_quiet_step (fail))
                    refine wpQuiet_nil (drew_end fun Y m hY => ?_)
                    clear cx cy
                    subst hY
                    go_wp2_with fail
                    go_roundw
                    case rel => (exact ⟨k + 1, by omega, by go_num, ⟨q, rfl, HDK.out, by omega⟩, below_drewN HBR9.out m⟩)
                    case measure => simp [intOf] <;> omega
                  · have hne : (u != v) = true := by simpa using e
                    have HDK : Hid (q + 1 = d + dif r.2 ms (k + 1)) := mkHid (by rw [HDN.out, if_neg e, HQQ.out]; omega)
                    clear e
                    go_wp2_with fail
                    refine wp_region_drew (by kernel_rfl) (by kernel_rfl) ?_
                    repeat (go_big_quiet_step (fail))
                    refine wpQuiet_nil (drew_end fun Y m hY => ?_)
                    clear cx cy
                    subst hY
                    go_wp2_with fail
                    go_roundw
                    case rel => exact ⟨k + 1, by omega, by go_num, ⟨q + 1, by go_num, HDK.out, by omega⟩, below_drewN HBR9.out m⟩
                    case measure => simp [intOf] <;> omega
                · have hke : k = ms.length := by omega
                  subst hke
                  have hq1 : q ≤ 1 := by have := HD4.out; have := HQQ.out; omega
                  clear HD4 hk4 hk hqk HQQ
                  generalize wr = w10 at *
                  go_wp2_with fail
                  refine (implGraphOf_any _ _ _ _ (by omega) S1.out).mono ?_
                  rintro e w11 ⟨Ag, cg, qs, rfl, hgq, hog, hapg, bg⟩
                  have hgr : Grid w11 Ag qs := hapg.grid (Sl.of_own hog) (gOf_small hgq)
                  have hpl := HPL.out
                  have hql : qs.length = (gOf ys).length := graph_length hgq
                  have hgl : (gOf ys).length = ys.length + 1 := by rw [gOf_yes HPV.out, graphOf_len, ops_len]
                  have hpq : p < qs.length := by omega
                  obtain ⟨rw_, hrw⟩ : ∃ z, z = qs[p]'hpq := ⟨_, rfl⟩
                  have hrz : rw_.zs = succs (ops ys) p := by
                    have h1 : (graph qs)[p]? = some rw_.zs := by rw [hrw]; simp [hpq]
                    have h2 : p < (ops ys).length := by rw [ops_len]; omega
                    rw [hgq, gOf_yes HPV.out] at h1
                    unfold graphOf at h1
                    rw [List.getElem?_append_left (by simpa using h2)] at h1
                    simpa [h2] using h1.symm
                  have HGR := mkHid hgr
                  have HYR : Hid (yat ∈ rw_.zs) := mkHid (by rw [hrz]; exact HNX.out)
                  have HGC : Hid (∀ W, Grid W Ag qs → ∃ b off, Ag = some ⟨b, off, none⟩ ∧ W.cell? ⟨b, off + p, none⟩ = some (.slice rw_.a rw_.zs.length rw_.c) ∧ Sl W rw_.a (ints rw_.zs) ∧ rw_.zs.length ≤ 9223372036854775807) := mkHid (fun W hW => by
                    obtain ⟨b, off, h1, h2, h3, _, h5⟩ := hW.at_ (k := p) hpq
                    rw [← hrw] at h2 h3 h5
                    exact ⟨b, off, h1, h2, h3, h5⟩)
                  generalize (gOf ys).length = G at *
                  have hpG : (p : Int) < (G : Int) := by omega
                  clear hog hapg hgr hrz hql hgl hpl hgq HNX HPL hpq hrw
                  have HI := mkHid (HI.out.below bg)
                  have S1 := mkHid (S1.out.below bg)
                  have S2 := mkHid (S2.out.below bg)
                  have BX := mkHid (BX.out.below bg)
                  have HY := mkHid (HY.out.below bg)
                  have SY := mkHid (SY.out.below bg)
                  have BY := mkHid (BY.out.below bg)
                  have BW := mkHid (below_then BW.out bg)
                  clear bg
                  go_wp2_with fail
                  go_loopw [14, 16] (fun nv iv wr => ∃ j : Nat, j ≤ rw_.zs.length ∧ iv = .int .i64 j ∧ (∃ nx : Bool, nv = .bool nx ∧ Hid (nx = true ∨ ∀ i (h : i < rw_.zs.length), i < j → rw_.zs[i] ≠ yat)) ∧ Below w11.heap.size w11 wr) (fun _ iv _ => rw_.zs.length - (intOf iv).toNat)
                  case atStart => exact ⟨0, by omega, rfl, ⟨false, rfl, mkHid (.inr fun i h hi => absurd hi (by omega))⟩, Below.refl _ _⟩
                  case round =>
                    obtain ⟨j, hj, rfl, ⟨nx, rfl, HNN⟩, hb⟩ := hrel
                    have HBR11 := mkHid hb
                    have HI := mkHid (HI.out.below hb)
                    have S1 := mkHid (S1.out.below hb)
                    have S2 := mkHid (S2.out.below hb)
                    have BX := mkHid (BX.out.below hb)
                    have HY := mkHid (HY.out.below hb)
                    have SY := mkHid (SY.out.below hb)
                    have BY := mkHid (BY.out.below hb)
                    have HGR := mkHid (HGR.out.below hb)
                    have BW := mkHid (below_then BW.out hb)
                    clear hb
                    obtain ⟨bg, og, hAg, gcell, grow, gmax⟩ := HGC.out _ HGR.out
                    subst hAg
                    obtain ⟨⟨x0, x1, x2, x3⟩, _⟩ := box4e BX.out
                    simp only [ltR, ltT] at x0 x2
                    obtain ⟨⟨y0, y1, y2, y3⟩, _⟩ := box4e BY.out
                    simp only [ltR, ltT] at y0 y2
                    by_cases hjl : j < rw_.zs.length
                    · obtain ⟨bz, oz, hza, hzc⟩ := grow.at_ (k := j) (by simpa [ints] using hjl)
                      have cz := hzc j _ (ints_at hjl)
                      rw [hza] at gcell
                      have hjl2 : (j : Int) < (rw_.zs.length : Int) := by omega
                      obtain ⟨z, hz⟩ : ∃ z, z = rw_.zs[j]'hjl := ⟨_, rfl⟩
                      have HZ := mkHid hz
                      rw [← hz] at cz
                      have ux1 := fun u : Drew wr => u.keeps x1
                      have uy1 := fun u : Drew wr => u.keeps y1
                      have ugc := fun u : Drew wr => u.keeps gcell
                      have ucz := fun u : Drew wr => u.keeps cz
                      clear hzc hza hz grow
                      cases nx with
                      | true =>
                        go_wp2_with fail
                        refine wp_region_drew (by kernel_rfl) (by kernel_rfl) ?_
                        repeat (go_big_quiet_step (fail))
                        refine wpQuiet_nil (drew_end fun Y m hY => ?_)
                        clear ux1 uy1 ugc ucz x1 y1 gcell cz x0 x2 x3 y0 y2 y3
                        subst hY
                        go_wp2_with fail
                        go_roundw
                        case rel => exact ⟨j + 1, by omega, by go_num, ⟨true, rfl, mkHid (.inl rfl)⟩, below_drewN HBR11.out m⟩
                        case measure => simp [intOf] <;> omega
                      | false =>
                        by_cases e : z = yat
                        · have hee : (z == yat) = true := by simpa using e
                          clear e
                          go_wp2_with fail
                          refine wp_region_drew (by kernel_rfl) (by kernel_rfl) ?_
                          repeat (go_big_quiet_step (fail))
                          refine wpQuiet_nil (drew_end fun Y m hY => ?_)
                          clear ux1 uy1 ugc ucz x1 y1 gcell cz x0 x2 x3 y0 y2 y3
                          subst hY
                          go_wp2_with fail
                          go_roundw
                          case rel => exact ⟨j + 1, by omega, by go_num, ⟨true, rfl, mkHid (.inl rfl)⟩, below_drewN HBR11.out m⟩
                          case measure => simp [intOf] <;> omega
                        · have hee : (z == yat) = false := by simpa using e
                          have HNW : Hid (∀ i (h : i < rw_.zs.length), i < j + 1 → rw_.zs[i] ≠ yat) := mkHid (fun i h hi => by
                            by_cases h3 : i < j
                            · rcases HNN.out with h4 | h4
                              · cases h4
                              · exact h4 i h h3
                            · have h5 : i = j := by omega
                              subst h5
                              rw [← HZ.out]; exact e)
                          clear e
                          go_wp2_with fail
                          refine wp_region_drew (by kernel_rfl) (by kernel_rfl) ?_
                          repeat (go_big_quiet_step (fail))
                          refine wpQuiet_nil (drew_end fun Y m hY => ?_)
                          clear ux1 uy1 ugc ucz x1 y1 gcell cz x0 x2 x3 y0 y2 y3
                          subst hY
                          go_wp2_with fail
                          go_roundw
                          case rel => exact ⟨j + 1, by omega, by go_num, ⟨false, rfl, mkHid (.inr HNW.out)⟩, below_drewN HBR11.out m⟩
                          case measure => simp [intOf] <;> omega
                    · have hje : j = rw_.zs.length := by omega
                      have hnx : nx = true := by
                        rcases HNN.out with h | h
                        · exact h
                        · exfalso
                          obtain ⟨i, hi, he⟩ := List.getElem_of_mem HYR.out
                          exact h i hi (by omega) he
                      subst hje hnx
                      have hq1' : (q : Int) ≤ 1 := by omega
                      clear grow hjl hj HNN
                      go_wp2_with fail
                      refine (HLVC.out _ S1.out HY.out).mono ?_
                      rintro e w12 ⟨rfl, b12⟩
                      clear x0 x1 x2 x3 y0 y1 y2 y3 gcell gmax
                      have HI := mkHid (HI.out.below b12)
                      have S1 := mkHid (S1.out.below b12)
                      have S2 := mkHid (S2.out.below b12)
                      have BX := mkHid (BX.out.below b12)
                      have HY := mkHid (HY.out.below b12)
                      have SY := mkHid (SY.out.below b12)
                      have BY := mkHid (BY.out.below b12)
                      have HGR := mkHid (HGR.out.below b12)
                      have BW := mkHid (below_then BW.out b12)
                      clear b12
                      go_wp2_with fail
                      refine (HMVC.out _ SY.out).mono ?_
                      rintro e w13 ⟨rfl, b13⟩
                      have BW13 := mkHid (below_then BW.out b13)
                      clear b13
                      have hlm := HLM.out
                      go_wp2_with fail
                      go_ret
                      exact ⟨rfl, BW13.out⟩
namespace fnStepLane
set_option maxRecDepth 100000 in
theorem lifted (os : Os) (started : os.Started) (H : Type) (enc : TypeId × Value → H) :
    ReturnsInHanded {} Try.checked os 8 .any (Rows.fnStepLaneSpec.pre6 enc Try.prog Try.f8 Rows.fnStepLaneRow.domain false) (Rows.fnStepLaneSpec.post enc Try.prog Try.f8 false true false false) := by
  refine returnsInHanded_of_change (C := Try.checked) own started (by kernel_rfl) Try.func8
    (ChangeSpec.witness6 (enc := enc) (C := Try.checked) false ⟨#[], #[.slice none 0 0], []⟩ 8 (by kernel_rfl) (by kernel_rfl) (by kernel_rfl) (by kernel_rfl)) ?_
  intro W base args ds gs before hval0 hW hcnd _
  have hval : ∀ (j : Nat) t v, Try.f8.params[j]? = some t → args[j]? = some v → Value.okWide Try.prog W .any base t v := hval0
  have hW' := hW
  obtain ⟨p, q, hA0, hV, rfl, hfz, hnd⟩ := hW
  have hA : DataW.TrodAll enc Try.prog W 0 (fun _ => true) true Try.f8.params.toList args.toList ds p := hA0
  have hAk : DataW.TrodAll enc Try.prog W 0 (fun _ => true) true Try.f8.params.toList args.toList ds p := hA0
  rw [Try.params8] at hA hval
  obtain ⟨v0, vs0, d0, ds0, p0, q0, hargs, rfl, rfl, h0, r0⟩ := trodAll_cons hA
  obtain ⟨rfl, rfl, rfl⟩ := trodAll_nil r0
  obtain rfl : args = #[v0] := by cases args; simp_all
  obtain ⟨rfl, rfl⟩ := trodVars_none hV
  obtain ⟨Azs, czs, zs, rfl, nzs, kzs, szs, wzs⟩ := open_int_slice Try.underlying39 Try.underlying5 (by kernel_rfl) (hval 0 39 v0 rfl rfl) h0
  have wzs : ∀ z ∈ zs, 0 ≤ z ∧ z ≤ 255 := fun z hz => wf_u8_bounds (wzs z hz)
  clear hA0 hval0
  refine (stepLane_walk Azs czs zs W nzs kzs szs wzs).mono fun e W' ⟨he, hb⟩ => ?_
  subst he
  refine ⟨_, rfl, post_true laidOut (fun t ht => ?_) (by kernel_rfl) Try.underlying4 rfl rfl hW' hAk hb⟩
  rw [Try.params8] at ht
  simp only [List.mem_cons, List.not_mem_nil, or_false] at ht
  first | (rcases ht with rfl <;> exact ⟨by kernel_rfl, of_decide_eq_true (by kernel_rfl)⟩) | (obtain rfl := ht; exact ⟨by kernel_rfl, of_decide_eq_true (by kernel_rfl)⟩)
/-- The statement. -/
theorem proved : Rows.FnStepLaneSaid :=
  OpenClaim.holds_of_wide 8 Try.f8 rfl rfl rfl rfl rfl rfl rfl ⟨rfl, rfl, rfl, rfl, rfl⟩ rfl rfl rfl rfl rfl (by kernel_rfl) Try.func8 (by kernel_rfl)
    (of_decide_eq_true (by kernel_rfl)) (by unfold Func.isWrapper; first | (rw [if_pos (by decide +kernel)]; kernel_rfl) | (rw [if_neg (by decide +kernel)]; exact ⟨rfl, rfl⟩))
    (fun os started H enc _ => lifted os started H enc)
end fnStepLane
#print axioms fnStepLane.proved
end Go.Proofs.Ytjmiilneennjaaa
