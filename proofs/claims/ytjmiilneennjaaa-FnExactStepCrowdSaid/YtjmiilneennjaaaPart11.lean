/-
  Parts of a proof: CLaneV2.
-/
import Derived.Test.YtjmiilneennjaaaPart10
import Derived.IntWalk
namespace Go.Proofs.Ytjmiilneennjaaa
open Go.RowKit
set_option maxHeartbeats 4000000
set_option maxRecDepth 100000
set_option linter.unusedVariables false

def loopPs (xs : List Cd) (t : List Nat) : List Int := (t.filter fun b => opAt (ops xs) b == 13).map fun b : Nat => (b : Int)
theorem loopPs_len (xs : List Cd) (t : List Nat) : (loopPs xs t).length ≤ t.length := by
  unfold loopPs; rw [List.length_map]; exact List.length_filter_le _ _
theorem l6Loops_any (LA : Option Addr) (lc : Nat) (xs : List Cd) (p : Nat) (w : World) (hv : progValid xs = true) (hp : p ≤ xs.length) (hs : Sl w LA (cflat xs)) :
    Calls Try.prog 82 #[.slice LA xs.length lc, .int .i64 p] w fun e w' => ∃ g n' c', e = .returned (.slice (some ⟨g, 0, none⟩) n' c') ∧ n' = (loopsAt xs p).length ∧ w'.ownsRow w.heap.size 3 1 (.slice (some ⟨g, 0, none⟩) n' c') n' (ints (loopPs xs (stk (ops xs) p))) ∧ Below w.heap.size w w' := by
  have h40 := (progValid_yes hv).1
  have HS := mkHid hs
  have HVV := mkHid hv
  have HAR := mkHid (fun (q : Nat) (hq : q ≤ xs.length) (X : World) (hX : Below w.heap.size w X) => by
    have h := l4Around_any LA lc xs q X (by omega) hq (hs.below hX)
    rw [arnd_top (progValid_ok hv hq)] at h
    exact h)
  clear hs hv
  go_enter Try.func82, Try.ntmps82
  go_wp2_with fail
  refine (HAR.out p hp _ ((Below.refl _ _).alloc (Nat.le_refl _) _)).mono ?_
  rintro e w1 ⟨rfl, b1⟩
  have HO1 := mkHid (own_below (own_emptyB w 3 (Nat.le_refl _) rfl) b1)
  have HB1 := mkHid (((Below.refl w.heap.size w).alloc (Nat.le_refl _) _).trans (b1.mono (by simp)))
  clear b1
  go_wp2_with fail
  go_loopw [5, 6] (fun ov kv wr => ∃ q : Nat, q ≤ p ∧ Hid (kv = .int .i64 (topOf (ops xs) q)) ∧ ∃ t : List Nat, Hid (stk (ops xs) p = stk (ops xs) q ++ t) ∧ t.length ≤ 3 ∧ ∃ g n' c', ov = .slice (some ⟨g, 0, none⟩) n' c' ∧ Hid (n' = (loopPs xs t).length) ∧ n' ≤ 3 ∧ wr.ownsRow w.heap.size 3 1 (.slice (some ⟨g, 0, none⟩) n' c') n' (ints (loopPs xs t)) ∧ Below w.heap.size w wr) (fun _ kv _ => (intOf kv + 1).toNat)
  case atStart => exact ⟨p, Nat.le_refl _, mkHid rfl, [], mkHid (by simp), by simp, w.heap.size, 0, 0, rfl, mkHid rfl, by omega, by simpa [loopPs, ints] using HO1.out, HB1.out⟩
  case round =>
    clear HO1 HB1
    obtain ⟨q, hq, HKV, t, HT, htl, g, n', c', rfl, HN, hn3, hown, hb⟩ := hrel
    have HO := mkHid hown
    have HB := mkHid hb
    have hkv := HKV.out
    cases hl : (stk (ops xs) q).getLast? with
    | none =>
      have htop : topOf (ops xs) q = -1 := by unfold topOf; rw [hl]
      rw [htop] at hkv
      subst hkv
      have hnil := stk_some hl
      have HE := mkHid (show stk (ops xs) p = t from by rw [HT.out, hnil]; rfl)
      clear hl htop hnil HKV hown hb
      go_wp2_with fail
      go_ret
      refine ⟨g, n', c', rfl, ?_, by rw [HE.out]; exact HO.out, HB.out⟩
      rw [HN.out, ← HE.out]
      simp [loopPs, loopsAt]
    | some b =>
      have htop := topOf_some hl
      rw [htop] at hkv
      subst hkv
      have hbq := last_lt hl
      have hst := stk_top hl
      have hbx : b < xs.length := by omega
      have HT2 := mkHid (show stk (ops xs) p = stk (ops xs) b ++ (b :: t) from by rw [HT.out, hst]; simp)
      have ht3 : (b :: t).length ≤ 3 := by
        have h1 := stk_three (progValid_ok HVV.out hp)
        rw [HT2.out, List.length_append] at h1
        omega
      obtain ⟨lb, lo, hA, c0, c1, c2, c3⟩ := (HS.out.below hb).cd hbx
      have hopb := codeAt_op hbx
      rw [codeAt_at hbx] at hopb
      obtain ⟨op, hop⟩ : ∃ op, op = xs[b].op := ⟨_, rfl⟩
      rw [← hop] at c0 hopb
      have HOP := mkHid hopb
      have hbi0 : (0 : Int) ≤ (b : Int) := by omega
      have hbi1 : (b : Int) < (xs.length : Int) := by omega
      have hbp : b ≤ xs.length := by omega
      have HTP := mkHid htop
      subst hA
      clear hl htop HKV hst hown hb c1 c2 c3 hop hopb
      have hsz := HB.out.size
      by_cases h13 : op = 13
      · subst h13
        have HPS := mkHid (show loopPs xs (b :: t) = (b : Int) :: loopPs xs t from by unfold loopPs; rw [List.filter_cons_of_pos (by rw [HOP.out]; rfl)]; rfl)
        have hlit := World.ownsRow_lit (w := wr) (base := w.heap.size) (e := 3) (size := 1) #[.int .i64 b] 1 hsz (by simp [maxLen]) (by simp)
        have HLIT := mkHid hlit
        have HNEWS := mkHid (show ∀ j u, (ints (loopPs xs t))[j]? = some u → (wr.alloc (.cells #[.int .i64 b] 3)).cell? ((⟨g, 0, none⟩ : Addr).add j) = some u from (HO.out.alloc _).cells rfl)
        have HONE := mkHid (ints_one (loopPs xs t))
        have HLEN := mkHid (show (ints (loopPs xs t)).length = n' * 1 from by rw [HN.out]; simp [ints])
        clear hlit
        go_wp2_with (at_builtin; refine wpList_appS Ei HLIT.out HNEWS.out HLEN.out HONE.out (by omega) (by omega) (by simp only [World.size_alloc]; omega) rfl rfl rfl rfl ?_; intro g4 c4 w4 hown4 hg4; have HO4 := mkHid hown4; have HG4 := mkHid hg4; clear hown4 hg4)
        have HB4 := mkHid ((HB.out.alloc hsz (.cells #[.int .i64 b] 3)).grown HG4.out (by simp only [World.size_alloc]; omega) (fun g' e => by injection e with e; omega))
        refine (HAR.out b hbp _ HB4.out).mono ?_
        rintro e w5 ⟨rfl, b5⟩
        have HO5 := mkHid (own_below HO4.out b5)
        have HB5 := mkHid (HB4.out.trans (b5.mono HB4.out.size))
        clear b5
        have HM := mkHid (show (topOf (ops xs) b + 1).toNat < ((b : Int) + 1).toNat from by
          have h1 := arnd_bound (ops xs) b 0
          rw [arnd_top (progValid_ok HVV.out hbp)] at h1
          omega)
        go_wp2_with fail
        go_roundw
        case rel =>
          refine ⟨b, by omega, mkHid rfl, b :: t, HT2, ht3, g4, 1 + n', c4, rfl, mkHid (by rw [HPS.out, HN.out, List.length_cons]; omega), ?_, ?_, HB5.out⟩
          · have h1 := loopPs_len xs (b :: t)
            rw [HPS.out, List.length_cons, ← HN.out] at h1
            omega
          · rw [HPS.out]
            have := HO5.out
            simpa [ints] using this
        case measure => simp only [intOf]; exact HM.out
      · have n13 : (op == 13) = false := by simpa using h13
        have HPS := mkHid (show loopPs xs (b :: t) = loopPs xs t from by unfold loopPs; rw [List.filter_cons_of_neg (by rw [HOP.out, n13]; simp)])
        clear h13
        have HM := mkHid (show (topOf (ops xs) b + 1).toNat < ((b : Int) + 1).toNat from by
          have h1 := arnd_bound (ops xs) b 0
          rw [arnd_top (progValid_ok HVV.out hbp)] at h1
          omega)
        go_wp2_with fail
        refine (HAR.out b hbp _ HB.out).mono ?_
        rintro e w5 ⟨rfl, b5⟩
        have HO5 := mkHid (own_below HO.out b5)
        have HB5 := mkHid (HB.out.trans (b5.mono HB.out.size))
        clear b5
        go_wp2_with fail
        go_roundw
        case rel => exact ⟨b, by omega, mkHid rfl, b :: t, HT2, ht3, g, n', c', rfl, mkHid (by rw [HPS.out]; exact HN.out), hn3, by rw [HPS.out]; exact HO5.out, HB5.out⟩
        case measure => simp only [intOf]; exact HM.out
theorem allUpto {zs : List Int} {f : Int → Bool} {j : Nat} (h : j < zs.length) : (zs.take (j + 1)).all f = ((zs.take j).all f && f zs[j]) := by
  rw [List.take_succ_eq_append_getElem h, List.all_append]; simp
theorem loopPs_get {xs : List Cd} {p j : Nat} (hj : j < (loopsAt xs p).length) : (ints (loopPs xs (stk (ops xs) p)))[j]? = some (.int .i64 (((loopsAt xs p)[j] : Nat) : Int)) := by
  have e : loopPs xs (stk (ops xs) p) = (loopsAt xs p).map fun b : Nat => (b : Int) := rfl
  rw [e]
  simp [ints, hj]
theorem specLaneValid_any (l : Lt) (LA : Option Addr) (lc : Nat) (xs : List Cd) (w : World) (hl : xs.length ≤ 1048576) (hs : Sl w LA (cflat xs)) (hi : LaneIn w l) :
    Calls Try.prog 39 #[ltV l, .slice LA xs.length lc] w fun e w' => e = .returned (.bool (laneValid xs l.st)) ∧ Below w.heap.size w w' := by
  have hal : Below w.heap.size w (w.alloc (.cells #[.slice l.ra l.zs.length l.rc, .int .i64 l.at_, .slice l.ta l.ts.length l.tc, .bool l.wt] 52)) := (Below.refl _ _).alloc (Nat.le_refl _) _
  have hbx : LaneBox (w.alloc (.cells #[.slice l.ra l.zs.length l.rc, .int .i64 l.at_, .slice l.ta l.ts.length l.tc, .bool l.wt] 52)) w.heap.size l := heap_alloc_new _ _
  have HV1 := mkHid (specProgramValid_any LA lc xs _ hl (hs.below hal))
  obtain ⟨v1, hv1⟩ : ∃ v, v = progValid xs := ⟨_, rfl⟩
  rw [← hv1] at HV1
  have HB0 := mkHid hal
  have HX0 := mkHid hbx
  have HS0 := mkHid (hs.below hal)
  have HI0 := mkHid (hi.below hal)
  have H1 := mkHid hv1
  have HNO := mkHid (fun h => laneValid_false (xs := xs) (s := l.st) h)
  have HALL := mkHid (fun h1 h2 h3 h4 h5 => laneValid_all (xs := xs) (s := l.st) h1 h2 h3 h4 h5)
  obtain ⟨res, hres⟩ : ∃ res, res = laneValid xs l.st := ⟨_, rfl⟩
  rw [← hres] at HNO HALL ⊢
  clear hal hbx hs hi hv1 hres
  have HWI := mkHid (fun X => l1In_any l.at_ 0 (xs.length : Int) X)
  obtain ⟨v2, hv2⟩ : ∃ v, v = inB l.at_ 0 (xs.length : Int) := ⟨_, rfl⟩
  have H2 := mkHid hv2
  rw [← hv2] at HWI
  clear hv2
  go_enter Try.func39, Try.ntmps39
  go_wp2_with fail
  refine HV1.out.mono ?_
  rintro e w1 ⟨rfl, b1⟩
  have HX1 := mkHid (HX0.out.below b1)
  have HI1 := mkHid (HI0.out.below b1)
  have HS1 := mkHid (HS0.out.below b1)
  have HB1 := mkHid (HB0.out.trans (b1.mono HB0.out.size))
  obtain ⟨⟨q0, q1, q2, q3⟩, _⟩ := box4t HX1.out
  clear b1 HX0 HI0 HS0 HB0 HV1
  cases v1 with
  | false =>
    go_wp2_with fail
    go_ret
    exact ⟨ret_bool (HNO.out (.inl H1.out.symm)).symm, HB1.out⟩
  | true =>
    by_cases h4 : l.zs.length = 4
    case neg =>
      have h4b : ((l.zs.length : Int) != 4) = true := by rw [bne_iff_ne]; omega
      have H4 := mkHid h4
      clear h4
      go_wp2_with fail
      go_ret
      exact ⟨ret_bool (HNO.out (.inr (.inr (.inl (by simpa using H4.out))))).symm, HB1.out⟩
    have H4 := mkHid h4
    obtain ⟨tb, to_, hra, htc0⟩ := HI1.out.1.1.at_ (k := 0) (by simp [ints]; omega)
    have HRA := mkHid hra
    rw [h4, hra] at q0
    clear h4 hra htc0
    go_wp2_with fail
    refine (HWI.out _).mono ?_
    rintro e w' ⟨rfl, rfl⟩
    cases v2 with
    | false =>
      go_wp2_with fail
      go_ret
      exact ⟨ret_bool (HNO.out (.inr (.inl H2.out.symm))).symm, HB1.out⟩
    | true =>
      have hpc := inB_t H2.out.symm
      obtain ⟨p, hp⟩ : ∃ p : Nat, l.at_ = p := Int.eq_ofNat_of_zero_le hpc.1
      have hpl : p ≤ xs.length := by omega
      have HP := mkHid hp
      rw [hp] at q1
      have HN4 := mkHid (show l.zs.all (fun z => inB z 0 255) = false → res = false from fun h => HNO.out (.inr (.inr (.inr (.inl h)))))
      have HN5 := mkHid (show waitOk xs l.st = false → res = false from fun h => HNO.out (.inr (.inr (.inr (.inr (.inl h))))))
      have HN6 := mkHid (show turnsOk (loopBs xs p) l.ts = false → res = false from fun h => HNO.out (.inr (.inr (.inr (.inr (.inr (by rw [show l.st.pc.toNat = p from by show l.at_.toNat = p; omega]; exact h)))))))
      have HA5 := mkHid (show l.zs.all (fun z => inB z 0 255) = true → waitOk xs l.st = true → res = turnsOk (loopBs xs p) l.ts from fun h3 h => by
        have := HALL.out H1.out.symm H2.out.symm (by simpa using H4.out) h3 h
        rw [show l.st.pc.toNat = p from by show l.at_.toNat = p; omega] at this
        exact this)
      have HPV := mkHid H1.out.symm
      clear hp hpc HNO HALL H2
      go_wp2_with fail
      go_loop [5] (fun i => ∃ j : Nat, j ≤ 4 ∧ i = .int .i64 j ∧ Hid ((l.zs.take j).all (fun z => inB z 0 255) = true)) (fun i => 4 - (intOf i).toNat)
      case atStart => exact ⟨0, by omega, rfl, mkHid rfl⟩
      case round =>
        obtain ⟨j, hj, rfl, HUP⟩ := hrel
        by_cases hjl : j < 4
        · have hj1 : j < l.zs.length := by rw [H4.out]; exact hjl
          obtain ⟨tb', to', hta, htc⟩ := HI1.out.1.1.at_ (k := j) (by simpa [ints] using hj1)
          have t1 := htc j _ (ints_at hj1)
          rw [HRA.out] at hta
          injection hta with hta
          injection hta with hta1 hta2
          subst hta1 hta2
          have HST := mkHid (allUpto (f := fun z => inB z 0 255) hj1)
          have HNN := mkHid (show inB l.zs[j] 0 255 = false → l.zs.all (fun z => inB z 0 255) = false from fun h => by
            rw [List.all_eq_false]
            exact ⟨_, List.getElem_mem hj1, by rw [h]; simp⟩)
          have hC := fun X => l2Word_any l.zs[j] X
          obtain ⟨z, hz⟩ : ∃ z, z = l.zs[j] := ⟨_, rfl⟩
          simp only [← hz] at t1 HST HNN hC
          obtain ⟨iv, hiv⟩ : ∃ iv, iv = inB z 0 255 := ⟨_, rfl⟩
          rw [← hiv] at hC HNN HST
          have HC := mkHid hC
          clear htc hz hiv hC
          cases iv with
          | false =>
            go_wp2_with fail
            refine (HC.out _).mono ?_
            rintro e w' ⟨rfl, rfl⟩
            go_wp2_with fail
            go_ret
            exact ⟨ret_bool (HN4.out (HNN.out trivial)).symm, HB1.out⟩
          | true =>
            go_wp2_with fail
            refine (HC.out _).mono ?_
            rintro e w' ⟨rfl, rfl⟩
            go_wp2_with fail
            go_round
            case rel => exact ⟨j + 1, by omega, by go_num, mkHid (by rw [HST.out, HUP.out]; rfl)⟩
            case measure => simp [intOf] <;> omega
        · have hje : j = 4 := by omega
          subst hje
          have HW4 := mkHid (show l.zs.all (fun z => inB z 0 255) = true from by have := HUP.out; rwa [List.take_of_length_le (by rw [H4.out]; exact Nat.le_refl _)] at this)
          have HLP := mkHid (l6Loops_any LA lc xs p w1 HPV.out hpl HS1.out)
          clear HUP q0
          go_wp2_with fail
          refine HLP.out.mono ?_
          rintro e w2 ⟨g, n', c', rfl, hn', hown, b2⟩
          have HNL := mkHid hn'
          have HO := mkHid hown
          have HX2 := mkHid (HX1.out.below b2)
          have HI2 := mkHid (HI1.out.below b2)
          have HS2 := mkHid (HS1.out.below b2)
          have HB2 := mkHid (HB1.out.trans (b2.mono HB1.out.size))
          have hn3 : n' ≤ 3 := by rw [hn']; exact loops_three HPV.out hpl
          clear b2 q1 q2 q3 hown hn' HX1 HI1 HS1 HB1 HLP
          obtain ⟨⟨q0, q1, q2, q3⟩, _⟩ := box4t HX2.out
          rw [HP.out] at q1
          by_cases hlen : n' = l.ts.length
          case neg =>
            have HR := mkHid (HN6.out (turnsOk_len (by rw [show (loopBs xs p).length = n' from by rw [HNL.out]; simp [loopBs]]; exact hlen)))
            have hne : ((n' : Int) != (l.ts.length : Int)) = true := by rw [bne_iff_ne]; omega
            clear hlen
            go_wp2_with fail
            go_ret
            exact ⟨ret_bool HR.out.symm, HB2.out⟩
          have HLEN := mkHid hlen
          rw [← hlen] at q2
          clear hlen
          have HBL := mkHid (show (loopBs xs p).length = l.ts.length from by rw [← HLEN.out, HNL.out]; simp [loopBs])
          have hta : ∃ tb2 to2, n' = 0 ∨ l.ta = some ⟨tb2, to2, none⟩ := by
            rcases Nat.eq_zero_or_pos n' with h0 | h0
            · exact ⟨0, 0, .inl h0⟩
            · obtain ⟨a, b, h, _⟩ := HI2.out.2.1.at_ (k := 0) (by rw [ints, List.length_map, ← HLEN.out]; exact h0)
              exact ⟨a, b, .inr h⟩
          obtain ⟨tb2, to2, hta⟩ := hta
          have HTA := mkHid hta
          have hcap : n' ≤ c' := own_cap HO.out
          clear hta q0
          go_wp2_with fail
          go_loopw [7] (fun i wr => ∃ j : Nat, j ≤ n' ∧ i = .int .i64 j ∧ Hid (turnsUpto (loopBs xs p) l.ts j = true) ∧ Below w2.heap.size w2 wr) (fun i _ => n' - (intOf i).toNat)
          case atStart => exact ⟨0, by omega, rfl, mkHid rfl, Below.refl _ _⟩
          case round =>
            clear q1 q2 q3
            obtain ⟨j, hj, rfl, HUP, hbw⟩ := hrel
            have HBW := mkHid hbw
            by_cases hjl : j < n'
            · have hj1 : j < l.ts.length := by rw [← HLEN.out]; exact hjl
              have hj2 : j < (loopBs xs p).length := by rw [HBL.out]; exact hj1
              have hj3 : j < (loopsAt xs p).length := by rw [← HNL.out]; exact hjl
              obtain ⟨⟨q0, q1, q2, q3⟩, _⟩ := box4t (HX2.out.below hbw)
              rw [HTA.out.resolve_left (by omega), ← HLEN.out] at q2
              obtain ⟨tb', to', hta, htc⟩ := (HI2.out.below hbw).2.1.at_ (k := j) (by simpa [ints] using hj1)
              have t1 := htc j _ (ints_at hj1)
              rw [HTA.out.resolve_left (by omega)] at hta
              injection hta with hta
              injection hta with hta1 hta2
              subst hta1 hta2
              obtain ⟨lb2, lo2, hla, hlc⟩ := (Sl.of_own (own_below HO.out hbw)).at_ (k := j) (by simp [ints, loopPs]; exact hj3)
              injection hla with hla
              injection hla with hla1 hla2
              subst hla1 hla2
              have t2 := hlc j _ (loopPs_get hj3)
              rw [Nat.zero_add] at t2
              have HST := mkHid (turnsUpto_s (loopBs xs p) l.ts j)
              simp only [List.getD, List.getElem?_eq_getElem hj1, List.getElem?_eq_getElem hj2, Option.getD_some] at HST
              have HU1 := turnsOk_no (bs := loopBs xs p) (ts := l.ts) hj1
              simp only [List.getD, List.getElem?_eq_getElem hj1, List.getElem?_eq_getElem hj2, Option.getD_some] at HU1
              have hbe : (loopBs xs p)[j] = (codeAt xs (loopsAt xs p)[j]).b := by simp [loopBs]
              have hbb := loopBs_in HPV.out hpl _ (List.getElem_mem hj2)
              rw [hbe] at HU1 HST hbb
              have hm := loops_mem (List.getElem_mem hj3)
              obtain ⟨b, hb⟩ : ∃ b, b = (loopsAt xs p)[j] := ⟨_, rfl⟩
              rw [← hb] at t2 HU1 HST hbb hm
              have hbx : b < xs.length := by omega
              obtain ⟨lb, lo, hA, c0, c1, c2, c3⟩ := (HS2.out.below hbw).cd hbx
              rw [codeAt_at hbx] at HU1 HST hbb
              obtain ⟨tv, htv⟩ : ∃ tv, tv = l.ts[j] := ⟨_, rfl⟩
              obtain ⟨bv, hbv⟩ : ∃ bv, bv = xs[b].b := ⟨_, rfl⟩
              rw [← htv] at t1 HU1 HST
              rw [← hbv] at c2 HU1 HST hbb
              have HUN := mkHid HU1
              have hC := fun X => l1In_any tv 0 (bv - 1) X
              obtain ⟨iv, hiv⟩ : ∃ iv, iv = inB tv 0 (bv - 1) := ⟨_, rfl⟩
              rw [← hiv] at hC HUN HST
              have HC := mkHid hC
              have hbi0 : (0 : Int) ≤ (b : Int) := by omega
              have hbi1 : (b : Int) < (xs.length : Int) := by omega
              have hji0 : (0 : Int) ≤ (j : Int) := by omega
              have hji1 : (j : Int) < (n' : Int) := by omega
              have hwx : IntKind.i64.wrap (bv - 1) = bv - 1 := IntWalk.i64_in _ (by omega)
              subst hA
              have t1 := fun u : Ext wr => u.keeps t1
              have t2 := fun u : Ext wr => u.keeps t2
              have c2 := fun u : Ext wr => u.keeps c2
              have q2 := fun u : Ext wr => u.keeps q2
              clear htc hlc hb hbe hm hbx c0 c1 c3 htv hbv hiv hC HU1 q0 q1 q3 hbw hj1 hj2 hj3
              cases iv with
              | false =>
                go_wp2_with fail
                refine wp_region_ext (by kernel_rfl) (by kernel_rfl) ?_
                repeat (go_big_quiet_step ((go_at_call 41; with_reducible exact ext_call_same (HC.out _))))
                refine wpQuiet_nil (ext_end fun X hX => ?_)
                clear t1 t2 c2 q2
                have HXX := mkHid hX
                clear hX
                go_wp2_with fail
                go_ret
                exact ⟨ret_bool (HN6.out (HUN.out trivial)).symm, HB2.out.trans ((below_then HBW.out HXX.out).mono HB2.out.size)⟩
              | true =>
                go_wp2_with fail
                refine wp_region_ext (by kernel_rfl) (by kernel_rfl) ?_
                repeat (go_big_quiet_step ((go_at_call 41; with_reducible exact ext_call_same (HC.out _))))
                refine wpQuiet_nil (ext_end fun X hX => ?_)
                clear t1 t2 c2 q2
                have HXX := mkHid hX
                clear hX
                go_wp2_with fail
                go_roundw
                case rel => exact ⟨j + 1, by omega, by go_num, mkHid (by rw [HST.out, HUP.out]; rfl), below_then HBW.out HXX.out⟩
                case measure => simp [intOf] <;> omega
            · have hje : j = n' := by omega
              have HTO := mkHid (show turnsOk (loopBs xs p) l.ts = true from by rw [turnsOk_all HBL.out, ← HLEN.out, ← hje, HUP.out])
              obtain ⟨⟨q0, q1, q2, q3⟩, _⟩ := box4t (HX2.out.below hbw)
              rw [HP.out] at q1
              obtain ⟨wt, hwt⟩ : ∃ wt, wt = l.wt := ⟨_, rfl⟩
              have HWT := mkHid hwt
              rw [← hwt] at q3
              have HA6 := mkHid (show ∀ v, waitOk xs l.st = v → res = v from fun v h => by
                cases v with
                | false => exact HN5.out h
                | true => rw [HA5.out HW4.out h, HTO.out])
              have HBF := mkHid (HB2.out.trans (hbw.mono HB2.out.size))
              have HSF := mkHid (HS2.out.below hbw)
              clear hwt hje HUP hbw q0 q2
              cases wt with
              | false =>
                have HR := mkHid (HA6.out true (by unfold waitOk; rw [show l.st.wait = false from HWT.out.symm]; rfl))
                go_wp2_with fail
                go_ret
                exact ⟨ret_bool HR.out.symm, HBF.out⟩
              | true =>
                have hst : waitOk xs l.st = (decide (0 < l.at_) && (codeAt xs (l.at_ - 1).toNat).op == 10) := by unfold waitOk; rw [show l.st.wait = true from HWT.out.symm]; rfl
                rw [HP.out] at hst
                cases p with
                | zero =>
                  have HR := mkHid (HA6.out false (by rw [hst]; rfl))
                  clear hst
                  go_wp2_with fail
                  go_ret
                  exact ⟨ret_bool HR.out.symm, HBF.out⟩
                | succ p' =>
                  have hp' : p' < xs.length := by omega
                  rw [decide_eq_true (by omega), Bool.true_and, show (((p' + 1 : Nat) : Int) - 1).toNat = p' from by omega, codeAt_at hp'] at hst
                  obtain ⟨lb, lo, hA, e0, e1, e2, e3⟩ := HSF.out.cd hp'
                  obtain ⟨op, hop⟩ : ∃ op, op = xs[p'].op := ⟨_, rfl⟩
                  rw [← hop] at e0 hst
                  have hpi : ((p' + 1 : Nat) : Int) = (p' : Int) + 1 := by omega
                  rw [hpi] at q1
                  have hpn : (p' : Int) < (xs.length : Int) := by omega
                  have hp0 : (0 : Int) ≤ (p' : Int) := by omega
                  have hpg : (0 : Int) < (p' : Int) + 1 := by omega
                  have HR := mkHid (HA6.out _ hst)
                  subst hA
                  clear e1 e2 e3 hpi hop hst
                  go_wp2_with fail
                  go_ret
                  exact ⟨ret_bool (by rw [HR.out]), HBF.out⟩
end Go.Proofs.Ytjmiilneennjaaa
