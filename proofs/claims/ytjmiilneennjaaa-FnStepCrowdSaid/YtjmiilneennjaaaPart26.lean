/-
  Parts of a proof: DProg.
-/
import Derived.Test.YtjmiilneennjaaaPart24
import Derived.Test.YtjmiilneennjaaaPart25
import Derived.Deep.CutBlock
namespace Go.Proofs.Ytjmiilneennjaaa
open Go.RowKit
set_option maxHeartbeats 4000000
set_option maxRecDepth 100000
set_option linter.unusedVariables false

/-- a program is drawn. -/
def DrawnProg (br N : Nat) (w : World) (e : Ending) (w' : World) : Prop :=
  ∃ g c zs, e = .returned (.slice (some ⟨g, 0, none⟩) zs.length c) ∧ zs.length ≤ 50 ∧ OutAt w w' br N g c zs.length zs
theorem OutAt.drawn {w0 w : World} {br N M g c n : Nat} {ys : List Cd} (h : OutAt w0 w br N g c n ys) (hM : N ≤ M) (hn : n ≤ 50) {v : Value} (hv : v = .slice (some ⟨g, 0, none⟩) n c) : DrawnProg br M w0 (.returned v) w :=
  ⟨g, c, ys, by rw [hv, h.1], by rw [h.1]; exact hn, by rw [h.1]; exact h.mono hM⟩
theorem l20Program_any (n : Int) (br N : Nat) (w : World) (hn : 1 ≤ n ∧ n ≤ 1000000) (hN : N ≤ 1000000) (h : Rd w br N) :
    Calls Try.prog 88 #[.pointer (some ⟨br, 0, none⟩), .int .i64 n] w (DrawnProg br 900000000 w) := by
  have hlt0 := h.lt
  have HOUT := mkHid (show OutAt w (w.alloc (.cells #[] 69)) br N w.heap.size 0 0 [] from ⟨rfl, own_empty w _ _, fun y hy => absurd hy (by simp), h.below ((Below.refl _ _).alloc (Nat.le_refl _) _), World.grownBy_alloc _ _ _, hlt0⟩)
  have hsz := HOUT.out.size
  clear h
  go_enter Try.func88, Try.ntmps88
  go_wp2_with fail
  refine (pick_any _ _ _ _ (by omega) HOUT.out.2.2.2.1).mono ?_
  rintro e w2 ⟨q, rfl, q0, q1, r, gr⟩
  have q1 := q1 (by omega)
  have HOUT := mkHid (HOUT.out.pick r gr)
  have hsz := HOUT.out.size
  clear r gr
  go_upto_block 0 with fail
  go_cut [5] from 8 (fun s5 wx => ∃ g c n1 ys, s5 = .slice (some ⟨g, 0, none⟩) n1 c ∧ n1 ≤ 3 ∧ OutAt w wx br (N + 5) g c n1 ys)
  case first =>
    by_cases hq0 : q = 0
    · subst hq0
      go_wp2_with (at_builtin; refine wpList_appS Ec (HOUT.out.lit _) (newCells _ [.int .i64 2, .int .i64 0, .int .i64 0, .int .i64 0, .int .i64 5, .int .i64 1, .int .i64 0, .int .i64 0] _) rfl (by simp [Value.oneCell']) (by omega) (by omega) (by simp; omega) rfl rfl rfl rfl ?_; intro g1 c1 w3 ho hg; have HOUT := mkHid (HOUT.out.many [⟨2, 0, 0, 0⟩, ⟨5, 1, 0, 0⟩] rfl (small_list _ (by decide)) ho hg); have hsz := HOUT.out.size; clear ho hg)
      go_meet
      case rel => exact ⟨_, _, _, _, rfl, by omega, HOUT.out.mono (by omega)⟩

    · by_cases hq1 : q = 1
      · subst hq1
        go_wp2_with (at_builtin; refine wpList_appS Ec (HOUT.out.lit _) (newCells _ [.int .i64 2, .int .i64 3, .int .i64 0, .int .i64 0, .int .i64 8, .int .i64 0, .int .i64 3, .int .i64 0, .int .i64 9, .int .i64 0, .int .i64 3, .int .i64 0] _) rfl (by simp [Value.oneCell']) (by omega) (by omega) (by simp; omega) rfl rfl rfl rfl ?_; intro g1 c1 w3 ho hg; have HOUT := mkHid (HOUT.out.many [⟨2, 3, 0, 0⟩, ⟨8, 0, 3, 0⟩, ⟨9, 0, 3, 0⟩] rfl (small_list _ (by decide)) ho hg); have hsz := HOUT.out.size; clear ho hg)
        go_meet
        case rel => exact ⟨_, _, _, _, rfl, by omega, HOUT.out.mono (by omega)⟩

      · by_cases hq2 : q = 2
        · subst hq2
          go_wp2_with fail
          refine (pick_any _ _ _ _ (by omega) HOUT.out.2.2.2.1).mono ?_
          rintro e w3 ⟨a, rfl, a0, a1, r, gr⟩
          have a1 := a1 (by omega)
          have HOUT := mkHid (HOUT.out.pick r gr)
          have hsz := HOUT.out.size
          clear r gr
          go_wp2_with fail
          refine (pick_any _ _ _ _ (by omega) HOUT.out.2.2.2.1).mono ?_
          rintro e w4 ⟨b, rfl, b0, b1, r, gr⟩
          have b1 := b1 (by omega)
          have HOUT := mkHid (HOUT.out.pick r gr)
          have hsz := HOUT.out.size
          clear r gr
          go_wp2_with (at_builtin; refine wpList_appS Ec (HOUT.out.lit _) (newCells _ [.int .i64 1, .int .i64 a, .int .i64 (1 + b), .int .i64 0] _) rfl (by simp [Value.oneCell']) (by omega) (by omega) (by simp; omega) rfl rfl rfl rfl ?_; intro g1 c1 w5 ho hg; have HOUT := mkHid (HOUT.out.app1 ⟨1, a, 1 + b, 0⟩ (small_of _ _ _ _ (by omega) (by omega) (by omega) (by omega)) ho hg); have hsz := HOUT.out.size; clear ho hg)
          go_meet
          case rel => exact ⟨_, _, _, _, rfl, by omega, HOUT.out.mono (by omega)⟩

        · have n0 : (q == 0) = false := by rw [beq_eq_false_iff_ne]; exact hq0
          have n1 : (q == 1) = false := by rw [beq_eq_false_iff_ne]; exact hq1
          have n2 : (q == 2) = false := by rw [beq_eq_false_iff_ne]; exact hq2
          clear hq0 hq1 hq2
          go_wp2_with fail
          go_meet
          case rel => exact ⟨_, _, _, _, rfl, by omega, HOUT.out.mono (by omega)⟩

  case rest =>
    clear HOUT hsz
    obtain ⟨g, c, n1, ys, rfl, hn1, hout⟩ := hcut
    have HOUT := mkHid hout
    have hsz := hout.size
    clear hout
    go_wp2_with fail
    refine (pick_any _ _ _ _ (by omega) HOUT.out.2.2.2.1).mono ?_
    rintro e wp ⟨p, rfl, p0, p1, r, gr⟩
    have p1 := p1 (by omega)
    have HOUT := mkHid (HOUT.out.pick r gr)
    have hsz := HOUT.out.size
    clear r gr
    obtain ⟨p, rfl⟩ := Int.eq_ofNat_of_zero_le p0
    clear p0
    go_upto_block 1 with fail
    go_cut [5] from 8 (fun s5 wx => ∃ g c n1 ys, s5 = .slice (some ⟨g, 0, none⟩) n1 c ∧ n1 ≤ 39 ∧ OutAt w wx br (N + 1300000) g c n1 ys)
    case first =>
      go_wp2_with fail
      go_loopw [6, 5] (fun kv ov wr => ∃ j : Nat, kv = .int .i64 j ∧ j ≤ 3 ∧ ∃ g c ys, ov = .slice (some ⟨g, 0, none⟩) (List.length ys) c ∧ List.length ys ≤ 34 ∧ OutAt w wr br (N + 10 + (3 - j) * 400000) g c (List.length ys) ys) (fun kv _ _ => (intOf kv).toNat)
      case atStart => exact ⟨1 + p, by go_num, by omega, HOUT.out.rel34 (by omega) (by omega)⟩
      case round =>
        clear HOUT hsz
        obtain ⟨j, rfl, hj, g, c, ys, rfl, hle, hout⟩ := hrel
        have HOUT := mkHid hout
        have hsz := hout.size
        have hgb := (hout.2.1.lt g rfl).1
        clear hout
        obtain ⟨n1, hn1⟩ : ∃ n1, n1 = List.length ys := ⟨_, rfl⟩
        rw [← hn1] at hle HOUT ⊢
        clear hn1
        by_cases hj0 : 0 < j
        · go_wp2_with fail
          refine (l20Block_any _ _ _ _ (by omega) (by omega) HOUT.out.2.2.2.1).mono ?_
          rintro e w6 ⟨g3, c3, zs3, rfl, ml, hb⟩
          have HBK := mkHid hb
          have HOUT := mkHid (HOUT.out.pick hb.2.2.2.1 hb.2.2.2.2.1)
          have hsz := HOUT.out.size
          clear hb
          obtain ⟨m3, hm3⟩ : ∃ m3, m3 = zs3.length := ⟨_, rfl⟩
          rw [← hm3] at ml HBK ⊢
          clear hm3
          by_cases h34 : n1 + m3 ≤ 34
          · go_wp2_with (at_builtin; refine wpList_appS Ec HOUT.out.2.1 (HBK.out.2.1.cells rfl) HBK.out.2.1.1 (cflat_one _) (by omega) (by omega) (by omega) rfl rfl rfl rfl ?_; intro g4 c4 w7 ho hg; have HOUT := mkHid (HOUT.out.app (Below.refl _ _) HBK.out.1 HBK.out.2.2.1 ho hg); have hsz := HOUT.out.size; clear ho hg HBK)
            go_roundw
            case rel => exact ⟨j - 1, by congr 1; omega, by omega, HOUT.out.rel34 (by
              rw [show 3 - (j - 1) = (3 - j) + 1 from by omega, Nat.add_mul]; omega) (by omega)⟩
            case measure => simp [intOf] <;> omega
          · go_wp2_with (at_builtin; refine wpList_appS Ec HOUT.out.2.1 (HBK.out.2.1.cells rfl) HBK.out.2.1.1 (cflat_one _) (by omega) (by omega) (by omega) rfl rfl rfl rfl ?_; intro g4 c4 w7 ho hg; have HOUT := mkHid (HOUT.out.app (Below.refl _ _) HBK.out.1 HBK.out.2.2.1 ho hg); have hsz := HOUT.out.size; clear ho hg HBK)
            go_meet
            case rel => exact ⟨_, _, _, _, rfl, by omega, HOUT.out.mono (by omega)⟩
        · go_wp2_with fail
          go_meet
          case rel => exact ⟨_, _, _, _, rfl, by omega, HOUT.out.mono (by omega)⟩
    case rest =>
      clear HOUT hsz
      obtain ⟨g, c, n1, ys, rfl, hn1, hout⟩ := hcut
      have HOUT := mkHid hout
      have hsz := hout.size
      clear hout
      go_upto_region 14 with fail
      go_cut [5, 60] from 8 (fun s5 s60 wx => ∃ g c n1 ys, ∃ b : Bool, s5 = .slice (some ⟨g, 0, none⟩) n1 c ∧ s60 = .bool b ∧ (b = true → n1 < 37) ∧ n1 ≤ 39 ∧ OutAt w wx br (N + 1300001) g c n1 ys)
      case first =>
        go_wp2_with fail
        refine (oddB _ _ _ _ (by omega) (by omega) (by omega) HOUT.out.2.2.2.1).mono ?_
        rintro e wo ⟨ob, rfl, r, gr⟩
        have HOUT := mkHid (HOUT.out.pick r gr)
        have hsz := HOUT.out.size
        clear r gr
        cases ob with
        | false =>
          go_wp2_with fail
          go_meet
          case rel => exact ⟨_, _, _, _, _, rfl, rfl, (fun h => by cases h), by omega, HOUT.out.mono (by omega)⟩
        | true =>
          by_cases h37 : n1 < 37
          · go_wp2_with fail
            go_meet
            case rel => exact ⟨_, _, _, _, true, rfl, by first | rfl | (simp; omega), (fun _ => h37), by omega, HOUT.out.mono (by omega)⟩
          · go_wp2_with fail
            go_meet
            case rel => exact ⟨_, _, _, _, false, rfl, by first | rfl | (simp; omega), (fun h => by cases h), by omega, HOUT.out.mono (by omega)⟩
      case rest =>
        clear HOUT hsz
        obtain ⟨g, c, n1, ys, b, rfl, rfl, hb37, hn1, hout⟩ := hcut
        have HOUT := mkHid hout
        have hsz := hout.size
        have hgb := (hout.2.1.lt g rfl).1
        have HB37 := mkHid hb37
        clear hout hb37
        go_upto_if 60 with fail
        go_cut [5] from 8 (fun s5 wx => ∃ g c n1 ys, s5 = .slice (some ⟨g, 0, none⟩) n1 c ∧ n1 ≤ 39 ∧ OutAt w wx br (N + 1300010) g c n1 ys)
        case first =>
          cases b with
          | false =>
            go_wp2_with fail
            go_meet
            case rel => exact ⟨_, _, _, _, rfl, by omega, HOUT.out.mono (by omega)⟩
          | true =>
            have h37 := HB37.out rfl
            go_wp2_with fail
            refine (pick_any _ _ _ _ (by omega) HOUT.out.2.2.2.1).mono ?_
            rintro e w3 ⟨a, rfl, a0, a1, r, gr⟩
            have a1 := a1 (by omega)
            have HOUT := mkHid (HOUT.out.pick r gr)
            have hsz := HOUT.out.size
            clear r gr

            go_wp2_with (at_builtin; refine wpList_appS Ec (HOUT.out.lit _) (newCells _ [.int .i64 2, .int .i64 2, .int .i64 0, .int .i64 0, .int .i64 9, .int .i64 a, .int .i64 2, .int .i64 0] _) rfl (by simp [Value.oneCell']) (by omega) (by omega) (by simp; omega) rfl rfl rfl rfl ?_; intro g1 c1 w4 ho hg; have HOUT := mkHid (HOUT.out.many [⟨2, 2, 0, 0⟩, ⟨9, a, 2, 0⟩] rfl (fun z hz => by rcases List.mem_cons.1 hz with h | h; subst h; exact small_of _ _ _ _ (by omega) (by omega) (by omega) (by omega); rw [List.mem_singleton] at h; subst h; exact small_of _ _ _ _ (by omega) (by omega) (by omega) (by omega)) ho hg); have hsz := HOUT.out.size; clear ho hg)
            go_meet
            case rel => exact ⟨_, _, _, _, rfl, by omega, HOUT.out.mono (by omega)⟩
        case rest =>
          clear HOUT hsz
          obtain ⟨g, c, n1, ys, rfl, hn1, hout⟩ := hcut
          have HOUT := mkHid hout
          have hsz := hout.size
          have hgb := (hout.2.1.lt g rfl).1
          clear hout

          by_cases hn0 : n1 = 0
          · subst hn0
            go_wp2_with fail
            go_ret
            exact HOUT.out.drawn (by omega) (by omega) rfl
          · have hn0' : 0 < n1 := by omega
            go_wp2_with fail
            refine (oddB _ _ _ _ (by omega) (by omega) (by omega) HOUT.out.2.2.2.1).mono ?_
            rintro e wo ⟨ob, rfl, r, gr⟩
            have HOUT := mkHid (HOUT.out.pick r gr)
            have hsz := HOUT.out.size
            clear r gr hn0
            cases ob with
            | false =>
              go_wp2_with fail
              go_ret
              exact HOUT.out.drawn (by omega) (by omega) rfl
            | true =>
              go_wp2_with fail
              refine (pick_any _ _ _ _ (by omega) HOUT.out.2.2.2.1).mono ?_
              rintro e wk ⟨k, rfl, k0, k1, r, gr⟩
              have k1 := k1 (by omega)
              have HOUT := mkHid (HOUT.out.pick r gr)
              have hsz := HOUT.out.size
              clear r gr
              obtain ⟨k, rfl⟩ := Int.eq_ofNat_of_zero_le k0
              have hkn : k < n1 := by omega
              go_wp2_with fail
              refine (pick_any _ _ _ _ (by omega) HOUT.out.2.2.2.1).mono ?_
              rintro e w3 ⟨q, rfl, q0, q1, r, gr⟩
              have q1 := q1 (by omega)
              have HOUT := mkHid (HOUT.out.pick r gr)
              have hsz := HOUT.out.size
              clear r gr

              have hq5 : q = 0 ∨ q = 1 ∨ q = 2 ∨ q = 3 ∨ q = 4 := by omega
              clear q0 q1
              rcases hq5 with rfl | rfl | rfl | rfl | rfl
              · go_wp2_with fail
                refine (l20Code_any _ _ _ _ (by omega) (by omega) HOUT.out.2.2.2.1).mono ?_
                rintro e w4 ⟨x, rfl, hx, r, gr⟩
                have HOUT := mkHid (HOUT.out.pick r gr)
                have hsz := HOUT.out.size
                obtain ⟨xo, xa, xb, xc⟩ := x
                have hset := HOUT.out.set hkn ⟨xo, xa, xb, xc⟩ hx
                obtain ⟨⟨⟨p0, p1, p2, p3⟩, f0, f1, f2, f3⟩, hres⟩ := hset
                have HRES := mkHid hres
                clear r gr hx hres
                go_wp2_with fail
                go_ret
                exact HRES.out.drawn (by omega) (by omega) rfl
              · go_wp2_with (at_builtin; refine wpList_appS Ec (HOUT.out.lit _) (newCells _ [.int .i64 14, .int .i64 0, .int .i64 0, .int .i64 0] _) rfl (by simp [Value.oneCell']) (by omega) (by omega) (by simp; omega) rfl rfl rfl rfl ?_; intro g1 c1 w4 ho hg; have HOUT := mkHid (HOUT.out.app1 ⟨14, 0, 0, 0⟩ (small_of _ _ _ _ (by omega) (by omega) (by omega) (by omega)) ho hg); have hsz := HOUT.out.size; clear ho hg)
                go_ret
                exact HOUT.out.drawn (by omega) (by omega) rfl
              · go_wp2_with (at_builtin; refine wpList_appS Ec (HOUT.out.lit _) (newCells _ [.int .i64 12, .int .i64 0, .int .i64 0, .int .i64 0] _) rfl (by simp [Value.oneCell']) (by omega) (by omega) (by simp; omega) rfl rfl rfl rfl ?_; intro g1 c1 w4 ho hg; have HOUT := mkHid (HOUT.out.app1 ⟨12, 0, 0, 0⟩ (small_of _ _ _ _ (by omega) (by omega) (by omega) (by omega)) ho hg); have hsz := HOUT.out.size; clear ho hg)
                go_ret
                exact HOUT.out.drawn (by omega) (by omega) rfl
              · have HL : Hid (OutAt w (w3.alloc (.cells #[.int .i64 11, .int .i64 0, .int .i64 0, .int .i64 0, .int .i64 11, .int .i64 0, .int .i64 0, .int .i64 0, .int .i64 11, .int .i64 0, .int .i64 0, .int .i64 0, .int .i64 11, .int .i64 0, .int .i64 0, .int .i64 0, .int .i64 14, .int .i64 0, .int .i64 0, .int .i64 0, .int .i64 14, .int .i64 0, .int .i64 0, .int .i64 0, .int .i64 14, .int .i64 0, .int .i64 0, .int .i64 0, .int .i64 14, .int .i64 0, .int .i64 0, .int .i64 0] 69)) br _ w3.heap.size 8 8 eights) := mkHid (by exact HOUT.out.lead eights rfl (by decide) (small_list _ (by decide)))
                have hszl := HL.out.size
                go_wp2_with (at_builtin; refine wpList_appS Ec HL.out.2.1 ((HOUT.out.lit _).cells rfl) (HOUT.out.lit (.cells #[] 3)).1 (cflat_one _) (by omega) (by omega) hszl rfl rfl rfl rfl ?_; intro g1 c1 w4 ho hg; have HOUT := mkHid (HL.out.app (Below.refl _ _) HOUT.out.1 HOUT.out.2.2.1 ho hg); have hsz := HOUT.out.size; clear ho hg)
                go_ret
                exact HOUT.out.drawn (by omega) (by omega) rfl
              · have hst := HOUT.out.rel41 (N + 1300100) (by omega) (by omega)
                have HST := mkHid hst
                clear hst
                go_wp2_with fail
                go_loopw [5] (fun ov wr => ∃ g c ys, ov = .slice (some ⟨g, 0, none⟩) (List.length ys) c ∧ List.length ys ≤ 41 ∧ OutAt w wr br (N + 1300100 + 20 * List.length ys) g c (List.length ys) ys) (fun ov _ => 41 - lenV ov)
                case atStart => exact HST.out
                case round =>
                  clear HOUT HST hsz hgb hkn hn1 hn0'
                  obtain ⟨g, c, ys, rfl, hle, hout⟩ := hrel
                  have HOUT := mkHid hout
                  have hsz := hout.size
                  have hgb := (hout.2.1.lt g rfl).1
                  clear hout
                  obtain ⟨n1, hn1⟩ : ∃ n1, n1 = List.length ys := ⟨_, rfl⟩
                  rw [← hn1] at hle HOUT ⊢
                  clear hn1
                  by_cases h40 : n1 ≤ 40
                  · go_wp2_with fail
                    refine (l20Plain_any _ _ _ (by omega) HOUT.out.2.2.2.1).mono ?_
                    rintro e w5 ⟨x, rfl, hx, r, gr⟩
                    have HOUT := mkHid (HOUT.out.pick r gr)
                    have hsz := HOUT.out.size
                    have HX := mkHid hx
                    clear r gr hx
                    obtain ⟨xo, xa, xb, xc⟩ := x
                    go_wp2_with (at_builtin; refine wpList_appS Ec (HOUT.out.lit _) (newCells _ [.int .i64 xo, .int .i64 xa, .int .i64 xb, .int .i64 xc] _) rfl (by simp [Value.oneCell']) (by omega) (by omega) (by simp; omega) rfl rfl rfl rfl ?_; intro g1 c1 w6 ho hg; have HOUT := mkHid (HOUT.out.app1 ⟨xo, xa, xb, xc⟩ (HX.out) ho hg); have hsz := HOUT.out.size; clear ho hg)
                    go_roundw
                    case rel => exact HOUT.out.rel41 (N + 1300100) (by omega) (by omega)
                    case measure => simp [lenV] <;> omega
                  · go_wp2_with fail
                    go_ret
                    exact HOUT.out.drawn (by omega) (by omega) rfl
end Go.Proofs.Ytjmiilneennjaaa
