/-
  Parts of a proof: DBlk.
-/
import Derived.Test.YtjmiilneennjaaaPart23
namespace Go.Proofs.Ytjmiilneennjaaa
open Go.RowKit
set_option maxHeartbeats 4000000
set_option maxRecDepth 100000
set_option linter.unusedVariables false

/-- a block is drawn. -/
def DrawnBlk (room : Int) (br N : Nat) (w : World) (e : Ending) (w' : World) : Prop :=
  ∃ g c zs, e = .returned (.slice (some ⟨g, 0, none⟩) zs.length c) ∧ (zs.length : Int) ≤ room ∧ OutAt w w' br N g c zs.length zs
theorem l20Block_step (d : Int) (C M : Nat) (hd : 0 ≤ d ∧ d ≤ 3) (hC : C ≤ 30000) (hM : M ≤ 890000000)
    (IH : d < 3 → ∀ (room : Int) (br N : Nat) (w : World), 1 ≤ room ∧ room ≤ 39 → N ≤ M + 500000 → Rd w br N → Calls Try.prog 104 #[.pointer (some ⟨br, 0, none⟩), .int .i64 room, .int .i64 (d + 1)] w (DrawnBlk room br (N + C) w))
    (room : Int) (br N : Nat) (w : World) (hroom : 1 ≤ room ∧ room ≤ 39) (hN : N ≤ M) (h : Rd w br N) :
    Calls Try.prog 104 #[.pointer (some ⟨br, 0, none⟩), .int .i64 room, .int .i64 d] w (DrawnBlk room br (N + (1 + 6 * (30 + 2 * C))) w) := by
  have hlt0 := h.lt
  have HIH := mkHid IH
  clear IH
  have HOUT := mkHid (show OutAt w (w.alloc (.cells #[] 69)) br N w.heap.size 0 0 [] from ⟨rfl, own_empty w _ _, fun y hy => absurd hy (by simp), h.below ((Below.refl _ _).alloc (Nat.le_refl _) _), World.grownBy_alloc _ _ _, hlt0⟩)
  clear h
  go_enter Try.func104, Try.ntmps104
  go_wp2_with fail
  refine (pick_any _ _ _ _ (by omega) HOUT.out.2.2.2.1).mono ?_
  rintro e w1 ⟨q, rfl, q0, q1, r, gr⟩
  have q1 := q1 (by omega)
  have HOUT := mkHid (HOUT.out.pick r gr)
  clear r gr
  obtain ⟨j0, rfl⟩ := Int.eq_ofNat_of_zero_le q0
  clear q0
  go_wp2_with fail
  go_loopw [8, 7] (fun kv ov wr => ∃ j : Nat, kv = .int .i64 j ∧ j ≤ 6 ∧ ∃ g c ys, ov = .slice (some ⟨g, 0, none⟩) ys.length c ∧ (ys.length : Int) ≤ room ∧ OutAt w wr br (N + 1 + (6 - j) * (30 + 2 * C)) g c ys.length ys) (fun kv _ _ => (intOf kv).toNat)
  case atStart => exact ⟨1 + j0, by go_num, by omega, w.heap.size, 0, [], rfl, by simp; omega, HOUT.out.mono (by omega)⟩
  case round =>
    clear HOUT
    obtain ⟨j, rfl, hj, g, c, ys, rfl, hle, hout⟩ := hrel
    have HOUT := mkHid hout
    have hgb := (hout.2.1.lt g rfl).1
    clear hout
    obtain ⟨n, hn⟩ : ∃ n, n = ys.length := ⟨_, rfl⟩
    rw [← hn] at hle HOUT ⊢
    clear hn
    by_cases hgo : 0 < j ∧ (n : Int) < room
    · obtain ⟨hj0, hlen⟩ := hgo
      obtain ⟨j, rfl⟩ : ∃ i, j = i + 1 := ⟨j - 1, by omega⟩
      have hNN : N + 1 + (6 - (j + 1)) * (30 + 2 * C) + (30 + 2 * C) = N + 1 + (6 - j) * (30 + 2 * C) := by
        rw [show 6 - j = (6 - (j + 1)) + 1 from by omega, Nat.add_mul]; omega
      have hNB : N + 1 + (6 - (j + 1)) * (30 + 2 * C) ≤ M + 1 + 6 * (30 + 2 * C) := by
        have : (6 - (j + 1)) * (30 + 2 * C) ≤ 6 * (30 + 2 * C) := Nat.mul_le_mul_right _ (by omega)
        omega
      obtain ⟨N1, hN1⟩ : ∃ N1, N1 = N + 1 + (6 - (j + 1)) * (30 + 2 * C) := ⟨_, rfl⟩
      rw [← hN1] at HOUT hNN hNB
      have HNN := mkHid hNN
      clear hN1 hNN hj0
      go_wp2_with fail
      refine (pick_any _ _ _ _ (by omega) HOUT.out.2.2.2.1).mono ?_
      rintro e w2 ⟨q, rfl, q0, q1, r, gr⟩
      have q1 := q1 (by omega)
      have HOUT := mkHid (HOUT.out.pick r gr)
      have hsz := HOUT.out.size
      clear r gr
      by_cases hq0 : q = 0
      · subst hq0
        by_cases hdr : d < 3 ∧ (n : Int) + 6 ≤ room
        · obtain ⟨hd3, hr6⟩ := hdr
          go_wp2_with fail
          refine (pick_any _ _ _ _ (by omega) HOUT.out.2.2.2.1).mono ?_
          rintro e w3 ⟨a, rfl, a0, a1, r, gr⟩
          have a1 := a1 (by omega)
          have HOUT := mkHid (HOUT.out.pick r gr)
          have hsz := HOUT.out.size
          clear r gr
          go_wp2_with (at_builtin; refine wpList_appS Ec (HOUT.out.lit _) (newCells _ [.int .i64 11, .int .i64 a, .int .i64 0, .int .i64 0] _) rfl (by simp [Value.oneCell']) (by omega) (by omega) (by simp; omega) rfl rfl rfl rfl ?_; intro g1 c1 w4 ho hg; have HOUT := mkHid (HOUT.out.app1 ⟨11, a, 0, 0⟩ (small_of _ _ _ _ (by omega) (by omega) (by omega) (by omega)) ho hg); have hsz := HOUT.out.size; clear ho hg)
          refine (pick_any _ _ _ _ (by omega) HOUT.out.2.2.2.1).mono ?_
          rintro e w5 ⟨p, rfl, p0, p1, r, gr⟩
          have p1 := p1 (by omega)
          have HOUT := mkHid (HOUT.out.pick r gr)
          have hsz := HOUT.out.size
          clear r gr
          by_cases hp : p = 0
          · subst hp
            go_wp2_with fail
            refine (pick_any _ _ _ _ (by omega) HOUT.out.2.2.2.1).mono ?_
            rintro e w6 ⟨u, rfl, u0, u1, r, gr⟩
            have u1 := u1 (by omega)
            have HOUT := mkHid (HOUT.out.pick r gr)
            have hsz := HOUT.out.size
            clear r gr
            go_wp2_with fail
            refine (pick_any _ _ _ _ (by omega) HOUT.out.2.2.2.1).mono ?_
            rintro e w7 ⟨v, rfl, v0, v1, r, gr⟩
            have v1 := v1 (by omega)
            have HOUT := mkHid (HOUT.out.pick r gr)
            have hsz := HOUT.out.size
            clear r gr
            by_cases hr4 : (n : Int) + 2 + 4 ≤ room
            · go_wp2_with (at_builtin; refine wpList_appS Ec (HOUT.out.lit _) (newCells _ [.int .i64 5, .int .i64 u, .int .i64 v, .int .i64 0] _) rfl (by simp [Value.oneCell']) (by omega) (by omega) (by simp; omega) rfl rfl rfl rfl ?_; intro g2 c2 w8 ho hg; have HOUT := mkHid (HOUT.out.app1 ⟨5, u, v, 0⟩ (small_of _ _ _ _ (by omega) (by omega) (by omega) (by omega)) ho hg); have hsz := HOUT.out.size; clear ho hg)
              refine (pick_any _ _ _ _ (by omega) HOUT.out.2.2.2.1).mono ?_
              rintro e wt ⟨t, rfl, t0, t1, r, gr⟩
              have t1 := t1 (by omega)
              have HOUT := mkHid (HOUT.out.pick r gr)
              have hsz := HOUT.out.size
              clear r gr
              by_cases ht : t = 0
              · subst ht
                go_wp2_with (at_builtin; refine wpList_appS Ec (HOUT.out.lit _) (newCells _ [.int .i64 12, .int .i64 0, .int .i64 0, .int .i64 0] _) rfl (by simp [Value.oneCell']) (by omega) (by omega) (by simp; omega) rfl rfl rfl rfl ?_; intro g5 c5 w5 ho hg; have HOUT := mkHid (HOUT.out.app1 ⟨12, 0, 0, 0⟩ (small_of _ _ _ _ (by omega) (by omega) (by omega) (by omega)) ho hg); have hsz := HOUT.out.size; clear ho hg)
                all_goals (
                  refine (HIH.out (by omega) _ _ _ _ (by omega) (by omega) HOUT.out.2.2.2.1).mono ?_
                  rintro e w6 ⟨g6, c6, zs6, rfl, m6l, hb⟩
                  have HBK := mkHid hb
                  have HOUT := mkHid (HOUT.out.pick hb.2.2.2.1 hb.2.2.2.2.1)
                  have hsz := HOUT.out.size
                  clear hb
                  obtain ⟨m6, hm6⟩ : ∃ m6, m6 = zs6.length := ⟨_, rfl⟩
                  rw [← hm6] at m6l HBK ⊢
                  clear hm6
                  go_wp2_with (first
                    | (at_builtin; refine wpList_appS Ec HOUT.out.2.1 (HBK.out.2.1.cells rfl) HBK.out.2.1.1 (cflat_one _) (by omega) (by omega) (by omega) rfl rfl rfl rfl ?_; intro g7 c7 w7 ho hg; have HOUT := mkHid (HOUT.out.app (Below.refl _ _) HBK.out.1 HBK.out.2.2.1 ho hg); have hsz := HOUT.out.size; clear ho hg HBK)
                    | (at_builtin; refine wpList_appS Ec (HOUT.out.lit _) (newCells _ [.int .i64 14, .int .i64 0, .int .i64 0, .int .i64 0] _) rfl (by simp [Value.oneCell']) (by omega) (by omega) (by simp; omega) rfl rfl rfl rfl ?_; intro g9 c9 w9 ho hg; have HOUT := mkHid (HOUT.out.app1 ⟨14, 0, 0, 0⟩ (small_of _ _ _ _ (by omega) (by omega) (by omega) (by omega)) ho hg); have hsz := HOUT.out.size; clear ho hg))
                  go_roundw
                  case rel => exact ⟨j, by first | rfl | (congr 1; omega), by omega, HOUT.out.rel (by have := HNN.out; omega) (by omega)⟩
                  case measure => simp [intOf] <;> omega)
              · have ht0 : (t == 0) = false := by rw [beq_eq_false_iff_ne]; exact ht
                go_wp2_with (at_builtin; refine wpList_appS Ec (HOUT.out.lit _) (newCells _ [.int .i64 14, .int .i64 0, .int .i64 0, .int .i64 0] _) rfl (by simp [Value.oneCell']) (by omega) (by omega) (by simp; omega) rfl rfl rfl rfl ?_; intro g9 c9 w9 ho hg; have HOUT := mkHid (HOUT.out.app1 ⟨14, 0, 0, 0⟩ (small_of _ _ _ _ (by omega) (by omega) (by omega) (by omega)) ho hg); have hsz := HOUT.out.size; clear ho hg)
                go_roundw
                case rel => exact ⟨j, by first | rfl | (congr 1; omega), by omega, HOUT.out.rel (by have := HNN.out; omega) (by omega)⟩
                case measure => simp [intOf] <;> omega
            · omega
          · have hp0 : (p == 0) = false := by rw [beq_eq_false_iff_ne]; exact hp
            go_wp2_with fail
            all_goals (
              refine (HIH.out (by omega) _ _ _ _ (by omega) (by omega) HOUT.out.2.2.2.1).mono ?_
              rintro e w6 ⟨g3, c3, zs3, rfl, m3l, hb⟩
              have HBK := mkHid hb
              have HOUT := mkHid (HOUT.out.pick hb.2.2.2.1 hb.2.2.2.2.1)
              have hsz := HOUT.out.size
              clear hb
              obtain ⟨m3, hm3⟩ : ∃ m3, m3 = zs3.length := ⟨_, rfl⟩
              rw [← hm3] at m3l HBK ⊢
              clear hm3
              by_cases hr4 : (n : Int) + 1 + m3 + 4 ≤ room
              · go_wp2_with (at_builtin; refine wpList_appS Ec HOUT.out.2.1 (HBK.out.2.1.cells rfl) HBK.out.2.1.1 (cflat_one _) (by omega) (by omega) (by omega) rfl rfl rfl rfl ?_; intro g4 c4 w7 ho hg; have HOUT := mkHid (HOUT.out.app (Below.refl _ _) HBK.out.1 HBK.out.2.2.1 ho hg); have hsz := HOUT.out.size; clear ho hg HBK)
                refine (pick_any _ _ _ _ (by omega) HOUT.out.2.2.2.1).mono ?_
                rintro e wt ⟨t, rfl, t0, t1, r, gr⟩
                have t1 := t1 (by omega)
                have HOUT := mkHid (HOUT.out.pick r gr)
                have hsz := HOUT.out.size
                clear r gr
                by_cases ht : t = 0
                · subst ht
                  go_wp2_with (at_builtin; refine wpList_appS Ec (HOUT.out.lit _) (newCells _ [.int .i64 12, .int .i64 0, .int .i64 0, .int .i64 0] _) rfl (by simp [Value.oneCell']) (by omega) (by omega) (by simp; omega) rfl rfl rfl rfl ?_; intro g5 c5 w5 ho hg; have HOUT := mkHid (HOUT.out.app1 ⟨12, 0, 0, 0⟩ (small_of _ _ _ _ (by omega) (by omega) (by omega) (by omega)) ho hg); have hsz := HOUT.out.size; clear ho hg)
                  all_goals (
                    refine (HIH.out (by omega) _ _ _ _ (by omega) (by omega) HOUT.out.2.2.2.1).mono ?_
                    rintro e w6 ⟨g6, c6, zs6, rfl, m6l, hb⟩
                    have HBK := mkHid hb
                    have HOUT := mkHid (HOUT.out.pick hb.2.2.2.1 hb.2.2.2.2.1)
                    have hsz := HOUT.out.size
                    clear hb
                    obtain ⟨m6, hm6⟩ : ∃ m6, m6 = zs6.length := ⟨_, rfl⟩
                    rw [← hm6] at m6l HBK ⊢
                    clear hm6
                    go_wp2_with (first
                      | (at_builtin; refine wpList_appS Ec HOUT.out.2.1 (HBK.out.2.1.cells rfl) HBK.out.2.1.1 (cflat_one _) (by omega) (by omega) (by omega) rfl rfl rfl rfl ?_; intro g7 c7 w7 ho hg; have HOUT := mkHid (HOUT.out.app (Below.refl _ _) HBK.out.1 HBK.out.2.2.1 ho hg); have hsz := HOUT.out.size; clear ho hg HBK)
                      | (at_builtin; refine wpList_appS Ec (HOUT.out.lit _) (newCells _ [.int .i64 14, .int .i64 0, .int .i64 0, .int .i64 0] _) rfl (by simp [Value.oneCell']) (by omega) (by omega) (by simp; omega) rfl rfl rfl rfl ?_; intro g9 c9 w9 ho hg; have HOUT := mkHid (HOUT.out.app1 ⟨14, 0, 0, 0⟩ (small_of _ _ _ _ (by omega) (by omega) (by omega) (by omega)) ho hg); have hsz := HOUT.out.size; clear ho hg))
                    go_roundw
                    case rel => exact ⟨j, by first | rfl | (congr 1; omega), by omega, HOUT.out.rel (by have := HNN.out; omega) (by omega)⟩
                    case measure => simp [intOf] <;> omega)
                · have ht0 : (t == 0) = false := by rw [beq_eq_false_iff_ne]; exact ht
                  go_wp2_with (at_builtin; refine wpList_appS Ec (HOUT.out.lit _) (newCells _ [.int .i64 14, .int .i64 0, .int .i64 0, .int .i64 0] _) rfl (by simp [Value.oneCell']) (by omega) (by omega) (by simp; omega) rfl rfl rfl rfl ?_; intro g9 c9 w9 ho hg; have HOUT := mkHid (HOUT.out.app1 ⟨14, 0, 0, 0⟩ (small_of _ _ _ _ (by omega) (by omega) (by omega) (by omega)) ho hg); have hsz := HOUT.out.size; clear ho hg)
                  go_roundw
                  case rel => exact ⟨j, by first | rfl | (congr 1; omega), by omega, HOUT.out.rel (by have := HNN.out; omega) (by omega)⟩
                  case measure => simp [intOf] <;> omega
              · first
                | (exfalso; omega)
                | (go_wp2_with (first
                     | (at_builtin; refine wpList_appS Ec HOUT.out.2.1 (HBK.out.2.1.cells rfl) HBK.out.2.1.1 (cflat_one _) (by omega) (by omega) (by omega) rfl rfl rfl rfl ?_; intro g4 c4 w7 ho hg; have HOUT := mkHid (HOUT.out.app (Below.refl _ _) HBK.out.1 HBK.out.2.2.1 ho hg); have hsz := HOUT.out.size; clear ho hg HBK)
                     | (at_builtin; refine wpList_appS Ec (HOUT.out.lit _) (newCells _ [.int .i64 14, .int .i64 0, .int .i64 0, .int .i64 0] _) rfl (by simp [Value.oneCell']) (by omega) (by omega) (by simp; omega) rfl rfl rfl rfl ?_; intro g9 c9 w9 ho hg; have HOUT := mkHid (HOUT.out.app1 ⟨14, 0, 0, 0⟩ (small_of _ _ _ _ (by omega) (by omega) (by omega) (by omega)) ho hg); have hsz := HOUT.out.size; clear ho hg))
                   go_roundw
                   case rel => exact ⟨j, by first | rfl | (congr 1; omega), by omega, HOUT.out.rel (by have := HNN.out; omega) (by omega)⟩
                   case measure => simp [intOf] <;> omega))
        · by_cases hd3 : d < 3
          · have hr6 : ¬ (n : Int) + 6 ≤ room := fun h => hdr ⟨hd3, h⟩
            go_wp2_with fail
            go_roundw
            case rel => exact ⟨j, by first | rfl | (congr 1; omega), by omega, HOUT.out.rel (by have := HNN.out; omega) (by omega)⟩
            case measure => simp [intOf] <;> omega
          · clear hdr
            go_wp2_with fail
            go_roundw
            case rel => exact ⟨j, by first | rfl | (congr 1; omega), by omega, HOUT.out.rel (by have := HNN.out; omega) (by omega)⟩
            case measure => simp [intOf] <;> omega
      · by_cases hq1 : q = 1
        · subst hq1
          by_cases hdr : d < 3 ∧ (n : Int) + 5 ≤ room
          · obtain ⟨hd3, hr6⟩ := hdr
            go_wp2_with fail
            refine (pick_any _ _ _ _ (by omega) HOUT.out.2.2.2.1).mono ?_
            rintro e w3 ⟨a, rfl, a0, a1, r, gr⟩
            have a1 := a1 (by omega)
            have HOUT := mkHid (HOUT.out.pick r gr)
            have hsz := HOUT.out.size
            clear r gr
            go_wp2_with fail
            refine (pick_any _ _ _ _ (by omega) HOUT.out.2.2.2.1).mono ?_
            rintro e w4 ⟨b, rfl, b0, b1, r, gr⟩
            have b1 := b1 (by omega)
            have HOUT := mkHid (HOUT.out.pick r gr)
            have hsz := HOUT.out.size
            clear r gr
            go_wp2_with (at_builtin; refine wpList_appS Ec (HOUT.out.lit _) (newCells _ [.int .i64 13, .int .i64 a, .int .i64 (1 + b), .int .i64 0] _) rfl (by simp [Value.oneCell']) (by omega) (by omega) (by simp; omega) rfl rfl rfl rfl ?_; intro g1 c1 w5 ho hg; have HOUT := mkHid (HOUT.out.app1 ⟨13, a, 1 + b, 0⟩ (small_of _ _ _ _ (by omega) (by omega) (by omega) (by omega)) ho hg); have hsz := HOUT.out.size; clear ho hg)
            all_goals (
              refine (HIH.out (by omega) _ _ _ _ (by omega) (by omega) HOUT.out.2.2.2.1).mono ?_
              rintro e w6 ⟨g3, c3, zs3, rfl, m3l, hb⟩
              have HBK := mkHid hb
              have HOUT := mkHid (HOUT.out.pick hb.2.2.2.1 hb.2.2.2.2.1)
              have hsz := HOUT.out.size
              clear hb
              obtain ⟨m3, hm3⟩ : ∃ m3, m3 = zs3.length := ⟨_, rfl⟩
              rw [← hm3] at m3l HBK ⊢
              clear hm3
              go_wp2_with (first
                | (at_builtin; refine wpList_appS Ec HOUT.out.2.1 (HBK.out.2.1.cells rfl) HBK.out.2.1.1 (cflat_one _) (by omega) (by omega) (by omega) rfl rfl rfl rfl ?_; intro g4 c4 w7 ho hg; have HOUT := mkHid (HOUT.out.app (Below.refl _ _) HBK.out.1 HBK.out.2.2.1 ho hg); have hsz := HOUT.out.size; clear ho hg HBK)
                | (at_builtin; refine wpList_appS Ec (HOUT.out.lit _) (newCells _ [.int .i64 14, .int .i64 0, .int .i64 0, .int .i64 0] _) rfl (by simp [Value.oneCell']) (by omega) (by omega) (by simp; omega) rfl rfl rfl rfl ?_; intro g9 c9 w9 ho hg; have HOUT := mkHid (HOUT.out.app1 ⟨14, 0, 0, 0⟩ (small_of _ _ _ _ (by omega) (by omega) (by omega) (by omega)) ho hg); have hsz := HOUT.out.size; clear ho hg))
              go_roundw
              case rel => exact ⟨j, by first | rfl | (congr 1; omega), by omega, HOUT.out.rel (by have := HNN.out; omega) (by omega)⟩
              case measure => simp [intOf] <;> omega)
          · by_cases hd3 : d < 3
            · have hr6 : ¬ (n : Int) + 5 ≤ room := fun h => hdr ⟨hd3, h⟩
              go_wp2_with fail
              go_roundw
              case rel => exact ⟨j, by first | rfl | (congr 1; omega), by omega, HOUT.out.rel (by have := HNN.out; omega) (by omega)⟩
              case measure => simp [intOf] <;> omega
            · clear hdr
              go_wp2_with fail
              go_roundw
              case rel => exact ⟨j, by first | rfl | (congr 1; omega), by omega, HOUT.out.rel (by have := HNN.out; omega) (by omega)⟩
              case measure => simp [intOf] <;> omega
        · by_cases hq2 : q = 2
          · subst hq2
            by_cases hd0 : d = 0
            · subst hd0
              go_wp2_with (at_builtin; refine wpList_appS Ec (HOUT.out.lit _) (newCells _ [.int .i64 10, .int .i64 0, .int .i64 0, .int .i64 0] _) rfl (by simp [Value.oneCell']) (by omega) (by omega) (by simp; omega) rfl rfl rfl rfl ?_; intro g1 c1 w5 ho hg; have HOUT := mkHid (HOUT.out.app1 ⟨10, 0, 0, 0⟩ (small_of _ _ _ _ (by omega) (by omega) (by omega) (by omega)) ho hg); have hsz := HOUT.out.size; clear ho hg)
              go_roundw
              case rel => exact ⟨j, by first | rfl | (congr 1; omega), by omega, HOUT.out.rel (by have := HNN.out; omega) (by omega)⟩
              case measure => simp [intOf] <;> omega
            · have hd1 : (d == 0) = false := by rw [beq_eq_false_iff_ne]; exact hd0
              go_wp2_with fail
              refine (pick_any _ _ _ _ (by omega) HOUT.out.2.2.2.1).mono ?_
              rintro e w3 ⟨t, rfl, t0, t1, r, gr⟩
              have t1 := t1 (by omega)
              have HOUT := mkHid (HOUT.out.pick r gr)
              have hsz := HOUT.out.size
              clear r gr
              by_cases ht : t = 0
              · subst ht
                go_wp2_with (at_builtin; refine wpList_appS Ec (HOUT.out.lit _) (newCells _ [.int .i64 10, .int .i64 0, .int .i64 0, .int .i64 0] _) rfl (by simp [Value.oneCell']) (by omega) (by omega) (by simp; omega) rfl rfl rfl rfl ?_; intro g1 c1 w5 ho hg; have HOUT := mkHid (HOUT.out.app1 ⟨10, 0, 0, 0⟩ (small_of _ _ _ _ (by omega) (by omega) (by omega) (by omega)) ho hg); have hsz := HOUT.out.size; clear ho hg)
                go_roundw
                case rel => exact ⟨j, by first | rfl | (congr 1; omega), by omega, HOUT.out.rel (by have := HNN.out; omega) (by omega)⟩
                case measure => simp [intOf] <;> omega
              · have ht0 : (t == 0) = false := by rw [beq_eq_false_iff_ne]; exact ht
                go_wp2_with fail
                go_roundw
                case rel => exact ⟨j, by first | rfl | (congr 1; omega), by omega, HOUT.out.rel (by have := HNN.out; omega) (by omega)⟩
                case measure => simp [intOf] <;> omega
          · have n0 : (q == 0) = false := by rw [beq_eq_false_iff_ne]; exact hq0
            have n1 : (q == 1) = false := by rw [beq_eq_false_iff_ne]; exact hq1
            have n2 : (q == 2) = false := by rw [beq_eq_false_iff_ne]; exact hq2
            clear hq0 hq1 hq2
            go_wp2_with fail
            refine (l20Plain_any _ _ _ (by omega) HOUT.out.2.2.2.1).mono ?_
            rintro e w3 ⟨x, rfl, hx, r, gr⟩
            have HOUT := mkHid (HOUT.out.pick r gr)
            have hsz := HOUT.out.size
            have HX := mkHid hx
            clear r gr hx
            obtain ⟨xo, xa, xb, xc⟩ := x
            go_wp2_with (at_builtin; refine wpList_appS Ec (HOUT.out.lit _) (newCells _ [.int .i64 xo, .int .i64 xa, .int .i64 xb, .int .i64 xc] _) rfl (by simp [Value.oneCell']) (by omega) (by omega) (by simp; omega) rfl rfl rfl rfl ?_; intro g1 c1 w5 ho hg; have HOUT := mkHid (HOUT.out.app1 ⟨xo, xa, xb, xc⟩ (HX.out) ho hg); have hsz := HOUT.out.size; clear ho hg)
            go_roundw
            case rel => exact ⟨j, by first | rfl | (congr 1; omega), by omega, HOUT.out.rel (by have := HNN.out; omega) (by omega)⟩
            case measure => simp [intOf] <;> omega
    · have hfin := HOUT.out.mono (M := N + (1 + 6 * (30 + 2 * C))) (by
        have : (6 - j) * (30 + 2 * C) ≤ 6 * (30 + 2 * C) := Nat.mul_le_mul_right _ (by omega)
        omega)
      have HFIN := mkHid hfin
      clear hfin
      by_cases hj0 : 0 < j
      · have hnr : ¬ (n : Int) < room := fun h => hgo ⟨hj0, h⟩
        clear hgo
        go_wp2_with fail
        go_ret
        exact ⟨g, c, ys, by rw [HFIN.out.1]; rfl, by rw [HFIN.out.1]; exact hle, by rw [HFIN.out.1]; exact HFIN.out⟩
      · have hj00 : j = 0 := by omega
        subst hj00
        clear hgo
        go_wp2_with fail
        go_ret
        exact ⟨g, c, ys, by rw [HFIN.out.1]; rfl, by rw [HFIN.out.1]; exact hle, by rw [HFIN.out.1]; exact HFIN.out⟩
theorem l20Block_any (room : Int) (br N : Nat) (w : World) (hroom : 1 ≤ room ∧ room ≤ 39) (hN : N ≤ 880000000) (h : Rd w br N) :
    Calls Try.prog 104 #[.pointer (some ⟨br, 0, none⟩), .int .i64 room, .int .i64 0] w (DrawnBlk room br (N + 400000) w) := by
  have h3 := fun room br N w h1 h2 h3 => l20Block_step 3 0 881500000 (by omega) (by omega) (by omega) (fun h => absurd h (by omega)) room br N w h1 h2 h3
  have h2 := fun room br N w h1 h2 h4 => l20Block_step 2 181 881000000 (by omega) (by omega) (by omega) (fun _ room br N w a b c => h3 room br N w a b c) room br N w h1 h2 h4
  have h1 := fun room br N w h1 h3 h4 => l20Block_step 1 2353 880500000 (by omega) (by omega) (by omega) (fun _ room br N w a b c => h2 room br N w a b c) room br N w h1 h3 h4
  have h0 := l20Block_step 0 28417 880000000 (by omega) (by omega) (by omega) (fun _ room br N w a b c => h1 room br N w a b c) room br N w hroom hN h
  exact h0.mono fun e w' ⟨g, c, zs, he, hz, ho⟩ => ⟨g, c, zs, he, hz, ho.mono (by omega)⟩
end Go.Proofs.Ytjmiilneennjaaa
