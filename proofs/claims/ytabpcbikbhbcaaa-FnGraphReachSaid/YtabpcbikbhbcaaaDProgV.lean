/-
  Contract of the draw of a program, l20Program, without a fault: the program is valid.
-/
import Derived.Test.YtabpcbikbhbcaaaDBlkV
import Derived.Test.YtabpcbikbhbcaaaCProg
import Derived.Deep.CutBlock
namespace Go.Proofs.Ytabpcbikbhbcaaa
open Go.RowKit
set_option maxHeartbeats 4000000
set_option maxRecDepth 100000
set_option linter.unusedVariables false

theorem good_plain {d : Nat} (zs : List Cd) (h : ∀ z ∈ zs, PlainOk z) : Good d zs := by
  induction zs with
  | nil => exact Good.nil d
  | cons z zs ih => exact (Good.one (h z (List.mem_cons_self ..))).app (ih fun y hy => h y (List.mem_cons_of_mem _ hy))
theorem plain_list (zs : List Cd) (h : zs.all (fun z => codeValid z && decide (1 ≤ z.op) && decide (z.op ≤ 10)) = true) : ∀ z ∈ zs, PlainOk z := by
  intro z hz
  have := List.all_eq_true.1 h z hz
  simp only [Bool.and_eq_true, decide_eq_true_eq] at this
  exact ⟨this.1.1, this.1.2, this.2⟩
theorem plain_two {x y : Cd} (hx : PlainOk x) (hy : PlainOk y) : ∀ z ∈ [x, y], PlainOk z := by
  intro z hz
  rcases List.mem_cons.1 hz with h | h
  · subst h; exact hx
  · rw [List.mem_singleton] at h; subst h; exact hy
theorem good_valid {zs : List Cd} (h : Good 0 zs) (hl : zs.length ≤ 40) : progValid zs = true := by
  unfold progValid
  rw [decide_eq_true hl, wf_bal h.1, List.all_eq_true.2 h.2]; rfl
/-- a valid program is drawn. -/
def DrawnProgV (br N : Nat) (w : World) (e : Ending) (w' : World) : Prop :=
  ∃ g c zs, e = .returned (.slice (some ⟨g, 0, none⟩) zs.length c) ∧ progValid zs = true ∧ OutAt w w' br N g c zs.length zs
theorem OutAt.drawnV {w0 w : World} {br N M g c n : Nat} {ys : List Cd} (h : OutAt w0 w br N g c n ys) (hM : N ≤ M) (hn : n ≤ 40) (hg : Good 0 ys) {v : Value} (hv : v = .slice (some ⟨g, 0, none⟩) n c) : DrawnProgV br M w0 (.returned v) w :=
  ⟨g, c, ys, by rw [hv, h.1], good_valid hg (by rw [h.1]; exact hn), by rw [h.1]; exact h.mono hM⟩
theorem OutAt.rel34V {w0 w : World} {br N M g c n : Nat} {ys : List Cd} (h : OutAt w0 w br N g c n ys) (hM : N ≤ M) (hn : n ≤ 34) (hg : Good 0 ys) :
    ∃ g' c' ys', (Value.slice (some ⟨g, 0, none⟩) n c = .slice (some ⟨g', 0, none⟩) (List.length ys') c') ∧ List.length ys' ≤ 34 ∧ Good 0 ys' ∧ OutAt w0 w br M g' c' (List.length ys') ys' :=
  ⟨g, c, ys, by rw [h.1], by rw [h.1]; exact hn, hg, by rw [h.1]; exact h.mono hM⟩
theorem oddV (n : Int) (br N : Nat) (w : World) (hn : 1 ≤ n) (hn' : n ≤ 1000000) (hN : N ≤ 1000000000) (h : Rd w br N) :
    Calls Try.prog 49 #[.pointer (some ⟨br, 0, none⟩), .int .i64 n] w fun e w' => ∃ b : Bool, e = .returned (.bool b) ∧ Rd w' br (N + 1) ∧ w.grownBy w' (some br) := by
  go_enter Try.func49, Try.ntmps49
  go_wp2_with fail
  refine (pick_any _ _ _ _ hN h).mono ?_
  rintro e w1 ⟨r, rfl, h0, h1, hr, hg⟩
  have HR := mkHid hr
  have HG := mkHid hg
  clear hr hg h1 h
  go_wp2_with fail
  go_ret
  exact ⟨_, rfl, HR.out, HG.out⟩
theorem oddZero (br : Nat) (w : World) :
    Calls Try.prog 49 #[.pointer (some ⟨br, 0, none⟩), .int .i64 0] w fun e w' => e = .returned (.bool false) ∧ w = w' := by
  go_enter Try.func49, Try.ntmps49
  go_wp2_with fail
  go_ret
  exact ⟨rfl, rfl⟩
theorem l20ProgramV_any (br N : Nat) (w : World) (hN : N ≤ 1000000) (h : Rd w br N) :
    Calls Try.prog 51 #[.pointer (some ⟨br, 0, none⟩), .int .i64 0] w (DrawnProgV br 900000000 w) := by
  have hlt0 := h.lt
  have HOUT := mkHid (show OutAt w (w.alloc (.cells #[] 59)) br N w.heap.size 0 0 [] from ⟨rfl, own_empty w _ _, fun y hy => absurd hy (by simp), h.below ((Below.refl _ _).alloc (Nat.le_refl _) _), World.grownBy_alloc _ _ _, hlt0⟩)
  have hsz := HOUT.out.size
  clear h
  go_enter Try.func51, Try.ntmps51
  go_wp2_with fail
  refine (pick_any _ _ _ _ (by omega) HOUT.out.2.2.2.1).mono ?_
  rintro e w2 ⟨q, rfl, q0, q1, r, gr⟩
  have q1 := q1 (by omega)
  have HOUT := mkHid (HOUT.out.pick r gr)
  have hsz := HOUT.out.size
  clear r gr
  go_upto_block 0 with fail
  go_cut [5] from 8 (fun s5 wx => ∃ g c n1 ys, s5 = .slice (some ⟨g, 0, none⟩) n1 c ∧ n1 ≤ 3 ∧ Good 0 ys ∧ OutAt w wx br (N + 5) g c n1 ys)
  case first =>
    by_cases hq0 : q = 0
    · subst hq0
      go_wp2_with (at_builtin; refine wpList_appS Ec (HOUT.out.lit _) (newCells _ [.int .i64 2, .int .i64 0, .int .i64 0, .int .i64 0, .int .i64 5, .int .i64 1, .int .i64 0, .int .i64 0] _) rfl (by simp [Value.oneCell']) (by omega) (by omega) (by simp; omega) rfl rfl rfl rfl ?_; intro g1 c1 w3 ho hg; have HOUT := mkHid (HOUT.out.many [⟨2, 0, 0, 0⟩, ⟨5, 1, 0, 0⟩] rfl (small_list _ (by decide)) ho hg); have hsz := HOUT.out.size; clear ho hg)
      go_meet
      case rel => exact ⟨_, _, _, _, rfl, by omega, (Good.nil 0).app (good_plain _ (plain_list _ (by decide))), HOUT.out.mono (by omega)⟩

    · by_cases hq1 : q = 1
      · subst hq1
        go_wp2_with (at_builtin; refine wpList_appS Ec (HOUT.out.lit _) (newCells _ [.int .i64 2, .int .i64 3, .int .i64 0, .int .i64 0, .int .i64 8, .int .i64 0, .int .i64 3, .int .i64 0, .int .i64 9, .int .i64 0, .int .i64 3, .int .i64 0] _) rfl (by simp [Value.oneCell']) (by omega) (by omega) (by simp; omega) rfl rfl rfl rfl ?_; intro g1 c1 w3 ho hg; have HOUT := mkHid (HOUT.out.many [⟨2, 3, 0, 0⟩, ⟨8, 0, 3, 0⟩, ⟨9, 0, 3, 0⟩] rfl (small_list _ (by decide)) ho hg); have hsz := HOUT.out.size; clear ho hg)
        go_meet
        case rel => exact ⟨_, _, _, _, rfl, by omega, (Good.nil 0).app (good_plain _ (plain_list _ (by decide))), HOUT.out.mono (by omega)⟩

      · by_cases hq2 : q = 2
        · subst hq2
          go_wp2_with fail
          refine (pick_any _ _ _ _ (by omega) HOUT.out.2.2.2.1).mono ?_
          rintro e w3 ⟨a, rfl, a0, a1, r, gr⟩
          have a1 := a1 (by omega)
          have HOUT := mkHid (HOUT.out.pick r gr)
          have hsz := HOUT.out.size
          clear r gr
          go_wp2_with fail
          refine (pick_any _ _ _ _ (by omega) HOUT.out.2.2.2.1).mono ?_
          rintro e w4 ⟨b, rfl, b0, b1, r, gr⟩
          have b1 := b1 (by omega)
          have HOUT := mkHid (HOUT.out.pick r gr)
          have hsz := HOUT.out.size
          clear r gr
          go_wp2_with (at_builtin; refine wpList_appS Ec (HOUT.out.lit _) (newCells _ [.int .i64 1, .int .i64 a, .int .i64 (1 + b), .int .i64 0] _) rfl (by simp [Value.oneCell']) (by omega) (by omega) (by simp; omega) rfl rfl rfl rfl ?_; intro g1 c1 w5 ho hg; have HOUT := mkHid (HOUT.out.app1 ⟨1, a, 1 + b, 0⟩ (small_of _ _ _ _ (by omega) (by omega) (by omega) (by omega)) ho hg); have hsz := HOUT.out.size; clear ho hg)
          go_meet
          case rel => exact ⟨_, _, _, _, rfl, by omega, (Good.nil 0).snoc (plain1 (by omega) (by omega)), HOUT.out.mono (by omega)⟩

        · have n0 : (q == 0) = false := by rw [beq_eq_false_iff_ne]; exact hq0
          have n1 : (q == 1) = false := by rw [beq_eq_false_iff_ne]; exact hq1
          have n2 : (q == 2) = false := by rw [beq_eq_false_iff_ne]; exact hq2
          clear hq0 hq1 hq2
          go_wp2_with fail
          go_meet
          case rel => exact ⟨_, _, _, _, rfl, by omega, Good.nil 0, HOUT.out.mono (by omega)⟩

  case rest =>
    clear HOUT hsz
    obtain ⟨g, c, n1, ys, rfl, hn1, hgd, hout⟩ := hcut
    have HOUT := mkHid hout
    have hsz := hout.size
    have HGD := mkHid hgd
    clear hout hgd
    go_wp2_with fail
    refine (pick_any _ _ _ _ (by omega) HOUT.out.2.2.2.1).mono ?_
    rintro e wp ⟨p, rfl, p0, p1, r, gr⟩
    have p1 := p1 (by omega)
    have HOUT := mkHid (HOUT.out.pick r gr)
    have hsz := HOUT.out.size
    clear r gr
    obtain ⟨p, rfl⟩ := Int.eq_ofNat_of_zero_le p0
    clear p0
    go_upto_block 1 with fail
    go_cut [5] from 8 (fun s5 wx => ∃ g c n1 ys, s5 = .slice (some ⟨g, 0, none⟩) n1 c ∧ n1 ≤ 39 ∧ Good 0 ys ∧ OutAt w wx br (N + 1300000) g c n1 ys)
    case first =>
      go_wp2_with fail
      go_loopw [6, 5] (fun kv ov wr => ∃ j : Nat, kv = .int .i64 j ∧ j ≤ 3 ∧ ∃ g c ys, ov = .slice (some ⟨g, 0, none⟩) (List.length ys) c ∧ List.length ys ≤ 34 ∧ Good 0 ys ∧ OutAt w wr br (N + 10 + (3 - j) * 400000) g c (List.length ys) ys) (fun kv _ _ => (intOf kv).toNat)
      case atStart => exact ⟨1 + p, by go_num, by omega, HOUT.out.rel34V (by omega) (by omega) HGD.out⟩
      case round =>
        clear HOUT hsz HGD
        obtain ⟨j, rfl, hj, g, c, ys, rfl, hle, hgd, hout⟩ := hrel
        have HGD := mkHid hgd
        clear hgd
        have HOUT := mkHid hout
        have hsz := hout.size
        have hgb := (hout.2.1.lt g rfl).1
        clear hout
        obtain ⟨n1, hn1⟩ : ∃ n1, n1 = List.length ys := ⟨_, rfl⟩
        rw [← hn1] at hle HOUT ⊢
        clear hn1
        by_cases hj0 : 0 < j
        · go_wp2_with fail
          refine (l20BlockV_any _ _ _ _ (by omega) (by omega) HOUT.out.2.2.2.1).mono ?_
          rintro e w6 ⟨g3, c3, zs3, rfl, ml, hg3, hb⟩
          have HG3 := mkHid hg3
          clear hg3
          have HBK := mkHid hb
          have HOUT := mkHid (HOUT.out.pick hb.2.2.2.1 hb.2.2.2.2.1)
          have hsz := HOUT.out.size
          clear hb
          obtain ⟨m3, hm3⟩ : ∃ m3, m3 = zs3.length := ⟨_, rfl⟩
          rw [← hm3] at ml HBK ⊢
          clear hm3
          by_cases h34 : n1 + m3 ≤ 34
          · go_wp2_with (at_builtin; refine wpList_appS Ec HOUT.out.2.1 (HBK.out.2.1.cells rfl) HBK.out.2.1.1 (cflat_one _) (by omega) (by omega) (by omega) rfl rfl rfl rfl ?_; intro g4 c4 w7 ho hg; have HOUT := mkHid (HOUT.out.app (Below.refl _ _) HBK.out.1 HBK.out.2.2.1 ho hg); have hsz := HOUT.out.size; clear ho hg HBK)
            go_roundw
            case rel => exact ⟨j - 1, by congr 1; omega, by omega, HOUT.out.rel34V (by
              rw [show 3 - (j - 1) = (3 - j) + 1 from by omega, Nat.add_mul]; omega) (by omega) (HGD.out.app HG3.out)⟩
            case measure => simp [intOf] <;> omega
          · go_wp2_with (at_builtin; refine wpList_appS Ec HOUT.out.2.1 (HBK.out.2.1.cells rfl) HBK.out.2.1.1 (cflat_one _) (by omega) (by omega) (by omega) rfl rfl rfl rfl ?_; intro g4 c4 w7 ho hg; have HOUT := mkHid (HOUT.out.app (Below.refl _ _) HBK.out.1 HBK.out.2.2.1 ho hg); have hsz := HOUT.out.size; clear ho hg HBK)
            go_meet
            case rel => exact ⟨_, _, _, _, rfl, by omega, HGD.out.app HG3.out, HOUT.out.mono (by omega)⟩
        · go_wp2_with fail
          go_meet
          case rel => exact ⟨_, _, _, _, rfl, by omega, HGD.out, HOUT.out.mono (by omega)⟩
    case rest =>
      clear HOUT hsz
      obtain ⟨g, c, n1, ys, rfl, hn1, hgd, hout⟩ := hcut
      have HOUT := mkHid hout
      have hsz := hout.size
      have HGD := mkHid hgd
      clear hout hgd
      go_upto_region 14 with fail
      go_cut [5, 60] from 8 (fun s5 s60 wx => ∃ g c n1 ys, ∃ b : Bool, s5 = .slice (some ⟨g, 0, none⟩) n1 c ∧ s60 = .bool b ∧ (b = true → n1 < 37) ∧ n1 ≤ 39 ∧ Good 0 ys ∧ OutAt w wx br (N + 1300001) g c n1 ys)
      case first =>
        go_wp2_with fail
        refine (oddV _ _ _ _ (by omega) (by omega) (by omega) HOUT.out.2.2.2.1).mono ?_
        rintro e wo ⟨ob, rfl, r, gr⟩
        have HOUT := mkHid (HOUT.out.pick r gr)
        have hsz := HOUT.out.size
        clear r gr
        cases ob with
        | false =>
          go_wp2_with fail
          go_meet
          case rel => exact ⟨_, _, _, _, _, rfl, rfl, (fun h => by cases h), by omega, HGD.out, HOUT.out.mono (by omega)⟩
        | true =>
          by_cases h37 : n1 < 37
          · go_wp2_with fail
            go_meet
            case rel => exact ⟨_, _, _, _, true, rfl, by first | rfl | (simp; omega), (fun _ => h37), by omega, HGD.out, HOUT.out.mono (by omega)⟩
          · go_wp2_with fail
            go_meet
            case rel => exact ⟨_, _, _, _, false, rfl, by first | rfl | (simp; omega), (fun h => by cases h), by omega, HGD.out, HOUT.out.mono (by omega)⟩
      case rest =>
        clear HOUT hsz
        obtain ⟨g, c, n1, ys, b, rfl, rfl, hb37, hn1, hgd, hout⟩ := hcut
        have HGD := mkHid hgd
        clear hgd
        have HOUT := mkHid hout
        have hsz := hout.size
        have hgb := (hout.2.1.lt g rfl).1
        have HB37 := mkHid hb37
        clear hout hb37
        go_upto_if 60 with fail
        go_cut [5] from 8 (fun s5 wx => ∃ g c n1 ys, s5 = .slice (some ⟨g, 0, none⟩) n1 c ∧ n1 ≤ 39 ∧ Good 0 ys ∧ OutAt w wx br (N + 1300010) g c n1 ys)
        case first =>
          cases b with
          | false =>
            go_wp2_with fail
            go_meet
            case rel => exact ⟨_, _, _, _, rfl, by omega, HGD.out, HOUT.out.mono (by omega)⟩
          | true =>
            have h37 := HB37.out rfl
            go_wp2_with fail
            refine (pick_any _ _ _ _ (by omega) HOUT.out.2.2.2.1).mono ?_
            rintro e w3 ⟨a, rfl, a0, a1, r, gr⟩
            have a1 := a1 (by omega)
            have HOUT := mkHid (HOUT.out.pick r gr)
            have hsz := HOUT.out.size
            clear r gr

            go_wp2_with (at_builtin; refine wpList_appS Ec (HOUT.out.lit _) (newCells _ [.int .i64 2, .int .i64 2, .int .i64 0, .int .i64 0, .int .i64 9, .int .i64 a, .int .i64 2, .int .i64 0] _) rfl (by simp [Value.oneCell']) (by omega) (by omega) (by simp; omega) rfl rfl rfl rfl ?_; intro g1 c1 w4 ho hg; have HOUT := mkHid (HOUT.out.many [⟨2, 2, 0, 0⟩, ⟨9, a, 2, 0⟩] rfl (fun z hz => by rcases List.mem_cons.1 hz with h | h; subst h; exact small_of _ _ _ _ (by omega) (by omega) (by omega) (by omega); rw [List.mem_singleton] at h; subst h; exact small_of _ _ _ _ (by omega) (by omega) (by omega) (by omega)) ho hg); have hsz := HOUT.out.size; clear ho hg)
            go_meet
            case rel => exact ⟨_, _, _, _, rfl, by omega, HGD.out.app (good_plain _ (plain_two (plain0 (by omega)) (plain2 (by omega) (by omega) (by omega)))), HOUT.out.mono (by omega)⟩
        case rest =>
          clear HOUT hsz
          obtain ⟨g, c, n1, ys, rfl, hn1, hgd, hout⟩ := hcut
          have HOUT := mkHid hout
          have hsz := hout.size
          have hgb := (hout.2.1.lt g rfl).1
          clear hout

          by_cases hn0 : n1 = 0
          · subst hn0
            go_wp2_with fail
            go_ret
            exact HOUT.out.drawnV (by omega) (by omega) hgd rfl
          · have hn0' : 0 < n1 := by omega
            have HGD := mkHid hgd
            clear hgd
            go_wp2_with fail
            refine (oddZero _ _).mono ?_
            rintro e wo ⟨rfl, rfl⟩
            go_wp2_with fail
            go_ret
            exact HOUT.out.drawnV (by omega) (by omega) HGD.out rfl
end Go.Proofs.Ytabpcbikbhbcaaa
