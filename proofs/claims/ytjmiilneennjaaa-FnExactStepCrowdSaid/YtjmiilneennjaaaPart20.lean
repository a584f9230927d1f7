/-
  Parts of a proof: CCrArg, CCrEq.
-/
import Derived.Test.YtjmiilneennjaaaPart12
import Derived.Test.YtjmiilneennjaaaPart19
import Derived.Deep.Cut
import Derived.Test.YtjmiilneennjaaaPart18
namespace Go.Proofs.Ytjmiilneennjaaa
open Go.RowKit
set_option maxHeartbeats 2000000
set_option maxRecDepth 100000
set_option linter.unusedVariables false

/-- what a size counter hands back: -1, or what is left, and then the sizes are within bounds. -/
def LeftSz (P : Prop) (l : Int) (w : World) (e : Ending) (w' : World) : Prop :=
  ((∃ v : Int, e = .returned (.int .i64 v) ∧ 0 ≤ v ∧ v ≤ l ∧ P) ∨ e = .returned (.int .i64 (-1))) ∧ Below w.heap.size w w'
theorem szIntsC_any (A : Option Addr) (n c : Nat) (l : Int) (w : World) (hl : 0 ≤ l ∧ l ≤ 1048576) (hn : n ≤ 9223372036854775807) :
    Calls Try.prog 38 #[.slice A n c, .int .i64 l] w (LeftOver n l w) := by
  by_cases h : (n : Int) ≤ l
  · go_enter Try.func38, Try.ntmps38
    go_wp2
    go_ret
    exact ⟨.inl ⟨h, rfl⟩, rfl⟩
  · go_enter Try.func38, Try.ntmps38
    go_wp2
    go_ret
    exact ⟨.inr ⟨by omega, rfl⟩, rfl⟩
theorem szLane_any (x : Lt) (l : Int) (w : World) (hl : 0 ≤ l ∧ l ≤ 1048576) (h1 : x.zs.length ≤ 9223372036854775807) (h2 : x.ts.length ≤ 9223372036854775807) :
    Calls Try.prog 80 #[ltV x, .int .i64 l] w (LeftSz (x.zs.length ≤ 1048576 ∧ x.ts.length ≤ 1048576) l w) := by
  obtain ⟨ra, rc, zs, at_, ta, tc, ts, wt⟩ := x
  simp only at h1 h2 ⊢
  have HB := mkHid (show Below w.heap.size w (w.alloc (.cells #[.slice ra zs.length rc, .int .i64 at_, .slice ta ts.length tc, .bool wt] 105)) from (Below.refl _ _).alloc (Nat.le_refl _) _)
  go_enter Try.func80, Try.ntmps80
  go_wp2_with fail
  refine (szIntsC_any _ _ _ _ _ hl h1).mono ?_
  rintro e w2 ⟨⟨hle, rfl⟩ | ⟨hlt, rfl⟩, rfl⟩
  · go_wp2_with fail
    refine (szIntsC_any _ _ _ _ _ (by omega) h2).mono ?_
    rintro e w2 ⟨⟨hle2, rfl⟩ | ⟨hlt, rfl⟩, rfl⟩
    · go_wp2_with fail
      go_ret
      exact ⟨.inl ⟨_, rfl, by omega, by omega, by omega, by omega⟩, HB.out⟩
    · go_wp2_with fail
      go_ret
      exact ⟨.inr rfl, HB.out⟩
  · go_wp2_with fail
    go_ret
    exact ⟨.inr rfl, HB.out⟩
theorem szLaneS_any (A : Option Addr) (c : Nat) (ls : List Lt) (l : Int) (w : World) (hl : 0 ≤ l ∧ l ≤ 1048576) (hn : ls.length ≤ 9223372036854775807) (hs : TGrid w A ls) :
    Calls Try.prog 37 #[.slice A ls.length c, .int .i64 l] w (LeftSz (ls.length ≤ 1048576 ∧ ∀ x ∈ ls, x.zs.length ≤ 1048576 ∧ x.ts.length ≤ 1048576) l w) := by
  by_cases h : (ls.length : Int) ≤ l
  · have HS := mkHid hs
    clear hs
    go_enter Try.func37, Try.ntmps37
    go_wp2_with fail
    go_loopw [1, 5] (fun v i wr => ∃ k : Nat, k ≤ ls.length ∧ i = .int .i64 k ∧ ∃ q : Int, v = .int .i64 q ∧ 0 ≤ q ∧ q ≤ l ∧ Hid (∀ j (h : j < ls.length), j < k → ls[j].zs.length ≤ 1048576 ∧ ls[j].ts.length ≤ 1048576) ∧ Below w.heap.size w wr) (fun _ i _ => ls.length - (intOf i).toNat)
    case atStart => exact ⟨0, by omega, rfl, l - ls.length, by first | rfl | simp, by omega, by omega, mkHid (fun j h h' => absurd h' (by omega)), Below.refl _ _⟩
    case round =>
      obtain ⟨k, hk, rfl, q, rfl, hq0, hql, HH, hb⟩ := hrel
      have HB := mkHid hb
      by_cases hlt : k < ls.length
      · have hi := (HS.out.below hb).2 _ (List.getElem_mem hlt)
        have hC := szLane_any ls[k] q wr (by omega) hi.1.2 hi.2.2
        obtain ⟨b, off, hA, h0, h1, h2, h3⟩ := (HS.out.below hb).1.lt hlt
        obtain ⟨x, hx⟩ : ∃ x, x = ls[k] := ⟨_, rfl⟩
        simp only [← hx] at h0 h1 h2 h3 hC
        have HX := mkHid hx
        obtain ⟨ra, rc, zs, at_, ta, tc, ts, wt⟩ := x
        simp only at h0 h1 h2 h3 hC
        have HC := mkHid hC
        subst hA
        clear hC hx hi hb
        go_wp2_with fail
        refine HC.out.mono ?_
        rintro e w2 ⟨⟨v, rfl, v0, v1, hp1, hp2⟩ | rfl, b2⟩
        · have HB2 := mkHid (below_then HB.out b2)
          clear b2
          go_wp2_with fail
          go_roundw
          case rel =>
            refine ⟨k + 1, by omega, by go_num, v, rfl, v0, by omega, mkHid (fun j h h' => ?_), HB2.out⟩
            by_cases e : j = k
            · subst e; rw [← HX.out]; exact ⟨hp1, hp2⟩
            · exact HH.out j h (by omega)
          case measure => simp [intOf] <;> omega
        · have HB2 := mkHid (below_then HB.out b2)
          clear b2
          go_wp2_with fail
          go_ret
          exact ⟨.inr rfl, HB2.out⟩
      · clear hb
        go_wp2_with fail
        go_ret
        refine ⟨.inl ⟨q, rfl, hq0, hql, by omega, fun x hx => ?_⟩, HB.out⟩
        obtain ⟨j, hj, rfl⟩ := List.mem_iff_getElem.1 hx
        exact HH.out j hj (by omega)
  · clear hs
    go_enter Try.func37, Try.ntmps37
    go_wp2_with fail
    go_ret
    exact ⟨.inr rfl, Below.refl _ _⟩
theorem szCrowd_any (A : Option Addr) (c : Nat) (ls : List Lt) (m : IR) (l : Int) (w : World) (hl : 0 ≤ l ∧ l ≤ 1048576) (hn : ls.length ≤ 9223372036854775807) (hm : m.zs.length ≤ 9223372036854775807) (hs : TGrid w A ls) :
    Calls Try.prog 9 #[.agg #[.slice A ls.length c, .slice m.a m.zs.length m.c], .int .i64 l] w (LeftSz ((ls.length ≤ 1048576 ∧ ∀ x ∈ ls, x.zs.length ≤ 1048576 ∧ x.ts.length ≤ 1048576) ∧ m.zs.length ≤ 1048576) l w) := by
  have hb : Below w.heap.size w (w.alloc (.cells #[.slice A ls.length c, .slice m.a m.zs.length m.c] 25)) := (Below.refl _ _).alloc (Nat.le_refl _) _
  have q1 : (w.alloc (.cells #[.slice A ls.length c, .slice m.a m.zs.length m.c] 25)).heap[w.heap.size]? = _ := heap_alloc_new _ _
  have HQ := mkHid q1
  have HB := mkHid hb
  have HZ := mkHid (szLaneS_any A c ls l _ hl hn (hs.below hb))
  clear hb q1 hs
  go_enter Try.func9, Try.ntmps9
  go_wp2_with fail
  refine HZ.out.mono ?_
  rintro e w2 ⟨⟨v, rfl, v0, v1, hp⟩ | rfl, b2⟩
  · have HP := mkHid hp
    have HB2 := mkHid (HB.out.trans (b2.mono HB.out.size))
    obtain ⟨p0, p1⟩ := box2t ((b2.block _ (by simp)).trans HQ.out)
    clear b2 hp
    go_wp2_with fail
    refine (szIntsC_any _ _ _ _ _ (by omega) hm).mono ?_
    rintro e w3 ⟨⟨hle, rfl⟩ | ⟨hlt, rfl⟩, rfl⟩
    · clear p0 p1
      go_wp2_with fail
      go_ret
      exact ⟨.inl ⟨_, rfl, by omega, by omega, HP.out, by omega⟩, HB2.out⟩
    · clear p0 p1
      go_wp2_with fail
      go_ret
      exact ⟨.inr rfl, HB2.out⟩
  · have HB2 := mkHid (HB.out.trans (b2.mono HB.out.size))
    clear b2
    go_wp2_with fail
    go_ret
    exact ⟨.inr rfl, HB2.out⟩
/-! ### copies -/
theorem toLane_any (x : Lt) (w : World) (hl : x.zs.length ≤ 1048576 ∧ x.ts.length ≤ 1048576) (hs : LaneIn w x) :
    Calls Try.prog 84 #[ltV x] w (RetLt x.st w) := by
  obtain ⟨ra, rc, zs, at_, ta, tc, ts, wt⟩ := x
  simp only at hl ⊢
  obtain ⟨o1, ho1⟩ : ∃ o1, o1 = Obj.cells #[.slice ra zs.length rc, .int .i64 at_, .slice ta ts.length tc, .bool wt] 105 := ⟨_, rfl⟩
  obtain ⟨o2, ho2⟩ : ∃ o2, o2 = Obj.cells #[.slice none 0 0, .int .i64 0, .slice none 0 0, .bool false] 52 := ⟨_, rfl⟩
  have hb : Below w.heap.size w (((w.alloc o1).alloc o2).alloc o2) := (((Below.refl _ _).alloc (Nat.le_refl _) _).alloc (by simp) _).alloc (by simp; omega) _
  have q1 : (((w.alloc o1).alloc o2).alloc o2).heap[w.heap.size]? = some o1 := by
    rw [heap_alloc_old _ _ (by simp; omega), heap_alloc_old _ _ (by simp)]; exact heap_alloc_new _ _
  have q2 : (((w.alloc o1).alloc o2).alloc o2).heap[w.heap.size + 1]? = some o2 := by
    rw [heap_alloc_old _ _ (by simp)]
    have := heap_alloc_new (w.alloc o1) o2
    simpa using this
  have q3 : (((w.alloc o1).alloc o2).alloc o2).heap[w.heap.size + 2]? = some o2 := by
    have := heap_alloc_new ((w.alloc o1).alloc o2) o2
    simpa using this
  have hsz : (((w.alloc o1).alloc o2).alloc o2).heap.size = w.heap.size + 3 := by simp
  have HT1 := mkHid (toIntS_any ra rc zs _ hl.1 (hs.1.1.below hb))
  have HS0 := mkHid hs
  have HB := mkHid hb
  have Q1 := mkHid q1
  have Q2 := mkHid q2
  have Q3 := mkHid q3
  have HSZ := mkHid hsz
  subst ho1 ho2
  clear hs hb q1 q2 q3 hsz
  go_enter Try.func84, Try.ntmps84
  go_wp2_with fail
  refine HT1.out.mono ?_
  rintro e w2 ⟨A2, c2, rfl, o2, b2⟩
  have r1 := (b2.block _ (Array.getElem?_eq_some_iff.1 Q1.out).1).trans Q1.out
  have r3 := (b2.block _ (Array.getElem?_eq_some_iff.1 Q3.out).1).trans Q3.out
  have r2 := (b2.block _ (Array.getElem?_eq_some_iff.1 Q2.out).1).trans Q2.out
  have R1 := mkHid r1
  have R2 := mkHid r2
  have R3 := mkHid r3
  have O2 := mkHid o2
  have HB2 := mkHid (HB.out.trans (b2.mono HB.out.size))
  have HZ2 : Hid (w.heap.size + 3 ≤ w2.heap.size) := mkHid (by have := b2.size; rw [HSZ.out] at this; exact this)
  have HL2 : Hid (∀ g, (Value.slice A2 zs.length c2).ownBlock = some g → w.heap.size + 3 ≤ g) := mkHid (fun g e => by have := (o2.lt g e).1; rw [HSZ.out] at this; exact this)
  obtain ⟨⟨p0, p1, p2, p3⟩, _⟩ := box4t r1
  obtain ⟨⟨s0, s1, s2, s3⟩, f0, f1, f2, f3⟩ := box4t r3
  clear o2 b2 r1 r2 r3 HT1 HB
  go_upto_region 4 with fail
  refine name_world ?_
  intro W3 hW3
  have hg3 : w2.grownBy W3 (some (w.heap.size + 2)) := by rw [hW3]; exact grown_setCell' (grown_setCell w2 _ 0 _) 1 _
  have e3 : W3.heap[w.heap.size + 2]? = some (.cells #[.slice A2 zs.length c2, .int .i64 at_, .slice none 0 0, .bool false] 52 (0, 0)) := by
    rw [hW3]
    have h1 := heap_setCell_same w2 (w.heap.size + 2) 0 _ _ (.slice A2 zs.length c2) R3.out
    have h2 := heap_setCell_same _ (w.heap.size + 2) 1 _ _ (.int .i64 at_) h1
    simpa using h2
  have e1 := (hg3.block _ (Array.getElem?_eq_some_iff.1 R1.out).1 (fun e => by injection e with e; omega)).trans R1.out
  have e2 := (hg3.block _ (Array.getElem?_eq_some_iff.1 R2.out).1 (fun e => by injection e with e; omega)).trans R2.out
  have hO3 : W3.ownsRow w.heap.size 3 1 (.slice A2 zs.length c2) zs.length (ints zs) := own_base (own_grown' O2.out hg3 (fun g e1 e2 => by injection e2 with e2; have := HL2.out g e1; omega)) (by rw [HSZ.out]; omega)
  have hB3 : Below w.heap.size w W3 := HB2.out.grown hg3 HB2.out.size (fun g e => by injection e with e; omega)
  have O3 := mkHid hO3
  have HB3 := mkHid hB3
  have E3 := mkHid e3
  have E2 := mkHid e2
  have HZ3 : Hid (w.heap.size + 3 ≤ W3.heap.size) := mkHid (Nat.le_trans HZ2.out hg3.size)
  have HT2 := mkHid (toIntS_any ta tc ts W3 hl.2 (HS0.out.2.1.below hB3))
  clear p0 p1 p2 p3 s0 s1 s2 s3 f0 f1 f2 f3 hW3 hg3 hO3 hB3
  obtain ⟨⟨p0, p1, p2, p3⟩, _⟩ := box4t e1
  have E1 := mkHid e1
  clear e1 e2 e3
  go_wp2_with fail
  refine HT2.out.mono ?_
  rintro e w4 ⟨A4, c4, rfl, o4, b4⟩
  have r1 := (b4.block _ (Array.getElem?_eq_some_iff.1 E1.out).1).trans E1.out
  have r3 := (b4.block _ (Array.getElem?_eq_some_iff.1 E3.out).1).trans E3.out
  have r2 := (b4.block _ (Array.getElem?_eq_some_iff.1 E2.out).1).trans E2.out
  have R3' := mkHid r3
  have R2' := mkHid r2
  have HAP := mkHid (Apt.two (lo := w.heap.size) (mid := W3.heap.size) (r := ⟨A2, c2, zs⟩) (s := ⟨A4, c4, ts⟩) O3.out b4 HB3.out.size (Nat.le_refl _) o4)
  have HB4 := mkHid (HB3.out.trans (b4.mono HB3.out.size))
  clear p0 p1 p2 p3
  obtain ⟨⟨p0, p1, p2, p3⟩, _⟩ := box4t r1
  obtain ⟨⟨s0, s1, s2, s3⟩, f0, f1, f2, f3⟩ := box4t r3
  clear o4 b4 r1 r2 r3 HT2
  go_upto_region 6 with fail
  refine name_world ?_
  intro W6 hW6
  have hg6 : w4.grownBy W6 (some (w.heap.size + 2)) := by rw [hW6]; exact grown_setCell' (grown_setCell w4 _ 2 _) 3 _
  have e6 : W6.heap[w.heap.size + 2]? = some (.cells #[.slice A2 zs.length c2, .int .i64 at_, .slice A4 ts.length c4, .bool wt] 52 (0, 0)) := by
    rw [hW6]
    have h1 := heap_setCell_same w4 (w.heap.size + 2) 2 _ _ (.slice A4 ts.length c4) R3'.out
    have h2 := heap_setCell_same _ (w.heap.size + 2) 3 _ _ (.bool wt) h1
    simpa using h2
  have e2 := (hg6.block _ (Array.getElem?_eq_some_iff.1 R2'.out).1 (fun e => by injection e with e; omega)).trans R2'.out
  have HA6 := mkHid (HAP.out.other hg6 R3'.out (by decide))
  have HB6 := mkHid (HB4.out.grown hg6 HB4.out.size (fun g e => by injection e with e; omega))
  have E2' := mkHid e2
  clear p0 p1 p2 p3 s0 s1 s2 s3 f0 f1 f2 f3 hW6 hg6
  obtain ⟨⟨s0, s1, s2, s3⟩, _⟩ := box4t e6
  obtain ⟨⟨d0, d1, d2, d3⟩, f0, f1, f2, f3⟩ := box4t e2
  clear e2 e6
  go_wp2_with fail
  refine bodyPost_ret (v := ltV ⟨A2, c2, zs, at_, A4, c4, ts, wt⟩) (by simp [results, Try.results84, go_sem, d0, d1, d2, d3]) rfl ⟨_, rfl, rfl, ?_, ?_⟩
  · exact HA6.out.other (grown_setCell' (grown_setCell' (grown_setCell' (grown_setCell W6 (w.heap.size + 1) 0 _) 1 _) 2 _) 3 _) E2'.out (by decide)
  · exact HB6.out.grown (grown_setCell' (grown_setCell' (grown_setCell' (grown_setCell W6 (w.heap.size + 1) 0 _) 1 _) 2 _) 3 _) HB6.out.size (fun g e => by injection e with e; omega)
/-- the crowd's lanes in memory of one's own. -/
def RetLts (ss : List LS) (w : World) (e : Ending) (w' : World) : Prop :=
  ∃ A c, ∃ ls : List Lt, e = .returned (.slice A ls.length c) ∧ sts ls = ss ∧ CrAt w' w.heap.size A c ls nilIR ∧ Below w.heap.size w w'
abbrev nilLt : Lt := ⟨none, 0, [], 0, none, 0, [], false⟩
theorem madeLanes (n : Nat) : (madeCells (Value.agg #[.slice none 0 0, .int .i64 0, .slice none 0 0, .bool false]).cells (n * 4)).toList = tflat (List.replicate n nilLt) := by
  apply List.ext_getElem?
  intro i
  by_cases h : i < n * 4
  · have h1 := tflat_at (List.replicate n nilLt) (i / 4) (i % 4) (by simp; omega) (Nat.mod_lt _ (by omega))
    rw [show i / 4 * 4 + i % 4 = i from by omega] at h1
    rw [h1]
    have h2 : i % 4 = 0 ∨ i % 4 = 1 ∨ i % 4 = 2 ∨ i % 4 = 3 := by omega
    rcases h2 with h2 | h2 | h2 | h2 <;> simp [madeCells, h, Value.cells, h2, ltCells]
  · rw [List.getElem?_eq_none (by simp [madeCells]; omega), List.getElem?_eq_none (by rw [tflat_length]; simp; omega)]
theorem apt_nils (w : World) (lo : Nat) (rs : List IR) (h : ∀ r ∈ rs, r = nilIR) : Apt w lo rs :=
  ⟨fun r hr => by rw [h r hr]; exact World.ownsRow_nil _ _ _ _, fun i j hi hj _ g e => by rw [h _ (List.getElem_mem hi)] at e; cases e⟩
theorem rows_nils (n : Nat) : ∀ r ∈ nilIR :: rowsL (List.replicate n nilLt), r = nilIR := by
  intro r hr
  rcases List.mem_cons.1 hr with h | h
  · exact h
  · induction n with
    | zero => simp [rowsL] at h
    | succ n ih =>
      simp only [List.replicate_succ, rowsL, List.mem_cons] at h
      rcases h with h | h | h
      · exact h
      · exact h
      · exact ih (List.mem_cons_of_mem _ h) h
theorem toLaneS_any (A : Option Addr) (c : Nat) (xs : List Lt) (w : World) (hl : xs.length ≤ 1048576) (hll : ∀ x ∈ xs, x.zs.length ≤ 1048576 ∧ x.ts.length ≤ 1048576) (hs : TGrid w A xs) :
    Calls Try.prog 43 #[.slice A xs.length c] w (RetLts (sts xs) w) := by
  obtain ⟨i0, hi0, hz0, hz1, hz2⟩ := info_parts Elt.hi
  have HLL := mkHid hll
  have HS := mkHid hs
  clear hs hll
  go_enter Try.func43, Try.ntmps43
  go_wp2_with (at_make; refine wpList_make_full _ rfl _ _ _ rfl w.heap.size _ i0 _ 4 Elt.ht hi0 hz0 hz1 _ _ _ _ xs.length rfl rfl rfl rfl (by rw [hz2]; omega) (by simp only [maxLen]; omega) (Nat.le_refl _) ?_; intro w1 hown1 hg1; have HO := mkHid hown1; have HG := mkHid hg1; clear hown1 hg1)
  have HO1 : Hid (CrAt w1 w.heap.size (some ⟨w.heap.size, 0, none⟩) xs.length (List.replicate xs.length nilLt) nilIR) := mkHid ⟨by
    have := HO.out
    rw [madeLanes] at this
    simpa using this, apt_nils _ _ _ (rows_nils _)⟩
  have HB1 := mkHid ((Below.refl w.heap.size w).grown HG.out (Nat.le_refl _) (by simp))
  clear HO HG
  obtain ⟨n, hn⟩ : ∃ n, n = xs.length := ⟨_, rfl⟩
  have HN := mkHid hn
  rw [← hn] at HO1 hl
  rw [← hn]
  clear hn
  go_loopw [4] (fun i wr => ∃ k : Nat, k ≤ n ∧ i = .int .i64 k ∧ ∃ ls : List Lt, ls.length = n ∧ Hid (∀ j (h : j < ls.length) (h' : j < xs.length), j < k → ls[j].st = xs[j].st) ∧ CrAt wr w.heap.size (some ⟨w.heap.size, 0, none⟩) n ls nilIR ∧ Below w.heap.size w wr) (fun i _ => n - (intOf i).toNat)
  case atStart => exact ⟨0, by omega, rfl, _, by simp, mkHid (fun j h h' hj => absurd hj (by omega)), HO1.out, HB1.out⟩
  case round =>
    clear HO1 HB1
    obtain ⟨k, hk, rfl, ls, hls, HST, hcr, hb⟩ := hrel
    have HCR := mkHid hcr
    have HB := mkHid hb
    have hsz := hb.size
    by_cases hlt : k < n
    · have hkx : k < xs.length := by rw [← HN.out]; exact hlt
      have hkl : k < ls.length := by rw [hls]; exact hlt
      have HKX := mkHid hkx
      have HKL := mkHid hkl
      obtain ⟨b, off, hA, h0, h1, h2, h3⟩ := (HS.out.below hb).1.lt hkx
      have hC := toLane_any (xs[k]'hkx) wr (HLL.out _ (List.getElem_mem hkx)) ((HS.out.below hb).lane hkx)
      obtain ⟨x, hx⟩ : ∃ x, x = xs[k]'hkx := ⟨_, rfl⟩
      rw [← hx] at h0 h1 h2 h3 hC
      have HX := mkHid hx
      obtain ⟨ra, rc, zs, at_, ta, tc, ts, wt⟩ := x
      simp only at h0 h1 h2 h3
      have HC := mkHid hC
      have HLS := mkHid hls
      subst hA
      clear hC hx hb hcr hls
      go_wp2_with (go_at_call 84
                   refine HC.out.mono ?_
                   rintro e w2 ⟨l, rfl, hst, hap, b2⟩
                   have hsw := CrAt.swap (w := wr) HCR.out HKL.out hsz hap (World.ownsRow_nil _ _ _ _) rfl (grown_of_below b2 _)
                   have HSW := mkHid hsw.2
                   have HST2 := mkHid hst
                   have HB2 := mkHid b2
                   obtain ⟨⟨g0, g1, g2, g3⟩, f0, f1, f2, f3⟩ := hsw.1.cells HKL.out
                   clear hst hap b2 hsw)
      go_roundw
      case rel =>
        refine ⟨k + 1, by omega, by go_num, ls.set k l, by rw [set_len]; exact HLS.out, mkHid (fun j h h' hj => ?_), HSW.out.1, HB.out.trans HSW.out.2.1⟩
        rw [List.getElem_set]
        split
        · rename_i e; subst e; rw [HST2.out, HX.out]
        · exact HST.out j (by simpa using h) h' (by omega)
      case measure => simp [intOf] <;> omega
    · have : k = n := by omega
      subst this
      clear hcr hb
      go_wp2_with fail
      go_ret
      subst hls
      refine ⟨some ⟨w.heap.size, 0, none⟩, ls.length, ls, rfl, ?_, HCR.out, HB.out⟩
      apply List.ext_getElem (by have := HN.out; simp only [sts, List.length_map]; omega)
      intro j h1 h2
      simp only [sts, List.getElem_map]
      exact HST.out j (by simpa using h1) (by simpa using h2) (by have := HN.out; simp at h2; omega)
/-- a crowd in memory of one's own is handed back. -/
def RetCr (ss : List LS) (zs : List Int) (w : World) (e : Ending) (w' : World) : Prop :=
  ∃ A c, ∃ ls : List Lt, ∃ m : IR, e = .returned (.agg #[.slice A ls.length c, .slice m.a m.zs.length m.c]) ∧ sts ls = ss ∧ m.zs = zs ∧ CrAt w' w.heap.size A c ls m ∧ Below w.heap.size w w'
/-- the memory's row is joined to a crowd without one. -/
theorem CrAt.join {w w' : World} {base c : Nat} {A : Option Addr} {ls : List Lt} {m : IR} (h : CrAt w base A c ls nilIR) (hb : Below w.heap.size w w') (hbs : base ≤ w.heap.size) (hm : w'.ownsRow w.heap.size 3 1 (irV m) m.zs.length (ints m.zs)) : CrAt w' base A c ls m := by
  have h1 := h.below hb
  have hlt : ∀ k (hk : k < (rowsL ls).length) g, (irV (rowsL ls)[k]).ownBlock = some g → g < w.heap.size := fun k hk g e => ((h.2.1 _ (List.mem_cons_of_mem _ (List.getElem_mem hk))).lt g e).2
  refine ⟨h1.1, ⟨fun r hr => ?_, fun i j hi hj hne g e1 e2 => ?_⟩⟩
  · rcases List.mem_cons.1 hr with rfl | hr
    · exact own_base hm hbs
    · exact h1.2.1 r (List.mem_cons_of_mem _ hr)
  · cases i with
    | zero =>
      cases j with
      | zero => exact hne rfl
      | succ j =>
        have a1 := (hm.lt g e1).1
        have a2 := hlt j (by simpa using hj) g e2
        omega
    | succ i =>
      cases j with
      | zero =>
        have a1 := (hm.lt g e2).1
        have a2 := hlt i (by simpa using hi) g e1
        omega
      | succ j => exact h1.2.2 (i + 1) (j + 1) hi hj hne g e1 e2
theorem grown_2 (w : World) (g : Nat) (a b : Value) : w.grownBy ((w.setCell ⟨g, 0, none⟩ a).setCell ⟨g, 1, none⟩ b) (some g) := grown_setCell' (grown_setCell w g 0 a) 1 b
theorem toCrowd_any (A : Option Addr) (c : Nat) (xs : List Lt) (m : IR) (w : World) (hl : xs.length ≤ 1048576) (hll : ∀ x ∈ xs, x.zs.length ≤ 1048576 ∧ x.ts.length ≤ 1048576) (hml : m.zs.length ≤ 1048576) (hs : TGrid w A xs) (hm : Sl w m.a (ints m.zs)) :
    Calls Try.prog 12 #[.agg #[.slice A xs.length c, .slice m.a m.zs.length m.c]] w (RetCr (sts xs) m.zs w) := by
  obtain ⟨o1, ho1⟩ : ∃ o1, o1 = Obj.cells #[.slice A xs.length c, .slice m.a m.zs.length m.c] 25 := ⟨_, rfl⟩
  obtain ⟨o2, ho2⟩ : ∃ o2, o2 = Obj.cells #[.slice none 0 0, .slice none 0 0] 32 := ⟨_, rfl⟩
  have hb : Below w.heap.size w (((w.alloc o1).alloc o2).alloc o2) := (((Below.refl _ _).alloc (Nat.le_refl _) _).alloc (by simp) _).alloc (by simp; omega) _
  have q1 : (((w.alloc o1).alloc o2).alloc o2).heap[w.heap.size]? = some o1 := by
    rw [heap_alloc_old _ _ (by simp; omega), heap_alloc_old _ _ (by simp)]; exact heap_alloc_new _ _
  have q2 : (((w.alloc o1).alloc o2).alloc o2).heap[w.heap.size + 1]? = some o2 := by
    rw [heap_alloc_old _ _ (by simp)]
    have := heap_alloc_new (w.alloc o1) o2
    simpa using this
  have q3 : (((w.alloc o1).alloc o2).alloc o2).heap[w.heap.size + 2]? = some o2 := by
    have := heap_alloc_new ((w.alloc o1).alloc o2) o2
    simpa using this
  have hsz : (((w.alloc o1).alloc o2).alloc o2).heap.size = w.heap.size + 3 := by simp
  have HT1 := mkHid (toLaneS_any A c xs _ hl hll (hs.below hb))
  have HM := mkHid hm
  have HB := mkHid hb
  have Q1 := mkHid q1
  have Q2 := mkHid q2
  have Q3 := mkHid q3
  have HSZ := mkHid hsz
  subst ho1 ho2
  clear hs hm hb q1 q2 q3 hsz hll
  go_enter Try.func12, Try.ntmps12
  go_wp2_with fail
  refine HT1.out.mono ?_
  rintro e w2 ⟨A2, c2, ls, rfl, hst, hcr, b2⟩
  have r1 := (b2.block _ (Array.getElem?_eq_some_iff.1 Q1.out).1).trans Q1.out
  have r3 := (b2.block _ (Array.getElem?_eq_some_iff.1 Q3.out).1).trans Q3.out
  have r2 := (b2.block _ (Array.getElem?_eq_some_iff.1 Q2.out).1).trans Q2.out
  have R1 := mkHid r1
  have R2 := mkHid r2
  have R3 := mkHid r3
  have HST := mkHid hst
  have HCR := mkHid (show CrAt w2 (w.heap.size + 3) A2 c2 ls nilIR from by rw [HSZ.out] at hcr; exact hcr)
  have HB2 := mkHid (HB.out.trans (b2.mono HB.out.size))
  have HZ2 : Hid (w.heap.size + 3 ≤ w2.heap.size) := mkHid (by have := b2.size; rw [HSZ.out] at this; exact this)
  obtain ⟨⟨p0, p1⟩, _⟩ := box2 r1
  obtain ⟨⟨s0, s1⟩, f0, f1⟩ := box2 r3
  clear hst hcr b2 r1 r2 r3 HT1 HB
  go_upto_region 3 with fail
  refine name_world ?_
  intro W3 hW3
  have hg3 : w2.grownBy W3 (some (w.heap.size + 2)) := by rw [hW3]; exact grown_setCell w2 _ 0 _
  have e3 : W3.heap[w.heap.size + 2]? = some (.cells #[.slice A2 ls.length c2, .slice none 0 0] 32 (0, 0)) := by
    rw [hW3]
    have h1 := heap_setCell_same w2 (w.heap.size + 2) 0 _ _ (.slice A2 ls.length c2) R3.out
    simpa using h1
  have e1 := (hg3.block _ (Array.getElem?_eq_some_iff.1 R1.out).1 (fun e => by injection e with e; omega)).trans R1.out
  have e2 := (hg3.block _ (Array.getElem?_eq_some_iff.1 R2.out).1 (fun e => by injection e with e; omega)).trans R2.out
  have hC3 : CrAt W3 w.heap.size A2 c2 ls nilIR := (HCR.out.old hg3 (fun g e => by injection e with e; omega)).lower (by omega)
  have hB3 : Below w.heap.size w W3 := HB2.out.grown hg3 HB2.out.size (fun g e => by injection e with e; omega)
  have C3 := mkHid hC3
  have HB3 := mkHid hB3
  have E3 := mkHid e3
  have E2 := mkHid e2
  have HT2 := mkHid (toIntS_any m.a m.c m.zs W3 hml (HM.out.below hB3))
  clear p0 p1 s0 s1 f0 f1 hW3 hg3 hC3 hB3
  obtain ⟨⟨p0, p1⟩, _⟩ := box2 e1
  have E1 := mkHid e1
  clear e1 e2 e3
  go_wp2_with fail
  refine HT2.out.mono ?_
  rintro e w4 ⟨A4, c4, rfl, o4, b4⟩
  have r3 := (b4.block _ (Array.getElem?_eq_some_iff.1 E3.out).1).trans E3.out
  have r2 := (b4.block _ (Array.getElem?_eq_some_iff.1 E2.out).1).trans E2.out
  have R3' := mkHid r3
  have R2' := mkHid r2
  have HJ := mkHid (C3.out.join b4 HB3.out.size (m := ⟨A4, c4, m.zs⟩) o4)
  have HB4 := mkHid (HB3.out.trans (b4.mono HB3.out.size))
  clear p0 p1
  obtain ⟨⟨s0, s1⟩, f0, f1⟩ := box2 r3
  clear o4 b4 r2 r3 HT2
  go_upto_region 4 with fail
  refine name_world ?_
  intro W6 hW6
  have hg6 : w4.grownBy W6 (some (w.heap.size + 2)) := by rw [hW6]; exact grown_setCell w4 _ 1 _
  have e6 : W6.heap[w.heap.size + 2]? = some (.cells #[.slice A2 ls.length c2, .slice A4 m.zs.length c4] 32 (0, 0)) := by
    rw [hW6]
    have h1 := heap_setCell_same w4 (w.heap.size + 2) 1 _ _ (.slice A4 m.zs.length c4) R3'.out
    simpa using h1
  have e2 := (hg6.block _ (Array.getElem?_eq_some_iff.1 R2'.out).1 (fun e => by injection e with e; omega)).trans R2'.out
  have HC6 := mkHid (HJ.out.other hg6 R3'.out (by decide) (by decide))
  have HB6 := mkHid (HB4.out.grown hg6 HB4.out.size (fun g e => by injection e with e; omega))
  have E2' := mkHid e2
  clear s0 s1 f0 f1 hW6 hg6
  obtain ⟨⟨s0, s1⟩, _⟩ := box2 e6
  obtain ⟨⟨d0, d1⟩, f0, f1⟩ := box2 e2
  clear e2 e6
  go_wp2_with fail
  refine bodyPost_ret (v := .agg #[.slice A2 ls.length c2, .slice A4 m.zs.length c4]) (by simp [results, Try.results12, go_sem, d0, d1]) rfl ⟨A2, c2, ls, ⟨A4, c4, m.zs⟩, rfl, HST.out, rfl, ?_, ?_⟩
  · exact HC6.out.other (grown_2 W6 (w.heap.size + 1) _ _) E2'.out (by decide) (by decide)
  · exact HB6.out.grown (grown_2 W6 (w.heap.size + 1) _ _) HB6.out.size (fun g e => by injection e with e; omega)
end Go.Proofs.Ytjmiilneennjaaa

namespace Go.Proofs.Ytjmiilneennjaaa
open Go.RowKit
set_option maxHeartbeats 2000000
set_option maxRecDepth 100000
set_option linter.unusedVariables false

theorem eqLt_same (x y : Lt) (w : World) (he : x.st = y.st) (hx : LaneIn w x) (hy : LaneIn w y) :
    Calls Try.prog 87 #[ltV x, ltV y] w fun e w' => e = .returned (.bool true) ∧ Below w.heap.size w w' := by
  obtain ⟨ra, ca, zs, t, ta, ea, ts, b⟩ := x
  obtain ⟨rb, cb, zs', t', tb, eb, ts', b'⟩ := y
  simp only [Lt.st, LS.mk.injEq] at he
  obtain ⟨rfl, rfl, rfl, rfl⟩ := he
  obtain ⟨o1, ho1⟩ : ∃ o1, o1 = Obj.cells #[.slice ra zs.length ca, .int .i64 t, .slice ta ts.length ea, .bool b] 52 := ⟨_, rfl⟩
  obtain ⟨o2, ho2⟩ : ∃ o2, o2 = Obj.cells #[.slice rb zs.length cb, .int .i64 t, .slice tb ts.length eb, .bool b] 52 := ⟨_, rfl⟩
  have hb : Below w.heap.size w ((w.alloc o1).alloc o2) := ((Below.refl _ _).alloc (Nat.le_refl _) _).alloc (by simp) _
  have hE := eqIntS_same ra rb ca cb zs ((w.alloc o1).alloc o2) hx.1.2 (hx.1.1.below hb) (hy.1.1.below hb)
  have hN := fun X : World => fun hX : Below w.heap.size w X => eqIntS_same ta tb ea eb ts X hx.2.2 (hx.2.1.below hX) (hy.2.1.below hX)
  have q1 : ∀ k, (((w.alloc o1).alloc o2).drewN k).heap[w.heap.size]? = some o1 := fun k => by
    show ((w.alloc o1).alloc o2).heap[w.heap.size]? = some o1
    rw [heap_alloc_old _ _ (by simp)]; exact heap_alloc_new _ _
  have q2 : ∀ k, (((w.alloc o1).alloc o2).drewN k).heap[w.heap.size + 1]? = some o2 := fun k => by
    show ((w.alloc o1).alloc o2).heap[w.heap.size + 1]? = some o2
    have := heap_alloc_new (w.alloc o1) o2
    simpa using this
  have HB := mkHid hb
  subst ho1 ho2
  have HE := mkHid hE
  have HN := mkHid hN
  have p1 := fun k => (box4t (q1 k)).1
  have p2 := fun k => (box4t (q2 k)).1
  have P1 := mkHid p1
  have P2 := mkHid p2
  clear hE hN q1 q2 hb hx hy p1 p2
  go_enter Try.func87, Try.ntmps87
  go_wp2_with fail
  refine HE.out.mono ?_
  rintro e w2 ⟨rfl, k, rfl⟩
  obtain ⟨a0, a1, a2, a3⟩ := P1.out k
  obtain ⟨b0, b1, b2, b3⟩ := P2.out k
  have HB2 := mkHid (below_drewN HB.out k)
  go_wp2_with fail
  refine (HN.out _ HB2.out).mono ?_
  rintro e w2 ⟨rfl, k2, rfl⟩
  have HB3 := mkHid (below_drewN HB2.out k2)
  rw [World.drewN_drewN] at HB3 ⊢
  obtain ⟨a0, a1, a2, a3⟩ := P1.out (k + k2)
  obtain ⟨b0, b1, b2, b3⟩ := P2.out (k + k2)
  go_wp2_with fail
  go_ret
  exact ⟨rfl, HB3.out⟩
theorem eqLts_same (A B : Option Addr) (c d : Nat) (xs ys : List Lt) (w : World) (hl : xs.length ≤ 9223372036854775807) (hs : sts xs = sts ys) (hx : TGrid w A xs) (hy : TGrid w B ys) :
    Calls Try.prog 50 #[.slice A xs.length c, .slice B xs.length d] w fun e w' => e = .returned (.bool true) ∧ Below w.heap.size w w' := by
  have HL := mkHid (show xs.length = ys.length from by have := congrArg List.length hs; simpa using this)
  have HS := mkHid hs
  have HX := mkHid hx
  have HY := mkHid hy
  clear hs hx hy
  go_enter Try.func50, Try.ntmps50
  go_wp2_with fail
  go_loopw [5] (fun i wr => ∃ k : Nat, k ≤ xs.length ∧ i = .int .i64 k ∧ Below w.heap.size w wr) (fun i _ => xs.length - (intOf i).toNat)
  case atStart => exact ⟨0, by omega, rfl, Below.refl _ _⟩
  case round =>
    obtain ⟨k, hk, rfl, hb⟩ := hrel
    have HB := mkHid hb
    have hx' := HX.out.below hb
    have hy' := HY.out.below hb
    clear hb
    by_cases hlt : k < xs.length
    · have hlt2 : k < ys.length := by rw [← HL.out]; exact hlt
      have he : xs[k].st = ys[k].st := by
        have := congrArg (fun z => z[k]?) HS.out
        simpa [hlt, hlt2] using this
      obtain ⟨b, off, hA, h0, h1, h2, h3⟩ := hx'.1.lt hlt
      obtain ⟨b', off', hA', g0, g1, g2, g3⟩ := hy'.1.lt hlt2
      have s1 : LaneIn wr xs[k] := hx'.lane hlt
      have s2 : LaneIn wr ys[k] := hy'.lane hlt2
      generalize ys[k] = y at *
      generalize xs[k] = x at *
      have HC := mkHid (fun u : Ext wr => eqLt_same x y u.1 he (s1.below u.2) (s2.below u.2))
      obtain ⟨ra, ca, zs, t, ta, ea, ts, wt⟩ := x
      obtain ⟨rb, cb, zs', t', tb, eb, ts', wt'⟩ := y
      simp only at h0 h1 h2 h3 g0 g1 g2 g3 HC
      subst hA hA'
      have h0 := fun u : Ext wr => u.keeps h0
      have h1 := fun u : Ext wr => u.keeps h1
      have h2 := fun u : Ext wr => u.keeps h2
      have h3 := fun u : Ext wr => u.keeps h3
      have g0 := fun u : Ext wr => u.keeps g0
      have g1 := fun u : Ext wr => u.keeps g1
      have g2 := fun u : Ext wr => u.keeps g2
      have g3 := fun u : Ext wr => u.keeps g3
      clear hx' hy' s1 s2 he
      go_wp2_with fail
      refine wp_region_ext (by kernel_rfl) (by kernel_rfl) ?_
      repeat (go_big_quiet_step ((go_at_call 87; with_reducible exact ext_call (HC.out _))))
      refine wpQuiet_nil (ext_end fun X hX => ?_)
      clear h0 h1 h2 h3 g0 g1 g2 g3
      have HXX := mkHid hX
      clear hX HC
      go_wp2_with fail
      go_roundw
      case rel => exact ⟨k + 1, by omega, by go_num, below_then HB.out HXX.out⟩
      case measure => simp [intOf] <;> omega
    · clear hx' hy'
      go_wp2_with fail
      go_ret
      exact ⟨rfl, HB.out⟩
theorem eqCr_same (A B : Option Addr) (c d : Nat) (m n : IR) (xs ys : List Lt) (w : World) (hl : xs.length ≤ 9223372036854775807) (hz : m.zs.length ≤ 9223372036854775807) (hs : sts xs = sts ys) (hm : m.zs = n.zs) (hx : TGrid w A xs) (hy : TGrid w B ys) (h1 : Sl w m.a (ints m.zs)) (h2 : Sl w n.a (ints n.zs)) :
    Calls Try.prog 15 #[.agg #[.slice A xs.length c, .slice m.a m.zs.length m.c], .agg #[.slice B ys.length d, .slice n.a n.zs.length n.c]] w fun e w' => e = .returned (.bool true) ∧ Below w.heap.size w w' := by
  obtain ⟨MA, mc, zs⟩ := m
  obtain ⟨MB, md, zs'⟩ := n
  simp only at hm hz h1 h2 ⊢
  subst hm
  have hlen : ys.length = xs.length := by have := congrArg List.length hs; simpa using this.symm
  rw [hlen]
  obtain ⟨o1, ho1⟩ : ∃ o1, o1 = Obj.cells #[.slice A xs.length c, .slice MA zs.length mc] 32 := ⟨_, rfl⟩
  obtain ⟨o2, ho2⟩ : ∃ o2, o2 = Obj.cells #[.slice B xs.length d, .slice MB zs.length md] 32 := ⟨_, rfl⟩
  have hb : Below w.heap.size w ((w.alloc o1).alloc o2) := ((Below.refl _ _).alloc (Nat.le_refl _) _).alloc (by simp) _
  have hE := eqLts_same A B c d xs ys ((w.alloc o1).alloc o2) hl hs (hx.below hb) (hy.below hb)
  have q1 : ((w.alloc o1).alloc o2).heap[w.heap.size]? = some o1 := by
    rw [heap_alloc_old _ _ (by simp)]; exact heap_alloc_new _ _
  have q2 : ((w.alloc o1).alloc o2).heap[w.heap.size + 1]? = some o2 := by
    have := heap_alloc_new (w.alloc o1) o2
    simpa using this
  have HB := mkHid hb
  have Q1 := mkHid (fun X (hX : Below ((w.alloc o1).alloc o2).heap.size ((w.alloc o1).alloc o2) X) => (hX.block w.heap.size (by simp; omega)).trans q1)
  have Q2 := mkHid (fun X (hX : Below ((w.alloc o1).alloc o2).heap.size ((w.alloc o1).alloc o2) X) => (hX.block (w.heap.size + 1) (by simp)).trans q2)
  subst ho1 ho2
  have HE := mkHid hE
  have H1 := mkHid h1
  have H2 := mkHid h2
  clear hE hb q1 q2 hx hy h1 h2 hs hlen
  go_enter Try.func15, Try.ntmps15
  go_wp2_with fail
  refine HE.out.mono ?_
  rintro e w2 ⟨rfl, b2⟩
  obtain ⟨p0, p1⟩ := box2t (Q1.out w2 b2)
  obtain ⟨r0, r1⟩ := box2t (Q2.out w2 b2)
  have HB2 := mkHid (HB.out.trans (b2.mono HB.out.size))
  clear b2
  go_wp2_with fail
  refine (eqIntS_same MA MB mc md zs w2 hz (H1.out.below HB2.out) (H2.out.below HB2.out)).mono ?_
  rintro e w3 ⟨rfl, k, rfl⟩
  have HB3 := mkHid (below_drewN HB2.out k)
  go_wp2_with fail
  go_ret
  exact ⟨rfl, HB3.out⟩
end Go.Proofs.Ytjmiilneennjaaa
