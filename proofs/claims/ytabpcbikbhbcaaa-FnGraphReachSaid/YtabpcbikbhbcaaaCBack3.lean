/-
  Contract of GraphBack of the reference; GraphBack of the program for all graphs.
-/
import Derived.Test.YtabpcbikbhbcaaaCBack2
namespace Go.Proofs.Ytabpcbikbhbcaaa
open Go.RowKit
set_option maxHeartbeats 2000000
set_option linter.unusedVariables false

theorem back_length (g : List (List Int)) (h : graphValid g = true) : (back g).length = g.length := by unfold back; rw [if_pos h]; simp
theorem back_rows (rs : List Row) : ∀ z ∈ back (graph rs), z.length ≤ total rs := by
  intro z hz
  unfold back at hz
  split at hz
  · obtain ⟨a, ha, rfl⟩ := List.mem_map.1 hz
    have h1 := back_len rs a rs.length (Nat.le_refl _)
    rw [List.take_length] at h1
    simpa using h1
  · simp at hz
theorem back_le (g : List (List Int)) : (back g).length ≤ 64 := by
  unfold back
  split
  · rename_i h; simpa using (graph_nodes h).1
  · simp
theorem total_bound (qs : List Row) (T : Nat) (h : ∀ r ∈ qs, r.zs.length ≤ T) : total qs ≤ qs.length * T := by
  unfold total
  induction qs with
  | nil => simp
  | cons r qs ih =>
    have h1 := ih fun s hs => h s (List.mem_cons_of_mem _ hs)
    have h2 := h r List.mem_cons_self
    simp only [List.map_cons, List.sum_cons, List.length_cons, Nat.add_mul]
    omega
theorem total_back {rs qs : List Row} (h : graph qs = back (graph rs)) : total qs ≤ 64 * total rs := by
  have h1 := total_bound qs (total rs) fun r hr => back_rows rs _ (by rw [← h]; exact List.mem_map_of_mem hr)
  have h2 := back_le (graph rs)
  rw [← graph_length h] at h2
  exact Nat.le_trans h1 (Nat.mul_le_mul_right _ h2)
/-- the call hands back rows that can be read. -/
def RetGrid (g : List (List Int)) (w : World) (e : Ending) (w' : World) : Prop :=
  ∃ A c qs, e = .returned (.slice A g.length c) ∧ graph qs = g ∧ Grid w' A qs ∧ Below w.heap.size w w'
theorem implGraphBack_any (A : Option Addr) (c : Nat) (rs : List Row) (w : World) (ht : total rs ≤ 1048576) (hn : rs.length ≤ 1000000000) (hs : Grid w A rs) :
    Calls Try.prog 18 #[.slice A rs.length c] w (RetApart (back (graph rs)) w) := by
  cases hv : graphValid (graph rs) with
  | true => exact implGraphBack_yes A c rs w ht hs hv
  | false => exact implGraphBack_no A c rs w hn hs hv
theorem specGraphBack_no (A : Option Addr) (c : Nat) (rs : List Row) (w : World) (hn : rs.length ≤ 1000000000) (hs : Grid w A rs) (hv : graphValid (graph rs) = false) :
    Calls Try.prog 17 #[.slice A rs.length c] w (RetGrid (back (graph rs)) w) := by
  have h0 : 0 < rs.length := by
    rcases Nat.eq_zero_or_pos rs.length with h | h
    · rw [List.eq_nil_of_length_eq_zero h] at hv
      exact absurd hv (by decide)
    · exact h
  have hb := (Below.refl w.heap.size w).alloc (Nat.le_refl _) (.cells #[] 30)
  have hV := specGraphValid_any A c rs _ (by omega) (hs.below hb)
  rw [hv] at hV
  have HV := mkHid hV
  have HBB := mkHid hb
  have HB : Hid (back (graph rs) = []) := mkHid (by unfold back; rw [hv]; rfl)
  clear hV hv hb hs
  go_enter Try.func17, Try.ntmps17
  go_wp2_with fail
  go_loopw [3, 4] (fun v i wr => v = .slice (some ⟨w.heap.size, 0, none⟩) 0 0 ∧ i = .int .i64 0 ∧ wr = w.alloc (.cells #[] 30)) (fun _ _ _ => 0)
  case atStart => exact ⟨rfl, rfl, rfl⟩
  case round =>
    obtain ⟨rfl, rfl, rfl⟩ := hrel
    go_wp2_with fail
    refine HV.out.mono ?_
    rintro e w2 ⟨rfl, q, rfl⟩
    go_wp2_with fail
    go_ret
    rw [HB.out]
    exact ⟨_, 0, [], rfl, rfl, ⟨Sl.nil _ _, fun r hr => absurd hr (by simp)⟩, below_drewN HBB.out q⟩
theorem specGraphBack_yes (A : Option Addr) (c : Nat) (rs : List Row) (w : World) (ht : total rs ≤ 1048576) (hs : Grid w A rs) (hv : graphValid (graph rs) = true) :
    Calls Try.prog 17 #[.slice A rs.length c] w (RetGrid (back (graph rs)) w) := by
  have hgl : (graph rs).length = rs.length := by simp
  have hn64 := (graph_nodes hv).1
  rw [hgl] at hn64
  have hV := fun w hs => specGraphValid_any A c rs w (by omega) hs
  rw [hv] at hV
  have HV := mkHid hV
  have HGL := mkHid hgl
  have HCL := mkHid (fun a k j (hk : k < rs.length) => backCur_len rs a k j hk)
  have HBE : Hid (back (graph rs) = (List.range rs.length).map fun a : Nat => backUpto (graph rs) a rs.length) := mkHid (by unfold back; rw [if_pos hv, hgl])
  have HS := mkHid hs
  clear hs hgl hv hV
  go_enter Try.func17, Try.ntmps17
  go_wp2_with fail
  go_loopw [3, 4] (fun v i wr => ∃ k : Nat, k ≤ rs.length ∧ i = .int .i64 k ∧ ∃ g0 c0, ∃ qs : List Row, v = .slice (some ⟨g0, 0, none⟩) k c0 ∧ qs.length = k ∧ Hid (graph qs = (List.range k).map fun a : Nat => backUpto (graph rs) a rs.length) ∧ wr.ownsRow w.heap.size 30 1 (.slice (some ⟨g0, 0, none⟩) k c0) k (rowVs qs) ∧ (∀ r ∈ qs, wr.ownsRow w.heap.size 3 1 (rowV r) r.zs.length (ints r.zs)) ∧ Below w.heap.size w wr) (fun _ i _ => rs.length - (intOf i).toNat)
  case atStart => exact ⟨0, by omega, rfl, w.heap.size, 0, [], rfl, rfl, mkHid rfl, own_empty w _ _, (fun r hr => absurd hr (by simp)), (Below.refl _ _).alloc (Nat.le_refl _) _⟩
  case round =>
    obtain ⟨k, hk, rfl, g0, c0, qs, rfl, hq, HQ, hown, hrows, hb⟩ := hrel
    have HB := mkHid hb
    have HO := mkHid hown
    have HR := mkHid hrows
    have HVR := mkHid (HV.out wr (HS.out.below hb))
    clear hb hown hrows
    by_cases hlt : k < rs.length
    · go_wp2_with fail
      refine HVR.out.mono ?_
      rintro e w2 ⟨rfl, q, rfl⟩
      have HB2 := mkHid (below_drewN HB.out q)
      have HO2 := mkHid (own_drewN HO.out q)
      have HR2 := mkHid (show ∀ r ∈ qs, (wr.drewN q).ownsRow w.heap.size 3 1 (rowV r) r.zs.length (ints r.zs) from fun r hr => own_drewN (HR.out r hr) q)
      clear HVR HB HO HR
      generalize wr.drewN q = wk at *
      have hszk := HB2.out.size
      go_wp2_with fail
      go_loopw [5, 6] (fun v i wr => ∃ b : Nat, b ≤ rs.length ∧ i = .int .i64 b ∧ ∃ g c, ∃ zs : List Int, v = .slice (some ⟨g, 0, none⟩) zs.length c ∧ Hid (zs = backUpto (graph rs) k b) ∧ wr.ownsRow wk.heap.size 3 1 (.slice (some ⟨g, 0, none⟩) zs.length c) zs.length (ints zs) ∧ Below wk.heap.size wk wr) (fun _ i _ => rs.length - (intOf i).toNat)
      case atStart => exact ⟨0, by omega, rfl, wk.heap.size, 0, [], rfl, mkHid rfl, own_empty wk _ _, (Below.refl _ _).alloc (Nat.le_refl _) _⟩
      case round =>
        obtain ⟨b, hb, rfl, g, c1, zs, rfl, HZ, hoz, hbz⟩ := hrel
        have HOZ := mkHid hoz
        have HBZ := mkHid hbz
        clear hoz hbz
        by_cases hbl : b < rs.length
        · go_wp2_with fail
          go_loopw [5, 7] (fun v i wr => ∃ j : Nat, j ≤ rs[b].zs.length ∧ i = .int .i64 j ∧ ∃ g c, ∃ zs : List Int, v = .slice (some ⟨g, 0, none⟩) zs.length c ∧ Hid (zs = backCur (graph rs) b j k) ∧ wr.ownsRow wk.heap.size 3 1 (.slice (some ⟨g, 0, none⟩) zs.length c) zs.length (ints zs) ∧ Below wk.heap.size wk wr) (fun _ i _ => rs[b].zs.length - (intOf i).toNat)
          case atStart => exact ⟨0, by omega, rfl, g, c1, zs, rfl, mkHid (by rw [HZ.out, backCur_zero]), HOZ.out, HBZ.out⟩
          case round =>
            clear HOZ HBZ HZ
            obtain ⟨j, hj, rfl, g, c1, zs, rfl, HZ, hoz, hbz⟩ := hrel
            have hgr := HS.out.below (below_then HB2.out hbz)
            have HOZ := mkHid hoz
            have HBZ := mkHid hbz
            have hat := graph_at hbl
            have hcl := HCL.out k b j hbl
            rw [← HZ.out] at hcl
            have hzl : zs.length ≤ 1048576 := Nat.le_trans hcl ht
            have hszz := hbz.size
            obtain ⟨bb, ob, rfl, h1, h2, h3, h4⟩ := hgr.at_ hbl
            have HST := mkHid (fun h => backCur_succ (graph rs) b j k h)
            have HFU := mkHid (fun h => backCur_full (graph rs) b k j h)
            rw [hat] at HFU
            obtain ⟨r, hr⟩ : ∃ r, r = rs[b] := ⟨_, rfl⟩
            rw [← hr] at h1 h2 h3 h4 hj hat HFU
            rw [← hr]
            obtain ⟨ra, rc, ys⟩ := r
            simp only at h1 h2 h3 h4 hj hat HFU
            clear hoz hbz hcl hgr hr
            by_cases hjl : j < ys.length
            · obtain ⟨br, or, rfl, hc⟩ := h2.at_ (k := j) (by simpa using hjl)
              have hy : wr.cell? ⟨br, or + j, none⟩ = some (.int .i64 ys[j]) := hc j _ (ints_at hjl)
              have hst := HST.out (by rw [hat]; exact hjl)
              simp only [hat] at hst
              rw [← HZ.out] at hst
              obtain ⟨y, hye⟩ : ∃ y, y = ys[j] := ⟨_, rfl⟩
              rw [← hye] at hy hst
              clear h2 hc hat hye
              cases hyk : y == (k : Int) with
              | false =>
                rw [hyk] at hst
                have HSN : Hid (zs = backCur (graph rs) b (j + 1) k) := mkHid (by rw [hst]; simp)
                clear hst
                go_wp2_with fail
                go_roundw
                case rel => exact ⟨j + 1, by omega, by go_num, g, c1, zs, rfl, HSN, HOZ.out, HBZ.out⟩
                case measure => simp [intOf] <;> omega
              | true =>
                rw [hyk] at hst
                have HSN : Hid (zs ++ [(b : Int)] = backCur (graph rs) b (j + 1) k) := mkHid (by rw [hst]; simp)
                clear hst
                go_wp2_with
                  (at_builtin
                   refine wpList_appS Ei (HOZ.out.alloc _) (newCellsAt _ _ _ (by simp)) rfl (by simp [Value.oneCell']) (by omega) (by omega) (by simp; omega) rfl rfl rfl rfl ?_
                   intro g2 c2 w2 hown2 hg2
                   have HO3 := mkHid hown2
                   have HG3 := mkHid hg2
                   clear hown2 hg2)
                go_roundw
                case rel =>
                  refine ⟨j + 1, by omega, by go_num, g2, c2, zs ++ [(b : Int)], by simp, HSN, by simpa [ints] using HO3.out, ?_⟩
                  have h1 := HBZ.out.alloc HBZ.out.size (.cells #[.int .i64 b] 3)
                  exact h1.grown HG3.out h1.size (fun g' e => by injection e with e; subst e; exact (HOZ.out.lt g rfl).1)
                case measure => simp [intOf] <;> omega
            · have HZ2 := mkHid (HFU.out (by omega))
              clear h2 hat
              go_wp2_with fail
              go_round
              case rel => exact ⟨b + 1, by omega, by go_num, g, c1, zs, rfl, mkHid (HZ.out.trans HZ2.out), HOZ.out, HBZ.out⟩
              case measure => simp [intOf] <;> omega
        · have hbe : b = rs.length := by omega
          subst hbe
          have hszz := HBZ.out.size
          have HZR : Hid (wr.ownsRow w.heap.size 3 1 (.slice (some ⟨g, 0, none⟩) zs.length c1) zs.length (ints zs)) := mkHid (own_base HOZ.out hszk)
          have HO3 := mkHid ((own_below HO2.out HBZ.out).alloc (.cells #[rowV ⟨some ⟨g, 0, none⟩, c1, zs⟩] 30))
          have HB3 := mkHid (below_then HB2.out HBZ.out)
          have HR3 := mkHid (show ∀ r ∈ qs ++ [(⟨some ⟨g, 0, none⟩, c1, zs⟩ : Row)], wr.ownsRow w.heap.size 3 1 (rowV r) r.zs.length (ints r.zs) from fun r hr => by
            rcases List.mem_append.1 hr with h | h
            · exact own_below (HR2.out r h) HBZ.out
            · rw [List.mem_singleton] at h; subst h; exact HZR.out)
          go_wp2_with
            (at_builtin
             refine wpList_appS Er HO3.out (newCellsAt _ _ _ (by simp)) rfl (by simp [Value.oneCell']) (by omega) (by omega) (by simp; omega) rfl rfl rfl rfl ?_
             intro g2 c2 w2 hown2 hg2
             have HO4 := mkHid hown2
             have HG4 := mkHid hg2
             clear hown2 hg2)
          go_round
          case rel =>
            have h1 := HB3.out.alloc HB3.out.size (.cells #[rowV ⟨some ⟨g, 0, none⟩, c1, zs⟩] 30)
            refine ⟨k + 1, by omega, by go_num, g2, c2, qs ++ [⟨some ⟨g, 0, none⟩, c1, zs⟩], rfl, by simp [hq], mkHid ?_, by simpa [rowVs] using HO4.out, fun r hr => ?_, ?_⟩
            · rw [List.range_succ, List.map_append, ← HQ.out, List.map_cons, List.map_nil, ← HZ.out, graph, List.map_append]; rfl
            · exact own_grown' ((HR3.out r hr).alloc _) HG4.out (fun g' e1 e2 => by
                injection e2 with e2
                exact own_types' HO3.out ((HR3.out r hr).alloc _) (by decide) e1 e2.symm)
            · exact h1.grown HG4.out h1.size (fun g' e => by injection e with e; subst e; exact (HO2.out.lt g0 rfl).1)
          case measure => simp [intOf] <;> omega
    · have hke : k = rs.length := by omega
      subst hke
      go_wp2_with fail
      go_ret
      rw [HBE.out, ← HQ.out]
      have hl : (graph qs).length = rs.length := by simp [hq]
      refine ⟨some ⟨g0, 0, none⟩, c0, qs, by rw [hl]; rfl, rfl, ⟨Sl.of_own HO.out, fun r hr => ⟨Sl.of_own (HR.out r hr), own_cap (HR.out r hr), ?_⟩⟩, HB.out⟩
      have hm : r.zs ∈ graph qs := List.mem_map_of_mem hr
      rw [HQ.out] at hm
      obtain ⟨a, _, hz⟩ := List.mem_map.1 hm
      have := back_len rs a rs.length (Nat.le_refl _)
      rw [List.take_length] at this
      rw [← hz]
      omega
theorem specGraphBack_any (A : Option Addr) (c : Nat) (rs : List Row) (w : World) (ht : total rs ≤ 1048576) (hn : rs.length ≤ 1000000000) (hs : Grid w A rs) :
    Calls Try.prog 17 #[.slice A rs.length c] w (RetGrid (back (graph rs)) w) := by
  cases hv : graphValid (graph rs) with
  | true => exact specGraphBack_yes A c rs w ht hs hv
  | false => exact specGraphBack_no A c rs w hn hs hv
end Go.Proofs.Ytabpcbikbhbcaaa
