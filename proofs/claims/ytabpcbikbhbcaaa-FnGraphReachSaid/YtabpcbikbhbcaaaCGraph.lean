/-
  Contracts of GraphValid, of the program and of the reference.
-/
import Derived.Test.YtabpcbikbhbcaaaCRows
import Derived.Test.YtabpcbikbhbcaaaCHas
import Derived.Test.YtabpcbikbhbcaaaCNum
namespace Go.Proofs.Ytabpcbikbhbcaaa
open Go.RowKit
set_option maxHeartbeats 1000000
set_option linter.unusedVariables false

def nodeOk (n : Nat) (row : List Int) (i : Nat) : Bool := inB (row.getD i 0) 0 ((n : Int) - 1) && !hasB (row.take i) (row.getD i 0)
def rowUpto (n : Nat) (row : List Int) (k : Nat) : Bool := (List.range k).all fun i => nodeOk n row i
def rowOk (n : Nat) (row : List Int) : Bool := rowUpto n row row.length
def rowsUpto (g : List (List Int)) (k : Nat) : Bool := (List.range k).all fun i => rowOk g.length (g.getD i [])
def graphValid (g : List (List Int)) : Bool := rowsUpto g g.length && decide (g.length ≤ 64)
theorem rowUpto_succ (n : Nat) (row : List Int) (k : Nat) : rowUpto n row (k + 1) = (rowUpto n row k && nodeOk n row k) := by simp [rowUpto, List.range_succ, List.all_append]
theorem rowsUpto_succ (g : List (List Int)) (k : Nat) : rowsUpto g (k + 1) = (rowsUpto g k && rowOk g.length (g.getD k [])) := by simp [rowsUpto, List.range_succ, List.all_append]
theorem rowUpto_fail {n : Nat} {row : List Int} {k : Nat} (hk : k < row.length) (h : nodeOk n row k = false) : rowOk n row = false := by
  unfold rowOk rowUpto
  rw [List.all_eq_false]
  exact ⟨k, List.mem_range.2 hk, by simp [h]⟩
theorem graph_fail {g : List (List Int)} {k : Nat} (hk : k < g.length) (h : rowOk g.length (g.getD k []) = false) : graphValid g = false := by
  have : rowsUpto g g.length = false := by
    unfold rowsUpto
    rw [List.all_eq_false]
    exact ⟨k, List.mem_range.2 hk, by rw [h]; simp⟩
  simp [graphValid, this]
theorem graph_at {rs : List Row} {k : Nat} (hk : k < rs.length) : (graph rs).getD k [] = rs[k].zs := by simp [List.getD, hk]

theorem implGraphValid_any (A : Option Addr) (c : Nat) (rs : List Row) (w : World) (hn : rs.length ≤ 9223372036854775807) (hs : Grid w A rs) :
    Calls Try.prog 13 #[.slice A rs.length c] w fun e w' => e = .returned (.bool (graphValid (graph rs))) ∧ w = w' := by
  have hlen : (graph rs).length = rs.length := by simp
  have HL := mkHid hlen
  clear hlen
  go_enter Try.func13, Try.ntmps13
  go_wp2_with fail
  go_loop [9] (fun i => ∃ k : Nat, k ≤ rs.length ∧ i = .int .i64 k ∧ Hid (rowsUpto (graph rs) k = true)) (fun i => rs.length - (intOf i).toNat)
  case atStart => exact ⟨0, by omega, rfl, mkHid rfl⟩
  case round =>
    obtain ⟨k, hk, rfl, HU⟩ := hrel
    by_cases hlt : k < rs.length
    · obtain ⟨b, off, rfl, h1, h2, h3, h4⟩ := hs.at_ hlt
      have hat := graph_at hlt
      obtain ⟨r, hr⟩ : ∃ r, r = rs[k] := ⟨_, rfl⟩
      rw [← hr] at h1 h2 h3 h4 hat
      obtain ⟨a, c', zs⟩ := r
      simp only at h1 h2 h3 h4 hat
      have HA := mkHid hat
      have H2 := mkHid h2
      clear hr hat h2
      go_wp2_with fail
      go_loop [15] (fun i => ∃ j : Nat, j ≤ zs.length ∧ i = .int .i64 j ∧ Hid (rowUpto rs.length zs j = true)) (fun i => zs.length - (intOf i).toNat)
      case atStart => exact ⟨0, by omega, rfl, mkHid rfl⟩
      case round =>
        obtain ⟨j, hj, rfl, HJ⟩ := hrel
        by_cases hjl : j < zs.length
        · obtain ⟨bb, ob, rfl, hc⟩ := H2.out.at_ (k := j) (by simpa using hjl)
          have hz : w.cell? ⟨bb, ob + j, none⟩ = some (.int .i64 zs[j]) := hc j _ (ints_at hjl)
          have hN : nodeOk rs.length zs j = (inB zs[j] 0 ((rs.length : Int) - 1) && !hasB (zs.take j) zs[j]) := by simp [nodeOk, List.getD, hjl]
          have hS : Sl w (some ⟨bb, ob, none⟩) (ints (zs.take j)) := .inr ⟨bb, ob, rfl, fun i u hu => hc i u (by
            rw [ints, List.map_take, List.getElem?_take] at hu
            split at hu
            · exact hu
            · cases hu)⟩
          have htl : (zs.take j).length = j := by simp; omega
          obtain ⟨z, hzz⟩ : ∃ z, z = zs[j] := ⟨_, rfl⟩
          rw [← hzz] at hz hN
          have HN := mkHid hN
          clear hc hzz hN
          cases hp : inB z 0 ((rs.length : Int) - 1) with
          | false =>
            have hC := fun w => within_any z 0 ((rs.length : Int) - 1) w
            simp only [hp] at hC
            have HC := mkHid hC
            have HP := mkHid hp
            clear hC hp hS htl
            go_wp2_with fail
            refine (HC.out _).mono ?_
            rintro e w2 ⟨rfl, rfl⟩
            go_wp2_with fail
            go_ret
            refine ⟨ret_bool (graph_fail (k := k) (by rw [HL.out]; exact hlt) ?_).symm, rfl⟩
            rw [HA.out, HL.out]
            exact rowUpto_fail hjl (by rw [HN.out, HP.out]; rfl)
          | true =>
            have hC := fun w => within_any z 0 ((rs.length : Int) - 1) w
            simp only [hp] at hC
            have hK := contains_any (some ⟨bb, ob, none⟩) c' (zs.take j) z w (by omega) hS
            rw [htl] at hK
            cases hh : hasB (zs.take j) z
            all_goals (
              rw [hh] at hK
              have HC := mkHid hC
              have HK := mkHid hK
              have HP := mkHid hp
              have HH := mkHid hh
              have hjc : (j : Int) ≤ (c' : Int) := by omega
              clear hC hK hp hh hS htl
              go_wp2_with fail
              refine (HC.out _).mono ?_
              rintro e w2 ⟨rfl, rfl⟩
              go_wp2_with fail
              refine HK.out.mono ?_
              rintro e w2 ⟨rfl, rfl⟩
              go_wp2_with fail)
            · go_round
              case rel => exact ⟨j + 1, by omega, by go_num, mkHid (by rw [rowUpto_succ, HJ.out, HN.out, HP.out, HH.out]; rfl)⟩
              case measure => simp [intOf] <;> omega
            · go_ret
              refine ⟨ret_bool (graph_fail (k := k) (by rw [HL.out]; exact hlt) ?_).symm, rfl⟩
              rw [HA.out, HL.out]
              exact rowUpto_fail hjl (by rw [HN.out, HP.out, HH.out]; rfl)
        · have : j = zs.length := by omega
          subst this
          go_wp2_with fail
          go_round
          case rel => exact ⟨k + 1, by omega, by go_num, mkHid (by rw [rowsUpto_succ, HU.out, HA.out, HL.out]; exact HJ.out)⟩
          case measure => simp [intOf] <;> omega
    · have : k = rs.length := by omega
      subst this
      have HV : Hid (graphValid (graph rs) = decide (rs.length ≤ 64)) := mkHid (by unfold graphValid; rw [HL.out, HU.out]; rfl)
      go_wp2_with fail
      go_ret
      refine ⟨ret_bool ?_, rfl⟩
      rw [HV.out]
      exact decide_eq_decide.2 (by omega)
theorem specGraphValid_any (A : Option Addr) (c : Nat) (rs : List Row) (w : World) (hn : rs.length ≤ 9223372036854775807) (hs : Grid w A rs) :
    Calls Try.prog 11 #[.slice A rs.length c] w fun e w' => e = .returned (.bool (graphValid (graph rs))) ∧ ∃ q, w' = w.drewN q := by
  have hlen : (graph rs).length = rs.length := by simp
  have HL := mkHid hlen
  clear hlen
  go_enter Try.func11, Try.ntmps11
  go_wp2_with fail
  go_loopw [3] (fun i wr => ∃ k : Nat, k ≤ rs.length ∧ i = .int .i64 k ∧ Hid (rowsUpto (graph rs) k = true) ∧ ∃ q, wr = w.drewN q) (fun i _ => rs.length - (intOf i).toNat)
  case atStart => exact ⟨0, by omega, rfl, mkHid rfl, 0, rfl⟩
  case round =>
    obtain ⟨k, hk, rfl, HU, q, rfl⟩ := hrel
    by_cases hlt : k < rs.length
    · obtain ⟨b, off, rfl, h1, h2, h3, h4⟩ := hs.at_ hlt
      have hat := graph_at hlt
      obtain ⟨r, hr⟩ : ∃ r, r = rs[k] := ⟨_, rfl⟩
      rw [← hr] at h1 h2 h3 h4 hat
      obtain ⟨a, c', zs⟩ := r
      simp only at h1 h2 h3 h4 hat
      have HA := mkHid hat
      have H2 := mkHid h2
      clear hr hat h2 hs
      go_wp2_with fail
      go_loopw [4] (fun i wr => ∃ j : Nat, j ≤ zs.length ∧ i = .int .i64 j ∧ Hid (rowUpto rs.length zs j = true) ∧ ∃ q, wr = w.drewN q) (fun i _ => zs.length - (intOf i).toNat)
      case atStart => exact ⟨0, by omega, rfl, mkHid rfl, q, rfl⟩
      case round =>
        obtain ⟨j, hj, rfl, HJ, q2, rfl⟩ := hrel
        by_cases hjl : j < zs.length
        · obtain ⟨bb, ob, rfl, hc⟩ := H2.out.at_ (k := j) (by simpa using hjl)
          have hz : w.cell? ⟨bb, ob + j, none⟩ = some (.int .i64 zs[j]) := hc j _ (ints_at hjl)
          have hN : nodeOk rs.length zs j = (inB zs[j] 0 ((rs.length : Int) - 1) && !hasB (zs.take j) zs[j]) := by simp [nodeOk, List.getD, hjl]
          obtain ⟨z, hzz⟩ : ∃ z, z = zs[j] := ⟨_, rfl⟩
          rw [← hzz] at hz hN
          have HN := mkHid hN
          have HZ := mkHid hzz
          have HC0 := mkHid hc
          clear hc hzz hN
          cases hp : inB z 0 ((rs.length : Int) - 1) with
          | false =>
            have hC := fun w => l1In_any z 0 ((rs.length : Int) - 1) w
            simp only [hp] at hC
            have HC := mkHid hC
            have HP := mkHid hp
            clear hC hp
            go_wp2_with fail
            refine (HC.out _).mono ?_
            rintro e w2 ⟨rfl, rfl⟩
            go_wp2_with fail
            go_ret
            refine ⟨ret_bool (graph_fail (k := k) (by rw [HL.out]; exact hlt) ?_).symm, _, rfl⟩
            rw [HA.out, HL.out]
            exact rowUpto_fail hjl (by rw [HN.out, HP.out]; rfl)
          | true =>
            have hC := fun w => l1In_any z 0 ((rs.length : Int) - 1) w
            simp only [hp] at hC
            have HC := mkHid hC
            have HP := mkHid hp
            clear hC hp
            go_wp2_with fail
            refine (HC.out _).mono ?_
            rintro e w2 ⟨rfl, rfl⟩
            go_wp2_with fail
            go_loopw [5] (fun i wr => ∃ l : Nat, l ≤ j ∧ i = .int .i64 l ∧ Hid (hasB (zs.take l) z = false) ∧ ∃ q, wr = w.drewN q) (fun i _ => j - (intOf i).toNat)
            case atStart => exact ⟨0, by omega, rfl, mkHid (by simp [hasB]), q2, rfl⟩
            case round =>
              obtain ⟨l, hl, rfl, HH, q3, rfl⟩ := hrel
              by_cases hll : l < j
              · have hlz : l < zs.length := by omega
                have hy : w.cell? ⟨bb, ob + l, none⟩ = some (.int .i64 zs[l]) := HC0.out l _ (ints_at hlz)
                have HS := mkHid (hasB_take zs z l hlz)
                have HM : Hid (zs[l] ∈ zs.take j) := mkHid (List.mem_take_iff_getElem.2 ⟨l, by omega, rfl⟩)
                obtain ⟨y, hyy⟩ : ∃ y, y = zs[l] := ⟨_, rfl⟩
                rw [← hyy] at hy HS HM
                clear hyy
                generalize hX : w.drewN q3 = X at *
                have e1 : X.cell? ⟨b, off + k, none⟩ = some (.slice (some ⟨bb, ob, none⟩) zs.length c') := by rw [← hX]; exact h1
                have e2 : X.cell? ⟨bb, ob + j, none⟩ = some (.int .i64 z) := by rw [← hX]; exact hz
                have e3 : X.cell? ⟨bb, ob + l, none⟩ = some (.int .i64 y) := by rw [← hX]; exact hy
                have e1 := fun u : Drew X => u.keeps e1
                have e2 := fun u : Drew X => u.keeps e2
                have e3 := fun u : Drew X => u.keeps e3
                have HX := mkHid hX
                clear hX hy
                cases hq : y == z
                all_goals (
                  go_wp2_with fail
                  refine wp_region_drew (by kernel_rfl) (by kernel_rfl) ?_
                  repeat (go_big_quiet_step (fail))
                  refine wpQuiet_nil (drew_end fun Y m hY => ?_)
                  clear e1 e2 e3
                  have HQ := mkHid hq
                  subst hY
                  have hX := HX.out
                  subst hX
                  go_wp2_with fail)
                · go_roundw
                  case rel => exact ⟨l + 1, by omega, by go_num, mkHid (by rw [HS.out, HH.out, HQ.out]; rfl), _, by first | rfl | exact World.drewN_drewN _ _ _⟩
                  case measure => simp [intOf] <;> omega
                · go_ret
                  refine ⟨ret_bool (graph_fail (k := k) (by rw [HL.out]; exact hlt) ?_).symm, _, by first | rfl | exact World.drewN_drewN _ _ _⟩
                  rw [HA.out, HL.out]
                  refine rowUpto_fail hjl ?_
                  have : hasB (zs.take j) z = true := by
                    unfold hasB
                    rw [List.any_eq_true]
                    exact ⟨y, HM.out, HQ.out⟩
                  rw [HN.out, this]; simp
              · have : l = j := by omega
                subst this
                go_wp2_with fail
                go_roundw
                case rel => exact ⟨l + 1, by omega, by go_num, mkHid (by rw [rowUpto_succ, HJ.out, HN.out, HP.out, HH.out]; rfl), _, rfl⟩
                case measure => simp [intOf] <;> omega
        · have : j = zs.length := by omega
          subst this
          go_wp2_with fail
          go_roundw
          case rel => exact ⟨k + 1, by omega, by go_num, mkHid (by rw [rowsUpto_succ, HU.out, HA.out, HL.out]; exact HJ.out), _, rfl⟩
          case measure => simp [intOf] <;> omega
    · have : k = rs.length := by omega
      subst this
      have HV : Hid (graphValid (graph rs) = decide (rs.length ≤ 64)) := mkHid (by unfold graphValid; rw [HL.out, HU.out]; rfl)
      go_wp2_with fail
      go_ret
      refine ⟨ret_bool ?_, _, rfl⟩
      rw [HV.out]
      exact decide_eq_decide.2 (by omega)
end Go.Proofs.Ytabpcbikbhbcaaa
