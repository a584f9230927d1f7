/-
  Contract of the laws' helper sameRows.
-/
import Derived.Test.YtabpcbikbhbcaaaCRows
import Derived.Test.YtabpcbikbhbcaaaCSame
namespace Go.Proofs.Ytabpcbikbhbcaaa
open Go.RowKit
set_option maxHeartbeats 2000000
set_option linter.unusedVariables false

theorem sameRows_same (A B : Option Addr) (c d : Nat) (rs qs : List Row) (w : World) (hn : rs.length ≤ 9223372036854775807) (hg : graph rs = graph qs) (hx : Grid w A rs) (hy : Grid w B qs) :
    Calls Try.prog 22 #[.slice A rs.length c, .slice B rs.length d] w fun e w' => e = .returned (.bool true) ∧ ∃ k, w' = w.drewN k := by
  have hlen : qs.length = rs.length := by have := congrArg List.length hg; simpa using this.symm
  have HL := mkHid hlen
  have HG := mkHid hg
  clear hlen hg
  go_enter Try.func22, Try.ntmps22
  go_wp2_with fail
  go_loopw [5] (fun i wr => ∃ k : Nat, k ≤ rs.length ∧ i = .int .i64 k ∧ ∃ n, wr = w.drewN n) (fun i _ => rs.length - (intOf i).toNat)
  case atStart => exact ⟨0, by omega, rfl, 0, rfl⟩
  case round =>
    obtain ⟨k, hk, rfl, n, rfl⟩ := hrel
    by_cases hlt : k < rs.length
    · have hlt2 : k < qs.length := by rw [HL.out]; exact hlt
      obtain ⟨b, off, rfl, h1, h2, h3, h4⟩ := hx.at_ hlt
      obtain ⟨b', off', rfl, g1, g2, g3, g4⟩ := hy.at_ hlt2
      have hz : qs[k].zs = rs[k].zs := by
        have h0 : (graph rs)[k]? = (graph qs)[k]? := by rw [HG.out]
        simp [hlt, hlt2] at h0
        exact h0.symm
      rw [hz] at g1 g2
      generalize hX : w.drewN n = X
      have H2 : Hid (Sl X rs[k].a (ints rs[k].zs)) := mkHid (by rw [← hX]; exact h2)
      have G2 : Hid (Sl X qs[k].a (ints rs[k].zs)) := mkHid (by rw [← hX]; exact g2)
      have h1 : X.cell? ⟨b, off + k, none⟩ = some (.slice rs[k].a rs[k].zs.length rs[k].c) := by rw [← hX]; exact h1
      have g1 : X.cell? ⟨b', off' + k, none⟩ = some (.slice qs[k].a rs[k].zs.length qs[k].c) := by rw [← hX]; exact g1
      have HX := mkHid hX
      clear hX h2 g2 h3 g3 g4 hz hx hy
      generalize rs[k] = r at *
      generalize qs[k] = q at *
      obtain ⟨a, c', zs⟩ := r
      obtain ⟨a', c'', zs'⟩ := q
      simp only at h1 g1 h4 H2 G2
      have h1 := fun u : Drew X => u.keeps h1
      have g1 := fun u : Drew X => u.keeps g1
      go_wp2_with fail
      refine wp_region_drew (by kernel_rfl) (by kernel_rfl) ?_
      repeat (go_big_quiet_step ((go_at_call 42; with_reducible exact drew_call (sameInts_same _ _ _ _ _ _ h4 (Drew.sl _ H2.out) (Drew.sl _ G2.out)))))
      refine wpQuiet_nil (drew_end fun Y m hY => ?_)
      clear h1 g1
      subst hY
      have hX := HX.out
      subst hX
      go_wp2_with fail
      go_roundw
      case rel => exact ⟨k + 1, by omega, by go_num, _, by first | rfl | exact World.drewN_drewN _ _ _⟩
      case measure => simp [intOf] <;> omega
    · go_wp2_with fail
      go_ret
      exact ⟨rfl, n, rfl⟩
end Go.Proofs.Ytabpcbikbhbcaaa
