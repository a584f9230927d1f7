/-
  Contracts of GraphReach, of the program and of the reference.
-/
import Derived.Test.YtabpcbikbhbcaaaCReach2
namespace Go.Proofs.Ytabpcbikbhbcaaa
open Go.RowKit
set_option maxHeartbeats 2000000
set_option linter.unusedVariables false

def reachOk (g : List (List Int)) (src wo : Int) : Bool := graphValid g && inB src 0 ((g.length : Int) - 1) && inB wo (-1) ((g.length : Int) - 1)
def graphReach (g : List (List Int)) (src wo : Int) : List Bool := if reachOk g src wo then reachB g src wo else []
theorem reachB_length {g : List (List Int)} {src wo : Int} (h : graphValid g = true) (hs : 0 ≤ src ∧ src < g.length) : (reachB g src wo).length = g.length := (bfs_ok (wo := wo) h (OkSt.start g.length src wo hs) g.length).1
theorem wo_split (wo : Int) (n : Nat) : inB wo (-1) ((n : Int) - 1) = (wo == -1 || inB wo 0 ((n : Int) - 1)) := by
  by_cases h : wo = -1
  · subst h; simp [inB]; omega
  · have : (wo == -1) = false := by simpa using h
    rw [this, Bool.false_or]
    unfold inB
    congr 1
    exact decide_eq_decide.2 (by omega)
theorem own_types {w : World} {b1 b2 s1 s2 g n c m d : Nat} {e1 e2 : TypeId} {xs ys : List Value} (h : w.ownsRow b1 e1 s1 (.slice (some ⟨g, 0, none⟩) n c) n xs) (k : w.ownsRow b2 e2 s2 (.slice (some ⟨g, 0, none⟩) m d) m ys) : e1 = e2 := by
  rcases h.2 with ⟨hv, _⟩ | ⟨g1, c1, cur1, hv1, _, hg1, _⟩
  · cases hv
  · rcases k.2 with ⟨hv, _⟩ | ⟨g2, c2, cur2, hv2, _, hg2, _⟩
    · cases hv
    · have e1 : g = g1 := by injection hv1 with hv; injection hv with hv; injection hv
      have e2 : g = g2 := by injection hv2 with hv; injection hv with hv; injection hv
      rw [← e1] at hg1
      rw [← e2] at hg2
      rw [hg1] at hg2
      injection hg2 with hg2
      injection hg2
theorem isNode_any (A : Option Addr) (n c : Nat) (a : Int) (w : World) (hn : n ≤ 9223372036854775807) : Calls Try.prog 43 #[.slice A n c, .int .i64 a] w fun e w' => e = .returned (.bool (inB a 0 ((n : Int) - 1))) ∧ w = w' := by
  go_enter Try.func43, Try.ntmps43
  go_wp2_with (go_at_call 34; refine (within_any _ _ _ _).mono ?_; rintro e w' ⟨rfl, rfl⟩)
  go_ret
  exact ⟨rfl, rfl⟩
theorem implGraphReach_any (A : Option Addr) (c : Nat) (rs : List Row) (src wo : Int) (w : World) (hn : rs.length ≤ 1000000000) (hs : Grid w A rs) :
    Calls Try.prog 24 #[.slice A rs.length c, .int .i64 src, .int .i64 wo] w (RetBools (graphReach (graph rs) src wo) w) := by
  have hgl : (graph rs).length = rs.length := by simp
  have hV := implGraphValid_any A c rs w (by omega) hs
  have hI1 := isNode_any A rs.length c src w (by omega)
  have hI2 := isNode_any A rs.length c wo w (by omega)
  have hsp := wo_split wo rs.length
  obtain ⟨v1, h1⟩ : ∃ v, v = graphValid (graph rs) := ⟨_, rfl⟩
  obtain ⟨v2, h2⟩ : ∃ v, v = inB src 0 ((rs.length : Int) - 1) := ⟨_, rfl⟩
  obtain ⟨v3, h3⟩ : ∃ v, v = inB wo 0 ((rs.length : Int) - 1) := ⟨_, rfl⟩
  rw [← h1] at hV
  rw [← h2] at hI1
  rw [← h3] at hI2 hsp
  have hok : reachOk (graph rs) src wo = (v1 && v2 && (wo == -1 || v3)) := by unfold reachOk; rw [hgl, ← h1, ← h2, hsp]
  have HV := mkHid hV
  have HI1 := mkHid hI1
  have HI2 := mkHid hI2
  have HOK := mkHid hok
  have HS := mkHid hs
  have H1 := mkHid h1
  have H2 := mkHid h2
  clear hV hI1 hI2 hok hs h1 h2 h3 hsp hgl
  cases hb : reachOk (graph rs) src wo with
  | false =>
    have hbb := HOK.out
    rw [hb] at hbb
    have HG : Hid (graphReach (graph rs) src wo = []) := mkHid (by unfold graphReach; rw [hb]; rfl)
    clear hb
    cases v1
    case false =>
      clear hbb
      go_enter Try.func24, Try.ntmps24
      go_wp2_with fail
      refine HV.out.mono ?_
      rintro e w2 ⟨rfl, rfl⟩
      go_wp2_with fail
      go_ret
      rw [HG.out]
      exact ⟨none, 0, rfl, World.ownsRow_nil _ _ _ _, Below.refl _ _⟩
    case true =>
      cases v2
      case false =>
        clear hbb
        go_enter Try.func24, Try.ntmps24
        go_wp2_with fail
        refine HV.out.mono ?_
        rintro e w2 ⟨rfl, rfl⟩
        go_wp2_with fail
        refine HI1.out.mono ?_
        rintro e w2 ⟨rfl, rfl⟩
        go_wp2_with fail
        go_ret
        rw [HG.out]
        exact ⟨none, 0, rfl, World.ownsRow_nil _ _ _ _, Below.refl _ _⟩
      case true =>
        have hw : (wo == -1) = false ∧ v3 = false := by simpa using hbb.symm
        obtain ⟨hw1, rfl⟩ := hw
        have hw2 : (wo != -1) = true := by rw [bne, hw1]; rfl
        clear hbb hw1
        go_enter Try.func24, Try.ntmps24
        go_wp2_with fail
        refine HV.out.mono ?_
        rintro e w2 ⟨rfl, rfl⟩
        go_wp2_with fail
        refine HI1.out.mono ?_
        rintro e w2 ⟨rfl, rfl⟩
        go_wp2_with fail
        refine HI2.out.mono ?_
        rintro e w2 ⟨rfl, rfl⟩
        go_wp2_with fail
        go_ret
        rw [HG.out]
        exact ⟨none, 0, rfl, World.ownsRow_nil _ _ _ _, Below.refl _ _⟩
  | true =>
    have hbb := HOK.out
    rw [hb] at hbb
    replace hbb := hbb.symm
    rw [Bool.and_eq_true, Bool.and_eq_true] at hbb
    obtain ⟨⟨rfl, rfl⟩, hw⟩ := hbb
    have hsb := inB_t H2.out.symm
    obtain ⟨sn, rfl⟩ := Int.eq_ofNat_of_zero_le hsb.1
    have hR := reach_any A c rs sn wo w H1.out.symm HS.out (by omega)
    have HR := mkHid hR
    have HG : Hid (graphReach (graph rs) sn wo = reachB (graph rs) sn wo) := mkHid (by unfold graphReach; rw [hb]; rfl)
    clear hb hR
    by_cases hwe : wo = -1
    · subst hwe
      clear hw
      go_enter Try.func24, Try.ntmps24
      go_wp2_with fail
      refine HV.out.mono ?_
      rintro e w2 ⟨rfl, rfl⟩
      go_wp2_with fail
      refine HI1.out.mono ?_
      rintro e w2 ⟨rfl, rfl⟩
      go_wp2_with fail
      refine HR.out.mono ?_
      rintro e w3 ⟨A3, c3, rfl, o3, b3⟩
      have O3 := mkHid o3
      have B3 := mkHid b3
      clear o3 b3
      go_wp2_with fail
      go_ret
      rw [HG.out]
      exact ⟨A3, c3, rfl, O3.out, B3.out⟩
    · have hw1 : (wo == -1) = false := by simpa using hwe
      have hw2 : (wo != -1) = true := by rw [bne, hw1]; rfl
      rw [hw1, Bool.false_or] at hw
      subst hw
      clear hwe hw1
      go_enter Try.func24, Try.ntmps24
      go_wp2_with fail
      refine HV.out.mono ?_
      rintro e w2 ⟨rfl, rfl⟩
      go_wp2_with fail
      refine HI1.out.mono ?_
      rintro e w2 ⟨rfl, rfl⟩
      go_wp2_with fail
      refine HI2.out.mono ?_
      rintro e w2 ⟨rfl, rfl⟩
      go_wp2_with fail
      refine HR.out.mono ?_
      rintro e w3 ⟨A3, c3, rfl, o3, b3⟩
      have O3 := mkHid o3
      have B3 := mkHid b3
      clear o3 b3
      go_wp2_with fail
      go_ret
      rw [HG.out]
      exact ⟨A3, c3, rfl, O3.out, B3.out⟩
end Go.Proofs.Ytabpcbikbhbcaaa
