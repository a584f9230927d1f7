/-
  Contract of the program's CellsWritten: the written cells in ascending order, each once.
-/
import Derived.Test.YtbhjicjcilneeaaCWritten
import Derived.Test.YtbhjicjcilneeaaCAccS2
namespace Go.Proofs.Ytbhjicjcilneeaa
open Go.RowKit
set_option maxHeartbeats 400000
set_option linter.unusedVariables false

theorem RetInts_asc {zs : List Int} {w w1 w2 : World} {A : Option Addr} {c : Nat} {e : Ending} (h : RetAsc A c zs w.heap.size w1 e w2) (hb : Below w.heap.size w w1) (hown : w1.ownsRow w.heap.size 3 1 (.slice A zs.length c) zs.length (ints zs)) :
    RetInts (asc zs) w e w2 := by
  obtain ⟨he, ho, hg⟩ := h
  exact ⟨A, c, he, ho, below_grown hb hg (fun g e => (hown.lt g e).1)⟩

theorem implCellsWritten_any (A : Option Addr) (c : Nat) (xs : List Acc) (w : World) (hl : xs.length ≤ 1000000000) (hs : Sl w A (flat xs)) :
    Calls Try.prog 24 #[.slice A xs.length c] w (RetInts (asc (writtenCells xs)) w) := by
  go_enter Try.func24, Try.ntmps24
  go_wp2_with fail
  go_loopw [3, 8] (fun v i wr => ∃ k : Nat, k ≤ xs.length ∧ i = .int .i64 k ∧ (∃ A c, v = .slice A (writtenCells (xs.take k)).length c ∧ wr.ownsRow w.heap.size 3 1 (.slice A (writtenCells (xs.take k)).length c) (writtenCells (xs.take k)).length (ints (writtenCells (xs.take k)))) ∧ Below w.heap.size w wr) (fun _ i _ => xs.length - (intOf i).toNat)
  case atStart => exact ⟨0, by omega, rfl, ⟨none, 0, rfl, World.ownsRow_nil _ _ _ _⟩, Below.refl _ _⟩
  case round =>
    obtain ⟨k, hk, rfl, ⟨A1, c1, rfl, hown⟩, hb⟩ := hrel
    have hsz := hb.size
    have hle := writtenCells_le xs k
    have HB := mkHid hb
    have HO := mkHid hown
    have hs1 := hs.below hb
    clear hb hown
    by_cases hlt : k < xs.length
    · obtain ⟨b, off, rfl, h0, h1, h2, h3⟩ := hs1.acc hlt
      have HT := mkHid (writtenCells_take xs k hlt)
      clear hs hs1
      cases hw : xs[k].write with
      | true =>
        have HW := mkHid hw
        rw [hw] at h2
        clear hw
        go_wp2_with (at_builtin; refine wpList_app Ei ((HO.out.alloc _).alloc _) (newCellsAt _ _ _ (by simp)) rfl (by simp [Value.oneCell']) (by omega) (by omega) (by simp only [World.size_alloc]; omega) rfl rfl rfl rfl ?_; intro A' c' w1 hown1 hg1; have HO1 := mkHid hown1; have HG1 := mkHid hg1; clear hown1 hg1)
        go_roundw
        case rel =>
          refine ⟨k + 1, by omega, by go_num, ?_, ?_⟩
          · rw [HT.out, if_pos HW.out]
            refine ⟨A', c', by simp, ?_⟩
            have := HO1.out
            rw [List.length_append]
            simpa [ints] using this
          · exact ((HB.out.alloc hsz _).alloc (by simp; omega) _).grown HG1.out (by simp; omega) (fun g hg => (HO.out.lt g hg).1)
        case measure => simp [intOf]; omega
      | false =>
        have HW := mkHid hw
        rw [hw] at h2
        clear hw
        go_wp2_with fail
        go_roundw
        case rel =>
          refine ⟨k + 1, by omega, by go_num, ?_, HB.out.alloc hsz _⟩
          rw [HT.out, if_neg (by rw [HW.out]; simp), List.append_nil]
          exact ⟨A1, c1, rfl, HO.out.alloc _⟩
        case measure => simp [intOf]; omega
    · have : k = xs.length := by omega
      subst this
      have hO := HO.out
      rw [List.take_length] at hO hle
      have HO := mkHid hO
      clear hO
      rw [List.take_length]
      go_wp2_with fail
      refine (ascending_any _ _ _ _ _ (by omega) HO.out).mono ?_
      intro e w2 hR
      have hR2 := RetInts_asc hR HB.out HO.out
      obtain ⟨A2, c2, rfl, ho2, hb2⟩ := hR2
      have HR := mkHid (And.intro ho2 hb2)
      clear ho2 hb2 hR
      go_wp2_with fail
      go_ret
      exact ⟨A2, c2, rfl, HR.out.1, HR.out.2⟩
end Go.Proofs.Ytbhjicjcilneeaa
