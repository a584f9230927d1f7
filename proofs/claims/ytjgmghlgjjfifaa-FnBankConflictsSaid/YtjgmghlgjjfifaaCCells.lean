/-
  Contract of the program's CellsWritten: the written cells in ascending order, each once.
-/
import Derived.Test.YtjgmghlgjjfifaaCWritten
import Derived.Test.YtjgmghlgjjfifaaCAccS2
namespace Go.Proofs.Ytjgmghlgjjfifaa
open Go.RowKit
set_option maxHeartbeats 400000
set_option linter.unusedVariables false

theorem RetInts_asc {zs : List Int} {w w1 w2 : World} {A : Option Addr} {c : Nat} {e : Ending} (h : RetAsc A c zs w.heap.size w1 e w2) (hb : Below w.heap.size w w1) (hown : w1.ownsRow w.heap.size 3 1 (.slice A zs.length c) zs.length (ints zs)) :
    RetInts (asc zs) w e w2 := by
  obtain ⟨he, ho, hg⟩ := h
  exact ⟨A, c, he, ho, below_grown hb hg (fun g e => (hown.lt g e).1)⟩

end Go.Proofs.Ytjgmghlgjjfifaa
