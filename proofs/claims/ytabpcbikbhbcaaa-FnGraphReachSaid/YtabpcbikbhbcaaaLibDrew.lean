/-
  A region that draws its order and only reads (and calls what only draws): the worlds that have only drawn. No function of the program stands here.
-/
import Derived.Test.YtabpcbikbhbcaaaLib
namespace Go.Proofs.Ytabpcbikbhbcaaa
open Go.RowKit
set_option linter.unusedVariables false

/-- the worlds that have only drawn. -/
def Drew (w : World) : Type := { u : World // ∃ n, u = w.drewN n }
instance drewNonempty (w : World) : Nonempty (Drew w) := ⟨⟨w, 0, rfl⟩⟩
theorem Drew.keeps {w : World} (u : Drew w) {p : Addr} {v : Value} (h : w.cell? p = some v) : u.1.cell? p = some v := by
  obtain ⟨n, hn⟩ := u.2; rw [hn]; exact h
theorem Drew.sl {w : World} (u : Drew w) {A : Option Addr} {xs : List Value} (h : Sl w A xs) : Sl u.1 A xs := by
  obtain ⟨n, hn⟩ := u.2; rw [hn]; exact h
theorem wp_region_drew {P : Program} {id : Nat} {Q : Exit → Act → World → Prop} {a : Act} {w : World} {l : List Oper} (hm : P.follows .mixedOrders = true) (hB : Region.lexB .any l.toArray = true)
    (h : wpQuiet P l.toArray (fun w' => ∃ u : Drew w, w' = u.1) (fun a' => ∀ w', (∃ u : Drew w, w' = u.1) → Q .normal a' w') l a) : (Code.region id l.toArray true).wp P Q a w :=
  wp_region_quiet (C := fun w' => ∃ u : Drew w, w' = u.1) hm hB ⟨⟨{ w with drawn := w.drawn + 1 }, ⟨1, rfl⟩⟩, rfl⟩ (by simpa using h)
theorem drew_call {P : Program} {f : FuncId} {args : Array Value} {w : World} {u : Drew w} {v : Value} (h : Calls P f args u.1 fun e w' => e = .returned v ∧ ∃ k, w' = u.1.drewN k) :
    Calls P f args u.1 fun e w' => e = .returned v ∧ ∃ u' : Drew w, w' = u'.1 :=
  h.mono fun e w' ⟨he, k, hk⟩ => ⟨he, ⟨w', by obtain ⟨n, hn⟩ := u.2; exact ⟨n + k, by rw [hk, hn, World.drewN_drewN]⟩⟩, rfl⟩
theorem drew_end {w : World} {Q : World → Prop} (h : ∀ X n, X = w.drewN n → Q X) : ∀ w', (∃ u : Drew w, w' = u.1) → Q w' := by
  rintro _ ⟨u, rfl⟩
  obtain ⟨n, hn⟩ := u.2
  exact h u.1 n hn

end Go.Proofs.Ytabpcbikbhbcaaa
