/- Contracts of the dice: Texts, Query. -/
import Derived.Test.YtabemneoobbnaaaDoorGi
import Derived.Test.YtabemneoobbnaaaDoorGt
namespace Go.Proofs.YtabemneoobbnaaaDoor
open Go.RowKit

/-- Texts out of words, in new memory. -/
def TextsP (w : World) (g : Nat) (most : Int) (e : Ending) (w' : World) : Prop :=
  ∃ a c, ∃ xs : List ByteArray, e = .returned (.slice a xs.length c) ∧ w'.ownsRow w.heap.size 9 1 (.slice a xs.length c) xs.length (xs.map Value.string) ∧ (xs.length : Int) ≤ most ∧ (∀ x ∈ xs, x ∈ wordsL) ∧
    DiceAt 48 w' g ∧ Roll w.heap.size g w w'

theorem word_mem (r : Nat) (h : r < 16) : wordsL.getD r ⟨#[]⟩ ∈ wordsL := by
  have hl : r < wordsL.length := h
  simp [List.getD, hl]

/-- A set of words, in new memory. -/
def QueryP (w : World) (g : Nat) (most : Int) (e : Ending) (w' : World) : Prop :=
  ∃ a c, ∃ xs : List ByteArray, e = .returned (.slice a xs.length c) ∧ w'.ownsRow w.heap.size 9 1 (.slice a xs.length c) xs.length (xs.map Value.string) ∧ (xs.length : Int) ≤ most ∧ (∀ x ∈ xs, x ∈ wordsL) ∧ Asc xs ∧
    DiceAt 48 w' g ∧ Roll w.heap.size g w w'

end Go.Proofs.YtabemneoobbnaaaDoor
