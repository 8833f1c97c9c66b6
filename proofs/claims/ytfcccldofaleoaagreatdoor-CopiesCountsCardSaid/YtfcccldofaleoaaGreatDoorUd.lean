/- A slice of bytes that came in. No program in sight. -/
import Derived.Test.YtfcccldofaleoaaGreatDoorBs
namespace Go.Proofs.YtfcccldofaleoaaGreatDoor
open Go.RowKit

/-- A slice of bytes that came in. -/
def RdU (w : World) (B : Nat) (a : Option Addr) (n c : Nat) : Prop :=
  n ≤ c ∧ c ≤ maxLen ∧ (0 < n → ∃ b o, a = some ⟨b, o, none⟩ ∧ b < B ∧ ∀ i, i < n → ∃ x : Nat, x < 256 ∧ w.cell? ⟨b, o + i, none⟩ = some (.int .u8 (x : Int)))

end Go.Proofs.YtfcccldofaleoaaGreatDoor
