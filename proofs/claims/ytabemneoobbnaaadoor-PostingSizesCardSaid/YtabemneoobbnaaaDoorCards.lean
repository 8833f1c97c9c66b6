/-
  DERIVED. GIVEN WITH THE SEED: THE CARDS: each row of YtabemneoobbnaaaDoorRows.lean that lists a variable, with what it lists TIED to the program's text (the seventh form; the later family's looks); each row that meets fmt, with fmt's text TOLD by the authors' own Lean function (tested against real Go, not proved from fmt's source: count such statements apart). THE CARD IS WHAT COUNTS. Prove the row's statement (the work); the ties are given (YtabemneoobbnaaaDoorTie.lean); close each card by the builder's one call (the guide's Derived/Test/ToyasCard.lean, 'card_holds'). Laid BY PROGRAM, IN A SANDBOX (cutbox-door.mjs). By AI agents, Wed Nov 11 2026. No macro, syntax, notation, axiom, sorry.
-/
import Derived.Test.YtabemneoobbnaaaDoorRows
import GoSem.ClaimSeven
namespace Go.Proofs.YtabemneoobbnaaaDoor
namespace Rows

/-- THE TIED CARD OF 'tablefinderlaw18.PostingSizes'. -/
def postingSizesCard : Claim7 := { stood := { row := postingSizesRow, standIns := [], harness := (true, "ac87b65a5f6e8ab93acc8be7afb78004e02870540dcd54905aaf3b0d9136109f"), looks := false }, kinds := [], alts := [], laidByText := true, laidKinds := [.data, .data, .data, .data, .pinned], laidTests := true, laidLooks := .later }
def PostingSizesCardSaid : Prop := Claim7.holds Tryd.pinned (.plain (OpenSpec.ofChange postingSizesSpec)) postingSizesCard

/-- THE SECOND FORM's CARD OF 'tablefinderlaw18.PostingSizes'. -/
def postingSizesUptoCard : Claim7 := { stood := { row := postingSizesUptoRow, standIns := [], harness := (true, "ac87b65a5f6e8ab93acc8be7afb78004e02870540dcd54905aaf3b0d9136109f"), looks := false }, kinds := [], alts := [], laidByText := true, laidKinds := [.data, .data, .data, .data, .pinned], laidTests := true, laidLooks := .later }
def PostingSizesUptoCardSaid : Prop := Claim7.holds Tryd.pinned (.plain (OpenSpec.upto postingSizesSpec)) postingSizesUptoCard
end Rows
end Go.Proofs.YtabemneoobbnaaaDoor
