/-
  DERIVED. GIVEN WITH THE SEED: THE CARDS: each row of YtfcccldofaleoaaGreatDoorRows.lean that lists a variable, with what it lists TIED to the program's text (the seventh form; the later family's looks); each row that meets fmt, with fmt's text TOLD by the authors' own Lean function (tested against real Go, not proved from fmt's source: count such statements apart). THE CARD IS WHAT COUNTS. Prove the row's statement (the work); the ties are given (YtfcccldofaleoaaGreatDoorTie.lean); close each card by the builder's one call (the guide's Derived/Test/ToyasCard.lean, 'card_holds'). Laid BY PROGRAM, IN A SANDBOX (cutbox-door.mjs). By AI agents, Wed Nov 11 2026. No macro, syntax, notation, axiom, sorry.
-/
import Derived.Test.YtfcccldofaleoaaGreatDoorRows
import GoSem.ClaimSeven
namespace Go.Proofs.YtfcccldofaleoaaGreatDoor
namespace Rows

/-- THE TIED CARD OF 'tablefinderlaw36.CopiesPairs'. -/
def copiesPairsCard : Claim7 := { stood := { row := copiesPairsRow, standIns := [], harness := (true, "d4b282ae2970f2b407555e97dc915e3b87a718a951dde31dbe766278a3b9ad60"), looks := false }, kinds := [], alts := [], laidByText := true, laidKinds := [.data, .data, .data, .data, .pinned], laidTests := true, laidLooks := .later }
def CopiesPairsCardSaid : Prop := Claim7.holds Tryz.pinned (.plain (OpenSpec.ofChange copiesPairsSpec)) copiesPairsCard

/-- THE TIED CARD OF 'tablefinderlaw36.CopiesOrder'. -/
def copiesOrderCard : Claim7 := { stood := { row := copiesOrderRow, standIns := [], harness := (true, "d4b282ae2970f2b407555e97dc915e3b87a718a951dde31dbe766278a3b9ad60"), looks := false }, kinds := [], alts := [], laidByText := true, laidKinds := [.data, .data, .data, .data, .pinned], laidTests := true, laidLooks := .later }
def CopiesOrderCardSaid : Prop := Claim7.holds Tryz.pinned (.plain (OpenSpec.ofChange copiesOrderSpec)) copiesOrderCard

/-- THE TIED CARD OF 'tablefinderlaw36.CopiesCounts'. -/
def copiesCountsCard : Claim7 := { stood := { row := copiesCountsRow, standIns := [], harness := (true, "d4b282ae2970f2b407555e97dc915e3b87a718a951dde31dbe766278a3b9ad60"), looks := false }, kinds := [], alts := [], laidByText := true, laidKinds := [.data, .data, .data, .data, .pinned], laidTests := true, laidLooks := .later }
def CopiesCountsCardSaid : Prop := Claim7.holds Tryz.pinned (.plain (OpenSpec.ofChange copiesCountsSpec)) copiesCountsCard

/-- THE TIED CARD OF 'tablefinderlaw36.CopiesTop'. -/
def copiesTopCard : Claim7 := { stood := { row := copiesTopRow, standIns := [], harness := (true, "d4b282ae2970f2b407555e97dc915e3b87a718a951dde31dbe766278a3b9ad60"), looks := false }, kinds := [], alts := [], laidByText := true, laidKinds := [.data, .data, .data, .data, .widerDeep, .pinned], laidTests := true, laidLooks := .later }
def CopiesTopCardSaid : Prop := Claim7.holds Tryz.pinned (.plain (OpenSpec.ofChange copiesTopSpec)) copiesTopCard

/-- THE TIED CARD OF 'tablefinderlaw36.CopiesLess'. -/
def copiesLessCard : Claim7 := { stood := { row := copiesLessRow, standIns := [], harness := (true, "d4b282ae2970f2b407555e97dc915e3b87a718a951dde31dbe766278a3b9ad60"), looks := false }, kinds := [], alts := [], laidByText := true, laidKinds := [.data, .data, .data, .data, .widerDeep, .pinned], laidTests := true, laidLooks := .later }
def CopiesLessCardSaid : Prop := Claim7.holds Tryz.pinned (.plain (OpenSpec.ofChange copiesLessSpec)) copiesLessCard

/-- THE SECOND FORM's CARD OF 'tablefinderlaw36.CopiesPairs'. -/
def copiesPairsUptoCard : Claim7 := { stood := { row := copiesPairsUptoRow, standIns := [], harness := (true, "d4b282ae2970f2b407555e97dc915e3b87a718a951dde31dbe766278a3b9ad60"), looks := false }, kinds := [], alts := [], laidByText := true, laidKinds := [.data, .data, .data, .data, .pinned], laidTests := true, laidLooks := .later }
def CopiesPairsUptoCardSaid : Prop := Claim7.holds Tryz.pinned (.plain (OpenSpec.upto copiesPairsSpec)) copiesPairsUptoCard

/-- THE SECOND FORM's CARD OF 'tablefinderlaw36.CopiesOrder'. -/
def copiesOrderUptoCard : Claim7 := { stood := { row := copiesOrderUptoRow, standIns := [], harness := (true, "d4b282ae2970f2b407555e97dc915e3b87a718a951dde31dbe766278a3b9ad60"), looks := false }, kinds := [], alts := [], laidByText := true, laidKinds := [.data, .data, .data, .data, .pinned], laidTests := true, laidLooks := .later }
def CopiesOrderUptoCardSaid : Prop := Claim7.holds Tryz.pinned (.plain (OpenSpec.upto copiesOrderSpec)) copiesOrderUptoCard

/-- THE SECOND FORM's CARD OF 'tablefinderlaw36.CopiesCounts'. -/
def copiesCountsUptoCard : Claim7 := { stood := { row := copiesCountsUptoRow, standIns := [], harness := (true, "d4b282ae2970f2b407555e97dc915e3b87a718a951dde31dbe766278a3b9ad60"), looks := false }, kinds := [], alts := [], laidByText := true, laidKinds := [.data, .data, .data, .data, .pinned], laidTests := true, laidLooks := .later }
def CopiesCountsUptoCardSaid : Prop := Claim7.holds Tryz.pinned (.plain (OpenSpec.upto copiesCountsSpec)) copiesCountsUptoCard

/-- THE SECOND FORM's CARD OF 'tablefinderlaw36.CopiesTop'. -/
def copiesTopUptoCard : Claim7 := { stood := { row := copiesTopUptoRow, standIns := [], harness := (true, "d4b282ae2970f2b407555e97dc915e3b87a718a951dde31dbe766278a3b9ad60"), looks := false }, kinds := [], alts := [], laidByText := true, laidKinds := [.data, .data, .data, .data, .widerDeep, .pinned], laidTests := true, laidLooks := .later }
def CopiesTopUptoCardSaid : Prop := Claim7.holds Tryz.pinned (.plain (OpenSpec.upto copiesTopSpec)) copiesTopUptoCard

/-- THE SECOND FORM's CARD OF 'tablefinderlaw36.CopiesLess'. -/
def copiesLessUptoCard : Claim7 := { stood := { row := copiesLessUptoRow, standIns := [], harness := (true, "d4b282ae2970f2b407555e97dc915e3b87a718a951dde31dbe766278a3b9ad60"), looks := false }, kinds := [], alts := [], laidByText := true, laidKinds := [.data, .data, .data, .data, .widerDeep, .pinned], laidTests := true, laidLooks := .later }
def CopiesLessUptoCardSaid : Prop := Claim7.holds Tryz.pinned (.plain (OpenSpec.upto copiesLessSpec)) copiesLessUptoCard
end Rows
end Go.Proofs.YtfcccldofaleoaaGreatDoor
