/-
  DERIVED. GIVEN WITH THE SEED: THE CARDS: each row of YtikiimlmoalbcaaGreatDoorRows.lean that lists a variable, with what it lists TIED to the program's text (the seventh form; the later family's looks); each row that meets fmt, with fmt's text TOLD by the authors' own Lean function (tested against real Go, not proved from fmt's source: count such statements apart). THE CARD IS WHAT COUNTS. Prove the row's statement (the work); the ties are given (YtikiimlmoalbcaaGreatDoorTie.lean); close each card by the builder's one call (the guide's Derived/Test/ToyasCard.lean, 'card_holds'). Laid BY PROGRAM, IN A SANDBOX (cutbox-door.mjs). By AI agents, Wed Nov 11 2026. No macro, syntax, notation, axiom, sorry.
-/
import Derived.Test.YtikiimlmoalbcaaGreatDoorRows
import GoSem.ClaimSeven
namespace Go.Proofs.YtikiimlmoalbcaaGreatDoor
namespace Rows

/-- THE TIED CARD OF 'tablefinderlaw20.ContainmentFirst'. -/
def containmentFirstCard : Claim7 := { stood := { row := containmentFirstRow, standIns := [], harness := (true, "77c712bbb2255063bd965683260bc445bbc51e73c9328e28ea86ccb8c775ad4a"), looks := false }, kinds := [], alts := [], laidByText := true, laidKinds := [.data, .data, .data, .data, .widerDeep, .pinned], laidTests := true, laidLooks := .later }
def ContainmentFirstCardSaid : Prop := Claim7.holds Tryz.pinned (.plain (OpenSpec.ofChange containmentFirstSpec)) containmentFirstCard

/-- THE TIED CARD OF 'tablefinderlaw19.OverlapKnown'. -/
def overlapKnownCard : Claim7 := { stood := { row := overlapKnownRow, standIns := [], harness := (true, "77c712bbb2255063bd965683260bc445bbc51e73c9328e28ea86ccb8c775ad4a"), looks := false }, kinds := [], alts := [], laidByText := true, laidKinds := [.data, .data, .data, .data, .widerDeep, .pinned], laidTests := true, laidLooks := .later }
def OverlapKnownCardSaid : Prop := Claim7.holds Tryz.pinned (.plain (OpenSpec.ofChange overlapKnownSpec)) overlapKnownCard

/-- THE TIED CARD OF 'tablefinderlaw19.OverlapOthers'. -/
def overlapOthersCard : Claim7 := { stood := { row := overlapOthersRow, standIns := [], harness := (true, "77c712bbb2255063bd965683260bc445bbc51e73c9328e28ea86ccb8c775ad4a"), looks := false }, kinds := [], alts := [], laidByText := true, laidKinds := [.data, .data, .data, .data, .widerDeep, .pinned], laidTests := true, laidLooks := .later }
def OverlapOthersCardSaid : Prop := Claim7.holds Tryz.pinned (.plain (OpenSpec.ofChange overlapOthersSpec)) overlapOthersCard

/-- THE TIED CARD OF 'tablefinderlaw19.OverlapFirst'. -/
def overlapFirstCard : Claim7 := { stood := { row := overlapFirstRow, standIns := [], harness := (true, "77c712bbb2255063bd965683260bc445bbc51e73c9328e28ea86ccb8c775ad4a"), looks := false }, kinds := [], alts := [], laidByText := true, laidKinds := [.data, .data, .data, .data, .widerDeep, .pinned], laidTests := true, laidLooks := .later }
def OverlapFirstCardSaid : Prop := Claim7.holds Tryz.pinned (.plain (OpenSpec.ofChange overlapFirstSpec)) overlapFirstCard

/-- THE TIED CARD OF 'tablefinderlaw19.OverlapProves'. -/
def overlapProvesCard : Claim7 := { stood := { row := overlapProvesRow, standIns := [], harness := (true, "77c712bbb2255063bd965683260bc445bbc51e73c9328e28ea86ccb8c775ad4a"), looks := false }, kinds := [], alts := [], laidByText := true, laidKinds := [.data, .data, .data, .data, .widerDeep, .pinned], laidTests := true, laidLooks := .later }
def OverlapProvesCardSaid : Prop := Claim7.holds Tryz.pinned (.plain (OpenSpec.ofChange overlapProvesSpec)) overlapProvesCard

/-- THE TIED CARD OF 'tablefinderlaw20.ContainmentProves'. -/
def containmentProvesCard : Claim7 := { stood := { row := containmentProvesRow, standIns := [], harness := (true, "77c712bbb2255063bd965683260bc445bbc51e73c9328e28ea86ccb8c775ad4a"), looks := false }, kinds := [], alts := [], laidByText := true, laidKinds := [.data, .data, .data, .data, .widerDeep, .pinned], laidTests := true, laidLooks := .later }
def ContainmentProvesCardSaid : Prop := Claim7.holds Tryz.pinned (.plain (OpenSpec.ofChange containmentProvesSpec)) containmentProvesCard

/-- THE SECOND FORM's CARD OF 'tablefinderlaw20.ContainmentFirst'. -/
def containmentFirstUptoCard : Claim7 := { stood := { row := containmentFirstUptoRow, standIns := [], harness := (true, "77c712bbb2255063bd965683260bc445bbc51e73c9328e28ea86ccb8c775ad4a"), looks := false }, kinds := [], alts := [], laidByText := true, laidKinds := [.data, .data, .data, .data, .widerDeep, .pinned], laidTests := true, laidLooks := .later }
def ContainmentFirstUptoCardSaid : Prop := Claim7.holds Tryz.pinned (.plain (OpenSpec.upto containmentFirstSpec)) containmentFirstUptoCard

/-- THE SECOND FORM's CARD OF 'tablefinderlaw19.OverlapKnown'. -/
def overlapKnownUptoCard : Claim7 := { stood := { row := overlapKnownUptoRow, standIns := [], harness := (true, "77c712bbb2255063bd965683260bc445bbc51e73c9328e28ea86ccb8c775ad4a"), looks := false }, kinds := [], alts := [], laidByText := true, laidKinds := [.data, .data, .data, .data, .widerDeep, .pinned], laidTests := true, laidLooks := .later }
def OverlapKnownUptoCardSaid : Prop := Claim7.holds Tryz.pinned (.plain (OpenSpec.upto overlapKnownSpec)) overlapKnownUptoCard

/-- THE SECOND FORM's CARD OF 'tablefinderlaw19.OverlapOthers'. -/
def overlapOthersUptoCard : Claim7 := { stood := { row := overlapOthersUptoRow, standIns := [], harness := (true, "77c712bbb2255063bd965683260bc445bbc51e73c9328e28ea86ccb8c775ad4a"), looks := false }, kinds := [], alts := [], laidByText := true, laidKinds := [.data, .data, .data, .data, .widerDeep, .pinned], laidTests := true, laidLooks := .later }
def OverlapOthersUptoCardSaid : Prop := Claim7.holds Tryz.pinned (.plain (OpenSpec.upto overlapOthersSpec)) overlapOthersUptoCard

/-- THE SECOND FORM's CARD OF 'tablefinderlaw19.OverlapFirst'. -/
def overlapFirstUptoCard : Claim7 := { stood := { row := overlapFirstUptoRow, standIns := [], harness := (true, "77c712bbb2255063bd965683260bc445bbc51e73c9328e28ea86ccb8c775ad4a"), looks := false }, kinds := [], alts := [], laidByText := true, laidKinds := [.data, .data, .data, .data, .widerDeep, .pinned], laidTests := true, laidLooks := .later }
def OverlapFirstUptoCardSaid : Prop := Claim7.holds Tryz.pinned (.plain (OpenSpec.upto overlapFirstSpec)) overlapFirstUptoCard

/-- THE SECOND FORM's CARD OF 'tablefinderlaw19.OverlapProves'. -/
def overlapProvesUptoCard : Claim7 := { stood := { row := overlapProvesUptoRow, standIns := [], harness := (true, "77c712bbb2255063bd965683260bc445bbc51e73c9328e28ea86ccb8c775ad4a"), looks := false }, kinds := [], alts := [], laidByText := true, laidKinds := [.data, .data, .data, .data, .widerDeep, .pinned], laidTests := true, laidLooks := .later }
def OverlapProvesUptoCardSaid : Prop := Claim7.holds Tryz.pinned (.plain (OpenSpec.upto overlapProvesSpec)) overlapProvesUptoCard

/-- THE SECOND FORM's CARD OF 'tablefinderlaw20.ContainmentProves'. -/
def containmentProvesUptoCard : Claim7 := { stood := { row := containmentProvesUptoRow, standIns := [], harness := (true, "77c712bbb2255063bd965683260bc445bbc51e73c9328e28ea86ccb8c775ad4a"), looks := false }, kinds := [], alts := [], laidByText := true, laidKinds := [.data, .data, .data, .data, .widerDeep, .pinned], laidTests := true, laidLooks := .later }
def ContainmentProvesUptoCardSaid : Prop := Claim7.holds Tryz.pinned (.plain (OpenSpec.upto containmentProvesSpec)) containmentProvesUptoCard
end Rows
end Go.Proofs.YtikiimlmoalbcaaGreatDoor
