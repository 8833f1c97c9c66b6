/-
  DERIVED. GIVEN WITH THE SEED: THE CARDS: each row of YtaajpliifdlokaaGreatDoorRows.lean that lists a variable, with what it lists TIED to the program's text (the seventh form; the later family's looks); each row that meets fmt, with fmt's text TOLD by the authors' own Lean function (tested against real Go, not proved from fmt's source: count such statements apart). THE CARD IS WHAT COUNTS. Prove the row's statement (the work); the ties are given (YtaajpliifdlokaaGreatDoorTie.lean); close each card by the builder's one call (the guide's Derived/Test/ToyasCard.lean, 'card_holds'). Laid BY PROGRAM, IN A SANDBOX (cutbox-door.mjs). By AI agents, Wed Nov 11 2026. No macro, syntax, notation, axiom, sorry.
-/
import Derived.Test.YtaajpliifdlokaaGreatDoorRows
import GoSem.ClaimSeven
namespace Go.Proofs.YtaajpliifdlokaaGreatDoor
namespace Rows

/-- THE TIED CARD OF 'tablefinderlaw30.GraphLess'. -/
def graphLessCard : Claim7 := { stood := { row := graphLessRow, standIns := [], harness := (true, "158c8f94de3483317ed1cebcb60c5e7bc88638b1c68bf7461f27b5f32700babc"), looks := false }, kinds := [], alts := [], laidByText := true, laidKinds := [.data, .widerDeep, .pinned], laidTests := true, laidLooks := .later }
def GraphLessCardSaid : Prop := Claim7.holds Tryz.pinned (.plain (OpenSpec.ofChange graphLessSpec)) graphLessCard

/-- THE TIED CARD OF 'tablefinderlaw30.GraphFrom'. -/
def graphFromCard : Claim7 := { stood := { row := graphFromRow, standIns := [], harness := (true, "158c8f94de3483317ed1cebcb60c5e7bc88638b1c68bf7461f27b5f32700babc"), looks := false }, kinds := [], alts := [], laidByText := true, laidKinds := [.data, .widerDeep, .pinned], laidTests := true, laidLooks := .later }
def GraphFromCardSaid : Prop := Claim7.holds Tryz.pinned (.plain (OpenSpec.ofChange graphFromSpec)) graphFromCard

/-- THE TIED CARD OF 'tablefinderlaw30.GraphBuilds'. -/
def graphBuildsCard : Claim7 := { stood := { row := graphBuildsRow, standIns := [], harness := (true, "158c8f94de3483317ed1cebcb60c5e7bc88638b1c68bf7461f27b5f32700babc"), looks := false }, kinds := [], alts := [], laidByText := true, laidKinds := [.data, .data, .data, .data, .widerDeep, .pinned], laidTests := true, laidLooks := .later }
def GraphBuildsCardSaid : Prop := Claim7.holds Tryz.pinned (.plain (OpenSpec.ofChange graphBuildsSpec)) graphBuildsCard

/-- THE TIED CARD OF 'tablefinderlaw30.GraphGroups'. -/
def graphGroupsCard : Claim7 := { stood := { row := graphGroupsRow, standIns := [], harness := (true, "158c8f94de3483317ed1cebcb60c5e7bc88638b1c68bf7461f27b5f32700babc"), looks := false }, kinds := [], alts := [], laidByText := true, laidKinds := [.data, .data, .data, .data, .widerDeep, .pinned], laidTests := true, laidLooks := .later }
def GraphGroupsCardSaid : Prop := Claim7.holds Tryz.pinned (.plain (OpenSpec.ofChange graphGroupsSpec)) graphGroupsCard

/-- THE TIED CARD OF 'tablefinderlaw39.LineageNearest'. -/
def lineageNearestCard : Claim7 := { stood := { row := lineageNearestRow, standIns := [], harness := (true, "158c8f94de3483317ed1cebcb60c5e7bc88638b1c68bf7461f27b5f32700babc"), looks := false }, kinds := [], alts := [], laidByText := true, laidKinds := [.data, .data, .data, .data, .pinned], laidTests := true, laidLooks := .later }
def LineageNearestCardSaid : Prop := Claim7.holds Tryz.pinned (.plain (OpenSpec.ofChange lineageNearestSpec)) lineageNearestCard

/-- THE SECOND FORM's CARD OF 'tablefinderlaw30.GraphLess'. -/
def graphLessUptoCard : Claim7 := { stood := { row := graphLessUptoRow, standIns := [], harness := (true, "158c8f94de3483317ed1cebcb60c5e7bc88638b1c68bf7461f27b5f32700babc"), looks := false }, kinds := [], alts := [], laidByText := true, laidKinds := [.data, .widerDeep, .pinned], laidTests := true, laidLooks := .later }
def GraphLessUptoCardSaid : Prop := Claim7.holds Tryz.pinned (.plain (OpenSpec.upto graphLessSpec)) graphLessUptoCard

/-- THE SECOND FORM's CARD OF 'tablefinderlaw30.GraphFrom'. -/
def graphFromUptoCard : Claim7 := { stood := { row := graphFromUptoRow, standIns := [], harness := (true, "158c8f94de3483317ed1cebcb60c5e7bc88638b1c68bf7461f27b5f32700babc"), looks := false }, kinds := [], alts := [], laidByText := true, laidKinds := [.data, .widerDeep, .pinned], laidTests := true, laidLooks := .later }
def GraphFromUptoCardSaid : Prop := Claim7.holds Tryz.pinned (.plain (OpenSpec.upto graphFromSpec)) graphFromUptoCard

/-- THE SECOND FORM's CARD OF 'tablefinderlaw30.GraphBuilds'. -/
def graphBuildsUptoCard : Claim7 := { stood := { row := graphBuildsUptoRow, standIns := [], harness := (true, "158c8f94de3483317ed1cebcb60c5e7bc88638b1c68bf7461f27b5f32700babc"), looks := false }, kinds := [], alts := [], laidByText := true, laidKinds := [.data, .data, .data, .data, .widerDeep, .pinned], laidTests := true, laidLooks := .later }
def GraphBuildsUptoCardSaid : Prop := Claim7.holds Tryz.pinned (.plain (OpenSpec.upto graphBuildsSpec)) graphBuildsUptoCard

/-- THE SECOND FORM's CARD OF 'tablefinderlaw30.GraphGroups'. -/
def graphGroupsUptoCard : Claim7 := { stood := { row := graphGroupsUptoRow, standIns := [], harness := (true, "158c8f94de3483317ed1cebcb60c5e7bc88638b1c68bf7461f27b5f32700babc"), looks := false }, kinds := [], alts := [], laidByText := true, laidKinds := [.data, .data, .data, .data, .widerDeep, .pinned], laidTests := true, laidLooks := .later }
def GraphGroupsUptoCardSaid : Prop := Claim7.holds Tryz.pinned (.plain (OpenSpec.upto graphGroupsSpec)) graphGroupsUptoCard

/-- THE SECOND FORM's CARD OF 'tablefinderlaw39.LineageNearest'. -/
def lineageNearestUptoCard : Claim7 := { stood := { row := lineageNearestUptoRow, standIns := [], harness := (true, "158c8f94de3483317ed1cebcb60c5e7bc88638b1c68bf7461f27b5f32700babc"), looks := false }, kinds := [], alts := [], laidByText := true, laidKinds := [.data, .data, .data, .data, .pinned], laidTests := true, laidLooks := .later }
def LineageNearestUptoCardSaid : Prop := Claim7.holds Tryz.pinned (.plain (OpenSpec.upto lineageNearestSpec)) lineageNearestUptoCard
end Rows
end Go.Proofs.YtaajpliifdlokaaGreatDoor
