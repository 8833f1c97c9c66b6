/-
  DERIVED. GIVEN WITH THE SEED: THE CARDS: each row of YtfmlpaplnkohpaaGreatDoorRows.lean that lists a variable, with what it lists TIED to the program's text (the seventh form; the later family's looks); each row that meets fmt, with fmt's text TOLD by the authors' own Lean function (tested against real Go, not proved from fmt's source: count such statements apart). THE CARD IS WHAT COUNTS. Prove the row's statement (the work); the ties are given (YtfmlpaplnkohpaaGreatDoorTie.lean); close each card by the builder's one call (the guide's Derived/Test/ToyasCard.lean, 'card_holds'). Laid BY PROGRAM, IN A SANDBOX (cutbox-door.mjs). By AI agents, Wed Nov 11 2026. No macro, syntax, notation, axiom, sorry.
-/
import Derived.Test.YtfmlpaplnkohpaaGreatDoorRows
import GoSem.ClaimSeven
namespace Go.Proofs.YtfmlpaplnkohpaaGreatDoor
namespace Rows

/-- THE TIED CARD OF 'tablefinderlaw38.ExplainNames'. -/
def explainNamesCard : Claim7 := { stood := { row := explainNamesRow, standIns := [], harness := (true, "e4826f42e88c3c8f71f321059126778ab4163672a87456d6cf74f17f0333016e"), looks := false }, kinds := [], alts := [], laidByText := true, laidKinds := [.data, .data, .data, .data, .pinned], laidTests := true, laidLooks := .later }
def ExplainNamesCardSaid : Prop := Claim7.holds Tryz.pinned (.plain (OpenSpec.ofChange explainNamesSpec)) explainNamesCard

/-- THE TIED CARD OF 'tablefinderlaw38.ExplainLeads'. -/
def explainLeadsCard : Claim7 := { stood := { row := explainLeadsRow, standIns := [], harness := (true, "e4826f42e88c3c8f71f321059126778ab4163672a87456d6cf74f17f0333016e"), looks := false }, kinds := [], alts := [], laidByText := true, laidKinds := [.data, .data, .data, .data, .pinned], laidTests := true, laidLooks := .later }
def ExplainLeadsCardSaid : Prop := Claim7.holds Tryz.pinned (.plain (OpenSpec.ofChange explainLeadsSpec)) explainLeadsCard

/-- THE TIED CARD OF 'tablefinderlaw38.ExplainOps'. -/
def explainOpsCard : Claim7 := { stood := { row := explainOpsRow, standIns := [], harness := (true, "e4826f42e88c3c8f71f321059126778ab4163672a87456d6cf74f17f0333016e"), looks := false }, kinds := [], alts := [], laidByText := true, laidKinds := [.data, .data, .data, .data, .pinned], laidTests := true, laidLooks := .later }
def ExplainOpsCardSaid : Prop := Claim7.holds Tryz.pinned (.plain (OpenSpec.ofChange explainOpsSpec)) explainOpsCard

/-- THE TIED CARD OF 'tablefinderlaw38.ExplainShape'. -/
def explainShapeCard : Claim7 := { stood := { row := explainShapeRow, standIns := [], harness := (true, "e4826f42e88c3c8f71f321059126778ab4163672a87456d6cf74f17f0333016e"), looks := false }, kinds := [], alts := [], laidByText := true, laidKinds := [.data, .data, .data, .data, .pinned], laidTests := true, laidLooks := .later }
def ExplainShapeCardSaid : Prop := Claim7.holds Tryz.pinned (.plain (OpenSpec.ofChange explainShapeSpec)) explainShapeCard

/-- THE TIED CARD OF 'tablefinderlaw39.LineageRight'. -/
def lineageRightCard : Claim7 := { stood := { row := lineageRightRow, standIns := [], harness := (true, "e4826f42e88c3c8f71f321059126778ab4163672a87456d6cf74f17f0333016e"), looks := false }, kinds := [], alts := [], laidByText := true, laidKinds := [.data, .data, .data, .data, .pinned], laidTests := true, laidLooks := .later }
def LineageRightCardSaid : Prop := Claim7.holds Tryz.pinned (.plain (OpenSpec.ofChange lineageRightSpec)) lineageRightCard

/-- THE TIED CARD OF 'tablefinderlaw39.LineageNearest'. -/
def lineageNearestCard : Claim7 := { stood := { row := lineageNearestRow, standIns := [], harness := (true, "e4826f42e88c3c8f71f321059126778ab4163672a87456d6cf74f17f0333016e"), looks := false }, kinds := [], alts := [], laidByText := true, laidKinds := [.data, .data, .data, .data, .pinned], laidTests := true, laidLooks := .later }
def LineageNearestCardSaid : Prop := Claim7.holds Tryz.pinned (.plain (OpenSpec.ofChange lineageNearestSpec)) lineageNearestCard

/-- THE TIED CARD OF 'tablefinderlaw39.LineageAlone'. -/
def lineageAloneCard : Claim7 := { stood := { row := lineageAloneRow, standIns := [], harness := (true, "e4826f42e88c3c8f71f321059126778ab4163672a87456d6cf74f17f0333016e"), looks := false }, kinds := [], alts := [], laidByText := true, laidKinds := [.data, .data, .data, .data, .pinned], laidTests := true, laidLooks := .later }
def LineageAloneCardSaid : Prop := Claim7.holds Tryz.pinned (.plain (OpenSpec.ofChange lineageAloneSpec)) lineageAloneCard

/-- THE TIED CARD OF 'tablefinderlaw39.LineageGrows'. -/
def lineageGrowsCard : Claim7 := { stood := { row := lineageGrowsRow, standIns := [], harness := (true, "e4826f42e88c3c8f71f321059126778ab4163672a87456d6cf74f17f0333016e"), looks := false }, kinds := [], alts := [], laidByText := true, laidKinds := [.data, .data, .data, .data, .pinned], laidTests := true, laidLooks := .later }
def LineageGrowsCardSaid : Prop := Claim7.holds Tryz.pinned (.plain (OpenSpec.ofChange lineageGrowsSpec)) lineageGrowsCard

/-- THE SECOND FORM's CARD OF 'tablefinderlaw38.ExplainNames'. -/
def explainNamesUptoCard : Claim7 := { stood := { row := explainNamesUptoRow, standIns := [], harness := (true, "e4826f42e88c3c8f71f321059126778ab4163672a87456d6cf74f17f0333016e"), looks := false }, kinds := [], alts := [], laidByText := true, laidKinds := [.data, .data, .data, .data, .pinned], laidTests := true, laidLooks := .later }
def ExplainNamesUptoCardSaid : Prop := Claim7.holds Tryz.pinned (.plain (OpenSpec.upto explainNamesSpec)) explainNamesUptoCard

/-- THE SECOND FORM's CARD OF 'tablefinderlaw38.ExplainLeads'. -/
def explainLeadsUptoCard : Claim7 := { stood := { row := explainLeadsUptoRow, standIns := [], harness := (true, "e4826f42e88c3c8f71f321059126778ab4163672a87456d6cf74f17f0333016e"), looks := false }, kinds := [], alts := [], laidByText := true, laidKinds := [.data, .data, .data, .data, .pinned], laidTests := true, laidLooks := .later }
def ExplainLeadsUptoCardSaid : Prop := Claim7.holds Tryz.pinned (.plain (OpenSpec.upto explainLeadsSpec)) explainLeadsUptoCard

/-- THE SECOND FORM's CARD OF 'tablefinderlaw38.ExplainOps'. -/
def explainOpsUptoCard : Claim7 := { stood := { row := explainOpsUptoRow, standIns := [], harness := (true, "e4826f42e88c3c8f71f321059126778ab4163672a87456d6cf74f17f0333016e"), looks := false }, kinds := [], alts := [], laidByText := true, laidKinds := [.data, .data, .data, .data, .pinned], laidTests := true, laidLooks := .later }
def ExplainOpsUptoCardSaid : Prop := Claim7.holds Tryz.pinned (.plain (OpenSpec.upto explainOpsSpec)) explainOpsUptoCard

/-- THE SECOND FORM's CARD OF 'tablefinderlaw38.ExplainShape'. -/
def explainShapeUptoCard : Claim7 := { stood := { row := explainShapeUptoRow, standIns := [], harness := (true, "e4826f42e88c3c8f71f321059126778ab4163672a87456d6cf74f17f0333016e"), looks := false }, kinds := [], alts := [], laidByText := true, laidKinds := [.data, .data, .data, .data, .pinned], laidTests := true, laidLooks := .later }
def ExplainShapeUptoCardSaid : Prop := Claim7.holds Tryz.pinned (.plain (OpenSpec.upto explainShapeSpec)) explainShapeUptoCard

/-- THE SECOND FORM's CARD OF 'tablefinderlaw39.LineageRight'. -/
def lineageRightUptoCard : Claim7 := { stood := { row := lineageRightUptoRow, standIns := [], harness := (true, "e4826f42e88c3c8f71f321059126778ab4163672a87456d6cf74f17f0333016e"), looks := false }, kinds := [], alts := [], laidByText := true, laidKinds := [.data, .data, .data, .data, .pinned], laidTests := true, laidLooks := .later }
def LineageRightUptoCardSaid : Prop := Claim7.holds Tryz.pinned (.plain (OpenSpec.upto lineageRightSpec)) lineageRightUptoCard

/-- THE SECOND FORM's CARD OF 'tablefinderlaw39.LineageNearest'. -/
def lineageNearestUptoCard : Claim7 := { stood := { row := lineageNearestUptoRow, standIns := [], harness := (true, "e4826f42e88c3c8f71f321059126778ab4163672a87456d6cf74f17f0333016e"), looks := false }, kinds := [], alts := [], laidByText := true, laidKinds := [.data, .data, .data, .data, .pinned], laidTests := true, laidLooks := .later }
def LineageNearestUptoCardSaid : Prop := Claim7.holds Tryz.pinned (.plain (OpenSpec.upto lineageNearestSpec)) lineageNearestUptoCard

/-- THE SECOND FORM's CARD OF 'tablefinderlaw39.LineageAlone'. -/
def lineageAloneUptoCard : Claim7 := { stood := { row := lineageAloneUptoRow, standIns := [], harness := (true, "e4826f42e88c3c8f71f321059126778ab4163672a87456d6cf74f17f0333016e"), looks := false }, kinds := [], alts := [], laidByText := true, laidKinds := [.data, .data, .data, .data, .pinned], laidTests := true, laidLooks := .later }
def LineageAloneUptoCardSaid : Prop := Claim7.holds Tryz.pinned (.plain (OpenSpec.upto lineageAloneSpec)) lineageAloneUptoCard

/-- THE SECOND FORM's CARD OF 'tablefinderlaw39.LineageGrows'. -/
def lineageGrowsUptoCard : Claim7 := { stood := { row := lineageGrowsUptoRow, standIns := [], harness := (true, "e4826f42e88c3c8f71f321059126778ab4163672a87456d6cf74f17f0333016e"), looks := false }, kinds := [], alts := [], laidByText := true, laidKinds := [.data, .data, .data, .data, .pinned], laidTests := true, laidLooks := .later }
def LineageGrowsUptoCardSaid : Prop := Claim7.holds Tryz.pinned (.plain (OpenSpec.upto lineageGrowsSpec)) lineageGrowsUptoCard
end Rows
end Go.Proofs.YtfmlpaplnkohpaaGreatDoor
