/-
  DERIVED. GIVEN WITH THE SEED: THE CARDS: each row of YthblaeleogdfpaaGreatDoorRows.lean that lists a variable, with what it lists TIED to the program's text (the seventh form; the later family's looks); each row that meets fmt, with fmt's text TOLD by the authors' own Lean function (tested against real Go, not proved from fmt's source: count such statements apart). THE CARD IS WHAT COUNTS. Prove the row's statement (the work); the ties are given (YthblaeleogdfpaaGreatDoorTie.lean); close each card by the builder's one call (the guide's Derived/Test/ToyasCard.lean, 'card_holds'). Laid BY PROGRAM, IN A SANDBOX (cutbox-door.mjs). By AI agents, Wed Nov 11 2026. No macro, syntax, notation, axiom, sorry.
-/
import Derived.Test.YthblaeleogdfpaaGreatDoorRows
import GoSem.ClaimSeven
namespace Go.Proofs.YthblaeleogdfpaaGreatDoor
namespace Rows

/-- THE TIED CARD OF 'tablefinderlaw36.CopiesPairs'. -/
def copiesPairsCard : Claim7 := { stood := { row := copiesPairsRow, standIns := [], harness := (true, "501e5e5be45f74ceffe7d0155fddcd9850ff3b5420f1eac7999fbe7706048555"), looks := false }, kinds := [], alts := [], laidByText := true, laidKinds := [.data, .data, .data, .data, .pinned], laidTests := true, laidLooks := .later }
def CopiesPairsCardSaid : Prop := Claim7.holds Tryz.pinned (.plain (OpenSpec.ofChange copiesPairsSpec)) copiesPairsCard

/-- THE TIED CARD OF 'tablefinderlaw38.ExplainApplies'. -/
def explainAppliesCard : Claim7 := { stood := { row := explainAppliesRow, standIns := [], harness := (true, "501e5e5be45f74ceffe7d0155fddcd9850ff3b5420f1eac7999fbe7706048555"), looks := false }, kinds := [], alts := [], laidByText := true, laidKinds := [.data, .data, .data, .data, .pinned], laidTests := true, laidLooks := .later }
def ExplainAppliesCardSaid : Prop := Claim7.holds Tryz.pinned (.plain (OpenSpec.ofChange explainAppliesSpec)) explainAppliesCard

/-- THE TIED CARD OF 'tablefinderlaw30.GraphBuilds'. -/
def graphBuildsCard : Claim7 := { stood := { row := graphBuildsRow, standIns := [], harness := (true, "501e5e5be45f74ceffe7d0155fddcd9850ff3b5420f1eac7999fbe7706048555"), looks := false }, kinds := [], alts := [], laidByText := true, laidKinds := [.data, .data, .data, .data, .widerDeep, .pinned], laidTests := true, laidLooks := .later }
def GraphBuildsCardSaid : Prop := Claim7.holds Tryz.pinned (.plain (OpenSpec.ofChange graphBuildsSpec)) graphBuildsCard

/-- THE TIED CARD OF 'tablefinderlaw36.CopiesTop'. -/
def copiesTopCard : Claim7 := { stood := { row := copiesTopRow, standIns := [], harness := (true, "501e5e5be45f74ceffe7d0155fddcd9850ff3b5420f1eac7999fbe7706048555"), looks := false }, kinds := [], alts := [], laidByText := true, laidKinds := [.data, .data, .data, .data, .widerDeep, .pinned], laidTests := true, laidLooks := .later }
def CopiesTopCardSaid : Prop := Claim7.holds Tryz.pinned (.plain (OpenSpec.ofChange copiesTopSpec)) copiesTopCard

/-- THE SECOND FORM's CARD OF 'tablefinderlaw36.CopiesPairs'. -/
def copiesPairsUptoCard : Claim7 := { stood := { row := copiesPairsUptoRow, standIns := [], harness := (true, "501e5e5be45f74ceffe7d0155fddcd9850ff3b5420f1eac7999fbe7706048555"), looks := false }, kinds := [], alts := [], laidByText := true, laidKinds := [.data, .data, .data, .data, .pinned], laidTests := true, laidLooks := .later }
def CopiesPairsUptoCardSaid : Prop := Claim7.holds Tryz.pinned (.plain (OpenSpec.upto copiesPairsSpec)) copiesPairsUptoCard

/-- THE SECOND FORM's CARD OF 'tablefinderlaw38.ExplainApplies'. -/
def explainAppliesUptoCard : Claim7 := { stood := { row := explainAppliesUptoRow, standIns := [], harness := (true, "501e5e5be45f74ceffe7d0155fddcd9850ff3b5420f1eac7999fbe7706048555"), looks := false }, kinds := [], alts := [], laidByText := true, laidKinds := [.data, .data, .data, .data, .pinned], laidTests := true, laidLooks := .later }
def ExplainAppliesUptoCardSaid : Prop := Claim7.holds Tryz.pinned (.plain (OpenSpec.upto explainAppliesSpec)) explainAppliesUptoCard

/-- THE SECOND FORM's CARD OF 'tablefinderlaw30.GraphBuilds'. -/
def graphBuildsUptoCard : Claim7 := { stood := { row := graphBuildsUptoRow, standIns := [], harness := (true, "501e5e5be45f74ceffe7d0155fddcd9850ff3b5420f1eac7999fbe7706048555"), looks := false }, kinds := [], alts := [], laidByText := true, laidKinds := [.data, .data, .data, .data, .widerDeep, .pinned], laidTests := true, laidLooks := .later }
def GraphBuildsUptoCardSaid : Prop := Claim7.holds Tryz.pinned (.plain (OpenSpec.upto graphBuildsSpec)) graphBuildsUptoCard

/-- THE SECOND FORM's CARD OF 'tablefinderlaw36.CopiesTop'. -/
def copiesTopUptoCard : Claim7 := { stood := { row := copiesTopUptoRow, standIns := [], harness := (true, "501e5e5be45f74ceffe7d0155fddcd9850ff3b5420f1eac7999fbe7706048555"), looks := false }, kinds := [], alts := [], laidByText := true, laidKinds := [.data, .data, .data, .data, .widerDeep, .pinned], laidTests := true, laidLooks := .later }
def CopiesTopUptoCardSaid : Prop := Claim7.holds Tryz.pinned (.plain (OpenSpec.upto copiesTopSpec)) copiesTopUptoCard
end Rows
end Go.Proofs.YthblaeleogdfpaaGreatDoor
