/-
  DERIVED. GIVEN WITH THE SEED: THE CARDS: each row of YtdncdlcfgljheaaDoorRows.lean that lists a variable, with what it lists TIED to the program's text (the seventh form; the later family's looks); each row that meets fmt, with fmt's text TOLD by the authors' own Lean function (tested against real Go, not proved from fmt's source: count such statements apart). THE CARD IS WHAT COUNTS. Prove the row's statement (the work); the ties are given (YtdncdlcfgljheaaDoorTie.lean); close each card by the builder's one call (the guide's Derived/Test/ToyasCard.lean, 'card_holds'). Laid BY PROGRAM, IN A SANDBOX (cutbox-door.mjs). By AI agents, Wed Nov 11 2026. No macro, syntax, notation, axiom, sorry.
-/
import Derived.Test.YtdncdlcfgljheaaDoorRows
import GoSem.ClaimSeven
namespace Go.Proofs.YtdncdlcfgljheaaDoor
namespace Rows

/-- THE TIED CARD OF 'tablefinderlaw02.TextTwice'. -/
def textTwiceCard : Claim7 := { stood := { row := textTwiceRow, standIns := [], harness := (true, "3a8f8e1ac820a9ba17d523c1eb96eab6318eea8eb4fba86954a40e4e88673421"), looks := false }, kinds := [], alts := [], laidByText := true, laidKinds := [.data, .data, .data, .data, .pinned], laidTests := true, laidLooks := .later }
def TextTwiceCardSaid : Prop := Claim7.holds Tryd.pinned (.plain (OpenSpec.ofChange textTwiceSpec)) textTwiceCard

/-- THE TIED CARD OF 'tablefinderlaw02.TextLines'. -/
def textLinesCard : Claim7 := { stood := { row := textLinesRow, standIns := [], harness := (true, "3a8f8e1ac820a9ba17d523c1eb96eab6318eea8eb4fba86954a40e4e88673421"), looks := false }, kinds := [], alts := [], laidByText := true, laidKinds := [.data, .data, .data, .data, .pinned], laidTests := true, laidLooks := .later }
def TextLinesCardSaid : Prop := Claim7.holds Tryd.pinned (.plain (OpenSpec.ofChange textLinesSpec)) textLinesCard

/-- THE TIED CARD OF 'tablefinderlaw02.TextSteps'. -/
def textStepsCard : Claim7 := { stood := { row := textStepsRow, standIns := [], harness := (true, "3a8f8e1ac820a9ba17d523c1eb96eab6318eea8eb4fba86954a40e4e88673421"), looks := false }, kinds := [], alts := [], laidByText := true, laidKinds := [.data, .data, .data, .data, .pinned], laidTests := true, laidLooks := .later }
def TextStepsCardSaid : Prop := Claim7.holds Tryd.pinned (.plain (OpenSpec.ofChange textStepsSpec)) textStepsCard

/-- THE TIED CARD OF 'tablefinderlaw02.TextSets'. -/
def textSetsCard : Claim7 := { stood := { row := textSetsRow, standIns := [], harness := (true, "3a8f8e1ac820a9ba17d523c1eb96eab6318eea8eb4fba86954a40e4e88673421"), looks := false }, kinds := [], alts := [], laidByText := true, laidKinds := [.data, .pinned], laidTests := true, laidLooks := .later }
def TextSetsCardSaid : Prop := Claim7.holds Tryd.pinned (.plain (OpenSpec.ofChange textSetsSpec)) textSetsCard

/-- THE TIED CARD OF 'tablefinderlaw18.PostingSizes'. -/
def postingSizesCard : Claim7 := { stood := { row := postingSizesRow, standIns := [], harness := (true, "3a8f8e1ac820a9ba17d523c1eb96eab6318eea8eb4fba86954a40e4e88673421"), looks := false }, kinds := [], alts := [], laidByText := true, laidKinds := [.data, .data, .data, .data, .pinned], laidTests := true, laidLooks := .later }
def PostingSizesCardSaid : Prop := Claim7.holds Tryd.pinned (.plain (OpenSpec.ofChange postingSizesSpec)) postingSizesCard

/-- THE SECOND FORM's CARD OF 'tablefinderlaw02.TextTwice'. -/
def textTwiceUptoCard : Claim7 := { stood := { row := textTwiceUptoRow, standIns := [], harness := (true, "3a8f8e1ac820a9ba17d523c1eb96eab6318eea8eb4fba86954a40e4e88673421"), looks := false }, kinds := [], alts := [], laidByText := true, laidKinds := [.data, .data, .data, .data, .pinned], laidTests := true, laidLooks := .later }
def TextTwiceUptoCardSaid : Prop := Claim7.holds Tryd.pinned (.plain (OpenSpec.upto textTwiceSpec)) textTwiceUptoCard

/-- THE SECOND FORM's CARD OF 'tablefinderlaw02.TextLines'. -/
def textLinesUptoCard : Claim7 := { stood := { row := textLinesUptoRow, standIns := [], harness := (true, "3a8f8e1ac820a9ba17d523c1eb96eab6318eea8eb4fba86954a40e4e88673421"), looks := false }, kinds := [], alts := [], laidByText := true, laidKinds := [.data, .data, .data, .data, .pinned], laidTests := true, laidLooks := .later }
def TextLinesUptoCardSaid : Prop := Claim7.holds Tryd.pinned (.plain (OpenSpec.upto textLinesSpec)) textLinesUptoCard

/-- THE SECOND FORM's CARD OF 'tablefinderlaw02.TextSteps'. -/
def textStepsUptoCard : Claim7 := { stood := { row := textStepsUptoRow, standIns := [], harness := (true, "3a8f8e1ac820a9ba17d523c1eb96eab6318eea8eb4fba86954a40e4e88673421"), looks := false }, kinds := [], alts := [], laidByText := true, laidKinds := [.data, .data, .data, .data, .pinned], laidTests := true, laidLooks := .later }
def TextStepsUptoCardSaid : Prop := Claim7.holds Tryd.pinned (.plain (OpenSpec.upto textStepsSpec)) textStepsUptoCard

/-- THE SECOND FORM's CARD OF 'tablefinderlaw02.TextSets'. -/
def textSetsUptoCard : Claim7 := { stood := { row := textSetsUptoRow, standIns := [], harness := (true, "3a8f8e1ac820a9ba17d523c1eb96eab6318eea8eb4fba86954a40e4e88673421"), looks := false }, kinds := [], alts := [], laidByText := true, laidKinds := [.data, .pinned], laidTests := true, laidLooks := .later }
def TextSetsUptoCardSaid : Prop := Claim7.holds Tryd.pinned (.plain (OpenSpec.upto textSetsSpec)) textSetsUptoCard

/-- THE SECOND FORM's CARD OF 'tablefinderlaw18.PostingSizes'. -/
def postingSizesUptoCard : Claim7 := { stood := { row := postingSizesUptoRow, standIns := [], harness := (true, "3a8f8e1ac820a9ba17d523c1eb96eab6318eea8eb4fba86954a40e4e88673421"), looks := false }, kinds := [], alts := [], laidByText := true, laidKinds := [.data, .data, .data, .data, .pinned], laidTests := true, laidLooks := .later }
def PostingSizesUptoCardSaid : Prop := Claim7.holds Tryd.pinned (.plain (OpenSpec.upto postingSizesSpec)) postingSizesUptoCard
end Rows
end Go.Proofs.YtdncdlcfgljheaaDoor
