/-
  DERIVED. GIVEN WITH THE SEED: THE CARDS: each row of YtabemneoobbnaaaGreatDoorRows.lean that lists a variable, with what it lists TIED to the program's text (the seventh form; the later family's looks); each row that meets fmt, with fmt's text TOLD by the authors' own Lean function (tested against real Go, not proved from fmt's source: count such statements apart). THE CARD IS WHAT COUNTS. Prove the row's statement (the work); the ties are given (YtabemneoobbnaaaGreatDoorTie.lean); close each card by the builder's one call (the guide's Derived/Test/ToyasCard.lean, 'card_holds'). Laid BY PROGRAM, IN A SANDBOX (cutbox-door.mjs). By AI agents, Wed Nov 11 2026. No macro, syntax, notation, axiom, sorry.
-/
import Derived.Test.YtabemneoobbnaaaGreatDoorRows
import GoSem.ClaimSeven
namespace Go.Proofs.YtabemneoobbnaaaGreatDoor
namespace Rows

/-- THE TIED CARD OF 'tablefinderlaw17.SignatureMeets'. -/
def signatureMeetsCard : Claim7 := { stood := { row := signatureMeetsRow, standIns := [], harness := (true, "6f1ba9b9d6f8609783050f0d07aa6f1b1f87ae5f704666611d65ced2904c3191"), looks := false }, kinds := [], alts := [], laidByText := true, laidKinds := [.data, .pinned], laidTests := true, laidLooks := .later }
def SignatureMeetsCardSaid : Prop := Claim7.holds Tryz.pinned (.plain (OpenSpec.ofChange signatureMeetsSpec)) signatureMeetsCard

/-- THE TIED CARD OF 'tablefinderlaw18.PostingHolds'. -/
def postingHoldsCard : Claim7 := { stood := { row := postingHoldsRow, standIns := [], harness := (true, "6f1ba9b9d6f8609783050f0d07aa6f1b1f87ae5f704666611d65ced2904c3191"), looks := false }, kinds := [], alts := [], laidByText := true, laidKinds := [.data, .data, .data, .data, .pinned], laidTests := true, laidLooks := .later }
def PostingHoldsCardSaid : Prop := Claim7.holds Tryz.pinned (.plain (OpenSpec.ofChange postingHoldsSpec)) postingHoldsCard

/-- THE TIED CARD OF 'tablefinderlaw17.SignatureOrder'. -/
def signatureOrderCard : Claim7 := { stood := { row := signatureOrderRow, standIns := [], harness := (true, "6f1ba9b9d6f8609783050f0d07aa6f1b1f87ae5f704666611d65ced2904c3191"), looks := false }, kinds := [], alts := [], laidByText := true, laidKinds := [.data, .data, .data, .data, .pinned], laidTests := true, laidLooks := .later }
def SignatureOrderCardSaid : Prop := Claim7.holds Tryz.pinned (.plain (OpenSpec.ofChange signatureOrderSpec)) signatureOrderCard

/-- THE TIED CARD OF 'tablefinderlaw17.SignaturePairs'. -/
def signaturePairsCard : Claim7 := { stood := { row := signaturePairsRow, standIns := [], harness := (true, "6f1ba9b9d6f8609783050f0d07aa6f1b1f87ae5f704666611d65ced2904c3191"), looks := false }, kinds := [], alts := [], laidByText := true, laidKinds := [.data, .data, .data, .data, .pinned], laidTests := true, laidLooks := .later }
def SignaturePairsCardSaid : Prop := Claim7.holds Tryz.pinned (.plain (OpenSpec.ofChange signaturePairsSpec)) signaturePairsCard

/-- THE TIED CARD OF 'tablefinderlaw18.PostingBuilds'. -/
def postingBuildsCard : Claim7 := { stood := { row := postingBuildsRow, standIns := [], harness := (true, "6f1ba9b9d6f8609783050f0d07aa6f1b1f87ae5f704666611d65ced2904c3191"), looks := false }, kinds := [], alts := [], laidByText := true, laidKinds := [.data, .data, .data, .data, .pinned], laidTests := true, laidLooks := .later }
def PostingBuildsCardSaid : Prop := Claim7.holds Tryz.pinned (.plain (OpenSpec.ofChange postingBuildsSpec)) postingBuildsCard

/-- THE SECOND FORM's CARD OF 'tablefinderlaw17.SignatureMeets'. -/
def signatureMeetsUptoCard : Claim7 := { stood := { row := signatureMeetsUptoRow, standIns := [], harness := (true, "6f1ba9b9d6f8609783050f0d07aa6f1b1f87ae5f704666611d65ced2904c3191"), looks := false }, kinds := [], alts := [], laidByText := true, laidKinds := [.data, .pinned], laidTests := true, laidLooks := .later }
def SignatureMeetsUptoCardSaid : Prop := Claim7.holds Tryz.pinned (.plain (OpenSpec.upto signatureMeetsSpec)) signatureMeetsUptoCard

/-- THE SECOND FORM's CARD OF 'tablefinderlaw18.PostingHolds'. -/
def postingHoldsUptoCard : Claim7 := { stood := { row := postingHoldsUptoRow, standIns := [], harness := (true, "6f1ba9b9d6f8609783050f0d07aa6f1b1f87ae5f704666611d65ced2904c3191"), looks := false }, kinds := [], alts := [], laidByText := true, laidKinds := [.data, .data, .data, .data, .pinned], laidTests := true, laidLooks := .later }
def PostingHoldsUptoCardSaid : Prop := Claim7.holds Tryz.pinned (.plain (OpenSpec.upto postingHoldsSpec)) postingHoldsUptoCard

/-- THE SECOND FORM's CARD OF 'tablefinderlaw17.SignatureOrder'. -/
def signatureOrderUptoCard : Claim7 := { stood := { row := signatureOrderUptoRow, standIns := [], harness := (true, "6f1ba9b9d6f8609783050f0d07aa6f1b1f87ae5f704666611d65ced2904c3191"), looks := false }, kinds := [], alts := [], laidByText := true, laidKinds := [.data, .data, .data, .data, .pinned], laidTests := true, laidLooks := .later }
def SignatureOrderUptoCardSaid : Prop := Claim7.holds Tryz.pinned (.plain (OpenSpec.upto signatureOrderSpec)) signatureOrderUptoCard

/-- THE SECOND FORM's CARD OF 'tablefinderlaw17.SignaturePairs'. -/
def signaturePairsUptoCard : Claim7 := { stood := { row := signaturePairsUptoRow, standIns := [], harness := (true, "6f1ba9b9d6f8609783050f0d07aa6f1b1f87ae5f704666611d65ced2904c3191"), looks := false }, kinds := [], alts := [], laidByText := true, laidKinds := [.data, .data, .data, .data, .pinned], laidTests := true, laidLooks := .later }
def SignaturePairsUptoCardSaid : Prop := Claim7.holds Tryz.pinned (.plain (OpenSpec.upto signaturePairsSpec)) signaturePairsUptoCard

/-- THE SECOND FORM's CARD OF 'tablefinderlaw18.PostingBuilds'. -/
def postingBuildsUptoCard : Claim7 := { stood := { row := postingBuildsUptoRow, standIns := [], harness := (true, "6f1ba9b9d6f8609783050f0d07aa6f1b1f87ae5f704666611d65ced2904c3191"), looks := false }, kinds := [], alts := [], laidByText := true, laidKinds := [.data, .data, .data, .data, .pinned], laidTests := true, laidLooks := .later }
def PostingBuildsUptoCardSaid : Prop := Claim7.holds Tryz.pinned (.plain (OpenSpec.upto postingBuildsSpec)) postingBuildsUptoCard
end Rows
end Go.Proofs.YtabemneoobbnaaaGreatDoor
