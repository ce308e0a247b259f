/-
  DERIVED. GIVEN WITH THE SEED: THE CARDS: each row of YtamfcjmhnndbdaaGreatDoorRows.lean that lists a variable, with what it lists TIED to the program's text (the seventh form; the later family's looks); each row that meets fmt, with fmt's text TOLD by the authors' own Lean function (tested against real Go, not proved from fmt's source: count such statements apart). THE CARD IS WHAT COUNTS. Prove the row's statement (the work); the ties are given (YtamfcjmhnndbdaaGreatDoorTie.lean); close each card by the builder's one call (the guide's Derived/Test/ToyasCard.lean, 'card_holds'). Laid BY PROGRAM, IN A SANDBOX (cutbox-door.mjs). By AI agents, Wed Nov 11 2026. No macro, syntax, notation, axiom, sorry.
-/
import Derived.Test.YtamfcjmhnndbdaaGreatDoorRows
import GoSem.ClaimSeven
namespace Go.Proofs.YtamfcjmhnndbdaaGreatDoor
namespace Rows

/-- THE TIED CARD OF 'hatchwaytop.WholeBytes'. -/
def wholeBytesCard : Claim7 := { stood := { row := wholeBytesRow, standIns := [], harness := (true, "369d95879459eec22ede8185a5ee4b15c08df74eb7453cba0b1b05634629af1c"), looks := false }, kinds := [], alts := [], laidByText := true, laidKinds := [.data, .data, .data, .pinned], laidTests := true, laidLooks := .later }
def WholeBytesCardSaid : Prop := Claim7.holds Tryz.pinned (.plain (OpenSpec.ofChange wholeBytesSpec)) wholeBytesCard

/-- THE TIED CARD OF 'hatchwaytop.WholeOne'. -/
def wholeOneCard : Claim7 := { stood := { row := wholeOneRow, standIns := [], harness := (true, "369d95879459eec22ede8185a5ee4b15c08df74eb7453cba0b1b05634629af1c"), looks := false }, kinds := [], alts := [], laidByText := true, laidKinds := [.data, .data, .data, .pinned], laidTests := true, laidLooks := .later }
def WholeOneCardSaid : Prop := Claim7.holds Tryz.pinned (.plain (OpenSpec.ofChange wholeOneSpec)) wholeOneCard

/-- THE TIED CARD OF 'hatchwaytop.WholeUnlike'. -/
def wholeUnlikeCard : Claim7 := { stood := { row := wholeUnlikeRow, standIns := [], harness := (true, "369d95879459eec22ede8185a5ee4b15c08df74eb7453cba0b1b05634629af1c"), looks := false }, kinds := [], alts := [], laidByText := true, laidKinds := [.data, .data, .data, .pinned], laidTests := true, laidLooks := .later }
def WholeUnlikeCardSaid : Prop := Claim7.holds Tryz.pinned (.plain (OpenSpec.ofChange wholeUnlikeSpec)) wholeUnlikeCard

/-- THE TIED CARD OF 'hatchwaytop.WholeTyped'. -/
def wholeTypedCard : Claim7 := { stood := { row := wholeTypedRow, standIns := [], harness := (true, "369d95879459eec22ede8185a5ee4b15c08df74eb7453cba0b1b05634629af1c"), looks := false }, kinds := [], alts := [], laidByText := true, laidKinds := [.data, .data, .data, .pinned], laidTests := true, laidLooks := .later }
def WholeTypedCardSaid : Prop := Claim7.holds Tryz.pinned (.plain (OpenSpec.ofChange wholeTypedSpec)) wholeTypedCard

/-- THE TIED CARD OF 'hatchwaytop.WholeMixed'. -/
def wholeMixedCard : Claim7 := { stood := { row := wholeMixedRow, standIns := [], harness := (true, "369d95879459eec22ede8185a5ee4b15c08df74eb7453cba0b1b05634629af1c"), looks := false }, kinds := [], alts := [], laidByText := true, laidKinds := [.data, .data, .data, .pinned], laidTests := true, laidLooks := .later }
def WholeMixedCardSaid : Prop := Claim7.holds Tryz.pinned (.plain (OpenSpec.ofChange wholeMixedSpec)) wholeMixedCard

/-- THE SECOND FORM's CARD OF 'hatchwaytop.WholeBytes'. -/
def wholeBytesUptoCard : Claim7 := { stood := { row := wholeBytesUptoRow, standIns := [], harness := (true, "369d95879459eec22ede8185a5ee4b15c08df74eb7453cba0b1b05634629af1c"), looks := false }, kinds := [], alts := [], laidByText := true, laidKinds := [.data, .data, .data, .pinned], laidTests := true, laidLooks := .later }
def WholeBytesUptoCardSaid : Prop := Claim7.holds Tryz.pinned (.plain (OpenSpec.upto wholeBytesSpec)) wholeBytesUptoCard

/-- THE SECOND FORM's CARD OF 'hatchwaytop.WholeOne'. -/
def wholeOneUptoCard : Claim7 := { stood := { row := wholeOneUptoRow, standIns := [], harness := (true, "369d95879459eec22ede8185a5ee4b15c08df74eb7453cba0b1b05634629af1c"), looks := false }, kinds := [], alts := [], laidByText := true, laidKinds := [.data, .data, .data, .pinned], laidTests := true, laidLooks := .later }
def WholeOneUptoCardSaid : Prop := Claim7.holds Tryz.pinned (.plain (OpenSpec.upto wholeOneSpec)) wholeOneUptoCard

/-- THE SECOND FORM's CARD OF 'hatchwaytop.WholeUnlike'. -/
def wholeUnlikeUptoCard : Claim7 := { stood := { row := wholeUnlikeUptoRow, standIns := [], harness := (true, "369d95879459eec22ede8185a5ee4b15c08df74eb7453cba0b1b05634629af1c"), looks := false }, kinds := [], alts := [], laidByText := true, laidKinds := [.data, .data, .data, .pinned], laidTests := true, laidLooks := .later }
def WholeUnlikeUptoCardSaid : Prop := Claim7.holds Tryz.pinned (.plain (OpenSpec.upto wholeUnlikeSpec)) wholeUnlikeUptoCard

/-- THE SECOND FORM's CARD OF 'hatchwaytop.WholeTyped'. -/
def wholeTypedUptoCard : Claim7 := { stood := { row := wholeTypedUptoRow, standIns := [], harness := (true, "369d95879459eec22ede8185a5ee4b15c08df74eb7453cba0b1b05634629af1c"), looks := false }, kinds := [], alts := [], laidByText := true, laidKinds := [.data, .data, .data, .pinned], laidTests := true, laidLooks := .later }
def WholeTypedUptoCardSaid : Prop := Claim7.holds Tryz.pinned (.plain (OpenSpec.upto wholeTypedSpec)) wholeTypedUptoCard

/-- THE SECOND FORM's CARD OF 'hatchwaytop.WholeMixed'. -/
def wholeMixedUptoCard : Claim7 := { stood := { row := wholeMixedUptoRow, standIns := [], harness := (true, "369d95879459eec22ede8185a5ee4b15c08df74eb7453cba0b1b05634629af1c"), looks := false }, kinds := [], alts := [], laidByText := true, laidKinds := [.data, .data, .data, .pinned], laidTests := true, laidLooks := .later }
def WholeMixedUptoCardSaid : Prop := Claim7.holds Tryz.pinned (.plain (OpenSpec.upto wholeMixedSpec)) wholeMixedUptoCard
end Rows
end Go.Proofs.YtamfcjmhnndbdaaGreatDoor
