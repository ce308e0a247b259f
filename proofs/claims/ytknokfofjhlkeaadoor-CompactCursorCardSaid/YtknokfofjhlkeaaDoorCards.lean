/-
  DERIVED. GIVEN WITH THE SEED: THE CARDS: each row of YtknokfofjhlkeaaDoorRows.lean that lists a variable, with what it lists TIED to the program's text (the seventh form; the later family's looks); each row that meets fmt, with fmt's text TOLD by the authors' own Lean function (tested against real Go, not proved from fmt's source: count such statements apart). THE CARD IS WHAT COUNTS. Prove the row's statement (the work); the ties are given (YtknokfofjhlkeaaDoorTie.lean); close each card by the builder's one call (the guide's Derived/Test/ToyasCard.lean, 'card_holds'). Laid BY PROGRAM, IN A SANDBOX (cutbox-door.mjs). By AI agents, Wed Nov 11 2026. No macro, syntax, notation, axiom, sorry.
-/
import Derived.Test.YtknokfofjhlkeaaDoorRows
import GoSem.ClaimSeven
namespace Go.Proofs.YtknokfofjhlkeaaDoor
namespace Rows

/-- THE TIED CARD OF 'hatchwaylaw04.CompactPuts'. -/
def compactPutsCard : Claim7 := { stood := { row := compactPutsRow, standIns := [], harness := (true, "a0b9a8c8010fdefe2d2027fa1f25761cb1887c5697cf8bf595678fab96ebf6b4"), looks := false }, kinds := [], alts := [], laidByText := true, laidKinds := [.data], laidTests := true, laidLooks := .later }
def CompactPutsCardSaid : Prop := Claim7.holds Tryd.pinned (.plain (OpenSpec.ofChange compactPutsSpec)) compactPutsCard

/-- THE TIED CARD OF 'hatchwaylaw04.CompactReads'. -/
def compactReadsCard : Claim7 := { stood := { row := compactReadsRow, standIns := [], harness := (true, "a0b9a8c8010fdefe2d2027fa1f25761cb1887c5697cf8bf595678fab96ebf6b4"), looks := false }, kinds := [], alts := [], laidByText := true, laidKinds := [.data], laidTests := true, laidLooks := .later }
def CompactReadsCardSaid : Prop := Claim7.holds Tryd.pinned (.plain (OpenSpec.ofChange compactReadsSpec)) compactReadsCard

/-- THE TIED CARD OF 'hatchwaylaw04.CompactCursor'. -/
def compactCursorCard : Claim7 := { stood := { row := compactCursorRow, standIns := [], harness := (true, "a0b9a8c8010fdefe2d2027fa1f25761cb1887c5697cf8bf595678fab96ebf6b4"), looks := false }, kinds := [], alts := [], laidByText := true, laidKinds := [.data], laidTests := true, laidLooks := .later }
def CompactCursorCardSaid : Prop := Claim7.holds Tryd.pinned (.plain (OpenSpec.ofChange compactCursorSpec)) compactCursorCard

/-- THE SECOND FORM's CARD OF 'hatchwaylaw04.CompactPuts'. -/
def compactPutsUptoCard : Claim7 := { stood := { row := compactPutsUptoRow, standIns := [], harness := (true, "a0b9a8c8010fdefe2d2027fa1f25761cb1887c5697cf8bf595678fab96ebf6b4"), looks := false }, kinds := [], alts := [], laidByText := true, laidKinds := [.data], laidTests := true, laidLooks := .later }
def CompactPutsUptoCardSaid : Prop := Claim7.holds Tryd.pinned (.plain (OpenSpec.upto compactPutsSpec)) compactPutsUptoCard

/-- THE SECOND FORM's CARD OF 'hatchwaylaw04.CompactReads'. -/
def compactReadsUptoCard : Claim7 := { stood := { row := compactReadsUptoRow, standIns := [], harness := (true, "a0b9a8c8010fdefe2d2027fa1f25761cb1887c5697cf8bf595678fab96ebf6b4"), looks := false }, kinds := [], alts := [], laidByText := true, laidKinds := [.data], laidTests := true, laidLooks := .later }
def CompactReadsUptoCardSaid : Prop := Claim7.holds Tryd.pinned (.plain (OpenSpec.upto compactReadsSpec)) compactReadsUptoCard

/-- THE SECOND FORM's CARD OF 'hatchwaylaw04.CompactCursor'. -/
def compactCursorUptoCard : Claim7 := { stood := { row := compactCursorUptoRow, standIns := [], harness := (true, "a0b9a8c8010fdefe2d2027fa1f25761cb1887c5697cf8bf595678fab96ebf6b4"), looks := false }, kinds := [], alts := [], laidByText := true, laidKinds := [.data], laidTests := true, laidLooks := .later }
def CompactCursorUptoCardSaid : Prop := Claim7.holds Tryd.pinned (.plain (OpenSpec.upto compactCursorSpec)) compactCursorUptoCard
end Rows
end Go.Proofs.YtknokfofjhlkeaaDoor
