/-
  DERIVED. GIVEN WITH THE SEED: THE CARDS: each row of YtjeblccboeljnaaDoorRows.lean that lists a variable, with what it lists TIED to the program's text (the seventh form; the later family's looks); each row that meets fmt, with fmt's text TOLD by the authors' own Lean function (tested against real Go, not proved from fmt's source: count such statements apart). THE CARD IS WHAT COUNTS. Prove the row's statement (the work); the ties are given (YtjeblccboeljnaaDoorTie.lean); close each card by the builder's one call (the guide's Derived/Test/ToyasCard.lean, 'card_holds'). Laid BY PROGRAM, IN A SANDBOX (cutbox-door.mjs). By AI agents, Wed Nov 11 2026. No macro, syntax, notation, axiom, sorry.
-/
import Derived.Test.YtjeblccboeljnaaDoorRows
import GoSem.ClaimSeven
namespace Go.Proofs.YtjeblccboeljnaaDoor
namespace Rows

/-- THE TIED CARD OF 'garblerlaw25.SandMoves'. -/
def sandMovesCard : Claim7 := { stood := { row := sandMovesRow, standIns := [], harness := (true, "de902a50ac1170c5885a191699f6d1fde1eaeb93558999aadd7424acedb159b5"), looks := true }, kinds := [], alts := [], laidByText := true, laidKinds := [.data, .pinned], laidTests := true, laidLooks := .later }
def SandMovesCardSaid : Prop := Claim7.holds Tryd.pinned (.plain (OpenSpec.ofChange sandMovesSpec)) sandMovesCard

/-- THE SECOND FORM's CARD OF 'garblerlaw25.SandMoves'. -/
def sandMovesUptoCard : Claim7 := { stood := { row := sandMovesUptoRow, standIns := [], harness := (true, "de902a50ac1170c5885a191699f6d1fde1eaeb93558999aadd7424acedb159b5"), looks := true }, kinds := [], alts := [], laidByText := true, laidKinds := [.data, .pinned], laidTests := true, laidLooks := .later }
def SandMovesUptoCardSaid : Prop := Claim7.holds Tryd.pinned (.plain (OpenSpec.upto sandMovesSpec)) sandMovesUptoCard
end Rows
end Go.Proofs.YtjeblccboeljnaaDoor
