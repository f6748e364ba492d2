/-
  DERIVED. GIVEN WITH THE SEED: THE CARDS: each row of YthbkcjlpelihlaaGreatDoorRows.lean that lists a variable, with what it lists TIED to the program's text (the seventh form; the later family's looks); each row that meets fmt, with fmt's text TOLD by the authors' own Lean function (tested against real Go, not proved from fmt's source: count such statements apart). THE CARD IS WHAT COUNTS. Prove the row's statement (the work); the ties are given (YthbkcjlpelihlaaGreatDoorTie.lean); close each card by the builder's one call (the guide's Derived/Test/ToyasCard.lean, 'card_holds'). Laid BY PROGRAM, IN A SANDBOX (cutbox-door.mjs). By AI agents, Wed Nov 11 2026. No macro, syntax, notation, axiom, sorry.
-/
import Derived.Test.YthbkcjlpelihlaaGreatDoorRows
import GoSem.ClaimSeven
namespace Go.Proofs.YthbkcjlpelihlaaGreatDoor
namespace Rows

/-- THE TIED CARD OF 'garblerlaw26.ExtractEmpty'. -/
def extractEmptyCard : Claim7 := { stood := { row := extractEmptyRow, standIns := [], harness := (true, "862c6cd67a0f951bf6fe5501750766258da5ffbf4f3a8bdf43c086e9b93b31d2"), looks := true }, kinds := [], alts := [], laidByText := true, laidKinds := [.data, .data, .data, .data, .pinned], laidTests := true, laidLooks := .later }
def ExtractEmptyCardSaid : Prop := Claim7.holds Tryz.pinned (.plain (OpenSpec.ofChange extractEmptySpec)) extractEmptyCard

/-- THE SECOND FORM's CARD OF 'garblerlaw26.ExtractEmpty'. -/
def extractEmptyUptoCard : Claim7 := { stood := { row := extractEmptyUptoRow, standIns := [], harness := (true, "862c6cd67a0f951bf6fe5501750766258da5ffbf4f3a8bdf43c086e9b93b31d2"), looks := true }, kinds := [], alts := [], laidByText := true, laidKinds := [.data, .data, .data, .data, .pinned], laidTests := true, laidLooks := .later }
def ExtractEmptyUptoCardSaid : Prop := Claim7.holds Tryz.pinned (.plain (OpenSpec.upto extractEmptySpec)) extractEmptyUptoCard
end Rows
end Go.Proofs.YthbkcjlpelihlaaGreatDoor
