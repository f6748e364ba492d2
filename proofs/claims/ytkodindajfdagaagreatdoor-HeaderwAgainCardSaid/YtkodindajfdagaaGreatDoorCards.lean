/-
  DERIVED. GIVEN WITH THE SEED: THE CARDS: each row of YtkodindajfdagaaGreatDoorRows.lean that lists a variable, with what it lists TIED to the program's text (the seventh form; the later family's looks); each row that meets fmt, with fmt's text TOLD by the authors' own Lean function (tested against real Go, not proved from fmt's source: count such statements apart). THE CARD IS WHAT COUNTS. Prove the row's statement (the work); the ties are given (YtkodindajfdagaaGreatDoorTie.lean); close each card by the builder's one call (the guide's Derived/Test/ToyasCard.lean, 'card_holds'). Laid BY PROGRAM, IN A SANDBOX (cutbox-door.mjs). By AI agents, Wed Nov 11 2026. No macro, syntax, notation, axiom, sorry.
-/
import Derived.Test.YtkodindajfdagaaGreatDoorRows
import GoSem.ClaimSeven
namespace Go.Proofs.YtkodindajfdagaaGreatDoor
namespace Rows

/-- THE TIED CARD OF 'garblerlaw21.HeaderwSeals'. -/
def headerwSealsCard : Claim7 := { stood := { row := headerwSealsRow, standIns := [], harness := (true, "c8c6ee5fecddb9789958326dde1ccddd9ce4a7974158ef6c14da9e9620b75b0b"), looks := false }, kinds := [], alts := [], laidByText := true, laidKinds := [.data, .pinned], laidTests := true, laidLooks := .later }
def HeaderwSealsCardSaid : Prop := Claim7.holds Tryz.pinned (.plain (OpenSpec.ofChange headerwSealsSpec)) headerwSealsCard

/-- THE TIED CARD OF 'garblerlaw21.HeaderwBack'. -/
def headerwBackCard : Claim7 := { stood := { row := headerwBackRow, standIns := [], harness := (true, "c8c6ee5fecddb9789958326dde1ccddd9ce4a7974158ef6c14da9e9620b75b0b"), looks := false }, kinds := [], alts := [], laidByText := true, laidKinds := [.data, .pinned], laidTests := true, laidLooks := .later }
def HeaderwBackCardSaid : Prop := Claim7.holds Tryz.pinned (.plain (OpenSpec.ofChange headerwBackSpec)) headerwBackCard

/-- THE TIED CARD OF 'garblerlaw21.HeaderwAgain'. -/
def headerwAgainCard : Claim7 := { stood := { row := headerwAgainRow, standIns := [], harness := (true, "c8c6ee5fecddb9789958326dde1ccddd9ce4a7974158ef6c14da9e9620b75b0b"), looks := false }, kinds := [], alts := [], laidByText := true, laidKinds := [.data, .pinned], laidTests := true, laidLooks := .later }
def HeaderwAgainCardSaid : Prop := Claim7.holds Tryz.pinned (.plain (OpenSpec.ofChange headerwAgainSpec)) headerwAgainCard

/-- THE TIED CARD OF 'garblerlaw21.HeaderwNames'. -/
def headerwNamesCard : Claim7 := { stood := { row := headerwNamesRow, standIns := [], harness := (true, "c8c6ee5fecddb9789958326dde1ccddd9ce4a7974158ef6c14da9e9620b75b0b"), looks := false }, kinds := [], alts := [], laidByText := true, laidKinds := [.data, .pinned], laidTests := true, laidLooks := .later }
def HeaderwNamesCardSaid : Prop := Claim7.holds Tryz.pinned (.plain (OpenSpec.ofChange headerwNamesSpec)) headerwNamesCard

/-- THE SECOND FORM's CARD OF 'garblerlaw21.HeaderwSeals'. -/
def headerwSealsUptoCard : Claim7 := { stood := { row := headerwSealsUptoRow, standIns := [], harness := (true, "c8c6ee5fecddb9789958326dde1ccddd9ce4a7974158ef6c14da9e9620b75b0b"), looks := false }, kinds := [], alts := [], laidByText := true, laidKinds := [.data, .pinned], laidTests := true, laidLooks := .later }
def HeaderwSealsUptoCardSaid : Prop := Claim7.holds Tryz.pinned (.plain (OpenSpec.upto headerwSealsSpec)) headerwSealsUptoCard

/-- THE SECOND FORM's CARD OF 'garblerlaw21.HeaderwBack'. -/
def headerwBackUptoCard : Claim7 := { stood := { row := headerwBackUptoRow, standIns := [], harness := (true, "c8c6ee5fecddb9789958326dde1ccddd9ce4a7974158ef6c14da9e9620b75b0b"), looks := false }, kinds := [], alts := [], laidByText := true, laidKinds := [.data, .pinned], laidTests := true, laidLooks := .later }
def HeaderwBackUptoCardSaid : Prop := Claim7.holds Tryz.pinned (.plain (OpenSpec.upto headerwBackSpec)) headerwBackUptoCard

/-- THE SECOND FORM's CARD OF 'garblerlaw21.HeaderwAgain'. -/
def headerwAgainUptoCard : Claim7 := { stood := { row := headerwAgainUptoRow, standIns := [], harness := (true, "c8c6ee5fecddb9789958326dde1ccddd9ce4a7974158ef6c14da9e9620b75b0b"), looks := false }, kinds := [], alts := [], laidByText := true, laidKinds := [.data, .pinned], laidTests := true, laidLooks := .later }
def HeaderwAgainUptoCardSaid : Prop := Claim7.holds Tryz.pinned (.plain (OpenSpec.upto headerwAgainSpec)) headerwAgainUptoCard

/-- THE SECOND FORM's CARD OF 'garblerlaw21.HeaderwNames'. -/
def headerwNamesUptoCard : Claim7 := { stood := { row := headerwNamesUptoRow, standIns := [], harness := (true, "c8c6ee5fecddb9789958326dde1ccddd9ce4a7974158ef6c14da9e9620b75b0b"), looks := false }, kinds := [], alts := [], laidByText := true, laidKinds := [.data, .pinned], laidTests := true, laidLooks := .later }
def HeaderwNamesUptoCardSaid : Prop := Claim7.holds Tryz.pinned (.plain (OpenSpec.upto headerwNamesSpec)) headerwNamesUptoCard
end Rows
end Go.Proofs.YtkodindajfdagaaGreatDoor
