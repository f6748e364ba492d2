/-
  DERIVED. GIVEN WITH THE SEED: THE CARDS: each row of YtjeblccboeljnaaGreatDoorRows.lean that lists a variable, with what it lists TIED to the program's text (the seventh form; the later family's looks); each row that meets fmt, with fmt's text TOLD by the authors' own Lean function (tested against real Go, not proved from fmt's source: count such statements apart). THE CARD IS WHAT COUNTS. Prove the row's statement (the work); the ties are given (YtjeblccboeljnaaGreatDoorTie.lean); close each card by the builder's one call (the guide's Derived/Test/ToyasCard.lean, 'card_holds'). Laid BY PROGRAM, IN A SANDBOX (cutbox-door.mjs). By AI agents, Wed Nov 11 2026. No macro, syntax, notation, axiom, sorry.
-/
import Derived.Test.YtjeblccboeljnaaGreatDoorRows
import GoSem.ClaimSeven
namespace Go.Proofs.YtjeblccboeljnaaGreatDoor
namespace Rows

/-- THE TIED CARD OF 'garblerlaw25.SandStays'. -/
def sandStaysCard : Claim7 := { stood := { row := sandStaysRow, standIns := [], harness := (true, "6f5659821d938552eb5c0f7e2b85442659dc0a6dfa84ce62e80ae6ab1864aa31"), looks := true }, kinds := [], alts := [], laidByText := true, laidKinds := [.data, .pinned], laidTests := true, laidLooks := .later }
def SandStaysCardSaid : Prop := Claim7.holds Tryz.pinned (.plain (OpenSpec.ofChange sandStaysSpec)) sandStaysCard

/-- THE TIED CARD OF 'garblerlaw25.SandBack'. -/
def sandBackCard : Claim7 := { stood := { row := sandBackRow, standIns := [], harness := (true, "6f5659821d938552eb5c0f7e2b85442659dc0a6dfa84ce62e80ae6ab1864aa31"), looks := true }, kinds := [], alts := [], laidByText := true, laidKinds := [.data, .pinned], laidTests := true, laidLooks := .later }
def SandBackCardSaid : Prop := Claim7.holds Tryz.pinned (.plain (OpenSpec.ofChange sandBackSpec)) sandBackCard

/-- THE TIED CARD OF 'garblerlaw25.SandUndone'. -/
def sandUndoneCard : Claim7 := { stood := { row := sandUndoneRow, standIns := [], harness := (true, "6f5659821d938552eb5c0f7e2b85442659dc0a6dfa84ce62e80ae6ab1864aa31"), looks := true }, kinds := [], alts := [], laidByText := true, laidKinds := [.data, .pinned], laidTests := true, laidLooks := .later }
def SandUndoneCardSaid : Prop := Claim7.holds Tryz.pinned (.plain (OpenSpec.ofChange sandUndoneSpec)) sandUndoneCard

/-- THE SECOND FORM's CARD OF 'garblerlaw25.SandStays'. -/
def sandStaysUptoCard : Claim7 := { stood := { row := sandStaysUptoRow, standIns := [], harness := (true, "6f5659821d938552eb5c0f7e2b85442659dc0a6dfa84ce62e80ae6ab1864aa31"), looks := true }, kinds := [], alts := [], laidByText := true, laidKinds := [.data, .pinned], laidTests := true, laidLooks := .later }
def SandStaysUptoCardSaid : Prop := Claim7.holds Tryz.pinned (.plain (OpenSpec.upto sandStaysSpec)) sandStaysUptoCard

/-- THE SECOND FORM's CARD OF 'garblerlaw25.SandBack'. -/
def sandBackUptoCard : Claim7 := { stood := { row := sandBackUptoRow, standIns := [], harness := (true, "6f5659821d938552eb5c0f7e2b85442659dc0a6dfa84ce62e80ae6ab1864aa31"), looks := true }, kinds := [], alts := [], laidByText := true, laidKinds := [.data, .pinned], laidTests := true, laidLooks := .later }
def SandBackUptoCardSaid : Prop := Claim7.holds Tryz.pinned (.plain (OpenSpec.upto sandBackSpec)) sandBackUptoCard

/-- THE SECOND FORM's CARD OF 'garblerlaw25.SandUndone'. -/
def sandUndoneUptoCard : Claim7 := { stood := { row := sandUndoneUptoRow, standIns := [], harness := (true, "6f5659821d938552eb5c0f7e2b85442659dc0a6dfa84ce62e80ae6ab1864aa31"), looks := true }, kinds := [], alts := [], laidByText := true, laidKinds := [.data, .pinned], laidTests := true, laidLooks := .later }
def SandUndoneUptoCardSaid : Prop := Claim7.holds Tryz.pinned (.plain (OpenSpec.upto sandUndoneSpec)) sandUndoneUptoCard
end Rows
end Go.Proofs.YtjeblccboeljnaaGreatDoor
