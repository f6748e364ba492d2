/-
  DERIVED. GIVEN WITH THE SEED: THE CARDS: each row of YtcnangcbffoabaaGreatDoorRows.lean that lists a variable, with what it lists TIED to the program's text (the seventh form; the later family's looks); each row that meets fmt, with fmt's text TOLD by the authors' own Lean function (tested against real Go, not proved from fmt's source: count such statements apart). THE CARD IS WHAT COUNTS. Prove the row's statement (the work); the ties are given (YtcnangcbffoabaaGreatDoorTie.lean); close each card by the builder's one call (the guide's Derived/Test/ToyasCard.lean, 'card_holds'). Laid BY PROGRAM, IN A SANDBOX (cutbox-door.mjs). By AI agents, Wed Nov 11 2026. No macro, syntax, notation, axiom, sorry.
-/
import Derived.Test.YtcnangcbffoabaaGreatDoorRows
import GoSem.ClaimSeven
namespace Go.Proofs.YtcnangcbffoabaaGreatDoor
namespace Rows

/-- THE TIED CARD OF 'garblerlaw24.BookMagic'. -/
def bookMagicCard : Claim7 := { stood := { row := bookMagicRow, standIns := [], harness := (true, "41aa968a0bd77bde1720917fab8a40e6be3530bb06995efecc07688dec452483"), looks := false }, kinds := [], alts := [], laidByText := true, laidKinds := [.data, .pinned], laidTests := true, laidLooks := .later }
def BookMagicCardSaid : Prop := Claim7.holds Tryz.pinned (.plain (OpenSpec.ofChange bookMagicSpec)) bookMagicCard

/-- THE SECOND FORM's CARD OF 'garblerlaw24.BookMagic'. -/
def bookMagicUptoCard : Claim7 := { stood := { row := bookMagicUptoRow, standIns := [], harness := (true, "41aa968a0bd77bde1720917fab8a40e6be3530bb06995efecc07688dec452483"), looks := false }, kinds := [], alts := [], laidByText := true, laidKinds := [.data, .pinned], laidTests := true, laidLooks := .later }
def BookMagicUptoCardSaid : Prop := Claim7.holds Tryz.pinned (.plain (OpenSpec.upto bookMagicSpec)) bookMagicUptoCard
end Rows
end Go.Proofs.YtcnangcbffoabaaGreatDoor
