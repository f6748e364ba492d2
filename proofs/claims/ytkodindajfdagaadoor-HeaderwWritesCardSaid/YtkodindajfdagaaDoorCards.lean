/-
  DERIVED. GIVEN WITH THE SEED: THE CARDS: each row of YtkodindajfdagaaDoorRows.lean that lists a variable, with what it lists TIED to the program's text (the seventh form; the later family's looks); each row that meets fmt, with fmt's text TOLD by the authors' own Lean function (tested against real Go, not proved from fmt's source: count such statements apart). THE CARD IS WHAT COUNTS. Prove the row's statement (the work); the ties are given (YtkodindajfdagaaDoorTie.lean); close each card by the builder's one call (the guide's Derived/Test/ToyasCard.lean, 'card_holds'). Laid BY PROGRAM, IN A SANDBOX (cutbox-door.mjs). By AI agents, Wed Nov 11 2026. No macro, syntax, notation, axiom, sorry.
-/
import Derived.Test.YtkodindajfdagaaDoorRows
import GoSem.ClaimSeven
namespace Go.Proofs.YtkodindajfdagaaDoor
namespace Rows

/-- THE TIED CARD OF 'garblerlaw21.HeaderwWrites'. -/
def headerwWritesCard : Claim7 := { stood := { row := headerwWritesRow, standIns := [], harness := (true, "748460ca126f4555bc9bdc70664664de6e06ce03cc0018776e821bfc6408b94b"), looks := false }, kinds := [], alts := [], laidByText := true, laidKinds := [.data, .pinned], laidTests := true, laidLooks := .later }
def HeaderwWritesCardSaid : Prop := Claim7.holds Tryd.pinned (.plain (OpenSpec.ofChange headerwWritesSpec)) headerwWritesCard

/-- THE SECOND FORM's CARD OF 'garblerlaw21.HeaderwWrites'. -/
def headerwWritesUptoCard : Claim7 := { stood := { row := headerwWritesUptoRow, standIns := [], harness := (true, "748460ca126f4555bc9bdc70664664de6e06ce03cc0018776e821bfc6408b94b"), looks := false }, kinds := [], alts := [], laidByText := true, laidKinds := [.data, .pinned], laidTests := true, laidLooks := .later }
def HeaderwWritesUptoCardSaid : Prop := Claim7.holds Tryd.pinned (.plain (OpenSpec.upto headerwWritesSpec)) headerwWritesUptoCard
end Rows
end Go.Proofs.YtkodindajfdagaaDoor
