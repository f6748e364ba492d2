/-
  DERIVED. GIVEN WITH THE SEED: THE CARDS: each row of YtagoemebklihjaaDoorRows.lean that lists a variable, with what it lists TIED to the program's text (the seventh form; the later family's looks); each row that meets fmt, with fmt's text TOLD by the authors' own Lean function (tested against real Go, not proved from fmt's source: count such statements apart). THE CARD IS WHAT COUNTS. Prove the row's statement (the work); the ties are given (YtagoemebklihjaaDoorTie.lean); close each card by the builder's one call (the guide's Derived/Test/ToyasCard.lean, 'card_holds'). Laid BY PROGRAM, IN A SANDBOX (cutbox-door.mjs). By AI agents, Wed Nov 11 2026. No macro, syntax, notation, axiom, sorry.
-/
import Derived.Test.YtagoemebklihjaaDoorRows
import GoSem.ClaimSeven
namespace Go.Proofs.YtagoemebklihjaaDoor
namespace Rows

/-- THE TIED CARD OF 'garblerlaw19.NamesCleans'. -/
def namesCleansCard : Claim7 := { stood := { row := namesCleansRow, standIns := [], harness := (true, "2342d85b48b5022596be2c073d1dd6a4cefac1739a01af7d6a27404256a471fb"), looks := false }, kinds := [], alts := [], laidByText := true, laidKinds := [.data, .pinned], laidTests := true, laidLooks := .later }
def NamesCleansCardSaid : Prop := Claim7.holds Tryd.pinned (.plain (OpenSpec.ofChange namesCleansSpec)) namesCleansCard

/-- THE TIED CARD OF 'garblerlaw19.NamesSafe'. -/
def namesSafeCard : Claim7 := { stood := { row := namesSafeRow, standIns := [], harness := (true, "2342d85b48b5022596be2c073d1dd6a4cefac1739a01af7d6a27404256a471fb"), looks := false }, kinds := [], alts := [], laidByText := true, laidKinds := [.data, .pinned], laidTests := true, laidLooks := .later }
def NamesSafeCardSaid : Prop := Claim7.holds Tryd.pinned (.plain (OpenSpec.ofChange namesSafeSpec)) namesSafeCard

/-- THE TIED CARD OF 'garblerlaw19.NamesApart'. -/
def namesApartCard : Claim7 := { stood := { row := namesApartRow, standIns := [], harness := (true, "2342d85b48b5022596be2c073d1dd6a4cefac1739a01af7d6a27404256a471fb"), looks := false }, kinds := [], alts := [], laidByText := true, laidKinds := [.data, .pinned], laidTests := true, laidLooks := .later }
def NamesApartCardSaid : Prop := Claim7.holds Tryd.pinned (.plain (OpenSpec.ofChange namesApartSpec)) namesApartCard

/-- THE TIED CARD OF 'garblerlaw19.NamesParts'. -/
def namesPartsCard : Claim7 := { stood := { row := namesPartsRow, standIns := [], harness := (true, "2342d85b48b5022596be2c073d1dd6a4cefac1739a01af7d6a27404256a471fb"), looks := false }, kinds := [], alts := [], laidByText := true, laidKinds := [.data, .pinned], laidTests := true, laidLooks := .later }
def NamesPartsCardSaid : Prop := Claim7.holds Tryd.pinned (.plain (OpenSpec.ofChange namesPartsSpec)) namesPartsCard

/-- THE TIED CARD OF 'garblerlaw19.NamesTexts'. -/
def namesTextsCard : Claim7 := { stood := { row := namesTextsRow, standIns := [], harness := (true, "2342d85b48b5022596be2c073d1dd6a4cefac1739a01af7d6a27404256a471fb"), looks := false }, kinds := [], alts := [], laidByText := true, laidKinds := [.data, .pinned], laidTests := true, laidLooks := .later }
def NamesTextsCardSaid : Prop := Claim7.holds Tryd.pinned (.plain (OpenSpec.ofChange namesTextsSpec)) namesTextsCard

/-- THE TIED CARD OF 'garblerlaw19.NamesBack'. -/
def namesBackCard : Claim7 := { stood := { row := namesBackRow, standIns := [], harness := (true, "2342d85b48b5022596be2c073d1dd6a4cefac1739a01af7d6a27404256a471fb"), looks := false }, kinds := [], alts := [], laidByText := true, laidKinds := [.data, .pinned], laidTests := true, laidLooks := .later }
def NamesBackCardSaid : Prop := Claim7.holds Tryd.pinned (.plain (OpenSpec.ofChange namesBackSpec)) namesBackCard

/-- THE SECOND FORM's CARD OF 'garblerlaw19.NamesCleans'. -/
def namesCleansUptoCard : Claim7 := { stood := { row := namesCleansUptoRow, standIns := [], harness := (true, "2342d85b48b5022596be2c073d1dd6a4cefac1739a01af7d6a27404256a471fb"), looks := false }, kinds := [], alts := [], laidByText := true, laidKinds := [.data, .pinned], laidTests := true, laidLooks := .later }
def NamesCleansUptoCardSaid : Prop := Claim7.holds Tryd.pinned (.plain (OpenSpec.upto namesCleansSpec)) namesCleansUptoCard

/-- THE SECOND FORM's CARD OF 'garblerlaw19.NamesSafe'. -/
def namesSafeUptoCard : Claim7 := { stood := { row := namesSafeUptoRow, standIns := [], harness := (true, "2342d85b48b5022596be2c073d1dd6a4cefac1739a01af7d6a27404256a471fb"), looks := false }, kinds := [], alts := [], laidByText := true, laidKinds := [.data, .pinned], laidTests := true, laidLooks := .later }
def NamesSafeUptoCardSaid : Prop := Claim7.holds Tryd.pinned (.plain (OpenSpec.upto namesSafeSpec)) namesSafeUptoCard

/-- THE SECOND FORM's CARD OF 'garblerlaw19.NamesApart'. -/
def namesApartUptoCard : Claim7 := { stood := { row := namesApartUptoRow, standIns := [], harness := (true, "2342d85b48b5022596be2c073d1dd6a4cefac1739a01af7d6a27404256a471fb"), looks := false }, kinds := [], alts := [], laidByText := true, laidKinds := [.data, .pinned], laidTests := true, laidLooks := .later }
def NamesApartUptoCardSaid : Prop := Claim7.holds Tryd.pinned (.plain (OpenSpec.upto namesApartSpec)) namesApartUptoCard

/-- THE SECOND FORM's CARD OF 'garblerlaw19.NamesParts'. -/
def namesPartsUptoCard : Claim7 := { stood := { row := namesPartsUptoRow, standIns := [], harness := (true, "2342d85b48b5022596be2c073d1dd6a4cefac1739a01af7d6a27404256a471fb"), looks := false }, kinds := [], alts := [], laidByText := true, laidKinds := [.data, .pinned], laidTests := true, laidLooks := .later }
def NamesPartsUptoCardSaid : Prop := Claim7.holds Tryd.pinned (.plain (OpenSpec.upto namesPartsSpec)) namesPartsUptoCard

/-- THE SECOND FORM's CARD OF 'garblerlaw19.NamesTexts'. -/
def namesTextsUptoCard : Claim7 := { stood := { row := namesTextsUptoRow, standIns := [], harness := (true, "2342d85b48b5022596be2c073d1dd6a4cefac1739a01af7d6a27404256a471fb"), looks := false }, kinds := [], alts := [], laidByText := true, laidKinds := [.data, .pinned], laidTests := true, laidLooks := .later }
def NamesTextsUptoCardSaid : Prop := Claim7.holds Tryd.pinned (.plain (OpenSpec.upto namesTextsSpec)) namesTextsUptoCard

/-- THE SECOND FORM's CARD OF 'garblerlaw19.NamesBack'. -/
def namesBackUptoCard : Claim7 := { stood := { row := namesBackUptoRow, standIns := [], harness := (true, "2342d85b48b5022596be2c073d1dd6a4cefac1739a01af7d6a27404256a471fb"), looks := false }, kinds := [], alts := [], laidByText := true, laidKinds := [.data, .pinned], laidTests := true, laidLooks := .later }
def NamesBackUptoCardSaid : Prop := Claim7.holds Tryd.pinned (.plain (OpenSpec.upto namesBackSpec)) namesBackUptoCard
end Rows
end Go.Proofs.YtagoemebklihjaaDoor
