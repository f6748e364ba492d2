/-
  NARROWER THAN 'FOR EVERY INPUT', by the rows' own cells (each row's printed sentence says how): NamesCleans: laid · NamesSafe: laid · NamesApart: laid · NamesParts: laid · NamesTexts: laid · NamesBack: laid.
  DERIVED. THE GIVEN ROWS OF THIS SEAT. 6 by the template 'for every input the law returns true; each argument reads behind the call as it read before'; 0 by the template 'total and deterministic' (their statements: YtagoemebklihjaaDoorTotals.lean).
  GIVEN WITH THE SEED: the statements are not yours to turn. If you find one false, say at which input.
  Laid BY PROGRAM, IN A SANDBOX (cutbox-rows.mjs): the forced cells as the released guide's own fill.sh prints them over the translation 9faf3272b19e2912… (all of the seat's roots in one cut). By AI agents, Wed Nov 11 2026. No macro, syntax, notation, axiom, sorry.
-/
import Derived.Test.YtagoemebklihjaaDoorChecked
import GoSem.PinnedTables
import GoSem.Claim
import GoSem.ClaimJoined
import GoSem.ClaimMapViews
import Derived.JoinedTies
import Derived.KernelRfl
namespace Go.Proofs.YtagoemebklihjaaDoor
/- THE CELL 'sum', in the pinned program and in every row, IS THE sha256 OF THE DUMP (.gsa) THAT YtagoemebklihjaaDoorProg.lean LOADS. Nothing in Lean hashes anything: it is a label: what it is worth is what the hold of that sum in a sandbox is worth. -/
noncomputable def Tryd.pinned : Pinned := { name := "ytagoemebklihjaadoor", sum := "9faf3272b19e2912ebbf89a39f630065d4a03946f1e5992af9cf1396ea3193a8", checked := Tryd.checked }
namespace Rows
def none {H : Type} : Left H := { results := [], args := [] }

/- WHAT THE LISTED PACKAGE-LEVEL VARIABLES READ AS WHEN THE CALL BEGINS. Each datum BY PROGRAM (the guide's laid-datum.mjs) off the statement by which the dump's own 'gosem.cut.vars' lays the variable. In a bare row this is a premise. The card (YtagoemebklihjaaDoorCards.lean) ties it to the program's text. -/
def laid_unicode_utf8_acceptRanges {H : Type} : DataW H := .agg [.agg [.lit (.int .u8 128), .lit (.int .u8 191)], .agg [.lit (.int .u8 160), .lit (.int .u8 191)], .agg [.lit (.int .u8 128), .lit (.int .u8 159)], .agg [.lit (.int .u8 144), .lit (.int .u8 191)], .agg [.lit (.int .u8 128), .lit (.int .u8 143)], .agg [.lit (.int .u8 0), .lit (.int .u8 0)], .agg [.lit (.int .u8 0), .lit (.int .u8 0)], .agg [.lit (.int .u8 0), .lit (.int .u8 0)], .agg [.lit (.int .u8 0), .lit (.int .u8 0)], .agg [.lit (.int .u8 0), .lit (.int .u8 0)], .agg [.lit (.int .u8 0), .lit (.int .u8 0)], .agg [.lit (.int .u8 0), .lit (.int .u8 0)], .agg [.lit (.int .u8 0), .lit (.int .u8 0)], .agg [.lit (.int .u8 0), .lit (.int .u8 0)], .agg [.lit (.int .u8 0), .lit (.int .u8 0)], .agg [.lit (.int .u8 0), .lit (.int .u8 0)]]
/-- One of Go's own tables, pinned by name: the form's constant. -/
def laid_unicode_utf8_first : DataW Unit := Go.Pinned.utf8First

/-- 'garblerlaw19.NamesCleans': WHATEVER THE INPUT: true; the input reads as it did. -/
def namesCleansSpec : ChangeSpec := { name := "namesCleans", fn := fun _ => fun
  | [d] => { results := [.lit (.bool true)], args := [d] }
  | _ => none }
def namesCleansRow : OpenClaim := { program := "ytagoemebklihjaadoor", sum := "9faf3272b19e2912ebbf89a39f630065d4a03946f1e5992af9cf1396ea3193a8", func := "garbler/garblerlaw19.NamesCleans", spec := "namesCleans", inPlace := ["internal/bytealg.CountString", "internal/bytealg.IndexByteString", "internal/bytealg.IndexString", "internal/abi.NoEscape", "internal/bytealg.MakeNoZero"], named := ["unicode/utf8.first", "unicode/utf8.acceptRanges", "internal/bytealg.MaxLen"], apart := false, laid := [("unicode/utf8.acceptRanges", laid_unicode_utf8_acceptRanges), ("unicode/utf8.first", laid_unicode_utf8_first)] }
def NamesCleansSaid : Prop := namesCleansRow.holds Tryd.pinned (OpenSpec.ofChange namesCleansSpec)

/-- ITS FALSE NEIGHBOUR: 'it returns false'. Refute it at one input. -/
def namesCleansWrong : ChangeSpec := { name := "namesCleans", fn := fun _ => fun
  | [d] => { results := [.lit (.bool false)], args := [d] }
  | _ => none }
def NamesCleansWrongFalsely : Prop := namesCleansRow.holds Tryd.pinned (OpenSpec.ofChange namesCleansWrong)

/-- 'garblerlaw19.NamesSafe': WHATEVER THE INPUT: true; the input reads as it did. -/
def namesSafeSpec : ChangeSpec := { name := "namesSafe", fn := fun _ => fun
  | [d] => { results := [.lit (.bool true)], args := [d] }
  | _ => none }
def namesSafeRow : OpenClaim := { program := "ytagoemebklihjaadoor", sum := "9faf3272b19e2912ebbf89a39f630065d4a03946f1e5992af9cf1396ea3193a8", func := "garbler/garblerlaw19.NamesSafe", spec := "namesSafe", inPlace := ["internal/bytealg.CountString", "internal/bytealg.IndexByteString", "internal/bytealg.IndexString", "internal/abi.NoEscape", "internal/bytealg.MakeNoZero"], named := ["unicode/utf8.first", "unicode/utf8.acceptRanges", "internal/bytealg.MaxLen"], apart := false, laid := [("unicode/utf8.acceptRanges", laid_unicode_utf8_acceptRanges), ("unicode/utf8.first", laid_unicode_utf8_first)] }
def NamesSafeSaid : Prop := namesSafeRow.holds Tryd.pinned (OpenSpec.ofChange namesSafeSpec)

/-- ITS FALSE NEIGHBOUR: 'it returns false'. Refute it at one input. -/
def namesSafeWrong : ChangeSpec := { name := "namesSafe", fn := fun _ => fun
  | [d] => { results := [.lit (.bool false)], args := [d] }
  | _ => none }
def NamesSafeWrongFalsely : Prop := namesSafeRow.holds Tryd.pinned (OpenSpec.ofChange namesSafeWrong)

/-- 'garblerlaw19.NamesApart': WHATEVER THE INPUT: true; the input reads as it did. -/
def namesApartSpec : ChangeSpec := { name := "namesApart", fn := fun _ => fun
  | [d] => { results := [.lit (.bool true)], args := [d] }
  | _ => none }
def namesApartRow : OpenClaim := { program := "ytagoemebklihjaadoor", sum := "9faf3272b19e2912ebbf89a39f630065d4a03946f1e5992af9cf1396ea3193a8", func := "garbler/garblerlaw19.NamesApart", spec := "namesApart", inPlace := ["internal/bytealg.CountString", "internal/bytealg.IndexByteString", "internal/bytealg.IndexString", "internal/abi.NoEscape", "internal/bytealg.MakeNoZero"], named := ["unicode/utf8.first", "unicode/utf8.acceptRanges", "internal/bytealg.MaxLen"], apart := false, laid := [("unicode/utf8.acceptRanges", laid_unicode_utf8_acceptRanges), ("unicode/utf8.first", laid_unicode_utf8_first)] }
def NamesApartSaid : Prop := namesApartRow.holds Tryd.pinned (OpenSpec.ofChange namesApartSpec)

/-- ITS FALSE NEIGHBOUR: 'it returns false'. Refute it at one input. -/
def namesApartWrong : ChangeSpec := { name := "namesApart", fn := fun _ => fun
  | [d] => { results := [.lit (.bool false)], args := [d] }
  | _ => none }
def NamesApartWrongFalsely : Prop := namesApartRow.holds Tryd.pinned (OpenSpec.ofChange namesApartWrong)

/-- 'garblerlaw19.NamesParts': WHATEVER THE INPUT: true; the input reads as it did. -/
def namesPartsSpec : ChangeSpec := { name := "namesParts", fn := fun _ => fun
  | [d] => { results := [.lit (.bool true)], args := [d] }
  | _ => none }
def namesPartsRow : OpenClaim := { program := "ytagoemebklihjaadoor", sum := "9faf3272b19e2912ebbf89a39f630065d4a03946f1e5992af9cf1396ea3193a8", func := "garbler/garblerlaw19.NamesParts", spec := "namesParts", inPlace := ["internal/bytealg.CountString", "internal/bytealg.IndexByteString", "internal/bytealg.IndexString", "internal/abi.NoEscape", "internal/bytealg.MakeNoZero"], named := ["unicode/utf8.first", "unicode/utf8.acceptRanges", "internal/bytealg.MaxLen"], apart := false, laid := [("unicode/utf8.acceptRanges", laid_unicode_utf8_acceptRanges), ("unicode/utf8.first", laid_unicode_utf8_first)] }
def NamesPartsSaid : Prop := namesPartsRow.holds Tryd.pinned (OpenSpec.ofChange namesPartsSpec)

/-- ITS FALSE NEIGHBOUR: 'it returns false'. Refute it at one input. -/
def namesPartsWrong : ChangeSpec := { name := "namesParts", fn := fun _ => fun
  | [d] => { results := [.lit (.bool false)], args := [d] }
  | _ => none }
def NamesPartsWrongFalsely : Prop := namesPartsRow.holds Tryd.pinned (OpenSpec.ofChange namesPartsWrong)

/-- 'garblerlaw19.NamesTexts': WHATEVER THE INPUT: true; the input reads as it did. -/
def namesTextsSpec : ChangeSpec := { name := "namesTexts", fn := fun _ => fun
  | [d1, d2] => { results := [.lit (.bool true)], args := [d1, d2] }
  | _ => none }
def namesTextsRow : OpenClaim := { program := "ytagoemebklihjaadoor", sum := "9faf3272b19e2912ebbf89a39f630065d4a03946f1e5992af9cf1396ea3193a8", func := "garbler/garblerlaw19.NamesTexts", spec := "namesTexts", inPlace := ["internal/bytealg.CountString", "internal/bytealg.IndexByteString", "internal/bytealg.IndexString", "internal/abi.NoEscape", "internal/bytealg.MakeNoZero"], named := ["unicode/utf8.first", "unicode/utf8.acceptRanges", "internal/bytealg.MaxLen"], apart := false, laid := [("unicode/utf8.acceptRanges", laid_unicode_utf8_acceptRanges), ("unicode/utf8.first", laid_unicode_utf8_first)] }
def NamesTextsSaid : Prop := namesTextsRow.holds Tryd.pinned (OpenSpec.ofChange namesTextsSpec)

/-- ITS FALSE NEIGHBOUR: 'it returns false'. Refute it at one input. -/
def namesTextsWrong : ChangeSpec := { name := "namesTexts", fn := fun _ => fun
  | [d1, d2] => { results := [.lit (.bool false)], args := [d1, d2] }
  | _ => none }
def NamesTextsWrongFalsely : Prop := namesTextsRow.holds Tryd.pinned (OpenSpec.ofChange namesTextsWrong)

/-- 'garblerlaw19.NamesBack': WHATEVER THE INPUT: true; the input reads as it did. -/
def namesBackSpec : ChangeSpec := { name := "namesBack", fn := fun _ => fun
  | [d1, d2] => { results := [.lit (.bool true)], args := [d1, d2] }
  | _ => none }
def namesBackRow : OpenClaim := { program := "ytagoemebklihjaadoor", sum := "9faf3272b19e2912ebbf89a39f630065d4a03946f1e5992af9cf1396ea3193a8", func := "garbler/garblerlaw19.NamesBack", spec := "namesBack", inPlace := ["internal/bytealg.CountString", "internal/bytealg.IndexByteString", "internal/bytealg.IndexString", "internal/abi.NoEscape", "internal/bytealg.MakeNoZero"], named := ["unicode/utf8.first", "unicode/utf8.acceptRanges", "internal/bytealg.MaxLen"], apart := false, laid := [("unicode/utf8.acceptRanges", laid_unicode_utf8_acceptRanges), ("unicode/utf8.first", laid_unicode_utf8_first)] }
def NamesBackSaid : Prop := namesBackRow.holds Tryd.pinned (OpenSpec.ofChange namesBackSpec)

/-- ITS FALSE NEIGHBOUR: 'it returns false'. Refute it at one input. -/
def namesBackWrong : ChangeSpec := { name := "namesBack", fn := fun _ => fun
  | [d1, d2] => { results := [.lit (.bool false)], args := [d1, d2] }
  | _ => none }
def NamesBackWrongFalsely : Prop := namesBackRow.holds Tryd.pinned (OpenSpec.ofChange namesBackWrong)

/- THE SECOND FORM. 'bulk': how many values and letters a reading holds, each counted each time it is reached (what is shared counts as often as it is met; a slice's spare places count too). A statement '..UptoSaid' is the law's where the arguments, and the package variables that the reading takes, are together of bulk at most 1048576: NARROWER than '..Said'. Prove '..Said' where nothing that the law and all that it calls make is longer than what came in: it says more and counts as full. Else prove '..UptoSaid'. A law counts once. -/
mutual
def uptoBulk {H : Type} : DataW H → Nat
  | .lit (.string bytes) => bytes.length + 1
  | .lit _ => 1
  | .nil => 1
  | .ptr d => uptoBulk d + 1
  | .slice elems spare => uptoBulkAll elems + uptoBulkAll spare + 1
  | .agg parts => uptoBulkAll parts + 1
  | .iface _ d => uptoBulk d + 1
  | .map entries => uptoBulkEntries entries + 1
  | .held _ => 1
def uptoBulkAll {H : Type} : List (DataW H) → Nat
  | [] => 0
  | d :: r => uptoBulk d + uptoBulkAll r
def uptoBulkEntries {H : Type} : List (Lit × DataW H) → Nat
  | [] => 0
  | x :: r => uptoBulkEntry x + uptoBulkEntries r
def uptoBulkEntry {H : Type} : Lit × DataW H → Nat
  | (.string bytes, d) => bytes.length + uptoBulk d + 1
  | (_, d) => uptoBulk d + 1
 end
def uptoSmall : (H : Type) → List (DataW H) → Bool := fun _ ds => decide (uptoBulkAll ds ≤ 1048576)
def OpenSpec.upto (s : _root_.Go.ChangeSpec) : _root_.Go.OpenSpec := { _root_.Go.OpenSpec.ofChange s with cond := some uptoSmall }

/-- 'garblerlaw19.NamesCleans', WHERE WHAT IT READS IS OF BULK AT MOST 1048576: true; the input reads as it did. -/
def namesCleansUptoRow : OpenClaim := { program := "ytagoemebklihjaadoor", sum := "9faf3272b19e2912ebbf89a39f630065d4a03946f1e5992af9cf1396ea3193a8", func := "garbler/garblerlaw19.NamesCleans", spec := "namesCleans", inPlace := ["internal/bytealg.CountString", "internal/bytealg.IndexByteString", "internal/bytealg.IndexString", "internal/abi.NoEscape", "internal/bytealg.MakeNoZero"], named := ["unicode/utf8.first", "unicode/utf8.acceptRanges", "internal/bytealg.MaxLen"], apart := false, laid := [("unicode/utf8.acceptRanges", laid_unicode_utf8_acceptRanges), ("unicode/utf8.first", laid_unicode_utf8_first)], narrowed := true }
def NamesCleansUptoSaid : Prop := namesCleansUptoRow.holds Tryd.pinned (OpenSpec.upto namesCleansSpec)

/-- 'garblerlaw19.NamesSafe', WHERE WHAT IT READS IS OF BULK AT MOST 1048576: true; the input reads as it did. -/
def namesSafeUptoRow : OpenClaim := { program := "ytagoemebklihjaadoor", sum := "9faf3272b19e2912ebbf89a39f630065d4a03946f1e5992af9cf1396ea3193a8", func := "garbler/garblerlaw19.NamesSafe", spec := "namesSafe", inPlace := ["internal/bytealg.CountString", "internal/bytealg.IndexByteString", "internal/bytealg.IndexString", "internal/abi.NoEscape", "internal/bytealg.MakeNoZero"], named := ["unicode/utf8.first", "unicode/utf8.acceptRanges", "internal/bytealg.MaxLen"], apart := false, laid := [("unicode/utf8.acceptRanges", laid_unicode_utf8_acceptRanges), ("unicode/utf8.first", laid_unicode_utf8_first)], narrowed := true }
def NamesSafeUptoSaid : Prop := namesSafeUptoRow.holds Tryd.pinned (OpenSpec.upto namesSafeSpec)

/-- 'garblerlaw19.NamesApart', WHERE WHAT IT READS IS OF BULK AT MOST 1048576: true; the input reads as it did. -/
def namesApartUptoRow : OpenClaim := { program := "ytagoemebklihjaadoor", sum := "9faf3272b19e2912ebbf89a39f630065d4a03946f1e5992af9cf1396ea3193a8", func := "garbler/garblerlaw19.NamesApart", spec := "namesApart", inPlace := ["internal/bytealg.CountString", "internal/bytealg.IndexByteString", "internal/bytealg.IndexString", "internal/abi.NoEscape", "internal/bytealg.MakeNoZero"], named := ["unicode/utf8.first", "unicode/utf8.acceptRanges", "internal/bytealg.MaxLen"], apart := false, laid := [("unicode/utf8.acceptRanges", laid_unicode_utf8_acceptRanges), ("unicode/utf8.first", laid_unicode_utf8_first)], narrowed := true }
def NamesApartUptoSaid : Prop := namesApartUptoRow.holds Tryd.pinned (OpenSpec.upto namesApartSpec)

/-- 'garblerlaw19.NamesParts', WHERE WHAT IT READS IS OF BULK AT MOST 1048576: true; the input reads as it did. -/
def namesPartsUptoRow : OpenClaim := { program := "ytagoemebklihjaadoor", sum := "9faf3272b19e2912ebbf89a39f630065d4a03946f1e5992af9cf1396ea3193a8", func := "garbler/garblerlaw19.NamesParts", spec := "namesParts", inPlace := ["internal/bytealg.CountString", "internal/bytealg.IndexByteString", "internal/bytealg.IndexString", "internal/abi.NoEscape", "internal/bytealg.MakeNoZero"], named := ["unicode/utf8.first", "unicode/utf8.acceptRanges", "internal/bytealg.MaxLen"], apart := false, laid := [("unicode/utf8.acceptRanges", laid_unicode_utf8_acceptRanges), ("unicode/utf8.first", laid_unicode_utf8_first)], narrowed := true }
def NamesPartsUptoSaid : Prop := namesPartsUptoRow.holds Tryd.pinned (OpenSpec.upto namesPartsSpec)

/-- 'garblerlaw19.NamesTexts', WHERE WHAT IT READS IS OF BULK AT MOST 1048576: true; the input reads as it did. -/
def namesTextsUptoRow : OpenClaim := { program := "ytagoemebklihjaadoor", sum := "9faf3272b19e2912ebbf89a39f630065d4a03946f1e5992af9cf1396ea3193a8", func := "garbler/garblerlaw19.NamesTexts", spec := "namesTexts", inPlace := ["internal/bytealg.CountString", "internal/bytealg.IndexByteString", "internal/bytealg.IndexString", "internal/abi.NoEscape", "internal/bytealg.MakeNoZero"], named := ["unicode/utf8.first", "unicode/utf8.acceptRanges", "internal/bytealg.MaxLen"], apart := false, laid := [("unicode/utf8.acceptRanges", laid_unicode_utf8_acceptRanges), ("unicode/utf8.first", laid_unicode_utf8_first)], narrowed := true }
def NamesTextsUptoSaid : Prop := namesTextsUptoRow.holds Tryd.pinned (OpenSpec.upto namesTextsSpec)

/-- 'garblerlaw19.NamesBack', WHERE WHAT IT READS IS OF BULK AT MOST 1048576: true; the input reads as it did. -/
def namesBackUptoRow : OpenClaim := { program := "ytagoemebklihjaadoor", sum := "9faf3272b19e2912ebbf89a39f630065d4a03946f1e5992af9cf1396ea3193a8", func := "garbler/garblerlaw19.NamesBack", spec := "namesBack", inPlace := ["internal/bytealg.CountString", "internal/bytealg.IndexByteString", "internal/bytealg.IndexString", "internal/abi.NoEscape", "internal/bytealg.MakeNoZero"], named := ["unicode/utf8.first", "unicode/utf8.acceptRanges", "internal/bytealg.MaxLen"], apart := false, laid := [("unicode/utf8.acceptRanges", laid_unicode_utf8_acceptRanges), ("unicode/utf8.first", laid_unicode_utf8_first)], narrowed := true }
def NamesBackUptoSaid : Prop := namesBackUptoRow.holds Tryd.pinned (OpenSpec.upto namesBackSpec)

end Rows
end Go.Proofs.YtagoemebklihjaaDoor
