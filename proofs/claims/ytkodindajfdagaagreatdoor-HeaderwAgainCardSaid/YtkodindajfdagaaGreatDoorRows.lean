/-
  NARROWER THAN 'FOR EVERY INPUT', by the rows' own cells (each row's printed sentence says how): HeaderwSeals: laid · HeaderwBack: laid · HeaderwAgain: laid · HeaderwNames: laid.
  DERIVED. THE GIVEN ROWS OF THIS SEAT. 4 by the template 'for every input the law returns true; each argument reads behind the call as it read before'; 0 by the template 'total and deterministic' (their statements: YtkodindajfdagaaGreatDoorTotals.lean).
  GIVEN WITH THE SEED: the statements are not yours to turn. If you find one false, say at which input.
  Laid BY PROGRAM, IN A SANDBOX (cutbox-rows.mjs): the forced cells as the released guide's own fill.sh prints them over the translation 0fc9e10c6162a00b… (all of the seat's roots in one cut). By AI agents, Wed Nov 11 2026. No macro, syntax, notation, axiom, sorry.
-/
import Derived.Test.YtkodindajfdagaaGreatDoorChecked
import GoSem.PinnedTables
import GoSem.Claim
import GoSem.ClaimJoined
import GoSem.ClaimMapViews
import Derived.JoinedTies
import Derived.KernelRfl
namespace Go.Proofs.YtkodindajfdagaaGreatDoor
/- THE CELL 'sum', in the pinned program and in every row, IS THE sha256 OF THE DUMP (.gsa) THAT YtkodindajfdagaaGreatDoorProg.lean LOADS. Nothing in Lean hashes anything: it is a label: what it is worth is what the hold of that sum in a sandbox is worth. -/
noncomputable def Tryz.pinned : Pinned := { name := "ytkodindajfdagaagreatdoor", sum := "0fc9e10c6162a00bb876b5b822699c98cd089ca26a7af6e9dd3e082113cce5cb", checked := Tryz.checked }
namespace Rows
def none {H : Type} : Left H := { results := [], args := [] }

/- WHAT THE LISTED PACKAGE-LEVEL VARIABLES READ AS WHEN THE CALL BEGINS. Each datum BY PROGRAM (the guide's laid-datum.mjs) off the statement by which the dump's own 'gosem.cut.vars' lays the variable. In a bare row this is a premise. The card (YtkodindajfdagaaGreatDoorCards.lean) ties it to the program's text. -/
def laid_unicode_utf8_acceptRanges {H : Type} : DataW H := .agg [.agg [.lit (.int .u8 128), .lit (.int .u8 191)], .agg [.lit (.int .u8 160), .lit (.int .u8 191)], .agg [.lit (.int .u8 128), .lit (.int .u8 159)], .agg [.lit (.int .u8 144), .lit (.int .u8 191)], .agg [.lit (.int .u8 128), .lit (.int .u8 143)], .agg [.lit (.int .u8 0), .lit (.int .u8 0)], .agg [.lit (.int .u8 0), .lit (.int .u8 0)], .agg [.lit (.int .u8 0), .lit (.int .u8 0)], .agg [.lit (.int .u8 0), .lit (.int .u8 0)], .agg [.lit (.int .u8 0), .lit (.int .u8 0)], .agg [.lit (.int .u8 0), .lit (.int .u8 0)], .agg [.lit (.int .u8 0), .lit (.int .u8 0)], .agg [.lit (.int .u8 0), .lit (.int .u8 0)], .agg [.lit (.int .u8 0), .lit (.int .u8 0)], .agg [.lit (.int .u8 0), .lit (.int .u8 0)], .agg [.lit (.int .u8 0), .lit (.int .u8 0)]]
/-- One of Go's own tables, pinned by name: the form's constant. -/
def laid_unicode_utf8_first : DataW Unit := Go.Pinned.utf8First

/-- 'garblerlaw21.HeaderwSeals': WHATEVER THE INPUT: true; the input reads as it did. -/
def headerwSealsSpec : ChangeSpec := { name := "headerwSeals", fn := fun _ => fun
  | [d1, d2, d3] => { results := [.lit (.bool true)], args := [d1, d2, d3] }
  | _ => none }
def headerwSealsRow : OpenClaim := { program := "ytkodindajfdagaagreatdoor", sum := "0fc9e10c6162a00bb876b5b822699c98cd089ca26a7af6e9dd3e082113cce5cb", func := "garbler/garblerlaw21.HeaderwSeals", spec := "headerwSeals", inPlace := ["internal/bytealg.IndexByteString", "sync/atomic.LoadUint32", "(*internal/sync.Mutex).Lock", "internal/race.Disable", "sync/atomic.CompareAndSwapInt32", "internal/race.Enable", "internal/race.Acquire", "(*internal/sync.Mutex).lockSlow", "internal/sync.runtime_canSpin", "internal/sync.runtime_doSpin", "internal/sync.throw", "internal/sync.runtime_nanotime", "internal/sync.runtime_SemacquireMutex", "sync/atomic.AddInt32", "(*internal/sync.Mutex).Unlock", "internal/race.ReleaseMerge", "(*internal/sync.Mutex).unlockSlow", "internal/sync.fatal", "internal/sync.runtime_Semrelease", "sync/atomic.StoreUint32"], unfollowed := true, recurses := true, named := ["unicode/utf8.first", "unicode/utf8.acceptRanges"], apart := false, laid := [("unicode/utf8.acceptRanges", laid_unicode_utf8_acceptRanges), ("unicode/utf8.first", laid_unicode_utf8_first)] }
def HeaderwSealsSaid : Prop := headerwSealsRow.holds Tryz.pinned (OpenSpec.ofChange headerwSealsSpec)

/-- ITS FALSE NEIGHBOUR: 'it returns false'. Refute it at one input. -/
def headerwSealsWrong : ChangeSpec := { name := "headerwSeals", fn := fun _ => fun
  | [d1, d2, d3] => { results := [.lit (.bool false)], args := [d1, d2, d3] }
  | _ => none }
def HeaderwSealsWrongFalsely : Prop := headerwSealsRow.holds Tryz.pinned (OpenSpec.ofChange headerwSealsWrong)

/-- 'garblerlaw21.HeaderwBack': WHATEVER THE INPUT: true; the input reads as it did. -/
def headerwBackSpec : ChangeSpec := { name := "headerwBack", fn := fun _ => fun
  | [d] => { results := [.lit (.bool true)], args := [d] }
  | _ => none }
def headerwBackRow : OpenClaim := { program := "ytkodindajfdagaagreatdoor", sum := "0fc9e10c6162a00bb876b5b822699c98cd089ca26a7af6e9dd3e082113cce5cb", func := "garbler/garblerlaw21.HeaderwBack", spec := "headerwBack", inPlace := ["internal/bytealg.IndexByteString"], unfollowed := true, recurses := true, named := ["unicode/utf8.first", "unicode/utf8.acceptRanges"], apart := false, laid := [("unicode/utf8.acceptRanges", laid_unicode_utf8_acceptRanges), ("unicode/utf8.first", laid_unicode_utf8_first)] }
def HeaderwBackSaid : Prop := headerwBackRow.holds Tryz.pinned (OpenSpec.ofChange headerwBackSpec)

/-- ITS FALSE NEIGHBOUR: 'it returns false'. Refute it at one input. -/
def headerwBackWrong : ChangeSpec := { name := "headerwBack", fn := fun _ => fun
  | [d] => { results := [.lit (.bool false)], args := [d] }
  | _ => none }
def HeaderwBackWrongFalsely : Prop := headerwBackRow.holds Tryz.pinned (OpenSpec.ofChange headerwBackWrong)

/-- 'garblerlaw21.HeaderwAgain': WHATEVER THE INPUT: true; the input reads as it did. -/
def headerwAgainSpec : ChangeSpec := { name := "headerwAgain", fn := fun _ => fun
  | [d] => { results := [.lit (.bool true)], args := [d] }
  | _ => none }
def headerwAgainRow : OpenClaim := { program := "ytkodindajfdagaagreatdoor", sum := "0fc9e10c6162a00bb876b5b822699c98cd089ca26a7af6e9dd3e082113cce5cb", func := "garbler/garblerlaw21.HeaderwAgain", spec := "headerwAgain", inPlace := ["internal/bytealg.IndexByteString"], unfollowed := true, recurses := true, named := ["unicode/utf8.first", "unicode/utf8.acceptRanges"], apart := false, laid := [("unicode/utf8.acceptRanges", laid_unicode_utf8_acceptRanges), ("unicode/utf8.first", laid_unicode_utf8_first)] }
def HeaderwAgainSaid : Prop := headerwAgainRow.holds Tryz.pinned (OpenSpec.ofChange headerwAgainSpec)

/-- ITS FALSE NEIGHBOUR: 'it returns false'. Refute it at one input. -/
def headerwAgainWrong : ChangeSpec := { name := "headerwAgain", fn := fun _ => fun
  | [d] => { results := [.lit (.bool false)], args := [d] }
  | _ => none }
def HeaderwAgainWrongFalsely : Prop := headerwAgainRow.holds Tryz.pinned (OpenSpec.ofChange headerwAgainWrong)

/-- 'garblerlaw21.HeaderwNames': WHATEVER THE INPUT: true; the input reads as it did. -/
def headerwNamesSpec : ChangeSpec := { name := "headerwNames", fn := fun _ => fun
  | [d1, d2] => { results := [.lit (.bool true)], args := [d1, d2] }
  | _ => none }
def headerwNamesRow : OpenClaim := { program := "ytkodindajfdagaagreatdoor", sum := "0fc9e10c6162a00bb876b5b822699c98cd089ca26a7af6e9dd3e082113cce5cb", func := "garbler/garblerlaw21.HeaderwNames", spec := "headerwNames", inPlace := ["internal/bytealg.IndexByteString"], unfollowed := true, recurses := true, named := ["unicode/utf8.first", "unicode/utf8.acceptRanges"], apart := false, laid := [("unicode/utf8.acceptRanges", laid_unicode_utf8_acceptRanges), ("unicode/utf8.first", laid_unicode_utf8_first)] }
def HeaderwNamesSaid : Prop := headerwNamesRow.holds Tryz.pinned (OpenSpec.ofChange headerwNamesSpec)

/-- ITS FALSE NEIGHBOUR: 'it returns false'. Refute it at one input. -/
def headerwNamesWrong : ChangeSpec := { name := "headerwNames", fn := fun _ => fun
  | [d1, d2] => { results := [.lit (.bool false)], args := [d1, d2] }
  | _ => none }
def HeaderwNamesWrongFalsely : Prop := headerwNamesRow.holds Tryz.pinned (OpenSpec.ofChange headerwNamesWrong)

/- THE SECOND FORM. 'bulk': how many values and letters a reading holds, each counted each time it is reached (what is shared counts as often as it is met; a slice's spare places count too). A statement '..UptoSaid' is the law's where the arguments, and the package variables that the reading takes, are together of bulk at most 1048576: NARROWER than '..Said'. Prove '..Said' where nothing that the law and all that it calls make is longer than what came in: it says more and counts as full. Else prove '..UptoSaid'. A law counts once. -/
mutual
def uptoBulk {H : Type} : DataW H → Nat
  | .lit (.string bytes) => bytes.length + 1
  | .lit _ => 1
  | .nil => 1
  | .ptr d => uptoBulk d + 1
  | .slice elems spare => uptoBulkAll elems + uptoBulkAll spare + 1
  | .agg parts => uptoBulkAll parts + 1
  | .iface _ d => uptoBulk d + 1
  | .map entries => uptoBulkEntries entries + 1
  | .held _ => 1
def uptoBulkAll {H : Type} : List (DataW H) → Nat
  | [] => 0
  | d :: r => uptoBulk d + uptoBulkAll r
def uptoBulkEntries {H : Type} : List (Lit × DataW H) → Nat
  | [] => 0
  | x :: r => uptoBulkEntry x + uptoBulkEntries r
def uptoBulkEntry {H : Type} : Lit × DataW H → Nat
  | (.string bytes, d) => bytes.length + uptoBulk d + 1
  | (_, d) => uptoBulk d + 1
 end
def uptoSmall : (H : Type) → List (DataW H) → Bool := fun _ ds => decide (uptoBulkAll ds ≤ 1048576)
def OpenSpec.upto (s : _root_.Go.ChangeSpec) : _root_.Go.OpenSpec := { _root_.Go.OpenSpec.ofChange s with cond := some uptoSmall }

/-- 'garblerlaw21.HeaderwSeals', WHERE WHAT IT READS IS OF BULK AT MOST 1048576: true; the input reads as it did. -/
def headerwSealsUptoRow : OpenClaim := { program := "ytkodindajfdagaagreatdoor", sum := "0fc9e10c6162a00bb876b5b822699c98cd089ca26a7af6e9dd3e082113cce5cb", func := "garbler/garblerlaw21.HeaderwSeals", spec := "headerwSeals", inPlace := ["internal/bytealg.IndexByteString", "sync/atomic.LoadUint32", "(*internal/sync.Mutex).Lock", "internal/race.Disable", "sync/atomic.CompareAndSwapInt32", "internal/race.Enable", "internal/race.Acquire", "(*internal/sync.Mutex).lockSlow", "internal/sync.runtime_canSpin", "internal/sync.runtime_doSpin", "internal/sync.throw", "internal/sync.runtime_nanotime", "internal/sync.runtime_SemacquireMutex", "sync/atomic.AddInt32", "(*internal/sync.Mutex).Unlock", "internal/race.ReleaseMerge", "(*internal/sync.Mutex).unlockSlow", "internal/sync.fatal", "internal/sync.runtime_Semrelease", "sync/atomic.StoreUint32"], unfollowed := true, recurses := true, named := ["unicode/utf8.first", "unicode/utf8.acceptRanges"], apart := false, laid := [("unicode/utf8.acceptRanges", laid_unicode_utf8_acceptRanges), ("unicode/utf8.first", laid_unicode_utf8_first)], narrowed := true }
def HeaderwSealsUptoSaid : Prop := headerwSealsUptoRow.holds Tryz.pinned (OpenSpec.upto headerwSealsSpec)

/-- 'garblerlaw21.HeaderwBack', WHERE WHAT IT READS IS OF BULK AT MOST 1048576: true; the input reads as it did. -/
def headerwBackUptoRow : OpenClaim := { program := "ytkodindajfdagaagreatdoor", sum := "0fc9e10c6162a00bb876b5b822699c98cd089ca26a7af6e9dd3e082113cce5cb", func := "garbler/garblerlaw21.HeaderwBack", spec := "headerwBack", inPlace := ["internal/bytealg.IndexByteString"], unfollowed := true, recurses := true, named := ["unicode/utf8.first", "unicode/utf8.acceptRanges"], apart := false, laid := [("unicode/utf8.acceptRanges", laid_unicode_utf8_acceptRanges), ("unicode/utf8.first", laid_unicode_utf8_first)], narrowed := true }
def HeaderwBackUptoSaid : Prop := headerwBackUptoRow.holds Tryz.pinned (OpenSpec.upto headerwBackSpec)

/-- 'garblerlaw21.HeaderwAgain', WHERE WHAT IT READS IS OF BULK AT MOST 1048576: true; the input reads as it did. -/
def headerwAgainUptoRow : OpenClaim := { program := "ytkodindajfdagaagreatdoor", sum := "0fc9e10c6162a00bb876b5b822699c98cd089ca26a7af6e9dd3e082113cce5cb", func := "garbler/garblerlaw21.HeaderwAgain", spec := "headerwAgain", inPlace := ["internal/bytealg.IndexByteString"], unfollowed := true, recurses := true, named := ["unicode/utf8.first", "unicode/utf8.acceptRanges"], apart := false, laid := [("unicode/utf8.acceptRanges", laid_unicode_utf8_acceptRanges), ("unicode/utf8.first", laid_unicode_utf8_first)], narrowed := true }
def HeaderwAgainUptoSaid : Prop := headerwAgainUptoRow.holds Tryz.pinned (OpenSpec.upto headerwAgainSpec)

/-- 'garblerlaw21.HeaderwNames', WHERE WHAT IT READS IS OF BULK AT MOST 1048576: true; the input reads as it did. -/
def headerwNamesUptoRow : OpenClaim := { program := "ytkodindajfdagaagreatdoor", sum := "0fc9e10c6162a00bb876b5b822699c98cd089ca26a7af6e9dd3e082113cce5cb", func := "garbler/garblerlaw21.HeaderwNames", spec := "headerwNames", inPlace := ["internal/bytealg.IndexByteString"], unfollowed := true, recurses := true, named := ["unicode/utf8.first", "unicode/utf8.acceptRanges"], apart := false, laid := [("unicode/utf8.acceptRanges", laid_unicode_utf8_acceptRanges), ("unicode/utf8.first", laid_unicode_utf8_first)], narrowed := true }
def HeaderwNamesUptoSaid : Prop := headerwNamesUptoRow.holds Tryz.pinned (OpenSpec.upto headerwNamesSpec)

end Rows
end Go.Proofs.YtkodindajfdagaaGreatDoor
