/-
  No cell of these rows narrows 'for every input' (looked for: loops, veiled, ifaces, maps, wideKeys, modest, calm, conditions, laid).
  DERIVED. THE GIVEN ROWS OF THIS SEAT. 8 by the template 'for every input the law returns true; each argument reads behind the call as it read before'; 0 by the template 'total and deterministic' (their statements: YtklbocdeifebkaaTotals.lean).
  GIVEN WITH THE SEED: the statements are not yours to turn. If you find one false, say at which input.
  Laid BY PROGRAM, IN A SANDBOX (cutbox-rows.mjs): the forced cells as the released guide's own fill.sh prints them over the translation 3c03aa1d9ba9a8f0… (all of the seat's roots in one cut). By AI agents, Wed Nov 11 2026. No macro, syntax, notation, axiom, sorry.
-/
import Derived.Test.YtklbocdeifebkaaChecked
import GoSem.Claim
import GoSem.ClaimJoined
import GoSem.ClaimMapViews
import Derived.JoinedTies
import Derived.KernelRfl
namespace Go.Proofs.Ytklbocdeifebkaa
/- THE CELL 'sum', in the pinned program and in every row, IS THE sha256 OF THE DUMP (.gsa) THAT YtklbocdeifebkaaProg.lean LOADS. Nothing in Lean hashes anything: it is a label: what it is worth is what the hold of that sum in a sandbox is worth. -/
noncomputable def Try.pinned : Pinned := { name := "ytklbocdeifebkaa", sum := "3c03aa1d9ba9a8f04cdebd8457d543f0d82abde4811b31bc6c7db49e59098602", checked := Try.checked }
namespace Rows
def none {H : Type} : Left H := { results := [], args := [] }

/-- 'garblerlaw01.SrcTakes': WHATEVER THE INPUT: true; the input reads as it did. -/
def srcTakesSpec : ChangeSpec := { name := "srcTakes", fn := fun _ => fun
  | [d1, d2, d3] => { results := [.lit (.bool true)], args := [d1, d2, d3] }
  | _ => none }
def srcTakesRow : OpenClaim := { program := "ytklbocdeifebkaa", sum := "3c03aa1d9ba9a8f04cdebd8457d543f0d82abde4811b31bc6c7db49e59098602", func := "garbler/garblerlaw01.SrcTakes", spec := "srcTakes", apart := false }
def SrcTakesSaid : Prop := srcTakesRow.holds Try.pinned (OpenSpec.ofChange srcTakesSpec)

/-- ITS FALSE NEIGHBOUR: 'it returns false'. Refute it at one input. -/
def srcTakesWrong : ChangeSpec := { name := "srcTakes", fn := fun _ => fun
  | [d1, d2, d3] => { results := [.lit (.bool false)], args := [d1, d2, d3] }
  | _ => none }
def SrcTakesWrongFalsely : Prop := srcTakesRow.holds Try.pinned (OpenSpec.ofChange srcTakesWrong)

/-- 'garblerlaw01.SrcShort': WHATEVER THE INPUT: true; the input reads as it did. -/
def srcShortSpec : ChangeSpec := { name := "srcShort", fn := fun _ => fun
  | [d] => { results := [.lit (.bool true)], args := [d] }
  | _ => none }
def srcShortRow : OpenClaim := { program := "ytklbocdeifebkaa", sum := "3c03aa1d9ba9a8f04cdebd8457d543f0d82abde4811b31bc6c7db49e59098602", func := "garbler/garblerlaw01.SrcShort", spec := "srcShort", apart := false }
def SrcShortSaid : Prop := srcShortRow.holds Try.pinned (OpenSpec.ofChange srcShortSpec)

/-- ITS FALSE NEIGHBOUR: 'it returns false'. Refute it at one input. -/
def srcShortWrong : ChangeSpec := { name := "srcShort", fn := fun _ => fun
  | [d] => { results := [.lit (.bool false)], args := [d] }
  | _ => none }
def SrcShortWrongFalsely : Prop := srcShortRow.holds Try.pinned (OpenSpec.ofChange srcShortWrong)

/-- 'garblerlaw01.SrcFeeds': WHATEVER THE INPUT: true; the input reads as it did. -/
def srcFeedsSpec : ChangeSpec := { name := "srcFeeds", fn := fun _ => fun
  | [d1, d2] => { results := [.lit (.bool true)], args := [d1, d2] }
  | _ => none }
def srcFeedsRow : OpenClaim := { program := "ytklbocdeifebkaa", sum := "3c03aa1d9ba9a8f04cdebd8457d543f0d82abde4811b31bc6c7db49e59098602", func := "garbler/garblerlaw01.SrcFeeds", spec := "srcFeeds", apart := false }
def SrcFeedsSaid : Prop := srcFeedsRow.holds Try.pinned (OpenSpec.ofChange srcFeedsSpec)

/-- ITS FALSE NEIGHBOUR: 'it returns false'. Refute it at one input. -/
def srcFeedsWrong : ChangeSpec := { name := "srcFeeds", fn := fun _ => fun
  | [d1, d2] => { results := [.lit (.bool false)], args := [d1, d2] }
  | _ => none }
def SrcFeedsWrongFalsely : Prop := srcFeedsRow.holds Try.pinned (OpenSpec.ofChange srcFeedsWrong)

/-- 'garblerlaw01.SrcRows': WHATEVER THE INPUT: true; the input reads as it did. -/
def srcRowsSpec : ChangeSpec := { name := "srcRows", fn := fun _ => fun
  | [d] => { results := [.lit (.bool true)], args := [d] }
  | _ => none }
def srcRowsRow : OpenClaim := { program := "ytklbocdeifebkaa", sum := "3c03aa1d9ba9a8f04cdebd8457d543f0d82abde4811b31bc6c7db49e59098602", func := "garbler/garblerlaw01.SrcRows", spec := "srcRows", apart := false }
def SrcRowsSaid : Prop := srcRowsRow.holds Try.pinned (OpenSpec.ofChange srcRowsSpec)

/-- ITS FALSE NEIGHBOUR: 'it returns false'. Refute it at one input. -/
def srcRowsWrong : ChangeSpec := { name := "srcRows", fn := fun _ => fun
  | [d] => { results := [.lit (.bool false)], args := [d] }
  | _ => none }
def SrcRowsWrongFalsely : Prop := srcRowsRow.holds Try.pinned (OpenSpec.ofChange srcRowsWrong)

/-- 'garblerlaw01.SrcSums': WHATEVER THE INPUT: true; the input reads as it did. -/
def srcSumsSpec : ChangeSpec := { name := "srcSums", fn := fun _ => fun
  | [d1, d2] => { results := [.lit (.bool true)], args := [d1, d2] }
  | _ => none }
def srcSumsRow : OpenClaim := { program := "ytklbocdeifebkaa", sum := "3c03aa1d9ba9a8f04cdebd8457d543f0d82abde4811b31bc6c7db49e59098602", func := "garbler/garblerlaw01.SrcSums", spec := "srcSums", inPlace := ["math/bits.Add64"], apart := false }
def SrcSumsSaid : Prop := srcSumsRow.holds Try.pinned (OpenSpec.ofChange srcSumsSpec)

/-- ITS FALSE NEIGHBOUR: 'it returns false'. Refute it at one input. -/
def srcSumsWrong : ChangeSpec := { name := "srcSums", fn := fun _ => fun
  | [d1, d2] => { results := [.lit (.bool false)], args := [d1, d2] }
  | _ => none }
def SrcSumsWrongFalsely : Prop := srcSumsRow.holds Try.pinned (OpenSpec.ofChange srcSumsWrong)

/-- 'garblerlaw01.SrcPuts': WHATEVER THE INPUT: true; the input reads as it did. -/
def srcPutsSpec : ChangeSpec := { name := "srcPuts", fn := fun _ => fun
  | [d1, d2, d3] => { results := [.lit (.bool true)], args := [d1, d2, d3] }
  | _ => none }
def srcPutsRow : OpenClaim := { program := "ytklbocdeifebkaa", sum := "3c03aa1d9ba9a8f04cdebd8457d543f0d82abde4811b31bc6c7db49e59098602", func := "garbler/garblerlaw01.SrcPuts", spec := "srcPuts", apart := false }
def SrcPutsSaid : Prop := srcPutsRow.holds Try.pinned (OpenSpec.ofChange srcPutsSpec)

/-- ITS FALSE NEIGHBOUR: 'it returns false'. Refute it at one input. -/
def srcPutsWrong : ChangeSpec := { name := "srcPuts", fn := fun _ => fun
  | [d1, d2, d3] => { results := [.lit (.bool false)], args := [d1, d2, d3] }
  | _ => none }
def SrcPutsWrongFalsely : Prop := srcPutsRow.holds Try.pinned (OpenSpec.ofChange srcPutsWrong)

/-- 'garblerlaw01.SrcReads': WHATEVER THE INPUT: true; the input reads as it did. -/
def srcReadsSpec : ChangeSpec := { name := "srcReads", fn := fun _ => fun
  | [d1, d2] => { results := [.lit (.bool true)], args := [d1, d2] }
  | _ => none }
def srcReadsRow : OpenClaim := { program := "ytklbocdeifebkaa", sum := "3c03aa1d9ba9a8f04cdebd8457d543f0d82abde4811b31bc6c7db49e59098602", func := "garbler/garblerlaw01.SrcReads", spec := "srcReads", apart := false }
def SrcReadsSaid : Prop := srcReadsRow.holds Try.pinned (OpenSpec.ofChange srcReadsSpec)

/-- ITS FALSE NEIGHBOUR: 'it returns false'. Refute it at one input. -/
def srcReadsWrong : ChangeSpec := { name := "srcReads", fn := fun _ => fun
  | [d1, d2] => { results := [.lit (.bool false)], args := [d1, d2] }
  | _ => none }
def SrcReadsWrongFalsely : Prop := srcReadsRow.holds Try.pinned (OpenSpec.ofChange srcReadsWrong)

/-- 'garblerlaw01.SrcBack': WHATEVER THE INPUT: true; the input reads as it did. -/
def srcBackSpec : ChangeSpec := { name := "srcBack", fn := fun _ => fun
  | [d1, d2] => { results := [.lit (.bool true)], args := [d1, d2] }
  | _ => none }
def srcBackRow : OpenClaim := { program := "ytklbocdeifebkaa", sum := "3c03aa1d9ba9a8f04cdebd8457d543f0d82abde4811b31bc6c7db49e59098602", func := "garbler/garblerlaw01.SrcBack", spec := "srcBack", apart := false }
def SrcBackSaid : Prop := srcBackRow.holds Try.pinned (OpenSpec.ofChange srcBackSpec)

/-- ITS FALSE NEIGHBOUR: 'it returns false'. Refute it at one input. -/
def srcBackWrong : ChangeSpec := { name := "srcBack", fn := fun _ => fun
  | [d1, d2] => { results := [.lit (.bool false)], args := [d1, d2] }
  | _ => none }
def SrcBackWrongFalsely : Prop := srcBackRow.holds Try.pinned (OpenSpec.ofChange srcBackWrong)

/- THE SECOND FORM. 'bulk': how many values and letters a reading holds, each counted each time it is reached (what is shared counts as often as it is met; a slice's spare places count too). A statement '..UptoSaid' is the law's where the arguments, and the package variables that the reading takes, are together of bulk at most 1048576: NARROWER than '..Said'. Prove '..Said' where nothing that the law and all that it calls make is longer than what came in: it says more and counts as full. Else prove '..UptoSaid'. A law counts once. -/
mutual
def uptoBulk {H : Type} : DataW H → Nat
  | .lit (.string bytes) => bytes.length + 1
  | .lit _ => 1
  | .nil => 1
  | .ptr d => uptoBulk d + 1
  | .slice elems spare => uptoBulkAll elems + uptoBulkAll spare + 1
  | .agg parts => uptoBulkAll parts + 1
  | .iface _ d => uptoBulk d + 1
  | .map entries => uptoBulkEntries entries + 1
  | .held _ => 1
def uptoBulkAll {H : Type} : List (DataW H) → Nat
  | [] => 0
  | d :: r => uptoBulk d + uptoBulkAll r
def uptoBulkEntries {H : Type} : List (Lit × DataW H) → Nat
  | [] => 0
  | x :: r => uptoBulkEntry x + uptoBulkEntries r
def uptoBulkEntry {H : Type} : Lit × DataW H → Nat
  | (.string bytes, d) => bytes.length + uptoBulk d + 1
  | (_, d) => uptoBulk d + 1
 end
def uptoSmall : (H : Type) → List (DataW H) → Bool := fun _ ds => decide (uptoBulkAll ds ≤ 1048576)
def OpenSpec.upto (s : _root_.Go.ChangeSpec) : _root_.Go.OpenSpec := { _root_.Go.OpenSpec.ofChange s with cond := some uptoSmall }

/-- 'garblerlaw01.SrcTakes', WHERE WHAT IT READS IS OF BULK AT MOST 1048576: true; the input reads as it did. -/
def srcTakesUptoRow : OpenClaim := { program := "ytklbocdeifebkaa", sum := "3c03aa1d9ba9a8f04cdebd8457d543f0d82abde4811b31bc6c7db49e59098602", func := "garbler/garblerlaw01.SrcTakes", spec := "srcTakes", apart := false, narrowed := true }
def SrcTakesUptoSaid : Prop := srcTakesUptoRow.holds Try.pinned (OpenSpec.upto srcTakesSpec)

/-- 'garblerlaw01.SrcShort', WHERE WHAT IT READS IS OF BULK AT MOST 1048576: true; the input reads as it did. -/
def srcShortUptoRow : OpenClaim := { program := "ytklbocdeifebkaa", sum := "3c03aa1d9ba9a8f04cdebd8457d543f0d82abde4811b31bc6c7db49e59098602", func := "garbler/garblerlaw01.SrcShort", spec := "srcShort", apart := false, narrowed := true }
def SrcShortUptoSaid : Prop := srcShortUptoRow.holds Try.pinned (OpenSpec.upto srcShortSpec)

/-- 'garblerlaw01.SrcFeeds', WHERE WHAT IT READS IS OF BULK AT MOST 1048576: true; the input reads as it did. -/
def srcFeedsUptoRow : OpenClaim := { program := "ytklbocdeifebkaa", sum := "3c03aa1d9ba9a8f04cdebd8457d543f0d82abde4811b31bc6c7db49e59098602", func := "garbler/garblerlaw01.SrcFeeds", spec := "srcFeeds", apart := false, narrowed := true }
def SrcFeedsUptoSaid : Prop := srcFeedsUptoRow.holds Try.pinned (OpenSpec.upto srcFeedsSpec)

/-- 'garblerlaw01.SrcRows', WHERE WHAT IT READS IS OF BULK AT MOST 1048576: true; the input reads as it did. -/
def srcRowsUptoRow : OpenClaim := { program := "ytklbocdeifebkaa", sum := "3c03aa1d9ba9a8f04cdebd8457d543f0d82abde4811b31bc6c7db49e59098602", func := "garbler/garblerlaw01.SrcRows", spec := "srcRows", apart := false, narrowed := true }
def SrcRowsUptoSaid : Prop := srcRowsUptoRow.holds Try.pinned (OpenSpec.upto srcRowsSpec)

/-- 'garblerlaw01.SrcSums', WHERE WHAT IT READS IS OF BULK AT MOST 1048576: true; the input reads as it did. -/
def srcSumsUptoRow : OpenClaim := { program := "ytklbocdeifebkaa", sum := "3c03aa1d9ba9a8f04cdebd8457d543f0d82abde4811b31bc6c7db49e59098602", func := "garbler/garblerlaw01.SrcSums", spec := "srcSums", inPlace := ["math/bits.Add64"], apart := false, narrowed := true }
def SrcSumsUptoSaid : Prop := srcSumsUptoRow.holds Try.pinned (OpenSpec.upto srcSumsSpec)

/-- 'garblerlaw01.SrcPuts', WHERE WHAT IT READS IS OF BULK AT MOST 1048576: true; the input reads as it did. -/
def srcPutsUptoRow : OpenClaim := { program := "ytklbocdeifebkaa", sum := "3c03aa1d9ba9a8f04cdebd8457d543f0d82abde4811b31bc6c7db49e59098602", func := "garbler/garblerlaw01.SrcPuts", spec := "srcPuts", apart := false, narrowed := true }
def SrcPutsUptoSaid : Prop := srcPutsUptoRow.holds Try.pinned (OpenSpec.upto srcPutsSpec)

/-- 'garblerlaw01.SrcReads', WHERE WHAT IT READS IS OF BULK AT MOST 1048576: true; the input reads as it did. -/
def srcReadsUptoRow : OpenClaim := { program := "ytklbocdeifebkaa", sum := "3c03aa1d9ba9a8f04cdebd8457d543f0d82abde4811b31bc6c7db49e59098602", func := "garbler/garblerlaw01.SrcReads", spec := "srcReads", apart := false, narrowed := true }
def SrcReadsUptoSaid : Prop := srcReadsUptoRow.holds Try.pinned (OpenSpec.upto srcReadsSpec)

/-- 'garblerlaw01.SrcBack', WHERE WHAT IT READS IS OF BULK AT MOST 1048576: true; the input reads as it did. -/
def srcBackUptoRow : OpenClaim := { program := "ytklbocdeifebkaa", sum := "3c03aa1d9ba9a8f04cdebd8457d543f0d82abde4811b31bc6c7db49e59098602", func := "garbler/garblerlaw01.SrcBack", spec := "srcBack", apart := false, narrowed := true }
def SrcBackUptoSaid : Prop := srcBackUptoRow.holds Try.pinned (OpenSpec.upto srcBackSpec)

end Rows
end Go.Proofs.Ytklbocdeifebkaa
