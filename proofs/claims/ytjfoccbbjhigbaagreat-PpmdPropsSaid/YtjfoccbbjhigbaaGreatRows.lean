/-
  No cell of these rows narrows 'for every input' (looked for: loops, veiled, ifaces, maps, wideKeys, modest, calm, conditions, laid).
  DERIVED. THE GIVEN ROWS OF THIS SEAT. 5 by the template 'for every input the law returns true; each argument reads behind the call as it read before'; 0 by the template 'total and deterministic' (their statements: YtjfoccbbjhigbaaGreatTotals.lean).
  GIVEN WITH THE SEED: the statements are not yours to turn. If you find one false, say at which input.
  Laid BY PROGRAM, IN A SANDBOX (cutbox-rows.mjs): the forced cells as the released guide's own fill.sh prints them over the translation dcd9d556f024a45b… (all of the seat's roots in one cut). By AI agents, Wed Nov 11 2026. No macro, syntax, notation, axiom, sorry.
-/
import Derived.Test.YtjfoccbbjhigbaaGreatChecked
import GoSem.Claim
import GoSem.ClaimJoined
import GoSem.ClaimMapViews
import Derived.JoinedTies
import Derived.KernelRfl
namespace Go.Proofs.YtjfoccbbjhigbaaGreat
/- THE CELL 'sum', in the pinned program and in every row, IS THE sha256 OF THE DUMP (.gsa) THAT YtjfoccbbjhigbaaGreatProg.lean LOADS. Nothing in Lean hashes anything: it is a label: what it is worth is what the hold of that sum in a sandbox is worth. -/
noncomputable def Tryz.pinned : Pinned := { name := "ytjfoccbbjhigbaagreat", sum := "dcd9d556f024a45bf6db575dd557b17c01ea2e2232affc976d4668350fcfe2bd", checked := Tryz.checked }
namespace Rows
def none {H : Type} : Left H := { results := [], args := [] }

/-- 'garblerlaw18.PpmdBack': WHATEVER THE INPUT: true; the input reads as it did. -/
def ppmdBackSpec : ChangeSpec := { name := "ppmdBack", fn := fun _ => fun
  | [d1, d2, d3] => { results := [.lit (.bool true)], args := [d1, d2, d3] }
  | _ => none }
def ppmdBackRow : OpenClaim := { program := "ytjfoccbbjhigbaagreat", sum := "dcd9d556f024a45bf6db575dd557b17c01ea2e2232affc976d4668350fcfe2bd", func := "garbler/garblerlaw18.PpmdBack", spec := "ppmdBack", inPlace := ["sync/atomic.LoadInt64", "sync/atomic.CompareAndSwapInt64"], unfollowed := true, recurses := true, apart := false }
def PpmdBackSaid : Prop := ppmdBackRow.holds Tryz.pinned (OpenSpec.ofChange ppmdBackSpec)

/-- ITS FALSE NEIGHBOUR: 'it returns false'. Refute it at one input. -/
def ppmdBackWrong : ChangeSpec := { name := "ppmdBack", fn := fun _ => fun
  | [d1, d2, d3] => { results := [.lit (.bool false)], args := [d1, d2, d3] }
  | _ => none }
def PpmdBackWrongFalsely : Prop := ppmdBackRow.holds Tryz.pinned (OpenSpec.ofChange ppmdBackWrong)

/-- 'garblerlaw18.PpmdUnpacks': WHATEVER THE INPUT: true; the input reads as it did. -/
def ppmdUnpacksSpec : ChangeSpec := { name := "ppmdUnpacks", fn := fun _ => fun
  | [d1, d2, d3] => { results := [.lit (.bool true)], args := [d1, d2, d3] }
  | _ => none }
def ppmdUnpacksRow : OpenClaim := { program := "ytjfoccbbjhigbaagreat", sum := "dcd9d556f024a45bf6db575dd557b17c01ea2e2232affc976d4668350fcfe2bd", func := "garbler/garblerlaw18.PpmdUnpacks", spec := "ppmdUnpacks", inPlace := ["sync/atomic.LoadInt64", "sync/atomic.CompareAndSwapInt64"], unfollowed := true, recurses := true, apart := false }
def PpmdUnpacksSaid : Prop := ppmdUnpacksRow.holds Tryz.pinned (OpenSpec.ofChange ppmdUnpacksSpec)

/-- ITS FALSE NEIGHBOUR: 'it returns false'. Refute it at one input. -/
def ppmdUnpacksWrong : ChangeSpec := { name := "ppmdUnpacks", fn := fun _ => fun
  | [d1, d2, d3] => { results := [.lit (.bool false)], args := [d1, d2, d3] }
  | _ => none }
def PpmdUnpacksWrongFalsely : Prop := ppmdUnpacksRow.holds Tryz.pinned (OpenSpec.ofChange ppmdUnpacksWrong)

/-- 'garblerlaw18.PpmdPacks': WHATEVER THE INPUT: true; the input reads as it did. -/
def ppmdPacksSpec : ChangeSpec := { name := "ppmdPacks", fn := fun _ => fun
  | [d1, d2] => { results := [.lit (.bool true)], args := [d1, d2] }
  | _ => none }
def ppmdPacksRow : OpenClaim := { program := "ytjfoccbbjhigbaagreat", sum := "dcd9d556f024a45bf6db575dd557b17c01ea2e2232affc976d4668350fcfe2bd", func := "garbler/garblerlaw18.PpmdPacks", spec := "ppmdPacks", inPlace := ["sync/atomic.LoadInt64", "sync/atomic.CompareAndSwapInt64"], unfollowed := true, recurses := true, apart := false }
def PpmdPacksSaid : Prop := ppmdPacksRow.holds Tryz.pinned (OpenSpec.ofChange ppmdPacksSpec)

/-- ITS FALSE NEIGHBOUR: 'it returns false'. Refute it at one input. -/
def ppmdPacksWrong : ChangeSpec := { name := "ppmdPacks", fn := fun _ => fun
  | [d1, d2] => { results := [.lit (.bool false)], args := [d1, d2] }
  | _ => none }
def PpmdPacksWrongFalsely : Prop := ppmdPacksRow.holds Tryz.pinned (OpenSpec.ofChange ppmdPacksWrong)

/-- 'garblerlaw18.PpmdFlows': WHATEVER THE INPUT: true; the input reads as it did. -/
def ppmdFlowsSpec : ChangeSpec := { name := "ppmdFlows", fn := fun _ => fun
  | [d1, d2, d3] => { results := [.lit (.bool true)], args := [d1, d2, d3] }
  | _ => none }
def ppmdFlowsRow : OpenClaim := { program := "ytjfoccbbjhigbaagreat", sum := "dcd9d556f024a45bf6db575dd557b17c01ea2e2232affc976d4668350fcfe2bd", func := "garbler/garblerlaw18.PpmdFlows", spec := "ppmdFlows", inPlace := ["sync/atomic.LoadInt64", "sync/atomic.CompareAndSwapInt64"], unfollowed := true, recurses := true, apart := false }
def PpmdFlowsSaid : Prop := ppmdFlowsRow.holds Tryz.pinned (OpenSpec.ofChange ppmdFlowsSpec)

/-- ITS FALSE NEIGHBOUR: 'it returns false'. Refute it at one input. -/
def ppmdFlowsWrong : ChangeSpec := { name := "ppmdFlows", fn := fun _ => fun
  | [d1, d2, d3] => { results := [.lit (.bool false)], args := [d1, d2, d3] }
  | _ => none }
def PpmdFlowsWrongFalsely : Prop := ppmdFlowsRow.holds Tryz.pinned (OpenSpec.ofChange ppmdFlowsWrong)

/-- 'garblerlaw18.PpmdProps': WHATEVER THE INPUT: true; the input reads as it did. -/
def ppmdPropsSpec : ChangeSpec := { name := "ppmdProps", fn := fun _ => fun
  | [d1, d2] => { results := [.lit (.bool true)], args := [d1, d2] }
  | _ => none }
def ppmdPropsRow : OpenClaim := { program := "ytjfoccbbjhigbaagreat", sum := "dcd9d556f024a45bf6db575dd557b17c01ea2e2232affc976d4668350fcfe2bd", func := "garbler/garblerlaw18.PpmdProps", spec := "ppmdProps", inPlace := ["sync/atomic.LoadInt64", "sync/atomic.CompareAndSwapInt64"], unfollowed := true, recurses := true, apart := false }
def PpmdPropsSaid : Prop := ppmdPropsRow.holds Tryz.pinned (OpenSpec.ofChange ppmdPropsSpec)

/-- ITS FALSE NEIGHBOUR: 'it returns false'. Refute it at one input. -/
def ppmdPropsWrong : ChangeSpec := { name := "ppmdProps", fn := fun _ => fun
  | [d1, d2] => { results := [.lit (.bool false)], args := [d1, d2] }
  | _ => none }
def PpmdPropsWrongFalsely : Prop := ppmdPropsRow.holds Tryz.pinned (OpenSpec.ofChange ppmdPropsWrong)

/- THE SECOND FORM. 'bulk': how many values and letters a reading holds, each counted each time it is reached (what is shared counts as often as it is met; a slice's spare places count too). A statement '..UptoSaid' is the law's where the arguments, and the package variables that the reading takes, are together of bulk at most 1048576: NARROWER than '..Said'. Prove '..Said' where nothing that the law and all that it calls make is longer than what came in: it says more and counts as full. Else prove '..UptoSaid'. A law counts once. -/
mutual
def uptoBulk {H : Type} : DataW H → Nat
  | .lit (.string bytes) => bytes.length + 1
  | .lit _ => 1
  | .nil => 1
  | .ptr d => uptoBulk d + 1
  | .slice elems spare => uptoBulkAll elems + uptoBulkAll spare + 1
  | .agg parts => uptoBulkAll parts + 1
  | .iface _ d => uptoBulk d + 1
  | .map entries => uptoBulkEntries entries + 1
  | .held _ => 1
def uptoBulkAll {H : Type} : List (DataW H) → Nat
  | [] => 0
  | d :: r => uptoBulk d + uptoBulkAll r
def uptoBulkEntries {H : Type} : List (Lit × DataW H) → Nat
  | [] => 0
  | x :: r => uptoBulkEntry x + uptoBulkEntries r
def uptoBulkEntry {H : Type} : Lit × DataW H → Nat
  | (.string bytes, d) => bytes.length + uptoBulk d + 1
  | (_, d) => uptoBulk d + 1
 end
def uptoSmall : (H : Type) → List (DataW H) → Bool := fun _ ds => decide (uptoBulkAll ds ≤ 1048576)
def OpenSpec.upto (s : _root_.Go.ChangeSpec) : _root_.Go.OpenSpec := { _root_.Go.OpenSpec.ofChange s with cond := some uptoSmall }

/-- 'garblerlaw18.PpmdBack', WHERE WHAT IT READS IS OF BULK AT MOST 1048576: true; the input reads as it did. -/
def ppmdBackUptoRow : OpenClaim := { program := "ytjfoccbbjhigbaagreat", sum := "dcd9d556f024a45bf6db575dd557b17c01ea2e2232affc976d4668350fcfe2bd", func := "garbler/garblerlaw18.PpmdBack", spec := "ppmdBack", inPlace := ["sync/atomic.LoadInt64", "sync/atomic.CompareAndSwapInt64"], unfollowed := true, recurses := true, apart := false, narrowed := true }
def PpmdBackUptoSaid : Prop := ppmdBackUptoRow.holds Tryz.pinned (OpenSpec.upto ppmdBackSpec)

/-- 'garblerlaw18.PpmdUnpacks', WHERE WHAT IT READS IS OF BULK AT MOST 1048576: true; the input reads as it did. -/
def ppmdUnpacksUptoRow : OpenClaim := { program := "ytjfoccbbjhigbaagreat", sum := "dcd9d556f024a45bf6db575dd557b17c01ea2e2232affc976d4668350fcfe2bd", func := "garbler/garblerlaw18.PpmdUnpacks", spec := "ppmdUnpacks", inPlace := ["sync/atomic.LoadInt64", "sync/atomic.CompareAndSwapInt64"], unfollowed := true, recurses := true, apart := false, narrowed := true }
def PpmdUnpacksUptoSaid : Prop := ppmdUnpacksUptoRow.holds Tryz.pinned (OpenSpec.upto ppmdUnpacksSpec)

/-- 'garblerlaw18.PpmdPacks', WHERE WHAT IT READS IS OF BULK AT MOST 1048576: true; the input reads as it did. -/
def ppmdPacksUptoRow : OpenClaim := { program := "ytjfoccbbjhigbaagreat", sum := "dcd9d556f024a45bf6db575dd557b17c01ea2e2232affc976d4668350fcfe2bd", func := "garbler/garblerlaw18.PpmdPacks", spec := "ppmdPacks", inPlace := ["sync/atomic.LoadInt64", "sync/atomic.CompareAndSwapInt64"], unfollowed := true, recurses := true, apart := false, narrowed := true }
def PpmdPacksUptoSaid : Prop := ppmdPacksUptoRow.holds Tryz.pinned (OpenSpec.upto ppmdPacksSpec)

/-- 'garblerlaw18.PpmdFlows', WHERE WHAT IT READS IS OF BULK AT MOST 1048576: true; the input reads as it did. -/
def ppmdFlowsUptoRow : OpenClaim := { program := "ytjfoccbbjhigbaagreat", sum := "dcd9d556f024a45bf6db575dd557b17c01ea2e2232affc976d4668350fcfe2bd", func := "garbler/garblerlaw18.PpmdFlows", spec := "ppmdFlows", inPlace := ["sync/atomic.LoadInt64", "sync/atomic.CompareAndSwapInt64"], unfollowed := true, recurses := true, apart := false, narrowed := true }
def PpmdFlowsUptoSaid : Prop := ppmdFlowsUptoRow.holds Tryz.pinned (OpenSpec.upto ppmdFlowsSpec)

/-- 'garblerlaw18.PpmdProps', WHERE WHAT IT READS IS OF BULK AT MOST 1048576: true; the input reads as it did. -/
def ppmdPropsUptoRow : OpenClaim := { program := "ytjfoccbbjhigbaagreat", sum := "dcd9d556f024a45bf6db575dd557b17c01ea2e2232affc976d4668350fcfe2bd", func := "garbler/garblerlaw18.PpmdProps", spec := "ppmdProps", inPlace := ["sync/atomic.LoadInt64", "sync/atomic.CompareAndSwapInt64"], unfollowed := true, recurses := true, apart := false, narrowed := true }
def PpmdPropsUptoSaid : Prop := ppmdPropsUptoRow.holds Tryz.pinned (OpenSpec.upto ppmdPropsSpec)

end Rows
end Go.Proofs.YtjfoccbbjhigbaaGreat
