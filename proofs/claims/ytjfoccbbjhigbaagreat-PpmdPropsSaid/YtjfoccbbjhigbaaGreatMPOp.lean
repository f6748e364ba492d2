/- Opener: a setting of PPMd, by value. No condition. -/
import Derived.Test.YtjfoccbbjhigbaaGreatOpen
import Derived.Deep.SlicePairs
namespace Go.Proofs.YtjfoccbbjhigbaaGreat
open Go.RowKit Go.Deep Go.ChangeShapes Go.WideShapes Go.ChangeAt

variable {H : Type} {enc : TypeId × Value → H} {w : World} {base : Nat} {held : Bool} {fuel : Nat} {cs : List Value} {x : DataW H × List MemPlace}

set_option maxRecDepth 100000 in
theorem ppmd_of (h : DataW.trod enc Tryz.prog w base (fun _ => true) held fuel 24 cs = some x) : ∃ o m : Int, cs = [.int .i64 o, .int .i64 m] ∧ (Lit.int .i64 o).wf = true ∧ (Lit.int .i64 m).wf = true := by
  obtain ⟨y0, y1, n, _, hl, h0, h1⟩ := trod_struct2 Tryz.underlying24 h
  have ce : Tryz.prog.cellsOf 24 = 2 := by kernel_rfl
  have c0 : Tryz.prog.cellsOf 3 = 1 := by kernel_rfl
  rw [ce] at hl
  match cs, hl with
  | [a, b], _ =>
    simp [c0] at h0 h1
    obtain ⟨kk, e0, _, wf0⟩ := DataW.trod_int Tryz.underlying3 h0
    obtain ⟨mm, e1, _, wf1⟩ := DataW.trod_int Tryz.underlying3 h1
    injection e0 with e0
    injection e1 with e1
    subst e0 e1
    exact ⟨kk, mm, rfl, wf0, wf1⟩
end Go.Proofs.YtjfoccbbjhigbaaGreat
