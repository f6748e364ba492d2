/- Closed facts on the row and the program (goes: no function of the program starts a goroutine), each by the kernel. No condition. -/
import Derived.Test.YthbkcjlpelihlaaGreatDoorRows
import Derived.Test.YthbkcjlpelihlaaGreatDoorCards
import Derived.Test.YthbkcjlpelihlaaGreatDoorChecked
import Derived.Test.YthbkcjlpelihlaaGreatDoorEEmpFjM
import Derived.ProofKit
import Derived.JoinedCond
import Derived.SevenTiedAt
import Derived.ChangeOld
namespace Go.Proofs.YthbkcjlpelihlaaGreatDoor.extractEmpty
open Go.ChangeShapes Go.WideShapes Go.ChangeAt Go.RowKit

theorem fact_ng : Tryz.pinned.checked.prog.funcs.any Func.goes = false := by kernel_rfl
theorem no_goes {P : Program} (h : P.funcs.any Func.goes = false) (f : FuncId) : P.goes f = false := by
  have h2 : ∀ g : Nat, (P.funcs[g]?).any Func.goes = false := fun g => by
    cases hg : P.funcs[g]? with
    | none => rfl
    | some fn =>
      have hm := Array.mem_of_getElem? hg
      rw [Array.any_eq_false] at h
      obtain ⟨i, hi, rfl⟩ := Array.getElem_of_mem hm
      simpa using h i hi
  unfold Program.goes
  simp only [h2, h, Bool.and_false, Bool.or_false]
  simp
theorem goes_at {P : Program} {start : Start} {func : String} {f : FuncId} (hs : start = .entering) (hn : P.funcNamed func = some f) (h : P.funcs.any Func.goes = false) : P.goesAt start func = false := by
  subst hs
  unfold Program.goesAt Program.goesFrom
  rw [hn]
  simp [no_goes h]
theorem goes_by {P : Program} {c : OpenClaim} {f : FuncId} (hs : c.start = .entering) (hn : P.funcNamed c.func = some f) (h : P.funcs.any Func.goes = false) : false = c.goesBy P := (goes_at hs hn h).symm
theorem fact_goes : false = Rows.extractEmptyRow.goesBy Tryz.pinned.checked.prog := goes_by rfl fact_name fact_ng
end Go.Proofs.YthbkcjlpelihlaaGreatDoor.extractEmpty
