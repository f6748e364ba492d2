/- Closed facts on the row and the program (wf, lay, mr, rd, nt, st, st2, kn, kn2), each by the kernel. No condition. -/
import Derived.Test.YthbkcjlpelihlaaGreatDoorRows
import Derived.Test.YthbkcjlpelihlaaGreatDoorCards
import Derived.Test.YthbkcjlpelihlaaGreatDoorChecked
import Derived.ProofKit
import Derived.JoinedCond
import Derived.SevenTiedAt
import Derived.ChangeOld
namespace Go.Proofs.YthbkcjlpelihlaaGreatDoor.extractEmpty
open Go.ChangeShapes Go.WideShapes Go.ChangeAt Go.RowKit

theorem fact_wf : (Rows.extractEmptyRow.wf (OpenSpec.ofChange (OpenSpec.ofChange Rows.extractEmptySpec).bare)) = true := by kernel_rfl
theorem fact_lay : (laidOutB Tryz.pinned.checked.prog) = true := by kernel_rfl
theorem fact_mr : (mapsRowed Tryz.pinned.checked.prog) = true := by kernel_rfl
theorem fact_rd : (Tryz.f3.params.all (Tryz.pinned.checked.prog.readableRec ·)) = true := by kernel_rfl
theorem fact_nt : (namedTie Tryz.pinned.checked.prog Rows.extractEmptyRow.named (OpenSpec.ofChange Rows.extractEmptySpec).bare.vars) = true := by kernel_rfl
theorem fact_st : ((Rows.extractEmptyRow.stops == [])) = true := by kernel_rfl
theorem fact_st2 : ((Tryz.pinned.checked.prog.stops == [])) = true := by kernel_rfl
theorem fact_kn : ((Rows.extractEmptyRow.knobs == [])) = true := by kernel_rfl
theorem fact_kn2 : ((Tryz.pinned.checked.prog.stopKnobs == [])) = true := by kernel_rfl
end Go.Proofs.YthbkcjlpelihlaaGreatDoor.extractEmpty
