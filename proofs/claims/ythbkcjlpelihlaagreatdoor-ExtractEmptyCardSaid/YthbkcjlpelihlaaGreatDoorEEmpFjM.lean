/- Closed facts on the row and the program (main, text, name), each by the kernel. No condition. -/
import Derived.Test.YthbkcjlpelihlaaGreatDoorRows
import Derived.Test.YthbkcjlpelihlaaGreatDoorCards
import Derived.Test.YthbkcjlpelihlaaGreatDoorChecked
import Derived.ProofKit
import Derived.JoinedCond
import Derived.SevenTiedAt
import Derived.ChangeOld
namespace Go.Proofs.YthbkcjlpelihlaaGreatDoor.extractEmpty
open Go.ChangeShapes Go.WideShapes Go.ChangeAt Go.RowKit

theorem fact_main : Tryz.pinned.checked.prog.mainIs = some (Rows.extractEmptyCard.stood.harness.1, Rows.extractEmptyCard.stood.harness.2.toList) := by kernel_rfl
theorem fact_text : Rows.extractEmptyRow.wfByText (OpenSpec.ofChange Rows.extractEmptySpec) = true := by kernel_rfl
theorem fact_name : Tryz.pinned.checked.prog.funcNamed Rows.extractEmptyRow.func = some 3 := by kernel_rfl
end Go.Proofs.YthbkcjlpelihlaaGreatDoor.extractEmpty
