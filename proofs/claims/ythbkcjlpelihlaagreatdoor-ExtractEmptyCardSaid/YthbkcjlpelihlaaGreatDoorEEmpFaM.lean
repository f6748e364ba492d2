/- Closed facts on the row and the program (inp), each by the kernel. No condition. -/
import Derived.Test.YthbkcjlpelihlaaGreatDoorRows
import Derived.Test.YthbkcjlpelihlaaGreatDoorCards
import Derived.Test.YthbkcjlpelihlaaGreatDoorChecked
import Derived.ProofKit
import Derived.JoinedCond
import Derived.SevenTiedAt
import Derived.ChangeOld
namespace Go.Proofs.YthbkcjlpelihlaaGreatDoor.extractEmpty
open Go.ChangeShapes Go.WideShapes Go.ChangeAt Go.RowKit

theorem fact_inp : ((Rows.extractEmptyRow.inPlace == Tryz.pinned.checked.prog.inPlace 3)) = true := by kernel_rfl
end Go.Proofs.YthbkcjlpelihlaaGreatDoor.extractEmpty
