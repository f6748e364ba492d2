/- Closed facts on the row and the program (looks), each by the kernel. No condition. -/
import Derived.Test.YthbkcjlpelihlaaGreatDoorRows
import Derived.Test.YthbkcjlpelihlaaGreatDoorCards
import Derived.Test.YthbkcjlpelihlaaGreatDoorChecked
import Derived.ProofKit
import Derived.JoinedCond
import Derived.SevenTiedAt
import Derived.ChangeOld
namespace Go.Proofs.YthbkcjlpelihlaaGreatDoor.extractEmpty
open Go.ChangeShapes Go.WideShapes Go.ChangeAt Go.RowKit

theorem fact_looks : true = Tryz.pinned.checked.prog.looks [] := by kernel_rfl
end Go.Proofs.YthbkcjlpelihlaaGreatDoor.extractEmpty
