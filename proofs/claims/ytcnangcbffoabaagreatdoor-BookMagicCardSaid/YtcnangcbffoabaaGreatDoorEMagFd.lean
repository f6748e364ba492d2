/- Closed facts on the row and the program (nam), each by the kernel. No condition. -/
import Derived.Test.YtcnangcbffoabaaGreatDoorRows
import Derived.Test.YtcnangcbffoabaaGreatDoorCards
import Derived.Test.YtcnangcbffoabaaGreatDoorChecked
import Derived.ProofKit
import Derived.JoinedCond
import Derived.SevenTiedAt
import Derived.ChangeOld
namespace Go.Proofs.YtcnangcbffoabaaGreatDoor.bookMagic
open Go.ChangeShapes Go.WideShapes Go.ChangeAt Go.RowKit

theorem fact_nam : ((Rows.bookMagicRow.named == Tryz.pinned.checked.prog.varsNamed 3)) = true := by kernel_rfl
end Go.Proofs.YtcnangcbffoabaaGreatDoor.bookMagic
