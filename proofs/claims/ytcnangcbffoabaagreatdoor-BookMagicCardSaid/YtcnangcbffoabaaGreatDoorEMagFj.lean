/- Closed facts on the row and the program (main, text, name), each by the kernel. No condition. -/
import Derived.Test.YtcnangcbffoabaaGreatDoorRows
import Derived.Test.YtcnangcbffoabaaGreatDoorCards
import Derived.Test.YtcnangcbffoabaaGreatDoorChecked
import Derived.ProofKit
import Derived.JoinedCond
import Derived.SevenTiedAt
import Derived.ChangeOld
namespace Go.Proofs.YtcnangcbffoabaaGreatDoor.bookMagic
open Go.ChangeShapes Go.WideShapes Go.ChangeAt Go.RowKit

theorem fact_main : Tryz.pinned.checked.prog.mainIs = some (Rows.bookMagicCard.stood.harness.1, Rows.bookMagicCard.stood.harness.2.toList) := by kernel_rfl
theorem fact_text : Rows.bookMagicRow.wfByText (OpenSpec.ofChange Rows.bookMagicSpec) = true := by kernel_rfl
theorem fact_name : Tryz.pinned.checked.prog.funcNamed Rows.bookMagicRow.func = some 3 := by kernel_rfl
end Go.Proofs.YtcnangcbffoabaaGreatDoor.bookMagic
