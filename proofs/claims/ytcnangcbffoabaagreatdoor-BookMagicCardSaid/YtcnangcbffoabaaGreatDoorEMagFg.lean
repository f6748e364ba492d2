/- Closed facts on the row and the program (pk, sht, sth, may, lft, mk, knd, pin, vei, vef), each by the kernel. No condition. -/
import Derived.Test.YtcnangcbffoabaaGreatDoorRows
import Derived.Test.YtcnangcbffoabaaGreatDoorCards
import Derived.Test.YtcnangcbffoabaaGreatDoorChecked
import Derived.ProofKit
import Derived.JoinedCond
import Derived.SevenTiedAt
import Derived.ChangeOld
namespace Go.Proofs.YtcnangcbffoabaaGreatDoor.bookMagic
open Go.ChangeShapes Go.WideShapes Go.ChangeAt Go.RowKit

theorem fact_pk : ((Rows.bookMagicRow.plainKeys == Tryz.pinned.checked.prog.plainKeys)) = true := by kernel_rfl
theorem fact_sht : (Rows.bookMagicRow.shortTexts.isNone) = true := by kernel_rfl
theorem fact_sth : (Tryz.pinned.checked.prog.stopsHeard) = true := by kernel_rfl
theorem fact_may : (Tryz.pinned.checked.prog.mayEnter) = true := by kernel_rfl
theorem fact_lft : ((Rows.bookMagicRow.lifted == Tryz.pinned.checked.prog.liftsFinal)) = true := by kernel_rfl
theorem fact_mk : ((Tryz.pinned.checked.prog.make == some Rows.bookMagicRow.make)) = true := by kernel_rfl
theorem fact_knd : ((Rows.bookMagicRow.kinds == (if Rows.bookMagicRow.domain.isEmpty then [] else Tryz.f3.params.toList.map fun t => match Tryz.pinned.checked.prog.underlying t with | some (.int k) => some k | _ => none))) = true := by kernel_rfl
theorem fact_pin : ((Rows.bookMagicRow.pinned == Rows.bookMagicRow.pinnedBy)) = true := by kernel_rfl
theorem fact_vei : ((Rows.bookMagicRow.veiled == (Tryz.f3.params.toList ++ (OpenSpec.ofChange Rows.bookMagicSpec).bare.plain.varTypes Tryz.pinned.checked.prog ++ Tryz.f3.resultTypes.toList).any (Tryz.pinned.checked.prog.veiledRec ·))) = true := by kernel_rfl
theorem fact_vef : (Rows.bookMagicRow.veiledFits Tryz.pinned.checked.prog Tryz.f3.params.toList (Tryz.f3.params.toList ++ (OpenSpec.ofChange Rows.bookMagicSpec).bare.plain.varTypes Tryz.pinned.checked.prog ++ Tryz.f3.resultTypes.toList)) = true := by kernel_rfl
end Go.Proofs.YtcnangcbffoabaaGreatDoor.bookMagic
