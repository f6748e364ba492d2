/- Closed facts on the row and the program (pk, sht, sth, may, lft, mk, knd, pin, vei, vef), each by the kernel. No condition. -/
import Derived.Test.YthbkcjlpelihlaaGreatDoorRows
import Derived.Test.YthbkcjlpelihlaaGreatDoorCards
import Derived.Test.YthbkcjlpelihlaaGreatDoorChecked
import Derived.ProofKit
import Derived.JoinedCond
import Derived.SevenTiedAt
import Derived.ChangeOld
namespace Go.Proofs.YthbkcjlpelihlaaGreatDoor.extractEmpty
open Go.ChangeShapes Go.WideShapes Go.ChangeAt Go.RowKit

theorem fact_pk : ((Rows.extractEmptyRow.plainKeys == Tryz.pinned.checked.prog.plainKeys)) = true := by kernel_rfl
theorem fact_sht : (Rows.extractEmptyRow.shortTexts.isNone) = true := by kernel_rfl
theorem fact_sth : (Tryz.pinned.checked.prog.stopsHeard) = true := by kernel_rfl
theorem fact_may : (Tryz.pinned.checked.prog.mayEnter) = true := by kernel_rfl
theorem fact_lft : ((Rows.extractEmptyRow.lifted == Tryz.pinned.checked.prog.liftsFinal)) = true := by kernel_rfl
theorem fact_mk : ((Tryz.pinned.checked.prog.make == some Rows.extractEmptyRow.make)) = true := by kernel_rfl
theorem fact_knd : ((Rows.extractEmptyRow.kinds == (if Rows.extractEmptyRow.domain.isEmpty then [] else Tryz.f3.params.toList.map fun t => match Tryz.pinned.checked.prog.underlying t with | some (.int k) => some k | _ => none))) = true := by kernel_rfl
theorem fact_pin : ((Rows.extractEmptyRow.pinned == Rows.extractEmptyRow.pinnedBy)) = true := by kernel_rfl
theorem fact_vei : ((Rows.extractEmptyRow.veiled == (Tryz.f3.params.toList ++ (OpenSpec.ofChange Rows.extractEmptySpec).bare.plain.varTypes Tryz.pinned.checked.prog ++ Tryz.f3.resultTypes.toList).any (Tryz.pinned.checked.prog.veiledRec ·))) = true := by kernel_rfl
theorem fact_vef : (Rows.extractEmptyRow.veiledFits Tryz.pinned.checked.prog Tryz.f3.params.toList (Tryz.f3.params.toList ++ (OpenSpec.ofChange Rows.extractEmptySpec).bare.plain.varTypes Tryz.pinned.checked.prog ++ Tryz.f3.resultTypes.toList)) = true := by kernel_rfl
end Go.Proofs.YthbkcjlpelihlaaGreatDoor.extractEmpty
