/- Closed facts on the row and the program (mps, ifs, mpo, lps, wks, vrd, rst, ifo, lpo), each by the kernel. No condition. -/
import Derived.Test.YthbkcjlpelihlaaGreatDoorRows
import Derived.Test.YthbkcjlpelihlaaGreatDoorCards
import Derived.Test.YthbkcjlpelihlaaGreatDoorChecked
import Derived.ProofKit
import Derived.JoinedCond
import Derived.SevenTiedAt
import Derived.ChangeOld
namespace Go.Proofs.YthbkcjlpelihlaaGreatDoor.extractEmpty
open Go.ChangeShapes Go.WideShapes Go.ChangeAt Go.RowKit

theorem fact_mps : ((Rows.extractEmptyRow.maps == (Tryz.f3.params.toList ++ (OpenSpec.ofChange Rows.extractEmptySpec).bare.plain.varTypes Tryz.pinned.checked.prog).any (Tryz.pinned.checked.prog.mapsRec ·))) = true := by kernel_rfl
theorem fact_ifs : ((Rows.extractEmptyRow.ifaces == (Tryz.f3.params.toList ++ (OpenSpec.ofChange Rows.extractEmptySpec).bare.plain.varTypes Tryz.pinned.checked.prog).any (Tryz.pinned.checked.prog.ifacesRec ·))) = true := by kernel_rfl
theorem fact_mpo : ((Rows.extractEmptyRow.mapsOut == Tryz.pinned.checked.prog.mapsAmong Tryz.f3.resultTypes.toList)) = true := by kernel_rfl
theorem fact_lps : ((Rows.extractEmptyRow.loops == (Tryz.f3.params.toList ++ (OpenSpec.ofChange Rows.extractEmptySpec).bare.plain.varTypes Tryz.pinned.checked.prog).any (Tryz.pinned.checked.prog.loopsFrom ·))) = true := by kernel_rfl
theorem fact_wks : ((Rows.extractEmptyRow.wideKeys == (Tryz.f3.params.toList ++ (OpenSpec.ofChange Rows.extractEmptySpec).bare.plain.varTypes Tryz.pinned.checked.prog ++ Tryz.f3.resultTypes.toList).any (Tryz.pinned.checked.prog.wideKeysFrom ·))) = true := by kernel_rfl
theorem fact_vrd : ((OpenSpec.ofChange Rows.extractEmptySpec).bare.vars.all (Tryz.pinned.checked.prog.varReadable ·)) = true := by kernel_rfl
theorem fact_rst : (Tryz.f3.resultTypes.all (fun t => Tryz.pinned.checked.prog.readableRec t && decide (t < Tryz.pinned.checked.prog.types.size))) = true := by kernel_rfl
theorem fact_ifo : ((Rows.extractEmptyRow.ifacesOut == Tryz.f3.resultTypes.toList.any (Tryz.pinned.checked.prog.ifacesRec ·))) = true := by kernel_rfl
theorem fact_lpo : ((Rows.extractEmptyRow.loopsOut == Tryz.f3.resultTypes.toList.any (Tryz.pinned.checked.prog.loopsFrom ·))) = true := by kernel_rfl
end Go.Proofs.YthbkcjlpelihlaaGreatDoor.extractEmpty
