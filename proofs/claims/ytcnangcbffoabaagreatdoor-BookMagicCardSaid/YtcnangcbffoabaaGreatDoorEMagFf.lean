/- Closed facts on the row and the program (mps, ifs, mpo, lps, wks, vrd, rst, ifo, lpo), each by the kernel. No condition. -/
import Derived.Test.YtcnangcbffoabaaGreatDoorRows
import Derived.Test.YtcnangcbffoabaaGreatDoorCards
import Derived.Test.YtcnangcbffoabaaGreatDoorChecked
import Derived.ProofKit
import Derived.JoinedCond
import Derived.SevenTiedAt
import Derived.ChangeOld
namespace Go.Proofs.YtcnangcbffoabaaGreatDoor.bookMagic
open Go.ChangeShapes Go.WideShapes Go.ChangeAt Go.RowKit

theorem fact_mps : ((Rows.bookMagicRow.maps == (Tryz.f3.params.toList ++ (OpenSpec.ofChange Rows.bookMagicSpec).bare.plain.varTypes Tryz.pinned.checked.prog).any (Tryz.pinned.checked.prog.mapsRec ·))) = true := by kernel_rfl
theorem fact_ifs : ((Rows.bookMagicRow.ifaces == (Tryz.f3.params.toList ++ (OpenSpec.ofChange Rows.bookMagicSpec).bare.plain.varTypes Tryz.pinned.checked.prog).any (Tryz.pinned.checked.prog.ifacesRec ·))) = true := by kernel_rfl
theorem fact_mpo : ((Rows.bookMagicRow.mapsOut == Tryz.pinned.checked.prog.mapsAmong Tryz.f3.resultTypes.toList)) = true := by kernel_rfl
theorem fact_lps : ((Rows.bookMagicRow.loops == (Tryz.f3.params.toList ++ (OpenSpec.ofChange Rows.bookMagicSpec).bare.plain.varTypes Tryz.pinned.checked.prog).any (Tryz.pinned.checked.prog.loopsFrom ·))) = true := by kernel_rfl
theorem fact_wks : ((Rows.bookMagicRow.wideKeys == (Tryz.f3.params.toList ++ (OpenSpec.ofChange Rows.bookMagicSpec).bare.plain.varTypes Tryz.pinned.checked.prog ++ Tryz.f3.resultTypes.toList).any (Tryz.pinned.checked.prog.wideKeysFrom ·))) = true := by kernel_rfl
theorem fact_vrd : ((OpenSpec.ofChange Rows.bookMagicSpec).bare.vars.all (Tryz.pinned.checked.prog.varReadable ·)) = true := by kernel_rfl
theorem fact_rst : (Tryz.f3.resultTypes.all (fun t => Tryz.pinned.checked.prog.readableRec t && decide (t < Tryz.pinned.checked.prog.types.size))) = true := by kernel_rfl
theorem fact_ifo : ((Rows.bookMagicRow.ifacesOut == Tryz.f3.resultTypes.toList.any (Tryz.pinned.checked.prog.ifacesRec ·))) = true := by kernel_rfl
theorem fact_lpo : ((Rows.bookMagicRow.loopsOut == Tryz.f3.resultTypes.toList.any (Tryz.pinned.checked.prog.loopsFrom ·))) = true := by kernel_rfl
end Go.Proofs.YtcnangcbffoabaaGreatDoor.bookMagic
