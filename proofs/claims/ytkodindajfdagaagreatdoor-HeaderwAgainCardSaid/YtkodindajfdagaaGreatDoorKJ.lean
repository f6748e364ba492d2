/- Contracts: the reference's AllIns, Whole, Lone, fair. No condition but that lengths fit. -/
import Derived.Test.YtkodindajfdagaaGreatDoorKC
import Derived.Test.YtkodindajfdagaaGreatDoorWMayGM
import Derived.Test.YtkodindajfdagaaGreatDoorKD
import Derived.Deep.RegionHeld3
import Derived.BigQuiet
import Derived.Test.YtkodindajfdagaaGreatDoorKE
import Derived.Test.YtkodindajfdagaaGreatDoorJR
import Derived.Test.YtkodindajfdagaaGreatDoorKF
import Derived.Test.YtkodindajfdagaaGreatDoorKG
import Derived.Deep.DeepCutAuto
namespace Go.Proofs.YtkodindajfdagaaGreatDoor
open Go.RowKit
theorem lone_le (f : Folder) : loneN f ≤ f.binds.length:=by
 unfold loneN
 cases e : ((List.range (f.binds.length + 1)).find? fun i : Nat => decide ((i : Int) ∉ f.binds.map (·.1))) with
 | none => simp
 | some k =>
   rw [List.find?_range_eq_some] at e
   have:=e.2.1
   simp at this
   simp
   omega
end Go.Proofs.YtkodindajfdagaaGreatDoor
/- Contract: the reference's folder. No condition but that lengths fit. -/
namespace Go.Proofs.YtkodindajfdagaaGreatDoor
open Go.RowKit
end Go.Proofs.YtkodindajfdagaaGreatDoor
/- Contract: the reference's May. No condition but that lengths fit. -/
namespace Go.Proofs.YtkodindajfdagaaGreatDoor
open Go.RowKit
end Go.Proofs.YtkodindajfdagaaGreatDoor
