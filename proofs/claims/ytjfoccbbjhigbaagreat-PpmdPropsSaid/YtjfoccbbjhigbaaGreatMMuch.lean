/- Contract: a meter of much (layer 8). No condition. -/
import Derived.Test.YtjfoccbbjhigbaaGreatEMet
namespace Go.Proofs.YtjfoccbbjhigbaaGreat
open Go.RowKit
set_option maxRecDepth 100000 in
theorem much_any (w : World) : Calls Tryz.prog 12 #[] w fun e w' => ∃ mp, e = .returned (.pointer (some ⟨mp, 0, none⟩)) ∧ MtN w' mp 0 0 0 0 0 0 ∧ w.heap.size ≤ mp ∧ Fr [] w w' := by
  go_enter Tryz.func12, Tryz.ntmps12
  go_wp2_with (go_at_call 18; refine (mnew_any _).mono ?_; rintro e w1 ⟨rfl, M1, F1⟩)
  go_ret
  exact ⟨_, rfl, M1, Nat.le_succ _, F1⟩
end Go.Proofs.YtjfoccbbjhigbaaGreat
