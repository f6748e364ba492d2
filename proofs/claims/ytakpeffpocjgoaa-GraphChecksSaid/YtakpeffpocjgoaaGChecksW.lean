/- The law GraphChecks: the walk, whole. No condition. -/
import Derived.Test.YtakpeffpocjgoaaGChecks
import Derived.Test.YtakpeffpocjgoaaGRefH
namespace Go.Proofs.Ytakpeffpocjgoaa
open Go.RowKit

theorem rhangs_ok : RHangsOk := fun w v pv f hf hs np hpv => by
  have key : Calls Try.prog 23 #[v, pv] w (Tells (RHangs f np) w) := by
    by_cases h : 1 ≤ f.coders.length ∧ f.coders.length ≤ 8 ∧ f.binds.length + 1 = f.coders.length ∧ f.sizes.length = f.coders.length ∧ np = f.packs.length
    · obtain ⟨q1, q2, q3, q4, q5⟩ := h
      exact rhangs_yes w v pv f hf hs np hpv (by omega) (by omega) q3 q4 q5
    · exact rhangs_no w v pv f hf hs np hpv h
  exact key.mono (fun e w' ⟨r, he, hr, F⟩ => ⟨r, he, hr.trans (rhangs_iff f np), F⟩)

theorem walk_GraphChecks (w : World) (v : Value) (f : Folder) (pv : Value) (np : List UInt64) (hf : Fo w v f) (hp : Sl w pv (u64v np)) :
    Calls Try.prog 3 #[v, pv] w fun e w' => e = .returned (.bool true) ∧ Fr [] w w' := checks_walk rhangs_ok w v f pv np hf hp
end Go.Proofs.Ytakpeffpocjgoaa
