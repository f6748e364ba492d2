/- Contracts: may a setting be (layers 17, 18)? No condition. -/
import Derived.Test.YtjfoccbbjhigbaaGreatBase
namespace Go.Proofs.YtjfoccbbjhigbaaGreat
open Go.RowKit
def mayT (o m : Int) : Bool := decide (2 ≤ o) && (decide (o ≤ 64) && (decide (2048 ≤ m) && decide (m ≤ 4294967259)))
theorem mayT_iff (o m : Int) : mayT o m = true ↔ 2 ≤ o ∧ o ≤ 64 ∧ 2048 ≤ m ∧ m ≤ 4294967259 := by unfold mayT; simp
set_option maxRecDepth 100000 in
theorem pmay_any (w : World) (o m : Int) : Calls Tryz.prog 27 #[.agg #[.int .i64 o, .int .i64 m]] w fun e w' => e = .returned (.bool (mayT o m)) ∧ Fr [] w w' := by
  unfold mayT
  by_cases h1 : 2 ≤ o
  · by_cases h2 : o ≤ 64
    · by_cases h3 : 2048 ≤ m
      · by_cases h4 : m ≤ 4294967259
        all_goals
          go_enter Tryz.func27, Tryz.ntmps27
          go_wp2_with fail
          go_ret
          exact ⟨by simp [h1, h2, h3, h4], (Fr.refl _ _).alloc _⟩
      · go_enter Tryz.func27, Tryz.ntmps27
        go_wp2_with fail
        go_ret
        exact ⟨by simp; omega, (Fr.refl _ _).alloc _⟩
    · go_enter Tryz.func27, Tryz.ntmps27
      go_wp2_with fail
      go_ret
      exact ⟨by simp; omega, (Fr.refl _ _).alloc _⟩
  · go_enter Tryz.func27, Tryz.ntmps27
    go_wp2_with fail
    go_ret
    exact ⟨by simp; omega, (Fr.refl _ _).alloc _⟩
set_option maxRecDepth 100000 in
theorem rmay17_any (w : World) (o m : Int) : Calls Tryz.prog 30 #[.int .i64 o, .int .i64 m] w fun e w' => e = .returned (.bool (mayT o m)) ∧ w' = w := by
  unfold mayT
  by_cases h1 : 2 ≤ o
  · by_cases h2 : o ≤ 64
    · by_cases h3 : 2048 ≤ m
      · by_cases h4 : m ≤ 4294967259
        all_goals
          go_enter Tryz.func30, Tryz.ntmps30
          go_wp2_with fail
          go_ret
          exact ⟨by simp [h1, h2, h3, h4], rfl⟩
      · go_enter Tryz.func30, Tryz.ntmps30
        go_wp2_with fail
        go_ret
        exact ⟨by simp; omega, rfl⟩
    · go_enter Tryz.func30, Tryz.ntmps30
      go_wp2_with fail
      go_ret
      exact ⟨by simp; omega, rfl⟩
  · go_enter Tryz.func30, Tryz.ntmps30
    go_wp2_with fail
    go_ret
    exact ⟨by simp; omega, rfl⟩
set_option maxRecDepth 100000 in
theorem rmay18_any (w : World) (o m : Int) : Calls Tryz.prog 9 #[.agg #[.int .i64 o, .int .i64 m]] w fun e w' => e = .returned (.bool (mayT o m)) ∧ Fr [] w w' := by
  go_enter Tryz.func9, Tryz.ntmps9
  go_wp2_with (go_at_call 30; refine (rmay17_any _ o m).mono ?_; rintro e w1 ⟨rfl, rfl⟩)
  go_ret
  exact ⟨rfl, (Fr.refl _ _).alloc _⟩
end Go.Proofs.YtjfoccbbjhigbaaGreat
