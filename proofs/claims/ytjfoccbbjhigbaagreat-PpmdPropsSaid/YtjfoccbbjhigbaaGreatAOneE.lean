/- Contracts: units from what was never given out (layer 16). No condition but that places and lengths fit. -/
import Derived.Test.YtjfoccbbjhigbaaGreatAMisc
namespace Go.Proofs.YtjfoccbbjhigbaaGreat
open Go.RowKit
section
variable {w : World} {ab mb mp : Nat} {a : Ar}
set_option maxRecDepth 100000 in
theorem one_easy (h : ArAt w ab mb mp a) (hF : a.Fit) (hne : a.high ≠ a.low) (h12 : 12 ≤ a.high) : Calls Tryz.prog 93 #[.pointer (some ⟨ab, 0, none⟩)] w fun e w' => e = .returned (.int .i64 ((a.high - 12 : Nat) : Int)) ∧ ArAt w' ab mb mp { a with high := a.high - 12 } ∧ Fr [ab] w w' := by
  have HS := Lib.hid (shut_any h)
  have hl0 : decide (a.len = 0) = false := by have := hF.len; simp; omega
  rw [hl0] at HS
  have k8 := h.cL
  have k9 := h.cH
  have z9 := h.blk.free 211
  have hl := h.blk.lt
  have hb := hF.high
  have hb2 := hF.low
  have t1 : ((a.high : Int) != (a.low : Int)) = true := by simp; omega
  have t2 : ¬ (a.high : Int) = (a.low : Int) := by omega
  have e : ((a.high - 12 : Nat) : Int) = (a.high : Int) - 12 := by omega
  have HT := Lib.hid (h.turn (a' := { a with high := a.high - 12 }) rfl rfl (arF_high _ _ mp (a.high - 12)))
  rw [e] at HT ⊢
  clear h hF hne
  go_enter Tryz.func93, Tryz.ntmps93
  go_wp2_with (go_at_call 98; refine HS.out.mono ?_; rintro e w1 ⟨rfl, rfl⟩)
  go_region
  go_wp2_with fail
  go_ret
  exact ⟨rfl, HT.out.same Same.drew, ((Fr.refl _ _).setCell (.inl (by simp)) _).drew⟩
set_option maxRecDepth 100000 in
theorem units_easy (h : ArAt w ab mb mp a) (hF : a.Fit) (n : Nat) (hn : 1 ≤ n) (hn2 : n ≤ 128) (hfree : a.free (whichT n) = 0) (hrow : whichT n < 38) (hlow : a.low ≤ a.high) (hroom : unitsT (whichT n) * 12 ≤ a.high - a.low) (hu : unitsT (whichT n) ≤ 128) :
    Calls Tryz.prog 94 #[.pointer (some ⟨ab, 0, none⟩), .int .i64 n] w fun e w' => e = .returned (.int .i64 a.low) ∧ ArAt w' ab mb mp { a with low := a.low + unitsT (whichT n) * 12 } ∧ Fr [ab] w w' := by
  have HS := Lib.hid (shut_any h)
  have hl0 : decide (a.len = 0) = false := by have := hF.len; simp; omega
  rw [hl0] at HS
  have kw := h.cW (i := n) (by omega)
  have ku := h.cU hrow
  have kf := h.cF hrow
  rw [hfree] at kf
  have k8 := h.cL
  have k9 := h.cH
  have z8 := h.blk.free 210
  have hl := h.blk.lt
  have hb := hF.high
  have hb2 := hF.low
  obtain ⟨u, hu0⟩ : ∃ u, u = unitsT (whichT n) := ⟨_, rfl⟩
  obtain ⟨r, hr0⟩ : ∃ r, r = whichT n := ⟨_, rfl⟩
  have HT := Lib.hid (h.turn (a' := { a with low := a.low + unitsT (whichT n) * 12 }) rfl rfl (arF_low _ _ mp (a.low + unitsT (whichT n) * 12)))
  rw [← hu0] at ku hroom hu HT ⊢
  rw [← hr0] at kw ku kf hrow hfree
  have e : ((a.low + u * 12 : Nat) : Int) = (a.low : Int) + (u : Int) * 12 := by omega
  rw [e] at HT
  have hI1 : ¬ (n : Int) < 1 := by omega
  have hI2 : ¬ (128 : Int) < (n : Int) := by omega
  have hI3 : (u : Int) * 12 ≤ (a.high : Int) - (a.low : Int) := by omega
  have hI4 : (r : Int) < 38 := by omega
  have hI5 : (n : Int) < 129 := by omega
  have hI6 : (u : Int) ≤ 128 := by omega
  clear h hF hfree hroom hu0 hr0
  go_enter Tryz.func94, Tryz.ntmps94
  go_wp2_with (go_at_call 98; refine HS.out.mono ?_; rintro e w1 ⟨rfl, rfl⟩)
  go_region
  go_wp2_with fail
  go_ret
  exact ⟨rfl, HT.out.same Same.drew, ((Fr.refl _ _).setCell (.inl (by simp)) _).drew⟩
end
end Go.Proofs.YtjfoccbbjhigbaaGreat
