/- The law HeaderMains: the walk. No condition. -/
import Derived.Test.YthdfjbliafdchaaHAwakeT
import Derived.Test.YthdfjbliafdchaaHRefM
import Derived.Deep.RegionHeld3
namespace Go.Proofs.Ythdfjbliafdchaa
open Go.RowKit

set_option maxRecDepth 100000 in
set_option maxHeartbeats 4000000 in
theorem walk_HeaderMains (w : World) (v : Value) (f : Folder) (hf : Fo w v f ∧ ∀ b ∈ f.binds, (Lit.int .i64 b.2).wf = true) :
    Calls Try.prog 6 #[v] w fun e w' => e = .returned (.bool true) ∧ Fr [] w w' := by
  obtain ⟨hf, hwf⟩ := hf
  have HF := Lib.hid hf
  have HW := Lib.hid hwf
  obtain ⟨cv, b, p, s, h, k, rfl, hV⟩ := hf
  obtain ⟨ao, cap, rfl, -, -, hco⟩ := hV.co.out
  obtain ⟨aob, capb, rfl, -, -, -⟩ := hV.bi.out
  have HCO0 := Lib.hid hco
  clear hV hco hwf
  obtain ⟨wB, hwB⟩ : ∃ wB, wB = w.alloc (.cells #[.slice ao f.coders.length cap, .slice aob f.binds.length capb, p, s, h, k] 47) := ⟨_, rfl⟩
  have F0 : Fr [] w wB := hwB ▸ (Fr.refl _ _).alloc _
  have HBX := Lib.hid (fun wx (F : Fr [] wB wx) => box6 (hwB ▸ F : Fr [] (w.alloc (.cells #[.slice ao f.coders.length cap, .slice aob f.binds.length capb, p, s, h, k] 47)) wx))
  obtain ⟨n, hN⟩ : ∃ n, f.coders.length = n := ⟨_, rfl⟩
  obtain ⟨m, hM⟩ : ∃ m, f.binds.length = m := ⟨_, rfl⟩
  have HN := Lib.hid hN
  have HM := Lib.hid hM
  rw [hN, hM] at HF HBX hwB ⊢
  clear hN hM
  go_enter Try.func6, Try.ntmps6
  go_wp2_with fail
  rw [← hwB]
  clear hwB
  refine (awake_any wB).mono ?_
  rintro e w1 ⟨rfl, F1⟩
  obtain ⟨d0, d1, d2, d3, d4, d5⟩ := HBX.out _ F1
  by_cases hn : (n : Int) > 1000
  · go_wp2_with fail
    go_ret
    exact ⟨rfl, F0.trans0 F1⟩
  by_cases hm : (m : Int) > 1000
  · go_wp2_with fail
    go_ret
    exact ⟨rfl, F0.trans0 F1⟩
  go_wp2_with fail
  clear d0 d1 d2 d3 d4 d5
  have HBM := Lib.hid (fun wx (F : Fr [] w1 wx) => HBX.out wx (F1.trans0 F))
  have HFM := Lib.hid (fun wx (F : Fr [] w1 wx) => HF.out.fr ((F0.trans0 F1).trans0 F))
  have HFT := Lib.hid (fun wx (F : Fr [] w1 wx) => ((F0.trans0 F1).trans0 F : Fr [] w wx))
  clear HBX HF F0 F1
  go_loopw [3] (fun i wr => ∃ k : Nat, k ≤ n ∧ i = .int .i64 k ∧ Fr [] w1 wr) (fun i _ => n - (intOf i).toNat)
  case atStart => exact ⟨0, Nat.zero_le _, rfl, Fr.refl _ _⟩
  case round =>
    obtain ⟨j, hj, rfl, F⟩ := hrel
    by_cases hlt : j < n
    · have hltI : (j : Int) < (n : Int) := by omega
      obtain ⟨x, hx⟩ := some_get f.coders j (by rw [HN.out]; exact hlt)
      obtain ⟨cb, co, pv, rfl, hb1, hC⟩ := HCO0.out j x hx
      have HA1 := Lib.hid (show ∀ wx, Fr [] w1 wx → wx.cell? ⟨w.heap.size, 0, none⟩ = some (.slice (some ⟨cb, co, none⟩) n cap) ∧ wx.cell? ⟨w.heap.size, 1, none⟩ = some (.slice aob m capb) ∧ wx.cell? ⟨w.heap.size, 2, none⟩ = some p ∧ wx.cell? ⟨w.heap.size, 3, none⟩ = some s ∧ wx.cell? ⟨w.heap.size, 4, none⟩ = some h ∧ wx.cell? ⟨w.heap.size, 5, none⟩ = some k ∧ wx.cell? ⟨cb, co + j * 2, none⟩ = some (.int .i64 x.method) ∧ wx.cell? ⟨cb, co + j * 2 + 1, none⟩ = some pv from fun wx Fx => by
        obtain ⟨d0, d1, d2, d3, d4, d5⟩ := HBM.out wx Fx
        obtain ⟨c0, c1, -⟩ := hC.fr hb1 (HFT.out wx Fx)
        exact ⟨d0, d1, d2, d3, d4, d5, c0, c1⟩)
      clear hC hx
      obtain ⟨xm, hxm⟩ : ∃ xm, x.method = xm := ⟨_, rfl⟩
      rw [hxm] at HA1
      have t0 : ((ins xm : Int) != (ins xm : Int)) = false := by simp
      obtain ⟨d0, d1, d2, d3, d4, d5, d6, d7⟩ := HA1.out _ F
      go_wp2_with fail
      clear d0 d1 d2 d3 d4 d5 d6 d7
      go_region_held3 (fun wx => wx.cell? ⟨w.heap.size, 0, none⟩ = some (.slice (some ⟨cb, co, none⟩) n cap) ∧ wx.cell? ⟨w.heap.size, 1, none⟩ = some (.slice aob m capb) ∧ wx.cell? ⟨w.heap.size, 2, none⟩ = some p ∧ wx.cell? ⟨w.heap.size, 3, none⟩ = some s ∧ wx.cell? ⟨w.heap.size, 4, none⟩ = some h ∧ wx.cell? ⟨w.heap.size, 5, none⟩ = some k ∧ wx.cell? ⟨cb, co + j * 2, none⟩ = some (.int .i64 xm) ∧ wx.cell? ⟨cb, co + j * 2 + 1, none⟩ = some pv)
        (first | exact HA1.out _ F | exact HA1.out _ F.drew | exact HA1.out _ G2 | exact HA1.out _ G1 | go_keep)
        (first
          | (have hq := G1; go_at_call 17; refine (rins_any _ xm pv).mono ?_; rintro e wz ⟨rfl, Fz⟩; have G2 := G1.trans0 Fz)
          | (go_at_call 16; refine (ins_any _ xm pv).mono ?_; rintro e wy ⟨rfl, Fy⟩; have G1 := F.drew.trans0 Fy))
      all_goals
        go_wp2_with fail
        go_roundw
        case rel => exact ⟨j + 1, by omega, by go_num, G2⟩
        case measure => simp [intOf]; omega
    · have hltI : ¬ (j : Int) < (n : Int) := by omega
      obtain ⟨d0, d1, d2, d3, d4, d5⟩ := HBM.out _ F
      go_wp2_with fail
      clear d0 d1 d2 d3 d4 d5
      go_region_held3 (fun wx => wx.cell? ⟨w.heap.size, 0, none⟩ = some (.slice ao n cap) ∧ wx.cell? ⟨w.heap.size, 1, none⟩ = some (.slice aob m capb) ∧ wx.cell? ⟨w.heap.size, 2, none⟩ = some p ∧ wx.cell? ⟨w.heap.size, 3, none⟩ = some s ∧ wx.cell? ⟨w.heap.size, 4, none⟩ = some h ∧ wx.cell? ⟨w.heap.size, 5, none⟩ = some k)
        (first | exact HBM.out _ F | exact HBM.out _ F.drew | exact HBM.out _ G2 | exact HBM.out _ G1 | go_keep)
        (first
          | (have hq := G1; go_at_call 19; refine (rmain_any _ _ f (HFM.out _ G1) (by rw [HN.out]; omega) (by rw [HM.out]; omega)).mono ?_; rintro e wz ⟨rfl, Fz⟩; have G2 := G1.trans0 Fz)
          | (go_at_call 18; refine (main_any _ _ f (HFM.out _ F.drew) (by rw [HN.out]; omega) (by rw [HM.out]; omega) HW.out).mono ?_; rintro e wy ⟨rfl, Fy⟩; have G1 := F.drew.trans0 Fy))
      all_goals
        go_wp2_with fail
        go_ret
        exact ⟨by simp, HFT.out _ G2⟩
end Go.Proofs.Ythdfjbliafdchaa
