/- The law GraphChecks: the walk. -/
import Derived.Test.YtakpeffpocjgoaaGSmall
import Derived.Test.YtakpeffpocjgoaaGAwake
import Derived.Test.YtakpeffpocjgoaaGRefC
namespace Go.Proofs.Ytakpeffpocjgoaa
open Go.RowKit

set_option maxRecDepth 100000 in
theorem checks_walk (hrh : RHangsOk) (w : World) (v : Value) (f : Folder) (pv : Value) (np : List UInt64) (hf : Fo w v f) (hp : Sl w pv (u64v np)) :
    Calls Try.prog 3 #[v, pv] w fun e w' => e = .returned (.bool true) ∧ Fr [] w w' := by
  have HF := Lib.hid hf
  have HP := Lib.hid hp
  have HRH := Lib.hid hrh
  obtain ⟨c, b, p, s, h, k, rfl, -⟩ := hf
  obtain ⟨pao, pcap, rfl, -⟩ := hp.out
  clear hp hrh
  obtain ⟨wB, hwB⟩ : ∃ wB, wB = w.alloc (.cells #[c, b, p, s, h, k] 30) := ⟨_, rfl⟩
  have F0 : Fr [] w wB := hwB ▸ (Fr.refl _ _).alloc _
  have HBX := Lib.hid (fun wx (F : Fr [] wB wx) => box6 (hwB ▸ F : Fr [] (w.alloc (.cells #[c, b, p, s, h, k] 30)) wx))
  simp only [u64v_length] at *
  go_enter Try.func3, Try.ntmps3
  go_wp2_with fail
  rw [← hwB]
  clear hwB
  refine (awake_any wB).mono ?_
  rintro e w1 ⟨rfl, F1⟩
  obtain ⟨d0, d1, d2, d3, d4, d5⟩ := HBX.out _ F1
  by_cases hS : SmallP f
  rotate_left
  · have HS := Lib.hid hS
    clear hS
    go_wp2_with (go_at_call 8; refine (small_any _ _ f (HF.out.fr (F0.trans0 F1))).mono ?_; rintro e w2 ⟨r, rfl, hr, F2⟩; obtain rfl : r = false := Bool.eq_false_iff.2 (fun hh => HS.out (hr.1 hh)); clear hr)
    go_ret
    exact ⟨rfl, (F0.trans0 F1).trans0 F2⟩
  have HS := Lib.hid hS
  clear hS
  by_cases hl : 400 < np.length
  · have hl' : (400 : Int) < (np.length : Int) := by omega
    clear hl
    go_wp2_with (go_at_call 8; refine (small_any _ _ f (HF.out.fr (F0.trans0 F1))).mono ?_; rintro e w2 ⟨r, rfl, hr, F2⟩; obtain rfl : r = true := hr.2 HS.out; clear hr)
    go_ret
    exact ⟨rfl, (F0.trans0 F1).trans0 F2⟩
  have hl' : (np.length : Int) ≤ 400 := by omega
  go_wp2_with (go_at_call 8; refine (small_any _ _ f (HF.out.fr (F0.trans0 F1))).mono ?_; rintro e w2 ⟨r, rfl, hr, F2⟩; obtain rfl : r = true := hr.2 HS.out; clear hr)
  have F := F1.trans0 F2
  clear d0 d1 d2 d3 d4 d5
  obtain ⟨d0, d1, d2, d3, d4, d5⟩ := HBX.out _ F
  have HPR := Lib.hid (show ∀ c ∈ f.coders, c.props.length ≤ 2000 from fun c hc => Nat.le_trans (HS.out.2 c hc) (by decide))
  have HL := Lib.hid (show np.length ≤ 400 by omega)
  go_region_held3 (fun w' => w'.cell? ⟨w.heap.size, 0, none⟩ = some c ∧ w'.cell? ⟨w.heap.size, 1, none⟩ = some b ∧ w'.cell? ⟨w.heap.size, 2, none⟩ = some p ∧ w'.cell? ⟨w.heap.size, 3, none⟩ = some s ∧ w'.cell? ⟨w.heap.size, 4, none⟩ = some h ∧ w'.cell? ⟨w.heap.size, 5, none⟩ = some k)
    (first | exact ⟨d0, d1, d2, d3, d4, d5⟩ | exact HBX.out _ F.drew | exact HBX.out _ G1 | exact HBX.out _ G2 | go_keep)
    (first
      | (go_at_call 9; refine (check_any _ _ _ f (HF.out.fr (F0.trans0 F.drew)) HS.out.1 HPR.out np (HP.out.fr0 (F0.trans0 F.drew)) HL.out).mono ?_; rintro e wx ⟨rfl, Fx⟩; have G1 := F.drew.trans0 Fx)
      | (go_at_call 10; refine (rcheck_any HRH.out _ _ _ f (HF.out.fr (F0.trans0 G1)) HS.out.1 np (HP.out.fr0 (F0.trans0 G1)) HL.out).mono ?_; rintro e wy ⟨rfl, Fy⟩; have G2 := G1.trans0 Fy))
  go_wp2_with fail
  go_ret
  exact ⟨by simp, F0.trans0 G2⟩
end Go.Proofs.Ytakpeffpocjgoaa
