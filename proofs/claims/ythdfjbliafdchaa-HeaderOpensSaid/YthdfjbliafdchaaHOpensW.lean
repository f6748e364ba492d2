/- The law HeaderOpens: the walk. No condition. -/
import Derived.Test.YthdfjbliafdchaaHAwakeT
import Derived.Test.YthdfjbliafdchaaHOpenB
namespace Go.Proofs.Ythdfjbliafdchaa
open Go.RowKit

theorem OpenR.out {w : World} {b : List UInt8} {e : Ending} {w' : World} (h : OpenR w b e w') : ∃ v1 v2, e = .returned (.tuple #[v1, v2, .int .i64 (opCode b : Int)]) ∧ Sl w' v1 (bv (opArea b)) ∧ Sl w' v2 (bv (opHead b)) ∧ Fr [] w w' := h

set_option maxRecDepth 100000 in
set_option maxHeartbeats 4000000 in
theorem walk_HeaderOpens (w : World) (v : Value) (b : List UInt8) (hv : Sl w v (bv b)) :
    Calls Try.prog 3 #[v] w fun e w' => e = .returned (.bool true) ∧ Fr [] w w' := by
  have HV := Lib.hid hv
  obtain ⟨ao, cap, rfl, -⟩ := hv.out
  clear hv
  rw [bv_length] at HV ⊢
  go_enter Try.func3, Try.ntmps3
  go_wp2_with fail
  refine (awake_any w).mono ?_
  rintro e w1 ⟨rfl, F1⟩
  by_cases hb : b.length ≤ 32768
  rotate_left
  · have t0 : (32768 : Int) < (b.length : Int) := by omega
    clear hb
    go_wp2_with fail
    go_ret
    exact ⟨rfl, F1⟩
  have t0 : ¬ (32768 : Int) < (b.length : Int) := by omega
  have HA := Lib.hid (open_any w1 _ b (HV.out.fr0 F1) hb)
  have HR := Lib.hid (fun wx (F : Fr [] w wx) => ropen_any wx _ b (HV.out.fr0 F) hb)
  have tc : ((opCode b : Int) == (opCode b : Int)) = true := by simp
  clear hb
  go_wp2_with (first
    | (have hq := G1; go_at_call 11; refine (bytes_any _ _ _ (opHead b) (opHead b) (HX2.out.fr0 G1) (HY2.out.fr0 G1)).mono ?_; rw [decide_eq_true (rfl : opHead b = opHead b)]; rintro e w5 ⟨rfl, S5⟩; have G2 := G1.trans0 S5.fr)
    | (have hq := F3; go_at_call 11; refine (bytes_any _ _ _ (opArea b) (opArea b) HX1.out HY1.out).mono ?_; rw [decide_eq_true (rfl : opArea b = opArea b)]; rintro e w4 ⟨rfl, S4⟩; have G1 : Fr [] w3 w4 := S4.fr)
    | (have hq := F2; go_at_call 10; refine (HR.out w2 (F1.trans0 F2)).mono ?_; intro e w3 hr; obtain ⟨y1, y2, rfl, hy1, hy2, F3⟩ := hr.out; have HX1 := Lib.hid (hx1.out.fr0 F3); have HX2 := Lib.hid (hx2.out.fr0 F3); have HY1 := Lib.hid hy1; have HY2 := Lib.hid hy2; obtain ⟨yo1, yc1, rfl, -⟩ := hy1.out; obtain ⟨yo2, yc2, rfl, -⟩ := hy2.out; clear hr hy1 hy2)
    | (go_at_call 9; refine HA.out.mono ?_; intro e w2 hr; obtain ⟨x1, x2, rfl, hx1', hx2', F2⟩ := hr.out; have hx1 := Lib.hid hx1'; have hx2 := Lib.hid hx2'; obtain ⟨xo1, xc1, rfl, -⟩ := hx1'.out; obtain ⟨xo2, xc2, rfl, -⟩ := hx2'.out; clear hr hx1' hx2'))
  go_ret
  exact ⟨rfl, (F1.trans0 F2).trans0 (F3.trans0 G2)⟩
end Go.Proofs.Ythdfjbliafdchaa
