/- The law HeaderBounds: the walk. No condition. -/
import Derived.Test.YthdfjbliafdchaaHBoundsOM
namespace Go.Proofs.Ythdfjbliafdchaa
open Go.RowKit Go.Maps

set_option maxRecDepth 100000 in
set_option maxHeartbeats 8000000 in
theorem walk_HeaderBounds (w : World) (v : Value) (b : List UInt8) (hv : Sl w v (bv b)) :
    Calls Try.prog 4 #[v] w fun e w' => e = .returned (.bool true) ∧ Fr [] w w' := by
  have HV := Lib.hid hv
  obtain ⟨ao, cap, rfl, -⟩ := hv.out
  clear hv
  rw [bv_length] at HV ⊢
  by_cases hok : b.length ≤ 8192 ∧ (parseL b).2 = 0
  · exact bounds_ok w ao cap b HV.out hok.1 hok.2
  go_enter Try.func4, Try.ntmps4
  go_wp2_with fail
  refine (awake_any w).mono ?_
  rintro e w1 ⟨rfl, F1⟩
  by_cases hb : b.length ≤ 8192
  rotate_left
  · have t0 : (8192 : Int) < (b.length : Int) := by omega
    clear hb hok
    go_wp2_with fail
    go_ret
    exact ⟨rfl, F1⟩
  have t0 : ¬ (8192 : Int) < (b.length : Int) := by omega
  by_cases hk : (parseL b).2 = 0
  · exact absurd ⟨hb, hk⟩ hok
  clear hok
  · have hcode : 3 ≤ (parseL b).2 ∧ (parseL b).2 ≤ 18 := by
      rcases parse_code b with h | h
      · exact absurd h hk
      · exact h
    have hno : (parseL b).1 = noDesc := by
      unfold parseL at hk ⊢
      by_cases hb0 : b = []
      · rw [if_pos hb0]
      · rw [if_neg hb0] at hk
        rw [if_neg hb0]
        by_cases hz : (parseTail (parseBody (newRs b))).k = 0
        · rw [if_pos hz] at hk; exact absurd rfl hk
        · rw [if_neg hz]
    have HA := Lib.hid (parse_val w1 _ b (HV.out.fr0 F1) hb false 0 0 0 0 0 0 _ (by rw [hno]; rfl) (by rw [hno]; rfl) (by rw [hno]; rfl) (by rw [hno]; rfl) (by rw [hno]; rfl) (by rw [hno]; rfl) (by rw [hno]; rfl) rfl)
    generalize (parseL b).1 = r at HA hno
    generalize (parseL b).2 = k at *
    have t1 : ((k : Int) == 0) = false := by rw [beq_eq_false_iff_ne]; omega
    have t2 : ((k : Int) != 0) = true := by simp; omega
    have t3 : (3 : Int) ≤ (k : Int) := by omega
    have t4 : (k : Int) ≤ 18 := by omega
    clear hk hcode hno hb
    go_wp2_with (first
      | (have hq := F2; go_at_call 13; refine (same0 _ _ _ _ _ _ _ _ _ _ _).mono ?_; rintro e w3 ⟨rfl, F3⟩)
      | (go_at_call 12; refine HA.out.mono ?_; rintro e w2 ⟨pao, pcap, cao, ccap, fao, fcap, sao, scap, eao, ecap, rfl, -, F2⟩))
    go_ret
    exact ⟨rfl, ((F1.trans0 F2).alloc _).trans0 F3⟩
end Go.Proofs.Ythdfjbliafdchaa
