/- The law SrcSums: Add64, Mul64, Add, Times, the references', and the walk. No condition. -/
import Derived.Test.YtklbocdeifebkaaSrcE
import Derived.Shelf.Bits.Mul64
namespace Go.Proofs.Ytklbocdeifebkaa
open Go.RowKit

def addS (a b : Nat) : Nat × Bool := if a + b < 18446744073709551616 then (a + b, true) else (0, false)
def timesS (a b : Nat) : Nat × Bool := if a * b < 18446744073709551616 then (a * b, true) else (0, false)

theorem add64_run (x y : Int) (hx : 0 ≤ x) (hy : 0 ≤ y) (w : World) :
    (callFunc 48 #[.int .u64 x, .int .u64 y, .int .u64 0]).run Try.prog w =
      .ok (.value (.tuple #[.int .u64 ((x + y + 0) % 18446744073709551616), .int .u64 ((x + y + 0) / 18446744073709551616)])) w := by
  rw [run_callFunc_extern Try.func48 (by kernel_rfl) (by kernel_rfl) (by kernel_rfl) (e := add64Entry) (by kernel_rfl), run_add64 x y 0 hx hy (by omega) (by omega)]
  rfl

theorem add64_low (a b : Nat) (h : a + b < 18446744073709551616) (w : World) :
    (callFunc 48 #[.int .u64 a, .int .u64 b, .int .u64 0]).run Try.prog w = .ok (.value (.tuple #[.int .u64 ((a : Int) + b), .int .u64 0])) w := by
  rw [add64_run a b (by omega) (by omega) w]
  rw [show ((a : Int) + b + 0) % 18446744073709551616 = (a : Int) + b from by omega, show ((a : Int) + b + 0) / 18446744073709551616 = 0 from by omega]

theorem add64_high (a b : Nat) (ha : a < 18446744073709551616) (hb : b < 18446744073709551616) (h : ¬ a + b < 18446744073709551616) :
    ∃ r : Int, ∀ w : World, (callFunc 48 #[.int .u64 a, .int .u64 b, .int .u64 0]).run Try.prog w = .ok (.value (.tuple #[.int .u64 r, .int .u64 1])) w := by
  refine ⟨((a : Int) + b + 0) % 18446744073709551616, fun w => ?_⟩
  rw [add64_run a b (by omega) (by omega) w]
  rw [show ((a : Int) + b + 0) / 18446744073709551616 = 1 from by omega]

theorem add_any (w : World) (a b : Nat) (ha : a < 18446744073709551616) (hb : b < 18446744073709551616) :
    Calls Try.prog 24 #[.int .u64 a, .int .u64 b] w fun e w' => e = .returned (.tuple #[.int .u64 (addS a b).1, .bool (addS a b).2]) ∧ w = w' := by
  by_cases h : a + b < 18446744073709551616
  · have hr := add64_low a b h
    have e : addS a b = (a + b, true) := by unfold addS; rw [if_pos h]
    rw [e]
    clear e h ha hb
    go_enter Try.func24, Try.ntmps24
    go_wp2
    go_ret2
    exact ⟨rfl, rfl⟩
  · obtain ⟨r, hr⟩ := add64_high a b ha hb h
    have e : addS a b = (0, false) := by unfold addS; rw [if_neg h]
    rw [e]
    clear e h ha hb
    go_enter Try.func24, Try.ntmps24
    go_wp2
    go_ret2
    exact ⟨rfl, rfl⟩

theorem refadd_any (w : World) (a b : Nat) (ha : a < 18446744073709551616) (hb : b < 18446744073709551616) :
    Calls Try.prog 26 #[.int .u64 a, .int .u64 b] w fun e w' => e = .returned (.tuple #[.int .u64 (addS a b).1, .bool (addS a b).2]) ∧ w = w' := by
  by_cases h : a + b < 18446744073709551616
  · have e : addS a b = (a + b, true) := by unfold addS; rw [if_pos h]
    rw [e]
    clear e
    go_enter Try.func26, Try.ntmps26
    go_wp2
    go_ret2
    exact ⟨rfl, rfl⟩
  · have e : addS a b = (0, false) := by unfold addS; rw [if_neg h]
    rw [e]
    clear e
    go_enter Try.func26, Try.ntmps26
    go_wp2
    go_ret2
    exact ⟨rfl, rfl⟩

namespace M64
theorem maskN (a : Nat) (ha : a < 18446744073709551616) : bits .and .u64 (a : Int) 4294967295 = ((a % 4294967296 : Nat) : Int) := by
  have h := bits_and_u64_nat a 4294967295 ha (by omega)
  have e : a &&& 4294967295 = a % 4294967296 := Nat.and_two_pow_sub_one_eq_mod a 32
  rw [e] at h
  exact h
theorem divN (a : Nat) : (a : Int) / 4294967296 = ((a / 4294967296 : Nat) : Int) := by omega
theorem mulN (a b : Nat) : (a : Int) * (b : Int) = ((a * b : Nat) : Int) := (Int.natCast_mul a b).symm
theorem addN (a b : Nat) : (a : Int) + (b : Int) = ((a + b : Nat) : Int) := (Int.natCast_add a b).symm
theorem wrapN (a : Nat) (ha : a < 18446744073709551616) : IntKind.u64.wrap (a : Int) = (a : Int) := by rw [IntKind.wrap_u64]; omega
theorem wrapM (a : Nat) : IntKind.u64.wrap (a : Int) = ((a % 18446744073709551616 : Nat) : Int) := by rw [IntKind.wrap_u64]; omega
end M64

set_option maxHeartbeats 1000000 in
theorem mul64_any (x y : Nat) (hx : x < 18446744073709551616) (hy : y < 18446744073709551616) (w : World) :
    Calls Try.prog 49 #[.int .u64 x, .int .u64 y] w fun e w' => e = .returned (.tuple #[.int .u64 ((x * y / 18446744073709551616 : Nat) : Int), .int .u64 ((x * y % 18446744073709551616 : Nat) : Int)]) ∧ w = w' := by
  obtain ⟨bd, bt, bw, hhi⟩ := Lib.mul64_hi x y hx hy
  have ba := Lib.half_mul_le (a := x / 4294967296) (b := y / 4294967296) (by omega) (by omega)
  have bb := Lib.half_mul_le (a := x / 4294967296) (b := y % 4294967296) (by omega) (by omega)
  have bc := Lib.half_mul_le (a := x % 4294967296) (b := y / 4294967296) (by omega) (by omega)
  have ba' : x / 4294967296 * (y / 4294967296) < 18446744073709551616 := by omega
  have bb' : x / 4294967296 * (y % 4294967296) < 18446744073709551616 := by omega
  have bc' : x % 4294967296 * (y / 4294967296) < 18446744073709551616 := by omega
  have bh1 : x / 4294967296 * (y / 4294967296) + (x / 4294967296 * (y % 4294967296) + x % 4294967296 * (y % 4294967296) / 4294967296) / 4294967296 < 18446744073709551616 := by omega
  have bh : x / 4294967296 * (y / 4294967296) + (x / 4294967296 * (y % 4294967296) + x % 4294967296 * (y % 4294967296) / 4294967296) / 4294967296 + ((x / 4294967296 * (y % 4294967296) + x % 4294967296 * (y % 4294967296) / 4294967296) % 4294967296 + x % 4294967296 * (y / 4294967296)) / 4294967296 < 18446744073709551616 := by omega
  have HHI := Lib.hid hhi
  clear hhi
  go_enter Try.func49, Try.ntmps49
  go_wp2
  simp only [M64.maskN x hx, M64.maskN y hy, M64.divN, M64.mulN, M64.addN, M64.wrapN _ bd, M64.wrapN _ bb', M64.wrapN _ bt, M64.maskN _ bt, M64.wrapN _ bc', M64.wrapN _ bw, M64.wrapN _ ba', M64.wrapN _ bh1, M64.wrapN _ bh, M64.wrapM (x * y)]
  rw [HHI.out]
  go_ret2
  exact ⟨rfl, rfl⟩

theorem times_any (w : World) (a b : Nat) (ha : a < 18446744073709551616) (hb : b < 18446744073709551616) :
    Calls Try.prog 25 #[.int .u64 a, .int .u64 b] w fun e w' => e = .returned (.tuple #[.int .u64 (timesS a b).1, .bool (timesS a b).2]) ∧ w = w' := by
  obtain ⟨h1, hh1⟩ : ∃ n, n = a * b / 18446744073709551616 := ⟨_, rfl⟩
  obtain ⟨h2, hh2⟩ : ∃ n, n = a * b % 18446744073709551616 := ⟨_, rfl⟩
  have hc := mul64_any a b ha hb w
  rw [← hh1, ← hh2] at hc
  by_cases h : a * b < 18446744073709551616
  · have t1 : ((h1 : Int) != 0) = false := by simp; omega
    have e : timesS a b = (h2, true) := by unfold timesS; rw [if_pos h, hh2, Nat.mod_eq_of_lt h]
    rw [e]
    have HC := Lib.hid hc
    clear e h ha hb hc hh1 hh2
    go_enter Try.func25, Try.ntmps25
    go_wp2_with fail
    refine HC.out.mono ?_
    rintro e w1 ⟨rfl, rfl⟩
    go_wp2_with fail
    go_ret2
    exact ⟨rfl, rfl⟩
  · have t1 : ((h1 : Int) != 0) = true := by rw [bne_iff_ne]; omega
    have e : timesS a b = (0, false) := by unfold timesS; rw [if_neg h]
    rw [e]
    have HC := Lib.hid hc
    clear e h ha hb hc hh1 hh2
    go_enter Try.func25, Try.ntmps25
    go_wp2_with fail
    refine HC.out.mono ?_
    rintro e w1 ⟨rfl, rfl⟩
    go_wp2_with fail
    go_ret2
    exact ⟨rfl, rfl⟩

theorem times_le (a b : Nat) (hb : 0 < b) : a * b < 18446744073709551616 ↔ a ≤ 18446744073709551615 / b := by
  rw [Nat.le_div_iff_mul_le hb]; omega

theorem reftimes_any (w : World) (a b : Nat) (_ha : a < 18446744073709551616) (hb : b < 18446744073709551616) :
    Calls Try.prog 27 #[.int .u64 a, .int .u64 b] w fun e w' => e = .returned (.tuple #[.int .u64 (timesS a b).1, .bool (timesS a b).2]) ∧ w = w' := by
  by_cases hz : b = 0
  · subst hz
    have e : timesS a 0 = (0, true) := rfl
    rw [e]
    go_enter Try.func27, Try.ntmps27
    go_wp2
    go_ret2
    exact ⟨rfl, rfl⟩
  · have t0 : ((b : Int) != 0) = true := by rw [bne_iff_ne]; omega
    have hb1 : (1 : Int) ≤ (b : Int) := by omega
    have hiff := times_le a b (by omega)
    have hcast : ((18446744073709551615 / b : Nat) : Int) = 18446744073709551615 / (b : Int) := by simp
    by_cases h : a * b < 18446744073709551616
    · have e : timesS a b = (a * b, true) := by unfold timesS; rw [if_pos h]
      rw [e]
      have t1 : (a : Int) ≤ 18446744073709551615 / (b : Int) := by rw [← hcast]; exact_mod_cast hiff.1 h
      have hw : IntKind.u64.wrap ((a : Int) * (b : Int)) = ((a * b : Nat) : Int) := by rw [← Int.natCast_mul]; exact wrap_u64_nat _ h
      have HW := Lib.hid hw
      clear e h hz hiff hcast hw
      go_enter Try.func27, Try.ntmps27
      go_wp2
      go_ret2
      refine ⟨?_, rfl⟩
      rw [← HW.out]
      rfl
    · have e : timesS a b = (0, false) := by unfold timesS; rw [if_neg h]
      rw [e]
      have t1 : 18446744073709551615 / (b : Int) < (a : Int) := by rw [← hcast]; have := mt hiff.2 h; omega
      clear e h hz hiff hcast
      go_enter Try.func27, Try.ntmps27
      go_wp2
      go_ret2
      exact ⟨rfl, rfl⟩

theorem walk_SrcSums (w : World) (a b : Int) (ha : 0 ≤ a ∧ a ≤ 18446744073709551615) (hb : 0 ≤ b ∧ b ≤ 18446744073709551615) :
    Calls Try.prog 7 #[.int .u64 a, .int .u64 b] w fun e w' => e = .returned (.bool true) ∧ Fr [] w w' := by
  obtain ⟨a, rfl⟩ := Int.eq_ofNat_of_zero_le ha.1
  obtain ⟨b, rfl⟩ := Int.eq_ofNat_of_zero_le hb.1
  have ha' : a < 18446744073709551616 := by omega
  have hb' : b < 18446744073709551616 := by omega
  have h1 := fun w => Lib.hid (add_any w a b ha' hb')
  have h2 := fun w => Lib.hid (times_any w a b ha' hb')
  have h3 := fun w => Lib.hid (refadd_any w a b ha' hb')
  have h4 := fun w => Lib.hid (reftimes_any w a b ha' hb')
  obtain ⟨x, hx⟩ : ∃ x, x = addS a b := ⟨_, rfl⟩
  obtain ⟨y, hy⟩ : ∃ y, y = timesS a b := ⟨_, rfl⟩
  rw [← hx] at h1 h3
  rw [← hy] at h2 h4
  clear ha hb ha' hb' hx hy
  go_enter Try.func7, Try.ntmps7
  go_wp2_with fail
  refine (awake_any w).mono ?_
  rintro e w1 ⟨rfl, F1⟩
  go_wp2_with fail
  refine (h1 w1).out.mono ?_
  rintro e w2 ⟨rfl, rfl⟩
  go_wp2_with fail
  refine (h2 w1).out.mono ?_
  rintro e w2 ⟨rfl, rfl⟩
  go_wp2_with fail
  refine (h3 w1).out.mono ?_
  rintro e w2 ⟨rfl, rfl⟩
  go_wp2_with fail
  refine (h4 w1).out.mono ?_
  rintro e w2 ⟨rfl, rfl⟩
  go_wp2_with fail
  go_ret
  exact ⟨by simp, F1⟩
end Go.Proofs.Ytklbocdeifebkaa
