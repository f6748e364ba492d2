/- Bits of a byte. No condition. -/
import Derived.Test.YthdfjbliafdchaaHMeth
namespace Go.Proofs.Ythdfjbliafdchaa
open Go.RowKit

theorem and_bits (m : Nat) (k : Nat) (hm : m = 2 ^ k - 1) (f : Nat) (hf : f < 256) (hk : k ≤ 8) : Go.bits .and .i64 (f : Int) (m : Int) = ((f % 2 ^ k : Nat) : Int) := by
  show IntKind.i64.wrap ((BitVec.ofInt 64 (f : Int) &&& BitVec.ofInt 64 (m : Int)).toNat : Int) = _
  have hp : 2 ^ k ≤ 2 ^ 8 := Nat.pow_le_pow_right (by omega) hk
  have hp1 : 1 ≤ 2 ^ k := Nat.one_le_two_pow
  have h1 : (BitVec.ofInt 64 (m : Int)).toNat = 2 ^ k - 1 := by simp; omega
  have h2 : (BitVec.ofInt 64 (f : Int)).toNat = f := by simp; omega
  rw [BitVec.toNat_and, h1, h2, Nat.and_two_pow_sub_one_eq_mod]
  have : f % 2 ^ k < 2 ^ k := Nat.mod_lt _ (by omega)
  exact IntWalk.i64_in _ (by omega)
theorem and15 (f : Nat) (hf : f < 256) : Go.bits .and .i64 (f : Int) 15 = ((f % 16 : Nat) : Int) := and_bits 15 4 rfl f hf (by omega)

theorem and192 : ∀ f : Fin 256, (Go.bits .and .i64 (f.val : Int) 192 == 0) = decide (f.val / 64 = 0) := by decide +kernel
theorem and16 : ∀ f : Fin 256, (Go.bits .and .i64 (f.val : Int) 16 == 0) = !(f.val / 16 % 2 == 1) := by decide +kernel
theorem and32 : ∀ f : Fin 256, (Go.bits .and .i64 (f.val : Int) 32 == 0) = !(f.val / 32 % 2 == 1) := by decide +kernel
end Go.Proofs.Ythdfjbliafdchaa
