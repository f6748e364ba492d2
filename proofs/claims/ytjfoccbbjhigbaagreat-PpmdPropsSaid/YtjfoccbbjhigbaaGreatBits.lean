/- Arithmetic on bits, in plain Lean. No condition. -/
import Derived.WalkKit
import Derived.Lib.BitFns
import Derived.Test.YtjfoccbbjhigbaaGreatSrcSpec
namespace Go.Proofs.YtjfoccbbjhigbaaGreat
open Go.RowKit

theorem pow256 (k : Nat) : 256 ^ k = 2 ^ (8 * k) := by rw [Nat.pow_mul]

theorem pow256_le {k m : Nat} (h : k ≤ m) : 256 ^ k ≤ 256 ^ m := Nat.pow_le_pow_right (by decide) h

theorem wrap_u64_nat (a : Nat) (h : a < 18446744073709551616) : IntKind.u64.wrap (a : Int) = a := by
  rw [IntKind.wrap_u64]; omega

theorem or_high (s x k : Nat) (hs : s < 2 ^ k) : s ||| x * 2 ^ k = s + 2 ^ k * x := by
  rw [Nat.or_comm, Nat.mul_comm, ← Nat.two_pow_add_eq_or_of_lt hs, Nat.add_comm]

theorem byte_high (k x : Nat) (hk : k < 8) (hx : x < 256) : 256 ^ k * x < 18446744073709551616 ∧ x * 2 ^ (8 * k) < 18446744073709551616 := by
  have h1 : 256 ^ k * 256 ≤ 256 ^ 8 := by rw [← Nat.pow_succ]; exact pow256_le (by omega)
  have h2 : 256 ^ k * x < 256 ^ k * 256 := Nat.mul_lt_mul_of_pos_left hx (Nat.pow_pos (by decide))
  have h3 : (256 : Nat) ^ 8 = 18446744073709551616 := by decide
  rw [← pow256, Nat.mul_comm x]
  omega

/-- One step of 'v |= uint64(x) << (8*i)'. -/
theorem least_step (s k : Nat) (x : UInt8) (hk : k < 8) (hs : s < 256 ^ k) :
    bits BinOp.or IntKind.u64 (s : Int) (IntKind.u64.wrap (IntKind.u64.wrap (x.toNat : Int) * 2 ^ (8 * k))) = ((s + 256 ^ k * x.toNat : Nat) : Int) := by
  have hx := x.toNat_lt
  have hb := byte_high k x.toNat hk (by omega)
  have h1 : 256 ^ k ≤ 256 ^ 8 := pow256_le (by omega)
  have h3 : (256 : Nat) ^ 8 = 18446744073709551616 := by decide
  rw [wrap_u64_nat _ (by omega)]
  have e : ((x.toNat : Int) * 2 ^ (8 * k)) = ((x.toNat * 2 ^ (8 * k) : Nat) : Int) := by push_cast; rfl
  rw [e, wrap_u64_nat _ hb.2, bits_or_u64_nat _ _ (by omega) hb.2, or_high _ _ _ (by rw [← pow256]; exact hs), pow256]

theorem ones_bitLen (x : Nat) (hx : x < 256) : 8 - (Lib.bitLen (255 - x) : Int) = (Cur.ones x : Int) := by
  have h : ∀ y : Fin 256, 8 - (Lib.bitLen (255 - y.val) : Int) = (Cur.ones y.val : Int) := by decide +kernel
  exact h ⟨x, hx⟩

theorem xor_u8 (x : Nat) (hx : x < 256) : bits BinOp.xor IntKind.u8 IntKind.u8.max (x : Int) = ((255 - x : Nat) : Int) := by
  have h : ∀ y : Fin 256, bits BinOp.xor IntKind.u8 IntKind.u8.max (y.val : Int) = ((255 - y.val : Nat) : Int) := by decide +kernel
  exact h ⟨x, hx⟩

theorem mask_u8 (k x : Nat) (hk : k < 8) (hx : x < 256) : bits BinOp.and IntKind.u8 (x : Int) (127 / 2 ^ k) = ((x % 2 ^ (7 - k) : Nat) : Int) := by
  have h : ∀ (j : Fin 8) (y : Fin 256), bits BinOp.and IntKind.u8 (y.val : Int) (127 / 2 ^ j.val) = ((y.val % 2 ^ (7 - j.val) : Nat) : Int) := by decide +kernel
  exact h ⟨k, hk⟩ ⟨x, hx⟩
end Go.Proofs.YtjfoccbbjhigbaaGreat
