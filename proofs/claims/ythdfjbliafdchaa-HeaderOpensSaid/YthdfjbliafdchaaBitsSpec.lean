/- Rows of bits that are read, in plain Lean. No condition. -/
import Derived.Test.YthdfjbliafdchaaRowSpec
import Derived.Test.YthdfjbliafdchaaRefSpec
namespace Go.Proofs.Ythdfjbliafdchaa
open Go.RowKit

/-- Bit i of bytes. -/
def bitOf (l : List UInt8) (i : Nat) : Bool := (l.getD (i / 8) 0).toNat / (128 / 2 ^ (i % 8)) % 2 == 1

/-- The first n bits of bytes. -/
def unpack (l : List UInt8) (n : Nat) : List Bool := (List.range n).map (bitOf l)

theorem unpack_succ (l : List UInt8) (n : Nat) : unpack l (n + 1) = unpack l n ++ [bitOf l n] := by simp [unpack, List.range_succ]
theorem unpack_length (l : List UInt8) (n : Nat) : (unpack l n).length = n := by simp [unpack]

/-- The last byte has a bit behind the n-th. -/
def padded (l : List UInt8) (n : Nat) : Bool := n % 8 != 0 && (l.getD (n / 8) 0).toNat % 2 ^ (8 - n % 8) != 0

theorem pad_bits (y m : Nat) (hy : y < 256) (hm : m < 8) (h0 : 0 < m) : y % 2 ^ (8 - m) = 0 ↔ ∀ t, m ≤ t → t < 8 → y / (128 / 2 ^ t) % 2 = 0 := by
  have key : ∀ (n : Fin 8) (z : Fin 256), 0 < n.val → (z.val % 2 ^ (8 - n.val) = 0 ↔ ∀ t : Fin 8, n.val ≤ t.val → z.val / (128 / 2 ^ t.val) % 2 = 0) := by decide +kernel
  have := key ⟨m, hm⟩ ⟨y, hy⟩ h0
  constructor
  · intro h t h1 h2; exact this.1 h ⟨t, h2⟩ h1
  · intro h; exact this.2 (fun t ht => h t.val ht t.isLt)

/-- Nothing is behind the n-th bit, just if each bit there is 0. -/
theorem padded_false (l : List UInt8) (n : Nat) : padded l n = false ↔ ∀ i, n ≤ i → i < 8 * ((n + 7) / 8) → bitOf l i = false := by
  have hy := (l.getD (n / 8) 0).toNat_lt
  by_cases h : n % 8 = 0
  · constructor
    · intro _ i h1 h2; omega
    · intro _; simp [padded, h]
  · have hp := pad_bits (l.getD (n / 8) 0).toNat (n % 8) (by omega) (by omega) (by omega)
    have e : padded l n = false ↔ (l.getD (n / 8) 0).toNat % 2 ^ (8 - n % 8) = 0 := by
      unfold padded; simp [h]
    rw [e, hp]
    constructor
    · intro hh i h1 h2
      have h3 : i / 8 = n / 8 := by omega
      have := hh (i % 8) (by omega) (by omega)
      unfold bitOf; rw [h3, this]; rfl
    · intro hh t h1 h2
      have := hh (8 * (n / 8) + t) (by omega) (by omega)
      unfold bitOf at this
      rw [show (8 * (n / 8) + t) / 8 = n / 8 from by omega, show (8 * (n / 8) + t) % 8 = t from by omega] at this
      have h5 := beq_eq_false_iff_ne.1 this
      omega

namespace Cur
def row (c : Cur) (n : Nat) : List UInt8 := (c.b.drop c.at_).take ((n + 7) / 8)
def bits (c : Cur) (n : Int) : List Bool × Cur :=
  if c.code ≠ 0 ∨ n < 0 ∨ c.left < (n.toNat + 7) / 8 then ([], c.fail 3)
  else if padded (c.row n.toNat) n.toNat then ([], c.fail 5)
  else (unpack (c.row n.toNat) n.toNat, { c with at_ := c.at_ + (n.toNat + 7) / 8 })
def told (c : Cur) (n : Int) : List Bool × Cur :=
  if c.left < 1 ∨ n < 0 then ([], c.fail 3)
  else if c.head = 1 then (List.replicate n.toNat true, { c with at_ := c.at_ + 1 })
  else if c.head = 0 then
    if (bits { c with at_ := c.at_ + 1 } n).2.code ≠ 0 then ([], { (bits { c with at_ := c.at_ + 1 } n).2 with at_ := c.at_ })
    else bits { c with at_ := c.at_ + 1 } n
  else ([], c.fail 5)
end Cur

theorem shl_pad (y m : Nat) (hy : y < 256) (hm : m < 8) : (y * 2 ^ m) % 256 = 0 ↔ y % 2 ^ (8 - m) = 0 := by
  have key : ∀ (n : Fin 8) (z : Fin 256), (z.val * 2 ^ n.val) % 256 = 0 ↔ z.val % 2 ^ (8 - n.val) = 0 := by decide +kernel
  exact key ⟨m, hm⟩ ⟨y, hy⟩

theorem shr_bit (y m : Nat) (hy : y < 256) (hm : m < 8) : y / 2 ^ (7 - m) % 2 = y / (128 / 2 ^ m) % 2 := by
  have key : ∀ (n : Fin 8) (z : Fin 256), z.val / 2 ^ (7 - n.val) % 2 = z.val / (128 / 2 ^ n.val) % 2 := by decide +kernel
  exact key ⟨m, hm⟩ ⟨y, hy⟩

theorem and_one (y : Nat) (hy : y < 256) : Go.bits BinOp.and IntKind.u8 (y : Int) 1 = ((y % 2 : Nat) : Int) := by
  have key : ∀ (z : Fin 256), Go.bits BinOp.and IntKind.u8 (z.val : Int) 1 = ((z.val % 2 : Nat) : Int) := by decide +kernel
  exact key ⟨y, hy⟩

theorem bit_read (R : List UInt8) (k : Nat) (y : UInt8) (hy : R[k / 8]? = some y) : (Go.bits BinOp.and IntKind.u8 ((y.toNat : Int) / 2 ^ (7 - k % 8)) 1 == 1) = bitOf R k := by
  have hy8 := y.toNat_lt
  have e : ((y.toNat : Int) / 2 ^ (7 - k % 8)) = ((y.toNat / 2 ^ (7 - k % 8) : Nat) : Int) := by simp
  have hlt : y.toNat / 2 ^ (7 - k % 8) < 256 := Nat.lt_of_le_of_lt (Nat.div_le_self _ _) (by omega)
  rw [e, and_one _ hlt, shr_bit _ _ (by omega) (by omega)]
  unfold bitOf
  have : R.getD (k / 8) 0 = y := by simp [hy]
  rw [this]
  generalize y.toNat / (128 / 2 ^ (k % 8)) % 2 = z
  rw [Bool.eq_iff_iff]
  simp
  omega

theorem pad_shl (R : List UInt8) (n : Nat) (y : UInt8) (hy : R[n / 8]? = some y) (h8 : n % 8 ≠ 0) : ((y.toNat : Int) * 2 ^ (n % 8) % 256 != 0) = padded R n := by
  have hy8 := y.toNat_lt
  have e : ((y.toNat : Int) * 2 ^ (n % 8) % 256) = ((y.toNat * 2 ^ (n % 8) % 256 : Nat) : Int) := by simp
  have h := shl_pad y.toNat (n % 8) (by omega) (by omega)
  unfold padded
  have : R.getD (n / 8) 0 = y := by simp [hy]
  have hn : (n % 8 != 0) = true := by simpa using h8
  rw [this, e, hn, Bool.true_and]
  generalize y.toNat * 2 ^ (n % 8) % 256 = a at *
  generalize y.toNat % 2 ^ (8 - n % 8) = b at *
  rw [Bool.eq_iff_iff]
  simp
  omega
end Go.Proofs.Ythdfjbliafdchaa
