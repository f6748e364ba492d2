/- Sums of layer 2, in plain Lean. No condition. -/
import Derived.WalkKit
import Derived.Test.YthbkcjlpelihlaaGreatDoorBaseM
namespace Go.Proofs.YthbkcjlpelihlaaGreatDoor
open Go.RowKit

theorem xor_u32_nat (a b : Nat) (ha : a < 4294967296) (hb : b < 4294967296) : bits .xor .u32 (a : Int) (b : Int) = ((a ^^^ b : Nat) : Int) := by
  have hx : a ^^^ b < 2 ^ 32 := Nat.xor_lt_two_pow (by omega) (by omega)
  have h1 : (BitVec.ofInt 32 (a : Int)).toNat = a := by
    rw [BitVec.ofInt_natCast, BitVec.toNat_ofNat]; exact Nat.mod_eq_of_lt (by omega)
  have h2 : (BitVec.ofInt 32 (b : Int)).toNat = b := by
    rw [BitVec.ofInt_natCast, BitVec.toNat_ofNat]; exact Nat.mod_eq_of_lt (by omega)
  show IntKind.u32.wrap ((BitVec.ofInt 32 (a : Int) ^^^ BitVec.ofInt 32 (b : Int)).toNat : Int) = _
  rw [BitVec.toNat_xor, h1, h2, show ∀ n, IntKind.u32.wrap n = n % 4294967296 from fun n => by simp [IntKind.wrap, IntKind.bits, IntKind.signed]]
  omega
theorem and_u32_nat (a b : Nat) (ha : a < 4294967296) (hb : b < 4294967296) : bits .and .u32 (a : Int) (b : Int) = ((a &&& b : Nat) : Int) := by
  have hx : a &&& b < 2 ^ 32 := Nat.and_lt_two_pow _ (by omega)
  have h1 : (BitVec.ofInt 32 (a : Int)).toNat = a := by
    rw [BitVec.ofInt_natCast, BitVec.toNat_ofNat]; exact Nat.mod_eq_of_lt (by omega)
  have h2 : (BitVec.ofInt 32 (b : Int)).toNat = b := by
    rw [BitVec.ofInt_natCast, BitVec.toNat_ofNat]; exact Nat.mod_eq_of_lt (by omega)
  show IntKind.u32.wrap ((BitVec.ofInt 32 (a : Int) &&& BitVec.ofInt 32 (b : Int)).toNat : Int) = _
  rw [BitVec.toNat_and, h1, h2, show ∀ n, IntKind.u32.wrap n = n % 4294967296 from fun n => by simp [IntKind.wrap, IntKind.bits, IntKind.signed]]
  omega
theorem xor_u8_nat (a b : Nat) (ha : a < 256) (hb : b < 256) : bits .xor .u8 (a : Int) (b : Int) = ((a ^^^ b : Nat) : Int) := by
  have hx : a ^^^ b < 2 ^ 8 := Nat.xor_lt_two_pow (by omega) (by omega)
  have h1 : (BitVec.ofInt 8 (a : Int)).toNat = a := by
    rw [BitVec.ofInt_natCast, BitVec.toNat_ofNat]; exact Nat.mod_eq_of_lt (by omega)
  have h2 : (BitVec.ofInt 8 (b : Int)).toNat = b := by
    rw [BitVec.ofInt_natCast, BitVec.toNat_ofNat]; exact Nat.mod_eq_of_lt (by omega)
  show IntKind.u8.wrap ((BitVec.ofInt 8 (a : Int) ^^^ BitVec.ofInt 8 (b : Int)).toNat : Int) = _
  rw [BitVec.toNat_xor, h1, h2, show ∀ n, IntKind.u8.wrap n = n % 256 from fun n => by simp [IntKind.wrap, IntKind.bits, IntKind.signed]]
  omega

/-- One step. -/
def bit1 (x : Nat) : Nat := if x % 2 = 1 then x / 2 ^^^ 3988292384 else x / 2
def bitN : Nat → Nat → Nat
  | 0, x => x
  | k + 1, x => bit1 (bitN k x)
/-- The register behind a byte; of bytes; their sum. -/
def crcStep (x : Nat) (b : UInt8) : Nat := bitN 8 (x ^^^ b.toNat)
def crcGo (x : Nat) (l : List UInt8) : Nat := l.foldl crcStep x
def crcL (l : List UInt8) : Nat := 4294967295 - crcGo 4294967295 l

theorem bit1_lt {x : Nat} (h : x < 4294967296) : bit1 x < 4294967296 := by
  unfold bit1
  split
  · exact Nat.xor_lt_two_pow (n := 32) (by omega) (by decide)
  · omega
theorem bitN_lt {x : Nat} (h : x < 4294967296) : ∀ k, bitN k x < 4294967296
  | 0 => h
  | k + 1 => bit1_lt (bitN_lt h k)
theorem crcStep_lt {x : Nat} (h : x < 4294967296) (b : UInt8) : crcStep x b < 4294967296 := by
  have hb := b.toNat_lt
  exact bitN_lt (Nat.xor_lt_two_pow (n := 32) h (by omega)) 8
theorem crcGo_lt (l : List UInt8) : ∀ {x : Nat}, x < 4294967296 → crcGo x l < 4294967296 := by
  induction l with
  | nil => intro x h; exact h
  | cons b t ih => intro x h; exact ih (crcStep_lt h b)
theorem crcGo_snoc (x : Nat) (l : List UInt8) (b : UInt8) : crcGo x (l ++ [b]) = crcStep (crcGo x l) b := by simp [crcGo]

theorem bit1_even {x : Nat} (h : x % 2 = 0) : bit1 x = x / 2 := by unfold bit1; rw [if_neg (by omega)]
/-- The step is linear. -/
theorem bit1_xor (a b : Nat) : bit1 (a ^^^ b) = bit1 a ^^^ bit1 b := by
  have h1 : (a ^^^ b) / 2 = a / 2 ^^^ b / 2 := by
    have := Nat.xor_div_two_pow (a := a) (b := b) (n := 1)
    simpa using this
  have h2 : (a ^^^ b) % 2 = (a % 2) ^^^ (b % 2) := by
    have := Nat.xor_mod_two_pow (a := a) (b := b) (n := 1)
    simpa using this
  unfold bit1
  rw [h1, h2]
  rcases Nat.mod_two_eq_zero_or_one a with ha | ha <;> rcases Nat.mod_two_eq_zero_or_one b with hb | hb
  · simp [ha, hb]
  · simp [ha, hb, Nat.xor_assoc]
  · simp [ha, hb]
    rw [Nat.xor_assoc, Nat.xor_assoc, Nat.xor_comm (b / 2)]
  · simp [ha, hb]
    rw [Nat.xor_assoc, Nat.xor_comm 3988292384, Nat.xor_assoc, Nat.xor_self, Nat.xor_zero]
theorem bitN_xor : ∀ (k a b : Nat), bitN k (a ^^^ b) = bitN k a ^^^ bitN k b
  | 0, _, _ => rfl
  | k + 1, a, b => by show bit1 (bitN k (a ^^^ b)) = _; rw [bitN_xor k, bit1_xor]; rfl
theorem bitN_high (h : Nat) : ∀ (k m : Nat), bitN k (2 ^ (k + m) * h) = 2 ^ m * h
  | 0, m => by show 2 ^ (0 + m) * h = _; rw [Nat.zero_add]
  | k + 1, m => by
    show bit1 (bitN k (2 ^ (k + 1 + m) * h)) = _
    rw [show k + 1 + m = k + (m + 1) by omega, bitN_high h k (m + 1), Nat.pow_succ, Nat.mul_comm (2 ^ m) 2, Nat.mul_assoc, bit1_even (by omega)]
    omega
theorem split_xor (x : Nat) : x = (2 ^ 8 * (x / 256)) ^^^ (x % 256) := by
  have h : 2 ^ 8 * (x / 256) ^^^ x % 256 = 2 ^ 8 * (x / 256) + x % 256 := by
    rw [Nat.two_pow_add_eq_or_of_lt (by have := Nat.mod_lt x (show 256 > 0 by decide); omega)]
    refine Nat.eq_of_testBit_eq fun i => ?_
    rw [Nat.testBit_xor, Nat.testBit_or]
    by_cases hi : i < 8
    · have : (2 ^ 8 * (x / 256)).testBit i = false := by rw [Nat.testBit_two_pow_mul]; simp; omega
      rw [this]; simp
    · have : (x % 256).testBit i = false := by
        rw [show (256 : Nat) = 2 ^ 8 by decide, Nat.testBit_mod_two_pow]; simp [hi]
      rw [this]; simp
  rw [h]
  omega
/-- A step by the table. -/
theorem crcStep_table (x : Nat) (b : UInt8) : crcStep x b = bitN 8 ((x % 256) ^^^ b.toNat) ^^^ (x / 256) := by
  have e : x ^^^ b.toNat = (2 ^ (8 + 0) * (x / 256)) ^^^ ((x % 256) ^^^ b.toNat) := by
    rw [← Nat.xor_assoc]
    congr 1
    exact split_xor x
  unfold crcStep
  rw [e, bitN_xor, bitN_high]
  rw [Nat.xor_comm]
  simp
end Go.Proofs.YthbkcjlpelihlaaGreatDoor
