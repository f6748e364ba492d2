/- Plain facts for the references' Put functions. No condition. -/
import Derived.Test.YthdfjbliafdchaaShortSpec
import Derived.Test.YthdfjbliafdchaaRowSpec
namespace Go.Proofs.Ythdfjbliafdchaa
open Go.RowKit

theorem extra_iff (v k : Nat) (hk : k ≤ 7) : extra v ≤ k ↔ v < 2 ^ (7 * k + 7) := by
  constructor
  · intro h
    have he := extra_at v (by omega)
    have h1 : v < 2 ^ (7 * extra v + 7) := (Nat.div_eq_zero_iff_lt (Nat.pow_pos (by decide))).1 he
    exact Nat.lt_of_lt_of_le h1 (Nat.pow_le_pow_right (by decide) (by omega))
  · exact extra_le_of v k hk

theorem extra_div (v k : Nat) (hk : k < 7) : extra v ≤ k ↔ v / 256 ^ k < 128 / 2 ^ k := by
  rw [extra_iff v k (by omega), Nat.div_lt_iff_lt_mul (Nat.pow_pos (by decide))]
  have e : 128 / 2 ^ k * 256 ^ k = 2 ^ (7 * k + 7) := by
    have h1 : 128 / 2 ^ k = 2 ^ (7 - k) := by
      have key : ∀ n : Fin 8, 128 / 2 ^ n.val = 2 ^ (7 - n.val) := by decide
      exact key ⟨k, by omega⟩
    rw [h1, pow256, ← Nat.pow_add]; congr 1; omega
  rw [e]

theorem first_form (k : Nat) (hk : k ≤ 8) : 256 - 256 / 2 ^ k = 65280 / 2 ^ k % 256 ∧ 256 / 2 ^ k ≤ 256 ∧ 1 ≤ 256 / 2 ^ k := by
  have key : ∀ n : Fin 9, 256 - 256 / 2 ^ n.val = 65280 / 2 ^ n.val % 256 ∧ 256 / 2 ^ n.val ≤ 256 ∧ 1 ≤ 256 / 2 ^ n.val := by decide +kernel
  exact key ⟨k, by omega⟩

/-- The first k bits from i on, as a number. -/
def chunk (f : Nat → Bool) (i : Nat) : Nat → Nat
  | 0 => 0
  | k + 1 => 2 * chunk f i k + (f (i + k)).toNat

theorem chunk_lt (f : Nat → Bool) (i k : Nat) : chunk f i k < 2 ^ k := by
  induction k with
  | zero => simp [chunk]
  | succ k ih =>
    have := bool_le (f (i + k))
    simp only [chunk, Nat.pow_succ]
    omega

theorem chunk_byte (f : Nat → Bool) (j : Nat) : chunk f (8 * j) 8 = byteOf f j := by
  simp only [chunk, byteOf, Nat.add_zero]
  omega

/-- A told row. -/
def putTold (b : List UInt8) (row : List Bool) : List UInt8 := if row.all id then b ++ [1] else (b ++ [0]) ++ packBits row

theorem all_take (row : List Bool) (k : Nat) (x : Bool) (h : row[k]? = some x) : (row.take (k + 1)).all id = ((row.take k).all id && x) := by
  rw [take_succ' row k x h]; simp [List.all_append]

theorem pow_le7 (k : Nat) (h : k < 8) : 256 ^ k ≤ 72057594037927936 ∧ 1 ≤ 256 ^ k := by
  have := pow256_le (k := k) (m := 7) (by omega)
  exact ⟨by simpa using this, Nat.pow_pos (by decide)⟩

theorem quo_bounds (v P : Nat) (hv : v < 18446744073709551616) : (0 : Int) ≤ (v : Int) / (P : Int) ∧ (v : Int) / (P : Int) ≤ 18446744073709551615 := by
  have h1 : v / P ≤ v := Nat.div_le_self _ _
  have h2 : ((v / P : Nat) : Int) = (v : Int) / (P : Int) := by simp
  rw [← h2]
  clear h2
  generalize v / P = q at *
  omega

theorem fb_low (v k T q : Nat) (hk : k = extra v) (h7 : k < 7) (hT : T = 256 / 2 ^ k) (hq : q = v / 256 ^ k) : ((256 : Int) - T + q) % 256 = ((firstByte v).toNat : Int) := by
  obtain ⟨f1, f2, f3⟩ := first_form k (by omega)
  have hd := (extra_div v k h7).1 (by omega)
  rw [← hq] at hd
  have h1 : 128 / 2 ^ k = 2 ^ (7 - k) := by
    have key : ∀ n : Fin 8, 128 / 2 ^ n.val = 2 ^ (7 - n.val) := by decide
    exact key ⟨k, by omega⟩
  have hsm := first_small k q h7 (by omega)
  unfold firstByte
  rw [← hk, if_pos h7, ← hq, ← f1, ← hT]
  rw [← hT] at f2 f3
  rw [← f1, ← hT] at hsm
  simp
  omega

theorem fb_high (v k T : Nat) (hk : k = extra v) (h7 : ¬ k < 7) (hT : T = 256 / 2 ^ k) : ((256 : Int) - T) % 256 = ((firstByte v).toNat : Int) := by
  have h8 := extra_le v
  obtain ⟨f1, f2, f3⟩ := first_form k (by omega)
  unfold firstByte
  rw [← hk, if_neg h7, ← f1, ← hT]
  rw [← hT] at f2 f3
  simp
  omega

theorem T_bounds (k : Nat) (h : k ≤ 8) : 1 ≤ 256 / 2 ^ k ∧ 256 / 2 ^ k ≤ 256 ∧ (k = 7 → 256 / 2 ^ k = 2) := by
  obtain ⟨f1, f2, f3⟩ := first_form k h
  exact ⟨f3, f2, by rintro rfl; rfl⟩
end Go.Proofs.Ythdfjbliafdchaa
