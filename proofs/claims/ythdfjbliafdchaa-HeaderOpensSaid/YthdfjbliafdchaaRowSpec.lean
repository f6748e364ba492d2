/- Rows of bits, in plain Lean. No condition. -/
import Derived.Test.YthdfjbliafdchaaBits
namespace Go.Proofs.Ythdfjbliafdchaa
open Go.RowKit

/-- The byte number j of the bits f. -/
def byteOf (f : Nat → Bool) (j : Nat) : Nat :=
  (f (8 * j)).toNat * 128 + (f (8 * j + 1)).toNat * 64 + (f (8 * j + 2)).toNat * 32 + (f (8 * j + 3)).toNat * 16 +
  (f (8 * j + 4)).toNat * 8 + (f (8 * j + 5)).toNat * 4 + (f (8 * j + 6)).toNat * 2 + (f (8 * j + 7)).toNat

theorem bool_le (b : Bool) : b.toNat ≤ 1 := by cases b <;> simp

theorem byteOf_lt (f : Nat → Bool) (j : Nat) : byteOf f j < 256 := by
  unfold byteOf
  have h0 := bool_le (f (8 * j)); have h1 := bool_le (f (8 * j + 1)); have h2 := bool_le (f (8 * j + 2)); have h3 := bool_le (f (8 * j + 3))
  have h4 := bool_le (f (8 * j + 4)); have h5 := bool_le (f (8 * j + 5)); have h6 := bool_le (f (8 * j + 6)); have h7 := bool_le (f (8 * j + 7))
  omega

theorem byteOf_congr (f g : Nat → Bool) (j : Nat) (h : ∀ t, t < 8 → f (8 * j + t) = g (8 * j + t)) : byteOf f j = byteOf g j := by
  have h0 := h 0 (by decide); have h1 := h 1 (by decide); have h2 := h 2 (by decide); have h3 := h 3 (by decide)
  have h4 := h 4 (by decide); have h5 := h 5 (by decide); have h6 := h 6 (by decide); have h7 := h 7 (by decide)
  unfold byteOf
  rw [Nat.add_zero] at h0
  rw [h0, h1, h2, h3, h4, h5, h6, h7]

theorem byteOf_bit (f : Nat → Bool) (j t : Nat) (ht : t < 8) : byteOf f j / (128 / 2 ^ t) % 2 = (f (8 * j + t)).toNat := by
  have h0 := bool_le (f (8 * j)); have h1 := bool_le (f (8 * j + 1)); have h2 := bool_le (f (8 * j + 2)); have h3 := bool_le (f (8 * j + 3))
  have h4 := bool_le (f (8 * j + 4)); have h5 := bool_le (f (8 * j + 5)); have h6 := bool_le (f (8 * j + 6)); have h7 := bool_le (f (8 * j + 7))
  have ht' : t = 0 ∨ t = 1 ∨ t = 2 ∨ t = 3 ∨ t = 4 ∨ t = 5 ∨ t = 6 ∨ t = 7 := by omega
  rcases ht' with rfl | rfl | rfl | rfl | rfl | rfl | rfl | rfl <;> simp only [Nat.reducePow, Nat.reduceDiv, Nat.add_zero] <;> unfold byteOf <;> omega

/-- The bits f below k, false from there on. -/
def upTo (f : Nat → Bool) (k n : Nat) : Bool := decide (n < k) && f n

theorem upTo_at (f : Nat → Bool) (j t s : Nat) : upTo f (8 * j + t) (8 * j + s) = (decide (s < t) && f (8 * j + s)) := by
  unfold upTo
  congr 1
  simp

theorem upTo_at0 (f : Nat → Bool) (j t : Nat) : upTo f (8 * j + t) (8 * j) = (decide (0 < t) && f (8 * j)) := upTo_at f j t 0

theorem upTo_none (f : Nat → Bool) (j s : Nat) : upTo f (8 * j) (8 * j + s) = false := by simp [upTo]; omega
theorem upTo_none0 (f : Nat → Bool) (j : Nat) : upTo f (8 * j) (8 * j) = false := by simp [upTo]

theorem byteOf_step (f : Nat → Bool) (k : Nat) : byteOf (upTo f (k + 1)) (k / 8) = byteOf (upTo f k) (k / 8) + if f k then 128 / 2 ^ (k % 8) else 0 := by
  have hk : k = 8 * (k / 8) + k % 8 := by omega
  have ht : k % 8 < 8 := by omega
  generalize k / 8 = j at *
  generalize k % 8 = t at *
  subst hk
  rw [Nat.add_assoc]
  have ht' : t = 0 ∨ t = 1 ∨ t = 2 ∨ t = 3 ∨ t = 4 ∨ t = 5 ∨ t = 6 ∨ t = 7 := by omega
  rcases ht' with rfl | rfl | rfl | rfl | rfl | rfl | rfl | rfl <;> simp only [byteOf, upTo_at, upTo_at0, Nat.add_zero, upTo_none, upTo_none0] <;> simp
  all_goals split <;> simp_all

/-- The first m bytes of the bits f. -/
def packF (f : Nat → Bool) (m : Nat) : List UInt8 := (List.range m).map fun j => UInt8.ofNat (byteOf f j)

theorem packF_length (f : Nat → Bool) (m : Nat) : (packF f m).length = m := by simp [packF]

theorem packF_get (f : Nat → Bool) (m j : Nat) (h : j < m) : (packF f m)[j]? = some (UInt8.ofNat (byteOf f j)) := by simp [packF, h]

theorem packF_congr (f g : Nat → Bool) (m : Nat) (h : ∀ n, n < 8 * m → f n = g n) : packF f m = packF g m := by
  unfold packF
  apply List.map_congr_left
  intro j hj
  rw [byteOf_congr f g j (fun t ht => h _ (by have := List.mem_range.1 hj; omega))]

theorem packF_succ (f : Nat → Bool) (m : Nat) : packF f (m + 1) = packF f m ++ [UInt8.ofNat (byteOf f m)] := by simp [packF, List.range_succ]

theorem byteOf_empty (f : Nat → Bool) (k j : Nat) (h : k ≤ 8 * j) : byteOf (upTo f k) j = 0 := by
  unfold byteOf upTo
  simp only [show ¬ (8 * j < k) from by omega, show ¬ (8 * j + 1 < k) from by omega, show ¬ (8 * j + 2 < k) from by omega, show ¬ (8 * j + 3 < k) from by omega, show ¬ (8 * j + 4 < k) from by omega, show ¬ (8 * j + 5 < k) from by omega, show ¬ (8 * j + 6 < k) from by omega, show ¬ (8 * j + 7 < k) from by omega, decide_false, Bool.false_and]
  rfl

theorem upTo_low (f : Nat → Bool) (k n : Nat) (h : n < k) : upTo f (k + 1) n = upTo f k n := by unfold upTo; simp [h, Nat.lt_succ_of_lt h]

/-- A bit that opens a byte. -/
theorem pack_open (f : Nat → Bool) (k : Nat) (h : k % 8 = 0) :
    packF (upTo f (k + 1)) ((k + 1 + 7) / 8) = packF (upTo f k) ((k + 7) / 8) ++ [UInt8.ofNat (if f k then 128 else 0)] := by
  rw [show (k + 1 + 7) / 8 = k / 8 + 1 from by omega, show (k + 7) / 8 = k / 8 from by omega, packF_succ, byteOf_step, byteOf_empty f k (k / 8) (by omega), h]
  simp only [Nat.zero_add, Nat.pow_zero, Nat.div_one]
  rw [packF_congr _ (upTo f k) (k / 8) (fun n hn => upTo_low f k n (by omega))]

/-- A bit within a byte. -/
theorem pack_in (f : Nat → Bool) (k : Nat) (h : k % 8 ≠ 0) :
    packF (upTo f (k + 1)) ((k + 1 + 7) / 8) = packF (upTo f k) (k / 8) ++ [UInt8.ofNat (byteOf (upTo f k) (k / 8) + if f k then 128 / 2 ^ (k % 8) else 0)] ∧
    packF (upTo f k) ((k + 7) / 8) = packF (upTo f k) (k / 8) ++ [UInt8.ofNat (byteOf (upTo f k) (k / 8))] := by
  rw [show (k + 1 + 7) / 8 = k / 8 + 1 from by omega, show (k + 7) / 8 = k / 8 + 1 from by omega, packF_succ, packF_succ, byteOf_step]
  rw [packF_congr (upTo f (k + 1)) (upTo f k) (k / 8) (fun n hn => upTo_low f k n (by omega))]
  exact ⟨rfl, rfl⟩

theorem byteOf_low (f : Nat → Bool) (k : Nat) : byteOf (upTo f k) (k / 8) / (128 / 2 ^ (k % 8)) % 2 = 0 := by
  rw [byteOf_bit _ _ _ (by omega)]
  unfold upTo
  rw [show 8 * (k / 8) + k % 8 = k from by omega]
  simp

theorem or_bit (y m : Nat) (hy : y < 256) (hm : m < 8) (h : y / (128 / 2 ^ m) % 2 = 0) : bits BinOp.or IntKind.u8 (y : Int) (128 / 2 ^ m) = ((y + 128 / 2 ^ m : Nat) : Int) ∧ y + 128 / 2 ^ m < 256 := by
  have key : ∀ (n : Fin 8) (z : Fin 256), z.val / (128 / 2 ^ n.val) % 2 = 0 → bits BinOp.or IntKind.u8 (z.val : Int) (128 / 2 ^ n.val) = ((z.val + 128 / 2 ^ n.val : Nat) : Int) ∧ z.val + 128 / 2 ^ n.val < 256 := by decide +kernel
  exact key ⟨m, hm⟩ ⟨y, hy⟩ h

def bitAt (row : List Bool) (n : Nat) : Bool := row.getD n false

/-- A row of bits as bytes. -/
def packBits (row : List Bool) : List UInt8 := packF (bitAt row) ((row.length + 7) / 8)

theorem packBits_upTo (row : List Bool) : packF (upTo (bitAt row) row.length) ((row.length + 7) / 8) = packBits row := by
  apply packF_congr
  intro n _
  unfold upTo bitAt
  by_cases h : n < row.length
  · simp [h]
  · simp [h]

theorem sh_bounds (t : Nat) (h : t < 8) : 1 ≤ 128 / 2 ^ t ∧ 128 / 2 ^ t ≤ 128 := by
  have key : ∀ n : Fin 8, 1 ≤ 128 / 2 ^ n.val ∧ 128 / 2 ^ n.val ≤ 128 := by decide
  exact key ⟨t, h⟩
end Go.Proofs.Ythdfjbliafdchaa
