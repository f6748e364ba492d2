/- What is put behind bytes, in plain Lean. No condition. -/
import Derived.Test.YtjfoccbbjhigbaaGreatBits
namespace Go.Proofs.YtjfoccbbjhigbaaGreat
open Go.RowKit

/-- A number as k bytes, the least first. -/
def leBytes : Nat → Nat → List UInt8
  | 0, _ => []
  | k + 1, v => UInt8.ofNat v :: leBytes k (v / 256)

theorem leBytes_length (k v : Nat) : (leBytes k v).length = k := by
  induction k generalizing v with
  | zero => rfl
  | succ k ih => simp [leBytes, ih]

theorem leBytes_snoc (k v : Nat) : leBytes (k + 1) v = leBytes k v ++ [UInt8.ofNat (v / 256 ^ k)] := by
  induction k generalizing v with
  | zero => simp [leBytes]
  | succ k ih =>
    rw [leBytes, ih, leBytes, Nat.div_div_eq_div_mul, Nat.pow_succ, Nat.mul_comm 256]
    rfl

theorem leNat_leBytes (k v : Nat) (h : v < 256 ^ k) : leNat (leBytes k v) = v := by
  induction k generalizing v with
  | zero => simp at h; subst h; rfl
  | succ k ih =>
    have h2 : v / 256 < 256 ^ k := by rw [Nat.div_lt_iff_lt_mul (by decide), ← Nat.pow_succ]; exact h
    simp only [leBytes, leNat, ih _ h2]
    have : (UInt8.ofNat v).toNat = v % 256 := by simp
    omega

theorem leNat_leBytes_mod (k v : Nat) : leNat (leBytes k v) = v % 256 ^ k := by
  induction k generalizing v with
  | zero => simp [leBytes, leNat, Nat.mod_one]
  | succ k ih =>
    simp only [leBytes, leNat, ih]
    have : (UInt8.ofNat v).toNat = v % 256 := by simp
    rw [this, Nat.pow_succ, Nat.mul_comm (256 ^ k), Nat.mod_mul]

/-- How many bytes stand behind a short number's first one. -/
def extra (v : Nat) : Nat := if v < 128 then 0 else if v < 16384 then 1 else if v < 2097152 then 2 else if v < 268435456 then 3 else if v < 34359738368 then 4 else if v < 4398046511104 then 5 else if v < 562949953421312 then 6 else if v < 72057594037927936 then 7 else 8

theorem extra_le (v : Nat) : extra v ≤ 8 := by
  unfold extra
  repeat' split
  all_goals omega

theorem extra_lt (v k : Nat) (h : k < extra v) : k < 8 ∧ v / 2 ^ (7 * k + 7) ≠ 0 := by
  have h8 := extra_le v
  refine ⟨by omega, ?_⟩
  have hk : k = 0 ∨ k = 1 ∨ k = 2 ∨ k = 3 ∨ k = 4 ∨ k = 5 ∨ k = 6 ∨ k = 7 := by omega
  rcases hk with rfl | rfl | rfl | rfl | rfl | rfl | rfl | rfl <;> simp only [Nat.reduceMul, Nat.reduceAdd, Nat.reducePow] <;> unfold extra at h <;> repeat' split at h
  all_goals omega

theorem extra_at (v : Nat) (h : extra v < 8) : v / 2 ^ (7 * extra v + 7) = 0 := by
  unfold extra at *
  repeat' split
  all_goals first | (simp only [Nat.reduceMul, Nat.reduceAdd, Nat.reducePow]; omega) | (exfalso; simp_all)

/-- A short number's first byte. -/
def firstByte (v : Nat) : UInt8 := UInt8.ofNat (65280 / 2 ^ extra v % 256 + if extra v < 7 then v / 256 ^ extra v else 0)

def putNumber (b : List UInt8) (v : Nat) : List UInt8 := b ++ firstByte v :: leBytes (extra v) v

def put (b : List UInt8) (size : Int) (v : Nat) : List UInt8 := if Cur.sized size then b ++ leBytes size.toNat v else b

theorem putNumber_length (b : List UInt8) (v : Nat) : (putNumber b v).length = b.length + 1 + extra v := by
  simp [putNumber, leBytes_length]; omega

theorem shr_ne (v m : Nat) (h : v / 2 ^ m ≠ 0) : ((v : Int) / 2 ^ m != 0) = true := by
  rw [bne_iff_ne]; intro e; apply h
  have : ((v / 2 ^ m : Nat) : Int) = 0 := by push_cast; exact e
  omega

theorem shr_eq (v m : Nat) (h : v / 2 ^ m = 0) : ((v : Int) / 2 ^ m != 0) = false := by
  have : ((v / 2 ^ m : Nat) : Int) = 0 := by omega
  push_cast at this
  simp [this]

theorem or_first (k y : Nat) (hk : k < 7) (hy : y < 2 ^ (7 - k)) : bits BinOp.or IntKind.u8 (65280 / 2 ^ k % 256) (y : Int) = ((65280 / 2 ^ k % 256 + y : Nat) : Int) := by
  have h : ∀ (j : Fin 7) (z : Fin 128), z.val < 2 ^ (7 - j.val) → bits BinOp.or IntKind.u8 (65280 / 2 ^ j.val % 256) (z.val : Int) = ((65280 / 2 ^ j.val % 256 + z.val : Nat) : Int) := by decide +kernel
  have h7 : 2 ^ (7 - k) ≤ 2 ^ 7 := Nat.pow_le_pow_right (by decide) (by omega)
  exact h ⟨k, hk⟩ ⟨y, by omega⟩ hy

theorem first_small (k y : Nat) (hk : k < 7) (hy : y < 2 ^ (7 - k)) : 65280 / 2 ^ k % 256 + y < 256 := by
  have h : ∀ (j : Fin 7) (z : Fin 128), z.val < 2 ^ (7 - j.val) → 65280 / 2 ^ j.val % 256 + z.val < 256 := by decide +kernel
  have h7 : 2 ^ (7 - k) ≤ 2 ^ 7 := Nat.pow_le_pow_right (by decide) (by omega)
  exact h ⟨k, hk⟩ ⟨y, by omega⟩ hy

theorem first_ge (v k : Nat) (hk : k = extra v) (h7 : ¬ k < 7) : (65280 / 2 ^ k % 256 : Int) = ((firstByte v).toNat : Int) := by
  unfold firstByte
  rw [← hk, if_neg h7]
  have : 65280 / 2 ^ k % 256 < 256 := Nat.mod_lt _ (by decide)
  simp

theorem first_lt (v k : Nat) (hk : k = extra v) (h7 : k < 7) : bits BinOp.or IntKind.u8 (65280 / 2 ^ k % 256) ((v : Int) / 2 ^ (8 * k) % 256) = ((firstByte v).toNat : Int) := by
  have h0 := extra_at v (by omega)
  rw [← hk] at h0
  have hlt : v / 2 ^ (8 * k) < 2 ^ (7 - k) := by
    have h1 : v < 2 ^ (7 * k + 7) := (Nat.div_eq_zero_iff_lt (Nat.pow_pos (by decide))).1 h0
    rw [Nat.div_lt_iff_lt_mul (Nat.pow_pos (by decide)), ← Nat.pow_add, show 7 - k + 8 * k = 7 * k + 7 from by omega]
    exact h1
  have hs := first_small k _ h7 hlt
  have e : ((v : Int) / 2 ^ (8 * k) % 256) = ((v / 2 ^ (8 * k) : Nat) : Int) := by
    have : ((v / 2 ^ (8 * k) % 256 : Nat) : Int) = ((v / 2 ^ (8 * k) : Nat) : Int) := by rw [Nat.mod_eq_of_lt]; omega
    rw [← this, Int.natCast_emod, Int.natCast_ediv, Int.natCast_pow]; rfl
  rw [e, or_first k _ h7 hlt]
  unfold firstByte
  rw [← hk, if_pos h7, pow256]
  congr 1
  simp
  omega
end Go.Proofs.YtjfoccbbjhigbaaGreat
