/- A short number that was read, put again: the plain law. No condition. -/
import Derived.Test.YtkodindajfdagaaDoorGAC
import Derived.Test.YtkodindajfdagaaDoorGAA
namespace Go.Proofs.YtkodindajfdagaaDoor
open Go.RowKit

theorem leBytes_leNat (l : List UInt8) (y : Nat) : leBytes l.length (leNat l + 256 ^ l.length * y) = l := by
  induction l with
  | nil => rfl
  | cons x l ih =>
    have hx := x.toNat_lt
    have e : leNat (x :: l) + 256 ^ (x :: l).length * y = x.toNat + 256 * (leNat l + 256 ^ l.length * y) := by
      simp only [leNat, List.length_cons, Nat.pow_succ, Nat.mul_add]
      rw [Nat.mul_comm (256 ^ l.length) 256, Nat.mul_assoc]
      omega
    rw [e, List.length_cons, leBytes]
    have e2 : (x.toNat + 256 * (leNat l + 256 ^ l.length * y)) / 256 = leNat l + 256 ^ l.length * y := by omega
    rw [e2, ih]
    congr 1
    apply UInt8.toNat_inj.1
    simp

theorem ones_split (x : Nat) (hx : x < 256) : x = 65280 / 2 ^ Cur.ones x % 256 + (if Cur.ones x < 7 then x % 2 ^ (7 - Cur.ones x) else 0) := by
  have h : ∀ y : Fin 256, y.val = 65280 / 2 ^ Cur.ones y.val % 256 + (if Cur.ones y.val < 7 then y.val % 2 ^ (7 - Cur.ones y.val) else 0) := by decide +kernel
  exact h ⟨x, hx⟩

theorem extra_le_of (v k : Nat) (hk : k ≤ 7) (hv : v < 2 ^ (7 * k + 7)) : extra v ≤ k := by
  have hk' : k = 0 ∨ k = 1 ∨ k = 2 ∨ k = 3 ∨ k = 4 ∨ k = 5 ∨ k = 6 ∨ k = 7 := by omega
  rcases hk' with rfl | rfl | rfl | rfl | rfl | rfl | rfl | rfl <;> simp only [Nat.reduceMul, Nat.reduceAdd, Nat.reducePow] at hv <;> unfold extra <;> repeat' split
  all_goals omega

/-- A short number's value, from its bytes. -/
def shortVal (x k : Nat) (l : List UInt8) : Nat := leNat l + 256 ^ k * (if k < 7 then x % 2 ^ (7 - k) else 0)

theorem shortVal_lt (x k : Nat) (l : List UInt8) (hl : l.length = k) (hk : k ≤ 8) : shortVal x k l < 18446744073709551616 ∧ (k ≤ 7 → shortVal x k l < 2 ^ (7 * k + 7)) := by
  have h := leNat_lt l
  rw [hl] at h
  unfold shortVal
  by_cases h7 : k < 7
  · have hm : x % 2 ^ (7 - k) < 2 ^ (7 - k) := Nat.mod_lt _ (Nat.pow_pos (by decide))
    have h2 : 256 ^ k * (x % 2 ^ (7 - k)) + 256 ^ k ≤ 256 ^ k * 2 ^ (7 - k) := by
      rw [← Nat.mul_succ]; exact Nat.mul_le_mul_left _ hm
    have h3 : 256 ^ k * 2 ^ (7 - k) = 2 ^ (7 * k + 7) := by rw [pow256, ← Nat.pow_add]; congr 1; omega
    have h4 : 2 ^ (7 * k + 7) ≤ 2 ^ 64 := Nat.pow_le_pow_right (by decide) (by omega)
    rw [if_pos h7]
    omega
  · rw [if_neg h7]
    have hk' : k = 7 ∨ k = 8 := by omega
    rcases hk' with rfl | rfl
    · simp only [Nat.reducePow, Nat.reduceMul, Nat.reduceAdd] at h ⊢; omega
    · simp only [Nat.reducePow] at h; omega

theorem short_best (x : UInt8) (k : Nat) (l : List UInt8) (hk : k = Cur.ones x.toNat) (hl : l.length = k) :
    (putNumber [] (shortVal x.toNat k l)).length < 1 + k ∨ (putNumber [] (shortVal x.toNat k l)).length = 1 + k ∧ putNumber [] (shortVal x.toNat k l) = x :: l := by
  have hk8 : k ≤ 8 := by rw [hk]; exact Cur.ones_le _
  obtain ⟨hv, hv7⟩ := shortVal_lt x.toNat k l hl hk8
  have he : extra (shortVal x.toNat k l) ≤ k := by
    by_cases h : k ≤ 7
    · exact extra_le_of _ _ h (hv7 h)
    · have := extra_le (shortVal x.toNat k l); omega
  rw [putNumber_length]
  simp only [List.length_nil, Nat.zero_add]
  by_cases hlt : extra (shortVal x.toNat k l) < k
  · exact .inl (by omega)
  · have hek : extra (shortVal x.toNat k l) = k := by omega
    refine .inr ⟨by omega, ?_⟩
    have h1 := leBytes_leNat l (if k < 7 then x.toNat % 2 ^ (7 - k) else 0)
    rw [hl] at h1
    unfold putNumber firstByte
    rw [hek]
    have hs := ones_split x.toNat x.toNat_lt
    rw [← hk] at hs
    have hdiv : shortVal x.toNat k l / 256 ^ k = (if k < 7 then x.toNat % 2 ^ (7 - k) else 0) := by
      have h := leNat_lt l
      rw [hl] at h
      unfold shortVal
      rw [Nat.add_mul_div_left _ _ (Nat.pow_pos (by decide)), Nat.div_eq_of_lt h, Nat.zero_add]
    have e : (65280 / 2 ^ k % 256 + if k < 7 then shortVal x.toNat k l / 256 ^ k else 0) = x.toNat := by
      rw [hdiv]
      by_cases h7 : k < 7
      · simp only [h7, if_true] at hs ⊢; omega
      · simp only [h7, if_false] at hs ⊢; omega
    rw [e]
    unfold shortVal
    rw [h1]
    simp

theorem number_short (bs : List UInt8) : (Cur.number ⟨bs, 0, 0⟩).2.code ≠ 0 ∧ (Cur.number ⟨bs, 0, 0⟩).1 = 0 ∧ (Cur.number ⟨bs, 0, 0⟩).2.at_ = 0 ∨
    (Cur.number ⟨bs, 0, 0⟩).2.code = 0 ∧ (Cur.number ⟨bs, 0, 0⟩).1 < 18446744073709551616 ∧ (Cur.number ⟨bs, 0, 0⟩).2.at_ ≤ bs.length ∧
      ((putNumber [] (Cur.number ⟨bs, 0, 0⟩).1).length < (Cur.number ⟨bs, 0, 0⟩).2.at_ ∨
        (putNumber [] (Cur.number ⟨bs, 0, 0⟩).1).length = (Cur.number ⟨bs, 0, 0⟩).2.at_ ∧ putNumber [] (Cur.number ⟨bs, 0, 0⟩).1 = bs.take (Cur.number ⟨bs, 0, 0⟩).2.at_) := by
  unfold Cur.number
  split
  · exact .inl ⟨by simp [Cur.fail], rfl, rfl⟩
  · rename_i h
    have h' : 1 + Cur.ones (Cur.head ⟨bs, 0, 0⟩) ≤ bs.length := by simpa [Cur.left] using h
    obtain ⟨x, l, rfl⟩ : ∃ x l, bs = x :: l := by cases bs with | nil => simp at h' | cons x l => exact ⟨x, l, rfl⟩
    have hh : Cur.head ⟨x :: l, 0, 0⟩ = x.toNat := by simp [Cur.head]
    rw [hh] at h' ⊢
    obtain ⟨k, hk⟩ : ∃ k, k = Cur.ones x.toNat := ⟨_, rfl⟩
    rw [← hk] at h' ⊢
    have hlen : (l.take k).length = k := by simp at h' ⊢; omega
    have hs := short_best x k (l.take k) hk hlen
    have hv := shortVal_lt x.toNat k (l.take k) hlen (hk ▸ Cur.ones_le _)
    refine .inr ⟨rfl, ?_, by simpa using h', ?_⟩
    · exact hv.1
    · have e : (x :: l).take (0 + 1 + k) = x :: l.take k := by rw [show 0 + 1 + k = k + 1 from by omega]; rfl
      simp only [Nat.zero_add] at e
      simp only [List.drop_succ_cons, List.drop_zero, Nat.zero_add, e]
      exact hs
end Go.Proofs.YtkodindajfdagaaDoor
/- Plain facts for the references' Put functions. No condition. -/
namespace Go.Proofs.YtkodindajfdagaaDoor
open Go.RowKit

theorem extra_iff (v k : Nat) (hk : k ≤ 7) : extra v ≤ k ↔ v < 2 ^ (7 * k + 7) := by
  constructor
  · intro h
    have he := extra_at v (by omega)
    have h1 : v < 2 ^ (7 * extra v + 7) := (Nat.div_eq_zero_iff_lt (Nat.pow_pos (by decide))).1 he
    exact Nat.lt_of_lt_of_le h1 (Nat.pow_le_pow_right (by decide) (by omega))
  · exact extra_le_of v k hk

theorem extra_div (v k : Nat) (hk : k < 7) : extra v ≤ k ↔ v / 256 ^ k < 128 / 2 ^ k := by
  rw [extra_iff v k (by omega), Nat.div_lt_iff_lt_mul (Nat.pow_pos (by decide))]
  have e : 128 / 2 ^ k * 256 ^ k = 2 ^ (7 * k + 7) := by
    have h1 : 128 / 2 ^ k = 2 ^ (7 - k) := by
      have key : ∀ n : Fin 8, 128 / 2 ^ n.val = 2 ^ (7 - n.val) := by decide
      exact key ⟨k, by omega⟩
    rw [h1, pow256, ← Nat.pow_add]; congr 1; omega
  rw [e]

theorem first_form (k : Nat) (hk : k ≤ 8) : 256 - 256 / 2 ^ k = 65280 / 2 ^ k % 256 ∧ 256 / 2 ^ k ≤ 256 ∧ 1 ≤ 256 / 2 ^ k := by
  have key : ∀ n : Fin 9, 256 - 256 / 2 ^ n.val = 65280 / 2 ^ n.val % 256 ∧ 256 / 2 ^ n.val ≤ 256 ∧ 1 ≤ 256 / 2 ^ n.val := by decide +kernel
  exact key ⟨k, by omega⟩

/-- The first k bits from i on, as a number. -/
def chunk (f : Nat → Bool) (i : Nat) : Nat → Nat
  | 0 => 0
  | k + 1 => 2 * chunk f i k + (f (i + k)).toNat

theorem chunk_lt (f : Nat → Bool) (i k : Nat) : chunk f i k < 2 ^ k := by
  induction k with
  | zero => simp [chunk]
  | succ k ih =>
    have := bool_le (f (i + k))
    simp only [chunk, Nat.pow_succ]
    omega

theorem chunk_byte (f : Nat → Bool) (j : Nat) : chunk f (8 * j) 8 = byteOf f j := by
  simp only [chunk, byteOf, Nat.add_zero]
  omega

/-- A told row. -/
def putTold (b : List UInt8) (row : List Bool) : List UInt8 := if row.all id then b ++ [1] else (b ++ [0]) ++ packBits row

theorem all_take (row : List Bool) (k : Nat) (x : Bool) (h : row[k]? = some x) : (row.take (k + 1)).all id = ((row.take k).all id && x) := by
  rw [take_succ' row k x h]; simp [List.all_append]

theorem pow_le7 (k : Nat) (h : k < 8) : 256 ^ k ≤ 72057594037927936 ∧ 1 ≤ 256 ^ k := by
  have := pow256_le (k := k) (m := 7) (by omega)
  exact ⟨by simpa using this, Nat.pow_pos (by decide)⟩

theorem quo_bounds (v P : Nat) (hv : v < 18446744073709551616) : (0 : Int) ≤ (v : Int) / (P : Int) ∧ (v : Int) / (P : Int) ≤ 18446744073709551615 := by
  have h1 : v / P ≤ v := Nat.div_le_self _ _
  have h2 : ((v / P : Nat) : Int) = (v : Int) / (P : Int) := by simp
  rw [← h2]
  clear h2
  generalize v / P = q at *
  omega

theorem fb_low (v k T q : Nat) (hk : k = extra v) (h7 : k < 7) (hT : T = 256 / 2 ^ k) (hq : q = v / 256 ^ k) : ((256 : Int) - T + q) % 256 = ((firstByte v).toNat : Int) := by
  obtain ⟨f1, f2, f3⟩ := first_form k (by omega)
  have hd := (extra_div v k h7).1 (by omega)
  rw [← hq] at hd
  have h1 : 128 / 2 ^ k = 2 ^ (7 - k) := by
    have key : ∀ n : Fin 8, 128 / 2 ^ n.val = 2 ^ (7 - n.val) := by decide
    exact key ⟨k, by omega⟩
  have hsm := first_small k q h7 (by omega)
  unfold firstByte
  rw [← hk, if_pos h7, ← hq, ← f1, ← hT]
  rw [← hT] at f2 f3
  rw [← f1, ← hT] at hsm
  simp
  omega

theorem fb_high (v k T : Nat) (hk : k = extra v) (h7 : ¬ k < 7) (hT : T = 256 / 2 ^ k) : ((256 : Int) - T) % 256 = ((firstByte v).toNat : Int) := by
  have h8 := extra_le v
  obtain ⟨f1, f2, f3⟩ := first_form k (by omega)
  unfold firstByte
  rw [← hk, if_neg h7, ← f1, ← hT]
  rw [← hT] at f2 f3
  simp
  omega

theorem T_bounds (k : Nat) (h : k ≤ 8) : 1 ≤ 256 / 2 ^ k ∧ 256 / 2 ^ k ≤ 256 ∧ (k = 7 → 256 / 2 ^ k = 2) := by
  obtain ⟨f1, f2, f3⟩ := first_form k h
  exact ⟨f3, f2, by rintro rfl; rfl⟩
end Go.Proofs.YtkodindajfdagaaDoor
/- Rows of bits that are read, in plain Lean. No condition. -/
namespace Go.Proofs.YtkodindajfdagaaDoor
open Go.RowKit

/-- Bit i of bytes. -/
def bitOf (l : List UInt8) (i : Nat) : Bool := (l.getD (i / 8) 0).toNat / (128 / 2 ^ (i % 8)) % 2 == 1

/-- The first n bits of bytes. -/
def unpack (l : List UInt8) (n : Nat) : List Bool := (List.range n).map (bitOf l)

theorem unpack_succ (l : List UInt8) (n : Nat) : unpack l (n + 1) = unpack l n ++ [bitOf l n] := by simp [unpack, List.range_succ]
theorem unpack_length (l : List UInt8) (n : Nat) : (unpack l n).length = n := by simp [unpack]

/-- The last byte has a bit behind the n-th. -/
def padded (l : List UInt8) (n : Nat) : Bool := n % 8 != 0 && (l.getD (n / 8) 0).toNat % 2 ^ (8 - n % 8) != 0

theorem pad_bits (y m : Nat) (hy : y < 256) (hm : m < 8) (h0 : 0 < m) : y % 2 ^ (8 - m) = 0 ↔ ∀ t, m ≤ t → t < 8 → y / (128 / 2 ^ t) % 2 = 0 := by
  have key : ∀ (n : Fin 8) (z : Fin 256), 0 < n.val → (z.val % 2 ^ (8 - n.val) = 0 ↔ ∀ t : Fin 8, n.val ≤ t.val → z.val / (128 / 2 ^ t.val) % 2 = 0) := by decide +kernel
  have := key ⟨m, hm⟩ ⟨y, hy⟩ h0
  constructor
  · intro h t h1 h2; exact this.1 h ⟨t, h2⟩ h1
  · intro h; exact this.2 (fun t ht => h t.val ht t.isLt)

/-- Nothing is behind the n-th bit, just if each bit there is 0. -/
theorem padded_false (l : List UInt8) (n : Nat) : padded l n = false ↔ ∀ i, n ≤ i → i < 8 * ((n + 7) / 8) → bitOf l i = false := by
  have hy := (l.getD (n / 8) 0).toNat_lt
  by_cases h : n % 8 = 0
  · constructor
    · intro _ i h1 h2; omega
    · intro _; simp [padded, h]
  · have hp := pad_bits (l.getD (n / 8) 0).toNat (n % 8) (by omega) (by omega) (by omega)
    have e : padded l n = false ↔ (l.getD (n / 8) 0).toNat % 2 ^ (8 - n % 8) = 0 := by
      unfold padded; simp [h]
    rw [e, hp]
    constructor
    · intro hh i h1 h2
      have h3 : i / 8 = n / 8 := by omega
      have := hh (i % 8) (by omega) (by omega)
      unfold bitOf; rw [h3, this]; rfl
    · intro hh t h1 h2
      have := hh (8 * (n / 8) + t) (by omega) (by omega)
      unfold bitOf at this
      rw [show (8 * (n / 8) + t) / 8 = n / 8 from by omega, show (8 * (n / 8) + t) % 8 = t from by omega] at this
      have h5 := beq_eq_false_iff_ne.1 this
      omega

namespace Cur
def row (c : Cur) (n : Nat) : List UInt8 := (c.b.drop c.at_).take ((n + 7) / 8)
def bits (c : Cur) (n : Int) : List Bool × Cur :=
  if c.code ≠ 0 ∨ n < 0 ∨ c.left < (n.toNat + 7) / 8 then ([], c.fail 3)
  else if padded (c.row n.toNat) n.toNat then ([], c.fail 5)
  else (unpack (c.row n.toNat) n.toNat, { c with at_ := c.at_ + (n.toNat + 7) / 8 })
def told (c : Cur) (n : Int) : List Bool × Cur :=
  if c.left < 1 ∨ n < 0 then ([], c.fail 3)
  else if c.head = 1 then (List.replicate n.toNat true, { c with at_ := c.at_ + 1 })
  else if c.head = 0 then
    if (bits { c with at_ := c.at_ + 1 } n).2.code ≠ 0 then ([], { (bits { c with at_ := c.at_ + 1 } n).2 with at_ := c.at_ })
    else bits { c with at_ := c.at_ + 1 } n
  else ([], c.fail 5)
end Cur

theorem shl_pad (y m : Nat) (hy : y < 256) (hm : m < 8) : (y * 2 ^ m) % 256 = 0 ↔ y % 2 ^ (8 - m) = 0 := by
  have key : ∀ (n : Fin 8) (z : Fin 256), (z.val * 2 ^ n.val) % 256 = 0 ↔ z.val % 2 ^ (8 - n.val) = 0 := by decide +kernel
  exact key ⟨m, hm⟩ ⟨y, hy⟩

theorem shr_bit (y m : Nat) (hy : y < 256) (hm : m < 8) : y / 2 ^ (7 - m) % 2 = y / (128 / 2 ^ m) % 2 := by
  have key : ∀ (n : Fin 8) (z : Fin 256), z.val / 2 ^ (7 - n.val) % 2 = z.val / (128 / 2 ^ n.val) % 2 := by decide +kernel
  exact key ⟨m, hm⟩ ⟨y, hy⟩

theorem and_one (y : Nat) (hy : y < 256) : Go.bits BinOp.and IntKind.u8 (y : Int) 1 = ((y % 2 : Nat) : Int) := by
  have key : ∀ (z : Fin 256), Go.bits BinOp.and IntKind.u8 (z.val : Int) 1 = ((z.val % 2 : Nat) : Int) := by decide +kernel
  exact key ⟨y, hy⟩

theorem bit_read (R : List UInt8) (k : Nat) (y : UInt8) (hy : R[k / 8]? = some y) : (Go.bits BinOp.and IntKind.u8 ((y.toNat : Int) / 2 ^ (7 - k % 8)) 1 == 1) = bitOf R k := by
  have hy8 := y.toNat_lt
  have e : ((y.toNat : Int) / 2 ^ (7 - k % 8)) = ((y.toNat / 2 ^ (7 - k % 8) : Nat) : Int) := by simp
  have hlt : y.toNat / 2 ^ (7 - k % 8) < 256 := Nat.lt_of_le_of_lt (Nat.div_le_self _ _) (by omega)
  rw [e, and_one _ hlt, shr_bit _ _ (by omega) (by omega)]
  unfold bitOf
  have : R.getD (k / 8) 0 = y := by simp [hy]
  rw [this]
  generalize y.toNat / (128 / 2 ^ (k % 8)) % 2 = z
  rw [Bool.eq_iff_iff]
  simp
  omega

theorem pad_shl (R : List UInt8) (n : Nat) (y : UInt8) (hy : R[n / 8]? = some y) (h8 : n % 8 ≠ 0) : ((y.toNat : Int) * 2 ^ (n % 8) % 256 != 0) = padded R n := by
  have hy8 := y.toNat_lt
  have e : ((y.toNat : Int) * 2 ^ (n % 8) % 256) = ((y.toNat * 2 ^ (n % 8) % 256 : Nat) : Int) := by simp
  have h := shl_pad y.toNat (n % 8) (by omega) (by omega)
  unfold padded
  have : R.getD (n / 8) 0 = y := by simp [hy]
  have hn : (n % 8 != 0) = true := by simpa using h8
  rw [this, e, hn, Bool.true_and]
  generalize y.toNat * 2 ^ (n % 8) % 256 = a at *
  generalize y.toNat % 2 ^ (8 - n % 8) = b at *
  rw [Bool.eq_iff_iff]
  simp
  omega
end Go.Proofs.YtkodindajfdagaaDoor
/- What a header says, read: the program's reader in plain Lean. No condition. -/
namespace Go.Proofs.YtkodindajfdagaaDoor

/-- A check sum, if there is one. -/
structure Ck where
  has : Bool
  sum : UInt32
  deriving DecidableEq
structure Sub where
  size : UInt64
  ck : Ck
  deriving DecidableEq
structure Fil where
  name : List UInt8
  stream : Bool
  dir : Bool
  hasAttr : Bool
  attr : UInt32
  hasTime : Bool
  time : UInt64
  deriving DecidableEq
structure Fol where
  f : Folder
  ck : Ck
structure Dsc where
  packed : Bool
  place : UInt64
  packs : List UInt64
  checks : List Ck
  folders : List Fol
  subs : List (List Sub)
  files : List Fil

/-- A reader's cursor, and the first thing that was wrong. -/
structure Rs where
  c : Cur
  k : Nat

namespace Rs
def fail (s : Rs) (e : Nat) : Rs := { s with k := if s.k = 0 then e else s.k }
def ok (s : Rs) : Rs := { s with k := if s.k = 0 then s.c.code else s.k }
def num (s : Rs) (n : Int) : Nat × Rs := ((s.c.num n).1, { s with c := (s.c.num n).2 })
def byte (s : Rs) : Nat × Rs := s.num 1
def number (s : Rs) : Nat × Rs := (s.c.number.1, { s with c := s.c.number.2 })
/-- A number that may not be bad. -/
def lim (s : Rs) (bad : Nat → Rs → Bool) (e : Nat) : Nat × Rs :=
  if s.number.2.ok.k ≠ 0 then (0, s.number.2.ok) else if bad s.number.1 s.number.2.ok = true then (0, s.number.2.ok.fail e) else (s.number.1, s.number.2.ok)
def things (s : Rs) : Nat × Rs := s.lim (fun n t => decide (t.c.left < n)) 3
def size (s : Rs) : Nat × Rs := s.lim (fun n _ => decide (1099511627776 < n)) 7
def below (s : Rs) (m : Nat) : Nat × Rs := s.lim (fun n _ => decide (m ≤ n)) 10

theorem ok_zero {s : Rs} (h : s.ok.k = 0) : s.k = 0 ∧ s.c.code = 0 := by
  unfold ok at h
  by_cases hk : s.k = 0
  · simp [hk] at h; exact ⟨hk, h⟩
  · simp [hk] at h
theorem ok_ok (s : Rs) : s.ok.ok = s.ok := by
  unfold ok
  by_cases hk : s.k = 0
  · simp [hk]
  · simp [hk]
theorem ok_c (s : Rs) : s.ok.c = s.c := rfl
theorem fail_c (s : Rs) (e : Nat) : (s.fail e).c = s.c := rfl
end Rs
end Go.Proofs.YtkodindajfdagaaDoor
