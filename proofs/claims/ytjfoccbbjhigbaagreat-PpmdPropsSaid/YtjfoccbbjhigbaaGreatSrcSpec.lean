/- What a cursor over bytes comes to, in plain Lean. No condition. -/
namespace Go.Proofs.YtjfoccbbjhigbaaGreat

/-- A cursor: the bytes, how many were read, why it ended (0: it has not). -/
structure Cur where
  b : List UInt8
  at_ : Nat
  code : Nat
  deriving DecidableEq

/-- Bytes, the least first, as a number. -/
def leNat : List UInt8 → Nat
  | [] => 0
  | x :: l => x.toNat + 256 * leNat l

theorem leNat_snoc (l : List UInt8) (x : UInt8) : leNat (l ++ [x]) = leNat l + 256 ^ l.length * x.toNat := by
  induction l with
  | nil => simp [leNat]
  | cons y l ih =>
    simp only [List.cons_append, leNat, ih, List.length_cons, Nat.pow_succ]
    have : 256 * (256 ^ l.length * x.toNat) = 256 ^ l.length * 256 * x.toNat := by rw [Nat.mul_comm (256 ^ l.length) 256, Nat.mul_assoc]
    omega

theorem leNat_lt (l : List UInt8) : leNat l < 256 ^ l.length := by
  induction l with
  | nil => simp [leNat]
  | cons y l ih =>
    have := y.toNat_lt
    simp only [leNat, List.length_cons, Nat.pow_succ]
    omega

theorem take_succ' {α : Type} (l : List α) (k : Nat) (x : α) (h : l[k]? = some x) : l.take (k + 1) = l.take k ++ [x] := by
  rw [List.take_add_one, h]; rfl

theorem take_eq_step {α : Type} (a b : List α) (k : Nat) (x y : α) (hx : a[k]? = some x) (hy : b[k]? = some y) (h : a.take k = b.take k) (e : x = y) : a.take (k + 1) = b.take (k + 1) := by
  rw [take_succ' a k x hx, take_succ' b k y hy, h, e]

theorem ne_at {α : Type} (a b : List α) (k : Nat) (x y : α) (hx : a[k]? = some x) (hy : b[k]? = some y) (e : x ≠ y) : a ≠ b := by
  rintro rfl
  rw [hx] at hy
  exact e (Option.some.inj hy)

theorem leNat_take (l : List UInt8) (k : Nat) (x : UInt8) (h : l[k]? = some x) : leNat (l.take (k + 1)) = leNat (l.take k) + 256 ^ k * x.toNat := by
  rw [take_succ' l k x h, leNat_snoc]
  have : (l.take k).length = k := by
    have := (List.getElem?_eq_some_iff.1 h).1
    simp; omega
  rw [this]

namespace Cur
def live (c : Cur) : List UInt8 := if c.code = 0 then c.b else c.b.take c.at_
def left (c : Cur) : Nat := if c.code = 0 then c.b.length - c.at_ else 0
def fail (c : Cur) (k : Nat) : Cur := { c with code := if c.code = 0 then k else c.code }
def take (c : Cur) (n : Nat) : List UInt8 × Cur :=
  if c.code ≠ 0 ∨ c.left < n then ([], c.fail 3) else ((c.b.drop c.at_).take n, { c with at_ := c.at_ + n })
def sized (n : Int) : Bool := n == 1 || n == 2 || n == 4 || n == 8
def num (c : Cur) (n : Int) : Nat × Cur :=
  if sized n then (leNat (c.take n.toNat).1, (c.take n.toNat).2) else (0, c.fail 3)

/-- How many leading ones a byte has. -/
def ones (x : Nat) : Nat := if x < 128 then 0 else if x < 192 then 1 else if x < 224 then 2 else if x < 240 then 3 else if x < 248 then 4 else if x < 252 then 5 else if x < 254 then 6 else if x < 255 then 7 else 8
theorem ones_le (x : Nat) : ones x ≤ 8 := by unfold ones; repeat' split
                                             all_goals omega
def head (c : Cur) : Nat := (c.b.getD c.at_ 0).toNat
def number (c : Cur) : Nat × Cur :=
  if c.left < 1 + ones c.head then (0, c.fail 3)
  else (leNat ((c.b.drop (c.at_ + 1)).take (ones c.head)) + 256 ^ ones c.head * (if ones c.head < 7 then c.head % 2 ^ (7 - ones c.head) else 0), { c with at_ := c.at_ + 1 + ones c.head })

theorem live_left (c : Cur) (h : c.at_ ≤ c.b.length) : c.live.length = c.at_ + c.left := by
  unfold live left
  split
  · omega
  · simp; omega
end Cur

theorem Cur.take_length (c : Cur) (n : Nat) : (c.take n).1.length ≤ c.b.length := by
  unfold Cur.take; split <;> simp; omega

theorem Cur.take_b (c : Cur) (n : Nat) : (c.take n).2.b = c.b := by
  unfold Cur.take; split <;> rfl
end Go.Proofs.YtjfoccbbjhigbaaGreat
