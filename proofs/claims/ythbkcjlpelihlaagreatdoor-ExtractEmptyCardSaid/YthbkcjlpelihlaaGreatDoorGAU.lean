/- Plain facts for the references' Put functions. No condition. -/
import Derived.Test.YthbkcjlpelihlaaGreatDoorGAT
import Derived.Test.YthbkcjlpelihlaaGreatDoorGAB
namespace Go.Proofs.YthbkcjlpelihlaaGreatDoor
open Go.RowKit

theorem extra_iff (v k : Nat) (hk : k ≤ 7) : extra v ≤ k ↔ v < 2 ^ (7 * k + 7) := by
  constructor
  · intro h
    have he := extra_at v (by omega)
    have h1 : v < 2 ^ (7 * extra v + 7) := (Nat.div_eq_zero_iff_lt (Nat.pow_pos (by decide))).1 he
    exact Nat.lt_of_lt_of_le h1 (Nat.pow_le_pow_right (by decide) (by omega))
  · exact extra_le_of v k hk

theorem extra_div (v k : Nat) (hk : k < 7) : extra v ≤ k ↔ v / 256 ^ k < 128 / 2 ^ k := by
  rw [extra_iff v k (by omega), Nat.div_lt_iff_lt_mul (Nat.pow_pos (by decide))]
  have e : 128 / 2 ^ k * 256 ^ k = 2 ^ (7 * k + 7) := by
    have h1 : 128 / 2 ^ k = 2 ^ (7 - k) := by
      have key : ∀ n : Fin 8, 128 / 2 ^ n.val = 2 ^ (7 - n.val) := by decide
      exact key ⟨k, by omega⟩
    rw [h1, pow256, ← Nat.pow_add]; congr 1; omega
  rw [e]

theorem first_form (k : Nat) (hk : k ≤ 8) : 256 - 256 / 2 ^ k = 65280 / 2 ^ k % 256 ∧ 256 / 2 ^ k ≤ 256 ∧ 1 ≤ 256 / 2 ^ k := by
  have key : ∀ n : Fin 9, 256 - 256 / 2 ^ n.val = 65280 / 2 ^ n.val % 256 ∧ 256 / 2 ^ n.val ≤ 256 ∧ 1 ≤ 256 / 2 ^ n.val := by decide +kernel
  exact key ⟨k, by omega⟩

/-- The first k bits from i on, as a number. -/
def chunk (f : Nat → Bool) (i : Nat) : Nat → Nat
  | 0 => 0
  | k + 1 => 2 * chunk f i k + (f (i + k)).toNat

theorem chunk_lt (f : Nat → Bool) (i k : Nat) : chunk f i k < 2 ^ k := by
  induction k with
  | zero => simp [chunk]
  | succ k ih =>
    have := bool_le (f (i + k))
    simp only [chunk, Nat.pow_succ]
    omega

theorem chunk_byte (f : Nat → Bool) (j : Nat) : chunk f (8 * j) 8 = byteOf f j := by
  simp only [chunk, byteOf, Nat.add_zero]
  omega

/-- A told row. -/
def putTold (b : List UInt8) (row : List Bool) : List UInt8 := if row.all id then b ++ [1] else (b ++ [0]) ++ packBits row

theorem all_take (row : List Bool) (k : Nat) (x : Bool) (h : row[k]? = some x) : (row.take (k + 1)).all id = ((row.take k).all id && x) := by
  rw [take_succ' row k x h]; simp [List.all_append]

theorem pow_le7 (k : Nat) (h : k < 8) : 256 ^ k ≤ 72057594037927936 ∧ 1 ≤ 256 ^ k := by
  have := pow256_le (k := k) (m := 7) (by omega)
  exact ⟨by simpa using this, Nat.pow_pos (by decide)⟩

theorem quo_bounds (v P : Nat) (hv : v < 18446744073709551616) : (0 : Int) ≤ (v : Int) / (P : Int) ∧ (v : Int) / (P : Int) ≤ 18446744073709551615 := by
  have h1 : v / P ≤ v := Nat.div_le_self _ _
  have h2 : ((v / P : Nat) : Int) = (v : Int) / (P : Int) := by simp
  rw [← h2]
  clear h2
  generalize v / P = q at *
  omega

theorem fb_low (v k T q : Nat) (hk : k = extra v) (h7 : k < 7) (hT : T = 256 / 2 ^ k) (hq : q = v / 256 ^ k) : ((256 : Int) - T + q) % 256 = ((firstByte v).toNat : Int) := by
  obtain ⟨f1, f2, f3⟩ := first_form k (by omega)
  have hd := (extra_div v k h7).1 (by omega)
  rw [← hq] at hd
  have h1 : 128 / 2 ^ k = 2 ^ (7 - k) := by
    have key : ∀ n : Fin 8, 128 / 2 ^ n.val = 2 ^ (7 - n.val) := by decide
    exact key ⟨k, by omega⟩
  have hsm := first_small k q h7 (by omega)
  unfold firstByte
  rw [← hk, if_pos h7, ← hq, ← f1, ← hT]
  rw [← hT] at f2 f3
  rw [← f1, ← hT] at hsm
  simp
  omega

theorem fb_high (v k T : Nat) (hk : k = extra v) (h7 : ¬ k < 7) (hT : T = 256 / 2 ^ k) : ((256 : Int) - T) % 256 = ((firstByte v).toNat : Int) := by
  have h8 := extra_le v
  obtain ⟨f1, f2, f3⟩ := first_form k (by omega)
  unfold firstByte
  rw [← hk, if_neg h7, ← f1, ← hT]
  rw [← hT] at f2 f3
  simp
  omega

theorem T_bounds (k : Nat) (h : k ≤ 8) : 1 ≤ 256 / 2 ^ k ∧ 256 / 2 ^ k ≤ 256 ∧ (k = 7 → 256 / 2 ^ k = 2) := by
  obtain ⟨f1, f2, f3⟩ := first_form k h
  exact ⟨f3, f2, by rintro rfl; rfl⟩
end Go.Proofs.YthbkcjlpelihlaaGreatDoor
/- Rows of bits that are read, in plain Lean. No condition. -/
namespace Go.Proofs.YthbkcjlpelihlaaGreatDoor
open Go.RowKit

/-- Bit i of bytes. -/
def bitOf (l : List UInt8) (i : Nat) : Bool := (l.getD (i / 8) 0).toNat / (128 / 2 ^ (i % 8)) % 2 == 1

/-- The first n bits of bytes. -/
def unpack (l : List UInt8) (n : Nat) : List Bool := (List.range n).map (bitOf l)

theorem unpack_succ (l : List UInt8) (n : Nat) : unpack l (n + 1) = unpack l n ++ [bitOf l n] := by simp [unpack, List.range_succ]
theorem unpack_length (l : List UInt8) (n : Nat) : (unpack l n).length = n := by simp [unpack]

/-- The last byte has a bit behind the n-th. -/
def padded (l : List UInt8) (n : Nat) : Bool := n % 8 != 0 && (l.getD (n / 8) 0).toNat % 2 ^ (8 - n % 8) != 0

theorem pad_bits (y m : Nat) (hy : y < 256) (hm : m < 8) (h0 : 0 < m) : y % 2 ^ (8 - m) = 0 ↔ ∀ t, m ≤ t → t < 8 → y / (128 / 2 ^ t) % 2 = 0 := by
  have key : ∀ (n : Fin 8) (z : Fin 256), 0 < n.val → (z.val % 2 ^ (8 - n.val) = 0 ↔ ∀ t : Fin 8, n.val ≤ t.val → z.val / (128 / 2 ^ t.val) % 2 = 0) := by decide +kernel
  have := key ⟨m, hm⟩ ⟨y, hy⟩ h0
  constructor
  · intro h t h1 h2; exact this.1 h ⟨t, h2⟩ h1
  · intro h; exact this.2 (fun t ht => h t.val ht t.isLt)

/-- Nothing is behind the n-th bit, just if each bit there is 0. -/
theorem padded_false (l : List UInt8) (n : Nat) : padded l n = false ↔ ∀ i, n ≤ i → i < 8 * ((n + 7) / 8) → bitOf l i = false := by
  have hy := (l.getD (n / 8) 0).toNat_lt
  by_cases h : n % 8 = 0
  · constructor
    · intro _ i h1 h2; omega
    · intro _; simp [padded, h]
  · have hp := pad_bits (l.getD (n / 8) 0).toNat (n % 8) (by omega) (by omega) (by omega)
    have e : padded l n = false ↔ (l.getD (n / 8) 0).toNat % 2 ^ (8 - n % 8) = 0 := by
      unfold padded; simp [h]
    rw [e, hp]
    constructor
    · intro hh i h1 h2
      have h3 : i / 8 = n / 8 := by omega
      have := hh (i % 8) (by omega) (by omega)
      unfold bitOf; rw [h3, this]; rfl
    · intro hh t h1 h2
      have := hh (8 * (n / 8) + t) (by omega) (by omega)
      unfold bitOf at this
      rw [show (8 * (n / 8) + t) / 8 = n / 8 from by omega, show (8 * (n / 8) + t) % 8 = t from by omega] at this
      have h5 := beq_eq_false_iff_ne.1 this
      omega

namespace Cur
def row (c : Cur) (n : Nat) : List UInt8 := (c.b.drop c.at_).take ((n + 7) / 8)
def bits (c : Cur) (n : Int) : List Bool × Cur :=
  if c.code ≠ 0 ∨ n < 0 ∨ c.left < (n.toNat + 7) / 8 then ([], c.fail 3)
  else if padded (c.row n.toNat) n.toNat then ([], c.fail 5)
  else (unpack (c.row n.toNat) n.toNat, { c with at_ := c.at_ + (n.toNat + 7) / 8 })
def told (c : Cur) (n : Int) : List Bool × Cur :=
  if c.left < 1 ∨ n < 0 then ([], c.fail 3)
  else if c.head = 1 then (List.replicate n.toNat true, { c with at_ := c.at_ + 1 })
  else if c.head = 0 then
    if (bits { c with at_ := c.at_ + 1 } n).2.code ≠ 0 then ([], { (bits { c with at_ := c.at_ + 1 } n).2 with at_ := c.at_ })
    else bits { c with at_ := c.at_ + 1 } n
  else ([], c.fail 5)
end Cur

theorem shl_pad (y m : Nat) (hy : y < 256) (hm : m < 8) : (y * 2 ^ m) % 256 = 0 ↔ y % 2 ^ (8 - m) = 0 := by
  have key : ∀ (n : Fin 8) (z : Fin 256), (z.val * 2 ^ n.val) % 256 = 0 ↔ z.val % 2 ^ (8 - n.val) = 0 := by decide +kernel
  exact key ⟨m, hm⟩ ⟨y, hy⟩

theorem shr_bit (y m : Nat) (hy : y < 256) (hm : m < 8) : y / 2 ^ (7 - m) % 2 = y / (128 / 2 ^ m) % 2 := by
  have key : ∀ (n : Fin 8) (z : Fin 256), z.val / 2 ^ (7 - n.val) % 2 = z.val / (128 / 2 ^ n.val) % 2 := by decide +kernel
  exact key ⟨m, hm⟩ ⟨y, hy⟩

theorem and_one (y : Nat) (hy : y < 256) : Go.bits BinOp.and IntKind.u8 (y : Int) 1 = ((y % 2 : Nat) : Int) := by
  have key : ∀ (z : Fin 256), Go.bits BinOp.and IntKind.u8 (z.val : Int) 1 = ((z.val % 2 : Nat) : Int) := by decide +kernel
  exact key ⟨y, hy⟩

theorem bit_read (R : List UInt8) (k : Nat) (y : UInt8) (hy : R[k / 8]? = some y) : (Go.bits BinOp.and IntKind.u8 ((y.toNat : Int) / 2 ^ (7 - k % 8)) 1 == 1) = bitOf R k := by
  have hy8 := y.toNat_lt
  have e : ((y.toNat : Int) / 2 ^ (7 - k % 8)) = ((y.toNat / 2 ^ (7 - k % 8) : Nat) : Int) := by simp
  have hlt : y.toNat / 2 ^ (7 - k % 8) < 256 := Nat.lt_of_le_of_lt (Nat.div_le_self _ _) (by omega)
  rw [e, and_one _ hlt, shr_bit _ _ (by omega) (by omega)]
  unfold bitOf
  have : R.getD (k / 8) 0 = y := by simp [hy]
  rw [this]
  generalize y.toNat / (128 / 2 ^ (k % 8)) % 2 = z
  rw [Bool.eq_iff_iff]
  simp
  omega

theorem pad_shl (R : List UInt8) (n : Nat) (y : UInt8) (hy : R[n / 8]? = some y) (h8 : n % 8 ≠ 0) : ((y.toNat : Int) * 2 ^ (n % 8) % 256 != 0) = padded R n := by
  have hy8 := y.toNat_lt
  have e : ((y.toNat : Int) * 2 ^ (n % 8) % 256) = ((y.toNat * 2 ^ (n % 8) % 256 : Nat) : Int) := by simp
  have h := shl_pad y.toNat (n % 8) (by omega) (by omega)
  unfold padded
  have : R.getD (n / 8) 0 = y := by simp [hy]
  have hn : (n % 8 != 0) = true := by simpa using h8
  rw [this, e, hn, Bool.true_and]
  generalize y.toNat * 2 ^ (n % 8) % 256 = a at *
  generalize y.toNat % 2 ^ (8 - n % 8) = b at *
  rw [Bool.eq_iff_iff]
  simp
  omega
end Go.Proofs.YthbkcjlpelihlaaGreatDoor
/- Folders of coders, in plain Lean: whether they hold. No condition. -/
namespace Go.Proofs.YthbkcjlpelihlaaGreatDoor

structure Coder where
  method : Int
  props : List UInt8

structure Folder where
  coders : List Coder
  binds : List (Int × Int)
  packs : List Int
  sizes : List UInt64

/-- How many streams go into a coder of that method. -/
def ins (m : Int) : Nat := if m = 6 then 4 else if 1 ≤ m ∧ m ≤ 7 then 1 else 0

theorem ins_le (m : Int) : ins m ≤ 4 := by unfold ins; repeat' split
                                           all_goals omega

/-- Where a number stands first. -/
def fidx (l : List Int) (x : Int) : Int := match l.findIdx? (· == x) with | some k => k | none => -1

namespace Folder
def first (f : Folder) (k : Nat) : Nat := ((f.coders.take k).map fun c => ins c.method).sum
def fromB (f : Folder) (i : Int) : Option Int := (f.binds.find? fun b => b.1 == i).map (·.2)
def fromP (f : Folder) (i : Int) : Int := fidx f.packs i
/-- What feeds a stream: a coder, or a packed stream. -/
def from_ (f : Folder) (i : Int) : Int × Int := match f.fromB i with | some c => (c, -1) | none => (-1, f.fromP i)
def insOf (f : Folder) (c : Nat) : Nat := match f.coders[c]? with | some x => ins x.method | none => 0
/-- The coders that feed a coder: of the first so many streams. -/
def feedersTo (f : Folder) (c : Nat) (k : Nat) : List Int := ((List.range k).map fun i => (f.from_ ((f.first c + i : Nat) : Int)).1).filter (0 ≤ ·)
def feeders (f : Folder) (c : Nat) : List Int := f.feedersTo c (f.insOf c)
/-- Does one coder feed another one? -/
def feeds (f : Folder) (a b : Nat) : Bool := f.binds.any fun x => decide (x.2 = a) && decide ((f.first b : Int) ≤ x.1) && decide (x.1 < f.first b + f.insOf b)

theorem first_succ (f : Folder) (k : Nat) (x : Coder) (h : f.coders[k]? = some x) : f.first (k + 1) = f.first k + ins x.method := by
  simp [first, List.take_add_one, h]

theorem first_le (f : Folder) (k : Nat) : f.first k ≤ 4 * k := by
  induction k with
  | zero => simp [first]
  | succ k ih =>
    cases h : f.coders[k]? with
    | none =>
      have : f.coders.take (k + 1) = f.coders.take k := by simp [List.take_add_one, h]
      unfold first at *; rw [this]; omega
    | some x => rw [f.first_succ k x h]; have := ins_le x.method; omega

theorem first_min (f : Folder) (k : Nat) (h : f.coders.length ≤ k) : f.first k = f.first f.coders.length := by
  unfold first; rw [List.take_of_length_le h, List.take_of_length_le (Nat.le_refl _)]
end Folder

/-- A walk through a graph in depth, by colours (1: on the way, 2: done): whether a circle was found, and the colours then. None: out of fuel. -/
def visit (fd : Nat → List Nat) : Nat → List Nat → Nat → Option (Bool × List Nat)
  | 0, _, _ => none
  | fuel + 1, st, c =>
    if st[c]? = some 1 then some (true, st)
    else if st[c]? = some 2 then some (false, st)
    else (go (visit fd fuel) (fd c) (st.set c 1)).map fun r => (r.1, r.2.set c 2)
where
  go (v : List Nat → Nat → Option (Bool × List Nat)) : List Nat → List Nat → Option (Bool × List Nat)
    | [], st => some (false, st)
    | x :: xs, st => (v st x).bind fun r => if r.1 then some (true, r.2) else go v xs r.2

/-- From each of them. -/
def visitAll (fd : Nat → List Nat) (fuel : Nat) (l : List Nat) (st : List Nat) : Option (Bool × List Nat) := visit.go (visit fd fuel) l st
end Go.Proofs.YthbkcjlpelihlaaGreatDoor
/- What a header says, read: the program's reader in plain Lean. No condition. -/
namespace Go.Proofs.YthbkcjlpelihlaaGreatDoor

/-- A check sum, if there is one. -/
structure Ck where
  has : Bool
  sum : UInt32
  deriving DecidableEq
structure Sub where
  size : UInt64
  ck : Ck
  deriving DecidableEq
structure Fil where
  name : List UInt8
  stream : Bool
  dir : Bool
  hasAttr : Bool
  attr : UInt32
  hasTime : Bool
  time : UInt64
  deriving DecidableEq
structure Fol where
  f : Folder
  ck : Ck
structure Dsc where
  packed : Bool
  place : UInt64
  packs : List UInt64
  checks : List Ck
  folders : List Fol
  subs : List (List Sub)
  files : List Fil

/-- A reader's cursor, and the first thing that was wrong. -/
structure Rs where
  c : Cur
  k : Nat

namespace Rs
def fail (s : Rs) (e : Nat) : Rs := { s with k := if s.k = 0 then e else s.k }
def ok (s : Rs) : Rs := { s with k := if s.k = 0 then s.c.code else s.k }
def num (s : Rs) (n : Int) : Nat × Rs := ((s.c.num n).1, { s with c := (s.c.num n).2 })
def byte (s : Rs) : Nat × Rs := s.num 1
def number (s : Rs) : Nat × Rs := (s.c.number.1, { s with c := s.c.number.2 })
/-- A number that may not be bad. -/
def lim (s : Rs) (bad : Nat → Rs → Bool) (e : Nat) : Nat × Rs :=
  if s.number.2.ok.k ≠ 0 then (0, s.number.2.ok) else if bad s.number.1 s.number.2.ok = true then (0, s.number.2.ok.fail e) else (s.number.1, s.number.2.ok)
def things (s : Rs) : Nat × Rs := s.lim (fun n t => decide (t.c.left < n)) 3
def size (s : Rs) : Nat × Rs := s.lim (fun n _ => decide (1099511627776 < n)) 7
def below (s : Rs) (m : Nat) : Nat × Rs := s.lim (fun n _ => decide (m ≤ n)) 10

theorem ok_zero {s : Rs} (h : s.ok.k = 0) : s.k = 0 ∧ s.c.code = 0 := by
  unfold ok at h
  by_cases hk : s.k = 0
  · simp [hk] at h; exact ⟨hk, h⟩
  · simp [hk] at h
theorem ok_ok (s : Rs) : s.ok.ok = s.ok := by
  unfold ok
  by_cases hk : s.k = 0
  · simp [hk]
  · simp [hk]
theorem ok_c (s : Rs) : s.ok.c = s.c := rfl
theorem fail_c (s : Rs) (e : Nat) : (s.fail e).c = s.c := rfl
end Rs
end Go.Proofs.YthbkcjlpelihlaaGreatDoor
/- Contracts: the reader of a header: fail, ok, byte, end. No condition. -/
namespace Go.Proofs.YthbkcjlpelihlaaGreatDoor
open Go.RowKit

/-- A reader's fields that hold what was read: their values. -/
structure DV where
  pk : Value
  pl : Value
  ps : Value
  cs : Value
  fs : Value
  ss : Value
  es : Value

/-- The reader lies in block p, its cursor in block cp, that one's bytes in block q. -/
structure RdAt (w : World) (p cp : Nat) (q : Option Nat) (s : Rs) (d : DV) : Prop where
  blk : w.heap[p]? = some (.cells #[.pointer (some ⟨cp, 0, none⟩), .int .i64 s.k, d.pk, d.pl, d.ps, d.cs, d.fs, d.ss, d.es] 262 (0, 0))
  cur : CurAt w cp q s.c
  ne : p ≠ cp
  nq : q ≠ some p
  ql : ∀ k, q = some k → k < w.heap.size

theorem RdAt.lt {w : World} {p cp : Nat} {q : Option Nat} {s : Rs} {d : DV} (h : RdAt w p cp q s d) : p < w.heap.size := (Array.getElem?_eq_some_iff.1 h.blk).1
theorem RdAt.fr {w w' : World} {p cp : Nat} {q : Option Nat} {s : Rs} {d : DV} {S : List Nat} (h : RdAt w p cp q s d) (F : Fr S w w') (h1 : p ∉ S) (h2 : cp ∉ S) (h3 : ∀ k, q = some k → k ∉ S) : RdAt w' p cp q s d :=
  ⟨(F.block p h.lt h1).trans h.blk, h.cur.fr F h2 h3, h.ne, h.nq, fun k hk => Nat.lt_of_lt_of_le (h.ql k hk) F.size⟩
theorem RdAt.same {w w' : World} {p cp : Nat} {q : Option Nat} {s : Rs} {d : DV} (h : RdAt w p cp q s d) (F : Same w w') : RdAt w' p cp q s d := h.fr (S := []) F.fr (by simp) (by simp) (by simp)
theorem RdAt.fr0 {w w' : World} {p cp : Nat} {q : Option Nat} {s : Rs} {d : DV} (h : RdAt w p cp q s d) (F : Fr [] w w') : RdAt w' p cp q s d := h.fr F (by simp) (by simp) (by simp)
/-- The cursor has gone on. -/
theorem RdAt.cur' {w w' : World} {p cp : Nat} {q : Option Nat} {s : Rs} {d : DV} {c : Cur} (h : RdAt w p cp q s d) (F : Fr [cp] w w') (hc : CurAt w' cp q c) : RdAt w' p cp q { s with c := c } d :=
  ⟨(F.block p h.lt (by simp [h.ne])).trans h.blk, hc, h.ne, h.nq, fun k hk => Nat.lt_of_lt_of_le (h.ql k hk) F.size⟩

/-- A block of nine cells. -/
theorem cells9 {w : World} {g : Nat} {t : TypeId} {a0 a1 a2 a3 a4 a5 a6 a7 a8 : Value} (h : w.heap[g]? = some (.cells #[a0, a1, a2, a3, a4, a5, a6, a7, a8] t (0, 0))) :
    w.cell? ⟨g, 0, none⟩ = some a0 ∧ w.cell? ⟨g, 1, none⟩ = some a1 ∧ w.cell? ⟨g, 2, none⟩ = some a2 ∧ w.cell? ⟨g, 3, none⟩ = some a3 ∧ w.cell? ⟨g, 4, none⟩ = some a4 ∧ w.cell? ⟨g, 5, none⟩ = some a5 ∧ w.cell? ⟨g, 6, none⟩ = some a6 ∧ w.cell? ⟨g, 7, none⟩ = some a7 ∧ w.cell? ⟨g, 8, none⟩ = some a8 ∧ (∀ j, w.frozen? ⟨g, j, none⟩ = false) :=
  ⟨by simp [Go.Joins.cell_of_block h], by simp [Go.Joins.cell_of_block h], by simp [Go.Joins.cell_of_block h], by simp [Go.Joins.cell_of_block h], by simp [Go.Joins.cell_of_block h], by simp [Go.Joins.cell_of_block h], by simp [Go.Joins.cell_of_block h], by simp [Go.Joins.cell_of_block h], by simp [Go.Joins.cell_of_block h], fun j => Go.Joins.unfrozen_of_block h j⟩

/-- The code has turned. -/
theorem RdAt.code {w : World} {p cp : Nat} {q : Option Nat} {s : Rs} {d : DV} (h : RdAt w p cp q s d) (k : Nat) : RdAt (w.setCell ⟨p, 1, none⟩ (.int .i64 (k : Int))) p cp q { s with k := k } d :=
  ⟨Go.Joins.block_setCell h.blk _, h.cur.fr ((Fr.refl [p] w).setCell (by simp) _) (by simp; exact fun e => h.ne e.symm) (by rintro k hk e; simp at e; subst e; exact h.nq hk), h.ne, h.nq, fun k hk => by rw [World.size_setCell]; exact h.ql k hk⟩

theorem natz (n : Nat) : ((n : Int) == 0) = (n == 0) := by rw [Bool.eq_iff_iff]; simp

set_option maxHeartbeats 400000 in
theorem rfail_any (w : World) (p cp : Nat) (q : Option Nat) (s : Rs) (d : DV) (e : Nat) (h : RdAt w p cp q s d) :
    Calls Tryz.prog 179 #[.pointer (some ⟨p, 0, none⟩), .int .i64 (e : Int)] w fun r w' => r = .returned (.tuple #[]) ∧ RdAt w' p cp q (s.fail e) d ∧ Fr [p] w w' := by
  obtain ⟨c0, c1, -, -, -, -, -, -, -, cf⟩ := cells9 h.blk
  have H := Lib.hid h
  clear h
  by_cases hk : s.k = 0
  · have hb : ((s.k : Int) == 0) = true := by simp [hk]
    have HK := Lib.hid hk
    clear hk
    go_enter Tryz.func179, Tryz.ntmps179
    go_wp2
    go_end0
    exact ⟨rfl, by rw [Rs.fail, if_pos HK.out]; exact H.out.code e, (Fr.refl _ _).setCell (by simp) _⟩
  · have hb : ((s.k : Int) == 0) = false := by simp; omega
    have HK := Lib.hid hk
    clear hk
    go_enter Tryz.func179, Tryz.ntmps179
    go_wp2
    go_end0
    exact ⟨rfl, by rw [Rs.fail, if_neg HK.out]; exact H.out, Fr.refl _ _⟩

set_option maxHeartbeats 400000 in
theorem ok_any (w : World) (p cp : Nat) (q : Option Nat) (s : Rs) (d : DV) (h : RdAt w p cp q s d) :
    Calls Tryz.prog 178 #[.pointer (some ⟨p, 0, none⟩)] w fun r w' => r = .returned (.bool (s.ok.k == 0)) ∧ RdAt w' p cp q s.ok d ∧ Fr [p] w w' := by
  obtain ⟨c0, c1, -, -, -, -, -, -, -, cf⟩ := cells9 h.blk
  have H := Lib.hid h
  clear h
  by_cases hk : s.k = 0
  · have hb : ((s.k : Int) == 0) = true := by simp [hk]
    have HK := Lib.hid hk
    clear hk
    go_enter Tryz.func178, Tryz.ntmps178
    go_wp2_with (go_at_call 224; refine (code_any _ cp q s.c H.out.cur).mono ?_; rintro e w1 ⟨rfl, rfl⟩)
    go_ret
    have e : s.ok = { s with k := s.c.code } := by rw [Rs.ok, if_pos HK.out]
    exact ⟨by rw [e]; simp [natz], by rw [e]; exact H.out.code _, (Fr.refl _ _).setCell (by simp) _⟩
  · have hb : ((s.k : Int) == 0) = false := by simp; omega
    have HK := Lib.hid hk
    clear hk
    go_enter Tryz.func178, Tryz.ntmps178
    go_wp2_with (go_at_call 224; refine (code_any _ cp q s.c H.out.cur).mono ?_; rintro e w1 ⟨rfl, rfl⟩)
    go_ret
    have e : s.ok = s := by rw [Rs.ok, if_neg HK.out]
    exact ⟨by rw [e]; simp [HK.out], by rw [e]; exact H.out, Fr.refl _ _⟩

theorem RdAt.le {w : World} {p cp : Nat} {q : Option Nat} {s : Rs} {d : DV} (h : RdAt w p cp q s d) : s.c.at_ ≤ s.c.b.length := h.cur.le

theorem num1_lt (s : Rs) : s.byte.1 < 256 := by
  have h1 : (s.c.take 1).1.length ≤ 1 := by unfold Cur.take; split <;> simp; omega
  have h2 := leNat_lt (s.c.take 1).1
  show (s.c.num 1).1 < 256
  have e : (s.c.num 1).1 = leNat (s.c.take 1).1 := rfl
  rw [e]
  have : 256 ^ (s.c.take 1).1.length ≤ 256 ^ 1 := Nat.pow_le_pow_right (by omega) h1
  omega

set_option maxHeartbeats 400000 in
theorem byte_any (w : World) (p cp : Nat) (q : Option Nat) (s : Rs) (d : DV) (h : RdAt w p cp q s d) (hb : s.c.b.length ≤ 10000000) :
    Calls Tryz.prog 175 #[.pointer (some ⟨p, 0, none⟩)] w fun r w' => r = .returned (.int .i64 (s.byte.1 : Int)) ∧ RdAt w' p cp q s.byte.2 d ∧ Fr [cp] w w' := by
  obtain ⟨c0, c1, -, -, -, -, -, -, -, cf⟩ := cells9 h.blk
  have H := Lib.hid h
  have HB := Lib.hid (show s.c.b.length ≤ 140737488355328 by omega)
  have hlt : (s.byte.1 : Int) < 256 := by have := num1_lt s; omega
  have h0 : (0 : Int) ≤ (s.byte.1 : Int) := by omega
  have HE := Lib.hid (show (s.c.num 1).1 = s.byte.1 from rfl)
  have HE2 := Lib.hid (show ({ s with c := (s.c.num 1).2 } : Rs) = s.byte.2 from rfl)
  generalize s.byte.1 = v at *
  clear h hb
  go_enter Tryz.func175, Tryz.ntmps175
  go_wp2_with (go_at_call 85; refine (num_any _ cp q s.c 1 H.out.cur HB.out).mono ?_; rw [HE.out]; rintro e w1 ⟨rfl, hC, F1⟩; have hR := H.out.cur' F1 hC; rw [HE2.out] at hR)
  go_ret
  exact ⟨by go_num, hR, F1⟩
end Go.Proofs.YthbkcjlpelihlaaGreatDoor
