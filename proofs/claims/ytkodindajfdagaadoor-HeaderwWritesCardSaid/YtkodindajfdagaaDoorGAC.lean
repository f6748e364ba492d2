/- Slices of structs of m cells that lie in new memory, as lists of cells. No condition. -/
import Derived.Test.YtkodindajfdagaaDoorGAB
import Derived.WalkKit
import Derived.Lib.BitFns
namespace Go.Proofs.YtkodindajfdagaaDoor
open Go.RowKit

/-- A slice of n elements of m cells each, of type e, reads as the cells xs; its block is not below lo. -/
def Sm (w : World) (lo e m : Nat) (v : Value) (n : Nat) (xs : List Value) : Prop :=
  ∃ ao cap, v = .slice ao n cap ∧ n ≤ cap ∧ cap ≤ 9223372036854775807 ∧ xs.length = n * m ∧ (ao = none → cap = 0) ∧
    (∀ a, ao = some a → ∃ b o, a = ⟨b, o, none⟩ ∧ lo ≤ b ∧ b < w.heap.size ∧ (∃ cs z, w.heap[b]? = some (.cells cs e z)) ∧ ∀ i, i < n * m → w.cell? ⟨b, o + i, none⟩ = xs[i]?)

theorem Sm.nil (w : World) (lo e m : Nat) : Sm w lo e m (.slice none 0 0) 0 [] := ⟨none, 0, rfl, by simp, by simp, by simp, fun _ => rfl, fun a h => by cases h⟩

theorem Sm.fr {w w' : World} {lo e m n : Nat} {v : Value} {xs : List Value} {S : List Nat} (h : Sm w lo e m v n xs) (F : Fr S w w') (hS : ∀ i ∈ S, i < lo) : Sm w' lo e m v n xs := by
  obtain ⟨ao, cap, rfl, h1, h2, h3, h4, h5⟩ := h
  refine ⟨ao, cap, rfl, h1, h2, h3, h4, fun a ha => ?_⟩
  obtain ⟨b, o, rfl, q1, q2, ⟨cs, z, q4⟩, q3⟩ := h5 a ha
  refine ⟨b, o, rfl, q1, Nat.lt_of_lt_of_le q2 F.size, ⟨cs, z, (F.block b q2 (fun hm => by have := hS b hm; omega)).trans q4⟩, fun i hi => ?_⟩
  rw [F.cell (p := ⟨b, o + i, none⟩) q2 (fun hm => by have := hS b hm; omega)]
  exact q3 i hi
/-- Blocks of other types may change. -/
theorem Sm.frT {w w' : World} {lo e m n : Nat} {v : Value} {xs : List Value} {S : List Nat} (h : Sm w lo e m v n xs) (F : Fr S w w') (hS : ∀ i ∈ S, i < lo ∨ ∀ cs z, w.heap[i]? ≠ some (.cells cs e z)) : Sm w' lo e m v n xs := by
  obtain ⟨ao, cap, rfl, h1, h2, h3, h4, h5⟩ := h
  refine ⟨ao, cap, rfl, h1, h2, h3, h4, fun a ha => ?_⟩
  obtain ⟨b, o, rfl, q1, q2, ⟨cs, z, q4⟩, q3⟩ := h5 a ha
  have hb : b ∉ S := fun hm => by
    rcases hS b hm with h | h
    · omega
    · exact h cs z q4
  refine ⟨b, o, rfl, q1, Nat.lt_of_lt_of_le q2 F.size, ⟨cs, z, (F.block b q2 hb).trans q4⟩, fun i hi => ?_⟩
  rw [F.cell (p := ⟨b, o + i, none⟩) q2 hb]
  exact q3 i hi
theorem Sm.fr0 {w w' : World} {lo e m n : Nat} {v : Value} {xs : List Value} (h : Sm w lo e m v n xs) (F : Fr [] w w') : Sm w' lo e m v n xs := h.fr F (by simp)
theorem Sm.two {w w' : World} {lo e m n : Nat} {v : Value} {xs : List Value} {p cp : Nat} (h : Sm w lo e m v n xs) (F : Fr [p, cp] w w') (h1 : p < lo) (h2 : cp < lo) : Sm w' lo e m v n xs := h.fr F (by simp; exact ⟨h1, h2⟩)
theorem Sm.mono {w : World} {lo lo' e m n : Nat} {v : Value} {xs : List Value} (h : Sm w lo e m v n xs) (hl : lo' ≤ lo) : Sm w lo' e m v n xs := by
  obtain ⟨ao, cap, rfl, h1, h2, h3, h4, h5⟩ := h
  refine ⟨ao, cap, rfl, h1, h2, h3, h4, fun a ha => ?_⟩
  obtain ⟨b, o, rfl, q1, q2, q4, q3⟩ := h5 a ha
  exact ⟨b, o, rfl, by omega, q2, q4, q3⟩

theorem Sm.of_own {w : World} {base e m : Nat} {v : Value} {n : Nat} {xs : List Value} (lo : Nat) (h : w.ownsRow base e m v n xs) (hl : lo ≤ base) : Sm w lo e m v n xs := by
  have h0 := h
  have hxl : xs.length = n * m := h.1
  rcases h.2 with ⟨rfl, hn⟩ | ⟨g, cap, cur, rfl, hb, hg, hnc, hcm, _⟩
  · subst hn
    exact ⟨none, 0, rfl, by simp, by simp, hxl, fun _ => rfl, fun a ha => by cases ha⟩
  · refine ⟨_, cap, rfl, hnc, by unfold maxLen at hcm; omega, hxl, (fun h => by cases h), fun a ha => ?_⟩
    obtain rfl := (Option.some.inj ha).symm
    refine ⟨g, 0, rfl, by omega, (Array.getElem?_eq_some_iff.1 hg).1, ⟨_, _, hg⟩, fun i hi => ?_⟩
    rw [Nat.zero_add]
    exact h0.cellAt i hi

/-- As a plain slice. -/
theorem Sm.sl {w : World} {lo e : Nat} {v : Value} {n : Nat} {xs : List Value} (h : Sm w lo e 1 v n xs) : Sl w v xs := by
  obtain ⟨ao, cap, rfl, h1, h2, h3, h4, h5⟩ := h
  have hn : xs.length = n := by omega
  refine ⟨ao, cap, by rw [hn], by omega, h2, h4, fun a ha hc => ?_⟩
  obtain ⟨b, o, rfl, q1, q2, -, q3⟩ := h5 a ha
  exact ⟨rfl, q2, fun j hj => q3 j (by omega)⟩

theorem Sm.out {w : World} {lo e m n : Nat} {v : Value} {xs : List Value} (h : Sm w lo e m v n xs) : ∃ ao cap, v = .slice ao n cap ∧ n ≤ cap ∧ cap ≤ 9223372036854775807 ∧
    ∀ j, j < n → ∃ b o, ao = some ⟨b, o, none⟩ ∧ lo ≤ b ∧ b < w.heap.size ∧ ∀ i, i < n * m → w.cell? ⟨b, o + i, none⟩ = xs[i]? := by
  obtain ⟨ao, cap, rfl, h1, h2, h3, h4, h5⟩ := h
  refine ⟨ao, cap, rfl, h1, h2, fun j hj => ?_⟩
  cases ao with
  | none => have := h4 rfl; omega
  | some a =>
    obtain ⟨b, o, rfl, q1, q2, -, q⟩ := h5 a rfl
    exact ⟨b, o, rfl, q1, q2, q⟩

/-- What the call owns, kept by what changes but other blocks. -/
theorem own_frS {w w' : World} {base e sz : Nat} {v : Value} {n : Nat} {xs : List Value} {S : List Nat} (h : w.ownsRow base e sz v n xs) (hf : Fr S w w') (hv : ∀ k, v.ownBlock = some k → k ∉ S) : w'.ownsRow base e sz v n xs := by
  refine ⟨h.1, ?_⟩
  rcases h.2 with hn | ⟨g, cap, cur, rfl, hb, hgg, rest⟩
  · exact .inl hn
  · refine .inr ⟨g, cap, cur, rfl, hb, ?_, rest⟩
    rw [hf.block g (Array.getElem?_eq_some_iff.1 hgg).1 (hv g rfl)]
    exact hgg

theorem own_outS {w : World} {base e sz : Nat} {v : Value} {n : Nat} {xs : List Value} (h : w.ownsRow base e sz v n xs) : ∃ ao cap, v = .slice ao n cap ∧ n ≤ cap ∧ cap ≤ 9223372036854775807 := by
  rcases h.2 with ⟨rfl, rfl⟩ | ⟨g, cap, cur, rfl, hb, hg, hnc, hcm, _⟩
  · exact ⟨none, 0, rfl, by simp, by simp⟩
  · exact ⟨_, cap, rfl, hnc, by unfold maxLen at hcm; omega⟩

theorem own_ltS {w : World} {base e sz : Nat} {v : Value} {n : Nat} {xs : List Value} (h : w.ownsRow base e sz v n xs) (k : Nat) (hk : v.ownBlock = some k) : base ≤ k ∧ k < w.heap.size := by
  rcases h.2 with ⟨rfl, rfl⟩ | ⟨g, cap, cur, rfl, hb, hg, _⟩
  · simp [Value.ownBlock] at hk
  · simp [Value.ownBlock] at hk
    subst hk
    exact ⟨hb, (Array.getElem?_eq_some_iff.1 hg).1⟩
/-- Blocks below the base may change. -/
theorem own_frB {w w' : World} {base e sz : Nat} {v : Value} {n : Nat} {xs : List Value} {S : List Nat} (h : w.ownsRow base e sz v n xs) (hf : Fr S w w') (hS : ∀ i ∈ S, i < base) : w'.ownsRow base e sz v n xs :=
  own_frS h hf fun k hk hm => by have := (own_ltS h k hk).1; have := hS k hm; omega

/-- The facts on a slice type of structs of m cells. -/
structure SlTyM (P : Program) (t e : TypeId) (z : Value) (m bytes : Nat) : Prop where
  under : P.underlying t = some (.slice e)
  info : ∃ i, P.info? e = some i ∧ i.zero = some z ∧ i.size = m ∧ i.bytes = bytes
  cells : z.cells.size = m
  pos : 0 < m

/-- 'append(v, u)': one struct more behind what the call owns. -/
theorem wpList_append_struct {P : Program} {t e : TypeId} {z : Value} {m bytes : Nat} (T : SlTyM P t e z m bytes) {w : World} {ops : Array Oper} {rest : List Oper} {o : Oper} {a : Act} {Q : Exit → Act → World → Prop} (hgd : o.guard = none) (s x : Operand)
    (ho : o.op = .call { callee := .builtin .append, args := #[s, x], argTypes := #[t, t] })
    (base : Nat) (v : Value) (n : Nat) (xs : List Value) (hs : a.eval s = v) (hown : w.ownsRow base e m v n xs)
    (g : Nat) (us : List Value) (hx : a.eval x = .slice (some ⟨g, 0, none⟩) 1 1) (hg : w.heap[g]? = some (.cells us.toArray e)) (hul : us.length = m) (h1 : us.all (·.oneCell') = true)
    (hm : n + 1 ≤ 100000000) (hby : bytes ≤ 1000) (hbase : base ≤ w.heap.size)
    (h : ∀ v' w', w'.ownsRow base e m v' (n + 1) (xs ++ us) → w.grownBy w' v.ownBlock → wpList P ops Q rest (a.put o.dst v') w') : wpList P ops Q (o :: rest) a w := by
  obtain ⟨i, hi, hz, hsz, hb⟩ := T.info
  have hle : (n + 1) * bytes ≤ 100000000 * 1000 := Nat.mul_le_mul hm hby
  refine wpList_append_own w hgd s x t ho base e i z m bytes T.under hi hz hsz hb T.cells T.pos v n xs hs hown ⟨g, 0, none⟩ 1 1 us hx (by omega) ?_ ?_ (by unfold maxLen; omega) (by omega) hbase (fun v' w' q1 q2 _ => h v' w' q1 q2)
  · intro j u hu
    have hadd : (⟨g, 0, none⟩ : Addr).add j = ⟨g, j, none⟩ := by unfold Addr.add; split <;> simp_all
    rw [hadd, Go.Joins.cell_of_block hg]
    simpa using hu
  · intro u hu
    exact List.all_eq_true.1 h1 u hu
end Go.Proofs.YtkodindajfdagaaDoor
/- What a cursor over bytes comes to, in plain Lean. No condition. -/
namespace Go.Proofs.YtkodindajfdagaaDoor

/-- A cursor: the bytes, how many were read, why it ended (0: it has not). -/
structure Cur where
  b : List UInt8
  at_ : Nat
  code : Nat
  deriving DecidableEq

/-- Bytes, the least first, as a number. -/
def leNat : List UInt8 → Nat
  | [] => 0
  | x :: l => x.toNat + 256 * leNat l

theorem leNat_snoc (l : List UInt8) (x : UInt8) : leNat (l ++ [x]) = leNat l + 256 ^ l.length * x.toNat := by
  induction l with
  | nil => simp [leNat]
  | cons y l ih =>
    simp only [List.cons_append, leNat, ih, List.length_cons, Nat.pow_succ]
    have : 256 * (256 ^ l.length * x.toNat) = 256 ^ l.length * 256 * x.toNat := by rw [Nat.mul_comm (256 ^ l.length) 256, Nat.mul_assoc]
    omega

theorem leNat_lt (l : List UInt8) : leNat l < 256 ^ l.length := by
  induction l with
  | nil => simp [leNat]
  | cons y l ih =>
    have := y.toNat_lt
    simp only [leNat, List.length_cons, Nat.pow_succ]
    omega

theorem take_succ' {α : Type} (l : List α) (k : Nat) (x : α) (h : l[k]? = some x) : l.take (k + 1) = l.take k ++ [x] := by
  rw [List.take_add_one, h]; rfl

theorem take_eq_step {α : Type} (a b : List α) (k : Nat) (x y : α) (hx : a[k]? = some x) (hy : b[k]? = some y) (h : a.take k = b.take k) (e : x = y) : a.take (k + 1) = b.take (k + 1) := by
  rw [take_succ' a k x hx, take_succ' b k y hy, h, e]

theorem ne_at {α : Type} (a b : List α) (k : Nat) (x y : α) (hx : a[k]? = some x) (hy : b[k]? = some y) (e : x ≠ y) : a ≠ b := by
  rintro rfl
  rw [hx] at hy
  exact e (Option.some.inj hy)

theorem leNat_take (l : List UInt8) (k : Nat) (x : UInt8) (h : l[k]? = some x) : leNat (l.take (k + 1)) = leNat (l.take k) + 256 ^ k * x.toNat := by
  rw [take_succ' l k x h, leNat_snoc]
  have : (l.take k).length = k := by
    have := (List.getElem?_eq_some_iff.1 h).1
    simp; omega
  rw [this]

namespace Cur
def live (c : Cur) : List UInt8 := if c.code = 0 then c.b else c.b.take c.at_
def left (c : Cur) : Nat := if c.code = 0 then c.b.length - c.at_ else 0
def fail (c : Cur) (k : Nat) : Cur := { c with code := if c.code = 0 then k else c.code }
def take (c : Cur) (n : Nat) : List UInt8 × Cur :=
  if c.code ≠ 0 ∨ c.left < n then ([], c.fail 3) else ((c.b.drop c.at_).take n, { c with at_ := c.at_ + n })
def sized (n : Int) : Bool := n == 1 || n == 2 || n == 4 || n == 8
def num (c : Cur) (n : Int) : Nat × Cur :=
  if sized n then (leNat (c.take n.toNat).1, (c.take n.toNat).2) else (0, c.fail 3)

/-- How many leading ones a byte has. -/
def ones (x : Nat) : Nat := if x < 128 then 0 else if x < 192 then 1 else if x < 224 then 2 else if x < 240 then 3 else if x < 248 then 4 else if x < 252 then 5 else if x < 254 then 6 else if x < 255 then 7 else 8
theorem ones_le (x : Nat) : ones x ≤ 8 := by unfold ones; repeat' split
                                             all_goals omega
def head (c : Cur) : Nat := (c.b.getD c.at_ 0).toNat
def number (c : Cur) : Nat × Cur :=
  if c.left < 1 + ones c.head then (0, c.fail 3)
  else (leNat ((c.b.drop (c.at_ + 1)).take (ones c.head)) + 256 ^ ones c.head * (if ones c.head < 7 then c.head % 2 ^ (7 - ones c.head) else 0), { c with at_ := c.at_ + 1 + ones c.head })

theorem live_left (c : Cur) (h : c.at_ ≤ c.b.length) : c.live.length = c.at_ + c.left := by
  unfold live left
  split
  · omega
  · simp; omega
end Cur

theorem Cur.take_length (c : Cur) (n : Nat) : (c.take n).1.length ≤ c.b.length := by
  unfold Cur.take; split <;> simp; omega

theorem Cur.take_b (c : Cur) (n : Nat) : (c.take n).2.b = c.b := by
  unfold Cur.take; split <;> rfl
end Go.Proofs.YtkodindajfdagaaDoor
/- Arithmetic on bits, in plain Lean. No condition. -/
namespace Go.Proofs.YtkodindajfdagaaDoor
open Go.RowKit

theorem pow256 (k : Nat) : 256 ^ k = 2 ^ (8 * k) := by rw [Nat.pow_mul]

theorem pow256_le {k m : Nat} (h : k ≤ m) : 256 ^ k ≤ 256 ^ m := Nat.pow_le_pow_right (by decide) h

theorem wrap_u64_nat (a : Nat) (h : a < 18446744073709551616) : IntKind.u64.wrap (a : Int) = a := by
  rw [IntKind.wrap_u64]; omega

theorem or_high (s x k : Nat) (hs : s < 2 ^ k) : s ||| x * 2 ^ k = s + 2 ^ k * x := by
  rw [Nat.or_comm, Nat.mul_comm, ← Nat.two_pow_add_eq_or_of_lt hs, Nat.add_comm]

theorem byte_high (k x : Nat) (hk : k < 8) (hx : x < 256) : 256 ^ k * x < 18446744073709551616 ∧ x * 2 ^ (8 * k) < 18446744073709551616 := by
  have h1 : 256 ^ k * 256 ≤ 256 ^ 8 := by rw [← Nat.pow_succ]; exact pow256_le (by omega)
  have h2 : 256 ^ k * x < 256 ^ k * 256 := Nat.mul_lt_mul_of_pos_left hx (Nat.pow_pos (by decide))
  have h3 : (256 : Nat) ^ 8 = 18446744073709551616 := by decide
  rw [← pow256, Nat.mul_comm x]
  omega

/-- One step of 'v |= uint64(x) << (8*i)'. -/
theorem least_step (s k : Nat) (x : UInt8) (hk : k < 8) (hs : s < 256 ^ k) :
    bits BinOp.or IntKind.u64 (s : Int) (IntKind.u64.wrap (IntKind.u64.wrap (x.toNat : Int) * 2 ^ (8 * k))) = ((s + 256 ^ k * x.toNat : Nat) : Int) := by
  have hx := x.toNat_lt
  have hb := byte_high k x.toNat hk (by omega)
  have h1 : 256 ^ k ≤ 256 ^ 8 := pow256_le (by omega)
  have h3 : (256 : Nat) ^ 8 = 18446744073709551616 := by decide
  rw [wrap_u64_nat _ (by omega)]
  have e : ((x.toNat : Int) * 2 ^ (8 * k)) = ((x.toNat * 2 ^ (8 * k) : Nat) : Int) := by push_cast; rfl
  rw [e, wrap_u64_nat _ hb.2, bits_or_u64_nat _ _ (by omega) hb.2, or_high _ _ _ (by rw [← pow256]; exact hs), pow256]

theorem ones_bitLen (x : Nat) (hx : x < 256) : 8 - (Lib.bitLen (255 - x) : Int) = (Cur.ones x : Int) := by
  have h : ∀ y : Fin 256, 8 - (Lib.bitLen (255 - y.val) : Int) = (Cur.ones y.val : Int) := by decide +kernel
  exact h ⟨x, hx⟩

theorem xor_u8 (x : Nat) (hx : x < 256) : bits BinOp.xor IntKind.u8 IntKind.u8.max (x : Int) = ((255 - x : Nat) : Int) := by
  have h : ∀ y : Fin 256, bits BinOp.xor IntKind.u8 IntKind.u8.max (y.val : Int) = ((255 - y.val : Nat) : Int) := by decide +kernel
  exact h ⟨x, hx⟩

theorem mask_u8 (k x : Nat) (hk : k < 8) (hx : x < 256) : bits BinOp.and IntKind.u8 (x : Int) (127 / 2 ^ k) = ((x % 2 ^ (7 - k) : Nat) : Int) := by
  have h : ∀ (j : Fin 8) (y : Fin 256), bits BinOp.and IntKind.u8 (y.val : Int) (127 / 2 ^ j.val) = ((y.val % 2 ^ (7 - j.val) : Nat) : Int) := by decide +kernel
  exact h ⟨k, hk⟩ ⟨x, hx⟩
end Go.Proofs.YtkodindajfdagaaDoor
/- Rows of bits, in plain Lean. No condition. -/
namespace Go.Proofs.YtkodindajfdagaaDoor
open Go.RowKit

/-- The byte number j of the bits f. -/
def byteOf (f : Nat → Bool) (j : Nat) : Nat :=
  (f (8 * j)).toNat * 128 + (f (8 * j + 1)).toNat * 64 + (f (8 * j + 2)).toNat * 32 + (f (8 * j + 3)).toNat * 16 +
  (f (8 * j + 4)).toNat * 8 + (f (8 * j + 5)).toNat * 4 + (f (8 * j + 6)).toNat * 2 + (f (8 * j + 7)).toNat

theorem bool_le (b : Bool) : b.toNat ≤ 1 := by cases b <;> simp

theorem byteOf_lt (f : Nat → Bool) (j : Nat) : byteOf f j < 256 := by
  unfold byteOf
  have h0 := bool_le (f (8 * j)); have h1 := bool_le (f (8 * j + 1)); have h2 := bool_le (f (8 * j + 2)); have h3 := bool_le (f (8 * j + 3))
  have h4 := bool_le (f (8 * j + 4)); have h5 := bool_le (f (8 * j + 5)); have h6 := bool_le (f (8 * j + 6)); have h7 := bool_le (f (8 * j + 7))
  omega

theorem byteOf_congr (f g : Nat → Bool) (j : Nat) (h : ∀ t, t < 8 → f (8 * j + t) = g (8 * j + t)) : byteOf f j = byteOf g j := by
  have h0 := h 0 (by decide); have h1 := h 1 (by decide); have h2 := h 2 (by decide); have h3 := h 3 (by decide)
  have h4 := h 4 (by decide); have h5 := h 5 (by decide); have h6 := h 6 (by decide); have h7 := h 7 (by decide)
  unfold byteOf
  rw [Nat.add_zero] at h0
  rw [h0, h1, h2, h3, h4, h5, h6, h7]

theorem byteOf_bit (f : Nat → Bool) (j t : Nat) (ht : t < 8) : byteOf f j / (128 / 2 ^ t) % 2 = (f (8 * j + t)).toNat := by
  have h0 := bool_le (f (8 * j)); have h1 := bool_le (f (8 * j + 1)); have h2 := bool_le (f (8 * j + 2)); have h3 := bool_le (f (8 * j + 3))
  have h4 := bool_le (f (8 * j + 4)); have h5 := bool_le (f (8 * j + 5)); have h6 := bool_le (f (8 * j + 6)); have h7 := bool_le (f (8 * j + 7))
  have ht' : t = 0 ∨ t = 1 ∨ t = 2 ∨ t = 3 ∨ t = 4 ∨ t = 5 ∨ t = 6 ∨ t = 7 := by omega
  rcases ht' with rfl | rfl | rfl | rfl | rfl | rfl | rfl | rfl <;> simp only [Nat.reducePow, Nat.reduceDiv, Nat.add_zero] <;> unfold byteOf <;> omega

/-- The bits f below k, false from there on. -/
def upTo (f : Nat → Bool) (k n : Nat) : Bool := decide (n < k) && f n

theorem upTo_at (f : Nat → Bool) (j t s : Nat) : upTo f (8 * j + t) (8 * j + s) = (decide (s < t) && f (8 * j + s)) := by
  unfold upTo
  congr 1
  simp

theorem upTo_at0 (f : Nat → Bool) (j t : Nat) : upTo f (8 * j + t) (8 * j) = (decide (0 < t) && f (8 * j)) := upTo_at f j t 0

theorem upTo_none (f : Nat → Bool) (j s : Nat) : upTo f (8 * j) (8 * j + s) = false := by simp [upTo]; omega
theorem upTo_none0 (f : Nat → Bool) (j : Nat) : upTo f (8 * j) (8 * j) = false := by simp [upTo]

theorem byteOf_step (f : Nat → Bool) (k : Nat) : byteOf (upTo f (k + 1)) (k / 8) = byteOf (upTo f k) (k / 8) + if f k then 128 / 2 ^ (k % 8) else 0 := by
  have hk : k = 8 * (k / 8) + k % 8 := by omega
  have ht : k % 8 < 8 := by omega
  generalize k / 8 = j at *
  generalize k % 8 = t at *
  subst hk
  rw [Nat.add_assoc]
  have ht' : t = 0 ∨ t = 1 ∨ t = 2 ∨ t = 3 ∨ t = 4 ∨ t = 5 ∨ t = 6 ∨ t = 7 := by omega
  rcases ht' with rfl | rfl | rfl | rfl | rfl | rfl | rfl | rfl <;> simp only [byteOf, upTo_at, upTo_at0, Nat.add_zero, upTo_none, upTo_none0] <;> simp
  all_goals split <;> simp_all

/-- The first m bytes of the bits f. -/
def packF (f : Nat → Bool) (m : Nat) : List UInt8 := (List.range m).map fun j => UInt8.ofNat (byteOf f j)

theorem packF_length (f : Nat → Bool) (m : Nat) : (packF f m).length = m := by simp [packF]

theorem packF_get (f : Nat → Bool) (m j : Nat) (h : j < m) : (packF f m)[j]? = some (UInt8.ofNat (byteOf f j)) := by simp [packF, h]

theorem packF_congr (f g : Nat → Bool) (m : Nat) (h : ∀ n, n < 8 * m → f n = g n) : packF f m = packF g m := by
  unfold packF
  apply List.map_congr_left
  intro j hj
  rw [byteOf_congr f g j (fun t ht => h _ (by have := List.mem_range.1 hj; omega))]

theorem packF_succ (f : Nat → Bool) (m : Nat) : packF f (m + 1) = packF f m ++ [UInt8.ofNat (byteOf f m)] := by simp [packF, List.range_succ]

theorem byteOf_empty (f : Nat → Bool) (k j : Nat) (h : k ≤ 8 * j) : byteOf (upTo f k) j = 0 := by
  unfold byteOf upTo
  simp only [show ¬ (8 * j < k) from by omega, show ¬ (8 * j + 1 < k) from by omega, show ¬ (8 * j + 2 < k) from by omega, show ¬ (8 * j + 3 < k) from by omega, show ¬ (8 * j + 4 < k) from by omega, show ¬ (8 * j + 5 < k) from by omega, show ¬ (8 * j + 6 < k) from by omega, show ¬ (8 * j + 7 < k) from by omega, decide_false, Bool.false_and]
  rfl

theorem upTo_low (f : Nat → Bool) (k n : Nat) (h : n < k) : upTo f (k + 1) n = upTo f k n := by unfold upTo; simp [h, Nat.lt_succ_of_lt h]

/-- A bit that opens a byte. -/
theorem pack_open (f : Nat → Bool) (k : Nat) (h : k % 8 = 0) :
    packF (upTo f (k + 1)) ((k + 1 + 7) / 8) = packF (upTo f k) ((k + 7) / 8) ++ [UInt8.ofNat (if f k then 128 else 0)] := by
  rw [show (k + 1 + 7) / 8 = k / 8 + 1 from by omega, show (k + 7) / 8 = k / 8 from by omega, packF_succ, byteOf_step, byteOf_empty f k (k / 8) (by omega), h]
  simp only [Nat.zero_add, Nat.pow_zero, Nat.div_one]
  rw [packF_congr _ (upTo f k) (k / 8) (fun n hn => upTo_low f k n (by omega))]

/-- A bit within a byte. -/
theorem pack_in (f : Nat → Bool) (k : Nat) (h : k % 8 ≠ 0) :
    packF (upTo f (k + 1)) ((k + 1 + 7) / 8) = packF (upTo f k) (k / 8) ++ [UInt8.ofNat (byteOf (upTo f k) (k / 8) + if f k then 128 / 2 ^ (k % 8) else 0)] ∧
    packF (upTo f k) ((k + 7) / 8) = packF (upTo f k) (k / 8) ++ [UInt8.ofNat (byteOf (upTo f k) (k / 8))] := by
  rw [show (k + 1 + 7) / 8 = k / 8 + 1 from by omega, show (k + 7) / 8 = k / 8 + 1 from by omega, packF_succ, packF_succ, byteOf_step]
  rw [packF_congr (upTo f (k + 1)) (upTo f k) (k / 8) (fun n hn => upTo_low f k n (by omega))]
  exact ⟨rfl, rfl⟩

theorem byteOf_low (f : Nat → Bool) (k : Nat) : byteOf (upTo f k) (k / 8) / (128 / 2 ^ (k % 8)) % 2 = 0 := by
  rw [byteOf_bit _ _ _ (by omega)]
  unfold upTo
  rw [show 8 * (k / 8) + k % 8 = k from by omega]
  simp

theorem or_bit (y m : Nat) (hy : y < 256) (hm : m < 8) (h : y / (128 / 2 ^ m) % 2 = 0) : bits BinOp.or IntKind.u8 (y : Int) (128 / 2 ^ m) = ((y + 128 / 2 ^ m : Nat) : Int) ∧ y + 128 / 2 ^ m < 256 := by
  have key : ∀ (n : Fin 8) (z : Fin 256), z.val / (128 / 2 ^ n.val) % 2 = 0 → bits BinOp.or IntKind.u8 (z.val : Int) (128 / 2 ^ n.val) = ((z.val + 128 / 2 ^ n.val : Nat) : Int) ∧ z.val + 128 / 2 ^ n.val < 256 := by decide +kernel
  exact key ⟨m, hm⟩ ⟨y, hy⟩ h

def bitAt (row : List Bool) (n : Nat) : Bool := row.getD n false

/-- A row of bits as bytes. -/
def packBits (row : List Bool) : List UInt8 := packF (bitAt row) ((row.length + 7) / 8)

theorem packBits_upTo (row : List Bool) : packF (upTo (bitAt row) row.length) ((row.length + 7) / 8) = packBits row := by
  apply packF_congr
  intro n _
  unfold upTo bitAt
  by_cases h : n < row.length
  · simp [h]
  · simp [h]

theorem sh_bounds (t : Nat) (h : t < 8) : 1 ≤ 128 / 2 ^ t ∧ 128 / 2 ^ t ≤ 128 := by
  have key : ∀ n : Fin 8, 1 ≤ 128 / 2 ^ n.val ∧ 128 / 2 ^ n.val ≤ 128 := by decide
  exact key ⟨t, h⟩
end Go.Proofs.YtkodindajfdagaaDoor
/- What is put behind bytes, in plain Lean. No condition. -/
namespace Go.Proofs.YtkodindajfdagaaDoor
open Go.RowKit

/-- A number as k bytes, the least first. -/
def leBytes : Nat → Nat → List UInt8
  | 0, _ => []
  | k + 1, v => UInt8.ofNat v :: leBytes k (v / 256)

theorem leBytes_length (k v : Nat) : (leBytes k v).length = k := by
  induction k generalizing v with
  | zero => rfl
  | succ k ih => simp [leBytes, ih]

theorem leBytes_snoc (k v : Nat) : leBytes (k + 1) v = leBytes k v ++ [UInt8.ofNat (v / 256 ^ k)] := by
  induction k generalizing v with
  | zero => simp [leBytes]
  | succ k ih =>
    rw [leBytes, ih, leBytes, Nat.div_div_eq_div_mul, Nat.pow_succ, Nat.mul_comm 256]
    rfl

theorem leNat_leBytes (k v : Nat) (h : v < 256 ^ k) : leNat (leBytes k v) = v := by
  induction k generalizing v with
  | zero => simp at h; subst h; rfl
  | succ k ih =>
    have h2 : v / 256 < 256 ^ k := by rw [Nat.div_lt_iff_lt_mul (by decide), ← Nat.pow_succ]; exact h
    simp only [leBytes, leNat, ih _ h2]
    have : (UInt8.ofNat v).toNat = v % 256 := by simp
    omega

theorem leNat_leBytes_mod (k v : Nat) : leNat (leBytes k v) = v % 256 ^ k := by
  induction k generalizing v with
  | zero => simp [leBytes, leNat, Nat.mod_one]
  | succ k ih =>
    simp only [leBytes, leNat, ih]
    have : (UInt8.ofNat v).toNat = v % 256 := by simp
    rw [this, Nat.pow_succ, Nat.mul_comm (256 ^ k), Nat.mod_mul]

/-- How many bytes stand behind a short number's first one. -/
def extra (v : Nat) : Nat := if v < 128 then 0 else if v < 16384 then 1 else if v < 2097152 then 2 else if v < 268435456 then 3 else if v < 34359738368 then 4 else if v < 4398046511104 then 5 else if v < 562949953421312 then 6 else if v < 72057594037927936 then 7 else 8

theorem extra_le (v : Nat) : extra v ≤ 8 := by
  unfold extra
  repeat' split
  all_goals omega

theorem extra_lt (v k : Nat) (h : k < extra v) : k < 8 ∧ v / 2 ^ (7 * k + 7) ≠ 0 := by
  have h8 := extra_le v
  refine ⟨by omega, ?_⟩
  have hk : k = 0 ∨ k = 1 ∨ k = 2 ∨ k = 3 ∨ k = 4 ∨ k = 5 ∨ k = 6 ∨ k = 7 := by omega
  rcases hk with rfl | rfl | rfl | rfl | rfl | rfl | rfl | rfl <;> simp only [Nat.reduceMul, Nat.reduceAdd, Nat.reducePow] <;> unfold extra at h <;> repeat' split at h
  all_goals omega

theorem extra_at (v : Nat) (h : extra v < 8) : v / 2 ^ (7 * extra v + 7) = 0 := by
  unfold extra at *
  repeat' split
  all_goals first | (simp only [Nat.reduceMul, Nat.reduceAdd, Nat.reducePow]; omega) | (exfalso; simp_all)

/-- A short number's first byte. -/
def firstByte (v : Nat) : UInt8 := UInt8.ofNat (65280 / 2 ^ extra v % 256 + if extra v < 7 then v / 256 ^ extra v else 0)

def putNumber (b : List UInt8) (v : Nat) : List UInt8 := b ++ firstByte v :: leBytes (extra v) v

def put (b : List UInt8) (size : Int) (v : Nat) : List UInt8 := if Cur.sized size then b ++ leBytes size.toNat v else b

theorem putNumber_length (b : List UInt8) (v : Nat) : (putNumber b v).length = b.length + 1 + extra v := by
  simp [putNumber, leBytes_length]; omega

theorem shr_ne (v m : Nat) (h : v / 2 ^ m ≠ 0) : ((v : Int) / 2 ^ m != 0) = true := by
  rw [bne_iff_ne]; intro e; apply h
  have : ((v / 2 ^ m : Nat) : Int) = 0 := by push_cast; exact e
  omega

theorem shr_eq (v m : Nat) (h : v / 2 ^ m = 0) : ((v : Int) / 2 ^ m != 0) = false := by
  have : ((v / 2 ^ m : Nat) : Int) = 0 := by omega
  push_cast at this
  simp [this]

theorem or_first (k y : Nat) (hk : k < 7) (hy : y < 2 ^ (7 - k)) : bits BinOp.or IntKind.u8 (65280 / 2 ^ k % 256) (y : Int) = ((65280 / 2 ^ k % 256 + y : Nat) : Int) := by
  have h : ∀ (j : Fin 7) (z : Fin 128), z.val < 2 ^ (7 - j.val) → bits BinOp.or IntKind.u8 (65280 / 2 ^ j.val % 256) (z.val : Int) = ((65280 / 2 ^ j.val % 256 + z.val : Nat) : Int) := by decide +kernel
  have h7 : 2 ^ (7 - k) ≤ 2 ^ 7 := Nat.pow_le_pow_right (by decide) (by omega)
  exact h ⟨k, hk⟩ ⟨y, by omega⟩ hy

theorem first_small (k y : Nat) (hk : k < 7) (hy : y < 2 ^ (7 - k)) : 65280 / 2 ^ k % 256 + y < 256 := by
  have h : ∀ (j : Fin 7) (z : Fin 128), z.val < 2 ^ (7 - j.val) → 65280 / 2 ^ j.val % 256 + z.val < 256 := by decide +kernel
  have h7 : 2 ^ (7 - k) ≤ 2 ^ 7 := Nat.pow_le_pow_right (by decide) (by omega)
  exact h ⟨k, hk⟩ ⟨y, by omega⟩ hy

theorem first_ge (v k : Nat) (hk : k = extra v) (h7 : ¬ k < 7) : (65280 / 2 ^ k % 256 : Int) = ((firstByte v).toNat : Int) := by
  unfold firstByte
  rw [← hk, if_neg h7]
  have : 65280 / 2 ^ k % 256 < 256 := Nat.mod_lt _ (by decide)
  simp

theorem first_lt (v k : Nat) (hk : k = extra v) (h7 : k < 7) : bits BinOp.or IntKind.u8 (65280 / 2 ^ k % 256) ((v : Int) / 2 ^ (8 * k) % 256) = ((firstByte v).toNat : Int) := by
  have h0 := extra_at v (by omega)
  rw [← hk] at h0
  have hlt : v / 2 ^ (8 * k) < 2 ^ (7 - k) := by
    have h1 : v < 2 ^ (7 * k + 7) := (Nat.div_eq_zero_iff_lt (Nat.pow_pos (by decide))).1 h0
    rw [Nat.div_lt_iff_lt_mul (Nat.pow_pos (by decide)), ← Nat.pow_add, show 7 - k + 8 * k = 7 * k + 7 from by omega]
    exact h1
  have hs := first_small k _ h7 hlt
  have e : ((v : Int) / 2 ^ (8 * k) % 256) = ((v / 2 ^ (8 * k) : Nat) : Int) := by
    have : ((v / 2 ^ (8 * k) % 256 : Nat) : Int) = ((v / 2 ^ (8 * k) : Nat) : Int) := by rw [Nat.mod_eq_of_lt]; omega
    rw [← this, Int.natCast_emod, Int.natCast_ediv, Int.natCast_pow]; rfl
  rw [e, or_first k _ h7 hlt]
  unfold firstByte
  rw [← hk, if_pos h7, pow256]
  congr 1
  simp
  omega
end Go.Proofs.YtkodindajfdagaaDoor
