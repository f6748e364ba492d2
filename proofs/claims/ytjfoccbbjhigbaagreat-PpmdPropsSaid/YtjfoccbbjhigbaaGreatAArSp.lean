/- The arena, mirrored: bytes, rows of free blocks, places (layer 16). No condition. -/
namespace Go.Proofs.YtjfoccbbjhigbaaGreat

def upd2 {α : Type} (f : Nat → α) (j : Nat) (v : α) : Nat → α := fun k => if k = j then v else f k
/-- The units of a size; the size for a number of units. -/
def unitsT (i : Nat) : Nat := if i < 4 then i + 1 else if i < 8 then 4 + 2 * (i - 3) else if i < 12 then 12 + 3 * (i - 7) else 24 + 4 * (i - 11)
def whichT (n : Nat) : Nat := if n ≤ 4 then n - 1 else if n ≤ 12 then (n - 4 + 1) / 2 + 3 else if n ≤ 24 then (n - 12 + 2) / 3 + 7 else (n - 24 + 3) / 4 + 11
structure Ar where
  mem : Nat → Nat
  len : Nat
  size : Nat
  free : Nat → Nat
  text : Nat
  start : Nat
  low : Nat
  high : Nat
  glue : Nat
namespace Ar
def byte (a : Ar) (p : Nat) : Nat := if p < a.len then a.mem p else 0
def setByte (a : Ar) (p b : Nat) : Ar := if p < a.len then { a with mem := upd2 a.mem p b } else a
/-- The first n bytes of a number at p, the least first. -/
def num (a : Ar) (p : Nat) : Nat → Nat
  | 0 => 0
  | n + 1 => a.num p n + a.byte (p + n) * 256 ^ n
def setNum (a : Ar) (p : Nat) : Nat → Nat → Ar
  | 0, _ => a
  | n + 1, v => (a.setNum p n v).setByte (p + n) (v / 256 ^ n % 256)
/-- It begins anew. -/
def restart (a : Ar) : Ar :=
  { a with free := fun _ => 0, glue := 0, text := 1, high := a.size + 1, low := a.size + 1 - a.size / 8 / 12 * 7 * 12, start := a.size + 1 - a.size / 8 / 12 * 7 * 12 }
def put (a : Ar) (p row : Nat) : Ar := { a.setNum p 4 (a.free row) with free := upd2 a.free row p }
def take (a : Ar) (row : Nat) : Nat × Ar := (a.free row, { a with free := upd2 a.free row (a.num (a.free row) 4) })
end Ar
end Go.Proofs.YtjfoccbbjhigbaaGreat
