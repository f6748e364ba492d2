/- The model, mirrored: numbers of numbers of states, binary numbers, estimates; how it begins (layer 17). No condition. -/
import Derived.Test.YtjfoccbbjhigbaaGreatAArSp
namespace Go.Proofs.YtjfoccbbjhigbaaGreat

def s1T (n : Nat) : Nat := if n < 2 then 2 * n else if n < 11 then 4 else 6
/-- The next number, and how often it is still to come, ahead of n. -/
def stT : Nat → Nat × Nat
  | 0 => (3, 1)
  | n + 1 => if n < 3 then stT n else if (stT n).2 = 1 then ((stT n).1 + 1, (stT n).1 - 1) else ((stT n).1, (stT n).2 - 1)
def s2T (n : Nat) : Nat := if n < 3 then n else (stT n).1
theorem stT_ok : ∀ n : Fin 257, 3 ≤ (stT n.val).1 ∧ (stT n.val).1 ≤ 30 ∧ 1 ≤ (stT n.val).2 ∧ (stT n.val).2 ≤ 30 := by decide +kernel
/-- The model's numbers. bn: 64 binary numbers for each of 128; es, eh, ec: sums, shifts and counts of the estimates (16 for each of 25), and of the dummy. -/
structure Mo where
  a : Ar
  order : Nat
  least : Nat
  greatest : Nat
  found : Nat
  fall : Nat
  run : Int
  runs : Int
  success : Nat
  high : Nat
  escape : Nat
  bn : Nat → Nat
  es : Nat → Nat
  eh : Nat → Nat
  ec : Nat → Nat
  restarts : Int
def beginT (k : Nat) : Nat := match k with
  | 0 => 15581
  | 1 => 7999
  | 2 => 22975
  | 3 => 18675
  | 4 => 25761
  | 5 => 23228
  | 6 => 26162
  | _ => 24657
def binT (j : Nat) : Nat := 16384 - beginT (j % 64 % 8) / (j / 64 + 2)
/-- The root's states: i of them laid. -/
def Ar.words (a : Ar) (s : Nat) : Nat → Ar
  | 0 => a
  | i + 1 => (a.words s i).setNum (s + i * 6) 6 (i + 256)
namespace Mo
/-- The arena behind the beginning: the root in the first unit, its states in the first block. -/
def rootA (a : Ar) : Ar :=
  let b := a.restart
  let c := b.high - 12
  let s := b.low
  ((((({ b with high := c, low := s + unitsT (whichT 128) * 12 } : Ar).setNum c 2 256).setNum (c + 2) 2 257).setNum (c + 4) 4 s).setNum (c + 8) 4 0).words s 256
/-- The model begins anew. -/
def restart (m : Mo) : Mo :=
  let c := m.a.restart.high - 12
  let s := m.a.restart.low
  { m with a := rootA m.a, restarts := m.restarts + 1, fall := m.order, run := -1 - min m.order 12, runs := -1 - min m.order 12, success := 0, least := c, greatest := c, found := s,
           bn := fun j => if j < 8192 then binT j else m.bn j, es := fun e => if e < 400 then (5 * (e / 16) + 10) * 8 else m.es e, eh := fun e => if e < 400 then 3 else m.eh e, ec := fun e => if e < 400 then 4 else m.ec e }
end Mo
end Go.Proofs.YtjfoccbbjhigbaaGreat
