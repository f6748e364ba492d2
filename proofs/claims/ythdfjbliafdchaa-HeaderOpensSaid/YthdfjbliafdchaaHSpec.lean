/- What a header says, read: the program's reader in plain Lean. No condition. -/
import Derived.Test.YthdfjbliafdchaaBitsSpec
import Derived.Test.YthdfjbliafdchaaGSpec
namespace Go.Proofs.Ythdfjbliafdchaa

/-- A check sum, if there is one. -/
structure Ck where
  has : Bool
  sum : UInt32
  deriving DecidableEq
structure Sub where
  size : UInt64
  ck : Ck
  deriving DecidableEq
structure Fil where
  name : List UInt8
  stream : Bool
  dir : Bool
  hasAttr : Bool
  attr : UInt32
  hasTime : Bool
  time : UInt64
  deriving DecidableEq
structure Fol where
  f : Folder
  ck : Ck
structure Dsc where
  packed : Bool
  place : UInt64
  packs : List UInt64
  checks : List Ck
  folders : List Fol
  subs : List (List Sub)
  files : List Fil

/-- A reader's cursor, and the first thing that was wrong. -/
structure Rs where
  c : Cur
  k : Nat

namespace Rs
def fail (s : Rs) (e : Nat) : Rs := { s with k := if s.k = 0 then e else s.k }
def ok (s : Rs) : Rs := { s with k := if s.k = 0 then s.c.code else s.k }
def num (s : Rs) (n : Int) : Nat × Rs := ((s.c.num n).1, { s with c := (s.c.num n).2 })
def byte (s : Rs) : Nat × Rs := s.num 1
def number (s : Rs) : Nat × Rs := (s.c.number.1, { s with c := s.c.number.2 })
/-- A number that may not be bad. -/
def lim (s : Rs) (bad : Nat → Rs → Bool) (e : Nat) : Nat × Rs :=
  if s.number.2.ok.k ≠ 0 then (0, s.number.2.ok) else if bad s.number.1 s.number.2.ok = true then (0, s.number.2.ok.fail e) else (s.number.1, s.number.2.ok)
def things (s : Rs) : Nat × Rs := s.lim (fun n t => decide (t.c.left < n)) 3
def size (s : Rs) : Nat × Rs := s.lim (fun n _ => decide (1099511627776 < n)) 7
def below (s : Rs) (m : Nat) : Nat × Rs := s.lim (fun n _ => decide (m ≤ n)) 10

theorem ok_zero {s : Rs} (h : s.ok.k = 0) : s.k = 0 ∧ s.c.code = 0 := by
  unfold ok at h
  by_cases hk : s.k = 0
  · simp [hk] at h; exact ⟨hk, h⟩
  · simp [hk] at h
theorem ok_ok (s : Rs) : s.ok.ok = s.ok := by
  unfold ok
  by_cases hk : s.k = 0
  · simp [hk]
  · simp [hk]
theorem ok_c (s : Rs) : s.ok.c = s.c := rfl
theorem fail_c (s : Rs) (e : Nat) : (s.fail e).c = s.c := rfl
end Rs
end Go.Proofs.Ythdfjbliafdchaa
