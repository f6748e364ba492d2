/- Folders of coders, in plain Lean: whether they hold. No condition. -/
namespace Go.Proofs.YtfnblemlcjdnhaaGreat

structure Coder where
  method : Int
  props : List UInt8

structure Folder where
  coders : List Coder
  binds : List (Int × Int)
  packs : List Int
  sizes : List UInt64

/-- How many streams go into a coder of that method. -/
def ins (m : Int) : Nat := if m = 6 then 4 else if 1 ≤ m ∧ m ≤ 7 then 1 else 0

theorem ins_le (m : Int) : ins m ≤ 4 := by unfold ins; repeat' split
                                           all_goals omega

/-- Where a number stands first. -/
def fidx (l : List Int) (x : Int) : Int := match l.findIdx? (· == x) with | some k => k | none => -1

namespace Folder
def first (f : Folder) (k : Nat) : Nat := ((f.coders.take k).map fun c => ins c.method).sum
def fromB (f : Folder) (i : Int) : Option Int := (f.binds.find? fun b => b.1 == i).map (·.2)
def fromP (f : Folder) (i : Int) : Int := fidx f.packs i
/-- What feeds a stream: a coder, or a packed stream. -/
def from_ (f : Folder) (i : Int) : Int × Int := match f.fromB i with | some c => (c, -1) | none => (-1, f.fromP i)
def insOf (f : Folder) (c : Nat) : Nat := match f.coders[c]? with | some x => ins x.method | none => 0
/-- The coders that feed a coder: of the first so many streams. -/
def feedersTo (f : Folder) (c : Nat) (k : Nat) : List Int := ((List.range k).map fun i => (f.from_ ((f.first c + i : Nat) : Int)).1).filter (0 ≤ ·)
def feeders (f : Folder) (c : Nat) : List Int := f.feedersTo c (f.insOf c)
/-- Does one coder feed another one? -/
def feeds (f : Folder) (a b : Nat) : Bool := f.binds.any fun x => decide (x.2 = a) && decide ((f.first b : Int) ≤ x.1) && decide (x.1 < f.first b + f.insOf b)

theorem first_succ (f : Folder) (k : Nat) (x : Coder) (h : f.coders[k]? = some x) : f.first (k + 1) = f.first k + ins x.method := by
  simp [first, List.take_add_one, h]

theorem first_le (f : Folder) (k : Nat) : f.first k ≤ 4 * k := by
  induction k with
  | zero => simp [first]
  | succ k ih =>
    cases h : f.coders[k]? with
    | none =>
      have : f.coders.take (k + 1) = f.coders.take k := by simp [List.take_add_one, h]
      unfold first at *; rw [this]; omega
    | some x => rw [f.first_succ k x h]; have := ins_le x.method; omega

theorem first_min (f : Folder) (k : Nat) (h : f.coders.length ≤ k) : f.first k = f.first f.coders.length := by
  unfold first; rw [List.take_of_length_le h, List.take_of_length_le (Nat.le_refl _)]
end Folder

/-- A walk through a graph in depth, by colours (1: on the way, 2: done): whether a circle was found, and the colours then. None: out of fuel. -/
def visit (fd : Nat → List Nat) : Nat → List Nat → Nat → Option (Bool × List Nat)
  | 0, _, _ => none
  | fuel + 1, st, c =>
    if st[c]? = some 1 then some (true, st)
    else if st[c]? = some 2 then some (false, st)
    else (go (visit fd fuel) (fd c) (st.set c 1)).map fun r => (r.1, r.2.set c 2)
where
  go (v : List Nat → Nat → Option (Bool × List Nat)) : List Nat → List Nat → Option (Bool × List Nat)
    | [], st => some (false, st)
    | x :: xs, st => (v st x).bind fun r => if r.1 then some (true, r.2) else go v xs r.2

/-- From each of them. -/
def visitAll (fd : Nat → List Nat) (fuel : Nat) (l : List Nat) (st : List Nat) : Option (Bool × List Nat) := visit.go (visit fd fuel) l st
end Go.Proofs.YtfnblemlcjdnhaaGreat
