/- Folders of coders, in plain Lean: whether they hold. No condition. -/
import Derived.Test.YtkodindajfdagaaDoorBaseM
namespace Go.Proofs.YtkodindajfdagaaDoor

structure Coder where
  method : Int
  props : List UInt8

structure Folder where
  coders : List Coder
  binds : List (Int × Int)
  packs : List Int
  sizes : List UInt64

/-- How many streams go into a coder of that method. -/
def ins (m : Int) : Nat := if m = 6 then 4 else if 1 ≤ m ∧ m ≤ 7 then 1 else 0

theorem ins_le (m : Int) : ins m ≤ 4 := by unfold ins; repeat' split
                                           all_goals omega

/-- Where a number stands first. -/
def fidx (l : List Int) (x : Int) : Int := match l.findIdx? (· == x) with | some k => k | none => -1

namespace Folder
def first (f : Folder) (k : Nat) : Nat := ((f.coders.take k).map fun c => ins c.method).sum
def fromB (f : Folder) (i : Int) : Option Int := (f.binds.find? fun b => b.1 == i).map (·.2)
def fromP (f : Folder) (i : Int) : Int := fidx f.packs i
/-- What feeds a stream: a coder, or a packed stream. -/
def from_ (f : Folder) (i : Int) : Int × Int := match f.fromB i with | some c => (c, -1) | none => (-1, f.fromP i)
def insOf (f : Folder) (c : Nat) : Nat := match f.coders[c]? with | some x => ins x.method | none => 0
/-- The coders that feed a coder: of the first so many streams. -/
def feedersTo (f : Folder) (c : Nat) (k : Nat) : List Int := ((List.range k).map fun i => (f.from_ ((f.first c + i : Nat) : Int)).1).filter (0 ≤ ·)
def feeders (f : Folder) (c : Nat) : List Int := f.feedersTo c (f.insOf c)
/-- Does one coder feed another one? -/
def feeds (f : Folder) (a b : Nat) : Bool := f.binds.any fun x => decide (x.2 = a) && decide ((f.first b : Int) ≤ x.1) && decide (x.1 < f.first b + f.insOf b)

theorem first_succ (f : Folder) (k : Nat) (x : Coder) (h : f.coders[k]? = some x) : f.first (k + 1) = f.first k + ins x.method := by
  simp [first, List.take_add_one, h]

theorem first_le (f : Folder) (k : Nat) : f.first k ≤ 4 * k := by
  induction k with
  | zero => simp [first]
  | succ k ih =>
    cases h : f.coders[k]? with
    | none =>
      have : f.coders.take (k + 1) = f.coders.take k := by simp [List.take_add_one, h]
      unfold first at *; rw [this]; omega
    | some x => rw [f.first_succ k x h]; have := ins_le x.method; omega

theorem first_min (f : Folder) (k : Nat) (h : f.coders.length ≤ k) : f.first k = f.first f.coders.length := by
  unfold first; rw [List.take_of_length_le h, List.take_of_length_le (Nat.le_refl _)]
end Folder

/-- A walk through a graph in depth, by colours (1: on the way, 2: done): whether a circle was found, and the colours then. None: out of fuel. -/
def visit (fd : Nat → List Nat) : Nat → List Nat → Nat → Option (Bool × List Nat)
  | 0, _, _ => none
  | fuel + 1, st, c =>
    if st[c]? = some 1 then some (true, st)
    else if st[c]? = some 2 then some (false, st)
    else (go (visit fd fuel) (fd c) (st.set c 1)).map fun r => (r.1, r.2.set c 2)
where
  go (v : List Nat → Nat → Option (Bool × List Nat)) : List Nat → List Nat → Option (Bool × List Nat)
    | [], st => some (false, st)
    | x :: xs, st => (v st x).bind fun r => if r.1 then some (true, r.2) else go v xs r.2

/-- From each of them. -/
def visitAll (fd : Nat → List Nat) (fuel : Nat) (l : List Nat) (st : List Nat) : Option (Bool × List Nat) := visit.go (visit fd fuel) l st
end Go.Proofs.YtkodindajfdagaaDoor
/- Folders in memory. No condition. -/
namespace Go.Proofs.YtkodindajfdagaaDoor
open Go.RowKit

def iv (l : List Int) : List Value := l.map (.int .i64)
theorem iv_length (l : List Int) : (iv l).length = l.length := by simp [iv]
theorem iv_get (l : List Int) (j : Nat) (x : Int) (h : l[j]? = some x) : (iv l)[j]? = some (.int .i64 x) := by simp [iv, h]
theorem iv_one (l : List Int) : ∀ u ∈ iv l, u.oneCell' = true := by intro u hu; simp [iv] at hu; obtain ⟨x, _, rfl⟩ := hu; rfl

/-- A coder's two cells. -/
def CoAt (w : World) (b o : Nat) (c : Coder) (pv : Value) : Prop :=
  w.cell? ⟨b, o, none⟩ = some (.int .i64 c.method) ∧ w.cell? ⟨b, o + 1, none⟩ = some pv ∧ Sl w pv (bv c.props)

theorem CoAt.fr {w w' : World} {b o : Nat} {c : Coder} {pv : Value} (h : CoAt w b o c pv) (hb : b < w.heap.size) (hf : Fr [] w w') : CoAt w' b o c pv :=
  ⟨(hf.cell (p := ⟨b, _, none⟩) hb (by simp)).trans h.1, (hf.cell (p := ⟨b, _, none⟩) hb (by simp)).trans h.2.1, h.2.2.fr0 hf⟩

/-- A slice of coders. -/
def Co (w : World) (v : Value) (l : List Coder) : Prop :=
  ∃ ao cap, v = .slice ao l.length cap ∧ l.length ≤ cap ∧ cap ≤ 9223372036854775807 ∧
    ∀ j c, l[j]? = some c → ∃ b o pv, ao = some ⟨b, o, none⟩ ∧ b < w.heap.size ∧ CoAt w b (o + j * 2) c pv

/-- A slice of binds. -/
def Bi (w : World) (v : Value) (l : List (Int × Int)) : Prop :=
  ∃ ao cap, v = .slice ao l.length cap ∧ l.length ≤ cap ∧ cap ≤ 9223372036854775807 ∧
    ∀ j (x : Int × Int), l[j]? = some x → ∃ b o, ao = some ⟨b, o, none⟩ ∧ b < w.heap.size ∧ w.cell? ⟨b, o + j * 2, none⟩ = some (.int .i64 x.1) ∧ w.cell? ⟨b, o + j * 2 + 1, none⟩ = some (.int .i64 x.2)

theorem Co.fr {w w' : World} {v : Value} {l : List Coder} (h : Co w v l) (hf : Fr [] w w') : Co w' v l := by
  obtain ⟨ao, cap, e, h1, h2, h3⟩ := h
  refine ⟨ao, cap, e, h1, h2, fun j c hc => ?_⟩
  obtain ⟨b, o, pv, q1, q2, q3, q4, q5⟩ := h3 j c hc
  exact ⟨b, o, pv, q1, Nat.lt_of_lt_of_le q2 hf.size, (hf.cell (p := ⟨b, _, none⟩) q2 (by simp)).trans q3, (hf.cell (p := ⟨b, _, none⟩) q2 (by simp)).trans q4, q5.fr0 hf⟩

theorem Bi.fr {w w' : World} {v : Value} {l : List (Int × Int)} (h : Bi w v l) (hf : Fr [] w w') : Bi w' v l := by
  obtain ⟨ao, cap, e, h1, h2, h3⟩ := h
  refine ⟨ao, cap, e, h1, h2, fun j c hc => ?_⟩
  obtain ⟨b, o, q1, q2, q3, q4⟩ := h3 j c hc
  exact ⟨b, o, q1, Nat.lt_of_lt_of_le q2 hf.size, (hf.cell (p := ⟨b, _, none⟩) q2 (by simp)).trans q3, (hf.cell (p := ⟨b, _, none⟩) q2 (by simp)).trans q4⟩

/-- A folder, its fields' values. -/
structure FoV (w : World) (c b p s : Value) (f : Folder) : Prop where
  co : Co w c f.coders
  bi : Bi w b f.binds
  pa : Sl w p (iv f.packs)
  si : Sl w s (u64v f.sizes)

theorem FoV.fr {w w' : World} {c b p s : Value} {f : Folder} (h : FoV w c b p s f) (hf : Fr [] w w') : FoV w' c b p s f := ⟨h.co.fr hf, h.bi.fr hf, h.pa.fr0 hf, h.si.fr0 hf⟩

/-- A folder as a value. -/
def Fo (w : World) (v : Value) (f : Folder) : Prop := ∃ c b p s h k, v = .agg #[c, b, p, s, h, k] ∧ FoV w c b p s f

theorem Fo.fr {w w' : World} {v : Value} {f : Folder} (h : Fo w v f) (hf : Fr [] w w') : Fo w' v f := by
  obtain ⟨c, b, p, s, h, k, e, q⟩ := h
  exact ⟨c, b, p, s, h, k, e, q.fr hf⟩

/-- A block of six cells that has been laid. -/
theorem box6 {w wr : World} {t : TypeId} {c b p s h k : Value} (F : Fr [] (w.alloc (.cells #[c, b, p, s, h, k] t)) wr) :
    wr.cell? ⟨w.heap.size, 0, none⟩ = some c ∧ wr.cell? ⟨w.heap.size, 1, none⟩ = some b ∧ wr.cell? ⟨w.heap.size, 2, none⟩ = some p ∧ wr.cell? ⟨w.heap.size, 3, none⟩ = some s ∧ wr.cell? ⟨w.heap.size, 4, none⟩ = some h ∧ wr.cell? ⟨w.heap.size, 5, none⟩ = some k := by
  have key : ∀ (i : Nat), wr.cell? ⟨w.heap.size, i, none⟩ = #[c, b, p, s, h, k][i]? := fun i => by
    rw [F.cell (p := ⟨w.heap.size, i, none⟩) (by simp) (by simp), Go.Joins.cell_of_block (heap_alloc_new w _)]
  exact ⟨by rw [key]; rfl, by rw [key]; rfl, by rw [key]; rfl, by rw [key]; rfl, by rw [key]; rfl, by rw [key]; rfl⟩

theorem Co.out {w : World} {v : Value} {l : List Coder} (h : Co w v l) : ∃ ao cap, v = .slice ao l.length cap ∧ l.length ≤ cap ∧ cap ≤ 9223372036854775807 ∧
    ∀ j c, l[j]? = some c → ∃ b o pv, ao = some ⟨b, o, none⟩ ∧ b < w.heap.size ∧ CoAt w b (o + j * 2) c pv := h
theorem Bi.out {w : World} {v : Value} {l : List (Int × Int)} (h : Bi w v l) : ∃ ao cap, v = .slice ao l.length cap ∧ l.length ≤ cap ∧ cap ≤ 9223372036854775807 ∧
    ∀ j (x : Int × Int), l[j]? = some x → ∃ b o, ao = some ⟨b, o, none⟩ ∧ b < w.heap.size ∧ w.cell? ⟨b, o + j * 2, none⟩ = some (.int .i64 x.1) ∧ w.cell? ⟨b, o + j * 2 + 1, none⟩ = some (.int .i64 x.2) := h

theorem wrap_nat (a b : Nat) (h : a + b ≤ 1000000000) : wrap64 ((a : Int) + b) = ((a + b : Nat) : Int) := by unfold wrap64; omega

theorem find_step {l : List Int} {x y : Int} {k : Nat} (hy : l[k]? = some y) (h : (l.take k).findIdx? (· == x) = none) (hne : y ≠ x) : (l.take (k + 1)).findIdx? (· == x) = none := by
  simp [List.take_add_one, hy, List.findIdx?_append, h, hne]

theorem find_at {l : List Int} {x : Int} {k : Nat} (hy : l[k]? = some x) (h : (l.take k).findIdx? (· == x) = none) : l.findIdx? (· == x) = some k := by
  have hk : k < l.length := (List.getElem?_eq_some_iff.1 hy).1
  have e : l = l.take k ++ x :: l.drop (k + 1) := by
    have := List.drop_eq_getElem_cons hk
    rw [(List.getElem?_eq_some_iff.1 hy).2] at this
    rw [← this, List.take_append_drop]
  rw [e, List.findIdx?_append, h]
  simp [List.findIdx?_cons]
  omega

theorem ins_any (w : World) (m : Int) (pv : Value) :
    Calls Tryd.prog 62 #[.agg #[.int .i64 m, pv]] w fun e w' => e = .returned (.int .i64 (ins m)) ∧ Fr [] w w' := by
  by_cases h6 : m = 6
  · subst h6
    go_enter Tryd.func62, Tryd.ntmps62
    go_wp2
    go_ret
    exact ⟨by simp [ins], (Fr.refl _ _).alloc _⟩
  · have hb : (m == 6) = false := by simp [h6]
    have E := Lib.hid (show (ins m : Int) = if (decide (1 ≤ m) && decide (m ≤ 7)) = true then 1 else 0 by simp [ins, h6]; split <;> simp)
    clear h6
    by_cases h1 : 1 ≤ m
    · by_cases h7 : m ≤ 7
      · have E2 := Lib.hid (show (ins m : Int) = 1 by rw [E.out]; simp [h1, h7])
        clear E
        go_enter Tryd.func62, Tryd.ntmps62
        go_wp2
        go_ret
        exact ⟨by rw [E2.out]; rfl, (Fr.refl _ _).alloc _⟩
      · have E2 := Lib.hid (show (ins m : Int) = 0 by rw [E.out]; simp [h7])
        clear E
        go_enter Tryd.func62, Tryd.ntmps62
        go_wp2
        go_ret
        exact ⟨by rw [E2.out]; rfl, (Fr.refl _ _).alloc _⟩
    · have E2 := Lib.hid (show (ins m : Int) = 0 by rw [E.out]; simp [h1])
      clear E
      go_enter Tryd.func62, Tryd.ntmps62
      go_wp2
      go_ret
      exact ⟨by rw [E2.out]; rfl, (Fr.refl _ _).alloc _⟩
end Go.Proofs.YtkodindajfdagaaDoor
