/- A set of numbers, kept as a map[int]bool that the call makes; a number may come more than once. No condition. -/
import Derived.Test.YtkodindajfdagaaGreatDoorGBaseM
import Derived.Maps.OwnSet
import Derived.Maps.OwnOps
namespace Go.Proofs.YtkodindajfdagaaGreatDoor
open Go.RowKit Go.Maps

theorem law_int : Keyed Tryz.prog 3 := int_keyed Tryz.underlying3

/-- Block b is a map that holds true at just the numbers that S tells; at most n were put. -/
def ISet (w : World) (b n : Nat) (S : Int → Bool) : Prop :=
  ∃ D : DataW Unit, w.ownsMap Tryz.prog 3 (plainElem Tryz.prog 4) b n D ∧ ∀ x : Int, Maps.has D (.int .i64 x) = S x ∧ D.atKey (.int .i64 x) (.lit (.bool false)) = .lit (.bool (S x))

theorem ISet.made (w : World) : ISet (w.alloc (.map #[] 0)) w.heap.size 0 (fun _ => false) := ⟨_, World.ownsMap_made w _ _ _, fun _ => ⟨rfl, rfl⟩⟩
theorem ISet.kept {w w' : World} {b n : Nat} {S : Int → Bool} {row : Option Nat} (h : ISet w b n S) (hg : w.grownBy w' row) (hne : some b ≠ row) : ISet w' b n S := by
  obtain ⟨D, h1, h2⟩ := h
  exact ⟨D, h1.kept hg hne, h2⟩
theorem ISet.lt {w : World} {b n : Nat} {S : Int → Bool} (h : ISet w b n S) : b < w.heap.size := by
  obtain ⟨D, h1, _⟩ := h
  exact h1.lt
theorem ISet.frS {w w' : World} {b n : Nat} {K : Int → Bool} {S : List Nat} (h : ISet w b n K) (F : Fr S w w') (hb : b ∉ S) : ISet w' b n K := by
  obtain ⟨D, ⟨es, clock, h1, h2⟩, h3⟩ := h
  exact ⟨D, ⟨es, clock, (F.block b (Array.getElem?_eq_some_iff.1 h1).1 hb).trans h1, h2⟩, h3⟩
theorem ISet.fr {w w' : World} {b n : Nat} {K : Int → Bool} (h : ISet w b n K) (F : Fr [] w w') : ISet w' b n K := h.frS F (by simp)
set_option maxRecDepth 100000 in
theorem ISet.look {w : World} {b n : Nat} {S : Int → Bool} (h : ISet w b n S) {x : Int} (hx : (Lit.int .i64 x).wf = true) :
    (Instr.lookup 150 (.map (some b)) (.int .i64 x) false).run Tryz.prog w = .ok (.bool (S x)) w := by
  obtain ⟨D, hD, hat⟩ := h
  obtain ⟨v, ps, hrun, hv⟩ := hD.lookup law_int Tryz.underlying150 (z := .bool false) (by kernel_rfl) (plainElem_bool Tryz.underlying4 false) (keyOf_int_mk Tryz.underlying3 hx)
  rw [hrun]
  rw [(hat x).2] at hv
  have : v = .bool (S x) := by
    unfold plainElem at hv
    rw [Tryz.underlying4] at hv
    cases v <;> simp at hv
    rw [hv.1]
  rw [this]

def addI (S : Int → Bool) (x : Int) : Int → Bool := fun y => decide (y = x) || S y

/-- 'm[x] = true'. -/
theorem wpList_iset {w : World} {ops : Array Oper} {rest : List Oper} {o : Oper} {a : Act} {Q : Exit → Act → World → Prop}
    (hg : o.guard = none) (m x v : Operand) (hop : o.op = Op.mapUpdate 150 m x v) {b n : Nat} {S : Int → Bool} (hm : a.eval m = .map (some b)) (hs : ISet w b n S) {k : Int} (hx : a.eval x = .int .i64 k) (hv : a.eval v = .bool true)
    (hk : (Lit.int .i64 k).wf = true) (hn : n ≤ 100000000)
    (hK : ∀ w', ISet w' b (n + 1) (addI S k) → w.grownBy w' (some b) → wpList Tryz.prog ops Q rest (a.put o.dst undef) w') : wpList Tryz.prog ops Q (o :: rest) a w := by
  obtain ⟨D, hD, hat⟩ := hs
  have ht := hD.tidy law_int
  refine wpList_mapUpdate_own w hg m x v _ hop _ _ law_int Tryz.underlying150 _ b _ D hm hD (by unfold maxLen; omega) _ _ _ hx hv (keyOf_int_mk Tryz.underlying3 hk) _ [] (plainElem_bool Tryz.underlying4 true) (fun w' h1 h2 => hK w' ⟨_, h1, fun y => ?_⟩ h2)
  unfold addI
  by_cases e : y = k
  · subst e
    rw [has_put_same (k := .int .i64 y) ht.isMap (by exact True.intro), atKey_put_same (k := .int .i64 y) ht.isMap (by exact True.intro)]
    simp
  · rw [has_put_other (by simpa using e), atKey_put_other (by simpa using e), (hat y).1, (hat y).2]
    simp [e]
end Go.Proofs.YtkodindajfdagaaGreatDoor
