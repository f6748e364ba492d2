/- A set of numbers, kept as a map that the call makes. No condition. -/
import Derived.Test.YtfnblemlcjdnhaaGreatGBase
import Derived.Maps.OwnSet
import Derived.Maps.OwnOps
namespace Go.Proofs.YtfnblemlcjdnhaaGreat
open Go.RowKit Go.Maps

theorem law_int : Keyed Tryz.prog 3 := int_keyed Tryz.underlying3

/-- Block b is a map that holds true at just the numbers of l. -/
def BSet (w : World) (b : Nat) (l : List Int) : Prop :=
  ∃ D : DataW Unit, w.ownsMap Tryz.prog 3 (plainElem Tryz.prog 4) b l.length D ∧ Maps.size D = l.length ∧
    (∀ x : Int, Maps.has D (.int .i64 x) = decide (x ∈ l)) ∧ ∀ x : Int, D.atKey (.int .i64 x) (.lit (.bool false)) = .lit (.bool (decide (x ∈ l)))

theorem BSet.made (w : World) : BSet (w.alloc (.map #[] 0)) w.heap.size [] :=
  ⟨_, World.ownsMap_made w _ _ _, rfl, fun _ => rfl, fun _ => rfl⟩

theorem BSet.kept {w w' : World} {b : Nat} {l : List Int} {row : Option Nat} (h : BSet w b l) (hg : w.grownBy w' row) (hne : some b ≠ row) : BSet w' b l := by
  obtain ⟨D, h1, h2⟩ := h
  exact ⟨D, h1.kept hg hne, h2⟩

theorem BSet.alloc {w : World} {b : Nat} {l : List Int} (h : BSet w b l) (o : Obj) : BSet (w.alloc o) b l := h.kept (World.grownBy_alloc w o none) (by simp)
theorem BSet.lt {w : World} {b : Nat} {l : List Int} (h : BSet w b l) : b < w.heap.size := by
  obtain ⟨D, h1, _⟩ := h
  exact h1.lt
theorem BSet.same {w w' : World} {b : Nat} {l : List Int} (h : BSet w b l) (hs : Same w w') : BSet w' b l := by
  obtain ⟨n, rfl⟩ := hs
  exact h

theorem wf_small {x : Int} (h : 0 ≤ x) (h2 : x < 1000000) : (Lit.int .i64 x).wf = true := WalkArith.wf_i64 (by omega)

set_option maxRecDepth 100000 in
theorem BSet.look {w : World} {b : Nat} {l : List Int} (h : BSet w b l) {x : Int} (h0 : 0 ≤ x) (h1 : x < 1000000) :
    (Instr.lookup 123 (.map (some b)) (.int .i64 x) false).run Tryz.prog w = .ok (.bool (decide (x ∈ l))) w := by
  obtain ⟨D, hD, _, _, hat⟩ := h
  obtain ⟨v, ps, hrun, hv⟩ := hD.lookup law_int Tryz.underlying123 (z := .bool false) (by kernel_rfl) (plainElem_bool Tryz.underlying4 false) (keyOf_int_mk Tryz.underlying3 (wf_small h0 h1))
  rw [hrun]
  rw [hat] at hv
  have : v = .bool (decide (x ∈ l)) := by
    unfold plainElem at hv
    rw [Tryz.underlying4] at hv
    cases v <;> simp at hv
    rw [hv.1]
  rw [this]

theorem BSet.put {w' : World} {b : Nat} {l : List Int} {x : Int} (D : DataW Unit) (hs : Maps.size D = l.length) (hh : ∀ x : Int, Maps.has D (.int .i64 x) = decide (x ∈ l)) (ha : ∀ x : Int, D.atKey (.int .i64 x) (.lit (.bool false)) = .lit (.bool (decide (x ∈ l))))
    (ht : Tidy D) (hx : x ∉ l) (h : w'.ownsMap Tryz.prog 3 (plainElem Tryz.prog 4) b (l.length + 1) (D.put (.int .i64 x) (.lit (.bool true)))) : BSet w' b (l ++ [x]) := by
  refine ⟨_, by simpa using h, ?_, fun y => ?_, fun y => ?_⟩
  · rw [size_put ht, hh]; simp [hx, hs]
  · by_cases e : y = x
    · subst e; rw [has_put_same (k := .int .i64 y) ht.isMap (by exact True.intro)]; simp
    · rw [has_put_other (by simpa using e), hh]; simp [e]
  · by_cases e : y = x
    · subst e; rw [atKey_put_same (k := .int .i64 y) ht.isMap (by exact True.intro)]; simp
    · rw [atKey_put_other (by simpa using e), ha]; simp [e]

theorem BSet.update {w : World} {b : Nat} {l : List Int} (hs : BSet w b l) {k : Int} (hn : k ∉ l) (h0 : 0 ≤ k) (h1 : k < 1000000) (hl : l.length ≤ 1000000) :
    ∃ w', (Instr.mapUpdate 123 (.map (some b)) (.int .i64 k) (.bool true)).run Tryz.prog w = .ok () w' ∧ BSet w' b (l ++ [k]) ∧ w.grownBy w' (some b) := by
  obtain ⟨D, hD, hsz, hh, ha⟩ := hs
  obtain ⟨w', hr, h1, h2⟩ := hD.update law_int Tryz.underlying123 (by unfold maxLen; omega) (keyOf_int_mk Tryz.underlying3 (wf_small h0 h1)) (plainElem_bool Tryz.underlying4 true)
  exact ⟨w', hr, BSet.put D hsz hh ha (hD.tidy law_int) hn h1, h2⟩

/-- 'm[x] = true'. -/
theorem wpList_bset {w : World} {ops : Array Oper} {rest : List Oper} {o : Oper} {a : Act} {Q : Exit → Act → World → Prop}
    (hg : o.guard = none) (m x v : Operand) (hop : o.op = Op.mapUpdate 123 m x v) {b : Nat} {l : List Int} (hm : a.eval m = .map (some b)) (hs : BSet w b l) {k : Int} (hx : a.eval x = .int .i64 k) (hv : a.eval v = .bool true)
    (hn : k ∉ l) (h0 : 0 ≤ k) (h1 : k < 1000000) (hl : l.length ≤ 1000000)
    (hK : ∀ w', BSet w' b (l ++ [k]) → w.grownBy w' (some b) → wpList Tryz.prog ops Q rest (a.put o.dst undef) w') : wpList Tryz.prog ops Q (o :: rest) a w := by
  obtain ⟨D, hD, hsz, hh, ha⟩ := hs
  exact wpList_mapUpdate_own w hg m x v _ hop _ _ law_int Tryz.underlying123 _ b _ D hm hD (by unfold maxLen; omega) _ _ _ hx hv (keyOf_int_mk Tryz.underlying3 (wf_small h0 h1)) _ [] (plainElem_bool Tryz.underlying4 true)
    (fun w' h1 h2 => hK w' (BSet.put D hsz hh ha (hD.tidy law_int) hn h1) h2)

/-- 'len(m)'. -/
theorem wpList_bset_len {w : World} {ops : Array Oper} {rest : List Oper} {o : Oper} {a : Act} {Q : Exit → Act → World → Prop}
    (hg : o.guard = none) (m : Operand) (hop : o.op = Op.call { callee := Callee.builtin Builtin.len, args := #[m], argTypes := #[123] }) {b : Nat} {l : List Int} (hm : a.eval m = .map (some b)) (hs : BSet w b l)
    (hK : wpList Tryz.prog ops Q rest (a.put o.dst (.int .i64 l.length)) w) : wpList Tryz.prog ops Q (o :: rest) a w := by
  obtain ⟨D, hD, hsz, _⟩ := hs
  exact wpList_len_own w hg m _ hop _ _ Tryz.underlying123 _ b _ D hm hD (by rw [hsz]; exact hK)
end Go.Proofs.YtfnblemlcjdnhaaGreat
