/- General lemmas: frames, slices that read as lists, append. No condition. -/
import Derived.Test.YtkodindajfdagaaDoorChecked
import Derived.WalkKit
import Derived.WalkLawsBesides
import Derived.WalkSpells
import Derived.Deep.QuietTactic
import Derived.BigQuiet
import Derived.StillTailTactics
import Derived.Laws.AppendOwnNone
import Derived.Laws.CopyOwn
import Derived.Lib.SmallJoins
import Derived.Lib.Hide
namespace Go.Proofs.YtkodindajfdagaaDoor
open Go.RowKit

/-- Outside the blocks of S the old memory is as it was. -/
structure Fr (S : List Nat) (w w' : World) : Prop where
  os : w'.os = w.os
  tape : w'.tape = w.tape
  output : w'.output = w.output
  size : w.heap.size ≤ w'.heap.size
  block : ∀ k, k < w.heap.size → k ∉ S → w'.heap[k]? = w.heap[k]?

theorem Fr.refl (S : List Nat) (w : World) : Fr S w w := ⟨rfl, rfl, rfl, Nat.le_refl _, fun _ _ _ => rfl⟩

theorem Fr.trans {S T : List Nat} {a b c : World} (h : Fr S a b) (k : Fr T b c) (hT : ∀ i ∈ T, i ∈ S ∨ a.heap.size ≤ i) : Fr S a c :=
  ⟨k.os.trans h.os, k.tape.trans h.tape, k.output.trans h.output, Nat.le_trans h.size k.size, fun i hi hS =>
    (k.block i (Nat.lt_of_lt_of_le hi h.size) (fun hiT => by rcases hT i hiT with h' | h'; exact hS h'; omega)).trans (h.block i hi hS)⟩

theorem Fr.trans0 {S : List Nat} {a b c : World} (h : Fr S a b) (k : Fr [] b c) : Fr S a c := h.trans k (by simp)

theorem Fr.trans1 {S : List Nat} {a b c : World} {p : Nat} (h : Fr S a b) (k : Fr [p] b c) (hp : p ∈ S ∨ a.heap.size ≤ p) : Fr S a c := h.trans k (by simpa using hp)

theorem Fr.mono {S T : List Nat} {a b : World} (h : Fr S a b) (hS : ∀ i ∈ S, i ∈ T) : Fr T a b :=
  ⟨h.os, h.tape, h.output, h.size, fun k hk hT => h.block k hk fun hs => hT (hS k hs)⟩

theorem Fr.drew {S : List Nat} {a w : World} (h : Fr S a w) : Fr S a w.drew := ⟨h.os, h.tape, h.output, h.size, h.block⟩

theorem drewN_heap (w : World) (n : Nat) : (w.drewN n).heap = w.heap := rfl

theorem Fr.drewN {S : List Nat} {a w : World} (h : Fr S a w) (n : Nat) : Fr S a (w.drewN n) := ⟨h.os, h.tape, h.output, h.size, h.block⟩

theorem Fr.alloc {S : List Nat} {a w : World} (h : Fr S a w) (o : Obj) : Fr S a (w.alloc o) :=
  ⟨h.os, h.tape, h.output, by have := h.size; simp; omega, fun k hk hS => (Below.heap_alloc w o k (Nat.lt_of_lt_of_le hk h.size)).trans (h.block k hk hS)⟩

theorem Fr.setCell {S : List Nat} {a w : World} (h : Fr S a w) {p : Addr} (hp : p.block ∈ S ∨ a.heap.size ≤ p.block) (u : Value) : Fr S a (w.setCell p u) :=
  ⟨h.os, h.tape, h.output, by have := h.size; simpa using this, fun k hk hS =>
    (Below.heap_setCell w p u k (by rintro rfl; rcases hp with hp | hp; exact hS hp; omega)).trans (h.block k hk hS)⟩

theorem Fr.grown {S : List Nat} {a w w' : World} {row : Option Nat} (h : Fr S a w) (hg : w.grownBy w' row) (hr : ∀ k, row = some k → k ∈ S ∨ a.heap.size ≤ k) : Fr S a w' :=
  ⟨hg.os.trans h.os, hg.tape.trans h.tape, hg.output.trans h.output, Nat.le_trans h.size hg.size, fun k hk hS =>
    (hg.block k (Nat.lt_of_lt_of_le hk h.size) (fun e => by rcases hr k e.symm with h' | h'; exact hS h'; omega)).trans (h.block k hk hS)⟩

theorem Fr.below {w w' : World} (h : Fr [] w w') : Below w.heap.size w w' :=
  ⟨h.os, h.tape, h.output, h.size, fun k hk => h.block k hk (by simp)⟩

theorem Fr.of_below {w w' : World} (h : Below w.heap.size w w') : Fr [] w w' :=
  ⟨h.os, h.tape, h.output, h.size, fun k hk _ => h.block k hk⟩

theorem Fr.cell {S : List Nat} {w w' : World} (h : Fr S w w') {p : Addr} (hp : p.block < w.heap.size) (hS : p.block ∉ S) : w'.cell? p = w.cell? p :=
  World.cell?_of_block (w := w) (h.block p.block hp hS)

/-- Nothing but draws. -/
def Same (w w' : World) : Prop := ∃ n, w' = w.drewN n
theorem Same.refl (w : World) : Same w w := ⟨0, rfl⟩
theorem Same.drewN {w : World} (n : Nat) : Same w (w.drewN n) := ⟨n, rfl⟩
theorem Same.drew {w : World} : Same w w.drew := ⟨1, rfl⟩
theorem Same.trans {a b c : World} (h : Same a b) (k : Same b c) : Same a c := by
  obtain ⟨n, rfl⟩ := h
  obtain ⟨m, rfl⟩ := k
  exact ⟨n + m, by simp [World.drewN, Nat.add_assoc]⟩
theorem Same.fr {S : List Nat} {w w' : World} (h : Same w w') : Fr S w w' := by
  obtain ⟨n, rfl⟩ := h
  exact (Fr.refl _ _).drewN n
theorem Same.size {w w' : World} (h : Same w w') : w'.heap.size = w.heap.size := by obtain ⟨n, rfl⟩ := h; rfl

/-- A slice value reads as the cells xs. -/
def Sl (w : World) (v : Value) (xs : List Value) : Prop :=
  ∃ ao cap, v = .slice ao xs.length cap ∧ xs.length ≤ cap ∧ cap ≤ 9223372036854775807 ∧ (ao = none → cap = 0) ∧
    ∀ a, ao = some a → 0 < cap → a.spot = none ∧ a.block < w.heap.size ∧ ∀ j, j < xs.length → w.cell? ⟨a.block, a.off + j, none⟩ = xs[j]?

theorem Sl.nil (w : World) : Sl w (.slice none 0 0) [] := ⟨none, 0, rfl, by simp, by simp, fun _ => rfl, fun _ h => by cases h⟩

theorem Sl.fr {w w' : World} {v : Value} {xs : List Value} {S : List Nat} (h : Sl w v xs) (hf : Fr S w w') (hv : ∀ k, v.ownBlock = some k → k ∉ S) : Sl w' v xs := by
  obtain ⟨ao, cap, rfl, h1, h2, h3, h4⟩ := h
  refine ⟨ao, cap, rfl, h1, h2, h3, fun a ha hc => ?_⟩
  obtain ⟨q1, q2, q3⟩ := h4 a ha hc
  subst ha
  refine ⟨q1, Nat.lt_of_lt_of_le q2 hf.size, fun j hj => ?_⟩
  rw [hf.cell (p := ⟨a.block, a.off + j, none⟩) q2 (hv a.block rfl)]
  exact q3 j hj

theorem Sl.fr0 {w w' : World} {v : Value} {xs : List Value} (h : Sl w v xs) (hf : Fr [] w w') : Sl w' v xs := h.fr hf (by simp)

/-- The value, written out; an element's place. -/
theorem Sl.out {w : World} {v : Value} {xs : List Value} (h : Sl w v xs) : ∃ ao cap, v = .slice ao xs.length cap ∧ xs.length ≤ cap ∧ cap ≤ 9223372036854775807 ∧
    ∀ j, j < xs.length → ∃ b o, ao = some ⟨b, o, none⟩ ∧ b < w.heap.size ∧ ∀ i, i < xs.length → w.cell? ⟨b, o + i, none⟩ = xs[i]? := by
  obtain ⟨ao, cap, rfl, h1, h2, h3, h4⟩ := h
  refine ⟨ao, cap, rfl, h1, h2, fun j hj => ?_⟩
  cases ao with
  | none => have := h3 rfl; omega
  | some a =>
    obtain ⟨q1, q2, q3⟩ := h4 a rfl (by omega)
    obtain ⟨b, o, s⟩ := a
    dsimp only at q1 q2 q3
    subst q1
    exact ⟨b, o, rfl, q2, q3⟩

theorem Sl.len {w : World} {ao : Option Addr} {n c : Nat} {xs : List Value} (h : Sl w (.slice ao n c) xs) : n = xs.length := by
  obtain ⟨_, _, e, _⟩ := h
  injection e

theorem Sl.caps {w : World} {ao : Option Addr} {n c : Nat} {xs : List Value} (h : Sl w (.slice ao n c) xs) : n ≤ c ∧ c ≤ 9223372036854775807 := by
  obtain ⟨_, _, e, h1, h2, _⟩ := h
  injection e with e1 e2 e3
  omega

/-- A cut of a slice. -/
theorem Sl.cut {w : World} {ao : Option Addr} {n cap : Nat} {xs : List Value} (h : Sl w (.slice ao n cap) xs) (l m : Nat) (hl : l ≤ m) (hm : m ≤ n) :
    Sl w (.slice (if cap = l then ao else ao.map (·.add l)) (m - l) (cap - l)) ((xs.drop l).take (m - l)) := by
  obtain ⟨ao', cap', e, h1, h2, h3, h4⟩ := h
  injection e with e1 e2 e3
  subst e1 e2 e3
  have hlen : ((xs.drop l).take (m - l)).length = m - l := by simp; omega
  refine ⟨_, cap - l, by rw [hlen], by omega, by omega, ?_, ?_⟩
  · intro hn
    by_cases hc : cap = l
    · omega
    · rw [if_neg hc] at hn
      have : ao = none := by cases ao <;> simp_all
      have := h3 this
      omega
  · intro a ha hc
    rw [if_neg (by omega)] at ha
    cases ao with
    | none => simp at ha
    | some a' =>
      simp only [Option.map_some, Option.some.injEq] at ha
      obtain ⟨q1, q2, q3⟩ := h4 a' rfl (by omega)
      obtain ⟨b, o, s⟩ := a'
      dsimp only at q1 q2 q3
      subst q1
      have hadd : (⟨b, o, none⟩ : Addr).add l = ⟨b, o + l, none⟩ := by unfold Addr.add; split <;> simp_all
      rw [hadd] at ha
      subst ha
      refine ⟨rfl, q2, fun j hj => ?_⟩
      rw [hlen] at hj
      dsimp only
      rw [show o + l + j = o + (l + j) from by omega, q3 (l + j) (by omega), List.getElem?_take, if_pos hj, List.getElem?_drop]

/-- A cut from the beginning. -/
theorem Sl.first {w : World} {ao : Option Addr} {n cap : Nat} {xs : List Value} (h : Sl w (.slice ao n cap) xs) (m : Nat) (hm : m ≤ n) :
    Sl w (.slice ao m cap) (xs.take m) := by
  obtain ⟨ao', cap', e, h1, h2, h3, h4⟩ := h
  injection e with e1 e2 e3
  subst e1 e2 e3
  have hlen : (xs.take m).length = m := by simp; omega
  refine ⟨ao, cap, by rw [hlen], by omega, by omega, h3, fun a ha hc => ?_⟩
  obtain ⟨q1, q2, q3⟩ := h4 a ha hc
  refine ⟨q1, q2, fun j hj => ?_⟩
  rw [hlen] at hj
  rw [q3 j (by omega), List.getElem?_take, if_pos hj]

/-- What the call owns reads as it is. -/
theorem Sl.of_own {w : World} {base e : Nat} {v : Value} {n : Nat} {xs : List Value} (h : w.ownsRow base e 1 v n xs) : Sl w v xs := by
  obtain ⟨hl, h⟩ := h
  have hl' : xs.length = n := by omega
  rcases h with ⟨rfl, hn⟩ | ⟨g, cap, cur, rfl, hb, hg, hnc, hcm, hcs, ht⟩
  · have : xs = [] := List.eq_nil_of_length_eq_zero (by omega)
    subst this
    exact Sl.nil w
  · refine ⟨some ⟨g, 0, none⟩, cap, by rw [hl'], by omega, by unfold maxLen at hcm; omega, by simp, fun a ha hc => ?_⟩
    obtain rfl := (Option.some.inj ha).symm
    refine ⟨rfl, (Array.getElem?_eq_some_iff.1 hg).1, fun j hj => ?_⟩
    dsimp only
    rw [Go.Joins.cell_of_block hg, ← ht, List.getElem?_take, if_pos (by omega)]
    simp

theorem own_fr {w w' : World} {base e : Nat} {v : Value} {n : Nat} {xs : List Value} {S : List Nat} (h : w.ownsRow base e 1 v n xs) (hf : Fr S w w') (hv : ∀ k, v.ownBlock = some k → k ∉ S) : w'.ownsRow base e 1 v n xs := by
  refine ⟨h.1, ?_⟩
  rcases h.2 with hn | ⟨g, cap, cur, rfl, hb, hgg, rest⟩
  · exact .inl hn
  · refine .inr ⟨g, cap, cur, rfl, hb, ?_, rest⟩
    rw [hf.block g (Array.getElem?_eq_some_iff.1 hgg).1 (hv g rfl)]
    exact hgg

theorem own_mono {w : World} {base base' e : Nat} {v : Value} {n : Nat} {xs : List Value} (h : w.ownsRow base e 1 v n xs) (hb : base' ≤ base) : w.ownsRow base' e 1 v n xs := by
  refine ⟨h.1, ?_⟩
  rcases h.2 with hn | ⟨g, cap, cur, rfl, hb', rest⟩
  · exact .inl hn
  · exact .inr ⟨g, cap, cur, rfl, by omega, rest⟩

/-- An owned slice, written out. -/
theorem own_out {w : World} {base e : Nat} {v : Value} {n : Nat} {xs : List Value} (h : w.ownsRow base e 1 v n xs) :
    ∃ ao cap, v = .slice ao n cap ∧ n ≤ cap ∧ cap ≤ 9223372036854775807 ∧ (0 < n → ∃ g, ao = some ⟨g, 0, none⟩ ∧ base ≤ g ∧ g < w.heap.size) := by
  rcases h.2 with ⟨rfl, rfl⟩ | ⟨g, cap, cur, rfl, hb, hg, hnc, hcm, _⟩
  · exact ⟨none, 0, rfl, by simp, by simp, by simp⟩
  · exact ⟨_, cap, rfl, hnc, by unfold maxLen at hcm; omega, fun _ => ⟨g, rfl, hb, (Array.getElem?_eq_some_iff.1 hg).1⟩⟩

/-- The facts on a slice type of one-cell elements. -/
structure SlTy (P : Program) (t e : TypeId) (z : Value) (bytes : Nat) : Prop where
  under : P.underlying t = some (.slice e)
  info : ∃ i, P.info? e = some i ∧ i.zero = some z ∧ i.size = 1 ∧ i.bytes = bytes
  one : z.cells.size = 1

/-- 'append(v, y...)': v is the call's own, y reads as ys. -/
theorem wpList_append_sl {P : Program} {t e : TypeId} {z : Value} {bytes : Nat} (T : SlTy P t e z bytes) {w : World} {ops : Array Oper} {rest : List Oper} {o : Oper} {a : Act} {Q : Exit → Act → World → Prop} (hgd : o.guard = none) (s x : Operand)
    (ho : o.op = .call { callee := .builtin .append, args := #[s, x], argTypes := #[t, t] })
    (base : Nat) (v : Value) (n : Nat) (xs : List Value) (hs : a.eval s = v) (hown : w.ownsRow base e 1 v n xs)
    (y : Value) (ys : List Value) (hx : a.eval x = y) (hy : Sl w y ys) (h1 : ∀ u ∈ ys, u.oneCell' = true)
    (hm : n + ys.length ≤ 9223372036854775807) (hbytes : (n + ys.length) * bytes ≤ 140737488355328) (hbase : base ≤ w.heap.size)
    (h : ∀ v' w', w'.ownsRow base e 1 v' (n + ys.length) (xs ++ ys) → w.grownBy w' v.ownBlock → wpList P ops Q rest (a.put o.dst v') w') : wpList P ops Q (o :: rest) a w := by
  obtain ⟨i, hi, hz, hsz, hby⟩ := T.info
  obtain ⟨ao, cap, rfl, c1, c2, c3, c4⟩ := hy
  cases ao with
  | none =>
    have := c3 rfl
    subst this
    have hys : ys = [] := List.eq_nil_of_length_eq_zero (by omega)
    subst hys
    refine wpList_append_own_none hgd s x t ho base e i 1 T.under (by simpa using hi) v n xs hs hown hx (h v w (by simpa using hown) (World.grownBy.refl w _))
  | some ad =>
    refine wpList_append_own w hgd s x t ho base e i z 1 bytes T.under hi hz hsz hby T.one (by decide) v n xs hs hown ad ys.length cap ys hx (by simp) ?_ h1 (by unfold maxLen; omega) hbytes hbase (fun v' w' g1 g2 _ => h v' w' g1 g2)
    intro j u hu
    have hj : j < ys.length := (List.getElem?_eq_some_iff.1 hu).1
    obtain ⟨q1, q2, q3⟩ := c4 ad rfl (by omega)
    obtain ⟨b, of, sp⟩ := ad
    dsimp only at q1 q2 q3
    subst q1
    have hadd : (⟨b, of, none⟩ : Addr).add j = ⟨b, of + j, none⟩ := by unfold Addr.add; split <;> simp_all
    rw [hadd, q3 j hj, hu]

/-- The same, as one step of a region that draws its order. -/
theorem step_append_sl {P : Program} {t e : TypeId} {z : Value} {bytes : Nat} (T : SlTy P t e z bytes) {w : World} {ops : Array Oper} {o : Oper} {a : Act} {K : Act → World → Prop} {Q : Exit → Act → World → Prop} {E : Prop} (hgd : o.guard = none) (s x : Operand)
    (ho : o.op = .call { callee := .builtin .append, args := #[s, x], argTypes := #[t, t] })
    (base : Nat) (v : Value) (n : Nat) (xs : List Value) (hs : a.eval s = v) (hown : w.ownsRow base e 1 v n xs)
    (y : Value) (ys : List Value) (hx : a.eval x = y) (hy : Sl w y ys) (h1 : ∀ u ∈ ys, u.oneCell' = true)
    (hm : n + ys.length ≤ 9223372036854775807) (hbytes : (n + ys.length) * bytes ≤ 140737488355328) (hbase : base ≤ w.heap.size)
    (h : ∀ v' w', w'.ownsRow base e 1 v' (n + ys.length) (xs ++ ys) → w.grownBy w' v.ownBlock → K (a.put o.dst v') w') :
    if Region.wanted o (yielded ops a.tmps) = true then Oper.wp P o a w K Q else E := by
  have hw : Region.wanted o (yielded ops a.tmps) = true := by simp [Region.wanted, hgd]
  rw [if_pos hw]
  obtain ⟨i, hi, hz, hsz, hby⟩ := T.info
  obtain ⟨ao, cap, rfl, c1, c2, c3, c4⟩ := hy
  cases ao with
  | none =>
    have := c3 rfl
    subst this
    have hys : ys = [] := List.eq_nil_of_length_eq_zero (by omega)
    subst hys
    have hrun := run_append_owned_none (P := P) (w := w) base t o.type e i 1 T.under (by simpa using hi) v n xs hown
    unfold Oper.wp
    simp [execOp, ho, resolve, invoke, builtin, hs, hx, hrun, Result.andThen]
    exact h v w (by simpa using hown) (World.grownBy.refl w _)
  | some ad =>
    refine wp_append_own w s x t ho base e i z 1 bytes T.under hi hz hsz hby T.one (by decide) v n xs hs hown ad ys.length cap ys hx (by simp) ?_ h1 (by unfold maxLen; omega) hbytes hbase (fun v' w' g1 g2 _ => h v' w' g1 g2)
    intro j u hu
    have hj : j < ys.length := (List.getElem?_eq_some_iff.1 hu).1
    obtain ⟨q1, q2, q3⟩ := c4 ad rfl (by omega)
    obtain ⟨b, of, sp⟩ := ad
    dsimp only at q1 q2 q3
    subst q1
    have hadd : (⟨b, of, none⟩ : Addr).add j = ⟨b, of + j, none⟩ := by unfold Addr.add; split <;> simp_all
    rw [hadd, q3 j hj, hu]

/-- The empty literal '[]T{}' is owned. -/
theorem own_empty (w : World) (e : TypeId) : (w.alloc (.cells #[] e)).ownsRow w.heap.size e 1 (.slice (some ⟨w.heap.size, 0, none⟩) 0 0) 0 [] :=
  ⟨rfl, .inr ⟨w.heap.size, 0, #[], rfl, Nat.le_refl _, heap_alloc_new w _, Nat.le_refl _, by simp [maxLen], rfl, rfl⟩⟩

/-- A literal that has just been laid. -/
theorem sl_lit (w : World) (e : TypeId) (l : List Value) (n : Nat) (hn : n = l.length) (hm : n ≤ 9223372036854775807) : Sl (w.alloc (.cells l.toArray e)) (.slice (some ⟨w.heap.size, 0, none⟩) n n) l :=
  ⟨_, n, by rw [hn], by omega, by omega, by simp, fun a ha _ => by
    obtain rfl := (Option.some.inj ha).symm
    exact ⟨rfl, by simp, fun j hj => by simp⟩⟩

/-- A literal of one element, as 'append(x, y)' lays it. -/
theorem sl_one (w : World) (e : TypeId) (u : Value) : Sl (w.alloc (.cells #[u] e)) (.slice (some ⟨w.heap.size, 0, none⟩) 1 1) [u] :=
  ⟨_, 1, rfl, by simp, by simp, by simp, fun a ha _ => by
    obtain rfl := (Option.some.inj ha).symm
    refine ⟨rfl, by simp, fun j hj => ?_⟩
    have : j = 0 := by simp at hj; omega
    subst this
    simp⟩

/-- 'append([]T{}, y...)': a copy. -/
theorem wpList_append_new {P : Program} {t e : TypeId} {z : Value} {bytes : Nat} (T : SlTy P t e z bytes) {w : World} {ops : Array Oper} {rest : List Oper} {o : Oper} {a : Act} {Q : Exit → Act → World → Prop} (hgd : o.guard = none) (s x : Operand)
    (ho : o.op = .call { callee := .builtin .append, args := #[s, x], argTypes := #[t, t] })
    (hs : a.eval s = .slice (some ⟨w.heap.size, 0, none⟩) 0 0)
    (y : Value) (ys : List Value) (hx : a.eval x = y) (hy : Sl w y ys) (h1 : ∀ u ∈ ys, u.oneCell' = true)
    (hm : ys.length ≤ 9223372036854775807) (hbytes : ys.length * bytes ≤ 140737488355328)
    (h : ∀ v' w', w'.ownsRow w.heap.size e 1 v' ys.length ys → Fr [] w w' → wpList P ops Q rest (a.put o.dst v') w') : wpList P ops Q (o :: rest) a (w.alloc (.cells #[] e)) := by
  refine wpList_append_sl T hgd s x ho w.heap.size _ 0 [] hs (own_empty w e) y ys hx (hy.fr0 ((Fr.refl _ _).alloc _)) h1 (by omega) (by rw [Nat.zero_add]; exact hbytes) (by simp) (fun v' w' g1 g2 => h v' w' ?_ ?_)
  · rw [Nat.zero_add, List.nil_append] at g1; exact g1
  · exact ((Fr.refl _ _).alloc _).grown g2 (fun k hk => .inr (by simp [Value.ownBlock] at hk; omega))

/-- 'append(v, u)': one element more behind what the call owns. -/
theorem wpList_append_one {P : Program} {t e : TypeId} {z : Value} {bytes : Nat} (T : SlTy P t e z bytes) {w : World} {ops : Array Oper} {rest : List Oper} {o : Oper} {a : Act} {Q : Exit → Act → World → Prop} (hgd : o.guard = none) (s x : Operand)
    (ho : o.op = .call { callee := .builtin .append, args := #[s, x], argTypes := #[t, t] })
    {w0 : World} {S : List Nat} (F : Fr S w0 w)
    (v : Value) (n : Nat) (xs : List Value) (hs : a.eval s = v) (hown : w.ownsRow w0.heap.size e 1 v n xs)
    (u : Value) (hx : a.eval x = .slice (some ⟨w.heap.size, 0, none⟩) 1 1) (h1 : u.oneCell' = true)
    (hm : n + 1 ≤ 9223372036854775807) (hbytes : (n + 1) * bytes ≤ 140737488355328)
    (h : ∀ v' w', w'.ownsRow w0.heap.size e 1 v' (n + 1) (xs ++ [u]) → Fr S w0 w' → wpList P ops Q rest (a.put o.dst v') w') : wpList P ops Q (o :: rest) a (w.alloc (.cells #[u] e)) := by
  refine wpList_append_sl T hgd s x ho w0.heap.size v n xs hs (hown.alloc _) _ [u] hx (sl_one w e u) (by intro u' hu; simp at hu; subst hu; exact h1) (by simpa using hm) (by simpa using hbytes) (by have := F.size; simp; omega) (fun v' w' g1 g2 => h v' w' g1 ?_)
  exact (F.alloc _).grown g2 (fun k hk => .inr (hown.lt k hk).1)

/-- 'append(v, y...)': behind what the call owns, in a frame. -/
theorem wpList_append_more {P : Program} {t e : TypeId} {z : Value} {bytes : Nat} (T : SlTy P t e z bytes) {w : World} {ops : Array Oper} {rest : List Oper} {o : Oper} {a : Act} {Q : Exit → Act → World → Prop} (hgd : o.guard = none) (s x : Operand)
    (ho : o.op = .call { callee := .builtin .append, args := #[s, x], argTypes := #[t, t] })
    {w0 : World} {S : List Nat} (F : Fr S w0 w)
    (v : Value) (n : Nat) (xs : List Value) (hs : a.eval s = v) (hown : w.ownsRow w0.heap.size e 1 v n xs)
    (y : Value) (ys : List Value) (hx : a.eval x = y) (hy : Sl w y ys) (h1 : ∀ u ∈ ys, u.oneCell' = true)
    (hm : n + ys.length ≤ 9223372036854775807) (hbytes : (n + ys.length) * bytes ≤ 140737488355328)
    (h : ∀ v' w', w'.ownsRow w0.heap.size e 1 v' (n + ys.length) (xs ++ ys) → Fr S w0 w' → Fr v.ownBlock.toList w w' → wpList P ops Q rest (a.put o.dst v') w') : wpList P ops Q (o :: rest) a w :=
  wpList_append_sl T hgd s x ho w0.heap.size v n xs hs hown y ys hx hy h1 hm hbytes F.size
    (fun v' w' g1 g2 => h v' w' g1 (F.grown g2 (fun k hk => .inr (hown.lt k hk).1)) ((Fr.refl _ _).grown g2 (fun k hk => .inl (by simpa using hk))))

/-- Bytes and bits as cells. -/
def bv (l : List UInt8) : List Value := l.map fun x => .int .u8 x.toNat
def tv (l : List Bool) : List Value := l.map .bool

def u64v (l : List UInt64) : List Value := l.map fun x => .int .u64 x.toNat
theorem u64v_length (l : List UInt64) : (u64v l).length = l.length := by simp [u64v]
theorem u64v_get (l : List UInt64) (j : Nat) (x : UInt64) (h : l[j]? = some x) : (u64v l)[j]? = some (.int .u64 x.toNat) := by simp [u64v, h]

@[simp] theorem bv_nil : bv [] = [] := rfl
@[simp] theorem tv_nil : tv [] = [] := rfl
theorem bv_length (l : List UInt8) : (bv l).length = l.length := by simp [bv]
theorem tv_length (l : List Bool) : (tv l).length = l.length := by simp [tv]
theorem bv_append (a b : List UInt8) : bv (a ++ b) = bv a ++ bv b := by simp [bv]
theorem tv_append (a b : List Bool) : tv (a ++ b) = tv a ++ tv b := by simp [tv]
theorem bv_take (a : List UInt8) (n : Nat) : bv (a.take n) = (bv a).take n := by simp [bv, List.map_take]
theorem bv_drop (a : List UInt8) (n : Nat) : bv (a.drop n) = (bv a).drop n := by simp [bv, List.map_drop]
theorem bv_one (l : List UInt8) : ∀ u ∈ bv l, u.oneCell' = true := by intro u hu; simp [bv] at hu; obtain ⟨x, _, rfl⟩ := hu; rfl
theorem tv_one (l : List Bool) : ∀ u ∈ tv l, u.oneCell' = true := by intro u hu; simp [tv] at hu; rcases hu with ⟨_, rfl⟩ | ⟨_, rfl⟩ <;> rfl

theorem bv_get (l : List UInt8) (j : Nat) (x : UInt8) (h : l[j]? = some x) : (bv l)[j]? = some (.int .u8 x.toNat) := by simp [bv, h]
theorem tv_get (l : List Bool) (j : Nat) (x : Bool) (h : l[j]? = some x) : (tv l)[j]? = some (.bool x) := by simp [tv, h]

theorem some_get {α : Type} (l : List α) (j : Nat) (h : j < l.length) : ∃ x, l[j]? = some x := ⟨l[j], by simp [h]⟩

theorem Same.cell {w w' : World} (h : Same w w') (a : Addr) : w'.cell? a = w.cell? a := by obtain ⟨n, rfl⟩ := h; rfl
theorem Same.frozen {w w' : World} (h : Same w w') (a : Addr) : w'.frozen? a = w.frozen? a := by obtain ⟨n, rfl⟩ := h; rfl

end Go.Proofs.YtkodindajfdagaaDoor
