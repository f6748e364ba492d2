/- General lemmas: frames, slices that read as lists, append. No condition. -/
import Derived.Test.YthdfjbliafdchaaChecked
import Derived.WalkKit
import Derived.WalkLawsBesides
import Derived.WalkSpells
import Derived.Deep.QuietTactic
import Derived.BigQuiet
import Derived.StillTailTactics
import Derived.Laws.AppendOwnNone
import Derived.Laws.CopyOwn
import Derived.Lib.SmallJoins
import Derived.Lib.Hide
import Derived.Lib.BitFns
namespace Go.Proofs.Ythdfjbliafdchaa
open Go.RowKit

/-- Outside the blocks of S the old memory is as it was. -/
structure Fr (S : List Nat) (w w' : World) : Prop where
  os : w'.os = w.os
  tape : w'.tape = w.tape
  output : w'.output = w.output
  size : w.heap.size ≤ w'.heap.size
  block : ∀ k, k < w.heap.size → k ∉ S → w'.heap[k]? = w.heap[k]?

theorem Fr.refl (S : List Nat) (w : World) : Fr S w w := ⟨rfl, rfl, rfl, Nat.le_refl _, fun _ _ _ => rfl⟩

theorem Fr.trans {S T : List Nat} {a b c : World} (h : Fr S a b) (k : Fr T b c) (hT : ∀ i ∈ T, i ∈ S ∨ a.heap.size ≤ i) : Fr S a c :=
  ⟨k.os.trans h.os, k.tape.trans h.tape, k.output.trans h.output, Nat.le_trans h.size k.size, fun i hi hS =>
    (k.block i (Nat.lt_of_lt_of_le hi h.size) (fun hiT => by rcases hT i hiT with h' | h'; exact hS h'; omega)).trans (h.block i hi hS)⟩

theorem Fr.trans0 {S : List Nat} {a b c : World} (h : Fr S a b) (k : Fr [] b c) : Fr S a c := h.trans k (by simp)

theorem Fr.trans1 {S : List Nat} {a b c : World} {p : Nat} (h : Fr S a b) (k : Fr [p] b c) (hp : p ∈ S ∨ a.heap.size ≤ p) : Fr S a c := h.trans k (by simpa using hp)

theorem Fr.mono {S T : List Nat} {a b : World} (h : Fr S a b) (hS : ∀ i ∈ S, i ∈ T) : Fr T a b :=
  ⟨h.os, h.tape, h.output, h.size, fun k hk hT => h.block k hk fun hs => hT (hS k hs)⟩

theorem Fr.drew {S : List Nat} {a w : World} (h : Fr S a w) : Fr S a w.drew := ⟨h.os, h.tape, h.output, h.size, h.block⟩

theorem drewN_heap (w : World) (n : Nat) : (w.drewN n).heap = w.heap := rfl

theorem Fr.drewN {S : List Nat} {a w : World} (h : Fr S a w) (n : Nat) : Fr S a (w.drewN n) := ⟨h.os, h.tape, h.output, h.size, h.block⟩

theorem Fr.alloc {S : List Nat} {a w : World} (h : Fr S a w) (o : Obj) : Fr S a (w.alloc o) :=
  ⟨h.os, h.tape, h.output, by have := h.size; simp; omega, fun k hk hS => (Below.heap_alloc w o k (Nat.lt_of_lt_of_le hk h.size)).trans (h.block k hk hS)⟩

theorem Fr.setCell {S : List Nat} {a w : World} (h : Fr S a w) {p : Addr} (hp : p.block ∈ S ∨ a.heap.size ≤ p.block) (u : Value) : Fr S a (w.setCell p u) :=
  ⟨h.os, h.tape, h.output, by have := h.size; simpa using this, fun k hk hS =>
    (Below.heap_setCell w p u k (by rintro rfl; rcases hp with hp | hp; exact hS hp; omega)).trans (h.block k hk hS)⟩

theorem Fr.grown {S : List Nat} {a w w' : World} {row : Option Nat} (h : Fr S a w) (hg : w.grownBy w' row) (hr : ∀ k, row = some k → k ∈ S ∨ a.heap.size ≤ k) : Fr S a w' :=
  ⟨hg.os.trans h.os, hg.tape.trans h.tape, hg.output.trans h.output, Nat.le_trans h.size hg.size, fun k hk hS =>
    (hg.block k (Nat.lt_of_lt_of_le hk h.size) (fun e => by rcases hr k e.symm with h' | h'; exact hS h'; omega)).trans (h.block k hk hS)⟩

theorem Fr.below {w w' : World} (h : Fr [] w w') : Below w.heap.size w w' :=
  ⟨h.os, h.tape, h.output, h.size, fun k hk => h.block k hk (by simp)⟩

theorem Fr.of_below {w w' : World} (h : Below w.heap.size w w') : Fr [] w w' :=
  ⟨h.os, h.tape, h.output, h.size, fun k hk _ => h.block k hk⟩

theorem Fr.cell {S : List Nat} {w w' : World} (h : Fr S w w') {p : Addr} (hp : p.block < w.heap.size) (hS : p.block ∉ S) : w'.cell? p = w.cell? p :=
  World.cell?_of_block (w := w) (h.block p.block hp hS)

/-- Nothing but draws. -/
def Same (w w' : World) : Prop := ∃ n, w' = w.drewN n
theorem Same.refl (w : World) : Same w w := ⟨0, rfl⟩
theorem Same.drewN {w : World} (n : Nat) : Same w (w.drewN n) := ⟨n, rfl⟩
theorem Same.drew {w : World} : Same w w.drew := ⟨1, rfl⟩
theorem Same.trans {a b c : World} (h : Same a b) (k : Same b c) : Same a c := by
  obtain ⟨n, rfl⟩ := h
  obtain ⟨m, rfl⟩ := k
  exact ⟨n + m, by simp [World.drewN, Nat.add_assoc]⟩
theorem Same.fr {S : List Nat} {w w' : World} (h : Same w w') : Fr S w w' := by
  obtain ⟨n, rfl⟩ := h
  exact (Fr.refl _ _).drewN n
theorem Same.size {w w' : World} (h : Same w w') : w'.heap.size = w.heap.size := by obtain ⟨n, rfl⟩ := h; rfl

/-- A slice value reads as the cells xs. -/
def Sl (w : World) (v : Value) (xs : List Value) : Prop :=
  ∃ ao cap, v = .slice ao xs.length cap ∧ xs.length ≤ cap ∧ cap ≤ 9223372036854775807 ∧ (ao = none → cap = 0) ∧
    ∀ a, ao = some a → 0 < cap → a.spot = none ∧ a.block < w.heap.size ∧ ∀ j, j < xs.length → w.cell? ⟨a.block, a.off + j, none⟩ = xs[j]?

theorem Sl.nil (w : World) : Sl w (.slice none 0 0) [] := ⟨none, 0, rfl, by simp, by simp, fun _ => rfl, fun _ h => by cases h⟩

theorem Sl.fr {w w' : World} {v : Value} {xs : List Value} {S : List Nat} (h : Sl w v xs) (hf : Fr S w w') (hv : ∀ k, v.ownBlock = some k → k ∉ S) : Sl w' v xs := by
  obtain ⟨ao, cap, rfl, h1, h2, h3, h4⟩ := h
  refine ⟨ao, cap, rfl, h1, h2, h3, fun a ha hc => ?_⟩
  obtain ⟨q1, q2, q3⟩ := h4 a ha hc
  subst ha
  refine ⟨q1, Nat.lt_of_lt_of_le q2 hf.size, fun j hj => ?_⟩
  rw [hf.cell (p := ⟨a.block, a.off + j, none⟩) q2 (hv a.block rfl)]
  exact q3 j hj

theorem Sl.fr0 {w w' : World} {v : Value} {xs : List Value} (h : Sl w v xs) (hf : Fr [] w w') : Sl w' v xs := h.fr hf (by simp)

/-- The value, written out; an element's place. -/
theorem Sl.out {w : World} {v : Value} {xs : List Value} (h : Sl w v xs) : ∃ ao cap, v = .slice ao xs.length cap ∧ xs.length ≤ cap ∧ cap ≤ 9223372036854775807 ∧
    ∀ j, j < xs.length → ∃ b o, ao = some ⟨b, o, none⟩ ∧ b < w.heap.size ∧ ∀ i, i < xs.length → w.cell? ⟨b, o + i, none⟩ = xs[i]? := by
  obtain ⟨ao, cap, rfl, h1, h2, h3, h4⟩ := h
  refine ⟨ao, cap, rfl, h1, h2, fun j hj => ?_⟩
  cases ao with
  | none => have := h3 rfl; omega
  | some a =>
    obtain ⟨q1, q2, q3⟩ := h4 a rfl (by omega)
    obtain ⟨b, o, s⟩ := a
    dsimp only at q1 q2 q3
    subst q1
    exact ⟨b, o, rfl, q2, q3⟩

theorem Sl.len {w : World} {ao : Option Addr} {n c : Nat} {xs : List Value} (h : Sl w (.slice ao n c) xs) : n = xs.length := by
  obtain ⟨_, _, e, _⟩ := h
  injection e

theorem Sl.caps {w : World} {ao : Option Addr} {n c : Nat} {xs : List Value} (h : Sl w (.slice ao n c) xs) : n ≤ c ∧ c ≤ 9223372036854775807 := by
  obtain ⟨_, _, e, h1, h2, _⟩ := h
  injection e with e1 e2 e3
  omega

/-- A cut of a slice. -/
theorem Sl.cut {w : World} {ao : Option Addr} {n cap : Nat} {xs : List Value} (h : Sl w (.slice ao n cap) xs) (l m : Nat) (hl : l ≤ m) (hm : m ≤ n) :
    Sl w (.slice (if cap = l then ao else ao.map (·.add l)) (m - l) (cap - l)) ((xs.drop l).take (m - l)) := by
  obtain ⟨ao', cap', e, h1, h2, h3, h4⟩ := h
  injection e with e1 e2 e3
  subst e1 e2 e3
  have hlen : ((xs.drop l).take (m - l)).length = m - l := by simp; omega
  refine ⟨_, cap - l, by rw [hlen], by omega, by omega, ?_, ?_⟩
  · intro hn
    by_cases hc : cap = l
    · omega
    · rw [if_neg hc] at hn
      have : ao = none := by cases ao <;> simp_all
      have := h3 this
      omega
  · intro a ha hc
    rw [if_neg (by omega)] at ha
    cases ao with
    | none => simp at ha
    | some a' =>
      simp only [Option.map_some, Option.some.injEq] at ha
      obtain ⟨q1, q2, q3⟩ := h4 a' rfl (by omega)
      obtain ⟨b, o, s⟩ := a'
      dsimp only at q1 q2 q3
      subst q1
      have hadd : (⟨b, o, none⟩ : Addr).add l = ⟨b, o + l, none⟩ := by unfold Addr.add; split <;> simp_all
      rw [hadd] at ha
      subst ha
      refine ⟨rfl, q2, fun j hj => ?_⟩
      rw [hlen] at hj
      dsimp only
      rw [show o + l + j = o + (l + j) from by omega, q3 (l + j) (by omega), List.getElem?_take, if_pos hj, List.getElem?_drop]

/-- A cut from the beginning. -/
theorem Sl.first {w : World} {ao : Option Addr} {n cap : Nat} {xs : List Value} (h : Sl w (.slice ao n cap) xs) (m : Nat) (hm : m ≤ n) :
    Sl w (.slice ao m cap) (xs.take m) := by
  obtain ⟨ao', cap', e, h1, h2, h3, h4⟩ := h
  injection e with e1 e2 e3
  subst e1 e2 e3
  have hlen : (xs.take m).length = m := by simp; omega
  refine ⟨ao, cap, by rw [hlen], by omega, by omega, h3, fun a ha hc => ?_⟩
  obtain ⟨q1, q2, q3⟩ := h4 a ha hc
  refine ⟨q1, q2, fun j hj => ?_⟩
  rw [hlen] at hj
  rw [q3 j (by omega), List.getElem?_take, if_pos hj]

/-- What the call owns reads as it is. -/
theorem Sl.of_own {w : World} {base e : Nat} {v : Value} {n : Nat} {xs : List Value} (h : w.ownsRow base e 1 v n xs) : Sl w v xs := by
  obtain ⟨hl, h⟩ := h
  have hl' : xs.length = n := by omega
  rcases h with ⟨rfl, hn⟩ | ⟨g, cap, cur, rfl, hb, hg, hnc, hcm, hcs, ht⟩
  · have : xs = [] := List.eq_nil_of_length_eq_zero (by omega)
    subst this
    exact Sl.nil w
  · refine ⟨some ⟨g, 0, none⟩, cap, by rw [hl'], by omega, by unfold maxLen at hcm; omega, by simp, fun a ha hc => ?_⟩
    obtain rfl := (Option.some.inj ha).symm
    refine ⟨rfl, (Array.getElem?_eq_some_iff.1 hg).1, fun j hj => ?_⟩
    dsimp only
    rw [Go.Joins.cell_of_block hg, ← ht, List.getElem?_take, if_pos (by omega)]
    simp

theorem own_fr {w w' : World} {base e : Nat} {v : Value} {n : Nat} {xs : List Value} {S : List Nat} (h : w.ownsRow base e 1 v n xs) (hf : Fr S w w') (hv : ∀ k, v.ownBlock = some k → k ∉ S) : w'.ownsRow base e 1 v n xs := by
  refine ⟨h.1, ?_⟩
  rcases h.2 with hn | ⟨g, cap, cur, rfl, hb, hgg, rest⟩
  · exact .inl hn
  · refine .inr ⟨g, cap, cur, rfl, hb, ?_, rest⟩
    rw [hf.block g (Array.getElem?_eq_some_iff.1 hgg).1 (hv g rfl)]
    exact hgg

theorem own_mono {w : World} {base base' e : Nat} {v : Value} {n : Nat} {xs : List Value} (h : w.ownsRow base e 1 v n xs) (hb : base' ≤ base) : w.ownsRow base' e 1 v n xs := by
  refine ⟨h.1, ?_⟩
  rcases h.2 with hn | ⟨g, cap, cur, rfl, hb', rest⟩
  · exact .inl hn
  · exact .inr ⟨g, cap, cur, rfl, by omega, rest⟩

/-- An owned slice, written out. -/
theorem own_out {w : World} {base e : Nat} {v : Value} {n : Nat} {xs : List Value} (h : w.ownsRow base e 1 v n xs) :
    ∃ ao cap, v = .slice ao n cap ∧ n ≤ cap ∧ cap ≤ 9223372036854775807 ∧ (0 < n → ∃ g, ao = some ⟨g, 0, none⟩ ∧ base ≤ g ∧ g < w.heap.size) := by
  rcases h.2 with ⟨rfl, rfl⟩ | ⟨g, cap, cur, rfl, hb, hg, hnc, hcm, _⟩
  · exact ⟨none, 0, rfl, by simp, by simp, by simp⟩
  · exact ⟨_, cap, rfl, hnc, by unfold maxLen at hcm; omega, fun _ => ⟨g, rfl, hb, (Array.getElem?_eq_some_iff.1 hg).1⟩⟩

/-- The facts on a slice type of one-cell elements. -/
structure SlTy (P : Program) (t e : TypeId) (z : Value) (bytes : Nat) : Prop where
  under : P.underlying t = some (.slice e)
  info : ∃ i, P.info? e = some i ∧ i.zero = some z ∧ i.size = 1 ∧ i.bytes = bytes
  one : z.cells.size = 1

/-- 'append(v, y...)': v is the call's own, y reads as ys. -/
theorem wpList_append_sl {P : Program} {t e : TypeId} {z : Value} {bytes : Nat} (T : SlTy P t e z bytes) {w : World} {ops : Array Oper} {rest : List Oper} {o : Oper} {a : Act} {Q : Exit → Act → World → Prop} (hgd : o.guard = none) (s x : Operand)
    (ho : o.op = .call { callee := .builtin .append, args := #[s, x], argTypes := #[t, t] })
    (base : Nat) (v : Value) (n : Nat) (xs : List Value) (hs : a.eval s = v) (hown : w.ownsRow base e 1 v n xs)
    (y : Value) (ys : List Value) (hx : a.eval x = y) (hy : Sl w y ys) (h1 : ∀ u ∈ ys, u.oneCell' = true)
    (hm : n + ys.length ≤ 9223372036854775807) (hbytes : (n + ys.length) * bytes ≤ 140737488355328) (hbase : base ≤ w.heap.size)
    (h : ∀ v' w', w'.ownsRow base e 1 v' (n + ys.length) (xs ++ ys) → w.grownBy w' v.ownBlock → wpList P ops Q rest (a.put o.dst v') w') : wpList P ops Q (o :: rest) a w := by
  obtain ⟨i, hi, hz, hsz, hby⟩ := T.info
  obtain ⟨ao, cap, rfl, c1, c2, c3, c4⟩ := hy
  cases ao with
  | none =>
    have := c3 rfl
    subst this
    have hys : ys = [] := List.eq_nil_of_length_eq_zero (by omega)
    subst hys
    refine wpList_append_own_none hgd s x t ho base e i 1 T.under (by simpa using hi) v n xs hs hown hx (h v w (by simpa using hown) (World.grownBy.refl w _))
  | some ad =>
    refine wpList_append_own w hgd s x t ho base e i z 1 bytes T.under hi hz hsz hby T.one (by decide) v n xs hs hown ad ys.length cap ys hx (by simp) ?_ h1 (by unfold maxLen; omega) hbytes hbase (fun v' w' g1 g2 _ => h v' w' g1 g2)
    intro j u hu
    have hj : j < ys.length := (List.getElem?_eq_some_iff.1 hu).1
    obtain ⟨q1, q2, q3⟩ := c4 ad rfl (by omega)
    obtain ⟨b, of, sp⟩ := ad
    dsimp only at q1 q2 q3
    subst q1
    have hadd : (⟨b, of, none⟩ : Addr).add j = ⟨b, of + j, none⟩ := by unfold Addr.add; split <;> simp_all
    rw [hadd, q3 j hj, hu]

/-- The same, as one step of a region that draws its order. -/
theorem step_append_sl {P : Program} {t e : TypeId} {z : Value} {bytes : Nat} (T : SlTy P t e z bytes) {w : World} {ops : Array Oper} {o : Oper} {a : Act} {K : Act → World → Prop} {Q : Exit → Act → World → Prop} {E : Prop} (hgd : o.guard = none) (s x : Operand)
    (ho : o.op = .call { callee := .builtin .append, args := #[s, x], argTypes := #[t, t] })
    (base : Nat) (v : Value) (n : Nat) (xs : List Value) (hs : a.eval s = v) (hown : w.ownsRow base e 1 v n xs)
    (y : Value) (ys : List Value) (hx : a.eval x = y) (hy : Sl w y ys) (h1 : ∀ u ∈ ys, u.oneCell' = true)
    (hm : n + ys.length ≤ 9223372036854775807) (hbytes : (n + ys.length) * bytes ≤ 140737488355328) (hbase : base ≤ w.heap.size)
    (h : ∀ v' w', w'.ownsRow base e 1 v' (n + ys.length) (xs ++ ys) → w.grownBy w' v.ownBlock → K (a.put o.dst v') w') :
    if Region.wanted o (yielded ops a.tmps) = true then Oper.wp P o a w K Q else E := by
  have hw : Region.wanted o (yielded ops a.tmps) = true := by simp [Region.wanted, hgd]
  rw [if_pos hw]
  obtain ⟨i, hi, hz, hsz, hby⟩ := T.info
  obtain ⟨ao, cap, rfl, c1, c2, c3, c4⟩ := hy
  cases ao with
  | none =>
    have := c3 rfl
    subst this
    have hys : ys = [] := List.eq_nil_of_length_eq_zero (by omega)
    subst hys
    have hrun := run_append_owned_none (P := P) (w := w) base t o.type e i 1 T.under (by simpa using hi) v n xs hown
    unfold Oper.wp
    simp [execOp, ho, resolve, invoke, builtin, hs, hx, hrun, Result.andThen]
    exact h v w (by simpa using hown) (World.grownBy.refl w _)
  | some ad =>
    refine wp_append_own w s x t ho base e i z 1 bytes T.under hi hz hsz hby T.one (by decide) v n xs hs hown ad ys.length cap ys hx (by simp) ?_ h1 (by unfold maxLen; omega) hbytes hbase (fun v' w' g1 g2 _ => h v' w' g1 g2)
    intro j u hu
    have hj : j < ys.length := (List.getElem?_eq_some_iff.1 hu).1
    obtain ⟨q1, q2, q3⟩ := c4 ad rfl (by omega)
    obtain ⟨b, of, sp⟩ := ad
    dsimp only at q1 q2 q3
    subst q1
    have hadd : (⟨b, of, none⟩ : Addr).add j = ⟨b, of + j, none⟩ := by unfold Addr.add; split <;> simp_all
    rw [hadd, q3 j hj, hu]

/-- The empty literal '[]T{}' is owned. -/
theorem own_empty (w : World) (e : TypeId) : (w.alloc (.cells #[] e)).ownsRow w.heap.size e 1 (.slice (some ⟨w.heap.size, 0, none⟩) 0 0) 0 [] :=
  ⟨rfl, .inr ⟨w.heap.size, 0, #[], rfl, Nat.le_refl _, heap_alloc_new w _, Nat.le_refl _, by simp [maxLen], rfl, rfl⟩⟩

/-- A literal that has just been laid. -/
theorem sl_lit (w : World) (e : TypeId) (l : List Value) (n : Nat) (hn : n = l.length) (hm : n ≤ 9223372036854775807) : Sl (w.alloc (.cells l.toArray e)) (.slice (some ⟨w.heap.size, 0, none⟩) n n) l :=
  ⟨_, n, by rw [hn], by omega, by omega, by simp, fun a ha _ => by
    obtain rfl := (Option.some.inj ha).symm
    exact ⟨rfl, by simp, fun j hj => by simp⟩⟩

/-- A literal of one element, as 'append(x, y)' lays it. -/
theorem sl_one (w : World) (e : TypeId) (u : Value) : Sl (w.alloc (.cells #[u] e)) (.slice (some ⟨w.heap.size, 0, none⟩) 1 1) [u] :=
  ⟨_, 1, rfl, by simp, by simp, by simp, fun a ha _ => by
    obtain rfl := (Option.some.inj ha).symm
    refine ⟨rfl, by simp, fun j hj => ?_⟩
    have : j = 0 := by simp at hj; omega
    subst this
    simp⟩

/-- 'append([]T{}, y...)': a copy. -/
theorem wpList_append_new {P : Program} {t e : TypeId} {z : Value} {bytes : Nat} (T : SlTy P t e z bytes) {w : World} {ops : Array Oper} {rest : List Oper} {o : Oper} {a : Act} {Q : Exit → Act → World → Prop} (hgd : o.guard = none) (s x : Operand)
    (ho : o.op = .call { callee := .builtin .append, args := #[s, x], argTypes := #[t, t] })
    (hs : a.eval s = .slice (some ⟨w.heap.size, 0, none⟩) 0 0)
    (y : Value) (ys : List Value) (hx : a.eval x = y) (hy : Sl w y ys) (h1 : ∀ u ∈ ys, u.oneCell' = true)
    (hm : ys.length ≤ 9223372036854775807) (hbytes : ys.length * bytes ≤ 140737488355328)
    (h : ∀ v' w', w'.ownsRow w.heap.size e 1 v' ys.length ys → Fr [] w w' → wpList P ops Q rest (a.put o.dst v') w') : wpList P ops Q (o :: rest) a (w.alloc (.cells #[] e)) := by
  refine wpList_append_sl T hgd s x ho w.heap.size _ 0 [] hs (own_empty w e) y ys hx (hy.fr0 ((Fr.refl _ _).alloc _)) h1 (by omega) (by rw [Nat.zero_add]; exact hbytes) (by simp) (fun v' w' g1 g2 => h v' w' ?_ ?_)
  · rw [Nat.zero_add, List.nil_append] at g1; exact g1
  · exact ((Fr.refl _ _).alloc _).grown g2 (fun k hk => .inr (by simp [Value.ownBlock] at hk; omega))

/-- 'append(v, u)': one element more behind what the call owns. -/
theorem wpList_append_one {P : Program} {t e : TypeId} {z : Value} {bytes : Nat} (T : SlTy P t e z bytes) {w : World} {ops : Array Oper} {rest : List Oper} {o : Oper} {a : Act} {Q : Exit → Act → World → Prop} (hgd : o.guard = none) (s x : Operand)
    (ho : o.op = .call { callee := .builtin .append, args := #[s, x], argTypes := #[t, t] })
    {w0 : World} {S : List Nat} (F : Fr S w0 w)
    (v : Value) (n : Nat) (xs : List Value) (hs : a.eval s = v) (hown : w.ownsRow w0.heap.size e 1 v n xs)
    (u : Value) (hx : a.eval x = .slice (some ⟨w.heap.size, 0, none⟩) 1 1) (h1 : u.oneCell' = true)
    (hm : n + 1 ≤ 9223372036854775807) (hbytes : (n + 1) * bytes ≤ 140737488355328)
    (h : ∀ v' w', w'.ownsRow w0.heap.size e 1 v' (n + 1) (xs ++ [u]) → Fr S w0 w' → wpList P ops Q rest (a.put o.dst v') w') : wpList P ops Q (o :: rest) a (w.alloc (.cells #[u] e)) := by
  refine wpList_append_sl T hgd s x ho w0.heap.size v n xs hs (hown.alloc _) _ [u] hx (sl_one w e u) (by intro u' hu; simp at hu; subst hu; exact h1) (by simpa using hm) (by simpa using hbytes) (by have := F.size; simp; omega) (fun v' w' g1 g2 => h v' w' g1 ?_)
  exact (F.alloc _).grown g2 (fun k hk => .inr (hown.lt k hk).1)

/-- 'append(v, y...)': behind what the call owns, in a frame. -/
theorem wpList_append_more {P : Program} {t e : TypeId} {z : Value} {bytes : Nat} (T : SlTy P t e z bytes) {w : World} {ops : Array Oper} {rest : List Oper} {o : Oper} {a : Act} {Q : Exit → Act → World → Prop} (hgd : o.guard = none) (s x : Operand)
    (ho : o.op = .call { callee := .builtin .append, args := #[s, x], argTypes := #[t, t] })
    {w0 : World} {S : List Nat} (F : Fr S w0 w)
    (v : Value) (n : Nat) (xs : List Value) (hs : a.eval s = v) (hown : w.ownsRow w0.heap.size e 1 v n xs)
    (y : Value) (ys : List Value) (hx : a.eval x = y) (hy : Sl w y ys) (h1 : ∀ u ∈ ys, u.oneCell' = true)
    (hm : n + ys.length ≤ 9223372036854775807) (hbytes : (n + ys.length) * bytes ≤ 140737488355328)
    (h : ∀ v' w', w'.ownsRow w0.heap.size e 1 v' (n + ys.length) (xs ++ ys) → Fr S w0 w' → Fr v.ownBlock.toList w w' → wpList P ops Q rest (a.put o.dst v') w') : wpList P ops Q (o :: rest) a w :=
  wpList_append_sl T hgd s x ho w0.heap.size v n xs hs hown y ys hx hy h1 hm hbytes F.size
    (fun v' w' g1 g2 => h v' w' g1 (F.grown g2 (fun k hk => .inr (hown.lt k hk).1)) ((Fr.refl _ _).grown g2 (fun k hk => .inl (by simpa using hk))))

/-- Bytes and bits as cells. -/
def bv (l : List UInt8) : List Value := l.map fun x => .int .u8 x.toNat
def tv (l : List Bool) : List Value := l.map .bool

def u64v (l : List UInt64) : List Value := l.map fun x => .int .u64 x.toNat
theorem u64v_length (l : List UInt64) : (u64v l).length = l.length := by simp [u64v]
theorem u64v_get (l : List UInt64) (j : Nat) (x : UInt64) (h : l[j]? = some x) : (u64v l)[j]? = some (.int .u64 x.toNat) := by simp [u64v, h]

@[simp] theorem bv_nil : bv [] = [] := rfl
@[simp] theorem tv_nil : tv [] = [] := rfl
theorem bv_length (l : List UInt8) : (bv l).length = l.length := by simp [bv]
theorem tv_length (l : List Bool) : (tv l).length = l.length := by simp [tv]
theorem bv_append (a b : List UInt8) : bv (a ++ b) = bv a ++ bv b := by simp [bv]
theorem tv_append (a b : List Bool) : tv (a ++ b) = tv a ++ tv b := by simp [tv]
theorem bv_take (a : List UInt8) (n : Nat) : bv (a.take n) = (bv a).take n := by simp [bv, List.map_take]
theorem bv_drop (a : List UInt8) (n : Nat) : bv (a.drop n) = (bv a).drop n := by simp [bv, List.map_drop]
theorem bv_one (l : List UInt8) : ∀ u ∈ bv l, u.oneCell' = true := by intro u hu; simp [bv] at hu; obtain ⟨x, _, rfl⟩ := hu; rfl
theorem tv_one (l : List Bool) : ∀ u ∈ tv l, u.oneCell' = true := by intro u hu; simp [tv] at hu; rcases hu with ⟨_, rfl⟩ | ⟨_, rfl⟩ <;> rfl

theorem bv_get (l : List UInt8) (j : Nat) (x : UInt8) (h : l[j]? = some x) : (bv l)[j]? = some (.int .u8 x.toNat) := by simp [bv, h]
theorem tv_get (l : List Bool) (j : Nat) (x : Bool) (h : l[j]? = some x) : (tv l)[j]? = some (.bool x) := by simp [tv, h]

theorem some_get {α : Type} (l : List α) (j : Nat) (h : j < l.length) : ∃ x, l[j]? = some x := ⟨l[j], by simp [h]⟩

theorem Same.cell {w w' : World} (h : Same w w') (a : Addr) : w'.cell? a = w.cell? a := by obtain ⟨n, rfl⟩ := h; rfl
theorem Same.frozen {w w' : World} (h : Same w w') (a : Addr) : w'.frozen? a = w.frozen? a := by obtain ⟨n, rfl⟩ := h; rfl

end Go.Proofs.Ythdfjbliafdchaa
/- What a cursor over bytes comes to, in plain Lean. No condition. -/
namespace Go.Proofs.Ythdfjbliafdchaa

/-- A cursor: the bytes, how many were read, why it ended (0: it has not). -/
structure Cur where
  b : List UInt8
  at_ : Nat
  code : Nat
  deriving DecidableEq

/-- Bytes, the least first, as a number. -/
def leNat : List UInt8 → Nat
  | [] => 0
  | x :: l => x.toNat + 256 * leNat l

theorem leNat_snoc (l : List UInt8) (x : UInt8) : leNat (l ++ [x]) = leNat l + 256 ^ l.length * x.toNat := by
  induction l with
  | nil => simp [leNat]
  | cons y l ih =>
    simp only [List.cons_append, leNat, ih, List.length_cons, Nat.pow_succ]
    have : 256 * (256 ^ l.length * x.toNat) = 256 ^ l.length * 256 * x.toNat := by rw [Nat.mul_comm (256 ^ l.length) 256, Nat.mul_assoc]
    omega

theorem leNat_lt (l : List UInt8) : leNat l < 256 ^ l.length := by
  induction l with
  | nil => simp [leNat]
  | cons y l ih =>
    have := y.toNat_lt
    simp only [leNat, List.length_cons, Nat.pow_succ]
    omega

theorem take_succ' {α : Type} (l : List α) (k : Nat) (x : α) (h : l[k]? = some x) : l.take (k + 1) = l.take k ++ [x] := by
  rw [List.take_add_one, h]; rfl

theorem take_eq_step {α : Type} (a b : List α) (k : Nat) (x y : α) (hx : a[k]? = some x) (hy : b[k]? = some y) (h : a.take k = b.take k) (e : x = y) : a.take (k + 1) = b.take (k + 1) := by
  rw [take_succ' a k x hx, take_succ' b k y hy, h, e]

theorem ne_at {α : Type} (a b : List α) (k : Nat) (x y : α) (hx : a[k]? = some x) (hy : b[k]? = some y) (e : x ≠ y) : a ≠ b := by
  rintro rfl
  rw [hx] at hy
  exact e (Option.some.inj hy)

theorem leNat_take (l : List UInt8) (k : Nat) (x : UInt8) (h : l[k]? = some x) : leNat (l.take (k + 1)) = leNat (l.take k) + 256 ^ k * x.toNat := by
  rw [take_succ' l k x h, leNat_snoc]
  have : (l.take k).length = k := by
    have := (List.getElem?_eq_some_iff.1 h).1
    simp; omega
  rw [this]

namespace Cur
def live (c : Cur) : List UInt8 := if c.code = 0 then c.b else c.b.take c.at_
def left (c : Cur) : Nat := if c.code = 0 then c.b.length - c.at_ else 0
def fail (c : Cur) (k : Nat) : Cur := { c with code := if c.code = 0 then k else c.code }
def take (c : Cur) (n : Nat) : List UInt8 × Cur :=
  if c.code ≠ 0 ∨ c.left < n then ([], c.fail 3) else ((c.b.drop c.at_).take n, { c with at_ := c.at_ + n })
def sized (n : Int) : Bool := n == 1 || n == 2 || n == 4 || n == 8
def num (c : Cur) (n : Int) : Nat × Cur :=
  if sized n then (leNat (c.take n.toNat).1, (c.take n.toNat).2) else (0, c.fail 3)

/-- How many leading ones a byte has. -/
def ones (x : Nat) : Nat := if x < 128 then 0 else if x < 192 then 1 else if x < 224 then 2 else if x < 240 then 3 else if x < 248 then 4 else if x < 252 then 5 else if x < 254 then 6 else if x < 255 then 7 else 8
theorem ones_le (x : Nat) : ones x ≤ 8 := by unfold ones; repeat' split
                                             all_goals omega
def head (c : Cur) : Nat := (c.b.getD c.at_ 0).toNat
def number (c : Cur) : Nat × Cur :=
  if c.left < 1 + ones c.head then (0, c.fail 3)
  else (leNat ((c.b.drop (c.at_ + 1)).take (ones c.head)) + 256 ^ ones c.head * (if ones c.head < 7 then c.head % 2 ^ (7 - ones c.head) else 0), { c with at_ := c.at_ + 1 + ones c.head })

theorem live_left (c : Cur) (h : c.at_ ≤ c.b.length) : c.live.length = c.at_ + c.left := by
  unfold live left
  split
  · omega
  · simp; omega
end Cur

theorem Cur.take_length (c : Cur) (n : Nat) : (c.take n).1.length ≤ c.b.length := by
  unfold Cur.take; split <;> simp; omega

theorem Cur.take_b (c : Cur) (n : Nat) : (c.take n).2.b = c.b := by
  unfold Cur.take; split <;> rfl
end Go.Proofs.Ythdfjbliafdchaa
/- Arithmetic on bits, in plain Lean. No condition. -/
namespace Go.Proofs.Ythdfjbliafdchaa
open Go.RowKit

theorem pow256 (k : Nat) : 256 ^ k = 2 ^ (8 * k) := by rw [Nat.pow_mul]

theorem pow256_le {k m : Nat} (h : k ≤ m) : 256 ^ k ≤ 256 ^ m := Nat.pow_le_pow_right (by decide) h

theorem wrap_u64_nat (a : Nat) (h : a < 18446744073709551616) : IntKind.u64.wrap (a : Int) = a := by
  rw [IntKind.wrap_u64]; omega

theorem or_high (s x k : Nat) (hs : s < 2 ^ k) : s ||| x * 2 ^ k = s + 2 ^ k * x := by
  rw [Nat.or_comm, Nat.mul_comm, ← Nat.two_pow_add_eq_or_of_lt hs, Nat.add_comm]

theorem byte_high (k x : Nat) (hk : k < 8) (hx : x < 256) : 256 ^ k * x < 18446744073709551616 ∧ x * 2 ^ (8 * k) < 18446744073709551616 := by
  have h1 : 256 ^ k * 256 ≤ 256 ^ 8 := by rw [← Nat.pow_succ]; exact pow256_le (by omega)
  have h2 : 256 ^ k * x < 256 ^ k * 256 := Nat.mul_lt_mul_of_pos_left hx (Nat.pow_pos (by decide))
  have h3 : (256 : Nat) ^ 8 = 18446744073709551616 := by decide
  rw [← pow256, Nat.mul_comm x]
  omega

/-- One step of 'v |= uint64(x) << (8*i)'. -/
theorem least_step (s k : Nat) (x : UInt8) (hk : k < 8) (hs : s < 256 ^ k) :
    bits BinOp.or IntKind.u64 (s : Int) (IntKind.u64.wrap (IntKind.u64.wrap (x.toNat : Int) * 2 ^ (8 * k))) = ((s + 256 ^ k * x.toNat : Nat) : Int) := by
  have hx := x.toNat_lt
  have hb := byte_high k x.toNat hk (by omega)
  have h1 : 256 ^ k ≤ 256 ^ 8 := pow256_le (by omega)
  have h3 : (256 : Nat) ^ 8 = 18446744073709551616 := by decide
  rw [wrap_u64_nat _ (by omega)]
  have e : ((x.toNat : Int) * 2 ^ (8 * k)) = ((x.toNat * 2 ^ (8 * k) : Nat) : Int) := by push_cast; rfl
  rw [e, wrap_u64_nat _ hb.2, bits_or_u64_nat _ _ (by omega) hb.2, or_high _ _ _ (by rw [← pow256]; exact hs), pow256]

theorem ones_bitLen (x : Nat) (hx : x < 256) : 8 - (Lib.bitLen (255 - x) : Int) = (Cur.ones x : Int) := by
  have h : ∀ y : Fin 256, 8 - (Lib.bitLen (255 - y.val) : Int) = (Cur.ones y.val : Int) := by decide +kernel
  exact h ⟨x, hx⟩

theorem xor_u8 (x : Nat) (hx : x < 256) : bits BinOp.xor IntKind.u8 IntKind.u8.max (x : Int) = ((255 - x : Nat) : Int) := by
  have h : ∀ y : Fin 256, bits BinOp.xor IntKind.u8 IntKind.u8.max (y.val : Int) = ((255 - y.val : Nat) : Int) := by decide +kernel
  exact h ⟨x, hx⟩

theorem mask_u8 (k x : Nat) (hk : k < 8) (hx : x < 256) : bits BinOp.and IntKind.u8 (x : Int) (127 / 2 ^ k) = ((x % 2 ^ (7 - k) : Nat) : Int) := by
  have h : ∀ (j : Fin 8) (y : Fin 256), bits BinOp.and IntKind.u8 (y.val : Int) (127 / 2 ^ j.val) = ((y.val % 2 ^ (7 - j.val) : Nat) : Int) := by decide +kernel
  exact h ⟨k, hk⟩ ⟨x, hx⟩
end Go.Proofs.Ythdfjbliafdchaa
/- What is put behind bytes, in plain Lean. No condition. -/
namespace Go.Proofs.Ythdfjbliafdchaa
open Go.RowKit

/-- A number as k bytes, the least first. -/
def leBytes : Nat → Nat → List UInt8
  | 0, _ => []
  | k + 1, v => UInt8.ofNat v :: leBytes k (v / 256)

theorem leBytes_length (k v : Nat) : (leBytes k v).length = k := by
  induction k generalizing v with
  | zero => rfl
  | succ k ih => simp [leBytes, ih]

theorem leBytes_snoc (k v : Nat) : leBytes (k + 1) v = leBytes k v ++ [UInt8.ofNat (v / 256 ^ k)] := by
  induction k generalizing v with
  | zero => simp [leBytes]
  | succ k ih =>
    rw [leBytes, ih, leBytes, Nat.div_div_eq_div_mul, Nat.pow_succ, Nat.mul_comm 256]
    rfl

theorem leNat_leBytes (k v : Nat) (h : v < 256 ^ k) : leNat (leBytes k v) = v := by
  induction k generalizing v with
  | zero => simp at h; subst h; rfl
  | succ k ih =>
    have h2 : v / 256 < 256 ^ k := by rw [Nat.div_lt_iff_lt_mul (by decide), ← Nat.pow_succ]; exact h
    simp only [leBytes, leNat, ih _ h2]
    have : (UInt8.ofNat v).toNat = v % 256 := by simp
    omega

theorem leNat_leBytes_mod (k v : Nat) : leNat (leBytes k v) = v % 256 ^ k := by
  induction k generalizing v with
  | zero => simp [leBytes, leNat, Nat.mod_one]
  | succ k ih =>
    simp only [leBytes, leNat, ih]
    have : (UInt8.ofNat v).toNat = v % 256 := by simp
    rw [this, Nat.pow_succ, Nat.mul_comm (256 ^ k), Nat.mod_mul]

/-- How many bytes stand behind a short number's first one. -/
def extra (v : Nat) : Nat := if v < 128 then 0 else if v < 16384 then 1 else if v < 2097152 then 2 else if v < 268435456 then 3 else if v < 34359738368 then 4 else if v < 4398046511104 then 5 else if v < 562949953421312 then 6 else if v < 72057594037927936 then 7 else 8

theorem extra_le (v : Nat) : extra v ≤ 8 := by
  unfold extra
  repeat' split
  all_goals omega

theorem extra_lt (v k : Nat) (h : k < extra v) : k < 8 ∧ v / 2 ^ (7 * k + 7) ≠ 0 := by
  have h8 := extra_le v
  refine ⟨by omega, ?_⟩
  have hk : k = 0 ∨ k = 1 ∨ k = 2 ∨ k = 3 ∨ k = 4 ∨ k = 5 ∨ k = 6 ∨ k = 7 := by omega
  rcases hk with rfl | rfl | rfl | rfl | rfl | rfl | rfl | rfl <;> simp only [Nat.reduceMul, Nat.reduceAdd, Nat.reducePow] <;> unfold extra at h <;> repeat' split at h
  all_goals omega

theorem extra_at (v : Nat) (h : extra v < 8) : v / 2 ^ (7 * extra v + 7) = 0 := by
  unfold extra at *
  repeat' split
  all_goals first | (simp only [Nat.reduceMul, Nat.reduceAdd, Nat.reducePow]; omega) | (exfalso; simp_all)

/-- A short number's first byte. -/
def firstByte (v : Nat) : UInt8 := UInt8.ofNat (65280 / 2 ^ extra v % 256 + if extra v < 7 then v / 256 ^ extra v else 0)

def putNumber (b : List UInt8) (v : Nat) : List UInt8 := b ++ firstByte v :: leBytes (extra v) v

def put (b : List UInt8) (size : Int) (v : Nat) : List UInt8 := if Cur.sized size then b ++ leBytes size.toNat v else b

theorem putNumber_length (b : List UInt8) (v : Nat) : (putNumber b v).length = b.length + 1 + extra v := by
  simp [putNumber, leBytes_length]; omega

theorem shr_ne (v m : Nat) (h : v / 2 ^ m ≠ 0) : ((v : Int) / 2 ^ m != 0) = true := by
  rw [bne_iff_ne]; intro e; apply h
  have : ((v / 2 ^ m : Nat) : Int) = 0 := by push_cast; exact e
  omega

theorem shr_eq (v m : Nat) (h : v / 2 ^ m = 0) : ((v : Int) / 2 ^ m != 0) = false := by
  have : ((v / 2 ^ m : Nat) : Int) = 0 := by omega
  push_cast at this
  simp [this]

theorem or_first (k y : Nat) (hk : k < 7) (hy : y < 2 ^ (7 - k)) : bits BinOp.or IntKind.u8 (65280 / 2 ^ k % 256) (y : Int) = ((65280 / 2 ^ k % 256 + y : Nat) : Int) := by
  have h : ∀ (j : Fin 7) (z : Fin 128), z.val < 2 ^ (7 - j.val) → bits BinOp.or IntKind.u8 (65280 / 2 ^ j.val % 256) (z.val : Int) = ((65280 / 2 ^ j.val % 256 + z.val : Nat) : Int) := by decide +kernel
  have h7 : 2 ^ (7 - k) ≤ 2 ^ 7 := Nat.pow_le_pow_right (by decide) (by omega)
  exact h ⟨k, hk⟩ ⟨y, by omega⟩ hy

theorem first_small (k y : Nat) (hk : k < 7) (hy : y < 2 ^ (7 - k)) : 65280 / 2 ^ k % 256 + y < 256 := by
  have h : ∀ (j : Fin 7) (z : Fin 128), z.val < 2 ^ (7 - j.val) → 65280 / 2 ^ j.val % 256 + z.val < 256 := by decide +kernel
  have h7 : 2 ^ (7 - k) ≤ 2 ^ 7 := Nat.pow_le_pow_right (by decide) (by omega)
  exact h ⟨k, hk⟩ ⟨y, by omega⟩ hy

theorem first_ge (v k : Nat) (hk : k = extra v) (h7 : ¬ k < 7) : (65280 / 2 ^ k % 256 : Int) = ((firstByte v).toNat : Int) := by
  unfold firstByte
  rw [← hk, if_neg h7]
  have : 65280 / 2 ^ k % 256 < 256 := Nat.mod_lt _ (by decide)
  simp

theorem first_lt (v k : Nat) (hk : k = extra v) (h7 : k < 7) : bits BinOp.or IntKind.u8 (65280 / 2 ^ k % 256) ((v : Int) / 2 ^ (8 * k) % 256) = ((firstByte v).toNat : Int) := by
  have h0 := extra_at v (by omega)
  rw [← hk] at h0
  have hlt : v / 2 ^ (8 * k) < 2 ^ (7 - k) := by
    have h1 : v < 2 ^ (7 * k + 7) := (Nat.div_eq_zero_iff_lt (Nat.pow_pos (by decide))).1 h0
    rw [Nat.div_lt_iff_lt_mul (Nat.pow_pos (by decide)), ← Nat.pow_add, show 7 - k + 8 * k = 7 * k + 7 from by omega]
    exact h1
  have hs := first_small k _ h7 hlt
  have e : ((v : Int) / 2 ^ (8 * k) % 256) = ((v / 2 ^ (8 * k) : Nat) : Int) := by
    have : ((v / 2 ^ (8 * k) % 256 : Nat) : Int) = ((v / 2 ^ (8 * k) : Nat) : Int) := by rw [Nat.mod_eq_of_lt]; omega
    rw [← this, Int.natCast_emod, Int.natCast_ediv, Int.natCast_pow]; rfl
  rw [e, or_first k _ h7 hlt]
  unfold firstByte
  rw [← hk, if_pos h7, pow256]
  congr 1
  simp
  omega
end Go.Proofs.Ythdfjbliafdchaa
/- A short number that was read, put again: the plain law. No condition. -/
namespace Go.Proofs.Ythdfjbliafdchaa
open Go.RowKit

theorem leBytes_leNat (l : List UInt8) (y : Nat) : leBytes l.length (leNat l + 256 ^ l.length * y) = l := by
  induction l with
  | nil => rfl
  | cons x l ih =>
    have hx := x.toNat_lt
    have e : leNat (x :: l) + 256 ^ (x :: l).length * y = x.toNat + 256 * (leNat l + 256 ^ l.length * y) := by
      simp only [leNat, List.length_cons, Nat.pow_succ, Nat.mul_add]
      rw [Nat.mul_comm (256 ^ l.length) 256, Nat.mul_assoc]
      omega
    rw [e, List.length_cons, leBytes]
    have e2 : (x.toNat + 256 * (leNat l + 256 ^ l.length * y)) / 256 = leNat l + 256 ^ l.length * y := by omega
    rw [e2, ih]
    congr 1
    apply UInt8.toNat_inj.1
    simp

theorem ones_split (x : Nat) (hx : x < 256) : x = 65280 / 2 ^ Cur.ones x % 256 + (if Cur.ones x < 7 then x % 2 ^ (7 - Cur.ones x) else 0) := by
  have h : ∀ y : Fin 256, y.val = 65280 / 2 ^ Cur.ones y.val % 256 + (if Cur.ones y.val < 7 then y.val % 2 ^ (7 - Cur.ones y.val) else 0) := by decide +kernel
  exact h ⟨x, hx⟩

theorem extra_le_of (v k : Nat) (hk : k ≤ 7) (hv : v < 2 ^ (7 * k + 7)) : extra v ≤ k := by
  have hk' : k = 0 ∨ k = 1 ∨ k = 2 ∨ k = 3 ∨ k = 4 ∨ k = 5 ∨ k = 6 ∨ k = 7 := by omega
  rcases hk' with rfl | rfl | rfl | rfl | rfl | rfl | rfl | rfl <;> simp only [Nat.reduceMul, Nat.reduceAdd, Nat.reducePow] at hv <;> unfold extra <;> repeat' split
  all_goals omega

/-- A short number's value, from its bytes. -/
def shortVal (x k : Nat) (l : List UInt8) : Nat := leNat l + 256 ^ k * (if k < 7 then x % 2 ^ (7 - k) else 0)

theorem shortVal_lt (x k : Nat) (l : List UInt8) (hl : l.length = k) (hk : k ≤ 8) : shortVal x k l < 18446744073709551616 ∧ (k ≤ 7 → shortVal x k l < 2 ^ (7 * k + 7)) := by
  have h := leNat_lt l
  rw [hl] at h
  unfold shortVal
  by_cases h7 : k < 7
  · have hm : x % 2 ^ (7 - k) < 2 ^ (7 - k) := Nat.mod_lt _ (Nat.pow_pos (by decide))
    have h2 : 256 ^ k * (x % 2 ^ (7 - k)) + 256 ^ k ≤ 256 ^ k * 2 ^ (7 - k) := by
      rw [← Nat.mul_succ]; exact Nat.mul_le_mul_left _ hm
    have h3 : 256 ^ k * 2 ^ (7 - k) = 2 ^ (7 * k + 7) := by rw [pow256, ← Nat.pow_add]; congr 1; omega
    have h4 : 2 ^ (7 * k + 7) ≤ 2 ^ 64 := Nat.pow_le_pow_right (by decide) (by omega)
    rw [if_pos h7]
    omega
  · rw [if_neg h7]
    have hk' : k = 7 ∨ k = 8 := by omega
    rcases hk' with rfl | rfl
    · simp only [Nat.reducePow, Nat.reduceMul, Nat.reduceAdd] at h ⊢; omega
    · simp only [Nat.reducePow] at h; omega

theorem short_best (x : UInt8) (k : Nat) (l : List UInt8) (hk : k = Cur.ones x.toNat) (hl : l.length = k) :
    (putNumber [] (shortVal x.toNat k l)).length < 1 + k ∨ (putNumber [] (shortVal x.toNat k l)).length = 1 + k ∧ putNumber [] (shortVal x.toNat k l) = x :: l := by
  have hk8 : k ≤ 8 := by rw [hk]; exact Cur.ones_le _
  obtain ⟨hv, hv7⟩ := shortVal_lt x.toNat k l hl hk8
  have he : extra (shortVal x.toNat k l) ≤ k := by
    by_cases h : k ≤ 7
    · exact extra_le_of _ _ h (hv7 h)
    · have := extra_le (shortVal x.toNat k l); omega
  rw [putNumber_length]
  simp only [List.length_nil, Nat.zero_add]
  by_cases hlt : extra (shortVal x.toNat k l) < k
  · exact .inl (by omega)
  · have hek : extra (shortVal x.toNat k l) = k := by omega
    refine .inr ⟨by omega, ?_⟩
    have h1 := leBytes_leNat l (if k < 7 then x.toNat % 2 ^ (7 - k) else 0)
    rw [hl] at h1
    unfold putNumber firstByte
    rw [hek]
    have hs := ones_split x.toNat x.toNat_lt
    rw [← hk] at hs
    have hdiv : shortVal x.toNat k l / 256 ^ k = (if k < 7 then x.toNat % 2 ^ (7 - k) else 0) := by
      have h := leNat_lt l
      rw [hl] at h
      unfold shortVal
      rw [Nat.add_mul_div_left _ _ (Nat.pow_pos (by decide)), Nat.div_eq_of_lt h, Nat.zero_add]
    have e : (65280 / 2 ^ k % 256 + if k < 7 then shortVal x.toNat k l / 256 ^ k else 0) = x.toNat := by
      rw [hdiv]
      by_cases h7 : k < 7
      · simp only [h7, if_true] at hs ⊢; omega
      · simp only [h7, if_false] at hs ⊢; omega
    rw [e]
    unfold shortVal
    rw [h1]
    simp

theorem number_short (bs : List UInt8) : (Cur.number ⟨bs, 0, 0⟩).2.code ≠ 0 ∧ (Cur.number ⟨bs, 0, 0⟩).1 = 0 ∧ (Cur.number ⟨bs, 0, 0⟩).2.at_ = 0 ∨
    (Cur.number ⟨bs, 0, 0⟩).2.code = 0 ∧ (Cur.number ⟨bs, 0, 0⟩).1 < 18446744073709551616 ∧ (Cur.number ⟨bs, 0, 0⟩).2.at_ ≤ bs.length ∧
      ((putNumber [] (Cur.number ⟨bs, 0, 0⟩).1).length < (Cur.number ⟨bs, 0, 0⟩).2.at_ ∨
        (putNumber [] (Cur.number ⟨bs, 0, 0⟩).1).length = (Cur.number ⟨bs, 0, 0⟩).2.at_ ∧ putNumber [] (Cur.number ⟨bs, 0, 0⟩).1 = bs.take (Cur.number ⟨bs, 0, 0⟩).2.at_) := by
  unfold Cur.number
  split
  · exact .inl ⟨by simp [Cur.fail], rfl, rfl⟩
  · rename_i h
    have h' : 1 + Cur.ones (Cur.head ⟨bs, 0, 0⟩) ≤ bs.length := by simpa [Cur.left] using h
    obtain ⟨x, l, rfl⟩ : ∃ x l, bs = x :: l := by cases bs with | nil => simp at h' | cons x l => exact ⟨x, l, rfl⟩
    have hh : Cur.head ⟨x :: l, 0, 0⟩ = x.toNat := by simp [Cur.head]
    rw [hh] at h' ⊢
    obtain ⟨k, hk⟩ : ∃ k, k = Cur.ones x.toNat := ⟨_, rfl⟩
    rw [← hk] at h' ⊢
    have hlen : (l.take k).length = k := by simp at h' ⊢; omega
    have hs := short_best x k (l.take k) hk hlen
    have hv := shortVal_lt x.toNat k (l.take k) hlen (hk ▸ Cur.ones_le _)
    refine .inr ⟨rfl, ?_, by simpa using h', ?_⟩
    · exact hv.1
    · have e : (x :: l).take (0 + 1 + k) = x :: l.take k := by rw [show 0 + 1 + k = k + 1 from by omega]; rfl
      simp only [Nat.zero_add] at e
      simp only [List.drop_succ_cons, List.drop_zero, Nat.zero_add, e]
      exact hs
end Go.Proofs.Ythdfjbliafdchaa
/- Rows of bits, in plain Lean. No condition. -/
namespace Go.Proofs.Ythdfjbliafdchaa
open Go.RowKit

/-- The byte number j of the bits f. -/
def byteOf (f : Nat → Bool) (j : Nat) : Nat :=
  (f (8 * j)).toNat * 128 + (f (8 * j + 1)).toNat * 64 + (f (8 * j + 2)).toNat * 32 + (f (8 * j + 3)).toNat * 16 +
  (f (8 * j + 4)).toNat * 8 + (f (8 * j + 5)).toNat * 4 + (f (8 * j + 6)).toNat * 2 + (f (8 * j + 7)).toNat

theorem bool_le (b : Bool) : b.toNat ≤ 1 := by cases b <;> simp

theorem byteOf_lt (f : Nat → Bool) (j : Nat) : byteOf f j < 256 := by
  unfold byteOf
  have h0 := bool_le (f (8 * j)); have h1 := bool_le (f (8 * j + 1)); have h2 := bool_le (f (8 * j + 2)); have h3 := bool_le (f (8 * j + 3))
  have h4 := bool_le (f (8 * j + 4)); have h5 := bool_le (f (8 * j + 5)); have h6 := bool_le (f (8 * j + 6)); have h7 := bool_le (f (8 * j + 7))
  omega

theorem byteOf_congr (f g : Nat → Bool) (j : Nat) (h : ∀ t, t < 8 → f (8 * j + t) = g (8 * j + t)) : byteOf f j = byteOf g j := by
  have h0 := h 0 (by decide); have h1 := h 1 (by decide); have h2 := h 2 (by decide); have h3 := h 3 (by decide)
  have h4 := h 4 (by decide); have h5 := h 5 (by decide); have h6 := h 6 (by decide); have h7 := h 7 (by decide)
  unfold byteOf
  rw [Nat.add_zero] at h0
  rw [h0, h1, h2, h3, h4, h5, h6, h7]

theorem byteOf_bit (f : Nat → Bool) (j t : Nat) (ht : t < 8) : byteOf f j / (128 / 2 ^ t) % 2 = (f (8 * j + t)).toNat := by
  have h0 := bool_le (f (8 * j)); have h1 := bool_le (f (8 * j + 1)); have h2 := bool_le (f (8 * j + 2)); have h3 := bool_le (f (8 * j + 3))
  have h4 := bool_le (f (8 * j + 4)); have h5 := bool_le (f (8 * j + 5)); have h6 := bool_le (f (8 * j + 6)); have h7 := bool_le (f (8 * j + 7))
  have ht' : t = 0 ∨ t = 1 ∨ t = 2 ∨ t = 3 ∨ t = 4 ∨ t = 5 ∨ t = 6 ∨ t = 7 := by omega
  rcases ht' with rfl | rfl | rfl | rfl | rfl | rfl | rfl | rfl <;> simp only [Nat.reducePow, Nat.reduceDiv, Nat.add_zero] <;> unfold byteOf <;> omega

/-- The bits f below k, false from there on. -/
def upTo (f : Nat → Bool) (k n : Nat) : Bool := decide (n < k) && f n

theorem upTo_at (f : Nat → Bool) (j t s : Nat) : upTo f (8 * j + t) (8 * j + s) = (decide (s < t) && f (8 * j + s)) := by
  unfold upTo
  congr 1
  simp

theorem upTo_at0 (f : Nat → Bool) (j t : Nat) : upTo f (8 * j + t) (8 * j) = (decide (0 < t) && f (8 * j)) := upTo_at f j t 0

theorem upTo_none (f : Nat → Bool) (j s : Nat) : upTo f (8 * j) (8 * j + s) = false := by simp [upTo]; omega
theorem upTo_none0 (f : Nat → Bool) (j : Nat) : upTo f (8 * j) (8 * j) = false := by simp [upTo]

theorem byteOf_step (f : Nat → Bool) (k : Nat) : byteOf (upTo f (k + 1)) (k / 8) = byteOf (upTo f k) (k / 8) + if f k then 128 / 2 ^ (k % 8) else 0 := by
  have hk : k = 8 * (k / 8) + k % 8 := by omega
  have ht : k % 8 < 8 := by omega
  generalize k / 8 = j at *
  generalize k % 8 = t at *
  subst hk
  rw [Nat.add_assoc]
  have ht' : t = 0 ∨ t = 1 ∨ t = 2 ∨ t = 3 ∨ t = 4 ∨ t = 5 ∨ t = 6 ∨ t = 7 := by omega
  rcases ht' with rfl | rfl | rfl | rfl | rfl | rfl | rfl | rfl <;> simp only [byteOf, upTo_at, upTo_at0, Nat.add_zero, upTo_none, upTo_none0] <;> simp
  all_goals split <;> simp_all

/-- The first m bytes of the bits f. -/
def packF (f : Nat → Bool) (m : Nat) : List UInt8 := (List.range m).map fun j => UInt8.ofNat (byteOf f j)

theorem packF_length (f : Nat → Bool) (m : Nat) : (packF f m).length = m := by simp [packF]

theorem packF_get (f : Nat → Bool) (m j : Nat) (h : j < m) : (packF f m)[j]? = some (UInt8.ofNat (byteOf f j)) := by simp [packF, h]

theorem packF_congr (f g : Nat → Bool) (m : Nat) (h : ∀ n, n < 8 * m → f n = g n) : packF f m = packF g m := by
  unfold packF
  apply List.map_congr_left
  intro j hj
  rw [byteOf_congr f g j (fun t ht => h _ (by have := List.mem_range.1 hj; omega))]

theorem packF_succ (f : Nat → Bool) (m : Nat) : packF f (m + 1) = packF f m ++ [UInt8.ofNat (byteOf f m)] := by simp [packF, List.range_succ]

theorem byteOf_empty (f : Nat → Bool) (k j : Nat) (h : k ≤ 8 * j) : byteOf (upTo f k) j = 0 := by
  unfold byteOf upTo
  simp only [show ¬ (8 * j < k) from by omega, show ¬ (8 * j + 1 < k) from by omega, show ¬ (8 * j + 2 < k) from by omega, show ¬ (8 * j + 3 < k) from by omega, show ¬ (8 * j + 4 < k) from by omega, show ¬ (8 * j + 5 < k) from by omega, show ¬ (8 * j + 6 < k) from by omega, show ¬ (8 * j + 7 < k) from by omega, decide_false, Bool.false_and]
  rfl

theorem upTo_low (f : Nat → Bool) (k n : Nat) (h : n < k) : upTo f (k + 1) n = upTo f k n := by unfold upTo; simp [h, Nat.lt_succ_of_lt h]

/-- A bit that opens a byte. -/
theorem pack_open (f : Nat → Bool) (k : Nat) (h : k % 8 = 0) :
    packF (upTo f (k + 1)) ((k + 1 + 7) / 8) = packF (upTo f k) ((k + 7) / 8) ++ [UInt8.ofNat (if f k then 128 else 0)] := by
  rw [show (k + 1 + 7) / 8 = k / 8 + 1 from by omega, show (k + 7) / 8 = k / 8 from by omega, packF_succ, byteOf_step, byteOf_empty f k (k / 8) (by omega), h]
  simp only [Nat.zero_add, Nat.pow_zero, Nat.div_one]
  rw [packF_congr _ (upTo f k) (k / 8) (fun n hn => upTo_low f k n (by omega))]

/-- A bit within a byte. -/
theorem pack_in (f : Nat → Bool) (k : Nat) (h : k % 8 ≠ 0) :
    packF (upTo f (k + 1)) ((k + 1 + 7) / 8) = packF (upTo f k) (k / 8) ++ [UInt8.ofNat (byteOf (upTo f k) (k / 8) + if f k then 128 / 2 ^ (k % 8) else 0)] ∧
    packF (upTo f k) ((k + 7) / 8) = packF (upTo f k) (k / 8) ++ [UInt8.ofNat (byteOf (upTo f k) (k / 8))] := by
  rw [show (k + 1 + 7) / 8 = k / 8 + 1 from by omega, show (k + 7) / 8 = k / 8 + 1 from by omega, packF_succ, packF_succ, byteOf_step]
  rw [packF_congr (upTo f (k + 1)) (upTo f k) (k / 8) (fun n hn => upTo_low f k n (by omega))]
  exact ⟨rfl, rfl⟩

theorem byteOf_low (f : Nat → Bool) (k : Nat) : byteOf (upTo f k) (k / 8) / (128 / 2 ^ (k % 8)) % 2 = 0 := by
  rw [byteOf_bit _ _ _ (by omega)]
  unfold upTo
  rw [show 8 * (k / 8) + k % 8 = k from by omega]
  simp

theorem or_bit (y m : Nat) (hy : y < 256) (hm : m < 8) (h : y / (128 / 2 ^ m) % 2 = 0) : bits BinOp.or IntKind.u8 (y : Int) (128 / 2 ^ m) = ((y + 128 / 2 ^ m : Nat) : Int) ∧ y + 128 / 2 ^ m < 256 := by
  have key : ∀ (n : Fin 8) (z : Fin 256), z.val / (128 / 2 ^ n.val) % 2 = 0 → bits BinOp.or IntKind.u8 (z.val : Int) (128 / 2 ^ n.val) = ((z.val + 128 / 2 ^ n.val : Nat) : Int) ∧ z.val + 128 / 2 ^ n.val < 256 := by decide +kernel
  exact key ⟨m, hm⟩ ⟨y, hy⟩ h

def bitAt (row : List Bool) (n : Nat) : Bool := row.getD n false

/-- A row of bits as bytes. -/
def packBits (row : List Bool) : List UInt8 := packF (bitAt row) ((row.length + 7) / 8)

theorem packBits_upTo (row : List Bool) : packF (upTo (bitAt row) row.length) ((row.length + 7) / 8) = packBits row := by
  apply packF_congr
  intro n _
  unfold upTo bitAt
  by_cases h : n < row.length
  · simp [h]
  · simp [h]

theorem sh_bounds (t : Nat) (h : t < 8) : 1 ≤ 128 / 2 ^ t ∧ 128 / 2 ^ t ≤ 128 := by
  have key : ∀ n : Fin 8, 1 ≤ 128 / 2 ^ n.val ∧ 128 / 2 ^ n.val ≤ 128 := by decide
  exact key ⟨t, h⟩
end Go.Proofs.Ythdfjbliafdchaa
/- Plain facts for the references' Put functions. No condition. -/
namespace Go.Proofs.Ythdfjbliafdchaa
open Go.RowKit

theorem extra_iff (v k : Nat) (hk : k ≤ 7) : extra v ≤ k ↔ v < 2 ^ (7 * k + 7) := by
  constructor
  · intro h
    have he := extra_at v (by omega)
    have h1 : v < 2 ^ (7 * extra v + 7) := (Nat.div_eq_zero_iff_lt (Nat.pow_pos (by decide))).1 he
    exact Nat.lt_of_lt_of_le h1 (Nat.pow_le_pow_right (by decide) (by omega))
  · exact extra_le_of v k hk

theorem extra_div (v k : Nat) (hk : k < 7) : extra v ≤ k ↔ v / 256 ^ k < 128 / 2 ^ k := by
  rw [extra_iff v k (by omega), Nat.div_lt_iff_lt_mul (Nat.pow_pos (by decide))]
  have e : 128 / 2 ^ k * 256 ^ k = 2 ^ (7 * k + 7) := by
    have h1 : 128 / 2 ^ k = 2 ^ (7 - k) := by
      have key : ∀ n : Fin 8, 128 / 2 ^ n.val = 2 ^ (7 - n.val) := by decide
      exact key ⟨k, by omega⟩
    rw [h1, pow256, ← Nat.pow_add]; congr 1; omega
  rw [e]

theorem first_form (k : Nat) (hk : k ≤ 8) : 256 - 256 / 2 ^ k = 65280 / 2 ^ k % 256 ∧ 256 / 2 ^ k ≤ 256 ∧ 1 ≤ 256 / 2 ^ k := by
  have key : ∀ n : Fin 9, 256 - 256 / 2 ^ n.val = 65280 / 2 ^ n.val % 256 ∧ 256 / 2 ^ n.val ≤ 256 ∧ 1 ≤ 256 / 2 ^ n.val := by decide +kernel
  exact key ⟨k, by omega⟩

/-- The first k bits from i on, as a number. -/
def chunk (f : Nat → Bool) (i : Nat) : Nat → Nat
  | 0 => 0
  | k + 1 => 2 * chunk f i k + (f (i + k)).toNat

theorem chunk_lt (f : Nat → Bool) (i k : Nat) : chunk f i k < 2 ^ k := by
  induction k with
  | zero => simp [chunk]
  | succ k ih =>
    have := bool_le (f (i + k))
    simp only [chunk, Nat.pow_succ]
    omega

theorem chunk_byte (f : Nat → Bool) (j : Nat) : chunk f (8 * j) 8 = byteOf f j := by
  simp only [chunk, byteOf, Nat.add_zero]
  omega

/-- A told row. -/
def putTold (b : List UInt8) (row : List Bool) : List UInt8 := if row.all id then b ++ [1] else (b ++ [0]) ++ packBits row

theorem all_take (row : List Bool) (k : Nat) (x : Bool) (h : row[k]? = some x) : (row.take (k + 1)).all id = ((row.take k).all id && x) := by
  rw [take_succ' row k x h]; simp [List.all_append]

theorem pow_le7 (k : Nat) (h : k < 8) : 256 ^ k ≤ 72057594037927936 ∧ 1 ≤ 256 ^ k := by
  have := pow256_le (k := k) (m := 7) (by omega)
  exact ⟨by simpa using this, Nat.pow_pos (by decide)⟩

theorem quo_bounds (v P : Nat) (hv : v < 18446744073709551616) : (0 : Int) ≤ (v : Int) / (P : Int) ∧ (v : Int) / (P : Int) ≤ 18446744073709551615 := by
  have h1 : v / P ≤ v := Nat.div_le_self _ _
  have h2 : ((v / P : Nat) : Int) = (v : Int) / (P : Int) := by simp
  rw [← h2]
  clear h2
  generalize v / P = q at *
  omega

theorem fb_low (v k T q : Nat) (hk : k = extra v) (h7 : k < 7) (hT : T = 256 / 2 ^ k) (hq : q = v / 256 ^ k) : ((256 : Int) - T + q) % 256 = ((firstByte v).toNat : Int) := by
  obtain ⟨f1, f2, f3⟩ := first_form k (by omega)
  have hd := (extra_div v k h7).1 (by omega)
  rw [← hq] at hd
  have h1 : 128 / 2 ^ k = 2 ^ (7 - k) := by
    have key : ∀ n : Fin 8, 128 / 2 ^ n.val = 2 ^ (7 - n.val) := by decide
    exact key ⟨k, by omega⟩
  have hsm := first_small k q h7 (by omega)
  unfold firstByte
  rw [← hk, if_pos h7, ← hq, ← f1, ← hT]
  rw [← hT] at f2 f3
  rw [← f1, ← hT] at hsm
  simp
  omega

theorem fb_high (v k T : Nat) (hk : k = extra v) (h7 : ¬ k < 7) (hT : T = 256 / 2 ^ k) : ((256 : Int) - T) % 256 = ((firstByte v).toNat : Int) := by
  have h8 := extra_le v
  obtain ⟨f1, f2, f3⟩ := first_form k (by omega)
  unfold firstByte
  rw [← hk, if_neg h7, ← f1, ← hT]
  rw [← hT] at f2 f3
  simp
  omega

theorem T_bounds (k : Nat) (h : k ≤ 8) : 1 ≤ 256 / 2 ^ k ∧ 256 / 2 ^ k ≤ 256 ∧ (k = 7 → 256 / 2 ^ k = 2) := by
  obtain ⟨f1, f2, f3⟩ := first_form k h
  exact ⟨f3, f2, by rintro rfl; rfl⟩
end Go.Proofs.Ythdfjbliafdchaa
/- Rows of bits that are read, in plain Lean. No condition. -/
namespace Go.Proofs.Ythdfjbliafdchaa
open Go.RowKit

/-- Bit i of bytes. -/
def bitOf (l : List UInt8) (i : Nat) : Bool := (l.getD (i / 8) 0).toNat / (128 / 2 ^ (i % 8)) % 2 == 1

/-- The first n bits of bytes. -/
def unpack (l : List UInt8) (n : Nat) : List Bool := (List.range n).map (bitOf l)

theorem unpack_succ (l : List UInt8) (n : Nat) : unpack l (n + 1) = unpack l n ++ [bitOf l n] := by simp [unpack, List.range_succ]
theorem unpack_length (l : List UInt8) (n : Nat) : (unpack l n).length = n := by simp [unpack]

/-- The last byte has a bit behind the n-th. -/
def padded (l : List UInt8) (n : Nat) : Bool := n % 8 != 0 && (l.getD (n / 8) 0).toNat % 2 ^ (8 - n % 8) != 0

theorem pad_bits (y m : Nat) (hy : y < 256) (hm : m < 8) (h0 : 0 < m) : y % 2 ^ (8 - m) = 0 ↔ ∀ t, m ≤ t → t < 8 → y / (128 / 2 ^ t) % 2 = 0 := by
  have key : ∀ (n : Fin 8) (z : Fin 256), 0 < n.val → (z.val % 2 ^ (8 - n.val) = 0 ↔ ∀ t : Fin 8, n.val ≤ t.val → z.val / (128 / 2 ^ t.val) % 2 = 0) := by decide +kernel
  have := key ⟨m, hm⟩ ⟨y, hy⟩ h0
  constructor
  · intro h t h1 h2; exact this.1 h ⟨t, h2⟩ h1
  · intro h; exact this.2 (fun t ht => h t.val ht t.isLt)

/-- Nothing is behind the n-th bit, just if each bit there is 0. -/
theorem padded_false (l : List UInt8) (n : Nat) : padded l n = false ↔ ∀ i, n ≤ i → i < 8 * ((n + 7) / 8) → bitOf l i = false := by
  have hy := (l.getD (n / 8) 0).toNat_lt
  by_cases h : n % 8 = 0
  · constructor
    · intro _ i h1 h2; omega
    · intro _; simp [padded, h]
  · have hp := pad_bits (l.getD (n / 8) 0).toNat (n % 8) (by omega) (by omega) (by omega)
    have e : padded l n = false ↔ (l.getD (n / 8) 0).toNat % 2 ^ (8 - n % 8) = 0 := by
      unfold padded; simp [h]
    rw [e, hp]
    constructor
    · intro hh i h1 h2
      have h3 : i / 8 = n / 8 := by omega
      have := hh (i % 8) (by omega) (by omega)
      unfold bitOf; rw [h3, this]; rfl
    · intro hh t h1 h2
      have := hh (8 * (n / 8) + t) (by omega) (by omega)
      unfold bitOf at this
      rw [show (8 * (n / 8) + t) / 8 = n / 8 from by omega, show (8 * (n / 8) + t) % 8 = t from by omega] at this
      have h5 := beq_eq_false_iff_ne.1 this
      omega

namespace Cur
def row (c : Cur) (n : Nat) : List UInt8 := (c.b.drop c.at_).take ((n + 7) / 8)
def bits (c : Cur) (n : Int) : List Bool × Cur :=
  if c.code ≠ 0 ∨ n < 0 ∨ c.left < (n.toNat + 7) / 8 then ([], c.fail 3)
  else if padded (c.row n.toNat) n.toNat then ([], c.fail 5)
  else (unpack (c.row n.toNat) n.toNat, { c with at_ := c.at_ + (n.toNat + 7) / 8 })
def told (c : Cur) (n : Int) : List Bool × Cur :=
  if c.left < 1 ∨ n < 0 then ([], c.fail 3)
  else if c.head = 1 then (List.replicate n.toNat true, { c with at_ := c.at_ + 1 })
  else if c.head = 0 then
    if (bits { c with at_ := c.at_ + 1 } n).2.code ≠ 0 then ([], { (bits { c with at_ := c.at_ + 1 } n).2 with at_ := c.at_ })
    else bits { c with at_ := c.at_ + 1 } n
  else ([], c.fail 5)
end Cur

theorem shl_pad (y m : Nat) (hy : y < 256) (hm : m < 8) : (y * 2 ^ m) % 256 = 0 ↔ y % 2 ^ (8 - m) = 0 := by
  have key : ∀ (n : Fin 8) (z : Fin 256), (z.val * 2 ^ n.val) % 256 = 0 ↔ z.val % 2 ^ (8 - n.val) = 0 := by decide +kernel
  exact key ⟨m, hm⟩ ⟨y, hy⟩

theorem shr_bit (y m : Nat) (hy : y < 256) (hm : m < 8) : y / 2 ^ (7 - m) % 2 = y / (128 / 2 ^ m) % 2 := by
  have key : ∀ (n : Fin 8) (z : Fin 256), z.val / 2 ^ (7 - n.val) % 2 = z.val / (128 / 2 ^ n.val) % 2 := by decide +kernel
  exact key ⟨m, hm⟩ ⟨y, hy⟩

theorem and_one (y : Nat) (hy : y < 256) : Go.bits BinOp.and IntKind.u8 (y : Int) 1 = ((y % 2 : Nat) : Int) := by
  have key : ∀ (z : Fin 256), Go.bits BinOp.and IntKind.u8 (z.val : Int) 1 = ((z.val % 2 : Nat) : Int) := by decide +kernel
  exact key ⟨y, hy⟩

theorem bit_read (R : List UInt8) (k : Nat) (y : UInt8) (hy : R[k / 8]? = some y) : (Go.bits BinOp.and IntKind.u8 ((y.toNat : Int) / 2 ^ (7 - k % 8)) 1 == 1) = bitOf R k := by
  have hy8 := y.toNat_lt
  have e : ((y.toNat : Int) / 2 ^ (7 - k % 8)) = ((y.toNat / 2 ^ (7 - k % 8) : Nat) : Int) := by simp
  have hlt : y.toNat / 2 ^ (7 - k % 8) < 256 := Nat.lt_of_le_of_lt (Nat.div_le_self _ _) (by omega)
  rw [e, and_one _ hlt, shr_bit _ _ (by omega) (by omega)]
  unfold bitOf
  have : R.getD (k / 8) 0 = y := by simp [hy]
  rw [this]
  generalize y.toNat / (128 / 2 ^ (k % 8)) % 2 = z
  rw [Bool.eq_iff_iff]
  simp
  omega

theorem pad_shl (R : List UInt8) (n : Nat) (y : UInt8) (hy : R[n / 8]? = some y) (h8 : n % 8 ≠ 0) : ((y.toNat : Int) * 2 ^ (n % 8) % 256 != 0) = padded R n := by
  have hy8 := y.toNat_lt
  have e : ((y.toNat : Int) * 2 ^ (n % 8) % 256) = ((y.toNat * 2 ^ (n % 8) % 256 : Nat) : Int) := by simp
  have h := shl_pad y.toNat (n % 8) (by omega) (by omega)
  unfold padded
  have : R.getD (n / 8) 0 = y := by simp [hy]
  have hn : (n % 8 != 0) = true := by simpa using h8
  rw [this, e, hn, Bool.true_and]
  generalize y.toNat * 2 ^ (n % 8) % 256 = a at *
  generalize y.toNat % 2 ^ (8 - n % 8) = b at *
  rw [Bool.eq_iff_iff]
  simp
  omega
end Go.Proofs.Ythdfjbliafdchaa
/- Contracts of the cursor's small functions, and of the references' Bytes. No condition but that lengths fit. -/
namespace Go.Proofs.Ythdfjbliafdchaa
open Go.RowKit

theorem info_u8 : (Try.prog.info? 5).map (fun i => (i.zero, i.size, i.bytes)) = some (some (.int .u8 0), 1, 1) := by kernel_rfl
theorem sty_u8 : SlTy Try.prog 22 5 (.int .u8 0) 1 := ⟨Try.underlying22, by obtain ⟨i, h⟩ := info_parts info_u8; exact ⟨i, h⟩, rfl⟩

/-- The value is new, reads as these bytes, and the old memory is as it was. -/
def NewBytes (bs : List UInt8) (w : World) (e : Ending) (w' : World) : Prop :=
  ∃ r, e = .returned r ∧ w'.ownsRow w.heap.size 5 1 r bs.length (bv bs) ∧ Fr [] w w'

theorem clone_any (w : World) (v : Value) (bs : List UInt8) (h : Sl w v (bv bs)) (hb : bs.length ≤ 140737488355328) :
    Calls Try.prog 38 #[v] w (NewBytes bs w) := by
  have hq := @Lib.run_eql_slice_nil
  have hS := h
  obtain ⟨ao, cap, rfl, h1, h2, h3, _⟩ := h
  rw [bv_length] at h1
  cases ao with
  | none =>
    have := h3 rfl
    subst this
    have : bs = [] := List.eq_nil_of_length_eq_zero (by omega)
    subst this
    go_enter Try.func38, Try.ntmps38
    go_wp2_with fail
    go_ret
    exact ⟨_, rfl, World.ownsRow_nil w w.heap.size 5 1, Fr.refl _ _⟩
  | some ad =>
    have hy : Sl (w.alloc (.cells #[] 5)) (.slice (some ad) (bv bs).length cap) (bv bs) := hS.fr0 ((Fr.refl _ _).alloc _)
    have hbv := bv_length bs
    have hone := bv_one bs
    clear h3 hS
    go_enter Try.func38, Try.ntmps38
    go_wp2_with (at_builtin; refine wpList_append_sl sty_u8 rfl _ _ rfl w.heap.size _ 0 [] rfl (own_empty w _) _ (bv bs) rfl hy hone ?_ ?_ ?_ ?_)
    all_goals first | omega | skip
    · simp
    · intro v' w' hown hg
      have hF : Fr [] w w' := ((Fr.refl [] w).alloc _).grown hg (by simp [Value.ownBlock])
      clear hone hg hy
      go_wp2
      go_ret
      exact ⟨_, rfl, by simpa [bv_length] using hown, hF⟩

/-- The cursor of the program lies in block p, its bytes in block q. -/
structure CurAt (w : World) (p : Nat) (q : Option Nat) (c : Cur) : Prop where
  ok : ∃ ao n cap, w.heap[p]? = some (.cells #[.slice ao n cap, .int .i64 c.at_, .int .i64 c.code] 80 (0, 0)) ∧
    Sl w (.slice ao n cap) (bv c.live) ∧ (Value.slice ao n cap).ownBlock = q
  le : c.at_ ≤ c.b.length
  ne : q ≠ some p

theorem CurAt.lt {w : World} {p : Nat} {q : Option Nat} {c : Cur} (h : CurAt w p q c) : p < w.heap.size := by
  obtain ⟨_, _, _, h, _⟩ := h.ok
  exact (Array.getElem?_eq_some_iff.1 h).1

theorem CurAt.fr {w w' : World} {p : Nat} {q : Option Nat} {c : Cur} {S : List Nat} (h : CurAt w p q c) (hf : Fr S w w') (hp : p ∉ S) (hq : ∀ k, q = some k → k ∉ S) : CurAt w' p q c := by
  obtain ⟨ao, n, cap, h1, h2, h3⟩ := h.ok
  refine ⟨⟨ao, n, cap, ?_, h2.fr hf (fun k hk => hq k (h3 ▸ hk)), h3⟩, h.le, h.ne⟩
  rw [hf.block p h.lt hp, h1]

/-- The cursor's cells, for a walk. -/
theorem CurAt.out {w : World} {p : Nat} {q : Option Nat} {c : Cur} (h : CurAt w p q c) : ∃ ao cap,
    w.heap[p]? = some (.cells #[.slice ao (c.at_ + c.left) cap, .int .i64 c.at_, .int .i64 c.code] 80 (0, 0)) ∧
    w.cell? ⟨p, 0, none⟩ = some (.slice ao (c.at_ + c.left) cap) ∧ w.cell? ⟨p, 1, none⟩ = some (.int .i64 c.at_) ∧ w.cell? ⟨p, 2, none⟩ = some (.int .i64 c.code) ∧
    (∀ j, w.frozen? ⟨p, j, none⟩ = false) ∧ Sl w (.slice ao (c.at_ + c.left) cap) (bv c.live) ∧ (Value.slice ao (c.at_ + c.left) cap).ownBlock = q ∧ c.at_ + c.left ≤ cap ∧ cap ≤ 9223372036854775807 := by
  obtain ⟨ao, n, cap, h1, h2, h3⟩ := h.ok
  have hn := h2.len
  rw [bv_length, c.live_left h.le] at hn
  subst hn
  have hc := h2.caps
  exact ⟨ao, cap, h1, by simp [Go.Joins.cell_of_block h1], by simp [Go.Joins.cell_of_block h1], by simp [Go.Joins.cell_of_block h1], fun j => Go.Joins.unfrozen_of_block h1 j, h2, h3, hc.1, hc.2⟩

theorem left_any (w : World) (p : Nat) (q : Option Nat) (c : Cur) (h : CurAt w p q c) :
    Calls Try.prog 33 #[.pointer (some ⟨p, 0, none⟩)] w fun e w' => e = .returned (.int .i64 c.left) ∧ Same w w' := by
  obtain ⟨ao, cap, _, c0, c1, c2, hf, _, _, hl, hm⟩ := h.out
  have hle := h.le
  clear h
  go_enter Try.func33, Try.ntmps33
  go_wp2
  go_quiet (fail)
  go_wp2
  go_ret
  exact ⟨by simp; omega, Same.drewN _⟩

theorem code_any (w : World) (p : Nat) (q : Option Nat) (c : Cur) (h : CurAt w p q c) :
    Calls Try.prog 55 #[.pointer (some ⟨p, 0, none⟩)] w fun e w' => e = .returned (.int .i64 c.code) ∧ w = w' := by
  obtain ⟨ao, cap, _, c0, c1, c2, hf, _, _, hl, hm⟩ := h.out
  clear h
  go_enter Try.func55, Try.ntmps55
  go_wp2
  go_ret
  exact ⟨rfl, rfl⟩

theorem CurAt.same {w w' : World} {p : Nat} {q : Option Nat} {c : Cur} (h : CurAt w p q c) (hf : Same w w') : CurAt w' p q c := h.fr (S := []) hf.fr (by simp) (by simp)

theorem CurAt.of_fr {w w' : World} {p : Nat} {q : Option Nat} {c : Cur} {ao : Option Addr} {n cap : Nat} (hf : Fr [p] w w')
    (hh : w'.heap[p]? = some (.cells #[.slice ao n cap, .int .i64 c.at_, .int .i64 c.code] 80 (0, 0)))
    (hs : Sl w (.slice ao n cap) (bv c.live)) (hq : (Value.slice ao n cap).ownBlock = q) (hne : q ≠ some p) (hle : c.at_ ≤ c.b.length) : CurAt w' p q c :=
  ⟨⟨ao, n, cap, hh, hs.fr hf (fun k hk => by rintro h; simp at h; subst h; exact hne (hq ▸ hk)), hq⟩, hle, hne⟩

theorem Cur.live_fail (c : Cur) (k : Nat) (hk : k ≠ 0) : (c.fail k).live = c.live.take c.at_ := by
  unfold Cur.live Cur.fail
  by_cases h : c.code = 0
  · simp [h, hk]
  · simp [h, List.take_take]

theorem fail_any (w : World) (p : Nat) (q : Option Nat) (c : Cur) (k : Nat) (cc : Int) (hcc : cc = k) (hk : k ≠ 0) (h : CurAt w p q c) :
    Calls Try.prog 40 #[.pointer (some ⟨p, 0, none⟩), .int .i64 cc] w fun e w' => e = .returned (.tuple #[]) ∧ CurAt w' p q (c.fail k) ∧ Fr [p] w w' := by
  subst hcc
  obtain ⟨ao, cap, hh, c0, c1, c2, hf, hs, hq, hl, hm⟩ := h.out
  have hle := h.le
  have hne := h.ne
  have hlt := h.lt
  clear h
  have hs' := hs.first c.at_ (by omega)
  rw [← bv_take, ← Cur.live_fail c k hk] at hs'
  by_cases hc : c.code = 0
  · have hb : ((c.code : Int) == 0) = true := by simp [hc]
    have HC := Lib.hid hc
    clear hc
    go_enter Try.func40, Try.ntmps40
    go_wp2
    go_region
    all_goals go_wp2
    go_end0
    have F : Fr [p] w ((w.setCell ⟨p, 2, none⟩ (.int .i64 k)).setCell ⟨p, 0, none⟩ (.slice ao c.at_ cap)).drew :=
      (((Fr.refl _ _).setCell (by simp) _).setCell (by simp) _).drew
    exact ⟨rfl, CurAt.of_fr F (by have := HC.out; simp only [Cur.fail, this, if_true]; exact Go.Joins.block_setCell (Go.Joins.block_setCell hh _) _) hs' (by rw [← hq]; cases ao <;> rfl) hne hle, F⟩
  · have hb : ((c.code : Int) == 0) = false := by simp; omega
    have HC := Lib.hid hc
    clear hc
    go_enter Try.func40, Try.ntmps40
    go_wp2
    go_region
    all_goals go_wp2
    go_end0
    have F : Fr [p] w (w.setCell ⟨p, 0, none⟩ (.slice ao c.at_ cap)).drew := ((Fr.refl _ _).setCell (by simp) _).drew
    exact ⟨rfl, CurAt.of_fr F (by have := HC.out; simp only [Cur.fail, this, if_false]; exact Go.Joins.block_setCell hh _) hs' (by rw [← hq]; cases ao <;> rfl) hne hle, F⟩

/-- New bytes, and the cursor behind it. -/
def TakeBytes (p : Nat) (q : Option Nat) (r : List UInt8 × Cur) (w : World) (e : Ending) (w' : World) : Prop :=
  ∃ v, e = .returned v ∧ w'.ownsRow w.heap.size 5 1 v r.1.length (bv r.1) ∧ CurAt w' p q r.2 ∧ Fr [p] w w'

set_option maxRecDepth 100000 in
theorem take_any (w : World) (p : Nat) (q : Option Nat) (c : Cur) (n : Nat) (nn : Int) (hn : nn = n) (hn64 : n < 18446744073709551616) (h : CurAt w p q c) (hb : c.b.length ≤ 140737488355328) :
    Calls Try.prog 42 #[.pointer (some ⟨p, 0, none⟩), .int .u64 nn] w (TakeBytes p q (c.take n) w) := by
  subst hn
  have hle := h.le
  have hll : c.left ≤ c.b.length := by unfold Cur.left; split <;> omega
  by_cases hc : c.left < n
  · go_enter Try.func42, Try.ntmps42
    go_wp2_with fail
    refine (left_any w p q c h).mono ?_
    rintro e w1 ⟨rfl, s1⟩
    have h1 := h.same s1
    clear h
    go_wp2_with fail
    refine (fail_any _ p q c 3 _ rfl (by decide) h1).mono ?_
    rintro e w2 ⟨rfl, hc2, hf2⟩
    go_wp2_with fail
    go_ret
    have e1 : c.take n = ([], c.fail 3) := by unfold Cur.take; rw [if_pos (.inr hc)]
    rw [e1]
    exact ⟨_, rfl, World.ownsRow_nil _ _ _ _, hc2, s1.fr.trans hf2 (by simp)⟩
  · by_cases hz : c.code = 0
    · have hb0 : ((c.code : Int) != 0) = false := by simp [hz]
      have hlv : c.live = c.b := by simp [Cur.live, hz]
      have HZ := Lib.hid hz
      have HL := Lib.hid hlv
      have hll2 : c.at_ + c.left = c.b.length := by rw [← c.live_left hle, hlv]
      have HL2 := Lib.hid hll2
      clear hz hlv hll2
      go_enter Try.func42, Try.ntmps42
      go_wp2_with fail
      refine (left_any w p q c h).mono ?_
      rintro e w1 ⟨rfl, s1⟩
      obtain ⟨ao, cap, hh, c0, c1, c2, hf, hs, hq, hl, hm⟩ := (h.same s1).out
      go_wp2_with fail
      have e1 : IntKind.i64.wrap (n : Int) = n := IntWalk.i64_in _ (by omega)
      have e2 : IntKind.i64.wrap ((c.at_ : Int) + n) = (c.at_ : Int) + n := IntWalk.i64_in _ (by omega)
      have e3 : ((c.at_ : Int) + n).toNat = c.at_ + n := by omega
      have e4 : (0 : Int) ≤ (c.at_ : Int) + n := by omega
      have e5 : (c.at_ : Int) + n ≤ (cap : Int) := by omega
      have e6 : c.at_ + n - c.at_ = n := by omega
      go_still_tail 16, (by kernel_rfl)
      have hs2 := hs.cut c.at_ (c.at_ + n) (by omega) (by omega)
      rw [e6, ← bv_drop, ← bv_take, HL.out] at hs2
      clear e1 e2 e3 e4 e5 e6
      change wpList _ _ _ _ _ w1.drew
      generalize (if cap = c.at_ then ao else Option.map (fun x => x.add c.at_) ao) = ad at hs2 ⊢
      obtain ⟨w2, hw2⟩ : ∃ w2, w2 = w1.drew := ⟨_, rfl⟩
      rw [← hw2]
      have s2 : Same w1 w2 := hw2 ▸ Same.drew
      clear hw2
      have hcc : CurAt w2 p q c := (h.same s1).same s2
      have hs3 := hs2.fr0 s2.fr
      clear hs2 hh c0 c1 c2 hf hs hq h hb0
      go_wp2_with fail
      refine (clone_any w2 _ _ hs3 (by simp; omega)).mono ?_
      rintro e w3 ⟨r, rfl, hown, hf3⟩
      have hlen : ((c.b.drop c.at_).take n).length = n := by have := HL2.out; simp; omega
      have hc3 := hcc.fr hf3 (by simp) (by simp)
      have hplt := hcc.lt
      obtain ⟨ao3, cap3, hh, c0, c1, c2, hf, hs, hq, hl3, hm3⟩ := hc3.out
      have hne := hc3.ne
      clear hcc hs3 hc3
      go_wp2
      go_ret
      have F : Fr [p] w3 (w3.setCell ⟨p, 1, none⟩ (.int .i64 (c.at_ + n))) := (Fr.refl _ _).setCell (by simp) _
      have e1 : c.take n = ((c.b.drop c.at_).take n, { c with at_ := c.at_ + n }) := by
        have := HZ.out
        unfold Cur.take; rw [if_neg (by omega)]
      rw [e1]
      refine ⟨_, rfl, ?_, ?_, ?_⟩
      · refine own_mono (own_fr hown F ?_) (by have := s1.size; have := s2.size; omega)
        intro k hk
        have := hown.lt k hk
        simp
        omega
      · refine CurAt.of_fr (c := { c with at_ := c.at_ + n }) (n := c.at_ + c.left) F ?_ ?_ hq hne (by have := HL2.out; dsimp only; omega)
        · exact Go.Joins.block_setCell hh _
        · have : ({ c with at_ := c.at_ + n } : Cur).live = c.live := by unfold Cur.live; simp [HZ.out]
          rw [this]; exact hs
      · exact ((s1.trans s2).fr.trans0 hf3).trans F (by simp)
    · have hb0 : ((c.code : Int) != 0) = true := by simp; omega
      have HZ := Lib.hid hz
      clear hz
      go_enter Try.func42, Try.ntmps42
      go_wp2_with fail
      refine (left_any w p q c h).mono ?_
      rintro e w1 ⟨rfl, s1⟩
      have h1 := h.same s1
      obtain ⟨ao, cap, hh, c0, c1, c2, hf, hs, hq, hl, hm⟩ := h1.out
      clear h
      go_wp2_with fail
      refine (fail_any _ p q c 3 _ rfl (by decide) h1).mono ?_
      rintro e w2 ⟨rfl, hc2, hf2⟩
      clear hh c0 c1 c2 hf hs hq hl hm
      go_wp2_with fail
      go_ret
      have e1 : c.take n = ([], c.fail 3) := by unfold Cur.take; rw [if_pos (.inl HZ.out)]
      rw [e1]
      exact ⟨_, rfl, World.ownsRow_nil _ _ _ _, hc2, s1.fr.trans hf2 (by simp)⟩
end Go.Proofs.Ythdfjbliafdchaa
/- Contracts: least, Num, New. No condition but that lengths fit. -/
namespace Go.Proofs.Ythdfjbliafdchaa
open Go.RowKit

theorem least_any (w : World) (v : Value) (bs : List UInt8) (h : Sl w v (bv bs)) (hb : bs.length ≤ 8) :
    Calls Try.prog 41 #[v] w fun e w' => e = .returned (.int .u64 (leNat bs)) ∧ w = w' := by
  obtain ⟨ao, cap, rfl, g, m, o⟩ := h.out
  clear h
  simp only [bv_length] at *
  go_enter Try.func41, Try.ntmps41
  go_wp2
  go_loop [3, 8] (fun v i => ∃ k : Nat, k ≤ bs.length ∧ i = .int .i64 k ∧ v = .int .u64 (leNat (bs.take k))) (fun _ i => bs.length - (intOf i).toNat)
  case atStart => exact ⟨0, Nat.zero_le _, rfl, rfl⟩
  case round =>
    obtain ⟨k, hk, rfl, rfl⟩ := hrel
    by_cases hlt : k < bs.length
    · obtain ⟨b1, of1, rfl, -, c1⟩ := o k hlt
      obtain ⟨x, hx⟩ := some_get bs k hlt
      have d1 : w.cell? ⟨b1, of1 + k, none⟩ = some (.int .u8 x.toNat) := by rw [c1 k hlt, bv_get _ _ _ hx]
      have hs := leNat_take bs k x hx
      obtain ⟨s, hs0⟩ : ∃ s, s = leNat (bs.take k) := ⟨_, rfl⟩
      rw [← hs0] at hs ⊢
      have hlt8 : s < 256 ^ k := by
        have := leNat_lt (bs.take k)
        rw [hs0]
        rwa [List.length_take_of_le (by omega)] at this
      have HB := Lib.hid (least_step s k x (by omega) hlt8)
      have HS := Lib.hid hs
      clear o c1 hx hs0 hs hlt8
      go_wp2
      go_round
      case rel => exact ⟨k + 1, by omega, by go_num, by rw [HB.out, HS.out]⟩
      case measure => simp [intOf]; omega
    · have hk2 : k = bs.length := by omega
      have HK := Lib.hid hk2
      clear hk2 o
      go_wp2
      go_ret
      exact ⟨by rw [HK.out, List.take_of_length_le (Nat.le_refl _)]; rfl, rfl⟩

/-- The cursor is new. -/
def NewCur (c : Cur) (w : World) (e : Ending) (w' : World) : Prop :=
  ∃ p q, e = .returned (.pointer (some ⟨p, 0, none⟩)) ∧ w.heap.size ≤ p ∧ (∀ k, q = some k → w.heap.size ≤ k ∧ k < p) ∧ CurAt w' p q c ∧ Fr [] w w'

theorem new_any (w : World) (v : Value) (bs : List UInt8) (h : Sl w v (bv bs)) (hb : bs.length ≤ 140737488355328) :
    Calls Try.prog 22 #[v] w (NewCur ⟨bs, 0, 0⟩ w) := by
  obtain ⟨ao, cap, rfl, g, m, o⟩ := h.out
  go_enter Try.func22, Try.ntmps22
  go_wp2_with fail
  refine (clone_any w _ bs h hb).mono ?_
  rintro e w1 ⟨r, rfl, hown, hf1⟩
  have hr := hown.lt
  have hs := Sl.of_own hown
  obtain ⟨ao2, cap2, rfl, g2, m2, o2⟩ := hs.out
  have hz := hf1.size
  clear h o o2
  go_wp2
  go_ret
  have F : Fr [] w1 (w1.alloc (.cells #[.slice ao2 (bv bs).length cap2, .int .i64 0, .int .i64 0] 80)) := (Fr.refl _ _).alloc _
  refine ⟨w1.heap.size, (Value.slice ao2 (bv bs).length cap2).ownBlock, rfl, hz, hown.lt, ⟨⟨ao2, _, cap2, ?_, hs.fr0 F, rfl⟩, Nat.zero_le _, fun hk => ?_⟩, hf1.trans0 F⟩
  · exact heap_alloc_new _ _
  · have := (hown.lt _ hk).2
    omega

theorem sized_any (w : World) (n : Int) :
    Calls Try.prog 39 #[.int .i64 n] w fun e w' => e = .returned (.bool (Cur.sized n)) ∧ w = w' := by
  by_cases h1 : n = 1
  · subst h1
    go_enter Try.func39, Try.ntmps39
    go_wp2
    go_ret
    exact ⟨rfl, rfl⟩
  · by_cases h2 : n = 2
    · subst h2
      go_enter Try.func39, Try.ntmps39
      go_wp2
      go_ret
      exact ⟨rfl, rfl⟩
    · by_cases h4 : n = 4
      · subst h4
        go_enter Try.func39, Try.ntmps39
        go_wp2
        go_ret
        exact ⟨rfl, rfl⟩
      · have b1 : (n == 1) = false := by simpa using h1
        have b2 : (n == 2) = false := by simpa using h2
        have b4 : (n == 4) = false := by simpa using h4
        have e : Cur.sized n = (n == 8) := by simp [Cur.sized, b1, b2, b4]
        rw [e]
        clear h1 h2 h4 e
        go_enter Try.func39, Try.ntmps39
        go_wp2
        go_ret
        exact ⟨rfl, rfl⟩

theorem num_any (w : World) (p : Nat) (q : Option Nat) (c : Cur) (n : Int) (h : CurAt w p q c) (hb : c.b.length ≤ 140737488355328) :
    Calls Try.prog 23 #[.pointer (some ⟨p, 0, none⟩), .int .i64 n] w fun e w' =>
      e = .returned (.int .u64 (c.num n).1) ∧ CurAt w' p q (c.num n).2 ∧ Fr [p] w w' := by
  by_cases hn : Cur.sized n = true
  · have e1 : c.num n = (leNat (c.take n.toNat).1, (c.take n.toNat).2) := by unfold Cur.num; rw [if_pos hn]
    have hr : 0 ≤ n ∧ n ≤ 8 := by unfold Cur.sized at hn; simp at hn; omega
    have hl : (c.take n.toNat).1.length ≤ 8 := by unfold Cur.take; split <;> simp; omega
    rw [e1]
    obtain ⟨m, rfl⟩ := Int.eq_ofNat_of_zero_le hr.1
    rw [Int.toNat_natCast] at *
    have HN := Lib.hid hn
    clear hn e1
    go_enter Try.func23, Try.ntmps23
    go_wp2_with fail
    refine (sized_any w _).mono ?_
    rintro e w1 ⟨rfl, rfl⟩
    rw [HN.out]
    go_wp2_with fail
    refine (take_any w p q c m _ rfl (by omega) h hb).mono ?_
    rintro e w1 ⟨r, rfl, hown, hc1, hf1⟩
    clear h
    go_wp2_with fail
    refine (least_any w1 _ _ (Sl.of_own hown) hl).mono ?_
    rintro e w2 ⟨rfl, rfl⟩
    go_wp2_with fail
    go_ret
    exact ⟨rfl, hc1, hf1⟩
  · have hn' : Cur.sized n = false := by simpa using hn
    have e1 : c.num n = (0, c.fail 3) := by unfold Cur.num; rw [if_neg hn]
    rw [e1]
    have HN := Lib.hid hn'
    clear hn hn' e1
    go_enter Try.func23, Try.ntmps23
    go_wp2_with fail
    refine (sized_any w _).mono ?_
    rintro e w1 ⟨rfl, rfl⟩
    rw [HN.out]
    go_wp2_with fail
    refine (fail_any w p q c 3 _ rfl (by decide) h).mono ?_
    rintro e w2 ⟨rfl, hc2, hf2⟩
    go_wp2_with fail
    go_ret
    exact ⟨rfl, hc2, hf2⟩
end Go.Proofs.Ythdfjbliafdchaa
/- Contracts: Len8, LeadingZeros8, Number. No condition but that lengths fit. -/
namespace Go.Proofs.Ythdfjbliafdchaa
open Go.RowKit

theorem len8_raw (x : Int) (w : World) (h0 : 0 ≤ x) (h1 : x ≤ 255) :
    Calls Try.prog 89 #[.int .u8 x] w fun e w' => e = .returned (.int .i64 (wrap64 (Lib.len8 x))) ∧ w = w' := by
  go_enter Try.func89, Try.ntmps89
  go_wp2
  go_ret
  exact ⟨rfl, rfl⟩

theorem len8_any (x : Int) (w : World) (h0 : 0 ≤ x) (h1 : x ≤ 255) :
    Calls Try.prog 89 #[.int .u8 x] w fun e w' => e = .returned (.int .i64 (Lib.bitLen x.toNat)) ∧ w = w' :=
  (len8_raw x w h0 h1).mono fun _ _ ⟨h, hw⟩ => ⟨h.trans (congrArg (fun n => Ending.returned (.int .i64 n)) (by unfold wrap64; exact Lib.len8_int x h0 h1)), hw⟩

theorem lead8_any (x : Nat) (w : World) (h1 : x < 256) :
    Calls Try.prog 82 #[.int .u8 x] w fun e w' => e = .returned (.int .i64 (8 - (Lib.bitLen x : Int))) ∧ w = w' := by
  have l := Lib.bitLen_le8 ⟨x, h1⟩
  simp only at l
  go_enter Try.func82, Try.ntmps82
  go_wp2_with fail
  refine (len8_any x w (by omega) (by omega)).mono ?_
  rintro e w1 ⟨rfl, rfl⟩
  rw [Int.toNat_natCast]
  go_wp2
  go_ret
  exact ⟨rfl, rfl⟩

theorem number_any (w : World) (p : Nat) (q : Option Nat) (c : Cur) (h : CurAt w p q c) (hb : c.b.length ≤ 140737488355328) :
    Calls Try.prog 72 #[.pointer (some ⟨p, 0, none⟩)] w fun e w' =>
      e = .returned (.int .u64 c.number.1) ∧ CurAt w' p q c.number.2 ∧ Fr [p] w w' := by
  have hle := h.le
  by_cases h0 : c.left = 0
  · have e1 : c.number = (0, c.fail 3) := by unfold Cur.number; rw [if_pos (by omega)]
    rw [e1]
    have t0 : ((c.left : Int) == 0) = true := by simp [h0]
    have H0 := Lib.hid h0
    clear h0 e1
    go_enter Try.func72, Try.ntmps72
    go_wp2_with fail
    refine (left_any w p q c h).mono ?_
    rintro e w1 ⟨rfl, s1⟩
    have h1 := h.same s1
    clear h
    go_wp2_with fail
    refine (fail_any _ p q c 3 _ rfl (by decide) h1).mono ?_
    rintro e w2 ⟨rfl, hc2, hf2⟩
    go_wp2_with fail
    go_ret
    exact ⟨rfl, hc2, s1.fr.trans hf2 (by simp)⟩
  · have t0 : ((c.left : Int) == 0) = false := by simp; omega
    have hz : c.code = 0 := by unfold Cur.left at h0; split at h0 <;> simp_all
    have hlv : c.live = c.b := by simp [Cur.live, hz]
    have hll2 : c.at_ + c.left = c.b.length := by rw [← c.live_left hle, hlv]
    obtain ⟨x, hx⟩ := some_get c.b c.at_ (by omega)
    have hhead : c.head = x.toNat := by unfold Cur.head; simp [hx]
    have hx256 := x.toNat_lt
    have hone := ones_bitLen x.toNat (by omega)
    have hole := Cur.ones_le x.toNat
    have HZ := Lib.hid hz
    have HLV := Lib.hid hlv
    have HL2 := Lib.hid hll2
    have HX := Lib.hid hx
    have HH := Lib.hid hhead
    have HO := Lib.hid hone
    clear hz hlv hll2 hx hhead hone
    go_enter Try.func72, Try.ntmps72
    go_wp2_with fail
    refine (left_any w p q c h).mono ?_
    rintro e w1 ⟨rfl, s1⟩
    have h1 := h.same s1
    clear h
    obtain ⟨ao, cap, hh, c0, c1, c2, hf, hs, hq, hl, hm⟩ := h1.out
    have hj : c.at_ < (bv c.live).length := by rw [bv_length, HLV.out]; have := HL2.out; omega
    obtain ⟨ao', cap', e0, -, -, o⟩ := hs.out
    injection e0 with e1 e2 e3
    subst e1 e3
    obtain ⟨b1, of1, rfl, -, cc⟩ := o c.at_ hj
    have d1 : w1.cell? ⟨b1, of1 + c.at_, none⟩ = some (.int .u8 x.toNat) := by rw [cc _ hj, HLV.out, bv_get _ _ _ HX.out]
    have hlt1 : (c.at_ : Int) < ((c.at_ + c.left : Nat) : Int) := by omega
    have hlt2 : (c.at_ : Int) < (c.at_ : Int) + (c.left : Int) := by omega
    clear o cc hs hq e2 hh hj
    go_wp2_with fail
    go_quiet (fail)
    go_wp2_with fail
    rw [xor_u8 _ hx256]
    refine (lead8_any (255 - x.toNat) _ (by omega)).mono ?_
    rintro e w2 ⟨rfl, hw2⟩
    rw [HO.out]
    have s2 : Same w1 w2 := hw2 ▸ Same.drewN _
    clear hw2
    obtain ⟨k, hk⟩ : ∃ k, k = Cur.ones x.toNat := ⟨_, rfl⟩
    rw [← hk] at hole ⊢
    have HK := Lib.hid hk
    clear hk d1 c0 c1 c2 hlt1 hlt2
    have h2 := h1.same s2
    clear h1
    go_wp2_with fail
    refine (left_any w2 p q c h2).mono ?_
    rintro e w3 ⟨rfl, s3⟩
    have h3 := h2.same s3
    have s03 : Same w w3 := (s1.trans s2).trans s3
    clear h2 s1 s2 s3
    by_cases hlk : c.left < 1 + k
    · have hlk' : (c.left : Int) < 1 + (k : Int) := by omega
      go_wp2_with fail
      refine (fail_any _ p q c 3 _ rfl (by decide) h3).mono ?_
      rintro e w4 ⟨rfl, hc4, hf4⟩
      go_wp2_with fail
      go_ret
      have e1 : c.number = (0, c.fail 3) := by unfold Cur.number; rw [if_pos (by rw [HH.out, ← HK.out]; exact hlk)]
      rw [e1]
      exact ⟨rfl, hc4, s03.fr.trans hf4 (by simp)⟩
    · have hlk' : 1 + (k : Int) ≤ (c.left : Int) := by omega
      obtain ⟨ao, cap, hh, c0, c1, c2, hf, hs, hq, hl, hm⟩ := h3.out
      have hne := h3.ne
      have hle1 := HL2.out
      obtain ⟨c', hc'⟩ : ∃ c' : Cur, c' = { c with at_ := c.at_ + 1 } := ⟨_, rfl⟩
      have F1 : Fr [p] w3 (w3.setCell ⟨p, 1, none⟩ (.int .i64 ((c.at_ : Int) + 1))) := (Fr.refl _ _).setCell (by simp) _
      have h4 : CurAt (w3.setCell ⟨p, 1, none⟩ (.int .i64 ((c.at_ : Int) + 1))) p q c' := by
        refine CurAt.of_fr (n := c.at_ + c.left) F1 (by rw [hc']; exact Go.Joins.block_setCell hh _) ?_ hq hne (by rw [hc']; dsimp only; omega)
        have : c'.live = c.live := by rw [hc']; unfold Cur.live; simp [HZ.out]
        rw [this]; exact hs
      have hb' : c'.b.length ≤ 140737488355328 := by rw [hc']; exact hb
      have e4 : c'.take k = ((c.b.drop (c.at_ + 1)).take k, { c with at_ := c.at_ + 1 + k }) := by
        have hz := HZ.out
        rw [hc']
        unfold Cur.take Cur.left
        simp only [hz, if_true]
        rw [if_neg (by simp; omega)]
      have E4 := Lib.hid e4
      have e5 : c.number = (leNat ((c.b.drop (c.at_ + 1)).take k) + 256 ^ k * (if k < 7 then x.toNat % 2 ^ (7 - k) else 0), { c with at_ := c.at_ + 1 + k }) := by
        unfold Cur.number; rw [if_neg (by rw [HH.out, ← HK.out]; exact hlk), HH.out, ← HK.out]
      have E5 := Lib.hid e5
      have hlen : ((c.b.drop (c.at_ + 1)).take k).length = k := by simp; omega
      clear hs hq hl hh e4 e5 hc' h3 hle1 hlen
      go_wp2_with fail
      refine (take_any _ p q c' k _ rfl (by omega) h4 hb').mono ?_
      rintro e w5 ⟨r, rfl, hown, hc5, hf5⟩
      rw [E4.out] at hown hc5
      clear h4 c0 c1 c2 hf
      go_wp2_with fail
      refine (least_any w5 _ _ (Sl.of_own hown) (by simp; omega)).mono ?_
      rintro e w6 ⟨rfl, rfl⟩
      have F : Fr [p] w w5 := (s03.fr.trans F1 (by simp)).trans hf5 (by simp)
      by_cases hk7 : k < 7
      · have hk7' : (k : Int) < 7 := by omega
        go_wp2_with fail
        go_ret
        rw [E5.out]
        refine ⟨?_, hc5, F⟩
        have hsl : leNat (List.take k (List.drop (c.at_ + 1) c.b)) < 256 ^ k := by
          have := leNat_lt (List.take k (List.drop (c.at_ + 1) c.b))
          rwa [List.length_take_of_le (by have := HL2.out; simp; omega)] at this
        have hm := mask_u8 k x.toNat (by omega) (by omega)
        have hlt : x.toNat % 2 ^ (7 - k) < 256 := Nat.lt_of_le_of_lt (Nat.mod_le _ _) (by omega)
        obtain ⟨y, hy⟩ : ∃ y : UInt8, y.toNat = x.toNat % 2 ^ (7 - k) := ⟨UInt8.ofNat (x.toNat % 2 ^ (7 - k)), by simp; omega⟩
        have hst := least_step _ k y (by omega) hsl
        rw [hy] at hst
        simp only [hk7, if_true]
        rw [← hst, ← hm]
        rfl
      · have hk7' : 7 ≤ (k : Int) := by omega
        have HK7 := Lib.hid hk7
        clear hk7
        go_wp2_with fail
        go_ret
        rw [E5.out]
        refine ⟨?_, hc5, F⟩
        simp [HK7.out]
end Go.Proofs.Ythdfjbliafdchaa
/- Contracts: Bits. No condition but that lengths fit. -/
namespace Go.Proofs.Ythdfjbliafdchaa
open Go.RowKit

theorem info_bool : (Try.prog.info? 4).map (fun i => (i.zero, i.size, i.bytes)) = some (some (.bool false), 1, 1) := by kernel_rfl
theorem sty_bool : SlTy Try.prog 108 4 (.bool false) 1 := ⟨Try.underlying108, by obtain ⟨i, h⟩ := info_parts info_bool; exact ⟨i, h⟩, rfl⟩

/-- How many were read is written anew. -/
theorem CurAt.setAt {w : World} {p : Nat} {q : Option Nat} {c : Cur} (h : CurAt w p q c) (n : Nat) (hz : c.code = 0) (hn : n ≤ c.b.length) :
    CurAt (w.setCell ⟨p, 1, none⟩ (.int .i64 n)) p q { c with at_ := n } ∧ Fr [p] w (w.setCell ⟨p, 1, none⟩ (.int .i64 n)) := by
  have F : Fr [p] w (w.setCell ⟨p, 1, none⟩ (.int .i64 n)) := (Fr.refl _ _).setCell (by simp) _
  obtain ⟨ao, m, cap, h1, h2, h3⟩ := h.ok
  refine ⟨CurAt.of_fr (c := { c with at_ := n }) (n := m) F (Go.Joins.block_setCell h1 _) ?_ h3 h.ne hn, F⟩
  have : ({ c with at_ := n } : Cur).live = c.live := by unfold Cur.live; simp [hz]
  rw [this]; exact h2

/-- New bits, and the cursor behind it. -/
def TakeBits (p : Nat) (q : Option Nat) (r : List Bool × Cur) (w : World) (e : Ending) (w' : World) : Prop :=
  ∃ v, e = .returned v ∧ w'.ownsRow w.heap.size 4 1 v r.1.length (tv r.1) ∧ CurAt w' p q r.2 ∧ Fr [p] w w'

set_option maxHeartbeats 1000000 in
theorem bits_fail (w : World) (p : Nat) (q : Option Nat) (c : Cur) (n : Int) (hn : -9223372036854775808 ≤ n ∧ n ≤ 9223372036854775807) (h : CurAt w p q c) (hf : c.code ≠ 0 ∨ n < 0 ∨ c.left < (n.toNat + 7) / 8) :
    Calls Try.prog 73 #[.pointer (some ⟨p, 0, none⟩), .int .i64 n] w (TakeBits p q ([], c.fail 3) w) := by
  have hcap : c.at_ + c.left ≤ 9223372036854775807 := by
    obtain ⟨_, cap, _, _, _, _, _, _, _, h1, h2⟩ := h.out
    omega
  by_cases h0 : n < 0
  · go_enter Try.func73, Try.ntmps73
    go_wp2_with fail
    refine (fail_any _ p q c 3 _ rfl (by decide) h).mono ?_
    rintro e w2 ⟨rfl, hc2, hf2⟩
    go_wp2_with fail
    go_ret
    exact ⟨_, rfl, World.ownsRow_nil _ _ _ _, hc2, hf2⟩
  · obtain ⟨n, rfl⟩ := Int.eq_ofNat_of_zero_le (show 0 ≤ n by omega)
    rw [Int.toNat_natCast] at hf
    by_cases h1 : c.left < n / 8
    · have h1' : (c.left : Int) < (n : Int) / 8 := by omega
      clear hf
      go_enter Try.func73, Try.ntmps73
      go_wp2_with fail
      refine (left_any w p q c h).mono ?_
      rintro e w1 ⟨rfl, s1⟩
      have hc1 := h.same s1
      go_wp2_with fail
      refine (fail_any _ p q c 3 _ rfl (by decide) hc1).mono ?_
      rintro e w2 ⟨rfl, hc2, hf2⟩
      clear h hc1
      go_wp2_with fail
      go_ret
      exact ⟨_, rfl, World.ownsRow_nil _ _ _ _, hc2, s1.fr.trans hf2 (by simp)⟩
    · have h1' : (n : Int) / 8 ≤ (c.left : Int) := by omega
      by_cases h2 : c.left < (n + 7) / 8
      · have h2' : (c.left : Int) < ((n : Int) - (n : Int) / 8 * 8 + 7) / 8 + (n : Int) / 8 := by omega
        clear hf
        go_enter Try.func73, Try.ntmps73
        go_wp2_with fail
        refine (left_any w p q c h).mono ?_
        rintro e w1 ⟨rfl, s1⟩
        have hc1 := h.same s1
        go_wp2_with fail
        refine (left_any w1 p q c hc1).mono ?_
        rintro e w2 ⟨rfl, s2⟩
        have hc2 := hc1.same s2
        go_wp2_with fail
        refine (fail_any _ p q c 3 _ rfl (by decide) hc2).mono ?_
        rintro e w3 ⟨rfl, hc3, hf3⟩
        clear h hc1 hc2
        go_wp2_with fail
        go_ret
        exact ⟨_, rfl, World.ownsRow_nil _ _ _ _, hc3, (s1.trans s2).fr.trans hf3 (by simp)⟩
      · have h2' : ((n : Int) - (n : Int) / 8 * 8 + 7) / 8 + (n : Int) / 8 ≤ (c.left : Int) := by omega
        have hz : ((c.code : Int) != 0) = true := by rw [bne_iff_ne]; omega
        clear hf
        go_enter Try.func73, Try.ntmps73
        go_wp2_with fail
        refine (left_any w p q c h).mono ?_
        rintro e w1 ⟨rfl, s1⟩
        have hc1 := h.same s1
        go_wp2_with fail
        refine (left_any w1 p q c hc1).mono ?_
        rintro e w2 ⟨rfl, s2⟩
        have hc2 := hc1.same s2
        obtain ⟨ao, cap, hh, d0, d1, d2, hfz, hs, hq, hl, hm⟩ := hc2.out
        clear hh hs hq hl hm
        go_wp2_with fail
        refine (fail_any _ p q c 3 _ rfl (by decide) hc2).mono ?_
        rintro e w3 ⟨rfl, hc3, hf3⟩
        clear h hc1 hc2 d0 d1 d2 hfz
        go_wp2_with fail
        go_ret
        exact ⟨_, rfl, World.ownsRow_nil _ _ _ _, hc3, (s1.trans s2).fr.trans hf3 (by simp)⟩

end Go.Proofs.Ythdfjbliafdchaa
/- Contract: Bits. No condition but that lengths fit. -/
namespace Go.Proofs.Ythdfjbliafdchaa
open Go.RowKit

theorem cut_block (ao : Option Addr) (cap l a b a' b' : Nat) : (Value.slice (if cap = l then ao else Option.map (fun x => x.add l) ao) a b).ownBlock = (Value.slice ao a' b').ownBlock := by
  by_cases h : cap = l
  · rw [if_pos h]; cases ao <;> rfl
  · rw [if_neg h]
    cases ao with
    | none => rfl
    | some x => simp only [Option.map_some, Value.ownBlock, Addr.add]; split <;> rfl

set_option maxHeartbeats 1000000 in
theorem bits_ok (w : World) (p : Nat) (q : Option Nat) (c : Cur) (n : Nat) (h : CurAt w p q c) (hz : c.code = 0) (hl : (n + 7) / 8 ≤ c.left) (hb : c.b.length ≤ 140737488355328 / 16) :
    Calls Try.prog 73 #[.pointer (some ⟨p, 0, none⟩), .int .i64 n] w (TakeBits p q (c.bits n) w) := by
  have hle := h.le
  have hlv : c.live = c.b := by simp [Cur.live, hz]
  have hll : c.at_ + c.left = c.b.length := by rw [← c.live_left hle, hlv]
  have hnb : n ≤ 70368744177664 := by omega
  have h1' : (n : Int) / 8 ≤ (c.left : Int) := by omega
  have h2' : ((n : Int) - (n : Int) / 8 * 8 + 7) / 8 + (n : Int) / 8 ≤ (c.left : Int) := by omega
  have hz' : ((c.code : Int) != 0) = false := by simp [hz]
  have HZ := Lib.hid hz
  have HLV := Lib.hid hlv
  have HLL := Lib.hid hll
  obtain ⟨N, hN⟩ : ∃ N, N = (n + 7) / 8 := ⟨_, rfl⟩
  have hNl : N ≤ c.left := by omega
  have HN := Lib.hid hN
  have hab : c.at_ + N ≤ 8796093022208 := by omega
  have eN : (n : Int) / 8 + ((n : Int) % 8 + 7) / 8 = (N : Int) := by omega
  clear hz hlv hll hN
  go_enter Try.func73, Try.ntmps73
  go_wp2_with fail
  refine (left_any w p q c h).mono ?_
  rintro e w1 ⟨rfl, s1⟩
  have hc1 := h.same s1
  go_wp2_with fail
  refine (left_any w1 p q c hc1).mono ?_
  rintro e w2 ⟨rfl, s2⟩
  have hc2 := hc1.same s2
  obtain ⟨ao, cap, hh, d0, d1, d2, hfz, hs, hq, hl2, hm⟩ := hc2.out
  clear hh h hc1
  go_wp2_with fail
  have e1 : IntKind.i64.wrap ((n : Int) / 8) = (n : Int) / 8 := IntWalk.i64_in _ (by omega)
  have e2 : IntKind.i64.wrap ((c.at_ : Int) + (n : Int) / 8) = (c.at_ : Int) + (n : Int) / 8 := IntWalk.i64_in _ (by omega)
  have e3 : (n : Int).tmod 8 = (n : Int) % 8 := Int.tmod_eq_emod_of_nonneg (by omega)
  have e4 : IntKind.i64.wrap ((n : Int) % 8 + 7) = (n : Int) % 8 + 7 := IntWalk.i64_in _ (by omega)
  have e5 : ((n : Int) % 8 + 7).tdiv 8 = ((n : Int) % 8 + 7) / 8 := Int.tdiv_eq_ediv_of_nonneg (by omega)
  have e6 : IntKind.i64.wrap (((n : Int) % 8 + 7) / 8) = ((n : Int) % 8 + 7) / 8 := IntWalk.i64_in _ (by omega)
  have e7 : IntKind.i64.wrap ((c.at_ : Int) + (n : Int) / 8 + ((n : Int) % 8 + 7) / 8) = (c.at_ : Int) + (N : Int) := by rw [IntWalk.i64_in _ (by omega)]; omega
  have e8 : (0 : Int) ≤ (c.at_ : Int) + (N : Int) := by omega
  have e9 : (c.at_ : Int) + (N : Int) ≤ (cap : Int) := by omega
  have e10 : ((c.at_ : Int) + (N : Int)).toNat = c.at_ + N := by omega
  have e11 : c.at_ + N - c.at_ = N := by omega
  have E := Lib.hid eN
  clear eN
  go_quiet (fail)
  have hs2 := hs.cut c.at_ (c.at_ + N) (by omega) (by omega)
  rw [e11, ← bv_drop, ← bv_take, HLV.out] at hs2
  have hrow : (c.b.drop c.at_).take N = c.row n := by unfold Cur.row; rw [← HN.out]
  rw [hrow] at hs2
  have hqb : (Value.slice (if cap = c.at_ then ao else Option.map (fun x => x.add c.at_) ao) N (cap - c.at_)).ownBlock = q := by
    rw [← hq, cut_block]
  have hrl : (c.row n).length = N := by rw [← hrow]; have := HLL.out; simp; omega
  clear e1 e2 e3 e4 e5 e6 e7 e8 e9 e10 e11 d0 d1 d2 hfz hs hrow hq
  generalize (if cap = c.at_ then ao else Option.map (fun x => x.add c.at_) ao) = ad at hs2 hqb ⊢
  obtain ⟨wA, hwA⟩ : ∃ wA, wA = w2.drewN nq := ⟨_, rfl⟩
  rw [← hwA]
  have sA : Same w wA := (s1.trans s2).trans ⟨_, hwA⟩
  have hcA : CurAt wA p q c := hc2.same ⟨_, hwA⟩
  have hsA : Sl wA (.slice ad N (cap - c.at_)) (bv (c.row n)) := hs2.fr0 (Same.fr ⟨_, hwA⟩)
  obtain ⟨R, hR⟩ : ∃ R, R = c.row n := ⟨_, rfl⟩
  rw [← hR] at hsA hrl
  have HR := Lib.hid hR
  clear hwA s1 s2 hc2 hs2 hR
  obtain ⟨d0, hh, d1⟩ : ∃ x, wA.heap[p]? = some x ∧ wA.cell? ⟨p, 1, none⟩ = some (.int .i64 c.at_) := by
    obtain ⟨_, _, g0, _, g1, _⟩ := hcA.out; exact ⟨_, g0, g1⟩
  have hfz : ∀ j, wA.frozen? ⟨p, j, none⟩ = false := by
    obtain ⟨_, _, _, _, _, _, g, _⟩ := hcA.out; exact g
  obtain ⟨hset, F1⟩ := hcA.setAt (c.at_ + N) HZ.out (by have := HLL.out; omega)
  rw [Int.natCast_add] at hset F1
  have hne := hcA.ne
  have hsB := hsA.fr F1 (fun k hk => by rintro h; simp at h; subst h; exact hne (hqb ▸ hk))
  obtain ⟨wB, hwB⟩ : ∃ wB, wB = wA.setCell ⟨p, 1, none⟩ (.int .i64 ((c.at_ : Int) + (N : Int))) := ⟨_, rfl⟩
  rw [← hwB] at hset F1 hsB
  have HWB := Lib.hid hwB
  have hgA := hsA.out
  have hgB := hsB.out
  have F2 : Fr [p] w wB := sA.fr.trans F1 (by simp)
  obtain ⟨ao', cap', e0, -, -, o⟩ := hsA.out
  rw [bv_length, hrl] at o
  injection e0 with e1 e2 e3
  subst e1
  have HO := Lib.hid o
  obtain ⟨ao', cap'', e0, -, -, o2⟩ := hsB.out
  rw [bv_length, hrl] at o2
  injection e0 with e1 e4 e5
  subst e1
  have HOB := Lib.hid o2
  have HRL := Lib.hid hrl
  clear e2 e3 e4 e5 o o2 hwB hgA hgB F1 hsA hsB hh hne hqb hrl
  have t8 : (0 : Int) ≤ (n : Int) % 8 := by omega
  have t9 : (n : Int) % 8 ≤ 7 := by omega
  by_cases h8 : n % 8 = 0
  · have h8' : ((n : Int) % 8 != 0) = false := by simp; omega
    have hp : padded R n = false := by simp [padded, h8]
    have HP := Lib.hid hp
    clear hp h8
    go_wp2_with fail
    rw [← HWB.out]
    clear d1 hfz
    go_loopw [6, 89] (fun out i wr => ∃ k : Nat, k ≤ n ∧ i = .int .i64 k ∧ wr.ownsRow wB.heap.size 4 1 out k (tv (unpack R k)) ∧ Fr [] wB wr) (fun _ i _ => n - (intOf i).toNat)
    case atStart => exact ⟨0, Nat.zero_le _, rfl, World.ownsRow_nil _ _ _ _, Fr.refl _ _⟩
    case round =>
      obtain ⟨k, hk, rfl, hown, hF⟩ := hrel
      by_cases hlt : k < n
      · have hlt' : (k : Int) < (n : Int) := by omega
        have hkN : k / 8 < N := by have := HN.out; omega
        obtain ⟨b1, of1, rfl, hbl, cc⟩ := HOB.out (k / 8) hkN
        obtain ⟨y, hy⟩ := some_get R (k / 8) (by rw [HRL.out]; omega)
        have d1 : wr.cell? ⟨b1, of1 + k / 8, none⟩ = some (.int .u8 y.toNat) := by rw [hF.cell (p := ⟨b1, of1 + k / 8, none⟩) hbl (by simp), cc _ hkN, bv_get _ _ _ hy]
        have hkN' : (k : Int) / 8 < (N : Int) := by omega
        have HB := Lib.hid (bit_read R k y hy)
        clear cc hy
        go_wp2_with (at_builtin; refine wpList_append_one sty_bool rfl _ _ rfl hF _ _ _ (by rfl) hown _ (by rfl) (by rfl) ?_ ?_ ?_)
        · omega
        · omega
        intro v3 w3 hown3 hF3
        rw [HB.out] at hown3
        clear hown hF HB
        go_wp2_with fail
        go_roundw
        case rel => exact ⟨k + 1, by omega, by go_num, by rw [unpack_succ, tv_append]; exact hown3, hF3⟩
        case measure => simp [intOf]; omega
      · have hlt' : (n : Int) ≤ (k : Int) := by omega
        have hkn : k = n := by omega
        have HK := Lib.hid hkn
        clear hkn
        go_wp2_with fail
        go_ret
        rw [HK.out] at hown
        have e : c.bits n = (unpack R n, { c with at_ := c.at_ + N }) := by
          unfold Cur.bits
          rw [if_neg (by have := HZ.out; rw [Int.toNat_natCast]; omega), Int.toNat_natCast, ← HR.out, HP.out]
          simp [HN.out]
        rw [e]
        refine ⟨_, rfl, ?_, hset.fr hF (by simp) (by simp), F2.trans0 hF⟩
        rw [unpack_length]
        exact own_mono hown F2.size
  · have h8' : ((n : Int) % 8 != 0) = true := by rw [bne_iff_ne]; omega
    have hlt : n / 8 < N := by have := HN.out; omega
    have hlt' : (n : Int) / 8 < (N : Int) := by omega
    obtain ⟨b1, of1, rfl, -, cc⟩ := HO.out (n / 8) hlt
    obtain ⟨y, hy⟩ := some_get R (n / 8) (by rw [HRL.out]; omega)
    have d2 : wA.cell? ⟨b1, of1 + n / 8, none⟩ = some (.int .u8 y.toNat) := by rw [cc _ hlt, bv_get _ _ _ hy]
    have hps := pad_shl R n y hy h8
    clear cc hy h8
    by_cases hp : padded R n = true
    · rw [hp] at hps
      have HP := Lib.hid hp
      clear hp
      go_wp2_with fail
      refine (fail_any _ p q c 5 _ rfl (by decide) hcA).mono ?_
      rintro e w3 ⟨rfl, hc3, hf3⟩
      clear d1 d2 hfz hcA
      go_wp2_with fail
      go_ret
      have e : c.bits n = ([], c.fail 5) := by
        unfold Cur.bits
        rw [if_neg (by have := HZ.out; rw [Int.toNat_natCast]; omega), Int.toNat_natCast, ← HR.out, HP.out]
        rfl
      rw [e]
      exact ⟨_, rfl, World.ownsRow_nil _ _ _ _, hc3, sA.fr.trans hf3 (by simp)⟩
    · have hp' : padded R n = false := by simpa using hp
      rw [hp'] at hps
      have HP := Lib.hid hp'
      clear hp hp'
      go_wp2_with fail
      rw [← HWB.out]
      clear d1 hfz
      go_loopw [6, 89] (fun out i wr => ∃ k : Nat, k ≤ n ∧ i = .int .i64 k ∧ wr.ownsRow wB.heap.size 4 1 out k (tv (unpack R k)) ∧ Fr [] wB wr) (fun _ i _ => n - (intOf i).toNat)
      case atStart => exact ⟨0, Nat.zero_le _, rfl, World.ownsRow_nil _ _ _ _, Fr.refl _ _⟩
      case round =>
        obtain ⟨k, hk, rfl, hown, hF⟩ := hrel
        by_cases hlt : k < n
        · have hlt' : (k : Int) < (n : Int) := by omega
          have hkN : k / 8 < N := by have := HN.out; omega
          obtain ⟨b3, of3, he, hbl, cc⟩ := HOB.out (k / 8) hkN
          cases he
          obtain ⟨y, hy⟩ := some_get R (k / 8) (by rw [HRL.out]; omega)
          have d1 : wr.cell? ⟨b1, of1 + k / 8, none⟩ = some (.int .u8 y.toNat) := by rw [hF.cell (p := ⟨b1, of1 + k / 8, none⟩) hbl (by simp), cc _ hkN, bv_get _ _ _ hy]
          have hkN' : (k : Int) / 8 < (N : Int) := by omega
          have HB := Lib.hid (bit_read R k y hy)
          clear cc hy
          go_wp2_with (at_builtin; refine wpList_append_one sty_bool rfl _ _ rfl hF _ _ _ (by rfl) hown _ (by rfl) (by rfl) ?_ ?_ ?_)
          · omega
          · omega
          intro v3 w3 hown3 hF3
          rw [HB.out] at hown3
          clear hown hF HB
          go_wp2_with fail
          go_roundw
          case rel => exact ⟨k + 1, by omega, by go_num, by rw [unpack_succ, tv_append]; exact hown3, hF3⟩
          case measure => simp [intOf]; omega
        · have hlt' : (n : Int) ≤ (k : Int) := by omega
          have hkn : k = n := by omega
          have HK := Lib.hid hkn
          clear hkn
          go_wp2_with fail
          go_ret
          rw [HK.out] at hown
          have e : c.bits n = (unpack R n, { c with at_ := c.at_ + N }) := by
            unfold Cur.bits
            rw [if_neg (by have := HZ.out; rw [Int.toNat_natCast]; omega), Int.toNat_natCast, ← HR.out, HP.out]
            simp [HN.out]
          rw [e]
          refine ⟨_, rfl, ?_, hset.fr hF (by simp) (by simp), F2.trans0 hF⟩
          rw [unpack_length]
          exact own_mono hown F2.size

theorem bits_any (w : World) (p : Nat) (q : Option Nat) (c : Cur) (n : Int) (hn : -9223372036854775808 ≤ n ∧ n ≤ 9223372036854775807) (h : CurAt w p q c) (hb : c.b.length ≤ 140737488355328 / 16) :
    Calls Try.prog 73 #[.pointer (some ⟨p, 0, none⟩), .int .i64 n] w (TakeBits p q (c.bits n) w) := by
  by_cases hf : c.code ≠ 0 ∨ n < 0 ∨ c.left < (n.toNat + 7) / 8
  · have e : c.bits n = ([], c.fail 3) := by unfold Cur.bits; rw [if_pos hf]
    rw [e]
    exact bits_fail w p q c n hn h hf
  · obtain ⟨m, rfl⟩ := Int.eq_ofNat_of_zero_le (show 0 ≤ n by omega)
    rw [Int.toNat_natCast] at hf
    exact bits_ok w p q c m h (by omega) (by omega) hb
end Go.Proofs.Ythdfjbliafdchaa
/- Contract: Told. No condition but that lengths fit. -/
namespace Go.Proofs.Ythdfjbliafdchaa
open Go.RowKit

theorem set_true (k n : Nat) (h : k < n) : (tv (List.replicate k true ++ List.replicate (n - k) false)).set k (.bool true) = tv (List.replicate (k + 1) true ++ List.replicate (n - (k + 1)) false) := by
  obtain ⟨m, rfl⟩ : ∃ m, n = k + 1 + m := ⟨n - k - 1, by omega⟩
  rw [show k + 1 + m - k = m + 1 from by omega, show k + 1 + m - (k + 1) = m from by omega, tv_append, List.set_append_right _ _ (by simp [tv_length])]
  rw [show List.replicate (k + 1) true = List.replicate k true ++ [true] from List.replicate_succ' ..]
  simp [tv, List.replicate_succ (n := m)]

set_option maxRecDepth 100000 in
set_option maxHeartbeats 1000000 in
theorem told_any (w : World) (p : Nat) (q : Option Nat) (c : Cur) (n : Int) (hn : -9223372036854775808 ≤ n ∧ n ≤ 1073741824) (h : CurAt w p q c) (hb : c.b.length ≤ 140737488355328 / 16) :
    Calls Try.prog 77 #[.pointer (some ⟨p, 0, none⟩), .int .i64 n] w (TakeBits p q (c.told n) w) := by
  obtain ⟨_, _, _, _, d1, _⟩ := h.out
  by_cases hl : c.left < 1
  · have e : c.num 1 = (0, c.fail 3) := by
      unfold Cur.num Cur.take Cur.sized
      simp only [BEq.rfl, Bool.true_or, if_true]
      rw [if_pos (.inr (by simpa using hl))]; rfl
    have e2 : c.told n = ([], c.fail 3) := by unfold Cur.told; rw [if_pos (.inl hl)]
    have hz : (((c.fail 3).code : Int) != 0) = true := by
      rw [bne_iff_ne]; unfold Cur.fail; dsimp only; split <;> omega
    have E := Lib.hid e
    have E2 := Lib.hid e2
    clear e e2
    go_enter Try.func77, Try.ntmps77
    go_wp2_with fail
    refine (num_any w p q c 1 h (by omega)).mono ?_
    rintro e w1 ⟨rfl, hc1, hf1⟩
    rw [E.out] at hc1 ⊢
    obtain ⟨_, _, _, _, _, d2, _⟩ := hc1.out
    clear d1 h
    go_wp2_with fail
    go_ret
    rw [E2.out]
    exact ⟨_, rfl, World.ownsRow_nil _ _ _ _, hc1, hf1⟩
  · have hcz : c.code = 0 := by unfold Cur.left at hl; split at hl <;> simp_all
    have hle := h.le
    have hll : c.at_ + c.left = c.b.length := by rw [← c.live_left hle]; simp [Cur.live, hcz]
    obtain ⟨y, hy⟩ := some_get c.b c.at_ (by omega)
    have hhead : c.head = y.toNat := by unfold Cur.head; simp [hy]
    have hy8 := y.toNat_lt
    have e : c.num 1 = (y.toNat, { c with at_ := c.at_ + 1 }) := by
      unfold Cur.num Cur.take Cur.sized
      simp only [BEq.rfl, Bool.true_or, if_true]
      rw [if_neg (by simp [hcz]; omega)]
      have h1 : (c.b.drop c.at_).take (Int.toNat 1) = [y] := by
        show (c.b.drop c.at_).take 1 = [y]
        rw [List.take_one, List.head?_drop, hy]; rfl
      rw [h1]
      simp [leNat]
    have E := Lib.hid e
    have HZ := Lib.hid hcz
    have HH := Lib.hid hhead
    have HLL := Lib.hid hll
    have hz1 : ((c.code : Int) != 0) = false := by simp [hcz]
    clear e hcz hy hhead hll
    go_enter Try.func77, Try.ntmps77
    go_wp2_with fail
    refine (num_any w p q c 1 h (by omega)).mono ?_
    rintro e w1 ⟨rfl, hc1, hf1⟩
    rw [E.out] at hc1 ⊢
    obtain ⟨ao, cap, hh, d0, d1', d2, hfz, _⟩ := hc1.out
    clear d1 h hh d0
    obtain ⟨hset, F1⟩ := hc1.setAt c.at_ HZ.out hle
    by_cases hneg : n < 0
    · have e2 : c.told n = ([], c.fail 3) := by unfold Cur.told; rw [if_pos (.inr hneg)]
      have E2 := Lib.hid e2
      clear e2
      go_wp2_with fail
      refine (fail_any _ p q c 3 _ rfl (by decide) hset).mono ?_
      rintro e w2 ⟨rfl, hc2, hf2⟩
      clear d1' d2 hfz
      go_wp2_with fail
      go_ret
      rw [E2.out]
      exact ⟨_, rfl, World.ownsRow_nil _ _ _ _, hc2, (hf1.trans F1 (by simp)).trans hf2 (by simp)⟩
    · obtain ⟨m, rfl⟩ := Int.eq_ofNat_of_zero_le (show 0 ≤ n by omega)
      have hcond : ¬ (c.left < 1 ∨ (m : Int) < 0) := by omega
      by_cases h1 : y.toNat = 1
      · have t1 : ((y.toNat : Int) == 1) = true := by simp [h1]
        have e2 : c.told m = (List.replicate m true, { c with at_ := c.at_ + 1 }) := by
          unfold Cur.told; rw [if_neg hcond, if_pos (by rw [HH.out, h1])]; rfl
        have E2 := Lib.hid e2
        obtain ⟨i0, hi0, hz0, hs0, hb0⟩ := info_parts info_bool
        have hb0' : i0.bytes * m ≤ 281474976710656 := by rw [hb0]; omega
        clear e2 hcond h1 hset F1
        have HC1 := Lib.hid hc1
        clear hc1
        go_wp2_with (at_make; refine wpList_make_full _ rfl _ _ _ rfl w1.heap.size _ i0 _ _ Try.underlying108 hi0 hz0 hs0 _ _ _ _ m (by rfl) (by rfl) rfl rfl hb0' ?_ ?_ ?_)
        · unfold maxLen; omega
        · omega
        intro w2 hown2 hg2
        have hf2 : Fr [] w1 w2 := (Fr.refl _ _).grown hg2 (by simp)
        have e3 : List.replicate m (Value.bool false) = tv (List.replicate m false) := by simp [tv]
        rw [toList_madeCells_one, e3] at hown2
        clear hg2 e3 hi0 hz0 hs0 hb0 hb0' d1' d2 hfz
        go_wp2_with fail
        go_loopw [8, 38] (fun j i wr => ∃ k : Nat, k ≤ m ∧ i = .int .i64 k ∧ wr.ownsRow w1.heap.size 4 1 (.slice (some ⟨w1.heap.size, 0, none⟩) m m) m (tv (List.replicate k true ++ List.replicate (m - k) false)) ∧ Fr [] w1 wr) (fun _ i _ => m - (intOf i).toNat)
        case atStart => exact ⟨0, Nat.zero_le _, rfl, by simpa using hown2, hf2⟩
        case round =>
          obtain ⟨k, hk, rfl, hown, hF⟩ := hrel
          clear hown2 hf2
          by_cases hlt : k < m
          · have hlt' : (k : Int) < (m : Int) := by omega
            have hcell := hown.cellAt k (by omega)
            obtain ⟨x, hx⟩ := some_get (tv (List.replicate k true ++ List.replicate (m - k) false)) k (by rw [tv_length]; simp; omega)
            rw [hx] at hcell
            have hfz := hown.frozenAt k
            have hst := (hown.stored k (.bool true)).1
            rw [set_true k m hlt] at hst
            have hF' : Fr [] w1 (wr.setCell ⟨w1.heap.size, k, none⟩ (.bool true)) := hF.setCell (by simp) _
            clear hx hown hF
            go_wp2_with fail
            go_roundw
            case rel => exact ⟨k + 1, by omega, by go_num, hst, hF'⟩
            case measure => simp [intOf]; omega
          · have hlt' : (m : Int) ≤ (k : Int) := by omega
            have hkm : k = m := by omega
            have HK := Lib.hid hkm
            clear hkm
            go_wp2_with fail
            go_ret
            rw [E2.out]
            rw [HK.out, Nat.sub_self] at hown
            refine ⟨_, rfl, ?_, HC1.out.fr hF (by simp) (by simp), hf1.trans0 hF⟩
            rw [List.length_replicate]
            exact own_mono (by simpa using hown) hf1.size
      · by_cases h0 : y.toNat = 0
        · have t1 : ((y.toNat : Int) == 1) = false := by simp; omega
          have t0 : ((y.toNat : Int) == 0) = true := by simp [h0]
          obtain ⟨c1, hc1e⟩ : ∃ c1 : Cur, c1 = { c with at_ := c.at_ + 1 } := ⟨_, rfl⟩
          obtain ⟨B, hB⟩ : ∃ B, B = c1.bits m := ⟨_, rfl⟩
          have hbits := bits_any w1 p q c1 m (by omega) (hc1e ▸ hc1) (by rw [hc1e]; exact hb)
          rw [← hB] at hbits
          have HB := Lib.hid hbits
          have e2 : c.told m = if B.2.code ≠ 0 then ([], { B.2 with at_ := c.at_ }) else B := by
            unfold Cur.told; rw [if_neg hcond, if_neg (by rw [HH.out]; exact h1), if_pos (by rw [HH.out]; exact h0), hB, hc1e]
          have hB2 : B.2.code = 0 ∨ B.1 = [] ∧ ∃ kk, kk ≠ 0 ∧ B.2 = c1.fail kk := by
            rw [hB]; unfold Cur.bits; split
            · exact .inr ⟨rfl, 3, by decide, rfl⟩
            · split
              · exact .inr ⟨rfl, 5, by decide, rfl⟩
              · left; rw [hc1e]; exact HZ.out
          have E2 := Lib.hid e2
          have HC1E := Lib.hid hc1e
          clear e2 hcond h1 h0 hc1e hB hbits hset F1
          go_wp2_with (go_at_call 73; refine HB.out.mono ?_)
          rintro e w2 ⟨r, rfl, hown2, hc2, hf2⟩
          have hc1lt : p < w1.heap.size := hc1.lt
          clear d1' d2 hfz hc1
          obtain ⟨ao2, cap2, hh2, g0, g1, g2, gfz, gs, gq, gl, gm⟩ := hc2.out
          have hne2 := hc2.ne
          rcases hB2 with hz | ⟨hb1, kk, hkk, hz⟩
          · have t2 : ((B.2.code : Int) != 0) = false := by simp [hz]
            have HZ2 := Lib.hid hz
            clear hz hh2 gs gq
            go_wp2_with fail
            go_ret
            rw [E2.out, if_neg (by rw [HZ2.out]; simp)]
            exact ⟨_, rfl, own_mono hown2 hf1.size, hc2, hf1.trans hf2 (by simp)⟩
          · have hcode : B.2.code = kk := by rw [hz, HC1E.out]; unfold Cur.fail; simp [HZ.out]
            have t2 : ((B.2.code : Int) != 0) = true := by rw [bne_iff_ne, hcode]; omega
            have hat : B.2.at_ = c.at_ + 1 := by rw [hz, HC1E.out]; rfl
            have hBb : B.2.b = c.b := by rw [hz, HC1E.out]; rfl
            have hle3 : (c.at_ : Int) ≤ (cap2 : Int) := by omega
            have hgs := gs.first c.at_ (by omega)
            have hlive : ({ B.2 with at_ := c.at_ } : Cur).live = B.2.live.take c.at_ := by
              unfold Cur.live
              simp only [hcode, hkk, if_false, hat, hBb, List.take_take]
              congr 1; omega
            rw [← bv_take, ← hlive] at hgs
            have HB1 := Lib.hid hb1
            have HCD := Lib.hid hcode
            have HKK := Lib.hid hkk
            have HBB := Lib.hid hBb
            clear hb1 hz hcode hat hBb hlive hkk gs
            go_wp2_with fail
            go_ret
            rw [E2.out, if_pos (by rw [HCD.out]; exact HKK.out)]
            have F : Fr [p] w2 ((w2.setCell ⟨p, 1, none⟩ (.int .i64 c.at_)).setCell ⟨p, 0, none⟩ (.slice ao2 c.at_ cap2)) := ((Fr.refl _ _).setCell (by simp) _).setCell (by simp) _
            refine ⟨_, rfl, ?_, CurAt.of_fr (c := { B.2 with at_ := c.at_ }) F (Go.Joins.block_setCell (Go.Joins.block_setCell hh2 _) _) hgs (by rw [← gq]; cases ao2 <;> rfl) hne2 (by rw [HBB.out]; omega), (hf1.trans hf2 (by simp)).trans F (by simp)⟩
            rw [HB1.out] at hown2
            refine own_mono (own_fr hown2 F ?_) hf1.size
            intro k hk
            have := hown2.lt k hk
            have := hc1lt
            simp
            omega
        · have t1 : ((y.toNat : Int) == 1) = false := by simp; omega
          have t0 : ((y.toNat : Int) == 0) = false := by simp; omega
          have e2 : c.told m = ([], c.fail 5) := by
            unfold Cur.told; rw [if_neg hcond, if_neg (by rw [HH.out]; exact h1), if_neg (by rw [HH.out]; exact h0)]
          have E2 := Lib.hid e2
          clear e2 hcond h1 h0
          go_wp2_with fail
          refine (fail_any _ p q c 5 _ rfl (by decide) hset).mono ?_
          rintro e w2 ⟨rfl, hc2, hf2⟩
          clear d1' d2 hfz
          go_wp2_with fail
          go_ret
          rw [E2.out]
          exact ⟨_, rfl, World.ownsRow_nil _ _ _ _, hc2, (hf1.trans F1 (by simp)).trans hf2 (by simp)⟩
end Go.Proofs.Ythdfjbliafdchaa
/- Folders of coders, in plain Lean: whether they hold. No condition. -/
namespace Go.Proofs.Ythdfjbliafdchaa

structure Coder where
  method : Int
  props : List UInt8

structure Folder where
  coders : List Coder
  binds : List (Int × Int)
  packs : List Int
  sizes : List UInt64

/-- How many streams go into a coder of that method. -/
def ins (m : Int) : Nat := if m = 6 then 4 else if 1 ≤ m ∧ m ≤ 7 then 1 else 0

theorem ins_le (m : Int) : ins m ≤ 4 := by unfold ins; repeat' split
                                           all_goals omega

/-- Where a number stands first. -/
def fidx (l : List Int) (x : Int) : Int := match l.findIdx? (· == x) with | some k => k | none => -1

namespace Folder
def first (f : Folder) (k : Nat) : Nat := ((f.coders.take k).map fun c => ins c.method).sum
def fromB (f : Folder) (i : Int) : Option Int := (f.binds.find? fun b => b.1 == i).map (·.2)
def fromP (f : Folder) (i : Int) : Int := fidx f.packs i
/-- What feeds a stream: a coder, or a packed stream. -/
def from_ (f : Folder) (i : Int) : Int × Int := match f.fromB i with | some c => (c, -1) | none => (-1, f.fromP i)
def insOf (f : Folder) (c : Nat) : Nat := match f.coders[c]? with | some x => ins x.method | none => 0
/-- The coders that feed a coder: of the first so many streams. -/
def feedersTo (f : Folder) (c : Nat) (k : Nat) : List Int := ((List.range k).map fun i => (f.from_ ((f.first c + i : Nat) : Int)).1).filter (0 ≤ ·)
def feeders (f : Folder) (c : Nat) : List Int := f.feedersTo c (f.insOf c)
/-- Does one coder feed another one? -/
def feeds (f : Folder) (a b : Nat) : Bool := f.binds.any fun x => decide (x.2 = a) && decide ((f.first b : Int) ≤ x.1) && decide (x.1 < f.first b + f.insOf b)

theorem first_succ (f : Folder) (k : Nat) (x : Coder) (h : f.coders[k]? = some x) : f.first (k + 1) = f.first k + ins x.method := by
  simp [first, List.take_add_one, h]

theorem first_le (f : Folder) (k : Nat) : f.first k ≤ 4 * k := by
  induction k with
  | zero => simp [first]
  | succ k ih =>
    cases h : f.coders[k]? with
    | none =>
      have : f.coders.take (k + 1) = f.coders.take k := by simp [List.take_add_one, h]
      unfold first at *; rw [this]; omega
    | some x => rw [f.first_succ k x h]; have := ins_le x.method; omega

theorem first_min (f : Folder) (k : Nat) (h : f.coders.length ≤ k) : f.first k = f.first f.coders.length := by
  unfold first; rw [List.take_of_length_le h, List.take_of_length_le (Nat.le_refl _)]
end Folder

/-- A walk through a graph in depth, by colours (1: on the way, 2: done): whether a circle was found, and the colours then. None: out of fuel. -/
def visit (fd : Nat → List Nat) : Nat → List Nat → Nat → Option (Bool × List Nat)
  | 0, _, _ => none
  | fuel + 1, st, c =>
    if st[c]? = some 1 then some (true, st)
    else if st[c]? = some 2 then some (false, st)
    else (go (visit fd fuel) (fd c) (st.set c 1)).map fun r => (r.1, r.2.set c 2)
where
  go (v : List Nat → Nat → Option (Bool × List Nat)) : List Nat → List Nat → Option (Bool × List Nat)
    | [], st => some (false, st)
    | x :: xs, st => (v st x).bind fun r => if r.1 then some (true, r.2) else go v xs r.2

/-- From each of them. -/
def visitAll (fd : Nat → List Nat) (fuel : Nat) (l : List Nat) (st : List Nat) : Option (Bool × List Nat) := visit.go (visit fd fuel) l st
end Go.Proofs.Ythdfjbliafdchaa
/- Folders in memory. No condition. -/
namespace Go.Proofs.Ythdfjbliafdchaa
open Go.RowKit

def iv (l : List Int) : List Value := l.map (.int .i64)
theorem iv_length (l : List Int) : (iv l).length = l.length := by simp [iv]
theorem iv_get (l : List Int) (j : Nat) (x : Int) (h : l[j]? = some x) : (iv l)[j]? = some (.int .i64 x) := by simp [iv, h]
theorem iv_one (l : List Int) : ∀ u ∈ iv l, u.oneCell' = true := by intro u hu; simp [iv] at hu; obtain ⟨x, _, rfl⟩ := hu; rfl

/-- A coder's two cells. -/
def CoAt (w : World) (b o : Nat) (c : Coder) (pv : Value) : Prop :=
  w.cell? ⟨b, o, none⟩ = some (.int .i64 c.method) ∧ w.cell? ⟨b, o + 1, none⟩ = some pv ∧ Sl w pv (bv c.props)

theorem CoAt.fr {w w' : World} {b o : Nat} {c : Coder} {pv : Value} (h : CoAt w b o c pv) (hb : b < w.heap.size) (hf : Fr [] w w') : CoAt w' b o c pv :=
  ⟨(hf.cell (p := ⟨b, _, none⟩) hb (by simp)).trans h.1, (hf.cell (p := ⟨b, _, none⟩) hb (by simp)).trans h.2.1, h.2.2.fr0 hf⟩

/-- A slice of coders. -/
def Co (w : World) (v : Value) (l : List Coder) : Prop :=
  ∃ ao cap, v = .slice ao l.length cap ∧ l.length ≤ cap ∧ cap ≤ 9223372036854775807 ∧
    ∀ j c, l[j]? = some c → ∃ b o pv, ao = some ⟨b, o, none⟩ ∧ b < w.heap.size ∧ CoAt w b (o + j * 2) c pv

/-- A slice of binds. -/
def Bi (w : World) (v : Value) (l : List (Int × Int)) : Prop :=
  ∃ ao cap, v = .slice ao l.length cap ∧ l.length ≤ cap ∧ cap ≤ 9223372036854775807 ∧
    ∀ j (x : Int × Int), l[j]? = some x → ∃ b o, ao = some ⟨b, o, none⟩ ∧ b < w.heap.size ∧ w.cell? ⟨b, o + j * 2, none⟩ = some (.int .i64 x.1) ∧ w.cell? ⟨b, o + j * 2 + 1, none⟩ = some (.int .i64 x.2)

theorem Co.fr {w w' : World} {v : Value} {l : List Coder} (h : Co w v l) (hf : Fr [] w w') : Co w' v l := by
  obtain ⟨ao, cap, e, h1, h2, h3⟩ := h
  refine ⟨ao, cap, e, h1, h2, fun j c hc => ?_⟩
  obtain ⟨b, o, pv, q1, q2, q3, q4, q5⟩ := h3 j c hc
  exact ⟨b, o, pv, q1, Nat.lt_of_lt_of_le q2 hf.size, (hf.cell (p := ⟨b, _, none⟩) q2 (by simp)).trans q3, (hf.cell (p := ⟨b, _, none⟩) q2 (by simp)).trans q4, q5.fr0 hf⟩

theorem Bi.fr {w w' : World} {v : Value} {l : List (Int × Int)} (h : Bi w v l) (hf : Fr [] w w') : Bi w' v l := by
  obtain ⟨ao, cap, e, h1, h2, h3⟩ := h
  refine ⟨ao, cap, e, h1, h2, fun j c hc => ?_⟩
  obtain ⟨b, o, q1, q2, q3, q4⟩ := h3 j c hc
  exact ⟨b, o, q1, Nat.lt_of_lt_of_le q2 hf.size, (hf.cell (p := ⟨b, _, none⟩) q2 (by simp)).trans q3, (hf.cell (p := ⟨b, _, none⟩) q2 (by simp)).trans q4⟩

/-- A folder, its fields' values. -/
structure FoV (w : World) (c b p s : Value) (f : Folder) : Prop where
  co : Co w c f.coders
  bi : Bi w b f.binds
  pa : Sl w p (iv f.packs)
  si : Sl w s (u64v f.sizes)

theorem FoV.fr {w w' : World} {c b p s : Value} {f : Folder} (h : FoV w c b p s f) (hf : Fr [] w w') : FoV w' c b p s f := ⟨h.co.fr hf, h.bi.fr hf, h.pa.fr0 hf, h.si.fr0 hf⟩

/-- A folder as a value. -/
def Fo (w : World) (v : Value) (f : Folder) : Prop := ∃ c b p s h k, v = .agg #[c, b, p, s, h, k] ∧ FoV w c b p s f

theorem Fo.fr {w w' : World} {v : Value} {f : Folder} (h : Fo w v f) (hf : Fr [] w w') : Fo w' v f := by
  obtain ⟨c, b, p, s, h, k, e, q⟩ := h
  exact ⟨c, b, p, s, h, k, e, q.fr hf⟩

/-- A block of six cells that has been laid. -/
theorem box6 {w wr : World} {t : TypeId} {c b p s h k : Value} (F : Fr [] (w.alloc (.cells #[c, b, p, s, h, k] t)) wr) :
    wr.cell? ⟨w.heap.size, 0, none⟩ = some c ∧ wr.cell? ⟨w.heap.size, 1, none⟩ = some b ∧ wr.cell? ⟨w.heap.size, 2, none⟩ = some p ∧ wr.cell? ⟨w.heap.size, 3, none⟩ = some s ∧ wr.cell? ⟨w.heap.size, 4, none⟩ = some h ∧ wr.cell? ⟨w.heap.size, 5, none⟩ = some k := by
  have key : ∀ (i : Nat), wr.cell? ⟨w.heap.size, i, none⟩ = #[c, b, p, s, h, k][i]? := fun i => by
    rw [F.cell (p := ⟨w.heap.size, i, none⟩) (by simp) (by simp), Go.Joins.cell_of_block (heap_alloc_new w _)]
  exact ⟨by rw [key]; rfl, by rw [key]; rfl, by rw [key]; rfl, by rw [key]; rfl, by rw [key]; rfl, by rw [key]; rfl⟩

theorem Co.out {w : World} {v : Value} {l : List Coder} (h : Co w v l) : ∃ ao cap, v = .slice ao l.length cap ∧ l.length ≤ cap ∧ cap ≤ 9223372036854775807 ∧
    ∀ j c, l[j]? = some c → ∃ b o pv, ao = some ⟨b, o, none⟩ ∧ b < w.heap.size ∧ CoAt w b (o + j * 2) c pv := h
theorem Bi.out {w : World} {v : Value} {l : List (Int × Int)} (h : Bi w v l) : ∃ ao cap, v = .slice ao l.length cap ∧ l.length ≤ cap ∧ cap ≤ 9223372036854775807 ∧
    ∀ j (x : Int × Int), l[j]? = some x → ∃ b o, ao = some ⟨b, o, none⟩ ∧ b < w.heap.size ∧ w.cell? ⟨b, o + j * 2, none⟩ = some (.int .i64 x.1) ∧ w.cell? ⟨b, o + j * 2 + 1, none⟩ = some (.int .i64 x.2) := h

theorem wrap_nat (a b : Nat) (h : a + b ≤ 1000000000) : wrap64 ((a : Int) + b) = ((a + b : Nat) : Int) := by unfold wrap64; omega

theorem find_step {l : List Int} {x y : Int} {k : Nat} (hy : l[k]? = some y) (h : (l.take k).findIdx? (· == x) = none) (hne : y ≠ x) : (l.take (k + 1)).findIdx? (· == x) = none := by
  simp [List.take_add_one, hy, List.findIdx?_append, h, hne]

theorem find_at {l : List Int} {x : Int} {k : Nat} (hy : l[k]? = some x) (h : (l.take k).findIdx? (· == x) = none) : l.findIdx? (· == x) = some k := by
  have hk : k < l.length := (List.getElem?_eq_some_iff.1 hy).1
  have e : l = l.take k ++ x :: l.drop (k + 1) := by
    have := List.drop_eq_getElem_cons hk
    rw [(List.getElem?_eq_some_iff.1 hy).2] at this
    rw [← this, List.take_append_drop]
  rw [e, List.findIdx?_append, h]
  simp [List.findIdx?_cons]
  omega

theorem ins_any (w : World) (m : Int) (pv : Value) :
    Calls Try.prog 16 #[.agg #[.int .i64 m, pv]] w fun e w' => e = .returned (.int .i64 (ins m)) ∧ Fr [] w w' := by
  by_cases h6 : m = 6
  · subst h6
    go_enter Try.func16, Try.ntmps16
    go_wp2
    go_ret
    exact ⟨by simp [ins], (Fr.refl _ _).alloc _⟩
  · have hb : (m == 6) = false := by simp [h6]
    have E := Lib.hid (show (ins m : Int) = if (decide (1 ≤ m) && decide (m ≤ 7)) = true then 1 else 0 by simp [ins, h6]; split <;> simp)
    clear h6
    by_cases h1 : 1 ≤ m
    · by_cases h7 : m ≤ 7
      · have E2 := Lib.hid (show (ins m : Int) = 1 by rw [E.out]; simp [h1, h7])
        clear E
        go_enter Try.func16, Try.ntmps16
        go_wp2
        go_ret
        exact ⟨by rw [E2.out]; rfl, (Fr.refl _ _).alloc _⟩
      · have E2 := Lib.hid (show (ins m : Int) = 0 by rw [E.out]; simp [h7])
        clear E
        go_enter Try.func16, Try.ntmps16
        go_wp2
        go_ret
        exact ⟨by rw [E2.out]; rfl, (Fr.refl _ _).alloc _⟩
    · have E2 := Lib.hid (show (ins m : Int) = 0 by rw [E.out]; simp [h1])
      clear E
      go_enter Try.func16, Try.ntmps16
      go_wp2
      go_ret
      exact ⟨by rw [E2.out]; rfl, (Fr.refl _ _).alloc _⟩
end Go.Proofs.Ythdfjbliafdchaa
