/- Slices of structs of m cells that lie in new memory, as lists of cells. No condition. -/
import Derived.Test.YtjeblccboeljnaaGreatDoorNClean
namespace Go.Proofs.YtjeblccboeljnaaGreatDoor
open Go.RowKit

/-- A slice of n elements of m cells each, of type e, reads as the cells xs; its block is not below lo. -/
def Sm (w : World) (lo e m : Nat) (v : Value) (n : Nat) (xs : List Value) : Prop :=
  ∃ ao cap, v = .slice ao n cap ∧ n ≤ cap ∧ cap ≤ 9223372036854775807 ∧ xs.length = n * m ∧ (ao = none → cap = 0) ∧
    (∀ a, ao = some a → ∃ b o, a = ⟨b, o, none⟩ ∧ lo ≤ b ∧ b < w.heap.size ∧ (∃ cs z, w.heap[b]? = some (.cells cs e z)) ∧ ∀ i, i < n * m → w.cell? ⟨b, o + i, none⟩ = xs[i]?)

theorem Sm.nil (w : World) (lo e m : Nat) : Sm w lo e m (.slice none 0 0) 0 [] := ⟨none, 0, rfl, by simp, by simp, by simp, fun _ => rfl, fun a h => by cases h⟩

theorem Sm.fr {w w' : World} {lo e m n : Nat} {v : Value} {xs : List Value} {S : List Nat} (h : Sm w lo e m v n xs) (F : Fr S w w') (hS : ∀ i ∈ S, i < lo) : Sm w' lo e m v n xs := by
  obtain ⟨ao, cap, rfl, h1, h2, h3, h4, h5⟩ := h
  refine ⟨ao, cap, rfl, h1, h2, h3, h4, fun a ha => ?_⟩
  obtain ⟨b, o, rfl, q1, q2, ⟨cs, z, q4⟩, q3⟩ := h5 a ha
  refine ⟨b, o, rfl, q1, Nat.lt_of_lt_of_le q2 F.size, ⟨cs, z, (F.block b q2 (fun hm => by have := hS b hm; omega)).trans q4⟩, fun i hi => ?_⟩
  rw [F.cell (p := ⟨b, o + i, none⟩) q2 (fun hm => by have := hS b hm; omega)]
  exact q3 i hi
/-- Blocks of other types may change. -/
theorem Sm.frT {w w' : World} {lo e m n : Nat} {v : Value} {xs : List Value} {S : List Nat} (h : Sm w lo e m v n xs) (F : Fr S w w') (hS : ∀ i ∈ S, i < lo ∨ ∀ cs z, w.heap[i]? ≠ some (.cells cs e z)) : Sm w' lo e m v n xs := by
  obtain ⟨ao, cap, rfl, h1, h2, h3, h4, h5⟩ := h
  refine ⟨ao, cap, rfl, h1, h2, h3, h4, fun a ha => ?_⟩
  obtain ⟨b, o, rfl, q1, q2, ⟨cs, z, q4⟩, q3⟩ := h5 a ha
  have hb : b ∉ S := fun hm => by
    rcases hS b hm with h | h
    · omega
    · exact h cs z q4
  refine ⟨b, o, rfl, q1, Nat.lt_of_lt_of_le q2 F.size, ⟨cs, z, (F.block b q2 hb).trans q4⟩, fun i hi => ?_⟩
  rw [F.cell (p := ⟨b, o + i, none⟩) q2 hb]
  exact q3 i hi
theorem Sm.fr0 {w w' : World} {lo e m n : Nat} {v : Value} {xs : List Value} (h : Sm w lo e m v n xs) (F : Fr [] w w') : Sm w' lo e m v n xs := h.fr F (by simp)
theorem Sm.two {w w' : World} {lo e m n : Nat} {v : Value} {xs : List Value} {p cp : Nat} (h : Sm w lo e m v n xs) (F : Fr [p, cp] w w') (h1 : p < lo) (h2 : cp < lo) : Sm w' lo e m v n xs := h.fr F (by simp; exact ⟨h1, h2⟩)
theorem Sm.mono {w : World} {lo lo' e m n : Nat} {v : Value} {xs : List Value} (h : Sm w lo e m v n xs) (hl : lo' ≤ lo) : Sm w lo' e m v n xs := by
  obtain ⟨ao, cap, rfl, h1, h2, h3, h4, h5⟩ := h
  refine ⟨ao, cap, rfl, h1, h2, h3, h4, fun a ha => ?_⟩
  obtain ⟨b, o, rfl, q1, q2, q4, q3⟩ := h5 a ha
  exact ⟨b, o, rfl, by omega, q2, q4, q3⟩

theorem Sm.of_own {w : World} {base e m : Nat} {v : Value} {n : Nat} {xs : List Value} (lo : Nat) (h : w.ownsRow base e m v n xs) (hl : lo ≤ base) : Sm w lo e m v n xs := by
  have h0 := h
  have hxl : xs.length = n * m := h.1
  rcases h.2 with ⟨rfl, hn⟩ | ⟨g, cap, cur, rfl, hb, hg, hnc, hcm, _⟩
  · subst hn
    exact ⟨none, 0, rfl, by simp, by simp, hxl, fun _ => rfl, fun a ha => by cases ha⟩
  · refine ⟨_, cap, rfl, hnc, by unfold maxLen at hcm; omega, hxl, (fun h => by cases h), fun a ha => ?_⟩
    obtain rfl := (Option.some.inj ha).symm
    refine ⟨g, 0, rfl, by omega, (Array.getElem?_eq_some_iff.1 hg).1, ⟨_, _, hg⟩, fun i hi => ?_⟩
    rw [Nat.zero_add]
    exact h0.cellAt i hi

/-- As a plain slice. -/
theorem Sm.sl {w : World} {lo e : Nat} {v : Value} {n : Nat} {xs : List Value} (h : Sm w lo e 1 v n xs) : Sl w v xs := by
  obtain ⟨ao, cap, rfl, h1, h2, h3, h4, h5⟩ := h
  have hn : xs.length = n := by omega
  refine ⟨ao, cap, by rw [hn], by omega, h2, h4, fun a ha hc => ?_⟩
  obtain ⟨b, o, rfl, q1, q2, -, q3⟩ := h5 a ha
  exact ⟨rfl, q2, fun j hj => q3 j (by omega)⟩

theorem Sm.out {w : World} {lo e m n : Nat} {v : Value} {xs : List Value} (h : Sm w lo e m v n xs) : ∃ ao cap, v = .slice ao n cap ∧ n ≤ cap ∧ cap ≤ 9223372036854775807 ∧
    ∀ j, j < n → ∃ b o, ao = some ⟨b, o, none⟩ ∧ lo ≤ b ∧ b < w.heap.size ∧ ∀ i, i < n * m → w.cell? ⟨b, o + i, none⟩ = xs[i]? := by
  obtain ⟨ao, cap, rfl, h1, h2, h3, h4, h5⟩ := h
  refine ⟨ao, cap, rfl, h1, h2, fun j hj => ?_⟩
  cases ao with
  | none => have := h4 rfl; omega
  | some a =>
    obtain ⟨b, o, rfl, q1, q2, -, q⟩ := h5 a rfl
    exact ⟨b, o, rfl, q1, q2, q⟩

/-- What the call owns, kept by what changes but other blocks. -/
theorem own_frS {w w' : World} {base e sz : Nat} {v : Value} {n : Nat} {xs : List Value} {S : List Nat} (h : w.ownsRow base e sz v n xs) (hf : Fr S w w') (hv : ∀ k, v.ownBlock = some k → k ∉ S) : w'.ownsRow base e sz v n xs := by
  refine ⟨h.1, ?_⟩
  rcases h.2 with hn | ⟨g, cap, cur, rfl, hb, hgg, rest⟩
  · exact .inl hn
  · refine .inr ⟨g, cap, cur, rfl, hb, ?_, rest⟩
    rw [hf.block g (Array.getElem?_eq_some_iff.1 hgg).1 (hv g rfl)]
    exact hgg

theorem own_outS {w : World} {base e sz : Nat} {v : Value} {n : Nat} {xs : List Value} (h : w.ownsRow base e sz v n xs) : ∃ ao cap, v = .slice ao n cap ∧ n ≤ cap ∧ cap ≤ 9223372036854775807 := by
  rcases h.2 with ⟨rfl, rfl⟩ | ⟨g, cap, cur, rfl, hb, hg, hnc, hcm, _⟩
  · exact ⟨none, 0, rfl, by simp, by simp⟩
  · exact ⟨_, cap, rfl, hnc, by unfold maxLen at hcm; omega⟩

theorem own_ltS {w : World} {base e sz : Nat} {v : Value} {n : Nat} {xs : List Value} (h : w.ownsRow base e sz v n xs) (k : Nat) (hk : v.ownBlock = some k) : base ≤ k ∧ k < w.heap.size := by
  rcases h.2 with ⟨rfl, rfl⟩ | ⟨g, cap, cur, rfl, hb, hg, _⟩
  · simp [Value.ownBlock] at hk
  · simp [Value.ownBlock] at hk
    subst hk
    exact ⟨hb, (Array.getElem?_eq_some_iff.1 hg).1⟩
/-- Blocks below the base may change. -/
theorem own_frB {w w' : World} {base e sz : Nat} {v : Value} {n : Nat} {xs : List Value} {S : List Nat} (h : w.ownsRow base e sz v n xs) (hf : Fr S w w') (hS : ∀ i ∈ S, i < base) : w'.ownsRow base e sz v n xs :=
  own_frS h hf fun k hk hm => by have := (own_ltS h k hk).1; have := hS k hm; omega

/-- The facts on a slice type of structs of m cells. -/
structure SlTyM (P : Program) (t e : TypeId) (z : Value) (m bytes : Nat) : Prop where
  under : P.underlying t = some (.slice e)
  info : ∃ i, P.info? e = some i ∧ i.zero = some z ∧ i.size = m ∧ i.bytes = bytes
  cells : z.cells.size = m
  pos : 0 < m

/-- 'append(v, u)': one struct more behind what the call owns. -/
theorem wpList_append_struct {P : Program} {t e : TypeId} {z : Value} {m bytes : Nat} (T : SlTyM P t e z m bytes) {w : World} {ops : Array Oper} {rest : List Oper} {o : Oper} {a : Act} {Q : Exit → Act → World → Prop} (hgd : o.guard = none) (s x : Operand)
    (ho : o.op = .call { callee := .builtin .append, args := #[s, x], argTypes := #[t, t] })
    (base : Nat) (v : Value) (n : Nat) (xs : List Value) (hs : a.eval s = v) (hown : w.ownsRow base e m v n xs)
    (g : Nat) (us : List Value) (hx : a.eval x = .slice (some ⟨g, 0, none⟩) 1 1) (hg : w.heap[g]? = some (.cells us.toArray e)) (hul : us.length = m) (h1 : us.all (·.oneCell') = true)
    (hm : n + 1 ≤ 100000000) (hby : bytes ≤ 1000) (hbase : base ≤ w.heap.size)
    (h : ∀ v' w', w'.ownsRow base e m v' (n + 1) (xs ++ us) → w.grownBy w' v.ownBlock → wpList P ops Q rest (a.put o.dst v') w') : wpList P ops Q (o :: rest) a w := by
  obtain ⟨i, hi, hz, hsz, hb⟩ := T.info
  have hle : (n + 1) * bytes ≤ 100000000 * 1000 := Nat.mul_le_mul hm hby
  refine wpList_append_own w hgd s x t ho base e i z m bytes T.under hi hz hsz hb T.cells T.pos v n xs hs hown ⟨g, 0, none⟩ 1 1 us hx (by omega) ?_ ?_ (by unfold maxLen; omega) (by omega) hbase (fun v' w' q1 q2 _ => h v' w' q1 q2)
  · intro j u hu
    have hadd : (⟨g, 0, none⟩ : Addr).add j = ⟨g, j, none⟩ := by unfold Addr.add; split <;> simp_all
    rw [hadd, Go.Joins.cell_of_block hg]
    simpa using hu
  · intro u hu
    exact List.all_eq_true.1 h1 u hu
end Go.Proofs.YtjeblccboeljnaaGreatDoor
