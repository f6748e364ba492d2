/- Slices of structs of two cells that the call owns; append. No condition. -/
import Derived.Test.YtfnblemlcjdnhaaGreatGBase
namespace Go.Proofs.YtfnblemlcjdnhaaGreat
open Go.RowKit

theorem own_frS {w w' : World} {base e sz : Nat} {v : Value} {n : Nat} {xs : List Value} {S : List Nat} (h : w.ownsRow base e sz v n xs) (hf : Fr S w w') (hv : ∀ k, v.ownBlock = some k → k ∉ S) : w'.ownsRow base e sz v n xs := by
  refine ⟨h.1, ?_⟩
  rcases h.2 with hn | ⟨g, cap, cur, rfl, hb, hgg, rest⟩
  · exact .inl hn
  · refine .inr ⟨g, cap, cur, rfl, hb, ?_, rest⟩
    rw [hf.block g (Array.getElem?_eq_some_iff.1 hgg).1 (hv g rfl)]
    exact hgg

theorem own_outS {w : World} {base e sz : Nat} {v : Value} {n : Nat} {xs : List Value} (h : w.ownsRow base e sz v n xs) : ∃ ao cap, v = .slice ao n cap ∧ n ≤ cap ∧ cap ≤ 9223372036854775807 := by
  rcases h.2 with ⟨rfl, rfl⟩ | ⟨g, cap, cur, rfl, hb, hg, hnc, hcm, _⟩
  · exact ⟨none, 0, rfl, by simp, by simp⟩
  · exact ⟨_, cap, rfl, hnc, by unfold maxLen at hcm; omega⟩

theorem own_ltS {w : World} {base e sz : Nat} {v : Value} {n : Nat} {xs : List Value} (h : w.ownsRow base e sz v n xs) (k : Nat) (hk : v.ownBlock = some k) : base ≤ k ∧ k < w.heap.size := by
  rcases h.2 with ⟨rfl, rfl⟩ | ⟨g, cap, cur, rfl, hb, hg, _⟩
  · simp [Value.ownBlock] at hk
  · simp [Value.ownBlock] at hk
    subst hk
    exact ⟨hb, (Array.getElem?_eq_some_iff.1 hg).1⟩

/-- The facts on a slice type of structs of two cells. -/
structure SlTy2 (P : Program) (t e : TypeId) (z : Value) (bytes : Nat) : Prop where
  under : P.underlying t = some (.slice e)
  info : ∃ i, P.info? e = some i ∧ i.zero = some z ∧ i.size = 2 ∧ i.bytes = bytes
  two : z.cells.size = 2

/-- 'append(v, u)': one struct more behind what the call owns. -/
theorem wpList_append_pair {P : Program} {t e : TypeId} {z : Value} {bytes : Nat} (T : SlTy2 P t e z bytes) {w : World} {ops : Array Oper} {rest : List Oper} {o : Oper} {a : Act} {Q : Exit → Act → World → Prop} (hgd : o.guard = none) (s x : Operand)
    (ho : o.op = .call { callee := .builtin .append, args := #[s, x], argTypes := #[t, t] })
    (base : Nat) (v : Value) (n : Nat) (xs : List Value) (hs : a.eval s = v) (hown : w.ownsRow base e 2 v n xs)
    (g : Nat) (u1 u2 : Value) (hx : a.eval x = .slice (some ⟨g, 0, none⟩) 1 1) (hg : w.heap[g]? = some (.cells #[u1, u2] e)) (h1 : u1.oneCell' = true) (h2 : u2.oneCell' = true)
    (hm : n + 1 ≤ 1000000) (hby : bytes ≤ 1000) (hbase : base ≤ w.heap.size)
    (h : ∀ v' w', w'.ownsRow base e 2 v' (n + 1) (xs ++ [u1, u2]) → w.grownBy w' v.ownBlock → wpList P ops Q rest (a.put o.dst v') w') : wpList P ops Q (o :: rest) a w := by
  obtain ⟨i, hi, hz, hsz, hb⟩ := T.info
  have hle : (n + 1) * bytes ≤ 1000000 * 1000 := Nat.mul_le_mul hm hby
  refine wpList_append_own w hgd s x t ho base e i z 2 bytes T.under hi hz hsz hb T.two (by decide) v n xs hs hown ⟨g, 0, none⟩ 1 1 [u1, u2] hx rfl ?_ ?_ (by unfold maxLen; omega) (by omega) hbase (fun v' w' q1 q2 _ => h v' w' q1 q2)
  · intro j u hu
    have hadd : (⟨g, 0, none⟩ : Addr).add j = ⟨g, j, none⟩ := by unfold Addr.add; split <;> simp_all
    rw [hadd, Go.Joins.cell_of_block hg]
    simpa using hu
  · intro u hu
    simp at hu
    rcases hu with rfl | rfl
    · exact h1
    · exact h2

theorem flat2 {α : Type} (l : List α) (g : α → Value × Value) (j : Nat) (x : α) (h : l[j]? = some x) :
    (l.flatMap fun c => [(g c).1, (g c).2])[j * 2]? = some (g x).1 ∧ (l.flatMap fun c => [(g c).1, (g c).2])[j * 2 + 1]? = some (g x).2 := by
  induction l generalizing j with
  | nil => simp at h
  | cons y t ih =>
    cases j with
    | zero => simp at h; subst h; simp
    | succ j =>
      simp at h
      have := ih j h
      rw [show (j + 1) * 2 = j * 2 + 1 + 1 from by omega]
      simpa using this

theorem cells_of_own2 {w : World} {base e : Nat} {g : Nat} {n cap : Nat} {xs : List Value} (h : w.ownsRow base e 2 (.slice (some ⟨g, 0, none⟩) n cap) n xs) (j : Nat) (hj : j < n * 2) : w.cell? ⟨g, j, none⟩ = xs[j]? := h.cellAt j hj

def coV (l : List (Coder × Value)) : List Value := l.flatMap fun c => [.int .i64 c.1.method, c.2]
def biV (l : List (Int × Int)) : List Value := l.flatMap fun b => [.int .i64 b.1, .int .i64 b.2]

theorem coV_append (a b : List (Coder × Value)) : coV (a ++ b) = coV a ++ coV b := by simp [coV]
theorem biV_append (a b : List (Int × Int)) : biV (a ++ b) = biV a ++ biV b := by simp [biV]

theorem co_of_own {w : World} {base e : Nat} {v : Value} {n : Nat} (l : List (Coder × Value)) (hn : l.length = n) (h : w.ownsRow base e 2 v n (coV l)) (hp : ∀ c ∈ l, Sl w c.2 (bv c.1.props)) : Co w v (l.map (·.1)) := by
  subst hn
  have h0 := h
  rcases h.2 with ⟨rfl, hn⟩ | ⟨g, cap, cur, rfl, hb, hg, hnc, hcm, _⟩
  · have : l = [] := List.eq_nil_of_length_eq_zero hn
    subst this
    exact ⟨none, 0, rfl, by simp, by simp, fun j c hc => by simp at hc⟩
  · refine ⟨_, cap, by rw [List.length_map], by simpa using hnc, by unfold maxLen at hcm; omega, fun j c hc => ?_⟩
    rw [List.getElem?_map] at hc
    obtain ⟨x, hx, rfl⟩ := Option.map_eq_some_iff.1 hc
    have hj : j < l.length := (List.getElem?_eq_some_iff.1 hx).1
    obtain ⟨e1, e2⟩ := flat2 l (fun c => (Value.int .i64 c.1.method, c.2)) j x hx
    have c1 := cells_of_own2 h0 (j * 2) (by omega)
    have c2 := cells_of_own2 h0 (j * 2 + 1) (by omega)
    refine ⟨g, 0, x.2, rfl, (Array.getElem?_eq_some_iff.1 hg).1, ?_, ?_, hp x (List.mem_of_getElem? hx)⟩
    · rw [Nat.zero_add]; exact c1.trans e1
    · rw [Nat.zero_add]; exact c2.trans e2

theorem bi_of_own {w : World} {base e : Nat} {v : Value} {n : Nat} (l : List (Int × Int)) (hn : l.length = n) (h : w.ownsRow base e 2 v n (biV l)) : Bi w v l := by
  subst hn
  have h0 := h
  rcases h.2 with ⟨rfl, hn⟩ | ⟨g, cap, cur, rfl, hb, hg, hnc, hcm, _⟩
  · have : l = [] := List.eq_nil_of_length_eq_zero hn
    subst this
    exact ⟨none, 0, rfl, by simp, by simp, fun j c hc => by simp at hc⟩
  · refine ⟨_, cap, rfl, hnc, by unfold maxLen at hcm; omega, fun j x hx => ?_⟩
    have hj : j < l.length := (List.getElem?_eq_some_iff.1 hx).1
    obtain ⟨e1, e2⟩ := flat2 l (fun b => (Value.int .i64 b.1, Value.int .i64 b.2)) j x hx
    have c1 := cells_of_own2 h0 (j * 2) (by omega)
    have c2 := cells_of_own2 h0 (j * 2 + 1) (by omega)
    refine ⟨g, 0, rfl, (Array.getElem?_eq_some_iff.1 hg).1, ?_, ?_⟩
    · rw [Nat.zero_add]; exact c1.trans e1
    · rw [Nat.zero_add]; exact c2.trans e2

theorem info_coder : (Tryz.prog.info? 56).map (fun i => (i.zero, i.size, i.bytes)) = some (some (.agg #[.int .i64 0, .slice none 0 0]), 2, 32) := by kernel_rfl
theorem sty_coder : SlTy2 Tryz.prog 29 56 (.agg #[.int .i64 0, .slice none 0 0]) 32 := ⟨Tryz.underlying29, by obtain ⟨i, h⟩ := info_parts info_coder; exact ⟨i, h⟩, rfl⟩
theorem info_bind : (Tryz.prog.info? 58).map (fun i => (i.zero, i.size, i.bytes)) = some (some (.agg #[.int .i64 0, .int .i64 0]), 2, 16) := by kernel_rfl
theorem sty_bind : SlTy2 Tryz.prog 30 58 (.agg #[.int .i64 0, .int .i64 0]) 16 := ⟨Tryz.underlying30, by obtain ⟨i, h⟩ := info_parts info_bind; exact ⟨i, h⟩, rfl⟩
end Go.Proofs.YtfnblemlcjdnhaaGreat
