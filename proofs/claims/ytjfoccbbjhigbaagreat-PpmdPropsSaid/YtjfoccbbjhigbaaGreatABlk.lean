/- Blocks of many cells: what each cell holds is told by a function. No condition. -/
import Derived.Test.YtjfoccbbjhigbaaGreatBase
import Derived.Deep.DeepCutAuto
import Derived.Deep.RegionHeld3
namespace Go.Proofs.YtjfoccbbjhigbaaGreat
open Go.RowKit

/-- A function that is turned at one place. -/
def upd {α : Type} (f : Nat → α) (j : Nat) (v : α) : Nat → α := fun k => if k = j then v else f k
theorem upd_same {α : Type} (f : Nat → α) (j : Nat) (v : α) : upd f j v j = v := by simp [upd]
theorem upd_other {α : Type} (f : Nat → α) (j : Nat) (v : α) {k : Nat} (h : k ≠ j) : upd f j v k = f k := by simp [upd, h]
/-- Block b has n cells of type t at least; the cell j holds f j. -/
structure Blk (w : World) (b : Nat) (t : TypeId) (n : Nat) (f : Nat → Value) : Prop where
  ok : ∃ C : Array Value, w.heap[b]? = some (.cells C t (0, 0)) ∧ n ≤ C.size ∧ ∀ j, j < n → C[j]? = some (f j)
section
variable {w : World} {b : Nat} {t : TypeId} {n : Nat} {f : Nat → Value}
theorem Blk.lt (h : Blk w b t n f) : b < w.heap.size := by
  obtain ⟨C, h1, -⟩ := h.ok
  exact (Array.getElem?_eq_some_iff.1 h1).1
theorem Blk.cell (h : Blk w b t n f) {j : Nat} (hj : j < n) : w.cell? ⟨b, j, none⟩ = some (f j) := by
  obtain ⟨C, h1, h2, h3⟩ := h.ok
  have key : ∀ i : Nat, w.cell? ⟨b, i, none⟩ = C[i]? := Go.Joins.cell_of_block h1
  rw [key, h3 j hj]
theorem Blk.free (h : Blk w b t n f) (j : Nat) : w.frozen? ⟨b, j, none⟩ = false := by
  obtain ⟨C, h1, -⟩ := h.ok
  exact Go.Joins.unfrozen_of_block h1 j
theorem Blk.fr (h : Blk w b t n f) {w' : World} {S : List Nat} (F : Fr S w w') (hb : b ∉ S) : Blk w' b t n f := by
  obtain ⟨C, h1, h2, h3⟩ := h.ok
  exact ⟨C, (F.block b h.lt hb).trans h1, h2, h3⟩
theorem Blk.same (h : Blk w b t n f) {w' : World} (s : Same w w') : Blk w' b t n f := h.fr (s.fr (S := [])) (by simp)
theorem Blk.put (h : Blk w b t n f) (j : Nat) (v : Value) : Blk (w.setCell ⟨b, j, none⟩ v) b t n (upd f j v) := by
  obtain ⟨C, h1, h2, h3⟩ := h.ok
  refine ⟨C.setIfInBounds j v, Go.Joins.block_setCell h1 v, by simpa using h2, fun k hk => ?_⟩
  rw [Array.getElem?_setIfInBounds]
  unfold upd
  by_cases e : j = k
  · subst e
    have : j < C.size := by omega
    simp [this]
  · simp [e, Ne.symm e, h3 k hk]
theorem Blk.eq (h : Blk w b t n f) {g : Nat → Value} (e : ∀ j, j < n → f j = g j) : Blk w b t n g := by
  obtain ⟨C, h1, h2, h3⟩ := h.ok
  exact ⟨C, h1, h2, fun j hj => (h3 j hj).trans (by rw [e j hj])⟩
theorem Blk.to (h : Blk w b t n f) (j : Nat) (v : Value) {g : Nat → Value} (e : ∀ k, k < n → upd f j v k = g k) : Blk (w.setCell ⟨b, j, none⟩ v) b t n g := (h.put j v).eq e
theorem setCells_size : ∀ (l : List Value) (w : World) (b o : Nat), (w.setCells b o l).heap.size = w.heap.size
  | [], _, _, _ => rfl
  | x :: r, w, b, o => by
    show ((w.setCell ⟨b, o, none⟩ x).setCells b (o + 1) r).heap.size = _
    rw [setCells_size r]
    simp
theorem Fr.setCells {S : List Nat} {a : World} {b : Nat} (hb : b ∈ S) : ∀ (l : List Value) {w : World} (_ : Fr S a w) (o : Nat), Fr S a (w.setCells b o l)
  | [], _, h, _ => h
  | x :: r, w, h, o => by
    show Fr S a ((w.setCell ⟨b, o, none⟩ x).setCells b (o + 1) r)
    exact Fr.setCells hb r (h.setCell (.inl hb) x) (o + 1)
theorem Blk.puts {b : Nat} {t : TypeId} {n : Nat} : ∀ (l : List Value) {w : World} {f : Nat → Value} (_ : Blk w b t n f) (o : Nat), Blk (w.setCells b o l) b t n (fun j => if o ≤ j ∧ j < o + l.length then l.getD (j - o) undef else f j)
  | [], w, f, h, o => h.eq (fun j _ => by rw [if_neg (by simp <;> omega)])
  | x :: r, w, f, h, o => by
    show Blk ((w.setCell ⟨b, o, none⟩ x).setCells b (o + 1) r) b t n _
    refine (Blk.puts r (h.put o x) (o + 1)).eq (fun j _ => ?_)
    by_cases e : j = o
    · subst e
      rw [if_neg (by omega), if_pos (by simp), upd_same]
      simp
    · by_cases h2 : o + 1 ≤ j ∧ j < o + 1 + r.length
      · rw [if_pos h2, if_pos (by simp <;> omega)]
        obtain ⟨m, rfl⟩ : ∃ m, j = o + 1 + m := ⟨j - (o + 1), by omega⟩
        rw [show o + 1 + m - o = m + 1 from by omega, show o + 1 + m - (o + 1) = m from by omega]
        rfl
      · rw [if_neg h2, if_neg (by simp <;> omega), upd_other _ _ _ e]
theorem Blk.of_own {w : World} {base e g n cap : Nat} {xs : List Value} {f : Nat → Value} (h : w.ownsRow base e 1 (.slice (some ⟨g, 0, none⟩) n cap) n xs) (hx : ∀ j, j < n → xs[j]? = some (f j)) (hn : 1 ≤ n) : Blk w g e n f := by
  obtain ⟨C, hC⟩ : ∃ C, w.heap[g]? = some (.cells C e) := by
    rcases h.2 with ⟨e, _⟩ | ⟨g', cap', cur, e, _, hg, _⟩
    · cases e
    · obtain ⟨e1, -⟩ := Value.slice.inj e
      obtain rfl : g = g' := by simpa using e1
      exact ⟨_, hg⟩
  have key : ∀ j, j < n → C[j]? = some (f j) := fun j hj => by
    have h1 : w.cell? ⟨g, j, none⟩ = xs[j]? := h.cellAt j (by omega)
    rw [Go.Joins.cell_of_block hC] at h1
    exact h1.trans (hx j hj)
  have := (Array.getElem?_eq_some_iff.1 (key (n - 1) (by omega))).1
  exact ⟨C, hC, by omega, key⟩
theorem Blk.new (w : World) (t : TypeId) (C : Array Value) (n : Nat) (f : Nat → Value) (hn : n ≤ C.size) (h : ∀ j, j < n → C[j]? = some (f j)) : Blk (w.alloc (.cells C t)) w.heap.size t n f := ⟨C, heap_alloc_new w _, hn, h⟩
end
end Go.Proofs.YtjfoccbbjhigbaaGreat
