/- Folders that are read: what lies in memory; the plain reader of folders. No condition. -/
import Derived.Test.YthdfjbliafdchaaHFold
namespace Go.Proofs.Ythdfjbliafdchaa
open Go.RowKit Go.Maps

/-- A folder's six cells. -/
structure FoRow where
  cv : Value
  bv : Value
  pv : Value
  sv : Value
  has : Bool
  sum : UInt32
def FoRow.cells (r : FoRow) : List Value := [r.cv, r.bv, r.pv, r.sv, .bool r.has, .int .u32 r.sum.toNat]
def foV (l : List FoRow) : List Value := l.flatMap FoRow.cells
theorem foV_append (a b : List FoRow) : foV (a ++ b) = foV a ++ foV b := by simp [foV]
theorem foV_length (l : List FoRow) : (foV l).length = l.length * 6 := by
  induction l with
  | nil => rfl
  | cons r t ih => rw [show foV (r :: t) = r.cells ++ foV t from rfl, List.length_append, ih]; simp [FoRow.cells]; omega
theorem foV_get : ∀ (l : List FoRow) (i : Nat) (r : FoRow), l[i]? = some r → ∀ k, k < 6 → (foV l)[i * 6 + k]? = r.cells[k]?
  | [], i, r, h, k, hk => by simp at h
  | x :: t, 0, r, h, k, hk => by
    simp at h
    subst h
    rw [show foV (x :: t) = x.cells ++ foV t from rfl, Nat.zero_mul, Nat.zero_add, List.getElem?_append_left (show k < x.cells.length from hk)]
  | x :: t, i + 1, r, h, k, hk => by
    rw [show foV (x :: t) = x.cells ++ foV t from rfl, show (i + 1) * 6 + k = 6 + (i * 6 + k) by omega, List.getElem?_append_right (show x.cells.length ≤ 6 + (i * 6 + k) from Nat.le_add_right 6 _)]
    rw [show 6 + (i * 6 + k) - x.cells.length = i * 6 + k by simp [FoRow.cells]]
    exact foV_get t i r (by simpa using h) k hk

theorem foV_set : ∀ (l : List FoRow) (i : Nat) (r : FoRow) (v : Value), l[i]? = some r → (foV l).set (i * 6 + 3) v = foV (l.set i { r with sv := v })
  | [], i, r, v, h => by simp at h
  | x :: t, 0, r, v, h => by
    simp at h
    subst h
    rfl
  | x :: t, i + 1, r, v, h => by
    have ih := foV_set t i r v (by simpa using h)
    rw [show foV (x :: t) = x.cells ++ foV t from rfl, show (x :: t).set (i + 1) { r with sv := v } = x :: t.set i { r with sv := v } from rfl, show foV (x :: t.set i { r with sv := v }) = x.cells ++ foV (t.set i { r with sv := v }) from rfl, ← ih]
    rw [List.set_append_right _ _ (show x.cells.length ≤ (i + 1) * 6 + 3 by show 6 ≤ _; omega)]
    rw [show (i + 1) * 6 + 3 - x.cells.length = i * 6 + 3 by show (i + 1) * 6 + 3 - 6 = _; omega]

theorem foV_set2 : ∀ (l : List FoRow) (i : Nat) (r : FoRow) (h : Bool) (m : UInt32), l[i]? = some r → ((foV l).set (i * 6 + 4) (.bool h)).set (i * 6 + 5) (.int .u32 m.toNat) = foV (l.set i { r with has := h, sum := m })
  | [], i, r, h, m, e => by simp at e
  | x :: t, 0, r, h, m, e => by
    simp at e
    subst e
    rfl
  | x :: t, i + 1, r, h, m, e => by
    have ih := foV_set2 t i r h m (by simpa using e)
    rw [show foV (x :: t) = x.cells ++ foV t from rfl, show (x :: t).set (i + 1) { r with has := h, sum := m } = x :: t.set i { r with has := h, sum := m } from rfl, show foV (x :: t.set i { r with has := h, sum := m }) = x.cells ++ foV (t.set i { r with has := h, sum := m }) from rfl, ← ih]
    rw [List.set_append_right _ _ (show x.cells.length ≤ (i + 1) * 6 + 4 by show 6 ≤ _; omega), List.set_append_right _ _ (show x.cells.length ≤ (i + 1) * 6 + 5 by show 6 ≤ _; omega)]
    rw [show (i + 1) * 6 + 4 - x.cells.length = i * 6 + 4 by show (i + 1) * 6 + 4 - 6 = _; omega, show (i + 1) * 6 + 5 - x.cells.length = i * 6 + 5 by show (i + 1) * 6 + 5 - 6 = _; omega]

/-- Block i is a row of cells of type e. -/
def Typed (w : World) (i e : Nat) : Prop := ∃ cs z, w.heap[i]? = some (.cells cs e z)
theorem Typed.ne {w : World} {i e e' : Nat} (h : Typed w i e) (he : e' ≠ e) : ∀ cs z, w.heap[i]? ≠ some (.cells cs e' z) := by
  obtain ⟨c1, z1, h1⟩ := h
  intro cs z h2
  rw [h1] at h2
  injection h2 with h2
  injection h2 with _ h3 _
  exact he h3.symm
theorem own_typed {w : World} {base e sz : Nat} {v : Value} {n : Nat} {xs : List Value} (h : w.ownsRow base e sz v n xs) : ∀ i ∈ v.ownBlock.toList, Typed w i e := by
  intro i hi
  have hk : v.ownBlock = some i := by simpa using hi
  rcases h.2 with ⟨rfl, -⟩ | ⟨g, cap, cur, rfl, hb, hg, -⟩
  · simp [Value.ownBlock] at hk
  · simp [Value.ownBlock] at hk
    subst hk
    exact ⟨_, _, hg⟩

/-- A folder's cells tell the folder. -/
structure RowM (w : World) (lo : Nat) (r : FoRow) (x : Fol) : Prop where
  co : ∃ LP : List (Coder × Value), LP.map (·.1) = x.f.coders ∧ Sm w lo 61 2 r.cv x.f.coders.length (coV LP) ∧ PropsM w lo LP
  bi : Sm w lo 50 2 r.bv x.f.binds.length (biV x.f.binds)
  pa : Sm w lo 3 1 r.pv x.f.packs.length (iv x.f.packs)
  si : Sm w lo 29 1 r.sv x.f.sizes.length (u64v x.f.sizes)
  has : r.has = x.ck.has
  sum : r.sum = x.ck.sum
/-- Types of which a folder's own cells are not. -/
def FarT (e : Nat) : Prop := e ≠ 61 ∧ e ≠ 5 ∧ e ≠ 50 ∧ e ≠ 3 ∧ e ≠ 29
theorem RowM.frT {w w' : World} {lo : Nat} {r : FoRow} {x : Fol} {S : List Nat} (h : RowM w lo r x) (F : Fr S w w') (hS : ∀ i ∈ S, i < lo ∨ ∃ e, Typed w i e ∧ FarT e) : RowM w' lo r x := by
  have key : ∀ e', (∀ e, FarT e → e' ≠ e) → ∀ i ∈ S, i < lo ∨ ∀ cs z, w.heap[i]? ≠ some (.cells cs e' z) := fun e' he i hi => by
    rcases hS i hi with h1 | ⟨e, h1, h2⟩
    · exact .inl h1
    · exact .inr (h1.ne (he e h2))
  obtain ⟨LP, h1, h2, h3⟩ := h.co
  exact ⟨⟨LP, h1, h2.frT F (key _ fun e he => Ne.symm he.1), h3.frT F (key _ fun e he => Ne.symm he.2.1)⟩, h.bi.frT F (key _ fun e he => Ne.symm he.2.2.1), h.pa.frT F (key _ fun e he => Ne.symm he.2.2.2.1), h.si.frT F (key _ fun e he => Ne.symm he.2.2.2.2), h.has, h.sum⟩

/-- Folders' rows tell the folders. -/
structure RowsM (w : World) (lo : Nat) (rows : List FoRow) (L : List Fol) : Prop where
  len : rows.length = L.length
  row : ∀ (i : Nat) r x, rows[i]? = some r → L[i]? = some x → RowM w lo r x
theorem RowsM.nil (w : World) (lo : Nat) : RowsM w lo [] [] := ⟨rfl, fun i r x h => by simp at h⟩
theorem RowsM.frT {w w' : World} {lo : Nat} {rows : List FoRow} {L : List Fol} {S : List Nat} (h : RowsM w lo rows L) (F : Fr S w w') (hS : ∀ i ∈ S, i < lo ∨ ∃ e, Typed w i e ∧ FarT e) : RowsM w' lo rows L :=
  ⟨h.len, fun i r x h1 h2 => (h.row i r x h1 h2).frT F hS⟩
theorem RowsM.snoc {w : World} {lo : Nat} {rows : List FoRow} {L : List Fol} {r : FoRow} {x : Fol} (h : RowsM w lo rows L) (hr : RowM w lo r x) : RowsM w lo (rows ++ [r]) (L ++ [x]) := by
  refine ⟨by rw [List.length_append, List.length_append, h.len]; rfl, fun i r' x' h1 h2 => ?_⟩
  by_cases hi : i < rows.length
  · rw [List.getElem?_append_left hi] at h1
    rw [List.getElem?_append_left (by rw [← h.len]; exact hi)] at h2
    exact h.row i r' x' h1 h2
  · rw [List.getElem?_append_right (by omega)] at h1
    rw [List.getElem?_append_right (by rw [← h.len]; omega), ← h.len] at h2
    have h0 : i - rows.length = 0 := by
      have := (List.getElem?_eq_some_iff.1 h1).1
      simp at this
      omega
    rw [h0] at h1 h2
    simp at h1 h2
    subst h1 h2
    exact hr
/-- One row is another one. -/
theorem RowsM.set {w : World} {lo : Nat} {rows : List FoRow} {L : List Fol} {r : FoRow} {x : Fol} (h : RowsM w lo rows L) (i : Nat) (hr : RowM w lo r x) : RowsM w lo (rows.set i r) (L.set i x) := by
  refine ⟨by simp [h.len], fun j r' x' h1 h2 => ?_⟩
  rw [List.getElem?_set] at h1 h2
  by_cases e : i = j
  · subst e
    rw [if_pos rfl] at h1 h2
    split at h1
    · split at h2
      · simp at h1 h2
        subst h1 h2
        exact hr
      · cases h2
    · cases h1
  · rw [if_neg e] at h1 h2
    exact h.row j r' x' h1 h2

/-- The plain reader of folders. -/
def foldersGo : Nat → Rs → List Folder → List Folder × Rs
  | 0, s, L => (L, s.ok)
  | m + 1, s, L => if s.ok.k ≠ 0 then (L, s.ok) else foldersGo m s.ok.folder.2 (L ++ [s.ok.folder.1])
def sizesFor : Nat → Rs → List UInt64 → List UInt64 × Rs
  | 0, s, S => (S, s)
  | m + 1, s, S => sizesFor m s.size.2 (S ++ [UInt64.ofNat s.size.1])
def sizesGo : List Folder → Rs → List Folder → List Folder × Rs
  | [], s, D => (D, s.ok)
  | f :: t, s, D => if s.ok.k ≠ 0 then (D ++ f :: t, s.ok) else sizesGo t (sizesFor f.coders.length s.ok []).2 (D ++ [{ f with sizes := (sizesFor f.coders.length s.ok []).1 }])
/-- Folders with their checks, as far as there are some. -/
def withCks (L : List Folder) (cs : List Ck) : List Fol := L.mapIdx fun i f => ⟨f, cs.getD i ⟨false, 0⟩⟩
def Rs.foldersB (L : List Folder) (n id : Nat) (s : Rs) : List Fol × Rs :=
  if (s.at (id == 10)).1 then (withCks L ((s.at (id == 10)).2.sums n).1, ((s.at (id == 10)).2.sums n).2.byte.2.end_ ((s.at (id == 10)).2.sums n).2.byte.1)
  else (withCks L [], (s.at (id == 10)).2.end_ id)
def Rs.foldersA (n : Nat) (s : Rs) : List Fol × Rs :=
  Rs.foldersB (sizesGo (foldersGo n s []).1 ((foldersGo n s []).2.must 12) []).1 n (sizesGo (foldersGo n s []).1 ((foldersGo n s []).2.must 12) []).2.byte.1 (sizesGo (foldersGo n s []).1 ((foldersGo n s []).2.must 12) []).2.byte.2
def Rs.folders (s : Rs) : List Fol × Rs := Rs.foldersA (s.must 11).things.1 (s.must 11).things.2.inside
end Go.Proofs.Ythdfjbliafdchaa
