/- A folder that is read: what lies in memory. No condition. -/
import Derived.Test.YthdfjbliafdchaaHCoder
namespace Go.Proofs.Ythdfjbliafdchaa
open Go.RowKit

/-- What the call owns, kept where blocks of other types change. -/
theorem own_frT {w w' : World} {base e sz : Nat} {v : Value} {n : Nat} {xs : List Value} {S : List Nat} (h : w.ownsRow base e sz v n xs) (F : Fr S w w') (hS : ∀ i ∈ S, i < base ∨ ∀ cs z, w.heap[i]? ≠ some (.cells cs e z)) : w'.ownsRow base e sz v n xs := by
  refine own_frS h F fun k hk hm => ?_
  rcases hS k hm with h1 | h1
  · have := (own_ltS h k hk).1; omega
  · rcases h.2 with ⟨rfl, -⟩ | ⟨g, cap, cur, rfl, hb, hg, -⟩
    · simp [Value.ownBlock] at hk
    · simp [Value.ownBlock] at hk
      subst hk
      exact h1 _ _ hg
/-- A row's block bears its type. -/
theorem own_type {w : World} {base e sz : Nat} {v : Value} {n : Nat} {xs : List Value} (h : w.ownsRow base e sz v n xs) (k : Nat) (hk : v.ownBlock = some k) (e' : Nat) (he : e' ≠ e) : ∀ cs z, w.heap[k]? ≠ some (.cells cs e' z) := by
  rcases h.2 with ⟨rfl, -⟩ | ⟨g, cap, cur, rfl, hb, hg, -⟩
  · simp [Value.ownBlock] at hk
  · simp [Value.ownBlock] at hk
    subst hk
    intro cs z hc
    rw [hg] at hc
    injection hc with hc
    injection hc with _ h2 _
    exact he h2.symm

def coV (l : List (Coder × Value)) : List Value := l.flatMap fun c => [.int .i64 c.1.method, c.2]
def biV (l : List (Int × Int)) : List Value := l.flatMap fun b => [.int .i64 b.1, .int .i64 b.2]
theorem coV_append (a b : List (Coder × Value)) : coV (a ++ b) = coV a ++ coV b := by simp [coV]
theorem biV_append (a b : List (Int × Int)) : biV (a ++ b) = biV a ++ biV b := by simp [biV]

/-- The properties of coders lie in memory. -/
def PropsM (w : World) (lo : Nat) (l : List (Coder × Value)) : Prop := ∀ c ∈ l, Sm w lo 5 1 c.2 c.1.props.length (bv c.1.props)
theorem PropsM.nil (w : World) (lo : Nat) : PropsM w lo [] := fun c hc => by cases hc
theorem PropsM.frT {w w' : World} {lo : Nat} {l : List (Coder × Value)} {S : List Nat} (h : PropsM w lo l) (F : Fr S w w') (hS : ∀ i ∈ S, i < lo ∨ ∀ cs z, w.heap[i]? ≠ some (.cells cs 5 z)) : PropsM w' lo l := fun c hc => (h c hc).frT F hS
theorem PropsM.snoc {w : World} {lo : Nat} {l : List (Coder × Value)} {c : Coder} {v : Value} (h : PropsM w lo l) (hv : Sm w lo 5 1 v c.props.length (bv c.props)) : PropsM w lo (l ++ [(c, v)]) := by
  intro x hx
  rcases List.mem_append.1 hx with hx | hx
  · exact h x hx
  · simp at hx; subst hx; exact hv

theorem info_co : (Try.prog.info? 61).map (fun i => (i.zero, i.size, i.bytes)) = some (some (.agg #[.int .i64 0, .slice none 0 0]), 2, 32) := by kernel_rfl
theorem sty_co : SlTyM Try.prog 40 61 (.agg #[.int .i64 0, .slice none 0 0]) 2 32 := ⟨Try.underlying40, by obtain ⟨i, h⟩ := info_parts info_co; exact ⟨i, h⟩, rfl, by decide⟩
theorem info_bi : (Try.prog.info? 50).map (fun i => (i.zero, i.size, i.bytes)) = some (some (.agg #[.int .i64 0, .int .i64 0]), 2, 16) := by kernel_rfl
theorem sty_bi : SlTyM Try.prog 41 50 (.agg #[.int .i64 0, .int .i64 0]) 2 16 := ⟨Try.underlying41, by obtain ⟨i, h⟩ := info_parts info_bi; exact ⟨i, h⟩, rfl, by decide⟩
theorem info_in : (Try.prog.info? 3).map (fun i => (i.zero, i.size, i.bytes)) = some (some (.int .i64 0), 1, 8) := by kernel_rfl
theorem sty_in : SlTyM Try.prog 42 3 (.int .i64 0) 1 8 := ⟨Try.underlying42, by obtain ⟨i, h⟩ := info_parts info_in; exact ⟨i, h⟩, rfl, by decide⟩

/-- The state of a folder that is read: what is handed back lies in block g, the folder itself in the next one. -/
structure FoSt (w : World) (p cp : Nat) (q : Option Nat) (s : Rs) (d : DV) (cv bv' pv : Value) (wx : World) : Prop where
  rd : RdAt wx p cp q s d
  b0 : wx.heap[w.heap.size]? = some (.cells #[.slice none 0 0, .slice none 0 0, .slice none 0 0, .slice none 0 0, .bool false, .int .u32 0] 47 (0, 0))
  b1 : wx.heap[w.heap.size + 1]? = some (.cells #[cv, bv', pv, .slice none 0 0, .bool false, .int .u32 0] 47 (0, 0))
  fr : Fr [p, cp] w wx

theorem FoSt.lt {w : World} {p cp : Nat} {q : Option Nat} {s : Rs} {d : DV} {cv bv' pv : Value} {wx : World} (h : FoSt w p cp q s d cv bv' pv wx) : w.heap.size + 2 ≤ wx.heap.size := by
  have := (Array.getElem?_eq_some_iff.1 h.b1).1
  omega
theorem FoSt.on {w : World} {p cp : Nat} {q : Option Nat} {s s' : Rs} {d : DV} {cv bv' pv : Value} {wx wy : World} {S : List Nat} (h : FoSt w p cp q s d cv bv' pv wx) (hp : p < w.heap.size) (hc : cp < w.heap.size) (F : Fr S wx wy) (hS : ∀ i ∈ S, i = p ∨ i = cp ∨ w.heap.size + 2 ≤ i) (R : RdAt wy p cp q s' d) : FoSt w p cp q s' d cv bv' pv wy := by
  refine ⟨R, (F.block _ (Array.getElem?_eq_some_iff.1 h.b0).1 (fun hm => ?_)).trans h.b0, (F.block _ (Array.getElem?_eq_some_iff.1 h.b1).1 (fun hm => ?_)).trans h.b1, h.fr.trans F (fun i hi => ?_)⟩
  · rcases hS _ hm with e | e | e <;> omega
  · rcases hS _ hm with e | e | e <;> omega
  · rcases hS _ hi with e | e | e
    · left; simp [e]
    · left; simp [e]
    · right; omega
theorem FoSt.on2 {w : World} {p cp : Nat} {q : Option Nat} {s s' : Rs} {d : DV} {cv bv' pv : Value} {wx wy : World} (h : FoSt w p cp q s d cv bv' pv wx) (hp : p < w.heap.size) (hc : cp < w.heap.size) (F : Fr [p, cp] wx wy) (R : RdAt wy p cp q s' d) : FoSt w p cp q s' d cv bv' pv wy :=
  h.on hp hc F (by simp) R
/-- A field is written. -/
theorem FoSt.put {w : World} {p cp : Nat} {q : Option Nat} {s : Rs} {d : DV} {cv bv' pv : Value} {wx : World} (h : FoSt w p cp q s d cv bv' pv wx) (hp : p < w.heap.size) (hc : cp < w.heap.size) (hq : ∀ k, q = some k → k < w.heap.size) (i : Nat) (v cv2 bv2 pv2 : Value)
    (hb : (wx.setCell ⟨w.heap.size + 1, i, none⟩ v).heap[w.heap.size + 1]? = some (.cells #[cv2, bv2, pv2, .slice none 0 0, .bool false, .int .u32 0] 47 (0, 0))) :
    FoSt w p cp q s d cv2 bv2 pv2 (wx.setCell ⟨w.heap.size + 1, i, none⟩ v) := by
  have F : Fr [w.heap.size + 1] wx (wx.setCell ⟨w.heap.size + 1, i, none⟩ v) := (Fr.refl _ _).setCell (by simp) _
  exact ⟨h.rd.fr F (by simp; omega) (by simp; omega) (fun k hk => by have := hq k hk; simp; omega), (F.block _ (Array.getElem?_eq_some_iff.1 h.b0).1 (by simp)).trans h.b0, hb, h.fr.setCell (.inr (by simp)) _⟩
theorem FoSt.put0 {w : World} {p cp : Nat} {q : Option Nat} {s : Rs} {d : DV} {cv bv' pv : Value} {wx : World} (h : FoSt w p cp q s d cv bv' pv wx) (hp : p < w.heap.size) (hc : cp < w.heap.size) (hq : ∀ k, q = some k → k < w.heap.size) (v : Value) : FoSt w p cp q s d v bv' pv (wx.setCell ⟨w.heap.size + 1, 0, none⟩ v) :=
  h.put hp hc hq 0 v v bv' pv (Go.Joins.block_setCell h.b1 _)
theorem FoSt.put1 {w : World} {p cp : Nat} {q : Option Nat} {s : Rs} {d : DV} {cv bv' pv : Value} {wx : World} (h : FoSt w p cp q s d cv bv' pv wx) (hp : p < w.heap.size) (hc : cp < w.heap.size) (hq : ∀ k, q = some k → k < w.heap.size) (v : Value) : FoSt w p cp q s d cv v pv (wx.setCell ⟨w.heap.size + 1, 1, none⟩ v) :=
  h.put hp hc hq 1 v cv v pv (Go.Joins.block_setCell h.b1 _)
theorem FoSt.put2 {w : World} {p cp : Nat} {q : Option Nat} {s : Rs} {d : DV} {cv bv' pv : Value} {wx : World} (h : FoSt w p cp q s d cv bv' pv wx) (hp : p < w.heap.size) (hc : cp < w.heap.size) (hq : ∀ k, q = some k → k < w.heap.size) (v : Value) : FoSt w p cp q s d cv bv' v (wx.setCell ⟨w.heap.size + 1, 2, none⟩ v) :=
  h.put hp hc hq 2 v cv bv' v (Go.Joins.block_setCell h.b1 _)

/-- What the call's own row grows by leaves the rest alone. -/
theorem FoSt.grown {w : World} {p cp : Nat} {q : Option Nat} {s : Rs} {d : DV} {cv bv' pv : Value} {wx wy w0 : World} {e m n : Nat} {v : Value} {xs : List Value} (h : FoSt w p cp q s d cv bv' pv wx) (hp : p < w.heap.size) (hc : cp < w.heap.size) (hq : ∀ k, q = some k → k < w.heap.size)
    (hg : wx.grownBy wy v.ownBlock) (own : w0.ownsRow (w.heap.size + 2) e m v n xs) : FoSt w p cp q s d cv bv' pv wy ∧ Fr v.ownBlock.toList wx wy ∧ ∀ i ∈ v.ownBlock.toList, w.heap.size + 2 ≤ i := by
  have hb : ∀ k, v.ownBlock = some k → w.heap.size + 2 ≤ k := fun k hk => (own_ltS own k hk).1
  have F : Fr v.ownBlock.toList wx wy := (Fr.refl _ _).grown hg (fun k hk => .inl (by rw [hk]; simp))
  have hb2 : ∀ i ∈ v.ownBlock.toList, w.heap.size + 2 ≤ i := fun i hi => hb i (by simpa using hi)
  exact ⟨h.on hp hc F (fun i hi => .inr (.inr (hb2 i hi))) (h.rd.grownB hg own (by omega) (by omega) (fun k hk => by have := hq k hk; omega)), F, hb2⟩
theorem FoSt.fr0 {w : World} {p cp : Nat} {q : Option Nat} {s : Rs} {d : DV} {cv bv' pv : Value} {wx wy : World} (h : FoSt w p cp q s d cv bv' pv wx) (hp : p < w.heap.size) (hc : cp < w.heap.size) (F : Fr [] wx wy) : FoSt w p cp q s d cv bv' pv wy := h.on hp hc F (by simp) (h.rd.fr0 F)

theorem cells6 {w : World} {g : Nat} {t : TypeId} {a0 a1 a2 a3 a4 a5 : Value} (h : w.heap[g]? = some (.cells #[a0, a1, a2, a3, a4, a5] t (0, 0))) :
    w.cell? ⟨g, 0, none⟩ = some a0 ∧ w.cell? ⟨g, 1, none⟩ = some a1 ∧ w.cell? ⟨g, 2, none⟩ = some a2 ∧ w.cell? ⟨g, 3, none⟩ = some a3 ∧ w.cell? ⟨g, 4, none⟩ = some a4 ∧ w.cell? ⟨g, 5, none⟩ = some a5 ∧ (∀ j, w.frozen? ⟨g, j, none⟩ = false) :=
  ⟨by simp [Go.Joins.cell_of_block h], by simp [Go.Joins.cell_of_block h], by simp [Go.Joins.cell_of_block h], by simp [Go.Joins.cell_of_block h], by simp [Go.Joins.cell_of_block h], by simp [Go.Joins.cell_of_block h], fun j => Go.Joins.unfrozen_of_block h j⟩

/-- What is read of a folder. -/
def insL (l : List Coder) : Nat := (l.map fun c => ins c.method).sum
def codersGo : Nat → Rs → List Coder → List Coder × Rs
  | 0, s, L => (L, s.ok)
  | m + 1, s, L => if s.ok.k ≠ 0 then (L, s.ok) else codersGo m s.ok.coder.2 (L ++ [s.ok.coder.1])
def bindsGo : Nat → Nat → Nat → Rs → List (Int × Int) → List (Int × Int) × Rs
  | 0, _, _, s, B => (B, s.ok)
  | m + 1, i, n, s, B => if s.ok.k ≠ 0 then (B, s.ok) else bindsGo m i n ((s.ok.below i).2.below n).2 (B ++ [(((s.ok.below i).1 : Int), (((s.ok.below i).2.below n).1 : Int))])
def belowGo : Nat → Nat → Rs → List Int → List Int × Rs
  | 0, _, s, P => (P, s)
  | m + 1, i, s, P => belowGo m i (s.below i).2 (P ++ [((s.below i).1 : Int)])
/-- The least stream that no bind has. -/
def freeAt (B : List (Int × Int)) (i : Nat) : Nat := ((List.range i).find? fun (k : Nat) => !decide ((k : Int) ∈ B.map (·.1))).getD i
def Rs.folderD (C : List Coder) (B : List (Int × Int)) (s : Rs) : Folder × Rs :=
  if s.ok.k ≠ 0 then (⟨C, B, [], []⟩, s.ok)
  else if insL C = B.length + 1 then (⟨C, B, [(freeAt B (insL C) : Int)], []⟩, if freeAt B (insL C) = insL C then s.ok.fail 10 else s.ok)
  else (⟨C, B, (belowGo (insL C - B.length) (insL C) s.ok []).1, []⟩, (belowGo (insL C - B.length) (insL C) s.ok []).2)
def Rs.folderC (n : Nat) (s : Rs) : Folder × Rs :=
  Rs.folderD (codersGo n s []).1 (bindsGo (n - 1) (insL (codersGo n s []).1) n (codersGo n s []).2 []).1 (bindsGo (n - 1) (insL (codersGo n s []).1) n (codersGo n s []).2 []).2
def Rs.folder (s : Rs) : Folder × Rs := Rs.folderC s.number.1 (s.number.2.check (decide (s.number.1 < 1) || decide (8 < s.number.1)) 10)

def FolderR (w : World) (p cp : Nat) (q : Option Nat) (r : Folder × Rs) (d : DV) (e : Ending) (w' : World) : Prop :=
  (∃ cv bv' pv LP, e = .returned (.agg #[cv, bv', pv, .slice none 0 0, .bool false, .int .u32 0]) ∧ LP.map (·.1) = r.1.coders ∧ Sm w' w.heap.size 61 2 cv r.1.coders.length (coV LP) ∧ PropsM w' w.heap.size LP ∧
    Sm w' w.heap.size 50 2 bv' r.1.binds.length (biV r.1.binds) ∧ Sm w' w.heap.size 3 1 pv r.1.packs.length (iv r.1.packs)) ∧ RdAt w' p cp q r.2 d ∧ Fr [p, cp] w w'
end Go.Proofs.Ythdfjbliafdchaa
