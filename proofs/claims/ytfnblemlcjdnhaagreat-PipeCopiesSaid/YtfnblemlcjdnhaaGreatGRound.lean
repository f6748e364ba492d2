/- Contracts: the walk through a graph in depth, by a closure that calls itself. No condition but that numbers fit. -/
import Derived.Test.YtfnblemlcjdnhaaGreatGA
import Derived.Test.YtfnblemlcjdnhaaGreatGDfs
import Derived.Test.YtfnblemlcjdnhaaGreatGNamed
import Derived.Deep.RegionHeld3
import Derived.Laws.EntriesVeiled
namespace Go.Proofs.YtfnblemlcjdnhaaGreat
open Go.RowKit

def nv (l : List Nat) : List Value := l.map fun (k : Nat) => .int .i64 (k : Int)
theorem nv_length (l : List Nat) : (nv l).length = l.length := by simp [nv]
theorem nv_get (l : List Nat) (j : Nat) (x : Nat) (h : l[j]? = some x) : (nv l)[j]? = some (.int .i64 (x : Int)) := by simp [nv, h]
theorem nv_set (l : List Nat) (j : Nat) (x : Nat) : nv (l.set j x) = (nv l).set j (.int .i64 (x : Int)) := by simp [nv, List.map_set]

def fdOf (f : Folder) (c : Nat) : List Nat := (f.feeders c).map Int.toNat

/-- Where the closure's variables lie. -/
structure VP where
  g0 : Nat
  g1 : Nat
  g2 : Nat
  gs : Nat
  c : Value
  b : Value
  p : Value
  s : Value
  h : Value
  k : Value
  f : Folder
  w0 : World

def VP.fv (V : VP) : Value := .func (.func 77) #[] #[.pointer (some ⟨V.g1, 0, none⟩), .pointer (some ⟨V.g0, 0, none⟩), .pointer (some ⟨V.g2, 0, none⟩)]
def VP.n (V : VP) : Nat := V.f.coders.length
def VP.sv (V : VP) : Value := .slice (some ⟨V.gs, 0, none⟩) V.n V.n

structure VP.At (V : VP) (w : World) (st : List Nat) : Prop where
  fo : FoV w V.c V.b V.p V.s V.f
  fr : Fr [] V.w0 w
  own : w.ownsRow V.w0.heap.size 3 1 V.sv V.n (nv st)
  n0 : V.gs ≠ V.g0
  n1 : V.gs ≠ V.g1
  n2 : V.gs ≠ V.g2
  l0 : V.g0 < w.heap.size
  l1 : V.g1 < w.heap.size
  l2 : V.g2 < w.heap.size
  c0 : w.cell? ⟨V.g0, 0, none⟩ = some V.c
  c1 : w.cell? ⟨V.g0, 1, none⟩ = some V.b
  c2 : w.cell? ⟨V.g0, 2, none⟩ = some V.p
  c3 : w.cell? ⟨V.g0, 3, none⟩ = some V.s
  c4 : w.cell? ⟨V.g0, 4, none⟩ = some V.h
  c5 : w.cell? ⟨V.g0, 5, none⟩ = some V.k
  cs : w.cell? ⟨V.g1, 0, none⟩ = some V.sv
  cv : w.cell? ⟨V.g2, 0, none⟩ = some V.fv

/-- Nothing of it has turned. -/
theorem VP.At.fr0 {V : VP} {w w' : World} {st : List Nat} (h : V.At w st) (F : Fr [] w w') : V.At w' st :=
  ⟨h.fo.fr F, h.fr.trans0 F, own_fr h.own F (by simp), h.n0, h.n1, h.n2, Nat.lt_of_lt_of_le h.l0 F.size, Nat.lt_of_lt_of_le h.l1 F.size, Nat.lt_of_lt_of_le h.l2 F.size,
    (F.cell (p := ⟨V.g0, 0, none⟩) h.l0 (by simp)).trans h.c0, (F.cell (p := ⟨V.g0, 1, none⟩) h.l0 (by simp)).trans h.c1, (F.cell (p := ⟨V.g0, 2, none⟩) h.l0 (by simp)).trans h.c2, (F.cell (p := ⟨V.g0, 3, none⟩) h.l0 (by simp)).trans h.c3,
    (F.cell (p := ⟨V.g0, 4, none⟩) h.l0 (by simp)).trans h.c4, (F.cell (p := ⟨V.g0, 5, none⟩) h.l0 (by simp)).trans h.c5, (F.cell (p := ⟨V.g1, 0, none⟩) h.l1 (by simp)).trans h.cs, (F.cell (p := ⟨V.g2, 0, none⟩) h.l2 (by simp)).trans h.cv⟩

theorem VP.At.gs_ge {V : VP} {w : World} {st : List Nat} (h : V.At w st) : V.w0.heap.size ≤ V.gs ∧ V.gs < w.heap.size := by
  have := h.own.lt V.gs rfl
  exact this

/-- One colour is turned; V.w0 must hold the folder. -/
theorem VP.At.set {V : VP} {w : World} {st : List Nat} (h : V.At w st) (hw : FoV V.w0 V.c V.b V.p V.s V.f) (j x : Nat) : V.At (w.setCell ⟨V.gs, j, none⟩ (.int .i64 (x : Int))) (st.set j x) ∧ Fr [V.gs] w (w.setCell ⟨V.gs, j, none⟩ (.int .i64 (x : Int))) := by
  have hge := h.gs_ge
  have F : Fr [] V.w0 (w.setCell ⟨V.gs, j, none⟩ (.int .i64 (x : Int))) := h.fr.setCell (.inr hge.1) _
  have F1 : Fr [V.gs] w (w.setCell ⟨V.gs, j, none⟩ (.int .i64 (x : Int))) := (Fr.refl _ _).setCell (.inl (by simp)) _
  refine ⟨⟨hw.fr F, F, ?_, h.n0, h.n1, h.n2, by simpa using h.l0, by simpa using h.l1, by simpa using h.l2,
    (F1.cell (p := ⟨V.g0, 0, none⟩) h.l0 (by simpa using h.n0.symm)).trans h.c0, (F1.cell (p := ⟨V.g0, 1, none⟩) h.l0 (by simpa using h.n0.symm)).trans h.c1, (F1.cell (p := ⟨V.g0, 2, none⟩) h.l0 (by simpa using h.n0.symm)).trans h.c2, (F1.cell (p := ⟨V.g0, 3, none⟩) h.l0 (by simpa using h.n0.symm)).trans h.c3,
    (F1.cell (p := ⟨V.g0, 4, none⟩) h.l0 (by simpa using h.n0.symm)).trans h.c4, (F1.cell (p := ⟨V.g0, 5, none⟩) h.l0 (by simpa using h.n0.symm)).trans h.c5, (F1.cell (p := ⟨V.g1, 0, none⟩) h.l1 (by simpa using h.n1.symm)).trans h.cs, (F1.cell (p := ⟨V.g2, 0, none⟩) h.l2 (by simpa using h.n2.symm)).trans h.cv⟩, F1⟩
  rw [nv_set]
  exact (h.own.stored j _).1

/-- The closure, or whoever calls it, has told r; the colours are st. -/
def VP.End (V : VP) (r : Bool) (st : List Nat) (w : World) (e : Ending) (w' : World) : Prop := e = .returned (.bool r) ∧ V.At w' st ∧ Fr [V.gs] w w'

/-- What the closure does with fuel. -/
def VP.Does (V : VP) (fuel : Nat) : Prop := ∀ (w : World) (st : List Nat) (c : Nat) (r : Bool) (st' : List Nat), V.At w st → c < V.n → visit (fdOf V.f) fuel st c = some (r, st') →
  Calls Tryz.prog 77 #[.int .i64 c, .pointer (some ⟨V.g1, 0, none⟩), .pointer (some ⟨V.g0, 0, none⟩), .pointer (some ⟨V.g2, 0, none⟩)] w (V.End r st' w)

theorem indexfunc_any (V : VP) (fuel : Nat) (hV : V.Does fuel) (w : World) (v : Value) (l : List Int) (hl : Sl w v (iv l)) (hlb : ∀ k, v.ownBlock = some k → k ≠ V.gs) (hlt : ∀ x ∈ l, 0 ≤ x ∧ x < V.n) (st : List Nat) (r : Bool) (st' : List Nat) (hA : V.At w st)
    (hgo : visit.go (visit (fdOf V.f) fuel) (l.map Int.toNat) st = some (r, st')) :
    Calls Tryz.prog 102 #[v, V.fv] w fun e w' => (∃ i : Int, e = .returned (.int .i64 i) ∧ decide (0 ≤ i) = r) ∧ V.At w' st' ∧ Fr [V.gs] w w' := by
  obtain ⟨ao, cap, rfl, g, m, o⟩ := hl.out
  simp only [iv_length] at *
  go_enter Tryz.func102, Tryz.ntmps102
  go_wp2_with fail
  go_loopw [8] (fun i wr => ∃ (k : Nat) (sk : List Nat), k ≤ l.length ∧ i = .int .i64 k ∧ visit.go (visit (fdOf V.f) fuel) ((l.drop k).map Int.toNat) sk = some (r, st') ∧ V.At wr sk ∧ Fr [V.gs] w wr) (fun i _ => l.length - (intOf i).toNat)
  case atStart => exact ⟨0, st, Nat.zero_le _, rfl, hgo, hA, Fr.refl _ _⟩
  case round =>
    obtain ⟨k, sk, hk, rfl, hg, hAk, F⟩ := hrel
    by_cases hlt2 : k < l.length
    · obtain ⟨b1, o1, rfl, hb1, c1⟩ := o k hlt2
      obtain ⟨y, hy⟩ := some_get l k hlt2
      have d1 : wr.cell? ⟨b1, o1 + k, none⟩ = some (.int .i64 y) := by
        rw [F.cell (p := ⟨b1, _, none⟩) hb1 (by simpa using hlb b1 rfl), c1 k hlt2, iv_get _ _ _ hy]
      obtain ⟨z, hz, hzn⟩ : ∃ z : Nat, y = z ∧ z < V.n := by
        have := hlt y (List.mem_of_getElem? hy)
        exact ⟨y.toNat, by omega, by omega⟩
      subst hz
      have hdr : l.drop k = (z : Int) :: l.drop (k + 1) := by
        have := List.drop_eq_getElem_cons hlt2
        rwa [(List.getElem?_eq_some_iff.1 hy).2] at this
      rw [hdr] at hg
      simp only [List.map_cons, Int.toNat_natCast, visit.go] at hg
      cases hv : visit (fdOf V.f) fuel sk z with
      | none => rw [hv] at hg; simp at hg
      | some rr =>
        obtain ⟨r1, s1⟩ := rr
        rw [hv] at hg
        have HC := Lib.hid (hV wr sk z r1 s1 hAk hzn hv)
        have HG := Lib.hid hg
        have HA := Lib.hid hAk
        clear hg o c1 hy hdr hv hl hlb hlt hgo hA hAk
        have hfv : V.fv = .func (.func 77) #[] #[.pointer (some ⟨V.g1, 0, none⟩), .pointer (some ⟨V.g0, 0, none⟩), .pointer (some ⟨V.g2, 0, none⟩)] := rfl
        rw [hfv]
        clear hfv
        cases r1 with
        | true =>
          go_wp2_with (go_at_call 77; refine HC.out.mono ?_; rintro e w2 ⟨rfl, hA2, F2⟩)
          go_ret
          have := HG.out
          simp at this
          obtain ⟨rfl, rfl⟩ := this
          exact ⟨⟨k, rfl, by simp⟩, hA2, F.trans F2 (by simp)⟩
        | false =>
          go_wp2_with (go_at_call 77; refine HC.out.mono ?_; rintro e w2 ⟨rfl, hA2, F2⟩)
          go_roundw
          case rel => exact ⟨k + 1, s1, by omega, by go_num, by have := HG.out; simpa using this, hA2, F.trans F2 (by simp)⟩
          case measure => simp [intOf]; omega
    · have hk2 : k = l.length := by omega
      subst hk2
      have HG := Lib.hid hg
      clear o hg
      go_wp2_with fail
      go_ret
      have := HG.out
      simp [visit.go] at this
      obtain ⟨rfl, rfl⟩ := this
      exact ⟨⟨-1, rfl, by simp⟩, hAk, F⟩

theorem contains_any (V : VP) (fuel : Nat) (hV : V.Does fuel) (w : World) (v : Value) (l : List Int) (hl : Sl w v (iv l)) (hlb : ∀ k, v.ownBlock = some k → k ≠ V.gs) (hlt : ∀ x ∈ l, 0 ≤ x ∧ x < V.n) (st : List Nat) (r : Bool) (st' : List Nat) (hA : V.At w st)
    (hgo : visit.go (visit (fdOf V.f) fuel) (l.map Int.toNat) st = some (r, st')) :
    Calls Tryz.prog 78 #[v, V.fv] w (V.End r st' w) := by
  have HI := Lib.hid (indexfunc_any V fuel hV w v l hl hlb hlt st r st' hA hgo)
  clear hl hlt hA hgo
  go_enter Tryz.func78, Tryz.ntmps78
  go_wp2_with (go_at_call 102; refine HI.out.mono ?_; rintro e w2 ⟨⟨i, rfl, hi⟩, hA2, F2⟩)
  go_ret
  exact ⟨by rw [← hi]; rfl, hA2, F2⟩

theorem visit_does (V : VP) (hw : FoV V.w0 V.c V.b V.p V.s V.f) (hn : V.n ≤ 100) (hfit : ∀ c, c < V.n → ∀ x ∈ V.f.feeders c, 0 ≤ x ∧ x < V.n) : ∀ fuel, V.Does fuel := by
  intro fuel
  induction fuel with
  | zero => intro w st c r st' _ _ h; simp [visit] at h
  | succ fuel ih =>
    intro w st c r st' hA hc hv
    obtain ⟨x, hx⟩ : ∃ x, st[c]? = some x := some_get _ _ (by have := hA.own.1; rw [nv_length] at this; omega)
    have hge := hA.gs_ge
    have hsv : V.sv = .slice (some ⟨V.gs, 0, none⟩) V.n V.n := rfl
    have hs := hA.cs
    rw [hsv] at hs
    have hcell : w.cell? ⟨V.gs, c, none⟩ = some (.int .i64 (x : Int)) := by
      have := hA.own
      rw [hsv] at this
      rw [this.cellAt c (by omega), nv_get _ _ _ hx]
    have hfroz : w.frozen? ⟨V.gs, c, none⟩ = false := by
      have := hA.own
      rw [hsv] at this
      exact this.frozenAt c
    simp only [visit, hx] at hv
    have HX := Lib.hid hx
    clear hx hsv
    by_cases h1 : x = 1
    · subst h1
      rw [if_pos rfl] at hv
      simp only [Option.some.injEq, Prod.mk.injEq] at hv
      obtain ⟨rfl, rfl⟩ := hv
      go_enter Tryz.func77, Tryz.ntmps77
      go_wp2_with fail
      go_ret
      exact ⟨rfl, hA, Fr.refl _ _⟩
    · have hne : ¬ some x = some 1 := by simpa using h1
      rw [if_neg hne] at hv
      by_cases h2 : x = 2
      · subst h2
        rw [if_pos rfl] at hv
        simp only [Option.some.injEq, Prod.mk.injEq] at hv
        obtain ⟨rfl, rfl⟩ := hv
        clear hne h1
        go_enter Tryz.func77, Tryz.ntmps77
        go_wp2_with fail
        go_ret
        exact ⟨rfl, hA, Fr.refl _ _⟩
      · have hne2 : ¬ some x = some 2 := by simpa using h2
        rw [if_neg hne2] at hv
        have b1 : ((x : Int) == 1) = false := by simp; omega
        have b2 : ((x : Int) == 2) = false := by simp; omega
        have hS : V.At (w.setCell ⟨V.gs, c, none⟩ (.int .i64 1)) (st.set c 1) ∧ Fr [V.gs] w (w.setCell ⟨V.gs, c, none⟩ (.int .i64 1)) := hA.set hw c 1
        obtain ⟨rr, hgo, hrr⟩ := Option.map_eq_some_iff.1 hv
        obtain ⟨r0, s0⟩ := rr
        simp only [Prod.mk.injEq] at hrr
        obtain ⟨rfl, rfl⟩ := hrr
        have HG := Lib.hid hgo
        clear hgo
        clear hne hne2 h1 h2 hA hv
        go_enter Tryz.func77, Tryz.ntmps77
        go_wp2_with fail
        obtain ⟨hA1, F1⟩ := hS
        generalize w.setCell ⟨V.gs, c, none⟩ (.int .i64 1) = w1 at hA1 F1 ⊢
        have hD : V.At w1.drew (st.set c 1) := hA1.fr0 (Fr.refl _ _).drew
        clear hs hcell hfroz
        have k0 := hA1.c0; have k1 := hA1.c1; have k2 := hA1.c2; have k3 := hA1.c3; have k4 := hA1.c4; have k5 := hA1.c5; have k6 := hA1.cv
        have HD := Lib.hid hD
        have HHF := Lib.hid hfit
        have HW := Lib.hid hw
        have HI := Lib.hid ih
        have H1 := Lib.hid hA1
        clear hD hA1 hfit hw ih
        have hfv : V.fv = .func (.func 77) #[] #[.pointer (some ⟨V.g1, 0, none⟩), .pointer (some ⟨V.g0, 0, none⟩), .pointer (some ⟨V.g2, 0, none⟩)] := rfl
        generalize hfvv : V.fv = fv at k6
        have HF := Lib.hid hfvv
        clear hfv hfvv
        go_region_held3 (fun w' => w'.cell? ⟨V.g0, 0, none⟩ = some V.c ∧ w'.cell? ⟨V.g0, 1, none⟩ = some V.b ∧ w'.cell? ⟨V.g0, 2, none⟩ = some V.p ∧ w'.cell? ⟨V.g0, 3, none⟩ = some V.s ∧ w'.cell? ⟨V.g0, 4, none⟩ = some V.h ∧ w'.cell? ⟨V.g0, 5, none⟩ = some V.k ∧ w'.cell? ⟨V.g2, 0, none⟩ = some fv)
          (first | exact ⟨k0, k1, k2, k3, k4, k5, k6⟩ | exact ⟨q0, q1, q2, q3, q4, q5, q6⟩ | exact ⟨y0, y1, y2, y3, y4, y5, y6⟩ | go_keep)
          (first
            | (go_at_call 35; refine (feeders_any _ _ V.f ⟨_, _, _, _, _, _, rfl, HD.out.fo⟩ hn c hc).mono ?_; rintro e wx ⟨rv, rfl, hown, Fx⟩; have q0 := (HD.out.fr0 Fx).c0; have q1 := (HD.out.fr0 Fx).c1; have q2 := (HD.out.fr0 Fx).c2; have q3 := (HD.out.fr0 Fx).c3; have q4 := (HD.out.fr0 Fx).c4; have q5 := (HD.out.fr0 Fx).c5; have q6 := (HD.out.fr0 Fx).cv; rw [HF.out] at q6)
            | (go_at_call 78; rw [← HF.out]; refine (contains_any V fuel HI.out wx _ _ (Sl.of_own hown) (fun k hk => by have h7 := (hown.lt k hk).1; have h8 := HD.out.gs_ge; omega) (HHF.out c hc) _ _ _ (HD.out.fr0 Fx) HG.out).mono ?_; rintro e wy ⟨rfl, hY, Fy⟩; have y0 := hY.c0; have y1 := hY.c1; have y2 := hY.c2; have y3 := hY.c3; have y4 := hY.c4; have y5 := hY.c5; have y6 := hY.cv; rw [HF.out] at y6))
        clear k0 k1 k2 k3 k4 k5 k6 q0 q1 q2 q3 q4 q5 q6 y0 y1 y2 y3 y4 y5 y6
        have z1 := hY.cs
        have hsv : V.sv = .slice (some ⟨V.gs, 0, none⟩) V.n V.n := rfl
        rw [hsv] at z1
        have hlen : s0.length = V.n := by have := hY.own.1; rw [nv_length] at this; omega
        obtain ⟨x2, hx2⟩ := some_get s0 c (by omega)
        have z2 : wy.cell? ⟨V.gs, c, none⟩ = some (.int .i64 (x2 : Int)) := by
          have := hY.own
          rw [hsv] at this
          rw [this.cellAt c (by omega), nv_get _ _ _ hx2]
        have z3 : wy.frozen? ⟨V.gs, c, none⟩ = false := by
          have := hY.own
          rw [hsv] at this
          exact this.frozenAt c
        have hS2 : V.At (wy.setCell ⟨V.gs, c, none⟩ (.int .i64 2)) (s0.set c 2) ∧ Fr [V.gs] wy (wy.setCell ⟨V.gs, c, none⟩ (.int .i64 2)) := hY.set HW.out c 2
        have HS2 := Lib.hid hS2
        have HY := Lib.hid hY
        clear hS2 hY hsv hx2 hlen
        go_wp2_with fail
        go_ret
        refine ⟨rfl, HS2.out.1, ?_⟩
        have Fa : Fr [V.gs] w w1.drew := F1.drew
        exact ((Fa.trans0 Fx).trans Fy (by simp)).trans HS2.out.2 (by simp)

theorem madeInts (n : Nat) : (madeCells (Value.int .i64 0).cells (n * 1)).toList = nv (List.replicate n 0) := by
  have : (madeCells (Value.int .i64 0).cells (n * 1)).toList = (List.range n).map fun _ => Value.int .i64 0 := by
    simp [madeCells, Value.cells, Nat.mod_one]
  rw [this]
  apply List.ext_getElem <;> simp [nv]

theorem block_two (w : World) (o : Obj) (y : Value) (t : TypeId) : ((w.alloc o).alloc (.cells #[y] t)).heap[w.heap.size + 1]? = some (.cells #[y] t) := by
  have := heap_alloc_new (w.alloc o) (.cells #[y] t)
  rwa [World.size_alloc] at this

theorem cell_two (w : World) (o : Obj) (y : Value) (t : TypeId) : ((w.alloc o).alloc (.cells #[y] t)).cell? ⟨w.heap.size + 1, 0, none⟩ = some y := by
  rw [Go.Joins.cell_of_block (block_two w o y t)]; rfl

theorem frozen_two (w : World) (o : Obj) (y : Value) (t : TypeId) : ((w.alloc o).alloc (.cells #[y] t)).frozen? ⟨w.heap.size + 1, 0, none⟩ = false :=
  frozen_of_row _ _ _ _ _ (block_two w o y t)

/-- Whether from some coder one comes to it again. -/
theorem round_any (w : World) (v : Value) (f : Folder) (hf : Fo w v f) (hn : f.coders.length ≤ 100) (h1 : 1 ≤ f.coders.length) (hfit : ∀ c, c < f.coders.length → ∀ x ∈ f.feeders c, 0 ≤ x ∧ x < f.coders.length) :
    Calls Tryz.prog 54 #[v] w (Tells (Circle (fdOf f) f.coders.length) w) := by
  obtain ⟨cv, bv', p, s, h, k0, rfl, hV⟩ := hf
  obtain ⟨ao, cap, rfl, g, m, -⟩ := hV.co.out
  obtain ⟨i0, hi, hz0, hz1, hz2⟩ := info_parts info_int
  have F0 : Fr [] w (w.alloc (.cells #[.slice ao f.coders.length cap, bv', p, s, h, k0] 37)) := (Fr.refl _ _).alloc _
  have hmf : ∀ (fn : Fn) (first cap : Array Value) (w : World), (Instr.makeFunc fn first cap).run Tryz.prog w = .ok (.func fn first cap) w := fun _ _ _ _ => rfl
  go_enter Tryz.func54, Tryz.ntmps54
  go_wp2_with (at_make; refine wpList_make_full _ rfl _ _ 31 rfl (w.heap.size + 1) 3 i0 (.int .i64 0) 1 Tryz.underlying31 hi hz0 hz1 .i64 .i64 _ _ f.coders.length rfl rfl rfl rfl (by rw [hz2]; omega) (by unfold maxLen; omega) (by simp) ?_; intro w1 hown1 hg1; have F1 := (Fr.refl [] _).grown hg1 (by simp); have e3 := fun o1 o2 => (box6 ((F1.alloc o1).alloc o2)).1)
  clear e3 hmf
  let V : VP := ⟨w.heap.size, w1.heap.size, w1.heap.size + 1, w.heap.size + 1, .slice ao f.coders.length cap, bv', p, s, h, k0, f, w.alloc (.cells #[.slice ao f.coders.length cap, bv', p, s, h, k0] 37)⟩
  have hfv : V.fv = .func (.func 77) #[] #[.pointer (some ⟨w1.heap.size, 0, none⟩), .pointer (some ⟨w.heap.size, 0, none⟩), .pointer (some ⟨w1.heap.size + 1, 0, none⟩)] := rfl
  rw [← hfv]
  obtain ⟨w3, hw3⟩ : ∃ w3, w3 = (w1.alloc (.cells #[.slice (some ⟨w.heap.size + 1, 0, none⟩) f.coders.length f.coders.length] 31)).alloc (.cells #[V.fv] 90) := ⟨_, rfl⟩
  rw [← hw3]
  have e1 : w3.cell? ⟨w1.heap.size + 1, 0, none⟩ = some V.fv := by rw [hw3]; exact cell_two _ _ _ _
  have F3 : Fr [] _ w3 := hw3 ▸ (F1.alloc _).alloc _
  have e3 : w3.cell? ⟨w1.heap.size, 0, none⟩ = some (.slice (some ⟨w.heap.size + 1, 0, none⟩) f.coders.length f.coders.length) := by
    rw [hw3, ((Fr.refl [] _).alloc _).cell (p := ⟨w1.heap.size, 0, none⟩) (by simp) (by simp), Go.Joins.cell_of_block (heap_alloc_new w1 _)]; rfl
  have e4 : w1.heap.size + 1 < w3.heap.size := by rw [hw3]; simp
  have own2 := own_fr hown1 (hw3 ▸ ((Fr.refl [] _).alloc _).alloc _ : Fr [] w1 w3) (by simp)
  have hs1 := F1.size
  rw [World.size_alloc] at hs1
  rw [World.size_alloc, madeInts] at own2
  have hlt := hown1.lt _ rfl
  have hne : w1.heap.size ≠ w.heap.size + 1 := by simp at hlt; omega
  obtain ⟨d0, d1, d2, d3, d4, d5⟩ := box6 F3
  have hA : V.At w3 (List.replicate f.coders.length 0) := by
    refine ⟨hV.fr (F0.trans0 F3), F3, ?_, by simp [V], by simp only [V]; omega, by simp only [V]; omega, by simp only [V]; omega, by simp only [V]; omega, by simp only [V]; omega, d0, d1, d2, d3, d4, d5, e3, e1⟩
    simpa [V, VP.sv, VP.n] using own2
  clear hw3
  have F03 := F0.trans0 F3
  obtain ⟨r, st', hgo, hr⟩ := visitAll_out (fd := fdOf f) (n := f.coders.length) (fun c hc x hx => by
    obtain ⟨y, hy, rfl⟩ := List.mem_map.1 hx
    have := hfit c hc y hy
    omega)
  have HR := Lib.hid hr
  have HD := Lib.hid (visit_does V (hV.fr F0) hn hfit (f.coders.length + 1))
  have hg : V.gs = w.heap.size + 1 := rfl
  have hg2 : V.g2 = w1.heap.size + 1 := rfl
  have hg1' : V.g1 = w1.heap.size := rfl
  have hg0 : V.g0 = w.heap.size := rfl
  have hvn : V.n = f.coders.length := rfl
  have hvf : V.f = f := rfl
  clear hfit hV F1 e1 F3 e3 e4 own2 hs1 hlt hne d0 d1 d2 d3 d4 d5 hg1 hown1 hi hr
  clear_value V
  go_wp2_with fail
  go_loopw [14] (fun i wr => ∃ (k : Nat) (sk : List Nat), k ≤ f.coders.length ∧ i = .int .i64 k ∧ visit.go (visit (fdOf f) (f.coders.length + 1)) ((List.range f.coders.length).drop k) sk = some (r, st') ∧ V.At wr sk ∧ Fr [] w wr) (fun i _ => f.coders.length - (intOf i).toNat)
  case atStart => exact ⟨0, _, Nat.zero_le _, rfl, hgo, hA, F03⟩
  case round =>
    clear hgo hA F03
    obtain ⟨k, sk, hk, rfl, hgk, hAk, F⟩ := hrel
    have kv := hAk.cv
    rw [hg2, hfv] at kv
    by_cases hlt : k < f.coders.length
    · have hdr : (List.range f.coders.length).drop k = k :: (List.range f.coders.length).drop (k + 1) := by
        have := List.drop_eq_getElem_cons (l := List.range f.coders.length) (i := k) (by simpa using hlt)
        rwa [List.getElem_range] at this
      rw [hdr] at hgk
      simp only [visit.go] at hgk
      cases hv : visit (fdOf f) (f.coders.length + 1) sk k with
      | none => rw [hv] at hgk; simp at hgk
      | some rr =>
        obtain ⟨r1, s1⟩ := rr
        rw [hv] at hgk
        have HC := HD.out wr sk k r1 s1 hAk (by rw [hvn]; exact hlt) (by rw [hvf]; exact hv)
        rw [hg0, hg1', hg2] at HC
        have HC2 := Lib.hid HC
        have HG := Lib.hid hgk
        have HK := Lib.hid (And.intro hg (And.intro hvn hvf))
        clear HC hgk hv hdr hAk hg hg0 hg1' hg2 hvn hvf hfv
        cases r1 with
        | true =>
          go_wp2_with (go_at_call 77; refine HC2.out.mono ?_; rintro e w2 ⟨rfl, hA2, F2⟩)
          go_ret
          have := HG.out
          simp at this
          obtain ⟨rfl, rfl⟩ := this
          exact ⟨true, rfl, HR.out, F.trans F2 (by rw [HK.out.1]; intro i hi; simp at hi; subst hi; exact .inr (by omega))⟩
        | false =>
          go_wp2_with (go_at_call 77; refine HC2.out.mono ?_; rintro e w2 ⟨rfl, hA2, F2⟩)
          go_roundw
          case rel => exact ⟨k + 1, s1, by omega, by go_num, by have := HG.out; simpa using this, hA2, F.trans F2 (by rw [HK.out.1]; intro i hi; simp at hi; subst hi; exact .inr (by omega))⟩
          case measure => simp [intOf]; omega
    · have hk2 : k = f.coders.length := by omega
      subst hk2
      have HG := Lib.hid hgk
      clear hgk hAk hg hg0 hg1' hg2 hvn hvf hfv kv
      go_wp2_with fail
      go_ret
      have := HG.out
      rw [List.drop_of_length_le (by simp)] at this
      simp only [visit.go, Option.some.injEq, Prod.mk.injEq] at this
      obtain ⟨rfl, rfl⟩ := this
      exact ⟨false, rfl, HR.out, F⟩
end Go.Proofs.YtfnblemlcjdnhaaGreat
