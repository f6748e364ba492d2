/- Contract: Extract of an archive without entries (layer 26). No condition but that lengths fit. -/
import Derived.Test.YthbkcjlpelihlaaGreatDoorEERunM
namespace Go.Proofs.YthbkcjlpelihlaaGreatDoor
open Go.RowKit Go.Maps

/-- A block of seven cells is written. -/
def z7 (w : World) (g : Nat) (a0 a1 a2 a3 a4 a5 a6 : Value) : World := ((((((w.setCell ⟨g, 0, none⟩ a0).setCell ⟨g, 1, none⟩ a1).setCell ⟨g, 2, none⟩ a2).setCell ⟨g, 3, none⟩ a3).setCell ⟨g, 4, none⟩ a4).setCell ⟨g, 5, none⟩ a5).setCell ⟨g, 6, none⟩ a6
set_option maxRecDepth 100000 in
set_option maxHeartbeats 2000000 in
theorem z7_cells {w : World} {g : Nat} {t : TypeId} {b0 b1 b2 b3 b4 b5 b6 : Value} (h : w.heap[g]? = some (.cells #[b0, b1, b2, b3, b4, b5, b6] t (0, 0))) (a0 a1 a2 a3 a4 a5 a6 : Value) :
    (z7 w g a0 a1 a2 a3 a4 a5 a6).cell? ⟨g, 0, none⟩ = some a0 ∧ (z7 w g a0 a1 a2 a3 a4 a5 a6).cell? ⟨g, 1, none⟩ = some a1 ∧ (z7 w g a0 a1 a2 a3 a4 a5 a6).cell? ⟨g, 2, none⟩ = some a2 ∧ (z7 w g a0 a1 a2 a3 a4 a5 a6).cell? ⟨g, 3, none⟩ = some a3 ∧ (z7 w g a0 a1 a2 a3 a4 a5 a6).cell? ⟨g, 4, none⟩ = some a4 ∧ (z7 w g a0 a1 a2 a3 a4 a5 a6).cell? ⟨g, 5, none⟩ = some a5 ∧ (z7 w g a0 a1 a2 a3 a4 a5 a6).cell? ⟨g, 6, none⟩ = some a6 ∧ Fr [g] w (z7 w g a0 a1 a2 a3 a4 a5 a6) := by
  have hb : (z7 w g a0 a1 a2 a3 a4 a5 a6).heap[g]? = some (.cells #[a0, a1, a2, a3, a4, a5, a6] t (0, 0)) :=
    Go.Joins.block_setCell (i := 6) (Go.Joins.block_setCell (i := 5) (Go.Joins.block_setCell (i := 4) (Go.Joins.block_setCell (i := 3) (Go.Joins.block_setCell (i := 2) (Go.Joins.block_setCell (i := 1) (Go.Joins.block_setCell (i := 0) h _) _) _) _) _) _) _
  obtain ⟨r0, r1, r2, r3, r4, r5, r6, -⟩ := cells7 hb
  exact ⟨r0, r1, r2, r3, r4, r5, r6, (((((((Fr.refl _ _).setCell (by simp) _).setCell (by simp) _).setCell (by simp) _).setCell (by simp) _).setCell (by simp) _).setCell (by simp) _).setCell (by simp) _⟩
theorem z7_else {w : World} {g b i : Nat} {v : Value} (h : w.cell? ⟨b, i, none⟩ = some v) (hg : b ≠ g) (a0 a1 a2 a3 a4 a5 a6 : Value) : (z7 w g a0 a1 a2 a3 a4 a5 a6).cell? ⟨b, i, none⟩ = some v := by
  have F : Fr [g] w (z7 w g a0 a1 a2 a3 a4 a5 a6) := (((((((Fr.refl _ _).setCell (by simp) _).setCell (by simp) _).setCell (by simp) _).setCell (by simp) _).setCell (by simp) _).setCell (by simp) _).setCell (by simp) _
  exact (F.cell (p := ⟨b, i, none⟩) (World.block_lt_of_cell? _ _ h) (by simpa using hg)).trans h
set_option maxRecDepth 100000 in
set_option maxHeartbeats 4000000 in
theorem extract0_any {w : World} {sp lo n nc : Nat} {fl : Fl} {K : Tree} {root : List UInt8} (S : SandAt w lo sp n nc fl K) (hG : Gl w) (hlo : 3 ≤ lo) 
    (v : Value) (b : List UInt8) (h : Sl w v (bv b)) (hb : b.length ≤ 40000) (hc : opCode b = 0) {head : List UInt8} (hh : opHead b = head) (hP : FilesP head 0 NilRow) (hhl : head.length ≤ 40000)
    (hK : MayK K) (hr : kindK K root = 1) (hrc : cleanL foldL root = true) (hrl : root.length ≤ 1000) (hcl : ∀ i, i < 10 → cleanL foldL (stP root i) = true) (hex : ∃ i, i < 10 ∧ K (stP root i) = none) (hn : n ≤ 30000) (hnc : nc ≤ 80000)
    (hl0 : fl.ok nc root ⟨#[]⟩) (hl1 : ∀ i, i < 10 → (∀ j, j < i → K (stP root j) ≠ none) → fl.ok (nc + 1 + i) (stP root i) ⟨#[]⟩ ∧ fl.ok (nc + 1 + (i + 1)) (stP root i) ⟨#[]⟩) (hl2 : ∀ i, i < 10 → (∀ j, j < i → K (stP root j) ≠ none) → fl.ok (nc + 1 + i + 2) (stP root i) ⟨root.toArray⟩) :
    Calls Tryz.prog 9 #[v, .agg #[.int .i64 1099511627776, .int .i64 1099511627776, .int .i64 1099511627776, .int .i64 1099511627776, .int .i64 1099511627776], .pointer (some ⟨sp, 0, none⟩), .string ⟨root.toArray⟩] w fun e w' =>
      ∃ i n' s' k', e = .returned (.agg #[.int .i64 0, .int .i64 0, .int .i64 k', .int .i64 0, .int .i64 0, .int .i64 0, .int .i64 s']) ∧ i < 10 ∧ (∀ j, j < i → K (stP root j) ≠ none) ∧ K (stP root i) = none ∧ SandAt w' lo sp n' (nc + 1 + i + 2 + 1) fl K ∧ n' ≤ n + 1 ∧ ExF lo [] w w' := by
  obtain ⟨ao, cap, rfl, -⟩ := h.out
  rw [bv_length] at h ⊢
  obtain ⟨wA, hwA⟩ : ∃ wA, wA = (w.alloc (.cells #[.int .i64 1099511627776, .int .i64 1099511627776, .int .i64 1099511627776, .int .i64 1099511627776, .int .i64 1099511627776] 41)).alloc (.cells #[.int .i64 0, .int .i64 0, .int .i64 0, .int .i64 0, .int .i64 0, .int .i64 0, .int .i64 0] 37) := ⟨_, rfl⟩
  have FA : Fr [] w wA := hwA ▸ ((Fr.refl _ _).alloc _).alloc _
  have bq : wA.heap[w.heap.size]? = some (.cells #[.int .i64 1099511627776, .int .i64 1099511627776, .int .i64 1099511627776, .int .i64 1099511627776, .int .i64 1099511627776] 41 (0, 0)) := by
    have F : Fr [] (w.alloc (.cells #[.int .i64 1099511627776, .int .i64 1099511627776, .int .i64 1099511627776, .int .i64 1099511627776, .int .i64 1099511627776] 41)) wA := hwA ▸ (Fr.refl _ _).alloc _
    exact (F.block _ (by rw [World.size_alloc]; omega) (by simp)).trans (heap_alloc_new w _)
  have br : wA.heap[w.heap.size + 1]? = some (.cells #[.int .i64 0, .int .i64 0, .int .i64 0, .int .i64 0, .int .i64 0, .int .i64 0, .int .i64 0] 37 (0, 0)) := by
    have := heap_alloc_new (w.alloc (.cells #[.int .i64 1099511627776, .int .i64 1099511627776, .int .i64 1099511627776, .int .i64 1099511627776, .int .i64 1099511627776] 41)) (.cells #[.int .i64 0, .int .i64 0, .int .i64 0, .int .i64 0, .int .i64 0, .int .i64 0, .int .i64 0] 37)
    rw [World.size_alloc] at this
    rw [hwA]
    exact this
  have hbl : w.heap.size + 1 < wA.heap.size := (Array.getElem?_eq_some_iff.1 br).1
  have HRU := Lib.hid (fun (w1 : World) (mp : Nat) (F1 : Fr [] w w1) (hm : w.heap.size ≤ mp) (M1 : MtN w1 mp 0 0 0 0 0 0) =>
    run0_any M1 (by decide) (by decide) (by decide) (by decide) (S.fr0 F1) (hG.fr F1) (by have := hG.sz; omega) hlo _ b (h.fr0 F1) hb hc hh hP hhl hK hr hrc hrl hcl hex hn hnc hl0 hl1 hl2)
  have HG3 := hG.sz
  have hk := fun (w' : World) (X : ExF lo [wA.heap.size + 1] wA w') => X.keep br (by simp; omega) (by decide) (by decide)
  have HKB := Lib.hid hk
  obtain ⟨q0, q1, q2, q3, q4, -⟩ := cells5 bq
  clear S hG h hK hr hrc hrl hcl hex hl0 hl1 hl2 hh hP hk bq
  go_enter Tryz.func9, Tryz.ntmps9
  go_upto_region 1 with fail
  rw [← hwA]
  clear hwA
  go_upto_region 3 with (first
    | (have hq := M1; go_at_call 25; refine (HRU.out w1 _ (FA.trans0 F1) (by omega) M1).mono ?_; rintro e w2 ⟨rfl, i, n', s', k', hi, hj, h0, S2, hn', M2, X2⟩)
    | (go_at_call 24; refine (mnew_any _).mono ?_; rintro e w1 ⟨rfl, M1, F1⟩))
  have HX := Lib.hid X2
  have b2 := HKB.out w2 ((ExF.of0 F1).trans X2)
  have HU := Lib.hid (used_m M2)
  have HH := Lib.hid (And.intro hi (And.intro hj (And.intro h0 (And.intro S2 hn'))))
  clear S2 M2 X2 hj h0
  go_wp2_with (go_at_call 26; refine HU.out.mono ?_; rintro e w3 ⟨rfl, F3⟩; have b3 := (F3.block _ (Array.getElem?_eq_some_iff.1 b2).1 (by simp)).trans b2; obtain ⟨r0, r1, r2, r3, r4, r5, r6, rf⟩ := cells7 b3)
  obtain ⟨p0, p1, p2, p3, p4, p5, p6, FF⟩ := z7_cells b3 (.int .i64 0) (.int .i64 0) (.int .i64 k') (.int .i64 0) (.int .i64 0) (.int .i64 0) (.int .i64 s')
  obtain ⟨wF, hwF⟩ : ∃ wF, wF = z7 w3 (w.heap.size + 1) (.int .i64 0) (.int .i64 0) (.int .i64 k') (.int .i64 0) (.int .i64 0) (.int .i64 0) (.int .i64 s') := ⟨_, rfl⟩
  rw [← hwF] at p0 p1 p2 p3 p4 p5 p6 FF
  rw [z7] at hwF
  rw [← hwF]
  refine bodyPost_ret (v := .agg #[.int .i64 0, .int .i64 0, .int .i64 k', .int .i64 0, .int .i64 0, .int .i64 0, .int .i64 s']) (by simp [results, Tryz.results9, go_sem, p0, p1, p2, p3, p4, p5, p6]) rfl ?_
  refine ⟨i, n', s', k', rfl, HH.out.1, HH.out.2.1, HH.out.2.2.1, (HH.out.2.2.2.1.fr0 F3).box b3 (by decide) (by decide) (by decide) (by decide) FF, HH.out.2.2.2.2, ?_⟩
  have hs1 := F1.size
  have X1 : ExF lo [] w w2 := (ExF.of0 (FA.trans0 F1)).trw HX.out (fun i hi => .inr (by simp at hi; omega))
  exact (X1.trans (ExF.of0 F3)).trw (ExF.mt FF) (fun i hi => .inr (by simp at hi; omega))
end Go.Proofs.YthbkcjlpelihlaaGreatDoor
