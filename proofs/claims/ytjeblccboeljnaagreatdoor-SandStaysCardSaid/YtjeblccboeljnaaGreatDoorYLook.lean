/- Contract: Look. No condition but that lengths fit. -/
import Derived.Test.YtjeblccboeljnaaGreatDoorYMk
namespace Go.Proofs.YtjeblccboeljnaaGreatDoor
open Go.RowKit Go.Maps

set_option maxRecDepth 100000 in
set_option maxHeartbeats 2000000 in
theorem look_body {w : World} {lo p b : Nat} {fv cv : Value} {n nc : Nat} {fl : List Bool} {KV : List UInt8 → Option Value} {K : Tree} (h : SandIn w lo p b fv cv n nc fl KV K) (q : List UInt8) (hq : q.length ≤ 100000) (B0 B1 B2 : Nat)
    (m0 : w.cell? ⟨B0, 0, none⟩ = some (.pointer (some ⟨p, 0, none⟩))) (m1 : w.cell? ⟨B1, 0, none⟩ = some (.string ⟨q.toArray⟩)) (m2 : w.cell? ⟨B2, 0, none⟩ = some (.int .i64 0)) (z2 : w.frozen? ⟨B2, 0, none⟩ = false) :
    Calls Tryz.prog 38 #[.pointer (some ⟨B0, 0, none⟩), .pointer (some ⟨B1, 0, none⟩), .pointer (some ⟨B2, 0, none⟩)] w fun e w' => e = .returned (.int .i64 0) ∧ w' = (w.setCell ⟨B2, 0, none⟩ (.int .i64 (kindK K q))).drew := by
  obtain ⟨kd, dv, sv, hrun, ek⟩ := (h.fr0 ((Fr.refl _ w).drew)).kind q hq
  have hfd : ∀ w : World, (Instr.field 60 (.agg #[.int .i64 kd, dv, .string sv]) 0).run Tryz.prog w = .ok (.int .i64 kd) w := fun _ => by kernel_rfl
  obtain ⟨c0, -, -⟩ := h.cells
  rw [ek]
  clear ek h
  go_enter Tryz.func38, Tryz.ntmps38
  go_upto_region 1 with fail
  go_region
  go_wp2_with fail
  go_ret
  exact ⟨rfl, rfl⟩
/-- A box of another type may change. -/
theorem SandIn.box {w w' : World} {lo p b B t : Nat} {c : Array Value} {fv cv : Value} {n nc : Nat} {fl : List Bool} {KV : List UInt8 → Option Value} {K : Tree} (h : SandIn w lo p b fv cv n nc fl KV K) (hB : w.heap[B]? = some (.cells c t (0, 0))) (h1 : t ≠ 5) (h2 : t ≠ 4) (h3 : t ≠ 72) (h4 : t ≠ 58)
    (F : Fr [B] w w') : SandIn w' lo p b fv cv n nc fl KV K := by
  have hS : ∀ e, t ≠ e → ∀ i ∈ [B], i < lo ∨ ∀ cs z, w.heap[i]? ≠ some (.cells cs e z) := fun e he i hi => by
    simp at hi
    subst hi
    refine .inr fun cs z hh => ?_
    rw [hB] at hh
    injection hh with hh
    injection hh with _ h5 _
    exact he h5
  have hp : p ∉ [B] := fun hm => by
    simp at hm
    subst hm
    rw [h.blk] at hB
    injection hB with hB
    injection hB with _ h5 _
    exact h4 h5.symm
  have hb : b ∉ [B] := fun hm => by
    simp at hm
    subst hm
    obtain ⟨D, ⟨es, clock, q1, -⟩, -⟩ := h.mp
    rw [q1] at hB
    cases hB
  obtain ⟨xs, hc⟩ := h.ca
  exact ⟨(F.block p h.ltp hp).trans h.blk, h.mp.fr F hb, h.rd.fr F (hS _ h1), own_frT h.fa F (hS _ h2), ⟨xs, own_frT hc F (hS _ h3)⟩, h.lp, h.lb⟩
/-- What Look answers. -/
def lookK (K : Tree) (q : List UInt8) : Int × Int := if cleanL foldL q = true then (kindK K q, 0) else (0, 301)
set_option maxRecDepth 100000 in
set_option maxHeartbeats 2000000 in
theorem look_any {w : World} {lo p n nc : Nat} {fl : List Bool} {K : Tree} (h : SandAt w lo p n nc fl K) (hG : Gl w) (q : List UInt8) (hq : q.length ≤ 100000) (hnc : nc ≤ 100000) (hl : fl.getD nc false = false) :
    Calls Tryz.prog 20 #[.pointer (some ⟨p, 0, none⟩), .string ⟨q.toArray⟩] w fun e w' => e = .returned (.tuple #[.int .i64 (lookK K q).1, .int .i64 (lookK K q).2]) ∧ SandAt w' lo p n (nc + 1) fl K ∧ Lo lo w w' := by
  obtain ⟨b, fv, cv, KV, h⟩ := h
  obtain ⟨wA, hwA⟩ : ∃ wA, wA = ((w.alloc (.cells #[.pointer (some ⟨p, 0, none⟩)] 31)).alloc (.cells #[.string ⟨q.toArray⟩] 9)).alloc (.cells #[.int .i64 0] 3) := ⟨_, rfl⟩
  have FA : Fr [] w wA := hwA ▸ (((Fr.refl _ _).alloc _).alloc _).alloc _
  have m0 : wA.cell? ⟨w.heap.size, 0, none⟩ = some (.pointer (some ⟨p, 0, none⟩)) := by
    have F : Fr [] (w.alloc (.cells #[.pointer (some ⟨p, 0, none⟩)] 31)) wA := hwA ▸ ((Fr.refl _ _).alloc _).alloc _
    rw [Go.Joins.cell_of_block ((F.block w.heap.size (by rw [World.size_alloc]; omega) (by simp)).trans (heap_alloc_new w _))]
    rfl
  have m1 : wA.cell? ⟨w.heap.size + 1, 0, none⟩ = some (.string ⟨q.toArray⟩) := by
    have F : Fr [] ((w.alloc (.cells #[.pointer (some ⟨p, 0, none⟩)] 31)).alloc (.cells #[.string ⟨q.toArray⟩] 9)) wA := hwA ▸ (Fr.refl _ _).alloc _
    have g := heap_alloc_new (w.alloc (.cells #[.pointer (some ⟨p, 0, none⟩)] 31)) (.cells #[.string ⟨q.toArray⟩] 9)
    rw [World.size_alloc] at g
    rw [Go.Joins.cell_of_block ((F.block (w.heap.size + 1) (by rw [World.size_alloc, World.size_alloc]; omega) (by simp)).trans g)]
    rfl
  have h2 : wA.heap[w.heap.size + 2]? = some (.cells #[.int .i64 0] 3 (0, 0)) := by
    have := heap_alloc_new ((w.alloc (.cells #[.pointer (some ⟨p, 0, none⟩)] 31)).alloc (.cells #[.string ⟨q.toArray⟩] 9)) (.cells #[.int .i64 0] 3)
    rw [World.size_alloc, World.size_alloc] at this
    rw [hwA]
    exact this
  have l0 : w.heap.size + 2 < wA.heap.size := (Array.getElem?_eq_some_iff.1 h2).1
  have hA := h.fr0 FA
  obtain ⟨xs, hca⟩ := h.ca
  have hcv : ∀ i ∈ (p :: cv.ownBlock.toList), lo ≤ i ∧ i < w.heap.size := fun i hi => by
    rcases List.mem_cons.1 hi with rfl | hi
    · exact ⟨h.lp, h.ltp⟩
    · exact own_ltS hca i (by simpa using hi)
  have hlo := Nat.le_trans h.lp (Nat.le_of_lt h.ltp)
  unfold lookK
  cases hc : cleanL foldL q with
  | false =>
    have HB := Lib.hid (call_bad hA (hG.fr FA) 1 q hq ⟨#[]⟩ (.func (.func 38) #[] #[.pointer (some ⟨w.heap.size, 0, none⟩), .pointer (some ⟨w.heap.size + 1, 0, none⟩), .pointer (some ⟨w.heap.size + 2, 0, none⟩)]) hc hnc)
    rw [if_neg (by simp)]
    clear h hA hG hq hnc hl hc m0 m1 hca
    go_enter Tryz.func20, Tryz.ntmps20
    go_wp2_with (go_at_call 34; rw [← hwA]; refine HB.out.mono ?_; rintro e w1 ⟨rfl, ⟨cv', hS⟩, F1⟩; have k2 := (F1.cell (p := ⟨w.heap.size + 2, 0, none⟩) l0 (fun hm => by have := (hcv _ hm).2; dsimp only at this; omega)).trans (show wA.cell? ⟨w.heap.size + 2, 0, none⟩ = some (.int .i64 0) by rw [Go.Joins.cell_of_block h2]; rfl))
    go_ret2
    exact ⟨rfl, ⟨_, _, _, _, hS⟩, (Lo.of0 FA).trans ⟨_, F1, fun i hi => (hcv i hi).1⟩⟩
  | true =>
    rw [if_pos rfl]
    have HD := Lib.hid (call_do hA (hG.fr FA) 1 (by decide) q hq ⟨#[]⟩ 38 #[.pointer (some ⟨w.heap.size, 0, none⟩), .pointer (some ⟨w.heap.size + 1, 0, none⟩), .pointer (some ⟨w.heap.size + 2, 0, none⟩)] (enters_of Tryz.func38 (by kernel_rfl) rfl) hc hl hnc
      (fun c n' K' w2 => c = 0 ∧ K' = K ∧ n' = n ∧ Lo lo w w2 ∧ w2.cell? ⟨w.heap.size + 2, 0, none⟩ = some (.int .i64 (kindK K q)) ∧ w.heap.size + 2 < w2.heap.size)
      (fun wx F => by
        have x2 := (F.block (w.heap.size + 2) l0 (by simp)).trans h2
        have lx : w.heap.size + 2 < wx.heap.size := (Array.getElem?_eq_some_iff.1 x2).1
        refine (look_body (hA.fr0 F) q hq w.heap.size (w.heap.size + 1) (w.heap.size + 2) ((F.cell (p := ⟨w.heap.size, 0, none⟩) (by show w.heap.size < _; omega) (by simp)).trans m0) ((F.cell (p := ⟨w.heap.size + 1, 0, none⟩) (by show w.heap.size + 1 < _; omega) (by simp)).trans m1) (by rw [Go.Joins.cell_of_block x2]; rfl) (Go.Joins.unfrozen_of_block x2 0)).mono ?_
        rintro e w2 ⟨rfl, hw2⟩
        have F2 : Fr [w.heap.size + 2] wx w2 := hw2 ▸ ((Fr.refl _ _).setCell (.inl (by simp)) _).drew
        have b2 : w2.heap[w.heap.size + 2]? = some (.cells #[.int .i64 (kindK K q)] 3 (0, 0)) := by rw [hw2]; exact Go.Joins.block_setCell x2 _
        exact ⟨0, b, n, KV, K, rfl, (hA.fr0 F).box x2 (by decide) (by decide) (by decide) (by decide) F2, rfl, rfl, rfl, ((Lo.of0 FA).trans (Lo.of0 F)).trans ⟨_, F2, by simp; omega⟩, by rw [Go.Joins.cell_of_block b2]; rfl, Nat.lt_of_lt_of_le lx F2.size⟩))
    clear h hA hG hq hnc hl hc m0 m1 hca
    go_enter Tryz.func20, Tryz.ntmps20
    go_wp2_with (go_at_call 34; rw [← hwA]; refine HD.out.mono ?_; rintro e w1 ⟨c, b', n', KV', K', w2, cv', ⟨rfl, rfl, rfl, hfr, hk, hlt⟩, rfl, hS, F1⟩; have k2 := (F1.cell (p := ⟨w.heap.size + 2, 0, none⟩) hlt (fun hm => by have := (hcv _ hm).2; dsimp only at this; omega)).trans hk)
    go_ret2
    exact ⟨rfl, ⟨_, _, _, _, hS⟩, hfr.trans ⟨_, F1, fun i hi => (hcv i hi).1⟩⟩
end Go.Proofs.YtjeblccboeljnaaGreatDoor
