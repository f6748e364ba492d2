/- Contract: garblerref18.Parse (layer 18). -/
import Derived.Test.YtjfoccbbjhigbaaGreatMPar
namespace Go.Proofs.YtjfoccbbjhigbaaGreat
open Go.RowKit
theorem parP_len (b : List UInt8) (h : b.length ≠ 5) : (parP b).1 = false := by
  cases b with
  | nil => rfl
  | cons x r =>
    have hr : r.length ≠ 4 := by simpa using h
    have e1 : (⟨x :: r, 0, 0⟩ : Cur).num 1 = (leNat [x], ⟨x :: r, 1, 0⟩) := by
      unfold Cur.num Cur.take Cur.left
      simp [Cur.sized]
    have e2 : ((⟨x :: r, 1, 0⟩ : Cur).num 4).2 = if r.length < 4 then ⟨x :: r, 1, 3⟩ else ⟨x :: r, 5, 0⟩ := by
      unfold Cur.num Cur.take Cur.left Cur.fail
      simp [Cur.sized]
      split <;> rfl
    unfold parP
    simp only [e1, e2]
    by_cases hl : r.length < 4
    · simp [hl]
    · simp [hl, Cur.left]
      omega
theorem parP_five (x0 x1 x2 x3 x4 : UInt8) : parP [x0, x1, x2, x3, x4] = (mayT x0.toNat ((leNat [x1, x2, x3, x4] : Nat) : Int), x0.toNat, leNat [x1, x2, x3, x4]) := by
  unfold parP Cur.num Cur.take Cur.left Cur.fail
  simp [Cur.sized, leNat]
set_option maxRecDepth 100000 in
set_option maxHeartbeats 4000000 in
theorem rparse_any (w : World) (v : Value) (b : List UInt8) (h : Sl w v (bv b)) (hb : b.length ≤ 100000) : Calls Tryz.prog 26 #[v] w (ParR b w) := by
  by_cases h5 : b.length = 5
  · obtain ⟨x0, x1, x2, x3, x4, rfl⟩ : ∃ x0 x1 x2 x3 x4, b = [x0, x1, x2, x3, x4] := by
      match b, h5 with
      | [x0, x1, x2, x3, x4], _ => exact ⟨x0, x1, x2, x3, x4, rfl⟩
    have HPF := Lib.hid (parP_five x0 x1 x2 x3 x4)
    obtain ⟨ao, cap, rfl, g, m, oo⟩ := h.out
    obtain ⟨g1, of1, rfl, -, cc⟩ := oo 0 (by rw [bv_length]; simp)
    have d0 : w.cell? ⟨g1, of1, none⟩ = some (.int .u8 x0.toNat) := (cc 0 (by rw [bv_length]; simp))
    have d1 : w.cell? ⟨g1, of1 + 1, none⟩ = some (.int .u8 x1.toNat) := (cc 1 (by rw [bv_length]; simp))
    have d2 : w.cell? ⟨g1, of1 + 2, none⟩ = some (.int .u8 x2.toNat) := (cc 2 (by rw [bv_length]; simp))
    have d3 : w.cell? ⟨g1, of1 + 3, none⟩ = some (.int .u8 x3.toNat) := (cc 3 (by rw [bv_length]; simp))
    have d4 : w.cell? ⟨g1, of1 + 4, none⟩ = some (.int .u8 x4.toNat) := (cc 4 (by rw [bv_length]; simp))
    have hgl := World.block_lt_of_cell? _ _ d0
    have t0 := x0.toNat_lt
    have t1 := x1.toNat_lt
    have t2 := x2.toNat_lt
    have t3 := x3.toNat_lt
    have t4 := x4.toNat_lt
    clear h cc oo g m hb h5
    have hl5 : (bv [x0, x1, x2, x3, x4]).length = 5 := rfl
    rw [hl5]
    obtain ⟨w1, hw1⟩ : ∃ w1, w1 = w.alloc (.cells #[.int .i64 0, .int .i64 0] 24) := ⟨_, rfl⟩
    have F1 : Fr [] w w1 := hw1 ▸ (Fr.refl _ _).alloc _
    have e0 := (F1.cell (p := ⟨g1, of1, none⟩) hgl (by simp)).trans d0
    have e1 := (F1.cell (p := ⟨g1, of1 + 1, none⟩) hgl (by simp)).trans d1
    have e2 := (F1.cell (p := ⟨g1, of1 + 2, none⟩) hgl (by simp)).trans d2
    have e3 := (F1.cell (p := ⟨g1, of1 + 3, none⟩) hgl (by simp)).trans d3
    have e4 := (F1.cell (p := ⟨g1, of1 + 4, none⟩) hgl (by simp)).trans d4
    have hgl1 : g1 < w1.heap.size := Nat.lt_of_lt_of_le hgl F1.size
    go_enter Tryz.func26, Tryz.ntmps26
    go_wp2_with fail
    rw [← hw1]
    go_region
    obtain ⟨M, hM⟩ : ∃ M, M = leNat [x1, x2, x3, x4] := ⟨_, rfl⟩
    have hM2 : (x1.toNat : Int) + 256 * (x2.toNat : Int) + 65536 * (x3.toNat : Int) + 16777216 * (x4.toNat : Int) = (M : Int) := by rw [hM]; simp [leNat]; omega
    rw [hM2]
    obtain ⟨w2, hw2⟩ : ∃ w2, w2 = ((w.alloc (.cells #[.int .i64 0, .int .i64 0] 24)).alloc (.cells #[.int .i64 x0.toNat, .int .i64 (M : Int)] 24)).drew := ⟨_, rfl⟩
    rw [← hw2]
    have HPM := Lib.hid (show parP [x0, x1, x2, x3, x4] = (mayT x0.toNat (M : Int), x0.toNat, M) from by rw [HPF.out, hM])
    have F2 : Fr [] w w2 := hw2 ▸ (((Fr.refl _ _).alloc _).alloc _).drew
    have b0 : w2.heap[w.heap.size]? = some (.cells #[.int .i64 0, .int .i64 0] 24 (0, 0)) := by
      have F : Fr [] (w.alloc (.cells #[.int .i64 0, .int .i64 0] 24)) w2 := hw2 ▸ ((Fr.refl _ _).alloc _).drew
      exact (F.block w.heap.size (by simp) (by simp)).trans (heap_alloc_new _ _)
    have b1 : w2.heap[w.heap.size + 1]? = some (.cells #[.int .i64 x0.toNat, .int .i64 (M : Int)] 24 (0, 0)) := by
      have h := heap_alloc_new (w.alloc (.cells #[.int .i64 0, .int .i64 0] 24)) (.cells #[.int .i64 x0.toNat, .int .i64 (M : Int)] 24)
      rw [World.size_alloc] at h
      rw [hw2]
      exact h
    have HK := Lib.hid (fun (wx : World) (F : Fr [] w2 wx) => show wx.cell? ⟨w.heap.size, 0, none⟩ = some (.int .i64 0) ∧ wx.cell? ⟨w.heap.size, 1, none⟩ = some (.int .i64 0) ∧ (∀ j, wx.frozen? ⟨w.heap.size, j, none⟩ = false) ∧ wx.cell? ⟨w.heap.size + 1, 0, none⟩ = some (.int .i64 x0.toNat) ∧ wx.cell? ⟨w.heap.size + 1, 1, none⟩ = some (.int .i64 M) ∧ w.heap.size < wx.heap.size from by
      have b5 := (F.block w.heap.size (Array.getElem?_eq_some_iff.1 b0).1 (by simp)).trans b0
      have d5 := (F.block (w.heap.size + 1) (Array.getElem?_eq_some_iff.1 b1).1 (by simp)).trans b1
      exact ⟨by simp [Go.Joins.cell_of_block b5], by simp [Go.Joins.cell_of_block b5], fun j => Go.Joins.unfrozen_of_block b5 j, by simp [Go.Joins.cell_of_block d5], by simp [Go.Joins.cell_of_block d5], (Array.getElem?_eq_some_iff.1 b5).1⟩)
    obtain ⟨k0, k1, kz, n0, n1, kl⟩ := HK.out w2 (Fr.refl _ _)
    have HF := Lib.hid F2
    have HMy := Lib.hid (fun wx => rmay18_any wx (x0.toNat : Int) (M : Int))
    clear b0 b1 F1 F2 hw1 hw2 e0 e1 e2 e3 e4 d0 d1 d2 d3 d4 hM hM2 HPF hgl hgl1
    cases hm : mayT x0.toNat (M : Int)
    · rw [hm] at HMy
      go_wp2_with (go_at_call 9; refine (HMy.out _).mono ?_; rintro e w7 ⟨rfl, F7⟩; obtain ⟨p0, p1, pz, r0, r1, pl⟩ := HK.out w7 F7)
      have q0 : ((w7.setCell ⟨w.heap.size, 0, none⟩ (.int .i64 0)).setCell ⟨w.heap.size, 1, none⟩ (.int .i64 0)).cell? ⟨w.heap.size, 0, none⟩ = some (.int .i64 0) := by simp [go_sem, p0]
      have q1 : ((w7.setCell ⟨w.heap.size, 0, none⟩ (.int .i64 0)).setCell ⟨w.heap.size, 1, none⟩ (.int .i64 0)).cell? ⟨w.heap.size, 1, none⟩ = some (.int .i64 0) := by simp [go_sem, p1]
      refine bodyPost_ret (v := .tuple #[.agg #[.int .i64 0, .int .i64 0], .int .i64 11]) (by simp [results, Tryz.results26, go_sem, q0, q1]) rfl ?_
      refine ⟨by rw [HPM.out, hm]; rfl, (((HF.out.trans0 F7).setCell (.inr (Nat.le_refl _)) _).setCell (.inr (Nat.le_refl _)) _)⟩
    · rw [hm] at HMy
      go_wp2_with (go_at_call 9; refine (HMy.out _).mono ?_; rintro e w7 ⟨rfl, F7⟩; obtain ⟨p0, p1, pz, r0, r1, pl⟩ := HK.out w7 F7)
      have q0 : ((w7.setCell ⟨w.heap.size, 0, none⟩ (.int .i64 x0.toNat)).setCell ⟨w.heap.size, 1, none⟩ (.int .i64 M)).cell? ⟨w.heap.size, 0, none⟩ = some (.int .i64 x0.toNat) := by simp [go_sem, p0]
      have q1 : ((w7.setCell ⟨w.heap.size, 0, none⟩ (.int .i64 x0.toNat)).setCell ⟨w.heap.size, 1, none⟩ (.int .i64 M)).cell? ⟨w.heap.size, 1, none⟩ = some (.int .i64 M) := by simp [go_sem, p1]
      refine bodyPost_ret (v := .tuple #[.agg #[.int .i64 x0.toNat, .int .i64 M], .int .i64 0]) (by simp [results, Tryz.results26, go_sem, q0, q1]) rfl ?_
      refine ⟨by rw [HPM.out, hm]; rfl, (((HF.out.trans0 F7).setCell (.inr (Nat.le_refl _)) _).setCell (.inr (Nat.le_refl _)) _)⟩
  · have hp := parP_len b h5
    have HP := Lib.hid hp
    obtain ⟨ao, cap, rfl, -, -, -⟩ := h.out
    rw [bv_length] at *
    have hI : ((b.length : Int) != 5) = true := by simp; omega
    clear h hp
    go_enter Tryz.func26, Tryz.ntmps26
    go_wp2_with fail
    refine bodyPost_ret (v := .tuple #[.agg #[.int .i64 0, .int .i64 0], .int .i64 11]) (by simp [results, Tryz.results26, go_sem]) rfl ?_
    exact ⟨by rw [HP.out]; rfl, (Fr.refl _ _).alloc _⟩
end Go.Proofs.YtjfoccbbjhigbaaGreat
