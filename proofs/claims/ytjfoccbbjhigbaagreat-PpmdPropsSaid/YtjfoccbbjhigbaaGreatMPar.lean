/- Contract: ppmd.Parse (layer 18). No condition but that lengths fit. -/
import Derived.Test.YtjfoccbbjhigbaaGreatMMay
import Derived.Test.YtjfoccbbjhigbaaGreatSrcE
import Derived.Deep.DeepCutAuto
namespace Go.Proofs.YtjfoccbbjhigbaaGreat
open Go.RowKit
theorem num_lt8 (c : Cur) (n : Int) (hn : n ≤ 4) : (c.num n).1 < 4294967296 := by
  unfold Cur.num
  split
  · have h := leNat_lt (c.take n.toNat).1
    have hl : (c.take n.toNat).1.length ≤ 4 := by
      unfold Cur.take
      split
      · simp
      · simp; omega
    exact Nat.lt_of_lt_of_le h (Nat.le_trans (Nat.pow_le_pow_right (by decide) hl) (by decide))
  · show (0 : Nat) < 4294967296; decide
/-- What a setting's properties say. -/
def parP (b : List UInt8) : Bool × Nat × Nat :=
  let c1 := (⟨b, 0, 0⟩ : Cur).num 1
  let c2 := c1.2.num 4
  (c2.2.code == 0 && (decide (c2.2.left = 0) && mayT c1.1 c2.1), c1.1, c2.1)
def ParR (b : List UInt8) (w : World) (e : Ending) (w' : World) : Prop :=
  e = .returned (.tuple (if (parP b).1 then #[.agg #[.int .i64 (parP b).2.1, .int .i64 (parP b).2.2], .int .i64 0] else #[.agg #[.int .i64 0, .int .i64 0], .int .i64 11])) ∧ Fr [] w w'
set_option maxRecDepth 100000 in
set_option maxHeartbeats 4000000 in
theorem parse_any (w : World) (v : Value) (b : List UInt8) (h : Sl w v (bv b)) (hb : b.length ≤ 100000) : Calls Tryz.prog 25 #[v] w (ParR b w) := by
  obtain ⟨c1, hc1⟩ : ∃ c1, c1 = (⟨b, 0, 0⟩ : Cur).num 1 := ⟨_, rfl⟩
  obtain ⟨c2, hc2⟩ : ∃ c2, c2 = c1.2.num 4 := ⟨_, rfl⟩
  have l1 : c1.1 < 4294967296 := hc1 ▸ num_lt8 _ 1 (by decide)
  have l2 : c2.1 < 4294967296 := hc2 ▸ num_lt8 _ 4 (by decide)
  have hp : parP b = (c2.2.code == 0 && (decide (c2.2.left = 0) && mayT c1.1 c2.1), c1.1, c2.1) := by rw [hc2, hc1]; rfl
  have HP := Lib.hid hp
  have HC := Lib.hid (And.intro hc1 hc2)
  have hb1 : c1.2.b.length ≤ 140737488355328 := by rw [hc1]; unfold Cur.num; split; (rw [Cur.take_b]; show b.length ≤ _; omega); (show b.length ≤ _; omega)
  have HB1 := Lib.hid hb1
  have HN := Lib.hid (fun (wx : World) (F : Fr [] w wx) => new_any wx v b (h.fr0 F) (by omega))
  obtain ⟨N1, hN1⟩ : ∃ N1, N1 = c1.1 := ⟨_, rfl⟩
  obtain ⟨N2, hN2⟩ : ∃ N2, N2 = c2.1 := ⟨_, rfl⟩
  have HNN := Lib.hid (And.intro hN1 hN2)
  rw [← hN1] at l1
  rw [← hN2] at l2
  clear hp hc1 hc2 hb1 h hN1 hN2
  go_enter Tryz.func25, Tryz.ntmps25
  go_upto_region 2 with (go_at_call 45; refine (HN.out _ ((Fr.refl [] w).alloc _)).mono ?_; rintro e w1 ⟨cp, cq, rfl, gp, gq, C1, F1⟩; have HN1 := Lib.hid (snum_any w1 cp cq _ 1 C1 (by show b.length ≤ _; omega)))
  go_upto_region 3 with (first
    | (have hq := C2; go_at_call 46; refine (snum_any w2 cp cq _ 4 C2 (by rw [← HC.out.1]; exact HB1.out)).mono ?_; rintro e w3 ⟨rfl, C3, F3⟩; rw [← HC.out.1, ← HC.out.2] at C3; rw [← HC.out.1, ← HC.out.2, ← HNN.out.2])
    | (go_at_call 46; refine HN1.out.mono ?_; rintro e w2 ⟨rfl, C2, F2⟩; rw [← HC.out.1, ← HNN.out.1]))
  obtain ⟨w4, hw4⟩ : ∃ w4, w4 = w3.alloc (.cells #[.int .i64 N1, .int .i64 N2] 24) := ⟨_, rfl⟩
  have hz1 := F1.size
  rw [World.size_alloc] at hz1 gp
  have F4 : Fr [] w3 w4 := hw4 ▸ (Fr.refl _ _).alloc _
  have C4 := C3.fr F4 (by simp) (by simp)
  have b0 : (w.alloc (.cells #[.int .i64 0, .int .i64 0] 24)).heap[w.heap.size]? = some (.cells #[.int .i64 0, .int .i64 0] 24 (0, 0)) := heap_alloc_new _ _
  have F14 : Fr [cp] w1 w4 := ((Fr.refl [cp] w1).trans F2 (fun i hi => .inl hi)).trans (F3.trans0 F4) (fun i hi => .inl hi)
  have b1 := (F1.block w.heap.size (by rw [World.size_alloc]; omega) (by simp)).trans b0
  have b4 := (F14.block w.heap.size (by omega) (by simp; omega)).trans b1
  have d4 : w4.heap[w3.heap.size]? = some (.cells #[.int .i64 N1, .int .i64 N2] 24 (0, 0)) := hw4 ▸ heap_alloc_new _ _
  have k0 : w4.cell? ⟨w.heap.size, 0, none⟩ = some (.int .i64 0) := by simp [Go.Joins.cell_of_block b4]
  have k1 : w4.cell? ⟨w.heap.size, 1, none⟩ = some (.int .i64 0) := by simp [Go.Joins.cell_of_block b4]
  have kz : ∀ j, w4.frozen? ⟨w.heap.size, j, none⟩ = false := fun j => Go.Joins.unfrozen_of_block b4 j
  have e0 : w4.cell? ⟨w3.heap.size, 0, none⟩ = some (.int .i64 N1) := by simp [Go.Joins.cell_of_block d4]
  have e1 : w4.cell? ⟨w3.heap.size, 1, none⟩ = some (.int .i64 N2) := by simp [Go.Joins.cell_of_block d4]
  have hzw : w.heap.size < w4.heap.size := (Array.getElem?_eq_some_iff.1 b4).1
  have hne : w.heap.size ≠ w3.heap.size := by have := F2.size; have := F3.size; omega
  rw [← hw4]
  have FW : Fr [] w w4 := (((Fr.refl [] w).alloc _).trans0 F1).trans F14 (fun i hi => .inr (by simp at hi; omega))
  have HFW := Lib.hid FW
  have HC4 := Lib.hid C4
  have HCo := Lib.hid (code_any w4 cp cq _ C4)
  have HLe := Lib.hid (fun (wx : World) (S : Same w4 wx) => left_any wx cp cq _ (C4.same S))
  have HMy := Lib.hid (fun wx => pmay_any wx (N1 : Int) (N2 : Int))
  have HPE := Lib.hid (show (parP b).1 = (c2.2.code == 0 && (decide (c2.2.left = 0) && mayT N1 N2)) ∧ (parP b).2.1 = N1 ∧ (parP b).2.2 = N2 from by rw [HP.out]; exact ⟨by rw [HNN.out.1, HNN.out.2], HNN.out.1.symm, HNN.out.2.symm⟩)
  have HKK := Lib.hid (fun (wx : World) (F : Fr [] w4 wx) => show wx.cell? ⟨w.heap.size, 0, none⟩ = some (.int .i64 0) ∧ wx.cell? ⟨w.heap.size, 1, none⟩ = some (.int .i64 0) ∧ (∀ j, wx.frozen? ⟨w.heap.size, j, none⟩ = false) ∧ wx.cell? ⟨w3.heap.size, 0, none⟩ = some (.int .i64 N1) ∧ wx.cell? ⟨w3.heap.size, 1, none⟩ = some (.int .i64 N2) ∧ w.heap.size < wx.heap.size from by
    have b5 := (F.block w.heap.size hzw (by simp)).trans b4
    have d5 := (F.block w3.heap.size (Array.getElem?_eq_some_iff.1 d4).1 (by simp)).trans d4
    exact ⟨by simp [Go.Joins.cell_of_block b5], by simp [Go.Joins.cell_of_block b5], fun j => Go.Joins.unfrozen_of_block b5 j, by simp [Go.Joins.cell_of_block d5], by simp [Go.Joins.cell_of_block d5], (Array.getElem?_eq_some_iff.1 b5).1⟩)
  clear hw4 hz1 F4 C4 b0 F14 b1 b4 d4 C1 C2 C3 F1 F2 F3 FW HN1 gp gq
  obtain ⟨K, hK⟩ : ∃ K, K = c2.2.code := ⟨_, rfl⟩
  obtain ⟨LL, hLL⟩ : ∃ LL, LL = c2.2.left := ⟨_, rfl⟩
  rw [← hK] at HCo HPE
  rw [← hLL] at HPE
  simp only [← hLL] at HLe
  clear hK hLL
  by_cases hk : K = 0
  · subst hk
    by_cases hl : LL = 0
    · subst hl
      cases hm : mayT N1 N2
      · rw [hm] at HMy
        go_wp2_with (first
          | (have hq := S6; go_at_call 27; refine (HMy.out _).mono ?_; rintro e w7 ⟨rfl, F7⟩; obtain ⟨p0, p1, pz, r0, r1, pl⟩ := HKK.out w7 (S6.fr.trans0 F7))
          | (go_at_call 48; refine (HLe.out _ ⟨0, rfl⟩).mono ?_; rintro e w6 ⟨rfl, S6⟩; obtain ⟨m0, m1, mz, n0, n1, ml⟩ := HKK.out w6 S6.fr)
          | (go_at_call 47; refine HCo.out.mono ?_; rintro e w5 ⟨rfl, rfl⟩))
        have q0 : ((w7.setCell ⟨w.heap.size, 0, none⟩ (.int .i64 0)).setCell ⟨w.heap.size, 1, none⟩ (.int .i64 0)).cell? ⟨w.heap.size, 0, none⟩ = some (.int .i64 0) := by simp [go_sem, p0]
        have q1 : ((w7.setCell ⟨w.heap.size, 0, none⟩ (.int .i64 0)).setCell ⟨w.heap.size, 1, none⟩ (.int .i64 0)).cell? ⟨w.heap.size, 1, none⟩ = some (.int .i64 0) := by simp [go_sem, p1]
        refine bodyPost_ret (v := .tuple #[.agg #[.int .i64 0, .int .i64 0], .int .i64 11]) (by simp [results, Tryz.results25, go_sem, q0, q1]) rfl ?_
        refine ⟨?_, (((HFW.out.trans0 (S6.fr.trans0 F7)).setCell (.inr (Nat.le_refl _)) _).setCell (.inr (Nat.le_refl _)) _)⟩
        rw [HPE.out.1, hm]; rfl
      · rw [hm] at HMy
        go_wp2_with (first
          | (have hq := S6; go_at_call 27; refine (HMy.out _).mono ?_; rintro e w7 ⟨rfl, F7⟩; obtain ⟨p0, p1, pz, r0, r1, pl⟩ := HKK.out w7 (S6.fr.trans0 F7))
          | (go_at_call 48; refine (HLe.out _ ⟨0, rfl⟩).mono ?_; rintro e w6 ⟨rfl, S6⟩; obtain ⟨m0, m1, mz, n0, n1, ml⟩ := HKK.out w6 S6.fr)
          | (go_at_call 47; refine HCo.out.mono ?_; rintro e w5 ⟨rfl, rfl⟩))
        have q0 : ((w7.setCell ⟨w.heap.size, 0, none⟩ (.int .i64 N1)).setCell ⟨w.heap.size, 1, none⟩ (.int .i64 N2)).cell? ⟨w.heap.size, 0, none⟩ = some (.int .i64 N1) := by simp [go_sem, p0]
        have q1 : ((w7.setCell ⟨w.heap.size, 0, none⟩ (.int .i64 N1)).setCell ⟨w.heap.size, 1, none⟩ (.int .i64 N2)).cell? ⟨w.heap.size, 1, none⟩ = some (.int .i64 N2) := by simp [go_sem, p1]
        refine bodyPost_ret (v := .tuple #[.agg #[.int .i64 N1, .int .i64 N2], .int .i64 0]) (by simp [results, Tryz.results25, go_sem, q0, q1]) rfl ?_
        refine ⟨?_, (((HFW.out.trans0 (S6.fr.trans0 F7)).setCell (.inr (Nat.le_refl _)) _).setCell (.inr (Nat.le_refl _)) _)⟩
        rw [HPE.out.1, hm, HPE.out.2.1, HPE.out.2.2]; rfl
    · have hlI : (0 : Int) < (LL : Int) := by omega
      go_wp2_with (first
        | (go_at_call 48; refine (HLe.out _ ⟨0, rfl⟩).mono ?_; rintro e w6 ⟨rfl, S6⟩; obtain ⟨m0, m1, mz, n0, n1, ml⟩ := HKK.out w6 S6.fr)
        | (go_at_call 47; refine HCo.out.mono ?_; rintro e w5 ⟨rfl, rfl⟩))
      have q0 : ((w6.setCell ⟨w.heap.size, 0, none⟩ (.int .i64 0)).setCell ⟨w.heap.size, 1, none⟩ (.int .i64 0)).cell? ⟨w.heap.size, 0, none⟩ = some (.int .i64 0) := by simp [go_sem, m0]
      have q1 : ((w6.setCell ⟨w.heap.size, 0, none⟩ (.int .i64 0)).setCell ⟨w.heap.size, 1, none⟩ (.int .i64 0)).cell? ⟨w.heap.size, 1, none⟩ = some (.int .i64 0) := by simp [go_sem, m1]
      refine bodyPost_ret (v := .tuple #[.agg #[.int .i64 0, .int .i64 0], .int .i64 11]) (by simp [results, Tryz.results25, go_sem, q0, q1]) rfl ?_
      refine ⟨?_, (((HFW.out.trans0 S6.fr).setCell (.inr (Nat.le_refl _)) _).setCell (.inr (Nat.le_refl _)) _)⟩
      rw [HPE.out.1, show decide (LL = 0) = false from by simpa using hl]; rfl
  · have hkI : ((K : Int) != 0) = true := by simp; omega
    go_wp2_with (go_at_call 47; refine HCo.out.mono ?_; rintro e w5 ⟨rfl, rfl⟩)
    have q0 : ((w4.setCell ⟨w.heap.size, 0, none⟩ (.int .i64 0)).setCell ⟨w.heap.size, 1, none⟩ (.int .i64 0)).cell? ⟨w.heap.size, 0, none⟩ = some (.int .i64 0) := by simp [go_sem, k0]
    have q1 : ((w4.setCell ⟨w.heap.size, 0, none⟩ (.int .i64 0)).setCell ⟨w.heap.size, 1, none⟩ (.int .i64 0)).cell? ⟨w.heap.size, 1, none⟩ = some (.int .i64 0) := by simp [go_sem, k1]
    refine bodyPost_ret (v := .tuple #[.agg #[.int .i64 0, .int .i64 0], .int .i64 11]) (by simp [results, Tryz.results25, go_sem, q0, q1]) rfl ?_
    refine ⟨?_, ((HFW.out.setCell (.inr (Nat.le_refl _)) _).setCell (.inr (Nat.le_refl _)) _)⟩
    rw [HPE.out.1, show (K == 0) = false from by simpa using hk]; rfl
end Go.Proofs.YtjfoccbbjhigbaaGreat
