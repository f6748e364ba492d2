/- Contract: chapter 18's awake: the program packs nothing, and refuses five bytes 0 (layer 18). No condition. -/
import Derived.Test.YtjfoccbbjhigbaaGreatMMuch
import Derived.Test.YtjfoccbbjhigbaaGreatMPk
import Derived.Test.YtjfoccbbjhigbaaGreatMPar
import Derived.Test.YtjfoccbbjhigbaaGreatRefBy
namespace Go.Proofs.YtjfoccbbjhigbaaGreat
open Go.RowKit
set_option maxRecDepth 100000 in
set_option maxHeartbeats 4000000 in
theorem awake_any (w : World) : Calls Tryz.prog 8 #[] w fun e w' => e = .returned (.bool true) ∧ Fr [] w w' := by
  have hp : parP [2, 0, 8, 0, 0] = (true, 2, 2048) := by decide
  have HP := Lib.hid hp
  clear hp
  have HPa := Lib.hid (fun (wx : World) (v : Value) (h : Sl wx v (bv [2, 0, 8, 0, 0])) => parse_any wx v [2, 0, 8, 0, 0] h (by decide))
  go_enter Tryz.func8, Tryz.ntmps8
  go_upto_region 2 with (go_at_call 25; refine (HPa.out _ _ (sl_lit w 5 (bv [2, 0, 8, 0, 0]) 5 rfl (by decide))).mono ?_; rintro e w1 ⟨he, F1⟩; rw [HP.out] at he; obtain rfl := he)
  obtain ⟨w2, hw2⟩ : ∃ w2, w2 = w1.alloc (.cells #[.int .i64 2, .int .i64 2048] 24) := ⟨_, rfl⟩
  obtain ⟨g, hg⟩ : ∃ g, g = w1.heap.size := ⟨_, rfl⟩
  have b2 : w2.heap[g]? = some (.cells #[.int .i64 2, .int .i64 2048] 24 (0, 0)) := by rw [hw2, hg]; exact heap_alloc_new _ _
  have F2 := Lib.hid (show Fr [] w w2 from hw2 ▸ (((Fr.refl [] w).alloc _).trans0 F1).alloc _)
  rw [← hw2, ← hg]
  have hgl := (Array.getElem?_eq_some_iff.1 b2).1
  have HK := Lib.hid (fun (wx : World) (F : Fr [] w2 wx) => show wx.cell? ⟨g, 0, none⟩ = some (.int .i64 2) ∧ wx.cell? ⟨g, 1, none⟩ = some (.int .i64 2048) from by
    have b5 := (F.block g hgl (by simp)).trans b2
    exact ⟨by simp [Go.Joins.cell_of_block b5], by simp [Go.Joins.cell_of_block b5]⟩)
  obtain ⟨c0, c1⟩ := HK.out w2 (Fr.refl _ _)
  have HPk := Lib.hid (fun (wx : World) (mp : Nat) (M : MtN wx mp 0 0 0 0 0 0) => pack_nil wx mp 2 2048 0 0 0 0 0 0 M (by decide) (by decide) (by decide) (by decide) (by decide) (by decide))
  clear b2 F1 hw2 hg
  go_region_held3 (fun wx => wx.cell? ⟨g, 0, none⟩ = some (.int .i64 2) ∧ wx.cell? ⟨g, 1, none⟩ = some (.int .i64 2048)) (first | exact ⟨c0, c1⟩ | exact HK.out _ G3 | exact HK.out _ G4)
    (first
      | (have hq := M3; go_at_call 11; refine (HPk.out _ mp M3).mono ?_; rintro e w4 ⟨v, q, rfl, S4, o4, M4, -, F4⟩; have G4 : Fr [] w2 w4 := G3.trans F4 (fun i hi => .inr (by have := gm; simp at hi; omega)))
      | (go_at_call 12; refine (much_any w2.drew).mono ?_; rintro e w3 ⟨mp, rfl, M3, gm, F3⟩; have G3 : Fr [] w2 w3 := Same.drew.fr.trans0 F3; have gm2 : w2.heap.size ≤ mp := gm))
  have S4h := Lib.hid S4
  have G4h := Lib.hid G4
  have o4h := Lib.hid o4
  have gmh := Lib.hid (And.intro gm2 G3.size)
  have vsz : Hid (∀ j, v.ownBlock = some j → j < w4.heap.size) := Lib.hid (by
    obtain ⟨ao, cap, rfl, -, -, oo⟩ := S4.out
    obtain ⟨b, of, rfl, -, cc⟩ := oo 0 (by decide)
    intro j hj
    obtain rfl : b = j := by simpa [Value.ownBlock] using hj
    exact World.block_lt_of_cell? _ _ (cc 0 (by decide)))
  have HUn := Lib.hid (fun (wx : World) (mp : Nat) (M : MtN wx mp 0 0 0 0 0 0) (h : Sl wx v (bv five)) (hv : ∀ j, v.ownBlock = some j → j ≠ mp) => unpack_five wx v h mp 2 2048 0 0 0 0 0 0 M (by decide) (by decide) (by decide) (by decide) (by decide) (by decide) hv)
  obtain ⟨n0, n1⟩ := HK.out w4 G4
  clear c0 c1 S4 o4 M4 F4 M3 F3 G3 gm gm2 G4
  go_upto_region 3 with fail
  go_region_held3 (fun wx => wx.cell? ⟨g, 0, none⟩ = some (.int .i64 2) ∧ wx.cell? ⟨g, 1, none⟩ = some (.int .i64 2048)) (first | exact ⟨n0, n1⟩ | exact HK.out _ G5 | exact HK.out _ G6)
    (first
      | (have hq := M5; go_at_call 13; refine (HUn.out _ mp2 M5 (S4h.out.fr0 H5) (fun j hj => by have := vsz.out j hj; omega)).mono ?_; rintro e w6 ⟨q2, rfl, M6, -, F6⟩; have G6 : Fr [] w2 w6 := G5.trans F6 (fun i hi => .inr (by have := gm5; have := G4h.out.size; simp at hi; omega)))
      | (go_at_call 12; refine (much_any w4.drew).mono ?_; rintro e w5 ⟨mp2, rfl, M5, gm5, F5⟩; have H5 : Fr [] w4 w5 := Same.drew.fr.trans0 F5; have G5 : Fr [] w2 w5 := G4h.out.trans0 H5; have gm6 : w4.heap.size ≤ mp2 := gm5))
  obtain ⟨i0, hi0, hz0, hs0, hb0⟩ := info_parts info_u8
  obtain ⟨z0, z1⟩ := HK.out w6 G6
  have hv6 := S4h.out.fr (H5.trans F6 (fun i hi => .inr (by have := gm6; simp at hi; omega)) : Fr [] w4 w6) (by simp)
  have HV6 := Lib.hid hv6
  have HG6 := Lib.hid (F2.out.trans0 G6)
  clear n0 n1 G5 H5 F5 F6 M5 M6 gm5 gm6 hv6 G6
  obtain ⟨w7, hrun, own7, g7⟩ := run_make_full (P := Tryz.prog) w6 w6.heap.size 22 5 i0 (.int .u8 0) 1 Tryz.underlying22 hi0 hz0 hs0 .i64 .i64 5 (by rw [hb0]; decide) (by unfold maxLen; omega) (Nat.le_refl _)
  have F7 : Fr [] w6 w7 := (Fr.refl _ _).grown g7 (by simp)
  have own8 : w7.ownsRow w6.heap.size 5 1 (.slice (some ⟨w6.heap.size, 0, none⟩) 5 5) 5 (bv [0, 0, 0, 0, 0]) := by
    have e : (madeCells (Value.int .u8 0).cells (5 * 1)).toList = bv [0, 0, 0, 0, 0] := by kernel_rfl
    rw [← e]
    exact own7
  have HB := Lib.hid (bytes_any w7 v _ [0, 0, 0, 0, 0] [0, 0, 0, 0, 0] (HV6.out.fr0 F7) (Sl.of_own own8))
  have HF7 := Lib.hid F7
  have hrun2 : (Instr.makeSlice 22 (.int .i64 5) (.int .i64 5)).run Tryz.prog w6 = .ok (.slice (some ⟨w6.heap.size, 0, none⟩) 5 5) w7 := hrun
  clear hrun own7 own8 g7 F7 hi0 hz0 hs0 hb0
  go_wp2_with (go_at_call 14; refine HB.out.mono ?_; rintro e w8 ⟨rfl, S8⟩)
  go_ret
  exact ⟨rfl, (HG6.out.trans0 HF7.out).trans0 S8.fr⟩
end Go.Proofs.YtjfoccbbjhigbaaGreat
