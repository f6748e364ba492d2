/- The walk of PpmdProps (layer 18). No condition. -/
import Derived.Test.YtjfoccbbjhigbaaGreatMAwk
import Derived.Test.YtjfoccbbjhigbaaGreatMPl
import Derived.Laws.StructEq
import Derived.Deep.RegionHeld3
namespace Go.Proofs.YtjfoccbbjhigbaaGreat
open Go.RowKit
theorem fields_pp : Tryz.prog.underlying 24 = some (.struct (Tryz.prog.fieldsOf 24)) := by kernel_rfl
theorem stood_pp : Tryz.prog.stoodInHeld 24 = false := by kernel_rfl
theorem eqin_pp (x y : Int) (w : World) : (Op.equalIn 10000 24 (.agg #[.int .i64 x, .int .i64 y]) (.agg #[.int .i64 x, .int .i64 y])).run Tryz.prog w = .ok true w := by
  rw [run_equalIn_struct w 9999 _ _ _ fields_pp stood_pp]
  have hf : (Tryz.prog.fieldsOf 24).toList.map (fun f => (f.name, f.type, f.offset)) = [("Order", 3, 0), ("Mem", 3, 1)] := by kernel_rfl
  have hu0 : Tryz.prog.underlying 3 = some (.int .i64) := Tryz.underlying3
  generalize (Tryz.prog.fieldsOf 24).toList = L at hf ⊢
  rcases L with _ | ⟨f1, _ | ⟨f2, _ | ⟨f3, t⟩⟩⟩
  · simp at hf
  · simp at hf
  · simp only [List.map_cons, List.map_nil, List.cons.injEq, Prod.mk.injEq, and_true] at hf
    obtain ⟨⟨n1, t1, o1⟩, ⟨n2, t2, o2⟩⟩ := hf
    simp only [Op.eqFields, n1, t1, o1, n2, t2, o2]
    go_simp
  · simp at hf
theorem neq_pp (x y : Int) (w : World) : (binOp .neq 24 (.agg #[.int .i64 x, .int .i64 y]) (.agg #[.int .i64 x, .int .i64 y])).run Tryz.prog w = .ok (.bool false) w := by
  rw [run_neq_struct, eqin_pp]
  rfl
theorem eql_pp (x y : Int) (w : World) : (binOp .eql 24 (.agg #[.int .i64 x, .int .i64 y]) (.agg #[.int .i64 x, .int .i64 y])).run Tryz.prog w = .ok (.bool true) w := by
  rw [run_eql_struct, eqin_pp]
  rfl
/-- What Parse tells: order, memory, code. -/
def parX (b : List UInt8) : Int := if (parP b).1 then (parP b).2.1 else 0
def parY (b : List UInt8) : Int := if (parP b).1 then (parP b).2.2 else 0
def parC (b : List UInt8) : Int := if (parP b).1 then 0 else 11
theorem proT_len (o m : Int) : (proT o m).length ≤ 100000 := by
  unfold proT
  split
  · unfold put
    split <;> simp [leBytes_length]
  · simp
theorem par_pro (o m : Int) : (mayT o m = true → parX (proT o m) = o ∧ parY (proT o m) = m ∧ parC (proT o m) = 0) ∧ (mayT o m = false → parC (proT o m) = 11) := by
  constructor
  · intro h
    have hb := (mayT_iff o m).1 h
    obtain ⟨O, rfl⟩ := Int.eq_ofNat_of_zero_le (show 0 ≤ o by omega)
    obtain ⟨M, rfl⟩ := Int.eq_ofNat_of_zero_le (show 0 ≤ m by omega)
    have e := parP_proT O M h
    unfold parX parY parC
    rw [e]
    exact ⟨rfl, rfl, rfl⟩
  · intro h
    rw [proT_not o m h]
    unfold parC
    rw [parP_nil]
    rfl
theorem ParR.all {b : List UInt8} {w : World} {e : Ending} {w' : World} (h : ParR b w e w') : e = .returned (.tuple #[.agg #[.int .i64 (parX b), .int .i64 (parY b)], .int .i64 (parC b)]) ∧ Fr [] w w' := by
  refine ⟨h.1.trans ?_, h.2⟩
  unfold parX parY parC
  cases (parP b).1 <;> rfl
set_option maxRecDepth 100000 in
set_option maxHeartbeats 4000000 in
theorem law_any (w : World) (v : Value) (b : List UInt8) (h : Sl w v (bv b)) (o m : Int) : Calls Tryz.prog 7 #[v, .agg #[.int .i64 o, .int .i64 m]] w fun e w' => e = .returned (.bool true) ∧ Fr [] w w' := by
  obtain ⟨ao, cap, rfl, -, -, -⟩ := h.out
  obtain ⟨B, hB⟩ : ∃ B, B = (bv b).length := ⟨_, rfl⟩
  have hBl : B = b.length := by rw [hB, bv_length]
  rw [← hB] at h ⊢
  have HH := Lib.hid h
  have HB := Lib.hid hBl
  clear h hB hBl
  by_cases hl : 1000 < B
  · have hlI : (1000 : Int) < (B : Int) := by omega
    go_enter Tryz.func7, Tryz.ntmps7
    go_wp2_with (go_at_call 8; refine (awake_any _).mono ?_; rintro e w1 ⟨rfl, F1⟩)
    go_ret
    exact ⟨rfl, ((Fr.refl [] w).alloc _).trans0 F1⟩
  · have hlI : ¬ (1000 : Int) < (B : Int) := by omega
    have HPa := Lib.hid (fun (wx : World) (F : Fr [] w wx) => (parse_any wx _ b (HH.out.fr0 F) (by have := HB.out; omega)).mono (fun _ _ hr => hr.all))
    have HRp := Lib.hid (fun (wx : World) (F : Fr [] w wx) => (rparse_any wx _ b (HH.out.fr0 F) (by have := HB.out; omega)).mono (fun _ _ hr => hr.all))
    obtain ⟨X, hX⟩ : ∃ X, X = parX b := ⟨_, rfl⟩
    obtain ⟨Y, hY⟩ : ∃ Y, Y = parY b := ⟨_, rfl⟩
    obtain ⟨C, hC⟩ : ∃ C, C = parC b := ⟨_, rfl⟩
    simp only [← hX, ← hY, ← hC] at HPa HRp
    clear hX hY hC
    go_enter Tryz.func7, Tryz.ntmps7
    go_upto_region 5 with (go_at_call 8; refine (awake_any _).mono ?_; rintro e w1 ⟨rfl, F1⟩)
    have F1' : Fr [] w w1 := ((Fr.refl [] w).alloc _).trans0 F1
    go_upto_region 7 with (first
      | (have hq := F2; go_at_call 26; refine (HRp.out _ ((F1'.trans0 F2).alloc _)).mono ?_; rintro e w3 ⟨rfl, F3⟩)
      | (go_at_call 25; refine (HPa.out _ F1').mono ?_; rintro e w2 ⟨rfl, F2⟩))
    obtain ⟨g1, hg1⟩ : ∃ g, g = w.heap.size := ⟨_, rfl⟩
    obtain ⟨g2, hg2⟩ : ∃ g, g = w2.heap.size := ⟨_, rfl⟩
    obtain ⟨g3, hg3⟩ : ∃ g, g = w3.heap.size := ⟨_, rfl⟩
    obtain ⟨wB, hwB⟩ : ∃ wB, wB = w3.alloc (.cells #[.int .i64 X, .int .i64 Y] 24) := ⟨_, rfl⟩
    have FB := Lib.hid (show Fr [] w wB from hwB ▸ ((((F1'.trans0 F2).alloc _).trans0 F3).alloc _))
    have B1 : wB.heap[g1]? = some (.cells #[.int .i64 o, .int .i64 m] 24 (0, 0)) := by
      have G : Fr [] (w.alloc (.cells #[.int .i64 o, .int .i64 m] 24)) wB := hwB ▸ (((F1.trans0 F2).alloc _).trans0 F3).alloc _
      have b := heap_alloc_new w (.cells #[.int .i64 o, .int .i64 m] 24 (0, 0))
      rw [hg1]
      exact (G.block _ (Array.getElem?_eq_some_iff.1 b).1 (by simp)).trans b
    have B2 : wB.heap[g2]? = some (.cells #[.int .i64 X, .int .i64 Y] 24 (0, 0)) := by
      have G : Fr [] (w2.alloc (.cells #[.int .i64 X, .int .i64 Y] 24)) wB := hwB ▸ F3.alloc _
      have b := heap_alloc_new w2 (.cells #[.int .i64 X, .int .i64 Y] 24 (0, 0))
      rw [hg2]
      exact (G.block _ (Array.getElem?_eq_some_iff.1 b).1 (by simp)).trans b
    have B3 : wB.heap[g3]? = some (.cells #[.int .i64 X, .int .i64 Y] 24 (0, 0)) := by rw [hwB, hg3]; exact heap_alloc_new _ _
    have HC := Lib.hid (fun (wx : World) (F : Fr [] wB wx) => show (wx.cell? ⟨g1, 0, none⟩ = some (.int .i64 o) ∧ wx.cell? ⟨g1, 1, none⟩ = some (.int .i64 m)) ∧ (wx.cell? ⟨g2, 0, none⟩ = some (.int .i64 X) ∧ wx.cell? ⟨g2, 1, none⟩ = some (.int .i64 Y)) ∧ (wx.cell? ⟨g3, 0, none⟩ = some (.int .i64 X) ∧ wx.cell? ⟨g3, 1, none⟩ = some (.int .i64 Y)) from by
      have c1 := (F.block g1 (Array.getElem?_eq_some_iff.1 B1).1 (by simp)).trans B1
      have c2 := (F.block g2 (Array.getElem?_eq_some_iff.1 B2).1 (by simp)).trans B2
      have c3 := (F.block g3 (Array.getElem?_eq_some_iff.1 B3).1 (by simp)).trans B3
      exact ⟨⟨by simp [Go.Joins.cell_of_block c1], by simp [Go.Joins.cell_of_block c1]⟩, ⟨by simp [Go.Joins.cell_of_block c2], by simp [Go.Joins.cell_of_block c2]⟩, ⟨by simp [Go.Joins.cell_of_block c3], by simp [Go.Joins.cell_of_block c3]⟩⟩)
    rw [← hwB, ← hg1, ← hg2, ← hg3]
    clear B1 B2 B3 F1 F1' F2 F3 hwB hg1 hg2 hg3 HPa HRp
    have hne := @neq_pp
    obtain ⟨T, hT⟩ : ∃ T, T = mayT o m := ⟨_, rfl⟩
    have HT := Lib.hid hT
    have HP1 := Lib.hid (fun (wx : World) => pmay_any wx o m)
    have HP2 := Lib.hid (fun (wx : World) => rmay18_any wx o m)
    have HP3 := Lib.hid (fun (wx : World) => props_any wx o m)
    have HP4 := Lib.hid (fun (wx : World) => rprops_any wx o m)
    rw [← hT] at HP1 HP2
    clear hT
    obtain ⟨⟨c1, c2⟩, ⟨c3, c4⟩, ⟨c5, c6⟩⟩ := HC.out wB (Fr.refl _ _)
    go_region_held3 (fun wx => (wx.cell? ⟨g1, 0, none⟩ = some (.int .i64 o) ∧ wx.cell? ⟨g1, 1, none⟩ = some (.int .i64 m)) ∧ (wx.cell? ⟨g2, 0, none⟩ = some (.int .i64 X) ∧ wx.cell? ⟨g2, 1, none⟩ = some (.int .i64 Y)) ∧ (wx.cell? ⟨g3, 0, none⟩ = some (.int .i64 X) ∧ wx.cell? ⟨g3, 1, none⟩ = some (.int .i64 Y)))
      (first | exact ⟨⟨c1, c2⟩, ⟨c3, c4⟩, ⟨c5, c6⟩⟩ | exact HC.out _ G1 | exact HC.out _ G2 | exact HC.out _ G3 | exact HC.out _ G4 | exact HC.out _ G5)
      (first
        | (have hq := G4; go_at_call 14; refine (bytes_any _ _ _ _ _ (S3.fr0 F4) S4).mono ?_; rintro e w5 ⟨rfl, S5⟩; have G5 := G4.trans0 S5.fr)
        | (have hq := G3; go_at_call 29; refine (HP4.out _).mono ?_; rintro e w4 ⟨v4, rfl, S4, -, F4⟩; have G4 := G3.trans0 F4)
        | (have hq := G2; go_at_call 28; refine (HP3.out _).mono ?_; rintro e w3 ⟨v3, rfl, S3, -, F3⟩; have G3 := G2.trans0 F3)
        | (have hq := G1; go_at_call 9; refine (HP2.out _).mono ?_; rintro e w2 ⟨rfl, F2⟩; have G2 := G1.trans0 F2)
        | (go_at_call 27; refine (HP1.out _).mono ?_; rintro e w1 ⟨rfl, F1⟩; have G1 : Fr [] wB w1 := (Fr.refl _ _).drew.trans0 F1))
    obtain ⟨⟨d1, d2⟩, -⟩ := HC.out _ G5
    have HG5 := Lib.hid (FB.out.trans0 G5)
    have HE5 := Lib.hid G5
    obtain ⟨X2, hX2⟩ : ∃ X, X = parX (proT o m) := ⟨_, rfl⟩
    obtain ⟨Y2, hY2⟩ : ∃ Y, Y = parY (proT o m) := ⟨_, rfl⟩
    obtain ⟨C2, hC2⟩ : ∃ C, C = parC (proT o m) := ⟨_, rfl⟩
    have HPz := Lib.hid (fun (wx : World) (v : Value) (h : Sl wx v (bv (proT o m))) => (parse_any wx v (proT o m) h (proT_len o m)).mono (fun _ _ hr => hr.all))
    simp only [← hX2, ← hY2, ← hC2] at HPz
    have HZ := Lib.hid (show (T = true → X2 = o ∧ Y2 = m ∧ C2 = 0) ∧ (T = false → C2 = 11) by rw [hX2, hY2, hC2, HT.out]; exact par_pro o m)
    clear c1 c2 c3 c4 c5 c6 S3 S4 F1 F2 F3 F4 G1 G2 G3 G4 S5 G5 hX2 hY2 hC2 hne
    go_upto_region 10 with (first
      | (have hq := F6; go_at_call 25; refine (HPz.out _ _ S6).mono ?_; rintro e w7 ⟨rfl, F7⟩)
      | (go_at_call 28; refine (HP3.out _).mono ?_; rintro e w6 ⟨v6, rfl, S6, -, F6⟩))
    obtain ⟨g4, hg4⟩ : ∃ g, g = w7.heap.size := ⟨_, rfl⟩
    obtain ⟨wC, hwC⟩ : ∃ wC, wC = w7.alloc (.cells #[.int .i64 X2, .int .i64 Y2] 24) := ⟨_, rfl⟩
    have G7 : Fr [] w5 wC := hwC ▸ ((F6.trans0 F7).alloc _)
    have HFC := Lib.hid (HG5.out.trans0 G7)
    have HC7 := Lib.hid (fun (wx : World) (F : Fr [] wC wx) => (HC.out _ ((HE5.out.trans0 G7).trans0 F)).1)
    have B4 : wC.heap[g4]? = some (.cells #[.int .i64 X2, .int .i64 Y2] 24 (0, 0)) := by rw [hwC, hg4]; exact heap_alloc_new _ _
    have HC4 := Lib.hid (fun (wx : World) (F : Fr [] wC wx) => show wx.cell? ⟨g4, 0, none⟩ = some (.int .i64 X2) ∧ wx.cell? ⟨g4, 1, none⟩ = some (.int .i64 Y2) from by
      have c1 := (F.block g4 (Array.getElem?_eq_some_iff.1 B4).1 (by simp)).trans B4
      exact ⟨by simp [Go.Joins.cell_of_block c1], by simp [Go.Joins.cell_of_block c1]⟩)
    rw [← hwC, ← hg4]
    clear B4 F6 F7 S6 hwC hg4 d1 d2 G7
    obtain ⟨d1, d2⟩ := HC7.out wC (Fr.refl _ _)
    cases T with
    | true =>
      obtain ⟨rfl, rfl, rfl⟩ := HZ.out.1 rfl
      have hne := @eql_pp
      go_upto_region 11 with (go_at_call 9; refine (HP2.out _).mono ?_; rintro e w8 ⟨rfl, F8⟩; obtain ⟨e1, e2⟩ := HC7.out w8 F8; obtain ⟨e3, e4⟩ := HC4.out w8 F8)
      go_ret
      exact ⟨rfl, HFC.out.trans0 F8⟩
    | false =>
      obtain rfl := HZ.out.2 rfl
      go_wp2_with (go_at_call 9; refine (HP2.out _).mono ?_; rintro e w8 ⟨rfl, F8⟩; obtain ⟨e1, e2⟩ := HC7.out w8 F8; obtain ⟨e3, e4⟩ := HC4.out w8 F8)
      go_ret
      exact ⟨rfl, HFC.out.trans0 F8⟩
theorem walk_PpmdProps (w : World) (v : Value) (b : List UInt8) (o m : Int) (h : Sl w v (bv b)) (_ : True) (_ : True) : Calls Tryz.prog 7 #[v, .agg #[.int .i64 o, .int .i64 m]] w fun e w' => e = .returned (.bool true) ∧ Fr [] w w' := law_any w v b h o m
end Go.Proofs.YtjfoccbbjhigbaaGreat
