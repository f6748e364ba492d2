/- Contracts: ppmd.Props, garblerref18.Props (layer 18). No condition but that numbers are those of a setting's kind. -/
import Derived.Test.YtjfoccbbjhigbaaGreatMMay
import Derived.Test.YtjfoccbbjhigbaaGreatSrcE
import Derived.Deep.DeepCutAuto
namespace Go.Proofs.YtjfoccbbjhigbaaGreat
open Go.RowKit
/-- The properties of a setting. -/
def proT (o m : Int) : List UInt8 := if mayT o m then put [UInt8.ofNat o.toNat] 4 m.toNat else []
def ProR (o m : Int) (w : World) (e : Ending) (w' : World) : Prop := ∃ v, e = .returned v ∧ Sl w' v (bv (proT o m)) ∧ (∀ j, v.ownBlock = some j → w.heap.size ≤ j) ∧ Fr [] w w'
set_option maxRecDepth 100000 in
theorem props_any (w : World) (o m : Int) : Calls Tryz.prog 28 #[.agg #[.int .i64 o, .int .i64 m]] w (ProR o m w) := by
  have HM := Lib.hid (fun wx => pmay_any wx o m)
  cases hm : mayT o m
  · simp only [hm] at HM
    have hp : proT o m = [] := by unfold proT; rw [hm]; rfl
    have HP := Lib.hid hp
    clear hm hp
    go_enter Tryz.func28, Tryz.ntmps28
    go_wp2_with (go_at_call 27; refine (HM.out _).mono ?_; rintro e w1 ⟨rfl, F1⟩)
    go_ret
    refine ⟨_, rfl, ?_, by simp [Value.ownBlock], ((Fr.refl _ _).alloc _).trans0 F1⟩
    rw [HP.out]
    exact Sl.nil _
  · obtain ⟨m1, m2, m3, m4⟩ := (mayT_iff o m).1 hm
    simp only [hm] at HM
    obtain ⟨O, rfl⟩ := Int.eq_ofNat_of_zero_le (show 0 ≤ o by omega)
    obtain ⟨M, rfl⟩ := Int.eq_ofNat_of_zero_le (show 0 ≤ m by omega)
    have hp : proT O M = put [UInt8.ofNat O] 4 M := by unfold proT; rw [hm]; rfl
    have HP := Lib.hid hp
    have hO : O ≤ 64 := by omega
    have hMm : M ≤ 4294967259 := by omega
    clear hm hp
    go_enter Tryz.func28, Tryz.ntmps28
    go_upto_region 3 with (go_at_call 27; refine (HM.out _).mono ?_; rintro e w1 ⟨rfl, F1⟩)
    have b0 := (F1.block w.heap.size (by simp) (by simp)).trans (heap_alloc_new w (.cells #[.int .i64 (O : Int), .int .i64 (M : Int)] 24))
    have c0 : w1.cell? ⟨w.heap.size, 0, none⟩ = some (.int .i64 (O : Int)) := by simp [Go.Joins.cell_of_block b0]
    have c1 : w1.cell? ⟨w.heap.size, 1, none⟩ = some (.int .i64 (M : Int)) := by simp [Go.Joins.cell_of_block b0]
    have hl : w.heap.size < w1.heap.size := (Array.getElem?_eq_some_iff.1 b0).1
    have ebv : bv [UInt8.ofNat O] = [.int .u8 (O : Int)] := by simp [bv]; omega
    have HSl := Lib.hid (show Sl (w1.alloc (.cells #[.int .u8 (O : Int)] 5)) (.slice (some ⟨w1.heap.size, 0, none⟩) 1 1) (bv [UInt8.ofNat O]) from by rw [ebv]; exact sl_one w1 5 _)
    have HPut := Lib.hid (put_any _ _ [UInt8.ofNat O] 4 M HSl.out (by show 1 ≤ _; decide) (by omega))
    have HF := Lib.hid ((((Fr.refl [] w).alloc _).trans0 F1).alloc (.cells #[.int .u8 (O : Int)] 5))
    clear b0 ebv F1
    go_wp2_with (go_at_call 49; refine HPut.out.mono ?_; rintro e w2 ⟨r, rfl, own2, F2⟩)
    go_ret
    refine ⟨_, rfl, by rw [HP.out]; exact Sl.of_own own2, fun j hj => ?_, HF.out.trans0 F2⟩
    have h1 := (own2.lt j hj).1
    rw [World.size_alloc] at h1
    omega
set_option maxRecDepth 100000 in
theorem rprops_any (w : World) (o m : Int) : Calls Tryz.prog 29 #[.agg #[.int .i64 o, .int .i64 m]] w (ProR o m w) := by
  have HM := Lib.hid (fun wx => rmay18_any wx o m)
  cases hm : mayT o m
  · simp only [hm] at HM
    have hp : proT o m = [] := by unfold proT; rw [hm]; rfl
    have HP := Lib.hid hp
    clear hm hp
    go_enter Tryz.func29, Tryz.ntmps29
    go_wp2_with (go_at_call 9; refine (HM.out _).mono ?_; rintro e w1 ⟨rfl, F1⟩)
    go_ret
    refine ⟨_, rfl, ?_, by simp [Value.ownBlock], ((Fr.refl _ _).alloc _).trans0 F1⟩
    rw [HP.out]
    exact Sl.nil _
  · obtain ⟨m1, m2, m3, m4⟩ := (mayT_iff o m).1 hm
    simp only [hm] at HM
    obtain ⟨O, rfl⟩ := Int.eq_ofNat_of_zero_le (show 0 ≤ o by omega)
    obtain ⟨M, rfl⟩ := Int.eq_ofNat_of_zero_le (show 0 ≤ m by omega)
    have hp : proT O M = put [UInt8.ofNat O] 4 M := by unfold proT; rw [hm]; rfl
    have HP := Lib.hid hp
    have hO : O ≤ 64 := by omega
    have hMm : M ≤ 4294967259 := by omega
    clear hm hp
    go_enter Tryz.func29, Tryz.ntmps29
    go_upto_region 3 with (go_at_call 9; refine (HM.out _).mono ?_; rintro e w1 ⟨rfl, F1⟩)
    have b0 := (F1.block w.heap.size (by simp) (by simp)).trans (heap_alloc_new w (.cells #[.int .i64 (O : Int), .int .i64 (M : Int)] 24))
    have c0 : w1.cell? ⟨w.heap.size, 0, none⟩ = some (.int .i64 (O : Int)) := by simp [Go.Joins.cell_of_block b0]
    have c1 : w1.cell? ⟨w.heap.size, 1, none⟩ = some (.int .i64 (M : Int)) := by simp [Go.Joins.cell_of_block b0]
    have hl : w.heap.size < w1.heap.size := (Array.getElem?_eq_some_iff.1 b0).1
    have HF := Lib.hid (((Fr.refl [] w).alloc _).trans0 F1)
    clear b0 F1
    go_wp2_with fail
    go_ret
    have ebv : bv (put [UInt8.ofNat O] 4 M) = [.int .u8 (O : Int), .int .u8 ((M : Int) % 256), .int .u8 ((M : Int) / 256 % 256), .int .u8 ((M : Int) / 65536 % 256), .int .u8 ((M : Int) / 16777216)] := by
      have e : put [UInt8.ofNat O] 4 M = [UInt8.ofNat O, UInt8.ofNat M, UInt8.ofNat (M / 256), UInt8.ofNat (M / 256 / 256), UInt8.ofNat (M / 256 / 256 / 256)] := rfl
      rw [e]
      simp [bv]
      omega
    refine ⟨_, rfl, ?_, fun j hj => ?_, HF.out.alloc _⟩
    · rw [HP.out, ebv]
      exact sl_lit w1 5 [.int .u8 (O : Int), .int .u8 ((M : Int) % 256), .int .u8 ((M : Int) / 256 % 256), .int .u8 ((M : Int) / 65536 % 256), .int .u8 ((M : Int) / 16777216)] 5 rfl (by decide)
    · have hj2 : w1.heap.size = j := by simpa [Value.ownBlock] using hj
      omega
end Go.Proofs.YtjfoccbbjhigbaaGreat
