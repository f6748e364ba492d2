/- Contract: the writer's files. No condition but that lengths fit. -/
import Derived.Test.YtkodindajfdagaaGreatDoorWNumsM
import Derived.Test.YtkodindajfdagaaGreatDoorWNamesM
import Derived.Test.YtkodindajfdagaaGreatDoorWMayFM
namespace Go.Proofs.YtkodindajfdagaaGreatDoor
open Go.RowKit

theorem WrTo.es {w wx : World} {lo p : Nat} {v : Value} {bs : List UInt8} {d : DW} (T : WrTo w lo p v bs d wx) : wx.cell? ⟨p, 7, none⟩ = some d.es := by
  obtain ⟨v1, W1, -, -⟩ := T
  exact (cells8 W1.blk).2.2.2.2.2.2.2.1
theorem wrows_any {w wx : World} {lo p hi : Nat} {v : Value} {bs : List UInt8} {d : DW} (T : WrTo w lo p v bs d wx) (F : List Fil) (hF : RowAt wx hi 7 d.es F.length (fiV F)) (hn : F.length ≤ 1000000) (hb : bs.length ≤ 80000000) :
    Calls Tryz.prog 65 #[.pointer (some ⟨p, 0, none⟩)] wx fun e w' => e = .returned (.tuple #[]) ∧ WrTo w lo p v (bs ++ rowsW F) d w' :=
  T.chain fun v1 W1 => rows1_any wx lo p hi v1 bs d F W1 hF hn hb

set_option maxRecDepth 100000 in
set_option maxHeartbeats 4000000 in
theorem files_one (w : World) (lo p hi : Nat) (v : Value) (bs : List UInt8) (d : DW) (F : List Fil) (h : WrAt w lo p v bs d) (hF : RowAt w hi 7 d.es F.length (fiV F)) (hp : hi ≤ p) (h3 : 2 ≤ p) (hG : Gl w) (hn : F.length ≤ 1000000) (hb : bs.length + (filesW F).length ≤ 60000000)
    (hv : ∀ x ∈ F, (runesL x.name).isSome = true ∧ x.name.length ≤ 100000) :
    Calls Tryz.prog 33 #[.pointer (some ⟨p, 0, none⟩)] w fun e w' => e = .returned (.tuple #[]) ∧ WrTo w lo p v (bs ++ filesW F) d w' := by
  have HW := Lib.hid h
  obtain ⟨eao, ecap, he, hec, hem, -⟩ := hF.out
  have HR := Lib.hid hF
  have HE := Lib.hid he
  obtain ⟨c0, c1, c2, c3, c4, c5, c6, c7, cz⟩ := cells8 h.blk
  rw [he] at c7
  clear hF he
  have T0 := WrTo.refl h
  have HRT := Lib.hid (fun (bs2 : List UInt8) (w2 : World) (T : WrTo w lo p v bs2 d w2) => HR.out.wr h hp T)
  have HGT := Lib.hid (fun (bs2 : List UInt8) (w2 : World) (T : WrTo w lo p v bs2 d w2) => hG.frS T.frm (h.above h3))
  have HET := Lib.hid (fun (bs2 : List UInt8) (w2 : World) (T : WrTo w lo p v bs2 d w2) => HE.out ▸ T.es)
  have HN := Lib.hid hn
  have HV := Lib.hid hv
  clear h hv hG
  by_cases h0 : F = []
  · have HX := Lib.hid (show filesW F = [] from if_pos h0)
    have t0 : ((F.length : Int) == 0) = true := by rw [h0]; rfl
    clear h0
    go_enter Tryz.func33, Tryz.ntmps33
    go_wp2_with fail
    first | go_end0 | (simp only [Exit.inBlock, Exit.then]; refine bodyPost_ret (results_none rfl _ _ _) rfl ?_) | refine bodyPost_ret (results_none rfl _ _ _) rfl ?_
    exact ⟨rfl, by rw [HX.out, List.append_nil]; exact T0⟩
  have HX := Lib.hid (show filesW F = 5 :: (shortN F.length ++ (rowsW F ++ (partW 17 (namesW F) ++ (numsW 20 8 timeOf F ++ (numsW 21 4 attrOf F ++ [0]))))) from if_neg h0)
  have HXE := Lib.hid (show bs ++ filesW F = ((((((bs ++ [5]) ++ shortN F.length) ++ rowsW F) ++ partW 17 (namesW F)) ++ numsW 20 8 timeOf F) ++ numsW 21 4 attrOf F) ++ [0] by rw [HX.out]; simp)
  have hl := congrArg List.length HXE.out
  simp only [List.length_append, List.length_singleton] at hl
  have hpl : (partW 17 (namesW F)).length = 1 + (shortN (namesW F).length).length + (namesW F).length := by simp [partW]; omega
  have HL := Lib.hid (show bs.length + 1 + (shortN F.length).length + (rowsW F).length + (partW 17 (namesW F)).length + (numsW 20 8 timeOf F).length + (numsW 21 4 attrOf F).length + 1 ≤ 60000000 ∧ (namesW F).length ≤ (partW 17 (namesW F)).length by omega)
  have t0 : ((F.length : Int) == 0) = false := by
    rw [beq_eq_false_iff_ne]
    have := List.length_pos_iff.2 h0
    omega
  have hwr : IntKind.u64.wrap (F.length : Int) = (F.length : Int) := by simp [IntKind.wrap, IntKind.bits, IntKind.signed]; omega
  have hFl : F.length < 18446744073709551616 := by omega
  clear h0 hl hpl hb HX
  go_enter Tryz.func33, Tryz.ntmps33
  go_wp2_with (first
    | (have hq := T6; go_at_call 31; refine (wput_any (T6.then0 ((Fr.refl _ _).alloc _)) _ [0] (sl_one _ _ _) (by have := HL.out.1; simp only [List.length_append, List.length_singleton]; omega)).mono ?_; rintro e w7 ⟨rfl, T7⟩)
    | (have hq := T5; go_at_call 67; refine (wattr_any T5 F (HRT.out _ _ T5) HN.out (by have := HL.out.1; simp only [List.length_append, List.length_singleton]; omega)).mono ?_; rintro e w6 ⟨rfl, T6⟩)
    | (have hq := T4; go_at_call 67; refine (wtime_any T4 F (HRT.out _ _ T4) HN.out (by have := HL.out.1; simp only [List.length_append, List.length_singleton]; omega)).mono ?_; rintro e w5 ⟨rfl, T5⟩)
    | (have hq := T3; go_at_call 66; refine (wnames_any T3 F (HRT.out _ _ T3) (HGT.out _ _ T3) HN.out (by have := HL.out.1; have := HL.out.2; simp only [List.length_append, List.length_singleton]; omega) HV.out).mono ?_; rintro e w4 ⟨rfl, T4⟩)
    | (have hq := T2; go_at_call 65; refine (wrows_any T2 F (HRT.out _ _ T2) HN.out (by have := HL.out.1; simp only [List.length_append, List.length_singleton]; omega)).mono ?_; rintro e w3 ⟨rfl, T3⟩)
    | (have hq := T1; go_at_call 64; refine (wnumber_any T1 F.length (by have := HL.out.1; simp only [List.length_append, List.length_singleton]; omega) hFl).mono ?_; rintro e w2 ⟨rfl, T2⟩)
    | (go_at_call 31; refine (wput_any (T0.then0 ((Fr.refl _ _).alloc _)) _ [5] (sl_one _ _ _) (by have := HL.out.1; simp only [List.length_singleton]; omega)).mono ?_; rintro e w1 ⟨rfl, T1⟩; have s7 := HET.out _ _ T1))
  go_end0
  exact ⟨rfl, by rw [HXE.out]; exact T7⟩
theorem wfiles_any {w wx : World} {lo p hi : Nat} {v : Value} {bs : List UInt8} {d : DW} (T : WrTo w lo p v bs d wx) (F : List Fil) (hF : RowAt wx hi 7 d.es F.length (fiV F)) (hp : hi ≤ p) (h3 : 2 ≤ p) (hG : Gl wx) (hn : F.length ≤ 1000000) (hb : bs.length + (filesW F).length ≤ 60000000)
    (hv : ∀ x ∈ F, (runesL x.name).isSome = true ∧ x.name.length ≤ 100000) :
    Calls Tryz.prog 33 #[.pointer (some ⟨p, 0, none⟩)] wx fun e w' => e = .returned (.tuple #[]) ∧ WrTo w lo p v (bs ++ filesW F) d w' :=
  T.chain fun v1 W1 => files_one wx lo p hi v1 bs d F W1 hF hp h3 hG hn hb hv
end Go.Proofs.YtkodindajfdagaaGreatDoor
