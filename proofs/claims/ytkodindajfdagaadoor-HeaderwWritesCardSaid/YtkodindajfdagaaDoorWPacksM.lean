/- Contract: the writer's packs. No condition but that lengths fit. -/
import Derived.Test.YtkodindajfdagaaDoorWSumsM
import Derived.LoopN
namespace Go.Proofs.YtkodindajfdagaaDoor
open Go.RowKit

/-- What is packed, as it is put. -/
def numsB (l : List UInt64) : List UInt8 := l.flatMap fun s => shortN s.toNat
def packsW (pl : UInt64) (ps : List UInt64) (cs : List Ck) : List UInt8 :=
  if ps = [] ∧ pl = 0 then [] else 6 :: (shortN pl.toNat ++ (shortN ps.length ++ ((if ps = [] then [] else [9]) ++ (numsB ps ++ (sumsW cs ++ [0])))))
theorem numsB_take {l : List UInt64} {k : Nat} {x : UInt64} (h : l[k]? = some x) : numsB (l.take (k + 1)) = numsB (l.take k) ++ shortN x.toNat := by
  simp [numsB, List.take_add_one, h]
theorem numsB_le {l : List UInt64} (k : Nat) : (numsB (l.take k)).length ≤ (numsB l).length := by
  have h2 : numsB l = numsB (l.take k) ++ numsB (l.drop k) := by unfold numsB; rw [← List.flatMap_append, List.take_append_drop]
  rw [h2, List.length_append]
  omega
theorem RowAt.word {w : World} {hi : Nat} {ao : Option Addr} {n cap : Nat} {l : List UInt64} (h : RowAt w hi 1 (.slice ao n cap) n (u64v l)) {k : Nat} {x : UInt64} (hx : l[k]? = some x) (hk : k < n) :
    ∃ b o, ao = some ⟨b, o, none⟩ ∧ b < w.heap.size ∧ w.cell? ⟨b, o + k, none⟩ = some (.int .u64 x.toNat) := by
  obtain ⟨ao', cap', e, h1, h2, h3⟩ := h
  injection e with e1 e2 e3
  subst e1 e3
  obtain ⟨b, o, q1, -, q3, q4⟩ := h3 k hk
  have := q4 0 (by decide)
  rw [Nat.mul_one, Nat.add_zero, Nat.add_zero, u64v_get _ _ _ hx] at this
  exact ⟨b, o, q1, q3, this⟩
theorem WrTo.cell {w wx : World} {lo p : Nat} {v : Value} {bs : List UInt8} {d : DW} (T : WrTo w lo p v bs d wx) :
    wx.cell? ⟨p, 1, none⟩ = some d.pk ∧ wx.cell? ⟨p, 2, none⟩ = some d.pl ∧ wx.cell? ⟨p, 3, none⟩ = some d.ps ∧ wx.cell? ⟨p, 4, none⟩ = some d.cs ∧ wx.cell? ⟨p, 5, none⟩ = some d.fo ∧ wx.cell? ⟨p, 6, none⟩ = some d.su ∧ wx.cell? ⟨p, 7, none⟩ = some d.es := by
  obtain ⟨v1, W1, -, -⟩ := T
  obtain ⟨c0, c1, c2, c3, c4, c5, c6, c7, cz⟩ := cells8 W1.blk
  exact ⟨c1, c2, c3, c4, c5, c6, c7⟩

set_option maxRecDepth 100000 in
set_option maxHeartbeats 4000000 in
theorem packs_one (w : World) (lo p hi : Nat) (v pk psv csv fo su es : Value) (bs : List UInt8) (pl : UInt64) (ps : List UInt64) (cs : List Ck) (h : WrAt w lo p v bs ⟨pk, .int .u64 pl.toNat, psv, csv, fo, su, es⟩) (hp : hi ≤ p)
    (hP : RowAt w hi 1 psv ps.length (u64v ps)) (hC : RowAt w hi 2 csv cs.length (ckV cs)) (hn : cs.length ≤ 1000000) (hpn : ps.length ≤ 1000000) (hb : bs.length + (packsW pl ps cs).length ≤ 50000000) :
    Calls Tryd.prog 21 #[.pointer (some ⟨p, 0, none⟩)] w fun e w' => e = .returned (.bool (!(decide (ps = []) && (pl == 0)))) ∧ WrTo w lo p v (bs ++ packsW pl ps cs) ⟨pk, .int .u64 pl.toNat, psv, csv, fo, su, es⟩ w' := by
  obtain ⟨d, hd⟩ : ∃ d, d = (⟨pk, .int .u64 pl.toNat, psv, csv, fo, su, es⟩ : DW) := ⟨_, rfl⟩
  have HCell := Lib.hid (fun (wx : World) (bs2 : List UInt8) (T : WrTo w lo p v bs2 d wx) => (show wx.cell? ⟨p, 2, none⟩ = some (.int .u64 pl.toNat) ∧ wx.cell? ⟨p, 3, none⟩ = some psv ∧ wx.cell? ⟨p, 4, none⟩ = some csv from by
    obtain ⟨-, c2, c3, c4, -⟩ := T.cell
    rw [hd] at c2 c3 c4
    exact ⟨c2, c3, c4⟩))
  rw [← hd] at h ⊢
  clear hd
  have T0 := WrTo.refl h
  have HPR := Lib.hid (fun (bs2 : List UInt8) (wx : World) (T : WrTo w lo p v bs2 d wx) => hP.wr h hp T)
  have HCR := Lib.hid (fun (bs2 : List UInt8) (wx : World) (T : WrTo w lo p v bs2 d wx) => RowSt.arg (lo := lo) (d := d) (hC.wr h hp T) hp)
  obtain ⟨pao, pcap, rfl, -, -, -⟩ := hP.out
  obtain ⟨cao, ccap, rfl, -, -, -⟩ := hC.out
  obtain ⟨c2, c3, c4⟩ := HCell.out w bs T0
  have HN := Lib.hid hn
  have HPN := Lib.hid hpn
  clear h hP hC
  have hplt := pl.toNat_lt
  by_cases hA : ps = [] ∧ pl = 0
  · have HE := Lib.hid (show packsW pl ps cs = [] from if_pos hA)
    have HV := Lib.hid (show (!(decide (ps = []) && (pl == 0))) = false by rw [decide_eq_true hA.1, hA.2]; rfl)
    have t0 : ((ps.length : Int) == 0) = true := by rw [hA.1]; rfl
    have t1 : ((pl.toNat : Int) == 0) = true := by rw [hA.2]; rfl
    clear hA
    go_enter Tryd.func21, Tryd.ntmps21
    go_wp2_with fail
    go_ret
    exact ⟨by rw [HV.out]; rfl, by rw [HE.out, List.append_nil]; exact T0⟩
  have HE := Lib.hid (show packsW pl ps cs = 6 :: (shortN pl.toNat ++ (shortN ps.length ++ ((if ps = [] then [] else [9]) ++ (numsB ps ++ (sumsW cs ++ [0]))))) from if_neg hA)
  have HV := Lib.hid (show (!(decide (ps = []) && (pl == 0))) = true by
    by_cases h1 : ps = []
    · have h2 : pl ≠ 0 := fun e => hA ⟨h1, e⟩
      simp [h2]
    · simp [h1])
  have hwr : IntKind.u64.wrap (ps.length : Int) = (ps.length : Int) := by simp [IntKind.wrap, IntKind.bits, IntKind.signed]; omega
  have hFl : ps.length < 18446744073709551616 := by omega
  by_cases h1 : ps = []
  · have hl : (packsW pl ps cs).length = 1 + (shortN pl.toNat).length + (shortN ps.length).length + (sumsW cs).length + 1 := by rw [HE.out, if_pos h1, h1]; simp [numsB]; omega
    have HL := Lib.hid (show bs.length + (1 + (shortN pl.toNat).length + (shortN ps.length).length + (sumsW cs).length + 1) ≤ 50000000 by omega)
    have hxe : bs ++ packsW pl ps cs = ((((bs ++ [6]) ++ shortN pl.toNat) ++ shortN ps.length) ++ sumsW cs) ++ [0] := by rw [HE.out, if_pos h1]; rw [show numsB ps = [] by rw [h1]; rfl]; simp
    have t0 : ((ps.length : Int) == 0) = true := by rw [h1]; rfl
    have t1 : ((pl.toNat : Int) == 0) = false := by
      rw [beq_eq_false_iff_ne]
      intro e
      exact hA ⟨h1, UInt64.toNat_inj.1 (by show pl.toNat = 0; omega)⟩
    have t2 : ¬ (0 : Int) < (ps.length : Int) := by rw [h1]; simp
    have t3 : (ps.length : Int) ≤ 0 := by omega
    clear h1 hA hb HE hl
    go_enter Tryd.func21, Tryd.ntmps21
    go_upto_region 6 with (first
      | (have hq := T2; go_at_call 24; refine (wnumber_any T2 ps.length (by have := HL.out; simp only [List.length_append, List.length_singleton]; omega) hFl).mono ?_; rintro e w3 ⟨rfl, T3⟩)
      | (have hq := T1; go_at_call 24; refine (wnumber_any T1 pl.toNat (by have := HL.out; simp only [List.length_append, List.length_singleton]; omega) hplt).mono ?_; rintro e w2 ⟨rfl, T2⟩; obtain ⟨-, e3, -⟩ := HCell.out _ _ T2)
      | (go_at_call 11; refine (wput_any (T0.then0 ((Fr.refl _ _).alloc _)) _ [6] (sl_one _ _ _) (by have := HL.out; rw [List.length_singleton]; omega)).mono ?_; rintro e w1 ⟨rfl, T1⟩; obtain ⟨e2, -, -⟩ := HCell.out _ _ T1))
    obtain ⟨b3, hb3⟩ : ∃ b3, b3 = ((bs ++ [6]) ++ shortN pl.toNat) ++ shortN ps.length := ⟨_, rfl⟩
    have HB3 := Lib.hid hb3
    rw [← hb3] at T3
    have HL3 := Lib.hid (show b3.length = bs.length + 1 + (shortN pl.toNat).length + (shortN ps.length).length by rw [hb3]; simp only [List.length_append, List.length_singleton])
    clear hb3 T1 T2 e2 e3
    obtain ⟨q2, q3, q4⟩ := HCell.out _ _ T3
    have HXE := Lib.hid (show bs ++ packsW pl ps cs = (b3 ++ sumsW cs) ++ [0] by rw [hxe, HB3.out])
    clear hxe
    have T7 := T3
    have HL7 := Lib.hid (show b3.length ≤ b3.length + 0 by omega)
    go_wp2_with fail
    refine wp_loop_rounds 1 ?_
    rw [rounds_succ]
    go_wp2_with (first
      | (have hq := T8; go_at_call 11; refine (wput_any (T8.then0 ((Fr.refl _ _).alloc _)) _ [0] (sl_one _ _ _) (by have := HL.out; have := HL3.out; have := HL7.out; rw [List.length_append, List.length_singleton]; omega)).mono ?_; rintro e w9 ⟨rfl, T9⟩)
      | (go_at_call 47; refine (wsums_any T7 _ cs (HCR.out _ _ T7) HN.out (by have := HL.out; have := HL3.out; have := HL7.out; omega)).mono ?_; rintro e w8 ⟨rfl, T8⟩))
    go_ret
    exact ⟨by rw [HV.out]; rfl, by rw [HXE.out]; exact T9⟩
  · have hl : (packsW pl ps cs).length = 1 + (shortN pl.toNat).length + (shortN ps.length).length + 1 + (numsB ps).length + (sumsW cs).length + 1 := by rw [HE.out, if_neg h1]; simp; omega
    have HL := Lib.hid (show bs.length + (1 + (shortN pl.toNat).length + (shortN ps.length).length + 1 + (numsB ps).length + (sumsW cs).length + 1) ≤ 50000000 by omega)
    have hxe : bs ++ packsW pl ps cs = ((((((bs ++ [6]) ++ shortN pl.toNat) ++ shortN ps.length) ++ [9]) ++ numsB ps) ++ sumsW cs) ++ [0] := by rw [HE.out, if_neg h1]; simp
    have h1l := List.length_pos_iff.2 h1
    have t0 : ((ps.length : Int) == 0) = false := by rw [beq_eq_false_iff_ne]; omega
    have t2 : (0 : Int) < (ps.length : Int) := by omega
    clear h1 hA hb HE hl h1l
    go_enter Tryd.func21, Tryd.ntmps21
    go_upto_region 6 with (first
      | (have hq := T2; go_at_call 24; refine (wnumber_any T2 ps.length (by have := HL.out; simp only [List.length_append, List.length_singleton]; omega) hFl).mono ?_; rintro e w3 ⟨rfl, T3⟩)
      | (have hq := T1; go_at_call 24; refine (wnumber_any T1 pl.toNat (by have := HL.out; simp only [List.length_append, List.length_singleton]; omega) hplt).mono ?_; rintro e w2 ⟨rfl, T2⟩; obtain ⟨-, e3, -⟩ := HCell.out _ _ T2)
      | (go_at_call 11; refine (wput_any (T0.then0 ((Fr.refl _ _).alloc _)) _ [6] (sl_one _ _ _) (by have := HL.out; rw [List.length_singleton]; omega)).mono ?_; rintro e w1 ⟨rfl, T1⟩; obtain ⟨e2, -, -⟩ := HCell.out _ _ T1))
    obtain ⟨b3, hb3⟩ : ∃ b3, b3 = ((bs ++ [6]) ++ shortN pl.toNat) ++ shortN ps.length := ⟨_, rfl⟩
    have HB3 := Lib.hid hb3
    rw [← hb3] at T3
    have HL3 := Lib.hid (show b3.length = bs.length + 1 + (shortN pl.toNat).length + (shortN ps.length).length by rw [hb3]; simp only [List.length_append, List.length_singleton])
    clear hb3 T1 T2 e2 e3
    obtain ⟨q2, q3, q4⟩ := HCell.out _ _ T3
    have HXE := Lib.hid (show bs ++ packsW pl ps cs = (((b3 ++ [9]) ++ numsB ps) ++ sumsW cs) ++ [0] by rw [hxe, HB3.out])
    clear hxe
    go_wp2_with (go_at_call 11; refine (wput_any (T3.then0 ((Fr.refl _ _).alloc _)) _ [9] (sl_one _ _ _) (by have := HL.out; have := HL3.out; rw [List.length_singleton]; omega)).mono ?_; rintro e w4 ⟨rfl, T4⟩; obtain ⟨f2, f3, f4⟩ := HCell.out _ _ T4)
    go_loopw [55] (fun i wr => ∃ k : Nat, k ≤ ps.length ∧ i = .int .i64 k ∧ WrTo w lo p v ((b3 ++ [9]) ++ numsB (ps.take k)) d wr) (fun i _ => ps.length - (intOf i).toNat)
    case atStart => exact ⟨0, Nat.zero_le _, rfl, by simpa [numsB] using T4⟩
    case round =>
      obtain ⟨k, hk, rfl, T⟩ := hrel
      by_cases hlt : k < ps.length
      · obtain ⟨x, hx⟩ := some_get ps k hlt
        obtain ⟨b1, o1, hao, hb1, e0⟩ := (HPR.out _ _ T).word hx hlt
        subst hao
        have HX := Lib.hid (numsB_take hx)
        have hle := numsB_le (l := ps) k
        have hxl := x.toNat_lt
        clear hx
        go_wp2_with (go_at_call 24; refine (wnumber_any T x.toNat (by have := HL.out; have := HL3.out; simp only [List.length_append, List.length_singleton]; omega) hxl).mono ?_; rintro e w5 ⟨rfl, T5⟩)
        go_roundw
        case rel => exact ⟨k + 1, by omega, by go_num, by rw [HX.out, ← List.append_assoc]; exact T5⟩
        case measure => simp [intOf]; omega
      · obtain rfl : k = ps.length := by omega
        rw [List.take_of_length_le (Nat.le_refl _)] at T
        have T7 := T
        have HL7 := Lib.hid (show ((b3 ++ [9]) ++ numsB ps).length ≤ b3.length + (1 + (numsB ps).length) by simp only [List.length_append, List.length_singleton]; omega)
        obtain ⟨g2, g3, g4⟩ := HCell.out _ _ T7
        go_wp2_with (first
          | (have hq := T8; go_at_call 11; refine (wput_any (T8.then0 ((Fr.refl _ _).alloc _)) _ [0] (sl_one _ _ _) (by have := HL.out; have := HL3.out; have := HL7.out; rw [List.length_append, List.length_singleton]; omega)).mono ?_; rintro e w9 ⟨rfl, T9⟩)
          | (go_at_call 47; refine (wsums_any T7 _ cs (HCR.out _ _ T7) HN.out (by have := HL.out; have := HL3.out; have := HL7.out; omega)).mono ?_; rintro e w8 ⟨rfl, T8⟩))
        go_ret
        exact ⟨by rw [HV.out]; rfl, by rw [HXE.out]; exact T9⟩
end Go.Proofs.YtkodindajfdagaaDoor
