/- The law SrcBack: the walk. No condition. -/
import Derived.Test.YtklbocdeifebkaaReadC
import Derived.Test.YtklbocdeifebkaaRefPutB
import Derived.Test.YtklbocdeifebkaaBackSpec
import Derived.Deep.RegionHeld3
namespace Go.Proofs.Ytklbocdeifebkaa
open Go.RowKit

set_option maxRecDepth 100000 in
set_option maxHeartbeats 2000000 in
theorem walk_SrcBack (w : World) (v1 : Value) (vs : List UInt64) (v2 : Value) (row : List Bool) (h : Sl w v1 (u64v vs)) (h2 : Sl w v2 (tv row)) :
    Calls Try.prog 10 #[v1, v2] w fun e w' => e = .returned (.bool true) ∧ Fr [] w w' := by
  obtain ⟨ao, cap, rfl, hc1, hc2, hel⟩ := h.out
  obtain ⟨ao2, cap2, rfl, hd1, hd2, -⟩ := h2.out
  rw [u64v_length] at hc1 hel
  rw [u64v_length, tv_length] at *
  have HEL := Lib.hid hel
  clear hel h
  by_cases hbig : 1000 < vs.length
  · have hbig' : (1000 : Int) < (vs.length : Int) := by omega
    go_enter Try.func10, Try.ntmps10
    go_wp2_with fail
    refine (awake_any w).mono ?_
    rintro e w1 ⟨rfl, hf1⟩
    go_wp2_with fail
    go_ret
    exact ⟨rfl, hf1⟩
  by_cases hbig2 : 16384 < row.length
  · have hbig' : (vs.length : Int) ≤ 1000 := by omega
    have hbig2' : (16384 : Int) < (row.length : Int) := by omega
    go_enter Try.func10, Try.ntmps10
    go_wp2_with fail
    refine (awake_any w).mono ?_
    rintro e w1 ⟨rfl, hf1⟩
    go_wp2_with fail
    go_ret
    exact ⟨rfl, hf1⟩
  have hbig' : (vs.length : Int) ≤ 1000 := by omega
  have hbig2' : (row.length : Int) ≤ 16384 := by omega
  go_enter Try.func10, Try.ntmps10
  go_wp2_with fail
  refine (awake_any w).mono ?_
  rintro e w1 ⟨rfl, F1⟩
  go_wp2_with fail
  go_loopw [5, 6] (fun b i wr => ∃ k : Nat, k ≤ vs.length ∧ i = .int .i64 k ∧ Sl wr b (bv (enc (vs.take k))) ∧ Fr [] w wr) (fun _ i _ => vs.length - (intOf i).toNat)
  case atStart => exact ⟨0, Nat.zero_le _, rfl, Sl.nil _, F1⟩
  case round =>
    obtain ⟨k, hk, rfl, hs, hF⟩ := hrel
    clear F1
    have hel1 := enc_length (vs.take k)
    have htl : (vs.take k).length ≤ 1000 := by simp; omega
    by_cases hlt : k < vs.length
    · have hlt' : (k : Int) < (vs.length : Int) := by omega
      obtain ⟨b1, of1, rfl, hbl, cc⟩ := HEL.out k hlt
      obtain ⟨x, hx⟩ := some_get vs k hlt
      have d0 : w.cell? ⟨b1, of1 + k, none⟩ = some (.int .u64 x.toNat) := by rw [cc _ hlt, u64v_get _ _ _ hx]
      have D0 := Lib.hid d0
      have d1 : wr.cell? ⟨b1, of1 + k, none⟩ = some (.int .u64 x.toNat) := by rw [hF.cell (p := ⟨b1, of1 + k, none⟩) hbl (by simp), d0]
      have hx64 := x.toNat_lt
      have HX := Lib.hid hx
      clear cc hx d0
      go_wp2_with fail
      refine (putnumber_any wr _ _ x.toNat hs (by omega) (by omega)).mono ?_
      rintro e w2 ⟨r2, rfl, ho2, hf2⟩
      have hF2 := hF.trans0 hf2
      have hs2 := Sl.of_own ho2
      have d2 : w2.cell? ⟨b1, of1 + k, none⟩ = some (.int .u64 x.toNat) := by rw [hF2.cell (p := ⟨b1, of1 + k, none⟩) hbl (by simp)]; exact D0.out
      have hpl := putNumber_length (enc (vs.take k)) x.toNat
      have hx8 := extra_le x.toNat
      have hpb : (putNumber (enc (vs.take k)) x.toNat).length ≤ 20000 := by omega
      clear ho2 hf2 hF hs d1 hpl
      go_wp2_with fail
      refine (put_any w2 _ _ 4 x.toNat hs2 (by omega) (by omega)).mono ?_
      rintro e w3 ⟨r3, rfl, ho3, hf3⟩
      have hF3 := hF2.trans0 hf3
      have hs3 := Sl.of_own ho3
      clear ho3 hf3 hF2 hs2 d2
      go_wp2_with fail
      go_roundw
      case rel =>
        refine ⟨k + 1, by omega, by go_num, ?_, hF3⟩
        have e : enc (vs.take (k + 1)) = put (putNumber (enc (vs.take k)) x.toNat) 4 x.toNat := by
          rw [take_succ' vs k x HX.out, enc_snoc, putNumber_append]
          unfold put enc1
          rw [if_pos (by decide), List.append_assoc]
          rfl
        rw [e]
        exact hs3
      case measure => simp [intOf]; omega
    · have hlt' : (vs.length : Int) ≤ (k : Int) := by omega
      have htk : vs.take k = vs := List.take_of_length_le (by omega)
      rw [htk] at hs hel1
      obtain ⟨E, hE⟩ : ∃ E, E = enc vs := ⟨_, rfl⟩
      rw [← hE] at hs hel1
      have HE := Lib.hid hE
      clear htk hE
      go_wp2_with fail
      refine (putbits_any wr _ _ _ row hs (h2.fr0 hF) (by omega) (by omega)).mono ?_
      rintro e w2 ⟨r2, rfl, ho2, hf2⟩
      have hF2 := hF.trans0 hf2
      have hs2 := Sl.of_own ho2
      have hpl := packBits_length row
      have hl2 : (E ++ packBits row).length ≤ 40000 := by simp; omega
      clear ho2 hf2 hF hs hpl
      go_wp2_with fail
      refine (puttold_any w2 _ _ _ row hs2 (h2.fr0 hF2) (by omega) (by omega)).mono ?_
      rintro e w3 ⟨r3, rfl, ho3, hf3⟩
      have hF3 := hF2.trans0 hf3
      have hs3 := Sl.of_own ho3
      rw [putTold_append] at hs3
      have hptl := putTold_length row
      obtain ⟨T, hT⟩ : ∃ T, T = E ++ packBits row ++ putTold [] row := ⟨_, rfl⟩
      have hTl : T.length ≤ 70000 := by rw [hT]; rw [List.length_append]; omega
      rw [← hT] at hs3
      have HT := Lib.hid hT
      clear ho3 hf3 hF2 hs2 hT hptl hl2
      go_wp2_with fail
      refine (new_any w3 _ T hs3 (by omega)).mono ?_
      rintro e w4 ⟨p, q, rfl, hp, hq, hc4, hf4⟩
      have hF4 := hF3.trans0 hf4
      have hz3 := hF3.size
      have hs4 := hs3.fr0 hf4
      obtain ⟨ao3, cap3, rfl, -, -, -⟩ := hs4.out
      rw [bv_length] at *
      clear hf4 hF3 hs3 hs4
      go_wp2_with fail
      go_loopw [8] (fun i wr => ∃ k : Nat, k ≤ vs.length ∧ i = .int .i64 k ∧ CurAt wr p q ⟨T, (enc (vs.take k)).length, 0⟩ ∧ Fr [] w wr) (fun i _ => vs.length - (intOf i).toNat)
      case atStart => exact ⟨0, Nat.zero_le _, rfl, hc4, hF4⟩
      case round =>
        obtain ⟨k2, hk2, rfl, hc, hF⟩ := hrel
        clear hc4 hF4
        by_cases hlt2 : k2 < vs.length
        · have hlt2' : (k2 : Int) < (vs.length : Int) := by omega
          obtain ⟨b1, of1, rfl, hbl, cc⟩ := HEL.out k2 hlt2
          obtain ⟨x, hx⟩ := some_get vs k2 hlt2
          have d0 : w.cell? ⟨b1, of1 + k2, none⟩ = some (.int .u64 x.toNat) := by rw [cc _ hlt2, u64v_get _ _ _ hx]
          have hx64 := x.toNat_lt
          obtain ⟨post, hpost⟩ := enc_split vs k2 x hx
          obtain ⟨P, hP⟩ : ∃ P, P = enc (vs.take k2) := ⟨_, rfl⟩
          have hTs : T = P ++ putNumber [] x.toNat ++ (leBytes 4 x.toNat ++ post ++ packBits row ++ putTold [] row) := by
            rw [HT.out, HE.out, hpost, ← hP]; unfold enc1; simp only [List.append_assoc]
          have hTs2 : T = (P ++ putNumber [] x.toNat) ++ leBytes 4 x.toNat ++ (post ++ packBits row ++ putTold [] row) := by
            rw [HT.out, HE.out, hpost, ← hP]; unfold enc1; simp only [List.append_assoc]
          have hnum1 : Cur.number ⟨T, P.length, 0⟩ = (x.toNat, ⟨T, P.length + (putNumber [] x.toNat).length, 0⟩) := by
            have := number_back P (leBytes 4 x.toNat ++ post ++ packBits row ++ putTold [] row) x.toNat (by omega)
            rw [← hTs] at this; exact this
          have hnum2 : Cur.num ⟨T, P.length + (putNumber [] x.toNat).length, 0⟩ 4 = (x.toNat % 4294967296, ⟨T, P.length + (putNumber [] x.toNat).length + 4, 0⟩) := by
            have := num_back (P ++ putNumber [] x.toNat) (post ++ packBits row ++ putTold [] row) x.toNat
            rw [← hTs2, List.length_append] at this; exact this
          have hnx : (enc (vs.take (k2 + 1))).length = P.length + (putNumber [] x.toNat).length + 4 := by
            rw [take_succ' vs k2 x hx, enc_snoc, ← hP]; unfold enc1; simp only [List.length_append, leBytes_length]; omega
          obtain ⟨N2, hN2⟩ : ∃ N2, N2 = x.toNat % 4294967296 := ⟨_, rfl⟩
          rw [← hN2] at hnum2
          have t2 : ((N2 : Int) != (x.toNat : Int) % 4294967296) = false := by rw [hN2]; simp
          have t3 : ((N2 : Int) != (x.toNat : Int).tmod 4294967296) = false := by rw [Int.tmod_eq_emod_of_nonneg (by omega)]; exact t2
          clear hN2
          rw [← hP] at hc
          have D0 := Lib.hid d0
          have HN1 := Lib.hid hnum1
          have HN2 := Lib.hid hnum2
          have HNX := Lib.hid hnx
          have hneq1 : ((x.toNat : Int) != (x.toNat : Int)) = false := by simp
          have hS : wr.cell? ⟨b1, of1 + k2, none⟩ = some (.int .u64 x.toNat) := by rw [hF.cell (p := ⟨b1, of1 + k2, none⟩) hbl (by simp), d0]
          obtain ⟨L1, hL1⟩ : ∃ L1, L1 = P.length + (putNumber [] x.toNat).length := ⟨_, rfl⟩
          rw [← hL1] at HN1 HN2 HNX
          clear cc hx hpost hP hTs hTs2 hnum1 hnum2 hnx d0 hL1
          go_wp2_with fail
          go_region_held3 (fun w' => w'.cell? ⟨b1, of1 + k2, none⟩ = some (.int .u64 x.toNat)) (go_keep)
            (first
              | (go_at_call 17; refine (number_any _ p q ⟨T, P.length, 0⟩ (hc.same Same.drew) (by dsimp only; omega)).mono ?_; rintro e wx ⟨rfl, hcx, hfx⟩; rw [HN1.out] at hcx ⊢; have hSx : wx.cell? ⟨b1, of1 + k2, none⟩ = some (.int .u64 x.toNat) := by (rw [((hF.trans0 Same.drew.fr).trans hfx (by simp; omega)).cell (p := ⟨b1, of1 + k2, none⟩) hbl (by simp)]; exact D0.out))
              | (go_at_call 34; refine (num_any _ p q ⟨T, L1, 0⟩ 4 hcx (by dsimp only; omega)).mono ?_; rintro e wy ⟨rfl, hcy, hfy⟩; rw [HN2.out] at hcy ⊢; have hSy : wy.cell? ⟨b1, of1 + k2, none⟩ = some (.int .u64 x.toNat) := by (rw [(((hF.trans0 Same.drew.fr).trans hfx (by simp; omega)).trans hfy (by simp; omega)).cell (p := ⟨b1, of1 + k2, none⟩) hbl (by simp)]; exact D0.out)))
          have hF' := ((hF.trans0 Same.drew.fr).trans hfx (by simp; omega)).trans hfy (by simp; omega)
          clear hSx hSy hS hcx hfx hfy hc hF
          go_wp2_with fail
          go_roundw
          case rel => exact ⟨k2 + 1, by omega, by go_num, by rw [HNX.out]; exact hcy, hF'⟩
          case measure => simp [intOf]; omega
        · have hlt2' : (vs.length : Int) ≤ (k2 : Int) := by omega
          have htk2 : vs.take k2 = vs := List.take_of_length_le (by omega)
          rw [htk2, ← HE.out] at hc
          have hB1 : Cur.bits ⟨T, E.length, 0⟩ row.length = (row, ⟨T, E.length + (packBits row).length, 0⟩) := by
            have := bits_back E (putTold [] row) row
            rw [← HT.out] at this; exact this
          have hB2 : Cur.told ⟨T, E.length + (packBits row).length, 0⟩ row.length = (row, ⟨T, T.length, 0⟩) := by
            have := told_back (E ++ packBits row) row
            rw [← HT.out, List.length_append] at this
            rw [this, HT.out]; simp [Nat.add_assoc]
          have HB1 := Lib.hid hB1
          have HB2 := Lib.hid hB2
          clear htk2 hB1 hB2
          have hrow0 := h2.fr0 hF
          go_wp2_with fail
          refine (bits_any wr p q _ row.length (by omega) hc (by dsimp only; omega)).mono ?_
          rintro e w5 ⟨r5, rfl, ho5, hc5, hf5⟩
          rw [HB1.out] at ho5 hc5
          have hF5 : Fr [] w w5 := hF.trans hf5 (by simp; omega)
          have hs5 := Sl.of_own ho5
          clear ho5 hf5 hF hc hrow0
          go_wp2_with fail
          refine (flags_any _ _ _ _ row hs5 (h2.fr0 hF5)).mono ?_
          rintro e w6 ⟨rfl, s6⟩
          rw [decide_eq_true rfl]
          have hc6 := hc5.same s6
          have hF6 : Fr [] w w6 := hF5.trans0 s6.fr
          clear s6 hc5 hF5 hs5
          go_wp2_with fail
          refine (told_any w6 p q _ row.length (by omega) hc6 (by dsimp only; omega)).mono ?_
          rintro e w7 ⟨r7, rfl, ho7, hc7, hf7⟩
          rw [HB2.out] at ho7 hc7
          have hF7 : Fr [] w w7 := hF6.trans hf7 (by simp; omega)
          have hs7 := Sl.of_own ho7
          clear ho7 hf7 hF6 hc6
          go_wp2_with fail
          refine (flags_any _ _ _ _ row hs7 (h2.fr0 hF7)).mono ?_
          rintro e w8 ⟨rfl, s8⟩
          rw [decide_eq_true rfl]
          have hc8 := hc7.same s8
          have hF8 : Fr [] w w8 := hF7.trans0 s8.fr
          clear s8 hc7 hF7 hs7
          go_wp2_with fail
          refine (left_any w8 p q _ hc8).mono ?_
          rintro e w9 ⟨rfl, s9⟩
          have el : Cur.left ⟨T, T.length, 0⟩ = 0 := by simp [Cur.left]
          rw [el]
          have hc9 := hc8.same s9
          have hF9 : Fr [] w w9 := hF8.trans0 s9.fr
          clear s9 hc8 hF8 el
          go_wp2_with fail
          refine (code_any w9 p q _ hc9).mono ?_
          rintro e w10 ⟨rfl, rfl⟩
          go_wp2_with fail
          refine (at_any w9 p q _ hc9).mono ?_
          rintro e w11 ⟨rfl, rfl⟩
          go_wp2_with fail
          go_ret
          exact ⟨by simp, hF9⟩
end Go.Proofs.Ytklbocdeifebkaa
