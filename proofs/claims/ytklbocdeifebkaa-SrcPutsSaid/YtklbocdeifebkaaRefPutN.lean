/- Contract of the reference's PutNumber. No condition but that lengths fit. -/
import Derived.Test.YtklbocdeifebkaaRefPut
namespace Go.Proofs.Ytklbocdeifebkaa
open Go.RowKit

set_option maxRecDepth 100000 in
set_option maxHeartbeats 1000000 in
theorem refputnumber_any (w : World) (v1 : Value) (b : List UInt8) (v : Nat) (h : Sl w v1 (bv b)) (hb : b.length ≤ 140737488354000) (hv : v < 18446744073709551616) :
    Calls Try.prog 28 #[v1, .int .u64 v] w (NewBytes (putNumber b v) w) := by
  have hx8 := extra_le v
  obtain ⟨X, hX⟩ : ∃ X, X = extra v := ⟨_, rfl⟩
  rw [← hX] at hx8
  have HXE := Lib.hid hX
  clear hX
  go_enter Try.func28, Try.ntmps28
  go_wp2_with (at_builtin; refine wpList_append_new sty_u8 rfl _ _ rfl rfl _ (bv b) rfl h (bv_one _) ?_ ?_ ?_)
  · rw [bv_length]; omega
  · rw [bv_length]; omega
  intro v2 w2 hown2 hf2
  rw [bv_length] at hown2
  have hz2 := hf2.size
  clear h
  go_wp2_with fail
  go_loopw [5, 6] (fun out i wr => ∃ k : Nat, k ≤ X ∧ i = .int .i64 k ∧ out = v2 ∧ w2 = wr) (fun _ i _ => 8 - (intOf i).toNat)
  case atStart => exact ⟨0, Nat.zero_le _, rfl, rfl, rfl⟩
  case round =>
    obtain ⟨k, hk, rfl, rfl, rfl⟩ := hrel
    by_cases hk8 : k < 8
    · have hk8' : (k : Int) < 8 := by omega
      obtain ⟨T, hT⟩ : ∃ T, T = 256 / 2 ^ k := ⟨_, rfl⟩
      obtain ⟨T1, T2, -⟩ := T_bounds k (by omega)
      rw [← hT] at T1 T2
      have hTI : (256 : Int) / 2 ^ k = (T : Int) := by rw [hT]; simp
      obtain ⟨P, hP⟩ : ∃ P, P = 256 ^ k := ⟨_, rfl⟩
      obtain ⟨q, hq⟩ : ∃ q, q = v / P := ⟨_, rfl⟩
      have hqI : (v : Int) / (P : Int) = (q : Int) := by rw [hq]; simp
      have hqv : q ≤ v := by rw [hq]; exact Nat.div_le_self _ _
      obtain ⟨s, hs⟩ : ∃ s, s = 128 / 2 ^ k := ⟨_, rfl⟩
      have hs1 := sh_bounds k (by omega)
      rw [← hs] at hs1
      have hsI : (128 : Int) / 2 ^ k = (s : Int) := by rw [hs]; simp
      have hP1 := pow_le7 k (by omega)
      rw [← hP] at hP1
      have hPi : (1 : Int) ≤ (P : Int) := by omega
      have hpow := fun w => Lib.hid (power_any w k P (by omega) hP)
      by_cases h7 : k < 7
      · have h7' : (k : Int) < 7 := by omega
        have h7b : ((k : Int) == 7) = false := by simp; omega
        have hdv := extra_div v k h7
        rw [← hP, ← hq, ← hs, ← HXE.out] at hdv
        by_cases hkx : k = X
        · have hlt : (q : Int) < (s : Int) := by have := hdv.1 (by omega); omega
          have E := Lib.hid (fb_low v k T q (by rw [hkx, HXE.out]) h7 hT (by rw [hq, hP]))
          have hqs : q < 128 := by omega
          have HKX := Lib.hid hkx
          clear hT hP hq hs hdv hkx h7 hk8
          go_wp2_with (first | (go_at_call 50; refine (hpow _).out.mono ?_; rintro e w3 ⟨rfl, rfl⟩) | (at_builtin; refine wpList_append_one sty_u8 rfl _ _ rfl hf2 _ _ _ (by rfl) hown2 _ (by rfl) (by rfl) ?_ ?_ ?_))
          · omega
          · omega
          intro v3 w3 hown3 hf3
          rw [E.out] at hown3
          clear hown2 hf2 hz2 hpow E
          go_wp2_with fail
          go_loopw [5, 8] (fun out i wr => ∃ j : Nat, j ≤ k ∧ i = .int .i64 j ∧ wr.ownsRow w.heap.size 5 1 out (b.length + 1 + j) (bv (b ++ firstByte v :: leBytes j v)) ∧ Fr [] w wr) (fun _ i _ => k - (intOf i).toNat)
          case atStart => exact ⟨0, Nat.zero_le _, rfl, by simpa [bv, leBytes] using hown3, hf3⟩
          case round =>
            obtain ⟨j, hj, rfl, hown, hf⟩ := hrel
            clear hown3 hf3
            by_cases hlt : j < k
            · have hlt' : (j : Int) < (k : Int) := by omega
              obtain ⟨R, hR⟩ : ∃ R, R = 256 ^ j := ⟨_, rfl⟩
              have hR1 := pow_le7 j (by omega)
              rw [← hR] at hR1
              have hsn := leBytes_snoc j v
              rw [← hR] at hsn
              have hRi : (1 : Int) ≤ (R : Int) := by omega
              obtain ⟨hq0, hq1⟩ := quo_bounds v R hv
              have HS := Lib.hid hsn
              have HPW := fun w => Lib.hid (power_any w j R (by omega) hR)
              clear hR hsn
              go_wp2_with (first | (go_at_call 50; refine (HPW _).out.mono ?_; rintro e w3 ⟨rfl, rfl⟩) | (at_builtin; refine wpList_append_one sty_u8 rfl _ _ rfl hf _ _ _ (by rfl) hown _ (by rfl) (by rfl) ?_ ?_ ?_))
              · omega
              · omega
              · intro v4 w4 hown4 hf4
                clear hown hf HPW
                go_wp2_with fail
                go_roundw
                case rel =>
                  refine ⟨j + 1, by omega, by go_num, ?_, hf4⟩
                  rw [HS.out, ← List.cons_append, ← List.append_assoc, bv_snoc, Int.natCast_ediv]
                  exact hown4
                case measure => simp [intOf]; omega
            · have hlt' : (k : Int) ≤ (j : Int) := by omega
              have hjk : j = k := by omega
              have HJ := Lib.hid hjk
              clear hjk
              go_wp2_with fail
              go_ret
              refine ⟨_, rfl, ?_, hf⟩
              rw [HJ.out] at hown
              have e : (putNumber b v).length = b.length + 1 + k := by rw [putNumber_length, HKX.out, HXE.out]
              have e2 : putNumber b v = b ++ firstByte v :: leBytes k v := by unfold putNumber; rw [HKX.out, HXE.out]
              rw [e, e2]
              exact hown
        · have hlt : (s : Int) ≤ (q : Int) := by have := mt hdv.2; omega
          clear hT hP hq hs hdv h7 hk8
          go_wp2_with (go_at_call 50; refine (hpow _).out.mono ?_; rintro e w3 ⟨rfl, rfl⟩)
          go_roundw
          case rel => exact ⟨k + 1, by omega, by go_num, rfl, by trivial⟩
          case measure => simp [intOf]; omega
      · have h7' : (7 : Int) ≤ (k : Int) := by omega
        have h7b : ((k : Int) == 7) = true := by simp; omega
        by_cases hkx : k = X
        · have hbig := (extra_iff v 7 (by omega)).1 (by rw [← HXE.out]; omega)
          have hlt : (v : Int) < (72057594037927936 : Int) := by simp only [Nat.reduceMul, Nat.reduceAdd, Nat.reducePow] at hbig; omega
          have E := Lib.hid (show (254 : Int) = ((firstByte v).toNat : Int) from by have := fb_high v 7 2 (by rw [← HXE.out]; omega) (by omega) (by decide); simpa using this)
          have HKX := Lib.hid hkx
          clear hT hP hq hs h7 hbig hkx hqI hqv hP1 hPi hpow hs1 hsI
          obtain rfl : k = 7 := by omega
          clear hk8 hk8' h7' h7b
          go_wp2_with (at_builtin; refine wpList_append_one sty_u8 rfl _ _ rfl hf2 _ _ _ (by rfl) hown2 _ (by rfl) (by rfl) ?_ ?_ ?_)
          · omega
          · omega
          intro v3 w3 hown3 hf3
          rw [E.out] at hown3
          clear hown2 hf2 hz2 E hlt
          go_wp2_with fail
          go_loopw [5, 8] (fun out i wr => ∃ j : Nat, j ≤ 7 ∧ i = .int .i64 j ∧ wr.ownsRow w.heap.size 5 1 out (b.length + 1 + j) (bv (b ++ firstByte v :: leBytes j v)) ∧ Fr [] w wr) (fun _ i _ => 7 - (intOf i).toNat)
          case atStart => exact ⟨0, Nat.zero_le _, rfl, by simpa [bv, leBytes] using hown3, hf3⟩
          case round =>
            obtain ⟨j, hj, rfl, hown, hf⟩ := hrel
            clear hown3 hf3
            by_cases hlt : j < 7
            · have hlt' : (j : Int) < 7 := by omega
              obtain ⟨R, hR⟩ : ∃ R, R = 256 ^ j := ⟨_, rfl⟩
              have hR1 := pow_le7 j (by omega)
              rw [← hR] at hR1
              have hsn := leBytes_snoc j v
              rw [← hR] at hsn
              have hRi : (1 : Int) ≤ (R : Int) := by omega
              obtain ⟨hq0, hq1⟩ := quo_bounds v R hv
              have HS := Lib.hid hsn
              have HPW := fun w => Lib.hid (power_any w j R (by omega) hR)
              clear hR hsn
              go_wp2_with (first | (go_at_call 50; refine (HPW _).out.mono ?_; rintro e w3 ⟨rfl, rfl⟩) | (at_builtin; refine wpList_append_one sty_u8 rfl _ _ rfl hf _ _ _ (by rfl) hown _ (by rfl) (by rfl) ?_ ?_ ?_))
              · omega
              · omega
              · intro v4 w4 hown4 hf4
                clear hown hf HPW
                go_wp2_with fail
                go_roundw
                case rel =>
                  refine ⟨j + 1, by omega, by go_num, ?_, hf4⟩
                  rw [HS.out, ← List.cons_append, ← List.append_assoc, bv_snoc, Int.natCast_ediv]
                  exact hown4
                case measure => simp [intOf]; omega
            · have hlt' : 7 ≤ (j : Int) := by omega
              have hjk : j = 7 := by omega
              have HJ := Lib.hid hjk
              clear hjk
              go_wp2_with fail
              go_ret
              refine ⟨_, rfl, ?_, hf⟩
              rw [HJ.out] at hown
              have e : (putNumber b v).length = b.length + 1 + 7 := by rw [putNumber_length, HKX.out, HXE.out]
              have e2 : putNumber b v = b ++ firstByte v :: leBytes 7 v := by unfold putNumber; rw [HKX.out, HXE.out]
              rw [e, e2]
              exact hown
        · have hbig := mt (extra_iff v 7 (by omega)).2 (by rw [← HXE.out]; omega)
          have hlt : (72057594037927936 : Int) ≤ (v : Int) := by simp only [Nat.reduceMul, Nat.reduceAdd, Nat.reducePow] at hbig; omega
          have hk1 : k + 1 ≤ X := by omega
          have hltB : decide ((v : Int) < 72057594037927936) = false := by simp; omega
          clear hT hP hq hs h7 hbig hkx hqI hqv hP1 hPi hpow hs1 hsI hlt
          obtain rfl : k = 7 := by omega
          clear hk8 hk8' h7' h7b
          go_wp2_with fail
          go_roundw
          case rel => exact ⟨8, by omega, rfl, rfl, by trivial⟩
          case measure => simp [intOf]
    · have hk8' : (8 : Int) ≤ (k : Int) := by omega
      have hX8 : X = 8 := by omega
      have HX8 := Lib.hid hX8
      clear hX8
      go_wp2_with (at_builtin; refine wpList_append_one sty_u8 rfl _ _ rfl hf2 _ _ _ (by rfl) hown2 _ (by rfl) (by rfl) ?_ ?_ ?_)
      · omega
      · omega
      intro v3 w3 hown3 hf3
      have e1 : bv b ++ [Value.int .u8 255] = bv (b ++ [255]) := by rw [bv_append]; rfl
      rw [e1] at hown3
      clear hown2 hf2 hz2 e1
      go_wp2_with fail
      refine (refput_any w3 _ _ 8 v (Sl.of_own hown3) (by simp; omega) hv).mono ?_
      rintro e w4 ⟨r, rfl, hown4, hf4⟩
      have hz := hf3.size
      clear hown3
      go_wp2_with fail
      go_ret
      refine ⟨_, rfl, ?_, hf3.trans0 hf4⟩
      have e2 : put (b ++ [255]) 8 v = putNumber b v := by
        unfold put putNumber firstByte
        rw [← HXE.out, HX8.out]
        simp [Cur.sized]
      rw [e2] at hown4
      exact own_mono hown4 hz
end Go.Proofs.Ytklbocdeifebkaa
