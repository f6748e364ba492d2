/- Contracts of the references' Power, Put, PutNumber. No condition but that lengths fit. -/
import Derived.Test.YtkodindajfdagaaDoorGAG
import Derived.Test.YtkodindajfdagaaDoorGAD
namespace Go.Proofs.YtkodindajfdagaaDoor
open Go.RowKit

theorem power_any (w : World) (k : Nat) (P : Nat) (hk : k < 8) (hP : P = 256 ^ k) :
    Calls Tryd.prog 61 #[.int .i64 k] w fun e w' => e = .returned (.int .u64 P) ∧ w = w' := by
  have HP := Lib.hid hP
  clear hP
  go_enter Tryd.func61, Tryd.ntmps61
  go_wp2
  go_loop [3, 4] (fun v i => ∃ j Q : Nat, j ≤ k ∧ i = .int .i64 j ∧ v = .int .u64 Q ∧ Hid (Q = 256 ^ j)) (fun _ i => k - (intOf i).toNat)
  case atStart => exact ⟨0, 1, Nat.zero_le _, rfl, rfl, rfl⟩
  case round =>
    obtain ⟨j, Q, hj, rfl, rfl, HQ⟩ := hrel
    by_cases hlt : j < k
    · have hlt' : (j : Int) < (k : Int) := by omega
      have hb : Q ≤ 281474976710656 := by have := pow256_le (k := j) (m := 6) (by omega); rw [HQ.out]; simpa using this
      go_wp2
      go_round
      case rel => exact ⟨j + 1, Q * 256, by omega, by go_num, by simp, by have := HQ.out; show Q * 256 = 256 ^ (j + 1); rw [this, Nat.pow_succ]⟩
      case measure => simp [intOf]; omega
    · have hlt' : (k : Int) ≤ (j : Int) := by omega
      have hjk : j = k := by omega
      have hQP : Q = P := by rw [HQ.out, HP.out, hjk]
      subst hQP
      clear hjk HQ HP
      go_wp2
      go_ret
      exact ⟨rfl, rfl⟩

theorem refput_any (w : World) (v1 : Value) (b : List UInt8) (size : Int) (v : Nat) (h : Sl w v1 (bv b)) (hb : b.length ≤ 140737488355000) (hv : v < 18446744073709551616) :
    Calls Tryd.prog 33 #[v1, .int .i64 size, .int .u64 v] w (NewBytes (put b size v) w) := by
  have hv1 : Sl (w.alloc (.cells #[] 5)) _ _ := h.fr0 ((Fr.refl _ _).alloc _)
  by_cases hn : Cur.sized size = true
  · have hr : 0 ≤ size ∧ size ≤ 8 ∧ (size = 1 ∨ size = 2 ∨ size = 4 ∨ size = 8) := by unfold Cur.sized at hn; simp at hn; omega
    obtain ⟨k, rfl⟩ := Int.eq_ofNat_of_zero_le hr.1
    have hk8 : k ≤ 8 := by omega
    have e : put b k v = b ++ leBytes k v := by unfold put; rw [if_pos hn]; rfl
    rw [e]
    have hcase : (((k : Int) != 1) = false) ∨ (((k : Int) != 1) = true ∧ ((k : Int) != 2) = false) ∨ (((k : Int) != 1) = true ∧ ((k : Int) != 2) = true ∧ ((k : Int) != 4) = false) ∨
        (((k : Int) != 1) = true ∧ ((k : Int) != 2) = true ∧ ((k : Int) != 4) = true ∧ ((k : Int) != 8) = false) := by
      rcases hr.2.2 with h | h | h | h <;> simp [h]
    clear hn e hr h
    rcases hcase with m1 | ⟨m1, m2⟩ | ⟨m1, m2, m4⟩ | ⟨m1, m2, m4, m8⟩
    all_goals
      go_enter Tryd.func33, Tryd.ntmps33
      go_wp2_with (at_builtin; refine wpList_append_sl sty_u8 rfl _ _ rfl w.heap.size _ 0 [] rfl (own_empty w _) _ (bv b) rfl hv1 (bv_one _) ?_ ?_ ?_ ?_)
      · rw [bv_length]; omega
      · rw [bv_length]; omega
      · simp
      intro v2 w2 hown2 hg2
      have hf2 : Fr [] w w2 := ((Fr.refl _ _).alloc _).grown hg2 (fun k hk => .inr (by simp [Value.ownBlock] at hk; omega))
      rw [bv_length] at hown2
      clear hg2 hv1
      go_wp2_with fail
      go_loopw [7, 8] (fun out i wr => ∃ j : Nat, j ≤ k ∧ i = .int .i64 j ∧ wr.ownsRow w.heap.size 5 1 out (b.length + j) (bv (b ++ leBytes j v)) ∧ Fr [] w wr) (fun _ i _ => k - (intOf i).toNat)
      case atStart => exact ⟨0, Nat.zero_le _, rfl, by simpa [bv, leBytes] using hown2, hf2⟩
      case round =>
        obtain ⟨j, hj, rfl, hown, hf⟩ := hrel
        clear hown2 hf2
        by_cases hlt : j < k
        · have hlt' : (j : Int) < (k : Int) := by omega
          obtain ⟨P, hP⟩ : ∃ P, P = 256 ^ j := ⟨_, rfl⟩
          have hP1 := pow_le7 j (by omega)
          rw [← hP] at hP1
          have hsn := leBytes_snoc j v
          rw [← hP] at hsn
          have hz := hf.size
          have hPi : (1 : Int) ≤ (P : Int) := by omega
          obtain ⟨hq0, hq1⟩ := quo_bounds v P hv
          have HS := Lib.hid hsn
          go_wp2_with fail
          refine (power_any wr j P (by omega) hP).mono ?_
          rintro e w3 ⟨rfl, rfl⟩
          have HP := Lib.hid hP
          clear hP hsn
          go_wp2_with (at_builtin; refine wpList_append_sl sty_u8 rfl _ _ rfl w.heap.size _ _ _ rfl (hown.alloc _) _ _ rfl (sl_one _ _ _) ?_ ?_ ?_ ?_ ?_)
          · simp [Value.oneCell']
          · simp; omega
          · simp; omega
          · simp; omega
          · intro v3 w3 hown3 hg3
            have hf3 : Fr [] w w3 := (hf.alloc _).grown hg3 (fun k hk => .inr (hown.lt k hk).1)
            clear hg3 hown hf hz
            go_wp2_with fail
            go_roundw
            case rel =>
              refine ⟨j + 1, by omega, by go_num, ?_, hf3⟩
              rw [HS.out, ← List.append_assoc, bv_snoc, Int.natCast_ediv]
              exact hown3
            case measure => simp [intOf]; omega
        · have hlt' : (k : Int) ≤ (j : Int) := by omega
          have hjk : j = k := by omega
          have HJ := Lib.hid hjk
          clear hjk
          go_wp2_with fail
          go_ret
          refine ⟨_, rfl, ?_, hf⟩
          rw [HJ.out] at hown
          have e : (b ++ leBytes k v).length = b.length + k := by simp [leBytes_length]
          rw [e]
          exact hown
  · have hn' : Cur.sized size = false := by simpa using hn
    have e : put b size v = b := by unfold put; rw [if_neg hn]
    rw [e]
    have n1 : (size == 1) = false ∧ (size == 2) = false ∧ (size == 4) = false ∧ (size == 8) = false := by
      unfold Cur.sized at hn'; simpa [and_assoc] using hn'
    obtain ⟨n1, n2, n4, n8⟩ := n1
    have m1 : (size != 1) = true := by simp [bne, n1]
    have m2 : (size != 2) = true := by simp [bne, n2]
    have m4 : (size != 4) = true := by simp [bne, n4]
    have m8 : (size != 8) = true := by simp [bne, n8]
    clear hn e hn' h n1 n2 n4 n8
    go_enter Tryd.func33, Tryd.ntmps33
    go_wp2_with (at_builtin; refine wpList_append_sl sty_u8 rfl _ _ rfl w.heap.size _ 0 [] rfl (own_empty w _) _ (bv b) rfl hv1 (bv_one _) ?_ ?_ ?_ ?_)
    · rw [bv_length]; omega
    · rw [bv_length]; omega
    · simp
    intro v2 w2 hown2 hg2
    have hf2 : Fr [] w w2 := ((Fr.refl _ _).alloc _).grown hg2 (fun k hk => .inr (by simp [Value.ownBlock] at hk; omega))
    rw [bv_length] at hown2
    clear hg2 hv1
    go_wp2_with fail
    go_ret
    exact ⟨_, rfl, by simpa using hown2, hf2⟩
end Go.Proofs.YtkodindajfdagaaDoor
/- Contract of the reference's PutNumber. No condition but that lengths fit. -/
namespace Go.Proofs.YtkodindajfdagaaDoor
open Go.RowKit

set_option maxRecDepth 100000 in
set_option maxHeartbeats 1000000 in
theorem refputnumber_any (w : World) (v1 : Value) (b : List UInt8) (v : Nat) (h : Sl w v1 (bv b)) (hb : b.length ≤ 140737488354000) (hv : v < 18446744073709551616) :
    Calls Tryd.prog 60 #[v1, .int .u64 v] w (NewBytes (putNumber b v) w) := by
  have hx8 := extra_le v
  obtain ⟨X, hX⟩ : ∃ X, X = extra v := ⟨_, rfl⟩
  rw [← hX] at hx8
  have HXE := Lib.hid hX
  clear hX
  go_enter Tryd.func60, Tryd.ntmps60
  go_wp2_with (at_builtin; refine wpList_append_new sty_u8 rfl _ _ rfl rfl _ (bv b) rfl h (bv_one _) ?_ ?_ ?_)
  · rw [bv_length]; omega
  · rw [bv_length]; omega
  intro v2 w2 hown2 hf2
  rw [bv_length] at hown2
  have hz2 := hf2.size
  clear h
  go_wp2_with fail
  go_loopw [5, 6] (fun out i wr => ∃ k : Nat, k ≤ X ∧ i = .int .i64 k ∧ out = v2 ∧ w2 = wr) (fun _ i _ => 8 - (intOf i).toNat)
  case atStart => exact ⟨0, Nat.zero_le _, rfl, rfl, rfl⟩
  case round =>
    obtain ⟨k, hk, rfl, rfl, rfl⟩ := hrel
    by_cases hk8 : k < 8
    · have hk8' : (k : Int) < 8 := by omega
      obtain ⟨T, hT⟩ : ∃ T, T = 256 / 2 ^ k := ⟨_, rfl⟩
      obtain ⟨T1, T2, -⟩ := T_bounds k (by omega)
      rw [← hT] at T1 T2
      have hTI : (256 : Int) / 2 ^ k = (T : Int) := by rw [hT]; simp
      obtain ⟨P, hP⟩ : ∃ P, P = 256 ^ k := ⟨_, rfl⟩
      obtain ⟨q, hq⟩ : ∃ q, q = v / P := ⟨_, rfl⟩
      have hqI : (v : Int) / (P : Int) = (q : Int) := by rw [hq]; simp
      have hqv : q ≤ v := by rw [hq]; exact Nat.div_le_self _ _
      obtain ⟨s, hs⟩ : ∃ s, s = 128 / 2 ^ k := ⟨_, rfl⟩
      have hs1 := sh_bounds k (by omega)
      rw [← hs] at hs1
      have hsI : (128 : Int) / 2 ^ k = (s : Int) := by rw [hs]; simp
      have hP1 := pow_le7 k (by omega)
      rw [← hP] at hP1
      have hPi : (1 : Int) ≤ (P : Int) := by omega
      have hpow := fun w => Lib.hid (power_any w k P (by omega) hP)
      by_cases h7 : k < 7
      · have h7' : (k : Int) < 7 := by omega
        have h7b : ((k : Int) == 7) = false := by simp; omega
        have hdv := extra_div v k h7
        rw [← hP, ← hq, ← hs, ← HXE.out] at hdv
        by_cases hkx : k = X
        · have hlt : (q : Int) < (s : Int) := by have := hdv.1 (by omega); omega
          have E := Lib.hid (fb_low v k T q (by rw [hkx, HXE.out]) h7 hT (by rw [hq, hP]))
          have hqs : q < 128 := by omega
          have HKX := Lib.hid hkx
          clear hT hP hq hs hdv hkx h7 hk8
          go_wp2_with (first | (go_at_call 61; refine (hpow _).out.mono ?_; rintro e w3 ⟨rfl, rfl⟩) | (at_builtin; refine wpList_append_one sty_u8 rfl _ _ rfl hf2 _ _ _ (by rfl) hown2 _ (by rfl) (by rfl) ?_ ?_ ?_))
          · omega
          · omega
          intro v3 w3 hown3 hf3
          rw [E.out] at hown3
          clear hown2 hf2 hz2 hpow E
          go_wp2_with fail
          go_loopw [5, 8] (fun out i wr => ∃ j : Nat, j ≤ k ∧ i = .int .i64 j ∧ wr.ownsRow w.heap.size 5 1 out (b.length + 1 + j) (bv (b ++ firstByte v :: leBytes j v)) ∧ Fr [] w wr) (fun _ i _ => k - (intOf i).toNat)
          case atStart => exact ⟨0, Nat.zero_le _, rfl, by simpa [bv, leBytes] using hown3, hf3⟩
          case round =>
            obtain ⟨j, hj, rfl, hown, hf⟩ := hrel
            clear hown3 hf3
            by_cases hlt : j < k
            · have hlt' : (j : Int) < (k : Int) := by omega
              obtain ⟨R, hR⟩ : ∃ R, R = 256 ^ j := ⟨_, rfl⟩
              have hR1 := pow_le7 j (by omega)
              rw [← hR] at hR1
              have hsn := leBytes_snoc j v
              rw [← hR] at hsn
              have hRi : (1 : Int) ≤ (R : Int) := by omega
              obtain ⟨hq0, hq1⟩ := quo_bounds v R hv
              have HS := Lib.hid hsn
              have HPW := fun w => Lib.hid (power_any w j R (by omega) hR)
              clear hR hsn
              go_wp2_with (first | (go_at_call 61; refine (HPW _).out.mono ?_; rintro e w3 ⟨rfl, rfl⟩) | (at_builtin; refine wpList_append_one sty_u8 rfl _ _ rfl hf _ _ _ (by rfl) hown _ (by rfl) (by rfl) ?_ ?_ ?_))
              · omega
              · omega
              · intro v4 w4 hown4 hf4
                clear hown hf HPW
                go_wp2_with fail
                go_roundw
                case rel =>
                  refine ⟨j + 1, by omega, by go_num, ?_, hf4⟩
                  rw [HS.out, ← List.cons_append, ← List.append_assoc, bv_snoc, Int.natCast_ediv]
                  exact hown4
                case measure => simp [intOf]; omega
            · have hlt' : (k : Int) ≤ (j : Int) := by omega
              have hjk : j = k := by omega
              have HJ := Lib.hid hjk
              clear hjk
              go_wp2_with fail
              go_ret
              refine ⟨_, rfl, ?_, hf⟩
              rw [HJ.out] at hown
              have e : (putNumber b v).length = b.length + 1 + k := by rw [putNumber_length, HKX.out, HXE.out]
              have e2 : putNumber b v = b ++ firstByte v :: leBytes k v := by unfold putNumber; rw [HKX.out, HXE.out]
              rw [e, e2]
              exact hown
        · have hlt : (s : Int) ≤ (q : Int) := by have := mt hdv.2; omega
          clear hT hP hq hs hdv h7 hk8
          go_wp2_with (go_at_call 61; refine (hpow _).out.mono ?_; rintro e w3 ⟨rfl, rfl⟩)
          go_roundw
          case rel => exact ⟨k + 1, by omega, by go_num, rfl, by trivial⟩
          case measure => simp [intOf]; omega
      · have h7' : (7 : Int) ≤ (k : Int) := by omega
        have h7b : ((k : Int) == 7) = true := by simp; omega
        by_cases hkx : k = X
        · have hbig := (extra_iff v 7 (by omega)).1 (by rw [← HXE.out]; omega)
          have hlt : (v : Int) < (72057594037927936 : Int) := by simp only [Nat.reduceMul, Nat.reduceAdd, Nat.reducePow] at hbig; omega
          have E := Lib.hid (show (254 : Int) = ((firstByte v).toNat : Int) from by have := fb_high v 7 2 (by rw [← HXE.out]; omega) (by omega) (by decide); simpa using this)
          have HKX := Lib.hid hkx
          clear hT hP hq hs h7 hbig hkx hqI hqv hP1 hPi hpow hs1 hsI
          obtain rfl : k = 7 := by omega
          clear hk8 hk8' h7' h7b
          go_wp2_with (at_builtin; refine wpList_append_one sty_u8 rfl _ _ rfl hf2 _ _ _ (by rfl) hown2 _ (by rfl) (by rfl) ?_ ?_ ?_)
          · omega
          · omega
          intro v3 w3 hown3 hf3
          rw [E.out] at hown3
          clear hown2 hf2 hz2 E hlt
          go_wp2_with fail
          go_loopw [5, 8] (fun out i wr => ∃ j : Nat, j ≤ 7 ∧ i = .int .i64 j ∧ wr.ownsRow w.heap.size 5 1 out (b.length + 1 + j) (bv (b ++ firstByte v :: leBytes j v)) ∧ Fr [] w wr) (fun _ i _ => 7 - (intOf i).toNat)
          case atStart => exact ⟨0, Nat.zero_le _, rfl, by simpa [bv, leBytes] using hown3, hf3⟩
          case round =>
            obtain ⟨j, hj, rfl, hown, hf⟩ := hrel
            clear hown3 hf3
            by_cases hlt : j < 7
            · have hlt' : (j : Int) < 7 := by omega
              obtain ⟨R, hR⟩ : ∃ R, R = 256 ^ j := ⟨_, rfl⟩
              have hR1 := pow_le7 j (by omega)
              rw [← hR] at hR1
              have hsn := leBytes_snoc j v
              rw [← hR] at hsn
              have hRi : (1 : Int) ≤ (R : Int) := by omega
              obtain ⟨hq0, hq1⟩ := quo_bounds v R hv
              have HS := Lib.hid hsn
              have HPW := fun w => Lib.hid (power_any w j R (by omega) hR)
              clear hR hsn
              go_wp2_with (first | (go_at_call 61; refine (HPW _).out.mono ?_; rintro e w3 ⟨rfl, rfl⟩) | (at_builtin; refine wpList_append_one sty_u8 rfl _ _ rfl hf _ _ _ (by rfl) hown _ (by rfl) (by rfl) ?_ ?_ ?_))
              · omega
              · omega
              · intro v4 w4 hown4 hf4
                clear hown hf HPW
                go_wp2_with fail
                go_roundw
                case rel =>
                  refine ⟨j + 1, by omega, by go_num, ?_, hf4⟩
                  rw [HS.out, ← List.cons_append, ← List.append_assoc, bv_snoc, Int.natCast_ediv]
                  exact hown4
                case measure => simp [intOf]; omega
            · have hlt' : 7 ≤ (j : Int) := by omega
              have hjk : j = 7 := by omega
              have HJ := Lib.hid hjk
              clear hjk
              go_wp2_with fail
              go_ret
              refine ⟨_, rfl, ?_, hf⟩
              rw [HJ.out] at hown
              have e : (putNumber b v).length = b.length + 1 + 7 := by rw [putNumber_length, HKX.out, HXE.out]
              have e2 : putNumber b v = b ++ firstByte v :: leBytes 7 v := by unfold putNumber; rw [HKX.out, HXE.out]
              rw [e, e2]
              exact hown
        · have hbig := mt (extra_iff v 7 (by omega)).2 (by rw [← HXE.out]; omega)
          have hlt : (72057594037927936 : Int) ≤ (v : Int) := by simp only [Nat.reduceMul, Nat.reduceAdd, Nat.reducePow] at hbig; omega
          have hk1 : k + 1 ≤ X := by omega
          have hltB : decide ((v : Int) < 72057594037927936) = false := by simp; omega
          clear hT hP hq hs h7 hbig hkx hqI hqv hP1 hPi hpow hs1 hsI hlt
          obtain rfl : k = 7 := by omega
          clear hk8 hk8' h7' h7b
          go_wp2_with fail
          go_roundw
          case rel => exact ⟨8, by omega, rfl, rfl, by trivial⟩
          case measure => simp [intOf]
    · have hk8' : (8 : Int) ≤ (k : Int) := by omega
      have hX8 : X = 8 := by omega
      have HX8 := Lib.hid hX8
      clear hX8
      go_wp2_with (at_builtin; refine wpList_append_one sty_u8 rfl _ _ rfl hf2 _ _ _ (by rfl) hown2 _ (by rfl) (by rfl) ?_ ?_ ?_)
      · omega
      · omega
      intro v3 w3 hown3 hf3
      have e1 : bv b ++ [Value.int .u8 255] = bv (b ++ [255]) := by rw [bv_append]; rfl
      rw [e1] at hown3
      clear hown2 hf2 hz2 e1
      go_wp2_with fail
      refine (refput_any w3 _ _ 8 v (Sl.of_own hown3) (by simp; omega) hv).mono ?_
      rintro e w4 ⟨r, rfl, hown4, hf4⟩
      have hz := hf3.size
      clear hown3
      go_wp2_with fail
      go_ret
      refine ⟨_, rfl, ?_, hf3.trans0 hf4⟩
      have e2 : put (b ++ [255]) 8 v = putNumber b v := by
        unfold put putNumber firstByte
        rw [← HXE.out, HX8.out]
        simp [Cur.sized]
      rw [e2] at hown4
      exact own_mono hown4 hz
end Go.Proofs.YtkodindajfdagaaDoor
