/- Contracts of the references' Power, Put, PutNumber. No condition but that lengths fit. -/
import Derived.Test.YtkodindajfdagaaGreatDoorSrcEM
import Derived.Test.YtkodindajfdagaaGreatDoorJA
namespace Go.Proofs.YtkodindajfdagaaGreatDoor
open Go.RowKit

theorem power_any (w : World) (k : Nat) (P : Nat) (hk : k < 8) (hP : P = 256 ^ k) :
    Calls Tryz.prog 53 #[.int .i64 k] w fun e w' => e = .returned (.int .u64 P) ∧ w = w' := by
  have HP := Lib.hid hP
  clear hP
  go_enter Tryz.func53, Tryz.ntmps53
  go_wp2
  go_loop [3, 4] (fun v i => ∃ j Q : Nat, j ≤ k ∧ i = .int .i64 j ∧ v = .int .u64 Q ∧ Hid (Q = 256 ^ j)) (fun _ i => k - (intOf i).toNat)
  case atStart => exact ⟨0, 1, Nat.zero_le _, rfl, rfl, rfl⟩
  case round =>
    obtain ⟨j, Q, hj, rfl, rfl, HQ⟩ := hrel
    by_cases hlt : j < k
    · have hlt' : (j : Int) < (k : Int) := by omega
      have hb : Q ≤ 281474976710656 := by have := pow256_le (k := j) (m := 6) (by omega); rw [HQ.out]; simpa using this
      go_wp2
      go_round
      case rel => exact ⟨j + 1, Q * 256, by omega, by go_num, by simp, by have := HQ.out; show Q * 256 = 256 ^ (j + 1); rw [this, Nat.pow_succ]⟩
      case measure => simp [intOf]; omega
    · have hlt' : (k : Int) ≤ (j : Int) := by omega
      have hjk : j = k := by omega
      have hQP : Q = P := by rw [HQ.out, HP.out, hjk]
      subst hQP
      clear hjk HQ HP
      go_wp2
      go_ret
      exact ⟨rfl, rfl⟩

theorem refput_any (w : World) (v1 : Value) (b : List UInt8) (size : Int) (v : Nat) (h : Sl w v1 (bv b)) (hb : b.length ≤ 140737488355000) (hv : v < 18446744073709551616) :
    Calls Tryz.prog 22 #[v1, .int .i64 size, .int .u64 v] w (NewBytes (put b size v) w) := by
  have hv1 : Sl (w.alloc (.cells #[] 5)) _ _ := h.fr0 ((Fr.refl _ _).alloc _)
  by_cases hn : Cur.sized size = true
  · have hr : 0 ≤ size ∧ size ≤ 8 ∧ (size = 1 ∨ size = 2 ∨ size = 4 ∨ size = 8) := by unfold Cur.sized at hn; simp at hn; omega
    obtain ⟨k, rfl⟩ := Int.eq_ofNat_of_zero_le hr.1
    have hk8 : k ≤ 8 := by omega
    have e : put b k v = b ++ leBytes k v := by unfold put; rw [if_pos hn]; rfl
    rw [e]
    have hcase : (((k : Int) != 1) = false) ∨ (((k : Int) != 1) = true ∧ ((k : Int) != 2) = false) ∨ (((k : Int) != 1) = true ∧ ((k : Int) != 2) = true ∧ ((k : Int) != 4) = false) ∨
        (((k : Int) != 1) = true ∧ ((k : Int) != 2) = true ∧ ((k : Int) != 4) = true ∧ ((k : Int) != 8) = false) := by
      rcases hr.2.2 with h | h | h | h <;> simp [h]
    clear hn e hr h
    rcases hcase with m1 | ⟨m1, m2⟩ | ⟨m1, m2, m4⟩ | ⟨m1, m2, m4, m8⟩
    all_goals
      go_enter Tryz.func22, Tryz.ntmps22
      go_wp2_with (at_builtin; refine wpList_append_sl sty_u8 rfl _ _ rfl w.heap.size _ 0 [] rfl (own_empty w _) _ (bv b) rfl hv1 (bv_one _) ?_ ?_ ?_ ?_)
      · rw [bv_length]; omega
      · rw [bv_length]; omega
      · simp
      intro v2 w2 hown2 hg2
      have hf2 : Fr [] w w2 := ((Fr.refl _ _).alloc _).grown hg2 (fun k hk => .inr (by simp [Value.ownBlock] at hk; omega))
      rw [bv_length] at hown2
      clear hg2 hv1
      go_wp2_with fail
      go_loopw [7, 8] (fun out i wr => ∃ j : Nat, j ≤ k ∧ i = .int .i64 j ∧ wr.ownsRow w.heap.size 5 1 out (b.length + j) (bv (b ++ leBytes j v)) ∧ Fr [] w wr) (fun _ i _ => k - (intOf i).toNat)
      case atStart => exact ⟨0, Nat.zero_le _, rfl, by simpa [bv, leBytes] using hown2, hf2⟩
      case round =>
        obtain ⟨j, hj, rfl, hown, hf⟩ := hrel
        clear hown2 hf2
        by_cases hlt : j < k
        · have hlt' : (j : Int) < (k : Int) := by omega
          obtain ⟨P, hP⟩ : ∃ P, P = 256 ^ j := ⟨_, rfl⟩
          have hP1 := pow_le7 j (by omega)
          rw [← hP] at hP1
          have hsn := leBytes_snoc j v
          rw [← hP] at hsn
          have hz := hf.size
          have hPi : (1 : Int) ≤ (P : Int) := by omega
          obtain ⟨hq0, hq1⟩ := quo_bounds v P hv
          have HS := Lib.hid hsn
          go_wp2_with fail
          refine (power_any wr j P (by omega) hP).mono ?_
          rintro e w3 ⟨rfl, rfl⟩
          have HP := Lib.hid hP
          clear hP hsn
          go_wp2_with (at_builtin; refine wpList_append_sl sty_u8 rfl _ _ rfl w.heap.size _ _ _ rfl (hown.alloc _) _ _ rfl (sl_one _ _ _) ?_ ?_ ?_ ?_ ?_)
          · simp [Value.oneCell']
          · simp; omega
          · simp; omega
          · simp; omega
          · intro v3 w3 hown3 hg3
            have hf3 : Fr [] w w3 := (hf.alloc _).grown hg3 (fun k hk => .inr (hown.lt k hk).1)
            clear hg3 hown hf hz
            go_wp2_with fail
            go_roundw
            case rel =>
              refine ⟨j + 1, by omega, by go_num, ?_, hf3⟩
              rw [HS.out, ← List.append_assoc, bv_snoc, Int.natCast_ediv]
              exact hown3
            case measure => simp [intOf]; omega
        · have hlt' : (k : Int) ≤ (j : Int) := by omega
          have hjk : j = k := by omega
          have HJ := Lib.hid hjk
          clear hjk
          go_wp2_with fail
          go_ret
          refine ⟨_, rfl, ?_, hf⟩
          rw [HJ.out] at hown
          have e : (b ++ leBytes k v).length = b.length + k := by simp [leBytes_length]
          rw [e]
          exact hown
  · have hn' : Cur.sized size = false := by simpa using hn
    have e : put b size v = b := by unfold put; rw [if_neg hn]
    rw [e]
    have n1 : (size == 1) = false ∧ (size == 2) = false ∧ (size == 4) = false ∧ (size == 8) = false := by
      unfold Cur.sized at hn'; simpa [and_assoc] using hn'
    obtain ⟨n1, n2, n4, n8⟩ := n1
    have m1 : (size != 1) = true := by simp [bne, n1]
    have m2 : (size != 2) = true := by simp [bne, n2]
    have m4 : (size != 4) = true := by simp [bne, n4]
    have m8 : (size != 8) = true := by simp [bne, n8]
    clear hn e hn' h n1 n2 n4 n8
    go_enter Tryz.func22, Tryz.ntmps22
    go_wp2_with (at_builtin; refine wpList_append_sl sty_u8 rfl _ _ rfl w.heap.size _ 0 [] rfl (own_empty w _) _ (bv b) rfl hv1 (bv_one _) ?_ ?_ ?_ ?_)
    · rw [bv_length]; omega
    · rw [bv_length]; omega
    · simp
    intro v2 w2 hown2 hg2
    have hf2 : Fr [] w w2 := ((Fr.refl _ _).alloc _).grown hg2 (fun k hk => .inr (by simp [Value.ownBlock] at hk; omega))
    rw [bv_length] at hown2
    clear hg2 hv1
    go_wp2_with fail
    go_ret
    exact ⟨_, rfl, by simpa using hown2, hf2⟩
end Go.Proofs.YtkodindajfdagaaGreatDoor
