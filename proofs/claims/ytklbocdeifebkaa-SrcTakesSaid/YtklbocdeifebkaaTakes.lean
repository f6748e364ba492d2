/- The law SrcTakes: the walk. No condition. -/
import Derived.Test.YtklbocdeifebkaaSrcE
namespace Go.Proofs.Ytklbocdeifebkaa
open Go.RowKit

theorem takes_law1 (bs : List UInt8) (n m : Nat) (h : n + m ≤ bs.length) :
    (Cur.take ⟨bs, 0, 0⟩ n).1 ++ ((Cur.take ⟨bs, 0, 0⟩ n).2.take m).1 = (Cur.take ⟨bs, 0, 0⟩ (n + m)).1 ∧ (Cur.take ⟨bs, 0, 0⟩ (n + m)).1 = bs.take (n + m) ∧
      ((Cur.take ⟨bs, 0, 0⟩ n).2.take m).2.left = (Cur.take ⟨bs, 0, 0⟩ (n + m)).2.left := by
  have e1 : Cur.take ⟨bs, 0, 0⟩ n = (bs.take n, ⟨bs, n, 0⟩) := by unfold Cur.take Cur.left; rw [if_neg (by simp; omega)]; simp
  have e2 : Cur.take ⟨bs, n, 0⟩ m = ((bs.drop n).take m, ⟨bs, n + m, 0⟩) := by unfold Cur.take Cur.left; rw [if_neg (by simp; omega)]
  have e3 : Cur.take ⟨bs, 0, 0⟩ (n + m) = (bs.take (n + m), ⟨bs, n + m, 0⟩) := by unfold Cur.take Cur.left; rw [if_neg (by simp; omega)]; simp
  simp only [e1, e2, e3]
  exact ⟨(List.take_add ..).symm, trivial, trivial⟩

theorem takes_law2 (bs : List UInt8) (n m : Nat) (h : bs.length < n + m) :
    (Cur.take ⟨bs, 0, 0⟩ (n + m)).1 = [] ∧ ((Cur.take ⟨bs, 0, 0⟩ n).2.take m).2.left = 0 ∧ (Cur.take ⟨bs, 0, 0⟩ (n + m)).2.left = 0 ∧
      ((Cur.take ⟨bs, 0, 0⟩ n).2.take m).2.code = (Cur.take ⟨bs, 0, 0⟩ (n + m)).2.code := by
  have e3 : Cur.take ⟨bs, 0, 0⟩ (n + m) = ([], ⟨bs, 0, 3⟩) := by unfold Cur.take Cur.left; rw [if_pos (by simp; omega)]; simp [Cur.fail]
  by_cases hn : n ≤ bs.length
  · have e1 : Cur.take ⟨bs, 0, 0⟩ n = (bs.take n, ⟨bs, n, 0⟩) := by unfold Cur.take Cur.left; rw [if_neg (by simp; omega)]; simp
    have e2 : Cur.take ⟨bs, n, 0⟩ m = ([], ⟨bs, n, 3⟩) := by unfold Cur.take Cur.left; rw [if_pos (by simp; omega)]; simp [Cur.fail]
    simp only [e1, e2, e3]
    simp [Cur.left]
  · have e1 : Cur.take ⟨bs, 0, 0⟩ n = ([], ⟨bs, 0, 3⟩) := by unfold Cur.take Cur.left; rw [if_pos (by simp; omega)]; simp [Cur.fail]
    have e2 : Cur.take ⟨bs, 0, 3⟩ m = ([], ⟨bs, 0, 3⟩) := by unfold Cur.take Cur.left; rw [if_pos (by simp)]; simp [Cur.fail]
    simp only [e1, e2, e3]
    simp [Cur.left]

theorem walk_SrcTakes (w : World) (v : Value) (bs : List UInt8) (n m : Int) (hv : Sl w v (bv bs)) (hn : 0 ≤ n ∧ n ≤ 65535) (hm : 0 ≤ m ∧ m ≤ 65535) :
    Calls Try.prog 3 #[v, .int .u16 n, .int .u16 m] w fun e w' => e = .returned (.bool true) ∧ Fr [] w w' := by
  obtain ⟨n, rfl⟩ := Int.eq_ofNat_of_zero_le hn.1
  obtain ⟨m, rfl⟩ := Int.eq_ofNat_of_zero_le hm.1
  obtain ⟨ao, cap, rfl, hc1, hc2, -⟩ := hv.out
  rw [bv_length] at *
  by_cases hbig : 65536 < bs.length
  · have hbig' : (65536 : Int) < (bs.length : Int) := by omega
    go_enter Try.func3, Try.ntmps3
    go_wp2_with fail
    refine (awake_any w).mono ?_
    rintro e w1 ⟨rfl, hf1⟩
    go_wp2_with fail
    go_ret
    exact ⟨rfl, hf1⟩
  · have hbig' : (bs.length : Int) ≤ 65536 := by omega
    go_enter Try.func3, Try.ntmps3
    go_wp2_with fail
    refine (awake_any w).mono ?_
    rintro e w1 ⟨rfl, F1⟩
    have hv1 := hv.fr0 F1
    go_wp2_with fail
    refine (new_any w1 _ bs hv1 (by omega)).mono ?_
    rintro e w2 ⟨p, q, rfl, hp, hq, hc2', hf2⟩
    have F2 := F1.trans0 hf2
    have hv2 := hv1.fr0 hf2
    have z1 := F1.size
    have hpl := hc2'.lt
    clear F1 hf2 hv1
    go_wp2_with fail
    refine (new_any w2 _ bs hv2 (by omega)).mono ?_
    rintro e w3 ⟨p2, q2, rfl, hp2, hq2, hd3, hf3⟩
    have F3 := F2.trans0 hf3
    have hv3 := hv2.fr0 hf3
    have hc3 := hc2'.fr hf3 (by simp) (by simp)
    have z3 := hf3.size
    have hpl2 := hd3.lt
    clear F2 hf3 hv2 hc2'
    go_wp2_with fail
    refine (take_any _ p q ⟨bs, 0, 0⟩ n _ (by simp) (by omega) (hc3.fr ((Fr.refl [] w3).alloc _) (by simp) (by simp)) (by simp; omega)).mono ?_
    rintro e w4 ⟨t1, rfl, ho4, hc4, hf4⟩
    obtain ⟨T1, hT1⟩ : ∃ T, T = Cur.take ⟨bs, 0, 0⟩ n := ⟨_, rfl⟩
    have hl1 : T1.1.length ≤ bs.length := by rw [hT1]; exact Cur.take_length _ _
    have hb1 : T1.2.b.length = bs.length := by rw [hT1, Cur.take_b]
    rw [← hT1] at ho4 hc4
    have hf34 : Fr [p] w3 w4 := ((Fr.refl _ _).alloc _).trans hf4 (by simp)
    have F4 : Fr [] w w4 := F3.trans hf34 (by simp; omega)
    have hd4 := hd3.fr hf34 (by simp; omega) (fun k hk => by have := hq2 k hk; simp; omega)
    have hx4 := own_fr (own_empty w3 5) hf4 (by simp [Value.ownBlock]; omega)
    have z4 := hf34.size
    have HT1 := Lib.hid hT1
    have HB1 := Lib.hid hb1
    have hb1' : T1.2.b.length ≤ 65536 := by omega
    clear hT1 hb1
    have hs4 := Sl.of_own ho4
    clear F3 hv3 hc3 hd3 hf34 hf4 ho4
    go_wp2_with (at_builtin; refine wpList_append_sl sty_u8 rfl _ _ rfl w3.heap.size _ _ _ rfl hx4 _ _ rfl hs4 (bv_one _) ?_ ?_ ?_ ?_)
    · rw [bv_length]; omega
    · rw [bv_length]; omega
    · omega
    intro v5 w5 hx5 hg5
    rw [bv_length] at hx5
    have hf5 : Fr [w3.heap.size] w4 w5 := (Fr.refl _ _).grown hg5 (by simp [Value.ownBlock])
    have F5 : Fr [] w w5 := F4.trans hf5 (by simp; omega)
    have hd5 := hd4.fr hf5 (by simp; omega) (fun k hk => by have := hq2 k hk; simp; omega)
    have hc5 := hc4.fr hf5 (by simp; omega) (fun k hk => by have := hq k hk; simp; omega)
    have z5 := hf5.size
    clear hg5 hf5 hx4 hs4 F4 hd4 hc4
    go_wp2_with fail
    refine (take_any _ p q T1.2 m _ (by simp) (by omega) hc5 (by omega)).mono ?_
    rintro e w6 ⟨t2, rfl, ho6, hc6, hf6⟩
    obtain ⟨T2, hT2⟩ : ∃ T, T = Cur.take T1.2 m := ⟨_, rfl⟩
    have hl2 : T2.1.length ≤ bs.length := by rw [hT2, ← HB1.out]; exact Cur.take_length _ _
    rw [← hT2] at ho6 hc6
    have F6 : Fr [] w w6 := F5.trans hf6 (by simp; omega)
    have hd6 := hd5.fr hf6 (by simp; omega) (fun k hk => by have := hq2 k hk; simp; omega)
    have hx6 := own_fr hx5 hf6 (fun k hk => by have := hx5.lt k hk; simp; omega)
    have z6 := hf6.size
    have HT2 := Lib.hid hT2
    clear hT2
    have hs6 := Sl.of_own ho6
    clear F5 hc5 hd5 hf6 ho6 hx5
    go_wp2_with (at_builtin; refine wpList_append_sl sty_u8 rfl _ _ rfl w3.heap.size _ _ _ rfl hx6 _ _ rfl hs6 (bv_one _) ?_ ?_ ?_ ?_)
    · rw [bv_length]; omega
    · rw [bv_length]; omega
    · omega
    intro v7 w7 hx7 hg7
    rw [bv_length] at hx7
    have hf7 : Fr v5.ownBlock.toList w6 w7 := (Fr.refl _ _).grown hg7 (fun k hk => .inl (by simpa using hk))
    have hb5 : ∀ k ∈ v5.ownBlock.toList, w3.heap.size ≤ k := fun k hk => (hx6.lt k (by simpa using hk)).1
    have F7 : Fr [] w w7 := F6.trans hf7 (fun k hk => by have := hb5 k hk; omega)
    have hd7 := hd6.fr hf7 (fun hk => by have := hb5 _ hk; omega) (fun k hk hk2 => by have := hb5 _ hk2; have := hq2 k hk; omega)
    have hc7 := hc6.fr hf7 (fun hk => by have := hb5 _ hk; omega) (fun k hk hk2 => by have := hb5 _ hk2; have := hq k hk; omega)
    have z7 := hf7.size
    clear hg7 hf7 hx6 hs6 F6 hd6 hc6 hb5
    go_wp2_with fail
    refine (take_any _ p2 q2 ⟨bs, 0, 0⟩ (n + m) _ (by simp) (by omega) hd7 (by dsimp only; omega)).mono ?_
    rintro e w8 ⟨t3, rfl, ho8, hd8, hf8⟩
    obtain ⟨T3, hT3⟩ : ∃ T, T = Cur.take ⟨bs, 0, 0⟩ (n + m) := ⟨_, rfl⟩
    rw [← hT3] at ho8 hd8
    have F8 : Fr [] w w8 := F7.trans hf8 (by simp; omega)
    have hc8 := hc7.fr hf8 (by simp; omega) (fun k hk => by have := hq k hk; simp; omega)
    have hx8 := own_fr hx7 hf8 (fun k hk => by have := hx7.lt k hk; simp; omega)
    have hs8 := Sl.of_own ho8
    have hy8 := Sl.of_own hx8
    simp only [← bv_append] at hy8
    have hv8 := hv.fr0 F8
    have HT3 := Lib.hid hT3
    clear hT3
    clear F7 hc7 hd7 hf8 ho8 hx7 hx8
    by_cases hle : n + m ≤ bs.length
    · have hle' : (n : Int) + (m : Int) ≤ (bs.length : Int) := by omega
      obtain ⟨L1, L2, L3⟩ := takes_law1 bs n m hle
      rw [← HT1.out, ← HT2.out, ← HT3.out] at L1 L3
      rw [← HT3.out] at L2
      have hv8c := hv8.first (n + m) hle
      rw [← bv_take] at hv8c
      have HL2 := Lib.hid L2
      have HL1 := Lib.hid L1
      have HL3 := Lib.hid L3
      clear L1 L2 L3
      go_wp2_with fail
      refine (bytes_any _ _ _ _ _ hy8 hs8).mono ?_
      rintro e w9 ⟨rfl, s9⟩
      rw [HL1.out, decide_eq_true rfl]
      go_wp2_with fail
      refine (bytes_any _ _ _ _ _ (hs8.fr0 s9.fr) (hv8c.fr0 s9.fr)).mono ?_
      rintro e w10 ⟨rfl, s10⟩
      rw [HL2.out, decide_eq_true rfl]
      go_wp2_with fail
      refine (left_any _ p q _ ((hc8.same s9).same s10)).mono ?_
      rintro e w11 ⟨rfl, s11⟩
      go_wp2_with fail
      refine (left_any _ p2 q2 _ (((hd8.same s9).same s10).same s11)).mono ?_
      rintro e w12 ⟨rfl, s12⟩
      rw [HL3.out]
      go_wp2_with fail
      go_ret
      exact ⟨by simp, F8.trans0 (((s9.trans s10).trans s11).trans s12).fr⟩
    · have hle' : (bs.length : Int) < (n : Int) + (m : Int) := by omega
      obtain ⟨L1, L2, L3, L4⟩ := takes_law2 bs n m (by omega)
      rw [← HT1.out, ← HT2.out] at L2 L4
      rw [← HT3.out] at L1 L3 L4
      obtain ⟨ao3, cap3, rfl, -, -, -⟩ := hs8.out
      rw [bv_length] at *
      have HL1 : Hid (((T3.1.length : Int) == 0) = true) := by rw [L1]; rfl
      have HL2 := Lib.hid L2
      have HL3 := Lib.hid L3
      have HL4 := Lib.hid L4
      have HL1' := HL1.out
      clear L1 L2 L3 L4
      go_wp2_with fail
      refine (left_any _ p q _ hc8).mono ?_
      rintro e w9 ⟨rfl, s9⟩
      rw [HL2.out]
      go_wp2_with fail
      refine (left_any _ p2 q2 _ (hd8.same s9)).mono ?_
      rintro e w10 ⟨rfl, s10⟩
      rw [HL3.out]
      go_wp2_with fail
      refine (code_any _ p q _ ((hc8.same s9).same s10)).mono ?_
      rintro e w11 ⟨rfl, rfl⟩
      go_wp2_with fail
      refine (code_any _ p2 q2 _ ((hd8.same s9).same s10)).mono ?_
      rintro e w12 ⟨rfl, rfl⟩
      rw [HL4.out]
      go_wp2_with fail
      go_ret
      exact ⟨by simp, F8.trans0 (s9.trans s10).fr⟩
end Go.Proofs.Ytklbocdeifebkaa
