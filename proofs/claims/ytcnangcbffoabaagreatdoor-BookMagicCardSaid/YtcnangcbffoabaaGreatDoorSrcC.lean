/- Contracts: Len8, LeadingZeros8, Number. No condition but that lengths fit. -/
import Derived.Test.YtcnangcbffoabaaGreatDoorSrcB
namespace Go.Proofs.YtcnangcbffoabaaGreatDoor
open Go.RowKit

theorem len8_raw (x : Int) (w : World) (h0 : 0 ≤ x) (h1 : x ≤ 255) :
    Calls Tryz.prog 274 #[.int .u8 x] w fun e w' => e = .returned (.int .i64 (wrap64 (Lib.len8 x))) ∧ w = w' := by
  go_enter Tryz.func274, Tryz.ntmps274
  go_wp2
  go_ret
  exact ⟨rfl, rfl⟩

theorem len8_any (x : Int) (w : World) (h0 : 0 ≤ x) (h1 : x ≤ 255) :
    Calls Tryz.prog 274 #[.int .u8 x] w fun e w' => e = .returned (.int .i64 (Lib.bitLen x.toNat)) ∧ w = w' :=
  (len8_raw x w h0 h1).mono fun _ _ ⟨h, hw⟩ => ⟨h.trans (congrArg (fun n => Ending.returned (.int .i64 n)) (by unfold wrap64; exact Lib.len8_int x h0 h1)), hw⟩

theorem lead8_any (x : Nat) (w : World) (h1 : x < 256) :
    Calls Tryz.prog 246 #[.int .u8 x] w fun e w' => e = .returned (.int .i64 (8 - (Lib.bitLen x : Int))) ∧ w = w' := by
  have l := Lib.bitLen_le8 ⟨x, h1⟩
  simp only at l
  go_enter Tryz.func246, Tryz.ntmps246
  go_wp2_with fail
  refine (len8_any x w (by omega) (by omega)).mono ?_
  rintro e w1 ⟨rfl, rfl⟩
  rw [Int.toNat_natCast]
  go_wp2
  go_ret
  exact ⟨rfl, rfl⟩

theorem number_any (w : World) (p : Nat) (q : Option Nat) (c : Cur) (h : CurAt w p q c) (hb : c.b.length ≤ 140737488355328) :
    Calls Tryz.prog 206 #[.pointer (some ⟨p, 0, none⟩)] w fun e w' =>
      e = .returned (.int .u64 c.number.1) ∧ CurAt w' p q c.number.2 ∧ Fr [p] w w' := by
  have hle := h.le
  by_cases h0 : c.left = 0
  · have e1 : c.number = (0, c.fail 3) := by unfold Cur.number; rw [if_pos (by omega)]
    rw [e1]
    have t0 : ((c.left : Int) == 0) = true := by simp [h0]
    have H0 := Lib.hid h0
    clear h0 e1
    go_enter Tryz.func206, Tryz.ntmps206
    go_wp2_with fail
    refine (left_any w p q c h).mono ?_
    rintro e w1 ⟨rfl, s1⟩
    have h1 := h.same s1
    clear h
    go_wp2_with fail
    refine (fail_any _ p q c 3 _ rfl (by decide) h1).mono ?_
    rintro e w2 ⟨rfl, hc2, hf2⟩
    go_wp2_with fail
    go_ret
    exact ⟨rfl, hc2, s1.fr.trans hf2 (by simp)⟩
  · have t0 : ((c.left : Int) == 0) = false := by simp; omega
    have hz : c.code = 0 := by unfold Cur.left at h0; split at h0 <;> simp_all
    have hlv : c.live = c.b := by simp [Cur.live, hz]
    have hll2 : c.at_ + c.left = c.b.length := by rw [← c.live_left hle, hlv]
    obtain ⟨x, hx⟩ := some_get c.b c.at_ (by omega)
    have hhead : c.head = x.toNat := by unfold Cur.head; simp [hx]
    have hx256 := x.toNat_lt
    have hone := ones_bitLen x.toNat (by omega)
    have hole := Cur.ones_le x.toNat
    have HZ := Lib.hid hz
    have HLV := Lib.hid hlv
    have HL2 := Lib.hid hll2
    have HX := Lib.hid hx
    have HH := Lib.hid hhead
    have HO := Lib.hid hone
    clear hz hlv hll2 hx hhead hone
    go_enter Tryz.func206, Tryz.ntmps206
    go_wp2_with fail
    refine (left_any w p q c h).mono ?_
    rintro e w1 ⟨rfl, s1⟩
    have h1 := h.same s1
    clear h
    obtain ⟨ao, cap, hh, c0, c1, c2, hf, hs, hq, hl, hm⟩ := h1.out
    have hj : c.at_ < (bv c.live).length := by rw [bv_length, HLV.out]; have := HL2.out; omega
    obtain ⟨ao', cap', e0, -, -, o⟩ := hs.out
    injection e0 with e1 e2 e3
    subst e1 e3
    obtain ⟨b1, of1, rfl, -, cc⟩ := o c.at_ hj
    have d1 : w1.cell? ⟨b1, of1 + c.at_, none⟩ = some (.int .u8 x.toNat) := by rw [cc _ hj, HLV.out, bv_get _ _ _ HX.out]
    have hlt1 : (c.at_ : Int) < ((c.at_ + c.left : Nat) : Int) := by omega
    have hlt2 : (c.at_ : Int) < (c.at_ : Int) + (c.left : Int) := by omega
    clear o cc hs hq e2 hh hj
    go_wp2_with fail
    go_quiet (fail)
    go_wp2_with fail
    rw [xor_u8 _ hx256]
    refine (lead8_any (255 - x.toNat) _ (by omega)).mono ?_
    rintro e w2 ⟨rfl, hw2⟩
    rw [HO.out]
    have s2 : Same w1 w2 := hw2 ▸ Same.drewN _
    clear hw2
    obtain ⟨k, hk⟩ : ∃ k, k = Cur.ones x.toNat := ⟨_, rfl⟩
    rw [← hk] at hole ⊢
    have HK := Lib.hid hk
    clear hk d1 c0 c1 c2 hlt1 hlt2
    have h2 := h1.same s2
    clear h1
    go_wp2_with fail
    refine (left_any w2 p q c h2).mono ?_
    rintro e w3 ⟨rfl, s3⟩
    have h3 := h2.same s3
    have s03 : Same w w3 := (s1.trans s2).trans s3
    clear h2 s1 s2 s3
    by_cases hlk : c.left < 1 + k
    · have hlk' : (c.left : Int) < 1 + (k : Int) := by omega
      go_wp2_with fail
      refine (fail_any _ p q c 3 _ rfl (by decide) h3).mono ?_
      rintro e w4 ⟨rfl, hc4, hf4⟩
      go_wp2_with fail
      go_ret
      have e1 : c.number = (0, c.fail 3) := by unfold Cur.number; rw [if_pos (by rw [HH.out, ← HK.out]; exact hlk)]
      rw [e1]
      exact ⟨rfl, hc4, s03.fr.trans hf4 (by simp)⟩
    · have hlk' : 1 + (k : Int) ≤ (c.left : Int) := by omega
      obtain ⟨ao, cap, hh, c0, c1, c2, hf, hs, hq, hl, hm⟩ := h3.out
      have hne := h3.ne
      have hle1 := HL2.out
      obtain ⟨c', hc'⟩ : ∃ c' : Cur, c' = { c with at_ := c.at_ + 1 } := ⟨_, rfl⟩
      have F1 : Fr [p] w3 (w3.setCell ⟨p, 1, none⟩ (.int .i64 ((c.at_ : Int) + 1))) := (Fr.refl _ _).setCell (by simp) _
      have h4 : CurAt (w3.setCell ⟨p, 1, none⟩ (.int .i64 ((c.at_ : Int) + 1))) p q c' := by
        refine CurAt.of_fr (n := c.at_ + c.left) F1 (by rw [hc']; exact Go.Joins.block_setCell hh _) ?_ hq hne (by rw [hc']; dsimp only; omega)
        have : c'.live = c.live := by rw [hc']; unfold Cur.live; simp [HZ.out]
        rw [this]; exact hs
      have hb' : c'.b.length ≤ 140737488355328 := by rw [hc']; exact hb
      have e4 : c'.take k = ((c.b.drop (c.at_ + 1)).take k, { c with at_ := c.at_ + 1 + k }) := by
        have hz := HZ.out
        rw [hc']
        unfold Cur.take Cur.left
        simp only [hz, if_true]
        rw [if_neg (by simp; omega)]
      have E4 := Lib.hid e4
      have e5 : c.number = (leNat ((c.b.drop (c.at_ + 1)).take k) + 256 ^ k * (if k < 7 then x.toNat % 2 ^ (7 - k) else 0), { c with at_ := c.at_ + 1 + k }) := by
        unfold Cur.number; rw [if_neg (by rw [HH.out, ← HK.out]; exact hlk), HH.out, ← HK.out]
      have E5 := Lib.hid e5
      have hlen : ((c.b.drop (c.at_ + 1)).take k).length = k := by simp; omega
      clear hs hq hl hh e4 e5 hc' h3 hle1 hlen
      go_wp2_with fail
      refine (take_any _ p q c' k _ rfl (by omega) h4 hb').mono ?_
      rintro e w5 ⟨r, rfl, hown, hc5, hf5⟩
      rw [E4.out] at hown hc5
      clear h4 c0 c1 c2 hf
      go_wp2_with fail
      refine (least_any w5 _ _ (Sl.of_own hown) (by simp; omega)).mono ?_
      rintro e w6 ⟨rfl, rfl⟩
      have F : Fr [p] w w5 := (s03.fr.trans F1 (by simp)).trans hf5 (by simp)
      by_cases hk7 : k < 7
      · have hk7' : (k : Int) < 7 := by omega
        go_wp2_with fail
        go_ret
        rw [E5.out]
        refine ⟨?_, hc5, F⟩
        have hsl : leNat (List.take k (List.drop (c.at_ + 1) c.b)) < 256 ^ k := by
          have := leNat_lt (List.take k (List.drop (c.at_ + 1) c.b))
          rwa [List.length_take_of_le (by have := HL2.out; simp; omega)] at this
        have hm := mask_u8 k x.toNat (by omega) (by omega)
        have hlt : x.toNat % 2 ^ (7 - k) < 256 := Nat.lt_of_le_of_lt (Nat.mod_le _ _) (by omega)
        obtain ⟨y, hy⟩ : ∃ y : UInt8, y.toNat = x.toNat % 2 ^ (7 - k) := ⟨UInt8.ofNat (x.toNat % 2 ^ (7 - k)), by simp; omega⟩
        have hst := least_step _ k y (by omega) hsl
        rw [hy] at hst
        simp only [hk7, if_true]
        rw [← hst, ← hm]
        rfl
      · have hk7' : 7 ≤ (k : Int) := by omega
        have HK7 := Lib.hid hk7
        clear hk7
        go_wp2_with fail
        go_ret
        rw [E5.out]
        refine ⟨?_, hc5, F⟩
        simp [HK7.out]
end Go.Proofs.YtcnangcbffoabaaGreatDoor
