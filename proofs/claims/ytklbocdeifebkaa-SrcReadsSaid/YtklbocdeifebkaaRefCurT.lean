/- Contract of the reference's Told. No condition but that lengths fit. -/
import Derived.Test.YtklbocdeifebkaaRefCurB
namespace Go.Proofs.Ytklbocdeifebkaa
open Go.RowKit

set_option maxHeartbeats 1000000 in
theorem rtold_any (w : World) (p : Nat) (v : Value) (c : Cur) (n : Int) (hn : -9223372036854775808 ≤ n ∧ n ≤ 1073741824) (h : RCurAt w p v c) (hb : c.b.length ≤ 140737488355328 / 16) :
    Calls Try.prog 42 #[.pointer (some ⟨p, 0, none⟩), .int .i64 n] w (RBits p v (c.told n) w) := by
  by_cases hl : c.left < 1 ∨ n < 0
  · have e2 : c.told n = ([], c.fail 3) := by unfold Cur.told; rw [if_pos hl]
    have E2 := Lib.hid e2
    clear e2
    by_cases h1 : c.left < 1
    · have h1' : (c.left : Int) < 1 := by omega
      clear hl h1
      go_enter Try.func42, Try.ntmps42
      go_wp2_with fail
      refine (rleft_any w p _ c h).mono ?_
      rintro e w1 ⟨rfl, s1⟩
      have hc1 := h.same s1
      go_wp2_with fail
      refine (rfail_any _ p _ c 3 _ rfl (by decide) hc1).mono ?_
      rintro e w2 ⟨rfl, hc2, hf2⟩
      clear h hc1
      go_wp2_with fail
      go_ret
      rw [E2.out]
      exact ⟨_, rfl, World.ownsRow_nil _ _ _ _, hc2, s1.fr.trans hf2 (by simp)⟩
    · have h1' : (1 : Int) ≤ (c.left : Int) := by omega
      have h0 : n < 0 := by omega
      clear hl h1
      go_enter Try.func42, Try.ntmps42
      go_wp2_with fail
      refine (rleft_any w p _ c h).mono ?_
      rintro e w1 ⟨rfl, s1⟩
      have hc1 := h.same s1
      go_wp2_with fail
      refine (rfail_any _ p _ c 3 _ rfl (by decide) hc1).mono ?_
      rintro e w2 ⟨rfl, hc2, hf2⟩
      clear h hc1
      go_wp2_with fail
      go_ret
      rw [E2.out]
      exact ⟨_, rfl, World.ownsRow_nil _ _ _ _, hc2, s1.fr.trans hf2 (by simp)⟩
  · obtain ⟨m, rfl⟩ := Int.eq_ofNat_of_zero_le (show 0 ≤ n by omega)
    have hcond : ¬ (c.left < 1 ∨ (m : Int) < 0) := hl
    have h1' : (1 : Int) ≤ (c.left : Int) := by omega
    have hcz : c.code = 0 := by unfold Cur.left at hl; split at hl <;> simp_all
    have hle := h.le
    have hll : c.at_ + c.left = c.b.length := by unfold Cur.left; rw [if_pos hcz]; omega
    have hin : c.at_ < c.b.length := by omega
    obtain ⟨y, hy⟩ := some_get c.b c.at_ hin
    have hhead : c.head = y.toNat := by unfold Cur.head; simp [hy]
    have hy8 := y.toNat_lt
    have HZ := Lib.hid hcz
    have HH := Lib.hid hhead
    clear hl hll hcz hhead
    go_enter Try.func42, Try.ntmps42
    go_wp2_with fail
    refine (rleft_any w p _ c h).mono ?_
    rintro e w1 ⟨rfl, s1⟩
    have hc1 := h.same s1
    clear h
    obtain ⟨ao, cap, rfl, hh, d0, d1, d2, hfz, hl2, hm2⟩ := hc1.out
    obtain ⟨ao', cap', e0, -, -, o⟩ := hc1.bytes.out
    rw [bv_length] at o
    injection e0 with e1 e2 e3
    subst e1 e3
    obtain ⟨b1, of1, rfl, hbl, cc⟩ := o _ hin
    have d3 : w1.cell? ⟨b1, of1 + c.at_, none⟩ = some (.int .u8 y.toNat) := by rw [cc _ hin, bv_get _ _ _ hy]
    have HC1 := Lib.hid hc1
    have HS1 := Lib.hid s1
    clear e2 o cc hy hh hc1 s1
    have hinI : (c.at_ : Int) < (c.b.length : Int) := by omega
    go_wp2_with fail
    go_quiet (fail)
    obtain ⟨w2, hw2⟩ : ∃ w2, w2 = w1.drewN nq := ⟨_, rfl⟩
    have s2 : Same w w2 := HS1.out.trans ⟨_, hw2⟩
    have hc2 := HC1.out.same (w' := w2) ⟨_, hw2⟩
    rw [← hw2]
    clear d0 d1 d2 d3 hw2 hfz
    by_cases hg : 1 < y.toNat
    · have hg' : (1 : Int) < (y.toNat : Int) := by omega
      have e2 : c.told m = ([], c.fail 5) := by
        unfold Cur.told; rw [if_neg hcond, if_neg (by rw [HH.out]; omega), if_neg (by rw [HH.out]; omega)]
      have E2 := Lib.hid e2
      clear e2 hcond hg
      go_wp2_with fail
      refine (rfail_any _ p _ c 5 _ rfl (by decide) hc2).mono ?_
      rintro e w3 ⟨rfl, hc3, hf3⟩
      clear hc2
      go_wp2_with fail
      go_ret
      rw [E2.out]
      exact ⟨_, rfl, World.ownsRow_nil _ _ _ _, hc3, s2.fr.trans hf3 (by simp)⟩
    · have hg' : (y.toNat : Int) ≤ 1 := by omega
      obtain ⟨w3, hw3⟩ : ∃ w3, w3 = w2.setCell ⟨p, 1, none⟩ (.int .i64 ((c.at_ : Int) + 1)) := ⟨_, rfl⟩
      obtain ⟨hset, F1⟩ : RCurAt w3 p _ { c with at_ := c.at_ + 1 } ∧ Fr [p] w2 w3 := by rw [hw3]; exact hc2.setAt (c.at_ + 1) (by omega)
      have HW3 := Lib.hid hw3
      have F := (Same.fr (S := [p]) s2).trans F1 (by simp)
      obtain ⟨_, _, e0, hh, d0, d1, d2, hfz, -, -⟩ := hc2.out
      injection e0 with e1 e2 e3
      subst e1 e3
      have hatb : c.at_ ≤ 140737488355328 / 16 := by omega
      obtain ⟨c1, hc1e⟩ : ∃ c1 : Cur, c1 = { c with at_ := c.at_ + 1 } := ⟨_, rfl⟩
      rw [← hc1e] at hset
      have HC1E := Lib.hid hc1e
      have HC2 := Lib.hid hc2
      clear e2 hg hc1e d0 hw3
      by_cases h0 : y.toNat = 0
      · have t0 : ((y.toNat : Int) == 0) = true := by simp [h0]
        obtain ⟨B, hB⟩ : ∃ B, B = c1.bits m := ⟨_, rfl⟩
        have e2 : c.told m = if B.2.code ≠ 0 then ([], { B.2 with at_ := c.at_ }) else B := by
          unfold Cur.told; rw [if_neg hcond, if_neg (by rw [HH.out]; omega), if_pos (by rw [HH.out]; exact h0), hB, HC1E.out]
        have hB2 : B.2.code = 0 ∨ B.1 = [] ∧ B.2.b = c.b := by
          rw [hB]; unfold Cur.bits; split
          · exact .inr ⟨rfl, by rw [HC1E.out]; rfl⟩
          · split
            · exact .inr ⟨rfl, by rw [HC1E.out]; rfl⟩
            · left; rw [HC1E.out]; exact HZ.out
        have E2 := Lib.hid e2
        have hbits := fun w' v' (h' : RCurAt w' p v' c1) => rbits_any w' p v' c1 m (by omega) h' (by rw [HC1E.out]; exact hb)
        rw [← hB] at hbits
        have HB := Lib.hid hbits
        clear e2 hcond h0 hB hbits
        go_wp2_with fail
        rw [← HW3.out]
        refine (HB.out _ _ hset).mono ?_
        rintro e w4 ⟨r, rfl, hown3, hc3, hf3⟩
        clear hset hh d1 d2 hfz hc2
        obtain ⟨_, _, e0, hh, d0, d1, d2, hfz, -, -⟩ := hc3.out
        injection e0 with e1 e2 e3
        clear e1 e2 e3
        rcases hB2 with hz | ⟨hb1, hb2⟩
        · have t2 : ((B.2.code : Int) != 0) = false := by simp [hz]
          have HZ2 := Lib.hid hz
          clear hz
          go_wp2_with fail
          go_ret
          rw [E2.out, if_neg (by rw [HZ2.out]; simp)]
          exact ⟨_, rfl, own_mono hown3 F.size, hc3, F.trans hf3 (by simp)⟩
        · by_cases hz : B.2.code = 0
          · have t2 : ((B.2.code : Int) != 0) = false := by simp [hz]
            have HZ2 := Lib.hid hz
            clear hz
            go_wp2_with fail
            go_ret
            rw [E2.out, if_neg (by rw [HZ2.out]; simp)]
            exact ⟨_, rfl, own_mono hown3 F.size, hc3, F.trans hf3 (by simp)⟩
          · have t2 : ((B.2.code : Int) != 0) = true := by rw [bne_iff_ne]; omega
            have HZ2 := Lib.hid hz
            have HB1 := Lib.hid hb1
            have hplt := HC2.out.lt
            have hF1 := F1.size
            obtain ⟨hset, F4⟩ := hc3.setAt c.at_ (by rw [hb2]; exact hle)
            clear hz hb1
            go_wp2_with fail
            go_ret
            rw [E2.out, if_pos HZ2.out]
            rw [HB1.out] at hown3
            refine ⟨_, rfl, own_mono (own_fr hown3 F4 ?_) F.size, hset, (F.trans hf3 (by simp)).trans F4 (by simp)⟩
            intro k hk
            have := hown3.lt k hk
            simp; omega
      · have t0 : ((y.toNat : Int) == 0) = false := by simp; omega
        have e2 : c.told m = (List.replicate m true, c1) := by
          unfold Cur.told; rw [if_neg hcond, if_pos (by rw [HH.out]; omega), HC1E.out]; rfl
        have E2 := Lib.hid e2
        clear e2 hcond h0 hc2
        go_wp2_with fail
        rw [← HW3.out]
        clear d1 d2 hfz hh
        go_loopw [8, 9] (fun out i wr => ∃ k : Nat, k ≤ m ∧ i = .int .i64 k ∧ wr.ownsRow w3.heap.size 4 1 out k (tv (List.replicate k true)) ∧ Fr [] w3 wr) (fun _ i _ => m - (intOf i).toNat)
        case atStart => exact ⟨0, Nat.zero_le _, rfl, World.ownsRow_nil _ _ _ _, Fr.refl _ _⟩
        case round =>
          obtain ⟨k, hk, rfl, hown, hF⟩ := hrel
          by_cases hlt : k < m
          · have hlt' : (k : Int) < (m : Int) := by omega
            go_wp2_with (at_builtin; refine wpList_append_one sty_bool rfl _ _ rfl hF _ _ _ (by rfl) hown _ (by rfl) (by rfl) ?_ ?_ ?_)
            · omega
            · omega
            intro v3 w4 hown3 hF3
            clear hown hF
            go_wp2_with fail
            go_roundw
            case rel => exact ⟨k + 1, by omega, by go_num, by rw [List.replicate_succ', tv_append]; exact hown3, hF3⟩
            case measure => simp [intOf]; omega
          · have hlt' : (m : Int) ≤ (k : Int) := by omega
            have hkm : k = m := by omega
            have HK := Lib.hid hkm
            clear hkm
            go_wp2_with fail
            go_ret
            rw [E2.out]
            rw [HK.out] at hown
            refine ⟨_, rfl, ?_, hset.fr hF (by simp) (by simp), F.trans0 hF⟩
            rw [List.length_replicate]
            exact own_mono hown F.size
end Go.Proofs.Ytklbocdeifebkaa
