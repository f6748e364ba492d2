/- Contract: Told. No condition but that lengths fit. -/
import Derived.Test.YthdfjbliafdchaaReadB
namespace Go.Proofs.Ythdfjbliafdchaa
open Go.RowKit

theorem set_true (k n : Nat) (h : k < n) : (tv (List.replicate k true ++ List.replicate (n - k) false)).set k (.bool true) = tv (List.replicate (k + 1) true ++ List.replicate (n - (k + 1)) false) := by
  obtain ⟨m, rfl⟩ : ∃ m, n = k + 1 + m := ⟨n - k - 1, by omega⟩
  rw [show k + 1 + m - k = m + 1 from by omega, show k + 1 + m - (k + 1) = m from by omega, tv_append, List.set_append_right _ _ (by simp [tv_length])]
  rw [show List.replicate (k + 1) true = List.replicate k true ++ [true] from List.replicate_succ' ..]
  simp [tv, List.replicate_succ (n := m)]

set_option maxRecDepth 100000 in
set_option maxHeartbeats 1000000 in
theorem told_any (w : World) (p : Nat) (q : Option Nat) (c : Cur) (n : Int) (hn : -9223372036854775808 ≤ n ∧ n ≤ 1073741824) (h : CurAt w p q c) (hb : c.b.length ≤ 140737488355328 / 16) :
    Calls Try.prog 77 #[.pointer (some ⟨p, 0, none⟩), .int .i64 n] w (TakeBits p q (c.told n) w) := by
  obtain ⟨_, _, _, _, d1, _⟩ := h.out
  by_cases hl : c.left < 1
  · have e : c.num 1 = (0, c.fail 3) := by
      unfold Cur.num Cur.take Cur.sized
      simp only [BEq.rfl, Bool.true_or, if_true]
      rw [if_pos (.inr (by simpa using hl))]; rfl
    have e2 : c.told n = ([], c.fail 3) := by unfold Cur.told; rw [if_pos (.inl hl)]
    have hz : (((c.fail 3).code : Int) != 0) = true := by
      rw [bne_iff_ne]; unfold Cur.fail; dsimp only; split <;> omega
    have E := Lib.hid e
    have E2 := Lib.hid e2
    clear e e2
    go_enter Try.func77, Try.ntmps77
    go_wp2_with fail
    refine (num_any w p q c 1 h (by omega)).mono ?_
    rintro e w1 ⟨rfl, hc1, hf1⟩
    rw [E.out] at hc1 ⊢
    obtain ⟨_, _, _, _, _, d2, _⟩ := hc1.out
    clear d1 h
    go_wp2_with fail
    go_ret
    rw [E2.out]
    exact ⟨_, rfl, World.ownsRow_nil _ _ _ _, hc1, hf1⟩
  · have hcz : c.code = 0 := by unfold Cur.left at hl; split at hl <;> simp_all
    have hle := h.le
    have hll : c.at_ + c.left = c.b.length := by rw [← c.live_left hle]; simp [Cur.live, hcz]
    obtain ⟨y, hy⟩ := some_get c.b c.at_ (by omega)
    have hhead : c.head = y.toNat := by unfold Cur.head; simp [hy]
    have hy8 := y.toNat_lt
    have e : c.num 1 = (y.toNat, { c with at_ := c.at_ + 1 }) := by
      unfold Cur.num Cur.take Cur.sized
      simp only [BEq.rfl, Bool.true_or, if_true]
      rw [if_neg (by simp [hcz]; omega)]
      have h1 : (c.b.drop c.at_).take (Int.toNat 1) = [y] := by
        show (c.b.drop c.at_).take 1 = [y]
        rw [List.take_one, List.head?_drop, hy]; rfl
      rw [h1]
      simp [leNat]
    have E := Lib.hid e
    have HZ := Lib.hid hcz
    have HH := Lib.hid hhead
    have HLL := Lib.hid hll
    have hz1 : ((c.code : Int) != 0) = false := by simp [hcz]
    clear e hcz hy hhead hll
    go_enter Try.func77, Try.ntmps77
    go_wp2_with fail
    refine (num_any w p q c 1 h (by omega)).mono ?_
    rintro e w1 ⟨rfl, hc1, hf1⟩
    rw [E.out] at hc1 ⊢
    obtain ⟨ao, cap, hh, d0, d1', d2, hfz, _⟩ := hc1.out
    clear d1 h hh d0
    obtain ⟨hset, F1⟩ := hc1.setAt c.at_ HZ.out hle
    by_cases hneg : n < 0
    · have e2 : c.told n = ([], c.fail 3) := by unfold Cur.told; rw [if_pos (.inr hneg)]
      have E2 := Lib.hid e2
      clear e2
      go_wp2_with fail
      refine (fail_any _ p q c 3 _ rfl (by decide) hset).mono ?_
      rintro e w2 ⟨rfl, hc2, hf2⟩
      clear d1' d2 hfz
      go_wp2_with fail
      go_ret
      rw [E2.out]
      exact ⟨_, rfl, World.ownsRow_nil _ _ _ _, hc2, (hf1.trans F1 (by simp)).trans hf2 (by simp)⟩
    · obtain ⟨m, rfl⟩ := Int.eq_ofNat_of_zero_le (show 0 ≤ n by omega)
      have hcond : ¬ (c.left < 1 ∨ (m : Int) < 0) := by omega
      by_cases h1 : y.toNat = 1
      · have t1 : ((y.toNat : Int) == 1) = true := by simp [h1]
        have e2 : c.told m = (List.replicate m true, { c with at_ := c.at_ + 1 }) := by
          unfold Cur.told; rw [if_neg hcond, if_pos (by rw [HH.out, h1])]; rfl
        have E2 := Lib.hid e2
        obtain ⟨i0, hi0, hz0, hs0, hb0⟩ := info_parts info_bool
        have hb0' : i0.bytes * m ≤ 281474976710656 := by rw [hb0]; omega
        clear e2 hcond h1 hset F1
        have HC1 := Lib.hid hc1
        clear hc1
        go_wp2_with (at_make; refine wpList_make_full _ rfl _ _ _ rfl w1.heap.size _ i0 _ _ Try.underlying108 hi0 hz0 hs0 _ _ _ _ m (by rfl) (by rfl) rfl rfl hb0' ?_ ?_ ?_)
        · unfold maxLen; omega
        · omega
        intro w2 hown2 hg2
        have hf2 : Fr [] w1 w2 := (Fr.refl _ _).grown hg2 (by simp)
        have e3 : List.replicate m (Value.bool false) = tv (List.replicate m false) := by simp [tv]
        rw [toList_madeCells_one, e3] at hown2
        clear hg2 e3 hi0 hz0 hs0 hb0 hb0' d1' d2 hfz
        go_wp2_with fail
        go_loopw [8, 38] (fun j i wr => ∃ k : Nat, k ≤ m ∧ i = .int .i64 k ∧ wr.ownsRow w1.heap.size 4 1 (.slice (some ⟨w1.heap.size, 0, none⟩) m m) m (tv (List.replicate k true ++ List.replicate (m - k) false)) ∧ Fr [] w1 wr) (fun _ i _ => m - (intOf i).toNat)
        case atStart => exact ⟨0, Nat.zero_le _, rfl, by simpa using hown2, hf2⟩
        case round =>
          obtain ⟨k, hk, rfl, hown, hF⟩ := hrel
          clear hown2 hf2
          by_cases hlt : k < m
          · have hlt' : (k : Int) < (m : Int) := by omega
            have hcell := hown.cellAt k (by omega)
            obtain ⟨x, hx⟩ := some_get (tv (List.replicate k true ++ List.replicate (m - k) false)) k (by rw [tv_length]; simp; omega)
            rw [hx] at hcell
            have hfz := hown.frozenAt k
            have hst := (hown.stored k (.bool true)).1
            rw [set_true k m hlt] at hst
            have hF' : Fr [] w1 (wr.setCell ⟨w1.heap.size, k, none⟩ (.bool true)) := hF.setCell (by simp) _
            clear hx hown hF
            go_wp2_with fail
            go_roundw
            case rel => exact ⟨k + 1, by omega, by go_num, hst, hF'⟩
            case measure => simp [intOf]; omega
          · have hlt' : (m : Int) ≤ (k : Int) := by omega
            have hkm : k = m := by omega
            have HK := Lib.hid hkm
            clear hkm
            go_wp2_with fail
            go_ret
            rw [E2.out]
            rw [HK.out, Nat.sub_self] at hown
            refine ⟨_, rfl, ?_, HC1.out.fr hF (by simp) (by simp), hf1.trans0 hF⟩
            rw [List.length_replicate]
            exact own_mono (by simpa using hown) hf1.size
      · by_cases h0 : y.toNat = 0
        · have t1 : ((y.toNat : Int) == 1) = false := by simp; omega
          have t0 : ((y.toNat : Int) == 0) = true := by simp [h0]
          obtain ⟨c1, hc1e⟩ : ∃ c1 : Cur, c1 = { c with at_ := c.at_ + 1 } := ⟨_, rfl⟩
          obtain ⟨B, hB⟩ : ∃ B, B = c1.bits m := ⟨_, rfl⟩
          have hbits := bits_any w1 p q c1 m (by omega) (hc1e ▸ hc1) (by rw [hc1e]; exact hb)
          rw [← hB] at hbits
          have HB := Lib.hid hbits
          have e2 : c.told m = if B.2.code ≠ 0 then ([], { B.2 with at_ := c.at_ }) else B := by
            unfold Cur.told; rw [if_neg hcond, if_neg (by rw [HH.out]; exact h1), if_pos (by rw [HH.out]; exact h0), hB, hc1e]
          have hB2 : B.2.code = 0 ∨ B.1 = [] ∧ ∃ kk, kk ≠ 0 ∧ B.2 = c1.fail kk := by
            rw [hB]; unfold Cur.bits; split
            · exact .inr ⟨rfl, 3, by decide, rfl⟩
            · split
              · exact .inr ⟨rfl, 5, by decide, rfl⟩
              · left; rw [hc1e]; exact HZ.out
          have E2 := Lib.hid e2
          have HC1E := Lib.hid hc1e
          clear e2 hcond h1 h0 hc1e hB hbits hset F1
          go_wp2_with (go_at_call 73; refine HB.out.mono ?_)
          rintro e w2 ⟨r, rfl, hown2, hc2, hf2⟩
          have hc1lt : p < w1.heap.size := hc1.lt
          clear d1' d2 hfz hc1
          obtain ⟨ao2, cap2, hh2, g0, g1, g2, gfz, gs, gq, gl, gm⟩ := hc2.out
          have hne2 := hc2.ne
          rcases hB2 with hz | ⟨hb1, kk, hkk, hz⟩
          · have t2 : ((B.2.code : Int) != 0) = false := by simp [hz]
            have HZ2 := Lib.hid hz
            clear hz hh2 gs gq
            go_wp2_with fail
            go_ret
            rw [E2.out, if_neg (by rw [HZ2.out]; simp)]
            exact ⟨_, rfl, own_mono hown2 hf1.size, hc2, hf1.trans hf2 (by simp)⟩
          · have hcode : B.2.code = kk := by rw [hz, HC1E.out]; unfold Cur.fail; simp [HZ.out]
            have t2 : ((B.2.code : Int) != 0) = true := by rw [bne_iff_ne, hcode]; omega
            have hat : B.2.at_ = c.at_ + 1 := by rw [hz, HC1E.out]; rfl
            have hBb : B.2.b = c.b := by rw [hz, HC1E.out]; rfl
            have hle3 : (c.at_ : Int) ≤ (cap2 : Int) := by omega
            have hgs := gs.first c.at_ (by omega)
            have hlive : ({ B.2 with at_ := c.at_ } : Cur).live = B.2.live.take c.at_ := by
              unfold Cur.live
              simp only [hcode, hkk, if_false, hat, hBb, List.take_take]
              congr 1; omega
            rw [← bv_take, ← hlive] at hgs
            have HB1 := Lib.hid hb1
            have HCD := Lib.hid hcode
            have HKK := Lib.hid hkk
            have HBB := Lib.hid hBb
            clear hb1 hz hcode hat hBb hlive hkk gs
            go_wp2_with fail
            go_ret
            rw [E2.out, if_pos (by rw [HCD.out]; exact HKK.out)]
            have F : Fr [p] w2 ((w2.setCell ⟨p, 1, none⟩ (.int .i64 c.at_)).setCell ⟨p, 0, none⟩ (.slice ao2 c.at_ cap2)) := ((Fr.refl _ _).setCell (by simp) _).setCell (by simp) _
            refine ⟨_, rfl, ?_, CurAt.of_fr (c := { B.2 with at_ := c.at_ }) F (Go.Joins.block_setCell (Go.Joins.block_setCell hh2 _) _) hgs (by rw [← gq]; cases ao2 <;> rfl) hne2 (by rw [HBB.out]; omega), (hf1.trans hf2 (by simp)).trans F (by simp)⟩
            rw [HB1.out] at hown2
            refine own_mono (own_fr hown2 F ?_) hf1.size
            intro k hk
            have := hown2.lt k hk
            have := hc1lt
            simp
            omega
        · have t1 : ((y.toNat : Int) == 1) = false := by simp; omega
          have t0 : ((y.toNat : Int) == 0) = false := by simp; omega
          have e2 : c.told m = ([], c.fail 5) := by
            unfold Cur.told; rw [if_neg hcond, if_neg (by rw [HH.out]; exact h1), if_neg (by rw [HH.out]; exact h0)]
          have E2 := Lib.hid e2
          clear e2 hcond h1 h0
          go_wp2_with fail
          refine (fail_any _ p q c 5 _ rfl (by decide) hset).mono ?_
          rintro e w2 ⟨rfl, hc2, hf2⟩
          clear d1' d2 hfz
          go_wp2_with fail
          go_ret
          rw [E2.out]
          exact ⟨_, rfl, World.ownsRow_nil _ _ _ _, hc2, (hf1.trans F1 (by simp)).trans hf2 (by simp)⟩
end Go.Proofs.Ythdfjbliafdchaa
