/- Contract of the reference's Number. No condition but that lengths fit. -/
import Derived.Test.YtklbocdeifebkaaRefCurA
import Derived.Test.YtklbocdeifebkaaShortSpec
namespace Go.Proofs.Ytklbocdeifebkaa
open Go.RowKit

theorem ones_walk (x j : Nat) (hx : x < 256) (hj : j < Cur.ones x) : j < 8 ∧ 128 / 2 ^ j ≤ x % 2 ^ (8 - j) ∧ x % 2 ^ (8 - j) - 128 / 2 ^ j = x % 2 ^ (8 - (j + 1)) := by
  have key : ∀ (z : Fin 256) (n : Fin 8), n.val < Cur.ones z.val → 128 / 2 ^ n.val ≤ z.val % 2 ^ (8 - n.val) ∧ z.val % 2 ^ (8 - n.val) - 128 / 2 ^ n.val = z.val % 2 ^ (8 - (n.val + 1)) := by decide +kernel
  have h8 := Cur.ones_le x
  have := key ⟨x, hx⟩ ⟨j, by omega⟩ hj
  exact ⟨by omega, this.1, this.2⟩

theorem ones_stop (x : Nat) (hx : x < 256) : (Cur.ones x < 8 → x % 2 ^ (8 - Cur.ones x) < 128 / 2 ^ Cur.ones x) ∧ (Cur.ones x < 7 → x % 2 ^ (8 - Cur.ones x) = x % 2 ^ (7 - Cur.ones x)) := by
  have key : ∀ (z : Fin 256), (Cur.ones z.val < 8 → z.val % 2 ^ (8 - Cur.ones z.val) < 128 / 2 ^ Cur.ones z.val) ∧ (Cur.ones z.val < 7 → z.val % 2 ^ (8 - Cur.ones z.val) = z.val % 2 ^ (7 - Cur.ones z.val)) := by decide +kernel
  exact key ⟨x, hx⟩

set_option maxRecDepth 100000 in
set_option maxHeartbeats 1000000 in
theorem rnumber_any (w : World) (p : Nat) (v : Value) (c : Cur) (h : RCurAt w p v c) (hb : c.b.length ≤ 140737488355328) :
    Calls Try.prog 36 #[.pointer (some ⟨p, 0, none⟩)] w fun e w' =>
      e = .returned (.int .u64 c.number.1) ∧ RCurAt w' p v c.number.2 ∧ Fr [p] w w' := by
  have hle := h.le
  by_cases h0 : c.left < 1
  · have e1 : c.number = (0, c.fail 3) := by unfold Cur.number; rw [if_pos (by omega)]
    rw [e1]
    have t0 : (c.left : Int) < 1 := by omega
    clear h0 e1
    go_enter Try.func36, Try.ntmps36
    go_wp2_with fail
    refine (rleft_any w p v c h).mono ?_
    rintro e w1 ⟨rfl, s1⟩
    have h1 := h.same s1
    clear h
    go_wp2_with fail
    refine (rfail_any _ p v c 3 _ rfl (by decide) h1).mono ?_
    rintro e w2 ⟨rfl, hc2, hf2⟩
    go_wp2_with fail
    go_ret
    exact ⟨rfl, hc2, s1.fr.trans hf2 (by simp)⟩
  · have t0 : (1 : Int) ≤ (c.left : Int) := by omega
    have hz : c.code = 0 := by unfold Cur.left at h0; split at h0 <;> simp_all
    have hll : c.at_ + c.left = c.b.length := by unfold Cur.left; rw [if_pos hz]; omega
    obtain ⟨x, hx⟩ := some_get c.b c.at_ (by omega)
    have hhead : c.head = x.toNat := by unfold Cur.head; simp [hx]
    have hx256 := x.toNat_lt
    have hole := Cur.ones_le x.toNat
    have HZ := Lib.hid hz
    have HLL := Lib.hid hll
    have HX := Lib.hid hx
    have HH := Lib.hid hhead
    obtain ⟨K, hK⟩ : ∃ K, K = Cur.ones x.toNat := ⟨_, rfl⟩
    rw [← hK] at hole
    have HK := Lib.hid hK
    clear hz hll hx hhead hK
    go_enter Try.func36, Try.ntmps36
    go_wp2_with fail
    refine (rleft_any w p v c h).mono ?_
    rintro e w1 ⟨rfl, s1⟩
    have h1 := h.same s1
    obtain ⟨ao, cap, rfl, hh, c0, c1, c2, hf, hl, hm⟩ := h1.out
    have hatl : c.at_ < c.b.length := by have := HLL.out; omega
    obtain ⟨_, _, e0, -, -, o⟩ := h1.bytes.out
    rw [bv_length] at e0 o
    injection e0 with e1 e2 e3
    subst e1 e3
    obtain ⟨b1, of1, rfl, -, cc⟩ := o c.at_ hatl
    have d1 : w1.cell? ⟨b1, of1 + c.at_, none⟩ = some (.int .u8 x.toNat) := by rw [cc _ hatl, bv_get _ _ _ HX.out]
    have hlt1 : (c.at_ : Int) < (c.b.length : Int) := by omega
    clear o cc e2 hh h
    go_wp2_with fail
    go_quiet (fail)
    obtain ⟨w2, hw2⟩ : ∃ w2, w2 = w1.drewN nq := ⟨_, rfl⟩
    rw [← hw2]
    have s2 : Same w w2 := s1.trans ⟨_, hw2⟩
    have h2 : RCurAt w2 p _ c := h1.same ⟨_, hw2⟩
    clear hw2 h1 s1 c0 c1 c2 hf d1
    generalize hgen : (some (⟨b1, of1, none⟩ : Addr)) = ao at h2 ⊢
    have HG := Lib.hid hgen
    clear hgen
    go_wp2_with fail
    go_loop [4, 5] (fun k r => ∃ j R : Nat, j ≤ K ∧ k = .int .i64 j ∧ r = .int .i64 R ∧ Hid (R = x.toNat % 2 ^ (8 - j))) (fun k _ => 8 - (intOf k).toNat)
    case atStart => exact ⟨0, x.toNat, Nat.zero_le _, rfl, rfl, by show x.toNat = x.toNat % 2 ^ 8; rw [Nat.mod_eq_of_lt hx256]⟩
    case round =>
      obtain ⟨j, R, hj, rfl, rfl, HR⟩ := hrel
      have hR256 : R < 256 := by rw [HR.out]; exact Nat.lt_of_le_of_lt (Nat.mod_le _ _) hx256
      by_cases hlt : j < K
      · obtain ⟨w1', w2', w3'⟩ := ones_walk x.toNat j (by omega) (by rw [← HK.out]; exact hlt)
        rw [← HR.out] at w2' w3'
        obtain ⟨s, hs⟩ : ∃ s, s = 128 / 2 ^ j := ⟨_, rfl⟩
        have hs1 := sh_bounds j w1'
        rw [← hs] at hs1 w2' w3'
        have hsI : (128 : Int) / 2 ^ j = (s : Int) := by rw [hs]; simp
        have hj8 : (j : Int) < 8 := by omega
        have hge : (s : Int) ≤ (R : Int) := by omega
        have HN := Lib.hid w3'
        clear hs w3'
        go_wp2_with fail
        go_round
        case rel => exact ⟨j + 1, R - s, by omega, by go_num, by congr 1; omega, HN.out⟩
        case measure => simp [intOf]; omega
      · have hjK : j = K := by omega
        obtain ⟨g1, g2⟩ := ones_stop x.toNat (by omega)
        rw [← HK.out, ← hjK, ← HR.out] at g1 g2
        have hexit : j = 8 ∨ (j < 8 ∧ R < 128 / 2 ^ j) := by by_cases h8 : j < 8; exact .inr ⟨h8, g1 h8⟩; exact .inl (by omega)
        have HJK := Lib.hid hjK
        have HG2 := Lib.hid g2
        have hj8' : j ≤ 8 := by omega
        clear hjK g1 g2 hj hlt
        rcases hexit with h8 | ⟨h8, hlt8⟩
        case' inl =>
          have h8' : (8 : Int) ≤ (j : Int) := by omega
          clear h8
          go_wp2_with fail
        case' inr =>
          obtain ⟨s, hs⟩ : ∃ s, s = 128 / 2 ^ j := ⟨_, rfl⟩
          have hs1 := sh_bounds j h8
          have hsI : (128 : Int) / 2 ^ j = (s : Int) := by rw [hs]; simp
          rw [← hs] at hlt8 hs1
          have hlt8' : (R : Int) < (s : Int) := by omega
          have h8' : (j : Int) < 8 := by omega
          clear hs h8
          go_wp2_with fail
        all_goals
          refine (rleft_any w2 p _ c h2).mono ?_
          rintro e w3 ⟨rfl, s3⟩
          have s03 := s2.trans s3
          have h3 := h2.same s3
          clear s3 s2 h2
          by_cases hlk : c.left < 1 + j
          · have hlk' : (c.left : Int) < 1 + (j : Int) := by omega
            go_wp2_with fail
            refine (rfail_any w3 p _ c 3 _ rfl (by decide) h3).mono ?_
            rintro e w4 ⟨rfl, hc4, hf4⟩
            go_wp2_with fail
            go_ret
            have e1 : c.number = (0, c.fail 3) := by unfold Cur.number; rw [if_pos (by rw [HH.out, ← HK.out, ← HJK.out]; exact hlk)]
            rw [e1]
            have hge := HG.out
            subst hge
            exact ⟨rfl, hc4, s03.fr.trans hf4 (by simp)⟩
          · have hlk' : 1 + (j : Int) ≤ (c.left : Int) := by omega
            have hatk : c.at_ + 1 + j ≤ c.b.length := by have := HLL.out; omega
            obtain ⟨_, _, e0, hh, c0, c1, c2, hf, _⟩ := h3.out
            injection e0 with e1 e2 e3
            subst e1 e3
            clear e2
            have hcut := h3.bytes.cut (c.at_ + 1) (c.at_ + 1 + j) (by omega) (by omega)
            have e7 : c.at_ + 1 + j - (c.at_ + 1) = j := by omega
            rw [e7, ← bv_drop, ← bv_take] at hcut
            have hlen : ((c.b.drop (c.at_ + 1)).take j).length = j := by simp; omega
            have HLN := Lib.hid hlen
            have e8 : c.number = (leNat ((c.b.drop (c.at_ + 1)).take j) + 256 ^ j * (if j < 7 then x.toNat % 2 ^ (7 - j) else 0), { c with at_ := c.at_ + 1 + j }) := by
              unfold Cur.number; rw [if_neg (by rw [HH.out, ← HK.out, ← HJK.out]; exact hlk), HH.out, ← HK.out, ← HJK.out]
            have E8 := Lib.hid e8
            have e1 : IntKind.i64.wrap ((c.at_ : Int) + 1) = (c.at_ : Int) + 1 := IntWalk.i64_in _ (by omega)
            have e2 : IntKind.i64.wrap ((c.at_ : Int) + 1 + j) = (c.at_ : Int) + 1 + j := IntWalk.i64_in _ (by omega)
            have e3 : ((c.at_ : Int) + 1 + j).toNat = c.at_ + 1 + j := by omega
            have e4 : (0 : Int) ≤ (c.at_ : Int) + 1 + j := by omega
            have e5 : (c.at_ : Int) + 1 + j ≤ (cap : Int) := by omega
            have e6 : ((c.at_ : Int) + 1).toNat = c.at_ + 1 := by omega
            have e9 : (0 : Int) ≤ (c.at_ : Int) + 1 := by omega
            have e10 : (c.at_ : Int) + 1 ≤ (c.at_ : Int) + 1 + j := by omega
            have eadd : (fun x : Addr => x.add (c.at_ + 1)) = (fun x : Addr => (⟨x.block, x.off + (c.at_ + 1), none⟩ : Addr)) := by funext x; unfold Addr.add; rw [if_neg (by omega)]
            rw [eadd] at hcut
            clear hlen e8 hh
            go_wp2_with fail
            go_still_tail 17, (by kernel_rfl)
            clear e1 e2 e3 e4 e5 e6 e7 e9 e10 eadd c0 c1 c2 hf
            change wpList _ _ _ _ _ w3.drew
            generalize (if cap = c.at_ + 1 then ao else Option.map (fun x : Addr => (⟨x.block, x.off + (c.at_ + 1), none⟩ : Addr)) ao) = ad at hcut ⊢
            obtain ⟨w4, hw4⟩ : ∃ w4, w4 = w3.drew := ⟨_, rfl⟩
            rw [← hw4]
            have s34 : Same w3 w4 := hw4 ▸ Same.drew
            have s04 := s03.trans s34
            have h4 := h3.same s34
            have hcut4 := hcut.fr0 s34.fr
            clear hw4 s34 h3 hcut s03
            go_wp2_with fail
            refine (value_any w4 _ _ hcut4 (by rw [HLN.out]; omega)).mono ?_
            rintro e w5 ⟨rfl, s5⟩
            have s05 := s04.trans s5
            have h5 := h4.same s5
            obtain ⟨V, hV⟩ : ∃ V, V = leNat ((c.b.drop (c.at_ + 1)).take j) := ⟨_, rfl⟩
            have hVl : V < 256 ^ j := by rw [hV]; have := leNat_lt ((c.b.drop (c.at_ + 1)).take j); rwa [HLN.out] at this
            rw [← hV] at E8 ⊢
            clear s04 s5 h4 hcut4 hV
            obtain ⟨hset, Fs⟩ := h5.setAt (c.at_ + 1 + j) hatk
            rw [Int.natCast_add, Int.natCast_add] at hset Fs
            obtain ⟨_, _, e0, hh, c0, c1, c2, hf, _⟩ := h5.out
            injection e0 with e1 e2 e3
            subst e1 e3
            clear e2 hh
            by_cases h7 : j < 7
            · first
              | (exfalso; omega)
              | (
                  have h7' : (j : Int) < 7 := by omega
                  obtain ⟨P, hP⟩ : ∃ P, P = 256 ^ j := ⟨_, rfl⟩
                  have hRv := HG2.out h7
                  have hRlt : R < 2 ^ (7 - j) := by rw [hRv]; exact Nat.mod_lt _ (Nat.pow_pos (by decide))
                  obtain ⟨Z, hZ⟩ : ∃ Z, Z = R * P := ⟨_, rfl⟩
                  have hZI : (R : Int) * (P : Int) = (Z : Int) := by rw [hZ]; simp
                  have hVZ : V + Z < 18446744073709551616 ∧ Z < 18446744073709551616 := by
                    have h1 : R * P + P ≤ 2 ^ (7 - j) * P := by rw [← Nat.succ_mul]; exact Nat.mul_le_mul_right _ hRlt
                    have h2 : 2 ^ (7 - j) * P = 2 ^ (7 * j + 7) := by rw [hP, pow256, ← Nat.pow_add]; congr 1; omega
                    have h3 : 2 ^ (7 * j + 7) ≤ 2 ^ 63 := Nat.pow_le_pow_right (by decide) (by omega)
                    rw [← hP] at hVl
                    omega
                  have hfin : V + 256 ^ j * (if j < 7 then x.toNat % 2 ^ (7 - j) else 0) = V + Z := by rw [if_pos h7, ← hRv, hZ, ← hP, Nat.mul_comm]
                  have hw1 : IntKind.u64.wrap (Z : Int) = (Z : Int) := wrap_u64_nat _ hVZ.2
                  have hw2 : IntKind.u64.wrap ((V : Int) + (Z : Int)) = (V : Int) + (Z : Int) := by
                    have := wrap_u64_nat _ hVZ.1
                    rwa [Int.natCast_add] at this
                  have HF := Lib.hid hfin
                  have HP := Lib.hid hP
                  clear hP hRv hZ hfin h7 HG2
                  go_wp2_with (go_at_call 50; refine (power_any _ j P (by omega) HP.out).mono ?_; rintro e w6 ⟨rfl, rfl⟩)
                  go_ret
                  rw [E8.out]
                  have hge := HG.out
                  subst hge
                  exact ⟨by dsimp only; rw [HF.out]; simp, hset, s05.fr.trans Fs (by simp)⟩)
            · have h7' : (7 : Int) ≤ (j : Int) := by omega
              have HF : Hid (V + 256 ^ j * (if j < 7 then x.toNat % 2 ^ (7 - j) else 0) = V) := by show _ = V; rw [if_neg h7]; omega
              clear h7 HG2
              go_wp2_with fail
              go_ret
              rw [E8.out]
              have hge := HG.out
              subst hge
              exact ⟨by dsimp only; rw [HF.out]; rfl, hset, s05.fr.trans Fs (by simp)⟩
end Go.Proofs.Ytklbocdeifebkaa
