/- Contract of the reference's Bits. No condition but that lengths fit. -/
import Derived.Test.YtklbocdeifebkaaRefCurA
namespace Go.Proofs.Ytklbocdeifebkaa
open Go.RowKit

/-- New bits, and the reference's cursor behind it. -/
def RBits (p : Nat) (v : Value) (r : List Bool × Cur) (w : World) (e : Ending) (w' : World) : Prop :=
  ∃ x, e = .returned x ∧ w'.ownsRow w.heap.size 4 1 x r.1.length (tv r.1) ∧ RCurAt w' p v r.2 ∧ Fr [p] w w'

theorem rbits_fail (w : World) (p : Nat) (v : Value) (c : Cur) (n : Int) (hn : -9223372036854775808 ≤ n ∧ n ≤ 9223372036854775807) (h : RCurAt w p v c) (hf : c.code ≠ 0 ∨ n < 0 ∨ c.left < (n.toNat + 7) / 8) :
    Calls Try.prog 40 #[.pointer (some ⟨p, 0, none⟩), .int .i64 n] w (RBits p v ([], c.fail 3) w) := by
  have hcap : c.left ≤ 9223372036854775807 := by
    obtain ⟨_, cap, _, _, _, _, _, _, h1, h2⟩ := h.out
    unfold Cur.left; split <;> omega
  obtain ⟨ao, cap, rfl, hh, c0, c1, c2, hfz, hl, hm⟩ := h.out
  by_cases hz : c.code = 0
  · have t0 : ((c.code : Int) != 0) = false := by simp [hz]
    by_cases h0 : n < 0
    · clear hf hz
      go_enter Try.func40, Try.ntmps40
      go_wp2_with fail
      refine (rfail_any w p _ c 3 _ rfl (by decide) h).mono ?_
      rintro e w2 ⟨rfl, hc2, hf2⟩
      clear c0 c1 c2 hfz
      go_wp2_with fail
      go_ret
      exact ⟨_, rfl, World.ownsRow_nil _ _ _ _, hc2, hf2⟩
    · obtain ⟨n, rfl⟩ := Int.eq_ofNat_of_zero_le (show 0 ≤ n by omega)
      rw [Int.toNat_natCast] at hf
      by_cases h1 : c.left < n / 8
      · have h1' : (c.left : Int) < (n : Int) / 8 := by omega
        clear hf hz
        go_enter Try.func40, Try.ntmps40
        go_wp2_with fail
        refine (rleft_any w p _ c h).mono ?_
        rintro e w1 ⟨rfl, s1⟩
        have hc1 := h.same s1
        clear c0 c1 c2 hfz
        go_wp2_with fail
        refine (rfail_any _ p _ c 3 _ rfl (by decide) hc1).mono ?_
        rintro e w2 ⟨rfl, hc2, hf2⟩
        clear h hc1
        go_wp2_with fail
        go_ret
        exact ⟨_, rfl, World.ownsRow_nil _ _ _ _, hc2, s1.fr.trans hf2 (by simp)⟩
      · have h1' : (n : Int) / 8 ≤ (c.left : Int) := by omega
        by_cases h8 : n % 8 = 0
        · exfalso; omega
        · have h8' : (0 : Int) < (n : Int) % 8 := by omega
          have h2' : (c.left : Int) < (n : Int) / 8 + 1 := by omega
          clear hf hz
          go_enter Try.func40, Try.ntmps40
          go_wp2_with fail
          refine (rleft_any w p _ c h).mono ?_
          rintro e w1 ⟨rfl, s1⟩
          have hc1 := h.same s1
          clear c0 c1 c2 hfz
          go_wp2_with fail
          refine (rleft_any w1 p _ c hc1).mono ?_
          rintro e w2 ⟨rfl, s2⟩
          have hc2 := hc1.same s2
          go_wp2_with fail
          refine (rfail_any _ p _ c 3 _ rfl (by decide) hc2).mono ?_
          rintro e w3 ⟨rfl, hc3, hf3⟩
          clear h hc1 hc2
          go_wp2_with fail
          go_ret
          exact ⟨_, rfl, World.ownsRow_nil _ _ _ _, hc3, (s1.trans s2).fr.trans hf3 (by simp)⟩
  · have t0 : ((c.code : Int) != 0) = true := by rw [bne_iff_ne]; omega
    clear hf hz
    go_enter Try.func40, Try.ntmps40
    go_wp2_with fail
    refine (rfail_any w p _ c 3 _ rfl (by decide) h).mono ?_
    rintro e w2 ⟨rfl, hc2, hf2⟩
    clear c0 c1 c2 hfz
    go_wp2_with fail
    go_ret
    exact ⟨_, rfl, World.ownsRow_nil _ _ _ _, hc2, hf2⟩

theorem shr_some (m : Nat) (h : m < 8) : 1 ≤ 128 / 2 ^ m ∧ 128 / 2 ^ m ≤ 128 := by
  have key : ∀ m : Fin 8, 1 ≤ 128 / 2 ^ m.val ∧ 128 / 2 ^ m.val ≤ 128 := by decide
  exact key ⟨m, h⟩

set_option maxHeartbeats 1000000 in
theorem rbits_ok (w : World) (p : Nat) (v : Value) (c : Cur) (n : Nat) (h : RCurAt w p v c) (hz : c.code = 0) (hl : (n + 7) / 8 ≤ c.left) (hb : c.b.length ≤ 140737488355328 / 16) :
    Calls Try.prog 40 #[.pointer (some ⟨p, 0, none⟩), .int .i64 n] w (RBits p v (c.bits n) w) := by
  have hle := h.le
  have hll : c.at_ + c.left = c.b.length := by unfold Cur.left; rw [if_pos hz]; omega
  have hnb : n ≤ 70368744177664 := by omega
  have t0 : ((c.code : Int) != 0) = false := by simp [hz]
  obtain ⟨ao, cap, rfl, hh, c0, c1, c2, hfz, hl2, hm⟩ := h.out
  obtain ⟨N, hN⟩ : ∃ N, N = (n + 7) / 8 := ⟨_, rfl⟩
  have hNl : N ≤ c.left := by omega
  have hNI : (N : Int) ≤ (c.left : Int) := by omega
  have h1' : (n : Int) / 8 ≤ (c.left : Int) := by omega
  have hab : c.at_ + N ≤ c.b.length := by omega
  obtain ⟨R, hR⟩ : ∃ R, R = c.row n := ⟨_, rfl⟩
  have hrow : ∀ j, j < N → R[j]? = c.b[c.at_ + j]? := by
    intro j hj
    rw [hR]; unfold Cur.row
    rw [← hN, List.getElem?_take, if_pos hj, List.getElem?_drop]
  have HZ := Lib.hid hz
  have HLL := Lib.hid hll
  have HN := Lib.hid hN
  have HR := Lib.hid hR
  have HROW := Lib.hid hrow
  have hNb : N ≤ 8796093022208 := by omega
  have hsz : (0 < n % 8 ∧ n / 8 + 1 = N) ∨ (n % 8 = 0 ∧ n / 8 = N) := by omega
  clear hz hll hN hR hrow hh
  rcases hsz with ⟨h8, hs⟩ | ⟨h8, hs⟩
  case' inl =>
    have h8' : (0 : Int) < (n : Int) % 8 := by omega
    have hs' : (n : Int) / 8 + 1 = (N : Int) := by omega
    clear h8 hs
    have HS := Lib.hid hs'
    go_enter Try.func40, Try.ntmps40
    go_wp2_with fail
  case' inr =>
    have h8' : (n : Int) % 8 ≤ 0 := by omega
    have hs' : (n : Int) / 8 = (N : Int) := by omega
    clear h8 hs
    go_enter Try.func40, Try.ntmps40
    go_wp2_with fail
  all_goals
    refine (rleft_any w p _ c h).mono ?_
    rintro e w1 ⟨rfl, s1⟩
    have hc1 := h.same s1
    clear c0 c1 c2 hfz
    go_wp2_with fail
    refine (rleft_any w1 p _ c hc1).mono ?_
    rintro e w2 ⟨rfl, s2⟩
    have hc2 := hc1.same s2
    go_wp2_with fail
    have s12 := s1.trans s2
    have HS2 := Lib.hid s12
    have HC := Lib.hid hc2
    clear hc1 s1 s2 s12 h
    try clear HS
    have hg := hc2.bytes.out
    obtain ⟨ao', cap', e0, -, -, o⟩ := hg
    rw [bv_length] at o
    injection e0 with e1 e2 e3
    subst e1 e3
    have HO := Lib.hid o
    clear o e2
    obtain ⟨_, _, e0, hh, d0, d1, d2, hfz, -, -⟩ := hc2.out
    injection e0 with e1 e2 e3
    subst e1 e3
    have hplt := hc2.lt
    clear e2 hh h1' h8' hc2 hNl hNI
    try generalize decide (c.left < N) = x37
    go_loopw [6, 7] (fun out i wr => ∃ k : Nat, k ≤ 8 * N ∧ i = .int .i64 k ∧ wr.ownsRow w2.heap.size 4 1 out (min k n) (tv (unpack R (min k n))) ∧ Fr [] w2 wr ∧ Hid (∀ i, n ≤ i → i < k → bitOf R i = false)) (fun _ i _ => 8 * N - (intOf i).toNat)
    case atStart => exact ⟨0, Nat.zero_le _, rfl, by rw [Nat.zero_min]; exact World.ownsRow_nil _ _ _ _, Fr.refl _ _, Lib.hid (by intro i _ h; omega)⟩
    case round =>
      obtain ⟨k, hk, rfl, hown, hF, HB⟩ := hrel
      have d0 := (hF.cell (p := ⟨p, 0, none⟩) hplt (by simp)).trans d0
      have d1 := (hF.cell (p := ⟨p, 1, none⟩) hplt (by simp)).trans d1
      by_cases hlt : k < 8 * N
      · have hlt' : (k : Int) < 8 * (N : Int) := by omega
        have hkN : k / 8 < N := by omega
        obtain ⟨y, hy⟩ := some_get R (k / 8) (by have := HLL.out; rw [HR.out]; unfold Cur.row; rw [← HN.out]; simp; omega)
        have hy2 : c.b[c.at_ + k / 8]? = some y := by rw [← HROW.out _ hkN, hy]
        have hin : c.at_ + k / 8 < c.b.length := by omega
        obtain ⟨b1, of1, rfl, hbl, cc⟩ := HO.out _ hin
        have d3 : wr.cell? ⟨b1, of1 + (c.at_ + k / 8), none⟩ = some (.int .u8 y.toNat) := by rw [hF.cell (p := ⟨b1, of1 + (c.at_ + k / 8), none⟩) hbl (by simp), cc _ hin, bv_get _ _ _ hy2]
        have e1 : IntKind.i64.wrap ((k : Int) / 8) = (k : Int) / 8 := IntWalk.i64_in _ (by omega)
        have e2 : IntKind.i64.wrap ((c.at_ : Int) + (k : Int) / 8) = (c.at_ : Int) + (k : Int) / 8 := IntWalk.i64_in _ (by omega)
        have e3 : (k : Int).tmod 8 = (k : Int) % 8 := Int.tmod_eq_emod_of_nonneg (by omega)
        have e4 : ((c.at_ : Int) + (k : Int) / 8).toNat = c.at_ + k / 8 := by omega
        have e5 : (0 : Int) ≤ (c.at_ : Int) + (k : Int) / 8 := by omega
        have e6 : (c.at_ : Int) + (k : Int) / 8 < (c.b.length : Int) := by omega
        have e7 : IntKind.i64.wrap (y.toNat : Int) = (y.toNat : Int) := IntWalk.i64_in _ (by have := y.toNat_lt; omega)
        obtain ⟨Q, hQ⟩ : ∃ Q, Q = 128 / 2 ^ (k % 8) := ⟨_, rfl⟩
        obtain ⟨Z, hZ⟩ : ∃ Z, Z = y.toNat / Q := ⟨_, rfl⟩
        have hQb := shr_some (k % 8) (by omega)
        rw [← hQ] at hQb
        have e8 : (128 : Int) / 2 ^ (k % 8) = (Q : Int) := by rw [hQ]; simp
        have e10 : ((k : Int) % 8).toNat = k % 8 := by omega
        have n0 : ¬ ((128 : Int) / 2 ^ (k % 8) = 0) := by rw [e8]; omega
        have n1 : ((128 : Int) / 2 ^ (k % 8) == 0) = false := by rw [e8]; simp; omega
        have e12 : (y.toNat : Int) / ((128 : Int) / 2 ^ (k % 8)) = (Z : Int) := by rw [e8, hZ]; simp
        have e16 : (y.toNat : Int).tdiv ((128 : Int) / 2 ^ (k % 8)) = (Z : Int) := by rw [Int.tdiv_eq_ediv_of_nonneg (by omega)]; exact e12
        have hZb : Z ≤ 255 := by rw [hZ]; exact Nat.le_trans (Nat.div_le_self _ _) (by have := y.toNat_lt; omega)
        have e13 : IntKind.i64.wrap (Z : Int) = (Z : Int) := IntWalk.i64_in _ (by omega)
        have e14 : (Z : Int).tmod 2 = (Z : Int) % 2 := Int.tmod_eq_emod_of_nonneg (by omega)
        obtain ⟨B, hB⟩ : ∃ B, B = bitOf R k := ⟨_, rfl⟩
        have e15 : ((Z : Int) % 2 == 1) = B := by
          rw [hB]; unfold bitOf
          rw [show R.getD (k / 8) 0 = y from by simp [hy], ← hQ, ← hZ, Bool.eq_iff_iff]
          simp; omega
        have HV := Lib.hid hB
        clear hB e8
        clear hQ hZ hQb hZb hy hy2 cc
        go_wp2_with fail
        go_quiet (fail)
        obtain ⟨wd, hwd⟩ : ∃ wd, wd = wr.drewN nq := ⟨_, rfl⟩
        have hF2 : Fr [] w2 wd := hF.trans0 (Same.fr ⟨_, hwd⟩)
        have hown2 := own_fr hown (Same.fr ⟨_, hwd⟩) (fun _ _ => List.not_mem_nil)
        rw [← hwd]
        clear hwd hF hown d0 d1 d3 e15
        by_cases hkn : k < n
        · have hkn' : (k : Int) < (n : Int) := by omega
          have m1 : min k n = k := by omega
          have m2 : min (k + 1) n = k + 1 := by omega
          rw [m1] at hown2
          have M2 := Lib.hid m2
          clear m1 m2
          go_wp2_with (at_builtin; refine wpList_append_one sty_bool rfl _ _ rfl hF2 _ _ _ (by rfl) hown2 _ (by rfl) (by rfl) ?_ ?_ ?_)
          · omega
          · omega
          intro v3 w3 hown3 hF3
          clear hown2 hF2
          go_wp2_with fail
          go_roundw
          case rel => exact ⟨k + 1, by omega, by go_num, by rw [HV.out] at hown3; rw [M2.out, unpack_succ, tv_append]; exact hown3, hF3, Lib.hid (by intro i h1 h2; omega)⟩
          case measure => simp [intOf]; omega
        · have hkn' : (n : Int) ≤ (k : Int) := by omega
          have m1 : min k n = min (k + 1) n := by omega
          rw [m1] at hown2
          clear m1
          cases B
          case true =>
            have hcd := HC.out.fr hF2 (by simp) (by simp)
            go_wp2_with fail
            refine (rfail_any _ p _ c 5 _ rfl (by decide) hcd).mono ?_
            rintro e w3 ⟨rfl, hc3, hf3⟩
            clear hcd
            go_wp2_with fail
            go_ret
            have hp : padded R n = true := by
              cases hp : padded R n with
              | true => rfl
              | false => 
                have := (padded_false R n).1 hp k (by omega) (by have := HN.out; omega)
                rw [← HV.out] at this; exact this.symm
            have e : c.bits n = ([], c.fail 5) := by
              unfold Cur.bits
              rw [if_neg (by have := HZ.out; rw [Int.toNat_natCast]; omega), Int.toNat_natCast, ← HR.out, hp]
              rfl
            rw [e]
            exact ⟨_, rfl, World.ownsRow_nil _ _ _ _, hc3, (HS2.out.fr.trans0 hF2).trans hf3 (by simp)⟩
          case false =>
            go_wp2_with fail
            go_roundw
            case rel => 
              refine ⟨k + 1, by omega, by go_num, hown2, hF2, Lib.hid ?_⟩
              intro i h1 h2
              by_cases h3 : i < k
              · exact HB.out i h1 h3
              · rw [show i = k from by omega]; exact HV.out.symm
            case measure => simp [intOf]; omega
      · have hlt' : 8 * (N : Int) ≤ (k : Int) := by omega
        have hkn : k = 8 * N := by omega
        have HK := Lib.hid hkn
        clear hkn
        have hcd := HC.out.fr hF (by simp) (by simp)
        obtain ⟨hset, F1⟩ := hcd.setAt (c.at_ + N) hab
        rw [Int.natCast_add] at hset F1
        obtain ⟨_, _, e0, hh, -, -, d2, hfz, -, -⟩ := hcd.out
        injection e0 with e1 e2 e3
        subst e1 e3
        clear e2 hcd
        have hown3 := own_fr hown F1 (fun k hk => by have := hown.lt k hk; simp; omega)
        go_wp2_with fail
        go_ret
        have hm : min k n = n := by have := HK.out; have := HN.out; omega
        have hp : padded R n = false := (padded_false R n).2 (fun i h1 h2 => HB.out i h1 (by have := HK.out; have := HN.out; omega))
        rw [hm] at hown3
        have e : c.bits n = (unpack R n, { c with at_ := c.at_ + N }) := by
          unfold Cur.bits
          rw [if_neg (by have := HZ.out; rw [Int.toNat_natCast]; omega), Int.toNat_natCast, ← HR.out, hp]
          simp [HN.out]
        rw [e]
        refine ⟨_, rfl, ?_, hset, (HS2.out.fr.trans0 hF).trans F1 (by simp)⟩
        rw [unpack_length]
        exact own_mono hown3 (Same.fr (S := []) HS2.out).size

theorem rbits_any (w : World) (p : Nat) (v : Value) (c : Cur) (n : Int) (hn : -9223372036854775808 ≤ n ∧ n ≤ 9223372036854775807) (h : RCurAt w p v c) (hb : c.b.length ≤ 140737488355328 / 16) :
    Calls Try.prog 40 #[.pointer (some ⟨p, 0, none⟩), .int .i64 n] w (RBits p v (c.bits n) w) := by
  by_cases hf : c.code ≠ 0 ∨ n < 0 ∨ c.left < (n.toNat + 7) / 8
  · have e : c.bits n = ([], c.fail 3) := by unfold Cur.bits; rw [if_pos hf]
    rw [e]
    exact rbits_fail w p v c n hn h hf
  · obtain ⟨m, rfl⟩ := Int.eq_ofNat_of_zero_le (show 0 ≤ n by omega)
    rw [Int.toNat_natCast] at hf
    exact rbits_ok w p v c m h (by omega) (by omega) hb
end Go.Proofs.Ytklbocdeifebkaa
