/- Contract: Bits. No condition but that lengths fit. -/
import Derived.Test.YthdfjbliafdchaaReadA
namespace Go.Proofs.Ythdfjbliafdchaa
open Go.RowKit

theorem cut_block (ao : Option Addr) (cap l a b a' b' : Nat) : (Value.slice (if cap = l then ao else Option.map (fun x => x.add l) ao) a b).ownBlock = (Value.slice ao a' b').ownBlock := by
  by_cases h : cap = l
  · rw [if_pos h]; cases ao <;> rfl
  · rw [if_neg h]
    cases ao with
    | none => rfl
    | some x => simp only [Option.map_some, Value.ownBlock, Addr.add]; split <;> rfl

set_option maxHeartbeats 1000000 in
theorem bits_ok (w : World) (p : Nat) (q : Option Nat) (c : Cur) (n : Nat) (h : CurAt w p q c) (hz : c.code = 0) (hl : (n + 7) / 8 ≤ c.left) (hb : c.b.length ≤ 140737488355328 / 16) :
    Calls Try.prog 73 #[.pointer (some ⟨p, 0, none⟩), .int .i64 n] w (TakeBits p q (c.bits n) w) := by
  have hle := h.le
  have hlv : c.live = c.b := by simp [Cur.live, hz]
  have hll : c.at_ + c.left = c.b.length := by rw [← c.live_left hle, hlv]
  have hnb : n ≤ 70368744177664 := by omega
  have h1' : (n : Int) / 8 ≤ (c.left : Int) := by omega
  have h2' : ((n : Int) - (n : Int) / 8 * 8 + 7) / 8 + (n : Int) / 8 ≤ (c.left : Int) := by omega
  have hz' : ((c.code : Int) != 0) = false := by simp [hz]
  have HZ := Lib.hid hz
  have HLV := Lib.hid hlv
  have HLL := Lib.hid hll
  obtain ⟨N, hN⟩ : ∃ N, N = (n + 7) / 8 := ⟨_, rfl⟩
  have hNl : N ≤ c.left := by omega
  have HN := Lib.hid hN
  have hab : c.at_ + N ≤ 8796093022208 := by omega
  have eN : (n : Int) / 8 + ((n : Int) % 8 + 7) / 8 = (N : Int) := by omega
  clear hz hlv hll hN
  go_enter Try.func73, Try.ntmps73
  go_wp2_with fail
  refine (left_any w p q c h).mono ?_
  rintro e w1 ⟨rfl, s1⟩
  have hc1 := h.same s1
  go_wp2_with fail
  refine (left_any w1 p q c hc1).mono ?_
  rintro e w2 ⟨rfl, s2⟩
  have hc2 := hc1.same s2
  obtain ⟨ao, cap, hh, d0, d1, d2, hfz, hs, hq, hl2, hm⟩ := hc2.out
  clear hh h hc1
  go_wp2_with fail
  have e1 : IntKind.i64.wrap ((n : Int) / 8) = (n : Int) / 8 := IntWalk.i64_in _ (by omega)
  have e2 : IntKind.i64.wrap ((c.at_ : Int) + (n : Int) / 8) = (c.at_ : Int) + (n : Int) / 8 := IntWalk.i64_in _ (by omega)
  have e3 : (n : Int).tmod 8 = (n : Int) % 8 := Int.tmod_eq_emod_of_nonneg (by omega)
  have e4 : IntKind.i64.wrap ((n : Int) % 8 + 7) = (n : Int) % 8 + 7 := IntWalk.i64_in _ (by omega)
  have e5 : ((n : Int) % 8 + 7).tdiv 8 = ((n : Int) % 8 + 7) / 8 := Int.tdiv_eq_ediv_of_nonneg (by omega)
  have e6 : IntKind.i64.wrap (((n : Int) % 8 + 7) / 8) = ((n : Int) % 8 + 7) / 8 := IntWalk.i64_in _ (by omega)
  have e7 : IntKind.i64.wrap ((c.at_ : Int) + (n : Int) / 8 + ((n : Int) % 8 + 7) / 8) = (c.at_ : Int) + (N : Int) := by rw [IntWalk.i64_in _ (by omega)]; omega
  have e8 : (0 : Int) ≤ (c.at_ : Int) + (N : Int) := by omega
  have e9 : (c.at_ : Int) + (N : Int) ≤ (cap : Int) := by omega
  have e10 : ((c.at_ : Int) + (N : Int)).toNat = c.at_ + N := by omega
  have e11 : c.at_ + N - c.at_ = N := by omega
  have E := Lib.hid eN
  clear eN
  go_quiet (fail)
  have hs2 := hs.cut c.at_ (c.at_ + N) (by omega) (by omega)
  rw [e11, ← bv_drop, ← bv_take, HLV.out] at hs2
  have hrow : (c.b.drop c.at_).take N = c.row n := by unfold Cur.row; rw [← HN.out]
  rw [hrow] at hs2
  have hqb : (Value.slice (if cap = c.at_ then ao else Option.map (fun x => x.add c.at_) ao) N (cap - c.at_)).ownBlock = q := by
    rw [← hq, cut_block]
  have hrl : (c.row n).length = N := by rw [← hrow]; have := HLL.out; simp; omega
  clear e1 e2 e3 e4 e5 e6 e7 e8 e9 e10 e11 d0 d1 d2 hfz hs hrow hq
  generalize (if cap = c.at_ then ao else Option.map (fun x => x.add c.at_) ao) = ad at hs2 hqb ⊢
  obtain ⟨wA, hwA⟩ : ∃ wA, wA = w2.drewN nq := ⟨_, rfl⟩
  rw [← hwA]
  have sA : Same w wA := (s1.trans s2).trans ⟨_, hwA⟩
  have hcA : CurAt wA p q c := hc2.same ⟨_, hwA⟩
  have hsA : Sl wA (.slice ad N (cap - c.at_)) (bv (c.row n)) := hs2.fr0 (Same.fr ⟨_, hwA⟩)
  obtain ⟨R, hR⟩ : ∃ R, R = c.row n := ⟨_, rfl⟩
  rw [← hR] at hsA hrl
  have HR := Lib.hid hR
  clear hwA s1 s2 hc2 hs2 hR
  obtain ⟨d0, hh, d1⟩ : ∃ x, wA.heap[p]? = some x ∧ wA.cell? ⟨p, 1, none⟩ = some (.int .i64 c.at_) := by
    obtain ⟨_, _, g0, _, g1, _⟩ := hcA.out; exact ⟨_, g0, g1⟩
  have hfz : ∀ j, wA.frozen? ⟨p, j, none⟩ = false := by
    obtain ⟨_, _, _, _, _, _, g, _⟩ := hcA.out; exact g
  obtain ⟨hset, F1⟩ := hcA.setAt (c.at_ + N) HZ.out (by have := HLL.out; omega)
  rw [Int.natCast_add] at hset F1
  have hne := hcA.ne
  have hsB := hsA.fr F1 (fun k hk => by rintro h; simp at h; subst h; exact hne (hqb ▸ hk))
  obtain ⟨wB, hwB⟩ : ∃ wB, wB = wA.setCell ⟨p, 1, none⟩ (.int .i64 ((c.at_ : Int) + (N : Int))) := ⟨_, rfl⟩
  rw [← hwB] at hset F1 hsB
  have HWB := Lib.hid hwB
  have hgA := hsA.out
  have hgB := hsB.out
  have F2 : Fr [p] w wB := sA.fr.trans F1 (by simp)
  obtain ⟨ao', cap', e0, -, -, o⟩ := hsA.out
  rw [bv_length, hrl] at o
  injection e0 with e1 e2 e3
  subst e1
  have HO := Lib.hid o
  obtain ⟨ao', cap'', e0, -, -, o2⟩ := hsB.out
  rw [bv_length, hrl] at o2
  injection e0 with e1 e4 e5
  subst e1
  have HOB := Lib.hid o2
  have HRL := Lib.hid hrl
  clear e2 e3 e4 e5 o o2 hwB hgA hgB F1 hsA hsB hh hne hqb hrl
  have t8 : (0 : Int) ≤ (n : Int) % 8 := by omega
  have t9 : (n : Int) % 8 ≤ 7 := by omega
  by_cases h8 : n % 8 = 0
  · have h8' : ((n : Int) % 8 != 0) = false := by simp; omega
    have hp : padded R n = false := by simp [padded, h8]
    have HP := Lib.hid hp
    clear hp h8
    go_wp2_with fail
    rw [← HWB.out]
    clear d1 hfz
    go_loopw [6, 89] (fun out i wr => ∃ k : Nat, k ≤ n ∧ i = .int .i64 k ∧ wr.ownsRow wB.heap.size 4 1 out k (tv (unpack R k)) ∧ Fr [] wB wr) (fun _ i _ => n - (intOf i).toNat)
    case atStart => exact ⟨0, Nat.zero_le _, rfl, World.ownsRow_nil _ _ _ _, Fr.refl _ _⟩
    case round =>
      obtain ⟨k, hk, rfl, hown, hF⟩ := hrel
      by_cases hlt : k < n
      · have hlt' : (k : Int) < (n : Int) := by omega
        have hkN : k / 8 < N := by have := HN.out; omega
        obtain ⟨b1, of1, rfl, hbl, cc⟩ := HOB.out (k / 8) hkN
        obtain ⟨y, hy⟩ := some_get R (k / 8) (by rw [HRL.out]; omega)
        have d1 : wr.cell? ⟨b1, of1 + k / 8, none⟩ = some (.int .u8 y.toNat) := by rw [hF.cell (p := ⟨b1, of1 + k / 8, none⟩) hbl (by simp), cc _ hkN, bv_get _ _ _ hy]
        have hkN' : (k : Int) / 8 < (N : Int) := by omega
        have HB := Lib.hid (bit_read R k y hy)
        clear cc hy
        go_wp2_with (at_builtin; refine wpList_append_one sty_bool rfl _ _ rfl hF _ _ _ (by rfl) hown _ (by rfl) (by rfl) ?_ ?_ ?_)
        · omega
        · omega
        intro v3 w3 hown3 hF3
        rw [HB.out] at hown3
        clear hown hF HB
        go_wp2_with fail
        go_roundw
        case rel => exact ⟨k + 1, by omega, by go_num, by rw [unpack_succ, tv_append]; exact hown3, hF3⟩
        case measure => simp [intOf]; omega
      · have hlt' : (n : Int) ≤ (k : Int) := by omega
        have hkn : k = n := by omega
        have HK := Lib.hid hkn
        clear hkn
        go_wp2_with fail
        go_ret
        rw [HK.out] at hown
        have e : c.bits n = (unpack R n, { c with at_ := c.at_ + N }) := by
          unfold Cur.bits
          rw [if_neg (by have := HZ.out; rw [Int.toNat_natCast]; omega), Int.toNat_natCast, ← HR.out, HP.out]
          simp [HN.out]
        rw [e]
        refine ⟨_, rfl, ?_, hset.fr hF (by simp) (by simp), F2.trans0 hF⟩
        rw [unpack_length]
        exact own_mono hown F2.size
  · have h8' : ((n : Int) % 8 != 0) = true := by rw [bne_iff_ne]; omega
    have hlt : n / 8 < N := by have := HN.out; omega
    have hlt' : (n : Int) / 8 < (N : Int) := by omega
    obtain ⟨b1, of1, rfl, -, cc⟩ := HO.out (n / 8) hlt
    obtain ⟨y, hy⟩ := some_get R (n / 8) (by rw [HRL.out]; omega)
    have d2 : wA.cell? ⟨b1, of1 + n / 8, none⟩ = some (.int .u8 y.toNat) := by rw [cc _ hlt, bv_get _ _ _ hy]
    have hps := pad_shl R n y hy h8
    clear cc hy h8
    by_cases hp : padded R n = true
    · rw [hp] at hps
      have HP := Lib.hid hp
      clear hp
      go_wp2_with fail
      refine (fail_any _ p q c 5 _ rfl (by decide) hcA).mono ?_
      rintro e w3 ⟨rfl, hc3, hf3⟩
      clear d1 d2 hfz hcA
      go_wp2_with fail
      go_ret
      have e : c.bits n = ([], c.fail 5) := by
        unfold Cur.bits
        rw [if_neg (by have := HZ.out; rw [Int.toNat_natCast]; omega), Int.toNat_natCast, ← HR.out, HP.out]
        rfl
      rw [e]
      exact ⟨_, rfl, World.ownsRow_nil _ _ _ _, hc3, sA.fr.trans hf3 (by simp)⟩
    · have hp' : padded R n = false := by simpa using hp
      rw [hp'] at hps
      have HP := Lib.hid hp'
      clear hp hp'
      go_wp2_with fail
      rw [← HWB.out]
      clear d1 hfz
      go_loopw [6, 89] (fun out i wr => ∃ k : Nat, k ≤ n ∧ i = .int .i64 k ∧ wr.ownsRow wB.heap.size 4 1 out k (tv (unpack R k)) ∧ Fr [] wB wr) (fun _ i _ => n - (intOf i).toNat)
      case atStart => exact ⟨0, Nat.zero_le _, rfl, World.ownsRow_nil _ _ _ _, Fr.refl _ _⟩
      case round =>
        obtain ⟨k, hk, rfl, hown, hF⟩ := hrel
        by_cases hlt : k < n
        · have hlt' : (k : Int) < (n : Int) := by omega
          have hkN : k / 8 < N := by have := HN.out; omega
          obtain ⟨b3, of3, he, hbl, cc⟩ := HOB.out (k / 8) hkN
          cases he
          obtain ⟨y, hy⟩ := some_get R (k / 8) (by rw [HRL.out]; omega)
          have d1 : wr.cell? ⟨b1, of1 + k / 8, none⟩ = some (.int .u8 y.toNat) := by rw [hF.cell (p := ⟨b1, of1 + k / 8, none⟩) hbl (by simp), cc _ hkN, bv_get _ _ _ hy]
          have hkN' : (k : Int) / 8 < (N : Int) := by omega
          have HB := Lib.hid (bit_read R k y hy)
          clear cc hy
          go_wp2_with (at_builtin; refine wpList_append_one sty_bool rfl _ _ rfl hF _ _ _ (by rfl) hown _ (by rfl) (by rfl) ?_ ?_ ?_)
          · omega
          · omega
          intro v3 w3 hown3 hF3
          rw [HB.out] at hown3
          clear hown hF HB
          go_wp2_with fail
          go_roundw
          case rel => exact ⟨k + 1, by omega, by go_num, by rw [unpack_succ, tv_append]; exact hown3, hF3⟩
          case measure => simp [intOf]; omega
        · have hlt' : (n : Int) ≤ (k : Int) := by omega
          have hkn : k = n := by omega
          have HK := Lib.hid hkn
          clear hkn
          go_wp2_with fail
          go_ret
          rw [HK.out] at hown
          have e : c.bits n = (unpack R n, { c with at_ := c.at_ + N }) := by
            unfold Cur.bits
            rw [if_neg (by have := HZ.out; rw [Int.toNat_natCast]; omega), Int.toNat_natCast, ← HR.out, HP.out]
            simp [HN.out]
          rw [e]
          refine ⟨_, rfl, ?_, hset.fr hF (by simp) (by simp), F2.trans0 hF⟩
          rw [unpack_length]
          exact own_mono hown F2.size

theorem bits_any (w : World) (p : Nat) (q : Option Nat) (c : Cur) (n : Int) (hn : -9223372036854775808 ≤ n ∧ n ≤ 9223372036854775807) (h : CurAt w p q c) (hb : c.b.length ≤ 140737488355328 / 16) :
    Calls Try.prog 73 #[.pointer (some ⟨p, 0, none⟩), .int .i64 n] w (TakeBits p q (c.bits n) w) := by
  by_cases hf : c.code ≠ 0 ∨ n < 0 ∨ c.left < (n.toNat + 7) / 8
  · have e : c.bits n = ([], c.fail 3) := by unfold Cur.bits; rw [if_pos hf]
    rw [e]
    exact bits_fail w p q c n hn h hf
  · obtain ⟨m, rfl⟩ := Int.eq_ofNat_of_zero_le (show 0 ≤ n by omega)
    rw [Int.toNat_natCast] at hf
    exact bits_ok w p q c m h (by omega) (by omega) hb
end Go.Proofs.Ythdfjbliafdchaa
