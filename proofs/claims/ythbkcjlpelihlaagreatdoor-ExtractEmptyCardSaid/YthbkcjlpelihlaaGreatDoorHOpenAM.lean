/- Contract: Open. No condition but that lengths fit. -/
import Derived.Test.YthbkcjlpelihlaaGreatDoorGAC
import Derived.Deep.DeepCutAuto
namespace Go.Proofs.YthbkcjlpelihlaaGreatDoor
open Go.RowKit

theorem Sl.part {w : World} {b1 of1 n cap : Nat} {xs : List Value} (h : Sl w (.slice (some ⟨b1, of1, none⟩) n cap) xs) (l m : Nat) (hm : l + m ≤ n) (hl : l < cap) : Sl w (.slice (some ⟨b1, of1 + l, none⟩) m (cap - l)) ((xs.drop l).take m) := by
  have := h.cut l (l + m) (by omega) hm
  rw [if_neg (by omega), show l + m - l = m by omega] at this
  have e : (⟨b1, of1, none⟩ : Addr).add l = ⟨b1, of1 + l, none⟩ := by unfold Addr.add; split <;> simp_all
  rw [Option.map_some, e] at this
  exact this

theorem Sl.part0 {w : World} {b1 of1 n cap : Nat} {xs : List UInt8} (h : Sl w (.slice (some ⟨b1, of1, none⟩) n cap) (bv xs)) (l m : Nat) (hm : l + m ≤ n) : Sl w (.slice (if cap = l then some ⟨b1, of1, none⟩ else some ⟨b1, of1 + l, none⟩) m (cap - l)) (bv ((xs.drop l).take m)) := by
  have := h.cut l (l + m) (by omega) hm
  have e : (⟨b1, of1, none⟩ : Addr).add l = ⟨b1, of1 + l, none⟩ := by unfold Addr.add; split <;> simp_all
  rw [show l + m - l = m by omega, Option.map_some, e, ← bv_drop, ← bv_take] at this
  exact this
theorem OpenR.good {w w' : World} {b : List UInt8} {P : Nat} {v1 v2 : Value} (F : Fr [] w w') (h : opCode b = 0) (hP : opPlace b = P) (h1 : Sl w' v1 (bv ((b.drop 32).take P))) (h2 : Sl w' v2 (bv (b.drop (32 + P)))) : OpenR w b (.returned (.tuple #[v1, v2, .int .i64 0])) w' := by
  refine ⟨_, _, by rw [h]; rfl, ?_, ?_, F⟩
  · unfold opArea; rw [if_pos h, hP]; exact h1
  · unfold opHead; rw [if_pos h, hP]; exact h2
theorem num_fix (bs : List UInt8) (at_ k : Nat) (hk : Cur.sized (k : Int) = true) (h : at_ + k ≤ bs.length) (hb : bs.length ≤ 140737488355328) (w : World) (p : Nat) (q : Option Nat) (C : CurAt w p q ⟨bs, at_, 0⟩) :
    Calls Tryz.prog 85 #[.pointer (some ⟨p, 0, none⟩), .int .i64 (k : Int)] w fun e w' => e = .returned (.int .u64 (leNat ((bs.drop at_).take k) : Int)) ∧ CurAt w' p q ⟨bs, at_ + k, 0⟩ ∧ Fr [p] w w' := by
  have := num_any w p q ⟨bs, at_, 0⟩ k C hb
  rw [num_at bs at_ k hk h] at this
  exact this
theorem part_part (b : List UInt8) (j k : Nat) (h : j + k ≤ 24) : (((b.drop 8).take 24).drop j).take k = (b.drop (8 + j)).take k := by
  rw [List.drop_take, List.take_take, List.drop_drop, Nat.min_eq_left (by omega)]
theorem leNat_4 (l : List UInt8) : leNat (l.take 4) < 4294967296 := by
  have h1 := leNat_lt (l.take 4)
  have h2 : (l.take 4).length ≤ 4 := by simp; omega
  have : 256 ^ (l.take 4).length ≤ 256 ^ 4 := Nat.pow_le_pow_right (by decide) h2
  have e : (256 : Nat) ^ 4 = 4294967296 := by decide
  omega
theorem leNat_8 (l : List UInt8) : leNat (l.take 8) < 18446744073709551616 := by
  have h1 := leNat_lt (l.take 8)
  have h2 : (l.take 8).length ≤ 8 := by simp; omega
  have : 256 ^ (l.take 8).length ≤ 256 ^ 8 := Nat.pow_le_pow_right (by decide) h2
  have e : (256 : Nat) ^ 8 = 18446744073709551616 := by decide
  omega
theorem crcL_lt (l : List UInt8) : crcL l < 4294967296 := by unfold crcL; omega

set_option maxRecDepth 100000 in
set_option maxHeartbeats 4000000 in
theorem open_any (w : World) (v : Value) (b : List UInt8) (h : Sl w v (bv b)) (hb : b.length ≤ 40000) :
    Calls Tryz.prog 62 #[v] w (OpenR w b) := by
  have HV := Lib.hid h
  obtain ⟨ao, cap, rfl, hc, hm, ho⟩ := h.out
  have HO := Lib.hid ho
  clear h ho
  simp only [bv_length] at *
  have HB := Lib.hid hb
  go_enter Tryz.func62, Tryz.ntmps62
  go_upto_region 3 with (go_at_call 82; refine (magic_any _).mono ?_; rintro e w1 ⟨⟨mv, rfl, hmv⟩, F1⟩; have HM := Lib.hid hmv; obtain ⟨mo, mcap, rfl, hmc, hmm, -⟩ := hmv.out; clear hmv; have HM6 := show (bv magicL).length = 6 from rfl; rw [HM6] at HM hmc)
  obtain ⟨mn, hmn, hmn6, hmnl, hmin⟩ : ∃ mn : Nat, (if (b.length : Int) < 6 then (b.length : Int) else 6) = (mn : Int) ∧ mn ≤ 6 ∧ mn ≤ b.length ∧ min 6 b.length = mn := by
    refine ⟨min 6 b.length, ?_, Nat.min_le_left _ _, Nat.min_le_right _ _, rfl⟩
    split <;> omega
  rw [hmn]
  have hcI : (mn : Int) ≤ (cap : Int) := by omega
  have hmI : (mn : Int) ≤ (mcap : Int) := by omega
  have hn0 : (0 : Int) ≤ (mn : Int) := by omega
  have hnot : ∀ (x : Bool) (w : World), (Op.unary .not (.bool x)).run Tryz.prog w = .ok (.bool (!x)) w := fun _ _ => rfl
  go_still_tail 6, (by kernel_rfl)
  change wpList _ _ _ _ _ w1.drew
  have hs1 := (HV.out.fr0 F1).first mn hmnl
  have hs2 := HM.out.first mn hmn6
  rw [← bv_take] at hs1 hs2
  have HE := Lib.hid (equal_any _ _ _ _ _ (hs1.fr0 ((Fr.refl [] w1).drew)) (hs2.fr0 ((Fr.refl [] w1).drew)))
  have HMN := Lib.hid (show (b.take mn == magicL.take mn) = (b.take (min 6 b.length) == magicL.take (min 6 b.length)) by rw [hmin])
  rw [HMN.out] at HE
  obtain ⟨w2, hw2⟩ : ∃ w2, w2 = w1.drew := ⟨_, rfl⟩
  rw [← hw2] at HE ⊢
  have F2 : Fr [] w w2 := hw2 ▸ F1.drew
  clear hw2 hs1 hs2 hmn hmin HMN HM HM6 hmI hcI hmnl hmn6 F1
  cases hq1 : (b.take (min 6 b.length) == magicL.take (min 6 b.length)) with
  | false =>
    rw [hq1] at HE
    have HC := Lib.hid (opCode_m hq1)
    clear hq1
    go_wp2_with (go_at_call 83; refine HE.out.mono ?_; rintro e w3 ⟨rfl, rfl⟩)
    refine bodyPost_ret (v := .tuple #[.slice none 0 0, .slice none 0 0, .int .i64 1]) (by simp [results, Tryz.results62, go_sem]) rfl ?_
    exact OpenR.bad (k := 1) F2 HC.out (by decide)
  | true =>
  rw [hq1] at HE
  have HQ1 := Lib.hid hq1
  clear hq1
  by_cases h32 : b.length < 32
  · have hI : (b.length : Int) < 32 := by omega
    have HC := Lib.hid (opCode_s HQ1.out h32)
    clear h32
    go_wp2_with (go_at_call 83; refine HE.out.mono ?_; rintro e w3 ⟨rfl, rfl⟩)
    refine bodyPost_ret (v := .tuple #[.slice none 0 0, .slice none 0 0, .int .i64 3]) (by simp [results, Tryz.results62, go_sem]) rfl ?_
    exact OpenR.bad (k := 3) F2 HC.out (by decide)
  have hI : ¬ (b.length : Int) < 32 := by omega
  have H32 := Lib.hid h32
  obtain ⟨b1, of1, rfl, hb1, hcl⟩ := HO.out 0 (by omega)
  have HCL := Lib.hid (show ∀ wx, Fr [] w wx → ∀ i, i < b.length → wx.cell? ⟨b1, of1 + i, none⟩ = some (.int .u8 ((b.getD i 0).toNat : Int)) from fun wx F i hi => by
    rw [F.cell (p := ⟨b1, of1 + i, none⟩) hb1 (by simp), hcl i hi, bv_get _ _ (b.getD i 0) (by simp [List.getD_eq_getElem?_getD, hi])])
  clear hcl HO
  have d6 := HCL.out w2 F2 6 (by omega)
  have d7 := HCL.out w2 F2 7 (by omega)
  have hi6 : (6 : Int) < (b.length : Int) := by omega
  have hi7 : (7 : Int) < (b.length : Int) := by omega
  obtain ⟨x6, hx6⟩ : ∃ x, (b.getD 6 0).toNat = x := ⟨_, rfl⟩
  obtain ⟨x7, hx7⟩ : ∃ x, (b.getD 7 0).toNat = x := ⟨_, rfl⟩
  rw [hx6] at d6
  rw [hx7] at d7
  by_cases h6 : x6 = 0
  rotate_left
  · have t0 : ((x6 : Int) != 0) = true := by simp; omega
    have HC := Lib.hid (opCode_v HQ1.out h32 (.inl (by rw [hx6]; exact h6)))
    clear h32 h6 hx6 hx7
    go_wp2_with (go_at_call 83; refine HE.out.mono ?_; rintro e w3 ⟨rfl, rfl⟩)
    refine bodyPost_ret (v := .tuple #[.slice none 0 0, .slice none 0 0, .int .i64 2]) (by simp [results, Tryz.results62, go_sem]) rfl ?_
    exact OpenR.bad (k := 2) F2 HC.out (by decide)
  have t0 : ((x6 : Int) != 0) = false := by simp; omega
  by_cases h7 : 4 < x7
  · have t1 : (4 : Int) < (x7 : Int) := by omega
    have HC := Lib.hid (opCode_v HQ1.out h32 (.inr (by rw [hx7]; exact h7)))
    clear h32 h6 hx6 hx7
    go_wp2_with (go_at_call 83; refine HE.out.mono ?_; rintro e w3 ⟨rfl, rfl⟩)
    refine bodyPost_ret (v := .tuple #[.slice none 0 0, .slice none 0 0, .int .i64 2]) (by simp [results, Tryz.results62, go_sem]) rfl ?_
    exact OpenR.bad (k := 2) F2 HC.out (by decide)
  have t1 : ¬ (4 : Int) < (x7 : Int) := by omega
  have HV3 := Lib.hid (show ¬ ((b.getD 6 0).toNat ≠ 0 ∨ 4 < (b.getD 7 0).toNat) by rw [hx6, hx7]; omega)
  clear h32 h6 hx6 hx7 h7
  have hc32 : (32 : Int) ≤ (cap : Int) := by have := H32.out; omega
  have HP := Lib.hid (show ∀ wx, Fr [] w wx → ∀ l m, l + m ≤ b.length → l < cap → Sl wx (.slice (some ⟨b1, of1 + l, none⟩) m (cap - l)) (bv ((b.drop l).take m)) from fun wx F l m hlm hl => by
    have := (HV.out.fr0 F).part l m hlm hl
    rw [← bv_drop, ← bv_take] at this
    exact this)
  go_upto_region 10 with (first
    | (go_at_call 84; refine (new_any w2 _ ((b.drop 8).take 24) (HP.out w2 F2 8 24 (by have := H32.out; omega) (by omega)) (by have := HB.out; simp; omega)).mono ?_; rintro e w4 ⟨cp, q, rfl, hcp, hcq, C4, F4⟩)
    | (go_at_call 83; refine HE.out.mono ?_; rintro e w3 ⟨rfl, rfl⟩))
  clear d6 d7 HE hnot t0 t1 hi6 hi7 hn0
  have hlen : ((b.drop 8).take 24).length = 24 := by have := H32.out; simp; omega
  have hlb : ((b.drop 8).take 24).length ≤ 140737488355328 := by omega
  have HN1 := Lib.hid (num_fix ((b.drop 8).take 24) 0 4 rfl (by omega) hlb)
  have HN2 := Lib.hid (num_fix ((b.drop 8).take 24) 4 8 rfl (by omega) hlb)
  have HN3 := Lib.hid (num_fix ((b.drop 8).take 24) 12 8 rfl (by omega) hlb)
  have HN4 := Lib.hid (num_fix ((b.drop 8).take 24) 20 4 rfl (by omega) hlb)
  rw [part_part b 0 4 (by decide)] at HN1
  rw [part_part b 4 8 (by decide)] at HN2
  rw [part_part b 12 8 (by decide)] at HN3
  rw [part_part b 20 4 (by decide)] at HN4
  simp only [Nat.reduceAdd] at HN1 HN2 HN3 HN4
  clear hlen hlb
  have HCR := Lib.hid (fun wx v (h : Sl wx v (bv ((b.drop 12).take 20))) => crcof_any wx v ((b.drop 12).take 20) h (by have := HB.out; simp; omega))
  have h4 := leNat_4 (b.drop 8)
  have hc4 := crcL_lt ((b.drop 12).take 20)
  have HT4 := Lib.hid (opCode_c HQ1.out H32.out HV3.out)
  have HTT := Lib.hid (opCode_t HQ1.out H32.out HV3.out)
  have hp8 := leNat_8 (b.drop 12)
  have hs8 := leNat_8 (b.drop 20)
  have hm4 := leNat_4 (b.drop 28)
  have HOP := Lib.hid (show opPlace b = leNat ((b.drop 12).take 8) from rfl)
  unfold opSize opSum at HTT
  rw [HOP.out] at HTT
  generalize leNat ((b.drop 8).take 4) = V at *
  generalize crcL ((b.drop 12).take 20) = C at *
  generalize leNat ((b.drop 12).take 8) = P at *
  generalize leNat ((b.drop 20).take 8) = S at *
  generalize leNat ((b.drop 28).take 4) = U at *
  generalize (b.drop 8).take 24 = B at *
  have F24 : Fr [] w w4 := F2.trans0 F4
  have eV : IntKind.u32.wrap (V : Int) = (V : Int) := by simp [IntKind.wrap, IntKind.bits, IntKind.signed]; omega
  have C4d : CurAt w4.drew cp q ⟨B, 0, 0⟩ := C4.fr (S := []) ((Fr.refl _ _).drew) (by simp) (by simp)
  have hlc : w.heap.size ≤ cp := by have := F2.size; omega
  have hc12 : ¬ cap = 12 := by omega
  by_cases hVC : V = C
  rotate_left
  · have tV : ((V : Int) != (C : Int)) = true := by simp; omega
    have HC := Lib.hid (HT4.out hVC)
    clear hVC HT4 HTT
    go_region_held3 (fun _ => True) (first | trivial | go_keep)
      (first
        | (have hq := C5; go_at_call 28; refine (HCR.out w5 _ (HP.out w5 F25 12 20 (by have := H32.out; omega) (by omega))).mono ?_; rintro e w6 ⟨rfl, F6⟩; have F26 := F25.trans0 F6)
        | (go_at_call 85; refine (HN1.out _ _ _ C4d).mono ?_; rintro e w5 ⟨rfl, C5, F5⟩; have F25 : Fr [] w w5 := F24.drew.trans F5 (by simp; exact hlc)))
    all_goals
      go_wp2_with fail
      refine bodyPost_ret (v := .tuple #[.slice none 0 0, .slice none 0 0, .int .i64 4]) (by simp [results, Tryz.results62, go_sem]) rfl ?_
      exact OpenR.bad (k := 4) F26 HC.out (by decide)
  have tV : ((V : Int) != (C : Int)) = false := by simp; omega
  have HTL := Lib.hid (HTT.out (fun h => h hVC))
  clear hVC HT4 HTT
  go_region_held3 (fun _ => True) (first | trivial | go_keep)
    (first
      | (have hq := C5; go_at_call 28; refine (HCR.out w5 _ (HP.out w5 F25 12 20 (by have := H32.out; omega) (by omega))).mono ?_; rintro e w6 ⟨rfl, F6⟩; have F26 := F25.trans0 F6; have C6 := C5.fr F6 (by simp) (by simp))
      | (go_at_call 85; refine (HN1.out _ _ _ C4d).mono ?_; rintro e w5 ⟨rfl, C5, F5⟩; have F25 : Fr [] w w5 := F24.drew.trans F5 (by simp; exact hlc)))
  clear C4 C4d C5 F24 F25 F5 F4 HN1 HCR
  have hlb32 : IntKind.u64.wrap ((b.length : Int) - 32) = ((b.length - 32 : Nat) : Int) := by have := H32.out; have := HB.out; simp [IntKind.wrap, IntKind.bits, IntKind.signed]; omega
  have eU : IntKind.u32.wrap (U : Int) = (U : Int) := by simp [IntKind.wrap, IntKind.bits, IntKind.signed]; omega
  go_upto_region 14 with (first
    | (have hq := C8; go_at_call 85; refine (HN4.out _ _ _ C8).mono ?_; rintro e w9 ⟨rfl, C9, F9⟩; have F29 : Fr [] w w9 := F28.trans F9 (by simp; exact hlc))
    | (have hq := C7; go_at_call 85; refine (HN3.out _ _ _ C7).mono ?_; rintro e w8 ⟨rfl, C8, F8⟩; have F28 : Fr [] w w8 := F27.trans F8 (by simp; exact hlc))
    | (go_at_call 85; refine (HN2.out _ _ _ C6).mono ?_; rintro e w7 ⟨rfl, C7, F7⟩; have F27 : Fr [] w w7 := F26.trans F7 (by simp; exact hlc)))
  clear C6 C7 C8 C9 F26 F27 F28 F6 F7 F8 F9 HN2 HN3 HN4 eV eU tV hlb32 hc12 hq
  obtain ⟨L, hL⟩ : ∃ L, b.length - 32 = L := ⟨_, rfl⟩
  have HLL := Lib.hid (show b.length = 32 + L by have := H32.out; omega)
  have hLm : L ≤ 40000 := by have := HB.out; omega
  rw [hL] at HTL ⊢
  clear hL
  have HTL2 := Lib.hid HTL.out
  unfold opTail at HTL
  by_cases p1 : 1099511627776 < P
  · have t1 : (1099511627776 : Int) < (P : Int) := by omega
    have HC := Lib.hid (show opCode b = 7 by rw [HTL.out, if_pos (.inl p1)])
    clear p1 HTL HTL2
    go_wp2_with fail
    refine bodyPost_ret (v := .tuple #[.slice none 0 0, .slice none 0 0, .int .i64 7]) (by simp [results, Tryz.results62, go_sem]) rfl ?_
    exact OpenR.bad (k := 7) F29 HC.out (by decide)
  by_cases p2 : 1099511627776 < S
  · have t1 : ¬ (1099511627776 : Int) < (P : Int) := by omega
    have t2 : (1099511627776 : Int) < (S : Int) := by omega
    have HC := Lib.hid (show opCode b = 7 by rw [HTL.out, if_pos (.inr p2)])
    clear p1 p2 HTL HTL2
    go_wp2_with fail
    refine bodyPost_ret (v := .tuple #[.slice none 0 0, .slice none 0 0, .int .i64 7]) (by simp [results, Tryz.results62, go_sem]) rfl ?_
    exact OpenR.bad (k := 7) F29 HC.out (by decide)
  have t1 : ¬ (1099511627776 : Int) < (P : Int) := by omega
  have t2 : ¬ (1099511627776 : Int) < (S : Int) := by omega
  have HTM := Lib.hid (HTL.out.trans (if_neg (by omega)))
  have hp2 : P ≤ 1099511627776 ∧ S ≤ 1099511627776 := by omega
  clear p1 p2 HTL
  have eps : IntKind.u64.wrap ((P : Int) + (S : Int)) = (P : Int) + (S : Int) := by simp [IntKind.wrap, IntKind.bits, IntKind.signed]; omega
  by_cases p3 : S = 0 ∧ (0 < P ∨ 0 < U)
  · obtain ⟨p3, p4⟩ := p3
    have HC := Lib.hid (show opCode b = 7 by rw [HTM.out, if_pos ⟨p3, p4⟩])
    have t3 : ((S : Int) == 0) = true := by rw [beq_iff_eq]; omega
    by_cases p5 : 0 < P
    · have t4 : (0 : Int) < (P : Int) := by omega
      clear p3 p4 p5 HTM HTL2
      go_wp2_with fail
      refine bodyPost_ret (v := .tuple #[.slice none 0 0, .slice none 0 0, .int .i64 7]) (by simp [results, Tryz.results62, go_sem]) rfl ?_
      exact OpenR.bad (k := 7) F29 HC.out (by decide)
    · have t4 : ¬ (0 : Int) < (P : Int) := by omega
      have t5 : (0 : Int) < (U : Int) := by omega
      clear p3 p4 p5 HTM HTL2
      go_wp2_with fail
      refine bodyPost_ret (v := .tuple #[.slice none 0 0, .slice none 0 0, .int .i64 7]) (by simp [results, Tryz.results62, go_sem]) rfl ?_
      exact OpenR.bad (k := 7) F29 HC.out (by decide)
  have HTN := Lib.hid (HTM.out.trans (if_neg p3))
  clear HTM
  clear hq
  have eP : IntKind.i64.wrap (P : Int) = (P : Int) := by simp [IntKind.wrap, IntKind.bits, IntKind.signed]; omega
  have eP2 : IntKind.i64.wrap (32 + (P : Int)) = 32 + (P : Int) := by simp [IntKind.wrap, IntKind.bits, IntKind.signed]; omega
  have HLC := Lib.hid (show 32 + L ≤ cap by have := HLL.out; omega)
  by_cases hS : S = 0
  · have hP0 : P = 0 := by omega
    have hU0 : U = 0 := by omega
    subst hS hP0 hU0
    clear p3 eP eP2 hp2 eps hs8 hp8 hm4
    have t3 : (((0 : Nat) : Int) == 0) = true := rfl
    by_cases p7 : 0 < L
    · have t7 : (0 : Int) < (L : Int) := by omega
      have HC := Lib.hid (show opCode b = 19 by rw [HTN.out, if_neg (by omega), if_pos (by omega)])
      clear p7 HTN HTL2
      go_wp2_with fail
      refine bodyPost_ret (v := .tuple #[.slice none 0 0, .slice none 0 0, .int .i64 19]) (by simp [results, Tryz.results62, go_sem]) rfl ?_
      exact OpenR.bad (k := 19) F29 HC.out (by decide)
    obtain rfl : L = 0 := by omega
    have HC := Lib.hid (show opCode b = 0 by rw [HTN.out, if_neg (by omega), if_neg (by omega), if_neg (by omega)])
    clear p7 HTN HTL2
    go_upto_region 22 with fail
    have hq1 : (32 : Int) ≤ (cap : Int) := by have := HLC.out; omega
    have hq2 : (32 : Int) ≤ (b.length : Int) := by have := HLL.out; omega
    go_quiet (fail)
    obtain ⟨wq, hwq⟩ : ∃ wq, wq = w9.drewN nq := ⟨_, rfl⟩
    rw [← hwq]
    have FQ : Fr [] w wq := by rw [hwq]; exact F29.drewN _
    have hlh : b.length - 32 = 0 := by have := HLL.out; omega
    rw [hlh]
    have hA := Lib.hid ((HV.out.fr0 FQ).part0 32 0 (by have := HLL.out; omega))
    have hH := Lib.hid ((HV.out.fr0 FQ).part0 32 0 (by have := HLL.out; omega))
    have eH : (b.drop 32).take 0 = b.drop (32 + 0) := by
      rw [List.take_zero]; exact (List.drop_of_length_le (by have := HLL.out; omega)).symm
    rw [eH] at hH
    generalize (if cap = 32 then some (⟨b1, of1, none⟩ : Addr) else some ⟨b1, of1 + 32, none⟩) = aa at hA hH ⊢
    clear hwq hq1 hq2 hlh eH
    go_wp2_with (first
      | (have hq := HS1; go_at_call 33; refine (bclone_any ws _ (b.drop (32 + 0)) (hH.out.fr0 FS) (by have := HB.out; simp; omega)).mono ?_; rintro e wt ⟨⟨r2, rfl, hr2⟩, FT⟩; have HS2 := Lib.hid hr2; have HS3 := Lib.hid (HS1.out.fr0 FT); obtain ⟨ro2, rc2, rfl, -⟩ := hr2.out; have FW := FQ.trans0 (FS.trans0 FT); clear hr2)
      | (go_at_call 33; refine (bclone_any wq _ ((b.drop 32).take 0) hA.out (by have := HB.out; simp)).mono ?_; rintro e ws ⟨⟨r1, rfl, hr1⟩, FS⟩; have HS1 := Lib.hid hr1; obtain ⟨ro1, rc1, rfl, -⟩ := hr1.out; clear hr1))
    refine bodyPost_ret (v := .tuple #[.slice ro1 (bv ((b.drop 32).take 0)).length rc1, .slice ro2 (bv (b.drop (32 + 0))).length rc2, .int .i64 0]) (by simp [results, Tryz.results62, go_sem]) rfl ?_
    exact OpenR.good FW HC.out HOP.out HS3.out HS2.out
  have t3 : ((S : Int) == 0) = false := by rw [beq_eq_false_iff_ne]; omega
  clear p3
  by_cases p6 : L < P + S
  · have t6 : (L : Int) < (P : Int) + (S : Int) := by omega
    have HC := Lib.hid (show opCode b = 3 by rw [HTN.out, if_pos p6])
    clear p6 HTN HTL2
    go_wp2_with fail
    refine bodyPost_ret (v := .tuple #[.slice none 0 0, .slice none 0 0, .int .i64 3]) (by simp [results, Tryz.results62, go_sem]) rfl ?_
    exact OpenR.bad (k := 3) F29 HC.out (by decide)
  have t6 : ¬ (L : Int) < (P : Int) + (S : Int) := by omega
  by_cases p7 : P + S < L
  · have t7 : (P : Int) + (S : Int) < (L : Int) := by omega
    have HC := Lib.hid (show opCode b = 19 by rw [HTN.out, if_neg p6, if_pos p7])
    clear p6 p7 HTN HTL2
    go_wp2_with fail
    refine bodyPost_ret (v := .tuple #[.slice none 0 0, .slice none 0 0, .int .i64 19]) (by simp [results, Tryz.results62, go_sem]) rfl ?_
    exact OpenR.bad (k := 19) F29 HC.out (by decide)
  have t7 : ¬ (P : Int) + (S : Int) < (L : Int) := by omega
  have HTO := Lib.hid (show opCode b = if 0 < S ∧ crcL (b.drop (32 + P)) ≠ U then 4 else 0 by rw [HTN.out, if_neg p6, if_neg p7])
  have hPS : P + S = L := by omega
  clear p6 p7 HTN HTL2
  go_upto_region 22 with fail
  clear t6 t7 eps t1 t2
  have hq1 : (32 : Int) + (P : Int) ≤ (cap : Int) := by have := HLC.out; omega
  have hq2 : (32 : Int) + (P : Int) ≤ (b.length : Int) := by have := HLL.out; omega
  go_quiet (fail)
  obtain ⟨wq, hwq⟩ : ∃ wq, wq = w9.drewN nq := ⟨_, rfl⟩
  rw [← hwq]
  have FQ : Fr [] w wq := by rw [hwq]; exact F29.drewN _
  have hla : 32 + P - 32 = P := by omega
  have hlh : b.length - (32 + P) = S := by have := HLL.out; omega
  rw [hla, hlh]
  have hA := Lib.hid ((HV.out.fr0 FQ).part0 32 P (by have := HLL.out; omega))
  have hH := Lib.hid ((HV.out.fr0 FQ).part0 (32 + P) S (by have := HLL.out; omega))
  have eH : (b.drop (32 + P)).take S = b.drop (32 + P) := List.take_of_length_le (by have := HLL.out; simp; omega)
  rw [eH] at hH
  generalize (if cap = 32 then some (⟨b1, of1, none⟩ : Addr) else some ⟨b1, of1 + 32, none⟩) = aa at hA ⊢
  generalize (if cap = 32 + P then some (⟨b1, of1, none⟩ : Addr) else some ⟨b1, of1 + (32 + P), none⟩) = ah at hH ⊢
  have t8 : (0 : Int) < (S : Int) := by omega
  have hcl := crcL_lt (b.drop (32 + P))
  have HCR := Lib.hid (crcof_any wq _ _ hH.out (by have := HB.out; simp; omega))
  by_cases hU : crcL (b.drop (32 + P)) = U
  rotate_left
  · have HC := Lib.hid (show opCode b = 4 by rw [HTO.out, if_pos ⟨by omega, hU⟩])
    clear HTO
    generalize crcL (b.drop (32 + P)) = C2 at *
    have tU : ((C2 : Int) != (U : Int)) = true := by simp; omega
    clear hwq hU eP eP2 hq1 hq2 hla hlh
    go_wp2_with (go_at_call 28; refine HCR.out.mono ?_; rintro e wr ⟨rfl, FR⟩; have FW := FQ.trans0 FR)
    refine bodyPost_ret (v := .tuple #[.slice none 0 0, .slice none 0 0, .int .i64 4]) (by simp [results, Tryz.results62, go_sem]) rfl ?_
    exact OpenR.bad (k := 4) FW HC.out (by decide)
  have HC := Lib.hid (show opCode b = 0 by rw [HTO.out, if_neg (fun h => h.2 hU)])
  clear HTO
  generalize crcL (b.drop (32 + P)) = C2 at *
  have tU : ((C2 : Int) != (U : Int)) = false := by simp; omega
  clear hwq hU eP eP2 hq1 hq2 hla hlh
  go_wp2_with (first
    | (have hq := HS1; go_at_call 33; refine (bclone_any ws _ (b.drop (32 + P)) (hH.out.fr0 (FR.trans0 FS)) (by have := HB.out; simp; omega)).mono ?_; rintro e wt ⟨⟨r2, rfl, hr2⟩, FT⟩; have HS2 := Lib.hid hr2; have HS3 := Lib.hid (HS1.out.fr0 FT); obtain ⟨ro2, rc2, rfl, -⟩ := hr2.out; have FW := (FQ.trans0 FR).trans0 (FS.trans0 FT); clear hr2)
    | (have hq := FR; go_at_call 33; refine (bclone_any wr _ ((b.drop 32).take P) (hA.out.fr0 FR) (by have := HB.out; simp; omega)).mono ?_; rintro e ws ⟨⟨r1, rfl, hr1⟩, FS⟩; have HS1 := Lib.hid hr1; obtain ⟨ro1, rc1, rfl, -⟩ := hr1.out; clear hr1)
    | (go_at_call 28; refine HCR.out.mono ?_; rintro e wr ⟨rfl, FR⟩))
  refine bodyPost_ret (v := .tuple #[.slice ro1 (bv ((b.drop 32).take P)).length rc1, .slice ro2 (bv (b.drop (32 + P))).length rc2, .int .i64 0]) (by simp [results, Tryz.results62, go_sem]) rfl ?_
  exact OpenR.good FW HC.out HOP.out HS3.out HS2.out
end Go.Proofs.YthbkcjlpelihlaaGreatDoor
