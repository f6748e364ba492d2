/- Contract: the reference's Open. No condition but that lengths fit. -/
import Derived.Test.YthdfjbliafdchaaHOpenA
import Derived.Test.YthdfjbliafdchaaHRefO
import Derived.Test.YthdfjbliafdchaaHRefV
namespace Go.Proofs.Ythdfjbliafdchaa
open Go.RowKit

theorem take_step {a c : List UInt8} {k : Nat} (h : a.take k = c.take k) (ha : k < a.length) (hc : k < c.length) (e : a.getD k 0 = c.getD k 0) : a.take (k + 1) = c.take (k + 1) := by
  rw [List.take_add_one, List.take_add_one, h]
  simp [List.getD_eq_getElem?_getD, ha, hc] at e
  simp [ha, hc, e]
theorem take_off {a c : List UInt8} {k m : Nat} (hk : k < m) (e : a.getD k 0 ≠ c.getD k 0) : (a.take m == c.take m) = false := by
  rw [beq_eq_false_iff_ne]
  intro h
  apply e
  have h2 : (a.take m)[k]? = (c.take m)[k]? := by rw [h]
  rw [List.getElem?_take, List.getElem?_take, if_pos hk, if_pos hk] at h2
  rw [List.getD_eq_getElem?_getD, List.getD_eq_getElem?_getD, h2]

set_option maxRecDepth 100000 in
set_option maxHeartbeats 4000000 in
theorem ropen_any (w : World) (v : Value) (b : List UInt8) (h : Sl w v (bv b)) (hb : b.length ≤ 32768) :
    Calls Try.prog 10 #[v] w (OpenR w b) := by
  have HV := Lib.hid h
  obtain ⟨ao, cap, rfl, hc, hm, ho⟩ := h.out
  have HO := Lib.hid ho
  clear h ho
  simp only [bv_length] at *
  have HB := Lib.hid hb
  go_enter Try.func10, Try.ntmps10
  go_wp2_with fail
  obtain ⟨w1, hw1⟩ : ∃ w1, w1 = w.alloc (.cells #[.int .u8 55, .int .u8 122, .int .u8 188, .int .u8 175, .int .u8 39, .int .u8 28] 5) := ⟨_, rfl⟩
  have F1 : Fr [] w w1 := hw1 ▸ (Fr.refl _ _).alloc _
  have HM := Lib.hid (show ∀ i, i < 6 → w1.cell? ⟨w.heap.size, i, none⟩ = some (.int .u8 ((magicL.getD i 0).toNat : Int)) from fun i hi => by
    rw [hw1, Go.Joins.cell_of_block (heap_alloc_new w _)]
    match i, hi with
    | 0, _ => rfl
    | 1, _ => rfl
    | 2, _ => rfl
    | 3, _ => rfl
    | 4, _ => rfl
    | 5, _ => rfl)
  have hgs : w.heap.size < w1.heap.size := by rw [hw1]; simp
  rw [← hw1]
  clear hw1
  obtain ⟨g, hg⟩ : ∃ g, w.heap.size = g := ⟨_, rfl⟩
  rw [hg] at HM hgs ⊢
  go_loopw [6] (fun i wr => ∃ k : Nat, k ≤ 6 ∧ k ≤ b.length ∧ i = .int .i64 (k : Int) ∧ b.take k = magicL.take k ∧ Fr [] w1 wr) (fun i _ => 6 - (intOf i).toNat)
  case atStart => exact ⟨0, by omega, by omega, rfl, rfl, Fr.refl _ _⟩
  case round =>
    obtain ⟨k, hk6, hkl, rfl, htk, F⟩ := hrel
    have FW : Fr [] w wr := F1.trans0 F
    by_cases hlt : k < 6 ∧ k < b.length
    · obtain ⟨k6, kl⟩ := hlt
      have k6I : (k : Int) < 6 := by omega
      have klI : (k : Int) < (b.length : Int) := by omega
      obtain ⟨b1, of1, rfl, hb1, hcl⟩ := HO.out k kl
      have d0 : wr.cell? ⟨b1, of1 + k, none⟩ = some (.int .u8 ((b.getD k 0).toNat : Int)) := by
        rw [FW.cell (p := ⟨b1, of1 + k, none⟩) hb1 (by simp), hcl k kl, bv_get _ _ (b.getD k 0) (by simp [List.getD_eq_getElem?_getD, kl])]
      have d1 : wr.cell? ⟨g, k, none⟩ = some (.int .u8 ((magicL.getD k 0).toNat : Int)) := by rw [F.cell (p := ⟨g, k, none⟩) hgs (by simp), HM.out k k6]
      clear hcl
      by_cases he : b.getD k 0 = magicL.getD k 0
      · have HT := Lib.hid (take_step htk kl (show k < 6 from k6) he)
        rw [he] at d0
        have t0 : (((magicL.getD k 0).toNat : Int) != ((magicL.getD k 0).toNat : Int)) = false := by simp
        clear he htk
        generalize ((magicL.getD k 0).toNat : Int) = y at *
        go_wp2_with fail
        go_quiet (fail)
        go_wp2_with fail
        go_roundw
        case rel => exact ⟨k + 1, by omega, by omega, by go_num, HT.out, F.drewN _⟩
        case measure => simp [intOf]; omega
      · have HC := Lib.hid (opCode_m (take_off (show k < min 6 b.length by omega) he))
        have t0 : (((b.getD k 0).toNat : Int) != ((magicL.getD k 0).toNat : Int)) = true := by
          rw [bne_iff_ne]; intro h; apply he; exact UInt8.toNat_inj.1 (by omega)
        clear he htk
        generalize ((magicL.getD k 0).toNat : Int) = y at *
        generalize ((b.getD k 0).toNat : Int) = x at *
        go_wp2_with fail
        go_quiet (fail)
        go_wp2_with fail
        refine bodyPost_ret (v := .tuple #[.slice none 0 0, .slice none 0 0, .int .i64 1]) (by simp [results, Try.results10, go_sem]) rfl ?_
        exact OpenR.bad (k := 1) (FW.drewN _) HC.out (by decide)
    have HQ1 := Lib.hid (show (b.take (min 6 b.length) == magicL.take (min 6 b.length)) = true by
      rw [beq_iff_eq, show min 6 b.length = k by omega]; exact htk)
    have hkk : (¬ (k : Int) < 6) ∨ ((k : Int) < 6 ∧ ¬ (k : Int) < (b.length : Int)) := by omega
    clear htk hlt hk6 hkl
    by_cases h32 : b.length < 32
    · have hI : (b.length : Int) < 32 := by omega
      have HC := Lib.hid (opCode_s HQ1.out h32)
      clear h32
      rcases hkk with k6I | ⟨k6I, klI⟩
      all_goals
        go_wp2_with fail
        refine bodyPost_ret (v := .tuple #[.slice none 0 0, .slice none 0 0, .int .i64 3]) (by simp [results, Try.results10, go_sem]) rfl ?_
        exact OpenR.bad (k := 3) FW HC.out (by decide)
    have hI : ¬ (b.length : Int) < 32 := by omega
    have k6I : ¬ (k : Int) < 6 := by
      rcases hkk with h | ⟨h1, h2⟩
      · exact h
      · omega
    clear hkk
    have H32 := Lib.hid h32
    obtain ⟨b1, of1, rfl, hb1, hcl⟩ := HO.out 0 (by omega)
    have HCL := Lib.hid (show ∀ wx, Fr [] w wx → ∀ i, i < b.length → wx.cell? ⟨b1, of1 + i, none⟩ = some (.int .u8 ((b.getD i 0).toNat : Int)) from fun wx F i hi => by
      rw [F.cell (p := ⟨b1, of1 + i, none⟩) hb1 (by simp), hcl i hi, bv_get _ _ (b.getD i 0) (by simp [List.getD_eq_getElem?_getD, hi])])
    clear hcl HO
    have d6 := HCL.out wr FW 6 (by omega)
    have d7 := HCL.out wr FW 7 (by omega)
    have hi6 : (6 : Int) < (b.length : Int) := by omega
    have hi7 : (7 : Int) < (b.length : Int) := by omega
    obtain ⟨x6, hx6⟩ : ∃ x, (b.getD 6 0).toNat = x := ⟨_, rfl⟩
    obtain ⟨x7, hx7⟩ : ∃ x, (b.getD 7 0).toNat = x := ⟨_, rfl⟩
    rw [hx6] at d6
    rw [hx7] at d7
    by_cases h6 : x6 = 0
    rotate_left
    · have t0 : ((x6 : Int) != 0) = true := by simp; omega
      have HC := Lib.hid (opCode_v HQ1.out h32 (.inl (by rw [hx6]; exact h6)))
      clear h32 h6 hx6 hx7
      go_wp2_with fail
      refine bodyPost_ret (v := .tuple #[.slice none 0 0, .slice none 0 0, .int .i64 2]) (by simp [results, Try.results10, go_sem]) rfl ?_
      exact OpenR.bad (k := 2) FW HC.out (by decide)
    have t0 : ((x6 : Int) != 0) = false := by simp; omega
    by_cases h7 : 4 < x7
    · have t1 : (4 : Int) < (x7 : Int) := by omega
      have HC := Lib.hid (opCode_v HQ1.out h32 (.inr (by rw [hx7]; exact h7)))
      clear h32 h6 hx6 hx7
      go_wp2_with fail
      refine bodyPost_ret (v := .tuple #[.slice none 0 0, .slice none 0 0, .int .i64 2]) (by simp [results, Try.results10, go_sem]) rfl ?_
      exact OpenR.bad (k := 2) FW HC.out (by decide)
    have t1 : ¬ (4 : Int) < (x7 : Int) := by omega
    have HV3 := Lib.hid (show ¬ ((b.getD 6 0).toNat ≠ 0 ∨ 4 < (b.getD 7 0).toNat) by rw [hx6, hx7]; omega)
    clear h32 h6 hx6 hx7 h7
    have hc32 : (32 : Int) ≤ (cap : Int) := by have := H32.out; omega
    have HP := Lib.hid (show ∀ wx, Fr [] w wx → ∀ l m, l + m ≤ b.length → l < cap → Sl wx (.slice (some ⟨b1, of1 + l, none⟩) m (cap - l)) (bv ((b.drop l).take m)) from fun wx F l m hlm hl => by
      have := (HV.out.fr0 F).part l m hlm hl
      rw [← bv_drop, ← bv_take] at this
      exact this)
    go_upto_region 11 with fail
    clear d6 d7 hi6 hi7 t0 t1 k6I
    have HCR := Lib.hid (fun wx v (h : Sl wx v (bv ((b.drop 12).take 20))) => rof_any wx v ((b.drop 12).take 20) h (by have := HB.out; simp; omega))
    have HVV := Lib.hid (fun wx v (h : Sl wx v (bv ((b.drop 8).take 4))) => value_any wx v ((b.drop 8).take 4) h (by simp; omega))
    have HPP := Lib.hid (fun wx v (h : Sl wx v (bv ((b.drop 12).take 8))) => value_any wx v ((b.drop 12).take 8) h (by simp; omega))
    have HSS := Lib.hid (fun wx v (h : Sl wx v (bv ((b.drop 20).take 8))) => value_any wx v ((b.drop 20).take 8) h (by simp; omega))
    have HUU := Lib.hid (fun wx v (h : Sl wx v (bv ((b.drop 28).take 4))) => value_any wx v ((b.drop 28).take 4) h (by simp; omega))
    have h4 := leNat_4 (b.drop 8)
    have hc4 := crcL_lt ((b.drop 12).take 20)
    have HT4 := Lib.hid (opCode_c HQ1.out H32.out HV3.out)
    have HTT := Lib.hid (opCode_t HQ1.out H32.out HV3.out)
    have hp8 := leNat_8 (b.drop 12)
    have hs8 := leNat_8 (b.drop 20)
    have hm4 := leNat_4 (b.drop 28)
    have HOP := Lib.hid (show opPlace b = leNat ((b.drop 12).take 8) from rfl)
    unfold opSize opSum at HTT
    rw [HOP.out] at HTT
    generalize leNat ((b.drop 8).take 4) = V at *
    generalize crcL ((b.drop 12).take 20) = C at *
    generalize leNat ((b.drop 12).take 8) = P at *
    generalize leNat ((b.drop 20).take 8) = S at *
    generalize leNat ((b.drop 28).take 4) = U at *
    have hc12 : ¬ cap = 12 := by omega
    have hcI12 : (12 : Int) ≤ (cap : Int) := by omega
    have hcI20 : (20 : Int) ≤ (cap : Int) := by omega
    have hcI28 : (28 : Int) ≤ (cap : Int) := by omega
    have hc8 : ¬ cap = 8 := by omega
    have eC : IntKind.u64.wrap (C : Int) = (C : Int) := by simp [IntKind.wrap, IntKind.bits, IntKind.signed]; omega
    by_cases hVC : V = C
    rotate_left
    · have tV : ((C : Int) != (V : Int)) = true := by simp; omega
      have HC := Lib.hid (HT4.out hVC)
      clear hVC HT4 HTT
      go_region_held3 (fun _ => True) (first | trivial | go_keep)
        (first
          | (have hq := F5; go_at_call 27; refine (HVV.out _ _ (HP.out _ F5 8 4 (by have := H32.out; omega) (by omega))).mono ?_; rintro e w6 ⟨rfl, G6⟩; have F6 := F5.trans0 G6.fr)
          | (go_at_call 26; refine (HCR.out _ _ (HP.out _ FW.drew 12 20 (by have := H32.out; omega) (by omega))).mono ?_; rintro e w5 ⟨rfl, rfl⟩; have F5 := FW.drew))
      all_goals
        go_wp2_with fail
        refine bodyPost_ret (v := .tuple #[.slice none 0 0, .slice none 0 0, .int .i64 4]) (by simp [results, Try.results10, go_sem]) rfl ?_
        exact OpenR.bad (k := 4) F6 HC.out (by decide)
    have tV : ((C : Int) != (V : Int)) = false := by simp; omega
    have HTL := Lib.hid (HTT.out (fun h => h hVC))
    clear hVC HT4 HTT
    go_region_held3 (fun _ => True) (first | trivial | go_keep)
      (first
        | (have hq := F5; go_at_call 27; refine (HVV.out _ _ (HP.out _ F5 8 4 (by have := H32.out; omega) (by omega))).mono ?_; rintro e w6 ⟨rfl, G6⟩; have F6 := F5.trans0 G6.fr)
        | (go_at_call 26; refine (HCR.out _ _ (HP.out _ FW.drew 12 20 (by have := H32.out; omega) (by omega))).mono ?_; rintro e w5 ⟨rfl, rfl⟩; have F5 := FW.drew))
    clear FW HVV HCR tV eC
    have hc20 : ¬ cap = 20 := by omega
    have hc28 : ¬ cap = 28 := by omega
    have hlb32 : IntKind.u64.wrap ((b.length : Int) - 32) = ((b.length - 32 : Nat) : Int) := by have := H32.out; have := HB.out; simp [IntKind.wrap, IntKind.bits, IntKind.signed]; omega
    go_upto_region 16 with (first
      | (have hq := F28; go_at_call 27; refine (HUU.out _ _ (HP.out _ F28 28 4 (by have := H32.out; omega) (by omega))).mono ?_; rintro e w9 ⟨rfl, G9⟩; have F29 := F28.trans0 G9.fr)
      | (have hq := F27; go_at_call 27; refine (HSS.out _ _ (HP.out _ F27 20 8 (by have := H32.out; omega) (by omega))).mono ?_; rintro e w8 ⟨rfl, G8⟩; have F28 := F27.trans0 G8.fr)
      | (go_at_call 27; refine (HPP.out _ _ (HP.out _ F6 12 8 (by have := H32.out; omega) (by omega))).mono ?_; rintro e w7 ⟨rfl, G7⟩; have F27 := F6.trans0 G7.fr))
    clear HPP HSS HUU F27 F28 F5 F6 G6 G7 G8 G9 hc20 hc28 hc12 hc8
    obtain ⟨L, hL⟩ : ∃ L, b.length - 32 = L := ⟨_, rfl⟩
    have HLL := Lib.hid (show b.length = 32 + L by have := H32.out; omega)
    have hLm : L ≤ 32768 := by have := HB.out; omega
    rw [hL] at HTL hlb32
    clear hL
    unfold opTail at HTL
    by_cases p1 : 1099511627776 < P
    · have t1 : (1099511627776 : Int) < (P : Int) := by omega
      have HC := Lib.hid (show opCode b = 7 by rw [HTL.out, if_pos (.inl p1)])
      clear p1 HTL
      go_wp2_with fail
      refine bodyPost_ret (v := .tuple #[.slice none 0 0, .slice none 0 0, .int .i64 7]) (by simp [results, Try.results10, go_sem]) rfl ?_
      exact OpenR.bad (k := 7) F29 HC.out (by decide)
    by_cases p2 : 1099511627776 < S
    · have t1 : ¬ (1099511627776 : Int) < (P : Int) := by omega
      have t2 : (1099511627776 : Int) < (S : Int) := by omega
      have HC := Lib.hid (show opCode b = 7 by rw [HTL.out, if_pos (.inr p2)])
      clear p1 p2 HTL
      go_wp2_with fail
      refine bodyPost_ret (v := .tuple #[.slice none 0 0, .slice none 0 0, .int .i64 7]) (by simp [results, Try.results10, go_sem]) rfl ?_
      exact OpenR.bad (k := 7) F29 HC.out (by decide)
    have t1 : ¬ (1099511627776 : Int) < (P : Int) := by omega
    have t2 : ¬ (1099511627776 : Int) < (S : Int) := by omega
    have HTM := Lib.hid (HTL.out.trans (if_neg (by omega)))
    have hp2 : P ≤ 1099511627776 ∧ S ≤ 1099511627776 := by omega
    clear p1 p2 HTL
    have eps : IntKind.u64.wrap ((P : Int) + (S : Int)) = (P : Int) + (S : Int) := by simp [IntKind.wrap, IntKind.bits, IntKind.signed]; omega
    by_cases p3 : S = 0 ∧ (0 < P ∨ 0 < U)
    · obtain ⟨p3, p4⟩ := p3
      have HC := Lib.hid (show opCode b = 7 by rw [HTM.out, if_pos ⟨p3, p4⟩])
      have t3 : ((S : Int) == 0) = true := by rw [beq_iff_eq]; omega
      by_cases p5 : 0 < P
      · have t4 : ((P : Int) != 0) = true := by simp; omega
        clear p3 p4 p5 HTM
        go_wp2_with fail
        refine bodyPost_ret (v := .tuple #[.slice none 0 0, .slice none 0 0, .int .i64 7]) (by simp [results, Try.results10, go_sem]) rfl ?_
        exact OpenR.bad (k := 7) F29 HC.out (by decide)
      · have t4 : ((P : Int) != 0) = false := by simp; omega
        have t5 : ((U : Int) != 0) = true := by simp; omega
        clear p3 p4 p5 HTM
        go_wp2_with fail
        refine bodyPost_ret (v := .tuple #[.slice none 0 0, .slice none 0 0, .int .i64 7]) (by simp [results, Try.results10, go_sem]) rfl ?_
        exact OpenR.bad (k := 7) F29 HC.out (by decide)
    have HTN := Lib.hid (HTM.out.trans (if_neg p3))
    clear HTM
    have eP : IntKind.i64.wrap (P : Int) = (P : Int) := by simp [IntKind.wrap, IntKind.bits, IntKind.signed]; omega
    have eP2 : IntKind.i64.wrap (32 + (P : Int)) = 32 + (P : Int) := by simp [IntKind.wrap, IntKind.bits, IntKind.signed]; omega
    have HLC := Lib.hid (show 32 + L ≤ cap by have := HLL.out; omega)
    by_cases hS : S = 0
    · have hP0 : P = 0 := by omega
      have hU0 : U = 0 := by omega
      subst hS hP0 hU0
      clear p3 eP eP2 hp2 eps hs8 hp8 hm4
      by_cases p7 : 0 < L
      · have t7 : (0 : Int) < (L : Int) := by omega
        have HC := Lib.hid (show opCode b = 19 by rw [HTN.out, if_neg (by omega), if_pos (by omega)])
        clear p7 HTN
        go_wp2_with fail
        refine bodyPost_ret (v := .tuple #[.slice none 0 0, .slice none 0 0, .int .i64 19]) (by simp [results, Try.results10, go_sem]) rfl ?_
        exact OpenR.bad (k := 19) F29 HC.out (by decide)
      obtain rfl : L = 0 := by omega
      have HC := Lib.hid (show opCode b = 0 by rw [HTN.out, if_neg (by omega), if_neg (by omega), if_neg (by omega)])
      clear p7 HTN
      have hq1 : (32 : Int) ≤ (cap : Int) := by have := HLC.out; omega
      have hq2 : (32 : Int) ≤ (b.length : Int) := by have := HLL.out; omega
      go_upto_region 24 with fail
      have hlh : b.length - 32 = 0 := by have := HLL.out; omega
      rw [hlh]
      have hA := Lib.hid ((HV.out.fr0 F29).part0 32 0 (by have := HLL.out; omega))
      have hH := Lib.hid ((HV.out.fr0 F29).part0 32 0 (by have := HLL.out; omega))
      have eH : (b.drop 32).take 0 = b.drop (32 + 0) := by
        rw [List.take_zero]; exact (List.drop_of_length_le (by have := HLL.out; omega)).symm
      rw [eH] at hH
      generalize (if cap = 32 then some (⟨b1, of1, none⟩ : Addr) else some ⟨b1, of1 + 32, none⟩) = aa at hA hH ⊢
      clear hq1 hq2 hlh eH
      go_wp2_with fail
      refine bodyPost_ret (v := .tuple #[.slice aa 0 (cap - 32), .slice aa 0 (cap - 32), .int .i64 0]) (by simp [results, Try.results10, go_sem]) rfl ?_
      exact OpenR.good F29 HC.out HOP.out hA.out hH.out
    have t3 : ((S : Int) == 0) = false := by rw [beq_eq_false_iff_ne]; omega
    clear p3
    by_cases p6 : L < P + S
    · have t6 : (L : Int) < (P : Int) + (S : Int) := by omega
      have HC := Lib.hid (show opCode b = 3 by rw [HTN.out, if_pos p6])
      have FW := F29
      clear p6 HTN
      go_wp2_with fail
      refine bodyPost_ret (v := .tuple #[.slice none 0 0, .slice none 0 0, .int .i64 3]) (by simp [results, Try.results10, go_sem]) rfl ?_
      exact OpenR.bad (k := 3) FW HC.out (by decide)
    have t6 : ¬ (L : Int) < (P : Int) + (S : Int) := by omega
    by_cases p7 : P + S < L
    · have t7 : (P : Int) + (S : Int) < (L : Int) := by omega
      have HC := Lib.hid (show opCode b = 19 by rw [HTN.out, if_neg p6, if_pos p7])
      have FW := F29
      clear p6 p7 HTN
      go_wp2_with fail
      refine bodyPost_ret (v := .tuple #[.slice none 0 0, .slice none 0 0, .int .i64 19]) (by simp [results, Try.results10, go_sem]) rfl ?_
      exact OpenR.bad (k := 19) FW HC.out (by decide)
    have t7 : ¬ (P : Int) + (S : Int) < (L : Int) := by omega
    have HTO := Lib.hid (show opCode b = if 0 < S ∧ crcL (b.drop (32 + P)) ≠ U then 4 else 0 by rw [HTN.out, if_neg p6, if_neg p7])
    have hPS : P + S = L := by omega
    clear p6 p7 HTN
    have hq1 : (32 : Int) + (P : Int) ≤ (cap : Int) := by have := HLC.out; omega
    have hq2 : (32 : Int) + (P : Int) ≤ (b.length : Int) := by have := HLL.out; omega
    go_upto_region 24 with fail
    clear t6 t7 eps t1 t2
    have hla : 32 + P - 32 = P := by omega
    have hlh : b.length - (32 + P) = S := by have := HLL.out; omega
    rw [hla, hlh]
    have hA := Lib.hid ((HV.out.fr0 F29).part0 32 P (by have := HLL.out; omega))
    have hH := Lib.hid ((HV.out.fr0 F29).part0 (32 + P) S (by have := HLL.out; omega))
    have eH : (b.drop (32 + P)).take S = b.drop (32 + P) := List.take_of_length_le (by have := HLL.out; simp; omega)
    rw [eH] at hH
    generalize (if cap = 32 then some (⟨b1, of1, none⟩ : Addr) else some ⟨b1, of1 + 32, none⟩) = aa at hA ⊢
    generalize (if cap = 32 + P then some (⟨b1, of1, none⟩ : Addr) else some ⟨b1, of1 + (32 + P), none⟩) = ah at hH ⊢
    have t8 : (0 : Int) < (S : Int) := by omega
    have hcl := crcL_lt (b.drop (32 + P))
    have HCR := Lib.hid (rof_any w9 _ _ hH.out (by have := HB.out; simp; omega))
    by_cases hU : crcL (b.drop (32 + P)) = U
    rotate_left
    · have HC := Lib.hid (show opCode b = 4 by rw [HTO.out, if_pos ⟨by omega, hU⟩])
      clear HTO
      generalize crcL (b.drop (32 + P)) = C2 at *
      have tU : ((C2 : Int) != (U : Int)) = true := by simp; omega
      have FW := F29
      clear hU eP eP2 hq1 hq2 hla hlh
      go_wp2_with (go_at_call 26; refine HCR.out.mono ?_; rintro e wr ⟨rfl, rfl⟩)
      refine bodyPost_ret (v := .tuple #[.slice none 0 0, .slice none 0 0, .int .i64 4]) (by simp [results, Try.results10, go_sem]) rfl ?_
      exact OpenR.bad (k := 4) FW HC.out (by decide)
    have HC := Lib.hid (show opCode b = 0 by rw [HTO.out, if_neg (fun h => h.2 hU)])
    clear HTO
    generalize crcL (b.drop (32 + P)) = C2 at *
    have tU : ((C2 : Int) != (U : Int)) = false := by simp; omega
    clear hU eP eP2 hq1 hq2 hla hlh
    go_wp2_with (go_at_call 26; refine HCR.out.mono ?_; rintro e wr ⟨rfl, rfl⟩)
    refine bodyPost_ret (v := .tuple #[.slice aa P (cap - 32), .slice ah S (cap - (32 + P)), .int .i64 0]) (by simp [results, Try.results10, go_sem]) rfl ?_
    exact OpenR.good F29 HC.out HOP.out hA.out hH.out
end Go.Proofs.Ythdfjbliafdchaa
