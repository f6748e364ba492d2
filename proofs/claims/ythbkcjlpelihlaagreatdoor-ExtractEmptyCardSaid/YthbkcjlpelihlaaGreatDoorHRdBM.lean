/- Contracts: the reader of a header: things, size, below, end, must, inside. No condition but that lengths fit. -/
import Derived.Test.YthbkcjlpelihlaaGreatDoorGAU
namespace Go.Proofs.YthbkcjlpelihlaaGreatDoor
open Go.RowKit

theorem Rs.ok_of_zero {s : Rs} (h : s.ok.k = 0) : s.ok = s := by
  obtain ⟨h1, h2⟩ := Rs.ok_zero h
  unfold Rs.ok
  rw [if_pos h1, h2, ← h1]
theorem Rs.ok_of_bad {s : Rs} (h : s.k ≠ 0) : s.ok = s := by
  unfold Rs.ok
  rw [if_neg h]
theorem Rs.fail_ok {s : Rs} {e : Nat} (he : e ≠ 0) : (s.fail e).ok = s.fail e := by
  refine Rs.ok_of_bad ?_
  unfold Rs.fail
  dsimp only
  split
  · exact he
  · assumption
theorem Rs.fail_k {s : Rs} {e : Nat} (h : s.k = 0) : (s.fail e).k = e := by
  unfold Rs.fail
  dsimp only
  rw [if_pos h]
theorem left_le (c : Cur) : c.left ≤ c.b.length := by
  unfold Cur.left
  split <;> omega
theorem number_b (c : Cur) : c.number.2.b = c.b := by
  unfold Cur.number Cur.fail
  split <;> rfl
theorem num_b (c : Cur) (n : Int) : (c.num n).2.b = c.b := by
  unfold Cur.num Cur.fail
  split
  · exact Cur.take_b _ _
  · rfl

def NumR (w : World) (p cp : Nat) (q : Option Nat) (r : Nat × Rs) (d : DV) (k : IntKind) (e : Ending) (w' : World) : Prop :=
  e = .returned (.int k (r.1 : Int)) ∧ RdAt w' p cp q r.2 d ∧ Fr [p, cp] w w'

theorem Fr.two1 {p cp : Nat} {w w' : World} (h : Fr [p] w w') : Fr [p, cp] w w' := h.mono (by simp)
theorem Fr.two2 {p cp : Nat} {w w' : World} (h : Fr [cp] w w') : Fr [p, cp] w w' := h.mono (by simp)
theorem Fr.tr2 {p cp : Nat} {a b c : World} (h : Fr [p, cp] a b) (k : Fr [p, cp] b c) : Fr [p, cp] a c := h.trans k (by simp)

set_option maxRecDepth 100000 in
set_option maxHeartbeats 1000000 in
theorem things_any (w : World) (p cp : Nat) (q : Option Nat) (s : Rs) (d : DV) (h : RdAt w p cp q s d) (hb : s.c.b.length ≤ 10000000) :
    Calls Tryz.prog 265 #[.pointer (some ⟨p, 0, none⟩)] w (NumR w p cp q (s.things) d .i64) := by
  obtain ⟨c0, -⟩ := cells9 h.blk
  have HR0 := Lib.hid h
  have HB := Lib.hid (show s.c.b.length ≤ 140737488355328 by omega)
  have HBL := Lib.hid (show s.number.2.c.left ≤ 10000000 by have := left_le s.number.2.c; rw [show s.number.2.c.b = s.c.b from number_b s.c] at this; omega)
  have HN := Lib.hid (show s.c.number.1 = s.number.1 from rfl)
  have HS := Lib.hid (show ({ s with c := s.c.number.2 } : Rs) = s.number.2 from rfl)
  have HTH := Lib.hid (show (s.things) = if s.number.2.ok.k ≠ 0 then (0, s.number.2.ok) else if decide (s.number.2.ok.c.left < s.number.1) = true then (0, s.number.2.ok.fail 3) else (s.number.1, s.number.2.ok) from rfl)
  clear h hb
  generalize s.number.1 = n at *
  generalize s.number.2 = t at *
  by_cases h1 : t.ok.k = 0
  · have HO := Lib.hid (Rs.ok_of_zero h1)
    have HK := Lib.hid (show (t.ok.k == 0) = true by rw [h1]; rfl)
    by_cases h2 : t.c.left < n
    · have HE := Lib.hid (show (s.things) = (0, t.fail 3) by rw [HTH.out, if_neg (by rw [h1]; simp), HO.out, if_pos (by simpa using h2)])
      have a1 : (t.c.left : Int) < (n : Int) := by omega
      have a2 : (t.c.left : Int) ≤ 10000000 := by have := HBL.out; omega
      have HK2 := Lib.hid (show ((t.fail 3).ok.k == 0) = false by rw [Rs.fail_ok (by decide), Rs.fail_k (Rs.ok_zero h1).1]; rfl)
      have HO2 := Lib.hid (Rs.fail_ok (s := t) (e := 3) (by decide))
      clear h1 h2
      go_enter Tryz.func265, Tryz.ntmps265
      go_wp2_with (go_at_call 318; refine (number_any _ cp q s.c HR0.out.cur HB.out).mono ?_; rw [HN.out]; rintro e w1 ⟨rfl, hC, F1⟩; have R1 := HR0.out.cur' F1 hC; rw [HS.out] at R1; obtain ⟨d0, -⟩ := cells9 R1.blk)
      go_wp2_with (first
        | (have hq := R4; go_at_call 178; refine (ok_any _ p cp q (t.fail 3) d R4).mono ?_; rw [HK2.out, HO2.out]; rintro e w5 ⟨rfl, R5, F5⟩)
        | (have hq := R2; go_at_call 174; refine (left_any _ cp q t.c R2.cur).mono ?_; rintro e w3 ⟨rfl, S3⟩; have R3 := R2.same S3)
        | (go_at_call 179; refine (rfail_any _ p cp q t d 3 R3).mono ?_; rintro e w4 ⟨rfl, R4, F4⟩)
        | (go_at_call 178; refine (ok_any _ p cp q t d R1).mono ?_; rw [HK.out, HO.out]; rintro e w2 ⟨rfl, R2, F2⟩; obtain ⟨e0, -⟩ := cells9 R2.blk))
      go_ret
      exact ⟨by rw [HE.out]; rfl, by rw [HE.out]; exact R5, (((F1.two2.tr2 F2.two1).tr2 (S3.fr (S := [p, cp]))).tr2 F4.two1).tr2 F5.two1⟩
    · have HE := Lib.hid (show (s.things) = (n, t) by rw [HTH.out, if_neg (by rw [h1]; simp), HO.out, if_neg (by simpa using h2)])
      have a1 : (n : Int) ≤ (t.c.left : Int) := by omega
      have a2 : (t.c.left : Int) ≤ 10000000 := by have := HBL.out; omega
      clear h1 h2
      go_enter Tryz.func265, Tryz.ntmps265
      go_wp2_with (go_at_call 318; refine (number_any _ cp q s.c HR0.out.cur HB.out).mono ?_; rw [HN.out]; rintro e w1 ⟨rfl, hC, F1⟩; have R1 := HR0.out.cur' F1 hC; rw [HS.out] at R1; obtain ⟨d0, -⟩ := cells9 R1.blk)
      go_wp2_with (first
        | (have hq := R3; go_at_call 178; refine (ok_any _ p cp q t d R3).mono ?_; rw [HK.out, HO.out]; rintro e w5 ⟨rfl, R5, F5⟩)
        | (have hq := R2; go_at_call 174; refine (left_any _ cp q t.c R2.cur).mono ?_; rintro e w3 ⟨rfl, S3⟩; have R3 := R2.same S3)
        | (go_at_call 178; refine (ok_any _ p cp q t d R1).mono ?_; rw [HK.out, HO.out]; rintro e w2 ⟨rfl, R2, F2⟩; obtain ⟨e0, -⟩ := cells9 R2.blk))
      go_ret
      exact ⟨by rw [HE.out]; first | rfl | go_num, by rw [HE.out]; exact R5, ((F1.two2.tr2 F2.two1).tr2 (S3.fr (S := [p, cp]))).tr2 F5.two1⟩
  · have HE := Lib.hid (show (s.things) = (0, t.ok) by rw [HTH.out, if_pos h1])
    have HK := Lib.hid (show (t.ok.k == 0) = false by rw [beq_eq_false_iff_ne]; exact h1)
    have HK2 := Lib.hid (show (t.ok.ok.k == 0) = false by rw [Rs.ok_ok]; exact HK.out)
    have HO2 := Lib.hid (Rs.ok_ok t)
    clear h1
    go_enter Tryz.func265, Tryz.ntmps265
    go_wp2_with (go_at_call 318; refine (number_any _ cp q s.c HR0.out.cur HB.out).mono ?_; rw [HN.out]; rintro e w1 ⟨rfl, hC, F1⟩; have R1 := HR0.out.cur' F1 hC; rw [HS.out] at R1; obtain ⟨d0, -⟩ := cells9 R1.blk)
    go_wp2_with (first
      | (have hq := R2; go_at_call 178; refine (ok_any _ p cp q t.ok d R2).mono ?_; rw [HK2.out, HO2.out]; rintro e w5 ⟨rfl, R5, F5⟩)
      | (go_at_call 178; refine (ok_any _ p cp q t d R1).mono ?_; rw [HK.out]; rintro e w2 ⟨rfl, R2, F2⟩))
    go_ret
    exact ⟨by rw [HE.out]; rfl, by rw [HE.out]; exact R5, (F1.two2.tr2 F2.two1).tr2 F5.two1⟩

set_option maxRecDepth 100000 in
set_option maxHeartbeats 1000000 in
theorem size_any (w : World) (p cp : Nat) (q : Option Nat) (s : Rs) (d : DV) (h : RdAt w p cp q s d) (hb : s.c.b.length ≤ 10000000) :
    Calls Tryz.prog 268 #[.pointer (some ⟨p, 0, none⟩)] w (NumR w p cp q (s.size) d .u64) := by
  obtain ⟨c0, -⟩ := cells9 h.blk
  have HR0 := Lib.hid h
  have HB := Lib.hid (show s.c.b.length ≤ 140737488355328 by omega)
  have HBL := Lib.hid (show s.number.2.c.left ≤ 10000000 by have := left_le s.number.2.c; rw [show s.number.2.c.b = s.c.b from number_b s.c] at this; omega)
  have HN := Lib.hid (show s.c.number.1 = s.number.1 from rfl)
  have HS := Lib.hid (show ({ s with c := s.c.number.2 } : Rs) = s.number.2 from rfl)
  have HTH := Lib.hid (show (s.size) = if s.number.2.ok.k ≠ 0 then (0, s.number.2.ok) else if decide (1099511627776 < s.number.1) = true then (0, s.number.2.ok.fail 7) else (s.number.1, s.number.2.ok) from rfl)
  clear h hb
  generalize s.number.1 = n at *
  generalize s.number.2 = t at *
  by_cases h1 : t.ok.k = 0
  · have HO := Lib.hid (Rs.ok_of_zero h1)
    have HK := Lib.hid (show (t.ok.k == 0) = true by rw [h1]; rfl)
    by_cases h2 : 1099511627776 < n
    · have HE := Lib.hid (show (s.size) = (0, t.fail 7) by rw [HTH.out, if_neg (by rw [h1]; simp), HO.out, if_pos (by simpa using h2)])
      have a1 : (1099511627776 : Int) < (n : Int) := by omega
      have HK2 := Lib.hid (show ((t.fail 7).ok.k == 0) = false by rw [Rs.fail_ok (by decide), Rs.fail_k (Rs.ok_zero h1).1]; rfl)
      have HO2 := Lib.hid (Rs.fail_ok (s := t) (e := 7) (by decide))
      clear h1 h2
      go_enter Tryz.func268, Tryz.ntmps268
      go_wp2_with (go_at_call 318; refine (number_any _ cp q s.c HR0.out.cur HB.out).mono ?_; rw [HN.out]; rintro e w1 ⟨rfl, hC, F1⟩; have R1 := HR0.out.cur' F1 hC; rw [HS.out] at R1; obtain ⟨d0, -⟩ := cells9 R1.blk)
      go_wp2_with (first
        | (have hq := R4; go_at_call 178; refine (ok_any _ p cp q (t.fail 7) d R4).mono ?_; rw [HK2.out, HO2.out]; rintro e w5 ⟨rfl, R5, F5⟩)
        | (go_at_call 179; refine (rfail_any _ p cp q t d 7 R2).mono ?_; rintro e w4 ⟨rfl, R4, F4⟩)
        | (go_at_call 178; refine (ok_any _ p cp q t d R1).mono ?_; rw [HK.out, HO.out]; rintro e w2 ⟨rfl, R2, F2⟩; obtain ⟨e0, -⟩ := cells9 R2.blk))
      go_ret
      exact ⟨by rw [HE.out]; rfl, by rw [HE.out]; exact R5, (((F1.two2.tr2 F2.two1)).tr2 F4.two1).tr2 F5.two1⟩
    · have HE := Lib.hid (show (s.size) = (n, t) by rw [HTH.out, if_neg (by rw [h1]; simp), HO.out, if_neg (by simpa using h2)])
      have a1 : (n : Int) ≤ (1099511627776 : Int) := by omega
      clear h1 h2
      go_enter Tryz.func268, Tryz.ntmps268
      go_wp2_with (go_at_call 318; refine (number_any _ cp q s.c HR0.out.cur HB.out).mono ?_; rw [HN.out]; rintro e w1 ⟨rfl, hC, F1⟩; have R1 := HR0.out.cur' F1 hC; rw [HS.out] at R1; obtain ⟨d0, -⟩ := cells9 R1.blk)
      go_wp2_with (first
        | (have hq := R2; go_at_call 178; refine (ok_any _ p cp q t d R2).mono ?_; rw [HK.out, HO.out]; rintro e w5 ⟨rfl, R5, F5⟩)
        | (go_at_call 178; refine (ok_any _ p cp q t d R1).mono ?_; rw [HK.out, HO.out]; rintro e w2 ⟨rfl, R2, F2⟩; obtain ⟨e0, -⟩ := cells9 R2.blk))
      go_ret
      exact ⟨by rw [HE.out]; first | rfl | go_num, by rw [HE.out]; exact R5, ((F1.two2.tr2 F2.two1)).tr2 F5.two1⟩
  · have HE := Lib.hid (show (s.size) = (0, t.ok) by rw [HTH.out, if_pos h1])
    have HK := Lib.hid (show (t.ok.k == 0) = false by rw [beq_eq_false_iff_ne]; exact h1)
    have HK2 := Lib.hid (show (t.ok.ok.k == 0) = false by rw [Rs.ok_ok]; exact HK.out)
    have HO2 := Lib.hid (Rs.ok_ok t)
    clear h1
    go_enter Tryz.func268, Tryz.ntmps268
    go_wp2_with (go_at_call 318; refine (number_any _ cp q s.c HR0.out.cur HB.out).mono ?_; rw [HN.out]; rintro e w1 ⟨rfl, hC, F1⟩; have R1 := HR0.out.cur' F1 hC; rw [HS.out] at R1; obtain ⟨d0, -⟩ := cells9 R1.blk)
    go_wp2_with (first
      | (have hq := R2; go_at_call 178; refine (ok_any _ p cp q t.ok d R2).mono ?_; rw [HK2.out, HO2.out]; rintro e w5 ⟨rfl, R5, F5⟩)
      | (go_at_call 178; refine (ok_any _ p cp q t d R1).mono ?_; rw [HK.out]; rintro e w2 ⟨rfl, R2, F2⟩))
    go_ret
    exact ⟨by rw [HE.out]; rfl, by rw [HE.out]; exact R5, (F1.two2.tr2 F2.two1).tr2 F5.two1⟩

set_option maxRecDepth 100000 in
set_option maxHeartbeats 1000000 in
theorem below_any (w : World) (p cp : Nat) (q : Option Nat) (s : Rs) (d : DV) (m : Nat) (hm : m ≤ 10000000) (h : RdAt w p cp q s d) (hb : s.c.b.length ≤ 10000000) :
    Calls Tryz.prog 325 #[.pointer (some ⟨p, 0, none⟩), .int .i64 (m : Int)] w (NumR w p cp q (s.below m) d .i64) := by
  obtain ⟨c0, -⟩ := cells9 h.blk
  have HR0 := Lib.hid h
  have HB := Lib.hid (show s.c.b.length ≤ 140737488355328 by omega)
  have HBL := Lib.hid (show s.number.2.c.left ≤ 10000000 by have := left_le s.number.2.c; rw [show s.number.2.c.b = s.c.b from number_b s.c] at this; omega)
  have HN := Lib.hid (show s.c.number.1 = s.number.1 from rfl)
  have HS := Lib.hid (show ({ s with c := s.c.number.2 } : Rs) = s.number.2 from rfl)
  have HTH := Lib.hid (show (s.below m) = if s.number.2.ok.k ≠ 0 then (0, s.number.2.ok) else if decide (m ≤ s.number.1) = true then (0, s.number.2.ok.fail 10) else (s.number.1, s.number.2.ok) from rfl)
  clear h hb
  have hm2 : (m : Int) ≤ 10000000 := by omega
  generalize s.number.1 = n at *
  generalize s.number.2 = t at *
  by_cases h1 : t.ok.k = 0
  · have HO := Lib.hid (Rs.ok_of_zero h1)
    have HK := Lib.hid (show (t.ok.k == 0) = true by rw [h1]; rfl)
    by_cases h2 : m ≤ n
    · have HE := Lib.hid (show (s.below m) = (0, t.fail 10) by rw [HTH.out, if_neg (by rw [h1]; simp), HO.out, if_pos (by simpa using h2)])
      have a1 : (m : Int) ≤ (n : Int) := by omega
      have HK2 := Lib.hid (show ((t.fail 10).ok.k == 0) = false by rw [Rs.fail_ok (by decide), Rs.fail_k (Rs.ok_zero h1).1]; rfl)
      have HO2 := Lib.hid (Rs.fail_ok (s := t) (e := 10) (by decide))
      clear h1 h2
      go_enter Tryz.func325, Tryz.ntmps325
      go_wp2_with (go_at_call 318; refine (number_any _ cp q s.c HR0.out.cur HB.out).mono ?_; rw [HN.out]; rintro e w1 ⟨rfl, hC, F1⟩; have R1 := HR0.out.cur' F1 hC; rw [HS.out] at R1; obtain ⟨d0, -⟩ := cells9 R1.blk)
      go_wp2_with (first
        | (have hq := R4; go_at_call 178; refine (ok_any _ p cp q (t.fail 10) d R4).mono ?_; rw [HK2.out, HO2.out]; rintro e w5 ⟨rfl, R5, F5⟩)
        | (go_at_call 179; refine (rfail_any _ p cp q t d 10 R2).mono ?_; rintro e w4 ⟨rfl, R4, F4⟩)
        | (go_at_call 178; refine (ok_any _ p cp q t d R1).mono ?_; rw [HK.out, HO.out]; rintro e w2 ⟨rfl, R2, F2⟩; obtain ⟨e0, -⟩ := cells9 R2.blk))
      go_ret
      exact ⟨by rw [HE.out]; rfl, by rw [HE.out]; exact R5, (((F1.two2.tr2 F2.two1)).tr2 F4.two1).tr2 F5.two1⟩
    · have HE := Lib.hid (show (s.below m) = (n, t) by rw [HTH.out, if_neg (by rw [h1]; simp), HO.out, if_neg (by simpa using h2)])
      have a1 : (n : Int) < (m : Int) := by omega
      clear h1 h2
      go_enter Tryz.func325, Tryz.ntmps325
      go_wp2_with (go_at_call 318; refine (number_any _ cp q s.c HR0.out.cur HB.out).mono ?_; rw [HN.out]; rintro e w1 ⟨rfl, hC, F1⟩; have R1 := HR0.out.cur' F1 hC; rw [HS.out] at R1; obtain ⟨d0, -⟩ := cells9 R1.blk)
      go_wp2_with (first
        | (have hq := R2; go_at_call 178; refine (ok_any _ p cp q t d R2).mono ?_; rw [HK.out, HO.out]; rintro e w5 ⟨rfl, R5, F5⟩)
        | (go_at_call 178; refine (ok_any _ p cp q t d R1).mono ?_; rw [HK.out, HO.out]; rintro e w2 ⟨rfl, R2, F2⟩; obtain ⟨e0, -⟩ := cells9 R2.blk))
      go_ret
      exact ⟨by rw [HE.out]; first | rfl | go_num, by rw [HE.out]; exact R5, ((F1.two2.tr2 F2.two1)).tr2 F5.two1⟩
  · have HE := Lib.hid (show (s.below m) = (0, t.ok) by rw [HTH.out, if_pos h1])
    have HK := Lib.hid (show (t.ok.k == 0) = false by rw [beq_eq_false_iff_ne]; exact h1)
    have HK2 := Lib.hid (show (t.ok.ok.k == 0) = false by rw [Rs.ok_ok]; exact HK.out)
    have HO2 := Lib.hid (Rs.ok_ok t)
    clear h1
    go_enter Tryz.func325, Tryz.ntmps325
    go_wp2_with (go_at_call 318; refine (number_any _ cp q s.c HR0.out.cur HB.out).mono ?_; rw [HN.out]; rintro e w1 ⟨rfl, hC, F1⟩; have R1 := HR0.out.cur' F1 hC; rw [HS.out] at R1; obtain ⟨d0, -⟩ := cells9 R1.blk)
    go_wp2_with (first
      | (have hq := R2; go_at_call 178; refine (ok_any _ p cp q t.ok d R2).mono ?_; rw [HK2.out, HO2.out]; rintro e w5 ⟨rfl, R5, F5⟩)
      | (go_at_call 178; refine (ok_any _ p cp q t d R1).mono ?_; rw [HK.out]; rintro e w2 ⟨rfl, R2, F2⟩))
    go_ret
    exact ⟨by rw [HE.out]; rfl, by rw [HE.out]; exact R5, (F1.two2.tr2 F2.two1).tr2 F5.two1⟩
/-- A part's end. -/
def Rs.end_ (s : Rs) (id : Nat) : Rs := if s.ok.k = 0 ∧ id ≠ 0 then s.ok.fail 5 else s.ok
def Rs.must (s : Rs) (id : Nat) : Rs := if s.byte.2.ok.k = 0 ∧ s.byte.1 ≠ id then s.byte.2.ok.fail 5 else s.byte.2.ok
def Rs.inside (s : Rs) : Rs := if s.byte.2.ok.k ≠ 0 ∨ s.byte.1 = 0 then s.byte.2.ok else if s.byte.1 = 1 then s.byte.2.ok.fail 6 else s.byte.2.ok.fail 5
def VoidR (w : World) (p cp : Nat) (q : Option Nat) (r : Rs) (d : DV) (e : Ending) (w' : World) : Prop := e = .returned (.tuple #[]) ∧ RdAt w' p cp q r d ∧ Fr [p, cp] w w'

set_option maxHeartbeats 1000000 in
theorem end_any (w : World) (p cp : Nat) (q : Option Nat) (s : Rs) (d : DV) (id : Nat) (h : RdAt w p cp q s d) :
    Calls Tryz.prog 219 #[.pointer (some ⟨p, 0, none⟩), .int .i64 (id : Int)] w (VoidR w p cp q (s.end_ id) d) := by
  have HR0 := Lib.hid h
  clear h
  by_cases h1 : s.ok.k = 0
  · have HK := Lib.hid (show (s.ok.k == 0) = true by rw [h1]; rfl)
    by_cases h2 : id = 0
    · subst h2
      have HE := Lib.hid (show s.end_ 0 = s.ok by simp [Rs.end_])
      clear h1
      go_enter Tryz.func219, Tryz.ntmps219
      go_wp2_with (go_at_call 178; refine (ok_any _ p cp q s d HR0.out).mono ?_; rw [HK.out]; rintro e w2 ⟨rfl, R2, F2⟩)
      go_end0
      exact ⟨rfl, by rw [HE.out]; exact R2, F2.two1⟩
    · have HE := Lib.hid (show s.end_ id = s.ok.fail 5 by rw [Rs.end_, if_pos ⟨h1, h2⟩])
      have t0 : ((id : Int) == 0) = false := by rw [beq_eq_false_iff_ne]; omega
      clear h1 h2
      go_enter Tryz.func219, Tryz.ntmps219
      go_wp2_with (first
        | (go_at_call 179; refine (rfail_any _ p cp q s.ok d 5 R2).mono ?_; rintro e w4 ⟨rfl, R4, F4⟩)
        | (go_at_call 178; refine (ok_any _ p cp q s d HR0.out).mono ?_; rw [HK.out]; rintro e w2 ⟨rfl, R2, F2⟩))
      go_end0
      exact ⟨rfl, by rw [HE.out]; exact R4, F2.two1.tr2 F4.two1⟩
  · have HK := Lib.hid (show (s.ok.k == 0) = false by rw [beq_eq_false_iff_ne]; exact h1)
    have HE := Lib.hid (show s.end_ id = s.ok by rw [Rs.end_, if_neg (fun h => h1 h.1)])
    clear h1
    go_enter Tryz.func219, Tryz.ntmps219
    go_wp2_with (go_at_call 178; refine (ok_any _ p cp q s d HR0.out).mono ?_; rw [HK.out]; rintro e w2 ⟨rfl, R2, F2⟩)
    go_end0
    exact ⟨rfl, by rw [HE.out]; exact R2, F2.two1⟩

set_option maxHeartbeats 1000000 in
theorem must_any (w : World) (p cp : Nat) (q : Option Nat) (s : Rs) (d : DV) (id : Nat) (h : RdAt w p cp q s d) (hb : s.c.b.length ≤ 10000000) :
    Calls Tryz.prog 270 #[.pointer (some ⟨p, 0, none⟩), .int .i64 (id : Int)] w (VoidR w p cp q (s.must id) d) := by
  have HR0 := Lib.hid h
  have HB := Lib.hid hb
  have HM := Lib.hid (show s.must id = if s.byte.2.ok.k = 0 ∧ s.byte.1 ≠ id then s.byte.2.ok.fail 5 else s.byte.2.ok from rfl)
  have HBY := Lib.hid (fun w (h : RdAt w p cp q s d) => byte_any w p cp q s d h HB.out)
  clear h hb
  generalize s.byte.1 = v at *
  generalize s.byte.2 = t at *
  by_cases h1 : t.ok.k = 0
  · have HK := Lib.hid (show (t.ok.k == 0) = true by rw [h1]; rfl)
    by_cases h2 : v = id
    · subst h2
      have HE := Lib.hid (show s.must v = t.ok by rw [HM.out, if_neg (fun h => h.2 rfl)])
      have t0 : ((v : Int) == (v : Int)) = true := by simp
      clear h1
      go_enter Tryz.func270, Tryz.ntmps270
      go_wp2_with (first
        | (go_at_call 178; refine (ok_any _ p cp q t d R1).mono ?_; rw [HK.out]; rintro e w2 ⟨rfl, R2, F2⟩)
        | (go_at_call 175; refine (HBY.out _ HR0.out).mono ?_; rintro e w1 ⟨rfl, R1, F1⟩))
      go_end0
      exact ⟨rfl, by rw [HE.out]; exact R2, F1.two2.tr2 F2.two1⟩
    · have HE := Lib.hid (show s.must id = t.ok.fail 5 by rw [HM.out, if_pos ⟨h1, h2⟩])
      have t0 : ((v : Int) == (id : Int)) = false := by rw [beq_eq_false_iff_ne]; omega
      clear h1 h2
      go_enter Tryz.func270, Tryz.ntmps270
      go_wp2_with (first
        | (go_at_call 179; refine (rfail_any _ p cp q t.ok d 5 R2).mono ?_; rintro e w4 ⟨rfl, R4, F4⟩)
        | (go_at_call 178; refine (ok_any _ p cp q t d R1).mono ?_; rw [HK.out]; rintro e w2 ⟨rfl, R2, F2⟩)
        | (go_at_call 175; refine (HBY.out _ HR0.out).mono ?_; rintro e w1 ⟨rfl, R1, F1⟩))
      go_end0
      exact ⟨rfl, by rw [HE.out]; exact R4, (F1.two2.tr2 F2.two1).tr2 F4.two1⟩
  · have HK := Lib.hid (show (t.ok.k == 0) = false by rw [beq_eq_false_iff_ne]; exact h1)
    have HE := Lib.hid (show s.must id = t.ok by rw [HM.out, if_neg (fun h => h1 h.1)])
    clear h1
    go_enter Tryz.func270, Tryz.ntmps270
    go_wp2_with (first
      | (go_at_call 178; refine (ok_any _ p cp q t d R1).mono ?_; rw [HK.out]; rintro e w2 ⟨rfl, R2, F2⟩)
      | (go_at_call 175; refine (HBY.out _ HR0.out).mono ?_; rintro e w1 ⟨rfl, R1, F1⟩))
    go_end0
    exact ⟨rfl, by rw [HE.out]; exact R2, F1.two2.tr2 F2.two1⟩

set_option maxHeartbeats 1000000 in
theorem inside_any (w : World) (p cp : Nat) (q : Option Nat) (s : Rs) (d : DV) (h : RdAt w p cp q s d) (hb : s.c.b.length ≤ 10000000) :
    Calls Tryz.prog 271 #[.pointer (some ⟨p, 0, none⟩)] w (VoidR w p cp q s.inside d) := by
  have HR0 := Lib.hid h
  have HB := Lib.hid hb
  have HM := Lib.hid (show s.inside = if s.byte.2.ok.k ≠ 0 ∨ s.byte.1 = 0 then s.byte.2.ok else if s.byte.1 = 1 then s.byte.2.ok.fail 6 else s.byte.2.ok.fail 5 from rfl)
  have HBY := Lib.hid (fun w (h : RdAt w p cp q s d) => byte_any w p cp q s d h HB.out)
  clear h hb
  generalize s.byte.1 = v at *
  generalize s.byte.2 = t at *
  by_cases h1 : t.ok.k = 0
  · have HK := Lib.hid (show (t.ok.k == 0) = true by rw [h1]; rfl)
    by_cases h2 : v = 0
    · subst h2
      have HE := Lib.hid (show s.inside = t.ok by rw [HM.out, if_pos (.inr rfl)])
      clear h1
      go_enter Tryz.func271, Tryz.ntmps271
      go_wp2_with (first
        | (go_at_call 178; refine (ok_any _ p cp q t d R1).mono ?_; rw [HK.out]; rintro e w2 ⟨rfl, R2, F2⟩)
        | (go_at_call 175; refine (HBY.out _ HR0.out).mono ?_; rintro e w1 ⟨rfl, R1, F1⟩))
      go_end0
      exact ⟨rfl, by rw [HE.out]; exact R2, F1.two2.tr2 F2.two1⟩
    · have t0 : ((v : Int) == 0) = false := by rw [beq_eq_false_iff_ne]; omega
      by_cases h3 : v = 1
      · subst h3
        have HE := Lib.hid (show s.inside = t.ok.fail 6 by rw [HM.out, if_neg (by simp [h1]), if_pos rfl])
        clear h1 h2 t0
        go_enter Tryz.func271, Tryz.ntmps271
        go_wp2_with (first
          | (go_at_call 179; refine (rfail_any _ p cp q t.ok d 6 R2).mono ?_; rintro e w4 ⟨rfl, R4, F4⟩)
          | (go_at_call 178; refine (ok_any _ p cp q t d R1).mono ?_; rw [HK.out]; rintro e w2 ⟨rfl, R2, F2⟩)
          | (go_at_call 175; refine (HBY.out _ HR0.out).mono ?_; rintro e w1 ⟨rfl, R1, F1⟩))
        go_end0
        exact ⟨rfl, by rw [HE.out]; exact R4, (F1.two2.tr2 F2.two1).tr2 F4.two1⟩
      · have HE := Lib.hid (show s.inside = t.ok.fail 5 by rw [HM.out, if_neg (by simp [h1, h2]), if_neg h3])
        have t1 : ((v : Int) == 1) = false := by rw [beq_eq_false_iff_ne]; omega
        clear h1 h2 h3
        go_enter Tryz.func271, Tryz.ntmps271
        go_wp2_with (first
          | (go_at_call 179; refine (rfail_any _ p cp q t.ok d 5 R2).mono ?_; rintro e w4 ⟨rfl, R4, F4⟩)
          | (go_at_call 178; refine (ok_any _ p cp q t d R1).mono ?_; rw [HK.out]; rintro e w2 ⟨rfl, R2, F2⟩)
          | (go_at_call 175; refine (HBY.out _ HR0.out).mono ?_; rintro e w1 ⟨rfl, R1, F1⟩))
        go_end0
        exact ⟨rfl, by rw [HE.out]; exact R4, (F1.two2.tr2 F2.two1).tr2 F4.two1⟩
  · have HK := Lib.hid (show (t.ok.k == 0) = false by rw [beq_eq_false_iff_ne]; exact h1)
    have HE := Lib.hid (show s.inside = t.ok by rw [HM.out, if_pos (.inl h1)])
    clear h1
    go_enter Tryz.func271, Tryz.ntmps271
    go_wp2_with (first
      | (go_at_call 178; refine (ok_any _ p cp q t d R1).mono ?_; rw [HK.out]; rintro e w2 ⟨rfl, R2, F2⟩)
      | (go_at_call 175; refine (HBY.out _ HR0.out).mono ?_; rintro e w1 ⟨rfl, R1, F1⟩))
    go_end0
    exact ⟨rfl, by rw [HE.out]; exact R2, F1.two2.tr2 F2.two1⟩

end Go.Proofs.YthbkcjlpelihlaaGreatDoor
