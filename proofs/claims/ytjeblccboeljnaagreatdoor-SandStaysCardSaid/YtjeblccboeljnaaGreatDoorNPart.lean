/- Contracts: names' odd, device, part. No condition but that lengths fit. -/
import Derived.Test.YtjeblccboeljnaaGreatDoorNBase
import Derived.Test.YtjeblccboeljnaaGreatDoorNSpec
namespace Go.Proofs.YtjeblccboeljnaaGreatDoor
open Go.RowKit

def oddR (r : Nat) : Bool := decide (r < 32) || (r == 127 || r == 92 || r == 58 || r == 42 || r == 63 || r == 34 || r == 60 || r == 62 || r == 124)
theorem oddR_byte (b : UInt8) : oddR b.toNat = oddB b := by
  have h : ∀ c : UInt8, (b == c) = (b.toNat == c.toNat) := fun c => by rw [Bool.eq_iff_iff, beq_iff_eq, beq_iff_eq, UInt8.toNat_inj]
  unfold oddR oddB
  simp only [h]
  rfl
theorem oddR_high (r : Nat) (h : 128 ≤ r) : oddR r = false := by
  unfold oddR
  simp
  omega

set_option maxHeartbeats 1000000 in
theorem odd_any (w : World) (r : Nat) (hr : r ≤ 1114111) : Calls Tryz.prog 85 #[.int .i32 r] w fun e w' => e = .returned (.bool (oddR r)) ∧ w' = w := by
  by_cases h : r = 92 ∨ r = 58 ∨ r = 42 ∨ r = 63 ∨ r = 34 ∨ r = 60 ∨ r = 62 ∨ r = 124 ∨ r = 127
  · have HO := Lib.hid (show oddR r = true by rcases h with rfl | rfl | rfl | rfl | rfl | rfl | rfl | rfl | rfl <;> decide)
    rcases h with rfl | rfl | rfl | rfl | rfl | rfl | rfl | rfl | rfl
    all_goals
      go_enter Tryz.func85, Tryz.ntmps85
      go_wp2_with fail
      go_ret
      exact ⟨by rw [HO.out]; rfl, rfl⟩
  · have HO := Lib.hid (show oddR r = decide ((r : Int) < 32) by
      have : ¬ (r = 127 ∨ r = 92 ∨ r = 58 ∨ r = 42 ∨ r = 63 ∨ r = 34 ∨ r = 60 ∨ r = 62 ∨ r = 124) := by omega
      unfold oddR
      rw [show (r == 127 || r == 92 || r == 58 || r == 42 || r == 63 || r == 34 || r == 60 || r == 62 || r == 124) = false by simp; omega, Bool.or_false]
      exact decide_eq_decide.2 (by omega))
    have q1 : ((r : Int) == 92) = false := by rw [beq_eq_false_iff_ne]; omega
    have q2 : ((r : Int) == 58) = false := by rw [beq_eq_false_iff_ne]; omega
    have q3 : ((r : Int) == 42) = false := by rw [beq_eq_false_iff_ne]; omega
    have q4 : ((r : Int) == 63) = false := by rw [beq_eq_false_iff_ne]; omega
    have q5 : ((r : Int) == 34) = false := by rw [beq_eq_false_iff_ne]; omega
    have q6 : ((r : Int) == 60) = false := by rw [beq_eq_false_iff_ne]; omega
    have q7 : ((r : Int) == 62) = false := by rw [beq_eq_false_iff_ne]; omega
    have q8 : ((r : Int) == 124) = false := by rw [beq_eq_false_iff_ne]; omega
    have q9 : ((r : Int) == 127) = false := by rw [beq_eq_false_iff_ne]; omega
    clear h
    go_enter Tryz.func85, Tryz.ntmps85
    go_wp2_with fail
    go_ret
    exact ⟨by rw [HO.out]; rfl, rfl⟩

def CutH (H : List UInt8) (w : World) (e : Ending) (w' : World) : Prop := ∃ x y, e = .returned (.tuple #[.string ⟨H.toArray⟩, x, y]) ∧ Fr [] w w'

theorem cut_any (w : World) (s : ByteArray) (hG : Gl w) (hs : s.size ≤ 100000) (H : List UInt8) (hH : headL (ls s) = H) :
    Calls Tryz.prog 96 #[.string s, .string ⟨#[46]⟩] w (CutH H w) := by
  obtain ⟨m, hm⟩ := hG.ml
  refine (Tryz.strings_Cut s ⟨#[46]⟩ m w (by omega) hm).mono ?_
  rintro e w2 ⟨rfl, n2, rfl⟩
  have e1 : (Lib.cut s.data.toList (⟨#[46]⟩ : ByteArray).data.toList).1 = H := (cut_head (ls s)).trans hH
  refine ⟨.string ⟨(Lib.cut s.data.toList (⟨#[46]⟩ : ByteArray).data.toList).2.1.toArray⟩, .bool (Lib.cut s.data.toList (⟨#[46]⟩ : ByteArray).data.toList).2.2, ?_, (Fr.refl _ _).drewN n2⟩
  rw [e1]

theorem devH_four (a b c d : UInt8) : devH [a, b, c, d] = ((decide (49 ≤ d.toNat) && decide (d.toNat ≤ 57)) && ([a, b, c] == com || [a, b, c] == lpt)) := by
  simp [devH, words4]

set_option maxHeartbeats 1000000 in
theorem device_any (w : World) (s : ByteArray) (hG : Gl w) (hs : s.size ≤ 100000) :
    Calls Tryz.prog 86 #[.string s] w fun e w' => e = .returned (.bool (devH (headL (foldL (ls s))))) ∧ Fr [] w w' := by
  have HG := Lib.hid hG
  obtain ⟨H, hH⟩ : ∃ H, headL (ls (ba (foldL (ls s)))) = H := ⟨_, rfl⟩
  have HE := Lib.hid (show headL (foldL (ls s)) = H by rw [← hH, ls_ba])
  have HH := Lib.hid hH
  clear hH hG
  have HSz := Lib.hid (show (ba (foldL (ls s))).size ≤ 100000 by rw [ba_size]; simp [foldL, ls_size]; omega)
  have HD := Lib.hid (show devH (headL (foldL (ls s))) = devH H by rw [HE.out])
  by_cases h4 : H ∈ words4
  · have hd : devH H = true := by
      unfold devH
      rw [List.contains_iff_mem.2 h4]
      rfl
    have HDT := Lib.hid (HD.out.trans hd)
    clear hd
    simp only [words4, List.mem_cons, List.not_mem_nil, or_false] at h4
    rcases h4 with rfl | rfl | rfl | rfl
    all_goals
      go_enter Tryz.func86, Tryz.ntmps86
      go_wp2_with (first
        | (go_at_call 97; refine (fold_any _ s hs).mono ?_; rintro e w1 ⟨rfl, F1⟩)
        | (go_at_call 96; refine (cut_any _ _ (HG.out.fr F1) HSz.out _ HH.out).mono ?_; rintro e w2 ⟨x2, y2, rfl, F2⟩))
      go_ret
      exact ⟨by rw [HDT.out]; rfl, F1.trans0 F2⟩
  have q : ∀ u ∈ words4, (H == u) = false := fun u hu => by rw [beq_eq_false_iff_ne]; rintro rfl; exact h4 hu
  have q1 := q [99, 111, 110] (by simp [words4])
  have q2 := q [112, 114, 110] (by simp [words4])
  have q3 := q [97, 117, 120] (by simp [words4])
  have q4 := q [110, 117, 108] (by simp [words4])
  by_cases hl : H.length = 4
  · match H, hl with
    | [a, b, c, d], _ =>
      have HD4 := Lib.hid (HD.out.trans (devH_four a b c d))
      have hx : ((⟨#[a, b, c, d]⟩ : ByteArray).extract 0 3).toList = [a, b, c] := by rw [Lib.extract_toList]; rfl
      have hg : ∀ h, ((⟨#[a, b, c, d]⟩ : ByteArray)[3]'h) = d := fun _ => rfl
      clear q h4 hl
      by_cases hd : 49 ≤ d.toNat ∧ d.toNat ≤ 57
      · have d1 : (49 : Int) ≤ (d.toNat : Int) := by omega
        have d2 : (d.toNat : Int) ≤ 57 := by omega
        have HD5 := Lib.hid (show devH (headL (foldL (ls s))) = ([a, b, c] == com || [a, b, c] == lpt) by rw [HD4.out]; simp [hd])
        clear hd
        generalize hc : ([a, b, c] == com) = bc at HD5
        generalize hl3 : ([a, b, c] == lpt) = bl at HD5
        unfold com at hc
        unfold lpt at hl3
        cases bc with
        | true =>
          go_enter Tryz.func86, Tryz.ntmps86
          go_wp2_with (first
            | (go_at_call 97; refine (fold_any _ s hs).mono ?_; rintro e w1 ⟨rfl, F1⟩)
            | (go_at_call 96; refine (cut_any _ _ (HG.out.fr F1) HSz.out _ HH.out).mono ?_; rintro e w2 ⟨x2, y2, rfl, F2⟩))
          go_ret
          exact ⟨by rw [HD5.out]; rfl, F1.trans0 F2⟩
        | false =>
          go_enter Tryz.func86, Tryz.ntmps86
          go_wp2_with (first
            | (go_at_call 97; refine (fold_any _ s hs).mono ?_; rintro e w1 ⟨rfl, F1⟩)
            | (go_at_call 96; refine (cut_any _ _ (HG.out.fr F1) HSz.out _ HH.out).mono ?_; rintro e w2 ⟨x2, y2, rfl, F2⟩))
          go_ret
          exact ⟨by rw [HD5.out]; rfl, F1.trans0 F2⟩
      · have HD5 := Lib.hid (show devH (headL (foldL (ls s))) = false by rw [HD4.out]; simp; omega)
        rcases (show d.toNat < 49 ∨ (49 ≤ d.toNat ∧ 57 < d.toNat) by omega) with h1 | ⟨h1, h2⟩
        · have d1 : (d.toNat : Int) < 49 := by omega
          clear hd h1
          go_enter Tryz.func86, Tryz.ntmps86
          go_wp2_with (first
            | (go_at_call 97; refine (fold_any _ s hs).mono ?_; rintro e w1 ⟨rfl, F1⟩)
            | (go_at_call 96; refine (cut_any _ _ (HG.out.fr F1) HSz.out _ HH.out).mono ?_; rintro e w2 ⟨x2, y2, rfl, F2⟩))
          go_ret
          exact ⟨by rw [HD5.out]; rfl, F1.trans0 F2⟩
        · have d1 : (49 : Int) ≤ (d.toNat : Int) := by omega
          have d2 : (57 : Int) < (d.toNat : Int) := by omega
          clear hd h1 h2
          go_enter Tryz.func86, Tryz.ntmps86
          go_wp2_with (first
            | (go_at_call 97; refine (fold_any _ s hs).mono ?_; rintro e w1 ⟨rfl, F1⟩)
            | (go_at_call 96; refine (cut_any _ _ (HG.out.fr F1) HSz.out _ HH.out).mono ?_; rintro e w2 ⟨x2, y2, rfl, F2⟩))
          go_ret
          exact ⟨by rw [HD5.out]; rfl, F1.trans0 F2⟩
  · have hl2 : ((H.length : Int) != 4) = true := by rw [bne_iff_ne]; omega
    have HD5 := Lib.hid (show devH (headL (foldL (ls s))) = false by
      rw [HD.out]
      unfold devH
      rw [show decide (H.length = 4) = false from decide_eq_false hl, show words4.contains H = false from by rw [← Bool.not_eq_true, List.contains_iff_mem]; exact h4]
      rfl)
    clear q h4
    go_enter Tryz.func86, Tryz.ntmps86
    go_wp2_with (first
      | (go_at_call 97; refine (fold_any _ s hs).mono ?_; rintro e w1 ⟨rfl, F1⟩)
      | (go_at_call 96; refine (cut_any _ _ (HG.out.fr F1) HSz.out _ HH.out).mono ?_; rintro e w2 ⟨x2, y2, rfl, F2⟩))
    go_ret
    exact ⟨by rw [HD5.out]; rfl, F1.trans0 F2⟩
end Go.Proofs.YtjeblccboeljnaaGreatDoor
