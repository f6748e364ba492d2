/- The law NamesCleans: the walk. No condition but what the package variables hold. -/
import Derived.Test.YtagoemebklihjaaDoorNAwake
namespace Go.Proofs.YtagoemebklihjaaDoor
open Go.RowKit

def CleanYS (l : List UInt8) (w : World) (e : Ending) (w' : World) : Prop := (∃ v, e = .returned (.tuple #[v, .int .i64 0]) ∧ Sl w' v (stv (splitL l))) ∧ Fr [] w w'
theorem clean_ys (w : World) (l : List UInt8) (hG : Gl w) (hl : l.length ≤ 100000) (h : cleanL foldL l = true) : Calls Tryd.prog 10 #[.string ⟨l.toArray⟩] w (CleanYS l w) := by
  refine (clean_any w l hG hl).mono ?_
  rintro e w' (⟨ao, -, rfl, hS, F⟩ | ⟨h2, -⟩)
  · exact ⟨⟨_, rfl, hS⟩, F⟩
  · rw [h] at h2; cases h2
theorem rclean_ys (w : World) (l : List UInt8) (hl : l.length ≤ 100000) (h : cleanL foldL l = true) : Calls Tryd.prog 11 #[.string ⟨l.toArray⟩] w (CleanYS l w) := by
  refine (rclean_any w l hl).mono ?_
  rintro e w' (⟨v, -, rfl, hS, F⟩ | ⟨h2, -⟩)
  · exact ⟨⟨_, rfl, hS⟩, F⟩
  · rw [h] at h2; cases h2
theorem rclean_no (w : World) (l : List UInt8) (hl : l.length ≤ 100000) (h : cleanL foldL l = false) : Calls Tryd.prog 11 #[.string ⟨l.toArray⟩] w fun e w' => e = .returned (.tuple #[.slice none 0 0, .int .i64 15]) ∧ Fr [] w w' := by
  refine (rclean_any w l hl).mono ?_
  rintro e w' (⟨v, h2, -⟩ | ⟨-, rfl, F⟩)
  · rw [h] at h2; cases h2
  · exact ⟨rfl, F⟩

set_option maxRecDepth 100000 in
set_option maxHeartbeats 1000000 in
theorem walk_NamesCleans (w : World) (s : ByteArray) (hG : Gl w) :
    Calls Tryd.prog 3 #[.string s] w fun e w' => e = .returned (.bool true) ∧ Fr [] w w' := by
  obtain ⟨l, rfl⟩ : ∃ l : List UInt8, s = ⟨l.toArray⟩ := ⟨s.data.toList, (Lib.mk_data s).symm⟩
  have HG := Lib.hid hG
  clear hG
  by_cases hl : 8192 < l.length
  · have a1 : (8192 : Int) < (l.length : Int) := by omega
    clear hl
    go_enter Tryd.func3, Tryd.ntmps3
    go_wp2_with (go_at_call 9; refine (awake_any _ HG.out).mono ?_; rintro e w1 ⟨rfl, F1⟩)
    go_ret
    exact ⟨rfl, F1⟩
  have a1 : (l.length : Int) ≤ 8192 := by omega
  have HL := Lib.hid (show l.length ≤ 100000 by omega)
  have HPL := Lib.hid (show (splitL l).length ≤ 1000000 by have := splitL_len l; omega)
  clear hl
  cases hc : cleanL foldL l with
  | true =>
    have HC := Lib.hid hc
    have HT := Lib.hid (show (splitL l == splitL l) = true by simp)
    clear hc
    go_enter Tryd.func3, Tryd.ntmps3
    go_wp2_with (first
      | (go_at_call 9; refine (awake_any _ HG.out).mono ?_; rintro e w1 ⟨rfl, F1⟩)
      | (go_at_call 10; refine (clean_ys _ l (HG.out.fr F1) HL.out HC.out).mono ?_; rintro e w2 ⟨⟨v2, rfl, hS2⟩, F2⟩)
      | (go_at_call 11; refine (rclean_ys _ l HL.out HC.out).mono ?_; rintro e w3 ⟨⟨v3, rfl, hS3⟩, F3⟩; have hS23 := hS2.fr0 F3)
      | (go_at_call 12; refine (texts_any _ _ _ (splitL l) (splitL l) hS23 hS3 HPL.out).mono ?_; rw [HT.out]; rintro e w4 ⟨rfl, S4⟩))
    go_ret
    exact ⟨rfl, ((F1.trans0 F2).trans0 F3).trans0 (S4.fr (S := []))⟩
  | false =>
    have HC := Lib.hid hc
    have HT := Lib.hid (show (([] : List (List UInt8)) == []) = true by rfl)
    clear hc
    go_enter Tryd.func3, Tryd.ntmps3
    go_wp2_with (first
      | (go_at_call 9; refine (awake_any _ HG.out).mono ?_; rintro e w1 ⟨rfl, F1⟩)
      | (go_at_call 10; refine (clean_no _ l (HG.out.fr F1) HL.out HC.out).mono ?_; rintro e w2 ⟨rfl, F2⟩)
      | (go_at_call 11; refine (rclean_no _ l HL.out HC.out).mono ?_; rintro e w3 ⟨rfl, F3⟩)
      | (go_at_call 12; refine (texts_any _ _ _ [] [] (Sl.nil _) (Sl.nil _) (by decide)).mono ?_; rw [HT.out]; rintro e w4 ⟨rfl, S4⟩))
    go_ret
    exact ⟨rfl, ((F1.trans0 F2).trans0 F3).trans0 (S4.fr (S := []))⟩
end Go.Proofs.YtagoemebklihjaaDoor
