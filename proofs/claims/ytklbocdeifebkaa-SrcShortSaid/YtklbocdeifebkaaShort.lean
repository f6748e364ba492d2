/- The law SrcShort: the walk. No condition. -/
import Derived.Test.YtklbocdeifebkaaSrcE
import Derived.Test.YtklbocdeifebkaaShortSpec
namespace Go.Proofs.Ytklbocdeifebkaa
open Go.RowKit

theorem walk_SrcShort (w : World) (v : Value) (bs : List UInt8) (hv : Sl w v (bv bs)) :
    Calls Try.prog 4 #[v] w fun e w' => e = .returned (.bool true) ∧ Fr [] w w' := by
  obtain ⟨ao, cap, rfl, hc1, hc2, -⟩ := hv.out
  rw [bv_length] at *
  by_cases hbig : 1000 < bs.length
  · have hbig' : (1000 : Int) < (bs.length : Int) := by omega
    go_enter Try.func4, Try.ntmps4
    go_wp2_with fail
    refine (awake_any w).mono ?_
    rintro e w1 ⟨rfl, hf1⟩
    go_wp2_with fail
    go_ret
    exact ⟨rfl, hf1⟩
  · have hbig' : (bs.length : Int) ≤ 1000 := by omega
    obtain ⟨N, hN⟩ : ∃ N, N = Cur.number ⟨bs, 0, 0⟩ := ⟨_, rfl⟩
    have hlaw := number_short bs
    rw [← hN] at hlaw
    have HN := Lib.hid hN
    clear hN
    have HL := Lib.hid hlaw
    clear hlaw
    go_enter Try.func4, Try.ntmps4
    go_wp2_with fail
    refine (awake_any w).mono ?_
    rintro e w1 ⟨rfl, F1⟩
    have hv1 := hv.fr0 F1
    go_wp2_with fail
    refine (new_any w1 _ bs hv1 (by omega)).mono ?_
    rintro e w2 ⟨p, q, rfl, hp, hq, hc2', hf2⟩
    have F2 := F1.trans0 hf2
    have z1 := F1.size
    clear F1 hf2 hv1
    go_wp2_with fail
    refine (number_any w2 p q _ hc2' (by dsimp only; omega)).mono ?_
    rintro e w3 ⟨rfl, hc3, hf3⟩
    rw [← HN.out] at hc3 ⊢
    have F3 : Fr [] w w3 := F2.trans hf3 (by simp; omega)
    have hv3 := hv.fr0 F3
    clear F2 hf3 hc2'
    go_wp2_with fail
    refine (code_any w3 p q _ hc3).mono ?_
    rintro e w4 ⟨rfl, rfl⟩
    rcases HL.out with ⟨h1, h2, h3⟩ | ⟨h1, hvlt, hat, h2⟩
    · have t1 : ((N.2.code : Int) != 0) = true := by rw [bne_iff_ne]; omega
      have H2 := Lib.hid h2
      have H3 := Lib.hid h3
      clear h1 h2 h3
      go_wp2_with fail
      refine (at_any w3 p q _ hc3).mono ?_
      rintro e w5 ⟨rfl, rfl⟩
      rw [H2.out, H3.out]
      go_wp2_with fail
      go_ret
      exact ⟨rfl, F3⟩
    · have t1 : ((N.2.code : Int) != 0) = false := by simp [h1]
      have H1 := Lib.hid h1
      clear h1
      go_wp2_with fail
      refine (putnumber_any w3 _ [] N.1 (Sl.nil w3) (by decide) hvlt).mono ?_
      rintro e w5 ⟨r, rfl, hown, hf5⟩
      have F5 := F3.trans0 hf5
      have hc5 := hc3.fr hf5 (by simp) (by simp)
      have hs5 := Sl.of_own hown
      have hv5 := (hv.fr0 F5).first N.2.at_ hat
      rw [← bv_take] at hv5
      obtain ⟨ao3, cap3, rfl, -, -, -⟩ := hs5.out
      rw [bv_length] at *
      obtain ⟨B, hB⟩ : ∃ B, B = putNumber [] N.1 := ⟨_, rfl⟩
      rw [← hB] at h2 hs5 ⊢
      clear hB hown hf5 F3 hc3 hv3
      rcases h2 with h2 | ⟨h2, h3⟩
      · have h2' : (B.length : Int) < (N.2.at_ : Int) := by omega
        go_wp2_with fail
        refine (at_any _ p q _ hc5).mono ?_
        rintro e w6 ⟨rfl, rfl⟩
        go_wp2_with fail
        go_ret
        exact ⟨rfl, F5⟩
      · have h2' : ¬ (B.length : Int) < (N.2.at_ : Int) := by omega
        have h2'' : ((B.length : Int) == (N.2.at_ : Int)) = true := by simp [h2]
        have hat' : (N.2.at_ : Int) ≤ (cap : Int) := by omega
        have H2 := Lib.hid h2
        have H3 := Lib.hid h3
        clear h2 h3
        go_wp2_with fail
        refine (at_any _ p q _ hc5).mono ?_
        rintro e w6 ⟨rfl, rfl⟩
        go_wp2_with fail
        refine (at_any _ p q _ hc5).mono ?_
        rintro e w6 ⟨rfl, rfl⟩
        go_wp2_with fail
        refine (at_any _ p q _ hc5).mono ?_
        rintro e w6 ⟨rfl, rfl⟩
        go_wp2_with fail
        refine (bytes_any _ _ _ _ _ hs5 hv5).mono ?_
        rintro e w7 ⟨rfl, s7⟩
        rw [H3.out, decide_eq_true rfl]
        go_wp2_with fail
        go_ret
        exact ⟨rfl, F5.trans0 s7.fr⟩
end Go.Proofs.Ytklbocdeifebkaa
