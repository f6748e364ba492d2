/- The law NamesParts: the walk. No condition but what the package variables hold. -/
import Derived.Test.YtagoemebklihjaaDoorNPartsP
namespace Go.Proofs.YtagoemebklihjaaDoor
open Go.RowKit

theorem take_ok (ps : List (List UInt8)) (k : Nat) (p : List UInt8) (hp : ps[k]? = some p) (h : ∀ q ∈ ps.take k, OneOk q) (hq : OneOk p) : ∀ q ∈ ps.take (k + 1), OneOk q := by
  intro q hm
  rw [List.take_add_one, hp] at hm
  rcases List.mem_append.1 hm with h1 | h1
  · exact h q h1
  · simp at h1
    subst h1
    exact hq

set_option maxRecDepth 100000 in
set_option maxHeartbeats 1000000 in
theorem walk_NamesParts (w : World) (v : Value) (ps : List (List UInt8)) (hG : Gl w) (hv : Sl w v (stv ps)) :
    Calls Tryd.prog 6 #[v] w fun e w' => e = .returned (.bool true) ∧ Fr [] w w' := by
  obtain ⟨ao, cap, rfl, -, -, o2⟩ := hv.out
  simp only [stv_len] at *
  clear hv
  have HG := Lib.hid hG
  clear hG
  by_cases hl : ps.length < 1
  · have a1 : (ps.length : Int) < 1 := by omega
    clear hl o2
    go_enter Tryd.func6, Tryd.ntmps6
    go_wp2_with (go_at_call 9; refine (awake_any _ HG.out).mono ?_; rintro e w1 ⟨rfl, F1⟩)
    go_ret
    exact ⟨rfl, F1⟩
  have a1 : (1 : Int) ≤ (ps.length : Int) := by omega
  by_cases hl2 : 40 < ps.length
  · have a2 : (40 : Int) < (ps.length : Int) := by omega
    clear hl hl2 o2
    go_enter Tryd.func6, Tryd.ntmps6
    go_wp2_with (go_at_call 9; refine (awake_any _ HG.out).mono ?_; rintro e w1 ⟨rfl, F1⟩)
    go_ret
    exact ⟨rfl, F1⟩
  have a2 : (ps.length : Int) ≤ 40 := by omega
  have HN0 := Lib.hid (show ps ≠ [] by rintro rfl; simp at hl)
  clear hl hl2
  go_enter Tryd.func6, Tryd.ntmps6
  go_wp2_with (go_at_call 9; refine (awake_any _ HG.out).mono ?_; rintro e w1 ⟨rfl, F1⟩)
  have HO := Lib.hid o2
  clear o2
  go_loopw [3, 4] (fun jn i wr => ∃ k : Nat, k ≤ ps.length ∧ i = .int .i64 k ∧ jn = .string ⟨(joinL (ps.take k)).toArray⟩ ∧ (∀ q ∈ ps.take k, OneOk q) ∧ Fr [] w1 wr) (fun _ i _ => ps.length - (intOf i).toNat)
  case atStart => exact ⟨0, Nat.zero_le _, rfl, by simp [joinL_nil], by simp, Fr.refl _ _⟩
  case round =>
    obtain ⟨k, hk, rfl, rfl, hall, F⟩ := hrel
    by_cases hlt : k < ps.length
    · obtain ⟨b, of, rfl, hb, hcl⟩ := HO.out k hlt
      obtain ⟨p, hp⟩ := some_get ps k hlt
      have c0 : wr.cell? ⟨b, of + k, none⟩ = some (.string ⟨p.toArray⟩) := ((F1.trans0 F).cell (p := ⟨b, of + k, none⟩) hb (by simp)).trans ((hcl k hlt).trans (stv_get hp))
      have hbr : b < wr.heap.size := by have := (F1.trans0 F).size; omega
      have hlt' : (k : Int) < (ps.length : Int) := by omega
      have HAll := Lib.hid hall
      have HP := Lib.hid hp
      have HJL := Lib.hid (join_ok_len (ps.take k) hall (by rw [List.length_take]; omega))
      have HJ := Lib.hid (joinL_take ps k p hp)
      have HJ0 := Lib.hid (show k = 0 → joinL (ps.take k) = [] by rintro rfl; simp [joinL_nil])
      clear hcl hall hp
      generalize joinL (ps.take k) = J at *
      cases hc : cleanL foldL p with
      | false =>
        have HC := Lib.hid hc
        clear hc
        go_wp2_with (go_at_call 10; refine (clean_all_no _ p (HG.out.fr (F1.trans0 F)) HC.out).mono ?_; rintro e w2 ⟨rfl, F2⟩)
        go_ret
        exact ⟨rfl, (F1.trans0 F).trans0 F2⟩
      | true =>
        have HC := Lib.hid hc
        clear hc
        by_cases h1 : (splitL p).length = 1
        · have HOne := Lib.hid (one_ok HC.out h1)
          have HT := Lib.hid (take_ok ps k p HP.out HAll.out HOne.out)
          have HPL := Lib.hid (show p.length ≤ 255 from (part_ok HOne.out.part).len)
          have H1 := Lib.hid h1
          clear h1
          by_cases hk0 : k = 0
          · subst hk0
            obtain rfl := HJ0.out rfl
            have HJ2 := Lib.hid (show joinL (ps.take (0 + 1)) = p by rw [HJ.out, if_pos rfl])
            have s1 : ¬ 9223372036854775807 < ([] : List UInt8).length + p.length := by have := HPL.out; simp; omega
            clear HJ
            rw [Nat.add_zero] at c0
            go_wp2_with (go_at_call 10; refine (clean_all_yes _ p (HG.out.fr (F1.trans0 F)) HC.out).mono ?_; rw [H1.out]; rintro e w2 ⟨⟨ao2, rfl, hS2⟩, F2⟩; clear hS2; have c02 := (F2.cell (p := ⟨b, of, none⟩) hbr (by simp)).trans c0)
            go_roundw
            case rel => exact ⟨1, by omega, rfl, by rw [HJ2.out, cat_ba]; rfl, HT.out, F.trans0 F2⟩
            case measure => simp [intOf]; omega
          · have HJ2 := Lib.hid (show joinL (ps.take (k + 1)) = J ++ [47] ++ p by rw [HJ.out, if_neg hk0]; simp)
            have s1 : ¬ 9223372036854775807 < J.length + 1 := by have := HJL.out; omega
            have s2 : ¬ 9223372036854775807 < J.length + 1 + p.length := by have := HJL.out; have := HPL.out; omega
            have k1 : (0 : Int) < (k : Int) := by omega
            clear HJ hk0
            go_wp2_with (go_at_call 10; refine (clean_all_yes _ p (HG.out.fr (F1.trans0 F)) HC.out).mono ?_; rw [H1.out]; rintro e w2 ⟨⟨ao2, rfl, hS2⟩, F2⟩; clear hS2; have c02 := (F2.cell (p := ⟨b, of + k, none⟩) hbr (by simp)).trans c0)
            go_roundw
            case rel => exact ⟨k + 1, by omega, by go_num, by rw [HJ2.out, ← cat_ba, ← cat_ba], HT.out, F.trans0 F2⟩
            case measure => simp [intOf]; omega
        · obtain ⟨m, hm⟩ : ∃ m, (splitL p).length = m := ⟨_, rfl⟩
          rw [hm] at h1
          have HM := Lib.hid hm
          have t0 : ((m : Int) != 1) = true := by rw [bne_iff_ne]; omega
          clear h1 hm
          go_wp2_with (go_at_call 10; refine (clean_all_yes _ p (HG.out.fr (F1.trans0 F)) HC.out).mono ?_; rw [HM.out]; rintro e w2 ⟨⟨ao2, rfl, hS2⟩, F2⟩; clear hS2)
          go_ret
          exact ⟨rfl, (F1.trans0 F).trans0 F2⟩
    · have hke : k = ps.length := by omega
      subst hke
      rw [List.take_length] at hall ⊢
      have HCJ := Lib.hid (clean_join ps HN0.out hall)
      have HSJ := Lib.hid (splitL_join ps HN0.out (fun p hp => (hall p hp).no))
      have HJL := Lib.hid (join_ok_len ps hall (by omega))
      have HF1 := Lib.hid (F1.trans0 F)
      clear hall
      generalize joinL ps = J at *
      by_cases h32 : 32 < ps.length
      · have HC := Lib.hid (show cleanL foldL J = false by rw [HCJ.out, show decide (ps.length ≤ 32) = false from by simp; omega]; simp)
        have b1 : (32 : Int) < (ps.length : Int) := by omega
        clear h32
        go_wp2_with (go_at_call 10; refine (clean_all_no _ J (HG.out.fr HF1.out) HC.out).mono ?_; rintro e w2 ⟨rfl, F2⟩)
        go_ret
        exact ⟨rfl, HF1.out.trans0 F2⟩
      have b1 : (ps.length : Int) ≤ 32 := by omega
      by_cases h1024 : 1024 < J.length
      · have HC := Lib.hid (show cleanL foldL J = false by rw [HCJ.out, show decide (J.length ≤ 1024) = false from by simp; omega]; simp)
        have b2 : (1024 : Int) < (J.length : Int) := by omega
        clear h32 h1024
        go_wp2_with (go_at_call 10; refine (clean_all_no _ J (HG.out.fr HF1.out) HC.out).mono ?_; rintro e w2 ⟨rfl, F2⟩)
        go_ret
        exact ⟨rfl, HF1.out.trans0 F2⟩
      have b2 : (J.length : Int) ≤ 1024 := by omega
      have HC := Lib.hid (show cleanL foldL J = true by rw [HCJ.out, show decide (J.length ≤ 1024) = true from decide_eq_true (by omega), show decide (ps.length ≤ 32) = true from decide_eq_true (by omega)]; rfl)
      have t0 : ((ps.length : Int) != (ps.length : Int)) = false := by simp
      clear h32 h1024
      go_wp2_with (go_at_call 10; refine (clean_all_yes _ J (HG.out.fr HF1.out) HC.out).mono ?_; rw [HSJ.out]; rintro e w2 ⟨⟨ao2, rfl, hS2⟩, F2⟩)
      have HF2 := Lib.hid (HF1.out.trans0 F2)
      obtain ⟨ao3, cap3, he3, -, -, o3⟩ := hS2.out
      injection he3 with e1 e2 e3
      subst e1 e3
      simp only [stv_len] at o3
      have HO3 := Lib.hid o3
      clear e2 hS2 o3
      go_loopw [9] (fun i wr => ∃ j : Nat, j ≤ ps.length ∧ i = .int .i64 j ∧ Fr [] w2 wr) (fun i _ => ps.length - (intOf i).toNat)
      case atStart => exact ⟨0, Nat.zero_le _, rfl, Fr.refl _ _⟩
      case round =>
        obtain ⟨j, hj, rfl, F3⟩ := hrel
        by_cases hjl : j < ps.length
        · obtain ⟨b5, of5, rfl, hb5, hcl5⟩ := HO.out j hjl
          obtain ⟨b6, of6, rfl, hb6, hcl6⟩ := HO3.out j hjl
          obtain ⟨p, hp⟩ := some_get ps j hjl
          have c5 : wr.cell? ⟨b5, of5 + j, none⟩ = some (.string ⟨p.toArray⟩) := ((HF2.out.trans0 F3).cell (p := ⟨b5, of5 + j, none⟩) hb5 (by simp)).trans ((hcl5 j hjl).trans (stv_get hp))
          have c6 : wr.cell? ⟨b6, of6 + j, none⟩ = some (.string ⟨p.toArray⟩) := (F3.cell (p := ⟨b6, of6 + j, none⟩) hb6 (by simp)).trans ((hcl6 j hjl).trans (stv_get hp))
          have hjl' : (j : Int) < (ps.length : Int) := by omega
          have q0 : (p != p) = false := by simp
          clear hcl5 hcl6 hp
          go_wp2
          go_quiet (fail)
          go_wp2
          go_roundw
          case rel => exact ⟨j + 1, by omega, by go_num, F3.trans0 (Same.drewN _).fr⟩
          case measure => simp [intOf]; omega
        · have hje : j = ps.length := by omega
          subst hje
          go_wp2_with fail
          go_ret
          exact ⟨rfl, HF2.out.trans0 F3⟩
end Go.Proofs.YtagoemebklihjaaDoor
