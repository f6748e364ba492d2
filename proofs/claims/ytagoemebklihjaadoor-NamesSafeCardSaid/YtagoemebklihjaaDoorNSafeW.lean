/- The law NamesSafe: the walk. No condition but what the package variables hold. -/
import Derived.Test.YtagoemebklihjaaDoorNCleansW
import Derived.Test.YtagoemebklihjaaDoorNJoin
namespace Go.Proofs.YtagoemebklihjaaDoor
open Go.RowKit

set_option maxRecDepth 100000 in
set_option maxHeartbeats 1000000 in
theorem walk_NamesSafe (w : World) (s : ByteArray) (hG : Gl w) :
    Calls Tryd.prog 4 #[.string s] w fun e w' => e = .returned (.bool true) ∧ Fr [] w w' := by
  obtain ⟨l, rfl⟩ : ∃ l : List UInt8, s = ⟨l.toArray⟩ := ⟨s.data.toList, (Lib.mk_data s).symm⟩
  have HG := Lib.hid hG
  clear hG
  by_cases hl : 8192 < l.length
  · have a1 : (8192 : Int) < (l.length : Int) := by omega
    clear hl
    go_enter Tryd.func4, Tryd.ntmps4
    go_wp2_with (go_at_call 9; refine (awake_any _ HG.out).mono ?_; rintro e w1 ⟨rfl, F1⟩)
    go_ret
    exact ⟨rfl, F1⟩
  have a1 : (l.length : Int) ≤ 8192 := by omega
  have HL := Lib.hid (show l.length ≤ 100000 by omega)
  clear hl
  cases hc : cleanL foldL l with
  | false =>
    have HC := Lib.hid hc
    clear hc
    go_enter Tryd.func4, Tryd.ntmps4
    go_wp2_with (first
      | (go_at_call 9; refine (awake_any _ HG.out).mono ?_; rintro e w1 ⟨rfl, F1⟩)
      | (go_at_call 10; refine (clean_no _ l (HG.out.fr F1) HL.out HC.out).mono ?_; rintro e w2 ⟨rfl, F2⟩))
    go_ret
    exact ⟨rfl, F1.trans0 F2⟩
  | true =>
    have HC := Lib.hid hc
    have hb := clean_bounds hc
    obtain ⟨ps, hps⟩ : ∃ ps, splitL l = ps := ⟨_, rfl⟩
    have HPS := Lib.hid hps
    have b1 : (ps.length : Int) ≤ 32 := by rw [hps] at hb; omega
    have b2 : (0 : Int) < (ps.length : Int) := by
      have := splitL_ne l
      rw [hps] at this
      have := List.length_pos_iff.2 this
      omega
    have b3 : (l.length : Int) ≤ 1024 := by omega
    clear hc hb hps
    go_enter Tryd.func4, Tryd.ntmps4
    go_wp2_with (first
      | (go_at_call 9; refine (awake_any _ HG.out).mono ?_; rintro e w1 ⟨rfl, F1⟩)
      | (go_at_call 10; refine (clean_ys _ l (HG.out.fr F1) HL.out HC.out).mono ?_; rintro e w2 ⟨⟨v2, rfl, hS2⟩, F2⟩; rw [HPS.out] at hS2; obtain ⟨ao2, cap2, rfl, -, -, o2⟩ := hS2.out; simp only [stv_len] at o2 ⊢))
    clear hS2
    go_loopw [5, 6] (fun jn i wr => ∃ k : Nat, k ≤ ps.length ∧ i = .int .i64 k ∧ jn = .string ⟨(joinL (ps.take k)).toArray⟩ ∧ Fr [] w2 wr) (fun _ i _ => ps.length - (intOf i).toNat)
    case atStart => exact ⟨0, Nat.zero_le _, rfl, by simp [joinL_nil], Fr.refl _ _⟩
    case round =>
      obtain ⟨k, hk, rfl, rfl, F⟩ := hrel
      by_cases hlt : k < ps.length
      · obtain ⟨b, of, rfl, hb, hcl⟩ := o2 k hlt
        obtain ⟨p, hp⟩ := some_get ps k hlt
        have c0 : wr.cell? ⟨b, of + k, none⟩ = some (.string ⟨p.toArray⟩) := (F.cell (p := ⟨b, of + k, none⟩) hb (by simp)).trans ((hcl k hlt).trans (stv_get hp))
        have hmem : p ∈ splitL l := by rw [HPS.out]; exact List.mem_of_getElem? hp
        have hok := part_ok (clean_part HC.out hmem)
        have HNo := Lib.hid (splitL_no l p hmem)
        have HOdd := Lib.hid hok.odd
        have HJ := Lib.hid (joinL_take ps k p hp)
        have t0 : (p == []) = false := by rw [beq_eq_false_iff_ne]; rintro rfl; have := hok.pos; simp at this
        have t1 : (p == [46]) = false := by rw [beq_eq_false_iff_ne]; exact hok.one
        have t2 : (p == [46, 46]) = false := by rw [beq_eq_false_iff_ne]; exact hok.two
        have t3 : (p.length : Int) ≤ 255 := by have := hok.len; omega
        have hlt' : (k : Int) < (ps.length : Int) := by omega
        have HJL := Lib.hid (show (joinL (ps.take k)).length ≤ 10000 by rw [← HPS.out]; exact join_take_len l HC.out k)
        have HJ0 := Lib.hid (show k = 0 → joinL (ps.take k) = [] by rintro rfl; simp [joinL_nil])
        clear o2 hcl hp hmem hok
        generalize joinL (ps.take k) = J at *
        go_wp2_with fail
        go_loopw [8] (fun i wq => ∃ j : Nat, j ≤ p.length ∧ i = .int .i64 j ∧ wq = wr) (fun i _ => p.length - (intOf i).toNat)
        case atStart => exact ⟨0, Nat.zero_le _, rfl, rfl⟩
        case round =>
          obtain ⟨j, hj, rfl, rfl⟩ := hrel
          by_cases hjl : j < p.length
          · obtain ⟨x, hx⟩ := some_get p j hjl
            have hg := get_ba hx
            have hm := List.mem_of_getElem? hx
            have x1 := HNo.out x hm
            obtain ⟨x2, x3, x4⟩ := odd_no (HOdd.out x hm)
            have e1 : ((x.toNat : Int) == 47) = false := by rw [beq_eq_false_iff_ne]; intro h; exact x1 (UInt8.toNat_inj.1 (show x.toNat = 47 by omega))
            have e2 : ((x.toNat : Int) == 92) = false := by rw [beq_eq_false_iff_ne]; intro h; exact x2 (UInt8.toNat_inj.1 (show x.toNat = 92 by omega))
            have e3 : ((x.toNat : Int) == 58) = false := by rw [beq_eq_false_iff_ne]; intro h; exact x3 (UInt8.toNat_inj.1 (show x.toNat = 58 by omega))
            have e4 : (32 : Int) ≤ (x.toNat : Int) := by omega
            have hjl' : (j : Int) < (p.length : Int) := by omega
            clear hx hm x1 x2 x3 x4
            go_wp2_with fail
            go_roundw
            case rel => exact ⟨j + 1, by omega, by go_num, by trivial⟩
            case measure => simp [intOf]; omega
          · have hje : j = p.length := by omega
            subst hje
            have HSZ1 := HJL.out
            by_cases hk0 : k = 0
            · subst hk0
              have hJ0 := HJ0.out rfl
              subst hJ0
              have HJ2 := Lib.hid (show joinL (ps.take (0 + 1)) = p by rw [HJ.out, if_pos rfl])
              have s1 : ¬ 9223372036854775807 < ([] : List UInt8).length + p.length := by simp; omega
              clear HSZ1 HJL HJ
              go_wp2_with fail
              go_roundw
              case rel => exact ⟨1, by omega, rfl, by rw [HJ2.out, cat_ba]; rfl, F⟩
              case measure => simp [intOf]; omega
            · have HJ2 := Lib.hid (show joinL (ps.take (k + 1)) = J ++ [47] ++ p by rw [HJ.out, if_neg hk0]; simp)
              have s1 : ¬ 9223372036854775807 < J.length + 1 := by omega
              have s2 : ¬ 9223372036854775807 < J.length + 1 + p.length := by omega
              have k1 : (0 : Int) < (k : Int) := by omega
              clear HSZ1 HJL HJ hk0
              go_wp2_with fail
              go_roundw
              case rel => exact ⟨k + 1, by omega, by go_num, by rw [HJ2.out, ← cat_ba, ← cat_ba], F⟩
              case measure => simp [intOf]; omega
      · have hke : k = ps.length := by omega
        subst hke
        have HE := Lib.hid (show joinL (ps.take ps.length) = l by rw [List.take_length, ← HPS.out]; exact joinL_split l)
        rw [HE.out]
        have z0 : (l == l) = true := by simp
        clear o2
        go_wp2_with fail
        go_ret
        exact ⟨rfl, (F1.trans0 F2).trans0 F⟩
end Go.Proofs.YtagoemebklihjaaDoor
