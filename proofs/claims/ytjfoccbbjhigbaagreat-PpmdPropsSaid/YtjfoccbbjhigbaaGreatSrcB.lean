/- Contracts: least, Num, New. No condition but that lengths fit. -/
import Derived.Test.YtjfoccbbjhigbaaGreatSrcA
import Derived.Test.YtjfoccbbjhigbaaGreatBits
namespace Go.Proofs.YtjfoccbbjhigbaaGreat
open Go.RowKit

theorem least_any (w : World) (v : Value) (bs : List UInt8) (h : Sl w v (bv bs)) (hb : bs.length ≤ 8) :
    Calls Tryz.prog 87 #[v] w fun e w' => e = .returned (.int .u64 (leNat bs)) ∧ w = w' := by
  obtain ⟨ao, cap, rfl, g, m, o⟩ := h.out
  clear h
  simp only [bv_length] at *
  go_enter Tryz.func87, Tryz.ntmps87
  go_wp2
  go_loop [3, 8] (fun v i => ∃ k : Nat, k ≤ bs.length ∧ i = .int .i64 k ∧ v = .int .u64 (leNat (bs.take k))) (fun _ i => bs.length - (intOf i).toNat)
  case atStart => exact ⟨0, Nat.zero_le _, rfl, rfl⟩
  case round =>
    obtain ⟨k, hk, rfl, rfl⟩ := hrel
    by_cases hlt : k < bs.length
    · obtain ⟨b1, of1, rfl, -, c1⟩ := o k hlt
      obtain ⟨x, hx⟩ := some_get bs k hlt
      have d1 : w.cell? ⟨b1, of1 + k, none⟩ = some (.int .u8 x.toNat) := by rw [c1 k hlt, bv_get _ _ _ hx]
      have hs := leNat_take bs k x hx
      obtain ⟨s, hs0⟩ : ∃ s, s = leNat (bs.take k) := ⟨_, rfl⟩
      rw [← hs0] at hs ⊢
      have hlt8 : s < 256 ^ k := by
        have := leNat_lt (bs.take k)
        rw [hs0]
        rwa [List.length_take_of_le (by omega)] at this
      have HB := Lib.hid (least_step s k x (by omega) hlt8)
      have HS := Lib.hid hs
      clear o c1 hx hs0 hs hlt8
      go_wp2
      go_round
      case rel => exact ⟨k + 1, by omega, by go_num, by rw [HB.out, HS.out]⟩
      case measure => simp [intOf]; omega
    · have hk2 : k = bs.length := by omega
      have HK := Lib.hid hk2
      clear hk2 o
      go_wp2
      go_ret
      exact ⟨by rw [HK.out, List.take_of_length_le (Nat.le_refl _)]; rfl, rfl⟩

/-- The cursor is new. -/
def NewCur (c : Cur) (w : World) (e : Ending) (w' : World) : Prop :=
  ∃ p q, e = .returned (.pointer (some ⟨p, 0, none⟩)) ∧ w.heap.size ≤ p ∧ (∀ k, q = some k → w.heap.size ≤ k ∧ k < p) ∧ CurAt w' p q c ∧ Fr [] w w'

theorem new_any (w : World) (v : Value) (bs : List UInt8) (h : Sl w v (bv bs)) (hb : bs.length ≤ 140737488355328) :
    Calls Tryz.prog 45 #[v] w (NewCur ⟨bs, 0, 0⟩ w) := by
  obtain ⟨ao, cap, rfl, g, m, o⟩ := h.out
  go_enter Tryz.func45, Tryz.ntmps45
  go_wp2_with fail
  refine (clone_any w _ bs h hb).mono ?_
  rintro e w1 ⟨r, rfl, hown, hf1⟩
  have hr := hown.lt
  have hs := Sl.of_own hown
  obtain ⟨ao2, cap2, rfl, g2, m2, o2⟩ := hs.out
  have hz := hf1.size
  clear h o o2
  go_wp2
  go_ret
  have F : Fr [] w1 (w1.alloc (.cells #[.slice ao2 (bv bs).length cap2, .int .i64 0, .int .i64 0] 170)) := (Fr.refl _ _).alloc _
  refine ⟨w1.heap.size, (Value.slice ao2 (bv bs).length cap2).ownBlock, rfl, hz, hown.lt, ⟨⟨ao2, _, cap2, ?_, hs.fr0 F, rfl⟩, Nat.zero_le _, fun hk => ?_⟩, hf1.trans0 F⟩
  · exact heap_alloc_new _ _
  · have := (hown.lt _ hk).2
    omega

theorem sized_any (w : World) (n : Int) :
    Calls Tryz.prog 85 #[.int .i64 n] w fun e w' => e = .returned (.bool (Cur.sized n)) ∧ w = w' := by
  by_cases h1 : n = 1
  · subst h1
    go_enter Tryz.func85, Tryz.ntmps85
    go_wp2
    go_ret
    exact ⟨rfl, rfl⟩
  · by_cases h2 : n = 2
    · subst h2
      go_enter Tryz.func85, Tryz.ntmps85
      go_wp2
      go_ret
      exact ⟨rfl, rfl⟩
    · by_cases h4 : n = 4
      · subst h4
        go_enter Tryz.func85, Tryz.ntmps85
        go_wp2
        go_ret
        exact ⟨rfl, rfl⟩
      · have b1 : (n == 1) = false := by simpa using h1
        have b2 : (n == 2) = false := by simpa using h2
        have b4 : (n == 4) = false := by simpa using h4
        have e : Cur.sized n = (n == 8) := by simp [Cur.sized, b1, b2, b4]
        rw [e]
        clear h1 h2 h4 e
        go_enter Tryz.func85, Tryz.ntmps85
        go_wp2
        go_ret
        exact ⟨rfl, rfl⟩

theorem snum_any (w : World) (p : Nat) (q : Option Nat) (c : Cur) (n : Int) (h : CurAt w p q c) (hb : c.b.length ≤ 140737488355328) :
    Calls Tryz.prog 46 #[.pointer (some ⟨p, 0, none⟩), .int .i64 n] w fun e w' =>
      e = .returned (.int .u64 (c.num n).1) ∧ CurAt w' p q (c.num n).2 ∧ Fr [p] w w' := by
  by_cases hn : Cur.sized n = true
  · have e1 : c.num n = (leNat (c.take n.toNat).1, (c.take n.toNat).2) := by unfold Cur.num; rw [if_pos hn]
    have hr : 0 ≤ n ∧ n ≤ 8 := by unfold Cur.sized at hn; simp at hn; omega
    have hl : (c.take n.toNat).1.length ≤ 8 := by unfold Cur.take; split <;> simp; omega
    rw [e1]
    obtain ⟨m, rfl⟩ := Int.eq_ofNat_of_zero_le hr.1
    rw [Int.toNat_natCast] at *
    have HN := Lib.hid hn
    clear hn e1
    go_enter Tryz.func46, Tryz.ntmps46
    go_wp2_with fail
    refine (sized_any w _).mono ?_
    rintro e w1 ⟨rfl, rfl⟩
    rw [HN.out]
    go_wp2_with fail
    refine (take_any w p q c m _ rfl (by omega) h hb).mono ?_
    rintro e w1 ⟨r, rfl, hown, hc1, hf1⟩
    clear h
    go_wp2_with fail
    refine (least_any w1 _ _ (Sl.of_own hown) hl).mono ?_
    rintro e w2 ⟨rfl, rfl⟩
    go_wp2_with fail
    go_ret
    exact ⟨rfl, hc1, hf1⟩
  · have hn' : Cur.sized n = false := by simpa using hn
    have e1 : c.num n = (0, c.fail 3) := by unfold Cur.num; rw [if_neg hn]
    rw [e1]
    have HN := Lib.hid hn'
    clear hn hn' e1
    go_enter Tryz.func46, Tryz.ntmps46
    go_wp2_with fail
    refine (sized_any w _).mono ?_
    rintro e w1 ⟨rfl, rfl⟩
    rw [HN.out]
    go_wp2_with fail
    refine (fail_any w p q c 3 _ rfl (by decide) h).mono ?_
    rintro e w2 ⟨rfl, hc2, hf2⟩
    go_wp2_with fail
    go_ret
    exact ⟨rfl, hc2, hf2⟩
end Go.Proofs.YtjfoccbbjhigbaaGreat
