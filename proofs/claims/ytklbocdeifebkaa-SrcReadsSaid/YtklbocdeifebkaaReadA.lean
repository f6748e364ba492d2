/- Contracts: the references' Flags; Bits. No condition but that lengths fit. -/
import Derived.Test.YtklbocdeifebkaaSrcC
import Derived.Test.YtklbocdeifebkaaBitsSpec
namespace Go.Proofs.Ytklbocdeifebkaa
open Go.RowKit

theorem info_bool : (Try.prog.info? 4).map (fun i => (i.zero, i.size, i.bytes)) = some (some (.bool false), 1, 1) := by kernel_rfl
theorem sty_bool : SlTy Try.prog 42 4 (.bool false) 1 := ⟨Try.underlying42, by obtain ⟨i, h⟩ := info_parts info_bool; exact ⟨i, h⟩, rfl⟩

theorem flags_any (w : World) (v1 v2 : Value) (a b : List Bool) (h1 : Sl w v1 (tv a)) (h2 : Sl w v2 (tv b)) :
    Calls Try.prog 38 #[v1, v2] w fun e w' => e = .returned (.bool (decide (a = b))) ∧ Same w w' := by
  obtain ⟨ao1, cap1, rfl, g1, m1, o1⟩ := h1.out
  obtain ⟨ao2, cap2, rfl, g2, m2, o2⟩ := h2.out
  clear h1 h2
  simp only [tv_length] at *
  by_cases hl : a.length = b.length
  · have hb : ((a.length : Int) != (b.length : Int)) = false := by simp [hl]
    have HL := Lib.hid hl
    clear hl
    go_enter Try.func38, Try.ntmps38
    go_wp2
    go_loopw [5] (fun i wr => ∃ k : Nat, k ≤ a.length ∧ i = .int .i64 k ∧ a.take k = b.take k ∧ Same w wr) (fun i _ => a.length - (intOf i).toNat)
    case atStart => exact ⟨0, Nat.zero_le _, rfl, rfl, Same.refl w⟩
    case round =>
      obtain ⟨k, hk, rfl, htk, hsw⟩ := hrel
      by_cases hlt : k < a.length
      · obtain ⟨b1, of1, rfl, -, c1⟩ := o1 k hlt
        obtain ⟨b2, of2, rfl, -, c2⟩ := o2 k (by rw [← HL.out]; exact hlt)
        obtain ⟨x, hx⟩ := some_get a k hlt
        obtain ⟨y, hy⟩ := some_get b k (by rw [← HL.out]; exact hlt)
        have d1 : wr.cell? ⟨b1, of1 + k, none⟩ = some (.bool x) := by rw [hsw.cell, c1 k hlt, tv_get _ _ _ hx]
        have d2 : wr.cell? ⟨b2, of2 + k, none⟩ = some (.bool y) := by rw [hsw.cell, c2 k (by rw [← HL.out]; exact hlt), tv_get _ _ _ hy]
        have hlt2 : (k : Int) < (b.length : Int) := by have := HL.out; omega
        have hlt1 : (k : Int) < (a.length : Int) := by omega
        have HX := Lib.hid hx
        have HY := Lib.hid hy
        have HT := Lib.hid htk
        clear o1 o2 c1 c2 hx hy htk
        by_cases hxy : x = y
        · subst hxy
          go_wp2
          go_quiet (fail)
          go_wp2
          go_roundw
          case rel => exact ⟨k + 1, by omega, by go_num, take_eq_step _ _ _ _ _ HX.out HY.out HT.out rfl, hsw.trans (Same.drewN _)⟩
          case measure => simp [intOf]; omega
        · have HXY := Lib.hid hxy
          cases x <;> cases y <;> first | (exact absurd rfl hxy) | skip
          all_goals
            clear hxy
            go_wp2
            go_quiet (fail)
            go_wp2
            go_ret
            exact ⟨by simp [ne_at _ _ _ _ _ HX.out HY.out HXY.out], hsw.trans (Same.drewN _)⟩
      · clear o1 o2
        have hk2 : k = a.length := by omega
        have HT := Lib.hid htk
        have HK := Lib.hid hk2
        clear htk hk2
        go_wp2
        go_ret
        refine ⟨?_, hsw⟩
        have e : a = b := by
          have := HT.out
          rw [HK.out, List.take_of_length_le (Nat.le_refl _), HL.out, List.take_of_length_le (Nat.le_refl _)] at this
          exact this
        simp [e]
  · have hb : ((a.length : Int) != (b.length : Int)) = true := by rw [bne_iff_ne]; omega
    have hne : a ≠ b := by rintro rfl; exact hl rfl
    have HN := Lib.hid hne
    clear hl hne o1 o2
    go_enter Try.func38, Try.ntmps38
    go_wp2
    go_ret
    exact ⟨by simp [HN.out], Same.refl w⟩

/-- How many were read is written anew. -/
theorem CurAt.setAt {w : World} {p : Nat} {q : Option Nat} {c : Cur} (h : CurAt w p q c) (n : Nat) (hz : c.code = 0) (hn : n ≤ c.b.length) :
    CurAt (w.setCell ⟨p, 1, none⟩ (.int .i64 n)) p q { c with at_ := n } ∧ Fr [p] w (w.setCell ⟨p, 1, none⟩ (.int .i64 n)) := by
  have F : Fr [p] w (w.setCell ⟨p, 1, none⟩ (.int .i64 n)) := (Fr.refl _ _).setCell (by simp) _
  obtain ⟨ao, m, cap, h1, h2, h3⟩ := h.ok
  refine ⟨CurAt.of_fr (c := { c with at_ := n }) (n := m) F (Go.Joins.block_setCell h1 _) ?_ h3 h.ne hn, F⟩
  have : ({ c with at_ := n } : Cur).live = c.live := by unfold Cur.live; simp [hz]
  rw [this]; exact h2

/-- New bits, and the cursor behind it. -/
def TakeBits (p : Nat) (q : Option Nat) (r : List Bool × Cur) (w : World) (e : Ending) (w' : World) : Prop :=
  ∃ v, e = .returned v ∧ w'.ownsRow w.heap.size 4 1 v r.1.length (tv r.1) ∧ CurAt w' p q r.2 ∧ Fr [p] w w'

set_option maxHeartbeats 1000000 in
theorem bits_fail (w : World) (p : Nat) (q : Option Nat) (c : Cur) (n : Int) (hn : -9223372036854775808 ≤ n ∧ n ≤ 9223372036854775807) (h : CurAt w p q c) (hf : c.code ≠ 0 ∨ n < 0 ∨ c.left < (n.toNat + 7) / 8) :
    Calls Try.prog 39 #[.pointer (some ⟨p, 0, none⟩), .int .i64 n] w (TakeBits p q ([], c.fail 3) w) := by
  have hcap : c.at_ + c.left ≤ 9223372036854775807 := by
    obtain ⟨_, cap, _, _, _, _, _, _, _, h1, h2⟩ := h.out
    omega
  by_cases h0 : n < 0
  · go_enter Try.func39, Try.ntmps39
    go_wp2_with fail
    refine (fail_any _ p q c 3 _ rfl (by decide) h).mono ?_
    rintro e w2 ⟨rfl, hc2, hf2⟩
    go_wp2_with fail
    go_ret
    exact ⟨_, rfl, World.ownsRow_nil _ _ _ _, hc2, hf2⟩
  · obtain ⟨n, rfl⟩ := Int.eq_ofNat_of_zero_le (show 0 ≤ n by omega)
    rw [Int.toNat_natCast] at hf
    by_cases h1 : c.left < n / 8
    · have h1' : (c.left : Int) < (n : Int) / 8 := by omega
      clear hf
      go_enter Try.func39, Try.ntmps39
      go_wp2_with fail
      refine (left_any w p q c h).mono ?_
      rintro e w1 ⟨rfl, s1⟩
      have hc1 := h.same s1
      go_wp2_with fail
      refine (fail_any _ p q c 3 _ rfl (by decide) hc1).mono ?_
      rintro e w2 ⟨rfl, hc2, hf2⟩
      clear h hc1
      go_wp2_with fail
      go_ret
      exact ⟨_, rfl, World.ownsRow_nil _ _ _ _, hc2, s1.fr.trans hf2 (by simp)⟩
    · have h1' : (n : Int) / 8 ≤ (c.left : Int) := by omega
      by_cases h2 : c.left < (n + 7) / 8
      · have h2' : (c.left : Int) < ((n : Int) - (n : Int) / 8 * 8 + 7) / 8 + (n : Int) / 8 := by omega
        clear hf
        go_enter Try.func39, Try.ntmps39
        go_wp2_with fail
        refine (left_any w p q c h).mono ?_
        rintro e w1 ⟨rfl, s1⟩
        have hc1 := h.same s1
        go_wp2_with fail
        refine (left_any w1 p q c hc1).mono ?_
        rintro e w2 ⟨rfl, s2⟩
        have hc2 := hc1.same s2
        go_wp2_with fail
        refine (fail_any _ p q c 3 _ rfl (by decide) hc2).mono ?_
        rintro e w3 ⟨rfl, hc3, hf3⟩
        clear h hc1 hc2
        go_wp2_with fail
        go_ret
        exact ⟨_, rfl, World.ownsRow_nil _ _ _ _, hc3, (s1.trans s2).fr.trans hf3 (by simp)⟩
      · have h2' : ((n : Int) - (n : Int) / 8 * 8 + 7) / 8 + (n : Int) / 8 ≤ (c.left : Int) := by omega
        have hz : ((c.code : Int) != 0) = true := by rw [bne_iff_ne]; omega
        clear hf
        go_enter Try.func39, Try.ntmps39
        go_wp2_with fail
        refine (left_any w p q c h).mono ?_
        rintro e w1 ⟨rfl, s1⟩
        have hc1 := h.same s1
        go_wp2_with fail
        refine (left_any w1 p q c hc1).mono ?_
        rintro e w2 ⟨rfl, s2⟩
        have hc2 := hc1.same s2
        obtain ⟨ao, cap, hh, d0, d1, d2, hfz, hs, hq, hl, hm⟩ := hc2.out
        clear hh hs hq hl hm
        go_wp2_with fail
        refine (fail_any _ p q c 3 _ rfl (by decide) hc2).mono ?_
        rintro e w3 ⟨rfl, hc3, hf3⟩
        clear h hc1 hc2 d0 d1 d2 hfz
        go_wp2_with fail
        go_ret
        exact ⟨_, rfl, World.ownsRow_nil _ _ _ _, hc3, (s1.trans s2).fr.trans hf3 (by simp)⟩

end Go.Proofs.Ytklbocdeifebkaa
