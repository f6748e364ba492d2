/- Contracts of the reference: At, Kind, Parent, lies, Clean, Within. No condition but that lengths fit. -/
import Derived.Test.YtjeblccboeljnaaGreatDoorYThr
import Derived.Test.YtjeblccboeljnaaGreatDoorNRefC
namespace Go.Proofs.YtjeblccboeljnaaGreatDoor
open Go.RowKit

set_option maxRecDepth 100000 in
set_option maxHeartbeats 2000000 in
theorem rat_any {w : World} {hi : Nat} {v : Value} {L : List Th} (h : ThAt w hi v L) (hL : L.length ≤ 1000000) (q : List UInt8) :
    Calls Tryz.prog 15 #[v, .string ⟨q.toArray⟩] w fun e w' => e = .returned (.int .i64 (atL L q)) ∧ w' = w := by
  obtain ⟨ao, cap, rfl, -, -⟩ := h.out
  have HT := Lib.hid h
  have HL := Lib.hid hL
  obtain ⟨N, hN⟩ : ∃ N, L.length = N := ⟨_, rfl⟩
  have HN := Lib.hid hN
  rw [hN] at HT ⊢
  clear h hL hN
  go_enter Tryz.func15, Tryz.ntmps15
  go_wp2_with fail
  go_loopw [5] (fun i wr => wr = w ∧ ∃ k : Nat, k ≤ N ∧ i = .int .i64 (k : Int) ∧ ∀ (j : Nat) (s : Th), j < k → L[j]? = some s → s.path ≠ q) (fun i _ => N - (intOf i).toNat)
  case atStart => exact ⟨rfl, 0, Nat.zero_le _, rfl, fun j s hj => by omega⟩
  case round =>
    obtain ⟨rfl, k, hk, rfl, hno⟩ := hrel
    have HNO := Lib.hid hno
    clear hno
    by_cases hlt : k < N
    · obtain ⟨t, hx⟩ := some_get L k (by rw [HN.out]; exact hlt)
      obtain ⟨b, o, da, dc, rfl, hb, -, c0, c1, c2, c3, -, -⟩ := HT.out.get hx
      have HX := Lib.hid hx
      have hltI : (k : Int) < (N : Int) := by omega
      have hNB : N ≤ 1000000 := by have := HL.out; rw [HN.out] at this; exact this
      clear hx c1 c2 c3
      cases he : t.path == q with
      | false =>
        have HE := Lib.hid (show t.path ≠ q by simpa using he)
        go_wp2_with fail
        go_roundw
        case rel =>
          exact ⟨trivial, k + 1, by omega, by go_num, fun j s hj hs => by
            by_cases e : j = k
            · subst e
              have h1 := HX.out.symm.trans hs
              injection h1 with h1
              exact h1 ▸ HE.out
            · exact HNO.out j s (by omega) hs⟩
        case measure =>
          simp [intOf]; omega
      | true =>
        have HE := Lib.hid (show atL L q = (k : Int) from (atL_some HX.out (by simpa using he) HNO.out).1)
        go_wp2_with fail
        go_ret
        exact ⟨by rw [HE.out]; rfl, rfl⟩
    · obtain rfl : k = N := by omega
      have HE := Lib.hid (show atL L q = -1 from (atL_none fun j s hs => HNO.out j s (by have := (List.getElem?_eq_some_iff.1 hs).1; rw [HN.out] at this; exact this) hs).1)
      have hltI : ¬ (k : Int) < (k : Int) := by omega
      go_wp2_with fail
      go_ret
      exact ⟨by rw [HE.out]; rfl, rfl⟩
set_option maxRecDepth 100000 in
set_option maxHeartbeats 2000000 in
theorem rkind_any {w : World} {hi : Nat} {v : Value} {L : List Th} (h : ThAt w hi v L) (hL : L.length ≤ 1000000) (q : List UInt8) :
    Calls Tryz.prog 47 #[v, .string ⟨q.toArray⟩] w fun e w' => e = .returned (.int .i64 (kindK (lookL L) q)) ∧ w' = w := by
  have HA := Lib.hid (rat_any h hL q)
  obtain ⟨ao, cap, rfl, -, -⟩ := h.out
  rcases atL_cases L q with ⟨i, t, hx, -, e1, e2⟩ | ⟨e1, e2⟩
  · obtain ⟨b, o, da, dc, rfl, hb, -, c0, c1, c2, c3, -, -⟩ := h.get hx
    have hiN := (List.getElem?_eq_some_iff.1 hx).1
    have HK := Lib.hid (show kindK (lookL L) q = t.tv.kind by unfold kindK; rw [e2]; rfl)
    rw [e1] at HA
    have h0 : ¬ (i : Int) < 0 := by omega
    have h1 : (i : Int) < (L.length : Int) := by omega
    clear e1 e2 hx h
    go_enter Tryz.func47, Tryz.ntmps47
    go_wp2_with (go_at_call 15; refine HA.out.mono ?_; rintro e w1 ⟨rfl, rfl⟩)
    go_ret
    exact ⟨by rw [HK.out]; rfl, rfl⟩
  · have HK := Lib.hid (show kindK (lookL L) q = 0 by unfold kindK; rw [e2]; rfl)
    rw [e1] at HA
    clear e1 e2 h
    go_enter Tryz.func47, Tryz.ntmps47
    go_wp2_with (go_at_call 15; refine HA.out.mono ?_; rintro e w1 ⟨rfl, rfl⟩)
    go_ret
    exact ⟨by rw [HK.out]; rfl, rfl⟩
theorem parent_at {p : List UInt8} {k : Nat} (hk : p[k]? = some 47) (hn : ∀ j : Nat, k < j → p[j]? ≠ some 47) : parentL p = p.take k := by
  unfold parentL
  cases hl : lastS p with
  | none => exact absurd (List.mem_of_getElem? hk) (lastS_none hl)
  | some i =>
    obtain ⟨q1, q2⟩ := lastS_some hl
    rcases Nat.lt_trichotomy i k with h | h | h
    · exact absurd hk (q2 k h)
    · rw [h]
    · exact absurd q1 (hn i h)
theorem parent_not {p : List UInt8} (hn : ∀ j : Nat, p[j]? ≠ some 47) : parentL p = [] := by
  unfold parentL
  cases hl : lastS p with
  | none => rfl
  | some i => exact absurd (lastS_some hl).1 (hn i)
set_option maxRecDepth 100000 in
set_option maxHeartbeats 2000000 in
theorem rparent_any (w : World) (p : List UInt8) (hp : p.length ≤ 100000) : Calls Tryz.prog 46 #[.string ⟨p.toArray⟩] w fun e w' => e = .returned (.string ⟨(parentL p).toArray⟩) ∧ w' = w := by
  obtain ⟨N, hN⟩ : ∃ N, p.length = N := ⟨_, rfl⟩
  have HN := Lib.hid hN
  rw [hN] at hp
  have hz : (⟨p.toArray⟩ : ByteArray).size = N := by rw [← hN]; simp [ByteArray.size]
  clear hN
  go_enter Tryz.func46, Tryz.ntmps46
  go_wp2_with fail
  go_loopw [3] (fun i wr => wr = w ∧ ∃ k : Nat, k ≤ N ∧ i = .int .i64 ((k : Int) - 1) ∧ ∀ j : Nat, k ≤ j → p[j]? ≠ some 47) (fun i _ => (intOf i + 1).toNat)
  case atStart => exact ⟨rfl, N, Nat.le_refl _, by go_num, fun j hj => by rw [List.getElem?_eq_none (by rw [HN.out]; exact hj)]; simp⟩
  case round =>
    obtain ⟨rfl, k, hk, rfl, hno⟩ := hrel
    have HNO := Lib.hid hno
    clear hno
    by_cases h0 : k = 0
    · subst h0
      have HE := Lib.hid (parent_not fun j => HNO.out j (Nat.zero_le _))
      have hI : ¬ (0 : Int) ≤ ((0 : Nat) : Int) - 1 := by omega
      go_wp2_with fail
      go_ret
      exact ⟨by rw [HE.out]; rfl, rfl⟩
    · obtain ⟨m, rfl⟩ : ∃ m, k = m + 1 := ⟨k - 1, by omega⟩
      have em : ((m + 1 : Nat) : Int) - 1 = (m : Int) := by omega
      rw [em]
      obtain ⟨x, hx⟩ := some_get p m (by rw [HN.out]; omega)
      have hg := get_ba hx
      have HX := Lib.hid hx
      have hI : (0 : Int) ≤ (m : Int) := by omega
      have hI2 : (m : Int) < (N : Int) := by omega
      clear hx h0 em
      by_cases hs : x = 47
      · subst hs
        have HE := Lib.hid (show (⟨p.toArray⟩ : ByteArray).extract 0 m = ⟨(parentL p).toArray⟩ by rw [extract_ba, parent_at HX.out (fun j hj => HNO.out j (by omega))]; simp)
        go_wp2_with fail
        go_ret
        exact ⟨by rw [← HE.out]; simp; done, rfl⟩
      · have HS := Lib.hid hs
        have t0 : ((x.toNat : Int) == 47) = false := by
          rw [beq_eq_false_iff_ne]
          intro e
          apply hs
          apply UInt8.toNat_inj.1
          show x.toNat = 47
          omega
        clear hs
        go_wp2_with fail
        go_roundw
        case rel =>
          exact ⟨trivial, m, by omega, by go_num, fun j hj => by
            by_cases e : j = m
            · subst e
              rw [HX.out]
              intro h
              injection h with h
              exact HS.out h
            · exact HNO.out j (by omega)⟩
        case measure => simp [intOf]
def rliesL (L : List Th) (q : List UInt8) : Bool := (parentL q == []) || decide (kindK (lookL L) (parentL q) = 1)
set_option maxRecDepth 100000 in
set_option maxHeartbeats 2000000 in
theorem rlies_any {w : World} {hi : Nat} {v : Value} {L : List Th} (h : ThAt w hi v L) (hL : L.length ≤ 1000000) (q : List UInt8) (hq : q.length ≤ 100000) :
    Calls Tryz.prog 25 #[v, .string ⟨q.toArray⟩] w fun e w' => e = .returned (.bool (rliesL L q)) ∧ w' = w := by
  have HP := Lib.hid (rparent_any w q hq)
  have HK := Lib.hid (rkind_any h hL (parentL q))
  unfold rliesL
  generalize parentL q = u at *
  obtain ⟨kd, hkd⟩ : ∃ kd, kindK (lookL L) u = kd := ⟨_, rfl⟩
  rw [hkd] at HK ⊢
  rw [show decide (kd = 1) = (kd == 1) by by_cases h : kd = 1 <;> simp [h]]
  clear h hkd
  cases hu : u == []
  all_goals
    go_enter Tryz.func25, Tryz.ntmps25
    go_wp2_with (first
      | (go_at_call 46; refine HP.out.mono ?_; rintro e w1 ⟨rfl, rfl⟩)
      | (go_at_call 47; refine HK.out.mono ?_; rintro e w1 ⟨rfl, rfl⟩))
    go_ret
    exact ⟨rfl, rfl⟩
theorem rclean_tot (w : World) (l : List UInt8) (hl : l.length ≤ 100000) : Calls Tryz.prog 45 #[.string ⟨l.toArray⟩] w fun e w' => (∃ v, e = .returned (.tuple #[v, .int .i64 (if cleanL foldL l then 0 else 15)])) ∧ Fr [] w w' := by
  refine (rclean_any w l hl).mono ?_
  rintro e w' (⟨v, h2, rfl, -, F⟩ | ⟨h2, rfl, F⟩)
  · rw [h2]; exact ⟨⟨_, rfl⟩, F⟩
  · rw [h2]; exact ⟨⟨_, rfl⟩, F⟩
theorem rc25_any (w : World) (l : List UInt8) (hl : l.length ≤ 100000) : Calls Tryz.prog 24 #[.string ⟨l.toArray⟩] w fun e w' => e = .returned (.bool (cleanL foldL l)) ∧ Fr [] w w' := by
  have HC := Lib.hid (rclean_tot w l hl)
  clear hl
  cases h : cleanL foldL l
  all_goals
    rw [h] at HC
    clear h
    go_enter Tryz.func24, Tryz.ntmps24
    go_wp2_with (go_at_call 45; refine HC.out.mono ?_; rintro e w1 ⟨⟨v, rfl⟩, F1⟩)
    go_ret
    exact ⟨rfl, F1⟩
theorem within_dec (p top : List UInt8) : withinB p top = (decide (top.length < p.length) && (p.take top.length == top) && (p.getD top.length 0 == 47)) := by
  rw [Bool.eq_iff_iff, within_iff]
  simp only [Bool.and_eq_true, decide_eq_true_eq, beq_iff_eq]
  constructor
  · rintro ⟨h1, h2⟩
    exact ⟨⟨(List.getElem?_eq_some_iff.1 h2).1, h1⟩, by rw [List.getD_eq_getElem?_getD, h2]; rfl⟩
  · rintro ⟨⟨h1, h2⟩, h3⟩
    refine ⟨h2, ?_⟩
    obtain ⟨x, hx⟩ := some_get p top.length h1
    rw [List.getD_eq_getElem?_getD, hx] at h3
    rw [hx]
    exact congrArg some h3
set_option maxRecDepth 100000 in
set_option maxHeartbeats 2000000 in
theorem rwithin_any (w : World) (p top : List UInt8) (ht : top.length ≤ 100000) : Calls Tryz.prog 16 #[.string ⟨p.toArray⟩, .string ⟨top.toArray⟩] w fun e w' => e = .returned (.bool (withinB p top)) ∧ w' = w := by
  rw [within_dec]
  by_cases hl : top.length < p.length
  rotate_left
  · have z1 : (⟨p.toArray⟩ : ByteArray).size = p.length := by simp [ByteArray.size]
    have z2 : (⟨top.toArray⟩ : ByteArray).size = top.length := by simp [ByteArray.size]
    have h1 : ¬ (top.length : Int) < (p.length : Int) := by omega
    rw [decide_eq_false hl]
    clear hl
    go_enter Tryz.func16, Tryz.ntmps16
    go_wp2_with fail
    go_ret
    exact ⟨rfl, rfl⟩
  · have z1 : (⟨p.toArray⟩ : ByteArray).size = p.length := by simp [ByteArray.size]
    have z2 : (⟨top.toArray⟩ : ByteArray).size = top.length := by simp [ByteArray.size]
    have h1 : (top.length : Int) < (p.length : Int) := by omega
    have hX : (⟨p.toArray⟩ : ByteArray).extract 0 top.length = ⟨(p.take top.length).toArray⟩ := by rw [extract_ba]; simp
    obtain ⟨x, hx⟩ := some_get p top.length hl
    have hg := get_ba hx
    have e0 : p.getD top.length 0 = x := by rw [List.getD_eq_getElem?_getD, hx]; rfl
    rw [decide_eq_true hl, e0]
    have hX' : (x == 47) = ((x.toNat : Int) == 47) := by
      rw [Bool.eq_iff_iff, beq_iff_eq, beq_iff_eq]
      constructor
      · rintro rfl; rfl
      · intro h
        apply UInt8.toNat_inj.1
        show x.toNat = 47
        omega
    rw [hX']
    clear hl e0 hx
    generalize top.length = TL at *
    generalize hT : p.take TL = pt at *
    cases hpt : pt == top
    all_goals
      go_enter Tryz.func16, Tryz.ntmps16
      go_wp2_with fail
      go_ret
      exact ⟨by simp, rfl⟩
end Go.Proofs.YtjeblccboeljnaaGreatDoor
