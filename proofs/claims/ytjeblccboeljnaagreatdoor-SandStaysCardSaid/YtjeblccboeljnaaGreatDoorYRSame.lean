/- Contracts: the reference's Same (of the same things), Small. No condition but that lengths fit. -/
import Derived.Test.YtjeblccboeljnaaGreatDoorYRef
import Derived.Test.YtjeblccboeljnaaGreatDoorRefBy
namespace Go.Proofs.YtjeblccboeljnaaGreatDoor
open Go.RowKit

theorem bytes_quiet (w : World) (n : Nat) (v1 v2 : Value) (a : List UInt8) (h1 : Sl w v1 (bv a)) (h2 : Sl w v2 (bv a)) :
    Calls Tryz.prog 32 #[v1, v2] (w.drewN n) fun e w' => e = .returned (.bool true) ∧ ∃ m, w' = w.drewN m := by
  have F : Fr [] w (w.drewN n) := (Fr.refl _ _).drewN n
  refine (bytes_any (w.drewN n) v1 v2 a a (h1.fr0 F) (h2.fr0 F)).mono ?_
  rintro e w' ⟨rfl, h⟩
  exact ⟨by rw [decide_eq_true rfl], (Same.drewN n : Same w (w.drewN n)).trans h⟩
set_option maxRecDepth 100000 in
set_option maxHeartbeats 4000000 in
theorem rsame_any {w : World} {hi hj : Nat} {v u : Value} {X L : List Th} (h : ThAt w hi v X) (g : ThAt w hj u L) (hL : L.length ≤ 1000000) (hlen : X.length = L.length) (hS : ∀ t ∈ X, lookL L t.path = some t.tv) :
    Calls Tryz.prog 13 #[v, u] w fun e w' => e = .returned (.bool true) ∧ Same w w' := by
  obtain ⟨ao, cap, rfl, -, -⟩ := h.out
  obtain ⟨bo, cap2, rfl, -, -⟩ := g.out
  have HT := Lib.hid h
  have HU := Lib.hid g
  have HL := Lib.hid hL
  have HS := Lib.hid hS
  have hnot : ∀ (x : Bool) (w : World), (Op.unary .not (.bool x)).run Tryz.prog w = .ok (.bool (!x)) w := fun _ _ => rfl
  obtain ⟨N, hN⟩ : ∃ N, L.length = N := ⟨_, rfl⟩
  rw [hN] at hlen HU ⊢
  rw [hlen] at HT ⊢
  have HN := Lib.hid hN
  have HX := Lib.hid hlen
  clear h g hL hS hN hlen
  have tt : ((N : Int) != (N : Int)) = false := by simp
  go_enter Tryz.func13, Tryz.ntmps13
  go_wp2_with fail
  go_loopw [5] (fun i wr => ∃ k : Nat, k ≤ N ∧ i = .int .i64 (k : Int) ∧ Same w wr) (fun i _ => N - (intOf i).toNat)
  case atStart => exact ⟨0, Nat.zero_le _, rfl, Same.refl _⟩
  case round =>
    obtain ⟨k, hk, rfl, F1⟩ := hrel
    have hNb : N ≤ 1000000 := by have := HL.out; rw [HN.out] at this; exact this
    by_cases hlt : k < N
    · obtain ⟨t, hx⟩ := some_get X k (by rw [HX.out]; exact hlt)
      obtain ⟨b, o, da, dc, rfl, hb, -, c0, c1, c2, c3, sl1, -⟩ := (HT.out.fr0 F1.fr).get hx
      have hlook := HS.out t (List.mem_of_getElem? hx)
      rcases atL_cases L t.path with ⟨i, s, hs, -, e1, e2⟩ | ⟨-, e2⟩
      rotate_left
      · rw [e2] at hlook; cases hlook
      have est : s.tv = t.tv := by rw [e2] at hlook; injection hlook
      obtain ⟨b', o', da', dc', rfl, hb', -, c0', c1', c2', c3', sl2, -⟩ := (HU.out.fr0 F1.fr).get hs
      rw [est] at c1' c2' c3' sl2
      have HAT := Lib.hid (rat_any (HU.out.fr0 F1.fr) HL.out t.path)
      rw [e1] at HAT
      have hiN : i < N := by have := (List.getElem?_eq_some_iff.1 hs).1; rw [HN.out] at this; exact this
      have i1 : ¬ (i : Int) < 0 := by omega
      have i1b : decide ((i : Int) < 0) = false := by simp
      have i2 : (i : Int) < (N : Int) := by omega
      have hltI : (k : Int) < (N : Int) := by omega
      obtain ⟨q, kd, dl, ln⟩ := t
      dsimp only at c0 c1 c2 c3 c1' c2' c3' sl1 sl2 HAT
      have HQ := Lib.hid (fun n => bytes_quiet wr n _ _ dl sl1 sl2)
      have k1 : (kd != kd) = false := by simp
      have k2 : (ln != ln) = false := by simp
      have k3 : (ln == ln) = true := by simp
      have HF1 := Lib.hid F1
      clear hx hs hlook e1 e2 est sl1 sl2 F1 c0'
      go_upto_region 7 with (go_at_call 15; refine HAT.out.mono ?_; rintro e wr ⟨rfl, rfl⟩)
      go_quiet ((go_at_call 32; exact HQ.out _))
      obtain ⟨w3, hw3⟩ : ∃ w3, w3 = wr.drewN nq := ⟨_, rfl⟩
      rw [← hw3]
      have F3 : Same w w3 := hw3 ▸ HF1.out.trans (Same.drewN nq)
      clear hw3
      go_wp2_with fail
      go_roundw
      case rel => exact ⟨k + 1, by omega, by go_num, F3⟩
      case measure => simp [intOf]; omega
    · have hltI : ¬ (k : Int) < (N : Int) := by omega
      go_wp2_with fail
      go_ret
      exact ⟨rfl, F1⟩
/-- Such as are gone through. -/
def SmL (L : List Th) : Prop := L.length ≤ 60 ∧ ∀ t ∈ L, t.path.length ≤ 1500 ∧ t.tv.data.length ≤ 5000 ∧ t.tv.ln.length ≤ 5000
set_option maxRecDepth 100000 in
set_option maxHeartbeats 4000000 in
theorem rsmall_any {w : World} {hi : Nat} {v : Value} {L : List Th} (h : ThAt w hi v L) :
    Calls Tryz.prog 7 #[v] w fun e w' => ∃ r, e = .returned (.bool r) ∧ (r = true → SmL L) ∧ w' = w := by
  obtain ⟨ao, cap, rfl, -, -⟩ := h.out
  have HT := Lib.hid h
  obtain ⟨N, hN⟩ : ∃ N, L.length = N := ⟨_, rfl⟩
  have HN := Lib.hid hN
  rw [hN] at HT ⊢
  clear h hN
  by_cases h60 : N ≤ 60
  rotate_left
  · have h1 : (60 : Int) < (N : Int) := by omega
    clear h60
    go_enter Tryz.func7, Tryz.ntmps7
    go_wp2_with fail
    go_ret
    first | exact ⟨false, rfl, by simp, rfl⟩ | exact .inl rfl | exact .inl ⟨rfl, rfl⟩
  have h1 : ¬ (60 : Int) < (N : Int) := by omega
  go_enter Tryz.func7, Tryz.ntmps7
  go_wp2_with fail
  go_loopw [3] (fun i wr => wr = w ∧ ∃ k : Nat, k ≤ N ∧ i = .int .i64 (k : Int) ∧ ∀ (j : Nat) (t : Th), j < k → L[j]? = some t → t.path.length ≤ 1500 ∧ t.tv.data.length ≤ 5000 ∧ t.tv.ln.length ≤ 5000) (fun i _ => N - (intOf i).toNat)
  case atStart => exact ⟨rfl, 0, Nat.zero_le _, rfl, fun j s hj => by omega⟩
  case round =>
    obtain ⟨rfl, k, hk, rfl, hno⟩ := hrel
    have HNO := Lib.hid hno
    clear hno
    by_cases hlt : k < N
    · obtain ⟨t, hx⟩ := some_get L k (by rw [HN.out]; exact hlt)
      obtain ⟨b, o, da, dc, rfl, hb, -, c0, c1, c2, c3, -, -⟩ := HT.out.get hx
      have HX := Lib.hid hx
      have hltI : (k : Int) < (N : Int) := by omega
      obtain ⟨q, kd, dl, ln⟩ := t
      dsimp only at c0 c1 c2 c3
      have z1 : (⟨q.toArray⟩ : ByteArray).size = q.length := by simp [ByteArray.size]
      have z2 : (⟨ln.toArray⟩ : ByteArray).size = ln.length := by simp [ByteArray.size]
      have HY := Lib.hid (fun (g1 : q.length ≤ 1500) (g2 : dl.length ≤ 5000) (g3 : ln.length ≤ 5000) => (show ∀ (j : Nat) (t : Th), j < k + 1 → L[j]? = some t → t.path.length ≤ 1500 ∧ t.tv.data.length ≤ 5000 ∧ t.tv.ln.length ≤ 5000 from fun j s hj hs => by
        by_cases e : j = k
        · subst e
          have e1 := HX.out.symm.trans hs
          injection e1 with e1
          subst e1
          exact ⟨g1, g2, g3⟩
        · exact HNO.out j s (by omega) hs))
      clear hx c1
      generalize q.length = n1 at *
      generalize dl.length = n2 at *
      generalize ln.length = n3 at *
      by_cases g1 : n1 ≤ 1500
      rotate_left
      · have t1 : (1500 : Int) < (n1 : Int) := by omega
        clear g1
        go_wp2_with fail
        go_ret
        first | exact ⟨false, rfl, by simp, rfl⟩ | exact .inl rfl | exact .inl ⟨rfl, rfl⟩
      by_cases g2 : n2 ≤ 5000
      rotate_left
      · have t1 : ¬ (1500 : Int) < (n1 : Int) := by omega
        have t2 : (5000 : Int) < (n2 : Int) := by omega
        clear g1 g2
        go_wp2_with fail
        go_ret
        first | exact ⟨false, rfl, by simp, rfl⟩ | exact .inl rfl | exact .inl ⟨rfl, rfl⟩
      by_cases g3 : n3 ≤ 5000
      rotate_left
      · have t1 : ¬ (1500 : Int) < (n1 : Int) := by omega
        have t2 : ¬ (5000 : Int) < (n2 : Int) := by omega
        have t3 : (5000 : Int) < (n3 : Int) := by omega
        clear g1 g2 g3
        go_wp2_with fail
        go_ret
        first | exact ⟨false, rfl, by simp, rfl⟩ | exact .inl rfl | exact .inl ⟨rfl, rfl⟩
      have t1 : ¬ (1500 : Int) < (n1 : Int) := by omega
      have t2 : ¬ (5000 : Int) < (n2 : Int) := by omega
      have t3 : ¬ (5000 : Int) < (n3 : Int) := by omega
      have HZ := Lib.hid (HY.out g1 g2 g3)
      go_wp2_with fail
      go_roundw
      case rel => exact ⟨trivial, k + 1, by omega, by go_num, HZ.out⟩
      case measure => simp [intOf]; omega
    · obtain rfl : k = N := by omega
      have HE := Lib.hid (show SmL L from ⟨by rw [HN.out]; exact h60, fun t ht => by
        obtain ⟨j, hj⟩ := List.getElem?_of_mem ht
        exact HNO.out j t (by have := (List.getElem?_eq_some_iff.1 hj).1; rw [HN.out] at this; exact this) hj⟩)
      have hltI : ¬ (k : Int) < (k : Int) := by omega
      go_wp2_with fail
      go_ret
      exact .inr ⟨rfl, HE.out, rfl⟩
end Go.Proofs.YtjeblccboeljnaaGreatDoor
