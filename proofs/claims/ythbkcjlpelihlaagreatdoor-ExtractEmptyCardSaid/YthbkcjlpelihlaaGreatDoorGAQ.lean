/- Contracts: the reference's Clean, Texts. No condition but that lengths fit. -/
import Derived.Test.YthbkcjlpelihlaaGreatDoorNRefPM
import Derived.Test.YthbkcjlpelihlaaGreatDoorNRunesM
import Derived.Test.YthbkcjlpelihlaaGreatDoorGAO
namespace Go.Proofs.YthbkcjlpelihlaaGreatDoor
open Go.RowKit

/-- What the reference's Clean answers: as Clean does. -/
def RCleanR (l : List UInt8) (w : World) (e : Ending) (w' : World) : Prop :=
  (∃ v, cleanL foldL l = true ∧ e = .returned (.tuple #[v, .int .i64 0]) ∧ Sl w' v (stv (splitL l)) ∧ Fr [] w w') ∨
    (cleanL foldL l = false ∧ e = .returned (.tuple #[.slice none 0 0, .int .i64 15]) ∧ Fr [] w w')

def RRunes (l : List UInt8) (w : World) (e : Ending) (w' : World) : Prop := (∃ v, e = .returned (.tuple #[v, .bool (runesL l).isSome])) ∧ Fr [] w w'
theorem runes_ok (w : World) (l : List UInt8) (hl : l.length ≤ 100000) : Calls Tryz.prog 59 #[.string ⟨l.toArray⟩] w (RRunes l w) := by
  refine (runes_any w l hl).mono ?_
  rintro e w' (⟨rs, v, h1, rfl, -, F⟩ | ⟨h1, rfl, F⟩)
  · exact ⟨⟨v, by rw [h1]; rfl⟩, F⟩
  · exact ⟨⟨_, by rw [h1]; rfl⟩, F⟩
def RSplit (l : List UInt8) (w : World) (e : Ending) (w' : World) : Prop := (∃ ao cap, e = .returned (.slice ao (splitL l).length cap) ∧ Sl w' (.slice ao (splitL l).length cap) (stv (splitL l))) ∧ Fr [] w w'
theorem rsplit_ok (w : World) (l : List UInt8) (hl : l.length ≤ 100000) : Calls Tryz.prog 22 #[.string ⟨l.toArray⟩] w (RSplit l w) := by
  refine (rsplit_any w l hl).mono ?_
  rintro e w' ⟨⟨v, rfl, own⟩, F⟩
  obtain ⟨ao, cap, rfl, -⟩ := own_out own
  exact ⟨⟨ao, cap, rfl, Sl.of_own own⟩, F⟩

set_option maxRecDepth 100000 in
set_option maxHeartbeats 2000000 in
theorem rclean_any (w : World) (l : List UInt8) (hl : l.length ≤ 100000) :
    Calls Tryz.prog 39 #[.string ⟨l.toArray⟩] w (RCleanR l w) := by
  obtain ⟨ps, hps⟩ : ∃ ps, splitL l = ps := ⟨_, rfl⟩
  have HPS := Lib.hid hps
  have HPL := Lib.hid (show ∀ p ∈ ps, p.length ≤ 100000 from fun p hp => by rw [← hps] at hp; exact Nat.le_trans (splitL_part l p hp) hl)
  have hpsl : ps.length ≤ 100001 := by have := splitL_len l; rw [hps] at this; omega
  clear hps
  obtain ⟨r, hr⟩ : ∃ r, (runesL l).isSome = r := ⟨_, rfl⟩
  have HR := Lib.hid hr
  clear hr
  by_cases hbad : r = false ∨ 1024 < l.length ∨ 32 < ps.length
  · have HC := Lib.hid (show cleanL foldL l = false by
      unfold cleanL
      rw [HR.out, HPS.out]
      rcases hbad with h | h | h
      · rw [h]; rfl
      · rw [show decide (l.length ≤ 1024) = false from decide_eq_false (by omega)]; simp
      · rw [show decide (ps.length ≤ 32) = false from decide_eq_false (by omega)]; simp)
    rcases (show r = false ∨ (r = true ∧ 1024 < l.length) ∨ (r = true ∧ l.length ≤ 1024 ∧ 32 < ps.length) by cases r <;> simp_all <;> omega) with rfl | ⟨rfl, h⟩ | ⟨rfl, h, h2⟩
    · clear hbad
      go_enter Tryz.func39, Tryz.ntmps39
      go_wp2_with (first
        | (go_at_call 59; refine (runes_ok _ l hl).mono ?_; rintro e w1 ⟨⟨v1, rfl⟩, F1⟩; rw [HR.out])
        | (go_at_call 22; refine (rsplit_ok _ l hl).mono ?_; rintro e w2 ⟨⟨ao, cap, rfl, -⟩, F2⟩; rw [HPS.out]))
      go_ret2
      exact .inr ⟨HC.out, rfl, F1.trans0 F2⟩
    · have a1 : (1024 : Int) < (l.length : Int) := by omega
      clear hbad h
      go_enter Tryz.func39, Tryz.ntmps39
      go_wp2_with (first
        | (go_at_call 59; refine (runes_ok _ l hl).mono ?_; rintro e w1 ⟨⟨v1, rfl⟩, F1⟩; rw [HR.out])
        | (go_at_call 22; refine (rsplit_ok _ l hl).mono ?_; rintro e w2 ⟨⟨ao, cap, rfl, -⟩, F2⟩; rw [HPS.out]))
      go_ret2
      exact .inr ⟨HC.out, rfl, F1.trans0 F2⟩
    · have a1 : (l.length : Int) ≤ 1024 := by omega
      have a2 : (32 : Int) < (ps.length : Int) := by omega
      clear hbad h h2
      go_enter Tryz.func39, Tryz.ntmps39
      go_wp2_with (first
        | (go_at_call 59; refine (runes_ok _ l hl).mono ?_; rintro e w1 ⟨⟨v1, rfl⟩, F1⟩; rw [HR.out])
        | (go_at_call 22; refine (rsplit_ok _ l hl).mono ?_; rintro e w2 ⟨⟨ao, cap, rfl, -⟩, F2⟩; rw [HPS.out]))
      go_ret2
      exact .inr ⟨HC.out, rfl, F1.trans0 F2⟩
  · have hr1 : r = true := by cases r <;> simp_all
    subst hr1
    have a1 : (l.length : Int) ≤ 1024 := by omega
    have a2 : (ps.length : Int) ≤ 32 := by omega
    have HC2 := Lib.hid (show cleanL foldL l = ps.all (partL foldL) by
      unfold cleanL
      rw [HR.out, HPS.out, show decide (l.length ≤ 1024) = true from decide_eq_true (by omega), show decide (ps.length ≤ 32) = true from decide_eq_true (by omega)]
      rfl)
    clear hbad
    go_enter Tryz.func39, Tryz.ntmps39
    go_wp2_with (first
      | (go_at_call 59; refine (runes_ok _ l hl).mono ?_; rintro e w1 ⟨⟨v1, rfl⟩, F1⟩; rw [HR.out])
      | (go_at_call 22; refine (rsplit_ok _ l hl).mono ?_; rintro e w2 ⟨⟨ao, cap, rfl, hSl⟩, F2⟩; rw [HPS.out] at hSl ⊢))
    have HSl := Lib.hid hSl
    obtain ⟨ao2, cap2, he2, g2, m2, o2⟩ := hSl.out
    injection he2 with e1 e2 e3
    subst e1 e3
    simp only [stv_len] at o2
    clear e2 hSl g2 m2
    go_loopw [7] (fun i wr => ∃ k : Nat, k ≤ ps.length ∧ i = .int .i64 k ∧ (ps.take k).all (partL foldL) = true ∧ Fr [] w2 wr) (fun i _ => ps.length - (intOf i).toNat)
    case atStart => exact ⟨0, Nat.zero_le _, rfl, by simp, Fr.refl _ _⟩
    case round =>
      obtain ⟨k, hk, rfl, hall, F⟩ := hrel
      by_cases hlt : k < ps.length
      · obtain ⟨b, of, rfl, hb, hc⟩ := o2 k hlt
        obtain ⟨p, hp⟩ := some_get ps k hlt
        have c0 : wr.cell? ⟨b, of + k, none⟩ = some (.string ⟨p.toArray⟩) := (F.cell (p := ⟨b, of + k, none⟩) hb (by simp)).trans ((hc k hlt).trans (stv_get hp))
        have HX := Lib.hid hp
        have HT := Lib.hid (show (ps.take (k + 1)).all (partL foldL) = partL foldL p by rw [List.take_add_one, hp, List.all_append, hall]; simp)
        clear o2 hc hp hall
        have hlt' : (k : Int) < (ps.length : Int) := by omega
        cases hpl : partL foldL p with
        | true =>
          have HP := Lib.hid hpl
          clear hpl
          go_wp2_with (go_at_call 60; refine (rpart_any _ p (HPL.out p (List.mem_of_getElem? HX.out))).mono ?_; rw [HP.out]; rintro e w3 ⟨rfl, F3⟩)
          go_roundw
          case rel => exact ⟨k + 1, by omega, by go_num, by rw [HT.out, HP.out], F.trans0 F3⟩
          case measure => simp [intOf]; omega
        | false =>
          have HP := Lib.hid hpl
          have HC3 := Lib.hid (show cleanL foldL l = false by
            rw [HC2.out, List.all_eq_false]
            exact ⟨p, List.mem_of_getElem? HX.out, by rw [hpl]; simp⟩)
          clear hpl
          go_wp2_with (go_at_call 60; refine (rpart_any _ p (HPL.out p (List.mem_of_getElem? HX.out))).mono ?_; rw [HP.out]; rintro e w3 ⟨rfl, F3⟩)
          go_ret2
          exact .inr ⟨HC3.out, rfl, ((F1.trans0 F2).trans0 F).trans0 F3⟩
      · have hke : k = ps.length := by omega
        subst hke
        rw [List.take_length] at hall
        have HC3 := Lib.hid (HC2.out.trans hall)
        clear o2 hall
        go_wp2_with fail
        go_ret2
        refine .inl ⟨_, HC3.out, rfl, by rw [HPS.out]; exact HSl.out.fr0 F, (F1.trans0 F2).trans0 F⟩
end Go.Proofs.YthbkcjlpelihlaaGreatDoor
/- Contracts of the reference: At, Kind, Parent, lies, Clean, Within. No condition but that lengths fit. -/
namespace Go.Proofs.YthbkcjlpelihlaaGreatDoor
open Go.RowKit

set_option maxRecDepth 100000 in
set_option maxHeartbeats 2000000 in
theorem rat_any {w : World} {hi : Nat} {v : Value} {L : List Th} (h : ThAt w hi v L) (hL : L.length ≤ 1000000) (q : List UInt8) :
    Calls Tryz.prog 20 #[v, .string ⟨q.toArray⟩] w fun e w' => e = .returned (.int .i64 (atL L q)) ∧ w' = w := by
  obtain ⟨ao, cap, rfl, -, -⟩ := h.out
  have HT := Lib.hid h
  have HL := Lib.hid hL
  obtain ⟨N, hN⟩ : ∃ N, L.length = N := ⟨_, rfl⟩
  have HN := Lib.hid hN
  rw [hN] at HT ⊢
  clear h hL hN
  go_enter Tryz.func20, Tryz.ntmps20
  go_wp2_with fail
  go_loopw [5] (fun i wr => wr = w ∧ ∃ k : Nat, k ≤ N ∧ i = .int .i64 (k : Int) ∧ ∀ (j : Nat) (s : Th), j < k → L[j]? = some s → s.path ≠ q) (fun i _ => N - (intOf i).toNat)
  case atStart => exact ⟨rfl, 0, Nat.zero_le _, rfl, fun j s hj => by omega⟩
  case round =>
    obtain ⟨rfl, k, hk, rfl, hno⟩ := hrel
    have HNO := Lib.hid hno
    clear hno
    by_cases hlt : k < N
    · obtain ⟨t, hx⟩ := some_get L k (by rw [HN.out]; exact hlt)
      obtain ⟨b, o, da, dc, rfl, hb, -, c0, c1, c2, c3, -, -⟩ := HT.out.get hx
      have HX := Lib.hid hx
      have hltI : (k : Int) < (N : Int) := by omega
      have hNB : N ≤ 1000000 := by have := HL.out; rw [HN.out] at this; exact this
      clear hx c1 c2 c3
      cases he : t.path == q with
      | false =>
        have HE := Lib.hid (show t.path ≠ q by simpa using he)
        go_wp2_with fail
        go_roundw
        case rel =>
          exact ⟨trivial, k + 1, by omega, by go_num, fun j s hj hs => by
            by_cases e : j = k
            · subst e
              have h1 := HX.out.symm.trans hs
              injection h1 with h1
              exact h1 ▸ HE.out
            · exact HNO.out j s (by omega) hs⟩
        case measure =>
          simp [intOf]; omega
      | true =>
        have HE := Lib.hid (show atL L q = (k : Int) from (atL_some HX.out (by simpa using he) HNO.out).1)
        go_wp2_with fail
        go_ret
        exact ⟨by rw [HE.out]; rfl, rfl⟩
    · obtain rfl : k = N := by omega
      have HE := Lib.hid (show atL L q = -1 from (atL_none fun j s hs => HNO.out j s (by have := (List.getElem?_eq_some_iff.1 hs).1; rw [HN.out] at this; exact this) hs).1)
      have hltI : ¬ (k : Int) < (k : Int) := by omega
      go_wp2_with fail
      go_ret
      exact ⟨by rw [HE.out]; rfl, rfl⟩
set_option maxRecDepth 100000 in
set_option maxHeartbeats 2000000 in
theorem rkind_any {w : World} {hi : Nat} {v : Value} {L : List Th} (h : ThAt w hi v L) (hL : L.length ≤ 1000000) (q : List UInt8) :
    Calls Tryz.prog 18 #[v, .string ⟨q.toArray⟩] w fun e w' => e = .returned (.int .i64 (kindK (lookL L) q)) ∧ w' = w := by
  have HA := Lib.hid (rat_any h hL q)
  obtain ⟨ao, cap, rfl, -, -⟩ := h.out
  rcases atL_cases L q with ⟨i, t, hx, -, e1, e2⟩ | ⟨e1, e2⟩
  · obtain ⟨b, o, da, dc, rfl, hb, -, c0, c1, c2, c3, -, -⟩ := h.get hx
    have hiN := (List.getElem?_eq_some_iff.1 hx).1
    have HK := Lib.hid (show kindK (lookL L) q = t.tv.kind by unfold kindK; rw [e2]; rfl)
    rw [e1] at HA
    have h0 : ¬ (i : Int) < 0 := by omega
    have h1 : (i : Int) < (L.length : Int) := by omega
    clear e1 e2 hx h
    go_enter Tryz.func18, Tryz.ntmps18
    go_wp2_with (go_at_call 20; refine HA.out.mono ?_; rintro e w1 ⟨rfl, rfl⟩)
    go_ret
    exact ⟨by rw [HK.out]; rfl, rfl⟩
  · have HK := Lib.hid (show kindK (lookL L) q = 0 by unfold kindK; rw [e2]; rfl)
    rw [e1] at HA
    clear e1 e2 h
    go_enter Tryz.func18, Tryz.ntmps18
    go_wp2_with (go_at_call 20; refine HA.out.mono ?_; rintro e w1 ⟨rfl, rfl⟩)
    go_ret
    exact ⟨by rw [HK.out]; rfl, rfl⟩
theorem parent_at {p : List UInt8} {k : Nat} (hk : p[k]? = some 47) (hn : ∀ j : Nat, k < j → p[j]? ≠ some 47) : parentL p = p.take k := by
  unfold parentL
  cases hl : lastS p with
  | none => exact absurd (List.mem_of_getElem? hk) (lastS_none hl)
  | some i =>
    obtain ⟨q1, q2⟩ := lastS_some hl
    rcases Nat.lt_trichotomy i k with h | h | h
    · exact absurd hk (q2 k h)
    · rw [h]
    · exact absurd q1 (hn i h)
theorem parent_not {p : List UInt8} (hn : ∀ j : Nat, p[j]? ≠ some 47) : parentL p = [] := by
  unfold parentL
  cases hl : lastS p with
  | none => rfl
  | some i => exact absurd (lastS_some hl).1 (hn i)
set_option maxRecDepth 100000 in
set_option maxHeartbeats 2000000 in
theorem rparent_any (w : World) (p : List UInt8) (hp : p.length ≤ 100000) : Calls Tryz.prog 58 #[.string ⟨p.toArray⟩] w fun e w' => e = .returned (.string ⟨(parentL p).toArray⟩) ∧ w' = w := by
  obtain ⟨N, hN⟩ : ∃ N, p.length = N := ⟨_, rfl⟩
  have HN := Lib.hid hN
  rw [hN] at hp
  have hz : (⟨p.toArray⟩ : ByteArray).size = N := by rw [← hN]; simp [ByteArray.size]
  clear hN
  go_enter Tryz.func58, Tryz.ntmps58
  go_wp2_with fail
  go_loopw [3] (fun i wr => wr = w ∧ ∃ k : Nat, k ≤ N ∧ i = .int .i64 ((k : Int) - 1) ∧ ∀ j : Nat, k ≤ j → p[j]? ≠ some 47) (fun i _ => (intOf i + 1).toNat)
  case atStart => exact ⟨rfl, N, Nat.le_refl _, by go_num, fun j hj => by rw [List.getElem?_eq_none (by rw [HN.out]; exact hj)]; simp⟩
  case round =>
    obtain ⟨rfl, k, hk, rfl, hno⟩ := hrel
    have HNO := Lib.hid hno
    clear hno
    by_cases h0 : k = 0
    · subst h0
      have HE := Lib.hid (parent_not fun j => HNO.out j (Nat.zero_le _))
      have hI : ¬ (0 : Int) ≤ ((0 : Nat) : Int) - 1 := by omega
      go_wp2_with fail
      go_ret
      exact ⟨by rw [HE.out]; rfl, rfl⟩
    · obtain ⟨m, rfl⟩ : ∃ m, k = m + 1 := ⟨k - 1, by omega⟩
      have em : ((m + 1 : Nat) : Int) - 1 = (m : Int) := by omega
      rw [em]
      obtain ⟨x, hx⟩ := some_get p m (by rw [HN.out]; omega)
      have hg := get_ba hx
      have HX := Lib.hid hx
      have hI : (0 : Int) ≤ (m : Int) := by omega
      have hI2 : (m : Int) < (N : Int) := by omega
      clear hx h0 em
      by_cases hs : x = 47
      · subst hs
        have HE := Lib.hid (show (⟨p.toArray⟩ : ByteArray).extract 0 m = ⟨(parentL p).toArray⟩ by rw [extract_ba, parent_at HX.out (fun j hj => HNO.out j (by omega))]; simp)
        go_wp2_with fail
        go_ret
        exact ⟨by rw [← HE.out]; simp; done, rfl⟩
      · have HS := Lib.hid hs
        have t0 : ((x.toNat : Int) == 47) = false := by
          rw [beq_eq_false_iff_ne]
          intro e
          apply hs
          apply UInt8.toNat_inj.1
          show x.toNat = 47
          omega
        clear hs
        go_wp2_with fail
        go_roundw
        case rel =>
          exact ⟨trivial, m, by omega, by go_num, fun j hj => by
            by_cases e : j = m
            · subst e
              rw [HX.out]
              intro h
              injection h with h
              exact HS.out h
            · exact HNO.out j (by omega)⟩
        case measure => simp [intOf]
def rliesL (L : List Th) (q : List UInt8) : Bool := (parentL q == []) || decide (kindK (lookL L) (parentL q) = 1)
set_option maxRecDepth 100000 in
set_option maxHeartbeats 2000000 in
theorem rlies_any {w : World} {hi : Nat} {v : Value} {L : List Th} (h : ThAt w hi v L) (hL : L.length ≤ 1000000) (q : List UInt8) (hq : q.length ≤ 100000) :
    Calls Tryz.prog 38 #[v, .string ⟨q.toArray⟩] w fun e w' => e = .returned (.bool (rliesL L q)) ∧ w' = w := by
  have HP := Lib.hid (rparent_any w q hq)
  have HK := Lib.hid (rkind_any h hL (parentL q))
  unfold rliesL
  generalize parentL q = u at *
  obtain ⟨kd, hkd⟩ : ∃ kd, kindK (lookL L) u = kd := ⟨_, rfl⟩
  rw [hkd] at HK ⊢
  rw [show decide (kd = 1) = (kd == 1) by by_cases h : kd = 1 <;> simp [h]]
  clear h hkd
  cases hu : u == []
  all_goals
    go_enter Tryz.func38, Tryz.ntmps38
    go_wp2_with (first
      | (go_at_call 58; refine HP.out.mono ?_; rintro e w1 ⟨rfl, rfl⟩)
      | (go_at_call 18; refine HK.out.mono ?_; rintro e w1 ⟨rfl, rfl⟩))
    go_ret
    exact ⟨rfl, rfl⟩
theorem rclean_tot (w : World) (l : List UInt8) (hl : l.length ≤ 100000) : Calls Tryz.prog 39 #[.string ⟨l.toArray⟩] w fun e w' => (∃ v, e = .returned (.tuple #[v, .int .i64 (if cleanL foldL l then 0 else 15)])) ∧ Fr [] w w' := by
  refine (rclean_any w l hl).mono ?_
  rintro e w' (⟨v, h2, rfl, -, F⟩ | ⟨h2, rfl, F⟩)
  · rw [h2]; exact ⟨⟨_, rfl⟩, F⟩
  · rw [h2]; exact ⟨⟨_, rfl⟩, F⟩
theorem rc25_any (w : World) (l : List UInt8) (hl : l.length ≤ 100000) : Calls Tryz.prog 23 #[.string ⟨l.toArray⟩] w fun e w' => e = .returned (.bool (cleanL foldL l)) ∧ Fr [] w w' := by
  have HC := Lib.hid (rclean_tot w l hl)
  clear hl
  cases h : cleanL foldL l
  all_goals
    rw [h] at HC
    clear h
    go_enter Tryz.func23, Tryz.ntmps23
    go_wp2_with (go_at_call 39; refine HC.out.mono ?_; rintro e w1 ⟨⟨v, rfl⟩, F1⟩)
    go_ret
    exact ⟨rfl, F1⟩
theorem within_dec (p top : List UInt8) : withinB p top = (decide (top.length < p.length) && (p.take top.length == top) && (p.getD top.length 0 == 47)) := by
  rw [Bool.eq_iff_iff, within_iff]
  simp only [Bool.and_eq_true, decide_eq_true_eq, beq_iff_eq]
  constructor
  · rintro ⟨h1, h2⟩
    exact ⟨⟨(List.getElem?_eq_some_iff.1 h2).1, h1⟩, by rw [List.getD_eq_getElem?_getD, h2]; rfl⟩
  · rintro ⟨⟨h1, h2⟩, h3⟩
    refine ⟨h2, ?_⟩
    obtain ⟨x, hx⟩ := some_get p top.length h1
    rw [List.getD_eq_getElem?_getD, hx] at h3
    rw [hx]
    exact congrArg some h3
end Go.Proofs.YthbkcjlpelihlaaGreatDoor
