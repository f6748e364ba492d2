/- Contracts: the reference's Clean, Texts. No condition but that lengths fit. -/
import Derived.Test.YtjeblccboeljnaaGreatDoorNRefP
import Derived.Test.YtjeblccboeljnaaGreatDoorNRunes
namespace Go.Proofs.YtjeblccboeljnaaGreatDoor
open Go.RowKit

/-- What the reference's Clean answers: as Clean does. -/
def RCleanR (l : List UInt8) (w : World) (e : Ending) (w' : World) : Prop :=
  (∃ v, cleanL foldL l = true ∧ e = .returned (.tuple #[v, .int .i64 0]) ∧ Sl w' v (stv (splitL l)) ∧ Fr [] w w') ∨
    (cleanL foldL l = false ∧ e = .returned (.tuple #[.slice none 0 0, .int .i64 15]) ∧ Fr [] w w')

def RRunes (l : List UInt8) (w : World) (e : Ending) (w' : World) : Prop := (∃ v, e = .returned (.tuple #[v, .bool (runesL l).isSome])) ∧ Fr [] w w'
theorem runes_ok (w : World) (l : List UInt8) (hl : l.length ≤ 100000) : Calls Tryz.prog 56 #[.string ⟨l.toArray⟩] w (RRunes l w) := by
  refine (runes_any w l hl).mono ?_
  rintro e w' (⟨rs, v, h1, rfl, -, F⟩ | ⟨h1, rfl, F⟩)
  · exact ⟨⟨v, by rw [h1]; rfl⟩, F⟩
  · exact ⟨⟨_, by rw [h1]; rfl⟩, F⟩
def RSplit (l : List UInt8) (w : World) (e : Ending) (w' : World) : Prop := (∃ ao cap, e = .returned (.slice ao (splitL l).length cap) ∧ Sl w' (.slice ao (splitL l).length cap) (stv (splitL l))) ∧ Fr [] w w'
theorem rsplit_ok (w : World) (l : List UInt8) (hl : l.length ≤ 100000) : Calls Tryz.prog 57 #[.string ⟨l.toArray⟩] w (RSplit l w) := by
  refine (rsplit_any w l hl).mono ?_
  rintro e w' ⟨⟨v, rfl, own⟩, F⟩
  obtain ⟨ao, cap, rfl, -⟩ := own_out own
  exact ⟨⟨ao, cap, rfl, Sl.of_own own⟩, F⟩

set_option maxRecDepth 100000 in
set_option maxHeartbeats 2000000 in
theorem rclean_any (w : World) (l : List UInt8) (hl : l.length ≤ 100000) :
    Calls Tryz.prog 45 #[.string ⟨l.toArray⟩] w (RCleanR l w) := by
  obtain ⟨ps, hps⟩ : ∃ ps, splitL l = ps := ⟨_, rfl⟩
  have HPS := Lib.hid hps
  have HPL := Lib.hid (show ∀ p ∈ ps, p.length ≤ 100000 from fun p hp => by rw [← hps] at hp; exact Nat.le_trans (splitL_part l p hp) hl)
  have hpsl : ps.length ≤ 100001 := by have := splitL_len l; rw [hps] at this; omega
  clear hps
  obtain ⟨r, hr⟩ : ∃ r, (runesL l).isSome = r := ⟨_, rfl⟩
  have HR := Lib.hid hr
  clear hr
  by_cases hbad : r = false ∨ 1024 < l.length ∨ 32 < ps.length
  · have HC := Lib.hid (show cleanL foldL l = false by
      unfold cleanL
      rw [HR.out, HPS.out]
      rcases hbad with h | h | h
      · rw [h]; rfl
      · rw [show decide (l.length ≤ 1024) = false from decide_eq_false (by omega)]; simp
      · rw [show decide (ps.length ≤ 32) = false from decide_eq_false (by omega)]; simp)
    rcases (show r = false ∨ (r = true ∧ 1024 < l.length) ∨ (r = true ∧ l.length ≤ 1024 ∧ 32 < ps.length) by cases r <;> simp_all <;> omega) with rfl | ⟨rfl, h⟩ | ⟨rfl, h, h2⟩
    · clear hbad
      go_enter Tryz.func45, Tryz.ntmps45
      go_wp2_with (first
        | (go_at_call 56; refine (runes_ok _ l hl).mono ?_; rintro e w1 ⟨⟨v1, rfl⟩, F1⟩; rw [HR.out])
        | (go_at_call 57; refine (rsplit_ok _ l hl).mono ?_; rintro e w2 ⟨⟨ao, cap, rfl, -⟩, F2⟩; rw [HPS.out]))
      go_ret2
      exact .inr ⟨HC.out, rfl, F1.trans0 F2⟩
    · have a1 : (1024 : Int) < (l.length : Int) := by omega
      clear hbad h
      go_enter Tryz.func45, Tryz.ntmps45
      go_wp2_with (first
        | (go_at_call 56; refine (runes_ok _ l hl).mono ?_; rintro e w1 ⟨⟨v1, rfl⟩, F1⟩; rw [HR.out])
        | (go_at_call 57; refine (rsplit_ok _ l hl).mono ?_; rintro e w2 ⟨⟨ao, cap, rfl, -⟩, F2⟩; rw [HPS.out]))
      go_ret2
      exact .inr ⟨HC.out, rfl, F1.trans0 F2⟩
    · have a1 : (l.length : Int) ≤ 1024 := by omega
      have a2 : (32 : Int) < (ps.length : Int) := by omega
      clear hbad h h2
      go_enter Tryz.func45, Tryz.ntmps45
      go_wp2_with (first
        | (go_at_call 56; refine (runes_ok _ l hl).mono ?_; rintro e w1 ⟨⟨v1, rfl⟩, F1⟩; rw [HR.out])
        | (go_at_call 57; refine (rsplit_ok _ l hl).mono ?_; rintro e w2 ⟨⟨ao, cap, rfl, -⟩, F2⟩; rw [HPS.out]))
      go_ret2
      exact .inr ⟨HC.out, rfl, F1.trans0 F2⟩
  · have hr1 : r = true := by cases r <;> simp_all
    subst hr1
    have a1 : (l.length : Int) ≤ 1024 := by omega
    have a2 : (ps.length : Int) ≤ 32 := by omega
    have HC2 := Lib.hid (show cleanL foldL l = ps.all (partL foldL) by
      unfold cleanL
      rw [HR.out, HPS.out, show decide (l.length ≤ 1024) = true from decide_eq_true (by omega), show decide (ps.length ≤ 32) = true from decide_eq_true (by omega)]
      rfl)
    clear hbad
    go_enter Tryz.func45, Tryz.ntmps45
    go_wp2_with (first
      | (go_at_call 56; refine (runes_ok _ l hl).mono ?_; rintro e w1 ⟨⟨v1, rfl⟩, F1⟩; rw [HR.out])
      | (go_at_call 57; refine (rsplit_ok _ l hl).mono ?_; rintro e w2 ⟨⟨ao, cap, rfl, hSl⟩, F2⟩; rw [HPS.out] at hSl ⊢))
    have HSl := Lib.hid hSl
    obtain ⟨ao2, cap2, he2, g2, m2, o2⟩ := hSl.out
    injection he2 with e1 e2 e3
    subst e1 e3
    simp only [stv_len] at o2
    clear e2 hSl g2 m2
    go_loopw [7] (fun i wr => ∃ k : Nat, k ≤ ps.length ∧ i = .int .i64 k ∧ (ps.take k).all (partL foldL) = true ∧ Fr [] w2 wr) (fun i _ => ps.length - (intOf i).toNat)
    case atStart => exact ⟨0, Nat.zero_le _, rfl, by simp, Fr.refl _ _⟩
    case round =>
      obtain ⟨k, hk, rfl, hall, F⟩ := hrel
      by_cases hlt : k < ps.length
      · obtain ⟨b, of, rfl, hb, hc⟩ := o2 k hlt
        obtain ⟨p, hp⟩ := some_get ps k hlt
        have c0 : wr.cell? ⟨b, of + k, none⟩ = some (.string ⟨p.toArray⟩) := (F.cell (p := ⟨b, of + k, none⟩) hb (by simp)).trans ((hc k hlt).trans (stv_get hp))
        have HX := Lib.hid hp
        have HT := Lib.hid (show (ps.take (k + 1)).all (partL foldL) = partL foldL p by rw [List.take_add_one, hp, List.all_append, hall]; simp)
        clear o2 hc hp hall
        have hlt' : (k : Int) < (ps.length : Int) := by omega
        cases hpl : partL foldL p with
        | true =>
          have HP := Lib.hid hpl
          clear hpl
          go_wp2_with (go_at_call 58; refine (rpart_any _ p (HPL.out p (List.mem_of_getElem? HX.out))).mono ?_; rw [HP.out]; rintro e w3 ⟨rfl, F3⟩)
          go_roundw
          case rel => exact ⟨k + 1, by omega, by go_num, by rw [HT.out, HP.out], F.trans0 F3⟩
          case measure => simp [intOf]; omega
        | false =>
          have HP := Lib.hid hpl
          have HC3 := Lib.hid (show cleanL foldL l = false by
            rw [HC2.out, List.all_eq_false]
            exact ⟨p, List.mem_of_getElem? HX.out, by rw [hpl]; simp⟩)
          clear hpl
          go_wp2_with (go_at_call 58; refine (rpart_any _ p (HPL.out p (List.mem_of_getElem? HX.out))).mono ?_; rw [HP.out]; rintro e w3 ⟨rfl, F3⟩)
          go_ret2
          exact .inr ⟨HC3.out, rfl, ((F1.trans0 F2).trans0 F).trans0 F3⟩
      · have hke : k = ps.length := by omega
        subst hke
        rw [List.take_length] at hall
        have HC3 := Lib.hid (HC2.out.trans hall)
        clear o2 hall
        go_wp2_with fail
        go_ret2
        refine .inl ⟨_, HC3.out, rfl, by rw [HPS.out]; exact HSl.out.fr0 F, (F1.trans0 F2).trans0 F⟩
end Go.Proofs.YtjeblccboeljnaaGreatDoor
