/- Plain: the reference's runes, step by step. No condition. -/
import Derived.Test.YthbkcjlpelihlaaGreatDoorGAG
namespace Go.Proofs.YthbkcjlpelihlaaGreatDoor

theorem runesF_fuel (f : Nat) : ∀ (g : Nat) (l : List UInt8), l.length ≤ f → l.length ≤ g → runesF f l = runesF g l := by
  induction f with
  | zero =>
    intro g l h1 _
    have : l = [] := List.eq_nil_of_length_eq_zero (by omega)
    subst this
    cases g with
    | zero => rfl
    | succ g => simp [runesF]
  | succ f ih =>
    intro g l h1 h2
    by_cases h0 : l = []
    · subst h0
      cases g with
      | zero => simp [runesF]
      | succ g => simp [runesF]
    · cases g with
      | zero => exact absurd (List.eq_nil_of_length_eq_zero (by omega)) h0
      | succ g =>
        unfold runesF
        rw [if_neg h0, if_neg h0]
        have hlen : 1 ≤ l.length := by cases l with | nil => exact absurd rfl h0 | cons a t => simp
        cases hs : stepL l with
        | none => rfl
        | some r =>
          obtain ⟨v, k⟩ := r
          obtain ⟨e1, e2, e3, e4, e5⟩ := stepN_some _ _ _ _ _ v k hlen (bt_lt l 0) hs
          dsimp only
          rw [ih g (l.drop k) (by simp; omega) (by simp; omega)]

theorem runesL_nil : runesL [] = some [] := rfl
theorem runesL_none {l : List UInt8} (h0 : l ≠ []) (h : stepL l = none) : runesL l = none := by
  unfold runesL
  cases l with
  | nil => exact absurd rfl h0
  | cons a t => simp only [List.length_cons, runesF, if_neg h0, h]
theorem runesL_some {l : List UInt8} (h0 : l ≠ []) {v k : Nat} (h : stepL l = some (v, k)) : runesL l = (runesL (l.drop k)).map (v :: ·) := by
  have hlen : 1 ≤ l.length := by cases l with | nil => exact absurd rfl h0 | cons a t => simp
  obtain ⟨e1, e2, e3, e4, e5⟩ := stepN_some _ _ _ _ _ v k hlen (bt_lt l 0) h
  have h1 : runesL l = (runesF (l.length - 1) (l.drop k)).map (v :: ·) := by
    unfold runesL
    obtain ⟨m, hm⟩ : ∃ m, l.length = m + 1 := ⟨l.length - 1, by omega⟩
    rw [hm]
    show (if l = [] then some [] else match stepL l with | none => none | some (v, k) => (runesF m (l.drop k)).map (v :: ·)) = _
    rw [if_neg h0, h]
    simp
  rw [h1]
  unfold runesL
  rw [runesF_fuel (l.length - 1) (l.drop k).length (l.drop k) (by simp; omega) (Nat.le_refl _)]

/-- The value that has been read, after k more bytes. -/
def uAt (v0 : Nat) (l : List UInt8) : Nat → Nat
  | 0 => v0
  | k + 1 => uAt v0 l k * 64 + (bt l (k + 1) - 128)
def badV (least v : Nat) : Prop := v < least ∨ 1114111 < v ∨ (55296 ≤ v ∧ v < 57344)
def badB (b : Nat) : Prop := b < 128 ∨ 191 < b

theorem uAt_le (v0 : Nat) (l : List UInt8) (h : v0 ≤ 100) : uAt v0 l 0 ≤ 100 ∧ uAt v0 l 1 ≤ 10000 ∧ uAt v0 l 2 ≤ 1000000 ∧ uAt v0 l 3 ≤ 100000000 := by
  have h1 := bt_lt l 1
  have h2 := bt_lt l 2
  have h3 := bt_lt l 3
  show v0 ≤ 100 ∧ v0 * 64 + (bt l 1 - 128) ≤ 10000 ∧ (v0 * 64 + (bt l 1 - 128)) * 64 + (bt l 2 - 128) ≤ 1000000 ∧ ((v0 * 64 + (bt l 1 - 128)) * 64 + (bt l 2 - 128)) * 64 + (bt l 3 - 128) ≤ 100000000
  omega

/-- What a first byte of a class asks of the others. -/
structure Cls (l : List UInt8) (nn v0 least : Nat) : Prop where
  short : l.length < nn → stepL l = none
  bad : ∀ j, nn ≤ l.length → 1 ≤ j → j < nn → badB (bt l j) → stepL l = none
  val : nn ≤ l.length → (∀ j, 1 ≤ j → j < nn → ¬ badB (bt l j)) → badV least (uAt v0 l (nn - 1)) → stepL l = none
  ok : nn ≤ l.length → (∀ j, 1 ≤ j → j < nn → ¬ badB (bt l j)) → ¬ badV least (uAt v0 l (nn - 1)) → stepL l = some (uAt v0 l (nn - 1), nn)

theorem cls2 (l : List UInt8) (h1 : 194 ≤ bt l 0) (h2 : bt l 0 < 224) : Cls l 2 (bt l 0 - 192) 128 := by
  have e : stepL l = (if l.length < 2 then none else if bt l 1 < 128 ∨ 191 < bt l 1 then none else some ((bt l 0 - 192) * 64 + (bt l 1 - 128), 2)) := by
    unfold stepL stepN
    rw [if_neg (by omega), if_neg (by omega), if_pos (by omega)]
  refine ⟨fun h => ?_, fun j h hj1 hj2 hb => ?_, fun h hg hv => ?_, fun h hg hv => ?_⟩
  · rw [e, if_pos h]
  · have : j = 1 := by omega
    subst this
    unfold badB at hb
    rw [e, if_neg (by omega), if_pos hb]
  · have g1 := hg 1 (by omega) (by omega)
    unfold badB at g1
    change badV 128 ((bt l 0 - 192) * 64 + (bt l 1 - 128)) at hv
    unfold badV at hv
    omega
  · have g1 := hg 1 (by omega) (by omega)
    unfold badB at g1
    rw [e, if_neg (by omega), if_neg (by omega)]
    rfl

theorem cls3 (l : List UInt8) (h1 : 224 ≤ bt l 0) (h2 : bt l 0 < 240) : Cls l 3 (bt l 0 - 224) 2048 := by
  have e : stepL l = (if l.length < 3 then none else if bt l 1 < 128 ∨ 191 < bt l 1 then none else if bt l 2 < 128 ∨ 191 < bt l 2 then none
     else if ((bt l 0 - 224) * 64 + (bt l 1 - 128)) * 64 + (bt l 2 - 128) < 2048 ∨ (55296 ≤ ((bt l 0 - 224) * 64 + (bt l 1 - 128)) * 64 + (bt l 2 - 128) ∧ ((bt l 0 - 224) * 64 + (bt l 1 - 128)) * 64 + (bt l 2 - 128) < 57344) then none
     else some (((bt l 0 - 224) * 64 + (bt l 1 - 128)) * 64 + (bt l 2 - 128), 3)) := by
    unfold stepL stepN
    rw [if_neg (by omega), if_neg (by omega), if_neg (by omega), if_pos (by omega)]
  refine ⟨fun h => ?_, fun j h hj1 hj2 hb => ?_, fun h hg hv => ?_, fun h hg hv => ?_⟩
  · rw [e, if_pos h]
  · unfold badB at hb
    rcases (show j = 1 ∨ j = 2 by omega) with rfl | rfl
    · rw [e, if_neg (by omega), if_pos hb]
    · rw [e, if_neg (by omega)]
      by_cases hb1 : bt l 1 < 128 ∨ 191 < bt l 1
      · rw [if_pos hb1]
      · rw [if_neg hb1, if_pos hb]
  · have g1 := hg 1 (by omega) (by omega)
    have g2 := hg 2 (by omega) (by omega)
    unfold badB at g1 g2
    have b1 := bt_lt l 1
    have b2 := bt_lt l 2
    change badV 2048 (((bt l 0 - 224) * 64 + (bt l 1 - 128)) * 64 + (bt l 2 - 128)) at hv
    unfold badV at hv
    rw [e, if_neg (by omega), if_neg g1, if_neg g2, if_pos (by omega)]
  · have g1 := hg 1 (by omega) (by omega)
    have g2 := hg 2 (by omega) (by omega)
    unfold badB at g1 g2
    change ¬ badV 2048 (((bt l 0 - 224) * 64 + (bt l 1 - 128)) * 64 + (bt l 2 - 128)) at hv
    unfold badV at hv
    rw [e, if_neg (by omega), if_neg g1, if_neg g2, if_neg (by omega)]
    rfl

theorem cls4 (l : List UInt8) (h1 : 240 ≤ bt l 0) (h2 : bt l 0 ≤ 244) : Cls l 4 (bt l 0 - 240) 65536 := by
  have e : stepL l = (if l.length < 4 then none else if bt l 1 < 128 ∨ 191 < bt l 1 then none else if bt l 2 < 128 ∨ 191 < bt l 2 then none else if bt l 3 < 128 ∨ 191 < bt l 3 then none
     else if (((bt l 0 - 240) * 64 + (bt l 1 - 128)) * 64 + (bt l 2 - 128)) * 64 + (bt l 3 - 128) < 65536 ∨ 1114111 < (((bt l 0 - 240) * 64 + (bt l 1 - 128)) * 64 + (bt l 2 - 128)) * 64 + (bt l 3 - 128) then none
     else some ((((bt l 0 - 240) * 64 + (bt l 1 - 128)) * 64 + (bt l 2 - 128)) * 64 + (bt l 3 - 128), 4)) := by
    unfold stepL stepN
    rw [if_neg (by omega), if_neg (by omega), if_neg (by omega), if_neg (by omega)]
  refine ⟨fun h => ?_, fun j h hj1 hj2 hb => ?_, fun h hg hv => ?_, fun h hg hv => ?_⟩
  · rw [e, if_pos h]
  · unfold badB at hb
    by_cases hb1 : bt l 1 < 128 ∨ 191 < bt l 1
    · rw [e, if_neg (by omega), if_pos hb1]
    by_cases hb2 : bt l 2 < 128 ∨ 191 < bt l 2
    · rw [e, if_neg (by omega), if_neg hb1, if_pos hb2]
    rcases (show j = 1 ∨ j = 2 ∨ j = 3 by omega) with rfl | rfl | rfl
    · exact absurd hb hb1
    · exact absurd hb hb2
    · rw [e, if_neg (by omega), if_neg hb1, if_neg hb2, if_pos hb]
  · have g1 := hg 1 (by omega) (by omega)
    have g2 := hg 2 (by omega) (by omega)
    have g3 := hg 3 (by omega) (by omega)
    unfold badB at g1 g2 g3
    change badV 65536 ((((bt l 0 - 240) * 64 + (bt l 1 - 128)) * 64 + (bt l 2 - 128)) * 64 + (bt l 3 - 128)) at hv
    unfold badV at hv
    rw [e, if_neg (by omega), if_neg g1, if_neg g2, if_neg g3, if_pos (by omega)]
  · have g1 := hg 1 (by omega) (by omega)
    have g2 := hg 2 (by omega) (by omega)
    have g3 := hg 3 (by omega) (by omega)
    unfold badB at g1 g2 g3
    change ¬ badV 65536 ((((bt l 0 - 240) * 64 + (bt l 1 - 128)) * 64 + (bt l 2 - 128)) * 64 + (bt l 3 - 128)) at hv
    unfold badV at hv
    rw [e, if_neg (by omega), if_neg g1, if_neg g2, if_neg g3, if_neg (by omega)]
    rfl
end Go.Proofs.YthbkcjlpelihlaaGreatDoor
