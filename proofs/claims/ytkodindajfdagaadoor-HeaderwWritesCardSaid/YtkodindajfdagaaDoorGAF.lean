/- Plain: the reference's runes, step by step. No condition. -/
import Derived.Test.YtkodindajfdagaaDoorGAE
import Derived.Lib.RuneBytes
namespace Go.Proofs.YtkodindajfdagaaDoor

theorem runesF_fuel (f : Nat) : ∀ (g : Nat) (l : List UInt8), l.length ≤ f → l.length ≤ g → runesF f l = runesF g l := by
  induction f with
  | zero =>
    intro g l h1 _
    have : l = [] := List.eq_nil_of_length_eq_zero (by omega)
    subst this
    cases g with
    | zero => rfl
    | succ g => simp [runesF]
  | succ f ih =>
    intro g l h1 h2
    by_cases h0 : l = []
    · subst h0
      cases g with
      | zero => simp [runesF]
      | succ g => simp [runesF]
    · cases g with
      | zero => exact absurd (List.eq_nil_of_length_eq_zero (by omega)) h0
      | succ g =>
        unfold runesF
        rw [if_neg h0, if_neg h0]
        have hlen : 1 ≤ l.length := by cases l with | nil => exact absurd rfl h0 | cons a t => simp
        cases hs : stepL l with
        | none => rfl
        | some r =>
          obtain ⟨v, k⟩ := r
          obtain ⟨e1, e2, e3, e4, e5⟩ := stepN_some _ _ _ _ _ v k hlen (bt_lt l 0) hs
          dsimp only
          rw [ih g (l.drop k) (by simp; omega) (by simp; omega)]

theorem runesL_nil : runesL [] = some [] := rfl
theorem runesL_none {l : List UInt8} (h0 : l ≠ []) (h : stepL l = none) : runesL l = none := by
  unfold runesL
  cases l with
  | nil => exact absurd rfl h0
  | cons a t => simp only [List.length_cons, runesF, if_neg h0, h]
theorem runesL_some {l : List UInt8} (h0 : l ≠ []) {v k : Nat} (h : stepL l = some (v, k)) : runesL l = (runesL (l.drop k)).map (v :: ·) := by
  have hlen : 1 ≤ l.length := by cases l with | nil => exact absurd rfl h0 | cons a t => simp
  obtain ⟨e1, e2, e3, e4, e5⟩ := stepN_some _ _ _ _ _ v k hlen (bt_lt l 0) h
  have h1 : runesL l = (runesF (l.length - 1) (l.drop k)).map (v :: ·) := by
    unfold runesL
    obtain ⟨m, hm⟩ : ∃ m, l.length = m + 1 := ⟨l.length - 1, by omega⟩
    rw [hm]
    show (if l = [] then some [] else match stepL l with | none => none | some (v, k) => (runesF m (l.drop k)).map (v :: ·)) = _
    rw [if_neg h0, h]
    simp
  rw [h1]
  unfold runesL
  rw [runesF_fuel (l.length - 1) (l.drop k).length (l.drop k) (by simp; omega) (Nat.le_refl _)]

/-- The value that has been read, after k more bytes. -/
def uAt (v0 : Nat) (l : List UInt8) : Nat → Nat
  | 0 => v0
  | k + 1 => uAt v0 l k * 64 + (bt l (k + 1) - 128)
def badV (least v : Nat) : Prop := v < least ∨ 1114111 < v ∨ (55296 ≤ v ∧ v < 57344)
def badB (b : Nat) : Prop := b < 128 ∨ 191 < b

theorem uAt_le (v0 : Nat) (l : List UInt8) (h : v0 ≤ 100) : uAt v0 l 0 ≤ 100 ∧ uAt v0 l 1 ≤ 10000 ∧ uAt v0 l 2 ≤ 1000000 ∧ uAt v0 l 3 ≤ 100000000 := by
  have h1 := bt_lt l 1
  have h2 := bt_lt l 2
  have h3 := bt_lt l 3
  show v0 ≤ 100 ∧ v0 * 64 + (bt l 1 - 128) ≤ 10000 ∧ (v0 * 64 + (bt l 1 - 128)) * 64 + (bt l 2 - 128) ≤ 1000000 ∧ ((v0 * 64 + (bt l 1 - 128)) * 64 + (bt l 2 - 128)) * 64 + (bt l 3 - 128) ≤ 100000000
  omega

/-- What a first byte of a class asks of the others. -/
structure Cls (l : List UInt8) (nn v0 least : Nat) : Prop where
  short : l.length < nn → stepL l = none
  bad : ∀ j, nn ≤ l.length → 1 ≤ j → j < nn → badB (bt l j) → stepL l = none
  val : nn ≤ l.length → (∀ j, 1 ≤ j → j < nn → ¬ badB (bt l j)) → badV least (uAt v0 l (nn - 1)) → stepL l = none
  ok : nn ≤ l.length → (∀ j, 1 ≤ j → j < nn → ¬ badB (bt l j)) → ¬ badV least (uAt v0 l (nn - 1)) → stepL l = some (uAt v0 l (nn - 1), nn)

theorem cls2 (l : List UInt8) (h1 : 194 ≤ bt l 0) (h2 : bt l 0 < 224) : Cls l 2 (bt l 0 - 192) 128 := by
  have e : stepL l = (if l.length < 2 then none else if bt l 1 < 128 ∨ 191 < bt l 1 then none else some ((bt l 0 - 192) * 64 + (bt l 1 - 128), 2)) := by
    unfold stepL stepN
    rw [if_neg (by omega), if_neg (by omega), if_pos (by omega)]
  refine ⟨fun h => ?_, fun j h hj1 hj2 hb => ?_, fun h hg hv => ?_, fun h hg hv => ?_⟩
  · rw [e, if_pos h]
  · have : j = 1 := by omega
    subst this
    unfold badB at hb
    rw [e, if_neg (by omega), if_pos hb]
  · have g1 := hg 1 (by omega) (by omega)
    unfold badB at g1
    change badV 128 ((bt l 0 - 192) * 64 + (bt l 1 - 128)) at hv
    unfold badV at hv
    omega
  · have g1 := hg 1 (by omega) (by omega)
    unfold badB at g1
    rw [e, if_neg (by omega), if_neg (by omega)]
    rfl

theorem cls3 (l : List UInt8) (h1 : 224 ≤ bt l 0) (h2 : bt l 0 < 240) : Cls l 3 (bt l 0 - 224) 2048 := by
  have e : stepL l = (if l.length < 3 then none else if bt l 1 < 128 ∨ 191 < bt l 1 then none else if bt l 2 < 128 ∨ 191 < bt l 2 then none
     else if ((bt l 0 - 224) * 64 + (bt l 1 - 128)) * 64 + (bt l 2 - 128) < 2048 ∨ (55296 ≤ ((bt l 0 - 224) * 64 + (bt l 1 - 128)) * 64 + (bt l 2 - 128) ∧ ((bt l 0 - 224) * 64 + (bt l 1 - 128)) * 64 + (bt l 2 - 128) < 57344) then none
     else some (((bt l 0 - 224) * 64 + (bt l 1 - 128)) * 64 + (bt l 2 - 128), 3)) := by
    unfold stepL stepN
    rw [if_neg (by omega), if_neg (by omega), if_neg (by omega), if_pos (by omega)]
  refine ⟨fun h => ?_, fun j h hj1 hj2 hb => ?_, fun h hg hv => ?_, fun h hg hv => ?_⟩
  · rw [e, if_pos h]
  · unfold badB at hb
    rcases (show j = 1 ∨ j = 2 by omega) with rfl | rfl
    · rw [e, if_neg (by omega), if_pos hb]
    · rw [e, if_neg (by omega)]
      by_cases hb1 : bt l 1 < 128 ∨ 191 < bt l 1
      · rw [if_pos hb1]
      · rw [if_neg hb1, if_pos hb]
  · have g1 := hg 1 (by omega) (by omega)
    have g2 := hg 2 (by omega) (by omega)
    unfold badB at g1 g2
    have b1 := bt_lt l 1
    have b2 := bt_lt l 2
    change badV 2048 (((bt l 0 - 224) * 64 + (bt l 1 - 128)) * 64 + (bt l 2 - 128)) at hv
    unfold badV at hv
    rw [e, if_neg (by omega), if_neg g1, if_neg g2, if_pos (by omega)]
  · have g1 := hg 1 (by omega) (by omega)
    have g2 := hg 2 (by omega) (by omega)
    unfold badB at g1 g2
    change ¬ badV 2048 (((bt l 0 - 224) * 64 + (bt l 1 - 128)) * 64 + (bt l 2 - 128)) at hv
    unfold badV at hv
    rw [e, if_neg (by omega), if_neg g1, if_neg g2, if_neg (by omega)]
    rfl

theorem cls4 (l : List UInt8) (h1 : 240 ≤ bt l 0) (h2 : bt l 0 ≤ 244) : Cls l 4 (bt l 0 - 240) 65536 := by
  have e : stepL l = (if l.length < 4 then none else if bt l 1 < 128 ∨ 191 < bt l 1 then none else if bt l 2 < 128 ∨ 191 < bt l 2 then none else if bt l 3 < 128 ∨ 191 < bt l 3 then none
     else if (((bt l 0 - 240) * 64 + (bt l 1 - 128)) * 64 + (bt l 2 - 128)) * 64 + (bt l 3 - 128) < 65536 ∨ 1114111 < (((bt l 0 - 240) * 64 + (bt l 1 - 128)) * 64 + (bt l 2 - 128)) * 64 + (bt l 3 - 128) then none
     else some ((((bt l 0 - 240) * 64 + (bt l 1 - 128)) * 64 + (bt l 2 - 128)) * 64 + (bt l 3 - 128), 4)) := by
    unfold stepL stepN
    rw [if_neg (by omega), if_neg (by omega), if_neg (by omega), if_neg (by omega)]
  refine ⟨fun h => ?_, fun j h hj1 hj2 hb => ?_, fun h hg hv => ?_, fun h hg hv => ?_⟩
  · rw [e, if_pos h]
  · unfold badB at hb
    by_cases hb1 : bt l 1 < 128 ∨ 191 < bt l 1
    · rw [e, if_neg (by omega), if_pos hb1]
    by_cases hb2 : bt l 2 < 128 ∨ 191 < bt l 2
    · rw [e, if_neg (by omega), if_neg hb1, if_pos hb2]
    rcases (show j = 1 ∨ j = 2 ∨ j = 3 by omega) with rfl | rfl | rfl
    · exact absurd hb hb1
    · exact absurd hb hb2
    · rw [e, if_neg (by omega), if_neg hb1, if_neg hb2, if_pos hb]
  · have g1 := hg 1 (by omega) (by omega)
    have g2 := hg 2 (by omega) (by omega)
    have g3 := hg 3 (by omega) (by omega)
    unfold badB at g1 g2 g3
    change badV 65536 ((((bt l 0 - 240) * 64 + (bt l 1 - 128)) * 64 + (bt l 2 - 128)) * 64 + (bt l 3 - 128)) at hv
    unfold badV at hv
    rw [e, if_neg (by omega), if_neg g1, if_neg g2, if_neg g3, if_pos (by omega)]
  · have g1 := hg 1 (by omega) (by omega)
    have g2 := hg 2 (by omega) (by omega)
    have g3 := hg 3 (by omega) (by omega)
    unfold badB at g1 g2 g3
    change ¬ badV 65536 ((((bt l 0 - 240) * 64 + (bt l 1 - 128)) * 64 + (bt l 2 - 128)) * 64 + (bt l 3 - 128)) at hv
    unfold badV at hv
    rw [e, if_neg (by omega), if_neg g1, if_neg g2, if_neg g3, if_neg (by omega)]
    rfl
end Go.Proofs.YtkodindajfdagaaDoor
/- Plain: runes of texts one behind the other. No condition. -/
namespace Go.Proofs.YtkodindajfdagaaDoor

set_option maxHeartbeats 8000000 in
theorem stepN_more (n n2 b0 b1 b2 b3 c1 c2 c3 v k : Nat) (hn : n ≤ n2) (h : stepN n b0 b1 b2 b3 = some (v, k)) (h1 : 1 < k → c1 = b1) (h2 : 2 < k → c2 = b2) (h3 : 3 < k → c3 = b3) : stepN n2 b0 c1 c2 c3 = some (v, k) := by
  unfold stepN at h ⊢
  split at h
  · rename_i q
    rw [if_pos q]
    exact h
  rename_i q0
  rw [if_neg q0]
  split at h
  · simp at h
  rename_i q1
  rw [if_neg q1]
  split at h
  · rename_i q2
    rw [if_pos q2]
    split at h
    · simp at h
    rename_i q3
    split at h
    · simp at h
    rename_i q4
    simp at h
    obtain ⟨hv, rfl⟩ := h
    obtain rfl := h1 (by omega)
    rw [if_neg (by omega), if_neg q4, hv]
  rename_i q2
  rw [if_neg q2]
  split at h
  · rename_i q3
    rw [if_pos q3]
    split at h
    · simp at h
    rename_i q4
    split at h
    · simp at h
    rename_i q5
    split at h
    · simp at h
    rename_i q6
    split at h
    · simp at h
    rename_i q7
    simp at h
    obtain ⟨hv, rfl⟩ := h
    obtain rfl := h1 (by omega)
    obtain rfl := h2 (by omega)
    rw [if_neg (by omega), if_neg q5, if_neg q6, if_neg q7, hv]
  rename_i q3
  rw [if_neg q3]
  split at h
  · simp at h
  rename_i q4
  split at h
  · simp at h
  rename_i q5
  split at h
  · simp at h
  rename_i q6
  split at h
  · simp at h
  rename_i q7
  split at h
  · simp at h
  rename_i q8
  simp at h
  obtain ⟨hv, rfl⟩ := h
  obtain rfl := h1 (by omega)
  obtain rfl := h2 (by omega)
  obtain rfl := h3 (by omega)
  rw [if_neg (by omega), if_neg q5, if_neg q6, if_neg q7, if_neg q8, hv]

theorem bt_app (a b : List UInt8) (j : Nat) (h : j < a.length) : bt (a ++ b) j = bt a j := by
  unfold bt
  rw [List.getD_eq_getElem?_getD, List.getD_eq_getElem?_getD, List.getElem?_append_left h]

theorem step_app {a : List UInt8} (b : List UInt8) {v k : Nat} (h0 : a ≠ []) (h : stepL a = some (v, k)) : stepL (a ++ b) = some (v, k) := by
  have hlen : 1 ≤ a.length := by cases a with | nil => exact absurd rfl h0 | cons x t => simp
  obtain ⟨e1, e2, e3, e4, e5⟩ := stepN_some _ _ _ _ _ v k hlen (bt_lt a 0) h
  unfold stepL at h ⊢
  rw [bt_app a b 0 (by omega)]
  refine stepN_more _ _ _ _ _ _ _ _ _ _ _ (by simp) h (fun hk => bt_app a b 1 (by omega)) (fun hk => bt_app a b 2 (by omega)) (fun hk => bt_app a b 3 (by omega))

theorem runes_app (f : Nat) : ∀ (a b : List UInt8) (x : List Nat), a.length ≤ f → runesL a = some x → runesL (a ++ b) = (runesL b).map (x ++ ·) := by
  induction f with
  | zero =>
    intro a b x hl h
    obtain rfl : a = [] := List.eq_nil_of_length_eq_zero (by omega)
    rw [runesL_nil] at h
    obtain rfl : [] = x := Option.some.inj h
    simp
  | succ f ih =>
    intro a b x hl h
    by_cases h0 : a = []
    · subst h0
      rw [runesL_nil] at h
      obtain rfl : [] = x := Option.some.inj h
      simp
    · have hlen : 1 ≤ a.length := by cases a with | nil => exact absurd rfl h0 | cons x t => simp
      cases hs : stepL a with
      | none => rw [runesL_none h0 hs] at h; cases h
      | some r =>
        obtain ⟨v, k⟩ := r
        obtain ⟨e1, e2, e3, e4, e5⟩ := stepN_some _ _ _ _ _ v k hlen (bt_lt a 0) hs
        rw [runesL_some h0 hs] at h
        obtain ⟨y, hy, rfl⟩ := Option.map_eq_some_iff.1 h
        rw [runesL_some (by simp [h0]) (step_app b h0 hs), List.drop_append_of_le_length e4, ih (a.drop k) b y (by simp; omega) hy]
        cases runesL b <;> simp

theorem runesL_app (a b : List UInt8) (x : List Nat) (h : runesL a = some x) : runesL (a ++ b) = (runesL b).map (x ++ ·) := runes_app _ a b x (Nat.le_refl _) h
theorem runes_ok_app (a b : List UInt8) (h : (runesL a).isSome = true) (k : (runesL b).isSome = true) : (runesL (a ++ b)).isSome = true := by
  obtain ⟨x, hx⟩ := Option.isSome_iff_exists.1 h
  rw [runesL_app a b x hx]
  simpa using k
end Go.Proofs.YtkodindajfdagaaDoor
/- Plain: units and texts. No condition. -/
namespace Go.Proofs.YtkodindajfdagaaDoor

/-- A rune's bytes. -/
def encN (v : Nat) : List Nat :=
  if v < 128 then [v] else if v < 2048 then [192 + v / 64, 128 + v % 64] else if v < 65536 then [224 + v / 4096, 128 + v / 64 % 64, 128 + v % 64]
  else [240 + v / 262144, 128 + v / 4096 % 64, 128 + v / 64 % 64, 128 + v % 64]
def encL (v : Nat) : List UInt8 := (encN v).map UInt8.ofNat
/-- A rune that a text may have. -/
def scal (v : Nat) : Prop := v < 55296 ∨ (57344 ≤ v ∧ v ≤ 1114111)
/-- A rune's units. -/
def unitsN (v : Nat) : List Nat := if v < 65536 then [v] else [55296 + (v - 65536) / 1024, 56320 + (v - 65536) % 1024]
def unitsR (rs : List Nat) : List Nat := rs.flatMap unitsN
/-- Units as a text; none: they are none. -/
def textL : List Nat → Option (List UInt8)
  | [] => some []
  | [a] => if a < 55296 ∨ 57344 ≤ a then some (encL a) else none
  | a :: b :: t => if a < 55296 ∨ 57344 ≤ a then (textL (b :: t)).map (encL a ++ ·)
    else if a < 56320 ∧ 56320 ≤ b ∧ b < 57344 then (textL t).map (encL (65536 + (a - 55296) * 1024 + (b - 56320)) ++ ·) else none

theorem textL_plain (a : Nat) (t : List Nat) (h : a < 55296 ∨ 57344 ≤ a) : textL (a :: t) = (textL t).map (encL a ++ ·) := by
  cases t with
  | nil => simp [textL, h]
  | cons b t => rw [textL, if_pos h]
theorem textL_pair (a b : Nat) (t : List Nat) (h1 : 55296 ≤ a) (h2 : a < 56320) (h3 : 56320 ≤ b) (h4 : b < 57344) : textL (a :: b :: t) = (textL t).map (encL (65536 + (a - 55296) * 1024 + (b - 56320)) ++ ·) := by
  rw [textL, if_neg (by omega), if_pos ⟨h2, h3, h4⟩]
theorem textL_late (a : Nat) (t : List Nat) (h1 : 56320 ≤ a) (h2 : a < 57344) : textL (a :: t) = none := by
  cases t with
  | nil => rw [textL, if_neg (by omega)]
  | cons b t => rw [textL, if_neg (by omega), if_neg (by omega)]
theorem textL_end (a : Nat) (h1 : 55296 ≤ a) (h2 : a < 57344) : textL [a] = none := by rw [textL, if_neg (by omega)]
theorem textL_odd (a b : Nat) (t : List Nat) (h1 : 55296 ≤ a) (h2 : a < 57344) (h3 : b < 56320 ∨ 57344 ≤ b) : textL (a :: b :: t) = none := by
  rw [textL, if_neg (by omega), if_neg (by omega)]

theorem encN_byte (v : Nat) (h : v ≤ 1114111) : ∀ x ∈ encN v, x < 256 := by
  intro x hx
  unfold encN at hx
  split at hx
  · simp at hx; omega
  split at hx
  · simp at hx; omega
  split at hx
  · simp at hx; omega
  · simp at hx; omega
theorem encL_len (v : Nat) : 1 ≤ (encL v).length ∧ (encL v).length ≤ 4 ∧ (v < 65536 → (encL v).length ≤ 3) := by
  unfold encL encN
  split
  · simp
  split
  · simp
  split
  · simp
  · simp; omega

set_option maxHeartbeats 2000000 in
theorem step_enc (v : Nat) (h : scal v) : stepL (encL v) = some (v, (encL v).length) := by
  unfold scal at h
  unfold encL encN
  by_cases h1 : v < 128
  · rw [if_pos h1]
    unfold stepL stepN bt
    simp
    omega
  rw [if_neg h1]
  by_cases h2 : v < 2048
  · rw [if_pos h2]
    unfold stepL stepN bt
    simp
    rw [Nat.mod_eq_of_lt (show 192 + v / 64 < 256 by omega), Nat.mod_eq_of_lt (show 128 + v % 64 < 256 by omega)]
    rw [if_neg (by omega), if_neg (by omega), if_pos (by omega), if_neg (by omega)]
    simp
    omega
  rw [if_neg h2]
  by_cases h3 : v < 65536
  · rw [if_pos h3]
    unfold stepL stepN bt
    simp
    rw [Nat.mod_eq_of_lt (show 224 + v / 4096 < 256 by omega), Nat.mod_eq_of_lt (show 128 + v / 64 % 64 < 256 by omega), Nat.mod_eq_of_lt (show 128 + v % 64 < 256 by omega)]
    rw [if_neg (by omega), if_neg (by omega), if_neg (by omega), if_pos (by omega), if_neg (by omega), if_neg (by omega), if_neg (by omega)]
    simp
    omega
  rw [if_neg h3]
  unfold stepL stepN bt
  simp
  rw [Nat.mod_eq_of_lt (show 240 + v / 262144 < 256 by omega), Nat.mod_eq_of_lt (show 128 + v / 4096 % 64 < 256 by omega), Nat.mod_eq_of_lt (show 128 + v / 64 % 64 < 256 by omega), Nat.mod_eq_of_lt (show 128 + v % 64 < 256 by omega)]
  rw [if_neg (by omega), if_neg (by omega), if_neg (by omega), if_neg (by omega), if_neg (by omega), if_neg (by omega), if_neg (by omega), if_neg (by omega)]
  simp
  omega

theorem u8_eq {a : Nat} {b : UInt8} (h : a = b.toNat) : UInt8.ofNat a = b := by rw [h]; simp

set_option maxHeartbeats 4000000 in
theorem enc_step {l : List UInt8} {v k : Nat} (h0 : l ≠ []) (h : stepL l = some (v, k)) : scal v ∧ encL v = l.take k ∧ k ≤ l.length := by
  obtain ⟨b0, t0, rfl⟩ : ∃ b t, l = b :: t := by cases l with | nil => exact absurd rfl h0 | cons b t => exact ⟨b, t, rfl⟩
  unfold stepL stepN at h
  have e0 : bt (b0 :: t0) 0 = b0.toNat := rfl
  rw [e0] at h
  split at h
  · simp at h
    obtain ⟨rfl, rfl⟩ := h
    refine ⟨.inl (by omega), ?_, by simp⟩
    unfold encL encN
    rw [if_pos (by assumption)]
    simp
  split at h
  · simp at h
  split at h
  · split at h
    · simp at h
    rename_i q1 q2 q3 q4
    obtain ⟨b1, t1, rfl⟩ : ∃ b t, t0 = b :: t := by cases t0 with | nil => simp at q4 | cons b t => exact ⟨b, t, rfl⟩
    have e1 : bt (b0 :: b1 :: t1) 1 = b1.toNat := rfl
    rw [e1] at h
    split at h
    · simp at h
    simp at h
    obtain ⟨rfl, rfl⟩ := h
    refine ⟨.inl (by omega), ?_, by simp⟩
    unfold encL encN
    rw [if_neg (by omega), if_pos (by omega)]
    simp only [List.map_cons, List.map_nil, List.take_succ_cons, List.take_zero, List.cons.injEq, and_true]
    exact ⟨u8_eq (by omega), u8_eq (by omega)⟩
  split at h
  · split at h
    · simp at h
    rename_i q1 q2 q3 q4 q5
    obtain ⟨b1, t1, rfl⟩ : ∃ b t, t0 = b :: t := by cases t0 with | nil => simp at q5 | cons b t => exact ⟨b, t, rfl⟩
    obtain ⟨b2, t2, rfl⟩ : ∃ b t, t1 = b :: t := by cases t1 with | nil => simp at q5 | cons b t => exact ⟨b, t, rfl⟩
    have e1 : bt (b0 :: b1 :: b2 :: t2) 1 = b1.toNat := rfl
    have e2 : bt (b0 :: b1 :: b2 :: t2) 2 = b2.toNat := rfl
    rw [e1, e2] at h
    split at h
    · simp at h
    split at h
    · simp at h
    split at h
    · simp at h
    simp at h
    obtain ⟨rfl, rfl⟩ := h
    refine ⟨by unfold scal; omega, ?_, by simp⟩
    unfold encL encN
    rw [if_neg (by omega), if_neg (by omega), if_pos (by omega)]
    simp only [List.map_cons, List.map_nil, List.take_succ_cons, List.take_zero, List.cons.injEq, and_true]
    exact ⟨u8_eq (by omega), u8_eq (by omega), u8_eq (by omega)⟩
  split at h
  · simp at h
  rename_i q1 q2 q3 q4 q5
  obtain ⟨b1, t1, rfl⟩ : ∃ b t, t0 = b :: t := by cases t0 with | nil => simp at q5 | cons b t => exact ⟨b, t, rfl⟩
  obtain ⟨b2, t2, rfl⟩ : ∃ b t, t1 = b :: t := by cases t1 with | nil => simp at q5 | cons b t => exact ⟨b, t, rfl⟩
  obtain ⟨b3, t3, rfl⟩ : ∃ b t, t2 = b :: t := by cases t2 with | nil => simp at q5 | cons b t => exact ⟨b, t, rfl⟩
  have e1 : bt (b0 :: b1 :: b2 :: b3 :: t3) 1 = b1.toNat := rfl
  have e2 : bt (b0 :: b1 :: b2 :: b3 :: t3) 2 = b2.toNat := rfl
  have e3 : bt (b0 :: b1 :: b2 :: b3 :: t3) 3 = b3.toNat := rfl
  rw [e1, e2, e3] at h
  split at h
  · simp at h
  split at h
  · simp at h
  split at h
  · simp at h
  split at h
  · simp at h
  simp at h
  obtain ⟨rfl, rfl⟩ := h
  refine ⟨by unfold scal; omega, ?_, by simp⟩
  unfold encL encN
  rw [if_neg (by omega), if_neg (by omega), if_neg (by omega)]
  simp only [List.map_cons, List.map_nil, List.take_succ_cons, List.take_zero, List.cons.injEq, and_true]
  exact ⟨u8_eq (by omega), u8_eq (by omega), u8_eq (by omega), u8_eq (by omega)⟩

theorem runes_enc (v : Nat) (h : scal v) : runesL (encL v) = some [v] := by
  have h1 := (encL_len v).1
  have hne : encL v ≠ [] := by intro e; rw [e] at h1; simp at h1
  rw [runesL_some hne (step_enc v h), List.drop_length, runesL_nil]
  rfl

theorem text_units (v : Nat) (h : scal v) (t : List Nat) : textL (unitsN v ++ t) = (textL t).map (encL v ++ ·) := by
  unfold scal at h
  unfold unitsN
  by_cases h1 : v < 65536
  · rw [if_pos h1]
    exact textL_plain v t (by omega)
  · rw [if_neg h1]
    have := textL_pair (55296 + (v - 65536) / 1024) (56320 + (v - 65536) % 1024) t (by omega) (by omega) (by omega) (by omega)
    rw [show 65536 + (55296 + (v - 65536) / 1024 - 55296) * 1024 + (56320 + (v - 65536) % 1024 - 56320) = v from by omega] at this
    exact this

/-- A text's units are the text. -/
theorem text_of_runes (n : Nat) : ∀ (l : List UInt8) (rs : List Nat), l.length ≤ n → runesL l = some rs → textL (unitsR rs) = some l := by
  induction n with
  | zero =>
    intro l rs hl h
    obtain rfl : l = [] := List.eq_nil_of_length_eq_zero (by omega)
    rw [runesL_nil] at h
    obtain rfl : [] = rs := Option.some.inj h
    rfl
  | succ n ih =>
    intro l rs hl h
    by_cases h0 : l = []
    · subst h0
      rw [runesL_nil] at h
      obtain rfl : [] = rs := Option.some.inj h
      rfl
    cases hs : stepL l with
    | none => rw [runesL_none h0 hs] at h; cases h
    | some r =>
      obtain ⟨v, k⟩ := r
      have hlen : 1 ≤ l.length := by cases l with | nil => exact absurd rfl h0 | cons x t => simp
      obtain ⟨e1, e2, e3, e4, e5⟩ := stepN_some _ _ _ _ _ v k hlen (bt_lt l 0) hs
      obtain ⟨hv, he, -⟩ := enc_step h0 hs
      rw [runesL_some h0 hs] at h
      obtain ⟨y, hy, rfl⟩ := Option.map_eq_some_iff.1 h
      have hi := ih (l.drop k) y (by simp; omega) hy
      show textL (unitsN v ++ unitsR y) = some l
      rw [text_units v hv, hi, he]
      simp

/-- The units' text has these units. -/
theorem runes_of_text (n : Nat) : ∀ (u : List Nat) (c : List UInt8), u.length ≤ n → (∀ x ∈ u, x < 65536) → textL u = some c → ∃ rs, runesL c = some rs ∧ unitsR rs = u := by
  induction n with
  | zero =>
    intro u c hl _ h
    obtain rfl : u = [] := List.eq_nil_of_length_eq_zero (by omega)
    obtain rfl : [] = c := by simpa [textL] using h
    exact ⟨[], rfl, rfl⟩
  | succ n ih =>
    intro u c hl hb h
    cases u with
    | nil =>
      obtain rfl : [] = c := by simpa [textL] using h
      exact ⟨[], rfl, rfl⟩
    | cons a t =>
      have ha := hb a (by simp)
      by_cases h1 : a < 55296 ∨ 57344 ≤ a
      · rw [textL_plain a t h1] at h
        obtain ⟨d, hd, rfl⟩ := Option.map_eq_some_iff.1 h
        obtain ⟨rs, hr, hu⟩ := ih t d (by simp at hl; omega) (fun x hx => hb x (by simp [hx])) hd
        refine ⟨a :: rs, ?_, ?_⟩
        · rw [runesL_app _ _ _ (runes_enc a (by unfold scal; omega)), hr]
          rfl
        · show unitsN a ++ unitsR rs = a :: t
          unfold unitsN
          rw [if_pos ha, hu]
          rfl
      by_cases h2 : 56320 ≤ a
      · rw [textL_late a t h2 (by omega)] at h; cases h
      cases t with
      | nil => rw [textL_end a (by omega) (by omega)] at h; cases h
      | cons b t =>
        have hbb := hb b (by simp)
        by_cases h3 : b < 56320 ∨ 57344 ≤ b
        · rw [textL_odd a b t (by omega) (by omega) h3] at h; cases h
        rw [textL_pair a b t (by omega) (by omega) (by omega) (by omega)] at h
        obtain ⟨d, hd, rfl⟩ := Option.map_eq_some_iff.1 h
        obtain ⟨rs, hr, hu⟩ := ih t d (by simp at hl; omega) (fun x hx => hb x (by simp [hx])) hd
        refine ⟨(65536 + (a - 55296) * 1024 + (b - 56320)) :: rs, ?_, ?_⟩
        · rw [runesL_app _ _ _ (runes_enc _ (by unfold scal; omega)), hr]
          rfl
        · show unitsN _ ++ unitsR rs = a :: b :: t
          unfold unitsN
          rw [if_neg (by omega), hu, show 55296 + (65536 + (a - 55296) * 1024 + (b - 56320) - 65536) / 1024 = a from by omega, show 56320 + (65536 + (a - 55296) * 1024 + (b - 56320) - 65536) % 1024 = b from by omega]
          rfl

theorem text_len (n : Nat) : ∀ (u : List Nat) (c : List UInt8), u.length ≤ n → (∀ x ∈ u, x < 65536) → textL u = some c → c.length ≤ 3 * u.length := by
  induction n with
  | zero =>
    intro u c hl _ h
    obtain rfl : u = [] := List.eq_nil_of_length_eq_zero (by omega)
    obtain rfl : [] = c := by simpa [textL] using h
    simp
  | succ n ih =>
    intro u c hl hb h
    cases u with
    | nil =>
      obtain rfl : [] = c := by simpa [textL] using h
      simp
    | cons a t =>
      have ha := hb a (by simp)
      by_cases h1 : a < 55296 ∨ 57344 ≤ a
      · rw [textL_plain a t h1] at h
        obtain ⟨d, hd, rfl⟩ := Option.map_eq_some_iff.1 h
        have hi := ih t d (by simp at hl; omega) (fun x hx => hb x (by simp [hx])) hd
        have := (encL_len a).2.2 ha
        simp
        omega
      by_cases h2 : 56320 ≤ a
      · rw [textL_late a t h2 (by omega)] at h; cases h
      cases t with
      | nil => rw [textL_end a (by omega) (by omega)] at h; cases h
      | cons b t =>
        by_cases h3 : b < 56320 ∨ 57344 ≤ b
        · rw [textL_odd a b t (by omega) (by omega) h3] at h; cases h
        rw [textL_pair a b t (by omega) (by omega) (by omega) (by omega)] at h
        obtain ⟨d, hd, rfl⟩ := Option.map_eq_some_iff.1 h
        have hi := ih t d (by simp at hl; omega) (fun x hx => hb x (by simp [hx])) hd
        have := (encL_len (65536 + (a - 55296) * 1024 + (b - 56320))).2.1
        simp
        omega
end Go.Proofs.YtkodindajfdagaaDoor
