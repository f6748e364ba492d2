/- Plain: units and texts. No condition. -/
import Derived.Test.YtagoemebklihjaaDoorNRuneC
import Derived.Lib.RuneBytes
namespace Go.Proofs.YtagoemebklihjaaDoor

/-- A rune's bytes. -/
def encN (v : Nat) : List Nat :=
  if v < 128 then [v] else if v < 2048 then [192 + v / 64, 128 + v % 64] else if v < 65536 then [224 + v / 4096, 128 + v / 64 % 64, 128 + v % 64]
  else [240 + v / 262144, 128 + v / 4096 % 64, 128 + v / 64 % 64, 128 + v % 64]
def encL (v : Nat) : List UInt8 := (encN v).map UInt8.ofNat
/-- A rune that a text may have. -/
def scal (v : Nat) : Prop := v < 55296 ∨ (57344 ≤ v ∧ v ≤ 1114111)
/-- A rune's units. -/
def unitsN (v : Nat) : List Nat := if v < 65536 then [v] else [55296 + (v - 65536) / 1024, 56320 + (v - 65536) % 1024]
def unitsR (rs : List Nat) : List Nat := rs.flatMap unitsN
/-- Units as a text; none: they are none. -/
def textL : List Nat → Option (List UInt8)
  | [] => some []
  | [a] => if a < 55296 ∨ 57344 ≤ a then some (encL a) else none
  | a :: b :: t => if a < 55296 ∨ 57344 ≤ a then (textL (b :: t)).map (encL a ++ ·)
    else if a < 56320 ∧ 56320 ≤ b ∧ b < 57344 then (textL t).map (encL (65536 + (a - 55296) * 1024 + (b - 56320)) ++ ·) else none

theorem textL_plain (a : Nat) (t : List Nat) (h : a < 55296 ∨ 57344 ≤ a) : textL (a :: t) = (textL t).map (encL a ++ ·) := by
  cases t with
  | nil => simp [textL, h]
  | cons b t => rw [textL, if_pos h]
theorem textL_pair (a b : Nat) (t : List Nat) (h1 : 55296 ≤ a) (h2 : a < 56320) (h3 : 56320 ≤ b) (h4 : b < 57344) : textL (a :: b :: t) = (textL t).map (encL (65536 + (a - 55296) * 1024 + (b - 56320)) ++ ·) := by
  rw [textL, if_neg (by omega), if_pos ⟨h2, h3, h4⟩]
theorem textL_late (a : Nat) (t : List Nat) (h1 : 56320 ≤ a) (h2 : a < 57344) : textL (a :: t) = none := by
  cases t with
  | nil => rw [textL, if_neg (by omega)]
  | cons b t => rw [textL, if_neg (by omega), if_neg (by omega)]
theorem textL_end (a : Nat) (h1 : 55296 ≤ a) (h2 : a < 57344) : textL [a] = none := by rw [textL, if_neg (by omega)]
theorem textL_odd (a b : Nat) (t : List Nat) (h1 : 55296 ≤ a) (h2 : a < 57344) (h3 : b < 56320 ∨ 57344 ≤ b) : textL (a :: b :: t) = none := by
  rw [textL, if_neg (by omega), if_neg (by omega)]

theorem encN_byte (v : Nat) (h : v ≤ 1114111) : ∀ x ∈ encN v, x < 256 := by
  intro x hx
  unfold encN at hx
  split at hx
  · simp at hx; omega
  split at hx
  · simp at hx; omega
  split at hx
  · simp at hx; omega
  · simp at hx; omega
theorem encL_len (v : Nat) : 1 ≤ (encL v).length ∧ (encL v).length ≤ 4 ∧ (v < 65536 → (encL v).length ≤ 3) := by
  unfold encL encN
  split
  · simp
  split
  · simp
  split
  · simp
  · simp; omega

set_option maxHeartbeats 2000000 in
theorem step_enc (v : Nat) (h : scal v) : stepL (encL v) = some (v, (encL v).length) := by
  unfold scal at h
  unfold encL encN
  by_cases h1 : v < 128
  · rw [if_pos h1]
    unfold stepL stepN bt
    simp
    omega
  rw [if_neg h1]
  by_cases h2 : v < 2048
  · rw [if_pos h2]
    unfold stepL stepN bt
    simp
    rw [Nat.mod_eq_of_lt (show 192 + v / 64 < 256 by omega), Nat.mod_eq_of_lt (show 128 + v % 64 < 256 by omega)]
    rw [if_neg (by omega), if_neg (by omega), if_pos (by omega), if_neg (by omega)]
    simp
    omega
  rw [if_neg h2]
  by_cases h3 : v < 65536
  · rw [if_pos h3]
    unfold stepL stepN bt
    simp
    rw [Nat.mod_eq_of_lt (show 224 + v / 4096 < 256 by omega), Nat.mod_eq_of_lt (show 128 + v / 64 % 64 < 256 by omega), Nat.mod_eq_of_lt (show 128 + v % 64 < 256 by omega)]
    rw [if_neg (by omega), if_neg (by omega), if_neg (by omega), if_pos (by omega), if_neg (by omega), if_neg (by omega), if_neg (by omega)]
    simp
    omega
  rw [if_neg h3]
  unfold stepL stepN bt
  simp
  rw [Nat.mod_eq_of_lt (show 240 + v / 262144 < 256 by omega), Nat.mod_eq_of_lt (show 128 + v / 4096 % 64 < 256 by omega), Nat.mod_eq_of_lt (show 128 + v / 64 % 64 < 256 by omega), Nat.mod_eq_of_lt (show 128 + v % 64 < 256 by omega)]
  rw [if_neg (by omega), if_neg (by omega), if_neg (by omega), if_neg (by omega), if_neg (by omega), if_neg (by omega), if_neg (by omega), if_neg (by omega)]
  simp
  omega

theorem u8_eq {a : Nat} {b : UInt8} (h : a = b.toNat) : UInt8.ofNat a = b := by rw [h]; simp

set_option maxHeartbeats 4000000 in
theorem enc_step {l : List UInt8} {v k : Nat} (h0 : l ≠ []) (h : stepL l = some (v, k)) : scal v ∧ encL v = l.take k ∧ k ≤ l.length := by
  obtain ⟨b0, t0, rfl⟩ : ∃ b t, l = b :: t := by cases l with | nil => exact absurd rfl h0 | cons b t => exact ⟨b, t, rfl⟩
  unfold stepL stepN at h
  have e0 : bt (b0 :: t0) 0 = b0.toNat := rfl
  rw [e0] at h
  split at h
  · simp at h
    obtain ⟨rfl, rfl⟩ := h
    refine ⟨.inl (by omega), ?_, by simp⟩
    unfold encL encN
    rw [if_pos (by assumption)]
    simp
  split at h
  · simp at h
  split at h
  · split at h
    · simp at h
    rename_i q1 q2 q3 q4
    obtain ⟨b1, t1, rfl⟩ : ∃ b t, t0 = b :: t := by cases t0 with | nil => simp at q4 | cons b t => exact ⟨b, t, rfl⟩
    have e1 : bt (b0 :: b1 :: t1) 1 = b1.toNat := rfl
    rw [e1] at h
    split at h
    · simp at h
    simp at h
    obtain ⟨rfl, rfl⟩ := h
    refine ⟨.inl (by omega), ?_, by simp⟩
    unfold encL encN
    rw [if_neg (by omega), if_pos (by omega)]
    simp only [List.map_cons, List.map_nil, List.take_succ_cons, List.take_zero, List.cons.injEq, and_true]
    exact ⟨u8_eq (by omega), u8_eq (by omega)⟩
  split at h
  · split at h
    · simp at h
    rename_i q1 q2 q3 q4 q5
    obtain ⟨b1, t1, rfl⟩ : ∃ b t, t0 = b :: t := by cases t0 with | nil => simp at q5 | cons b t => exact ⟨b, t, rfl⟩
    obtain ⟨b2, t2, rfl⟩ : ∃ b t, t1 = b :: t := by cases t1 with | nil => simp at q5 | cons b t => exact ⟨b, t, rfl⟩
    have e1 : bt (b0 :: b1 :: b2 :: t2) 1 = b1.toNat := rfl
    have e2 : bt (b0 :: b1 :: b2 :: t2) 2 = b2.toNat := rfl
    rw [e1, e2] at h
    split at h
    · simp at h
    split at h
    · simp at h
    split at h
    · simp at h
    simp at h
    obtain ⟨rfl, rfl⟩ := h
    refine ⟨by unfold scal; omega, ?_, by simp⟩
    unfold encL encN
    rw [if_neg (by omega), if_neg (by omega), if_pos (by omega)]
    simp only [List.map_cons, List.map_nil, List.take_succ_cons, List.take_zero, List.cons.injEq, and_true]
    exact ⟨u8_eq (by omega), u8_eq (by omega), u8_eq (by omega)⟩
  split at h
  · simp at h
  rename_i q1 q2 q3 q4 q5
  obtain ⟨b1, t1, rfl⟩ : ∃ b t, t0 = b :: t := by cases t0 with | nil => simp at q5 | cons b t => exact ⟨b, t, rfl⟩
  obtain ⟨b2, t2, rfl⟩ : ∃ b t, t1 = b :: t := by cases t1 with | nil => simp at q5 | cons b t => exact ⟨b, t, rfl⟩
  obtain ⟨b3, t3, rfl⟩ : ∃ b t, t2 = b :: t := by cases t2 with | nil => simp at q5 | cons b t => exact ⟨b, t, rfl⟩
  have e1 : bt (b0 :: b1 :: b2 :: b3 :: t3) 1 = b1.toNat := rfl
  have e2 : bt (b0 :: b1 :: b2 :: b3 :: t3) 2 = b2.toNat := rfl
  have e3 : bt (b0 :: b1 :: b2 :: b3 :: t3) 3 = b3.toNat := rfl
  rw [e1, e2, e3] at h
  split at h
  · simp at h
  split at h
  · simp at h
  split at h
  · simp at h
  split at h
  · simp at h
  simp at h
  obtain ⟨rfl, rfl⟩ := h
  refine ⟨by unfold scal; omega, ?_, by simp⟩
  unfold encL encN
  rw [if_neg (by omega), if_neg (by omega), if_neg (by omega)]
  simp only [List.map_cons, List.map_nil, List.take_succ_cons, List.take_zero, List.cons.injEq, and_true]
  exact ⟨u8_eq (by omega), u8_eq (by omega), u8_eq (by omega), u8_eq (by omega)⟩

theorem runes_enc (v : Nat) (h : scal v) : runesL (encL v) = some [v] := by
  have h1 := (encL_len v).1
  have hne : encL v ≠ [] := by intro e; rw [e] at h1; simp at h1
  rw [runesL_some hne (step_enc v h), List.drop_length, runesL_nil]
  rfl

theorem text_units (v : Nat) (h : scal v) (t : List Nat) : textL (unitsN v ++ t) = (textL t).map (encL v ++ ·) := by
  unfold scal at h
  unfold unitsN
  by_cases h1 : v < 65536
  · rw [if_pos h1]
    exact textL_plain v t (by omega)
  · rw [if_neg h1]
    have := textL_pair (55296 + (v - 65536) / 1024) (56320 + (v - 65536) % 1024) t (by omega) (by omega) (by omega) (by omega)
    rw [show 65536 + (55296 + (v - 65536) / 1024 - 55296) * 1024 + (56320 + (v - 65536) % 1024 - 56320) = v from by omega] at this
    exact this

/-- A text's units are the text. -/
theorem text_of_runes (n : Nat) : ∀ (l : List UInt8) (rs : List Nat), l.length ≤ n → runesL l = some rs → textL (unitsR rs) = some l := by
  induction n with
  | zero =>
    intro l rs hl h
    obtain rfl : l = [] := List.eq_nil_of_length_eq_zero (by omega)
    rw [runesL_nil] at h
    obtain rfl : [] = rs := Option.some.inj h
    rfl
  | succ n ih =>
    intro l rs hl h
    by_cases h0 : l = []
    · subst h0
      rw [runesL_nil] at h
      obtain rfl : [] = rs := Option.some.inj h
      rfl
    cases hs : stepL l with
    | none => rw [runesL_none h0 hs] at h; cases h
    | some r =>
      obtain ⟨v, k⟩ := r
      have hlen : 1 ≤ l.length := by cases l with | nil => exact absurd rfl h0 | cons x t => simp
      obtain ⟨e1, e2, e3, e4, e5⟩ := stepN_some _ _ _ _ _ v k hlen (bt_lt l 0) hs
      obtain ⟨hv, he, -⟩ := enc_step h0 hs
      rw [runesL_some h0 hs] at h
      obtain ⟨y, hy, rfl⟩ := Option.map_eq_some_iff.1 h
      have hi := ih (l.drop k) y (by simp; omega) hy
      show textL (unitsN v ++ unitsR y) = some l
      rw [text_units v hv, hi, he]
      simp

/-- The units' text has these units. -/
theorem runes_of_text (n : Nat) : ∀ (u : List Nat) (c : List UInt8), u.length ≤ n → (∀ x ∈ u, x < 65536) → textL u = some c → ∃ rs, runesL c = some rs ∧ unitsR rs = u := by
  induction n with
  | zero =>
    intro u c hl _ h
    obtain rfl : u = [] := List.eq_nil_of_length_eq_zero (by omega)
    obtain rfl : [] = c := by simpa [textL] using h
    exact ⟨[], rfl, rfl⟩
  | succ n ih =>
    intro u c hl hb h
    cases u with
    | nil =>
      obtain rfl : [] = c := by simpa [textL] using h
      exact ⟨[], rfl, rfl⟩
    | cons a t =>
      have ha := hb a (by simp)
      by_cases h1 : a < 55296 ∨ 57344 ≤ a
      · rw [textL_plain a t h1] at h
        obtain ⟨d, hd, rfl⟩ := Option.map_eq_some_iff.1 h
        obtain ⟨rs, hr, hu⟩ := ih t d (by simp at hl; omega) (fun x hx => hb x (by simp [hx])) hd
        refine ⟨a :: rs, ?_, ?_⟩
        · rw [runesL_app _ _ _ (runes_enc a (by unfold scal; omega)), hr]
          rfl
        · show unitsN a ++ unitsR rs = a :: t
          unfold unitsN
          rw [if_pos ha, hu]
          rfl
      by_cases h2 : 56320 ≤ a
      · rw [textL_late a t h2 (by omega)] at h; cases h
      cases t with
      | nil => rw [textL_end a (by omega) (by omega)] at h; cases h
      | cons b t =>
        have hbb := hb b (by simp)
        by_cases h3 : b < 56320 ∨ 57344 ≤ b
        · rw [textL_odd a b t (by omega) (by omega) h3] at h; cases h
        rw [textL_pair a b t (by omega) (by omega) (by omega) (by omega)] at h
        obtain ⟨d, hd, rfl⟩ := Option.map_eq_some_iff.1 h
        obtain ⟨rs, hr, hu⟩ := ih t d (by simp at hl; omega) (fun x hx => hb x (by simp [hx])) hd
        refine ⟨(65536 + (a - 55296) * 1024 + (b - 56320)) :: rs, ?_, ?_⟩
        · rw [runesL_app _ _ _ (runes_enc _ (by unfold scal; omega)), hr]
          rfl
        · show unitsN _ ++ unitsR rs = a :: b :: t
          unfold unitsN
          rw [if_neg (by omega), hu, show 55296 + (65536 + (a - 55296) * 1024 + (b - 56320) - 65536) / 1024 = a from by omega, show 56320 + (65536 + (a - 55296) * 1024 + (b - 56320) - 65536) % 1024 = b from by omega]
          rfl

theorem text_len (n : Nat) : ∀ (u : List Nat) (c : List UInt8), u.length ≤ n → (∀ x ∈ u, x < 65536) → textL u = some c → c.length ≤ 3 * u.length := by
  induction n with
  | zero =>
    intro u c hl _ h
    obtain rfl : u = [] := List.eq_nil_of_length_eq_zero (by omega)
    obtain rfl : [] = c := by simpa [textL] using h
    simp
  | succ n ih =>
    intro u c hl hb h
    cases u with
    | nil =>
      obtain rfl : [] = c := by simpa [textL] using h
      simp
    | cons a t =>
      have ha := hb a (by simp)
      by_cases h1 : a < 55296 ∨ 57344 ≤ a
      · rw [textL_plain a t h1] at h
        obtain ⟨d, hd, rfl⟩ := Option.map_eq_some_iff.1 h
        have hi := ih t d (by simp at hl; omega) (fun x hx => hb x (by simp [hx])) hd
        have := (encL_len a).2.2 ha
        simp
        omega
      by_cases h2 : 56320 ≤ a
      · rw [textL_late a t h2 (by omega)] at h; cases h
      cases t with
      | nil => rw [textL_end a (by omega) (by omega)] at h; cases h
      | cons b t =>
        by_cases h3 : b < 56320 ∨ 57344 ≤ b
        · rw [textL_odd a b t (by omega) (by omega) h3] at h; cases h
        rw [textL_pair a b t (by omega) (by omega) (by omega) (by omega)] at h
        obtain ⟨d, hd, rfl⟩ := Option.map_eq_some_iff.1 h
        have hi := ih t d (by simp at hl; omega) (fun x hx => hb x (by simp [hx])) hd
        have := (encL_len (65536 + (a - 55296) * 1024 + (b - 56320))).2.1
        simp
        omega
end Go.Proofs.YtagoemebklihjaaDoor
