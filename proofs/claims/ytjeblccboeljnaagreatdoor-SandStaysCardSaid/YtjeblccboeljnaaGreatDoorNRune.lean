/- Runes, in plain Lean: the reference's way and the decoder's agree. No condition. -/
import Derived.Lib.ValidU
import Derived.Lib.DecodeN
namespace Go.Proofs.YtjeblccboeljnaaGreatDoor

/-- One rune, as the reference takes it: of n bytes that are left, the first four. -/
def stepN (n b0 b1 b2 b3 : Nat) : Option (Nat × Nat) :=
  if b0 < 128 then some (b0, 1)
  else if b0 < 194 ∨ 244 < b0 then none
  else if b0 < 224 then (if n < 2 then none else if b1 < 128 ∨ 191 < b1 then none else some ((b0 - 192) * 64 + (b1 - 128), 2))
  else if b0 < 240 then
    (if n < 3 then none else if b1 < 128 ∨ 191 < b1 then none else if b2 < 128 ∨ 191 < b2 then none
     else if ((b0 - 224) * 64 + (b1 - 128)) * 64 + (b2 - 128) < 2048 ∨ (55296 ≤ ((b0 - 224) * 64 + (b1 - 128)) * 64 + (b2 - 128) ∧ ((b0 - 224) * 64 + (b1 - 128)) * 64 + (b2 - 128) < 57344) then none
     else some (((b0 - 224) * 64 + (b1 - 128)) * 64 + (b2 - 128), 3))
  else
    (if n < 4 then none else if b1 < 128 ∨ 191 < b1 then none else if b2 < 128 ∨ 191 < b2 then none else if b3 < 128 ∨ 191 < b3 then none
     else if (((b0 - 240) * 64 + (b1 - 128)) * 64 + (b2 - 128)) * 64 + (b3 - 128) < 65536 ∨ 1114111 < (((b0 - 240) * 64 + (b1 - 128)) * 64 + (b2 - 128)) * 64 + (b3 - 128) then none
     else some ((((b0 - 240) * 64 + (b1 - 128)) * 64 + (b2 - 128)) * 64 + (b3 - 128), 4))

set_option maxHeartbeats 4000000 in
theorem stepN_some (n b0 b1 b2 b3 v k : Nat) (hn : 1 ≤ n) (h0 : b0 < 256) (h : stepN n b0 b1 b2 b3 = some (v, k)) : Lib.decodeN n b0 b1 b2 b3 = (v, k) ∧ ¬ (v = 65533 ∧ k = 1) ∧ 1 ≤ k ∧ k ≤ n ∧ k ≤ 4 := by
  unfold stepN at h
  split at h
  · rename_i q
    simp at h
    obtain ⟨rfl, rfl⟩ := h
    unfold Lib.decodeN
    rw [if_pos q]
    exact ⟨rfl, by omega, by omega, by omega, by omega⟩
  split at h
  · simp at h
  rename_i q1 q2
  split at h
  · split at h
    · simp at h
    split at h
    · simp at h
    simp at h
    obtain ⟨rfl, rfl⟩ := h
    unfold Lib.decodeN
    rw [if_neg (by omega), if_pos (by omega), if_pos (by omega)]
    exact ⟨by simp; omega, by omega, by omega, by omega, by omega⟩
  split at h
  · split at h
    · simp at h
    split at h
    · simp at h
    split at h
    · simp at h
    split at h
    · simp at h
    simp at h
    obtain ⟨rfl, rfl⟩ := h
    unfold Lib.decodeN
    rw [if_neg (by omega), if_neg (by omega), if_pos (by omega), if_pos (by omega)]
    exact ⟨by simp; omega, by omega, by omega, by omega, by omega⟩
  · split at h
    · simp at h
    split at h
    · simp at h
    split at h
    · simp at h
    split at h
    · simp at h
    split at h
    · simp at h
    simp at h
    obtain ⟨rfl, rfl⟩ := h
    unfold Lib.decodeN
    rw [if_neg (by omega), if_neg (by omega), if_neg (by omega), if_pos (by omega), if_pos (by omega)]
    exact ⟨by simp; omega, by omega, by omega, by omega, by omega⟩

set_option maxHeartbeats 8000000 in
theorem stepN_none (n b0 b1 b2 b3 : Nat) (h0 : b0 < 256) (h1 : b1 < 256) (h2 : b2 < 256) (h3 : b3 < 256) (h : stepN n b0 b1 b2 b3 = none) : Lib.decodeN n b0 b1 b2 b3 = (65533, 1) := by
  unfold stepN at h
  unfold Lib.decodeN
  split at h
  · simp at h
  rename_i q0
  rw [if_neg q0]
  split at h
  · rename_i q1
    repeat' split
    all_goals first | rfl | (exfalso; omega)
  split at h
  · rename_i q1 q2
    split at h
    · repeat' split
      all_goals first | rfl | (exfalso; omega)
    split at h
    · repeat' split
      all_goals first | rfl | (exfalso; omega)
    · simp at h
  split at h
  · split at h
    · repeat' split
      all_goals first | rfl | (exfalso; omega)
    split at h
    · repeat' split
      all_goals first | rfl | (exfalso; omega)
    split at h
    · repeat' split
      all_goals first | rfl | (exfalso; omega)
    split at h
    · repeat' split
      all_goals first | rfl | (exfalso; omega)
    · simp at h
  · split at h
    · repeat' split
      all_goals first | rfl | (exfalso; omega)
    split at h
    · repeat' split
      all_goals first | rfl | (exfalso; omega)
    split at h
    · repeat' split
      all_goals first | rfl | (exfalso; omega)
    split at h
    · repeat' split
      all_goals first | rfl | (exfalso; omega)
    split at h
    · repeat' split
      all_goals first | rfl | (exfalso; omega)
    · simp at h

def bt (l : List UInt8) (j : Nat) : Nat := (l.getD j 0).toNat
theorem bt_lt (l : List UInt8) (j : Nat) : bt l j < 256 := UInt8.toNat_lt _
def stepL (l : List UInt8) : Option (Nat × Nat) := stepN l.length (bt l 0) (bt l 1) (bt l 2) (bt l 3)

def runesF : Nat → List UInt8 → Option (List Nat)
  | 0, _ => some []
  | f + 1, l => if l = [] then some [] else match stepL l with
    | none => none
    | some (v, k) => (runesF f (l.drop k)).map (v :: ·)
/-- A text's runes; none: it is not well-formed. -/
def runesL (l : List UInt8) : Option (List Nat) := runesF l.length l

theorem get_bt (l : List UInt8) (j : Nat) : ((⟨l.toArray⟩ : ByteArray).get! j).toNat = bt l j := by
  unfold bt ByteArray.get!
  simp [List.getD_eq_getElem?_getD]
  rfl

theorem decodeL_N (l : List UInt8) : Lib.decodeL l = Lib.decodeN l.length (bt l 0) (bt l 1) (bt l 2) (bt l 3) := by
  unfold Lib.decodeL
  rw [Lib.decode_at]
  rw [get_bt, get_bt, get_bt, get_bt]
  simp [ByteArray.size]

theorem runesF_some (f : Nat) : ∀ l : List UInt8, l.length ≤ f → (runesF f l).isSome = Lib.validGoD f l := by
  induction f with
  | zero => intro l _; rfl
  | succ f ih =>
    intro l hl
    unfold runesF Lib.validGoD
    by_cases h0 : l = []
    · rw [if_pos h0, if_pos h0]; rfl
    · rw [if_neg h0, if_neg h0]
      have hlen : 1 ≤ l.length := by cases l with | nil => exact absurd rfl h0 | cons a t => simp
      cases hs : stepL l with
      | none =>
        have := stepN_none _ _ _ _ _ (bt_lt l 0) (bt_lt l 1) (bt_lt l 2) (bt_lt l 3) hs
        rw [decodeL_N, this]
        simp
      | some r =>
        obtain ⟨v, k⟩ := r
        obtain ⟨e1, e2, e3, e4, e5⟩ := stepN_some _ _ _ _ _ v k hlen (bt_lt l 0) hs
        rw [decodeL_N, e1, if_neg e2]
        simp only [Option.isSome_map]
        exact ih _ (by simp; omega)

theorem valid_runes (l : List UInt8) : Lib.validD l = (runesL l).isSome := (runesF_some _ l (Nat.le_refl _)).symm
end Go.Proofs.YtjeblccboeljnaaGreatDoor
