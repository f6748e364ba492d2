/- A text's units hold a 0 just if its bytes do. No condition. -/
import Derived.Test.YtkodindajfdagaaDoorGAG
namespace Go.Proofs.YtkodindajfdagaaDoor

theorem zero_unitsN (v : Nat) : 0 ∈ unitsN v ↔ v = 0 := by
  unfold unitsN
  split
  · simp only [List.mem_singleton]
    omega
  · simp only [List.mem_cons, List.not_mem_nil, or_false]
    omega
theorem zero_encL (v : Nat) (h : scal v) : (0 : UInt8) ∈ encL v ↔ v = 0 := by
  have hb := encN_byte v (by unfold scal at h; omega)
  unfold encL
  rw [List.mem_map]
  constructor
  · rintro ⟨a, ha, hz⟩
    have h256 := hb a ha
    have h0 : a = 0 := by
      have := congrArg UInt8.toNat hz
      simp at this
      omega
    subst h0
    unfold encN at ha
    unfold scal at h
    repeat' split at ha
    all_goals simp at ha
    all_goals omega
  · rintro rfl
    exact ⟨0, by unfold encN; simp, rfl⟩
theorem zero_text (n : Nat) : ∀ (l : List UInt8) (rs : List Nat), l.length ≤ n → runesL l = some rs → ((0 : UInt8) ∈ l ↔ 0 ∈ unitsR rs) := by
  induction n with
  | zero =>
    intro l rs hl h
    obtain rfl : l = [] := List.eq_nil_of_length_eq_zero (by omega)
    rw [runesL_nil] at h
    obtain rfl : [] = rs := Option.some.inj h
    simp [unitsR]
  | succ n ih =>
    intro l rs hl h
    by_cases h0 : l = []
    · subst h0
      rw [runesL_nil] at h
      obtain rfl : [] = rs := Option.some.inj h
      simp [unitsR]
    cases hs : stepL l with
    | none => rw [runesL_none h0 hs] at h; cases h
    | some r =>
      obtain ⟨v, k⟩ := r
      obtain ⟨hv, he, hk⟩ := enc_step h0 hs
      have h1 := (encL_len v).1
      have hlen := congrArg List.length he
      rw [List.length_take] at hlen
      rw [runesL_some h0 hs] at h
      obtain ⟨y, hy, rfl⟩ := Option.map_eq_some_iff.1 h
      have g := ih (l.drop k) y (by simp; omega) hy
      rw [show unitsR (v :: y) = unitsN v ++ unitsR y from rfl, List.mem_append, zero_unitsN v, ← g, ← zero_encL v hv, he, ← List.mem_append, List.take_append_drop]
end Go.Proofs.YtkodindajfdagaaDoor
