/- A short number that was read, put again: the plain law. No condition. -/
import Derived.Test.YthdfjbliafdchaaPutSpec
namespace Go.Proofs.Ythdfjbliafdchaa
open Go.RowKit

theorem leBytes_leNat (l : List UInt8) (y : Nat) : leBytes l.length (leNat l + 256 ^ l.length * y) = l := by
  induction l with
  | nil => rfl
  | cons x l ih =>
    have hx := x.toNat_lt
    have e : leNat (x :: l) + 256 ^ (x :: l).length * y = x.toNat + 256 * (leNat l + 256 ^ l.length * y) := by
      simp only [leNat, List.length_cons, Nat.pow_succ, Nat.mul_add]
      rw [Nat.mul_comm (256 ^ l.length) 256, Nat.mul_assoc]
      omega
    rw [e, List.length_cons, leBytes]
    have e2 : (x.toNat + 256 * (leNat l + 256 ^ l.length * y)) / 256 = leNat l + 256 ^ l.length * y := by omega
    rw [e2, ih]
    congr 1
    apply UInt8.toNat_inj.1
    simp

theorem ones_split (x : Nat) (hx : x < 256) : x = 65280 / 2 ^ Cur.ones x % 256 + (if Cur.ones x < 7 then x % 2 ^ (7 - Cur.ones x) else 0) := by
  have h : ∀ y : Fin 256, y.val = 65280 / 2 ^ Cur.ones y.val % 256 + (if Cur.ones y.val < 7 then y.val % 2 ^ (7 - Cur.ones y.val) else 0) := by decide +kernel
  exact h ⟨x, hx⟩

theorem extra_le_of (v k : Nat) (hk : k ≤ 7) (hv : v < 2 ^ (7 * k + 7)) : extra v ≤ k := by
  have hk' : k = 0 ∨ k = 1 ∨ k = 2 ∨ k = 3 ∨ k = 4 ∨ k = 5 ∨ k = 6 ∨ k = 7 := by omega
  rcases hk' with rfl | rfl | rfl | rfl | rfl | rfl | rfl | rfl <;> simp only [Nat.reduceMul, Nat.reduceAdd, Nat.reducePow] at hv <;> unfold extra <;> repeat' split
  all_goals omega

/-- A short number's value, from its bytes. -/
def shortVal (x k : Nat) (l : List UInt8) : Nat := leNat l + 256 ^ k * (if k < 7 then x % 2 ^ (7 - k) else 0)

theorem shortVal_lt (x k : Nat) (l : List UInt8) (hl : l.length = k) (hk : k ≤ 8) : shortVal x k l < 18446744073709551616 ∧ (k ≤ 7 → shortVal x k l < 2 ^ (7 * k + 7)) := by
  have h := leNat_lt l
  rw [hl] at h
  unfold shortVal
  by_cases h7 : k < 7
  · have hm : x % 2 ^ (7 - k) < 2 ^ (7 - k) := Nat.mod_lt _ (Nat.pow_pos (by decide))
    have h2 : 256 ^ k * (x % 2 ^ (7 - k)) + 256 ^ k ≤ 256 ^ k * 2 ^ (7 - k) := by
      rw [← Nat.mul_succ]; exact Nat.mul_le_mul_left _ hm
    have h3 : 256 ^ k * 2 ^ (7 - k) = 2 ^ (7 * k + 7) := by rw [pow256, ← Nat.pow_add]; congr 1; omega
    have h4 : 2 ^ (7 * k + 7) ≤ 2 ^ 64 := Nat.pow_le_pow_right (by decide) (by omega)
    rw [if_pos h7]
    omega
  · rw [if_neg h7]
    have hk' : k = 7 ∨ k = 8 := by omega
    rcases hk' with rfl | rfl
    · simp only [Nat.reducePow, Nat.reduceMul, Nat.reduceAdd] at h ⊢; omega
    · simp only [Nat.reducePow] at h; omega

theorem short_best (x : UInt8) (k : Nat) (l : List UInt8) (hk : k = Cur.ones x.toNat) (hl : l.length = k) :
    (putNumber [] (shortVal x.toNat k l)).length < 1 + k ∨ (putNumber [] (shortVal x.toNat k l)).length = 1 + k ∧ putNumber [] (shortVal x.toNat k l) = x :: l := by
  have hk8 : k ≤ 8 := by rw [hk]; exact Cur.ones_le _
  obtain ⟨hv, hv7⟩ := shortVal_lt x.toNat k l hl hk8
  have he : extra (shortVal x.toNat k l) ≤ k := by
    by_cases h : k ≤ 7
    · exact extra_le_of _ _ h (hv7 h)
    · have := extra_le (shortVal x.toNat k l); omega
  rw [putNumber_length]
  simp only [List.length_nil, Nat.zero_add]
  by_cases hlt : extra (shortVal x.toNat k l) < k
  · exact .inl (by omega)
  · have hek : extra (shortVal x.toNat k l) = k := by omega
    refine .inr ⟨by omega, ?_⟩
    have h1 := leBytes_leNat l (if k < 7 then x.toNat % 2 ^ (7 - k) else 0)
    rw [hl] at h1
    unfold putNumber firstByte
    rw [hek]
    have hs := ones_split x.toNat x.toNat_lt
    rw [← hk] at hs
    have hdiv : shortVal x.toNat k l / 256 ^ k = (if k < 7 then x.toNat % 2 ^ (7 - k) else 0) := by
      have h := leNat_lt l
      rw [hl] at h
      unfold shortVal
      rw [Nat.add_mul_div_left _ _ (Nat.pow_pos (by decide)), Nat.div_eq_of_lt h, Nat.zero_add]
    have e : (65280 / 2 ^ k % 256 + if k < 7 then shortVal x.toNat k l / 256 ^ k else 0) = x.toNat := by
      rw [hdiv]
      by_cases h7 : k < 7
      · simp only [h7, if_true] at hs ⊢; omega
      · simp only [h7, if_false] at hs ⊢; omega
    rw [e]
    unfold shortVal
    rw [h1]
    simp

theorem number_short (bs : List UInt8) : (Cur.number ⟨bs, 0, 0⟩).2.code ≠ 0 ∧ (Cur.number ⟨bs, 0, 0⟩).1 = 0 ∧ (Cur.number ⟨bs, 0, 0⟩).2.at_ = 0 ∨
    (Cur.number ⟨bs, 0, 0⟩).2.code = 0 ∧ (Cur.number ⟨bs, 0, 0⟩).1 < 18446744073709551616 ∧ (Cur.number ⟨bs, 0, 0⟩).2.at_ ≤ bs.length ∧
      ((putNumber [] (Cur.number ⟨bs, 0, 0⟩).1).length < (Cur.number ⟨bs, 0, 0⟩).2.at_ ∨
        (putNumber [] (Cur.number ⟨bs, 0, 0⟩).1).length = (Cur.number ⟨bs, 0, 0⟩).2.at_ ∧ putNumber [] (Cur.number ⟨bs, 0, 0⟩).1 = bs.take (Cur.number ⟨bs, 0, 0⟩).2.at_) := by
  unfold Cur.number
  split
  · exact .inl ⟨by simp [Cur.fail], rfl, rfl⟩
  · rename_i h
    have h' : 1 + Cur.ones (Cur.head ⟨bs, 0, 0⟩) ≤ bs.length := by simpa [Cur.left] using h
    obtain ⟨x, l, rfl⟩ : ∃ x l, bs = x :: l := by cases bs with | nil => simp at h' | cons x l => exact ⟨x, l, rfl⟩
    have hh : Cur.head ⟨x :: l, 0, 0⟩ = x.toNat := by simp [Cur.head]
    rw [hh] at h' ⊢
    obtain ⟨k, hk⟩ : ∃ k, k = Cur.ones x.toNat := ⟨_, rfl⟩
    rw [← hk] at h' ⊢
    have hlen : (l.take k).length = k := by simp at h' ⊢; omega
    have hs := short_best x k (l.take k) hk hlen
    have hv := shortVal_lt x.toNat k (l.take k) hlen (hk ▸ Cur.ones_le _)
    refine .inr ⟨rfl, ?_, by simpa using h', ?_⟩
    · exact hv.1
    · have e : (x :: l).take (0 + 1 + k) = x :: l.take k := by rw [show 0 + 1 + k = k + 1 from by omega]; rfl
      simp only [Nat.zero_add] at e
      simp only [List.drop_succ_cons, List.drop_zero, Nat.zero_add, e]
      exact hs
end Go.Proofs.Ythdfjbliafdchaa
