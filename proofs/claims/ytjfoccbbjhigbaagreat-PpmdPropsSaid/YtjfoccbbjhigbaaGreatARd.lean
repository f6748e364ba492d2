/- What is read of an arena behind what was written (layer 16): plain. -/
import Derived.Test.YtjfoccbbjhigbaaGreatMFst
namespace Go.Proofs.YtjfoccbbjhigbaaGreat
namespace Ar
theorem byte_set (a : Ar) (p b q : Nat) : (a.setByte p b).byte q = if q = p ∧ p < a.len then b else a.byte q := by
  unfold setByte byte
  by_cases h : p < a.len
  · rw [if_pos h]
    by_cases e : q = p
    · subst e
      simp [h, upd2]
    · simp [e, upd2]
  · rw [if_neg h]
    simp [h]
theorem num_set_other (a : Ar) (p b q : Nat) : ∀ n, (p < q ∨ q + n ≤ p) → (a.setByte p b).num q n = a.num q n
  | 0, _ => rfl
  | n + 1, h => by
    show (a.setByte p b).num q n + (a.setByte p b).byte (q + n) * 256 ^ n = a.num q n + a.byte (q + n) * 256 ^ n
    rw [num_set_other a p b q n (by omega), byte_set, if_neg (by omega)]
theorem len_setNum (a : Ar) (p v : Nat) : ∀ n, (a.setNum p n v).len = a.len
  | 0 => rfl
  | n + 1 => by
    have : ∀ x : Ar, ∀ i b, (x.setByte i b).len = x.len := fun x i b => by unfold setByte; split <;> rfl
    exact (this _ _ _).trans (len_setNum a p v n)
theorem num_setNum_other (a : Ar) (p v q n : Nat) : ∀ k, (p + k ≤ q ∨ q + n ≤ p) → (a.setNum p k v).num q n = a.num q n
  | 0, _ => rfl
  | k + 1, h => by
    show ((a.setNum p k v).setByte (p + k) (v / 256 ^ k % 256)).num q n = _
    rw [num_set_other _ _ _ _ _ (by omega), num_setNum_other a p v q n k (by omega)]
theorem byte_setNum_other (a : Ar) (p v q : Nat) : ∀ k, (p + k ≤ q ∨ q < p) → (a.setNum p k v).byte q = a.byte q
  | 0, _ => rfl
  | k + 1, h => by
    show ((a.setNum p k v).setByte (p + k) (v / 256 ^ k % 256)).byte q = _
    rw [byte_set, if_neg (by omega), byte_setNum_other a p v q k (by omega)]
theorem num_setNum_same (a : Ar) (p v : Nat) : ∀ n, p + n ≤ a.len → (a.setNum p n v).num p n = v % 256 ^ n
  | 0, _ => by show 0 = _; rw [Nat.pow_zero, Nat.mod_one]
  | n + 1, h => by
    show ((a.setNum p n v).setByte (p + n) (v / 256 ^ n % 256)).num p n + ((a.setNum p n v).setByte (p + n) (v / 256 ^ n % 256)).byte (p + n) * 256 ^ n = _
    rw [num_set_other _ _ _ _ _ (by omega), num_setNum_same a p v n (by omega), byte_set, if_pos ⟨rfl, by rw [len_setNum]; omega⟩, Nat.pow_succ, Nat.mod_mul, Nat.mul_comm (v / 256 ^ n % 256)]
theorem byte_setNum_at (a : Ar) (p v i : Nat) : ∀ n, i < n → p + n ≤ a.len → (a.setNum p n v).byte (p + i) = v / 256 ^ i % 256
  | 0, h, _ => absurd h (Nat.not_lt_zero _)
  | n + 1, h, hl => by
    show ((a.setNum p n v).setByte (p + n) (v / 256 ^ n % 256)).byte (p + i) = _
    rw [byte_set]
    by_cases e : i = n
    · subst e
      rw [if_pos ⟨rfl, by rw [len_setNum]; omega⟩]
    · rw [if_neg (by omega), byte_setNum_at a p v i n (by omega) (by omega)]
theorem len_words (a : Ar) (s : Nat) : ∀ n, (a.words s n).len = a.len
  | 0 => rfl
  | n + 1 => (len_setNum _ _ _ _).trans (len_words a s n)
theorem num_words (a : Ar) (s q k : Nat) : ∀ n, (s + n * 6 ≤ q ∨ q + k ≤ s) → (a.words s n).num q k = a.num q k
  | 0, _ => rfl
  | n + 1, h => by
    show ((a.words s n).setNum (s + n * 6) 6 (n + 256)).num q k = _
    rw [num_setNum_other _ _ _ _ _ _ (by omega), num_words a s q k n (by omega)]
theorem byte_words (a : Ar) (s i j : Nat) (hj : j < 6) : ∀ n, i < n → s + n * 6 ≤ a.len → (a.words s n).byte (s + i * 6 + j) = (i + 256) / 256 ^ j % 256
  | 0, h, _ => absurd h (Nat.not_lt_zero _)
  | n + 1, h, hl => by
    show ((a.words s n).setNum (s + n * 6) 6 (n + 256)).byte (s + i * 6 + j) = _
    by_cases e : i = n
    · subst e
      rw [byte_setNum_at _ _ _ _ 6 hj (by rw [len_words]; omega)]
    · rw [byte_setNum_other _ _ _ _ _ (by omega), byte_words a s i j hj n (by omega) (by omega)]
end Ar
theorem words_byt {a : Ar} (h : a.Byt) (s : Nat) : ∀ n, (a.words s n).Byt
  | 0 => h
  | n + 1 => setnum_byt (words_byt h s n) _ _ _
/-- The root in an arena that begins. -/
theorem root_is {a : Ar} (hB : a.Byt) (hs : 2048 ≤ a.size) (hs2 : a.size ≤ 65536) (hl : a.len = a.size + 13) (n : Nat) (hn : n = 256) :
    ∀ b c s A, b = a.restart → c = b.high - 12 → s = b.low → A = (((((({ b with high := c, low := s + unitsT (whichT 128) * 12 } : Ar).setNum c 2 256).setNum (c + 2) 2 257).setNum (c + 4) 4 s).setNum (c + 8) 4 0).words s n) →
    A.Byt ∧ A.num c 2 = 256 ∧ A.num (c + 2) 2 = 257 ∧ A.num (c + 4) 4 = s ∧ A.num (c + 8) 4 = 0 ∧ c ≤ 70000 ∧ s ≤ 70000 ∧ (∀ i, i < 256 → A.byte (s + i * 6) = i ∧ A.byte (s + i * 6 + 1) = 1) := by
  intro b c s A hb hc hss hA
  obtain ⟨q1, q2, q3, q4, q5, q6⟩ := rest_cells hs hs2
  rw [← hb] at q1 q2 q3 q4 q5 q6
  have hlb : b.len = a.size + 13 := by rw [hb]; exact hl
  have hBb : b.Byt := by rw [hb]; exact hB
  obtain ⟨B0, hB0⟩ : ∃ B0 : Ar, B0 = { b with high := c, low := s + unitsT (whichT 128) * 12 } := ⟨_, rfl⟩
  have hl0 : B0.len = a.size + 13 := by rw [hB0]; exact hlb
  have hBy0 : B0.Byt := by rw [hB0]; exact hBb
  rw [← hB0] at hA
  have hw : s + n * 6 ≤ c := by omega
  refine ⟨?_, ?_, ?_, ?_, ?_, by omega, by omega, ?_⟩
  · rw [hA]; exact words_byt (setnum_byt (setnum_byt (setnum_byt (setnum_byt hBy0 _ _ _) _ _ _) _ _ _) _ _ _) _ _
  · rw [hA, Ar.num_words _ _ _ _ _ (.inl (by omega)), Ar.num_setNum_other _ _ _ _ _ _ (.inr (by omega)), Ar.num_setNum_other _ _ _ _ _ _ (.inr (by omega)), Ar.num_setNum_other _ _ _ _ _ _ (.inr (by omega)), Ar.num_setNum_same _ _ _ _ (by omega)]
  · rw [hA, Ar.num_words _ _ _ _ _ (.inl (by omega)), Ar.num_setNum_other _ _ _ _ _ _ (.inr (by omega)), Ar.num_setNum_other _ _ _ _ _ _ (.inr (by omega)), Ar.num_setNum_same _ _ _ _ (by rw [Ar.len_setNum]; omega)]
  · rw [hA, Ar.num_words _ _ _ _ _ (.inl (by omega)), Ar.num_setNum_other _ _ _ _ _ _ (.inr (by omega)), Ar.num_setNum_same _ _ _ _ (by rw [Ar.len_setNum, Ar.len_setNum]; omega), Nat.mod_eq_of_lt (by omega)]
  · rw [hA, Ar.num_words _ _ _ _ _ (.inl (by omega)), Ar.num_setNum_same _ _ _ _ (by rw [Ar.len_setNum, Ar.len_setNum, Ar.len_setNum]; omega)]
  · intro i hi
    have h0 := Ar.byte_words ((((B0.setNum c 2 256).setNum (c + 2) 2 257).setNum (c + 4) 4 s).setNum (c + 8) 4 0) s i 0 (by omega) n (by omega) (by rw [Ar.len_setNum, Ar.len_setNum, Ar.len_setNum, Ar.len_setNum]; omega)
    have h1 := Ar.byte_words ((((B0.setNum c 2 256).setNum (c + 2) 2 257).setNum (c + 4) 4 s).setNum (c + 8) 4 0) s i 1 (by omega) n (by omega) (by rw [Ar.len_setNum, Ar.len_setNum, Ar.len_setNum, Ar.len_setNum]; omega)
    rw [← hA] at h0 h1
    refine ⟨?_, ?_⟩
    · rw [Nat.add_zero] at h0; rw [h0]; omega
    · rw [h1]; omega
end Go.Proofs.YtjfoccbbjhigbaaGreat
