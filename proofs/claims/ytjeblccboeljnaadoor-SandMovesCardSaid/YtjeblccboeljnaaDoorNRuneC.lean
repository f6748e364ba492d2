/- Plain: runes of texts one behind the other. No condition. -/
import Derived.Test.YtjeblccboeljnaaDoorNRuneB
namespace Go.Proofs.YtjeblccboeljnaaDoor

set_option maxHeartbeats 8000000 in
theorem stepN_more (n n2 b0 b1 b2 b3 c1 c2 c3 v k : Nat) (hn : n ≤ n2) (h : stepN n b0 b1 b2 b3 = some (v, k)) (h1 : 1 < k → c1 = b1) (h2 : 2 < k → c2 = b2) (h3 : 3 < k → c3 = b3) : stepN n2 b0 c1 c2 c3 = some (v, k) := by
  unfold stepN at h ⊢
  split at h
  · rename_i q
    rw [if_pos q]
    exact h
  rename_i q0
  rw [if_neg q0]
  split at h
  · simp at h
  rename_i q1
  rw [if_neg q1]
  split at h
  · rename_i q2
    rw [if_pos q2]
    split at h
    · simp at h
    rename_i q3
    split at h
    · simp at h
    rename_i q4
    simp at h
    obtain ⟨hv, rfl⟩ := h
    obtain rfl := h1 (by omega)
    rw [if_neg (by omega), if_neg q4, hv]
  rename_i q2
  rw [if_neg q2]
  split at h
  · rename_i q3
    rw [if_pos q3]
    split at h
    · simp at h
    rename_i q4
    split at h
    · simp at h
    rename_i q5
    split at h
    · simp at h
    rename_i q6
    split at h
    · simp at h
    rename_i q7
    simp at h
    obtain ⟨hv, rfl⟩ := h
    obtain rfl := h1 (by omega)
    obtain rfl := h2 (by omega)
    rw [if_neg (by omega), if_neg q5, if_neg q6, if_neg q7, hv]
  rename_i q3
  rw [if_neg q3]
  split at h
  · simp at h
  rename_i q4
  split at h
  · simp at h
  rename_i q5
  split at h
  · simp at h
  rename_i q6
  split at h
  · simp at h
  rename_i q7
  split at h
  · simp at h
  rename_i q8
  simp at h
  obtain ⟨hv, rfl⟩ := h
  obtain rfl := h1 (by omega)
  obtain rfl := h2 (by omega)
  obtain rfl := h3 (by omega)
  rw [if_neg (by omega), if_neg q5, if_neg q6, if_neg q7, if_neg q8, hv]

theorem bt_app (a b : List UInt8) (j : Nat) (h : j < a.length) : bt (a ++ b) j = bt a j := by
  unfold bt
  rw [List.getD_eq_getElem?_getD, List.getD_eq_getElem?_getD, List.getElem?_append_left h]

theorem step_app {a : List UInt8} (b : List UInt8) {v k : Nat} (h0 : a ≠ []) (h : stepL a = some (v, k)) : stepL (a ++ b) = some (v, k) := by
  have hlen : 1 ≤ a.length := by cases a with | nil => exact absurd rfl h0 | cons x t => simp
  obtain ⟨e1, e2, e3, e4, e5⟩ := stepN_some _ _ _ _ _ v k hlen (bt_lt a 0) h
  unfold stepL at h ⊢
  rw [bt_app a b 0 (by omega)]
  refine stepN_more _ _ _ _ _ _ _ _ _ _ _ (by simp) h (fun hk => bt_app a b 1 (by omega)) (fun hk => bt_app a b 2 (by omega)) (fun hk => bt_app a b 3 (by omega))

theorem runes_app (f : Nat) : ∀ (a b : List UInt8) (x : List Nat), a.length ≤ f → runesL a = some x → runesL (a ++ b) = (runesL b).map (x ++ ·) := by
  induction f with
  | zero =>
    intro a b x hl h
    obtain rfl : a = [] := List.eq_nil_of_length_eq_zero (by omega)
    rw [runesL_nil] at h
    obtain rfl : [] = x := Option.some.inj h
    simp
  | succ f ih =>
    intro a b x hl h
    by_cases h0 : a = []
    · subst h0
      rw [runesL_nil] at h
      obtain rfl : [] = x := Option.some.inj h
      simp
    · have hlen : 1 ≤ a.length := by cases a with | nil => exact absurd rfl h0 | cons x t => simp
      cases hs : stepL a with
      | none => rw [runesL_none h0 hs] at h; cases h
      | some r =>
        obtain ⟨v, k⟩ := r
        obtain ⟨e1, e2, e3, e4, e5⟩ := stepN_some _ _ _ _ _ v k hlen (bt_lt a 0) hs
        rw [runesL_some h0 hs] at h
        obtain ⟨y, hy, rfl⟩ := Option.map_eq_some_iff.1 h
        rw [runesL_some (by simp [h0]) (step_app b h0 hs), List.drop_append_of_le_length e4, ih (a.drop k) b y (by simp; omega) hy]
        cases runesL b <;> simp

theorem runesL_app (a b : List UInt8) (x : List Nat) (h : runesL a = some x) : runesL (a ++ b) = (runesL b).map (x ++ ·) := runes_app _ a b x (Nat.le_refl _) h
theorem runes_ok_app (a b : List UInt8) (h : (runesL a).isSome = true) (k : (runesL b).isSome = true) : (runesL (a ++ b)).isSome = true := by
  obtain ⟨x, hx⟩ := Option.isSome_iff_exists.1 h
  rw [runesL_app a b x hx]
  simpa using k
end Go.Proofs.YtjeblccboeljnaaDoor
