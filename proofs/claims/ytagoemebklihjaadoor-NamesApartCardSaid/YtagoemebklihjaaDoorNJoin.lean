/- Parts joined and split again, in plain Lean. No condition. -/
import Derived.Test.YtagoemebklihjaaDoorNApP
namespace Go.Proofs.YtagoemebklihjaaDoor
open Go.RowKit

theorem cat_ba (a b : List UInt8) : (⟨a.toArray⟩ : ByteArray) ++ ⟨b.toArray⟩ = ⟨(a ++ b).toArray⟩ := by
  apply ByteArray.ext
  simp

theorem joinL_one (p : List UInt8) : joinL [p] = p := by simp [joinL, Lib.join]
theorem joinL_nil : joinL [] = [] := by simp [joinL, Lib.join]
theorem joinL_cons (p : List UInt8) (ps : List (List UInt8)) (h : ps ≠ []) : joinL (p :: ps) = p ++ 47 :: joinL ps := by
  cases ps with
  | nil => exact absurd rfl h
  | cons q t => simp [joinL, Lib.join, List.intercalate_cons_cons]

theorem joinL_snoc : ∀ (ps : List (List UInt8)) (p : List UInt8), ps ≠ [] → joinL (ps ++ [p]) = joinL ps ++ 47 :: p
  | [], _, h => absurd rfl h
  | [q], p, _ => by rw [show [q] ++ [p] = q :: [p] from rfl, joinL_cons _ _ (by simp), joinL_one, joinL_one]
  | q :: r :: t, p, _ => by
    rw [show (q :: r :: t) ++ [p] = q :: ((r :: t) ++ [p]) from rfl, joinL_cons _ _ (by simp), joinL_snoc (r :: t) p (by simp), joinL_cons q (r :: t) (by simp)]
    simp

theorem joinL_take (ps : List (List UInt8)) (k : Nat) (p : List UInt8) (h : ps[k]? = some p) : joinL (ps.take (k + 1)) = if k = 0 then p else joinL (ps.take k) ++ 47 :: p := by
  rw [List.take_add_one, h]
  by_cases hk : k = 0
  · subst hk
    rw [if_pos rfl]
    simp [joinL_one]
  · rw [if_neg hk]
    refine joinL_snoc _ _ (fun e => ?_)
    have h1 : (ps.take k).length = 0 := by rw [e]; rfl
    have h2 : k < ps.length := (List.getElem?_eq_some_iff.1 h).1
    rw [List.length_take] at h1
    omega

theorem joinL_split : ∀ l : List UInt8, joinL (splitL l) = l
  | [] => by simp [splitL, joinL_one]
  | b :: t => by
    have ih := joinL_split t
    unfold splitL
    split
    · rename_i hb
      subst hb
      rw [joinL_cons _ _ (splitL_ne t), ih]
      rfl
    · split
      · rename_i e
        exact absurd e (splitL_ne t)
      · rename_i p ps e
        rw [e] at ih
        cases ps with
        | nil => rw [joinL_one] at ih ⊢; rw [ih]
        | cons q qs =>
          rw [joinL_cons _ _ (by simp)] at ih ⊢
          rw [← ih]
          rfl

theorem splitL_no : ∀ (l p : List UInt8), p ∈ splitL l → ∀ x ∈ p, x ≠ 47
  | [], p, h, x, hx => by simp [splitL] at h; subst h; cases hx
  | b :: t, p, h, x, hx => by
    unfold splitL at h
    split at h
    · rcases List.mem_cons.1 h with rfl | h
      · cases hx
      · exact splitL_no t p h x hx
    · rename_i hb
      split at h
      · simp at h
        subst h
        simp at hx
        rw [hx]
        exact hb
      · rename_i q qs e
        rcases List.mem_cons.1 h with rfl | h
        · rcases List.mem_cons.1 hx with rfl | hx
          · exact hb
          · exact splitL_no t q (by rw [e]; simp) x hx
        · exact splitL_no t p (by rw [e]; simp [h]) x hx

theorem splitL_cons (p : List UInt8) (t : List UInt8) (h : ∀ x ∈ p, x ≠ 47) : splitL (p ++ 47 :: t) = p :: splitL t := by
  rw [splitL_some (p ++ 47 :: t) p.length (by simp) (fun k hk e => by
    rw [List.getElem?_append_left hk] at e
    exact h _ (List.mem_of_getElem? e) rfl)]
  rw [List.drop_append, List.drop_eq_nil_of_le (by omega)]
  simp

theorem splitL_join : ∀ ps : List (List UInt8), ps ≠ [] → (∀ p ∈ ps, ∀ x ∈ p, x ≠ 47) → splitL (joinL ps) = ps
  | [], h, _ => absurd rfl h
  | [p], _, h => by rw [joinL_one]; exact splitL_none p (h p (by simp))
  | p :: q :: t, _, h => by
    rw [joinL_cons _ _ (by simp), splitL_cons _ _ (h p (by simp)), splitL_join (q :: t) (by simp) (fun r hr => h r (by simp [hr]))]

/-- What is known of a part that is let in. -/
structure PartOk (p : List UInt8) : Prop where
  pos : 1 ≤ p.length
  len : p.length ≤ 255
  one : p ≠ [46]
  two : p ≠ [46, 46]
  odd : ∀ x ∈ p, oddB x = false
theorem part_ok {p : List UInt8} (h : partL foldL p = true) : PartOk p := by
  unfold partL at h
  simp only [Bool.and_eq_true, decide_eq_true_eq, bne_iff_ne, Bool.not_eq_true'] at h
  obtain ⟨⟨⟨⟨⟨⟨⟨h1, h2⟩, h3⟩, h4⟩, -⟩, -⟩, h5⟩, -⟩ := h
  exact ⟨h1, h2, h3, h4, fun x hx => by
    have := List.any_eq_false.1 h5 x hx
    simpa using this⟩
theorem odd_no {x : UInt8} (h : oddB x = false) : x ≠ 92 ∧ x ≠ 58 ∧ 32 ≤ x.toNat := by
  unfold oddB at h
  simp only [Bool.or_eq_false_iff, beq_eq_false_iff_ne, decide_eq_false_iff_not] at h
  exact ⟨h.2.1.1.1.1.1.1.1.2, h.2.1.1.1.1.1.1.2, by omega⟩
theorem clean_part {l p : List UInt8} (h : cleanL foldL l = true) (hp : p ∈ splitL l) : partL foldL p = true := by
  unfold cleanL at h
  simp only [Bool.and_eq_true] at h
  exact List.all_eq_true.1 h.2 p hp
theorem join_take_len (l : List UInt8) (h : cleanL foldL l = true) (k : Nat) : (joinL ((splitL l).take k)).length ≤ 10000 := by
  have h1 := join_len 255 ((splitL l).take k) (fun p hp => (part_ok (clean_part h (List.mem_of_mem_take hp))).len)
  have h2 := (clean_bounds h).2
  have h3 : ((splitL l).take k).length ≤ 32 := by rw [List.length_take]; omega
  have : ((splitL l).take k).length * 256 ≤ 32 * 256 := Nat.mul_le_mul_right _ h3
  omega
end Go.Proofs.YtagoemebklihjaaDoor
