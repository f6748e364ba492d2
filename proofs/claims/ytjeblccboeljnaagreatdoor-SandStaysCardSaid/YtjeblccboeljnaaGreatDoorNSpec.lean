/- Paths, in plain Lean: parts, which are let in. No condition. -/
import Derived.Test.YtjeblccboeljnaaGreatDoorNRune
import Derived.Lib.IndexLaws
import Derived.Lib.IndexMore
import Derived.Lib.IndexBytes
import Derived.Lib.Split
import Derived.Lib.CountLaws
namespace Go.Proofs.YtjeblccboeljnaaGreatDoor

/-- A text at each slash. -/
def splitL : List UInt8 → List (List UInt8)
  | [] => [[]]
  | b :: t => if b = 47 then [] :: splitL t else match splitL t with
    | [] => [[b]]
    | p :: ps => (b :: p) :: ps

theorem splitL_ne (l : List UInt8) : splitL l ≠ [] := by
  cases l with
  | nil => simp [splitL]
  | cons b t =>
    unfold splitL
    split
    · simp
    · split <;> simp

theorem splitL_none : ∀ l : List UInt8, (∀ x ∈ l, x ≠ 47) → splitL l = [l]
  | [], _ => rfl
  | b :: t, h => by
    unfold splitL
    rw [if_neg (h b (by simp)), splitL_none t (fun x hx => h x (by simp [hx]))]

theorem splitL_some : ∀ (l : List UInt8) (i : Nat), l[i]? = some 47 → (∀ k, k < i → l[k]? ≠ some 47) → splitL l = l.take i :: splitL (l.drop (i + 1))
  | [], i, h, _ => by simp at h
  | b :: t, 0, h, _ => by
    simp at h
    subst h
    simp [splitL]
  | b :: t, i + 1, h, hn => by
    have hb : b ≠ 47 := by
      have := hn 0 (by omega)
      simpa using this
    have ih := splitL_some t i (by simpa using h) (fun k hk => by have := hn (k + 1) (by omega); simpa using this)
    show splitL (b :: t) = _
    rw [splitL, if_neg hb, ih]
    simp

theorem splitL_len : ∀ l : List UInt8, (splitL l).length ≤ l.length + 1
  | [] => by simp [splitL]
  | b :: t => by
    have ih := splitL_len t
    unfold splitL
    split
    · simp; omega
    · split
      · simp
      · rename_i p ps e
        rw [e] at ih
        simp at ih ⊢
        omega

theorem splitK_eq (k : Nat) : ∀ l : List UInt8, Lib.count l [47] = k → Lib.splitK [47] 0 k l = splitL l := by
  induction k with
  | zero =>
    intro l hc
    have hm : Lib.index l [47] = -1 := by
      rcases Lib.index_spec l [47] with ⟨h, _⟩ | ⟨i, h, _⟩
      · exact h
      · have := Lib.count_hit (s := l) (sub := [47]) (i := i) (by simp) h
        omega
    rw [Lib.index_one] at hm
    rw [splitL_none l (fun x hx e => by
      subst e
      obtain ⟨j, hj⟩ := List.getElem?_of_mem hx
      exact Lib.indexByte_none hm j hj)]
    rfl
  | succ k ih =>
    intro l hc
    have hm : Lib.index l [47] ≠ -1 := fun h => by
      have := Lib.count_miss h
      omega
    rcases Lib.index_spec l [47] with ⟨h, _⟩ | ⟨i, h, _⟩
    · exact absurd h hm
    · have hct := Lib.count_hit (s := l) (sub := [47]) (i := i) (by simp) h
      have hib := h
      rw [Lib.index_one] at hib
      obtain ⟨h1, h2⟩ := Lib.indexByte_some hib
      rw [splitL_some l i h1 h2]
      unfold Lib.splitK
      rw [if_neg (by simpa using hm), h]
      rw [show ((i : Int)).toNat = i from by omega, Nat.add_zero]
      have := ih (l.drop (i + 1)) (by simpa using (by rw [hc] at hct; simp at hct; omega))
      rw [← this]
      rfl

/-- A byte that may not be in a part. -/
def oddB (b : UInt8) : Bool := decide (b.toNat < 32) || (b == 127 || b == 92 || b == 58 || b == 42 || b == 63 || b == 34 || b == 60 || b == 62 || b == 124)

def headL (l : List UInt8) : List UInt8 := l.takeWhile (· != 46)
def words4 : List (List UInt8) := [[99, 111, 110], [112, 114, 110], [97, 117, 120], [110, 117, 108]]
def com : List UInt8 := [99, 111, 109]
def lpt : List UInt8 := [108, 112, 116]
/-- Is it a device's name? -/
def devH (h : List UInt8) : Bool := words4.contains h || (decide (h.length = 4) && (decide (49 ≤ (h.getD 3 0).toNat) && decide ((h.getD 3 0).toNat ≤ 57)) && (h.take 3 == com || h.take 3 == lpt))
/-- .. the reference's list. -/
def wordsN (d : Nat) : List (List UInt8) := words4 ++ (List.range d).flatMap fun i => [com ++ [UInt8.ofNat (49 + i)], lpt ++ [UInt8.ofNat (49 + i)]]

theorem words_dev (h : List UInt8) : (wordsN 9).contains h = devH h := by
  have hN : wordsN 9 = words4 ++ [com ++ [49], lpt ++ [49], com ++ [50], lpt ++ [50], com ++ [51], lpt ++ [51], com ++ [52], lpt ++ [52], com ++ [53], lpt ++ [53], com ++ [54], lpt ++ [54], com ++ [55], lpt ++ [55], com ++ [56], lpt ++ [56], com ++ [57], lpt ++ [57]] := by decide
  unfold devH
  rw [hN, List.contains_append]
  congr 1
  rw [Bool.eq_iff_iff]
  simp only [List.contains_iff_mem]
  constructor
  · intro hm
    simp only [com, lpt, List.cons_append, List.nil_append, List.mem_cons, List.not_mem_nil, or_false] at hm
    rcases hm with rfl | rfl | rfl | rfl | rfl | rfl | rfl | rfl | rfl | rfl | rfl | rfl | rfl | rfl | rfl | rfl | rfl | rfl <;> decide
  · intro hb
    simp only [Bool.and_eq_true, Bool.or_eq_true, decide_eq_true_eq, beq_iff_eq] at hb
    obtain ⟨⟨hl, h1, h2⟩, h3⟩ := hb
    match h, hl with
    | [a, b, c, d], _ =>
      simp at h1 h2
      have hd : d = 49 ∨ d = 50 ∨ d = 51 ∨ d = 52 ∨ d = 53 ∨ d = 54 ∨ d = 55 ∨ d = 56 ∨ d = 57 := by
        have : d.toNat = 49 ∨ d.toNat = 50 ∨ d.toNat = 51 ∨ d.toNat = 52 ∨ d.toNat = 53 ∨ d.toNat = 54 ∨ d.toNat = 55 ∨ d.toNat = 56 ∨ d.toNat = 57 := by omega
        simp only [← UInt8.toNat_inj]
        exact this
      rcases h3 with h3 | h3 <;> simp [com, lpt] at h3 <;> obtain ⟨rfl, rfl, rfl⟩ := h3 <;> rcases hd with rfl | rfl | rfl | rfl | rfl | rfl | rfl | rfl | rfl <;> decide

/-- May a part be? (fold: small letters) -/
def partL (fold : List UInt8 → List UInt8) (p : List UInt8) : Bool :=
  decide (1 ≤ p.length) && decide (p.length ≤ 255) && (p != [46]) && (p != [46, 46]) && (p.getLastD 0 != 46) && (p.getLastD 0 != 32) && (!p.any oddB) && !devH (headL (fold p))
def cleanL (fold : List UInt8 → List UInt8) (l : List UInt8) : Bool := (runesL l).isSome && decide (l.length ≤ 1024) && decide ((splitL l).length ≤ 32) && (splitL l).all (partL fold)

theorem cut_head (l : List UInt8) : (Lib.cut l [46]).1 = headL l := by
  unfold Lib.cut headL
  have key : ∀ l : List UInt8, (Lib.indexByte l 46 = -1 → l.takeWhile (· != 46) = l) ∧ (∀ i : Nat, Lib.indexByte l 46 = i → l.takeWhile (· != 46) = l.take i) := by
    intro l
    induction l with
    | nil => exact ⟨fun _ => rfl, fun i h => by simp⟩
    | cons b t ih =>
      unfold Lib.indexByte
      by_cases hb : b = 46
      · subst hb
        simp
        intro i hi
        have : i = 0 := by omega
        subst this
        rfl
      · have hb2 : (b == 46) = false := by simpa using hb
        have hb3 : (b != 46) = true := by simpa using hb
        rw [hb2]
        simp only [Bool.false_eq_true, if_false, List.takeWhile_cons, hb3, if_true]
        by_cases ht : Lib.indexByte t 46 = -1
        · rw [if_pos (by simpa using ht)]
          exact ⟨fun _ => by rw [ih.1 ht], fun i hi => by omega⟩
        · rw [if_neg (by simpa using ht)]
          have hge := Lib.indexByte_ge t 46
          refine ⟨fun h => by omega, fun i hi => ?_⟩
          obtain ⟨j, rfl⟩ : ∃ j, i = j + 1 := ⟨i - 1, by omega⟩
          rw [ih.2 j (by omega)]
          rfl
  rw [Lib.index_one]
  by_cases h : 0 ≤ Lib.indexByte l 46
  · rw [if_pos h]
    exact ((key l).2 (Lib.indexByte l 46).toNat (by omega)).symm
  · rw [if_neg h]
    have := Lib.indexByte_ge l 46
    exact ((key l).1 (by omega)).symm

/-- Bytes that make one rune, and aren't of ASCII, are all high. -/
theorem decodeN_wide (n b0 b1 b2 b3 : Nat) (hn : 1 ≤ n) (h0 : 128 ≤ b0) : (Lib.decodeN n b0 b1 b2 b3).2 ≤ n ∧ (Lib.decodeN n b0 b1 b2 b3).2 ≤ 4 ∧ (2 ≤ (Lib.decodeN n b0 b1 b2 b3).2 → 128 ≤ b1) ∧ (3 ≤ (Lib.decodeN n b0 b1 b2 b3).2 → 128 ≤ b2) ∧ (4 ≤ (Lib.decodeN n b0 b1 b2 b3).2 → 128 ≤ b3) := by
  unfold Lib.decodeN
  rw [if_neg (by omega)]
  split
  · split
    · exact ⟨by simp; omega, by simp, by simp; omega, by simp, by simp⟩
    · exact ⟨by simp; omega, by simp, by simp, by simp, by simp⟩
  split
  · split
    · exact ⟨by simp; omega, by simp, by simp; omega, by simp; omega, by simp⟩
    · exact ⟨by simp; omega, by simp, by simp, by simp, by simp⟩
  split
  · split
    · exact ⟨by simp; omega, by simp, by simp; omega, by simp; omega, by simp; omega⟩
    · exact ⟨by simp; omega, by simp, by simp, by simp, by simp⟩
  · exact ⟨by simp; omega, by simp, by simp, by simp, by simp⟩
end Go.Proofs.YtjeblccboeljnaaGreatDoor
