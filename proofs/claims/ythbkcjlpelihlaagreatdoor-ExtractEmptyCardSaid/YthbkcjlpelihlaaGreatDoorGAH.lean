/- Paths, in plain Lean: parts, which are let in. No condition. -/
import Derived.Test.YthbkcjlpelihlaaGreatDoorGAG
import Derived.Lib.IndexLaws
import Derived.Lib.IndexMore
import Derived.Lib.IndexBytes
import Derived.Lib.Split
import Derived.Lib.CountLaws
namespace Go.Proofs.YthbkcjlpelihlaaGreatDoor

/-- A text at each slash. -/
def splitL : List UInt8 → List (List UInt8)
  | [] => [[]]
  | b :: t => if b = 47 then [] :: splitL t else match splitL t with
    | [] => [[b]]
    | p :: ps => (b :: p) :: ps

theorem splitL_ne (l : List UInt8) : splitL l ≠ [] := by
  cases l with
  | nil => simp [splitL]
  | cons b t =>
    unfold splitL
    split
    · simp
    · split <;> simp

theorem splitL_none : ∀ l : List UInt8, (∀ x ∈ l, x ≠ 47) → splitL l = [l]
  | [], _ => rfl
  | b :: t, h => by
    unfold splitL
    rw [if_neg (h b (by simp)), splitL_none t (fun x hx => h x (by simp [hx]))]

theorem splitL_some : ∀ (l : List UInt8) (i : Nat), l[i]? = some 47 → (∀ k, k < i → l[k]? ≠ some 47) → splitL l = l.take i :: splitL (l.drop (i + 1))
  | [], i, h, _ => by simp at h
  | b :: t, 0, h, _ => by
    simp at h
    subst h
    simp [splitL]
  | b :: t, i + 1, h, hn => by
    have hb : b ≠ 47 := by
      have := hn 0 (by omega)
      simpa using this
    have ih := splitL_some t i (by simpa using h) (fun k hk => by have := hn (k + 1) (by omega); simpa using this)
    show splitL (b :: t) = _
    rw [splitL, if_neg hb, ih]
    simp

theorem splitL_len : ∀ l : List UInt8, (splitL l).length ≤ l.length + 1
  | [] => by simp [splitL]
  | b :: t => by
    have ih := splitL_len t
    unfold splitL
    split
    · simp; omega
    · split
      · simp
      · rename_i p ps e
        rw [e] at ih
        simp at ih ⊢
        omega

theorem splitK_eq (k : Nat) : ∀ l : List UInt8, Lib.count l [47] = k → Lib.splitK [47] 0 k l = splitL l := by
  induction k with
  | zero =>
    intro l hc
    have hm : Lib.index l [47] = -1 := by
      rcases Lib.index_spec l [47] with ⟨h, _⟩ | ⟨i, h, _⟩
      · exact h
      · have := Lib.count_hit (s := l) (sub := [47]) (i := i) (by simp) h
        omega
    rw [Lib.index_one] at hm
    rw [splitL_none l (fun x hx e => by
      subst e
      obtain ⟨j, hj⟩ := List.getElem?_of_mem hx
      exact Lib.indexByte_none hm j hj)]
    rfl
  | succ k ih =>
    intro l hc
    have hm : Lib.index l [47] ≠ -1 := fun h => by
      have := Lib.count_miss h
      omega
    rcases Lib.index_spec l [47] with ⟨h, _⟩ | ⟨i, h, _⟩
    · exact absurd h hm
    · have hct := Lib.count_hit (s := l) (sub := [47]) (i := i) (by simp) h
      have hib := h
      rw [Lib.index_one] at hib
      obtain ⟨h1, h2⟩ := Lib.indexByte_some hib
      rw [splitL_some l i h1 h2]
      unfold Lib.splitK
      rw [if_neg (by simpa using hm), h]
      rw [show ((i : Int)).toNat = i from by omega, Nat.add_zero]
      have := ih (l.drop (i + 1)) (by simpa using (by rw [hc] at hct; simp at hct; omega))
      rw [← this]
      rfl

/-- A byte that may not be in a part. -/
def oddB (b : UInt8) : Bool := decide (b.toNat < 32) || (b == 127 || b == 92 || b == 58 || b == 42 || b == 63 || b == 34 || b == 60 || b == 62 || b == 124)

def headL (l : List UInt8) : List UInt8 := l.takeWhile (· != 46)
def words4 : List (List UInt8) := [[99, 111, 110], [112, 114, 110], [97, 117, 120], [110, 117, 108]]
def com : List UInt8 := [99, 111, 109]
def lpt : List UInt8 := [108, 112, 116]
/-- Is it a device's name? -/
def devH (h : List UInt8) : Bool := words4.contains h || (decide (h.length = 4) && (decide (49 ≤ (h.getD 3 0).toNat) && decide ((h.getD 3 0).toNat ≤ 57)) && (h.take 3 == com || h.take 3 == lpt))
/-- .. the reference's list. -/
def wordsN (d : Nat) : List (List UInt8) := words4 ++ (List.range d).flatMap fun i => [com ++ [UInt8.ofNat (49 + i)], lpt ++ [UInt8.ofNat (49 + i)]]

theorem words_dev (h : List UInt8) : (wordsN 9).contains h = devH h := by
  have hN : wordsN 9 = words4 ++ [com ++ [49], lpt ++ [49], com ++ [50], lpt ++ [50], com ++ [51], lpt ++ [51], com ++ [52], lpt ++ [52], com ++ [53], lpt ++ [53], com ++ [54], lpt ++ [54], com ++ [55], lpt ++ [55], com ++ [56], lpt ++ [56], com ++ [57], lpt ++ [57]] := by decide
  unfold devH
  rw [hN, List.contains_append]
  congr 1
  rw [Bool.eq_iff_iff]
  simp only [List.contains_iff_mem]
  constructor
  · intro hm
    simp only [com, lpt, List.cons_append, List.nil_append, List.mem_cons, List.not_mem_nil, or_false] at hm
    rcases hm with rfl | rfl | rfl | rfl | rfl | rfl | rfl | rfl | rfl | rfl | rfl | rfl | rfl | rfl | rfl | rfl | rfl | rfl <;> decide
  · intro hb
    simp only [Bool.and_eq_true, Bool.or_eq_true, decide_eq_true_eq, beq_iff_eq] at hb
    obtain ⟨⟨hl, h1, h2⟩, h3⟩ := hb
    match h, hl with
    | [a, b, c, d], _ =>
      simp at h1 h2
      have hd : d = 49 ∨ d = 50 ∨ d = 51 ∨ d = 52 ∨ d = 53 ∨ d = 54 ∨ d = 55 ∨ d = 56 ∨ d = 57 := by
        have : d.toNat = 49 ∨ d.toNat = 50 ∨ d.toNat = 51 ∨ d.toNat = 52 ∨ d.toNat = 53 ∨ d.toNat = 54 ∨ d.toNat = 55 ∨ d.toNat = 56 ∨ d.toNat = 57 := by omega
        simp only [← UInt8.toNat_inj]
        exact this
      rcases h3 with h3 | h3 <;> simp [com, lpt] at h3 <;> obtain ⟨rfl, rfl, rfl⟩ := h3 <;> rcases hd with rfl | rfl | rfl | rfl | rfl | rfl | rfl | rfl | rfl <;> decide

/-- May a part be? (fold: small letters) -/
def partL (fold : List UInt8 → List UInt8) (p : List UInt8) : Bool :=
  decide (1 ≤ p.length) && decide (p.length ≤ 255) && (p != [46]) && (p != [46, 46]) && (p.getLastD 0 != 46) && (p.getLastD 0 != 32) && (!p.any oddB) && !devH (headL (fold p))
def cleanL (fold : List UInt8 → List UInt8) (l : List UInt8) : Bool := (runesL l).isSome && decide (l.length ≤ 1024) && decide ((splitL l).length ≤ 32) && (splitL l).all (partL fold)

theorem cut_head (l : List UInt8) : (Lib.cut l [46]).1 = headL l := by
  unfold Lib.cut headL
  have key : ∀ l : List UInt8, (Lib.indexByte l 46 = -1 → l.takeWhile (· != 46) = l) ∧ (∀ i : Nat, Lib.indexByte l 46 = i → l.takeWhile (· != 46) = l.take i) := by
    intro l
    induction l with
    | nil => exact ⟨fun _ => rfl, fun i h => by simp⟩
    | cons b t ih =>
      unfold Lib.indexByte
      by_cases hb : b = 46
      · subst hb
        simp
        intro i hi
        have : i = 0 := by omega
        subst this
        rfl
      · have hb2 : (b == 46) = false := by simpa using hb
        have hb3 : (b != 46) = true := by simpa using hb
        rw [hb2]
        simp only [Bool.false_eq_true, if_false, List.takeWhile_cons, hb3, if_true]
        by_cases ht : Lib.indexByte t 46 = -1
        · rw [if_pos (by simpa using ht)]
          exact ⟨fun _ => by rw [ih.1 ht], fun i hi => by omega⟩
        · rw [if_neg (by simpa using ht)]
          have hge := Lib.indexByte_ge t 46
          refine ⟨fun h => by omega, fun i hi => ?_⟩
          obtain ⟨j, rfl⟩ : ∃ j, i = j + 1 := ⟨i - 1, by omega⟩
          rw [ih.2 j (by omega)]
          rfl
  rw [Lib.index_one]
  by_cases h : 0 ≤ Lib.indexByte l 46
  · rw [if_pos h]
    exact ((key l).2 (Lib.indexByte l 46).toNat (by omega)).symm
  · rw [if_neg h]
    have := Lib.indexByte_ge l 46
    exact ((key l).1 (by omega)).symm

/-- Bytes that make one rune, and aren't of ASCII, are all high. -/
theorem decodeN_wide (n b0 b1 b2 b3 : Nat) (hn : 1 ≤ n) (h0 : 128 ≤ b0) : (Lib.decodeN n b0 b1 b2 b3).2 ≤ n ∧ (Lib.decodeN n b0 b1 b2 b3).2 ≤ 4 ∧ (2 ≤ (Lib.decodeN n b0 b1 b2 b3).2 → 128 ≤ b1) ∧ (3 ≤ (Lib.decodeN n b0 b1 b2 b3).2 → 128 ≤ b2) ∧ (4 ≤ (Lib.decodeN n b0 b1 b2 b3).2 → 128 ≤ b3) := by
  unfold Lib.decodeN
  rw [if_neg (by omega)]
  split
  · split
    · exact ⟨by simp; omega, by simp, by simp; omega, by simp, by simp⟩
    · exact ⟨by simp; omega, by simp, by simp, by simp, by simp⟩
  split
  · split
    · exact ⟨by simp; omega, by simp, by simp; omega, by simp; omega, by simp⟩
    · exact ⟨by simp; omega, by simp, by simp, by simp, by simp⟩
  split
  · split
    · exact ⟨by simp; omega, by simp, by simp; omega, by simp; omega, by simp; omega⟩
    · exact ⟨by simp; omega, by simp, by simp, by simp, by simp⟩
  · exact ⟨by simp; omega, by simp, by simp, by simp, by simp⟩
end Go.Proofs.YthbkcjlpelihlaaGreatDoor
/- Contracts: names' odd, device, part. No condition but that lengths fit. -/
namespace Go.Proofs.YthbkcjlpelihlaaGreatDoor
open Go.RowKit

def oddR (r : Nat) : Bool := decide (r < 32) || (r == 127 || r == 92 || r == 58 || r == 42 || r == 63 || r == 34 || r == 60 || r == 62 || r == 124)
theorem oddR_byte (b : UInt8) : oddR b.toNat = oddB b := by
  have h : ∀ c : UInt8, (b == c) = (b.toNat == c.toNat) := fun c => by rw [Bool.eq_iff_iff, beq_iff_eq, beq_iff_eq, UInt8.toNat_inj]
  unfold oddR oddB
  simp only [h]
  rfl
theorem oddR_high (r : Nat) (h : 128 ≤ r) : oddR r = false := by
  unfold oddR
  simp
  omega

set_option maxHeartbeats 1000000 in
theorem odd_any (w : World) (r : Nat) (hr : r ≤ 1114111) : Calls Tryz.prog 172 #[.int .i32 r] w fun e w' => e = .returned (.bool (oddR r)) ∧ w' = w := by
  by_cases h : r = 92 ∨ r = 58 ∨ r = 42 ∨ r = 63 ∨ r = 34 ∨ r = 60 ∨ r = 62 ∨ r = 124 ∨ r = 127
  · have HO := Lib.hid (show oddR r = true by rcases h with rfl | rfl | rfl | rfl | rfl | rfl | rfl | rfl | rfl <;> decide)
    rcases h with rfl | rfl | rfl | rfl | rfl | rfl | rfl | rfl | rfl
    all_goals
      go_enter Tryz.func172, Tryz.ntmps172
      go_wp2_with fail
      go_ret
      exact ⟨by rw [HO.out]; rfl, rfl⟩
  · have HO := Lib.hid (show oddR r = decide ((r : Int) < 32) by
      have : ¬ (r = 127 ∨ r = 92 ∨ r = 58 ∨ r = 42 ∨ r = 63 ∨ r = 34 ∨ r = 60 ∨ r = 62 ∨ r = 124) := by omega
      unfold oddR
      rw [show (r == 127 || r == 92 || r == 58 || r == 42 || r == 63 || r == 34 || r == 60 || r == 62 || r == 124) = false by simp; omega, Bool.or_false]
      exact decide_eq_decide.2 (by omega))
    have q1 : ((r : Int) == 92) = false := by rw [beq_eq_false_iff_ne]; omega
    have q2 : ((r : Int) == 58) = false := by rw [beq_eq_false_iff_ne]; omega
    have q3 : ((r : Int) == 42) = false := by rw [beq_eq_false_iff_ne]; omega
    have q4 : ((r : Int) == 63) = false := by rw [beq_eq_false_iff_ne]; omega
    have q5 : ((r : Int) == 34) = false := by rw [beq_eq_false_iff_ne]; omega
    have q6 : ((r : Int) == 60) = false := by rw [beq_eq_false_iff_ne]; omega
    have q7 : ((r : Int) == 62) = false := by rw [beq_eq_false_iff_ne]; omega
    have q8 : ((r : Int) == 124) = false := by rw [beq_eq_false_iff_ne]; omega
    have q9 : ((r : Int) == 127) = false := by rw [beq_eq_false_iff_ne]; omega
    clear h
    go_enter Tryz.func172, Tryz.ntmps172
    go_wp2_with fail
    go_ret
    exact ⟨by rw [HO.out]; rfl, rfl⟩

def CutH (H : List UInt8) (w : World) (e : Ending) (w' : World) : Prop := ∃ x y, e = .returned (.tuple #[.string ⟨H.toArray⟩, x, y]) ∧ Fr [] w w'

theorem cut_any (w : World) (s : ByteArray) (hG : Gl w) (hs : s.size ≤ 100000) (H : List UInt8) (hH : headL (ls s) = H) :
    Calls Tryz.prog 142 #[.string s, .string ⟨#[46]⟩] w (CutH H w) := by
  obtain ⟨m, hm⟩ := hG.ml
  refine (Tryz.strings_Cut s ⟨#[46]⟩ m w (by omega) hm).mono ?_
  rintro e w2 ⟨rfl, n2, rfl⟩
  have e1 : (Lib.cut s.data.toList (⟨#[46]⟩ : ByteArray).data.toList).1 = H := (cut_head (ls s)).trans hH
  refine ⟨.string ⟨(Lib.cut s.data.toList (⟨#[46]⟩ : ByteArray).data.toList).2.1.toArray⟩, .bool (Lib.cut s.data.toList (⟨#[46]⟩ : ByteArray).data.toList).2.2, ?_, (Fr.refl _ _).drewN n2⟩
  rw [e1]

theorem devH_four (a b c d : UInt8) : devH [a, b, c, d] = ((decide (49 ≤ d.toNat) && decide (d.toNat ≤ 57)) && ([a, b, c] == com || [a, b, c] == lpt)) := by
  simp [devH, words4]

set_option maxHeartbeats 1000000 in
theorem device_any (w : World) (s : ByteArray) (hG : Gl w) (hs : s.size ≤ 100000) :
    Calls Tryz.prog 173 #[.string s] w fun e w' => e = .returned (.bool (devH (headL (foldL (ls s))))) ∧ Fr [] w w' := by
  have HG := Lib.hid hG
  obtain ⟨H, hH⟩ : ∃ H, headL (ls (ba (foldL (ls s)))) = H := ⟨_, rfl⟩
  have HE := Lib.hid (show headL (foldL (ls s)) = H by rw [← hH, ls_ba])
  have HH := Lib.hid hH
  clear hH hG
  have HSz := Lib.hid (show (ba (foldL (ls s))).size ≤ 100000 by rw [ba_size]; simp [foldL, ls_size]; omega)
  have HD := Lib.hid (show devH (headL (foldL (ls s))) = devH H by rw [HE.out])
  by_cases h4 : H ∈ words4
  · have hd : devH H = true := by
      unfold devH
      rw [List.contains_iff_mem.2 h4]
      rfl
    have HDT := Lib.hid (HD.out.trans hd)
    clear hd
    simp only [words4, List.mem_cons, List.not_mem_nil, or_false] at h4
    rcases h4 with rfl | rfl | rfl | rfl
    all_goals
      go_enter Tryz.func173, Tryz.ntmps173
      go_wp2_with (first
        | (go_at_call 137; refine (fold_any _ s hs).mono ?_; rintro e w1 ⟨rfl, F1⟩)
        | (go_at_call 142; refine (cut_any _ _ (HG.out.fr F1) HSz.out _ HH.out).mono ?_; rintro e w2 ⟨x2, y2, rfl, F2⟩))
      go_ret
      exact ⟨by rw [HDT.out]; rfl, F1.trans0 F2⟩
  have q : ∀ u ∈ words4, (H == u) = false := fun u hu => by rw [beq_eq_false_iff_ne]; rintro rfl; exact h4 hu
  have q1 := q [99, 111, 110] (by simp [words4])
  have q2 := q [112, 114, 110] (by simp [words4])
  have q3 := q [97, 117, 120] (by simp [words4])
  have q4 := q [110, 117, 108] (by simp [words4])
  by_cases hl : H.length = 4
  · match H, hl with
    | [a, b, c, d], _ =>
      have HD4 := Lib.hid (HD.out.trans (devH_four a b c d))
      have hx : ((⟨#[a, b, c, d]⟩ : ByteArray).extract 0 3).toList = [a, b, c] := by rw [Lib.extract_toList]; rfl
      have hg : ∀ h, ((⟨#[a, b, c, d]⟩ : ByteArray)[3]'h) = d := fun _ => rfl
      clear q h4 hl
      by_cases hd : 49 ≤ d.toNat ∧ d.toNat ≤ 57
      · have d1 : (49 : Int) ≤ (d.toNat : Int) := by omega
        have d2 : (d.toNat : Int) ≤ 57 := by omega
        have HD5 := Lib.hid (show devH (headL (foldL (ls s))) = ([a, b, c] == com || [a, b, c] == lpt) by rw [HD4.out]; simp [hd])
        clear hd
        generalize hc : ([a, b, c] == com) = bc at HD5
        generalize hl3 : ([a, b, c] == lpt) = bl at HD5
        unfold com at hc
        unfold lpt at hl3
        cases bc with
        | true =>
          go_enter Tryz.func173, Tryz.ntmps173
          go_wp2_with (first
            | (go_at_call 137; refine (fold_any _ s hs).mono ?_; rintro e w1 ⟨rfl, F1⟩)
            | (go_at_call 142; refine (cut_any _ _ (HG.out.fr F1) HSz.out _ HH.out).mono ?_; rintro e w2 ⟨x2, y2, rfl, F2⟩))
          go_ret
          exact ⟨by rw [HD5.out]; rfl, F1.trans0 F2⟩
        | false =>
          go_enter Tryz.func173, Tryz.ntmps173
          go_wp2_with (first
            | (go_at_call 137; refine (fold_any _ s hs).mono ?_; rintro e w1 ⟨rfl, F1⟩)
            | (go_at_call 142; refine (cut_any _ _ (HG.out.fr F1) HSz.out _ HH.out).mono ?_; rintro e w2 ⟨x2, y2, rfl, F2⟩))
          go_ret
          exact ⟨by rw [HD5.out]; rfl, F1.trans0 F2⟩
      · have HD5 := Lib.hid (show devH (headL (foldL (ls s))) = false by rw [HD4.out]; simp; omega)
        rcases (show d.toNat < 49 ∨ (49 ≤ d.toNat ∧ 57 < d.toNat) by omega) with h1 | ⟨h1, h2⟩
        · have d1 : (d.toNat : Int) < 49 := by omega
          clear hd h1
          go_enter Tryz.func173, Tryz.ntmps173
          go_wp2_with (first
            | (go_at_call 137; refine (fold_any _ s hs).mono ?_; rintro e w1 ⟨rfl, F1⟩)
            | (go_at_call 142; refine (cut_any _ _ (HG.out.fr F1) HSz.out _ HH.out).mono ?_; rintro e w2 ⟨x2, y2, rfl, F2⟩))
          go_ret
          exact ⟨by rw [HD5.out]; rfl, F1.trans0 F2⟩
        · have d1 : (49 : Int) ≤ (d.toNat : Int) := by omega
          have d2 : (57 : Int) < (d.toNat : Int) := by omega
          clear hd h1 h2
          go_enter Tryz.func173, Tryz.ntmps173
          go_wp2_with (first
            | (go_at_call 137; refine (fold_any _ s hs).mono ?_; rintro e w1 ⟨rfl, F1⟩)
            | (go_at_call 142; refine (cut_any _ _ (HG.out.fr F1) HSz.out _ HH.out).mono ?_; rintro e w2 ⟨x2, y2, rfl, F2⟩))
          go_ret
          exact ⟨by rw [HD5.out]; rfl, F1.trans0 F2⟩
  · have hl2 : ((H.length : Int) != 4) = true := by rw [bne_iff_ne]; omega
    have HD5 := Lib.hid (show devH (headL (foldL (ls s))) = false by
      rw [HD.out]
      unfold devH
      rw [show decide (H.length = 4) = false from decide_eq_false hl, show words4.contains H = false from by rw [← Bool.not_eq_true, List.contains_iff_mem]; exact h4]
      rfl)
    clear q h4
    go_enter Tryz.func173, Tryz.ntmps173
    go_wp2_with (first
      | (go_at_call 137; refine (fold_any _ s hs).mono ?_; rintro e w1 ⟨rfl, F1⟩)
      | (go_at_call 142; refine (cut_any _ _ (HG.out.fr F1) HSz.out _ HH.out).mono ?_; rintro e w2 ⟨x2, y2, rfl, F2⟩))
    go_ret
    exact ⟨by rw [HD5.out]; rfl, F1.trans0 F2⟩
end Go.Proofs.YthbkcjlpelihlaaGreatDoor
/- Contracts: names' part. No condition but that lengths fit. -/
namespace Go.Proofs.YthbkcjlpelihlaaGreatDoor
open Go.RowKit

theorem get_ba {l : List UInt8} {i : Nat} {x : UInt8} (h : l[i]? = some x) : ∀ hh, ((⟨l.toArray⟩ : ByteArray)[i]'hh) = x := fun _ => by
  have hi : i < l.length := (List.getElem?_eq_some_iff.1 h).1
  have := (List.getElem?_eq_some_iff.1 h).2
  show l.toArray[i]'(by simpa using hi) = x
  simpa using this

theorem bt_drop (l : List UInt8) (pos j : Nat) : ((⟨l.toArray⟩ : ByteArray).get! (pos + j)).toNat = bt (l.drop pos) j := by
  rw [get_bt]
  unfold bt
  simp [List.getD_eq_getElem?_getD]

/-- The next rune. -/
theorem decode_drop (l : List UInt8) (pos : Nat) : Utf8.decode ⟨l.toArray⟩ pos = Lib.decodeN (l.length - pos) (bt (l.drop pos) 0) (bt (l.drop pos) 1) (bt (l.drop pos) 2) (bt (l.drop pos) 3) := by
  rw [Lib.decode_at]
  have h0 := bt_drop l pos 0
  rw [Nat.add_zero] at h0
  rw [h0, bt_drop, bt_drop, bt_drop]
  simp [ByteArray.size]

theorem bt_at (l : List UInt8) (pos j : Nat) (x : UInt8) (h : l[pos + j]? = some x) : bt (l.drop pos) j = x.toNat := by
  unfold bt
  rw [List.getD_eq_getElem?_getD, List.getElem?_drop, h]
  rfl

theorem oddB_high (b : UInt8) (h : 128 ≤ b.toNat) : oddB b = false := by
  rw [← oddR_byte]
  exact oddR_high _ h

theorem any_high (l : List UInt8) (pos k : Nat) (h0 : (l.take pos).any oddB = false) (hk : ∀ j, j < k → ∀ x, l[pos + j]? = some x → 128 ≤ x.toNat) : (l.take (pos + k)).any oddB = false := by
  induction k with
  | zero => exact h0
  | succ k ih =>
    have h1 := ih (fun j hj => hk j (by omega))
    rw [← Nat.add_assoc, List.take_add_one, List.any_append, h1]
    cases hx : l[pos + k]? with
    | none => rfl
    | some x => simp [oddB_high x (hk k (by omega) x hx)]

theorem wide_step (l : List UInt8) (pos : Nat) (x : UInt8) (hx : l[pos]? = some x) (hh : 128 ≤ x.toNat) (h0 : (l.take pos).any oddB = false) :
    pos + (Utf8.decode ⟨l.toArray⟩ pos).2 ≤ l.length ∧ (l.take (pos + (Utf8.decode ⟨l.toArray⟩ pos).2)).any oddB = false := by
  have hp : pos < l.length := (List.getElem?_eq_some_iff.1 hx).1
  have hb := bt_at l pos 0 x (by simpa using hx)
  rw [decode_drop]
  obtain ⟨w1, w2, w3, w4, w5⟩ := decodeN_wide (l.length - pos) (bt (l.drop pos) 0) (bt (l.drop pos) 1) (bt (l.drop pos) 2) (bt (l.drop pos) 3) (by omega) (by omega)
  refine ⟨by omega, any_high l pos _ h0 (fun j hj y hy => ?_)⟩
  have hj4 : j = 0 ∨ j = 1 ∨ j = 2 ∨ j = 3 := by omega
  have hby := bt_at l pos j y hy
  rcases hj4 with rfl | rfl | rfl | rfl
  · omega
  · have := w3 (by omega); omega
  · have := w4 (by omega); omega
  · have := w5 (by omega); omega

theorem last_at (l : List UInt8) (h : l ≠ []) : l[l.length - 1]? = some (l.getLastD 0) := by
  rw [← List.getLast?_eq_getElem?]
  cases hl : l.getLast? with
  | none => exact absurd (List.getLast?_eq_none_iff.1 hl) h
  | some x => rw [List.getLastD_eq_getLast?, hl]; rfl

set_option maxHeartbeats 2000000 in
theorem part_any (w : World) (l : List UInt8) (hG : Gl w) (hl : l.length ≤ 100000) :
    Calls Tryz.prog 127 #[.string ⟨l.toArray⟩] w fun e w' => e = .returned (.bool (partL foldL l)) ∧ Fr [] w w' := by
  have HG := Lib.hid hG
  by_cases h0 : l = []
  · subst h0
    have HP := Lib.hid (show partL foldL [] = false by decide)
    go_enter Tryz.func127, Tryz.ntmps127
    go_wp2_with fail
    go_ret
    exact ⟨by rw [HP.out]; rfl, Fr.refl _ _⟩
  have a0 : (l == []) = false := by rw [beq_eq_false_iff_ne]; exact h0
  by_cases h255 : 255 < l.length
  · have HP := Lib.hid (show partL foldL l = false by unfold partL; rw [show decide (l.length ≤ 255) = false from by simp; omega]; simp)
    have a1 : (255 : Int) < (l.length : Int) := by omega
    clear h255 h0
    go_enter Tryz.func127, Tryz.ntmps127
    go_wp2_with fail
    go_ret
    exact ⟨by rw [HP.out]; rfl, Fr.refl _ _⟩
  have a1 : (l.length : Int) ≤ 255 := by omega
  by_cases h1 : l = [46]
  · subst h1
    have HP := Lib.hid (show partL foldL [46] = false by decide)
    clear a1 h255 h0
    go_enter Tryz.func127, Tryz.ntmps127
    go_wp2_with fail
    go_ret
    exact ⟨by rw [HP.out]; rfl, Fr.refl _ _⟩
  have a2 : (l == [46]) = false := by rw [beq_eq_false_iff_ne]; exact h1
  by_cases h2 : l = [46, 46]
  · subst h2
    have HP := Lib.hid (show partL foldL [46, 46] = false by decide)
    clear a1 h255 h0 a2
    go_enter Tryz.func127, Tryz.ntmps127
    go_wp2_with fail
    go_ret
    exact ⟨by rw [HP.out]; rfl, Fr.refl _ _⟩
  have a3 : (l == [46, 46]) = false := by rw [beq_eq_false_iff_ne]; exact h2
  have HL0 := Lib.hid h0
  have hlen : 1 ≤ l.length := by cases l with | nil => exact absurd rfl h0 | cons a t => simp
  have b1 : (1 : Int) ≤ (l.length : Int) := by omega
  have b2 : (l.length : Int) - 1 < (l.length : Int) := by omega
  obtain ⟨z, hz⟩ : ∃ z, l.getLastD 0 = z := ⟨_, rfl⟩
  have hza := last_at l h0
  rw [hz] at hza
  have hg := get_ba hza
  have HPL := Lib.hid (show partL foldL l = ((z != 46) && (z != 32) && (!l.any oddB) && !devH (headL (foldL l))) by
    unfold partL
    rw [hz, show decide (1 ≤ l.length) = true from decide_eq_true hlen, show decide (l.length ≤ 255) = true from decide_eq_true (by omega), show (l != [46]) = true from by rw [bne_iff_ne]; exact h1, show (l != [46, 46]) = true from by rw [bne_iff_ne]; exact h2]
    rfl)
  clear h0 h1 h2 h255 hza hz
  by_cases z1 : z = 46
  · subst z1
    have HP := Lib.hid (show partL foldL l = false by rw [HPL.out]; rfl)
    go_enter Tryz.func127, Tryz.ntmps127
    go_wp2_with fail
    go_ret
    exact ⟨by rw [HP.out]; rfl, Fr.refl _ _⟩
  have c1 : ((z.toNat : Int) == 46) = false := by rw [beq_eq_false_iff_ne]; intro h; exact z1 (UInt8.toNat_inj.1 (show z.toNat = 46 by omega))
  by_cases z2 : z = 32
  · subst z2
    have HP := Lib.hid (show partL foldL l = false by rw [HPL.out]; rfl)
    clear z1
    go_enter Tryz.func127, Tryz.ntmps127
    go_wp2_with fail
    go_ret
    exact ⟨by rw [HP.out]; rfl, Fr.refl _ _⟩
  have c2 : ((z.toNat : Int) == 32) = false := by rw [beq_eq_false_iff_ne]; intro h; exact z2 (UInt8.toNat_inj.1 (show z.toNat = 32 by omega))
  have HPL2 := Lib.hid (show partL foldL l = ((!l.any oddB) && !devH (headL (foldL l))) by
    rw [HPL.out, show (z != 46) = true from by rw [bne_iff_ne]; exact z1, show (z != 32) = true from by rw [bne_iff_ne]; exact z2]
    rfl)
  clear z1 z2 HPL hG
  go_enter Tryz.func127, Tryz.ntmps127
  go_wp2_with fail
  clear hg c1 c2 a0 a1 a2 a3 b1 b2
  go_loopw [] (fun wr => ∃ pos : Nat, wr = w.iter ⟨l.toArray⟩ pos ∧ pos ≤ l.length ∧ (l.take pos).any oddB = false) (fun wr => l.length - wr.iterPos w.heap.size)
  case atStart => exact ⟨0, rfl, Nat.zero_le _, by simp⟩
  case round =>
    obtain ⟨pos, rfl, hp, hany⟩ := hrel
    have hsz : (⟨l.toArray⟩ : ByteArray).size = l.length := by simp [ByteArray.size]
    by_cases hlt : pos < l.length
    · obtain ⟨x, hx⟩ := some_get l pos hlt
      have hnx : ∀ ty, (Instr.next (.pointer (some ⟨w.heap.size, 0, none⟩)) true ty).run Tryz.prog (w.iter ⟨l.toArray⟩ pos) = _ := fun ty => run_next_any w ⟨l.toArray⟩ pos ty (by rw [hsz]; exact hlt)
      have hle := Lib.rune_le ⟨l.toArray⟩ pos
      have HAny := Lib.hid hany
      have HX := Lib.hid hx
      by_cases hh : 128 ≤ x.toNat
      · have hst := wide_step l pos x hx hh hany
        have hhi := decode_high ⟨l.toArray⟩ pos (by rw [hsz]; exact hlt) (by rw [get_ba hx]; exact hh)
        have HST := Lib.hid hst
        have HOR := Lib.hid (oddR_high _ hhi.1)
        have hkp := hhi.2
        clear hany hx hsz hst hhi
        generalize Utf8.decode ⟨l.toArray⟩ pos = D at *
        obtain ⟨r, k⟩ := D
        dsimp only at *
        go_wp2_with (go_at_call 172; refine (odd_any _ r hle).mono ?_; rw [HOR.out]; rintro e w2 ⟨rfl, rfl⟩)
        go_roundw
        case rel => exact ⟨pos + k, rfl, HST.out.1, HST.out.2⟩
        case measure => simp; omega
      · have hda := decode_ascii ⟨l.toArray⟩ pos (by rw [hsz]; exact hlt) (by rw [get_ba hx]; omega)
        rw [get_ba hx] at hda
        rw [hda] at hle hnx
        dsimp only at hle hnx
        have HOB := Lib.hid (oddR_byte x)
        have HT := Lib.hid (show (l.take (pos + 1)).any oddB = oddB x by rw [List.take_add_one, hx, List.any_append, hany]; simp)
        clear hany hx hsz hda hh
        cases hob : oddB x with
        | true =>
          have HP := Lib.hid (show partL foldL l = false by
            rw [HPL2.out, show l.any oddB = true from List.any_eq_true.2 ⟨x, List.mem_of_getElem? HX.out, hob⟩]
            rfl)
          have HO := Lib.hid hob
          clear hob
          go_wp2_with (go_at_call 172; refine (odd_any _ x.toNat hle).mono ?_; rw [HOB.out, HO.out]; rintro e w2 ⟨rfl, rfl⟩)
          go_ret
          exact ⟨by rw [HP.out]; rfl, (Fr.refl _ _).alloc _⟩
        | false =>
          have HO := Lib.hid hob
          clear hob
          go_wp2_with (go_at_call 172; refine (odd_any _ x.toNat hle).mono ?_; rw [HOB.out, HO.out]; rintro e w2 ⟨rfl, rfl⟩)
          go_roundw
          case rel => exact ⟨pos + 1, rfl, by omega, by rw [HT.out, HO.out]⟩
          case measure => simp; omega
    · have hpe : pos = l.length := by omega
      subst hpe
      rw [List.take_length] at hany
      have HAny := Lib.hid hany
      clear hany
      have hnx : ∀ ty, (Instr.next (.pointer (some ⟨w.heap.size, 0, none⟩)) true ty).run Tryz.prog (w.iter ⟨l.toArray⟩ l.length) = _ := fun ty => run_next_end w ⟨l.toArray⟩ l.length ty (by rw [hsz]; omega)
      have HSz := Lib.hid hsz
      clear hsz
      have F0 : Fr [] w (w.iter ⟨l.toArray⟩ l.length) := (Fr.refl _ _).alloc _
      go_wp2_with (go_at_call 173; refine (device_any _ _ (HG.out.fr F0) (by rw [HSz.out]; exact hl)).mono ?_; rintro e w2 ⟨rfl, F2⟩)
      go_ret
      exact ⟨by rw [HPL2.out, HAny.out]; rfl, F0.trans0 F2⟩
end Go.Proofs.YthbkcjlpelihlaaGreatDoor
