/- What is put is read as it was: the plain law. No condition. -/
import Derived.Test.YtklbocdeifebkaaShortSpec
import Derived.Test.YtklbocdeifebkaaBitsSpec
namespace Go.Proofs.Ytklbocdeifebkaa
open Go.RowKit

/-- A word, put twice. -/
def enc1 (x : UInt64) : List UInt8 := putNumber [] x.toNat ++ leBytes 4 x.toNat
def enc (l : List UInt64) : List UInt8 := l.flatMap enc1

theorem enc_snoc (l : List UInt64) (x : UInt64) : enc (l ++ [x]) = enc l ++ enc1 x := by simp [enc]

theorem putNumber_append (b : List UInt8) (v : Nat) : putNumber b v = b ++ putNumber [] v := by simp [putNumber]

theorem enc1_length (x : UInt64) : (enc1 x).length ≤ 13 := by
  have := extra_le x.toNat
  unfold enc1
  rw [List.length_append, putNumber_length, leBytes_length]
  simp; omega

theorem enc_length (l : List UInt64) : (enc l).length ≤ 13 * l.length := by
  induction l with
  | nil => simp [enc]
  | cons x l ih =>
    have := enc1_length x
    have e : enc (x :: l) = enc1 x ++ enc l := by simp [enc]
    rw [e, List.length_append, List.length_cons]
    omega

theorem enc_split (l : List UInt64) (k : Nat) (x : UInt64) (h : l[k]? = some x) : ∃ post, enc l = enc (l.take k) ++ enc1 x ++ post := by
  have hk := (List.getElem?_eq_some_iff.1 h).1
  refine ⟨enc (l.drop (k + 1)), ?_⟩
  rw [← enc_snoc, ← take_succ' l k x h]
  unfold enc
  rw [← List.flatMap_append, List.take_append_drop]

theorem ones_first (v : Nat) (_hv : v < 18446744073709551616) : Cur.ones (firstByte v).toNat = extra v ∧ (extra v < 7 → (firstByte v).toNat % 2 ^ (7 - extra v) = v / 256 ^ extra v) := by
  have h8 := extra_le v
  unfold firstByte
  obtain ⟨k, hk⟩ : ∃ k, k = extra v := ⟨_, rfl⟩
  rw [← hk] at h8 ⊢
  by_cases h7 : k < 7
  · rw [if_pos h7]
    have h0 := extra_at v (by omega)
    rw [← hk] at h0
    have hlt : v / 256 ^ k < 2 ^ (7 - k) := by
      have h1 : v < 2 ^ (7 * k + 7) := (Nat.div_eq_zero_iff_lt (Nat.pow_pos (by decide))).1 h0
      rw [pow256, Nat.div_lt_iff_lt_mul (Nat.pow_pos (by decide)), ← Nat.pow_add, show 7 - k + 8 * k = 7 * k + 7 from by omega]
      exact h1
    have h7' : 2 ^ (7 - k) ≤ 2 ^ 7 := Nat.pow_le_pow_right (by decide) (by omega)
    generalize v / 256 ^ k = q at *
    have hs := first_small k q h7 hlt
    have key : ∀ (j : Fin 7) (z : Fin 128), z.val < 2 ^ (7 - j.val) → Cur.ones (65280 / 2 ^ j.val % 256 + z.val) = j.val ∧ (65280 / 2 ^ j.val % 256 + z.val) % 2 ^ (7 - j.val) = z.val := by decide +kernel
    have := key ⟨k, h7⟩ ⟨q, by omega⟩ hlt
    have e : (UInt8.ofNat (65280 / 2 ^ k % 256 + q)).toNat = 65280 / 2 ^ k % 256 + q := by simp; omega
    rw [e]
    exact ⟨this.1, fun _ => this.2⟩
  · rw [if_neg h7]
    have hk' : k = 7 ∨ k = 8 := by omega
    rcases hk' with rfl | rfl <;> exact ⟨by decide, by omega⟩

/-- A short number that stands at the cursor is read. -/
theorem number_back (pre post : List UInt8) (v : Nat) (hv : v < 18446744073709551616) :
    Cur.number ⟨pre ++ putNumber [] v ++ post, pre.length, 0⟩ = (v, ⟨pre ++ putNumber [] v ++ post, pre.length + (putNumber [] v).length, 0⟩) := by
  have hx8 := extra_le v
  obtain ⟨h1, h2⟩ := ones_first v hv
  have hlen : (putNumber [] v).length = 1 + extra v := by rw [putNumber_length]; simp
  have hg : (pre ++ putNumber [] v ++ post).getD pre.length 0 = firstByte v := by
    unfold putNumber; simp
  have hh : Cur.head ⟨pre ++ putNumber [] v ++ post, pre.length, 0⟩ = (firstByte v).toNat := by
    unfold Cur.head; dsimp only; rw [hg]
  unfold Cur.number
  rw [hh, h1, if_neg (by unfold Cur.left; simp only [if_true, List.length_append, hlen]; omega)]
  have hd : ((pre ++ putNumber [] v ++ post).drop (pre.length + 1)).take (extra v) = leBytes (extra v) v := by
    unfold putNumber
    rw [List.nil_append, List.append_assoc, ← List.drop_drop, List.drop_left]
    rw [List.cons_append, List.drop_succ_cons, List.drop_zero, List.take_left' (leBytes_length _ _)]
  have hval : leNat (leBytes (extra v) v) + 256 ^ extra v * (if extra v < 7 then (firstByte v).toNat % 2 ^ (7 - extra v) else 0) = v := by
    rw [leNat_leBytes_mod]
    by_cases h7 : extra v < 7
    · rw [if_pos h7, h2 h7]; exact Nat.mod_add_div _ _
    · rw [if_neg h7]
      have hb : v < 256 ^ extra v := by
        have hk' : extra v = 7 ∨ extra v = 8 := by omega
        rcases hk' with h | h
        · have := extra_at v (by omega)
          rw [h] at this ⊢
          simp only [Nat.reduceMul, Nat.reduceAdd, Nat.reducePow] at this ⊢
          omega
        · rw [h]; simp only [Nat.reducePow]; omega
      rw [Nat.mod_eq_of_lt hb]; omega
  dsimp only
  rw [hd, hval, hlen, Nat.add_assoc]

theorem num_back (pre post : List UInt8) (v : Nat) :
    Cur.num ⟨pre ++ leBytes 4 v ++ post, pre.length, 0⟩ 4 = (v % 4294967296, ⟨pre ++ leBytes 4 v ++ post, pre.length + 4, 0⟩) := by
  have ht : Cur.take ⟨pre ++ leBytes 4 v ++ post, pre.length, 0⟩ 4 = (leBytes 4 v, ⟨pre ++ leBytes 4 v ++ post, pre.length + 4, 0⟩) := by
    unfold Cur.take
    rw [if_neg (by unfold Cur.left; simp [leBytes_length])]
    dsimp only
    rw [List.append_assoc, List.drop_left, List.take_left' (leBytes_length _ _)]
  unfold Cur.num
  rw [if_pos (by decide)]
  show (leNat (Cur.take _ 4).1, (Cur.take _ 4).2) = _
  rw [ht, leNat_leBytes_mod]

theorem bitOf_pack (row : List Bool) (i : Nat) (hi : i < 8 * ((row.length + 7) / 8)) : bitOf (packBits row) i = bitAt row i := by
  have hg : (packBits row).getD (i / 8) 0 = UInt8.ofNat (byteOf (bitAt row) (i / 8)) := by
    rw [List.getD_eq_getElem?_getD, packBits, packF_get _ _ _ (by omega)]; rfl
  unfold bitOf
  have hb := byteOf_lt (bitAt row) (i / 8)
  have e : (UInt8.ofNat (byteOf (bitAt row) (i / 8))).toNat = byteOf (bitAt row) (i / 8) := by simp; omega
  rw [hg, e, byteOf_bit _ _ _ (by omega), show 8 * (i / 8) + i % 8 = i from by omega]
  cases bitAt row i <;> rfl

theorem unpack_pack (row : List Bool) : unpack (packBits row) row.length = row := by
  apply List.ext_getElem
  · simp [unpack_length]
  · intro i h1 h2
    simp only [unpack, List.getElem_map, List.getElem_range]
    rw [bitOf_pack row i (by omega)]
    unfold bitAt
    simp [h2]

theorem not_padded (row : List Bool) : padded (packBits row) row.length = false := by
  rw [padded_false]
  intro i h1 h2
  rw [bitOf_pack row i h2]
  unfold bitAt
  rw [List.getD_eq_getElem?_getD, List.getElem?_eq_none h1]; rfl

theorem packBits_length (row : List Bool) : (packBits row).length = (row.length + 7) / 8 := by simp [packBits, packF_length]

theorem bits_back (pre post : List UInt8) (row : List Bool) :
    Cur.bits ⟨pre ++ packBits row ++ post, pre.length, 0⟩ row.length = (row, ⟨pre ++ packBits row ++ post, pre.length + (packBits row).length, 0⟩) := by
  have hr : Cur.row ⟨pre ++ packBits row ++ post, pre.length, 0⟩ row.length = packBits row := by
    unfold Cur.row
    dsimp only
    rw [List.append_assoc, List.drop_left, List.take_left' (packBits_length row)]
  unfold Cur.bits
  rw [Int.toNat_natCast, if_neg (by unfold Cur.left; simp [packBits_length]), hr, not_padded, unpack_pack, packBits_length]
  rfl

theorem told_back (pre : List UInt8) (row : List Bool) :
    Cur.told ⟨pre ++ putTold [] row, pre.length, 0⟩ row.length = (row, ⟨pre ++ putTold [] row, pre.length + (putTold [] row).length, 0⟩) := by
  unfold Cur.told
  by_cases h : row.all id = true
  · have e : putTold [] row = [1] := by unfold putTold; rw [if_pos h]; rfl
    have hrep : List.replicate row.length true = row := by
      apply List.ext_getElem
      · simp
      · intro i h1 h2
        rw [List.getElem_replicate]
        have := List.all_eq_true.1 h row[i] (List.getElem_mem h2)
        simpa using this.symm
    rw [e, if_neg (by unfold Cur.left; simp), if_pos (by simp [Cur.head]), Int.toNat_natCast, hrep]
    rfl
  · have e : putTold [] row = 0 :: packBits row := by unfold putTold; rw [if_neg h]; rfl
    have hb := bits_back (pre ++ [0]) [] row
    simp only [List.append_nil, List.length_append, List.length_cons, List.length_nil, Nat.zero_add, List.append_assoc, List.cons_append, List.nil_append] at hb
    rw [e, if_neg (by unfold Cur.left; simp), if_neg (by simp [Cur.head]), if_pos (by simp [Cur.head])]
    dsimp only
    rw [hb, if_neg (by simp)]
    simp only [List.length_cons]
    rw [show pre.length + 1 + (packBits row).length = pre.length + ((packBits row).length + 1) from by omega]

theorem putTold_append (b : List UInt8) (row : List Bool) : putTold b row = b ++ putTold [] row := by
  unfold putTold; split <;> simp

theorem putTold_length (row : List Bool) : (putTold [] row).length ≤ row.length + 8 := by
  unfold putTold; split
  · simp
  · simp [packBits_length]; omega
end Go.Proofs.Ytklbocdeifebkaa
