/- Open, in plain Lean; bytes.Clone. No condition. -/
import Derived.Test.YtcnangcbffoabaaGreatDoorHOpenS
import Derived.Test.YtcnangcbffoabaaGreatDoorHCrcO
namespace Go.Proofs.YtcnangcbffoabaaGreatDoor
open Go.RowKit

def opTail (place size sum rest hc : Nat) : Nat :=
  if 1099511627776 < place ∨ 1099511627776 < size then 7 else if size = 0 ∧ (0 < place ∨ 0 < sum) then 7 else if rest < place + size then 3 else if place + size < rest then 19 else if 0 < size ∧ hc ≠ sum then 4 else 0
def opPlace (b : List UInt8) : Nat := leNat ((b.drop 12).take 8)
def opSize (b : List UInt8) : Nat := leNat ((b.drop 20).take 8)
def opSum (b : List UInt8) : Nat := leNat ((b.drop 28).take 4)
/-- The code that Open tells. -/
def opCode (b : List UInt8) : Nat :=
  if (b.take (min 6 b.length) == magicL.take (min 6 b.length)) = false then 1 else if b.length < 32 then 3 else if (b.getD 6 0).toNat ≠ 0 ∨ 4 < (b.getD 7 0).toNat then 2
  else if leNat ((b.drop 8).take 4) ≠ crcL ((b.drop 12).take 20) then 4
  else opTail (opPlace b) (opSize b) (opSum b) (b.length - 32) (crcL (b.drop (32 + opPlace b)))
def opArea (b : List UInt8) : List UInt8 := if opCode b = 0 then (b.drop 32).take (opPlace b) else []
def opHead (b : List UInt8) : List UInt8 := if opCode b = 0 then b.drop (32 + opPlace b) else []

theorem opCode_m {b : List UInt8} (h : (b.take (min 6 b.length) == magicL.take (min 6 b.length)) = false) : opCode b = 1 := by unfold opCode; rw [if_pos h]
theorem opCode_s {b : List UInt8} (h : (b.take (min 6 b.length) == magicL.take (min 6 b.length)) = true) (h2 : b.length < 32) : opCode b = 3 := by unfold opCode; rw [if_neg (by rw [h]; simp), if_pos h2]
theorem opCode_v {b : List UInt8} (h : (b.take (min 6 b.length) == magicL.take (min 6 b.length)) = true) (h2 : ¬ b.length < 32) (h3 : (b.getD 6 0).toNat ≠ 0 ∨ 4 < (b.getD 7 0).toNat) : opCode b = 2 := by
  unfold opCode; rw [if_neg (by rw [h]; simp), if_neg h2, if_pos h3]
theorem opCode_c {b : List UInt8} (h : (b.take (min 6 b.length) == magicL.take (min 6 b.length)) = true) (h2 : ¬ b.length < 32) (h3 : ¬ ((b.getD 6 0).toNat ≠ 0 ∨ 4 < (b.getD 7 0).toNat)) (h4 : leNat ((b.drop 8).take 4) ≠ crcL ((b.drop 12).take 20)) : opCode b = 4 := by
  unfold opCode; rw [if_neg (by rw [h]; simp), if_neg h2, if_neg h3, if_pos h4]
theorem opCode_t {b : List UInt8} (h : (b.take (min 6 b.length) == magicL.take (min 6 b.length)) = true) (h2 : ¬ b.length < 32) (h3 : ¬ ((b.getD 6 0).toNat ≠ 0 ∨ 4 < (b.getD 7 0).toNat)) (h4 : ¬ leNat ((b.drop 8).take 4) ≠ crcL ((b.drop 12).take 20)) : opCode b = opTail (opPlace b) (opSize b) (opSum b) (b.length - 32) (crcL (b.drop (32 + opPlace b))) := by
  unfold opCode; rw [if_neg (by rw [h]; simp), if_neg h2, if_neg h3, if_neg h4]

def OpenR (w : World) (b : List UInt8) (e : Ending) (w' : World) : Prop :=
  ∃ v1 v2, e = .returned (.tuple #[v1, v2, .int .i64 (opCode b : Int)]) ∧ Sl w' v1 (bv (opArea b)) ∧ Sl w' v2 (bv (opHead b)) ∧ Fr [] w w'
theorem OpenR.bad {w w' : World} {b : List UInt8} {k : Nat} (F : Fr [] w w') (h : opCode b = k) (hk : k ≠ 0) : OpenR w b (.returned (.tuple #[.slice none 0 0, .slice none 0 0, .int .i64 (k : Int)])) w' := by
  refine ⟨_, _, by rw [h], ?_, ?_, F⟩
  · unfold opArea; rw [if_neg (by omega)]; exact Sl.nil _
  · unfold opHead; rw [if_neg (by omega)]; exact Sl.nil _

set_option maxRecDepth 100000 in
theorem bclone_any (w : World) (v : Value) (bs : List UInt8) (h : Sl w v (bv bs)) (hb : bs.length ≤ 140737488355328) :
    Calls Tryz.prog 31 #[v] w fun e w' => (∃ r, e = .returned r ∧ Sl w' r (bv bs)) ∧ Fr [] w w' := by
  have hq := @Lib.run_eql_slice_nil
  have hS := h
  obtain ⟨ao, cap, rfl, h1, h2, h3, _⟩ := h
  rw [bv_length] at h1
  cases ao with
  | none =>
    have := h3 rfl
    subst this
    have : bs = [] := List.eq_nil_of_length_eq_zero (by omega)
    subst this
    go_enter Tryz.func31, Tryz.ntmps31
    go_wp2_with fail
    go_ret
    exact ⟨⟨_, rfl, Sl.nil _⟩, Fr.refl _ _⟩
  | some ad =>
    have hy : Sl (w.alloc (.cells #[] 5)) (.slice (some ad) (bv bs).length cap) (bv bs) := hS.fr0 ((Fr.refl _ _).alloc _)
    have hbv := bv_length bs
    have hone := bv_one bs
    clear h3 hS
    go_enter Tryz.func31, Tryz.ntmps31
    go_wp2_with (at_builtin; refine wpList_append_sl sty_u8 rfl _ _ rfl w.heap.size _ 0 [] rfl (own_empty w _) _ (bv bs) rfl hy hone ?_ ?_ ?_ ?_)
    all_goals first | omega | skip
    · simp
    · intro v' w' hown hg
      have hF : Fr [] w w' := ((Fr.refl [] w).alloc _).grown hg (by simp [Value.ownBlock])
      clear hone hg hy
      go_wp2
      go_ret
      exact ⟨⟨_, rfl, Sl.of_own (by simpa using hown)⟩, hF⟩

theorem num_at (bs : List UInt8) (at_ k : Nat) (hk : Cur.sized (k : Int) = true) (h : at_ + k ≤ bs.length) : (Cur.num ⟨bs, at_, 0⟩ (k : Int)) = (leNat ((bs.drop at_).take k), ⟨bs, at_ + k, 0⟩) := by
  unfold Cur.num Cur.take Cur.left
  rw [if_pos hk]
  simp
  rw [if_neg (by omega)]
  simp
end Go.Proofs.YtcnangcbffoabaaGreatDoor
