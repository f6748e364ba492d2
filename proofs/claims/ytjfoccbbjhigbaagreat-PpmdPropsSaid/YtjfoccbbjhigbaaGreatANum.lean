/- Contracts: numbers of the arena (layer 16). No condition but that places and lengths fit. -/
import Derived.Test.YtjfoccbbjhigbaaGreatAMem
import Derived.Test.YtjfoccbbjhigbaaGreatBits
namespace Go.Proofs.YtjfoccbbjhigbaaGreat
open Go.RowKit
/-- All bytes are bytes. -/
def Ar.Byt (a : Ar) : Prop := ∀ p, a.mem p < 256
theorem Ar.Byt.byte {a : Ar} (h : a.Byt) (p : Nat) : a.byte p < 256 := by unfold Ar.byte; split; exact h p; omega
theorem Ar.Byt.num {a : Ar} (h : a.Byt) (p : Nat) : ∀ n, a.num p n < 256 ^ n
  | 0 => by simp [Ar.num]
  | n + 1 => by
    have h1 := Ar.Byt.num h p n
    have h2 := h.byte (p + n)
    have h3 : a.byte (p + n) * 256 ^ n ≤ 255 * 256 ^ n := Nat.mul_le_mul (by omega) (Nat.le_refl _)
    simp only [Ar.num, Nat.pow_succ]
    omega
theorem or_i64 (a b : Nat) (ha : a < 4611686018427387904) (hb : b < 4611686018427387904) : bits .or .i64 (a : Int) (b : Int) = ((a ||| b : Nat) : Int) := by
  have hx : a ||| b < 2 ^ 62 := Nat.or_lt_two_pow (by omega) (by omega)
  have h1 : (BitVec.ofInt 64 (a : Int)).toNat = a := by rw [BitVec.ofInt_natCast, BitVec.toNat_ofNat]; exact Nat.mod_eq_of_lt (by omega)
  have h2 : (BitVec.ofInt 64 (b : Int)).toNat = b := by rw [BitVec.ofInt_natCast, BitVec.toNat_ofNat]; exact Nat.mod_eq_of_lt (by omega)
  show IntKind.i64.wrap ((BitVec.ofInt 64 (a : Int) ||| BitVec.ofInt 64 (b : Int)).toNat : Int) = _
  rw [BitVec.toNat_or, h1, h2]
  exact IntWalk.i64_in _ (by omega)
/-- One step of 'v |= int(b) << (8*uint(k))'. -/
theorem num_step (s k x : Nat) (hk : k < 6) (hs : s < 256 ^ k) (hx : x < 256) :
    bits BinOp.or IntKind.i64 (s : Int) (wrap64 (wrap64 (x : Int) * 2 ^ (8 * k))) = ((s + x * 256 ^ k : Nat) : Int) := by
  have h3 : (256 : Nat) ^ 6 = 281474976710656 := by decide
  have h1 : 256 ^ (k + 1) ≤ 256 ^ 6 := pow256_le (by omega)
  rw [Nat.pow_succ] at h1
  have h2 : x * 256 ^ k ≤ 256 ^ k * 256 := by rw [Nat.mul_comm]; exact Nat.mul_le_mul (Nat.le_refl _) (by omega)
  have e0 : wrap64 (x : Int) = (x : Int) := by unfold wrap64; omega
  have e1 : ((x : Int) * 2 ^ (8 * k)) = ((x * 256 ^ k : Nat) : Int) := by rw [pow256]; push_cast; rfl
  have e2 : wrap64 ((x * 256 ^ k : Nat) : Int) = ((x * 256 ^ k : Nat) : Int) := by unfold wrap64; omega
  rw [e0, e1, e2]
  have e3 : s ||| x * 256 ^ k = s + x * 256 ^ k := by rw [pow256, or_high _ _ _ (by rw [← pow256]; exact hs), Nat.mul_comm]
  rw [or_i64 _ _ (by omega) (by omega), e3]
section
variable {w : World} {ab mb mp : Nat} {a : Ar}
set_option maxRecDepth 100000 in
theorem num_any (h : ArAt w ab mb mp a) (hB : a.Byt) (p n : Nat) (hp : p ≤ 1000000000) (hn : n ≤ 6) :
    Calls Tryz.prog 124 #[.pointer (some ⟨ab, 0, none⟩), .int .i64 p, .int .i64 n] w fun e w' => e = .returned (.int .i64 (a.num p n)) ∧ w' = w := by
  have HBY := Lib.hid (fun k (hk : k < n) => byte_any h (p + k) (by omega))
  go_enter Tryz.func124, Tryz.ntmps124
  go_wp2_with fail
  go_loopw [7, 10] (fun v i wr => ∃ k : Nat, k ≤ n ∧ v = .int .i64 (a.num p k) ∧ i = .int .i64 k ∧ wr = w) (fun _ i _ => n - (intOf i).toNat)
  case atStart => exact ⟨0, Nat.zero_le _, rfl, rfl, rfl⟩
  case round =>
    obtain ⟨k, hk, rfl, rfl, rfl⟩ := hrel
    by_cases hlt : k < n
    · have HC := Lib.hid (HBY.out k hlt)
      have hkn : (k : Int) < (n : Int) := by omega
      go_wp2_with (go_at_call 127; refine HC.out.mono ?_; rintro e w2 ⟨rfl, rfl⟩)
      go_roundw
      case rel => exact ⟨k + 1, hlt, by rw [num_step _ _ _ (by omega) (hB.num p k) (hB.byte _)]; rfl, rfl, trivial⟩
      case measure => simp [intOf]; omega
    · obtain rfl : k = n := by omega
      go_wp2_with fail
      go_ret
      exact ⟨rfl, rfl⟩
set_option maxRecDepth 100000 in
theorem setnum_any (h : ArAt w ab mb mp a) (p n v : Nat) (hp : p ≤ 1000000000) (hn : n ≤ 6) :
    Calls Tryz.prog 95 #[.pointer (some ⟨ab, 0, none⟩), .int .i64 p, .int .i64 n, .int .i64 v] w fun e w' => e = .returned (.tuple #[]) ∧ ArAt w' ab mb mp (a.setNum p n v) ∧ Fr [mb] w w' := by
  have HH := Lib.hid h
  clear h
  go_enter Tryz.func95, Tryz.ntmps95
  go_wp2_with fail
  go_loopw [10] (fun i wr => ∃ k : Nat, k ≤ n ∧ i = .int .i64 k ∧ ArAt wr ab mb mp (a.setNum p k v) ∧ Fr [mb] w wr) (fun i _ => n - (intOf i).toNat)
  case atStart => exact ⟨0, Nat.zero_le _, rfl, HH.out, Fr.refl _ _⟩
  case round =>
    obtain ⟨k, hk, rfl, H, F⟩ := hrel
    by_cases hlt : k < n
    · have hc := setbyte_any H (p + k) (v / 256 ^ k % 256)
      rw [show ((v / 256 ^ k % 256 : Nat) : Int) = (v : Int) / 2 ^ (8 * k) % 256 by rw [pow256]; push_cast; rfl] at hc
      have HC := Lib.hid hc
      clear hc
      have HF := Lib.hid F
      have hkn : (k : Int) < (n : Int) := by omega
      clear H F
      go_wp2_with (go_at_call 136; refine HC.out.mono ?_; rintro e w2 ⟨rfl, H2, F2⟩)
      go_roundw
      case rel => exact ⟨k + 1, hlt, rfl, H2, HF.out.trans F2 (fun i hi => .inl hi)⟩
      case measure => simp [intOf]; omega
    · obtain rfl : k = n := by omega
      have HF := Lib.hid (And.intro H F)
      clear H F
      go_wp2_with fail
      go_end0
      exact ⟨rfl, HF.out⟩
end
end Go.Proofs.YtjfoccbbjhigbaaGreat
