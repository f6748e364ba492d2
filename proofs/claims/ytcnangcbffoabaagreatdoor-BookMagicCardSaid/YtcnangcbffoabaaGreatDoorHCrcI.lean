/- Sums of layer 2, plain: a byte that is another one gives another sum. No condition. -/
import Derived.Test.YtcnangcbffoabaaGreatDoorHCrcP
namespace Go.Proofs.YtcnangcbffoabaaGreatDoor

theorem xor_same {a b p : Nat} (h : a ^^^ p = b ^^^ p) : a = b := by
  have := congrArg (· ^^^ p) h
  simpa [Nat.xor_assoc] using this
theorem poly_top {y : Nat} (hy : y < 2147483648) : 2147483648 ≤ y ^^^ 3988292384 := by
  refine Nat.le_of_not_lt fun h => ?_
  have h2 : (y ^^^ 3988292384) ^^^ y < 2 ^ 31 := Nat.xor_lt_two_pow h hy
  rw [Nat.xor_comm y, Nat.xor_assoc, Nat.xor_self, Nat.xor_zero] at h2
  omega
theorem bit1_inj {x y : Nat} (hx : x < 4294967296) (hy : y < 4294967296) (h : bit1 x = bit1 y) : x = y := by
  unfold bit1 at h
  have tx : x / 2 < 2147483648 := by omega
  have ty : y / 2 < 2147483648 := by omega
  have px := poly_top tx
  have py := poly_top ty
  split at h
  · split at h
    · have := xor_same h
      omega
    · omega
  · split at h
    · omega
    · omega
theorem bitN_inj {x y : Nat} (hx : x < 4294967296) (hy : y < 4294967296) : ∀ k, bitN k x = bitN k y → x = y
  | 0, h => h
  | k + 1, h => bitN_inj hx hy k (bit1_inj (bitN_lt hx k) (bitN_lt hy k) h)
theorem crcStep_inj {x y : Nat} {b : UInt8} (hx : x < 4294967296) (hy : y < 4294967296) (h : crcStep x b = crcStep y b) : x = y := by
  have hb := b.toNat_lt
  exact xor_same (bitN_inj (Nat.xor_lt_two_pow (n := 32) hx (by omega)) (Nat.xor_lt_two_pow (n := 32) hy (by omega)) 8 h)
theorem crcStep_byte {x : Nat} {b c : UInt8} (hx : x < 4294967296) (h : crcStep x b = crcStep x c) : b = c := by
  have hb := b.toNat_lt
  have hc := c.toNat_lt
  have h1 := bitN_inj (Nat.xor_lt_two_pow (n := 32) hx (by omega)) (Nat.xor_lt_two_pow (n := 32) hx (by omega)) 8 h
  rw [Nat.xor_comm x, Nat.xor_comm x] at h1
  exact UInt8.toNat_inj.1 (xor_same h1)
theorem crcGo_inj : ∀ (l : List UInt8) {x y : Nat}, x < 4294967296 → y < 4294967296 → crcGo x l = crcGo y l → x = y
  | [], _, _, _, _, h => h
  | b :: t, _, _, hx, hy, h => crcStep_inj hx hy (crcGo_inj t (crcStep_lt hx b) (crcStep_lt hy b) h)
/-- Rows of bytes that differ in one place have different sums. -/
theorem crcL_turn (l t : List UInt8) (b c : UInt8) (h : b ≠ c) : crcL (l ++ b :: t) ≠ crcL (l ++ c :: t) := by
  intro e
  have h0 : crcGo 4294967295 l < 4294967296 := crcGo_lt l (by omega)
  unfold crcL at e
  have h1 : crcGo 4294967295 (l ++ b :: t) < 4294967296 := crcGo_lt _ (by omega)
  have h2 : crcGo 4294967295 (l ++ c :: t) < 4294967296 := crcGo_lt _ (by omega)
  have h3 : crcGo 4294967295 (l ++ b :: t) = crcGo 4294967295 (l ++ c :: t) := by omega
  unfold crcGo at h3 h0
  rw [List.foldl_append, List.foldl_append, List.foldl_cons, List.foldl_cons] at h3
  exact h (crcStep_byte h0 (crcGo_inj t (crcStep_lt h0 b) (crcStep_lt h0 c) h3))
end Go.Proofs.YtcnangcbffoabaaGreatDoor
