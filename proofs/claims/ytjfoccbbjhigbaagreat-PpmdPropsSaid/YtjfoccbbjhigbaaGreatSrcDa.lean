/- Lemmas: bytes behind bytes. No condition. -/
import Derived.Test.YtjfoccbbjhigbaaGreatSrcB
import Derived.Test.YtjfoccbbjhigbaaGreatPutSpec
namespace Go.Proofs.YtjfoccbbjhigbaaGreat
open Go.RowKit

theorem u8_ofNat (v : Nat) : Value.int .u8 (IntKind.u8.wrap (v : Int)) = Value.int .u8 ((UInt8.ofNat v).toNat : Int) := by
  rw [IntKind.wrap_u8]
  simp

theorem bv_snoc (l : List UInt8) (q : Nat) : bv (l ++ [UInt8.ofNat q]) = bv l ++ [.int .u8 ((q : Int) % 256)] := by
  simp [bv]
end Go.Proofs.YtjfoccbbjhigbaaGreat
