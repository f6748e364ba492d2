/- Plain: a setting's properties are read as it was (layer 18). -/
import Derived.Test.YtjfoccbbjhigbaaGreatMRpa
import Derived.Test.YtjfoccbbjhigbaaGreatMPro
namespace Go.Proofs.YtjfoccbbjhigbaaGreat
open Go.RowKit
theorem parP_proT (O M : Nat) (h : mayT (O : Int) (M : Int) = true) : parP (proT O M) = (true, O, M) := by
  obtain ⟨m1, m2, m3, m4⟩ := (mayT_iff _ _).1 h
  have e : proT O M = [UInt8.ofNat O, UInt8.ofNat M, UInt8.ofNat (M / 256), UInt8.ofNat (M / 256 / 256), UInt8.ofNat (M / 256 / 256 / 256)] := by
    unfold proT
    rw [h]
    rfl
  have e0 : (UInt8.ofNat O).toNat = O := by simp; omega
  have e1 : leNat [UInt8.ofNat M, UInt8.ofNat (M / 256), UInt8.ofNat (M / 256 / 256), UInt8.ofNat (M / 256 / 256 / 256)] = M := by
    simp [leNat]
    omega
  rw [e, parP_five, e0, e1, h]
theorem parP_nil : (parP []).1 = false := rfl
theorem proT_not (o m : Int) (h : mayT o m = false) : proT o m = [] := by unfold proT; rw [h]; rfl
end Go.Proofs.YtjfoccbbjhigbaaGreat
