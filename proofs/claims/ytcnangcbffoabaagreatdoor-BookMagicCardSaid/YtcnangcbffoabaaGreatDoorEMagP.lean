/- How an archive begins: the plain law. No condition. -/
import Derived.Test.YtcnangcbffoabaaGreatDoorHOpenP
import Derived.Test.YtcnangcbffoabaaGreatDoorHOpenS
namespace Go.Proofs.YtcnangcbffoabaaGreatDoor

theorem magic_no {b : List UInt8} {i : Nat} (hi : i < 6) (hib : i < b.length) (h : b[i]? ≠ magicL[i]?) : opCode b = 1 := opCode_m (by
  rw [beq_eq_false_iff_ne]
  intro e
  have h2 := congrArg (·[i]?) e
  rw [List.getElem?_take, List.getElem?_take, if_pos (by omega), if_pos (by omega)] at h2
  exact h h2)
theorem magic_yes {b : List UInt8} (h : ∀ i, i < 6 → i < b.length → b[i]? = magicL[i]?) {k : Nat} (hk : k ≤ b.length) (hk2 : k < 32) : opCode (b.take k) = 3 := opCode_s (by
  rw [beq_iff_eq]
  refine List.ext_getElem? fun i => ?_
  rw [List.getElem?_take, List.getElem?_take, List.getElem?_take, List.length_take]
  by_cases hi : i < min 6 (min k b.length)
  · rw [if_pos hi, if_pos hi, if_pos (by omega)]
    exact h i (by omega) (by omega)
  · rw [if_neg hi, if_neg hi]) (by rw [List.length_take]; omega)
end Go.Proofs.YtcnangcbffoabaaGreatDoor
