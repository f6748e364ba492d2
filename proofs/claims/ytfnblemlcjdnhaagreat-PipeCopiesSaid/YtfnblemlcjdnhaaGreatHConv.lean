/- Bytes as a text. No condition. -/
import Derived.Test.YtfnblemlcjdnhaaGreatBase
import Derived.Laws.BytesString
namespace Go.Proofs.YtfnblemlcjdnhaaGreat
open Go.RowKit

set_option maxRecDepth 100000 in
/-- 'string(b)'. -/
theorem conv_sl (w : World) (ao : Option Addr) (n cap : Nat) (l : List UInt8) (hn : n = l.length) (h : Sl w (.slice ao n cap) (bv l)) :
    (convert 22 9 (.slice ao n cap)).run Tryz.prog w = .ok (.string ⟨l.toArray⟩) w := by
  subst hn
  obtain ⟨ao', cap', he, h1, h2, h3, h4⟩ := h
  rw [bv_length] at he h1
  injection he with e1 e2 e3
  subst e1 e3
  cases ao with
  | none =>
    have hc := h3 rfl
    have : l = [] := List.eq_nil_of_length_eq_zero (by omega)
    subst this
    subst hc
    rfl
  | some a =>
    refine run_convert_bytes_back w 22 9 5 a cap l Tryz.underlying22 Tryz.underlying5 Tryz.underlying9 (fun j hj => ?_)
    obtain ⟨q1, q2, q3⟩ := h4 a rfl (by omega)
    obtain ⟨b, o, s⟩ := a
    dsimp only at q1 q2 q3
    subst q1
    have e : (⟨b, o, none⟩ : Addr).add j = ⟨b, o + j, none⟩ := by unfold Addr.add; split <;> simp_all
    rw [e, q3 j (by rw [bv_length]; exact hj)]
    exact bv_get _ _ _ (by simp)
end Go.Proofs.YtfnblemlcjdnhaaGreat
