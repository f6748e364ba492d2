/- Contract: the reference's runes. No condition but that lengths fit. -/
import Derived.Test.YtkodindajfdagaaGreatDoorJV
import Derived.Test.YtkodindajfdagaaGreatDoorJE
import Derived.Deep.RegionHeld3
namespace Go.Proofs.YtkodindajfdagaaGreatDoor
open Go.RowKit
end Go.Proofs.YtkodindajfdagaaGreatDoor
/- Contract: the reference's Units. No condition but that lengths fit. -/
namespace Go.Proofs.YtkodindajfdagaaGreatDoor
open Go.RowKit
theorem runes_scal (n : Nat) : ∀ (l : List UInt8) (rs : List Nat),l.length ≤ n → runesL l = some rs → (∀ r ∈ rs,scal r) ∧ rs.length ≤ l.length:=by
 induction n with
 | zero =>
   intro l rs hl h
   obtain rfl : l = []:=List.eq_nil_of_length_eq_zero (by omega)
   rw [runesL_nil] at h
   obtain rfl : [] = rs:=Option.some.inj h
   exact ⟨by simp,by simp⟩
 | succ n ih =>
   intro l rs hl h
   by_cases h0 : l = []
   · subst h0
     rw [runesL_nil] at h
     obtain rfl : [] = rs:=Option.some.inj h
     exact ⟨by simp,by simp⟩
   cases hs : stepL l with
   | none => rw [runesL_none h0 hs] at h;cases h
   | some r =>
     obtain ⟨v,k⟩:=r
     have hlen : 1 ≤ l.length:=by cases l with | nil => exact absurd rfl h0 | cons x t => simp
     obtain ⟨e1,e2,e3,e4,e5⟩:=stepN_some _ _ _ _ _ v k hlen (bt_lt l 0) hs
     obtain ⟨hv,-,-⟩:=enc_step h0 hs
     rw [runesL_some h0 hs] at h
     obtain ⟨y,hy,rfl⟩:=Option.map_eq_some_iff.1 h
     obtain ⟨g1,g2⟩:=ih (l.drop k) y (by simp;omega) hy
     refine ⟨fun r hr => ?_,?_⟩
     · rcases List.mem_cons.1 hr with rfl | hr
       · exact hv
       · exact g1 r hr
     · simp at g2 ⊢
       omega
end Go.Proofs.YtkodindajfdagaaGreatDoor
