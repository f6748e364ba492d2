/- The plain reader of subs and streams. No condition. -/
import Derived.Test.YtkodindajfdagaaGreatDoorJJ
import Derived.Test.YtkodindajfdagaaGreatDoorHWholeM
import Derived.Test.YtkodindajfdagaaGreatDoorHCellsM
namespace Go.Proofs.YtkodindajfdagaaGreatDoor
def plainL (L : List Fol) : List (List Sub):=L.map fun x => [⟨wholeOf x.f,x.ck⟩]
def noSub : Sub:=⟨0,⟨false,0⟩⟩
def countsGo : List (List Sub) → Rs → List (List Sub) → List (List Sub) × Rs
 | [],s,D => (D,s)
 | x :: t,s,D =>
   if (s.things.2.check (decide (s.things.1 = 0)) 14).ok.k ≠ 0 then (D ++ x :: t,(s.things.2.check (decide (s.things.1 = 0)) 14).ok)
   else countsGo t (s.things.2.check (decide (s.things.1 = 0)) 14).ok (D ++ [if 1 < s.things.1 then List.replicate s.things.1 noSub else x])
def cutGo : Nat → Nat → Rs → List Nat → Bool × List Nat × Rs
 | 0,left,s,Z => (false,Z ++ [left],s)
 | m + 1,left,s,Z =>
   if (s.size.2.check (decide (left < s.size.1)) 13).ok.k ≠ 0 then (true,Z,(s.size.2.check (decide (left < s.size.1)) 13).ok)
   else cutGo m (left - s.size.1) (s.size.2.check (decide (left < s.size.1)) 13).ok (Z ++ [s.size.1])
def withSizes (l : List Sub) (Z : List Nat) : List Sub:=l.mapIdx fun i x => match Z[i]? with | some z => { x with size:=UInt64.ofNat z } | none => x
def cutL (f : Folder) (l : List Sub) (s : Rs) : List Sub × Rs:=(withSizes l (cutGo (l.length - 1) (wholeOf f).toNat s []).2.1,(cutGo (l.length - 1) (wholeOf f).toNat s []).2.2)
def cutsGo : List Fol → List (List Sub) → Rs → List (List Sub) → List (List Sub) × Rs
 | x :: t,l :: u,s,D => if s.ok.k ≠ 0 then (D ++ l :: u,s.ok) else cutsGo t u (cutL x.f l s.ok).2 (D ++ [(cutL x.f l s.ok).1])
 | _,L,s,D => (D ++ L,s.ok)
def rowIx (x : Fol) (l : List Sub) (i : Nat) : List (Nat × Nat):=if l.length = 1 ∧ x.ck.has = true then [] else (List.range l.length).map fun k => (i,k)
def unkIxN (F : List Fol) (L : List (List Sub)) (n : Nat) : List (Nat × Nat):=(List.range n).flatMap fun i => match F[i]?,L[i]? with | some x,some l => rowIx x l i | _,_ => []
def unkIx (F : List Fol) (L : List (List Sub)) : List (Nat × Nat):=unkIxN F L L.length
def unknownN (F : List Fol) (L : List (List Sub)) : Nat:=(unkIx F L).length
def putCk (L : List (List Sub)) (p : Nat × Nat) (c : Ck) : List (List Sub):=L.modify p.1 fun l => l.modify p.2 fun y => { y with ck:=c }
def giveCks (F : List Fol) (L : List (List Sub)) (cs : List Ck) : List (List Sub):=((unkIx F L).zip cs).foldl (fun M q => putCk M q.1 q.2) L
def Rs.subsC (F : List Fol) (L : List (List Sub)) (id : Nat) (s : Rs) : List (List Sub) × Rs :=
 if (s.at (id == 10)).1 then (giveCks F L ((s.at (id == 10)).2.sums (unknownN F L)).1,((s.at (id == 10)).2.sums (unknownN F L)).2.byte.2.end_ ((s.at (id == 10)).2.sums (unknownN F L)).2.byte.1)
 else (L,(s.at (id == 10)).2.end_ id)
def Rs.subsB (F : List Fol) (L : List (List Sub)) (id : Nat) (s : Rs) : List (List Sub) × Rs :=
 if (s.at (id == 9)).1 then Rs.subsC F (cutsGo F L (s.at (id == 9)).2 []).1 (cutsGo F L (s.at (id == 9)).2 []).2.byte.1 (cutsGo F L (s.at (id == 9)).2 []).2.byte.2
 else Rs.subsC F L id (if ((s.at (id == 9)).2.at (L.any fun l => decide (1 < l.length))).1 then ((s.at (id == 9)).2.at (L.any fun l => decide (1 < l.length))).2.fail 5 else ((s.at (id == 9)).2.at (L.any fun l => decide (1 < l.length))).2)
def Rs.subsA (F : List Fol) (L : List (List Sub)) (id : Nat) (s : Rs) : List (List Sub) × Rs :=
 if (s.at (id == 13)).1 then Rs.subsB F (countsGo L (s.at (id == 13)).2 []).1 (countsGo L (s.at (id == 13)).2 []).2.byte.1 (countsGo L (s.at (id == 13)).2 []).2.byte.2
 else Rs.subsB F L id (s.at (id == 13)).2
def Rs.subs (F : List Fol) (L : List (List Sub)) (s : Rs) : List (List Sub) × Rs:=Rs.subsA F L s.byte.1 s.byte.2
end Go.Proofs.YtkodindajfdagaaGreatDoor
/- Subs that are read: what lies in memory. No condition. -/
namespace Go.Proofs.YtkodindajfdagaaGreatDoor
open Go.RowKit Go.Maps
structure SubsM (w : World) (lo : Nat) (svs : List Value) (L : List (List Sub)) : Prop where
 len : svs.length = L.length
 row : ∀ (i : Nat) v l,svs[i]? = some v → L[i]? = some l → w.ownsRow lo 89 3 v l.length (sbV l)
 dis : ∀ (i j : Nat) u v b,i ≠ j → svs[i]? = some u → svs[j]? = some v → u.ownBlock = some b → v.ownBlock ≠ some b
theorem SubsM.nil (w : World) (lo : Nat) : SubsM w lo [] []:=⟨rfl,fun i v l h => by simp at h,fun i j u v b _ h => by simp at h⟩
theorem SubsM.frT {w w' : World} {lo : Nat} {svs : List Value} {L : List (List Sub)} {S : List Nat} (h : SubsM w lo svs L) (F : Fr S w w') (hS : ∀ i ∈ S,i < lo ∨ ∀ cs z,w.heap[i]? ≠ some (.cells cs 89 z)) : SubsM w' lo svs L :=
 ⟨h.len,fun i v l h1 h2 => own_frT (h.row i v l h1 h2) F hS,h.dis⟩
theorem SubsM.snoc {w w' : World} {lo : Nat} {svs : List Value} {L : List (List Sub)} {v : Value} {l : List Sub} (h : SubsM w lo svs L) (F : Fr [] w w') (hv : w'.ownsRow w.heap.size 89 3 v l.length (sbV l)) (hlo : lo ≤ w.heap.size) : SubsM w' lo (svs ++ [v]) (L ++ [l]):=by
 have h':=h.frT F (by simp)
 have hold : ∀ (i : Nat) u b,svs[i]? = some u → u.ownBlock = some b → b < w.heap.size:=fun i u b hu hb => by
   have hi:=(List.getElem?_eq_some_iff.1 hu).1
   obtain ⟨x,hx⟩:=some_get L i (by rw [← h.len];exact hi)
   exact (own_ltS (h.row i u x hu hx) b hb).2
 have hv' : w'.ownsRow lo 89 3 v l.length (sbV l):=by
   refine ⟨hv.1,?_⟩
   rcases hv.2 with h1 | ⟨g,cap,cur,rfl,hb,rest⟩
   · exact .inl h1
   · exact .inr ⟨g,cap,cur,rfl,by omega,rest⟩
 have last : ∀ {α : Type} {a : List α} {x y : α} {i : Nat},(a ++ [x])[i]? = some y → ¬ i < a.length → y = x ∧ i = a.length:=fun {α a x y i} hh hn => by
   rw [List.getElem?_append_right (by omega)] at hh
   have h0 : i - a.length = 0:=by
     have:=(List.getElem?_eq_some_iff.1 hh).1
     simp at this
     omega
   rw [h0] at hh
   simp at hh
   exact ⟨hh.symm,by omega⟩
 refine ⟨by rw [List.length_append,List.length_append,h.len];rfl,fun i u x h1 h2 => ?_,fun i j u x b hij h1 h2 hb => ?_⟩
 · by_cases hi : i < svs.length
   · rw [List.getElem?_append_left hi] at h1
     rw [List.getElem?_append_left (by rw [← h.len];exact hi)] at h2
     exact h'.row i u x h1 h2
   · obtain ⟨rfl,-⟩:=last h1 hi
     obtain ⟨rfl,-⟩:=last h2 (by rw [← h.len];exact hi)
     exact hv'
 · by_cases hi : i < svs.length
   · rw [List.getElem?_append_left hi] at h1
     by_cases hj : j < svs.length
     · rw [List.getElem?_append_left hj] at h2
       exact h.dis i j u x b hij h1 h2 hb
     · obtain ⟨rfl,-⟩:=last h2 hj
       intro hx
       have:=hold i u b h1 hb
       have:=(own_ltS hv b hx).1
       omega
   · obtain ⟨rfl,hi2⟩:=last h1 hi
     by_cases hj : j < svs.length
     · rw [List.getElem?_append_left hj] at h2
       intro hx
       have:=hold j x b h2 hx
       have:=(own_ltS hv b hb).1
       omega
     · obtain ⟨-,hj2⟩:=last h2 hj
       omega
end Go.Proofs.YtkodindajfdagaaGreatDoor
