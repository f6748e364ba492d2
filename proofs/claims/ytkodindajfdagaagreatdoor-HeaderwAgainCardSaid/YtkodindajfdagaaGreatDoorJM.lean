/- What the reader wants of names.Text (all of it stands in other texts). No condition. -/
import Derived.Test.YtkodindajfdagaaGreatDoorJL
import Derived.Test.YtkodindajfdagaaGreatDoorNTextM
import Derived.Test.YtkodindajfdagaaGreatDoorJJ
import Derived.Test.YtkodindajfdagaaGreatDoorHCellsM
namespace Go.Proofs.YtkodindajfdagaaGreatDoor
end Go.Proofs.YtkodindajfdagaaGreatDoor
/- Contract: law 20's awake: two headers and an archive that the document fixes, step by step. No condition. -/
namespace Go.Proofs.YtkodindajfdagaaGreatDoor
open Go.RowKit
theorem info_fi : (Tryz.prog.info? 54).map (fun i => (i.zero,i.size,i.bytes)) = some (some (.agg #[.string .empty,.bool false,.bool false,.bool false,.int .u32 0,.bool false,.int .u64 0]),7,40):=by kernel_rfl
def LsAt (w : World) (lp p n mb : Nat) (ev fv : Value) : Prop:=w.heap[lp]? = some (.cells #[.pointer (some ⟨p,0,none⟩),.int .i64 n,.map (some mb),ev,fv] 152 (0,0))
theorem cells5 {w : World} {g : Nat} {t : TypeId} {a0 a1 a2 a3 a4 : Value} (h : w.heap[g]? = some (.cells #[a0,a1,a2,a3,a4] t (0,0))) :
   w.cell? ⟨g,0,none⟩ = some a0 ∧ w.cell? ⟨g,1,none⟩ = some a1 ∧ w.cell? ⟨g,2,none⟩ = some a2 ∧ w.cell? ⟨g,3,none⟩ = some a3 ∧ w.cell? ⟨g,4,none⟩ = some a4 ∧ (∀ j,w.frozen? ⟨g,j,none⟩ = false) :=
 ⟨by simp [Go.Joins.cell_of_block h],by simp [Go.Joins.cell_of_block h],by simp [Go.Joins.cell_of_block h],by simp [Go.Joins.cell_of_block h],by simp [Go.Joins.cell_of_block h],fun j => Go.Joins.unfrozen_of_block h j⟩
theorem LsAt.fr {w w' : World} {lp p n mb : Nat} {ev fv : Value} {S : List Nat} (h : LsAt w lp p n mb ev fv) (F : Fr S w w') (hS : lp ∉ S) : LsAt w' lp p n mb ev fv :=
 (F.block lp (Array.getElem?_eq_some_iff.1 h).1 hS).trans h
theorem LsAt.lt {w : World} {lp p n mb : Nat} {ev fv : Value} (h : LsAt w lp p n mb ev fv) : lp < w.heap.size:=(Array.getElem?_eq_some_iff.1 h).1
theorem LsAt.put3 {w : World} {lp p n mb : Nat} {ev fv : Value} (h : LsAt w lp p n mb ev fv) (v : Value) : LsAt (w.setCell ⟨lp,3,none⟩ v) lp p n mb v fv:=Go.Joins.block_setCell h _
theorem LsAt.put4 {w : World} {lp p n mb : Nat} {ev fv : Value} (h : LsAt w lp p n mb ev fv) (v : Value) : LsAt (w.setCell ⟨lp,4,none⟩ v) lp p n mb ev v:=Go.Joins.block_setCell h _
structure LsM (w : World) (p cp : Nat) (q : Option Nat) (d : DV) (lp mb n m : Nat) (K : Int → Bool) (ev fv : Value) (s : Rs) (wx : World) : Prop where
 ls : LsAt wx lp p n mb ev fv
 mp : ISet wx mb m K
 rd : RdAt wx p cp q s d
 fr : Fr [p,cp] w wx
 lo : w.heap.size ≤ mb
 ne : mb < lp
 hp : p < w.heap.size
 hc : cp < w.heap.size
theorem LsM.on {w : World} {p cp : Nat} {q : Option Nat} {d : DV} {lp mb n m : Nat} {K : Int → Bool} {ev fv : Value} {s s' : Rs} {wx wy : World} {S : List Nat} (h : LsM w p cp q d lp mb n m K ev fv s wx) (F : Fr S wx wy) (hS : ∀ i ∈ S,i = p ∨ i = cp ∨ lp < i) (R : RdAt wy p cp q s' d) : LsM w p cp q d lp mb n m K ev fv s' wy:=by
 obtain ⟨h1,h2,h3,h4,h5,h6,h7,h8⟩:=h
 refine ⟨h1.fr F (fun hm => ?_),h2.frS F (fun hm => ?_),R,h4.trans F (fun i hi => ?_),h5,h6,h7,h8⟩
 · have:=hS _ hm;omega
 · have:=hS _ hm;omega
 · rcases hS i hi with h | h | h
   · exact .inl (by simp [h])
   · exact .inl (by simp [h])
   · exact .inr (by omega)
theorem LsM.on2 {w : World} {p cp : Nat} {q : Option Nat} {d : DV} {lp mb n m : Nat} {K : Int → Bool} {ev fv : Value} {s s' : Rs} {wx wy : World} (h : LsM w p cp q d lp mb n m K ev fv s wx) (F : Fr [p,cp] wx wy) (R : RdAt wy p cp q s' d) : LsM w p cp q d lp mb n m K ev fv s' wy :=
 h.on F (by simp) R
theorem LsM.fr0 {w : World} {p cp : Nat} {q : Option Nat} {d : DV} {lp mb n m : Nat} {K : Int → Bool} {ev fv : Value} {s : Rs} {wx wy : World} (h : LsM w p cp q d lp mb n m K ev fv s wx) (F : Fr [] wx wy) : LsM w p cp q d lp mb n m K ev fv s wy :=
 h.on F (by simp) (h.rd.fr0 F)
theorem LsM.put4 {w : World} {p cp : Nat} {q : Option Nat} {d : DV} {lp mb n m : Nat} {K : Int → Bool} {ev fv : Value} {s : Rs} {wx : World} (h : LsM w p cp q d lp mb n m K ev fv s wx) (hq : ∀ k,q = some k → k < w.heap.size) (v : Value) : LsM w p cp q d lp mb n m K ev v s (wx.setCell ⟨lp,4,none⟩ v):=by
 obtain ⟨h1,h2,h3,h4,h5,h6,h7,h8⟩:=h
 have F : Fr [lp] wx (wx.setCell ⟨lp,4,none⟩ v):=(Fr.refl _ _).setCell (by simp) _
 exact ⟨h1.put4 v,h2.frS F (by simp;omega),h3.fr F (by simp;omega) (by simp;omega) (fun k hk => by have:=hq k hk;simp;omega),h4.trans F (by simp;omega),h5,h6,h7,h8⟩
end Go.Proofs.YtkodindajfdagaaGreatDoor
/- What is said of files: the plain reader; what lies in memory. No condition. -/
namespace Go.Proofs.YtkodindajfdagaaGreatDoor
open Go.RowKit Go.Maps
structure Lst where
 said : Int → Bool
 empty : List Bool
 files : List Fil
def mayL (S : Int → Bool) (id : Nat) : Bool :=
 if id = 25 then true else if id = 15 ∨ id = 16 then S 14 && !S (id : Int)
 else if id = 14 ∨ id = 17 ∨ id = 18 ∨ id = 19 ∨ id = 20 ∨ id = 21 ∨ id = 24 then !S (id : Int) else false
def Rs.bits (s : Rs) (n : Int) : List Bool × Rs:=((s.c.bits n).1,{ s with c:=(s.c.bits n).2 })
def withEmpty (F : List Fil) (E : List Bool) : List Fil:=F.mapIdx fun i x => match E[i]? with | some b => { x with stream:=!b,dir:=b } | none => x
def posN (E : List Bool) (n : Nat) : List Nat:=(List.range n).filter fun i => E.getD i false
def posL (E : List Bool) : List Nat:=posN E E.length
def dirAt (F : List Fil) (i : Nat) (b : Bool) : List Fil:=F.modify i fun x => { x with dir:=b }
def amongStep (id : Nat) (r : List Fil × Rs) (p : Nat × Bool) : List Fil × Rs:=if id = 15 then (dirAt r.1 p.1 (!p.2),r.2) else (r.1,if p.2 then r.2.fail 18 else r.2)
def amongL (id : Nat) (E : List Bool) (F : List Fil) (s : Rs) : List Fil × Rs:=((posL E).zip (s.bits (posL E).length).1).foldl (amongStep id) (F,(s.bits (posL E).length).2)
def unitsGo : Nat → Rs → List Nat → List Nat × Rs
 | 0,s,U => (U,s)
 | m + 1,s,U => if s.ok.k ≠ 0 then (U,s.ok) else if (s.ok.num 2).1 = 0 then (U,(s.ok.num 2).2) else unitsGo m (s.ok.num 2).2 (U ++ [(s.ok.num 2).1])
def Rs.units (s : Rs) : List Nat × Rs:=unitsGo (s.c.b.length + 1) s []
def nameAt (F : List Fil) (i : Nat) (l : List UInt8) : List Fil:=F.modify i fun x => { x with name:=l }
def namesGo : Nat → Nat → Rs → List Fil → List Fil × Rs
 | 0,_,s,F => (F,s.ok)
 | m + 1,i,s,F =>
   if s.ok.k ≠ 0 then (F,s.ok) else if s.ok.units.2.ok.k ≠ 0 then (F,s.ok.units.2.ok)
   else namesGo m (i + 1) (if (textL s.ok.units.1).isNone then s.ok.units.2.ok.fail 15 else s.ok.units.2.ok) (nameAt F i ((textL s.ok.units.1).getD []))
def numAt (id : Nat) (F : List Fil) (i v : Nat) : List Fil :=
 if id = 20 then F.modify i fun x => { x with hasTime:=true,time:=UInt64.ofNat v } else if id = 21 then F.modify i fun x => { x with hasAttr:=true,attr:=UInt32.ofNat v } else F
def numSz (id : Nat) : Int:=if id = 21 then 4 else 8
def numsGo (id : Nat) : List Bool → Nat → Rs → List Fil → List Fil × Rs
 | [],_,s,F => (F,s)
 | b :: t,i,s,F =>
   if b = false then numsGo id t (i + 1) s F
   else if (s.num (numSz id)).2.ok.k ≠ 0 then (F,(s.num (numSz id)).2.ok)
   else numsGo id t (i + 1) (s.num (numSz id)).2.ok (numAt id F i (s.num (numSz id)).1)
def dummyGo : Nat → Rs → Rs
 | 0,s => s
 | m + 1,s => if s.c.left = 0 then s else if s.ok.k ≠ 0 then s.ok else dummyGo m (if s.ok.byte.1 ≠ 0 then s.ok.byte.2.fail 5 else s.ok.byte.2)
def Rs.dummy (s : Rs) : Rs:=dummyGo (s.c.b.length + 1) s
def partBody (n id : Nat) (L : Lst) (s : Rs) : Lst × Rs :=
 if id = 14 then ({ L with empty:=(s.bits n).1,files:=withEmpty L.files (s.bits n).1 },(s.bits n).2)
 else if id = 15 ∨ id = 16 then ({ L with files:=(amongL id L.empty L.files s).1 },(amongL id L.empty L.files s).2)
 else if id = 17 then ({ L with files:=(namesGo n 0 s.inside L.files).1 },(namesGo n 0 s.inside L.files).2)
 else if id = 18 ∨ id = 19 ∨ id = 24 ∨ id = 20 ∨ id = 21 then ({ L with files:=(numsGo id (s.told n).1 0 (s.told n).2.inside L.files).1 },(numsGo id (s.told n).1 0 (s.told n).2.inside L.files).2)
 else if id = 25 then (L,s.dummy) else (L,s)
def Rs.partEnd (s : Rs) : Rs:=if s.ok.k = 0 ∧ 0 < s.c.left then s.ok.fail 5 else s.ok
def newRs (b : List UInt8) : Rs:=⟨⟨b,0,0⟩,0⟩
def partL (n id : Nat) (L : Lst) (b : List UInt8) : Lst × Nat:=((partBody n id L (newRs b)).1,(partBody n id L (newRs b)).2.partEnd.k)
def Rs.told' (s : Rs) (e : Nat) : Rs:=if e = 0 then s else s.fail e
def Lst.say (L : Lst) (id : Nat) : Lst:={ L with said:=addI L.said (id : Int) }
def filesGo (n : Nat) : Nat → Lst → Rs → Lst × Rs
 | 0,L,s => (L,s)
 | m + 1,L,s =>
   if s.ok.k ≠ 0 then (L,s.ok)
   else if s.ok.byte.2.ok.k ≠ 0 ∨ s.ok.byte.1 = 0 then (L,s.ok.byte.2.ok)
   else if mayL L.said s.ok.byte.1 = false then (L,s.ok.byte.2.ok.fail 5)
   else if (s.ok.byte.2.ok.things.2.take s.ok.byte.2.ok.things.1).2.ok.k ≠ 0 then filesGo n m (L.say s.ok.byte.1) (s.ok.byte.2.ok.things.2.take s.ok.byte.2.ok.things.1).2.ok
   else filesGo n m (partL n s.ok.byte.1 (L.say s.ok.byte.1) (s.ok.byte.2.ok.things.2.take s.ok.byte.2.ok.things.1).1).1
     ((s.ok.byte.2.ok.things.2.take s.ok.byte.2.ok.things.1).2.ok.told' (partL n s.ok.byte.1 (L.say s.ok.byte.1) (s.ok.byte.2.ok.things.2.take s.ok.byte.2.ok.things.1).1).2)
def noFil : Fil:=⟨[],true,false,false,0,false,0⟩
def Rs.filesN (s : Rs) (n : Nat) : Lst × Rs:=filesGo n (s.c.b.length + 1) ⟨fun _ => false,[],List.replicate n noFil⟩ s
def Rs.filesEnd (r : Lst × Rs) (n : Nat) : List Fil × Rs:=(r.1.files,if r.2.ok.k = 0 ∧ 0 < n ∧ r.1.said 17 = false then r.2.ok.fail 5 else r.2.ok)
def Rs.files (s : Rs) : List Fil × Rs:=Rs.filesEnd (s.things.2.filesN s.things.1) s.things.1
theorem modify_at {α : Type} {l : List α} {i : Nat} {x : α} (f : α → α) (h : l[i]? = some x) : l.modify i f = l.set i (f x):=by
 refine List.ext_getElem? fun j => ?_
 rw [List.getElem?_modify,List.getElem?_set]
 have hi:=(List.getElem?_eq_some_iff.1 h).1
 by_cases e : i = j
 · subst e
   rw [if_pos rfl,if_pos hi,h]
   simp
 · rw [if_neg e]
   simp [e]
structure FiM (w : World) (p cp : Nat) (q : Option Nat) (d : DV) (lp mb n m : Nat) (ev fv : Value) (L : Lst) (s : Rs) (wx : World) : Prop where
 ls : LsM w p cp q d lp mb n m L.said ev fv s wx
 own : wx.ownsRow (lp + 1) 54 7 fv n (fiV L.files)
 emp : Sm wx (lp + 1) 4 1 ev L.empty.length (tv L.empty)
 fl : L.files.length = n
 el : L.empty.length = 0 ∨ L.empty.length = n
 qw : ∀ k,q = some k → k < w.heap.size
theorem FiM.lps {w : World} {p cp : Nat} {q : Option Nat} {d : DV} {lp mb n m : Nat} {ev fv : Value} {L : Lst} {s : Rs} {wx : World} (h : FiM w p cp q d lp mb n m ev fv L s wx) : p < lp ∧ cp < lp ∧ w.heap.size < lp ∧ ∀ k,q = some k → k < lp:=by
 have h1:=h.ls.lo
 have h2:=h.ls.ne
 have h3:=h.ls.hp
 have h4:=h.ls.hc
 exact ⟨by omega,by omega,by omega,fun k hk => by have:=h.qw k hk;omega⟩
theorem FiM.on2 {w : World} {p cp : Nat} {q : Option Nat} {d : DV} {lp mb n m : Nat} {ev fv : Value} {L : Lst} {s s' : Rs} {wx wy : World} (h : FiM w p cp q d lp mb n m ev fv L s wx) (F : Fr [p,cp] wx wy) (R : RdAt wy p cp q s' d) : FiM w p cp q d lp mb n m ev fv L s' wy:=by
 have hl:=h.lps
 have hS : ∀ i ∈ [p,cp],i < lp + 1:=by simp;omega
 exact ⟨h.ls.on2 F R,own_frB h.own F hS,h.emp.fr F hS,h.fl,h.el,h.qw⟩
theorem FiM.fr0 {w : World} {p cp : Nat} {q : Option Nat} {d : DV} {lp mb n m : Nat} {ev fv : Value} {L : Lst} {s : Rs} {wx wy : World} (h : FiM w p cp q d lp mb n m ev fv L s wx) (F : Fr [] wx wy) : FiM w p cp q d lp mb n m ev fv L s wy :=
 ⟨h.ls.fr0 F,own_frB h.own F (by simp),h.emp.fr0 F,h.fl,h.el,h.qw⟩
structure PaM (w : World) (p cp : Nat) (q : Option Nat) (d : DV) (lp mb n m : Nat) (ev fv : Value) (L : Lst) (s : Rs) (p' cp' : Nat) (q' : Option Nat) (d' : DV) (s' : Rs) (wx : World) : Prop where
 fi : FiM w p cp q d lp mb n m ev fv L s wx
 sub : RdAt wx p' cp' q' s' d'
 a1 : lp < p'
 a2 : lp < cp'
 a3 : ∀ k,q' = some k → lp < k
 b1 : ∀ k,fv.ownBlock = some k → k ≠ p' ∧ k ≠ cp' ∧ q' ≠ some k
theorem RdAt.typ {w : World} {p cp : Nat} {q : Option Nat} {s : Rs} {d : DV} (h : RdAt w p cp q s d) : Typed w p 82 ∧ Typed w cp 104:=by
 obtain ⟨_,_,_,h2,_⟩:=h.cur.ok
 exact ⟨⟨_,_,h.blk⟩,⟨_,_,h2⟩⟩
theorem PaM.on2 {w : World} {p cp : Nat} {q : Option Nat} {d : DV} {lp mb n m : Nat} {ev fv : Value} {L : Lst} {s : Rs} {p' cp' : Nat} {q' : Option Nat} {d' : DV} {s' t' : Rs} {wx wy : World} (h : PaM w p cp q d lp mb n m ev fv L s p' cp' q' d' s' wx) (F : Fr [p',cp'] wx wy) (R : RdAt wy p' cp' q' t' d') : PaM w p cp q d lp mb n m ev fv L s p' cp' q' d' t' wy:=by
 have hl:=h.fi.lps
 have h1:=h.a1
 have h2:=h.a2
 have ht:=h.sub.typ
 refine ⟨⟨h.fi.ls.on F (by simp;omega) (h.fi.ls.rd.fr F (by simp;omega) (by simp;omega) (fun k hk => by have:=hl.2.2.2 k hk;simp;omega)),own_frS h.fi.own F (fun k hk => by have:=h.b1 k hk;simp;exact ⟨this.1,this.2.1⟩),h.fi.emp.frT F (fun i hi => ?_),h.fi.fl,h.fi.el,h.fi.qw⟩,R,h1,h2,h.a3,h.b1⟩
 simp at hi
 rcases hi with rfl | rfl
 · exact .inr (ht.1.ne (by decide))
 · exact .inr (ht.2.ne (by decide))
theorem PaM.fr0 {w : World} {p cp : Nat} {q : Option Nat} {d : DV} {lp mb n m : Nat} {ev fv : Value} {L : Lst} {s : Rs} {p' cp' : Nat} {q' : Option Nat} {d' : DV} {s' : Rs} {wx wy : World} (h : PaM w p cp q d lp mb n m ev fv L s p' cp' q' d' s' wx) (F : Fr [] wx wy) : PaM w p cp q d lp mb n m ev fv L s p' cp' q' d' s' wy :=
 ⟨h.fi.fr0 F,h.sub.fr0 F,h.a1,h.a2,h.a3,h.b1⟩
theorem PaM.out {w : World} {p cp : Nat} {q : Option Nat} {d : DV} {lp mb n m : Nat} {ev fv : Value} {L : Lst} {s t : Rs} {p' cp' : Nat} {q' : Option Nat} {d' : DV} {s' : Rs} {wx wy : World} (h : PaM w p cp q d lp mb n m ev fv L s p' cp' q' d' s' wx) (F : Fr [p,cp] wx wy) (R : RdAt wy p cp q t d) : PaM w p cp q d lp mb n m ev fv L t p' cp' q' d' s' wy:=by
 have hl:=h.fi.lps
 have h1:=h.a1
 have h2:=h.a2
 exact ⟨h.fi.on2 F R,h.sub.fr F (by simp;omega) (by simp;omega) (fun k hk => by have:=h.a3 k hk;simp;omega),h1,h2,h.a3,h.b1⟩
theorem PaM.put {w : World} {p cp : Nat} {q : Option Nat} {d : DV} {lp mb n m g cap : Nat} {ev : Value} {L : Lst} {s : Rs} {p' cp' : Nat} {q' : Option Nat} {d' : DV} {s' : Rs} {wx : World} (h : PaM w p cp q d lp mb n m ev (.slice (some ⟨g,0,none⟩) n cap) L s p' cp' q' d' s' wx)
   (i : Nat) (x y : Fil) (j : Nat) (v : Value) (hx : L.files[i]? = some x) (hj : j < 7) (e : x.cells.set j v = y.cells) :
   (∃ u,wx.cell? ⟨g,i * 7 + j,none⟩ = some u) ∧ wx.frozen? ⟨g,i * 7 + j,none⟩ = false ∧ PaM w p cp q d lp mb n m ev (.slice (some ⟨g,0,none⟩) n cap) { L with files:=L.files.set i y } s p' cp' q' d' s' (wx.setCell ⟨g,i * 7 + j,none⟩ v):=by
 have hl:=h.fi.lps
 have h1:=h.a1
 have h2:=h.a2
 have hb:=h.b1 g rfl
 have hg : lp + 1 ≤ g:=(own_ltS h.fi.own g rfl).1
 have hi:=(List.getElem?_eq_some_iff.1 hx).1
 have hfl:=h.fi.fl
 have hgt : Typed wx g 54:=own_typed h.fi.own g (by simp [Value.ownBlock])
 have F : Fr [g] wx (wx.setCell ⟨g,i * 7 + j,none⟩ v):=(Fr.refl _ _).setCell (by simp) _
 have hst:=(h.fi.own.stored (i * 7 + j) v).1
 rw [fiV_set L.files i x y j v hx hj e] at hst
 obtain ⟨u,hu⟩:=some_get (fiV L.files) (i * 7 + j) (by rw [fiV_length];omega)
 refine ⟨⟨u,(h.fi.own.cellAt (i * 7 + j) (by omega)).trans hu⟩,h.fi.own.frozenAt _,⟨h.fi.ls.on F (by simp;omega) (h.fi.ls.rd.fr F (by simp;omega) (by simp;omega) (fun k hk => by have:=hl.2.2.2 k hk;simp;omega)),hst,h.fi.emp.frT F (fun k hk => .inr (by rw [List.mem_singleton.1 hk];exact hgt.ne (by decide))),by rw [List.length_set];exact hfl,h.fi.el,h.fi.qw⟩,h.sub.fr F (by simp;omega) (by simp;omega) (fun k hk => ?_),h1,h2,h.a3,h.b1⟩
 have hb3:=hb.2.2
 simp
 rintro rfl
 exact hb3 hk
end Go.Proofs.YtkodindajfdagaaGreatDoor
/- Contract: the list's may. No condition. -/
namespace Go.Proofs.YtkodindajfdagaaGreatDoor
open Go.RowKit Go.Maps
theorem may_two (K : Int → Bool) (c : Nat) (h : c = 15 ∨ c = 16) : mayL K c = (K 14 && !K (c : Int)):=by
 rcases h with rfl | rfl <;> rfl
theorem may_one (K : Int → Bool) (c : Nat) (h : c = 14 ∨ c = 17 ∨ c = 18 ∨ c = 19 ∨ c = 20 ∨ c = 21 ∨ c = 24) : mayL K c = !K (c : Int):=by
 rcases h with rfl | rfl | rfl | rfl | rfl | rfl | rfl <;> rfl
theorem may_not (K : Int → Bool) (c : Nat) (h0 : c ≠ 25) (h1 : ¬ (c = 15 ∨ c = 16)) (h2 : ¬ (c = 14 ∨ c = 17 ∨ c = 18 ∨ c = 19 ∨ c = 20 ∨ c = 21 ∨ c = 24)) : mayL K c = false:=by
 unfold mayL
 rw [if_neg h0,if_neg h1,if_neg h2]
set_option maxRecDepth 100000 in
set_option maxHeartbeats 4000000 in
theorem may_any (w : World) (lp p n mb m : Nat) (ev fv : Value) (K : Int → Bool) (h : LsAt w lp p n mb ev fv) (hm : ISet w mb m K) (id : Nat) :
   Calls Tryz.prog 101 #[.pointer (some ⟨lp,0,none⟩),.int .i64 (id : Int)] w fun e w' => e = .returned (.bool (mayL K id)) ∧ w' = w:=by
 obtain ⟨l0,l1,l2,l3,l4,lf⟩:=cells5 h
 have HM:=Lib.hid hm
 clear h hm
 by_cases h0 : id = 25
 · subst h0
   go_enter Tryz.func101,Tryz.ntmps101
   go_wp2_with fail
   go_ret
   exact ⟨rfl,rfl⟩
 by_cases h1 : id = 15 ∨ id = 16
 · have HE:=Lib.hid (may_two K id h1)
   have lk:=HM.out.look (x:=14) (by decide)
   have lk2:=HM.out.look (x:=(id : Int)) (WalkArith.wf_i64 (by omega))
   cases hk : K 14 with
   | false =>
     rw [hk] at lk HE
     have HE2:=Lib.hid (show mayL K id = false by rw [HE.out];rfl)
     clear hk h0
     rcases h1 with rfl | rfl
     all_goals
       simp only [Int.cast_ofNat_Int] at lk2
       go_enter Tryz.func101,Tryz.ntmps101
       go_wp2_with fail
       go_ret
       exact ⟨by rw [HE2.out];rfl,rfl⟩
   | true =>
     rw [hk] at lk HE
     have HE2:=Lib.hid (show mayL K id = !K (id : Int) by rw [HE.out];rfl)
     clear hk h0 HE
     generalize K (id : Int) = b at *
     rcases h1 with rfl | rfl
     all_goals
       simp only [Int.cast_ofNat_Int] at lk2
       go_enter Tryz.func101,Tryz.ntmps101
       go_wp2_with fail
       go_ret
       exact ⟨by rw [HE2.out];rfl,rfl⟩
 by_cases h2 : id = 14 ∨ id = 17 ∨ id = 18 ∨ id = 19 ∨ id = 20 ∨ id = 21 ∨ id = 24
 · have HE:=Lib.hid (may_one K id h2)
   have lk2:=HM.out.look (x:=(id : Int)) (WalkArith.wf_i64 (by omega))
   generalize K (id : Int) = b at *
   clear h0 h1
   rcases h2 with rfl | rfl | rfl | rfl | rfl | rfl | rfl
   all_goals
     simp only [Int.cast_ofNat_Int] at lk2
     go_enter Tryz.func101,Tryz.ntmps101
     go_wp2_with fail
     go_ret
     exact ⟨by rw [HE.out];rfl,rfl⟩
 have HE:=Lib.hid (may_not K id h0 h1 h2)
 have t1 : ((id : Int) == 25) = false:=by rw [beq_eq_false_iff_ne];omega
 have t2 : ((id : Int) == 15) = false:=by rw [beq_eq_false_iff_ne];omega
 have t3 : ((id : Int) == 16) = false:=by rw [beq_eq_false_iff_ne];omega
 have t4 : ((id : Int) == 14) = false:=by rw [beq_eq_false_iff_ne];omega
 have t5 : ((id : Int) == 17) = false:=by rw [beq_eq_false_iff_ne];omega
 have t6 : ((id : Int) == 18) = false:=by rw [beq_eq_false_iff_ne];omega
 have t7 : ((id : Int) == 19) = false:=by rw [beq_eq_false_iff_ne];omega
 have t8 : ((id : Int) == 20) = false:=by rw [beq_eq_false_iff_ne];omega
 have t9 : ((id : Int) == 21) = false:=by rw [beq_eq_false_iff_ne];omega
 have t10 : ((id : Int) == 24) = false:=by rw [beq_eq_false_iff_ne];omega
 clear h0 h1 h2
 go_enter Tryz.func101,Tryz.ntmps101
 go_wp2_with fail
 go_ret
 exact ⟨by rw [HE.out];rfl,rfl⟩
end Go.Proofs.YtkodindajfdagaaGreatDoor
/- Contract: the list's among. No condition but that lengths fit. -/
namespace Go.Proofs.YtkodindajfdagaaGreatDoor
open Go.RowKit Go.Maps
theorem cbits_len (c : Cur) (n : Nat) : (c.bits (n : Int)).1.length = 0 ∨ (c.bits (n : Int)).1.length = n:=by
 unfold Cur.bits
 split
 · left;rfl
 · split
   · left;rfl
   · right;rw [unpack_length];simp
theorem cbits_b (c : Cur) (n : Int) : (c.bits n).2.b = c.b:=by
 unfold Cur.bits Cur.fail
 split
 · rfl
 · split <;> rfl
theorem rbits_b (s : Rs) (n : Int) : (s.bits n).2.c.b = s.c.b:=cbits_b _ _
theorem rbits_len (s : Rs) (n : Nat) : (s.bits (n : Int)).1.length = 0 ∨ (s.bits (n : Int)).1.length = n:=cbits_len _ _
def nv (l : List Nat) : List Value:=l.map fun (k : Nat) => .int .i64 (k : Int)
theorem nv_get {l : List Nat} {j x : Nat} (h : l[j]? = some x) : (nv l)[j]? = some (.int .i64 (x : Int)):=by simp [nv,h]
theorem nv_append (a b : List Nat) : nv (a ++ b) = nv a ++ nv b:=by simp [nv]
theorem posN_succ (E : List Bool) (n : Nat) : posN E (n + 1) = posN E n ++ (if E.getD n false then [n] else []):=by
 unfold posN
 rw [List.range_succ,List.filter_append]
 congr 1
 rw [List.filter_cons]
 simp
theorem posN_lt {E : List Bool} {n x : Nat} (h : x ∈ posN E n) : x < n:=by
 unfold posN at h
 have:=(List.mem_filter.1 h).1
 simpa using this
theorem posN_len (E : List Bool) (n : Nat) : (posN E n).length ≤ n:=by
 unfold posN
 have:=List.length_filter_le (fun i => E.getD i false) (List.range n)
 simpa using this
def amongTo (id : Nat) (E : List Bool) (F : List Fil) (hs : List Bool) (u : Rs) (j : Nat) : List Fil × Rs:=(((posL E).zip hs).take j).foldl (amongStep id) (F,u)
theorem amongTo_succ {id : Nat} {E : List Bool} {F : List Fil} {hs : List Bool} {u : Rs} {j x : Nat} {b : Bool} (hx : (posL E)[j]? = some x) (hb : hs[j]? = some b) : amongTo id E F hs u (j + 1) = amongStep id (amongTo id E F hs u j) (x,b):=by
 unfold amongTo
 have hz : ((posL E).zip hs)[j]? = some (x,b):=by rw [List.getElem?_zip_eq_some];exact ⟨hx,hb⟩
 rw [List.take_add_one,hz,List.foldl_append]
 rfl
theorem amongTo_all {id : Nat} {E : List Bool} {F : List Fil} {hs : List Bool} {u : Rs} {j : Nat} (hj : hs.length ≤ j) : amongTo id E F hs u j = ((posL E).zip hs).foldl (amongStep id) (F,u):=by
 unfold amongTo
 rw [List.take_of_length_le (by rw [List.length_zip];omega)]
theorem step_len (id : Nat) (r : List Fil × Rs) (p : Nat × Bool) : (amongStep id r p).1.length = r.1.length:=by
 unfold amongStep dirAt
 split
 · simp
 · rfl
theorem fold_len (id : Nat) : ∀ (z : List (Nat × Bool)) (r : List Fil × Rs),(z.foldl (amongStep id) r).1.length = r.1.length
 | [],r => rfl
 | a :: t,r => by rw [List.foldl_cons,fold_len id t,step_len]
set_option maxRecDepth 100000 in
set_option maxHeartbeats 4000000 in
theorem among_any (w wx : World) (p cp : Nat) (q : Option Nat) (d : DV) (lp mb n m : Nat) (ev fv : Value) (L : Lst) (s : Rs) (p' cp' : Nat) (q' : Option Nat) (d' : DV) (s' : Rs) (h : PaM w p cp q d lp mb n m ev fv L s p' cp' q' d' s' wx)
   (hn : n ≤ 4000000) (hb : s'.c.b.length ≤ 10000000) (id : Nat) (hid : id = 15 ∨ id = 16) :
   Calls Tryz.prog 128 #[.pointer (some ⟨lp,0,none⟩),.int .i64 (id : Int),.pointer (some ⟨p',0,none⟩)] wx fun e w' => e = .returned (.tuple #[]) ∧
     PaM w p cp q d lp mb n m ev fv { L with files:=(amongL id L.empty L.files s').1 } s p' cp' q' d' (amongL id L.empty L.files s').2 w':=by
 have HP:=Lib.hid h
 have hel : L.empty.length ≤ n:=by rcases h.fi.el with h1 | h1 <;> omega
 have HEL:=Lib.hid hel
 obtain ⟨eao,ecap,rfl,-⟩:=h.fi.emp.out
 obtain ⟨l0,l1,l2,l3,l4,lf⟩:=cells5 h.fi.ls.ls
 obtain ⟨N,hN⟩ : ∃ N,L.empty.length = N:=⟨_,rfl⟩
 rw [hN] at l3 hel
 have HN:=Lib.hid hN
 have hNI : (N : Int) ≤ 4000000:=by omega
 have HNn:=Lib.hid hn
 have HB:=Lib.hid hb
 have HID:=Lib.hid hid
 have hbi : ((id : Int) == 15) = decide (id = 15):=by
   rcases hid with rfl | rfl <;> rfl
 clear h hN hn hb hid
 go_enter Tryz.func128,Tryz.ntmps128
 go_wp2_with fail
 go_loopw [6,16] (fun av iv wr => ∃ (k : Nat),k ≤ N ∧ iv = .int .i64 (k : Int) ∧ wr.ownsRow wx.heap.size 3 1 av (posN L.empty k).length (nv (posN L.empty k)) ∧ Fr [] wx wr) (fun _ iv _ => N - (intOf iv).toNat)
 case atStart => exact ⟨0,Nat.zero_le _,rfl,World.ownsRow_nil _ _ _ _,Fr.refl _ _⟩
 case round =>
   obtain ⟨k,hk,rfl,own,F⟩:=hrel
   obtain ⟨aao,acap,rfl,-⟩:=own_outS own
   have HOwn:=Lib.hid own
   clear own
   have HPr:=Lib.hid (HP.out.fr0 F)
   by_cases hlt : k < N
   · have hltI : (k : Int) < (N : Int):=by omega
     obtain ⟨b,hbk⟩:=some_get L.empty k (by rw [HN.out];exact hlt)
     have HS:=Lib.hid (posN_succ L.empty k)
     have HG:=Lib.hid (show L.empty.getD k false = b by rw [List.getD_eq_getElem?_getD,hbk];rfl)
     rw [HG.out] at HS
     obtain ⟨x1,x2,he,-,-,ho⟩:=HPr.out.fi.emp.out
     obtain ⟨bb,oo,rfl,hblo,hb2,hcell⟩:=ho k (by rw [HN.out];exact hlt)
     injection he with e1 e2 e3
     subst e1
     have c0 : wr.cell? ⟨bb,oo + k,none⟩ = some (.bool b):=(hcell k (by rw [HN.out];omega)).trans (tv_get _ _ _ hbk)
     clear hcell ho hbk e2 e3
     cases b with
     | false =>
       rw [if_neg (by simp),List.append_nil] at HS
       go_wp2_with fail
       go_roundw
       case rel => exact ⟨k + 1,by omega,by go_num,by rw [HS.out];exact HOwn.out,F⟩
       case measure => simp [intOf];omega
     | true =>
       rw [if_pos rfl] at HS
       have hpl:=posN_len L.empty k
       have hws:=F.size
       go_wp2_with (at_builtin;refine wpList_append_struct sty_in rfl _ _ rfl wx.heap.size _ _ _ (by rfl) (own_frB HOwn.out ((Fr.refl [] wr).alloc (.cells #[.int .i64 (k : Int)] 3)) (by simp)) wr.heap.size [.int .i64 (k : Int)] (by rfl) (heap_alloc_new wr _) rfl rfl (by omega) (by decide) (by rw [World.size_alloc];omega) ?_;intro v3 w3 own3 g3)
       go_roundw
       case rel => exact ⟨k + 1,by omega,by go_num,by rw [HS.out,List.length_append,nv_append];exact own3,(F.alloc _).grown g3 (fun i hi => .inr (own_ltS HOwn.out i hi).1)⟩
       case measure => simp [intOf];omega
   · have hltI : ¬ (k : Int) < (N : Int):=by omega
     obtain rfl : k = N:=by omega
     have HPE:=Lib.hid (show posN L.empty k = posL L.empty by unfold posL;rw [HN.out])
     rw [HPE.out] at HOwn
     rw [HPE.out]
     obtain ⟨U,hU⟩ : ∃ U,(posL L.empty).length = U:=⟨_,rfl⟩
     rw [hU] at HOwn
     rw [hU]
     have hUk : U ≤ k:=by rw [← hU,← HPE.out];exact posN_len _ _
     have HU:=Lib.hid hU
     have hUI : (U : Int) ≤ 4000000:=by omega
     have HBt:=Lib.hid (fun wy (C : CurAt wy cp' q' s'.c) => bits_any wy cp' q' s'.c (U : Int) (by omega) C (by have:=HB.out;omega))
     have HBL:=Lib.hid (rbits_len s' U)
     have HA:=Lib.hid (show amongL id L.empty L.files s' = ((posL L.empty).zip (s'.bits (U : Int)).1).foldl (amongStep id) (L.files,(s'.bits (U : Int)).2) by unfold amongL;rw [HU.out])
     have c0:=(cells9 HPr.out.sub.blk).1
     clear hU hUk l0 l1 l2 l3 l4 lf
     have HBS:=Lib.hid (show (s'.bits (U : Int)) = ((s'.c.bits U).1,{ s' with c:=(s'.c.bits U).2 }) from rfl)
     rw [HBS.out] at HBL HA
     dsimp only at HBL HA
     have HBt2:=Lib.hid (fun wy (P : PaM w p cp q d lp mb n m (.slice eao L.empty.length ecap) fv L s p' cp' q' d' s' wy) => HBt.out wy P.sub.cur)
     generalize (s'.c.bits (U : Int)) = r at *
     obtain ⟨hs,u⟩:=r
     dsimp only at HBL HA
     go_wp2_with (go_at_call 127;refine (HBt2.out _ HPr.out).mono ?_;rintro e w2 ⟨v,rfl,own2,C2,F2⟩;obtain ⟨vao,vcap,rfl,-⟩:=own_outS own2;have P2:=HPr.out.on2 F2.two2 (HPr.out.sub.cur' F2 C2))
     have own4:=own_frB HOwn.out F2 (by simp;exact HP.out.sub.cur.lt)
     have hsw : wx.heap.size ≤ wr.heap.size:=F.size
     have own2:=own_monoM own2 hsw
     have hsI : (hs.length : Int) ≤ 4000000:=by rcases HBL.out with h | h <;> omega
     go_loopw [35] (fun iv wq => ∃ (j : Nat),j ≤ hs.length ∧ iv = .int .i64 (j : Int) ∧ wq.ownsRow wx.heap.size 3 1 (.slice aao U acap) U (nv (posL L.empty)) ∧ wq.ownsRow wx.heap.size 4 1 (.slice vao hs.length vcap) hs.length (tv hs) ∧
       PaM w p cp q d lp mb n m (.slice eao L.empty.length ecap) fv { L with files:=(amongTo id L.empty L.files hs { s' with c:=u } j).1 } s p' cp' q' d' (amongTo id L.empty L.files hs { s' with c:=u } j).2 wq) (fun iv _ => hs.length - (intOf iv).toNat)
     case atStart => exact ⟨0,Nat.zero_le _,rfl,own4,own2,P2⟩
     case round =>
       obtain ⟨j,hj,rfl,ownA,ownH,P⟩:=hrel
       have HOA:=Lib.hid ownA
       have HOH:=Lib.hid ownH
       have HPq:=Lib.hid P
       clear ownA ownH P own2 own4 P2 C2 F2 HOwn HPr c0 HBt HBt2
       by_cases hlj : j < hs.length
       rotate_left
       · have hljI : ¬ (j : Int) < (hs.length : Int):=by omega
         have HE:=Lib.hid (amongTo_all (id:=id) (E:=L.empty) (F:=L.files) (hs:=hs) (u:={ s' with c:=u }) (j:=j) (by omega))
         go_wp2_with fail
         go_end0
         refine ⟨rfl,?_⟩
         rw [HA.out,← HE.out]
         exact HPq.out
       have hljI : (j : Int) < (hs.length : Int):=by omega
       have hjU : j < U:=by rcases HBL.out with h | h <;> omega
       have hjUI : (j : Int) < (U : Int):=by omega
       obtain ⟨b,hbj⟩:=some_get hs j hlj
       obtain ⟨x,hx⟩:=some_get (posL L.empty) j (by rw [HU.out];exact hjU)
       have hxk : x < k:=by
         have:=posN_lt (List.mem_of_getElem? hx)
         rw [HN.out] at this;exact this
       have hkn : k = n:=by
         have h1:=HPq.out.fi.el
         have h2:=HN.out
         rcases h1 with h1 | h1
         · have h3 : L.empty.length = 0:=h1
           omega
         · have h3 : L.empty.length = n:=h1
           omega
       obtain ⟨hb',hbl',hcH⟩ : ∃ gh,vao = some ⟨gh,0,none⟩ ∧ wr.cell? ⟨gh,j,none⟩ = some (.bool b):=by
         rcases HOH.out.2 with ⟨h1,h2⟩ | ⟨g',cap',cur,h1,-⟩
         · omega
         · injection h1 with h1 _ _
           subst h1
           exact ⟨g',rfl,(HOH.out.cellAt j (by omega)).trans (tv_get _ _ _ hbj)⟩
       subst hbl'
       obtain ⟨ga,hga,hcA⟩ : ∃ ga,aao = some ⟨ga,0,none⟩ ∧ wr.cell? ⟨ga,j,none⟩ = some (.int .i64 (x : Int)):=by
         rcases HOA.out.2 with ⟨h1,h2⟩ | ⟨g',cap',cur,h1,-⟩
         · omega
         · injection h1 with h1 _ _
           subst h1
           exact ⟨g',rfl,(HOA.out.cellAt j (by omega)).trans (nv_get hx)⟩
       subst hga
       obtain ⟨gf,fcap,hfv⟩ : ∃ gf fcap,fv = .slice (some ⟨gf,0,none⟩) n fcap:=by
         rcases HPq.out.fi.own.2 with ⟨h1,h2⟩ | ⟨g',cap',cur,h1,-⟩
         · omega
         · exact ⟨g',cap',h1⟩
       subst hfv
       obtain ⟨l0,l1,l2,l3,l4,lf⟩:=cells5 HPq.out.fi.ls.ls
       have hxnI : (x : Int) < (n : Int):=by omega
       have HS:=Lib.hid (amongTo_succ (id:=id) (F:=L.files) (u:={ s' with c:=u }) hx hbj)
       obtain ⟨f,hf⟩:=some_get (amongTo id L.empty L.files hs { s' with c:=u } j).1 x (by have h1:=HPq.out.fi.fl;dsimp only at h1;omega)
       have HFx:=Lib.hid hf
       clear hbj hx hf
       generalize amongTo id L.empty L.files hs { s' with c:=u } j = r at *
       obtain ⟨F',t'⟩:=r
       dsimp only at HPq HFx HS
       have HKN:=Lib.hid hkn
       clear hkn hxk
       by_cases hid : id = 15
       · have t0 : ((id : Int) == 15) = true:=by rw [hid];rfl
         have HS2:=Lib.hid (show amongTo id L.empty L.files hs { s' with c:=u } (j + 1) = (F'.set x { f with dir:=!b },t') by
           rw [HS.out,hid]
           show (dirAt F' x (!b),t') = _
           unfold dirAt
           rw [modify_at _ HFx.out])
         obtain ⟨⟨u0,hu0⟩,huz,P9⟩:=HPq.out.put x f { f with dir:=!b } 2 (.bool (!b)) HFx.out (by decide) rfl
         have hgA : Typed wr gf 54:=own_typed HPq.out.fi.own gf (by simp [Value.ownBlock])
         have FG : Fr [gf] wr (wr.setCell ⟨gf,x * 7 + 2,none⟩ (.bool (!b))):=(Fr.refl _ _).setCell (by simp) _
         have A9:=own_frT HOA.out FG (fun i hi => .inr (by rw [List.mem_singleton.1 hi];exact hgA.ne (by decide)))
         have H9:=own_frT HOH.out FG (fun i hi => .inr (by rw [List.mem_singleton.1 hi];exact hgA.ne (by decide)))
         have HP9:=Lib.hid (And.intro (own_frT (S:=[]) A9 ((Fr.refl _ _).drew) (by simp)) (And.intro (own_frT (S:=[]) H9 ((Fr.refl _ _).drew) (by simp)) (P9.fr0 ((Fr.refl _ _).drew))))
         clear A9 H9 P9 FG hgA hbi hid
         go_wp2_with fail
         go_region
         all_goals
           go_wp2_with fail
           go_roundw
           case rel => exact ⟨j + 1,by omega,by go_num,HP9.out.1,HP9.out.2.1,by rw [HS2.out];exact HP9.out.2.2⟩
           case measure => simp [intOf];omega
       · have t0 : ((id : Int) == 15) = false:=by rw [beq_eq_false_iff_ne];omega
         have HS2:=Lib.hid (show amongTo id L.empty L.files hs { s' with c:=u } (j + 1) = (F',if b then t'.fail 18 else t') by
           rw [HS.out]
           unfold amongStep
           rw [if_neg hid])
         clear hbi hid
         cases b with
         | false =>
           simp only [Bool.false_eq_true,if_false] at HS2
           go_wp2_with fail
           go_roundw
           case rel => exact ⟨j + 1,by omega,by go_num,HOA.out,HOH.out,by rw [HS2.out];exact HPq.out⟩
           case measure => simp [intOf];omega
         | true =>
           simp only [if_true] at HS2
           have HFA:=Lib.hid (rfail_any wr p' cp' q' t' d' 18 HPq.out.sub)
           go_wp2_with (go_at_call 38;refine HFA.out.mono ?_;rintro e w9 ⟨rfl,R9,F9⟩;have P9:=HPq.out.on2 F9.two1 R9)
           have hpt:=HPq.out.sub.typ.1
           have A9:=own_frT HOA.out F9 (fun i hi => .inr (by rw [List.mem_singleton.1 hi];exact hpt.ne (by decide)))
           have H9:=own_frT HOH.out F9 (fun i hi => .inr (by rw [List.mem_singleton.1 hi];exact hpt.ne (by decide)))
           go_roundw
           case rel => exact ⟨j + 1,by omega,by go_num,A9,H9,by rw [HS2.out];exact P9⟩
           case measure => simp [intOf];omega
end Go.Proofs.YtkodindajfdagaaGreatDoor
/- Contract: the list's names. No condition but that lengths fit. -/
namespace Go.Proofs.YtkodindajfdagaaGreatDoor
open Go.RowKit Go.Maps
def atOf (w : World) (cp : Nat) : Nat:=match w.cell? ⟨cp,1,none⟩ with | some (.int _ n) => n.toNat | _ => 0
theorem CurAt.atOf {w : World} {cp : Nat} {q : Option Nat} {c : Cur} (h : CurAt w cp q c) : atOf w cp = c.at_:=by
 obtain ⟨ao,n,cap,h1,-,-⟩:=h.ok
 have : w.cell? ⟨cp,1,none⟩ = some (.int .i64 c.at_):=by simp [Go.Joins.cell_of_block h1]
 unfold Go.Proofs.YtkodindajfdagaaGreatDoor.atOf
 rw [this]
 simp
theorem styM_u16 : SlTyM Tryz.prog 47 50 (.int .u16 0) 1 2:=⟨Tryz.underlying47,by obtain ⟨i,h⟩:=info_parts info_u16;exact ⟨i,h⟩,rfl,by decide⟩
theorem num2 (s : Rs) : (s.num 2).1 < 65536 ∧ ((s.num 2).1 = 0 ∨ ((s.num 2).2.c.at_ = s.c.at_ + 2 ∧ s.c.at_ + 2 ≤ s.c.b.length)):=by
 have e : (s.num 2).1 = leNat (s.c.take 2).1 ∧ (s.num 2).2.c = (s.c.take 2).2:=⟨rfl,rfl⟩
 rw [e.1,e.2]
 have h1 : (s.c.take 2).1.length ≤ 2:=by unfold Cur.take;split <;> simp;omega
 refine ⟨?_,?_⟩
 · have h2:=leNat_lt (s.c.take 2).1
   have : 256 ^ (s.c.take 2).1.length ≤ 256 ^ 2:=Nat.pow_le_pow_right (by omega) h1
   omega
 · by_cases hc : s.c.code ≠ 0 ∨ s.c.left < 2
   · left
     unfold Cur.take
     rw [if_pos hc]
     rfl
   · right
     unfold Cur.take
     rw [if_neg hc]
     refine ⟨rfl,?_⟩
     have h3 : s.c.code = 0 ∧ 2 ≤ s.c.left:=by
       constructor
       · by_cases h : s.c.code = 0
         · exact h
         · exact absurd (.inl h) hc
       · by_cases h : s.c.left < 2
         · exact absurd (.inr h) hc
         · omega
     have h4:=h3.2
     unfold Cur.left at h4
     rw [if_pos h3.1] at h4
     omega
theorem rnum_b (s : Rs) (n : Int) : (s.num n).2.c.b = s.c.b:=num_b _ _
theorem unitsGo_bad {s : Rs} {m : Nat} {U : List Nat} (h : s.ok.k ≠ 0) : unitsGo (m + 1) s U = (U,s.ok):=by
 show (if s.ok.k ≠ 0 then _ else _) = _
 rw [if_pos h]
theorem unitsGo_end {s : Rs} {m : Nat} {U : List Nat} (h : s.ok.k = 0) (h0 : (s.num 2).1 = 0) : unitsGo (m + 1) s U = (U,(s.num 2).2):=by
 show (if s.ok.k ≠ 0 then _ else if (s.ok.num 2).1 = 0 then _ else _) = _
 rw [if_neg (by simp [h]),Rs.ok_of_zero h,if_pos h0]
theorem unitsGo_ok {s : Rs} {m : Nat} {U : List Nat} (h : s.ok.k = 0) (h0 : (s.num 2).1 ≠ 0) : unitsGo (m + 1) s U = unitsGo m (s.num 2).2 (U ++ [(s.num 2).1]):=by
 show (if s.ok.k ≠ 0 then _ else if (s.ok.num 2).1 = 0 then _ else _) = _
 rw [if_neg (by simp [h]),Rs.ok_of_zero h,if_neg h0]
theorem unitsGo_b : ∀ (m : Nat) (s : Rs) (U : List Nat),(unitsGo m s U).2.c.b = s.c.b
 | 0,s,U => rfl
 | m + 1,s,U => by
   by_cases h : s.ok.k = 0
   · by_cases h0 : (s.num 2).1 = 0
     · rw [unitsGo_end h h0,rnum_b]
     · rw [unitsGo_ok h h0,unitsGo_b m,rnum_b]
   · rw [unitsGo_bad h];rfl
theorem units_b (s : Rs) : s.units.2.c.b = s.c.b:=unitsGo_b _ _ _
def nameOk (s : Rs) : Rs:=if (textL s.units.1).isNone then s.units.2.ok.fail 15 else s.units.2.ok
theorem namesGo_bad {m i : Nat} {s : Rs} {F : List Fil} (h : s.ok.k ≠ 0) : namesGo m i s F = (F,s.ok):=by
 cases m with
 | zero => rfl
 | succ m => show (if s.ok.k ≠ 0 then _ else _) = _;rw [if_pos h]
theorem namesGo_cut {m i : Nat} {s : Rs} {F : List Fil} (h : s.ok.k = 0) (h2 : s.units.2.ok.k ≠ 0) : namesGo (m + 1) i s F = (F,s.units.2.ok):=by
 show (if s.ok.k ≠ 0 then _ else if s.ok.units.2.ok.k ≠ 0 then _ else _) = _
 rw [if_neg (by simp [h]),Rs.ok_of_zero h,if_pos h2]
theorem namesGo_ok {m i : Nat} {s : Rs} {F : List Fil} (h : s.ok.k = 0) (h2 : s.units.2.ok.k = 0) : namesGo (m + 1) i s F = namesGo m (i + 1) (nameOk s) (nameAt F i ((textL s.units.1).getD [])):=by
 show (if s.ok.k ≠ 0 then _ else if s.ok.units.2.ok.k ≠ 0 then _ else _) = _
 rw [if_neg (by simp [h]),Rs.ok_of_zero h,if_neg (by simp [h2])]
 rfl
theorem nameOk_b (s : Rs) : (nameOk s).c.b = s.c.b:=by
 unfold nameOk
 split
 · rw [Rs.fail_c,Rs.ok_c,units_b]
 · rw [Rs.ok_c,units_b]
theorem text_one (w : World) (v : Value) (u : List Nat) (hv0 : Sl w v (hv u)) (hu : ∀ x ∈ u,x < 65536) (hl : u.length ≤ 4000000) : Calls Tryz.prog 142 #[v] w fun e w' =>
   e = .returned (.tuple #[.string ⟨((textL u).getD []).toArray⟩,.int .i64 ((if (textL u).isNone then 15 else 0 : Nat) : Int)]) ∧ Fr [] w w':=by
 refine (text_any w v u hv0 hu hl).mono ?_
 rintro e w' (⟨c,h1,rfl,F⟩ | ⟨h1,rfl,F⟩)
 · rw [h1];exact ⟨rfl,F⟩
 · rw [h1];exact ⟨rfl,F⟩
theorem PaM.grow {w : World} {p cp : Nat} {q : Option Nat} {d : DV} {lp mb n m : Nat} {ev fv : Value} {L : Lst} {s : Rs} {p' cp' : Nat} {q' : Option Nat} {d' : DV} {s' : Rs} {wx wy : World} {B e sz k : Nat} {v : Value} {xs : List Value} {o : Obj} (h : PaM w p cp q d lp mb n m ev fv L s p' cp' q' d' s' wx)
   (hB : p' < B ∧ cp' < B ∧ (∀ j,q' = some j → j < B) ∧ (∀ j,fv.ownBlock = some j → j < B)) (own : wx.ownsRow B e sz v k xs) (he : 4 ≠ e) (g : (wx.alloc o).grownBy wy v.ownBlock) : PaM w p cp q d lp mb n m ev fv L s p' cp' q' d' s' wy:=by
 have hA:=h.fr0 ((Fr.refl _ _).alloc o)
 have ownA:=own_frB (S:=[]) own ((Fr.refl _ _).alloc o) (by simp)
 have F : Fr v.ownBlock.toList (wx.alloc o) wy:=(Fr.refl _ _).grown g (fun k hk => .inl (by rw [hk];simp))
 have hl:=h.fi.lps
 have h1:=h.a1
 have hge : ∀ i ∈ v.ownBlock.toList,B ≤ i:=fun i hi => (own_ltS own i (by simpa using hi)).1
 have hne : ∀ x,x < B → x ∉ v.ownBlock.toList:=fun x hx hm => by have:=hge x hm;omega
 refine ⟨⟨hA.fi.ls.on F (fun i hi => by have:=hge i hi;omega) (hA.fi.ls.rd.fr F (hne _ (by omega)) (hne _ (by omega)) (fun k hk => hne _ (by have:=hl.2.2.2 k hk;omega))),own_frS hA.fi.own F (fun k hk => hne k (hB.2.2.2 k hk)),hA.fi.emp.frT F (fun i hi => .inr ((own_typed ownA i hi).ne he)),h.fi.fl,h.fi.el,h.fi.qw⟩,hA.sub.fr F (hne _ hB.1) (hne _ hB.2.1) (fun k hk => hne k (hB.2.2.1 k hk)),h.a1,h.a2,h.a3,h.b1⟩
theorem PaM.top {w : World} {p cp : Nat} {q : Option Nat} {d : DV} {lp mb n m : Nat} {ev fv : Value} {L : Lst} {s : Rs} {p' cp' : Nat} {q' : Option Nat} {d' : DV} {s' : Rs} {wx : World} (h : PaM w p cp q d lp mb n m ev fv L s p' cp' q' d' s' wx) :
   p' < wx.heap.size ∧ cp' < wx.heap.size ∧ (∀ j,q' = some j → j < wx.heap.size) ∧ (∀ j,fv.ownBlock = some j → j < wx.heap.size) :=
 ⟨h.sub.lt,h.sub.cur.lt,h.sub.ql,fun j hj => (own_ltS h.fi.own j hj).2⟩
theorem name_len (F : List Fil) (i : Nat) (l : List UInt8) : (nameAt F i l).length = F.length:=by simp [nameAt]
def NamesR (w : World) (p cp : Nat) (q : Option Nat) (d : DV) (lp mb n m : Nat) (ev fv : Value) (L : Lst) (s : Rs) (p' cp' : Nat) (q' : Option Nat) (d' : DV) (r : List Fil × Rs) (e : Ending) (w' : World) : Prop :=
 e = .returned (.tuple #[]) ∧ PaM w p cp q d lp mb n m ev fv { L with files:=r.1 } s p' cp' q' d' r.2 w'
set_option maxRecDepth 100000 in
set_option maxHeartbeats 8000000 in
theorem names_any (w wx : World) (p cp : Nat) (q : Option Nat) (d : DV) (lp mb n m : Nat) (ev fv : Value) (L : Lst) (s : Rs) (p' cp' : Nat) (q' : Option Nat) (d' : DV) (s' : Rs) (h : PaM w p cp q d lp mb n m ev fv L s p' cp' q' d' s' wx)
   (hn : n ≤ 4000000) (hb : s'.c.b.length ≤ 4000000) :
   Calls Tryz.prog 129 #[.pointer (some ⟨lp,0,none⟩),.pointer (some ⟨p',0,none⟩)] wx (NamesR w p cp q d lp mb n m ev fv L s p' cp' q' d' (namesGo n 0 s'.inside L.files)):=by
 have HP:=Lib.hid h
 have hnI : (n : Int) ≤ 4000000:=by omega
 have HB:=Lib.hid (show s'.inside.c.b.length ≤ 4000000 by rw [inside_b];exact hb)
 have HI:=Lib.hid (inside_any wx p' cp' q' s' d' h.sub (by omega))
 have HNn:=Lib.hid hn
 clear h hn hb
 generalize s'.inside = s1 at *
 go_enter Tryz.func129,Tryz.ntmps129
 go_wp2_with (go_at_call 106;refine HI.out.mono ?_;rintro e w1 ⟨rfl,R1,F1⟩;have P1:=HP.out.on2 F1 R1)
 go_loopw [4] (fun iv wr => ∃ (i : Nat) (F : List Fil) (t : Rs),i ≤ n ∧ iv = .int .i64 (i : Int) ∧ namesGo n 0 s1 L.files = namesGo (n - i) i t F ∧ t.c.b.length ≤ 4000000 ∧ PaM w p cp q d lp mb n m ev fv { L with files:=F } s p' cp' q' d' t wr) (fun iv _ => n - (intOf iv).toNat)
 case atStart => exact ⟨0,L.files,s1,Nat.zero_le _,rfl,rfl,HB.out,P1⟩
 case round =>
   obtain ⟨i,F,t,hi,rfl,hgo,htb,P⟩:=hrel
   have HGo:=Lib.hid hgo
   have HPr:=Lib.hid P
   have HTB:=Lib.hid htb
   clear hgo P htb P1 F1 R1
   by_cases hz : t.ok.k = 0
   rotate_left
   · have HK:=Lib.hid (show (t.ok.k == 0) = false by rw [beq_eq_false_iff_ne];exact hz)
     have HE:=Lib.hid (show namesGo n 0 s1 L.files = (F,t.ok) by rw [HGo.out,namesGo_bad hz])
     clear hz
     go_wp2_with (go_at_call 37;refine (ok_any _ p' cp' q' t _ HPr.out.sub).mono ?_;rw [HK.out];rintro e w2 ⟨rfl,R2,F2⟩;have P2:=HPr.out.on2 F2.two1 R2)
     go_end0
     exact ⟨rfl,by rw [HE.out];exact P2⟩
   have HK:=Lib.hid (show (t.ok.k == 0) = true by rw [hz];rfl)
   have HO:=Lib.hid (Rs.ok_of_zero hz)
   by_cases hlt : i < n
   rotate_left
   · have hltI : ¬ (i : Int) < (n : Int):=by omega
     have HE:=Lib.hid (show namesGo n 0 s1 L.files = (F,t) by rw [HGo.out,show n - i = 0 by omega];show (F,t.ok) = _;rw [HO.out])
     clear hz
     go_wp2_with (go_at_call 37;refine (ok_any _ p' cp' q' t _ HPr.out.sub).mono ?_;rw [HK.out,HO.out];rintro e w2 ⟨rfl,R2,F2⟩;have P2:=HPr.out.on2 F2.two1 R2;obtain ⟨l0,l1,l2,l3,l4,lf⟩:=cells5 P2.fi.ls.ls)
     go_end0
     exact ⟨rfl,by rw [HE.out];exact P2⟩
   have hltI : (i : Int) < (n : Int):=by omega
   have HM:=Lib.hid (show n - i = n - (i + 1) + 1 by omega)
   have HZ:=Lib.hid hz
   clear hz
   go_wp2_with (go_at_call 37;refine (ok_any _ p' cp' q' t _ HPr.out.sub).mono ?_;rw [HK.out,HO.out];rintro e w2 ⟨rfl,R2,F2⟩;have P2:=HPr.out.on2 F2.two1 R2;obtain ⟨l0,l1,l2,l3,l4,lf⟩:=cells5 P2.fi.ls.ls)
   clear l0 l1 l2 l3 l4 lf
   have HTop:=Lib.hid P2.top
   have hle0:=P2.sub.le
   go_loopw [5,6] (fun uv _ wr => ∃ (mm : Nat) (U : List Nat) (x : Rs),t.units = unitsGo mm x U ∧ x.c.b.length - x.c.at_ < mm ∧ U.length ≤ x.c.at_ ∧ (∀ y ∈ U,y < 65536) ∧ x.c.b = t.c.b ∧ w2.heap.size ≤ wr.heap.size ∧ wr.ownsRow w2.heap.size 50 1 uv U.length (hv U) ∧ PaM w p cp q d lp mb n m ev fv { L with files:=F } s p' cp' q' d' x wr) (fun _ _ wr => t.c.b.length - atOf wr cp')
   case atStart => exact ⟨t.c.b.length + 1,[],t,rfl,by omega,Nat.zero_le _,by simp,rfl,Nat.le_refl _,World.ownsRow_nil _ _ _ _,P2⟩
   case round =>
     obtain ⟨mm,U,x,hgo,hmm,hUl,hUb,hxb,hws2,own,P⟩:=hrel
     obtain ⟨uao,ucap,rfl,-⟩:=own_outS own
     have HOwn:=Lib.hid own
     have HPx:=Lib.hid P
     have HGU:=Lib.hid hgo
     have HUl:=Lib.hid hUl
     have HUb:=Lib.hid hUb
     have HXB:=Lib.hid hxb
     have HMM:=Lib.hid hmm
     have hxl:=P.sub.le
     have HXL:=Lib.hid hxl
     obtain ⟨mm',rfl⟩ : ∃ mm',mm = mm' + 1:=⟨mm - 1,by omega⟩
     clear own P hgo hUl hUb hxb hmm P2 R2 F2 hle0 hxl
     by_cases hzx : x.ok.k = 0
     rotate_left
     · have HKx:=Lib.hid (show (x.ok.k == 0) = false by rw [beq_eq_false_iff_ne];exact hzx)
       have HU2:=Lib.hid (show t.units = (U,x.ok) by rw [HGU.out,unitsGo_bad hzx])
       have HE:=Lib.hid (show namesGo n 0 s1 L.files = (F,x.ok) by
         rw [HGo.out,HM.out,namesGo_cut HZ.out (by rw [HU2.out,Rs.ok_ok];exact hzx),HU2.out,Rs.ok_ok])
       have HOO:=Lib.hid (Rs.ok_ok x)
       clear hzx
       go_wp2_with (first
         | (have hq:=P3;go_at_call 37;refine (ok_any _ p' cp' q' x.ok _ P3.sub).mono ?_;rw [HOO.out,HKx.out];rintro e w4 ⟨rfl,R4,F4⟩;have P4:=P3.on2 F4.two1 R4)
         | (go_at_call 37;refine (ok_any _ p' cp' q' x _ HPx.out.sub).mono ?_;rw [HKx.out];rintro e w3 ⟨rfl,R3,F3⟩;have P3:=HPx.out.on2 F3.two1 R3))
       go_end0
       exact ⟨rfl,by rw [HE.out];exact P4⟩
     have HKx:=Lib.hid (show (x.ok.k == 0) = true by rw [hzx];rfl)
     have HOx:=Lib.hid (Rs.ok_of_zero hzx)
     obtain ⟨hv1,hv2⟩:=num2 x
     have HV2:=Lib.hid hv2
     have HNm:=Lib.hid (fun wy (C : CurAt wy cp' q' x.c) => num_any wy cp' q' x.c 2 C (by rw [HXB.out];have:=HTB.out;omega))
     have HNE:=Lib.hid (show (x.c.num 2).1 = (x.num 2).1 from rfl)
     have HNC:=Lib.hid (show ({ x with c:=(x.c.num 2).2 } : Rs) = (x.num 2).2 from rfl)
     have HYB:=Lib.hid (rnum_b x 2)
     rw [HNE.out] at HNm
     have HUend:=Lib.hid (unitsGo_end (m:=mm') (U:=U) hzx)
     have HUok:=Lib.hid (unitsGo_ok (m:=mm') (U:=U) hzx)
     clear hzx hv2
     generalize (x.num 2).1 = v at *
     generalize (x.num 2).2 = y at *
     have hvI : (v : Int) < 65536:=by omega
     by_cases hv0 : v = 0
     rotate_left
     · have t0 : ((v : Int) == 0) = false:=by rw [beq_eq_false_iff_ne];omega
       have HV3:=Lib.hid (show y.c.at_ = x.c.at_ + 2 ∧ x.c.at_ + 2 ≤ x.c.b.length by rcases HV2.out with h | h;exact absurd h hv0;exact h)
       have HG2:=Lib.hid (show t.units = unitsGo mm' y (U ++ [v]) by rw [HGU.out,HUok.out hv0])
       have HLast:=Lib.hid (show ∀ z ∈ U ++ [v],z < 65536 from fun z hz => by
         rcases List.mem_append.1 hz with hz | hz
         · exact HUb.out z hz
         · simp at hz;omega)
       have h0I : (0 : Int) ≤ (v : Int):=by omega
       clear hv0 hv1
       have hus : U.length ≤ 4000000:=by have:=HUl.out;have:=HXL.out;have:=HXB.out;have:=HTB.out;rw [HXB.out] at *;omega
       go_wp2_with (first
         | (at_builtin;refine wpList_append_struct styM_u16 rfl _ _ rfl w2.heap.size _ _ _ (by rfl) (own_frB own4 ((Fr.refl [] w4).alloc (.cells #[.int .u16 (v : Int)] 50)) (by simp)) w4.heap.size [.int .u16 (v : Int)] (by rfl) (heap_alloc_new w4 _) rfl rfl (by omega) (by decide) (by rw [World.size_alloc];omega) ?_;intro v5 w5 own5 g5)
         | (have hq:=P3;go_at_call 27;refine (HNm.out _ P3.sub.cur).mono ?_;rintro e w4 ⟨rfl,C4,F4⟩;have R4:=P3.sub.cur' F4 C4;rw [HNC.out] at R4;have P4:=P3.on2 F4.two2 R4;have own4:=own_frB own3 F4 (by simp;exact HTop.out.2.1);have hsz4:=Nat.le_trans hsz3 F4.size)
         | (go_at_call 37;refine (ok_any _ p' cp' q' x _ HPx.out.sub).mono ?_;rw [HKx.out,HOx.out];rintro e w3 ⟨rfl,R3,F3⟩;have P3:=HPx.out.on2 F3.two1 R3;have c3:=(cells9 P3.sub.blk).1;have own3:=own_frB HOwn.out F3 (by simp;exact HTop.out.1);have hsz3:=Nat.le_trans hws2 F3.size))
       have P5:=P4.grow HTop.out own4 (by decide) g5
       have hsz5 : w2.heap.size ≤ w5.heap.size:=by have h1:=((Fr.refl (v5.ownBlock.toList) w4).alloc (.cells #[.int .u16 (v : Int)] 50));have h2:=g5.size;have h3:=h1.size;omega
       go_roundw
       case rel => exact ⟨mm',U ++ [v],y,HG2.out,by have h1:=HV3.out;have h2:=HMM.out;rw [HYB.out,h1.1];omega,by have h1:=HV3.out;have h2:=HUl.out;simp;omega,HLast.out,by rw [HYB.out,HXB.out],hsz5,by rw [List.length_append,show hv (U ++ [v]) = hv U ++ [.int .u16 (v : Int)] by simp [hv]];exact own5,P5⟩
       case measure =>
         have h1:=P5.sub.cur.atOf
         have h2:=HPx.out.sub.cur.atOf
         have h3:=HV3.out
         have h4:=HXB.out
         rw [h1,h2]
         rw [h4] at h3
         omega
     subst hv0
     have HU2:=Lib.hid (show t.units = (U,y) by rw [HGU.out,HUend.out rfl])
     by_cases hzy : y.ok.k = 0
     rotate_left
     · have HKy:=Lib.hid (show (y.ok.k == 0) = false by rw [beq_eq_false_iff_ne];exact hzy)
       have HE:=Lib.hid (show namesGo n 0 s1 L.files = (F,y.ok) by
         rw [HGo.out,HM.out,namesGo_cut HZ.out (by rw [HU2.out];exact hzy),HU2.out])
       clear hzy hvI hv1
       go_wp2_with (first
         | (have hq:=P4;go_at_call 37;refine (ok_any _ p' cp' q' y _ P4.sub).mono ?_;rw [HKy.out];rintro e w5 ⟨rfl,R5,F5⟩;have P5:=P4.on2 F5.two1 R5)
         | (have hq:=P3;go_at_call 27;refine (HNm.out _ P3.sub.cur).mono ?_;rintro e w4 ⟨rfl,C4,F4⟩;have R4:=P3.sub.cur' F4 C4;rw [HNC.out] at R4;have P4:=P3.on2 F4.two2 R4)
         | (go_at_call 37;refine (ok_any _ p' cp' q' x _ HPx.out.sub).mono ?_;rw [HKx.out,HOx.out];rintro e w3 ⟨rfl,R3,F3⟩;have P3:=HPx.out.on2 F3.two1 R3;have c3:=(cells9 P3.sub.blk).1))
       go_end0
       exact ⟨rfl,by rw [HE.out];exact P5⟩
     have HKy:=Lib.hid (show (y.ok.k == 0) = true by rw [hzy];rfl)
     have HOy:=Lib.hid (Rs.ok_of_zero hzy)
     obtain ⟨f,hf⟩:=some_get F i (by have h1:=HPx.out.fi.fl;dsimp only at h1;omega)
     obtain ⟨gf,fcap,hfv⟩ : ∃ gf fcap,fv = .slice (some ⟨gf,0,none⟩) n fcap:=by
       rcases HPx.out.fi.own.2 with ⟨h1,h2⟩ | ⟨g',cap',cur,h1,-⟩
       · omega
       · exact ⟨g',cap',h1⟩
     subst hfv
     have HPut:=Lib.hid (fun wy (t' : Rs) (P : PaM w p cp q d lp mb n m ev (.slice (some ⟨gf,0,none⟩) n fcap) { L with files:=F } s p' cp' q' d' t' wy) => P.put i f { f with name:=(textL U).getD [] } 0 (.string ⟨((textL U).getD []).toArray⟩) hf (by decide) rfl)
     simp only [Nat.add_zero] at HPut
     have HNF:=Lib.hid (show F.set i { f with name:=(textL U).getD [] } = nameAt F i ((textL U).getD []) by unfold nameAt;rw [modify_at _ hf])
     have hUl5 : U.length ≤ 4000000:=by have h1:=HUl.out;have h2:=HXL.out;have h3:=HXB.out;have h4:=HTB.out;rw [← h3] at h4;omega
     have HTx:=Lib.hid (fun wy v5 (S : Sl wy v5 (hv U)) => text_one wy v5 U S HUb.out hUl5)
     have HG3:=Lib.hid (show namesGo n 0 s1 L.files = namesGo (n - (i + 1)) (i + 1) (if (textL U).isNone then y.fail 15 else y) (nameAt F i ((textL U).getD [])) by
       rw [HGo.out,HM.out,namesGo_ok HZ.out (by rw [HU2.out];exact hzy)]
       unfold nameOk
       rw [HU2.out]
       dsimp only
       rw [HOy.out])
     have HYB2:=Lib.hid (show y.c.b.length ≤ 4000000 by rw [HYB.out,HXB.out];exact HTB.out)
     clear hzy hvI hv1 hf hUl5
     generalize (textL U).getD [] = nm at *
     cases hnone : (textL U).isNone with
     | false =>
       rw [hnone] at HTx HG3
       simp only [Bool.false_eq_true,if_false] at HTx HG3
       clear hnone
       go_wp2_with (first
         | (have hq:=P5;go_at_call 142;refine (HTx.out _ _ (Sl.of_own own5)).mono ?_;rintro e w6 ⟨rfl,F6⟩;have P6:=P5.fr0 F6;obtain ⟨l0,l1,l2,l3,l4,lf⟩:=cells5 P6.fi.ls.ls;obtain ⟨⟨u0,hu0⟩,huz,P9⟩:=HPut.out _ _ P6)
         | (have hq:=P4;go_at_call 37;refine (ok_any _ p' cp' q' y _ P4.sub).mono ?_;rw [HKy.out,HOy.out];rintro e w5 ⟨rfl,R5,F5⟩;have P5:=P4.on2 F5.two1 R5;have own5:=own_frB own4 F5 (by simp;exact HTop.out.1))
         | (have hq:=P3;go_at_call 27;refine (HNm.out _ P3.sub.cur).mono ?_;rintro e w4 ⟨rfl,C4,F4⟩;have R4:=P3.sub.cur' F4 C4;rw [HNC.out] at R4;have P4:=P3.on2 F4.two2 R4;have own4:=own_frB own3 F4 (by simp;exact HTop.out.2.1))
         | (go_at_call 37;refine (ok_any _ p' cp' q' x _ HPx.out.sub).mono ?_;rw [HKx.out,HOx.out];rintro e w3 ⟨rfl,R3,F3⟩;have P3:=HPx.out.on2 F3.two1 R3;have c3:=(cells9 P3.sub.blk).1;have own3:=own_frB HOwn.out F3 (by simp;exact HTop.out.1)))
       go_roundw
       case rel => exact ⟨i + 1,nameAt F i nm,y,by omega,by go_num,HG3.out,HYB2.out,by rw [← HNF.out];exact P9⟩
       case measure => simp [intOf];omega
     | true =>
       rw [hnone] at HTx HG3
       simp only [if_true] at HTx HG3
       clear hnone
       go_wp2_with (first
         | (have hq:=P6;go_at_call 38;refine (rfail_any _ p' cp' q' y _ 15 P6.sub).mono ?_;rintro e w7 ⟨rfl,R7,F7⟩;have P7:=P6.on2 F7.two1 R7;obtain ⟨l0,l1,l2,l3,l4,lf⟩:=cells5 P7.fi.ls.ls;obtain ⟨⟨u0,hu0⟩,huz,P9⟩:=HPut.out _ _ P7)
         | (have hq:=P5;go_at_call 142;refine (HTx.out _ _ (Sl.of_own own5)).mono ?_;rintro e w6 ⟨rfl,F6⟩;have P6:=P5.fr0 F6)
         | (have hq:=P4;go_at_call 37;refine (ok_any _ p' cp' q' y _ P4.sub).mono ?_;rw [HKy.out,HOy.out];rintro e w5 ⟨rfl,R5,F5⟩;have P5:=P4.on2 F5.two1 R5;have own5:=own_frB own4 F5 (by simp;exact HTop.out.1))
         | (have hq:=P3;go_at_call 27;refine (HNm.out _ P3.sub.cur).mono ?_;rintro e w4 ⟨rfl,C4,F4⟩;have R4:=P3.sub.cur' F4 C4;rw [HNC.out] at R4;have P4:=P3.on2 F4.two2 R4;have own4:=own_frB own3 F4 (by simp;exact HTop.out.2.1))
         | (go_at_call 37;refine (ok_any _ p' cp' q' x _ HPx.out.sub).mono ?_;rw [HKx.out,HOx.out];rintro e w3 ⟨rfl,R3,F3⟩;have P3:=HPx.out.on2 F3.two1 R3;have c3:=(cells9 P3.sub.blk).1;have own3:=own_frB HOwn.out F3 (by simp;exact HTop.out.1)))
       go_roundw
       case rel => exact ⟨i + 1,nameAt F i nm,y.fail 15,by omega,by go_num,HG3.out,HYB2.out,by rw [← HNF.out];exact P9⟩
       case measure => simp [intOf];omega
end Go.Proofs.YtkodindajfdagaaGreatDoor
/- Contract: the list's numbers. No condition but that lengths fit. -/
namespace Go.Proofs.YtkodindajfdagaaGreatDoor
open Go.RowKit Go.Maps
theorem PaM.put2 {w : World} {p cp : Nat} {q : Option Nat} {d : DV} {lp mb n m g cap : Nat} {ev : Value} {L : Lst} {s : Rs} {p' cp' : Nat} {q' : Option Nat} {d' : DV} {s' : Rs} {wx : World} (h : PaM w p cp q d lp mb n m ev (.slice (some ⟨g,0,none⟩) n cap) L s p' cp' q' d' s' wx)
   (i : Nat) (x y z : Fil) (j k : Nat) (v u : Value) (hx : L.files[i]? = some x) (hj : j < 7) (hk : k < 7) (e1 : x.cells.set j v = y.cells) (e2 : y.cells.set k u = z.cells) :
   (∃ u,wx.cell? ⟨g,i * 7 + j,none⟩ = some u) ∧ (∃ u,wx.cell? ⟨g,i * 7 + k,none⟩ = some u) ∧ (∀ o,wx.frozen? ⟨g,o,none⟩ = false) ∧
     PaM w p cp q d lp mb n m ev (.slice (some ⟨g,0,none⟩) n cap) { L with files:=L.files.set i z } s p' cp' q' d' s' ((wx.setCell ⟨g,i * 7 + j,none⟩ v).setCell ⟨g,i * 7 + k,none⟩ u):=by
 have hi:=(List.getElem?_eq_some_iff.1 hx).1
 have hfl:=h.fi.fl
 obtain ⟨u0,hu0⟩:=some_get (fiV L.files) (i * 7 + k) (by rw [fiV_length];omega)
 obtain ⟨q1,q2,q3⟩:=h.put i x y j v hx hj e1
 obtain ⟨-,-,q4⟩:=q3.put i y z k u (by show (L.files.set i y)[i]? = some y;rw [List.getElem?_set,if_pos rfl,if_pos hi]) hk e2
 refine ⟨q1,⟨u0,(h.fi.own.cellAt (i * 7 + k) (by omega)).trans hu0⟩,fun o => h.fi.own.frozenAt _,?_⟩
 have e3 : ({ ({ L with files:=L.files.set i y } : Lst) with files:=(L.files.set i y).set i z } : Lst) = { L with files:=L.files.set i z }:=by rw [List.set_set]
 rw [← e3]
 exact q4
theorem numsGo_bad {id k : Nat} {t : List Bool} {s : Rs} {F : List Fil} (h : (s.num (numSz id)).2.ok.k ≠ 0) : numsGo id (true :: t) k s F = (F,(s.num (numSz id)).2.ok):=by
 show (if true = false then _ else if (s.num (numSz id)).2.ok.k ≠ 0 then _ else _) = _
 rw [if_neg (by decide),if_pos h]
theorem numsGo_ok {id k : Nat} {t : List Bool} {s : Rs} {F : List Fil} (h : (s.num (numSz id)).2.ok.k = 0) : numsGo id (true :: t) k s F = numsGo id t (k + 1) (s.num (numSz id)).2 (numAt id F k (s.num (numSz id)).1):=by
 show (if true = false then _ else if (s.num (numSz id)).2.ok.k ≠ 0 then _ else _) = _
 rw [if_neg (by decide),if_neg (by simp [h]),Rs.ok_of_zero h]
theorem numsGo_no {id k : Nat} {t : List Bool} {s : Rs} {F : List Fil} : numsGo id (false :: t) k s F = numsGo id t (k + 1) s F:=by
 show (if false = false then _ else _) = _
 rw [if_pos rfl]
theorem numAt_len (id : Nat) (F : List Fil) (i v : Nat) : (numAt id F i v).length = F.length:=by
 unfold numAt
 split
 · simp
 · split <;> simp
theorem rtold_b (s : Rs) (n : Int) : (s.told n).2.c.b = s.c.b:=told_b s.c n
theorem rtold_len (s : Rs) (n : Nat) : (s.told (n : Int)).1.length ≤ n:=Nat.le_trans (told_len s.c n) (by simp)
theorem numSz_lt (s : Rs) (id : Nat) : (s.num (numSz id)).1 < 18446744073709551616 ∧ (id = 21 → (s.num (numSz id)).1 < 4294967296):=by
 have key : ∀ k : Nat,(k = 4 ∨ k = 8) → (s.num (k : Int)).1 < 256 ^ k:=fun k hk => by
   have e : (s.num (k : Int)).1 = leNat (s.c.take k).1:=by rcases hk with rfl | rfl <;> rfl
   have h1 : (s.c.take k).1.length ≤ k:=by unfold Cur.take;split <;> simp;omega
   have h2:=leNat_lt (s.c.take k).1
   have : 256 ^ (s.c.take k).1.length ≤ 256 ^ k:=Nat.pow_le_pow_right (by omega) h1
   omega
 unfold numSz
 by_cases h : id = 21
 · rw [if_pos h]
   have:=key 4 (.inl rfl)
   have h4 : (s.num 4).1 < 4294967296:=this
   exact ⟨by omega,fun _ => h4⟩
 · rw [if_neg h]
   have:=key 8 (.inr rfl)
   have h8 : (s.num 8).1 < 18446744073709551616:=this
   exact ⟨h8,fun e => absurd e h⟩
set_option maxRecDepth 100000 in
set_option maxHeartbeats 8000000 in
theorem numbers_any (w wx : World) (p cp : Nat) (q : Option Nat) (d : DV) (lp mb n m : Nat) (ev fv : Value) (L : Lst) (s : Rs) (p' cp' : Nat) (q' : Option Nat) (d' : DV) (s' : Rs) (h : PaM w p cp q d lp mb n m ev fv L s p' cp' q' d' s' wx)
   (hn : n ≤ 4000000) (hb : s'.c.b.length ≤ 4000000) (id : Nat) :
   Calls Tryz.prog 130 #[.pointer (some ⟨lp,0,none⟩),.int .i64 (id : Int),.pointer (some ⟨p',0,none⟩)] wx (NamesR w p cp q d lp mb n m ev fv L s p' cp' q' d' (numsGo id (s'.told n).1 0 (s'.told n).2.inside L.files)):=by
 have HP:=Lib.hid h
 have hnI : (n : Int) ≤ 4000000:=by omega
 have HNn:=Lib.hid hn
 have HTo:=Lib.hid (fun wy (P : PaM w p cp q d lp mb n m ev fv L s p' cp' q' d' s' wy) => told_any wy cp' q' s'.c (n : Int) (by omega) P.sub.cur (by omega))
 have HTB:=Lib.hid (show (s'.told n).2.c.b.length ≤ 4000000 by rw [rtold_b];exact hb)
 have HTI:=Lib.hid (show (s'.told n).2.inside.c.b.length ≤ 4000000 by rw [inside_b,rtold_b];exact hb)
 have HTL:=Lib.hid (rtold_len s' n)
 have HTE:=Lib.hid (show (s'.c.told (n : Int)) = ((s'.told n).1,(s'.told n).2.c) from rfl)
 have HTK:=Lib.hid (show ({ s' with c:=(s'.told n).2.c } : Rs) = (s'.told n).2 from rfl)
 rw [HTE.out] at HTo
 have HIn:=Lib.hid (fun wy (R : RdAt wy p' cp' q' (s'.told n).2 d') => inside_any wy p' cp' q' (s'.told n).2 d' R (by have:=HTB.out;omega))
 have HPd:=Lib.hid (h.fr0 (Fr.refl _ _).drew)
 obtain ⟨-,l1,-⟩:=cells5 HPd.out.fi.ls.ls
 have c0:=(cells9 HPd.out.sub.blk).1
 clear h hn hb HTE
 generalize (s'.told n).2.inside = u1 at *
 generalize (s'.told n).2 = u at *
 generalize (s'.told n).1 = hs at *
 go_enter Tryz.func130,Tryz.ntmps130
 go_wp2_with fail
 go_region_held3 (fun w' => w'.cell? ⟨p',0,none⟩ = some (.pointer (some ⟨cp',0,none⟩)) ∧ w'.cell? ⟨lp,1,none⟩ = some (.int .i64 (n : Int)))
   (first | exact ⟨c0,l1⟩ | exact ⟨(cells9 P2.sub.blk).1,(cells5 P2.fi.ls.ls).2.1⟩ | go_keep)
   (first
     | (go_at_call 131;refine (HTo.out _ HPd.out).mono ?_;rintro e w2 ⟨v,rfl,own2,C2,F2⟩;have R2:=HPd.out.sub.cur' F2 C2;rw [HTK.out] at R2;have P2:=HPd.out.on2 F2.two2 R2;obtain ⟨vao,vcap,rfl,-⟩:=own_outS own2))
 have hB2:=own_monoM own2 (Nat.le_refl _)
 have HSz2:=Lib.hid (show wx.drew.heap.size = wx.heap.size from rfl)
 rw [HSz2.out] at own2
 clear hB2 c0 l1 C2 F2 R2 HPd
 go_upto_region 1 with fail
 rename_i K0 hK0
 go_cut [] (fun wy => wy.ownsRow wx.heap.size 4 1 (.slice vao hs.length vcap) hs.length (tv hs) ∧ PaM w p cp q d lp mb n m ev fv L s p' cp' q' d' u1 wy)
 case first =>
   clear hK0
   have hpt:=P2.top
   go_wp2_with (go_at_call 106;refine (HIn.out _ P2.sub).mono ?_;rintro e w3 ⟨rfl,R3,F3⟩;have P3:=P2.on2 F3 R3)
   go_meet
   case rel => exact ⟨own_frB own2 F3 (by simp;exact ⟨HP.out.sub.lt,HP.out.sub.cur.lt⟩),P3⟩
 case rest =>
 clear own2 P2
 obtain ⟨own3,P3⟩:=hcut
 (refine hK0 _ _ ?_;clear hK0;refine wp_seq_k fun K1 hK1 => ?_)
 go_cut [7] (fun v7 wy => v7 = .int .i64 8 ∧ wy.ownsRow wx.heap.size 4 1 (.slice vao hs.length vcap) hs.length (tv hs) ∧ PaM w p cp q d lp mb n m ev fv L s p' cp' q' d' u1 wy)
 case first =>
   clear hK1
   go_wp2_with fail
   go_meet
   case rel => exact ⟨rfl,own3,P3⟩
 case rest =>
 clear own3 P3
 obtain ⟨rfl,own3,P3⟩:=hcut
 (refine hK1 _ _ ?_;clear hK1;refine wp_seq_k fun K2 hK2 => ?_)
 go_cut [7] (fun v7 wy => v7 = .int .i64 (numSz id) ∧ wy.ownsRow wx.heap.size 4 1 (.slice vao hs.length vcap) hs.length (tv hs) ∧ PaM w p cp q d lp mb n m ev fv L s p' cp' q' d' u1 wy)
 case first =>
   clear hK2
   by_cases h21 : id = 21
   · have t0 : ((id : Int) == 21) = true:=by rw [h21];rfl
     have HN1:=Lib.hid (show numSz id = 4 by unfold numSz;rw [if_pos h21])
     clear h21
     go_wp2_with fail
     go_meet
     case rel => exact ⟨by rw [HN1.out],own3,P3⟩
   · have t0 : ((id : Int) == 21) = false:=by rw [beq_eq_false_iff_ne];omega
     have HN1:=Lib.hid (show numSz id = 8 by unfold numSz;rw [if_neg h21])
     clear h21
     go_wp2_with fail
     go_meet
     case rel => exact ⟨by rw [HN1.out],own3,P3⟩
 case rest =>
 clear own3 P3
 obtain ⟨rfl,own3,P3⟩:=hcut
 have hsI : (hs.length : Int) ≤ 4000000:=by have:=HTL.out;omega
 obtain ⟨sz,hsz⟩ : ∃ sz,numSz id = sz:=⟨_,rfl⟩
 have HSZ:=Lib.hid hsz
 rw [hsz]
 clear hsz
 go_wp2_with fail
 go_loopw [26] (fun iv wr => ∃ (k : Nat) (F : List Fil) (t : Rs),k ≤ hs.length ∧ iv = .int .i64 (k : Int) ∧ numsGo id hs 0 u1 L.files = numsGo id (hs.drop k) k t F ∧ t.c.b.length ≤ 4000000 ∧ wr.ownsRow wx.heap.size 4 1 (.slice vao hs.length vcap) hs.length (tv hs) ∧ PaM w p cp q d lp mb n m ev fv { L with files:=F } s p' cp' q' d' t wr) (fun iv _ => hs.length - (intOf iv).toNat)
 case atStart => exact ⟨0,L.files,u1,Nat.zero_le _,rfl,rfl,HTI.out,own3,P3⟩
 case round =>
   obtain ⟨k,F,t,hk,rfl,hgo,htb,own,P⟩:=hrel
   have HGo:=Lib.hid hgo
   have HPr:=Lib.hid P
   have HTb:=Lib.hid htb
   have HOwn:=Lib.hid own
   clear hgo P htb own own3 P3
   by_cases hlt : k < hs.length
   rotate_left
   · have hltI : ¬ (k : Int) < (hs.length : Int):=by omega
     have HE:=Lib.hid (show numsGo id hs 0 u1 L.files = (F,t) by rw [HGo.out,show hs.drop k = [] from List.drop_of_length_le (by omega)];rfl)
     go_wp2_with fail
     go_end0
     exact ⟨rfl,by rw [HE.out];exact HPr.out⟩
   have hltI : (k : Int) < (hs.length : Int):=by omega
   obtain ⟨b,hbk⟩:=some_get hs k hlt
   have hdr : hs.drop k = b :: hs.drop (k + 1):=by
     obtain ⟨h1,h2⟩:=List.getElem?_eq_some_iff.1 hbk
     rw [List.drop_eq_getElem_cons h1,h2]
   have HDr:=Lib.hid hdr
   obtain ⟨gh,hgh,cH⟩ : ∃ gh,vao = some ⟨gh,0,none⟩ ∧ wr.cell? ⟨gh,k,none⟩ = some (.bool b):=by
     rcases HOwn.out.2 with ⟨h1,h2⟩ | ⟨g',cap',cur,h1,-⟩
     · omega
     · injection h1 with h1 _ _
       subst h1
       exact ⟨g',rfl,(HOwn.out.cellAt k (by omega)).trans (tv_get _ _ _ hbk)⟩
   subst hgh
   clear hbk hdr
   cases b with
   | false =>
     have HG2:=Lib.hid (show numsGo id hs 0 u1 L.files = numsGo id (hs.drop (k + 1)) (k + 1) t F by rw [HGo.out,HDr.out,numsGo_no])
     go_wp2_with fail
     go_roundw
     case rel => exact ⟨k + 1,F,t,by omega,by go_num,HG2.out,HTb.out,HOwn.out,HPr.out⟩
     case measure => simp [intOf];omega
   | true =>
   have HNm:=Lib.hid (fun wy (C : CurAt wy cp' q' t.c) => num_any wy cp' q' t.c sz C (by have:=HTb.out;omega))
   have HNE:=Lib.hid (show (t.c.num sz).1 = (t.num (numSz id)).1 by rw [HSZ.out];rfl)
   have HNC:=Lib.hid (show ({ t with c:=(t.c.num sz).2 } : Rs) = (t.num (numSz id)).2 by rw [HSZ.out];rfl)
   have HYB:=Lib.hid (rnum_b t (numSz id))
   rw [HNE.out] at HNm
   obtain ⟨hv1,hv2⟩:=numSz_lt t id
   have HBad:=Lib.hid (numsGo_bad (id:=id) (k:=k) (t:=hs.drop (k + 1)) (s:=t) (F:=F))
   have HOk:=Lib.hid (numsGo_ok (id:=id) (k:=k) (t:=hs.drop (k + 1)) (s:=t) (F:=F))
   have c0:=(cells9 HPr.out.sub.blk).1
   generalize (t.num (numSz id)).1 = v at *
   generalize (t.num (numSz id)).2 = y at *
   by_cases hz : y.ok.k = 0
   rotate_left
   · have HK:=Lib.hid (show (y.ok.k == 0) = false by rw [beq_eq_false_iff_ne];exact hz)
     have HE:=Lib.hid (show numsGo id hs 0 u1 L.files = (F,y.ok) by rw [HGo.out,HDr.out,HBad.out hz])
     clear hz hv1 hv2
     go_wp2_with (first
       | (have hq:=P4;go_at_call 37;refine (ok_any _ p' cp' q' y _ P4.sub).mono ?_;rw [HK.out];rintro e w5 ⟨rfl,R5,F5⟩;have P5:=P4.on2 F5.two1 R5)
       | (go_at_call 27;refine (HNm.out _ HPr.out.sub.cur).mono ?_;rintro e w4 ⟨rfl,C4,F4⟩;have R4:=HPr.out.sub.cur' F4 C4;rw [HNC.out] at R4;have P4:=HPr.out.on2 F4.two2 R4))
     go_end0
     exact ⟨rfl,by rw [HE.out];exact P5⟩
   have HK:=Lib.hid (show (y.ok.k == 0) = true by rw [hz];rfl)
   have HO:=Lib.hid (Rs.ok_of_zero hz)
   have HG2:=Lib.hid (show numsGo id hs 0 u1 L.files = numsGo id (hs.drop (k + 1)) (k + 1) y (numAt id F k v) by rw [HGo.out,HDr.out,HOk.out hz])
   have HYB2:=Lib.hid (show y.c.b.length ≤ 4000000 by rw [HYB.out];exact HTb.out)
   have HFl:=Lib.hid (show F.length = n from HPr.out.fi.fl)
   obtain ⟨f,hf⟩:=some_get F k (by rw [HFl.out];have:=HTL.out;omega)
   have HF:=Lib.hid hf
   clear hz hf
   obtain ⟨gf,fcap,hfv⟩ : ∃ gf fcap,fv = .slice (some ⟨gf,0,none⟩) n fcap:=by
     rcases HPr.out.fi.own.2 with ⟨h1,h2⟩ | ⟨g',cap',cur,h1,-⟩
     · have:=HTL.out;omega
     · exact ⟨g',cap',h1⟩
   subst hfv
   have hknI : (k : Int) < (n : Int):=by have:=HTL.out;omega
   have HHt : ∀ wy,Fr [p',cp'] wr wy → wy.ownsRow wx.heap.size 4 1 (.slice (some ⟨gh,0,none⟩) hs.length vcap) hs.length (tv hs):=fun wy F => own_frB HOwn.out F (by simp;exact ⟨HP.out.sub.lt,HP.out.sub.cur.lt⟩)
   have HHT:=Lib.hid HHt
   clear HHt
   by_cases h20 : id = 20
   · have t0 : ((id : Int) == 20) = true:=by rw [h20];rfl
     have HNA:=Lib.hid (show numAt id F k v = F.set k { f with hasTime:=true,time:=UInt64.ofNat v } by unfold numAt;rw [if_pos h20,modify_at _ HF.out])
     have HVV:=Lib.hid (show ((UInt64.ofNat v).toNat : Int) = (v : Int) by simp;omega)
     have HPut:=Lib.hid (fun wy (P : PaM w p cp q d lp mb n m ev (.slice (some ⟨gf,0,none⟩) n fcap) { L with files:=F } s p' cp' q' d' y wy) => P.put2 k f { f with hasTime:=true } { f with hasTime:=true,time:=UInt64.ofNat v } 5 6 (.bool true) (.int .u64 (v : Int)) HF.out (by decide) (by decide) rfl (by rw [← HVV.out];rfl))
     clear hv1 hv2 h20
     go_wp2_with (first
       | (have hq:=P4;go_at_call 37;refine (ok_any _ p' cp' q' y _ P4.sub).mono ?_;rw [HK.out,HO.out];rintro e w5 ⟨rfl,R5,F5⟩;have P5:=P4.on2 F5.two1 R5;have H5:=HHT.out _ (F4.two2.tr2 F5.two1))
       | (go_at_call 27;refine (HNm.out _ HPr.out.sub.cur).mono ?_;rintro e w4 ⟨rfl,C4,F4⟩;have R4:=HPr.out.sub.cur' F4 C4;rw [HNC.out] at R4;have P4:=HPr.out.on2 F4.two2 R4))
     obtain ⟨⟨u5,hu5⟩,⟨u6,hu6⟩,hfz,P9⟩:=HPut.out _ P5
     obtain ⟨l0,l1,l2,l3,l4,lf⟩:=cells5 P5.fi.ls.ls
     have hgA : Typed w5 gf 54:=own_typed P5.fi.own gf (by simp [Value.ownBlock])
     have FG : Fr [gf] w5 ((w5.setCell ⟨gf,k * 7 + 5,none⟩ (.bool true)).setCell ⟨gf,k * 7 + 6,none⟩ (.int .u64 (v : Int))).drew:=(((Fr.refl _ _).setCell (by simp) _).setCell (by simp) _).drew
     have HFin:=Lib.hid (And.intro (own_frT H5 FG (fun i hi => .inr (by rw [List.mem_singleton.1 hi];exact hgA.ne (by decide)))) (P9.fr0 (Fr.refl _ _).drew))
     rw [← HNA.out] at HFin
     clear P9 P5 H5 hgA FG
     go_region
     all_goals
       go_wp2_with fail
       go_roundw
       case rel => exact ⟨k + 1,numAt id F k v,y,by omega,by go_num,HG2.out,HYB2.out,HFin.out.1,HFin.out.2⟩
       case measure => simp [intOf];omega
   have t0 : ((id : Int) == 20) = false:=by rw [beq_eq_false_iff_ne];omega
   by_cases h21 : id = 21
   · have t1 : ((id : Int) == 21) = true:=by rw [h21];rfl
     have hv3:=hv2 h21
     have HNA:=Lib.hid (show numAt id F k v = F.set k { f with hasAttr:=true,attr:=UInt32.ofNat v } by unfold numAt;rw [if_neg h20,if_pos h21,modify_at _ HF.out])
     have HVV:=Lib.hid (show ((UInt32.ofNat v).toNat : Int) = (v : Int) by simp;omega)
     have HPut:=Lib.hid (fun wy (P : PaM w p cp q d lp mb n m ev (.slice (some ⟨gf,0,none⟩) n fcap) { L with files:=F } s p' cp' q' d' y wy) => P.put2 k f { f with hasAttr:=true } { f with hasAttr:=true,attr:=UInt32.ofNat v } 3 4 (.bool true) (.int .u32 (v : Int)) HF.out (by decide) (by decide) rfl (by rw [← HVV.out];rfl))
     have hw32 : IntKind.u32.wrap (v : Int) = (v : Int):=by simp [IntKind.wrap,IntKind.bits,IntKind.signed];omega
     clear hv1 hv2 hv3 h20 h21
     go_wp2_with (first
       | (have hq:=P4;go_at_call 37;refine (ok_any _ p' cp' q' y _ P4.sub).mono ?_;rw [HK.out,HO.out];rintro e w5 ⟨rfl,R5,F5⟩;have P5:=P4.on2 F5.two1 R5;have H5:=HHT.out _ (F4.two2.tr2 F5.two1))
       | (go_at_call 27;refine (HNm.out _ HPr.out.sub.cur).mono ?_;rintro e w4 ⟨rfl,C4,F4⟩;have R4:=HPr.out.sub.cur' F4 C4;rw [HNC.out] at R4;have P4:=HPr.out.on2 F4.two2 R4))
     obtain ⟨⟨u5,hu5⟩,⟨u6,hu6⟩,hfz,P9⟩:=HPut.out _ P5
     obtain ⟨l0,l1,l2,l3,l4,lf⟩:=cells5 P5.fi.ls.ls
     have hgA : Typed w5 gf 54:=own_typed P5.fi.own gf (by simp [Value.ownBlock])
     have FG : Fr [gf] w5 ((w5.setCell ⟨gf,k * 7 + 3,none⟩ (.bool true)).setCell ⟨gf,k * 7 + 4,none⟩ (.int .u32 (v : Int))).drew:=(((Fr.refl _ _).setCell (by simp) _).setCell (by simp) _).drew
     have HFin:=Lib.hid (And.intro (own_frT H5 FG (fun i hi => .inr (by rw [List.mem_singleton.1 hi];exact hgA.ne (by decide)))) (P9.fr0 (Fr.refl _ _).drew))
     rw [← HNA.out] at HFin
     clear P9 P5 H5 hgA FG
     go_region
     all_goals
       go_wp2_with fail
       go_roundw
       case rel => exact ⟨k + 1,numAt id F k v,y,by omega,by go_num,HG2.out,HYB2.out,HFin.out.1,HFin.out.2⟩
       case measure => simp [intOf];omega
   · have t1 : ((id : Int) == 21) = false:=by rw [beq_eq_false_iff_ne];omega
     have HNA:=Lib.hid (show numAt id F k v = F by unfold numAt;rw [if_neg h20,if_neg h21])
     rw [HNA.out] at HG2
     clear hv1 hv2 h20 h21
     go_wp2_with (first
       | (have hq:=P4;go_at_call 37;refine (ok_any _ p' cp' q' y _ P4.sub).mono ?_;rw [HK.out,HO.out];rintro e w5 ⟨rfl,R5,F5⟩;have P5:=P4.on2 F5.two1 R5;have H5:=HHT.out _ (F4.two2.tr2 F5.two1))
       | (go_at_call 27;refine (HNm.out _ HPr.out.sub.cur).mono ?_;rintro e w4 ⟨rfl,C4,F4⟩;have R4:=HPr.out.sub.cur' F4 C4;rw [HNC.out] at R4;have P4:=HPr.out.on2 F4.two2 R4))
     go_roundw
     case rel => exact ⟨k + 1,F,y,by omega,by go_num,HG2.out,HYB2.out,H5,P5⟩
     case measure => simp [intOf];omega
end Go.Proofs.YtkodindajfdagaaGreatDoor
