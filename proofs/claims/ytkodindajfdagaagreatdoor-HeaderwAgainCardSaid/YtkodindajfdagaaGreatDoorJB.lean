/- Folders in memory. No condition. -/
import Derived.Test.YtkodindajfdagaaGreatDoorJA
import Derived.Maps.OwnSet
import Derived.Maps.OwnOps
namespace Go.Proofs.YtkodindajfdagaaGreatDoor
open Go.RowKit
def iv (l : List Int) : List Value:=l.map (.int .i64)
theorem iv_length (l : List Int) : (iv l).length = l.length:=by simp [iv]
theorem iv_get (l : List Int) (j : Nat) (x : Int) (h : l[j]? = some x) : (iv l)[j]? = some (.int .i64 x):=by simp [iv,h]
def CoAt (w : World) (b o : Nat) (c : Coder) (pv : Value) : Prop :=
 w.cell? ⟨b,o,none⟩ = some (.int .i64 c.method) ∧ w.cell? ⟨b,o + 1,none⟩ = some pv ∧ Sl w pv (bv c.props)
theorem CoAt.fr {w w' : World} {b o : Nat} {c : Coder} {pv : Value} (h : CoAt w b o c pv) (hb : b < w.heap.size) (hf : Fr [] w w') : CoAt w' b o c pv :=
 ⟨(hf.cell (p:=⟨b,_,none⟩) hb (by simp)).trans h.1,(hf.cell (p:=⟨b,_,none⟩) hb (by simp)).trans h.2.1,h.2.2.fr0 hf⟩
def Co (w : World) (v : Value) (l : List Coder) : Prop :=
 ∃ ao cap,v = .slice ao l.length cap ∧ l.length ≤ cap ∧ cap ≤ 9223372036854775807 ∧
   ∀ j c,l[j]? = some c → ∃ b o pv,ao = some ⟨b,o,none⟩ ∧ b < w.heap.size ∧ CoAt w b (o + j * 2) c pv
def Bi (w : World) (v : Value) (l : List (Int × Int)) : Prop :=
 ∃ ao cap,v = .slice ao l.length cap ∧ l.length ≤ cap ∧ cap ≤ 9223372036854775807 ∧
   ∀ j (x : Int × Int),l[j]? = some x → ∃ b o,ao = some ⟨b,o,none⟩ ∧ b < w.heap.size ∧ w.cell? ⟨b,o + j * 2,none⟩ = some (.int .i64 x.1) ∧ w.cell? ⟨b,o + j * 2 + 1,none⟩ = some (.int .i64 x.2)
theorem Co.fr {w w' : World} {v : Value} {l : List Coder} (h : Co w v l) (hf : Fr [] w w') : Co w' v l:=by
 obtain ⟨ao,cap,e,h1,h2,h3⟩:=h
 refine ⟨ao,cap,e,h1,h2,fun j c hc => ?_⟩
 obtain ⟨b,o,pv,q1,q2,q3,q4,q5⟩:=h3 j c hc
 exact ⟨b,o,pv,q1,Nat.lt_of_lt_of_le q2 hf.size,(hf.cell (p:=⟨b,_,none⟩) q2 (by simp)).trans q3,(hf.cell (p:=⟨b,_,none⟩) q2 (by simp)).trans q4,q5.fr0 hf⟩
theorem Bi.fr {w w' : World} {v : Value} {l : List (Int × Int)} (h : Bi w v l) (hf : Fr [] w w') : Bi w' v l:=by
 obtain ⟨ao,cap,e,h1,h2,h3⟩:=h
 refine ⟨ao,cap,e,h1,h2,fun j c hc => ?_⟩
 obtain ⟨b,o,q1,q2,q3,q4⟩:=h3 j c hc
 exact ⟨b,o,q1,Nat.lt_of_lt_of_le q2 hf.size,(hf.cell (p:=⟨b,_,none⟩) q2 (by simp)).trans q3,(hf.cell (p:=⟨b,_,none⟩) q2 (by simp)).trans q4⟩
structure FoV (w : World) (c b p s : Value) (f : Folder) : Prop where
 co : Co w c f.coders
 bi : Bi w b f.binds
 pa : Sl w p (iv f.packs)
 si : Sl w s (u64v f.sizes)
theorem FoV.fr {w w' : World} {c b p s : Value} {f : Folder} (h : FoV w c b p s f) (hf : Fr [] w w') : FoV w' c b p s f:=⟨h.co.fr hf,h.bi.fr hf,h.pa.fr0 hf,h.si.fr0 hf⟩
def Fo (w : World) (v : Value) (f : Folder) : Prop:=∃ c b p s h k,v = .agg #[c,b,p,s,h,k] ∧ FoV w c b p s f
theorem Fo.fr {w w' : World} {v : Value} {f : Folder} (h : Fo w v f) (hf : Fr [] w w') : Fo w' v f:=by
 obtain ⟨c,b,p,s,h,k,e,q⟩:=h
 exact ⟨c,b,p,s,h,k,e,q.fr hf⟩
theorem box6 {w wr : World} {t : TypeId} {c b p s h k : Value} (F : Fr [] (w.alloc (.cells #[c,b,p,s,h,k] t)) wr) :
   wr.cell? ⟨w.heap.size,0,none⟩ = some c ∧ wr.cell? ⟨w.heap.size,1,none⟩ = some b ∧ wr.cell? ⟨w.heap.size,2,none⟩ = some p ∧ wr.cell? ⟨w.heap.size,3,none⟩ = some s ∧ wr.cell? ⟨w.heap.size,4,none⟩ = some h ∧ wr.cell? ⟨w.heap.size,5,none⟩ = some k:=by
 have key : ∀ (i : Nat),wr.cell? ⟨w.heap.size,i,none⟩ = #[c,b,p,s,h,k][i]?:=fun i => by
   rw [F.cell (p:=⟨w.heap.size,i,none⟩) (by simp) (by simp),Go.Joins.cell_of_block (heap_alloc_new w _)]
 exact ⟨by rw [key];rfl,by rw [key];rfl,by rw [key];rfl,by rw [key];rfl,by rw [key];rfl,by rw [key];rfl⟩
theorem Co.out {w : World} {v : Value} {l : List Coder} (h : Co w v l) : ∃ ao cap,v = .slice ao l.length cap ∧ l.length ≤ cap ∧ cap ≤ 9223372036854775807 ∧
   ∀ j c,l[j]? = some c → ∃ b o pv,ao = some ⟨b,o,none⟩ ∧ b < w.heap.size ∧ CoAt w b (o + j * 2) c pv:=h
theorem Bi.out {w : World} {v : Value} {l : List (Int × Int)} (h : Bi w v l) : ∃ ao cap,v = .slice ao l.length cap ∧ l.length ≤ cap ∧ cap ≤ 9223372036854775807 ∧
   ∀ j (x : Int × Int),l[j]? = some x → ∃ b o,ao = some ⟨b,o,none⟩ ∧ b < w.heap.size ∧ w.cell? ⟨b,o + j * 2,none⟩ = some (.int .i64 x.1) ∧ w.cell? ⟨b,o + j * 2 + 1,none⟩ = some (.int .i64 x.2):=h
theorem ins_any (w : World) (m : Int) (pv : Value) :
   Calls Tryz.prog 112 #[.agg #[.int .i64 m,pv]] w fun e w' => e = .returned (.int .i64 (ins m)) ∧ Fr [] w w':=by
 by_cases h6 : m = 6
 · subst h6
   go_enter Tryz.func112,Tryz.ntmps112
   go_wp2
   go_ret
   exact ⟨by simp [ins],(Fr.refl _ _).alloc _⟩
 · have hb : (m == 6) = false:=by simp [h6]
   have E:=Lib.hid (show (ins m : Int) = if (decide (1 ≤ m) && decide (m ≤ 7)) = true then 1 else 0 by simp [ins,h6];split <;> simp)
   clear h6
   by_cases h1 : 1 ≤ m
   · by_cases h7 : m ≤ 7
     · have E2:=Lib.hid (show (ins m : Int) = 1 by rw [E.out];simp [h1,h7])
       clear E
       go_enter Tryz.func112,Tryz.ntmps112
       go_wp2
       go_ret
       exact ⟨by rw [E2.out];rfl,(Fr.refl _ _).alloc _⟩
     · have E2:=Lib.hid (show (ins m : Int) = 0 by rw [E.out];simp [h7])
       clear E
       go_enter Tryz.func112,Tryz.ntmps112
       go_wp2
       go_ret
       exact ⟨by rw [E2.out];rfl,(Fr.refl _ _).alloc _⟩
   · have E2:=Lib.hid (show (ins m : Int) = 0 by rw [E.out];simp [h1])
     clear E
     go_enter Tryz.func112,Tryz.ntmps112
     go_wp2
     go_ret
     exact ⟨by rw [E2.out];rfl,(Fr.refl _ _).alloc _⟩
end Go.Proofs.YtkodindajfdagaaGreatDoor
/- A set of numbers, kept as a map[int]bool that the call makes; a number may come more than once. No condition. -/
namespace Go.Proofs.YtkodindajfdagaaGreatDoor
open Go.RowKit Go.Maps
theorem law_int : Keyed Tryz.prog 3:=int_keyed Tryz.underlying3
def ISet (w : World) (b n : Nat) (S : Int → Bool) : Prop :=
 ∃ D : DataW Unit,w.ownsMap Tryz.prog 3 (plainElem Tryz.prog 4) b n D ∧ ∀ x : Int,Maps.has D (.int .i64 x) = S x ∧ D.atKey (.int .i64 x) (.lit (.bool false)) = .lit (.bool (S x))
theorem ISet.made (w : World) : ISet (w.alloc (.map #[] 0)) w.heap.size 0 (fun _ => false):=⟨_,World.ownsMap_made w _ _ _,fun _ => ⟨rfl,rfl⟩⟩
theorem ISet.lt {w : World} {b n : Nat} {S : Int → Bool} (h : ISet w b n S) : b < w.heap.size:=by
 obtain ⟨D,h1,_⟩:=h
 exact h1.lt
theorem ISet.frS {w w' : World} {b n : Nat} {K : Int → Bool} {S : List Nat} (h : ISet w b n K) (F : Fr S w w') (hb : b ∉ S) : ISet w' b n K:=by
 obtain ⟨D,⟨es,clock,h1,h2⟩,h3⟩:=h
 exact ⟨D,⟨es,clock,(F.block b (Array.getElem?_eq_some_iff.1 h1).1 hb).trans h1,h2⟩,h3⟩
theorem ISet.fr {w w' : World} {b n : Nat} {K : Int → Bool} (h : ISet w b n K) (F : Fr [] w w') : ISet w' b n K:=h.frS F (by simp)
set_option maxRecDepth 100000 in
theorem ISet.look {w : World} {b n : Nat} {S : Int → Bool} (h : ISet w b n S) {x : Int} (hx : (Lit.int .i64 x).wf = true) :
   (Instr.lookup 150 (.map (some b)) (.int .i64 x) false).run Tryz.prog w = .ok (.bool (S x)) w:=by
 obtain ⟨D,hD,hat⟩:=h
 obtain ⟨v,ps,hrun,hv⟩:=hD.lookup law_int Tryz.underlying150 (z:=.bool false) (by kernel_rfl) (plainElem_bool Tryz.underlying4 false) (keyOf_int_mk Tryz.underlying3 hx)
 rw [hrun]
 rw [(hat x).2] at hv
 have : v = .bool (S x):=by
   unfold plainElem at hv
   rw [Tryz.underlying4] at hv
   cases v <;> simp at hv
   rw [hv.1]
 rw [this]
def addI (S : Int → Bool) (x : Int) : Int → Bool:=fun y => decide (y = x) || S y
theorem wpList_iset {w : World} {ops : Array Oper} {rest : List Oper} {o : Oper} {a : Act} {Q : Exit → Act → World → Prop}
   (hg : o.guard = none) (m x v : Operand) (hop : o.op = Op.mapUpdate 150 m x v) {b n : Nat} {S : Int → Bool} (hm : a.eval m = .map (some b)) (hs : ISet w b n S) {k : Int} (hx : a.eval x = .int .i64 k) (hv : a.eval v = .bool true)
   (hk : (Lit.int .i64 k).wf = true) (hn : n ≤ 100000000)
   (hK : ∀ w',ISet w' b (n + 1) (addI S k) → w.grownBy w' (some b) → wpList Tryz.prog ops Q rest (a.put o.dst undef) w') : wpList Tryz.prog ops Q (o :: rest) a w:=by
 obtain ⟨D,hD,hat⟩:=hs
 have ht:=hD.tidy law_int
 refine wpList_mapUpdate_own w hg m x v _ hop _ _ law_int Tryz.underlying150 _ b _ D hm hD (by unfold maxLen;omega) _ _ _ hx hv (keyOf_int_mk Tryz.underlying3 hk) _ [] (plainElem_bool Tryz.underlying4 true) (fun w' h1 h2 => hK w' ⟨_,h1,fun y => ?_⟩ h2)
 unfold addI
 by_cases e : y = k
 · subst e
   rw [has_put_same (k:=.int .i64 y) ht.isMap (by exact True.intro),atKey_put_same (k:=.int .i64 y) ht.isMap (by exact True.intro)]
   simp
 · rw [has_put_other (by simpa using e),atKey_put_other (by simpa using e),(hat y).1,(hat y).2]
   simp [e]
end Go.Proofs.YtkodindajfdagaaGreatDoor
/- Contract: header.Main, of any folder. No condition but that lengths fit. -/
namespace Go.Proofs.YtkodindajfdagaaGreatDoor
open Go.RowKit Go.Maps
theorem addI_take {l : List Int} {k : Nat} {y : Int} (h : l[k]? = some y) : addI (fun x => decide (x ∈ l.take k)) y = fun x => decide (x ∈ l.take (k + 1)):=by
 funext x
 unfold addI
 rw [List.take_add_one,h]
 simp [Bool.or_comm]
def mainIdx (f : Folder) : Option Nat:=(List.range f.coders.length).find? fun i => decide ((i : Int) ∉ f.binds.map (·.2))
def mainOf (f : Folder) : Int:=match mainIdx f with | some i => (i : Int) | none => -1
set_option maxHeartbeats 1000000 in
theorem main_any (w : World) (v : Value) (f : Folder) (hf : Fo w v f) (hn : f.coders.length ≤ 100000) (hb : f.binds.length ≤ 100000) (hout : ∀ b ∈ f.binds,(Lit.int .i64 b.2).wf = true) :
   Calls Tryz.prog 134 #[v] w fun e w' => e = .returned (.int .i64 (mainOf f)) ∧ Fr [] w w':=by
 obtain ⟨cv,bv',p,s,h,k0,rfl,hV⟩:=hf
 obtain ⟨ao,cap,rfl,-,-,-⟩:=hV.co.out
 obtain ⟨aob,capb,rfl,-,-,o⟩:=hV.bi.out
 have HO:=Lib.hid hout
 clear hV hout
 obtain ⟨wB,hwB⟩ : ∃ wB,wB = w.alloc (.cells #[.slice ao f.coders.length cap,.slice aob f.binds.length capb,p,s,h,k0] 70):=⟨_,rfl⟩
 have F0 : Fr [] w wB:=hwB ▸ (Fr.refl _ _).alloc _
 have sB : wB.heap.size = w.heap.size + 1:=by rw [hwB];simp
 have HBX:=Lib.hid (fun wx (F : Fr [] wB wx) => box6 (hwB ▸ F : Fr [] (w.alloc (.cells #[.slice ao f.coders.length cap,.slice aob f.binds.length capb,p,s,h,k0] 70)) wx))
 have hmm:=@run_makeMap Tryz.prog
 go_enter Tryz.func134,Tryz.ntmps134
 go_wp2_with fail
 clear hmm
 rw [← hwB]
 clear hwB
 go_loopw [11] (fun i wr => ∃ k : Nat,k ≤ f.binds.length ∧ i = .int .i64 k ∧ ISet wr (w.heap.size + 1) k (fun x => decide (x ∈ (f.binds.map (·.2)).take k)) ∧ Fr [] wB wr) (fun i _ => f.binds.length - (intOf i).toNat)
 case atStart =>
   refine ⟨0,Nat.zero_le _,rfl,?_,(Fr.refl _ _).alloc _⟩
   have m1:=ISet.made wB
   rw [sB] at m1
   simpa using m1
 case round =>
   obtain ⟨k,hk,rfl,S1,F⟩:=hrel
   obtain ⟨d0,d1,d2,d3,d4,d5⟩:=HBX.out _ F
   by_cases hlt : k < f.binds.length
   · obtain ⟨y,hy⟩:=some_get f.binds k hlt
     obtain ⟨b1,o1,rfl,hb1,e0,e1⟩:=o k y hy
     have c0:=((F0.trans0 F).cell (p:=⟨b1,o1 + k * 2,none⟩) hb1 (by simp)).trans e0
     have c1:=((F0.trans0 F).cell (p:=⟨b1,o1 + k * 2 + 1,none⟩) hb1 (by simp)).trans e1
     have hy2 : (f.binds.map (·.2))[k]? = some y.2:=by simp [hy]
     have hbo:=HO.out y (List.mem_of_getElem? hy)
     have HT:=Lib.hid (addI_take hy2)
     clear o hy hy2 e0 e1
     obtain ⟨y1,y2⟩:=y
     dsimp only at c0 c1 hbo HT
     go_wp2_with (at_mapUpdate;refine wpList_iset rfl _ _ _ rfl rfl (S1.fr ((Fr.refl _ _).alloc _)) (by rfl) (by rfl) hbo (by omega) ?_)
     intro w3 T3 g3
     have F3:=(F.alloc (.cells #[.int .i64 y1,.int .i64 y2] 109)).grown g3 (fun k hk => .inr (by cases hk;omega))
     rw [HT.out] at T3
     go_wp2_with fail
     go_roundw
     case rel => exact ⟨k + 1,by omega,by go_num,T3,F3⟩
     case measure => simp [intOf];omega
   · rw [List.take_of_length_le (by simp;omega)] at S1
     clear o hk
     go_wp2_with fail
     clear hlt d0 d1 d2 d3 d4 d5
     go_loopw [22] (fun i w5 => ∃ k : Nat,k ≤ f.coders.length ∧ i = .int .i64 k ∧ (∀ j,j < k → (j : Int) ∈ f.binds.map (·.2)) ∧ w5 = wr) (fun i _ => f.coders.length - (intOf i).toNat)
     case atStart => exact ⟨0,Nat.zero_le _,rfl,fun _ h => by omega,rfl⟩
     case round =>
       obtain ⟨k,hk,rfl,hA,hw⟩:=hrel
       subst hw
       by_cases hlt : k < f.coders.length
       · have L:=S1.look (x:=(k : Int)) (WalkArith.wf_i64 (by omega))
         have HA:=Lib.hid hA
         clear hA
         by_cases hm : (k : Int) ∈ f.binds.map (·.2)
         · have HA2:=Lib.hid (show ∀ j,j < k + 1 → (j : Int) ∈ f.binds.map (·.2) from fun j hj => by
             by_cases e : j = k
             · rw [e];exact hm
             · exact HA.out j (by omega))
           simp only [hm,decide_true] at L
           clear hm
           go_wp2_with fail
           go_roundw
           case rel => exact ⟨k + 1,by omega,by go_num,HA2.out,by trivial⟩
           case measure => simp [intOf];omega
         · have HE:=Lib.hid (show mainOf f = (k : Int) by
             have e : mainIdx f = some k:=by
               unfold mainIdx
               rw [List.find?_range_eq_some]
               refine ⟨by simpa using hm,by simpa using hlt,fun j hj => ?_⟩
               simpa using HA.out j hj
             unfold mainOf
             rw [e])
           simp only [hm,decide_false] at L
           clear hm
           go_wp2_with fail
           go_ret
           exact ⟨by rw [HE.out];rfl,F0.trans0 F⟩
       · have HE:=Lib.hid (show mainOf f = -1 by
           have e : mainIdx f = none:=by
             unfold mainIdx
             rw [List.find?_eq_none]
             intro i hi
             rw [List.mem_range] at hi
             simpa using hA i (by omega)
           unfold mainOf
           rw [e])
         clear hA
         go_wp2_with fail
         go_ret
         exact ⟨by rw [HE.out];rfl,F0.trans0 F⟩
end Go.Proofs.YtkodindajfdagaaGreatDoor
/- Contracts: the reference's Ins, Main; header.whole. No condition but that lengths fit. -/
namespace Go.Proofs.YtkodindajfdagaaGreatDoor
open Go.RowKit
end Go.Proofs.YtkodindajfdagaaGreatDoor
