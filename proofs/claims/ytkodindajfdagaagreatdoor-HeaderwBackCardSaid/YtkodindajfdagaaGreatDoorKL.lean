/- Arguments that came in, read as lists. No condition. -/
import Derived.Test.YtkodindajfdagaaGreatDoorJA
import Derived.ProofKit
import Derived.OpenShut
import Derived.ShutString
import Derived.ChangeOld
import Derived.Deep.Grids
import Derived.Test.YtkodindajfdagaaGreatDoorJB
import Derived.Deep.SlicePairs
import Derived.Test.YtkodindajfdagaaGreatDoorKI
import Derived.SizedLaws
namespace Go.Proofs.YtkodindajfdagaaGreatDoor
open Go.RowKit Go.ChangeShapes Go.WideShapes Go.ChangeAt
theorem sl_of_cells {w : World} {x : Addr} {len cap : Nat} {vs : List Value} (hl : len ≤ cap) (hm : cap ≤ maxLen) (hz : vs.length = cap)
   (hcell : ∀ i,i < vs.length → w.cell? (x.add i) = vs[i]?) : Sl w (.slice (some x) len cap) (vs.take len):=by
 have hlen : (vs.take len).length = len:=by simp;omega
 refine ⟨some x,cap,by rw [hlen],by omega,by unfold maxLen at hm;omega,by simp,fun a ha hc => ?_⟩
 obtain rfl:=Option.some.inj ha
 have h0:=hcell 0 (by omega)
 obtain ⟨b,o,s⟩:=x
 have e0 : (⟨b,o,s⟩ : Addr).add 0 = ⟨b,o,s⟩:=by simp [Addr.add]
 rw [e0] at h0
 have hv : vs[0]? = some vs[0]:=by simp
 rw [hv] at h0
 have hsp:=World.cell?_spot h0
 dsimp only at hsp
 subst hsp
 refine ⟨rfl,World.block_lt_of_cell? _ _ h0,fun j hj => ?_⟩
 rw [hlen] at hj
 have hadd : (⟨b,o,none⟩ : Addr).add j = ⟨b,o + j,none⟩:=by unfold Addr.add;split <;> simp_all
 dsimp only
 rw [← hadd,hcell j (by omega),List.getElem?_take,if_pos hj]
theorem bytes_of_ints (zs : List Int) (h : ∀ n ∈ zs,(Lit.int .u8 n).wf = true) : ∃ bs : List UInt8,zs.map (Value.int .u8) = bv bs:=by
 refine ⟨zs.map fun z => UInt8.ofNat z.toNat,?_⟩
 simp only [bv,List.map_map]
 apply List.map_congr_left
 intro n hn
 have:=bounds_u8 (h n hn)
 simp
 omega
theorem open_bytes {w : World} {a : Option Addr} {len cap : Nat} {zs : List Int}
   (h : (a = none ∧ len = 0 ∧ cap = 0 ∧ zs = []) ∨ ∃ x,a = some x ∧ len ≤ cap ∧ cap ≤ maxLen ∧ zs.length = cap ∧ (∀ i,i < zs.length → w.cell? (x.add i) = some (.int .u8 (zs.getD i 0))) ∧ ∀ n ∈ zs,(Lit.int .u8 n).wf = true) :
   ∃ bs,Sl w (.slice a len cap) (bv bs):=by
 rcases h with ⟨rfl,rfl,rfl,rfl⟩ | ⟨x,rfl,hl,hm,hz,hcell,hwf⟩
 · exact ⟨[],Sl.nil w⟩
 · obtain ⟨bs,hbs⟩:=bytes_of_ints (zs.take len) (fun n hn => hwf n (List.mem_of_mem_take hn))
   refine ⟨bs,?_⟩
   rw [← hbs,List.map_take]
   refine sl_of_cells hl hm (by simpa using hz) (fun i hi => ?_)
   simp at hi
   rw [hcell i hi]
   simp [hi]
theorem words_of_ints (zs : List Int) (h : ∀ n ∈ zs,(Lit.int .u64 n).wf = true) : ∃ ws : List UInt64,zs.map (Value.int .u64) = u64v ws:=by
 refine ⟨zs.map fun z => UInt64.ofNat z.toNat,?_⟩
 simp only [u64v,List.map_map]
 apply List.map_congr_left
 intro n hn
 have:=bounds_u64 (h n hn)
 simp
 omega
theorem open_list_u64 {w : World} {a : Option Addr} {len cap : Nat} {zs : List Int}
   (h : (a = none ∧ len = 0 ∧ cap = 0 ∧ zs = []) ∨ ∃ x,a = some x ∧ len ≤ cap ∧ cap ≤ maxLen ∧ zs.length = cap ∧ (∀ i,i < zs.length → w.cell? (x.add i) = some (.int .u64 (zs.getD i 0))) ∧ ∀ n ∈ zs,(Lit.int .u64 n).wf = true) :
   ∃ ws,Sl w (.slice a len cap) (u64v ws):=by
 rcases h with ⟨rfl,rfl,rfl,rfl⟩ | ⟨x,rfl,hl,hm,hz,hcell,hwf⟩
 · exact ⟨[],Sl.nil w⟩
 · obtain ⟨ws,hws⟩:=words_of_ints (zs.take len) (fun n hn => hwf n (List.mem_of_mem_take hn))
   refine ⟨ws,?_⟩
   rw [← hws,List.map_take]
   refine sl_of_cells hl hm (by simpa using hz) (fun i hi => ?_)
   simp at hi
   rw [hcell i hi]
   simp [hi]
end Go.Proofs.YtkodindajfdagaaGreatDoor
/- Folders and coders that came in. No condition. -/
namespace Go.Proofs.YtkodindajfdagaaGreatDoor
open Go.RowKit Go.Deep Go.ChangeShapes Go.WideShapes Go.ChangeAt
variable {H : Type} {enc : TypeId × Value → H} {w : World} {base : Nat} {held : Bool} {fuel : Nat} {cs : List Value} {x : DataW H × List MemPlace}
theorem sl_u8_of (h : DataW.trod enc Tryz.prog w base (fun _ => true) held fuel 22 cs = some x) : ∃ v bs,cs = [v] ∧ Sl w v (bv bs):=by
 rcases open_ints Tryz.underlying22 Tryz.underlying5 (by kernel_rfl) h with ⟨hcs,_⟩ | ⟨x,l,c,zs,hcs,_,hl,hm,hz,_,hcell,hwz⟩
 · exact ⟨_,[],hcs,Sl.nil w⟩
 · obtain ⟨bs,hb⟩:=open_bytes (.inr ⟨_,rfl,hl,hm,by simpa using hz,hcell,hwz⟩ : (some x = none ∧ _ ∧ _ ∧ _) ∨ _)
   exact ⟨_,bs,hcs,hb⟩
theorem sl_u64_of (h : DataW.trod enc Tryz.prog w base (fun _ => true) held fuel 32 cs = some x) : ∃ v bs,cs = [v] ∧ Sl w v (u64v bs):=by
 rcases open_ints Tryz.underlying32 Tryz.underlying31 (by kernel_rfl) h with ⟨hcs,_⟩ | ⟨x,l,c,zs,hcs,_,hl,hm,hz,_,hcell,hwz⟩
 · exact ⟨_,[],hcs,Sl.nil w⟩
 · obtain ⟨bs,hb⟩:=open_list_u64 (.inr ⟨_,rfl,hl,hm,by simpa using hz,hcell,hwz⟩ : (some x = none ∧ _ ∧ _ ∧ _) ∨ _)
   exact ⟨_,bs,hcs,hb⟩
theorem sl_int_of (h : DataW.trod enc Tryz.prog w base (fun _ => true) held fuel 66 cs = some x) : ∃ v bs,cs = [v] ∧ Sl w v (iv bs):=by
 rcases open_ints Tryz.underlying66 Tryz.underlying3 (by kernel_rfl) h with ⟨hcs,_⟩ | ⟨x,l,c,zs,hcs,_,hl,hm,hz,_,hcell,_⟩
 · exact ⟨_,[],hcs,Sl.nil w⟩
 · have hz' : zs.length = c:=by simpa using hz
   refine ⟨_,zs.take l,hcs,?_⟩
   unfold iv
   rw [List.map_take]
   refine sl_of_cells hl hm (by simpa using hz') (fun i hi => ?_)
   simp at hi
   rw [hcell i (by omega)]
   simp [hi]
theorem addr_out {w : World} {a : Addr} {v : Value} (h : w.cell? (a.add 0) = some v) : ∃ b o,a = ⟨b,o,none⟩ ∧ b < w.heap.size:=by
 obtain ⟨b,o,s⟩:=a
 have e0 : (⟨b,o,s⟩ : Addr).add 0 = ⟨b,o,s⟩:=by simp [Addr.add]
 rw [e0] at h
 have hsp:=World.cell?_spot h
 dsimp only at hsp
 subst hsp
 exact ⟨b,o,rfl,World.block_lt_of_cell? _ _ h⟩
theorem add_out (b o k : Nat) : (⟨b,o,none⟩ : Addr).add k = ⟨b,o + k,none⟩:=by unfold Addr.add;split <;> simp_all
theorem bi_of (h : DataW.trod enc Tryz.prog w base (fun _ => true) held fuel 65 cs = some x) : ∃ v l,cs = [v] ∧ Bi w v l:=by
 rcases open_slice_pairs Tryz.underlying65 Tryz.underlying109 (by kernel_rfl) rfl rfl (by kernel_rfl) (by kernel_rfl) h with ⟨hcs,_⟩ | ⟨a,len,cap,m,n,V0,V1,D0,D1,P0,P1,hcs,_,hl,hm,hmm,_,hx⟩
 · exact ⟨_,[],hcs,⟨none,0,rfl,by simp,by simp,fun j x hx => by simp at hx⟩⟩
 · have each : ∀ i,i < len → ∃ q : Int × Int,w.cell? (a.add (i * 2)) = some (.int .i64 q.1) ∧ w.cell? (a.add (i * 2 + 1)) = some (.int .i64 q.2):=by
     intro i hi
     obtain ⟨g0,g1,t0,t1⟩:=hx i (by rw [hmm];split <;> omega)
     obtain ⟨kk,e0,_,wf0⟩:=DataW.trod_int Tryz.underlying3 t0
     obtain ⟨mm,e1,_,wf1⟩:=DataW.trod_int Tryz.underlying3 t1
     injection e0 with e0
     injection e1 with e1
     rw [e0] at g0
     rw [e1] at g1
     exact ⟨(kk,mm),g0,g1⟩
   obtain ⟨q,hq⟩:=choose_lt each
   refine ⟨_,(List.range len).map q,hcs,⟨some a,cap,by simp,by simpa using hl,by unfold maxLen at hm;omega,fun j y hy => ?_⟩⟩
   have hj : j < len:=by have:=(List.getElem?_eq_some_iff.1 hy).1;simpa using this
   have hyq : y = q j:=by simp [hj] at hy;exact hy.symm
   subst hyq
   obtain ⟨b,o,rfl,hb⟩:=addr_out (by simpa using (hq 0 (by omega)).1)
   have h1:=(hq j hj).1
   have h2:=(hq j hj).2
   rw [add_out] at h1 h2
   exact ⟨b,o,rfl,hb,h1,h2⟩
theorem co_of (h : DataW.trod enc Tryz.prog w base (fun _ => true) held fuel 64 cs = some x) : ∃ v l,cs = [v] ∧ Co w v l:=by
 rcases open_slice_pairs Tryz.underlying64 Tryz.underlying72 (by kernel_rfl) rfl rfl (by kernel_rfl) (by kernel_rfl) h with ⟨hcs,_⟩ | ⟨a,len,cap,m,n,V0,V1,D0,D1,P0,P1,hcs,_,hl,hm,hmm,_,hx⟩
 · exact ⟨_,[],hcs,⟨none,0,rfl,by simp,by simp,fun j x hx => by simp at hx⟩⟩
 · have each : ∀ i,i < len → ∃ q : Coder × Value,w.cell? (a.add (i * 2)) = some (.int .i64 q.1.method) ∧ w.cell? (a.add (i * 2 + 1)) = some q.2 ∧ Sl w q.2 (bv q.1.props):=by
     intro i hi
     obtain ⟨g0,g1,t0,t1⟩:=hx i (by rw [hmm];split <;> omega)
     obtain ⟨kk,e0,_,wf0⟩:=DataW.trod_int Tryz.underlying3 t0
     obtain ⟨v,bs,e1,hs⟩:=sl_u8_of t1
     injection e0 with e0
     injection e1 with e1
     rw [e0] at g0
     rw [e1] at g1
     exact ⟨(⟨kk,bs⟩,v),g0,g1,hs⟩
   haveI : Inhabited (Coder × Value):=⟨(⟨0,[]⟩,.bool false)⟩
   obtain ⟨q,hq⟩:=choose_lt each
   refine ⟨_,(List.range len).map fun i => (q i).1,hcs,⟨some a,cap,by simp,by simpa using hl,by unfold maxLen at hm;omega,fun j y hy => ?_⟩⟩
   have hj : j < len:=by have:=(List.getElem?_eq_some_iff.1 hy).1;simpa using this
   have hyq : y = (q j).1:=by simp [hj] at hy;exact hy.symm
   subst hyq
   obtain ⟨b,o,rfl,hb⟩:=addr_out (by simpa using (hq 0 (by omega)).1)
   obtain ⟨h1,h2,h3⟩:=hq j hj
   rw [add_out] at h1 h2
   exact ⟨b,o,_,rfl,hb,h1,h2,h3⟩
end Go.Proofs.YtkodindajfdagaaGreatDoor
/- A description that came in. No condition. -/
namespace Go.Proofs.YtkodindajfdagaaGreatDoor
open Go.RowKit Go.Deep Go.ChangeShapes Go.WideShapes Go.ChangeAt
def Sz {H : Type} (t : TypeId) (d : DataW H) : Prop:=∀ n ∈ d.weights Tryz.prog t,n ≤ reachBytes
theorem weights_all {H : Type} {P : Program} {e : TypeId} : ∀ {l : List (DataW H)} {y : DataW H},y ∈ l → ∀ n ∈ y.weights P e,n ∈ DataW.weightsAll P e l
 | [],_,h,_,_ => by simp at h
 | d :: r,y,h,n,hn => by
   simp only [DataW.weightsAll,List.mem_append]
   rcases List.mem_cons.1 h with rfl | h
   · exact .inl hn
   · exact .inr (weights_all h n hn)
theorem Sz.elem {H : Type} {t e : TypeId} (ht : Tryz.prog.underlying t = some (.slice e)) {elems spare : List (DataW H)} (h : Sz t (.slice elems spare)) {y : DataW H} (hy : y ∈ elems) : Sz e y:=fun n hn =>
 h n (by simp only [DataW.weights,ht,List.mem_cons,List.mem_append];exact .inr (.inl (weights_all hy n hn)))
theorem Sz.len {H : Type} {t e : TypeId} (ht : Tryz.prog.underlying t = some (.slice e)) {elems spare : List (DataW H)} (h : Sz t (.slice elems spare)) : (elems.length + spare.length) * Tryz.prog.bytesOf e ≤ reachBytes :=
 h _ (by simp only [DataW.weights,ht,List.mem_cons];first | exact .inl trivial | exact .inl rfl)
theorem Sz.part {H : Type} {e : TypeId} {fs : Array Field} (he : Tryz.prog.underlying e = some (.struct fs)) {parts : List (DataW H)} (h : Sz e (.agg parts)) {j : Nat} {f : Field} {y : DataW H} (hf : fs[j]? = some f) (hy : parts[j]? = some y) : Sz f.type y:=fun n hn =>
 h n (by
   simp only [DataW.weights,he]
   exact DataW.weights_mem_each (j:=j) (by rw [List.getElem?_map,Array.getElem?_toList,hf];rfl) hy n hn)
variable {H : Type} {enc : TypeId × Value → H} {w : World} {base : Nat} {held : Bool} {fuel : Nat} {cs : List Value} {x : DataW H × List MemPlace}
theorem open_row {t e : TypeId} {m : Nat} (ht : Tryz.prog.underlying t = some (.slice e)) (ce : Tryz.prog.cellsOf e = m) (hm0 : 0 < m) (hby : 0 < Tryz.prog.bytesOf e)
   (h : DataW.trod enc Tryz.prog w base (fun _ => true) held fuel t cs = some x) (hz : Sz t x.1) :
   ∃ ao len cap,cs = [.slice ao len cap] ∧ len ≤ cap ∧ cap ≤ 9223372036854775807 ∧ len ≤ 140737488355328 ∧ ∀ i,i < len → ∃ b o ys n y,ao = some ⟨b,o,none⟩ ∧ b < w.heap.size ∧ ys.length = m ∧ (∀ j,j < m → w.cell? ⟨b,o + i * m + j,none⟩ = ys[j]?) ∧
     DataW.trod enc Tryz.prog w base (fun _ => true) held n e ys = some y ∧ Sz e y.1:=by
 rcases open_slice ht h with ⟨hcs,_⟩ | ⟨a,len,cap,k,n,D,Pl,hcs,hb,hl,hc,hk,hx,hel⟩
 · exact ⟨none,0,0,hcs,by simp,by simp,by simp,fun i hi => by omega⟩
 · have hx1 : x.1 = .slice ((List.range len).map D) ((List.range (k - len)).map fun j => D (len + j)):=by rw [hx]
   rw [hx1] at hz
   have hlen:=hz.len ht
   rw [List.length_map,List.length_range] at hlen
   have hreach : reachBytes < 140737488355328:=by decide
   have hle : len ≤ (len + ((List.range (k - len)).map fun j => D (len + j)).length) * Tryz.prog.bytesOf e:=by
     have h1:=Nat.le_mul_of_pos_right (len + ((List.range (k - len)).map fun j => D (len + j)).length) hby
     omega
   refine ⟨some a,len,cap,hcs,hl,by unfold maxLen at hc;omega,by omega,fun i hi => ?_⟩
   have hik : i < k:=by rw [hk];show i < cap;omega
   have h0k : 0 < k:=by omega
   obtain ⟨cs0,g1,g2⟩:=hel 0 h0k
   obtain ⟨cs',h1,h2⟩:=hel i hik
   rw [ce] at h1 g1
   obtain ⟨_,hlen',hcell⟩:=World.cells?_some h1
   obtain ⟨_,glen',gcell⟩:=World.cells?_some g1
   have hc0:=gcell 0 (by omega)
   obtain ⟨v0,hv0⟩:=some_get cs0 0 (by omega)
   have ha0 : w.cell? (a.add 0) = some v0:=by
     have e : (a.add (0 * m)).add 0 = a.add 0:=by rw [add_add];simp
     rw [e] at hc0
     exact hc0.trans hv0
   obtain ⟨b,o,rfl,hbl⟩:=addr_out ha0
   refine ⟨b,o,cs',n,(D i,Pl i),rfl,hbl,hlen',fun j hj => ?_,h2,hz.elem ht (List.mem_map_of_mem (List.mem_range.2 hi))⟩
   have:=hcell j (by omega)
   rw [add_add,add_out,← Nat.add_assoc] at this
   exact this
theorem rows_list {α : Type} [Inhabited α] {len : Nat} {P : Nat → α → Prop} (h : ∀ i,i < len → ∃ q,P i q) : ∃ l : List α,l.length = len ∧ ∀ (i : Nat) x,l[i]? = some x → P i x:=by
 obtain ⟨q,hq⟩:=choose_lt h
 refine ⟨(List.range len).map q,by simp,fun i x hx => ?_⟩
 have hi : i < len:=by have:=(List.getElem?_eq_some_iff.1 hx).1;simpa using this
 have : x = q i:=by simp [hi] at hx;exact hx.symm
 rw [this]
 exact hq i hi
theorem flat_at {α : Type} (f : α → List Value) (m : Nat) (hf : ∀ x,(f x).length = m) : ∀ (l : List α) (j : Nat) (x : α),l[j]? = some x → ∀ k,k < m → (l.flatMap f)[j * m + k]? = (f x)[k]?
 | [],_,_,h,_,_ => by simp at h
 | y :: t,0,x,h,k,hk => by
   simp only [List.getElem?_cons_zero,Option.some.injEq] at h
   subst h
   rw [List.flatMap_cons,List.getElem?_append_left (by rw [hf];omega),Nat.zero_mul,Nat.zero_add]
 | y :: t,j + 1,x,h,k,hk => by
   rw [List.flatMap_cons,List.getElem?_append_right (by rw [hf,Nat.succ_mul];omega),hf,show (j + 1) * m + k - m = j * m + k by rw [Nat.succ_mul];omega]
   exact flat_at f m hf t j x (by simpa using h) k hk
theorem row_of {α : Type} [Inhabited α] {t e : TypeId} {m : Nat} (f : α → List Value) (hf : ∀ x,(f x).length = m) (ht : Tryz.prog.underlying t = some (.slice e)) (ce : Tryz.prog.cellsOf e = m) (hm0 : 0 < m) (hby : 0 < Tryz.prog.bytesOf e)
   (each : ∀ n ys y,DataW.trod enc Tryz.prog w base (fun _ => true) held n e ys = some y → Sz e y.1 → ∃ q : α,ys = f q)
   (h : DataW.trod enc Tryz.prog w base (fun _ => true) held fuel t cs = some x) (hz : Sz t x.1) : ∃ (v : Value) (l : List α),cs = [v] ∧ RowAt w w.heap.size m v l.length (l.flatMap f) ∧ l.length ≤ 140737488355328:=by
 obtain ⟨ao,len,cap,hcs,hl,hc,h47,hel⟩:=open_row ht ce hm0 hby h hz
 have each2 : ∀ i,i < len → ∃ q : α,∃ b o,ao = some ⟨b,o,none⟩ ∧ b < w.heap.size ∧ ∀ j,j < m → w.cell? ⟨b,o + i * m + j,none⟩ = (f q)[j]?:=fun i hi => by
   obtain ⟨b,o,ys,n,y,e1,e2,e3,e4,e5,e6⟩:=hel i hi
   obtain ⟨q,rfl⟩:=each n ys y e5 e6
   exact ⟨q,b,o,e1,e2,e4⟩
 obtain ⟨l,hll,hlp⟩:=rows_list each2
 refine ⟨_,l,hcs,⟨ao,cap,by rw [hll],by omega,hc,fun j hj => ?_⟩,by omega⟩
 obtain ⟨q,hq⟩:=some_get l j hj
 obtain ⟨b,o,e1,e2,e3⟩:=hlp j q hq
 exact ⟨b,o,e1,e2,e2,fun k hk => by rw [e3 k hk,flat_at f m hf l j q hq k hk]⟩
set_option maxRecDepth 100000 in
theorem ck_of {n : Nat} {ys : List Value} {y : DataW H × List MemPlace} (h : DataW.trod enc Tryz.prog w base (fun _ => true) held n 68 ys = some y) : ∃ c : Ck,ys = [.bool c.has,.int .u32 c.sum.toNat]:=by
 obtain ⟨y0,y1,n,_,hl,h0,h1⟩:=trod_struct2 Tryz.underlying68 h
 have ce : Tryz.prog.cellsOf 68 = 2:=by kernel_rfl
 have c0 : Tryz.prog.cellsOf 4 = 1:=by kernel_rfl
 have c1 : Tryz.prog.cellsOf 52 = 1:=by kernel_rfl
 rw [ce] at hl
 match ys,hl with
 | [a,b],_ =>
   simp [c0,c1] at h0 h1
   obtain ⟨d,e0,_⟩:=DataW.trod_bool Tryz.underlying4 h0
   obtain ⟨kk,e1,_,wf1⟩:=DataW.trod_int Tryz.underlying52 h1
   injection e0 with e0
   injection e1 with e1
   have hb:=bounds_u32 wf1
   refine ⟨⟨d,UInt32.ofNat kk.toNat⟩,?_⟩
   rw [e0,e1]
   simp
   omega
set_option maxRecDepth 100000 in
theorem sb_of {n : Nat} {ys : List Value} {y : DataW H × List MemPlace} (h : DataW.trod enc Tryz.prog w base (fun _ => true) held n 89 ys = some y) : ∃ s : Sub,ys = [.int .u64 s.size.toNat,.bool s.ck.has,.int .u32 s.ck.sum.toNat]:=by
 obtain ⟨y0,y1,n,_,hl,h0,h1⟩:=trod_struct2 Tryz.underlying89 h
 have ce : Tryz.prog.cellsOf 89 = 3:=by kernel_rfl
 have c0 : Tryz.prog.cellsOf 31 = 1:=by kernel_rfl
 have c1 : Tryz.prog.cellsOf 68 = 2:=by kernel_rfl
 rw [ce] at hl
 match ys,hl with
 | [a,b,c],_ =>
   simp [c0,c1] at h0 h1
   obtain ⟨kk,e0,_,wf0⟩:=DataW.trod_int Tryz.underlying31 h0
   obtain ⟨k,e1⟩:=ck_of h1
   injection e0 with e0
   injection e1 with e1 e2
   injection e2 with e2
   have hb:=bounds_u64 wf0
   refine ⟨⟨UInt64.ofNat kk.toNat,k⟩,?_⟩
   rw [e0,e1,e2]
   simp
   omega
theorem u64_of {n : Nat} {ys : List Value} {y : DataW H × List MemPlace} (hl : ys.length = 1) (h : DataW.trod enc Tryz.prog w base (fun _ => true) held n 31 ys = some y) : ∃ s : UInt64,ys = [.int .u64 s.toNat]:=by
 match ys,hl with
 | [a],_ =>
   obtain ⟨kk,e0,_,wf0⟩:=DataW.trod_int Tryz.underlying31 h
   injection e0 with e0
   have hb:=bounds_u64 wf0
   refine ⟨UInt64.ofNat kk.toNat,?_⟩
   rw [e0]
   simp
   omega
set_option maxRecDepth 100000 in
theorem fi_of {n : Nat} {ys : List Value} {y : DataW H × List MemPlace} (h : DataW.trod enc Tryz.prog w base (fun _ => true) held n 54 ys = some y) : ∃ f : Fil,ys = f.cells:=by
 obtain ⟨xs,n,_,_,hl,hlen,hf⟩:=DataW.trod_struct Tryz.underlying54 h
 have ce : Tryz.prog.cellsOf 54 = 7:=by kernel_rfl
 have c0 : Tryz.prog.cellsOf 4 = 1:=by kernel_rfl
 have c1 : Tryz.prog.cellsOf 52 = 1:=by kernel_rfl
 have c2 : Tryz.prog.cellsOf 31 = 1:=by kernel_rfl
 have c3 : Tryz.prog.cellsOf 9 = 1:=by kernel_rfl
 rw [ce] at hl
 match ys,hl,xs,hlen with
 | [a0,a1,a2,a3,a4,a5,a6],_,[y0,y1,y2,y3,y4,y5,y6],_ =>
   have g0:=hf 0 _ rfl
   have g1:=hf 1 _ rfl
   have g2:=hf 2 _ rfl
   have g3:=hf 3 _ rfl
   have g4:=hf 4 _ rfl
   have g5:=hf 5 _ rfl
   have g6:=hf 6 _ rfl
   simp [c0,c1,c2,c3] at g0 g1 g2 g3 g4 g5 g6
   obtain ⟨s,e0,_⟩:=DataW.trod_string Tryz.underlying9 g0
   obtain ⟨b1,e1,_⟩:=DataW.trod_bool Tryz.underlying4 g1
   obtain ⟨b2,e2,_⟩:=DataW.trod_bool Tryz.underlying4 g2
   obtain ⟨b3,e3,_⟩:=DataW.trod_bool Tryz.underlying4 g3
   obtain ⟨k4,e4,_,wf4⟩:=DataW.trod_int Tryz.underlying52 g4
   obtain ⟨b5,e5,_⟩:=DataW.trod_bool Tryz.underlying4 g5
   obtain ⟨k6,e6,_,wf6⟩:=DataW.trod_int Tryz.underlying31 g6
   injection e0 with e0
   injection e1 with e1
   injection e2 with e2
   injection e3 with e3
   injection e4 with e4
   injection e5 with e5
   injection e6 with e6
   have hb4:=bounds_u32 wf4
   have hb6:=bounds_u64 wf6
   refine ⟨⟨s.data.toList,b1,b2,b3,UInt32.ofNat k4.toNat,b5,UInt64.ofNat k6.toNat⟩,?_⟩
   rw [e0,e1,e2,e3,e4,e5,e6]
   simp [Fil.cells]
   omega
theorem len_of {t e : TypeId} {m : Nat} (ht : Tryz.prog.underlying t = some (.slice e)) (ce : Tryz.prog.cellsOf e = m) (hm0 : 0 < m) (hby : 0 < Tryz.prog.bytesOf e)
   (h : DataW.trod enc Tryz.prog w base (fun _ => true) held fuel t cs = some x) (hz : Sz t x.1) {ao : Option Addr} {n cap : Nat} (hv : cs = [.slice ao n cap]) : n ≤ 140737488355328:=by
 obtain ⟨ao',len,cap',hcs,-,-,h47,-⟩:=open_row ht ce hm0 hby h hz
 rw [hv] at hcs
 injection hcs with h1
 injection h1 with _ h2 _
 omega
set_option maxRecDepth 100000 in
theorem fol_of {n : Nat} {ys : List Value} {y : DataW H × List MemPlace} (h : DataW.trod enc Tryz.prog w base (fun _ => true) held n 70 ys = some y) (hz : Sz 70 y.1) :
   ∃ (q : Fol × Value × Value × Value × Value),ys = [q.2.1,q.2.2.1,q.2.2.2.1,q.2.2.2.2,.bool q.1.ck.has,.int .u32 q.1.ck.sum.toNat] ∧ FoV w q.2.1 q.2.2.1 q.2.2.2.1 q.2.2.2.2 q.1.f ∧
     q.1.f.coders.length ≤ 140737488355328 ∧ q.1.f.binds.length ≤ 140737488355328 ∧ q.1.f.packs.length ≤ 140737488355328 ∧ q.1.f.sizes.length ≤ 140737488355328:=by
 obtain ⟨xs,n,_,hxy,hl,hlen,hf⟩:=DataW.trod_struct Tryz.underlying70 h
 have ce : Tryz.prog.cellsOf 70 = 6:=by kernel_rfl
 have c0 : Tryz.prog.cellsOf 64 = 1:=by kernel_rfl
 have c1 : Tryz.prog.cellsOf 65 = 1:=by kernel_rfl
 have c2 : Tryz.prog.cellsOf 66 = 1:=by kernel_rfl
 have c3 : Tryz.prog.cellsOf 32 = 1:=by kernel_rfl
 have c4 : Tryz.prog.cellsOf 68 = 2:=by kernel_rfl
 rw [ce] at hl
 match ys,hl,xs,hlen with
 | [a0,a1,a2,a3,a4,a5],_,[y0,y1,y2,y3,y4],_ =>
   have g0:=hf 0 _ rfl
   have g1:=hf 1 _ rfl
   have g2:=hf 2 _ rfl
   have g3:=hf 3 _ rfl
   have g4:=hf 4 _ rfl
   simp [c0,c1,c2,c3,c4] at g0 g1 g2 g3 g4
   have hz' : Sz 70 (.agg [y0.1,y1.1,y2.1,y3.1,y4.1]):=by rw [hxy] at hz;exact hz
   have z0:=hz'.part Tryz.underlying70 (j:=0) rfl rfl
   have z1:=hz'.part Tryz.underlying70 (j:=1) rfl rfl
   have z2:=hz'.part Tryz.underlying70 (j:=2) rfl rfl
   have z3:=hz'.part Tryz.underlying70 (j:=3) rfl rfl
   obtain ⟨v0,l0,e0,h0⟩:=co_of g0
   obtain ⟨v1,l1,e1,h1⟩:=bi_of g1
   obtain ⟨v2,l2,e2,h2⟩:=sl_int_of g2
   obtain ⟨v3,l3,e3,h3⟩:=sl_u64_of g3
   obtain ⟨k,e4⟩:=ck_of g4
   injection e0 with e0
   injection e1 with e1
   injection e2 with e2
   injection e3 with e3
   injection e4 with e4 e5
   injection e5 with e5
   obtain ⟨o0,q0,r0,-⟩:=h0.out
   obtain ⟨o1,q1,r1,-⟩:=h1.out
   obtain ⟨o2,q2,r2,-⟩:=h2.out
   obtain ⟨o3,q3,r3,-⟩:=h3.out
   rw [iv_length] at r2
   rw [u64v_length] at r3
   have m0:=len_of Tryz.underlying64 (m:=4 - 2) (by kernel_rfl) (by decide) (of_decide_eq_true (by kernel_rfl)) g0 z0 (by rw [e0,r0])
   have m1:=len_of Tryz.underlying65 (m:=2) (by kernel_rfl) (by decide) (of_decide_eq_true (by kernel_rfl)) g1 z1 (by rw [e1,r1])
   have m2:=len_of Tryz.underlying66 (m:=1) (by kernel_rfl) (by decide) (of_decide_eq_true (by kernel_rfl)) g2 z2 (by rw [e2,r2])
   have m3:=len_of Tryz.underlying32 (m:=1) (by kernel_rfl) (by decide) (of_decide_eq_true (by kernel_rfl)) g3 z3 (by rw [e3,r3])
   exact ⟨(⟨⟨l0,l1,l2,l3⟩,k⟩,v0,v1,v2,v3),by rw [e0,e1,e2,e3,e4,e5],⟨h0,h1,h2,h3⟩,m0,m1,m2,m3⟩
set_option maxRecDepth 100000 in
theorem fols_of (h : DataW.trod enc Tryz.prog w base (fun _ => true) held fuel 34 cs = some x) (hz : Sz 34 x.1) : ∃ v L,cs = [v] ∧ FolR w v L ∧ L.length ≤ 140737488355328 ∧
   ∀ y ∈ L,y.f.coders.length ≤ 140737488355328 ∧ y.f.binds.length ≤ 140737488355328 ∧ y.f.packs.length ≤ 140737488355328 ∧ y.f.sizes.length ≤ 140737488355328:=by
 obtain ⟨ao,len,cap,hcs,hl,hc,h47,hel⟩:=open_row Tryz.underlying34 (m:=6) (by kernel_rfl) (by decide) (of_decide_eq_true (by kernel_rfl)) h hz
 have each2 : ∀ i,i < len → ∃ q : Fol × Value × Value × Value × Value,(∃ b o,ao = some ⟨b,o,none⟩ ∧ b < w.heap.size ∧ ∀ j,j < 6 → w.cell? ⟨b,o + i * 6 + j,none⟩ = [q.2.1,q.2.2.1,q.2.2.2.1,q.2.2.2.2,.bool q.1.ck.has,.int .u32 q.1.ck.sum.toNat][j]?) ∧ FoV w q.2.1 q.2.2.1 q.2.2.2.1 q.2.2.2.2 q.1.f ∧
     q.1.f.coders.length ≤ 140737488355328 ∧ q.1.f.binds.length ≤ 140737488355328 ∧ q.1.f.packs.length ≤ 140737488355328 ∧ q.1.f.sizes.length ≤ 140737488355328:=fun i hi => by
   obtain ⟨b,o,ys,n,y,e1,e2,e3,e4,e5,e6⟩:=hel i hi
   obtain ⟨q,rfl,hq⟩:=fol_of e5 e6
   exact ⟨q,⟨b,o,e1,e2,e4⟩,hq⟩
 haveI : Inhabited (Fol × Value × Value × Value × Value):=⟨(⟨⟨[],[],[],[]⟩,⟨false,0⟩⟩,.bool false,.bool false,.bool false,.bool false)⟩
 obtain ⟨l,hll,hlp⟩:=rows_list each2
 refine ⟨_,l.map (·.1),hcs,⟨ao,cap,by rw [List.length_map,hll],by rw [List.length_map];omega,hc,fun j y hy => ?_⟩,by rw [List.length_map];omega,fun y hy => ?_⟩
 · rw [List.getElem?_map] at hy
   obtain ⟨q,hq,rfl⟩:=Option.map_eq_some_iff.1 hy
   obtain ⟨⟨b,o,e1,e2,e3⟩,e4,-⟩:=hlp j q hq
   exact ⟨b,o,_,_,_,_,e1,e2,e3 0 (by decide),e3 1 (by decide),e3 2 (by decide),e3 3 (by decide),e3 4 (by decide),e3 5 (by decide),e4⟩
 · obtain ⟨q,hq,rfl⟩:=List.mem_map.1 hy
   obtain ⟨i,hi⟩:=List.mem_iff_getElem?.1 hq
   exact (hlp i q hi).2.2
theorem u64v_flat : ∀ ps : List UInt64,(ps.flatMap fun s : UInt64 => [Value.int .u64 s.toNat]) = u64v ps
 | [] => rfl
 | x :: t => by rw [List.flatMap_cons,u64v_flat t];rfl
instance : Inhabited Ck:=⟨⟨false,0⟩⟩
instance : Inhabited Sub:=⟨⟨0,⟨false,0⟩⟩⟩
instance : Inhabited Fil:=⟨⟨[],false,false,false,0,false,0⟩⟩
set_option maxRecDepth 100000 in
theorem subs_of (h : DataW.trod enc Tryz.prog w base (fun _ => true) held fuel 35 cs = some x) (hz : Sz 35 x.1) : ∃ v S,cs = [v] ∧ WSubsR w v S:=by
 obtain ⟨ao,len,cap,hcs,hl,hc,h47,hel⟩:=open_row Tryz.underlying35 (m:=1) (by kernel_rfl) (by decide) (of_decide_eq_true (by kernel_rfl)) h hz
 have each2 : ∀ i,i < len → ∃ q : List Sub,∃ b o v,ao = some ⟨b,o,none⟩ ∧ b < w.heap.size ∧ w.cell? ⟨b,o + i,none⟩ = some v ∧ RowAt w w.heap.size 3 v q.length (sbV q):=fun i hi => by
   obtain ⟨b,o,ys,n,y,e1,e2,e3,e4,e5,e6⟩:=hel i hi
   obtain ⟨v,l,rfl,hr,-⟩:=row_of (fun s : Sub => [.int .u64 s.size.toNat,.bool s.ck.has,.int .u32 s.ck.sum.toNat]) (fun _ => rfl) Tryz.underlying73 (m:=3) (by kernel_rfl) (by decide) (of_decide_eq_true (by kernel_rfl)) (fun n ys y h _ => sb_of h) e5 e6
   have:=e4 0 (by decide)
   simp only [Nat.mul_one,Nat.add_zero] at this
   exact ⟨l,b,o,v,e1,e2,this,hr⟩
 obtain ⟨l,hll,hlp⟩:=rows_list each2
 refine ⟨_,l,hcs,⟨ao,cap,by rw [hll],by omega,hc,fun j y hy => hlp j y hy⟩⟩
set_option maxRecDepth 100000 in
theorem de_of (h : DataW.trod enc Tryz.prog w base (fun _ => true) held fuel 38 cs = some x) (hz : Sz 38 x.1) : ∃ pk D F,DeR w (.agg cs.toArray) pk D F ∧ DeSz D F:=by
 obtain ⟨xs,n,_,hxy,hl,hlen,hf⟩:=DataW.trod_struct Tryz.underlying38 h
 have ce : Tryz.prog.cellsOf 38 = 7:=by kernel_rfl
 have c0 : Tryz.prog.cellsOf 4 = 1:=by kernel_rfl
 have c1 : Tryz.prog.cellsOf 31 = 1:=by kernel_rfl
 have c2 : Tryz.prog.cellsOf 32 = 1:=by kernel_rfl
 have c3 : Tryz.prog.cellsOf 33 = 1:=by kernel_rfl
 have c4 : Tryz.prog.cellsOf 34 = 1:=by kernel_rfl
 have c5 : Tryz.prog.cellsOf 35 = 1:=by kernel_rfl
 have c6 : Tryz.prog.cellsOf 36 = 1:=by kernel_rfl
 rw [ce] at hl
 match cs,hl,xs,hlen with
 | [a0,a1,a2,a3,a4,a5,a6],_,[y0,y1,y2,y3,y4,y5,y6],_ =>
   have g0:=hf 0 _ rfl
   have g1:=hf 1 _ rfl
   have g2:=hf 2 _ rfl
   have g3:=hf 3 _ rfl
   have g4:=hf 4 _ rfl
   have g5:=hf 5 _ rfl
   have g6:=hf 6 _ rfl
   simp [c0,c1,c2,c3,c4,c5,c6] at g0 g1 g2 g3 g4 g5 g6
   have hz' : Sz 38 (.agg [y0.1,y1.1,y2.1,y3.1,y4.1,y5.1,y6.1]):=by rw [hxy] at hz;exact hz
   have z2:=hz'.part Tryz.underlying38 (j:=2) rfl rfl
   have z3:=hz'.part Tryz.underlying38 (j:=3) rfl rfl
   have z4:=hz'.part Tryz.underlying38 (j:=4) rfl rfl
   have z5:=hz'.part Tryz.underlying38 (j:=5) rfl rfl
   have z6:=hz'.part Tryz.underlying38 (j:=6) rfl rfl
   obtain ⟨pk,e0,_⟩:=DataW.trod_bool Tryz.underlying4 g0
   obtain ⟨k1,e1,_,wf1⟩:=DataW.trod_int Tryz.underlying31 g1
   haveI : Inhabited UInt64:=⟨0⟩
   obtain ⟨v2,ps,e2,h2,m2⟩:=row_of (fun s : UInt64 => [.int .u64 s.toNat]) (fun _ => rfl) Tryz.underlying32 (m:=1) (by kernel_rfl) (by decide) (of_decide_eq_true (by kernel_rfl)) (fun n ys y h _ => by
     have : ys.length = 1:=by
       obtain ⟨kk,e,_,_⟩:=DataW.trod_int Tryz.underlying31 h
       rw [e];rfl
     exact u64_of this h) g2 z2
   obtain ⟨v3,ks,e3,h3,m3⟩:=row_of (fun c : Ck => [.bool c.has,.int .u32 c.sum.toNat]) (fun _ => rfl) Tryz.underlying33 (m:=2) (by kernel_rfl) (by decide) (of_decide_eq_true (by kernel_rfl)) (fun n ys y h _ => ck_of h) g3 z3
   obtain ⟨v4,L,e4,h4,m4,m5⟩:=fols_of g4 z4
   obtain ⟨v5,S,e5,h5⟩:=subs_of g5 z5
   obtain ⟨v6,F,e6,h6,m6⟩:=row_of Fil.cells (fun _ => rfl) Tryz.underlying36 (m:=7) (by kernel_rfl) (by decide) (of_decide_eq_true (by kernel_rfl)) (fun n ys y h _ => fi_of h) g6 z6
   injection e0 with e0
   injection e1 with e1
   injection e2 with e2
   injection e3 with e3
   injection e4 with e4
   injection e5 with e5
   injection e6 with e6
   have hb:=bounds_u64 wf1
   have h2' : RowAt w w.heap.size 1 v2 ps.length (u64v ps):=by
     have e:=u64v_flat ps
     rw [← e]
     exact h2
   refine ⟨pk,⟨UInt64.ofNat k1.toNat,ps,ks,L,S⟩,F,⟨⟨.bool pk,.int .u64 (UInt64.ofNat k1.toNat).toNat,v2,v3,v4,v5,v6⟩,?_,rfl,⟨rfl,h2',h3,h4,h5⟩,h6⟩,⟨m2,m4,m6,m5⟩⟩
   rw [e0,e1,e2,e3,e4,e5,e6]
   have hk : (k1 : Int) = ((UInt64.ofNat k1.toNat).toNat : Int):=by simp;omega
   simp only [← hk]
end Go.Proofs.YtkodindajfdagaaGreatDoor
