/- General lemmas: frames, slices that read as lists, append. No condition. -/
import Derived.Test.YtkodindajfdagaaGreatDoorChecked
import Derived.WalkKit
import Derived.WalkLawsBesides
import Derived.WalkSpells
import Derived.Deep.QuietTactic
import Derived.BigQuiet
import Derived.StillTailTactics
import Derived.Laws.AppendOwnNone
import Derived.Laws.CopyOwn
import Derived.Lib.SmallJoins
import Derived.Lib.Hide
import Derived.Lib.BitFns
namespace Go.Proofs.YtkodindajfdagaaGreatDoor
open Go.RowKit
structure Fr (S : List Nat) (w w' : World) : Prop where
 os : w'.os = w.os
 tape : w'.tape = w.tape
 output : w'.output = w.output
 size : w.heap.size ≤ w'.heap.size
 block : ∀ k,k < w.heap.size → k ∉ S → w'.heap[k]? = w.heap[k]?
theorem Fr.refl (S : List Nat) (w : World) : Fr S w w:=⟨rfl,rfl,rfl,Nat.le_refl _,fun _ _ _ => rfl⟩
theorem Fr.trans {S T : List Nat} {a b c : World} (h : Fr S a b) (k : Fr T b c) (hT : ∀ i ∈ T,i ∈ S ∨ a.heap.size ≤ i) : Fr S a c :=
 ⟨k.os.trans h.os,k.tape.trans h.tape,k.output.trans h.output,Nat.le_trans h.size k.size,fun i hi hS =>
   (k.block i (Nat.lt_of_lt_of_le hi h.size) (fun hiT => by rcases hT i hiT with h' | h';exact hS h';omega)).trans (h.block i hi hS)⟩
theorem Fr.trans0 {S : List Nat} {a b c : World} (h : Fr S a b) (k : Fr [] b c) : Fr S a c:=h.trans k (by simp)
theorem Fr.trans1 {S : List Nat} {a b c : World} {p : Nat} (h : Fr S a b) (k : Fr [p] b c) (hp : p ∈ S ∨ a.heap.size ≤ p) : Fr S a c:=h.trans k (by simpa using hp)
theorem Fr.mono {S T : List Nat} {a b : World} (h : Fr S a b) (hS : ∀ i ∈ S,i ∈ T) : Fr T a b :=
 ⟨h.os,h.tape,h.output,h.size,fun k hk hT => h.block k hk fun hs => hT (hS k hs)⟩
theorem Fr.drew {S : List Nat} {a w : World} (h : Fr S a w) : Fr S a w.drew:=⟨h.os,h.tape,h.output,h.size,h.block⟩
theorem Fr.drewN {S : List Nat} {a w : World} (h : Fr S a w) (n : Nat) : Fr S a (w.drewN n):=⟨h.os,h.tape,h.output,h.size,h.block⟩
theorem Fr.alloc {S : List Nat} {a w : World} (h : Fr S a w) (o : Obj) : Fr S a (w.alloc o) :=
 ⟨h.os,h.tape,h.output,by have:=h.size;simp;omega,fun k hk hS => (Below.heap_alloc w o k (Nat.lt_of_lt_of_le hk h.size)).trans (h.block k hk hS)⟩
theorem Fr.setCell {S : List Nat} {a w : World} (h : Fr S a w) {p : Addr} (hp : p.block ∈ S ∨ a.heap.size ≤ p.block) (u : Value) : Fr S a (w.setCell p u) :=
 ⟨h.os,h.tape,h.output,by have:=h.size;simpa using this,fun k hk hS =>
   (Below.heap_setCell w p u k (by rintro rfl;rcases hp with hp | hp;exact hS hp;omega)).trans (h.block k hk hS)⟩
theorem Fr.grown {S : List Nat} {a w w' : World} {row : Option Nat} (h : Fr S a w) (hg : w.grownBy w' row) (hr : ∀ k,row = some k → k ∈ S ∨ a.heap.size ≤ k) : Fr S a w' :=
 ⟨hg.os.trans h.os,hg.tape.trans h.tape,hg.output.trans h.output,Nat.le_trans h.size hg.size,fun k hk hS =>
   (hg.block k (Nat.lt_of_lt_of_le hk h.size) (fun e => by rcases hr k e.symm with h' | h';exact hS h';omega)).trans (h.block k hk hS)⟩
theorem Fr.below {w w' : World} (h : Fr [] w w') : Below w.heap.size w w' :=
 ⟨h.os,h.tape,h.output,h.size,fun k hk => h.block k hk (by simp)⟩
theorem Fr.of_below {w w' : World} (h : Below w.heap.size w w') : Fr [] w w' :=
 ⟨h.os,h.tape,h.output,h.size,fun k hk _ => h.block k hk⟩
theorem Fr.cell {S : List Nat} {w w' : World} (h : Fr S w w') {p : Addr} (hp : p.block < w.heap.size) (hS : p.block ∉ S) : w'.cell? p = w.cell? p :=
 World.cell?_of_block (w:=w) (h.block p.block hp hS)
def Same (w w' : World) : Prop:=∃ n,w' = w.drewN n
theorem Same.refl (w : World) : Same w w:=⟨0,rfl⟩
theorem Same.drewN {w : World} (n : Nat) : Same w (w.drewN n):=⟨n,rfl⟩
theorem Same.drew {w : World} : Same w w.drew:=⟨1,rfl⟩
theorem Same.trans {a b c : World} (h : Same a b) (k : Same b c) : Same a c:=by
 obtain ⟨n,rfl⟩:=h
 obtain ⟨m,rfl⟩:=k
 exact ⟨n + m,by simp [World.drewN,Nat.add_assoc]⟩
theorem Same.fr {S : List Nat} {w w' : World} (h : Same w w') : Fr S w w':=by
 obtain ⟨n,rfl⟩:=h
 exact (Fr.refl _ _).drewN n
theorem Same.size {w w' : World} (h : Same w w') : w'.heap.size = w.heap.size:=by obtain ⟨n,rfl⟩:=h;rfl
def Sl (w : World) (v : Value) (xs : List Value) : Prop :=
 ∃ ao cap,v = .slice ao xs.length cap ∧ xs.length ≤ cap ∧ cap ≤ 9223372036854775807 ∧ (ao = none → cap = 0) ∧
   ∀ a,ao = some a → 0 < cap → a.spot = none ∧ a.block < w.heap.size ∧ ∀ j,j < xs.length → w.cell? ⟨a.block,a.off + j,none⟩ = xs[j]?
theorem Sl.nil (w : World) : Sl w (.slice none 0 0) []:=⟨none,0,rfl,by simp,by simp,fun _ => rfl,fun _ h => by cases h⟩
theorem Sl.fr {w w' : World} {v : Value} {xs : List Value} {S : List Nat} (h : Sl w v xs) (hf : Fr S w w') (hv : ∀ k,v.ownBlock = some k → k ∉ S) : Sl w' v xs:=by
 obtain ⟨ao,cap,rfl,h1,h2,h3,h4⟩:=h
 refine ⟨ao,cap,rfl,h1,h2,h3,fun a ha hc => ?_⟩
 obtain ⟨q1,q2,q3⟩:=h4 a ha hc
 subst ha
 refine ⟨q1,Nat.lt_of_lt_of_le q2 hf.size,fun j hj => ?_⟩
 rw [hf.cell (p:=⟨a.block,a.off + j,none⟩) q2 (hv a.block rfl)]
 exact q3 j hj
theorem Sl.fr0 {w w' : World} {v : Value} {xs : List Value} (h : Sl w v xs) (hf : Fr [] w w') : Sl w' v xs:=h.fr hf (by simp)
theorem Sl.out {w : World} {v : Value} {xs : List Value} (h : Sl w v xs) : ∃ ao cap,v = .slice ao xs.length cap ∧ xs.length ≤ cap ∧ cap ≤ 9223372036854775807 ∧
   ∀ j,j < xs.length → ∃ b o,ao = some ⟨b,o,none⟩ ∧ b < w.heap.size ∧ ∀ i,i < xs.length → w.cell? ⟨b,o + i,none⟩ = xs[i]?:=by
 obtain ⟨ao,cap,rfl,h1,h2,h3,h4⟩:=h
 refine ⟨ao,cap,rfl,h1,h2,fun j hj => ?_⟩
 cases ao with
 | none => have:=h3 rfl;omega
 | some a =>
   obtain ⟨q1,q2,q3⟩:=h4 a rfl (by omega)
   obtain ⟨b,o,s⟩:=a
   dsimp only at q1 q2 q3
   subst q1
   exact ⟨b,o,rfl,q2,q3⟩
theorem Sl.len {w : World} {ao : Option Addr} {n c : Nat} {xs : List Value} (h : Sl w (.slice ao n c) xs) : n = xs.length:=by
 obtain ⟨_,_,e,_⟩:=h
 injection e
theorem Sl.caps {w : World} {ao : Option Addr} {n c : Nat} {xs : List Value} (h : Sl w (.slice ao n c) xs) : n ≤ c ∧ c ≤ 9223372036854775807:=by
 obtain ⟨_,_,e,h1,h2,_⟩:=h
 injection e with e1 e2 e3
 omega
theorem Sl.cut {w : World} {ao : Option Addr} {n cap : Nat} {xs : List Value} (h : Sl w (.slice ao n cap) xs) (l m : Nat) (hl : l ≤ m) (hm : m ≤ n) :
   Sl w (.slice (if cap = l then ao else ao.map (·.add l)) (m - l) (cap - l)) ((xs.drop l).take (m - l)):=by
 obtain ⟨ao',cap',e,h1,h2,h3,h4⟩:=h
 injection e with e1 e2 e3
 subst e1 e2 e3
 have hlen : ((xs.drop l).take (m - l)).length = m - l:=by simp;omega
 refine ⟨_,cap - l,by rw [hlen],by omega,by omega,?_,?_⟩
 · intro hn
   by_cases hc : cap = l
   · omega
   · rw [if_neg hc] at hn
     have : ao = none:=by cases ao <;> simp_all
     have:=h3 this
     omega
 · intro a ha hc
   rw [if_neg (by omega)] at ha
   cases ao with
   | none => simp at ha
   | some a' =>
     simp only [Option.map_some,Option.some.injEq] at ha
     obtain ⟨q1,q2,q3⟩:=h4 a' rfl (by omega)
     obtain ⟨b,o,s⟩:=a'
     dsimp only at q1 q2 q3
     subst q1
     have hadd : (⟨b,o,none⟩ : Addr).add l = ⟨b,o + l,none⟩:=by unfold Addr.add;split <;> simp_all
     rw [hadd] at ha
     subst ha
     refine ⟨rfl,q2,fun j hj => ?_⟩
     rw [hlen] at hj
     dsimp only
     rw [show o + l + j = o + (l + j) from by omega,q3 (l + j) (by omega),List.getElem?_take,if_pos hj,List.getElem?_drop]
theorem Sl.first {w : World} {ao : Option Addr} {n cap : Nat} {xs : List Value} (h : Sl w (.slice ao n cap) xs) (m : Nat) (hm : m ≤ n) :
   Sl w (.slice ao m cap) (xs.take m):=by
 obtain ⟨ao',cap',e,h1,h2,h3,h4⟩:=h
 injection e with e1 e2 e3
 subst e1 e2 e3
 have hlen : (xs.take m).length = m:=by simp;omega
 refine ⟨ao,cap,by rw [hlen],by omega,by omega,h3,fun a ha hc => ?_⟩
 obtain ⟨q1,q2,q3⟩:=h4 a ha hc
 refine ⟨q1,q2,fun j hj => ?_⟩
 rw [hlen] at hj
 rw [q3 j (by omega),List.getElem?_take,if_pos hj]
theorem Sl.of_own {w : World} {base e : Nat} {v : Value} {n : Nat} {xs : List Value} (h : w.ownsRow base e 1 v n xs) : Sl w v xs:=by
 obtain ⟨hl,h⟩:=h
 have hl' : xs.length = n:=by omega
 rcases h with ⟨rfl,hn⟩ | ⟨g,cap,cur,rfl,hb,hg,hnc,hcm,hcs,ht⟩
 · have : xs = []:=List.eq_nil_of_length_eq_zero (by omega)
   subst this
   exact Sl.nil w
 · refine ⟨some ⟨g,0,none⟩,cap,by rw [hl'],by omega,by unfold maxLen at hcm;omega,by simp,fun a ha hc => ?_⟩
   obtain rfl:=(Option.some.inj ha).symm
   refine ⟨rfl,(Array.getElem?_eq_some_iff.1 hg).1,fun j hj => ?_⟩
   dsimp only
   rw [Go.Joins.cell_of_block hg,← ht,List.getElem?_take,if_pos (by omega)]
   simp
theorem own_fr {w w' : World} {base e : Nat} {v : Value} {n : Nat} {xs : List Value} {S : List Nat} (h : w.ownsRow base e 1 v n xs) (hf : Fr S w w') (hv : ∀ k,v.ownBlock = some k → k ∉ S) : w'.ownsRow base e 1 v n xs:=by
 refine ⟨h.1,?_⟩
 rcases h.2 with hn | ⟨g,cap,cur,rfl,hb,hgg,rest⟩
 · exact .inl hn
 · refine .inr ⟨g,cap,cur,rfl,hb,?_,rest⟩
   rw [hf.block g (Array.getElem?_eq_some_iff.1 hgg).1 (hv g rfl)]
   exact hgg
theorem own_mono {w : World} {base base' e : Nat} {v : Value} {n : Nat} {xs : List Value} (h : w.ownsRow base e 1 v n xs) (hb : base' ≤ base) : w.ownsRow base' e 1 v n xs:=by
 refine ⟨h.1,?_⟩
 rcases h.2 with hn | ⟨g,cap,cur,rfl,hb',rest⟩
 · exact .inl hn
 · exact .inr ⟨g,cap,cur,rfl,by omega,rest⟩
theorem own_out {w : World} {base e : Nat} {v : Value} {n : Nat} {xs : List Value} (h : w.ownsRow base e 1 v n xs) :
   ∃ ao cap,v = .slice ao n cap ∧ n ≤ cap ∧ cap ≤ 9223372036854775807 ∧ (0 < n → ∃ g,ao = some ⟨g,0,none⟩ ∧ base ≤ g ∧ g < w.heap.size):=by
 rcases h.2 with ⟨rfl,rfl⟩ | ⟨g,cap,cur,rfl,hb,hg,hnc,hcm,_⟩
 · exact ⟨none,0,rfl,by simp,by simp,by simp⟩
 · exact ⟨_,cap,rfl,hnc,by unfold maxLen at hcm;omega,fun _ => ⟨g,rfl,hb,(Array.getElem?_eq_some_iff.1 hg).1⟩⟩
structure SlTy (P : Program) (t e : TypeId) (z : Value) (bytes : Nat) : Prop where
 under : P.underlying t = some (.slice e)
 info : ∃ i,P.info? e = some i ∧ i.zero = some z ∧ i.size = 1 ∧ i.bytes = bytes
 one : z.cells.size = 1
theorem wpList_append_sl {P : Program} {t e : TypeId} {z : Value} {bytes : Nat} (T : SlTy P t e z bytes) {w : World} {ops : Array Oper} {rest : List Oper} {o : Oper} {a : Act} {Q : Exit → Act → World → Prop} (hgd : o.guard = none) (s x : Operand)
   (ho : o.op = .call { callee:=.builtin .append,args:=#[s,x],argTypes:=#[t,t] })
   (base : Nat) (v : Value) (n : Nat) (xs : List Value) (hs : a.eval s = v) (hown : w.ownsRow base e 1 v n xs)
   (y : Value) (ys : List Value) (hx : a.eval x = y) (hy : Sl w y ys) (h1 : ∀ u ∈ ys,u.oneCell' = true)
   (hm : n + ys.length ≤ 9223372036854775807) (hbytes : (n + ys.length) * bytes ≤ 140737488355328) (hbase : base ≤ w.heap.size)
   (h : ∀ v' w',w'.ownsRow base e 1 v' (n + ys.length) (xs ++ ys) → w.grownBy w' v.ownBlock → wpList P ops Q rest (a.put o.dst v') w') : wpList P ops Q (o :: rest) a w:=by
 obtain ⟨i,hi,hz,hsz,hby⟩:=T.info
 obtain ⟨ao,cap,rfl,c1,c2,c3,c4⟩:=hy
 cases ao with
 | none =>
   have:=c3 rfl
   subst this
   have hys : ys = []:=List.eq_nil_of_length_eq_zero (by omega)
   subst hys
   refine wpList_append_own_none hgd s x t ho base e i 1 T.under (by simpa using hi) v n xs hs hown hx (h v w (by simpa using hown) (World.grownBy.refl w _))
 | some ad =>
   refine wpList_append_own w hgd s x t ho base e i z 1 bytes T.under hi hz hsz hby T.one (by decide) v n xs hs hown ad ys.length cap ys hx (by simp) ?_ h1 (by unfold maxLen;omega) hbytes hbase (fun v' w' g1 g2 _ => h v' w' g1 g2)
   intro j u hu
   have hj : j < ys.length:=(List.getElem?_eq_some_iff.1 hu).1
   obtain ⟨q1,q2,q3⟩:=c4 ad rfl (by omega)
   obtain ⟨b,of,sp⟩:=ad
   dsimp only at q1 q2 q3
   subst q1
   have hadd : (⟨b,of,none⟩ : Addr).add j = ⟨b,of + j,none⟩:=by unfold Addr.add;split <;> simp_all
   rw [hadd,q3 j hj,hu]
theorem step_append_sl {P : Program} {t e : TypeId} {z : Value} {bytes : Nat} (T : SlTy P t e z bytes) {w : World} {ops : Array Oper} {o : Oper} {a : Act} {K : Act → World → Prop} {Q : Exit → Act → World → Prop} {E : Prop} (hgd : o.guard = none) (s x : Operand)
   (ho : o.op = .call { callee:=.builtin .append,args:=#[s,x],argTypes:=#[t,t] })
   (base : Nat) (v : Value) (n : Nat) (xs : List Value) (hs : a.eval s = v) (hown : w.ownsRow base e 1 v n xs)
   (y : Value) (ys : List Value) (hx : a.eval x = y) (hy : Sl w y ys) (h1 : ∀ u ∈ ys,u.oneCell' = true)
   (hm : n + ys.length ≤ 9223372036854775807) (hbytes : (n + ys.length) * bytes ≤ 140737488355328) (hbase : base ≤ w.heap.size)
   (h : ∀ v' w',w'.ownsRow base e 1 v' (n + ys.length) (xs ++ ys) → w.grownBy w' v.ownBlock → K (a.put o.dst v') w') :
   if Region.wanted o (yielded ops a.tmps) = true then Oper.wp P o a w K Q else E:=by
 have hw : Region.wanted o (yielded ops a.tmps) = true:=by simp [Region.wanted,hgd]
 rw [if_pos hw]
 obtain ⟨i,hi,hz,hsz,hby⟩:=T.info
 obtain ⟨ao,cap,rfl,c1,c2,c3,c4⟩:=hy
 cases ao with
 | none =>
   have:=c3 rfl
   subst this
   have hys : ys = []:=List.eq_nil_of_length_eq_zero (by omega)
   subst hys
   have hrun:=run_append_owned_none (P:=P) (w:=w) base t o.type e i 1 T.under (by simpa using hi) v n xs hown
   unfold Oper.wp
   simp [execOp,ho,resolve,invoke,builtin,hs,hx,hrun,Result.andThen]
   exact h v w (by simpa using hown) (World.grownBy.refl w _)
 | some ad =>
   refine wp_append_own w s x t ho base e i z 1 bytes T.under hi hz hsz hby T.one (by decide) v n xs hs hown ad ys.length cap ys hx (by simp) ?_ h1 (by unfold maxLen;omega) hbytes hbase (fun v' w' g1 g2 _ => h v' w' g1 g2)
   intro j u hu
   have hj : j < ys.length:=(List.getElem?_eq_some_iff.1 hu).1
   obtain ⟨q1,q2,q3⟩:=c4 ad rfl (by omega)
   obtain ⟨b,of,sp⟩:=ad
   dsimp only at q1 q2 q3
   subst q1
   have hadd : (⟨b,of,none⟩ : Addr).add j = ⟨b,of + j,none⟩:=by unfold Addr.add;split <;> simp_all
   rw [hadd,q3 j hj,hu]
theorem own_empty (w : World) (e : TypeId) : (w.alloc (.cells #[] e)).ownsRow w.heap.size e 1 (.slice (some ⟨w.heap.size,0,none⟩) 0 0) 0 [] :=
 ⟨rfl,.inr ⟨w.heap.size,0,#[],rfl,Nat.le_refl _,heap_alloc_new w _,Nat.le_refl _,by simp [maxLen],rfl,rfl⟩⟩
theorem sl_lit (w : World) (e : TypeId) (l : List Value) (n : Nat) (hn : n = l.length) (hm : n ≤ 9223372036854775807) : Sl (w.alloc (.cells l.toArray e)) (.slice (some ⟨w.heap.size,0,none⟩) n n) l :=
 ⟨_,n,by rw [hn],by omega,by omega,by simp,fun a ha _ => by
   obtain rfl:=(Option.some.inj ha).symm
   exact ⟨rfl,by simp,fun j hj => by simp⟩⟩
theorem sl_one (w : World) (e : TypeId) (u : Value) : Sl (w.alloc (.cells #[u] e)) (.slice (some ⟨w.heap.size,0,none⟩) 1 1) [u] :=
 ⟨_,1,rfl,by simp,by simp,by simp,fun a ha _ => by
   obtain rfl:=(Option.some.inj ha).symm
   refine ⟨rfl,by simp,fun j hj => ?_⟩
   have : j = 0:=by simp at hj;omega
   subst this
   simp⟩
theorem wpList_append_one {P : Program} {t e : TypeId} {z : Value} {bytes : Nat} (T : SlTy P t e z bytes) {w : World} {ops : Array Oper} {rest : List Oper} {o : Oper} {a : Act} {Q : Exit → Act → World → Prop} (hgd : o.guard = none) (s x : Operand)
   (ho : o.op = .call { callee:=.builtin .append,args:=#[s,x],argTypes:=#[t,t] })
   {w0 : World} {S : List Nat} (F : Fr S w0 w)
   (v : Value) (n : Nat) (xs : List Value) (hs : a.eval s = v) (hown : w.ownsRow w0.heap.size e 1 v n xs)
   (u : Value) (hx : a.eval x = .slice (some ⟨w.heap.size,0,none⟩) 1 1) (h1 : u.oneCell' = true)
   (hm : n + 1 ≤ 9223372036854775807) (hbytes : (n + 1) * bytes ≤ 140737488355328)
   (h : ∀ v' w',w'.ownsRow w0.heap.size e 1 v' (n + 1) (xs ++ [u]) → Fr S w0 w' → wpList P ops Q rest (a.put o.dst v') w') : wpList P ops Q (o :: rest) a (w.alloc (.cells #[u] e)):=by
 refine wpList_append_sl T hgd s x ho w0.heap.size v n xs hs (hown.alloc _) _ [u] hx (sl_one w e u) (by intro u' hu;simp at hu;subst hu;exact h1) (by simpa using hm) (by simpa using hbytes) (by have:=F.size;simp;omega) (fun v' w' g1 g2 => h v' w' g1 ?_)
 exact (F.alloc _).grown g2 (fun k hk => .inr (hown.lt k hk).1)
def bv (l : List UInt8) : List Value:=l.map fun x => .int .u8 x.toNat
def tv (l : List Bool) : List Value:=l.map .bool
def u64v (l : List UInt64) : List Value:=l.map fun x => .int .u64 x.toNat
theorem u64v_length (l : List UInt64) : (u64v l).length = l.length:=by simp [u64v]
theorem u64v_get (l : List UInt64) (j : Nat) (x : UInt64) (h : l[j]? = some x) : (u64v l)[j]? = some (.int .u64 x.toNat):=by simp [u64v,h]
theorem bv_length (l : List UInt8) : (bv l).length = l.length:=by simp [bv]
theorem tv_length (l : List Bool) : (tv l).length = l.length:=by simp [tv]
theorem bv_append (a b : List UInt8) : bv (a ++ b) = bv a ++ bv b:=by simp [bv]
theorem tv_append (a b : List Bool) : tv (a ++ b) = tv a ++ tv b:=by simp [tv]
theorem bv_take (a : List UInt8) (n : Nat) : bv (a.take n) = (bv a).take n:=by simp [bv,List.map_take]
theorem bv_drop (a : List UInt8) (n : Nat) : bv (a.drop n) = (bv a).drop n:=by simp [bv,List.map_drop]
theorem bv_one (l : List UInt8) : ∀ u ∈ bv l,u.oneCell' = true:=by intro u hu;simp [bv] at hu;obtain ⟨x,_,rfl⟩:=hu;rfl
theorem bv_get (l : List UInt8) (j : Nat) (x : UInt8) (h : l[j]? = some x) : (bv l)[j]? = some (.int .u8 x.toNat):=by simp [bv,h]
theorem tv_get (l : List Bool) (j : Nat) (x : Bool) (h : l[j]? = some x) : (tv l)[j]? = some (.bool x):=by simp [tv,h]
theorem some_get {α : Type} (l : List α) (j : Nat) (h : j < l.length) : ∃ x,l[j]? = some x:=⟨l[j],by simp [h]⟩
theorem Same.cell {w w' : World} (h : Same w w') (a : Addr) : w'.cell? a = w.cell? a:=by obtain ⟨n,rfl⟩:=h;rfl
end Go.Proofs.YtkodindajfdagaaGreatDoor
/- Folders of coders, in plain Lean: whether they hold. No condition. -/
namespace Go.Proofs.YtkodindajfdagaaGreatDoor
structure Coder where
 method : Int
 props : List UInt8
structure Folder where
 coders : List Coder
 binds : List (Int × Int)
 packs : List Int
 sizes : List UInt64
def ins (m : Int) : Nat:=if m = 6 then 4 else if 1 ≤ m ∧ m ≤ 7 then 1 else 0
theorem ins_le (m : Int) : ins m ≤ 4:=by
 unfold ins;repeat' split
 all_goals omega
namespace Folder
def first (f : Folder) (k : Nat) : Nat:=((f.coders.take k).map fun c => ins c.method).sum
theorem first_succ (f : Folder) (k : Nat) (x : Coder) (h : f.coders[k]? = some x) : f.first (k + 1) = f.first k + ins x.method:=by
 simp [first,List.take_add_one,h]
theorem first_le (f : Folder) (k : Nat) : f.first k ≤ 4 * k:=by
 induction k with
 | zero => simp [first]
 | succ k ih =>
   cases h : f.coders[k]? with
   | none =>
     have : f.coders.take (k + 1) = f.coders.take k:=by simp [List.take_add_one,h]
     unfold first at *;rw [this];omega
   | some x => rw [f.first_succ k x h];have:=ins_le x.method;omega
end Folder
end Go.Proofs.YtkodindajfdagaaGreatDoor
/- What a cursor over bytes comes to, in plain Lean. No condition. -/
namespace Go.Proofs.YtkodindajfdagaaGreatDoor
structure Cur where
 b : List UInt8
 at_ : Nat
 code : Nat
 deriving DecidableEq
def leNat : List UInt8 → Nat
 | [] => 0
 | x :: l => x.toNat + 256 * leNat l
theorem leNat_snoc (l : List UInt8) (x : UInt8) : leNat (l ++ [x]) = leNat l + 256 ^ l.length * x.toNat:=by
 induction l with
 | nil => simp [leNat]
 | cons y l ih =>
   simp only [List.cons_append,leNat,ih,List.length_cons,Nat.pow_succ]
   have : 256 * (256 ^ l.length * x.toNat) = 256 ^ l.length * 256 * x.toNat:=by rw [Nat.mul_comm (256 ^ l.length) 256,Nat.mul_assoc]
   omega
theorem leNat_lt (l : List UInt8) : leNat l < 256 ^ l.length:=by
 induction l with
 | nil => simp [leNat]
 | cons y l ih =>
   have:=y.toNat_lt
   simp only [leNat,List.length_cons,Nat.pow_succ]
   omega
theorem take_succ' {α : Type} (l : List α) (k : Nat) (x : α) (h : l[k]? = some x) : l.take (k + 1) = l.take k ++ [x]:=by
 rw [List.take_add_one,h];rfl
theorem take_eq_step {α : Type} (a b : List α) (k : Nat) (x y : α) (hx : a[k]? = some x) (hy : b[k]? = some y) (h : a.take k = b.take k) (e : x = y) : a.take (k + 1) = b.take (k + 1):=by
 rw [take_succ' a k x hx,take_succ' b k y hy,h,e]
theorem ne_at {α : Type} (a b : List α) (k : Nat) (x y : α) (hx : a[k]? = some x) (hy : b[k]? = some y) (e : x ≠ y) : a ≠ b:=by
 rintro rfl
 rw [hx] at hy
 exact e (Option.some.inj hy)
theorem leNat_take (l : List UInt8) (k : Nat) (x : UInt8) (h : l[k]? = some x) : leNat (l.take (k + 1)) = leNat (l.take k) + 256 ^ k * x.toNat:=by
 rw [take_succ' l k x h,leNat_snoc]
 have : (l.take k).length = k:=by
   have:=(List.getElem?_eq_some_iff.1 h).1
   simp;omega
 rw [this]
namespace Cur
def live (c : Cur) : List UInt8:=if c.code = 0 then c.b else c.b.take c.at_
def left (c : Cur) : Nat:=if c.code = 0 then c.b.length - c.at_ else 0
def fail (c : Cur) (k : Nat) : Cur:={ c with code:=if c.code = 0 then k else c.code }
def take (c : Cur) (n : Nat) : List UInt8 × Cur :=
 if c.code ≠ 0 ∨ c.left < n then ([],c.fail 3) else ((c.b.drop c.at_).take n,{ c with at_:=c.at_ + n })
def sized (n : Int) : Bool:=n == 1 || n == 2 || n == 4 || n == 8
def num (c : Cur) (n : Int) : Nat × Cur :=
 if sized n then (leNat (c.take n.toNat).1,(c.take n.toNat).2) else (0,c.fail 3)
def ones (x : Nat) : Nat:=if x < 128 then 0 else if x < 192 then 1 else if x < 224 then 2 else if x < 240 then 3 else if x < 248 then 4 else if x < 252 then 5 else if x < 254 then 6 else if x < 255 then 7 else 8
theorem ones_le (x : Nat) : ones x ≤ 8:=by
 unfold ones;repeat' split
 all_goals omega
def head (c : Cur) : Nat:=(c.b.getD c.at_ 0).toNat
def number (c : Cur) : Nat × Cur :=
 if c.left < 1 + ones c.head then (0,c.fail 3)
 else (leNat ((c.b.drop (c.at_ + 1)).take (ones c.head)) + 256 ^ ones c.head * (if ones c.head < 7 then c.head % 2 ^ (7 - ones c.head) else 0),{ c with at_:=c.at_ + 1 + ones c.head })
theorem live_left (c : Cur) (h : c.at_ ≤ c.b.length) : c.live.length = c.at_ + c.left:=by
 unfold live left
 split
 · omega
 · simp;omega
end Cur
theorem Cur.take_length (c : Cur) (n : Nat) : (c.take n).1.length ≤ c.b.length:=by
 unfold Cur.take;split <;> simp;omega
theorem Cur.take_b (c : Cur) (n : Nat) : (c.take n).2.b = c.b:=by
 unfold Cur.take;split <;> rfl
end Go.Proofs.YtkodindajfdagaaGreatDoor
/- Arithmetic on bits, in plain Lean. No condition. -/
namespace Go.Proofs.YtkodindajfdagaaGreatDoor
open Go.RowKit
theorem pow256 (k : Nat) : 256 ^ k = 2 ^ (8 * k):=by rw [Nat.pow_mul]
theorem pow256_le {k m : Nat} (h : k ≤ m) : 256 ^ k ≤ 256 ^ m:=Nat.pow_le_pow_right (by decide) h
theorem wrap_u64_nat (a : Nat) (h : a < 18446744073709551616) : IntKind.u64.wrap (a : Int) = a:=by
 rw [IntKind.wrap_u64];omega
theorem or_high (s x k : Nat) (hs : s < 2 ^ k) : s ||| x * 2 ^ k = s + 2 ^ k * x:=by
 rw [Nat.or_comm,Nat.mul_comm,← Nat.two_pow_add_eq_or_of_lt hs,Nat.add_comm]
theorem byte_high (k x : Nat) (hk : k < 8) (hx : x < 256) : 256 ^ k * x < 18446744073709551616 ∧ x * 2 ^ (8 * k) < 18446744073709551616:=by
 have h1 : 256 ^ k * 256 ≤ 256 ^ 8:=by rw [← Nat.pow_succ];exact pow256_le (by omega)
 have h2 : 256 ^ k * x < 256 ^ k * 256:=Nat.mul_lt_mul_of_pos_left hx (Nat.pow_pos (by decide))
 have h3 : (256 : Nat) ^ 8 = 18446744073709551616:=by decide
 rw [← pow256,Nat.mul_comm x]
 omega
theorem least_step (s k : Nat) (x : UInt8) (hk : k < 8) (hs : s < 256 ^ k) :
   bits BinOp.or IntKind.u64 (s : Int) (IntKind.u64.wrap (IntKind.u64.wrap (x.toNat : Int) * 2 ^ (8 * k))) = ((s + 256 ^ k * x.toNat : Nat) : Int):=by
 have hx:=x.toNat_lt
 have hb:=byte_high k x.toNat hk (by omega)
 have h1 : 256 ^ k ≤ 256 ^ 8:=pow256_le (by omega)
 have h3 : (256 : Nat) ^ 8 = 18446744073709551616:=by decide
 rw [wrap_u64_nat _ (by omega)]
 have e : ((x.toNat : Int) * 2 ^ (8 * k)) = ((x.toNat * 2 ^ (8 * k) : Nat) : Int):=by push_cast;rfl
 rw [e,wrap_u64_nat _ hb.2,bits_or_u64_nat _ _ (by omega) hb.2,or_high _ _ _ (by rw [← pow256];exact hs),pow256]
theorem ones_bitLen (x : Nat) (hx : x < 256) : 8 - (Lib.bitLen (255 - x) : Int) = (Cur.ones x : Int):=by
 have h : ∀ y : Fin 256,8 - (Lib.bitLen (255 - y.val) : Int) = (Cur.ones y.val : Int):=by decide +kernel
 exact h ⟨x,hx⟩
theorem xor_u8 (x : Nat) (hx : x < 256) : bits BinOp.xor IntKind.u8 IntKind.u8.max (x : Int) = ((255 - x : Nat) : Int):=by
 have h : ∀ y : Fin 256,bits BinOp.xor IntKind.u8 IntKind.u8.max (y.val : Int) = ((255 - y.val : Nat) : Int):=by decide +kernel
 exact h ⟨x,hx⟩
theorem mask_u8 (k x : Nat) (hk : k < 8) (hx : x < 256) : bits BinOp.and IntKind.u8 (x : Int) (127 / 2 ^ k) = ((x % 2 ^ (7 - k) : Nat) : Int):=by
 have h : ∀ (j : Fin 8) (y : Fin 256),bits BinOp.and IntKind.u8 (y.val : Int) (127 / 2 ^ j.val) = ((y.val % 2 ^ (7 - j.val) : Nat) : Int):=by decide +kernel
 exact h ⟨k,hk⟩ ⟨x,hx⟩
end Go.Proofs.YtkodindajfdagaaGreatDoor
/- Rows of bits, in plain Lean. No condition. -/
namespace Go.Proofs.YtkodindajfdagaaGreatDoor
open Go.RowKit
def byteOf (f : Nat → Bool) (j : Nat) : Nat :=
 (f (8 * j)).toNat * 128 + (f (8 * j + 1)).toNat * 64 + (f (8 * j + 2)).toNat * 32 + (f (8 * j + 3)).toNat * 16 +
 (f (8 * j + 4)).toNat * 8 + (f (8 * j + 5)).toNat * 4 + (f (8 * j + 6)).toNat * 2 + (f (8 * j + 7)).toNat
theorem bool_le (b : Bool) : b.toNat ≤ 1:=by cases b <;> simp
theorem byteOf_lt (f : Nat → Bool) (j : Nat) : byteOf f j < 256:=by
 unfold byteOf
 have h0:=bool_le (f (8 * j));have h1:=bool_le (f (8 * j + 1));have h2:=bool_le (f (8 * j + 2));have h3:=bool_le (f (8 * j + 3))
 have h4:=bool_le (f (8 * j + 4));have h5:=bool_le (f (8 * j + 5));have h6:=bool_le (f (8 * j + 6));have h7:=bool_le (f (8 * j + 7))
 omega
theorem byteOf_congr (f g : Nat → Bool) (j : Nat) (h : ∀ t,t < 8 → f (8 * j + t) = g (8 * j + t)) : byteOf f j = byteOf g j:=by
 have h0:=h 0 (by decide);have h1:=h 1 (by decide);have h2:=h 2 (by decide);have h3:=h 3 (by decide)
 have h4:=h 4 (by decide);have h5:=h 5 (by decide);have h6:=h 6 (by decide);have h7:=h 7 (by decide)
 unfold byteOf
 rw [Nat.add_zero] at h0
 rw [h0,h1,h2,h3,h4,h5,h6,h7]
theorem byteOf_bit (f : Nat → Bool) (j t : Nat) (ht : t < 8) : byteOf f j / (128 / 2 ^ t) % 2 = (f (8 * j + t)).toNat:=by
 have h0:=bool_le (f (8 * j));have h1:=bool_le (f (8 * j + 1));have h2:=bool_le (f (8 * j + 2));have h3:=bool_le (f (8 * j + 3))
 have h4:=bool_le (f (8 * j + 4));have h5:=bool_le (f (8 * j + 5));have h6:=bool_le (f (8 * j + 6));have h7:=bool_le (f (8 * j + 7))
 have ht' : t = 0 ∨ t = 1 ∨ t = 2 ∨ t = 3 ∨ t = 4 ∨ t = 5 ∨ t = 6 ∨ t = 7:=by omega
 rcases ht' with rfl | rfl | rfl | rfl | rfl | rfl | rfl | rfl <;> simp only [Nat.reducePow,Nat.reduceDiv,Nat.add_zero] <;> unfold byteOf <;> omega
def upTo (f : Nat → Bool) (k n : Nat) : Bool:=decide (n < k) && f n
theorem upTo_at (f : Nat → Bool) (j t s : Nat) : upTo f (8 * j + t) (8 * j + s) = (decide (s < t) && f (8 * j + s)):=by
 unfold upTo
 congr 1
 simp
theorem upTo_at0 (f : Nat → Bool) (j t : Nat) : upTo f (8 * j + t) (8 * j) = (decide (0 < t) && f (8 * j)):=upTo_at f j t 0
theorem upTo_none (f : Nat → Bool) (j s : Nat) : upTo f (8 * j) (8 * j + s) = false:=by simp [upTo];omega
theorem upTo_none0 (f : Nat → Bool) (j : Nat) : upTo f (8 * j) (8 * j) = false:=by simp [upTo]
theorem byteOf_step (f : Nat → Bool) (k : Nat) : byteOf (upTo f (k + 1)) (k / 8) = byteOf (upTo f k) (k / 8) + if f k then 128 / 2 ^ (k % 8) else 0:=by
 have hk : k = 8 * (k / 8) + k % 8:=by omega
 have ht : k % 8 < 8:=by omega
 generalize k / 8 = j at *
 generalize k % 8 = t at *
 subst hk
 rw [Nat.add_assoc]
 have ht' : t = 0 ∨ t = 1 ∨ t = 2 ∨ t = 3 ∨ t = 4 ∨ t = 5 ∨ t = 6 ∨ t = 7:=by omega
 rcases ht' with rfl | rfl | rfl | rfl | rfl | rfl | rfl | rfl <;> simp only [byteOf,upTo_at,upTo_at0,Nat.add_zero,upTo_none,upTo_none0] <;> simp
 all_goals split <;> simp_all
def packF (f : Nat → Bool) (m : Nat) : List UInt8:=(List.range m).map fun j => UInt8.ofNat (byteOf f j)
theorem packF_length (f : Nat → Bool) (m : Nat) : (packF f m).length = m:=by simp [packF]
theorem packF_get (f : Nat → Bool) (m j : Nat) (h : j < m) : (packF f m)[j]? = some (UInt8.ofNat (byteOf f j)):=by simp [packF,h]
theorem packF_congr (f g : Nat → Bool) (m : Nat) (h : ∀ n,n < 8 * m → f n = g n) : packF f m = packF g m:=by
 unfold packF
 apply List.map_congr_left
 intro j hj
 rw [byteOf_congr f g j (fun t ht => h _ (by have:=List.mem_range.1 hj;omega))]
theorem packF_succ (f : Nat → Bool) (m : Nat) : packF f (m + 1) = packF f m ++ [UInt8.ofNat (byteOf f m)]:=by simp [packF,List.range_succ]
theorem byteOf_empty (f : Nat → Bool) (k j : Nat) (h : k ≤ 8 * j) : byteOf (upTo f k) j = 0:=by
 unfold byteOf upTo
 simp only [show ¬ (8 * j < k) from by omega,show ¬ (8 * j + 1 < k) from by omega,show ¬ (8 * j + 2 < k) from by omega,show ¬ (8 * j + 3 < k) from by omega,show ¬ (8 * j + 4 < k) from by omega,show ¬ (8 * j + 5 < k) from by omega,show ¬ (8 * j + 6 < k) from by omega,show ¬ (8 * j + 7 < k) from by omega,decide_false,Bool.false_and]
 rfl
theorem upTo_low (f : Nat → Bool) (k n : Nat) (h : n < k) : upTo f (k + 1) n = upTo f k n:=by unfold upTo;simp [h,Nat.lt_succ_of_lt h]
theorem pack_open (f : Nat → Bool) (k : Nat) (h : k % 8 = 0) :
   packF (upTo f (k + 1)) ((k + 1 + 7) / 8) = packF (upTo f k) ((k + 7) / 8) ++ [UInt8.ofNat (if f k then 128 else 0)]:=by
 rw [show (k + 1 + 7) / 8 = k / 8 + 1 from by omega,show (k + 7) / 8 = k / 8 from by omega,packF_succ,byteOf_step,byteOf_empty f k (k / 8) (by omega),h]
 simp only [Nat.zero_add,Nat.pow_zero,Nat.div_one]
 rw [packF_congr _ (upTo f k) (k / 8) (fun n hn => upTo_low f k n (by omega))]
theorem pack_in (f : Nat → Bool) (k : Nat) (h : k % 8 ≠ 0) :
   packF (upTo f (k + 1)) ((k + 1 + 7) / 8) = packF (upTo f k) (k / 8) ++ [UInt8.ofNat (byteOf (upTo f k) (k / 8) + if f k then 128 / 2 ^ (k % 8) else 0)] ∧
   packF (upTo f k) ((k + 7) / 8) = packF (upTo f k) (k / 8) ++ [UInt8.ofNat (byteOf (upTo f k) (k / 8))]:=by
 rw [show (k + 1 + 7) / 8 = k / 8 + 1 from by omega,show (k + 7) / 8 = k / 8 + 1 from by omega,packF_succ,packF_succ,byteOf_step]
 rw [packF_congr (upTo f (k + 1)) (upTo f k) (k / 8) (fun n hn => upTo_low f k n (by omega))]
 exact ⟨rfl,rfl⟩
theorem byteOf_low (f : Nat → Bool) (k : Nat) : byteOf (upTo f k) (k / 8) / (128 / 2 ^ (k % 8)) % 2 = 0:=by
 rw [byteOf_bit _ _ _ (by omega)]
 unfold upTo
 rw [show 8 * (k / 8) + k % 8 = k from by omega]
 simp
theorem or_bit (y m : Nat) (hy : y < 256) (hm : m < 8) (h : y / (128 / 2 ^ m) % 2 = 0) : bits BinOp.or IntKind.u8 (y : Int) (128 / 2 ^ m) = ((y + 128 / 2 ^ m : Nat) : Int) ∧ y + 128 / 2 ^ m < 256:=by
 have key : ∀ (n : Fin 8) (z : Fin 256),z.val / (128 / 2 ^ n.val) % 2 = 0 → bits BinOp.or IntKind.u8 (z.val : Int) (128 / 2 ^ n.val) = ((z.val + 128 / 2 ^ n.val : Nat) : Int) ∧ z.val + 128 / 2 ^ n.val < 256:=by decide +kernel
 exact key ⟨m,hm⟩ ⟨y,hy⟩ h
def bitAt (row : List Bool) (n : Nat) : Bool:=row.getD n false
def packBits (row : List Bool) : List UInt8:=packF (bitAt row) ((row.length + 7) / 8)
theorem packBits_upTo (row : List Bool) : packF (upTo (bitAt row) row.length) ((row.length + 7) / 8) = packBits row:=by
 apply packF_congr
 intro n _
 unfold upTo bitAt
 by_cases h : n < row.length
 · simp [h]
 · simp [h]
end Go.Proofs.YtkodindajfdagaaGreatDoor
/- What is put behind bytes, in plain Lean. No condition. -/
namespace Go.Proofs.YtkodindajfdagaaGreatDoor
open Go.RowKit
def leBytes : Nat → Nat → List UInt8
 | 0,_ => []
 | k + 1,v => UInt8.ofNat v :: leBytes k (v / 256)
theorem leBytes_length (k v : Nat) : (leBytes k v).length = k:=by
 induction k generalizing v with
 | zero => rfl
 | succ k ih => simp [leBytes,ih]
theorem leBytes_snoc (k v : Nat) : leBytes (k + 1) v = leBytes k v ++ [UInt8.ofNat (v / 256 ^ k)]:=by
 induction k generalizing v with
 | zero => simp [leBytes]
 | succ k ih =>
   rw [leBytes,ih,leBytes,Nat.div_div_eq_div_mul,Nat.pow_succ,Nat.mul_comm 256]
   rfl
theorem leNat_leBytes (k v : Nat) (h : v < 256 ^ k) : leNat (leBytes k v) = v:=by
 induction k generalizing v with
 | zero => simp at h;subst h;rfl
 | succ k ih =>
   have h2 : v / 256 < 256 ^ k:=by rw [Nat.div_lt_iff_lt_mul (by decide),← Nat.pow_succ];exact h
   simp only [leBytes,leNat,ih _ h2]
   have : (UInt8.ofNat v).toNat = v % 256:=by simp
   omega
theorem leNat_leBytes_mod (k v : Nat) : leNat (leBytes k v) = v % 256 ^ k:=by
 induction k generalizing v with
 | zero => simp [leBytes,leNat,Nat.mod_one]
 | succ k ih =>
   simp only [leBytes,leNat,ih]
   have : (UInt8.ofNat v).toNat = v % 256:=by simp
   rw [this,Nat.pow_succ,Nat.mul_comm (256 ^ k),Nat.mod_mul]
def extra (v : Nat) : Nat:=if v < 128 then 0 else if v < 16384 then 1 else if v < 2097152 then 2 else if v < 268435456 then 3 else if v < 34359738368 then 4 else if v < 4398046511104 then 5 else if v < 562949953421312 then 6 else if v < 72057594037927936 then 7 else 8
theorem extra_le (v : Nat) : extra v ≤ 8:=by
 unfold extra
 repeat' split
 all_goals omega
theorem extra_lt (v k : Nat) (h : k < extra v) : k < 8 ∧ v / 2 ^ (7 * k + 7) ≠ 0:=by
 have h8:=extra_le v
 refine ⟨by omega,?_⟩
 have hk : k = 0 ∨ k = 1 ∨ k = 2 ∨ k = 3 ∨ k = 4 ∨ k = 5 ∨ k = 6 ∨ k = 7:=by omega
 rcases hk with rfl | rfl | rfl | rfl | rfl | rfl | rfl | rfl <;> simp only [Nat.reduceMul,Nat.reduceAdd,Nat.reducePow] <;> unfold extra at h <;> repeat' split at h
 all_goals omega
theorem extra_at (v : Nat) (h : extra v < 8) : v / 2 ^ (7 * extra v + 7) = 0:=by
 unfold extra at *
 repeat' split
 all_goals first | (simp only [Nat.reduceMul,Nat.reduceAdd,Nat.reducePow];omega) | (exfalso;simp_all)
def firstByte (v : Nat) : UInt8:=UInt8.ofNat (65280 / 2 ^ extra v % 256 + if extra v < 7 then v / 256 ^ extra v else 0)
def putNumber (b : List UInt8) (v : Nat) : List UInt8:=b ++ firstByte v :: leBytes (extra v) v
def put (b : List UInt8) (size : Int) (v : Nat) : List UInt8:=if Cur.sized size then b ++ leBytes size.toNat v else b
theorem putNumber_length (b : List UInt8) (v : Nat) : (putNumber b v).length = b.length + 1 + extra v:=by
 simp [putNumber,leBytes_length];omega
theorem shr_ne (v m : Nat) (h : v / 2 ^ m ≠ 0) : ((v : Int) / 2 ^ m != 0) = true:=by
 rw [bne_iff_ne];intro e;apply h
 have : ((v / 2 ^ m : Nat) : Int) = 0:=by push_cast;exact e
 omega
theorem shr_eq (v m : Nat) (h : v / 2 ^ m = 0) : ((v : Int) / 2 ^ m != 0) = false:=by
 have : ((v / 2 ^ m : Nat) : Int) = 0:=by omega
 push_cast at this
 simp [this]
theorem or_first (k y : Nat) (hk : k < 7) (hy : y < 2 ^ (7 - k)) : bits BinOp.or IntKind.u8 (65280 / 2 ^ k % 256) (y : Int) = ((65280 / 2 ^ k % 256 + y : Nat) : Int):=by
 have h : ∀ (j : Fin 7) (z : Fin 128),z.val < 2 ^ (7 - j.val) → bits BinOp.or IntKind.u8 (65280 / 2 ^ j.val % 256) (z.val : Int) = ((65280 / 2 ^ j.val % 256 + z.val : Nat) : Int):=by decide +kernel
 have h7 : 2 ^ (7 - k) ≤ 2 ^ 7:=Nat.pow_le_pow_right (by decide) (by omega)
 exact h ⟨k,hk⟩ ⟨y,by omega⟩ hy
theorem first_small (k y : Nat) (hk : k < 7) (hy : y < 2 ^ (7 - k)) : 65280 / 2 ^ k % 256 + y < 256:=by
 have h : ∀ (j : Fin 7) (z : Fin 128),z.val < 2 ^ (7 - j.val) → 65280 / 2 ^ j.val % 256 + z.val < 256:=by decide +kernel
 have h7 : 2 ^ (7 - k) ≤ 2 ^ 7:=Nat.pow_le_pow_right (by decide) (by omega)
 exact h ⟨k,hk⟩ ⟨y,by omega⟩ hy
theorem first_ge (v k : Nat) (hk : k = extra v) (h7 : ¬ k < 7) : (65280 / 2 ^ k % 256 : Int) = ((firstByte v).toNat : Int):=by
 unfold firstByte
 rw [← hk,if_neg h7]
 have : 65280 / 2 ^ k % 256 < 256:=Nat.mod_lt _ (by decide)
 simp
theorem first_lt (v k : Nat) (hk : k = extra v) (h7 : k < 7) : bits BinOp.or IntKind.u8 (65280 / 2 ^ k % 256) ((v : Int) / 2 ^ (8 * k) % 256) = ((firstByte v).toNat : Int):=by
 have h0:=extra_at v (by omega)
 rw [← hk] at h0
 have hlt : v / 2 ^ (8 * k) < 2 ^ (7 - k):=by
   have h1 : v < 2 ^ (7 * k + 7):=(Nat.div_eq_zero_iff_lt (Nat.pow_pos (by decide))).1 h0
   rw [Nat.div_lt_iff_lt_mul (Nat.pow_pos (by decide)),← Nat.pow_add,show 7 - k + 8 * k = 7 * k + 7 from by omega]
   exact h1
 have hs:=first_small k _ h7 hlt
 have e : ((v : Int) / 2 ^ (8 * k) % 256) = ((v / 2 ^ (8 * k) : Nat) : Int):=by
   have : ((v / 2 ^ (8 * k) % 256 : Nat) : Int) = ((v / 2 ^ (8 * k) : Nat) : Int):=by rw [Nat.mod_eq_of_lt];omega
   rw [← this,Int.natCast_emod,Int.natCast_ediv,Int.natCast_pow];rfl
 rw [e,or_first k _ h7 hlt]
 unfold firstByte
 rw [← hk,if_pos h7,pow256]
 congr 1
 simp
 omega
end Go.Proofs.YtkodindajfdagaaGreatDoor
/- A short number that was read, put again: the plain law. No condition. -/
namespace Go.Proofs.YtkodindajfdagaaGreatDoor
open Go.RowKit
end Go.Proofs.YtkodindajfdagaaGreatDoor
/- Plain facts for the references' Put functions. No condition. -/
namespace Go.Proofs.YtkodindajfdagaaGreatDoor
open Go.RowKit
def putTold (b : List UInt8) (row : List Bool) : List UInt8:=if row.all id then b ++ [1] else (b ++ [0]) ++ packBits row
theorem all_take (row : List Bool) (k : Nat) (x : Bool) (h : row[k]? = some x) : (row.take (k + 1)).all id = ((row.take k).all id && x):=by
 rw [take_succ' row k x h];simp [List.all_append]
end Go.Proofs.YtkodindajfdagaaGreatDoor
/- Rows of bits that are read, in plain Lean. No condition. -/
namespace Go.Proofs.YtkodindajfdagaaGreatDoor
open Go.RowKit
def bitOf (l : List UInt8) (i : Nat) : Bool:=(l.getD (i / 8) 0).toNat / (128 / 2 ^ (i % 8)) % 2 == 1
def unpack (l : List UInt8) (n : Nat) : List Bool:=(List.range n).map (bitOf l)
theorem unpack_succ (l : List UInt8) (n : Nat) : unpack l (n + 1) = unpack l n ++ [bitOf l n]:=by simp [unpack,List.range_succ]
theorem unpack_length (l : List UInt8) (n : Nat) : (unpack l n).length = n:=by simp [unpack]
def padded (l : List UInt8) (n : Nat) : Bool:=n % 8 != 0 && (l.getD (n / 8) 0).toNat % 2 ^ (8 - n % 8) != 0
theorem pad_bits (y m : Nat) (hy : y < 256) (hm : m < 8) (h0 : 0 < m) : y % 2 ^ (8 - m) = 0 ↔ ∀ t,m ≤ t → t < 8 → y / (128 / 2 ^ t) % 2 = 0:=by
 have key : ∀ (n : Fin 8) (z : Fin 256),0 < n.val → (z.val % 2 ^ (8 - n.val) = 0 ↔ ∀ t : Fin 8,n.val ≤ t.val → z.val / (128 / 2 ^ t.val) % 2 = 0):=by decide +kernel
 have:=key ⟨m,hm⟩ ⟨y,hy⟩ h0
 constructor
 · intro h t h1 h2;exact this.1 h ⟨t,h2⟩ h1
 · intro h;exact this.2 (fun t ht => h t.val ht t.isLt)
theorem padded_false (l : List UInt8) (n : Nat) : padded l n = false ↔ ∀ i,n ≤ i → i < 8 * ((n + 7) / 8) → bitOf l i = false:=by
 have hy:=(l.getD (n / 8) 0).toNat_lt
 by_cases h : n % 8 = 0
 · constructor
   · intro _ i h1 h2;omega
   · intro _;simp [padded,h]
 · have hp:=pad_bits (l.getD (n / 8) 0).toNat (n % 8) (by omega) (by omega) (by omega)
   have e : padded l n = false ↔ (l.getD (n / 8) 0).toNat % 2 ^ (8 - n % 8) = 0:=by
     unfold padded;simp [h]
   rw [e,hp]
   constructor
   · intro hh i h1 h2
     have h3 : i / 8 = n / 8:=by omega
     have:=hh (i % 8) (by omega) (by omega)
     unfold bitOf;rw [h3,this];rfl
   · intro hh t h1 h2
     have:=hh (8 * (n / 8) + t) (by omega) (by omega)
     unfold bitOf at this
     rw [show (8 * (n / 8) + t) / 8 = n / 8 from by omega,show (8 * (n / 8) + t) % 8 = t from by omega] at this
     have h5:=beq_eq_false_iff_ne.1 this
     omega
namespace Cur
def row (c : Cur) (n : Nat) : List UInt8:=(c.b.drop c.at_).take ((n + 7) / 8)
def bits (c : Cur) (n : Int) : List Bool × Cur :=
 if c.code ≠ 0 ∨ n < 0 ∨ c.left < (n.toNat + 7) / 8 then ([],c.fail 3)
 else if padded (c.row n.toNat) n.toNat then ([],c.fail 5)
 else (unpack (c.row n.toNat) n.toNat,{ c with at_:=c.at_ + (n.toNat + 7) / 8 })
def told (c : Cur) (n : Int) : List Bool × Cur :=
 if c.left < 1 ∨ n < 0 then ([],c.fail 3)
 else if c.head = 1 then (List.replicate n.toNat true,{ c with at_:=c.at_ + 1 })
 else if c.head = 0 then
   if (bits { c with at_:=c.at_ + 1 } n).2.code ≠ 0 then ([],{ (bits { c with at_:=c.at_ + 1 } n).2 with at_:=c.at_ })
   else bits { c with at_:=c.at_ + 1 } n
 else ([],c.fail 5)
end Cur
theorem shl_pad (y m : Nat) (hy : y < 256) (hm : m < 8) : (y * 2 ^ m) % 256 = 0 ↔ y % 2 ^ (8 - m) = 0:=by
 have key : ∀ (n : Fin 8) (z : Fin 256),(z.val * 2 ^ n.val) % 256 = 0 ↔ z.val % 2 ^ (8 - n.val) = 0:=by decide +kernel
 exact key ⟨m,hm⟩ ⟨y,hy⟩
theorem shr_bit (y m : Nat) (hy : y < 256) (hm : m < 8) : y / 2 ^ (7 - m) % 2 = y / (128 / 2 ^ m) % 2:=by
 have key : ∀ (n : Fin 8) (z : Fin 256),z.val / 2 ^ (7 - n.val) % 2 = z.val / (128 / 2 ^ n.val) % 2:=by decide +kernel
 exact key ⟨m,hm⟩ ⟨y,hy⟩
theorem and_one (y : Nat) (hy : y < 256) : Go.bits BinOp.and IntKind.u8 (y : Int) 1 = ((y % 2 : Nat) : Int):=by
 have key : ∀ (z : Fin 256),Go.bits BinOp.and IntKind.u8 (z.val : Int) 1 = ((z.val % 2 : Nat) : Int):=by decide +kernel
 exact key ⟨y,hy⟩
theorem bit_read (R : List UInt8) (k : Nat) (y : UInt8) (hy : R[k / 8]? = some y) : (Go.bits BinOp.and IntKind.u8 ((y.toNat : Int) / 2 ^ (7 - k % 8)) 1 == 1) = bitOf R k:=by
 have hy8:=y.toNat_lt
 have e : ((y.toNat : Int) / 2 ^ (7 - k % 8)) = ((y.toNat / 2 ^ (7 - k % 8) : Nat) : Int):=by simp
 have hlt : y.toNat / 2 ^ (7 - k % 8) < 256:=Nat.lt_of_le_of_lt (Nat.div_le_self _ _) (by omega)
 rw [e,and_one _ hlt,shr_bit _ _ (by omega) (by omega)]
 unfold bitOf
 have : R.getD (k / 8) 0 = y:=by simp [hy]
 rw [this]
 generalize y.toNat / (128 / 2 ^ (k % 8)) % 2 = z
 rw [Bool.eq_iff_iff]
 simp
 omega
theorem pad_shl (R : List UInt8) (n : Nat) (y : UInt8) (hy : R[n / 8]? = some y) (h8 : n % 8 ≠ 0) : ((y.toNat : Int) * 2 ^ (n % 8) % 256 != 0) = padded R n:=by
 have hy8:=y.toNat_lt
 have e : ((y.toNat : Int) * 2 ^ (n % 8) % 256) = ((y.toNat * 2 ^ (n % 8) % 256 : Nat) : Int):=by simp
 have h:=shl_pad y.toNat (n % 8) (by omega) (by omega)
 unfold padded
 have : R.getD (n / 8) 0 = y:=by simp [hy]
 have hn : (n % 8 != 0) = true:=by simpa using h8
 rw [this,e,hn,Bool.true_and]
 generalize y.toNat * 2 ^ (n % 8) % 256 = a at *
 generalize y.toNat % 2 ^ (8 - n % 8) = b at *
 rw [Bool.eq_iff_iff]
 simp
 omega
end Go.Proofs.YtkodindajfdagaaGreatDoor
/- What a header says, read: the program's reader in plain Lean. No condition. -/
namespace Go.Proofs.YtkodindajfdagaaGreatDoor
structure Ck where
 has : Bool
 sum : UInt32
 deriving DecidableEq
structure Sub where
 size : UInt64
 ck : Ck
 deriving DecidableEq
structure Fil where
 name : List UInt8
 stream : Bool
 dir : Bool
 hasAttr : Bool
 attr : UInt32
 hasTime : Bool
 time : UInt64
 deriving DecidableEq
structure Fol where
 f : Folder
 ck : Ck
structure Dsc where
 packed : Bool
 place : UInt64
 packs : List UInt64
 checks : List Ck
 folders : List Fol
 subs : List (List Sub)
 files : List Fil
structure Rs where
 c : Cur
 k : Nat
namespace Rs
def fail (s : Rs) (e : Nat) : Rs:={ s with k:=if s.k = 0 then e else s.k }
def ok (s : Rs) : Rs:={ s with k:=if s.k = 0 then s.c.code else s.k }
def num (s : Rs) (n : Int) : Nat × Rs:=((s.c.num n).1,{ s with c:=(s.c.num n).2 })
def byte (s : Rs) : Nat × Rs:=s.num 1
def number (s : Rs) : Nat × Rs:=(s.c.number.1,{ s with c:=s.c.number.2 })
def lim (s : Rs) (bad : Nat → Rs → Bool) (e : Nat) : Nat × Rs :=
 if s.number.2.ok.k ≠ 0 then (0,s.number.2.ok) else if bad s.number.1 s.number.2.ok = true then (0,s.number.2.ok.fail e) else (s.number.1,s.number.2.ok)
def things (s : Rs) : Nat × Rs:=s.lim (fun n t => decide (t.c.left < n)) 3
def size (s : Rs) : Nat × Rs:=s.lim (fun n _ => decide (1099511627776 < n)) 7
def below (s : Rs) (m : Nat) : Nat × Rs:=s.lim (fun n _ => decide (m ≤ n)) 10
theorem ok_zero {s : Rs} (h : s.ok.k = 0) : s.k = 0 ∧ s.c.code = 0:=by
 unfold ok at h
 by_cases hk : s.k = 0
 · simp [hk] at h;exact ⟨hk,h⟩
 · simp [hk] at h
theorem ok_ok (s : Rs) : s.ok.ok = s.ok:=by
 unfold ok
 by_cases hk : s.k = 0
 · simp [hk]
 · simp [hk]
theorem ok_c (s : Rs) : s.ok.c = s.c:=rfl
theorem fail_c (s : Rs) (e : Nat) : (s.fail e).c = s.c:=rfl
end Rs
end Go.Proofs.YtkodindajfdagaaGreatDoor
