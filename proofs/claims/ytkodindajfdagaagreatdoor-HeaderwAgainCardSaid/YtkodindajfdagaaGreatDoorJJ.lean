/- A folder that is read: what lies in memory. No condition. -/
import Derived.Test.YtkodindajfdagaaGreatDoorJI
import Derived.Test.YtkodindajfdagaaGreatDoorHCellsM
import Derived.Deep.AppendLies
namespace Go.Proofs.YtkodindajfdagaaGreatDoor
open Go.RowKit
theorem own_frT {w w' : World} {base e sz : Nat} {v : Value} {n : Nat} {xs : List Value} {S : List Nat} (h : w.ownsRow base e sz v n xs) (F : Fr S w w') (hS : ∀ i ∈ S,i < base ∨ ∀ cs z,w.heap[i]? ≠ some (.cells cs e z)) : w'.ownsRow base e sz v n xs:=by
 refine own_frS h F fun k hk hm => ?_
 rcases hS k hm with h1 | h1
 · have:=(own_ltS h k hk).1;omega
 · rcases h.2 with ⟨rfl,-⟩ | ⟨g,cap,cur,rfl,hb,hg,-⟩
   · simp [Value.ownBlock] at hk
   · simp [Value.ownBlock] at hk
     subst hk
     exact h1 _ _ hg
theorem own_type {w : World} {base e sz : Nat} {v : Value} {n : Nat} {xs : List Value} (h : w.ownsRow base e sz v n xs) (k : Nat) (hk : v.ownBlock = some k) (e' : Nat) (he : e' ≠ e) : ∀ cs z,w.heap[k]? ≠ some (.cells cs e' z):=by
 rcases h.2 with ⟨rfl,-⟩ | ⟨g,cap,cur,rfl,hb,hg,-⟩
 · simp [Value.ownBlock] at hk
 · simp [Value.ownBlock] at hk
   subst hk
   intro cs z hc
   rw [hg] at hc
   injection hc with hc
   injection hc with _ h2 _
   exact he h2.symm
def coV (l : List (Coder × Value)) : List Value:=l.flatMap fun c => [.int .i64 c.1.method,c.2]
def biV (l : List (Int × Int)) : List Value:=l.flatMap fun b => [.int .i64 b.1,.int .i64 b.2]
theorem coV_append (a b : List (Coder × Value)) : coV (a ++ b) = coV a ++ coV b:=by simp [coV]
theorem biV_append (a b : List (Int × Int)) : biV (a ++ b) = biV a ++ biV b:=by simp [biV]
def PropsM (w : World) (lo : Nat) (l : List (Coder × Value)) : Prop:=∀ c ∈ l,Sm w lo 5 1 c.2 c.1.props.length (bv c.1.props)
theorem PropsM.nil (w : World) (lo : Nat) : PropsM w lo []:=fun c hc => by cases hc
theorem PropsM.frT {w w' : World} {lo : Nat} {l : List (Coder × Value)} {S : List Nat} (h : PropsM w lo l) (F : Fr S w w') (hS : ∀ i ∈ S,i < lo ∨ ∀ cs z,w.heap[i]? ≠ some (.cells cs 5 z)) : PropsM w' lo l:=fun c hc => (h c hc).frT F hS
theorem PropsM.snoc {w : World} {lo : Nat} {l : List (Coder × Value)} {c : Coder} {v : Value} (h : PropsM w lo l) (hv : Sm w lo 5 1 v c.props.length (bv c.props)) : PropsM w lo (l ++ [(c,v)]):=by
 intro x hx
 rcases List.mem_append.1 hx with hx | hx
 · exact h x hx
 · simp at hx;subst hx;exact hv
theorem info_co : (Tryz.prog.info? 72).map (fun i => (i.zero,i.size,i.bytes)) = some (some (.agg #[.int .i64 0,.slice none 0 0]),2,32):=by kernel_rfl
theorem sty_co : SlTyM Tryz.prog 64 72 (.agg #[.int .i64 0,.slice none 0 0]) 2 32:=⟨Tryz.underlying64,by obtain ⟨i,h⟩:=info_parts info_co;exact ⟨i,h⟩,rfl,by decide⟩
theorem info_bi : (Tryz.prog.info? 109).map (fun i => (i.zero,i.size,i.bytes)) = some (some (.agg #[.int .i64 0,.int .i64 0]),2,16):=by kernel_rfl
theorem sty_bi : SlTyM Tryz.prog 65 109 (.agg #[.int .i64 0,.int .i64 0]) 2 16:=⟨Tryz.underlying65,by obtain ⟨i,h⟩:=info_parts info_bi;exact ⟨i,h⟩,rfl,by decide⟩
theorem info_in : (Tryz.prog.info? 3).map (fun i => (i.zero,i.size,i.bytes)) = some (some (.int .i64 0),1,8):=by kernel_rfl
theorem sty_in : SlTyM Tryz.prog 66 3 (.int .i64 0) 1 8:=⟨Tryz.underlying66,by obtain ⟨i,h⟩:=info_parts info_in;exact ⟨i,h⟩,rfl,by decide⟩
structure FoSt (w : World) (p cp : Nat) (q : Option Nat) (s : Rs) (d : DV) (cv bv' pv : Value) (wx : World) : Prop where
 rd : RdAt wx p cp q s d
 b0 : wx.heap[w.heap.size]? = some (.cells #[.slice none 0 0,.slice none 0 0,.slice none 0 0,.slice none 0 0,.bool false,.int .u32 0] 70 (0,0))
 b1 : wx.heap[w.heap.size + 1]? = some (.cells #[cv,bv',pv,.slice none 0 0,.bool false,.int .u32 0] 70 (0,0))
 fr : Fr [p,cp] w wx
theorem FoSt.lt {w : World} {p cp : Nat} {q : Option Nat} {s : Rs} {d : DV} {cv bv' pv : Value} {wx : World} (h : FoSt w p cp q s d cv bv' pv wx) : w.heap.size + 2 ≤ wx.heap.size:=by
 have:=(Array.getElem?_eq_some_iff.1 h.b1).1
 omega
theorem FoSt.on {w : World} {p cp : Nat} {q : Option Nat} {s s' : Rs} {d : DV} {cv bv' pv : Value} {wx wy : World} {S : List Nat} (h : FoSt w p cp q s d cv bv' pv wx) (hp : p < w.heap.size) (hc : cp < w.heap.size) (F : Fr S wx wy) (hS : ∀ i ∈ S,i = p ∨ i = cp ∨ w.heap.size + 2 ≤ i) (R : RdAt wy p cp q s' d) : FoSt w p cp q s' d cv bv' pv wy:=by
 refine ⟨R,(F.block _ (Array.getElem?_eq_some_iff.1 h.b0).1 (fun hm => ?_)).trans h.b0,(F.block _ (Array.getElem?_eq_some_iff.1 h.b1).1 (fun hm => ?_)).trans h.b1,h.fr.trans F (fun i hi => ?_)⟩
 · rcases hS _ hm with e | e | e <;> omega
 · rcases hS _ hm with e | e | e <;> omega
 · rcases hS _ hi with e | e | e
   · left;simp [e]
   · left;simp [e]
   · right;omega
theorem FoSt.on2 {w : World} {p cp : Nat} {q : Option Nat} {s s' : Rs} {d : DV} {cv bv' pv : Value} {wx wy : World} (h : FoSt w p cp q s d cv bv' pv wx) (hp : p < w.heap.size) (hc : cp < w.heap.size) (F : Fr [p,cp] wx wy) (R : RdAt wy p cp q s' d) : FoSt w p cp q s' d cv bv' pv wy :=
 h.on hp hc F (by simp) R
theorem FoSt.put {w : World} {p cp : Nat} {q : Option Nat} {s : Rs} {d : DV} {cv bv' pv : Value} {wx : World} (h : FoSt w p cp q s d cv bv' pv wx) (hp : p < w.heap.size) (hc : cp < w.heap.size) (hq : ∀ k,q = some k → k < w.heap.size) (i : Nat) (v cv2 bv2 pv2 : Value)
   (hb : (wx.setCell ⟨w.heap.size + 1,i,none⟩ v).heap[w.heap.size + 1]? = some (.cells #[cv2,bv2,pv2,.slice none 0 0,.bool false,.int .u32 0] 70 (0,0))) :
   FoSt w p cp q s d cv2 bv2 pv2 (wx.setCell ⟨w.heap.size + 1,i,none⟩ v):=by
 have F : Fr [w.heap.size + 1] wx (wx.setCell ⟨w.heap.size + 1,i,none⟩ v):=(Fr.refl _ _).setCell (by simp) _
 exact ⟨h.rd.fr F (by simp;omega) (by simp;omega) (fun k hk => by have:=hq k hk;simp;omega),(F.block _ (Array.getElem?_eq_some_iff.1 h.b0).1 (by simp)).trans h.b0,hb,h.fr.setCell (.inr (by simp)) _⟩
theorem FoSt.put0 {w : World} {p cp : Nat} {q : Option Nat} {s : Rs} {d : DV} {cv bv' pv : Value} {wx : World} (h : FoSt w p cp q s d cv bv' pv wx) (hp : p < w.heap.size) (hc : cp < w.heap.size) (hq : ∀ k,q = some k → k < w.heap.size) (v : Value) : FoSt w p cp q s d v bv' pv (wx.setCell ⟨w.heap.size + 1,0,none⟩ v) :=
 h.put hp hc hq 0 v v bv' pv (Go.Joins.block_setCell h.b1 _)
theorem FoSt.put1 {w : World} {p cp : Nat} {q : Option Nat} {s : Rs} {d : DV} {cv bv' pv : Value} {wx : World} (h : FoSt w p cp q s d cv bv' pv wx) (hp : p < w.heap.size) (hc : cp < w.heap.size) (hq : ∀ k,q = some k → k < w.heap.size) (v : Value) : FoSt w p cp q s d cv v pv (wx.setCell ⟨w.heap.size + 1,1,none⟩ v) :=
 h.put hp hc hq 1 v cv v pv (Go.Joins.block_setCell h.b1 _)
theorem FoSt.put2 {w : World} {p cp : Nat} {q : Option Nat} {s : Rs} {d : DV} {cv bv' pv : Value} {wx : World} (h : FoSt w p cp q s d cv bv' pv wx) (hp : p < w.heap.size) (hc : cp < w.heap.size) (hq : ∀ k,q = some k → k < w.heap.size) (v : Value) : FoSt w p cp q s d cv bv' v (wx.setCell ⟨w.heap.size + 1,2,none⟩ v) :=
 h.put hp hc hq 2 v cv bv' v (Go.Joins.block_setCell h.b1 _)
theorem FoSt.grown {w : World} {p cp : Nat} {q : Option Nat} {s : Rs} {d : DV} {cv bv' pv : Value} {wx wy w0 : World} {e m n : Nat} {v : Value} {xs : List Value} (h : FoSt w p cp q s d cv bv' pv wx) (hp : p < w.heap.size) (hc : cp < w.heap.size) (hq : ∀ k,q = some k → k < w.heap.size)
   (hg : wx.grownBy wy v.ownBlock) (own : w0.ownsRow (w.heap.size + 2) e m v n xs) : FoSt w p cp q s d cv bv' pv wy ∧ Fr v.ownBlock.toList wx wy ∧ ∀ i ∈ v.ownBlock.toList,w.heap.size + 2 ≤ i:=by
 have hb : ∀ k,v.ownBlock = some k → w.heap.size + 2 ≤ k:=fun k hk => (own_ltS own k hk).1
 have F : Fr v.ownBlock.toList wx wy:=(Fr.refl _ _).grown hg (fun k hk => .inl (by rw [hk];simp))
 have hb2 : ∀ i ∈ v.ownBlock.toList,w.heap.size + 2 ≤ i:=fun i hi => hb i (by simpa using hi)
 exact ⟨h.on hp hc F (fun i hi => .inr (.inr (hb2 i hi))) (h.rd.grownB hg own (by omega) (by omega) (fun k hk => by have:=hq k hk;omega)),F,hb2⟩
theorem FoSt.fr0 {w : World} {p cp : Nat} {q : Option Nat} {s : Rs} {d : DV} {cv bv' pv : Value} {wx wy : World} (h : FoSt w p cp q s d cv bv' pv wx) (hp : p < w.heap.size) (hc : cp < w.heap.size) (F : Fr [] wx wy) : FoSt w p cp q s d cv bv' pv wy:=h.on hp hc F (by simp) (h.rd.fr0 F)
theorem cells6 {w : World} {g : Nat} {t : TypeId} {a0 a1 a2 a3 a4 a5 : Value} (h : w.heap[g]? = some (.cells #[a0,a1,a2,a3,a4,a5] t (0,0))) :
   w.cell? ⟨g,0,none⟩ = some a0 ∧ w.cell? ⟨g,1,none⟩ = some a1 ∧ w.cell? ⟨g,2,none⟩ = some a2 ∧ w.cell? ⟨g,3,none⟩ = some a3 ∧ w.cell? ⟨g,4,none⟩ = some a4 ∧ w.cell? ⟨g,5,none⟩ = some a5 ∧ (∀ j,w.frozen? ⟨g,j,none⟩ = false) :=
 ⟨by simp [Go.Joins.cell_of_block h],by simp [Go.Joins.cell_of_block h],by simp [Go.Joins.cell_of_block h],by simp [Go.Joins.cell_of_block h],by simp [Go.Joins.cell_of_block h],by simp [Go.Joins.cell_of_block h],fun j => Go.Joins.unfrozen_of_block h j⟩
def insL (l : List Coder) : Nat:=(l.map fun c => ins c.method).sum
def codersGo : Nat → Rs → List Coder → List Coder × Rs
 | 0,s,L => (L,s.ok)
 | m + 1,s,L => if s.ok.k ≠ 0 then (L,s.ok) else codersGo m s.ok.coder.2 (L ++ [s.ok.coder.1])
def bindsGo : Nat → Nat → Nat → Rs → List (Int × Int) → List (Int × Int) × Rs
 | 0,_,_,s,B => (B,s.ok)
 | m + 1,i,n,s,B => if s.ok.k ≠ 0 then (B,s.ok) else bindsGo m i n ((s.ok.below i).2.below n).2 (B ++ [(((s.ok.below i).1 : Int),(((s.ok.below i).2.below n).1 : Int))])
def belowGo : Nat → Nat → Rs → List Int → List Int × Rs
 | 0,_,s,P => (P,s)
 | m + 1,i,s,P => belowGo m i (s.below i).2 (P ++ [((s.below i).1 : Int)])
def freeAt (B : List (Int × Int)) (i : Nat) : Nat:=((List.range i).find? fun (k : Nat) => !decide ((k : Int) ∈ B.map (·.1))).getD i
def Rs.folderD (C : List Coder) (B : List (Int × Int)) (s : Rs) : Folder × Rs :=
 if s.ok.k ≠ 0 then (⟨C,B,[],[]⟩,s.ok)
 else if insL C = B.length + 1 then (⟨C,B,[(freeAt B (insL C) : Int)],[]⟩,if freeAt B (insL C) = insL C then s.ok.fail 10 else s.ok)
 else (⟨C,B,(belowGo (insL C - B.length) (insL C) s.ok []).1,[]⟩,(belowGo (insL C - B.length) (insL C) s.ok []).2)
def Rs.folderC (n : Nat) (s : Rs) : Folder × Rs :=
 Rs.folderD (codersGo n s []).1 (bindsGo (n - 1) (insL (codersGo n s []).1) n (codersGo n s []).2 []).1 (bindsGo (n - 1) (insL (codersGo n s []).1) n (codersGo n s []).2 []).2
def Rs.folder (s : Rs) : Folder × Rs:=Rs.folderC s.number.1 (s.number.2.check (decide (s.number.1 < 1) || decide (8 < s.number.1)) 10)
def FolderR (w : World) (p cp : Nat) (q : Option Nat) (r : Folder × Rs) (d : DV) (e : Ending) (w' : World) : Prop :=
 (∃ cv bv' pv LP,e = .returned (.agg #[cv,bv',pv,.slice none 0 0,.bool false,.int .u32 0]) ∧ LP.map (·.1) = r.1.coders ∧ Sm w' w.heap.size 72 2 cv r.1.coders.length (coV LP) ∧ PropsM w' w.heap.size LP ∧
   Sm w' w.heap.size 109 2 bv' r.1.binds.length (biV r.1.binds) ∧ Sm w' w.heap.size 3 1 pv r.1.packs.length (iv r.1.packs)) ∧ RdAt w' p cp q r.2 d ∧ Fr [p,cp] w w'
end Go.Proofs.YtkodindajfdagaaGreatDoor
/- Contract: the reader's folder. No condition but that lengths fit. -/
namespace Go.Proofs.YtkodindajfdagaaGreatDoor
open Go.RowKit Go.Maps
theorem method_b (s : Rs) (l : List UInt8) : (s.method l).2.c.b = s.c.b:=by
 unfold Rs.method
 split
 · rfl
 · split <;> rfl
theorem check_b (s : Rs) (b : Bool) (e : Nat) : (s.check b e).c.b = s.c.b:=by unfold Rs.check;split <;> rfl
theorem two_b (s : Rs) (c : Bool) : (s.two c).2.c.b = s.c.b:=by
 unfold Rs.two
 split
 · rw [Rs.number_cb,Rs.number_cb,Rs.at_c]
 · rw [Rs.at_c]
theorem take_b (s : Rs) (n : Nat) : (s.take n).2.c.b = s.c.b:=Cur.take_b _ _
theorem propsOf_b (s : Rs) (c : Bool) : (s.propsOf c).2.c.b = s.c.b:=by
 unfold Rs.propsOf
 split
 · rw [take_b,things_b,Rs.at_c]
 · rw [Rs.at_c]
theorem coder_b (s : Rs) : s.coder.2.c.b = s.c.b:=by
 unfold Rs.coder Rs.coderA
 split
 · show (Rs.take _ _).2.c.b = _
   rw [take_b,check_b,byte_b]
 · unfold Rs.coderB
   dsimp only
   rw [propsOf_b,check_b,two_b,method_b]
   show (Rs.take _ _).2.c.b = _
   rw [take_b,check_b,byte_b]
theorem method_of (s : Rs) (l : List UInt8) : (s.method l).1 ≤ 7:=by
 unfold Rs.method
 split
 · show methodOf l ≤ 7
   unfold methodOf
   repeat' split
   all_goals omega
 · split <;> simp
theorem coder_method (s : Rs) : 0 ≤ s.coder.1.method ∧ s.coder.1.method ≤ 7:=by
 unfold Rs.coder Rs.coderA
 split
 · simp
 · unfold Rs.coderB
   dsimp only
   have:=method_of ((s.byte.2.check (decide (s.byte.1 / 64 ≠ 0)) 5).take (s.byte.1 % 16)).2.ok ((s.byte.2.check (decide (s.byte.1 / 64 ≠ 0)) 5).take (s.byte.1 % 16)).1
   omega
theorem insL_le (l : List Coder) : insL l ≤ 4 * l.length:=by
 induction l with
 | nil => simp [insL]
 | cons c t ih =>
   have:=ins_le c.method
   have e : insL (c :: t) = ins c.method + insL t:=by simp [insL]
   rw [e];simp;omega
theorem Rs.number_ok (w : World) (p cp : Nat) (q : Option Nat) (s : Rs) (d : DV) (h : RdAt w p cp q s d) (hb : s.c.b.length ≤ 10000000) :
   Calls Tryz.prog 126 #[.pointer (some ⟨cp,0,none⟩)] w fun e w' => e = .returned (.int .u64 (s.number.1 : Int)) ∧ RdAt w' p cp q s.number.2 d ∧ Fr [cp] w w':=by
 refine (number_any w cp q s.c h.cur (by omega)).mono ?_
 rintro e w' ⟨rfl,hC,F⟩
 exact ⟨rfl,h.cur' F hC,F⟩
theorem one_lt {p b : Nat} (h : p < b) : ∀ i ∈ [p],i < b + 2:=by simp;omega
theorem two_lt2 {p cp b : Nat} (h : p < b ∧ cp < b) : ∀ i ∈ [p,cp],i < b + 2:=by simp;omega
theorem coder_ok (w : World) (p cp : Nat) (q : Option Nat) (s : Rs) (d : DV) (h : RdAt w p cp q s d) (hb : s.c.b.length ≤ 10000000) :
   Calls Tryz.prog 132 #[.pointer (some ⟨p,0,none⟩)] w fun e w' => (∃ v,e = .returned (.agg #[.int .i64 s.coder.1.method,v]) ∧ Sm w' w.heap.size 5 1 v s.coder.1.props.length (bv s.coder.1.props)) ∧ RdAt w' p cp q s.coder.2 d ∧ Fr [p,cp] w w':=coder_any w p cp q s d h hb
theorem codersGo_bad {s : Rs} (h : s.ok.k ≠ 0) (m : Nat) (L : List Coder) : codersGo m s L = (L,s.ok):=by
 cases m with
 | zero => rfl
 | succ m => show (if s.ok.k ≠ 0 then _ else _) = _;rw [if_pos h]
theorem codersGo_ok {s : Rs} (h : s.ok.k = 0) (m : Nat) (L : List Coder) : codersGo (m + 1) s L = codersGo m s.coder.2 (L ++ [s.coder.1]):=by
 show (if s.ok.k ≠ 0 then _ else _) = _
 rw [if_neg (by simp [h]),Rs.ok_of_zero h]
theorem below_le (s : Rs) (m : Nat) : (s.below m).1 ≤ m:=by
 unfold Rs.below Rs.lim
 split
 · simp
 · split
   · simp
   · rename_i h2
     simp at h2
     omega
theorem bindsGo_bad {s : Rs} (h : s.ok.k ≠ 0) (m i n : Nat) (B : List (Int × Int)) : bindsGo m i n s B = (B,s.ok):=by
 cases m with
 | zero => rfl
 | succ m => show (if s.ok.k ≠ 0 then _ else _) = _;rw [if_pos h]
theorem bindsGo_ok {s : Rs} (h : s.ok.k = 0) (m i n : Nat) (B : List (Int × Int)) : bindsGo (m + 1) i n s B = bindsGo m i n ((s.below i).2.below n).2 (B ++ [(((s.below i).1 : Int),(((s.below i).2.below n).1 : Int))]):=by
 show (if s.ok.k ≠ 0 then _ else _) = _
 rw [if_neg (by simp [h]),Rs.ok_of_zero h]
theorem ISet.ne {w : World} {b n : Nat} {S : Int → Bool} (h : ISet w b n S) : ∀ cs e z,w.heap[b]? ≠ some (.cells cs e z):=by
 obtain ⟨D,⟨es,clock,h1,h2⟩,h3⟩:=h
 intro cs e z hc
 rw [h1] at hc
 cases hc
structure FolM (w : World) (p cp : Nat) (q : Option Nat) (d : DV) (LP : List (Coder × Value)) (cv bv' : Value) (B : List (Int × Int)) (mb m : Nat) (t : Rs) (wx : World) : Prop where
 mlo : w.heap.size + 2 ≤ mb
 iset : ISet wx mb m (fun x => decide (x ∈ B.map (·.1)))
 co : wx.ownsRow (w.heap.size + 2) 72 2 cv LP.length (coV LP)
 bi : wx.ownsRow (w.heap.size + 2) 109 2 bv' B.length (biV B)
 pm : PropsM wx (w.heap.size + 2) LP
 st : FoSt w p cp q t d cv bv' (.slice none 0 0) wx
theorem addI_snoc (B : List (Int × Int)) (x : Int × Int) : addI (fun y => decide (y ∈ B.map (·.1))) x.1 = fun y => decide (y ∈ (B ++ [x]).map (·.1)):=by
 funext y
 unfold addI
 rw [List.map_append,Bool.eq_iff_iff]
 simp only [Bool.or_eq_true,decide_eq_true_eq,List.mem_append,List.map_cons,List.map_nil,List.mem_singleton]
 exact Or.comm
theorem row_ne_map {w : World} {base e sz : Nat} {v : Value} {n : Nat} {xs : List Value} (h : w.ownsRow base e sz v n xs) {mb m : Nat} {S : Int → Bool} (hs : ISet w mb m S) : mb ∉ v.ownBlock.toList:=by
 intro hm
 have hk : v.ownBlock = some mb:=by simpa using hm
 rcases h.2 with ⟨rfl,-⟩ | ⟨g,cap,cur,rfl,hb,hg,-⟩
 · simp [Value.ownBlock] at hk
 · simp [Value.ownBlock] at hk
   subst hk
   exact hs.ne _ _ _ hg
theorem FolM.on2 {w : World} {p cp : Nat} {q : Option Nat} {d : DV} {LP : List (Coder × Value)} {cv bv' : Value} {B : List (Int × Int)} {mb m : Nat} {t t' : Rs} {wx wy : World} (h : FolM w p cp q d LP cv bv' B mb m t wx) (hl : p < w.heap.size ∧ cp < w.heap.size) (F : Fr [p,cp] wx wy) (R : RdAt wy p cp q t' d) : FolM w p cp q d LP cv bv' B mb m t' wy :=
 ⟨h.mlo,h.iset.frS F (by have:=h.mlo;simp;omega),own_frB h.co F (two_lt2 hl),own_frB h.bi F (two_lt2 hl),h.pm.frT F (fun i hi => .inl (two_lt2 hl i hi)),h.st.on2 hl.1 hl.2 F R⟩
theorem FolM.fr0 {w : World} {p cp : Nat} {q : Option Nat} {d : DV} {LP : List (Coder × Value)} {cv bv' : Value} {B : List (Int × Int)} {mb m : Nat} {t : Rs} {wx wy : World} (h : FolM w p cp q d LP cv bv' B mb m t wx) (hl : p < w.heap.size ∧ cp < w.heap.size) (F : Fr [] wx wy) : FolM w p cp q d LP cv bv' B mb m t wy :=
 ⟨h.mlo,h.iset.fr F,own_frB h.co F (by simp),own_frB h.bi F (by simp),h.pm.frT F (by simp),h.st.fr0 hl.1 hl.2 F⟩
theorem sty_int : SlTy Tryz.prog 66 3 (.int .i64 0) 8:=⟨Tryz.underlying66,by obtain ⟨i,h⟩:=info_parts info_in;exact ⟨i,h⟩,rfl⟩
structure FolE (w : World) (p cp : Nat) (q : Option Nat) (d : DV) (LP : List (Coder × Value)) (cv bv' pv : Value) (B : List (Int × Int)) (P : List Int) (t : Rs) (wx : World) : Prop where
 co : wx.ownsRow (w.heap.size + 2) 72 2 cv LP.length (coV LP)
 bi : wx.ownsRow (w.heap.size + 2) 109 2 bv' B.length (biV B)
 pa : wx.ownsRow (w.heap.size + 2) 3 1 pv P.length (iv P)
 pm : PropsM wx (w.heap.size + 2) LP
 st : FoSt w p cp q t d cv bv' pv wx
theorem FolM.toE {w : World} {p cp : Nat} {q : Option Nat} {d : DV} {LP : List (Coder × Value)} {cv bv' : Value} {B : List (Int × Int)} {mb m : Nat} {t : Rs} {wx : World} (h : FolM w p cp q d LP cv bv' B mb m t wx) : FolE w p cp q d LP cv bv' (.slice none 0 0) B [] t wx :=
 ⟨h.co,h.bi,World.ownsRow_nil _ _ _ _,h.pm,h.st⟩
theorem FolE.on2 {w : World} {p cp : Nat} {q : Option Nat} {d : DV} {LP : List (Coder × Value)} {cv bv' pv : Value} {B : List (Int × Int)} {P : List Int} {t t' : Rs} {wx wy : World} (h : FolE w p cp q d LP cv bv' pv B P t wx) (hl : p < w.heap.size ∧ cp < w.heap.size) (F : Fr [p,cp] wx wy) (R : RdAt wy p cp q t' d) : FolE w p cp q d LP cv bv' pv B P t' wy :=
 ⟨own_frB h.co F (two_lt2 hl),own_frB h.bi F (two_lt2 hl),own_frB h.pa F (two_lt2 hl),h.pm.frT F (fun i hi => .inl (two_lt2 hl i hi)),h.st.on2 hl.1 hl.2 F R⟩
theorem FolE.snoc {w : World} {p cp : Nat} {q : Option Nat} {d : DV} {LP : List (Coder × Value)} {cv bv' pv pv2 : Value} {B : List (Int × Int)} {P : List Int} {t : Rs} {wx w7 : World} {x : Int} {o : Obj} (h : FolE w p cp q d LP cv bv' pv B P t wx) (hl : p < w.heap.size ∧ cp < w.heap.size) (hq : ∀ k,q = some k → k < w.heap.size)
   (g7 : (wx.alloc o).grownBy w7 pv.ownBlock) (own7 : w7.ownsRow (w.heap.size + 2) 3 1 pv2 (P.length + 1) (iv P ++ [.int .i64 x])) :
   FoSt w p cp q t d cv bv' pv w7 ∧ FolE w p cp q d LP cv bv' pv2 B (P ++ [x]) t (w7.setCell ⟨w.heap.size + 1,2,none⟩ pv2):=by
 have FA : Fr [] wx (wx.alloc o):=(Fr.refl _ _).alloc _
 have own6:=own_frB h.pa FA (by simp)
 obtain ⟨C7,F7,hb7⟩:=(h.st.fr0 hl.1 hl.2 FA).grown hl.1 hl.2 hq g7 own6
 have F8 : Fr [w.heap.size + 1] w7 (w7.setCell ⟨w.heap.size + 1,2,none⟩ pv2):=(Fr.refl _ _).setCell (by simp) _
 have h8lo : ∀ i ∈ [w.heap.size + 1],i < w.heap.size + 2:=by simp
 refine ⟨C7,own_frB (own_frT (own_frB h.co FA (by simp)) F7 (fun i hi => .inr (own_type own6 i (by simpa using hi) _ (by decide)))) F8 h8lo,
   own_frB (own_frT (own_frB h.bi FA (by simp)) F7 (fun i hi => .inr (own_type own6 i (by simpa using hi) _ (by decide)))) F8 h8lo,
   by rw [List.length_append,show iv (P ++ [x]) = iv P ++ [.int .i64 x] by simp [iv]];exact own_frB own7 F8 h8lo,
   ((h.pm.frT FA (by simp)).frT F7 (fun i hi => .inr (own_type own6 i (by simpa using hi) _ (by decide)))).frT F8 (fun i hi => .inl (h8lo i hi)),C7.put2 hl.1 hl.2 hq pv2⟩
theorem freeAt_eq {B : List (Int × Int)} {i I : Nat} (hi : i ≤ I) (hall : ∀ j,j < i → (j : Int) ∈ B.map (·.1)) (hend : i = I ∨ (i : Int) ∉ B.map (·.1)) : freeAt B I = i:=by
 unfold freeAt
 by_cases e : i < I
 · have hn : (i : Int) ∉ B.map (·.1):=by rcases hend with h | h;omega;exact h
   rw [show (List.range I).find? _ = some i from by
     rw [List.find?_range_eq_some]
     exact ⟨by simpa using hn,by simpa using e,fun j hj => by simpa using hall j hj⟩]
   rfl
 · have e2 : i = I:=by omega
   subst e2
   rw [show (List.range i).find? _ = none from by
     rw [List.find?_eq_none]
     intro j hj
     rw [List.mem_range] at hj
     simpa using hall j hj]
   rfl
def FolA (w : World) (p cp : Nat) (q : Option Nat) (n : Nat) (s2 : Rs) (d : DV) (v5 : Value) (wx : World) : Prop :=
 ∃ (LP : List (Coder × Value)) (cv : Value) (t : Rs),v5 = .int .i64 (insL (LP.map (·.1)) : Int) ∧ codersGo n s2 [] = (LP.map (·.1),t) ∧ t.ok = t ∧ (t.k = 0 → n ≤ 8) ∧ LP.length ≤ 8 ∧ t.c.b.length ≤ 10000000 ∧
   wx.ownsRow (w.heap.size + 2) 72 2 cv LP.length (coV LP) ∧ PropsM wx (w.heap.size + 2) LP ∧ FoSt w p cp q t d cv (.slice none 0 0) (.slice none 0 0) wx
set_option maxRecDepth 100000 in
set_option maxHeartbeats 4000000 in
theorem folder_any (w : World) (p cp : Nat) (q : Option Nat) (s : Rs) (d : DV) (h : RdAt w p cp q s d) (hb : s.c.b.length ≤ 10000000) :
   Calls Tryz.prog 107 #[.pointer (some ⟨p,0,none⟩)] w (FolderR w p cp q s.folder d):=by
 have HLT:=Lib.hid (And.intro h.lt h.cur.lt)
 have HLQ:=Lib.hid h.ql
 have HNU:=Lib.hid (fun w (h : RdAt w p cp q s d) => Rs.number_ok w p cp q s d h hb)
 have HB1:=Lib.hid (show s.number.2.c.b.length ≤ 10000000 by rw [Rs.number_cb];exact hb)
 have HS:=Lib.hid (show s.folder = Rs.folderC s.number.1 (s.number.2.check (decide (s.number.1 < 1) || decide (8 < s.number.1)) 10) from rfl)
 obtain ⟨wB,hwB⟩ : ∃ wB,wB = (w.alloc (.cells #[.slice none 0 0,.slice none 0 0,.slice none 0 0,.slice none 0 0,.bool false,.int .u32 0] 70)).alloc (.cells #[.slice none 0 0,.slice none 0 0,.slice none 0 0,.slice none 0 0,.bool false,.int .u32 0] 70):=⟨_,rfl⟩
 have F0 : Fr [] w wB:=hwB ▸ ((Fr.refl _ _).alloc _).alloc _
 have C0 : FoSt w p cp q s d (.slice none 0 0) (.slice none 0 0) (.slice none 0 0) wB:=by
   refine ⟨h.fr0 F0,?_,?_,F0.mono (by simp)⟩
   · rw [hwB,Below.heap_alloc _ _ _ (by simp)]
     exact heap_alloc_new w _
   · rw [hwB]
     have:=heap_alloc_new (w.alloc (.cells #[.slice none 0 0,.slice none 0 0,.slice none 0 0,.slice none 0 0,.bool false,.int .u32 0] 70)) (.cells #[.slice none 0 0,.slice none 0 0,.slice none 0 0,.slice none 0 0,.bool false,.int .u32 0] 70)
     simpa using this
 clear h hb
 generalize s.number.2 = t at *
 generalize s.number.1 = n at *
 go_enter Tryz.func107,Tryz.ntmps107
 go_upto_region 2 with fail
 rename_i K0 hK0
 rw [← hwB]
 clear hwB
 go_cut [4] (fun v wx => v = .int .u64 (n : Int) ∧ FoSt w p cp q t d (.slice none 0 0) (.slice none 0 0) (.slice none 0 0) wx)
 case first =>
   clear hK0
   obtain ⟨c0,-⟩:=cells9 C0.rd.blk
   go_wp2_with (go_at_call 126;refine (HNU.out _ C0.rd).mono ?_;rintro e w1 ⟨rfl,R1,F1⟩)
   go_meet
   case rel => exact ⟨rfl,C0.on2 HLT.out.1 HLT.out.2 F1.two2 R1⟩
 case rest =>
 obtain ⟨rfl,C1⟩:=hcut
 clear C0
 (refine hK0 _ _ ?_;clear hK0;refine wp_seq_k fun K1 hK1 => ?_)
 go_cut [4] (fun v wx => v = .int .u64 (n : Int) ∧ FoSt w p cp q (t.check (decide (n < 1) || decide (8 < n)) 10) d (.slice none 0 0) (.slice none 0 0) (.slice none 0 0) wx)
 case first =>
   clear hK1
   by_cases hk : t.ok.k = 0
   · have HK:=Lib.hid (show (t.ok.k == 0) = true by rw [hk];rfl)
     have HO:=Lib.hid (Rs.ok_of_zero hk)
     by_cases h1 : n < 1
     · have a1 : (n : Int) < 1:=by omega
       have HE:=Lib.hid (show t.check (decide (n < 1) || decide (8 < n)) 10 = t.fail 10 by unfold Rs.check;rw [if_pos ⟨hk,by simp;omega⟩,Rs.ok_of_zero hk])
       clear hk h1
       go_wp2_with (first
         | (have hq:=R2;go_at_call 38;refine (rfail_any _ p cp q t d 10 R2).mono ?_;rintro e w3 ⟨rfl,R3,F3⟩)
         | (go_at_call 37;refine (ok_any _ p cp q t d C1.rd).mono ?_;rw [HK.out,HO.out];rintro e w2 ⟨rfl,R2,F2⟩))
       go_meet
       case rel => rw [HE.out];exact ⟨rfl,C1.on2 HLT.out.1 HLT.out.2 (F2.two1.tr2 F3.two1) R3⟩
     · have a1 : (1 : Int) ≤ (n : Int):=by omega
       by_cases h8 : 8 < n
       · have a2 : (8 : Int) < (n : Int):=by omega
         have HE:=Lib.hid (show t.check (decide (n < 1) || decide (8 < n)) 10 = t.fail 10 by unfold Rs.check;rw [if_pos ⟨hk,by simp;omega⟩,Rs.ok_of_zero hk])
         clear hk h1 h8
         go_wp2_with (first
           | (have hq:=R2;go_at_call 38;refine (rfail_any _ p cp q t d 10 R2).mono ?_;rintro e w3 ⟨rfl,R3,F3⟩)
           | (go_at_call 37;refine (ok_any _ p cp q t d C1.rd).mono ?_;rw [HK.out,HO.out];rintro e w2 ⟨rfl,R2,F2⟩))
         go_meet
         case rel => rw [HE.out];exact ⟨rfl,C1.on2 HLT.out.1 HLT.out.2 (F2.two1.tr2 F3.two1) R3⟩
       · have a2 : (n : Int) ≤ 8:=by omega
         have HE:=Lib.hid (show t.check (decide (n < 1) || decide (8 < n)) 10 = t by unfold Rs.check;rw [if_neg (by simp;omega),Rs.ok_of_zero hk])
         clear hk h1 h8
         go_wp2_with (go_at_call 37;refine (ok_any _ p cp q t d C1.rd).mono ?_;rw [HK.out,HO.out];rintro e w2 ⟨rfl,R2,F2⟩)
         go_meet
         case rel => rw [HE.out];exact ⟨rfl,C1.on2 HLT.out.1 HLT.out.2 F2.two1 R2⟩
   · have HK:=Lib.hid (show (t.ok.k == 0) = false by rw [beq_eq_false_iff_ne];exact hk)
     have HE:=Lib.hid (show t.check (decide (n < 1) || decide (8 < n)) 10 = t.ok by unfold Rs.check;rw [if_neg (fun h => hk h.1)])
     clear hk
     go_wp2_with (go_at_call 37;refine (ok_any _ p cp q t d C1.rd).mono ?_;rw [HK.out];rintro e w2 ⟨rfl,R2,F2⟩)
     go_meet
     case rel => rw [HE.out];exact ⟨rfl,C1.on2 HLT.out.1 HLT.out.2 F2.two1 R2⟩
 case rest =>
 clear C1
 obtain ⟨rfl,C2⟩:=hcut
 have HB2:=Lib.hid (show (t.check (decide (n < 1) || decide (8 < n)) 10).c.b.length ≤ 10000000 by rw [check_b];exact HB1.out)
 have HN8:=Lib.hid (show (t.check (decide (n < 1) || decide (8 < n)) 10).ok.k = 0 → n ≤ 8 by
   intro h0
   unfold Rs.check at h0
   split at h0
   · rename_i hc
     rw [Rs.fail_ok (by decide),Rs.fail_k hc.1] at h0
     cases h0
   · rename_i hc
     rw [Rs.ok_ok] at h0
     have h2:=fun hh => hc ⟨h0,hh⟩
     simp at h2
     omega)
 generalize t.check (decide (n < 1) || decide (8 < n)) 10 = s2 at *
 (refine hK1 _ _ ?_;clear hK1;refine wp_seq_k fun K2 hK2 => ?_)
 go_cut [5] (fun v wx => v = .int .i64 0 ∧ FoSt w p cp q s2 d (.slice none 0 0) (.slice none 0 0) (.slice none 0 0) wx)
 case first =>
   clear hK2
   go_wp2_with fail
   go_meet
   case rel => exact ⟨rfl,C2⟩
 case rest =>
 clear C2
 obtain ⟨rfl,C2⟩:=hcut
 (refine hK2 _ _ ?_;clear hK2;refine wp_seq_k fun K3 hK3 => ?_)
 go_cut [5,6,7] (fun v5 _ _ wx => FolA w p cp q n s2 d v5 wx)
 case first =>
   clear hK3
   go_wp2_with fail
   go_loopw [5,6] (fun v5 i wr => ∃ (k : Nat) (LP : List (Coder × Value)) (cv : Value) (u : Rs),k ≤ n ∧ i = .int .i64 (k : Int) ∧ v5 = .int .i64 (insL (LP.map (·.1)) : Int) ∧ LP.length = k ∧ codersGo n s2 [] = codersGo (n - k) u (LP.map (·.1)) ∧ u.c.b.length ≤ 10000000 ∧ (u.ok.k = 0 → n ≤ 8) ∧ LP.length ≤ 8 ∧
     wr.ownsRow (w.heap.size + 2) 72 2 cv k (coV LP) ∧ PropsM wr (w.heap.size + 2) LP ∧ FoSt w p cp q u d cv (.slice none 0 0) (.slice none 0 0) wr) (fun _ i _ => n - (intOf i).toNat)
   case atStart => exact ⟨0,[],.slice none 0 0,s2,Nat.zero_le _,rfl,by simp [insL],rfl,by simp,HB2.out,HN8.out,by simp,World.ownsRow_nil _ _ _ _,PropsM.nil _ _,C2⟩
   case round =>
     obtain ⟨k,LP,cv,u,hk,rfl,rfl,hLk,hgo,hub,h8,hL8,own,hPM,CU⟩:=hrel
     obtain ⟨oao,ocap,rfl,-⟩:=own_outS own
     have HOwn:=Lib.hid own
     have HGo:=Lib.hid hgo
     have HLk:=Lib.hid hLk
     have HUB:=Lib.hid hub
     have HPM:=Lib.hid hPM
     have HL8:=Lib.hid hL8
     clear own hgo hLk hub hPM hL8
     by_cases hz : u.ok.k = 0
     · have HK:=Lib.hid (show (u.ok.k == 0) = true by rw [hz];rfl)
       have HO:=Lib.hid (Rs.ok_of_zero hz)
       have hn8 : (n : Int) ≤ 8:=by have:=h8 hz;omega
       have HN:=Lib.hid (h8 hz)
       by_cases hlt : k < n
       · have hltI : (k : Int) < (n : Int):=by omega
         have HG2:=Lib.hid (show codersGo n s2 [] = codersGo (n - (k + 1)) u.coder.2 (LP.map (·.1) ++ [u.coder.1]) by
           rw [HGo.out,show n - k = (n - (k + 1)) + 1 by omega,codersGo_ok hz])
         have HCO:=Lib.hid (fun wy (R : RdAt wy p cp q u d) => coder_ok wy p cp q u d R HUB.out)
         have HUB2:=Lib.hid (show u.coder.2.c.b.length ≤ 10000000 by rw [coder_b];exact HUB.out)
         have hMe:=coder_method u
         clear hz h8
         generalize u.coder.2 = u2 at *
         generalize u.coder.1 = c at *
         have hi1 : (insL (LP.map (·.1)) : Int) ≤ 32:=by have h1:=insL_le (LP.map (·.1));rw [List.length_map] at h1;have:=HL8.out;omega
         have hi2 : (ins c.method : Int) ≤ 4:=by have:=ins_le c.method;omega
         have HIS:=Lib.hid (show insL ((LP ++ [(c,Value.slice none 0 0)]).map (·.1)) = insL (LP.map (·.1)) + ins c.method by simp [insL])
         go_wp2_with (first
           | (at_builtin;refine wpList_append_struct sty_co rfl _ _ (by rfl) (w.heap.size + 2) _ _ _ (by rfl) own5 w4.heap.size [.int .i64 c.method,.slice vao c.props.length vcap] (by rfl) hgS rfl rfl (by have:=HN.out;omega) (by decide) sz5 ?_;intro v2 w6 own6 g6;obtain ⟨vao2,vcap2,rfl,-⟩:=own_outS own6;obtain ⟨C6,F6,hb6⟩:=(C5.fr0 HLT.out.1 HLT.out.2 ((Fr.refl _ _).alloc _)).grown HLT.out.1 HLT.out.2 HLQ.out g6 own5;obtain ⟨k0,k1,k2,k3,k4,k5,kz⟩:=cells6 C6.b1;have C7:=C6.put0 HLT.out.1 HLT.out.2 HLQ.out (.slice vao2 (k + 1) vcap2))
           | (have hq:=C4;go_at_call 112;refine (ins_any _ c.method _).mono ?_;rintro e w4 ⟨rfl,F4⟩;have FA:=((Fr.refl [] w3).alloc (.cells #[.int .i64 c.method,.slice vao c.props.length vcap] 72)).trans0 F4;have hgc : w4.heap[w3.heap.size]? = some (.cells #[.int .i64 c.method,.slice vao c.props.length vcap] 72 (0,0)):=(F4.block _ (by simp) (by simp)).trans (heap_alloc_new w3 _);have C5:=C4.fr0 HLT.out.1 HLT.out.2 FA;obtain ⟨m0,m1,-⟩:=cells2 hgc;obtain ⟨j0,j1,j2,j3,j4,j5,jz⟩:=cells6 C5.b1;have F24 : Fr [p,cp] wr w4:=(F2.two1.tr2 F3).trans0 FA;have own5:=own_frB HOwn.out (F24.alloc (.cells #[.int .i64 c.method,.slice vao c.props.length vcap] 72)) (two_lt2 HLT.out);have hgS:=heap_alloc_new w4 (.cells #[.int .i64 c.method,.slice vao c.props.length vcap] 72);have sz5 : w.heap.size + 2 ≤ (w4.alloc (.cells #[.int .i64 c.method,.slice vao c.props.length vcap] 72)).heap.size:=(by rw [World.size_alloc];have:=C5.lt;omega))
           | (have hq:=C3;go_at_call 132;refine (HCO.out _ C3.rd).mono ?_;rintro e w3 ⟨⟨v,rfl,hv⟩,R3,F3⟩;obtain ⟨vao,vcap,rfl,-⟩:=hv.out;have C4:=C3.on2 HLT.out.1 HLT.out.2 F3 R3)
           | (go_at_call 37;refine (ok_any _ p cp q u d CU.rd).mono ?_;rw [HK.out,HO.out];rintro e w2 ⟨rfl,R2,F2⟩;have C3:=CU.on2 HLT.out.1 HLT.out.2 F2.two1 R2))
         have F7 : Fr [w.heap.size + 1] w6 (w6.setCell ⟨w.heap.size + 1,0,none⟩ (.slice vao2 (k + 1) vcap2)):=(Fr.refl _ _).setCell (by simp) _
         have hlo : w.heap.size + 2 ≤ w2.heap.size:=C3.lt
         have PM5:=((HPM.out.frT F24 (fun i hi => .inl (two_lt2 HLT.out i hi))).snoc ((hv.mono hlo).fr0 FA)).frT ((Fr.refl [] w4).alloc (.cells #[.int .i64 c.method,.slice vao c.props.length vcap] 72)) (by simp)
         have PM6:=PM5.frT F6 (fun i hi => .inr (own_type own5 i (by simpa using hi) _ (by decide)))
         have PM7:=PM6.frT F7 (fun i hi => .inl (by rw [List.mem_singleton.1 hi];omega))
         have own7:=own_frB own6 F7 (fun i hi => by rw [List.mem_singleton.1 hi];omega)
         go_roundw
         case rel => exact ⟨k + 1,LP ++ [(c,.slice vao c.props.length vcap)],.slice vao2 (k + 1) vcap2,u2,by omega,by go_num,by rw [List.map_append];simp [insL],by rw [List.length_append,HLk.out];rfl,by rw [HG2.out,List.map_append];rfl,HUB2.out,fun _ => HN.out,by rw [List.length_append,HLk.out];simp;have:=HN.out;omega,by rw [coV_append];exact own7,PM7,C7⟩
         case measure => simp [intOf];omega
       · have hke : k = n:=by omega
         have HE:=Lib.hid (show codersGo n s2 [] = (LP.map (·.1),u) by rw [HGo.out,hke,Nat.sub_self];show (_,u.ok) = _;rw [HO.out])
         have hltI : (n : Int) ≤ (k : Int):=by omega
         clear hz h8
         go_wp2_with (go_at_call 37;refine (ok_any _ p cp q u d CU.rd).mono ?_;rw [HK.out,HO.out];rintro e w2 ⟨rfl,R2,F2⟩)
         go_meet
         case rel => exact ⟨LP,_,u,rfl,HE.out,HO.out,fun _ => HN.out,HL8.out,HUB.out,by rw [HLk.out];exact own_frB HOwn.out F2 (one_lt HLT.out.1),HPM.out.frT F2 (fun i hi => .inl (one_lt HLT.out.1 i hi)),CU.on2 HLT.out.1 HLT.out.2 F2.two1 R2⟩
     · have HK:=Lib.hid (show (u.ok.k == 0) = false by rw [beq_eq_false_iff_ne];exact hz)
       have HE:=Lib.hid (show codersGo n s2 [] = (LP.map (·.1),u.ok) by rw [HGo.out,codersGo_bad hz])
       have HZ:=Lib.hid hz
       clear hz h8
       go_wp2_with (go_at_call 37;refine (ok_any _ p cp q u d CU.rd).mono ?_;rw [HK.out];rintro e w2 ⟨rfl,R2,F2⟩)
       go_meet
       case rel => exact ⟨LP,_,u.ok,rfl,HE.out,Rs.ok_ok u,fun h => absurd h HZ.out,HL8.out,HUB.out,by rw [HLk.out];exact own_frB HOwn.out F2 (one_lt HLT.out.1),HPM.out.frT F2 (fun i hi => .inl (one_lt HLT.out.1 i hi)),CU.on2 HLT.out.1 HLT.out.2 F2.two1 R2⟩
 case rest =>
 clear C2
 obtain ⟨LP,cv,t1,rfl,hgo1,hto1,h81,hL81,htb1,own1,hPM1,C3⟩:=hcut
 have HGo1:=Lib.hid hgo1
 have HTO1:=Lib.hid hto1
 have H81:=Lib.hid h81
 have HL81:=Lib.hid hL81
 have HTB1:=Lib.hid htb1
 obtain ⟨I,hI⟩ : ∃ I,insL (LP.map (·.1)) = I:=⟨_,rfl⟩
 have HI:=Lib.hid hI
 have hI32 : I ≤ 32:=by have h1:=insL_le (LP.map (·.1));rw [List.length_map] at h1;omega
 rw [hI]
 clear hI hgo1 hto1 h81 hL81 htb1
 (refine hK3 _ _ ?_;clear hK3;refine wp_seq_k fun K4 hK4 => ?_)
 have hmm:=@run_makeMap Tryz.prog
 go_cut [8] (fun v8 wx => ∃ mb,v8 = .map (some mb) ∧ FolM w p cp q d LP cv (.slice none 0 0) [] mb 0 t1 wx)
 case first =>
   clear hK4
   go_wp2_with fail
   go_meet
   case rel =>
     have FA : Fr [] wc (wc.alloc (.map #[] 0)):=(Fr.refl _ _).alloc _
     refine ⟨wc.heap.size,rfl,C3.lt,?_,own_frB own1 FA (by simp),World.ownsRow_nil _ _ _ _,hPM1.frT FA (by simp),C3.fr0 HLT.out.1 HLT.out.2 FA⟩
     simpa using ISet.made wc
 case rest =>
 clear hmm own1 hPM1 C3
 obtain ⟨mb,rfl,M1⟩:=hcut
 (refine hK4 _ _ ?_;clear hK4;refine wp_seq_k fun K5 hK5 => ?_)
 go_cut [9,10] (fun _ _ wx => ∃ B bv' m t2,bindsGo (n - 1) I n t1 [] = (B,t2) ∧ t2.ok = t2 ∧ B.length ≤ 8 ∧ m ≤ 8 ∧ t2.c.b.length ≤ 10000000 ∧ FolM w p cp q d LP cv bv' B mb m t2 wx)
 case first =>
   clear hK5
   go_wp2_with fail
   go_loopw [9] (fun i wr => ∃ (k : Nat) (B : List (Int × Int)) (bv' : Value) (u : Rs),k ≤ n - 1 ∧ i = .int .i64 ((k + 1 : Nat) : Int) ∧ B.length = k ∧ bindsGo (n - 1) I n t1 [] = bindsGo (n - 1 - k) I n u B ∧ u.c.b.length ≤ 10000000 ∧ (u.ok.k = 0 → n ≤ 8) ∧ B.length ≤ 8 ∧ FolM w p cp q d LP cv bv' B mb k u wr) (fun i _ => n - (intOf i).toNat)
   case atStart => exact ⟨0,[],_,t1,Nat.zero_le _,rfl,rfl,by simp,HTB1.out,by rw [HTO1.out];exact H81.out,by simp,M1⟩
   case round =>
     obtain ⟨k,B,bv',u,hk,rfl,hBk,hgo,hub,h8,hB8,MU⟩:=hrel
     obtain ⟨oao,ocap,rfl,-⟩:=own_outS MU.bi
     have HGo:=Lib.hid hgo
     have HBk:=Lib.hid hBk
     have HUB:=Lib.hid hub
     have HB8:=Lib.hid hB8
     have HMU:=Lib.hid MU
     clear hgo hub hB8 MU hBk
     by_cases hz : u.ok.k = 0
     · have HK:=Lib.hid (show (u.ok.k == 0) = true by rw [hz];rfl)
       have HO:=Lib.hid (Rs.ok_of_zero hz)
       have hn8 : (n : Int) ≤ 8:=by have:=h8 hz;omega
       have HN:=Lib.hid (h8 hz)
       by_cases hlt : k + 1 < n
       · have hltI : ((k + 1 : Nat) : Int) < (n : Int):=by omega
         have HG2:=Lib.hid (show bindsGo (n - 1) I n t1 [] = bindsGo (n - 1 - (k + 1)) I n ((u.below I).2.below n).2 (B ++ [(((u.below I).1 : Int),(((u.below I).2.below n).1 : Int))]) by
           rw [HGo.out,show n - 1 - k = (n - 1 - (k + 1)) + 1 by omega,bindsGo_ok hz])
         have HW1:=Lib.hid (fun wy (R : RdAt wy p cp q u d) => below_ok wy p cp q u d I (by omega) R HUB.out)
         have HUB1:=Lib.hid (show (u.below I).2.c.b.length ≤ 10000000 by rw [below_b];exact HUB.out)
         have HW2:=Lib.hid (fun wy (R : RdAt wy p cp q (u.below I).2 d) => below_ok wy p cp q (u.below I).2 d n (by have:=HN.out;omega) R HUB1.out)
         have HUB2:=Lib.hid (show ((u.below I).2.below n).2.c.b.length ≤ 10000000 by rw [below_b];exact HUB1.out)
         have ha:=below_le u I
         clear hz h8
         generalize ((u.below I).2.below n).2 = u2 at *
         generalize ((u.below I).2.below n).1 = b at *
         generalize (u.below I).2 = u1 at *
         generalize (u.below I).1 = a at *
         have haI : (a : Int) ≤ 32:=by omega
         have hwf : (Lit.int .i64 (a : Int)).wf = true:=WalkArith.wf_i64 (by omega)
         go_wp2_with (first
           | (at_builtin;refine wpList_append_struct sty_bi rfl _ _ (by rfl) (w.heap.size + 2) _ _ _ (by rfl) own6 w5.heap.size [.int .i64 (a : Int),.int .i64 (b : Int)] (by rfl) hgS rfl rfl (by have:=HN.out;have:=HBk.out;omega) (by decide) sz6 ?_;intro v2 w7 own7 g7;obtain ⟨vao2,vcap2,rfl,-⟩:=own_outS own7;obtain ⟨C7,F7,hb7⟩:=(C5.fr0 HLT.out.1 HLT.out.2 ((Fr.refl _ _).alloc _)).grown HLT.out.1 HLT.out.2 HLQ.out g7 own6;obtain ⟨k0,k1,k2,k3,k4,k5,kz⟩:=cells6 C7.b1;have C8:=C7.put1 HLT.out.1 HLT.out.2 HLQ.out (.slice vao2 (B.length + 1) vcap2))
           | (at_mapUpdate;refine wpList_iset rfl _ _ _ rfl rfl M4a.iset (by rfl) (by rfl) hwf (by have:=HN.out;omega) ?_;intro w5 IS5 g5;have F5 : Fr [mb] (w4.alloc (.cells #[.int .i64 (a : Int),.int .i64 (b : Int)] 109)) w5:=(Fr.refl _ _).grown g5 (fun i hi => .inl (by cases hi;simp));have hgb5 : w5.heap[w4.heap.size]? = some (.cells #[.int .i64 (a : Int),.int .i64 (b : Int)] 109 (0,0)):=(F5.block _ (by simp) (by have:=M4.iset.lt;simp;omega)).trans (heap_alloc_new w4 _);obtain ⟨b0,b1,-⟩:=cells2 hgb5;have C5:=M4a.st.on HLT.out.1 HLT.out.2 F5 (fun i hi => .inr (.inr (by rw [List.mem_singleton.1 hi];exact M4a.mlo))) (M4a.st.rd.fr F5 (by have:=M4a.mlo;have:=HLT.out;simp;omega) (by have:=M4a.mlo;have:=HLT.out;simp;omega) (fun j hj hm => by have:=M4a.mlo;have:=HLQ.out j hj;have:=List.mem_singleton.1 hm;omega));obtain ⟨j0,j1,j2,j3,j4,j5,jz⟩:=cells6 C5.b1;have hnm:=(fun i (hi : i ∈ [mb]) => (show i < w.heap.size + 2 ∨ ∀ cs z,(w4.alloc (.cells #[.int .i64 (a : Int),.int .i64 (b : Int)] 109)).heap[i]? ≠ some (.cells cs 109 z) from .inr (by rw [List.mem_singleton.1 hi];exact fun cs z => M4a.iset.ne cs _ z)));have own6:=own_frB (own_frT M4a.bi F5 hnm) ((Fr.refl [] w5).alloc (.cells #[.int .i64 (a : Int),.int .i64 (b : Int)] 109)) (by simp);have hgS:=heap_alloc_new w5 (.cells #[.int .i64 (a : Int),.int .i64 (b : Int)] 109);have sz6 : w.heap.size + 2 ≤ (w5.alloc (.cells #[.int .i64 (a : Int),.int .i64 (b : Int)] 109)).heap.size:=(by rw [World.size_alloc];have:=C5.lt;omega))
           | (have hq:=M3;go_at_call 133;refine (HW2.out _ M3.st.rd).mono ?_;rintro e w4 ⟨rfl,R4,F4⟩;have M4:=M3.on2 HLT.out F4 R4;have M4a:=M4.fr0 HLT.out ((Fr.refl [] w4).alloc (.cells #[.int .i64 (a : Int),.int .i64 (b : Int)] 109)))
           | (have hq:=M2;go_at_call 133;refine (HW1.out _ M2.st.rd).mono ?_;rintro e w3 ⟨rfl,R3,F3⟩;have M3:=M2.on2 HLT.out F3 R3)
           | (go_at_call 37;refine (ok_any _ p cp q u d HMU.out.st.rd).mono ?_;rw [HK.out,HO.out];rintro e w2 ⟨rfl,R2,F2⟩;have M2:=HMU.out.on2 HLT.out F2.two1 R2))
         have F8 : Fr [w.heap.size + 1] w7 (w7.setCell ⟨w.heap.size + 1,1,none⟩ (.slice vao2 (B.length + 1) vcap2)):=(Fr.refl _ _).setCell (by simp) _
         have h8lo : ∀ i ∈ [w.heap.size + 1],i < w.heap.size + 2:=by simp
         have hnmC : ∀ i ∈ [mb],i < w.heap.size + 2 ∨ ∀ cs z,(w4.alloc (.cells #[.int .i64 (a : Int),.int .i64 (b : Int)] 109)).heap[i]? ≠ some (.cells cs 72 z):=fun i hi => .inr (by rw [List.mem_singleton.1 hi];exact fun cs z => M4a.iset.ne cs _ z)
         have hnmP : ∀ i ∈ [mb],i < w.heap.size + 2 ∨ ∀ cs z,(w4.alloc (.cells #[.int .i64 (a : Int),.int .i64 (b : Int)] 109)).heap[i]? ≠ some (.cells cs 5 z):=fun i hi => .inr (by rw [List.mem_singleton.1 hi];exact fun cs z => M4a.iset.ne cs _ z)
         have FA : Fr [] w5 (w5.alloc (.cells #[.int .i64 (a : Int),.int .i64 (b : Int)] 109)):=(Fr.refl _ _).alloc _
         have hmb:=M4a.mlo
         rw [show addI (fun x => decide (x ∈ B.map (·.1))) (a : Int) = _ from addI_snoc B ((a : Int),(b : Int))] at IS5
         have IS6:=IS5.fr FA
         have MF : FolM w p cp q d LP cv (.slice vao2 (B.length + 1) vcap2) (B ++ [((a : Int),(b : Int))]) mb (k + 1) u2 (w7.setCell ⟨w.heap.size + 1,1,none⟩ (.slice vao2 (B.length + 1) vcap2)) :=
           ⟨hmb,(IS6.frS F7 (row_ne_map own6 IS6)).frS F8 (by simp;omega),
             own_frB (own_frT (own_frB (own_frT M4a.co F5 hnmC) FA (by simp)) F7 (fun i hi => .inr (own_type own6 i (by simpa using hi) _ (by decide)))) F8 h8lo,
             by rw [List.length_append,biV_append];exact own_frB own7 F8 h8lo,
             ((M4a.pm.frT F5 hnmP).frT FA (by simp)).frT F7 (fun i hi => .inr (own_type own6 i (by simpa using hi) _ (by decide))) |>.frT F8 (fun i hi => .inl (h8lo i hi)),C8⟩
         go_roundw
         case rel => exact ⟨k + 1,B ++ [((a : Int),(b : Int))],_,u2,by have:=hltI;omega,by go_num,by rw [List.length_append,HBk.out];rfl,HG2.out,HUB2.out,fun _ => HN.out,by rw [List.length_append,HBk.out];simp;have:=HN.out;omega,MF⟩
         case measure => simp [intOf];omega
       · have hke : n - 1 - k = 0:=by omega
         have HE:=Lib.hid (show bindsGo (n - 1) I n t1 [] = (B,u) by rw [HGo.out,hke];show (_,u.ok) = _;rw [HO.out])
         have hltI : (n : Int) ≤ ((k + 1 : Nat) : Int):=by omega
         clear hz h8
         go_wp2_with (go_at_call 37;refine (ok_any _ p cp q u d HMU.out.st.rd).mono ?_;rw [HK.out,HO.out];rintro e w2 ⟨rfl,R2,F2⟩)
         go_meet
         case rel => exact ⟨B,_,k,u,HE.out,HO.out,HB8.out,by have:=HB8.out;have:=HBk.out;omega,HUB.out,HMU.out.on2 HLT.out F2.two1 R2⟩
     · have HK:=Lib.hid (show (u.ok.k == 0) = false by rw [beq_eq_false_iff_ne];exact hz)
       have HE:=Lib.hid (show bindsGo (n - 1) I n t1 [] = (B,u.ok) by rw [HGo.out,bindsGo_bad hz])
       clear hz h8
       go_wp2_with (go_at_call 37;refine (ok_any _ p cp q u d HMU.out.st.rd).mono ?_;rw [HK.out];rintro e w2 ⟨rfl,R2,F2⟩)
       go_meet
       case rel => exact ⟨B,_,k,u.ok,HE.out,Rs.ok_ok u,HB8.out,by have:=HB8.out;have:=HBk.out;omega,HUB.out,HMU.out.on2 HLT.out F2.two1 R2⟩
 case rest =>
 clear M1
 obtain ⟨B,bv',m,t2,hbg,hto2,hB8,hm8,htb2,M2⟩:=hcut
 have HBG:=Lib.hid hbg
 have HTO2:=Lib.hid hto2
 have HB8:=Lib.hid hB8
 have HTB2:=Lib.hid htb2
 have HM2:=Lib.hid M2
 have HRes:=Lib.hid (show s.folder = Rs.folderD (LP.map (·.1)) B t2 by
   rw [HS.out,Rs.folderC,HGo1.out]
   dsimp only
   rw [HI.out,HBG.out])
 clear hbg hto2 htb2 hm8 hB8
 (refine hK5 _ _ ?_;clear hK5;refine wp_seq_k fun K6 hK6 => ?_)
 clear M2
 go_cut [11] (fun v wx => v = .int .i64 ((I : Int) - (B.length : Int)) ∧ FolM w p cp q d LP cv bv' B mb m t2 wx)
 case first =>
   clear hK6
   obtain ⟨bao,bcap,rfl,-⟩:=own_outS HM2.out.bi
   obtain ⟨j0,j1,j2,j3,j4,j5,jz⟩:=cells6 HM2.out.st.b1
   have hb8 : (B.length : Int) ≤ 8:=by have:=HB8.out;omega
   have hi8 : (I : Int) ≤ 32:=by omega
   go_wp2_with fail
   go_meet
   case rel => exact ⟨by first | rfl | go_num,HM2.out⟩
 case rest =>
 obtain ⟨rfl,M3⟩:=hcut
 have HM3:=Lib.hid M3
 clear M3 HM2
 (refine hK6 _ _ ?_;clear hK6;refine wp_seq_k fun K7 hK7 => ?_)
 go_cut [12,97,101] (fun _ _ _ wx => ∃ P pv t3,s.folder = (⟨LP.map (·.1),B,P,[]⟩,t3) ∧ FolE w p cp q d LP cv bv' pv B P t3 wx)
 case first =>
   clear hK7
   by_cases hz : t2.k = 0
   · have HK:=Lib.hid (show (t2.k == 0) = true by rw [hz];rfl)
     have HZ:=Lib.hid (show t2.ok.k = 0 by rw [HTO2.out];exact hz)
     have hb8 : (B.length : Int) ≤ 8:=by have:=HB8.out;omega
     have hi8 : (I : Int) ≤ 32:=by omega
     clear hz
     by_cases hone : I = B.length + 1
     · have t0 : ((I : Int) - (B.length : Int) == 1) = true:=by rw [beq_iff_eq];omega
       have HR2:=Lib.hid (show s.folder = (⟨LP.map (·.1),B,[(freeAt B I : Int)],[]⟩,if freeAt B I = I then t2.fail 10 else t2) by
         rw [HRes.out,Rs.folderD,if_neg (by rw [HZ.out];simp),HI.out,if_pos hone,HTO2.out])
       have HPn:=Lib.hid (show (0 : Nat) ≤ 100 by omega)
       clear hone
       go_wp2_with (go_at_call 37;refine (ok_any _ p cp q t2 d HM3.out.st.rd).mono ?_;rw [HTO2.out,HK.out];rintro e w2 ⟨rfl,R2,F2⟩;have M4:=HM3.out.on2 HLT.out F2.two1 R2)
       have HM4:=Lib.hid M4
       clear M4
       go_loopw [12] (fun v wr => ∃ i : Nat,i ≤ I ∧ v = .int .i64 (i : Int) ∧ (∀ j,j < i → (j : Int) ∈ B.map (·.1)) ∧ FolM w p cp q d LP cv bv' B mb m t2 wr) (fun v _ => I - (intOf v).toNat)
       case atStart => exact ⟨0,Nat.zero_le _,rfl,fun j h => by omega,HM4.out⟩
       case round =>
         obtain ⟨i,hi,rfl,hall,MR⟩:=hrel
         have HMR:=Lib.hid MR
         have HAll:=Lib.hid hall
         clear MR hall
         by_cases hlt : i < I
         · have hltI : (i : Int) < (I : Int):=by omega
           have L:=HMR.out.iset.look (x:=(i : Int)) (WalkArith.wf_i64 (by omega))
           by_cases hm : (i : Int) ∈ B.map (·.1)
           · have HAll2:=Lib.hid (show ∀ j,j < i + 1 → (j : Int) ∈ B.map (·.1) from fun j hj => by
               by_cases e : j = i
               · rw [e];exact hm
               · exact HAll.out j (by omega))
             simp only [hm,decide_true] at L
             clear hm
             go_wp2_with fail
             go_roundw
             case rel => exact ⟨i + 1,by omega,by go_num,HAll2.out,HMR.out⟩
             case measure => simp [intOf];omega
           · have HFr:=Lib.hid (freeAt_eq hi HAll.out (.inr hm))
             have hne : ((i : Int) == (I : Int)) = false:=by rw [beq_eq_false_iff_ne];omega
             have HR3:=Lib.hid (show s.folder = (⟨LP.map (·.1),B,[(i : Int)],[]⟩,t2) by rw [HR2.out,HFr.out,if_neg (by omega)])
             simp only [hm,decide_false] at L
             clear hm
             have E4:=HMR.out.toE
             obtain ⟨j0,j1,j2,j3,j4,j5,jz⟩:=cells6 HMR.out.st.b1
             go_wp2_with (at_builtin;refine wpList_append_struct sty_in rfl _ _ (by rfl) (w.heap.size + 2) _ _ _ (by rfl) (own_frB E4.pa ((Fr.refl [] wr).alloc (.cells #[.int .i64 (i : Int)] 3)) (by simp)) wr.heap.size [.int .i64 (i : Int)] (by rfl) (heap_alloc_new wr _) rfl rfl (by first | (simp;done) | (have:=HPn.out;omega)) (by decide) (by rw [World.size_alloc];have:=E4.st.lt;omega) ?_;intro v2 w7 own7 g7;obtain ⟨vao2,vcap2,rfl,-⟩:=own_outS own7;obtain ⟨C7,E7⟩:=E4.snoc HLT.out HLQ.out g7 own7;obtain ⟨k0,k1,k2,k3,k4,k5,kz⟩:=cells6 C7.b1)
             go_meet
             case rel => exact ⟨_,_,_,HR3.out,E7⟩
         · have hie : i = I:=by omega
           have HFr:=Lib.hid (freeAt_eq hi HAll.out (.inl hie))
           have HR3:=Lib.hid (show s.folder = (⟨LP.map (·.1),B,[(I : Int)],[]⟩,t2.fail 10) by rw [HR2.out,HFr.out,if_pos hie,hie])
           subst hie
           have hne : ((i : Int) == (i : Int)) = true:=by simp
           go_wp2_with (first
             | (at_builtin;refine wpList_append_struct sty_in rfl _ _ (by rfl) (w.heap.size + 2) _ _ _ (by rfl) (own_frB E5.pa ((Fr.refl [] w5).alloc (.cells #[.int .i64 (i : Int)] 3)) (by simp)) w5.heap.size [.int .i64 (i : Int)] (by rfl) (heap_alloc_new w5 _) rfl rfl (by first | (simp;done) | (have:=HPn.out;omega)) (by decide) (by rw [World.size_alloc];have:=E5.st.lt;omega) ?_;intro v2 w7 own7 g7;obtain ⟨vao2,vcap2,rfl,-⟩:=own_outS own7;obtain ⟨C7,E7⟩:=E5.snoc HLT.out HLQ.out g7 own7;obtain ⟨k0,k1,k2,k3,k4,k5,kz⟩:=cells6 C7.b1)
             | (go_at_call 38;refine (rfail_any _ p cp q t2 d 10 HMR.out.st.rd).mono ?_;rintro e w5 ⟨rfl,R5,F5⟩;have E5:=(HMR.out.on2 HLT.out F5.two1 R5).toE;obtain ⟨j0,j1,j2,j3,j4,j5,jz⟩:=cells6 E5.st.b1))
           go_meet
           case rel => exact ⟨_,_,_,HR3.out,E7⟩
     · have t0 : ((I : Int) - (B.length : Int) == 1) = false:=by rw [beq_eq_false_iff_ne];omega
       have HR2:=Lib.hid (show s.folder = (⟨LP.map (·.1),B,(belowGo (I - B.length) I t2 []).1,[]⟩,(belowGo (I - B.length) I t2 []).2) by
         rw [HRes.out,Rs.folderD,if_neg (by rw [HZ.out];simp),HI.out,if_neg hone,HTO2.out])
       clear hone
       go_wp2_with (go_at_call 37;refine (ok_any _ p cp q t2 d HM3.out.st.rd).mono ?_;rw [HTO2.out,HK.out];rintro e w2 ⟨rfl,R2,F2⟩;have M4:=HM3.out.on2 HLT.out F2.two1 R2)
       have HM4:=Lib.hid M4
       clear M4
       go_loopw [86] (fun v wr => ∃ (k : Nat) (P : List Int) (pv : Value) (u : Rs),k ≤ I - B.length ∧ v = .int .i64 (k : Int) ∧ belowGo (I - B.length) I t2 [] = belowGo (I - B.length - k) I u P ∧ P.length = k ∧ u.c.b.length ≤ 10000000 ∧ FolE w p cp q d LP cv bv' pv B P u wr) (fun v _ => I - B.length - (intOf v).toNat)
       case atStart => exact ⟨0,[],_,t2,Nat.zero_le _,rfl,rfl,rfl,HTB2.out,HM4.out.toE⟩
       case round =>
         obtain ⟨k,P,pv,u,hk,rfl,hgo,hPk,hub,EU⟩:=hrel
         obtain ⟨pao,pcap,rfl,-⟩:=own_outS EU.pa
         have HGo:=Lib.hid hgo
         have HPk:=Lib.hid hPk
         have HUB:=Lib.hid hub
         have HEU:=Lib.hid EU
         clear hgo hPk hub EU
         by_cases hlt : k < I - B.length
         · have hltI : (k : Int) < (I : Int) - (B.length : Int):=by omega
           have HG2:=Lib.hid (show belowGo (I - B.length) I t2 [] = belowGo (I - B.length - (k + 1)) I (u.below I).2 (P ++ [((u.below I).1 : Int)]) by
             rw [HGo.out,show I - B.length - k = (I - B.length - (k + 1)) + 1 by omega];rfl)
           have HW1:=Lib.hid (fun wy (R : RdAt wy p cp q u d) => below_ok wy p cp q u d I (by omega) R HUB.out)
           have HUB1:=Lib.hid (show (u.below I).2.c.b.length ≤ 10000000 by rw [below_b];exact HUB.out)
           generalize (u.below I).2 = u1 at *
           generalize (u.below I).1 = a at *
           go_wp2_with fail
           have EUd : FolE w p cp q d LP cv bv' (.slice pao P.length pcap) B P u wr.drew:=HEU.out.on2 HLT.out ((Fr.refl _ _).drew) (HEU.out.st.rd.same Same.drew)
           have e0:=(cells6 EUd.st.b1).2.2.1
           go_region_law (first
               | (have hq:=E3;refine step_append_sl sty_int rfl _ _ (by rfl) (w.heap.size + 2) _ _ _ (by rfl) (own_frB E3.pa ((Fr.refl [] w3).alloc (.cells #[.int .i64 (a : Int)] 3)) (by simp)) _ [.int .i64 (a : Int)] (by rfl) (sl_one w3 3 (.int .i64 (a : Int))) (by intro u hu;simp at hu;subst hu;rfl) (by have:=HPk.out;simp;omega) (by have:=HPk.out;simp;omega) (by rw [World.size_alloc];have:=E3.st.lt;omega) ?_;intro v2 w7 own7 g7;obtain ⟨vao2,vcap2,rfl,-⟩:=own_outS own7;obtain ⟨C7,E7⟩:=E3.snoc HLT.out HLQ.out g7 own7;obtain ⟨k0,k1,k2,k3,k4,k5,kz⟩:=cells6 C7.b1)
               | (go_simp;go_at_call 133;refine (HW1.out _ EUd.st.rd).mono ?_;rintro e w3 ⟨rfl,R3,F3⟩;have E3:=EUd.on2 HLT.out F3 R3;have e3:=(cells6 E3.st.b1).2.2.1;have e3a:=(cells6 (E3.st.fr0 HLT.out.1 HLT.out.2 ((Fr.refl [] w3).alloc (.cells #[.int .i64 (a : Int)] 3))).b1).2.2.1))
           all_goals
             go_wp2_with fail
             go_roundw
             case rel => exact ⟨k + 1,P ++ [(a : Int)],_,u1,by omega,by go_num,HG2.out,by rw [List.length_append,HPk.out];rfl,HUB1.out,E7⟩
             case measure => simp [intOf];omega
         · have hke : I - B.length - k = 0:=by omega
           have HE:=Lib.hid (show s.folder = (⟨LP.map (·.1),B,P,[]⟩,u) by rw [HR2.out,HGo.out,hke];rfl)
           have hltI : (I : Int) - (B.length : Int) ≤ (k : Int):=by omega
           go_wp2_with fail
           go_meet
           case rel => exact ⟨_,_,_,HE.out,HEU.out⟩
   · have HK:=Lib.hid (show (t2.k == 0) = false by rw [beq_eq_false_iff_ne];exact hz)
     have HR2:=Lib.hid (show s.folder = (⟨LP.map (·.1),B,[],[]⟩,t2) by rw [HRes.out,Rs.folderD,if_pos (by rw [HTO2.out];exact hz),HTO2.out])
     clear hz
     go_wp2_with (go_at_call 37;refine (ok_any _ p cp q t2 d HM3.out.st.rd).mono ?_;rw [HTO2.out,HK.out];rintro e w2 ⟨rfl,R2,F2⟩;have M4:=HM3.out.on2 HLT.out F2.two1 R2)
     go_meet
     case rel => exact ⟨[],_,t2,HR2.out,M4.toE⟩
 case rest =>
 obtain ⟨P,pv,t3,hres,E1⟩:=hcut
 have HRs:=Lib.hid hres
 have HE1:=Lib.hid E1
 obtain ⟨cao,ccap,rfl,-⟩:=own_outS E1.co
 obtain ⟨bao,bcap,rfl,-⟩:=own_outS E1.bi
 obtain ⟨pao,pcap,rfl,-⟩:=own_outS E1.pa
 obtain ⟨i0,i1,i2,i3,i4,i5,iz⟩:=cells6 E1.st.b0
 obtain ⟨j0,j1,j2,j3,j4,j5,jz⟩:=cells6 E1.st.b1
 clear hres HM3 E1
 go_wp2_with fail
 obtain ⟨wF,hwF⟩ : ∃ wF,wF = (((((wc.setCell ⟨w.heap.size,0,none⟩ (.slice cao LP.length ccap)).setCell ⟨w.heap.size,1,none⟩ (.slice bao B.length bcap)).setCell ⟨w.heap.size,2,none⟩ (.slice pao P.length pcap)).setCell ⟨w.heap.size,3,none⟩ (.slice none 0 0)).setCell ⟨w.heap.size,4,none⟩ (.bool false)).setCell ⟨w.heap.size,5,none⟩ (.int .u32 0):=⟨_,rfl⟩
 rw [← hwF]
 have F1 : Fr [w.heap.size] wc wF:=hwF ▸ ((((((Fr.refl _ _).setCell (by simp) _).setCell (by simp) _).setCell (by simp) _).setCell (by simp) _).setCell (by simp) _).setCell (by simp) _
 have F2 : Fr [p,cp] w wF:=hwF ▸ (((((HE1.out.st.fr.setCell (.inr (Nat.le_refl _)) _).setCell (.inr (Nat.le_refl _)) _).setCell (.inr (Nat.le_refl _)) _).setCell (.inr (Nat.le_refl _)) _).setCell (.inr (Nat.le_refl _)) _).setCell (.inr (Nat.le_refl _)) _
 have hb : wF.heap[w.heap.size]? = some (.cells #[.slice cao LP.length ccap,.slice bao B.length bcap,.slice pao P.length pcap,.slice none 0 0,.bool false,.int .u32 0] 70 (0,0)) :=
   hwF ▸ Go.Joins.block_setCell (Go.Joins.block_setCell (Go.Joins.block_setCell (Go.Joins.block_setCell (Go.Joins.block_setCell (Go.Joins.block_setCell HE1.out.st.b0 _) _) _) _) _) _
 obtain ⟨r0,r1,r2,r3,r4,r5,-⟩:=cells6 hb
 have R1:=HE1.out.st.rd.fr F1 (by have:=HLT.out;simp;omega) (by have:=HLT.out;simp;omega) (fun k hk => by have:=HLQ.out k hk;simp;omega)
 have hlo : ∀ i ∈ [w.heap.size],i < w.heap.size + 2:=by simp
 refine bodyPost_ret (v:=.agg #[.slice cao LP.length ccap,.slice bao B.length bcap,.slice pao P.length pcap,.slice none 0 0,.bool false,.int .u32 0]) (by simp [results,Tryz.results107,go_sem,r0,r1,r2,r3,r4,r5]) rfl ?_
 refine ⟨⟨_,_,_,LP,rfl,by rw [HRs.out],?_,?_,?_,?_⟩,by rw [HRs.out];exact R1,F2⟩
 · rw [HRs.out]
   dsimp only
   rw [List.length_map]
   exact Sm.of_own w.heap.size (own_frB HE1.out.co F1 hlo) (by omega)
 · intro c hc
   exact ((HE1.out.pm c hc).fr F1 hlo).mono (by omega)
 · rw [HRs.out]
   exact Sm.of_own w.heap.size (own_frB HE1.out.bi F1 hlo) (by omega)
 · rw [HRs.out]
   exact Sm.of_own w.heap.size (own_frB HE1.out.pa F1 hlo) (by omega)
end Go.Proofs.YtkodindajfdagaaGreatDoor
/- Folders that are read: what lies in memory; the plain reader of folders. No condition. -/
namespace Go.Proofs.YtkodindajfdagaaGreatDoor
open Go.RowKit Go.Maps
def Typed (w : World) (i e : Nat) : Prop:=∃ cs z,w.heap[i]? = some (.cells cs e z)
theorem Typed.ne {w : World} {i e e' : Nat} (h : Typed w i e) (he : e' ≠ e) : ∀ cs z,w.heap[i]? ≠ some (.cells cs e' z):=by
 obtain ⟨c1,z1,h1⟩:=h
 intro cs z h2
 rw [h1] at h2
 injection h2 with h2
 injection h2 with _ h3 _
 exact he h3.symm
theorem own_typed {w : World} {base e sz : Nat} {v : Value} {n : Nat} {xs : List Value} (h : w.ownsRow base e sz v n xs) : ∀ i ∈ v.ownBlock.toList,Typed w i e:=by
 intro i hi
 have hk : v.ownBlock = some i:=by simpa using hi
 rcases h.2 with ⟨rfl,-⟩ | ⟨g,cap,cur,rfl,hb,hg,-⟩
 · simp [Value.ownBlock] at hk
 · simp [Value.ownBlock] at hk
   subst hk
   exact ⟨_,_,hg⟩
structure RowM (w : World) (lo : Nat) (r : FoRow) (x : Fol) : Prop where
 co : ∃ LP : List (Coder × Value),LP.map (·.1) = x.f.coders ∧ Sm w lo 72 2 r.cv x.f.coders.length (coV LP) ∧ PropsM w lo LP
 bi : Sm w lo 109 2 r.bv x.f.binds.length (biV x.f.binds)
 pa : Sm w lo 3 1 r.pv x.f.packs.length (iv x.f.packs)
 si : Sm w lo 31 1 r.sv x.f.sizes.length (u64v x.f.sizes)
 has : r.has = x.ck.has
 sum : r.sum = x.ck.sum
def FarT (e : Nat) : Prop:=e ≠ 72 ∧ e ≠ 5 ∧ e ≠ 109 ∧ e ≠ 3 ∧ e ≠ 31
theorem RowM.frT {w w' : World} {lo : Nat} {r : FoRow} {x : Fol} {S : List Nat} (h : RowM w lo r x) (F : Fr S w w') (hS : ∀ i ∈ S,i < lo ∨ ∃ e,Typed w i e ∧ FarT e) : RowM w' lo r x:=by
 have key : ∀ e',(∀ e,FarT e → e' ≠ e) → ∀ i ∈ S,i < lo ∨ ∀ cs z,w.heap[i]? ≠ some (.cells cs e' z):=fun e' he i hi => by
   rcases hS i hi with h1 | ⟨e,h1,h2⟩
   · exact .inl h1
   · exact .inr (h1.ne (he e h2))
 obtain ⟨LP,h1,h2,h3⟩:=h.co
 exact ⟨⟨LP,h1,h2.frT F (key _ fun e he => Ne.symm he.1),h3.frT F (key _ fun e he => Ne.symm he.2.1)⟩,h.bi.frT F (key _ fun e he => Ne.symm he.2.2.1),h.pa.frT F (key _ fun e he => Ne.symm he.2.2.2.1),h.si.frT F (key _ fun e he => Ne.symm he.2.2.2.2),h.has,h.sum⟩
structure RowsM (w : World) (lo : Nat) (rows : List FoRow) (L : List Fol) : Prop where
 len : rows.length = L.length
 row : ∀ (i : Nat) r x,rows[i]? = some r → L[i]? = some x → RowM w lo r x
theorem RowsM.nil (w : World) (lo : Nat) : RowsM w lo [] []:=⟨rfl,fun i r x h => by simp at h⟩
theorem RowsM.frT {w w' : World} {lo : Nat} {rows : List FoRow} {L : List Fol} {S : List Nat} (h : RowsM w lo rows L) (F : Fr S w w') (hS : ∀ i ∈ S,i < lo ∨ ∃ e,Typed w i e ∧ FarT e) : RowsM w' lo rows L :=
 ⟨h.len,fun i r x h1 h2 => (h.row i r x h1 h2).frT F hS⟩
theorem RowsM.snoc {w : World} {lo : Nat} {rows : List FoRow} {L : List Fol} {r : FoRow} {x : Fol} (h : RowsM w lo rows L) (hr : RowM w lo r x) : RowsM w lo (rows ++ [r]) (L ++ [x]):=by
 refine ⟨by rw [List.length_append,List.length_append,h.len];rfl,fun i r' x' h1 h2 => ?_⟩
 by_cases hi : i < rows.length
 · rw [List.getElem?_append_left hi] at h1
   rw [List.getElem?_append_left (by rw [← h.len];exact hi)] at h2
   exact h.row i r' x' h1 h2
 · rw [List.getElem?_append_right (by omega)] at h1
   rw [List.getElem?_append_right (by rw [← h.len];omega),← h.len] at h2
   have h0 : i - rows.length = 0:=by
     have:=(List.getElem?_eq_some_iff.1 h1).1
     simp at this
     omega
   rw [h0] at h1 h2
   simp at h1 h2
   subst h1 h2
   exact hr
theorem RowsM.set {w : World} {lo : Nat} {rows : List FoRow} {L : List Fol} {r : FoRow} {x : Fol} (h : RowsM w lo rows L) (i : Nat) (hr : RowM w lo r x) : RowsM w lo (rows.set i r) (L.set i x):=by
 refine ⟨by simp [h.len],fun j r' x' h1 h2 => ?_⟩
 rw [List.getElem?_set] at h1 h2
 by_cases e : i = j
 · subst e
   rw [if_pos rfl] at h1 h2
   split at h1
   · split at h2
     · simp at h1 h2
       subst h1 h2
       exact hr
     · cases h2
   · cases h1
 · rw [if_neg e] at h1 h2
   exact h.row j r' x' h1 h2
def foldersGo : Nat → Rs → List Folder → List Folder × Rs
 | 0,s,L => (L,s.ok)
 | m + 1,s,L => if s.ok.k ≠ 0 then (L,s.ok) else foldersGo m s.ok.folder.2 (L ++ [s.ok.folder.1])
def sizesFor : Nat → Rs → List UInt64 → List UInt64 × Rs
 | 0,s,S => (S,s)
 | m + 1,s,S => sizesFor m s.size.2 (S ++ [UInt64.ofNat s.size.1])
def sizesGo : List Folder → Rs → List Folder → List Folder × Rs
 | [],s,D => (D,s.ok)
 | f :: t,s,D => if s.ok.k ≠ 0 then (D ++ f :: t,s.ok) else sizesGo t (sizesFor f.coders.length s.ok []).2 (D ++ [{ f with sizes:=(sizesFor f.coders.length s.ok []).1 }])
def withCks (L : List Folder) (cs : List Ck) : List Fol:=L.mapIdx fun i f => ⟨f,cs.getD i ⟨false,0⟩⟩
def Rs.foldersB (L : List Folder) (n id : Nat) (s : Rs) : List Fol × Rs :=
 if (s.at (id == 10)).1 then (withCks L ((s.at (id == 10)).2.sums n).1,((s.at (id == 10)).2.sums n).2.byte.2.end_ ((s.at (id == 10)).2.sums n).2.byte.1)
 else (withCks L [],(s.at (id == 10)).2.end_ id)
def Rs.foldersA (n : Nat) (s : Rs) : List Fol × Rs :=
 Rs.foldersB (sizesGo (foldersGo n s []).1 ((foldersGo n s []).2.must 12) []).1 n (sizesGo (foldersGo n s []).1 ((foldersGo n s []).2.must 12) []).2.byte.1 (sizesGo (foldersGo n s []).1 ((foldersGo n s []).2.must 12) []).2.byte.2
def Rs.folders (s : Rs) : List Fol × Rs:=Rs.foldersA (s.must 11).things.1 (s.must 11).things.2.inside
end Go.Proofs.YtkodindajfdagaaGreatDoor
/- Contract: the reader's folders. No condition but that lengths fit. -/
namespace Go.Proofs.YtkodindajfdagaaGreatDoor
open Go.RowKit Go.Maps
theorem step_append_struct {P : Program} {t e : TypeId} {z : Value} {m bytes : Nat} (T : SlTyM P t e z m bytes) {w : World} {ops : Array Oper} {o : Oper} {a : Act} {K : Act → World → Prop} {Q : Exit → Act → World → Prop} {E : Prop} (hgd : o.guard = none) (s x : Operand)
   (ho : o.op = .call { callee:=.builtin .append,args:=#[s,x],argTypes:=#[t,t] })
   (base : Nat) (v : Value) (n : Nat) (xs : List Value) (hs : a.eval s = v) (hown : w.ownsRow base e m v n xs)
   (g : Nat) (us : List Value) (hx : a.eval x = .slice (some ⟨g,0,none⟩) 1 1) (hg : w.heap[g]? = some (.cells us.toArray e)) (hul : us.length = m) (h1 : us.all (·.oneCell') = true)
   (hm : n + 1 ≤ 100000000) (hby : bytes ≤ 1000) (hbase : base ≤ w.heap.size)
   (h : ∀ v' w',w'.ownsRow base e m v' (n + 1) (xs ++ us) → w.grownBy w' v.ownBlock → K (a.put o.dst v') w') :
   if Region.wanted o (yielded ops a.tmps) = true then Oper.wp P o a w K Q else E:=by
 have hw : Region.wanted o (yielded ops a.tmps) = true:=by simp [Region.wanted,hgd]
 rw [if_pos hw]
 obtain ⟨i,hi,hz,hsz,hb⟩:=T.info
 have hle : (n + 1) * bytes ≤ 100000000 * 1000:=Nat.mul_le_mul hm hby
 refine wp_append_own w s x t ho base e i z m bytes T.under hi hz hsz hb T.cells T.pos v n xs hs hown ⟨g,0,none⟩ 1 1 us hx (by omega) ?_ ?_ (by unfold maxLen;omega) (by omega) hbase (fun v' w' q1 q2 _ => h v' w' q1 q2)
 · intro j u hu
   have hadd : (⟨g,0,none⟩ : Addr).add j = ⟨g,j,none⟩:=by unfold Addr.add;split <;> simp_all
   rw [hadd,Go.Joins.cell_of_block hg]
   simpa using hu
 · intro u hu
   exact List.all_eq_true.1 h1 u hu
theorem info_fo : (Tryz.prog.info? 70).map (fun i => (i.zero,i.size,i.bytes)) = some (some (.agg #[.slice none 0 0,.slice none 0 0,.slice none 0 0,.slice none 0 0,.bool false,.int .u32 0]),6,104):=by kernel_rfl
theorem sty_fo : SlTyM Tryz.prog 34 70 (.agg #[.slice none 0 0,.slice none 0 0,.slice none 0 0,.slice none 0 0,.bool false,.int .u32 0]) 6 104:=⟨Tryz.underlying34,by obtain ⟨i,h⟩:=info_parts info_fo;exact ⟨i,h⟩,rfl,by decide⟩
theorem far_fo : FarT 70:=by unfold FarT;decide
def bare (f : Folder) : Fol:=⟨f,⟨false,0⟩⟩
structure FsM (w : World) (p cp : Nat) (q : Option Nat) (d : DV) (rows : List FoRow) (L : List Fol) (fv : Value) (t : Rs) (wx : World) : Prop where
 own : wx.ownsRow w.heap.size 70 6 fv rows.length (foV rows)
 rw : RowsM wx w.heap.size rows L
 rd : RdAt wx p cp q t { d with fs:=fv }
 fr : Fr [p,cp] w wx
theorem FsM.on2 {w : World} {p cp : Nat} {q : Option Nat} {d : DV} {rows : List FoRow} {L : List Fol} {fv : Value} {t t' : Rs} {wx wy : World} (h : FsM w p cp q d rows L fv t wx) (hl : p < w.heap.size ∧ cp < w.heap.size) (F : Fr [p,cp] wx wy) (R : RdAt wy p cp q t' { d with fs:=fv }) : FsM w p cp q d rows L fv t' wy :=
 ⟨own_frB h.own F (two_lt hl),h.rw.frT F (fun i hi => .inl (two_lt hl i hi)),R,h.fr.tr2 F⟩
theorem FsM.fr0 {w : World} {p cp : Nat} {q : Option Nat} {d : DV} {rows : List FoRow} {L : List Fol} {fv : Value} {t : Rs} {wx wy : World} (h : FsM w p cp q d rows L fv t wx) (F : Fr [] wx wy) : FsM w p cp q d rows L fv t wy :=
 ⟨own_frB h.own F (by simp),h.rw.frT F (by simp),h.rd.fr0 F,h.fr.trans0 F⟩
theorem FsM.snoc {w : World} {p cp : Nat} {q : Option Nat} {d : DV} {rows : List FoRow} {L : List Fol} {fv fv2 : Value} {t : Rs} {wx w7 : World} {o : Obj} {r : FoRow} {x : Fol} (h : FsM w p cp q d rows L fv t wx) (hl : p < w.heap.size ∧ cp < w.heap.size) (hq : ∀ k,q = some k → k < w.heap.size)
   (hr : RowM wx w.heap.size r x) (g7 : (wx.alloc o).grownBy w7 fv.ownBlock) (own7 : w7.ownsRow w.heap.size 70 6 fv2 (rows.length + 1) (foV rows ++ r.cells)) :
   RdAt w7 p cp q t { d with fs:=fv } ∧ FsM w p cp q d (rows ++ [r]) (L ++ [x]) fv2 t (w7.setCell ⟨p,6,none⟩ fv2):=by
 have FA : Fr [] wx (wx.alloc o):=(Fr.refl _ _).alloc _
 have own6:=own_frB h.own FA (by simp)
 have R7:=(h.rd.fr0 FA).grownB g7 own6 hl.1 hl.2 hq
 have F7 : Fr fv.ownBlock.toList (wx.alloc o) w7:=(Fr.refl _ _).grown g7 (fun k hk => .inl (by rw [hk];simp))
 have F8 : Fr [p] w7 (w7.setCell ⟨p,6,none⟩ fv2):=(Fr.refl _ _).setCell (by simp) _
 have hp1 : ∀ i ∈ [p],i < w.heap.size:=by simp;exact hl.1
 have rw1:=(h.rw.snoc hr).frT FA (by simp)
 have rw2:=rw1.frT F7 (fun i hi => .inr ⟨_,own_typed own6 i hi,far_fo⟩)
 refine ⟨R7,by rw [List.length_append,foV_append,show foV [r] = r.cells by simp [foV]];exact own_frB own7 F8 hp1,rw2.frT F8 (fun i hi => .inl (hp1 i hi)),R7.put6 fv2,?_⟩
 exact ((h.fr.trans0 FA).grown g7 (fun k hk => .inr (own_ltS own6 k hk).1)).setCell (by simp) _
theorem codersGo_b : ∀ (m : Nat) (s : Rs) (L : List Coder),(codersGo m s L).2.c.b = s.c.b
 | 0,s,L => rfl
 | m + 1,s,L => by
   show (if s.ok.k ≠ 0 then (L,s.ok) else codersGo m s.ok.coder.2 (L ++ [s.ok.coder.1])).2.c.b = _
   split
   · rfl
   · rw [codersGo_b m,coder_b];rfl
theorem bindsGo_b : ∀ (m i n : Nat) (s : Rs) (B : List (Int × Int)),(bindsGo m i n s B).2.c.b = s.c.b
 | 0,i,n,s,B => rfl
 | m + 1,i,n,s,B => by
   show (if s.ok.k ≠ 0 then (B,s.ok) else bindsGo m i n ((s.ok.below i).2.below n).2 _).2.c.b = _
   split
   · rfl
   · rw [bindsGo_b m,below_b,below_b];rfl
theorem belowGo_b : ∀ (m i : Nat) (s : Rs) (P : List Int),(belowGo m i s P).2.c.b = s.c.b
 | 0,i,s,P => rfl
 | m + 1,i,s,P => by
   show (belowGo m i (s.below i).2 _).2.c.b = _
   rw [belowGo_b m,below_b]
theorem folder_b (s : Rs) : s.folder.2.c.b = s.c.b:=by
 have h0 : ∀ n (t : Rs),(Rs.folderC n t).2.c.b = t.c.b:=fun n t => by
   unfold Rs.folderC Rs.folderD
   have h1 : (bindsGo (n - 1) (insL (codersGo n t []).1) n (codersGo n t []).2 []).2.c.b = t.c.b:=by rw [bindsGo_b,codersGo_b]
   split
   · exact h1
   · split
     · dsimp only
       split
       · exact h1
       · exact h1
     · dsimp only
       rw [belowGo_b]
       exact h1
 unfold Rs.folder
 rw [h0,check_b,Rs.number_cb]
theorem folder_ok (w : World) (p cp : Nat) (q : Option Nat) (s : Rs) (d : DV) (h : RdAt w p cp q s d) (hb : s.c.b.length ≤ 10000000) :
   Calls Tryz.prog 107 #[.pointer (some ⟨p,0,none⟩)] w fun e w' => (∃ cv bv' pv LP,e = .returned (.agg #[cv,bv',pv,.slice none 0 0,.bool false,.int .u32 0]) ∧ LP.map (·.1) = s.folder.1.coders ∧ Sm w' w.heap.size 72 2 cv s.folder.1.coders.length (coV LP) ∧ PropsM w' w.heap.size LP ∧
   Sm w' w.heap.size 109 2 bv' s.folder.1.binds.length (biV s.folder.1.binds) ∧ Sm w' w.heap.size 3 1 pv s.folder.1.packs.length (iv s.folder.1.packs)) ∧ RdAt w' p cp q s.folder.2 d ∧ Fr [p,cp] w w':=folder_any w p cp q s d h hb
theorem folder_sizes (s : Rs) : s.folder.1.sizes = []:=by
 unfold Rs.folder Rs.folderC Rs.folderD
 split
 · rfl
 · split <;> rfl
theorem must_b (s : Rs) (id : Nat) : (s.must id).c.b = s.c.b:=by
 unfold Rs.must
 split <;> exact byte_b s
theorem inside_b (s : Rs) : s.inside.c.b = s.c.b:=by
 unfold Rs.inside
 split
 · exact byte_b s
 · split <;> exact byte_b s
theorem codersGo_len : ∀ (m : Nat) (s : Rs) (L : List Coder),(codersGo m s L).1.length ≤ L.length + m
 | 0,s,L => by show L.length ≤ _;omega
 | m + 1,s,L => by
   show (if s.ok.k ≠ 0 then (L,s.ok) else codersGo m s.ok.coder.2 (L ++ [s.ok.coder.1])).1.length ≤ _
   split
   · dsimp only;omega
   · have:=codersGo_len m s.ok.coder.2 (L ++ [s.ok.coder.1])
     simp at this
     omega
theorem folderC_coders (n : Nat) (s : Rs) : (Rs.folderC n s).1.coders = (codersGo n s []).1:=by
 unfold Rs.folderC Rs.folderD
 split
 · rfl
 · split <;> rfl
theorem folder_len (s : Rs) : s.folder.1.coders.length ≤ 8:=by
 unfold Rs.folder
 rw [folderC_coders]
 by_cases h0 : (s.number.2.check (decide (s.number.1 < 1) || decide (8 < s.number.1)) 10).ok.k = 0
 · have h8 : s.number.1 ≤ 8:=by
     unfold Rs.check at h0
     split at h0
     · rename_i hc
       rw [Rs.fail_ok (by decide),Rs.fail_k hc.1] at h0
       cases h0
     · rename_i hc
       rw [Rs.ok_ok] at h0
       have h2:=fun hh => hc ⟨h0,hh⟩
       simp at h2
       omega
   have:=codersGo_len s.number.1 (s.number.2.check (decide (s.number.1 < 1) || decide (8 < s.number.1)) 10) []
   rw [List.length_nil,Nat.zero_add] at this
   omega
 · rw [codersGo_bad h0]
   simp
theorem foldersGo_bad {s : Rs} (h : s.ok.k ≠ 0) (m : Nat) (L : List Folder) : foldersGo m s L = (L,s.ok):=by
 cases m with
 | zero => rfl
 | succ m => show (if s.ok.k ≠ 0 then _ else _) = _;rw [if_pos h]
theorem foldersGo_ok {s : Rs} (h : s.ok.k = 0) (m : Nat) (L : List Folder) : foldersGo (m + 1) s L = foldersGo m s.folder.2 (L ++ [s.folder.1]):=by
 show (if s.ok.k ≠ 0 then _ else _) = _
 rw [if_neg (by simp [h]),Rs.ok_of_zero h]
structure SzM (w : World) (p cp : Nat) (q : Option Nat) (d : DV) (rows : List FoRow) (fv : Value) (wk : World) (k : Nat) (r : FoRow) (S : List UInt64) (sv : Value) (t : Rs) (wx : World) : Prop where
 own : wx.ownsRow w.heap.size 70 6 fv rows.length (foV (rows.set k { r with sv:=sv }))
 sz : wx.ownsRow wk.heap.size 31 1 sv S.length (u64v S)
 rd : RdAt wx p cp q t { d with fs:=fv }
 old : Fr (p :: cp :: fv.ownBlock.toList) wk wx
 fr : Fr [p,cp] w wx
theorem SzM.on2 {w : World} {p cp : Nat} {q : Option Nat} {d : DV} {rows : List FoRow} {fv : Value} {wk : World} {k : Nat} {r : FoRow} {S : List UInt64} {sv : Value} {t t' : Rs} {wx wy : World} (h : SzM w p cp q d rows fv wk k r S sv t wx) (hl : p < w.heap.size ∧ cp < w.heap.size) (hw : w.heap.size ≤ wk.heap.size) (F : Fr [p,cp] wx wy) (R : RdAt wy p cp q t' { d with fs:=fv }) : SzM w p cp q d rows fv wk k r S sv t' wy :=
 ⟨own_frB h.own F (two_lt hl),own_frB h.sz F (two_lt (by omega)),R,h.old.trans F (fun i hi => .inl (by simp at hi;simp;omega)),h.fr.tr2 F⟩
theorem SzM.snoc {w : World} {p cp : Nat} {q : Option Nat} {d : DV} {rows : List FoRow} {g n cap : Nat} {wk : World} {k : Nat} {r : FoRow} {S : List UInt64} {sv sv2 : Value} {x : UInt64} {t : Rs} {wx w7 : World} {o : Obj} (h : SzM w p cp q d rows (.slice (some ⟨g,0,none⟩) n cap) wk k r S sv t wx) (hl : p < w.heap.size ∧ cp < w.heap.size) (hq : ∀ k,q = some k → k < w.heap.size) (hw : w.heap.size ≤ wk.heap.size) (hr : rows[k]? = some r)
   (g7 : (wx.alloc o).grownBy w7 sv.ownBlock) (own7 : w7.ownsRow wk.heap.size 31 1 sv2 (S.length + 1) (u64v S ++ [.int .u64 x.toNat])) :
   RdAt w7 p cp q t { d with fs:=.slice (some ⟨g,0,none⟩) n cap } ∧ w7.cell? ⟨g,k * 6 + 3,none⟩ = some sv ∧ w7.frozen? ⟨g,k * 6 + 3,none⟩ = false ∧ SzM w p cp q d rows (.slice (some ⟨g,0,none⟩) n cap) wk k r (S ++ [x]) sv2 t (w7.setCell ⟨g,k * 6 + 3,none⟩ sv2):=by
 have hk:=(List.getElem?_eq_some_iff.1 hr).1
 have FA : Fr [] wx (wx.alloc o):=(Fr.refl _ _).alloc _
 have sz6:=own_frB h.sz FA (by simp)
 have R7:=(h.rd.fr0 FA).grownB g7 sz6 (by omega) (by omega) (fun j hj => by have:=hq j hj;omega)
 have F7 : Fr sv.ownBlock.toList (wx.alloc o) w7:=(Fr.refl _ _).grown g7 (fun k hk => .inl (by rw [hk];simp))
 have ownF:=own_frT (own_frB h.own FA (by simp)) F7 (fun i hi => .inr ((own_typed sz6 i hi).ne (by decide)))
 obtain ⟨rfl,-⟩ : n = rows.length ∧ True:=by
   rcases h.own.2 with ⟨h1,-⟩ | ⟨g',cap',cur,h1,-⟩
   · cases h1
   · injection h1 with _ h2 _
     exact ⟨h2,trivial⟩
 have hc : w7.cell? ⟨g,k * 6 + 3,none⟩ = some sv:=by
   rw [ownF.cellAt (k * 6 + 3) (by omega),foV_get (rows.set k { r with sv:=sv }) k { r with sv:=sv } (by rw [List.getElem?_set,if_pos rfl,if_pos hk]) 3 (by omega)]
   rfl
 have hst:=ownF.stored (k * 6 + 3) sv2
 have hg : w.heap.size ≤ g:=(own_ltS ownF g rfl).1
 have hgt : Typed w7 g 70:=own_typed ownF g (by simp [Value.ownBlock])
 have F8 : Fr [g] w7 (w7.setCell ⟨g,k * 6 + 3,none⟩ sv2):=(Fr.refl _ _).setCell (by simp) _
 have e1 : (foV (rows.set k { r with sv:=sv })).set (k * 6 + 3) sv2 = foV (rows.set k { r with sv:=sv2 }):=by
   rw [foV_set _ k { r with sv:=sv } sv2 (by rw [List.getElem?_set,if_pos rfl,if_pos hk]),List.set_set]
 refine ⟨R7,hc,ownF.frozenAt _,by have:=hst.1;rw [e1] at this;exact this,?_,R7.fr F8 (by simp;omega) (by simp;omega) (fun j hj => by have:=hq j hj;simp;omega),?_,?_⟩
 · rw [List.length_append,show u64v (S ++ [x]) = u64v S ++ [.int .u64 x.toNat] by simp [u64v]]
   exact own_frT own7 F8 (fun i hi => .inr (by rw [List.mem_singleton.1 hi];exact hgt.ne (by decide)))
 · refine ((h.old.trans0 FA).grown g7 (fun j hj => .inr (own_ltS sz6 j hj).1)).setCell (.inl ?_) _
   simp [Value.ownBlock]
 · exact ((h.fr.trans0 FA).grown g7 (fun j hj => .inr (by have:=(own_ltS sz6 j hj).1;omega))).setCell (.inr hg) _
theorem set_self {α : Type} {l : List α} {k : Nat} {r : α} (h : l[k]? = some r) : l.set k r = l:=by
 refine List.ext_getElem? fun i => ?_
 rw [List.getElem?_set]
 by_cases e : k = i
 · subst e
   rw [if_pos rfl,if_pos (List.getElem?_eq_some_iff.1 h).1,h]
 · rw [if_neg e]
theorem withCks_get (D : List Folder) (cs : List Ck) (k : Nat) : (withCks D cs)[k]? = D[k]?.map fun f => ⟨f,cs.getD k ⟨false,0⟩⟩:=by
 unfold withCks
 simp [List.getElem?_mapIdx]
theorem withCks_set (D : List Folder) (cs : List Ck) (k : Nat) (f : Folder) (c : Ck) (hf : D[k]? = some f) (hc : cs[k]? = some c) : (withCks D (cs.take k)).set k ⟨f,c⟩ = withCks D (cs.take (k + 1)):=by
 have hk:=(List.getElem?_eq_some_iff.1 hf).1
 refine List.ext_getElem? fun i => ?_
 rw [List.getElem?_set,withCks_get,withCks_get]
 by_cases e : k = i
 · subst e
   rw [if_pos rfl,if_pos (by simp [withCks];exact hk),hf]
   simp [hc]
 · rw [if_neg e]
   have h1 : (cs.take k).getD i ⟨false,0⟩ = (cs.take (k + 1)).getD i ⟨false,0⟩:=by
     simp only [List.getD_eq_getElem?_getD,List.getElem?_take]
     by_cases h : i < k
     · rw [if_pos h,if_pos (by omega)]
     · rw [if_neg h,if_neg (by omega)]
   rw [h1]
theorem withCks_all (D : List Folder) (cs : List Ck) : withCks D (cs.take cs.length) = withCks D cs:=by rw [List.take_length]
theorem sumsL_len : ∀ (hs : List Bool) (s : Rs) (out : List Ck),(sumsL hs s out).1.length ≤ out.length + hs.length
 | [],s,out => by show out.length ≤ _;simp
 | false :: t,s,out => by
   rw [sumsL_false]
   split
   · simp
   · have:=sumsL_len t s.ok (out ++ [⟨false,0⟩])
     simp at this ⊢
     omega
 | true :: t,s,out => by
   rw [sumsL_true]
   split
   · simp
   · have:=sumsL_len t (s.num 4).2.ok (out ++ [⟨true,UInt32.ofNat (s.num 4).1⟩])
     simp at this ⊢
     omega
theorem sums_len (s : Rs) (n : Nat) : (s.sums n).1.length ≤ n:=by
 have h1:=sumsL_len (s.told n).1 (s.told n).2 []
 have h2 : (s.told n).1.length ≤ n:=Nat.le_trans (told_len s.c n) (by simp)
 simp at h1
 show (sumsL (s.told n).1 (s.told n).2 []).1.length ≤ n
 omega
theorem ckV_get : ∀ (l : List Ck) (i : Nat) (c : Ck),l[i]? = some c → (ckV l)[i * 2]? = some (.bool c.has) ∧ (ckV l)[i * 2 + 1]? = some (.int .u32 c.sum.toNat)
 | [],i,c,h => by simp at h
 | x :: t,0,c,h => by simp at h;subst h;exact ⟨rfl,rfl⟩
 | x :: t,i + 1,c,h => by
   have:=ckV_get t i c (by simpa using h)
   rw [show (i + 1) * 2 = i * 2 + 1 + 1 by omega]
   exact this
theorem withCks_nil (D : List Folder) : withCks D [] = D.map bare:=by
 unfold withCks bare
 refine List.ext_getElem? fun i => ?_
 simp [List.getElem?_mapIdx]
theorem set_bare {D L : List Folder} {k : Nat} {f : Folder} {S : List UInt64} (hD : D.length = k) (hL : L.drop k = f :: L.drop (k + 1)) :
   ((D ++ L.drop k).map bare).set k ⟨{ (bare f).f with sizes:=S },(bare f).ck⟩ = ((D ++ [{ f with sizes:=S }]) ++ L.drop (k + 1)).map bare:=by
 subst hD
 rw [hL,List.map_append,List.set_append_right _ _ (by rw [List.length_map];exact Nat.le_refl _),List.length_map,Nat.sub_self]
 simp [bare]
theorem FsM.toSz {w : World} {p cp : Nat} {q : Option Nat} {d : DV} {rows : List FoRow} {L : List Fol} {fv : Value} {t : Rs} {wk : World} (h : FsM w p cp q d rows L fv t wk) {k : Nat} {r : FoRow} (hr : rows[k]? = some r) (hs : r.sv = .slice none 0 0) : SzM w p cp q d rows fv wk k r [] (.slice none 0 0) t wk :=
 ⟨by rw [show ({ r with sv:=.slice none 0 0 } : FoRow) = r by rw [← hs],set_self hr];exact h.own,World.ownsRow_nil _ _ _ _,h.rd,Fr.refl _ _,h.fr⟩
theorem SzM.toFs {w : World} {p cp : Nat} {q : Option Nat} {d : DV} {rows : List FoRow} {L : List Fol} {fv : Value} {u t : Rs} {wk wx : World} {k : Nat} {r : FoRow} {x : Fol} {S : List UInt64} {sv : Value} (h0 : FsM w p cp q d rows L fv u wk) (h : SzM w p cp q d rows fv wk k r S sv t wx) (hl : p < w.heap.size ∧ cp < w.heap.size) (hr : rows[k]? = some r) (hx : L[k]? = some x) :
   FsM w p cp q d (rows.set k { r with sv:=sv }) (L.set k ⟨{ x.f with sizes:=S },x.ck⟩) fv t wx:=by
 have hS : ∀ i ∈ p :: cp :: fv.ownBlock.toList,i < w.heap.size ∨ ∃ e,Typed wk i e ∧ FarT e:=by
   intro i hi
   rcases List.mem_cons.1 hi with rfl | hi
   · exact .inl hl.1
   · rcases List.mem_cons.1 hi with rfl | hi
     · exact .inl hl.2
     · exact .inr ⟨_,own_typed h0.own i hi,far_fo⟩
 have hR:=(h0.rw.row k r x hr hx).frT h.old hS
 refine ⟨by rw [List.length_set];exact h.own,(h0.rw.frT h.old hS).set k ⟨hR.co,hR.bi,hR.pa,Sm.of_own w.heap.size h.sz h0.fr.size,hR.has,hR.sum⟩,h.rd,h.fr⟩
theorem FsM.check {w : World} {p cp : Nat} {q : Option Nat} {d : DV} {rows : List FoRow} {L : List Fol} {g n cap : Nat} {t : Rs} {wx : World} (h : FsM w p cp q d rows L (.slice (some ⟨g,0,none⟩) n cap) t wx) (hl : p < w.heap.size ∧ cp < w.heap.size) (hq : ∀ k,q = some k → k < w.heap.size) {k : Nat} {r : FoRow} {x : Fol} (hr : rows[k]? = some r) (hx : L[k]? = some x) (c : Ck) :
   FsM w p cp q d (rows.set k { r with has:=c.has,sum:=c.sum }) (L.set k ⟨x.f,c⟩) (.slice (some ⟨g,0,none⟩) n cap) t ((wx.setCell ⟨g,k * 6 + 4,none⟩ (.bool c.has)).setCell ⟨g,k * 6 + 5,none⟩ (.int .u32 c.sum.toNat)):=by
 have hg : w.heap.size ≤ g:=(own_ltS h.own g rfl).1
 have hgt : Typed wx g 70:=own_typed h.own g (by simp [Value.ownBlock])
 have F : Fr [g] wx ((wx.setCell ⟨g,k * 6 + 4,none⟩ (.bool c.has)).setCell ⟨g,k * 6 + 5,none⟩ (.int .u32 c.sum.toNat)):=((Fr.refl _ _).setCell (by simp) _).setCell (by simp) _
 have hnn : n = rows.length:=by
   rcases h.own.2 with ⟨h1,-⟩ | ⟨g',cap',cur,h1,-⟩
   · cases h1
   · injection h1 with _ h2 _
 have o1:=h.own
 rw [← hnn] at o1
 have o2:=((o1.stored (k * 6 + 4) (.bool c.has)).1.stored (k * 6 + 5) (.int .u32 c.sum.toNat)).1
 rw [foV_set2 rows k r c.has c.sum hr] at o2
 have rw1:=h.rw.frT F (fun i hi => .inr ⟨_,by rw [List.mem_singleton.1 hi];exact hgt,far_fo⟩)
 have hR:=rw1.row k r x hr hx
 exact ⟨by rw [List.length_set,← hnn];exact o2,rw1.set k ⟨hR.co,hR.bi,hR.pa,hR.si,rfl,rfl⟩,h.rd.fr F (by simp;omega) (by simp;omega) (fun j hj => by have:=hq j hj;simp;omega),(h.fr.setCell (.inr hg) _).setCell (.inr hg) _⟩
theorem sizesGo_bad {s : Rs} (h : s.ok.k ≠ 0) (L D : List Folder) : sizesGo L s D = (D ++ L,s.ok):=by
 cases L with
 | nil => show (D,s.ok) = _;simp
 | cons f t => show (if s.ok.k ≠ 0 then _ else _) = _;rw [if_pos h]
theorem sizesGo_ok {s : Rs} (h : s.ok.k = 0) (f : Folder) (t D : List Folder) : sizesGo (f :: t) s D = sizesGo t (sizesFor f.coders.length s []).2 (D ++ [{ f with sizes:=(sizesFor f.coders.length s []).1 }]):=by
 show (if s.ok.k ≠ 0 then _ else _) = _
 rw [if_neg (by simp [h]),Rs.ok_of_zero h]
theorem sizesFor_b : ∀ (m : Nat) (s : Rs) (S : List UInt64),(sizesFor m s S).2.c.b = s.c.b
 | 0,s,S => rfl
 | m + 1,s,S => by
   show (sizesFor m s.size.2 _).2.c.b = _
   rw [sizesFor_b m,size_b]
theorem sums_ok (w : World) (p cp : Nat) (q : Option Nat) (s : Rs) (d : DV) (n : Nat) (h : RdAt w p cp q s d) (hb : s.c.b.length ≤ 10000000) (hn : n ≤ 10000000) :
   Calls Tryz.prog 104 #[.pointer (some ⟨p,0,none⟩),.int .i64 (n : Int)] w fun e w' => (∃ v,e = .returned v ∧ Sm w' w.heap.size 68 2 v (s.sums n).1.length (ckV (s.sums n).1)) ∧ RdAt w' p cp q (s.sums n).2 d ∧ Fr [p,cp] w w':=sums_any w p cp q s d n h hb hn
theorem bad_stays (s : Rs) (id : Nat) (h : (s.must id).ok.k = 0) : s.k = 0:=by
 by_cases hk : s.k = 0
 · exact hk
 · exfalso
   have hb : s.byte.2.k = s.k:=rfl
   have h1 : s.byte.2.ok = s.byte.2:=Rs.ok_of_bad (by rw [hb];exact hk)
   unfold Rs.must at h
   rw [h1,if_neg (fun hh => hk (hb ▸ hh.1)),h1] at h
   exact hk (hb ▸ h)
def FolsA (w : World) (p cp : Nat) (q : Option Nat) (n : Nat) (s2 : Rs) (d : DV) (wx : World) : Prop :=
 ∃ (rows : List FoRow) (L : List Folder) (fv : Value) (t : Rs),foldersGo n s2 [] = (L,t) ∧ t.ok = t ∧ (t.k = 0 → L.length = n) ∧ L.length ≤ n ∧ t.c.b.length ≤ 10000000 ∧ (∀ f ∈ L,f.sizes = [] ∧ f.coders.length ≤ 8) ∧ (∀ r ∈ rows,r.sv = .slice none 0 0) ∧ FsM w p cp q d rows (L.map bare) fv t wx
def FoldersR (w : World) (p cp : Nat) (q : Option Nat) (r : List Fol × Rs) (d : DV) (e : Ending) (w' : World) : Prop :=
 e = .returned (.tuple #[]) ∧ ∃ rows fv,FsM w p cp q d rows r.1 fv r.2 w'
set_option maxRecDepth 100000 in
set_option maxHeartbeats 4000000 in
theorem folders_any (w : World) (p cp : Nat) (q : Option Nat) (s : Rs) (d : DV) (h : RdAt w p cp q s d) (hb : s.c.b.length ≤ 10000000) (hfs : d.fs = .slice none 0 0) :
   Calls Tryz.prog 74 #[.pointer (some ⟨p,0,none⟩)] w (FoldersR w p cp q s.folders d):=by
 have HLT:=Lib.hid (And.intro h.lt h.cur.lt)
 have HLQ:=Lib.hid h.ql
 have HR0:=Lib.hid h
 have HB:=Lib.hid hb
 have HB1:=Lib.hid (show (s.must 11).c.b.length ≤ 10000000 by rw [must_b];exact hb)
 have HT1:=Lib.hid (fun w d (h : RdAt w p cp q (s.must 11) d) => things_ok w p cp q (s.must 11) d h HB1.out)
 have HB2:=Lib.hid (show (s.must 11).things.2.c.b.length ≤ 10000000 by rw [things_b];exact HB1.out)
 have HT2:=Lib.hid (fun w d (h : RdAt w p cp q (s.must 11).things.2 d) => inside_any w p cp q (s.must 11).things.2 d h HB2.out)
 have HB3:=Lib.hid (show (s.must 11).things.2.inside.c.b.length ≤ 10000000 by rw [inside_b];exact HB2.out)
 have HNL:=Lib.hid (show (s.must 11).things.1 ≤ 10000000 from Nat.le_trans (things_le _) HB1.out)
 have HS:=Lib.hid (show s.folders = Rs.foldersA (s.must 11).things.1 (s.must 11).things.2.inside from rfl)
 have HM:=Lib.hid (must_any w p cp q s d 11 h hb)
 clear h hb
 generalize (s.must 11).things.2.inside = s3 at *
 generalize (s.must 11).things.2 = s2 at *
 generalize (s.must 11).things.1 = n at *
 generalize s.must 11 = s1 at *
 have hd : ({ d with fs:=.slice none 0 0 } : DV) = d:=by rw [← hfs]
 have HD:=Lib.hid hd
 clear hfs hd
 go_enter Tryz.func74,Tryz.ntmps74
 go_upto_region 2 with (first
   | (have hq:=R1;go_at_call 100;refine (HT1.out _ _ R1).mono ?_;rintro e w2 ⟨rfl,R2,F2⟩)
   | (go_at_call 105;refine HM.out.mono ?_;rintro e w1 ⟨rfl,R1,F1⟩))
 rename_i K0 hK0
 go_cut [] (fun wx => FsM w p cp q d [] [] (.slice none 0 0) s3 wx)
 case first =>
   clear hK0
   go_wp2_with (go_at_call 106;refine (HT2.out _ _ R2).mono ?_;rintro e w3 ⟨rfl,R3,F3⟩)
   go_meet
   case rel => exact ⟨World.ownsRow_nil _ _ _ _,RowsM.nil _ _,by rw [HD.out];exact R3,(F1.tr2 F2).tr2 F3⟩
 case rest =>
 have C1:=hcut
 clear hcut R1 R2 F1 F2
 (refine hK0 _ _ ?_;clear hK0;refine wp_seq_k fun K1 hK1 => ?_)
 go_cut [3] (fun _ wx => FolsA w p cp q n s3 d wx)
 case first =>
   clear hK1
   have hnM : (n : Int) ≤ 10000000:=by have:=HNL.out;omega
   go_wp2_with fail
   go_loopw [3] (fun i wr => ∃ (k : Nat) (rows : List FoRow) (L : List Folder) (fv : Value) (u : Rs),k ≤ n ∧ i = .int .i64 (k : Int) ∧ L.length = k ∧ rows.length = k ∧ foldersGo n s3 [] = foldersGo (n - k) u L ∧ u.c.b.length ≤ 10000000 ∧ (∀ f ∈ L,f.sizes = [] ∧ f.coders.length ≤ 8) ∧ (∀ r ∈ rows,r.sv = .slice none 0 0) ∧ FsM w p cp q d rows (L.map bare) fv u wr) (fun i _ => n - (intOf i).toNat)
   case atStart => exact ⟨0,[],[],.slice none 0 0,s3,Nat.zero_le _,rfl,rfl,rfl,by simp,HB3.out,by simp,by simp,C1⟩
   case round =>
     obtain ⟨k,rows,L,fv,u,hk,rfl,hLk,hRk,hgo,hub,hsz,hnil,CU⟩:=hrel
     obtain ⟨oao,ocap,rfl,-⟩:=own_outS CU.own
     have HGo:=Lib.hid hgo
     have HLk:=Lib.hid hLk
     have HRk:=Lib.hid hRk
     have HUB:=Lib.hid hub
     have HSZ:=Lib.hid hsz
     have HCU:=Lib.hid CU
     have HNil:=Lib.hid hnil
     clear hgo hLk hRk hub hsz hnil CU
     by_cases hz : u.ok.k = 0
     · have HK:=Lib.hid (show (u.ok.k == 0) = true by rw [hz];rfl)
       have HO:=Lib.hid (Rs.ok_of_zero hz)
       by_cases hlt : k < n
       · have hltI : (k : Int) < (n : Int):=by omega
         have HG2:=Lib.hid (show foldersGo n s3 [] = foldersGo (n - (k + 1)) u.folder.2 (L ++ [u.folder.1]) by
           rw [HGo.out,show n - k = (n - (k + 1)) + 1 by omega,foldersGo_ok hz])
         have HFO:=Lib.hid (fun wy d (R : RdAt wy p cp q u d) => folder_ok wy p cp q u d R HUB.out)
         have HUB2:=Lib.hid (show u.folder.2.c.b.length ≤ 10000000 by rw [folder_b];exact HUB.out)
         have HFS:=Lib.hid (And.intro (folder_sizes u) (folder_len u))
         clear hz
         generalize u.folder.2 = u2 at *
         generalize u.folder.1 = f at *
         go_wp2_with (go_at_call 37;refine (ok_any _ p cp q u _ HCU.out.rd).mono ?_;rw [HK.out,HO.out];rintro e w2 ⟨rfl,R2,F2⟩;have C2:=HCU.out.on2 HLT.out F2.two1 R2)
         have C2d : FsM w p cp q d rows (L.map bare) (.slice oao rows.length ocap) u w2.drew:=C2.on2 HLT.out ((Fr.refl _ _).drew) (C2.rd.same Same.drew)
         have e0:=(cells9 C2d.rd.blk).2.2.2.2.2.2.1
         go_region_law (first
           | (have hq:=C3;refine step_append_struct sty_fo rfl _ _ (by rfl) w.heap.size _ _ _ (by rfl) (own_frB C3.own ((Fr.refl [] w3).alloc (.cells #[.slice cao f.coders.length ccap,.slice bao f.binds.length bcap,.slice pao f.packs.length pcap,.slice none 0 0,.bool false,.int .u32 0] 70)) (by simp)) w3.heap.size [.slice cao f.coders.length ccap,.slice bao f.binds.length bcap,.slice pao f.packs.length pcap,.slice none 0 0,.bool false,.int .u32 0] (by rfl) (heap_alloc_new w3 _) rfl rfl (by have:=HNL.out;have:=HRk.out;omega) (by decide) (by rw [World.size_alloc];have:=C3.fr.size;omega) ?_;intro v2 w7 own7 g7;obtain ⟨vao2,vcap2,rfl,-⟩:=own_outS own7;obtain ⟨R7,C7⟩:=C3.snoc (r:=⟨_,_,_,_,_,_⟩) HLT.out HLQ.out hrow g7 own7;obtain ⟨-,-,-,-,-,-,k6,-,-,kz⟩:=cells9 R7.blk)
           | (go_simp;go_at_call 107;refine (HFO.out _ _ C2d.rd).mono ?_;rintro e w3 ⟨⟨cv,bv',pv,LP,rfl,hLP,hco,hpm,hbi,hpa⟩,R3,F3⟩;have C3:=C2d.on2 HLT.out F3 R3;have hlo : w.heap.size ≤ w2.drew.heap.size:=C2d.fr.size;have hrow : RowM w3 w.heap.size ⟨cv,bv',pv,.slice none 0 0,false,0⟩ (bare f):=⟨⟨LP,hLP,hco.mono hlo,fun c hc => (hpm c hc).mono hlo⟩,hbi.mono hlo,hpa.mono hlo,(by rw [show (bare f).f.sizes = [] from HFS.out.1];exact Sm.nil _ _ _ _),rfl,rfl⟩;obtain ⟨cao,ccap,rfl,-⟩:=hco.out;obtain ⟨bao,bcap,rfl,-⟩:=hbi.out;obtain ⟨pao,pcap,rfl,-⟩:=hpa.out;have e3:=(cells9 C3.rd.blk).2.2.2.2.2.2.1;have e3a:=(cells9 (C3.fr0 ((Fr.refl [] w3).alloc (.cells #[.slice cao f.coders.length ccap,.slice bao f.binds.length bcap,.slice pao f.packs.length pcap,.slice none 0 0,.bool false,.int .u32 0] 70))).rd.blk).2.2.2.2.2.2.1))
         all_goals
           go_wp2_with fail
           go_roundw
           case rel => exact ⟨k + 1,rows ++ [⟨.slice cao f.coders.length ccap,.slice bao f.binds.length bcap,.slice pao f.packs.length pcap,.slice none 0 0,false,0⟩],L ++ [f],_,u2,by omega,by go_num,by rw [List.length_append,HLk.out];rfl,by rw [List.length_append,HRk.out];rfl,HG2.out,HUB2.out,(fun g hg => by rcases List.mem_append.1 hg with h1 | h1;exact HSZ.out g h1;simp at h1;rw [h1];exact HFS.out),(fun g hg => by rcases List.mem_append.1 hg with h1 | h1;exact HNil.out g h1;simp at h1;rw [h1]),by rw [List.map_append];exact C7⟩
           case measure => simp [intOf];omega
       · have hke : k = n:=by omega
         have HE:=Lib.hid (show foldersGo n s3 [] = (L,u) by rw [HGo.out,hke,Nat.sub_self];show (_,u.ok) = _;rw [HO.out])
         have hltI : (n : Int) ≤ (k : Int):=by omega
         clear hz
         go_wp2_with (go_at_call 37;refine (ok_any _ p cp q u _ HCU.out.rd).mono ?_;rw [HK.out,HO.out];rintro e w2 ⟨rfl,R2,F2⟩)
         go_meet
         case rel => exact ⟨rows,L,_,u,HE.out,HO.out,fun _ => by rw [HLk.out,hke],by rw [HLk.out];exact hk,HUB.out,HSZ.out,HNil.out,HCU.out.on2 HLT.out F2.two1 R2⟩
     · have HK:=Lib.hid (show (u.ok.k == 0) = false by rw [beq_eq_false_iff_ne];exact hz)
       have HE:=Lib.hid (show foldersGo n s3 [] = (L,u.ok) by rw [HGo.out,foldersGo_bad hz])
       have HZ:=Lib.hid hz
       clear hz
       go_wp2_with (go_at_call 37;refine (ok_any _ p cp q u _ HCU.out.rd).mono ?_;rw [HK.out];rintro e w2 ⟨rfl,R2,F2⟩)
       go_meet
       case rel => exact ⟨rows,L,_,u.ok,HE.out,Rs.ok_ok u,fun h => absurd h HZ.out,by rw [HLk.out];exact hk,HUB.out,HSZ.out,HNil.out,HCU.out.on2 HLT.out F2.two1 R2⟩
 case rest =>
 clear C1
 obtain ⟨rows,L,fv,t,hgo,hto,hlen,hle,htb,hsz,hnil,C2⟩:=hcut
 have HGo:=Lib.hid hgo
 have HLN:=Lib.hid (show (t.must 12).ok.k = 0 → L.length = n from fun h => hlen (bad_stays t 12 h))
 have HLe:=Lib.hid (show L.length ≤ 10000000 from Nat.le_trans hle HNL.out)
 have HTB:=Lib.hid htb
 have HTB2:=Lib.hid (show (t.must 12).c.b.length ≤ 10000000 by rw [must_b];exact htb)
 have HSz:=Lib.hid hsz
 have HNil:=Lib.hid hnil
 have HRL:=Lib.hid (show rows.length = L.length by have:=C2.rw.len;simpa using this)
 clear hgo hto hlen hle htb hsz hnil
 (refine hK1 _ _ ?_;clear hK1;refine wp_seq_k fun K2 hK2 => ?_)
 go_cut [] (fun wx => FsM w p cp q d rows (L.map bare) fv (t.must 12) wx)
 case first =>
   clear hK2
   go_wp2_with (go_at_call 105;refine (must_any _ p cp q t _ 12 C2.rd HTB.out).mono ?_;rintro e w4 ⟨rfl,R4,F4⟩)
   go_meet
   case rel => exact C2.on2 HLT.out F4 R4
 case rest =>
 clear C2
 have C3:=hcut
 clear hcut
 have HSA:=Lib.hid (show s.folders = Rs.foldersB (sizesGo L (t.must 12) []).1 n (sizesGo L (t.must 12) []).2.byte.1 (sizesGo L (t.must 12) []).2.byte.2 by rw [HS.out,Rs.foldersA,HGo.out])
 generalize t.must 12 = t' at *
 (refine hK2 _ _ ?_;clear hK2;refine wp_seq_k fun K3 hK3 => ?_)
 go_cut [4,5] (fun _ _ wx => ∃ (rows2 : List FoRow) (D : List Folder) (t2 : Rs),sizesGo L t' [] = (D,t2) ∧ t2.ok = t2 ∧ (t2.k = 0 → D.length = n) ∧ D.length ≤ 10000000 ∧ t2.c.b.length ≤ 10000000 ∧ FsM w p cp q d rows2 (D.map bare) fv t2 wx)
 case first =>
   clear hK3
   have hnM : (n : Int) ≤ 10000000:=by have:=HNL.out;omega
   go_wp2_with fail
   go_loopw [4] (fun i wr => ∃ (k : Nat) (rows2 : List FoRow) (D : List Folder) (u : Rs),k ≤ n ∧ i = .int .i64 (k : Int) ∧ D.length = k ∧ sizesGo L t' [] = sizesGo (L.drop k) u D ∧ u.c.b.length ≤ 10000000 ∧ (u.ok.k = 0 → L.length = n) ∧ rows2.length = L.length ∧ (k = 0 ∨ k ≤ L.length) ∧ (∀ (j : Nat) r,k ≤ j → rows2[j]? = some r → r.sv = .slice none 0 0) ∧ FsM w p cp q d rows2 ((D ++ L.drop k).map bare) fv u wr) (fun i _ => n - (intOf i).toNat)
   case atStart => exact ⟨0,rows,[],t',Nat.zero_le _,rfl,rfl,by simp,HTB2.out,HLN.out,HRL.out,.inl rfl,fun j r _ hr => HNil.out r (List.mem_of_getElem? hr),C3⟩
   case round =>
     obtain ⟨k,rows2,D,u,hk,rfl,hDk,hgo,hub,hln,hRk,hkL,hnil,CU⟩:=hrel
     have HGo2:=Lib.hid hgo
     have HDk:=Lib.hid hDk
     have HUB:=Lib.hid hub
     have HRk:=Lib.hid hRk
     have HNil2:=Lib.hid hnil
     have HCU:=Lib.hid CU
     have HkL:=Lib.hid hkL
     clear hgo hDk hub hRk hnil CU hkL
     by_cases hz : u.ok.k = 0
     · have HK:=Lib.hid (show (u.ok.k == 0) = true by rw [hz];rfl)
       have HO:=Lib.hid (Rs.ok_of_zero hz)
       have HLn:=Lib.hid (hln hz)
       by_cases hlt : k < n
       · have hltI : (k : Int) < (n : Int):=by omega
         have hkl : k < L.length:=by rw [HLn.out];exact hlt
         obtain ⟨f,hf⟩:=some_get L k hkl
         have HDr:=Lib.hid (show L.drop k = f :: L.drop (k + 1) by rw [List.drop_eq_getElem_cons hkl,(List.getElem?_eq_some_iff.1 hf).2])
         have HG3:=Lib.hid (show sizesGo L t' [] = sizesGo (L.drop (k + 1)) (sizesFor f.coders.length u []).2 (D ++ [{ f with sizes:=(sizesFor f.coders.length u []).1 }]) by rw [HGo2.out,HDr.out,sizesGo_ok hz])
         obtain ⟨r,hr⟩:=some_get rows2 k (by rw [HRk.out];exact hkl)
         have HNr:=Lib.hid (HNil2.out k r (Nat.le_refl _) hr)
         have HFL:=Lib.hid (show ((D ++ L.drop k).map bare)[k]? = some (bare f) by rw [HDr.out,List.map_append,List.getElem?_append_right (by rw [List.length_map,HDk.out];exact Nat.le_refl _),List.length_map,HDk.out,Nat.sub_self];rfl)
         have HFB:=Lib.hid (show (sizesFor f.coders.length u []).2.c.b.length ≤ 10000000 by rw [sizesFor_b];exact HUB.out)
         obtain ⟨LP,-,hco,-⟩:=(HCU.out.rw.row k r (bare f) hr HFL.out).co
         obtain ⟨cao,ccap,hcv,-⟩:=hco.out
         have hkr : k < rows2.length:=(List.getElem?_eq_some_iff.1 hr).1
         obtain ⟨g,cap,rfl⟩ : ∃ g cap,fv = .slice (some ⟨g,0,none⟩) rows2.length cap:=by
           rcases HCU.out.own.2 with ⟨-,h0⟩ | ⟨g,cap,cur,h1,-⟩
           · omega
           · exact ⟨g,cap,h1⟩
         have hcell : wr.cell? ⟨g,k * 6,none⟩ = some (.slice cao f.coders.length ccap):=(HCU.out.own.cellAt (k * 6) (by omega)).trans ((foV_get rows2 k r hr 0 (by omega)).trans (congrArg some hcv))
         have HCell:=Lib.hid hcell
         have HHr:=Lib.hid hr
         have hkrI : (k : Int) < (rows2.length : Int):=by omega
         have HM8:=Lib.hid (HSz.out f (List.mem_of_getElem? hf)).2
         clear hz hln hcell hco hcv hf hr
         go_wp2_with (go_at_call 37;refine (ok_any _ p cp q u _ HCU.out.rd).mono ?_;rw [HK.out,HO.out];rintro e w2 ⟨rfl,R2,F2⟩;have C4:=HCU.out.on2 HLT.out F2.two1 R2;obtain ⟨-,-,-,-,-,-,l6,-⟩:=cells9 C4.rd.blk;have hg : w.heap.size ≤ g:=(own_ltS C4.own g rfl).1;have hgw:=(own_ltS HCU.out.own g rfl).2;have l0:=(F2.cell (p:=⟨g,k * 6,none⟩) hgw (fun hm => by have h5 : g = p:=List.mem_singleton.1 hm;have:=HLT.out;omega)).trans HCell.out)
         have HWk : w.heap.size ≤ w2.heap.size:=C4.fr.size
         have HC4:=Lib.hid C4
         have Z0:=C4.toSz HHr.out HNr.out
         have hm8 : (f.coders.length : Int) ≤ 8:=by have:=HM8.out;omega
         go_loopw [60] (fun v wq => ∃ (j : Nat) (S : List UInt64) (sv : Value) (x : Rs),j ≤ f.coders.length ∧ v = .int .i64 (j : Int) ∧ S.length = j ∧ sizesFor f.coders.length u [] = sizesFor (f.coders.length - j) x S ∧ x.c.b.length ≤ 10000000 ∧ SzM w p cp q d rows2 (.slice (some ⟨g,0,none⟩) rows2.length cap) w2 k r S sv x wq) (fun v _ => f.coders.length - (intOf v).toNat)
         case atStart => exact ⟨0,[],.slice none 0 0,u,Nat.zero_le _,rfl,rfl,rfl,HUB.out,Z0⟩
         case round =>
           obtain ⟨j,S,sv,x,hj,rfl,hSj,hsf,hxb,ZU⟩:=hrel
           obtain ⟨sao,scap,rfl,-⟩:=own_outS ZU.sz
           have HSf:=Lib.hid hsf
           have HSj:=Lib.hid hSj
           have HXB:=Lib.hid hxb
           have HZU:=Lib.hid ZU
           clear hsf hSj hxb ZU
           by_cases hlj : j < f.coders.length
           · have hljI : (j : Int) < (f.coders.length : Int):=by omega
             have HSf2:=Lib.hid (show sizesFor f.coders.length u [] = sizesFor (f.coders.length - (j + 1)) x.size.2 (S ++ [UInt64.ofNat x.size.1]) by rw [HSf.out,show f.coders.length - j = (f.coders.length - (j + 1)) + 1 by omega];rfl)
             have HZS:=Lib.hid (fun wy d (R : RdAt wy p cp q x d) => size_ok wy p cp q x d R HXB.out)
             have HXB2:=Lib.hid (show x.size.2.c.b.length ≤ 10000000 by rw [size_b];exact HXB.out)
             have HV:=Lib.hid (size_le x)
             generalize x.size.2 = x2 at *
             generalize x.size.1 = v at *
             have HVN:=Lib.hid (show ((UInt64.ofNat v).toNat : Int) = (v : Int) by have:=HV.out;simp;omega)
             go_wp2_with fail
             have Zd:=HZU.out.on2 HLT.out HWk ((Fr.refl _ _).drew) (HZU.out.rd.same Same.drew)
             have hcz : ∀ wz (Z : SzM w p cp q d rows2 (.slice (some ⟨g,0,none⟩) rows2.length cap) w2 k r S (.slice sao S.length scap) x2 wz),wz.cell? ⟨g,k * 6 + 3,none⟩ = some (.slice sao S.length scap):=fun wz Z => by
               have hk6:=(List.getElem?_eq_some_iff.1 HHr.out).1
               rw [Z.own.cellAt (k * 6 + 3) (by omega),foV_get _ k { r with sv:=.slice sao S.length scap } (by rw [List.getElem?_set,if_pos rfl,if_pos hk6]) 3 (by omega)]
               rfl
             have HCZ:=Lib.hid hcz
             have e0 : wr.drew.cell? ⟨g,k * 6 + 3,none⟩ = some (.slice sao S.length scap):=by
               have hk6:=(List.getElem?_eq_some_iff.1 HHr.out).1
               rw [Zd.own.cellAt (k * 6 + 3) (by omega),foV_get _ k { r with sv:=.slice sao S.length scap } (by rw [List.getElem?_set,if_pos rfl,if_pos hk6]) 3 (by omega)]
               rfl
             clear hcz
             go_region_law (first
               | (have hq:=Z3;refine step_append_struct sty_u64 rfl _ _ (by rfl) w2.heap.size _ _ _ (by rfl) (own_frB Z3.sz ((Fr.refl [] w3).alloc (.cells #[.int .u64 (v : Int)] 31)) (by simp)) w3.heap.size [.int .u64 (v : Int)] (by rfl) (heap_alloc_new w3 _) rfl rfl (by have:=HSj.out;omega) (by decide) (by rw [World.size_alloc];have:=Z3.old.size;omega) ?_;intro v2 w7 own7 g7;obtain ⟨vao2,vcap2,rfl,-⟩:=own_outS own7;obtain ⟨R7,k3,kz,Z7⟩:=Z3.snoc (x:=UInt64.ofNat v) HLT.out HLQ.out HWk HHr.out g7 (by rw [HVN.out];exact own7))
               | (go_simp;go_at_call 103;refine (HZS.out _ _ Zd.rd).mono ?_;rintro e w3 ⟨rfl,R3,F3⟩;have Z3:=Zd.on2 HLT.out HWk F3 R3;have e3:=HCZ.out _ Z3;have e3a : (w3.alloc (.cells #[.int .u64 (v : Int)] 31)).cell? ⟨g,k * 6 + 3,none⟩ = some (.slice sao S.length scap):=(((Fr.refl [] w3).alloc _).cell (p:=⟨g,k * 6 + 3,none⟩) (own_ltS Z3.own g rfl).2 (by simp)).trans e3))
             all_goals
               go_wp2_with fail
               go_roundw
               case rel => exact ⟨j + 1,S ++ [UInt64.ofNat v],_,x2,by omega,by go_num,by rw [List.length_append,HSj.out];rfl,HSf2.out,HXB2.out,Z7⟩
               case measure => simp [intOf];omega
           · have hje : j = f.coders.length:=by omega
             have hljI : (f.coders.length : Int) ≤ (j : Int):=by omega
             have HSE:=Lib.hid (show sizesFor f.coders.length u [] = (S,x) by rw [HSf.out,hje,Nat.sub_self];rfl)
             have FF:=HZU.out.toFs HC4.out HLT.out HHr.out HFL.out
             rw [set_bare HDk.out HDr.out] at FF
             have HFF:=Lib.hid FF
             clear FF
             go_wp2_with fail
             go_roundw
             case rel => exact ⟨k + 1,rows2.set k { r with sv:=.slice sao S.length scap },D ++ [{ f with sizes:=S }],x,by omega,by go_num,by rw [List.length_append,HDk.out];rfl,by rw [HG3.out,HSE.out],HXB.out,fun _ => HLn.out,by rw [List.length_set];exact HRk.out,.inr (by have:=HLn.out;omega),(fun i r' hi hr' => by
                 rw [List.getElem?_set,if_neg (by omega)] at hr'
                 exact HNil2.out i r' (by omega) hr'),HFF.out⟩
             case measure => simp [intOf];omega
       · have hke : k = n:=by omega
         have HE:=Lib.hid (show sizesGo L t' [] = (D,u) by rw [HGo2.out,hke,← HLn.out,List.drop_length];show (_,u.ok) = _;rw [HO.out])
         have hltI : (n : Int) ≤ (k : Int):=by omega
         have HFD:=Lib.hid (show (D ++ L.drop k).map bare = D.map bare by rw [hke,← HLn.out,List.drop_length,List.append_nil])
         clear hz hln
         go_wp2_with (go_at_call 37;refine (ok_any _ p cp q u _ HCU.out.rd).mono ?_;rw [HK.out,HO.out];rintro e w2 ⟨rfl,R2,F2⟩)
         go_meet
         case rel => exact ⟨rows2,D,u,HE.out,HO.out,fun _ => by rw [HDk.out,hke],by rw [HDk.out];exact Nat.le_trans hk HNL.out,HUB.out,by have:=HCU.out.on2 HLT.out F2.two1 R2;rw [HFD.out] at this;exact this⟩
     · have HK:=Lib.hid (show (u.ok.k == 0) = false by rw [beq_eq_false_iff_ne];exact hz)
       have HE:=Lib.hid (show sizesGo L t' [] = (D ++ L.drop k,u.ok) by rw [HGo2.out,sizesGo_bad hz])
       have HZ:=Lib.hid hz
       clear hz hln
       go_wp2_with (go_at_call 37;refine (ok_any _ p cp q u _ HCU.out.rd).mono ?_;rw [HK.out];rintro e w2 ⟨rfl,R2,F2⟩)
       go_meet
       case rel => exact ⟨rows2,D ++ L.drop k,u.ok,HE.out,Rs.ok_ok u,fun h => absurd h HZ.out,by rw [List.length_append,List.length_drop,HDk.out];have:=HkL.out;have:=HLe.out;omega,HUB.out,HCU.out.on2 HLT.out F2.two1 R2⟩
 case rest =>
 clear C3
 obtain ⟨rows2,D,t2,hsg,hto2,hdl,hd7,htb2,C4⟩:=hcut
 have HRes:=Lib.hid (show s.folders = Rs.foldersB D n t2.byte.1 t2.byte.2 by rw [HSA.out,hsg])
 have HDL:=Lib.hid (show t2.byte.2.ok.k = 0 → D.length = n from fun h => hdl (by
   have hk:=(Rs.ok_zero h).1
   exact hk))
 have HD7:=Lib.hid hd7
 have HTB3:=Lib.hid htb2
 have HTB4:=Lib.hid (show t2.byte.2.c.b.length ≤ 10000000 by rw [byte_b];exact htb2)
 clear hsg hto2 hdl hd7 htb2
 (refine hK3 _ _ ?_;clear hK3;refine wp_seq_k fun K4 hK4 => ?_)
 go_cut [6] (fun v6 wx => v6 = .int .i64 (t2.byte.1 : Int) ∧ FsM w p cp q d rows2 (D.map bare) fv t2.byte.2 wx)
 case first =>
   clear hK4
   go_wp2_with (go_at_call 34;refine (byte_any _ p cp q t2 _ C4.rd HTB3.out).mono ?_;rintro e w4 ⟨rfl,R4,F4⟩)
   go_meet
   case rel => exact ⟨rfl,C4.on2 HLT.out F4.two2 R4⟩
 case rest =>
 clear C4
 obtain ⟨rfl,C5⟩:=hcut
 generalize t2.byte.2 = u at *
 generalize t2.byte.1 = id at *
 (refine hK4 _ _ ?_;clear hK4;refine wp_seq_k fun K5 hK5 => ?_)
 go_cut [6,7,8] (fun v6 _ _ wx => ∃ (id2 : Nat) (rows3 : List FoRow) (L3 : List Fol) (u3 : Rs),v6 = .int .i64 (id2 : Int) ∧ s.folders = (L3,u3.end_ id2) ∧ FsM w p cp q d rows3 L3 fv u3 wx)
 case first =>
   clear hK5
   by_cases h10 : id = 10
   · subst h10
     by_cases hz : u.ok.k = 0
     · have HK:=Lib.hid (show (u.ok.k == 0) = true by rw [hz];rfl)
       have HO:=Lib.hid (Rs.ok_of_zero hz)
       have HDn:=Lib.hid (HDL.out hz)
       have HE:=Lib.hid (show s.folders = (withCks D (u.sums n).1,(u.sums n).2.byte.2.end_ (u.sums n).2.byte.1) by
         rw [HRes.out,Rs.foldersB,show u.at (10 == 10) = (true,u) by show ((u.ok.k == 0),u.ok) = _;rw [hz,Rs.ok_of_zero hz];rfl]
         simp only [if_true])
       have HCL:=Lib.hid (sums_len u n)
       have HSB:=Lib.hid (show (u.sums n).2.c.b.length ≤ 10000000 by rw [sums_b];exact HTB4.out)
       have HSU:=Lib.hid (fun wy d (R : RdAt wy p cp q u d) => sums_ok wy p cp q u d n R HTB4.out HNL.out)
       clear hz
       generalize (u.sums n).2 = u1 at *
       generalize (u.sums n).1 = cs at *
       have hcI : (cs.length : Int) ≤ 10000000:=by have:=HCL.out;have:=HNL.out;omega
       go_wp2_with (first
         | (have hq:=C7;go_at_call 104;refine (HSU.out _ _ C7.rd).mono ?_;rintro e w7 ⟨⟨v,rfl,hv⟩,R7,F7⟩;have C8:=C7.on2 HLT.out F7 R7;obtain ⟨vao,vcap,rfl,-⟩:=hv.out)
         | (go_at_call 37;refine (ok_any _ p cp q u _ C5.rd).mono ?_;rw [HK.out,HO.out];rintro e w6 ⟨rfl,R6,F6⟩;have C7:=C5.on2 HLT.out F6.two1 R6))
       have hR2 : rows2.length = D.length:=by have:=C5.rw.len;simpa using this
       go_loopw [86] (fun v wr => ∃ (k : Nat) (rows3 : List FoRow),k ≤ cs.length ∧ v = .int .i64 (k : Int) ∧ rows3.length = D.length ∧ Sm wr w6.heap.size 68 2 (.slice vao cs.length vcap) cs.length (ckV cs) ∧ FsM w p cp q d rows3 (withCks D (cs.take k)) fv u1 wr) (fun v _ => cs.length - (intOf v).toNat)
       case atStart => exact ⟨0,rows2,Nat.zero_le _,rfl,hR2,hv,by rw [List.take_zero,withCks_nil];exact C8⟩
       case round =>
         obtain ⟨k,rows3,hk,rfl,hR3,hv3,CU⟩:=hrel
         have HR3:=Lib.hid hR3
         have HV3:=Lib.hid hv3
         have HCU:=Lib.hid CU
         clear hv hR3 CU
         by_cases hlt : k < cs.length
         · have hltI : (k : Int) < (cs.length : Int):=by omega
           obtain ⟨c,hc⟩:=some_get cs k hlt
           have hkD : k < D.length:=by rw [HDn.out];have:=HCL.out;omega
           obtain ⟨f,hf⟩:=some_get D k hkD
           obtain ⟨r,hr⟩:=some_get rows3 k (by rw [HR3.out];exact hkD)
           obtain ⟨x1,x2,he,-,-,ho⟩:=hv3.out
           obtain ⟨b,o,rfl,hblo,hb,hcell⟩:=ho k hlt
           injection he with e1 e2 e3
           subst e1
           have c0 : wr.cell? ⟨b,o + k * 2,none⟩ = some (.bool c.has):=(hcell (k * 2) (by omega)).trans (ckV_get cs k c hc).1
           have c1 : wr.cell? ⟨b,o + k * 2 + 1,none⟩ = some (.int .u32 c.sum.toNat):=by
             have:=(hcell (k * 2 + 1) (by omega)).trans (ckV_get cs k c hc).2
             rwa [← Nat.add_assoc] at this
           have hkr : k < rows3.length:=(List.getElem?_eq_some_iff.1 hr).1
           obtain ⟨g,cap,rfl⟩ : ∃ g cap,fv = .slice (some ⟨g,0,none⟩) rows3.length cap:=by
             rcases HCU.out.own.2 with ⟨-,h0⟩ | ⟨g,cap,cur,h1,-⟩
             · omega
             · exact ⟨g,cap,h1⟩
           have hkrI : (k : Int) < (rows3.length : Int):=by omega
           have CA:=HCU.out.fr0 ((Fr.refl [] wr).alloc (.cells #[.bool c.has,.int .u32 c.sum.toNat] 68))
           have a6:=(cells9 CA.rd.blk).2.2.2.2.2.2.1
           have m4 : (wr.alloc (.cells #[.bool c.has,.int .u32 c.sum.toNat] 68)).cell? ⟨g,k * 6 + 4,none⟩ = some (.bool r.has):=(CA.own.cellAt (k * 6 + 4) (by omega)).trans ((foV_get rows3 k r hr 4 (by omega)).trans rfl)
           have m5 : (wr.alloc (.cells #[.bool c.has,.int .u32 c.sum.toNat] 68)).cell? ⟨g,k * 6 + 5,none⟩ = some (.int .u32 r.sum.toNat):=(CA.own.cellAt (k * 6 + 5) (by omega)).trans ((foV_get rows3 k r hr 5 (by omega)).trans rfl)
           have mz:=fun j => CA.own.frozenAt j
           have HC:=Lib.hid (And.intro hc (And.intro hf hr))
           have HCA:=Lib.hid CA
           clear hcell ho e2 e3 hc hf hr hv3 CA
           go_wp2_with fail
           go_region
           go_wp2_with fail
           have hx1 : (withCks D (cs.take k))[k]? = some ⟨f,(cs.take k).getD k ⟨false,0⟩⟩:=by rw [withCks_get,HC.out.2.1];rfl
           have CK:=HCA.out.check HLT.out HLQ.out HC.out.2.2 hx1 c
           rw [withCks_set D cs k f c HC.out.2.1 HC.out.1] at CK
           have CKd:=CK.on2 HLT.out ((Fr.refl _ _).drew) (CK.rd.same Same.drew)
           have hgb:=own_ltS HCU.out.own g rfl
           have VF : Sm (wr.alloc (.cells #[.bool c.has,.int .u32 c.sum.toNat] 68)) w6.heap.size 68 2 (.slice (some ⟨b,o,none⟩) cs.length vcap) cs.length (ckV cs):=HV3.out.fr0 ((Fr.refl _ _).alloc _)
           have hgt : Typed (wr.alloc (.cells #[.bool c.has,.int .u32 c.sum.toNat] 68)) g 70:=own_typed HCA.out.own g (by simp [Value.ownBlock])
           have FG : Fr [g] (wr.alloc (.cells #[.bool c.has,.int .u32 c.sum.toNat] 68)) (((wr.alloc (.cells #[.bool c.has,.int .u32 c.sum.toNat] 68)).setCell ⟨g,k * 6 + 4,none⟩ (.bool c.has)).setCell ⟨g,k * 6 + 5,none⟩ (.int .u32 c.sum.toNat)).drew:=(((Fr.refl _ _).setCell (by simp) _).setCell (by simp) _).drew
           have VG:=VF.frT FG (fun i hi => .inr (by rw [List.mem_singleton.1 hi];exact hgt.ne (by decide)))
           go_roundw
           case rel => exact ⟨k + 1,_,by omega,by go_num,by rw [List.length_set];exact HR3.out,VG,CKd⟩
           case measure => simp [intOf];omega
         · have hke : k = cs.length:=by omega
           have hltI : (cs.length : Int) ≤ (k : Int):=by omega
           have CE:=HCU.out
           rw [hke,withCks_all] at CE
           have HBY:=Lib.hid (byte_any wr p cp q u1 _ CE.rd HSB.out)
           go_wp2_with (go_at_call 34;refine HBY.out.mono ?_;rintro e w9 ⟨rfl,R9,F9⟩)
           go_meet
           case rel => exact ⟨_,rows3,_,_,rfl,HE.out,CE.on2 HLT.out F9.two2 R9⟩
     · have HK:=Lib.hid (show (u.ok.k == 0) = false by rw [beq_eq_false_iff_ne];exact hz)
       have HE:=Lib.hid (show s.folders = (D.map bare,u.ok.end_ 10) by
         rw [HRes.out,Rs.foldersB,show u.at (10 == 10) = (false,u.ok) by show ((u.ok.k == 0),u.ok) = _;rw [beq_eq_false_iff_ne.2 hz]]
         simp only [Bool.false_eq_true,if_false,withCks_nil])
       clear hz
       go_wp2_with (go_at_call 37;refine (ok_any _ p cp q u _ C5.rd).mono ?_;rw [HK.out];rintro e w6 ⟨rfl,R6,F6⟩)
       go_meet
       case rel => exact ⟨10,rows2,_,u.ok,rfl,HE.out,C5.on2 HLT.out F6.two1 R6⟩
   · have t0 : ((id : Int) == 10) = false:=by rw [beq_eq_false_iff_ne];omega
     have HE:=Lib.hid (show s.folders = (D.map bare,u.end_ id) by
       rw [HRes.out,Rs.foldersB,show (id == 10) = false from by simpa using h10,Rs.at_false]
       simp only [Bool.false_eq_true,if_false,withCks_nil])
     clear h10
     go_wp2_with fail
     go_meet
     case rel => exact ⟨id,rows2,_,u,rfl,HE.out,C5⟩
 case rest =>
 obtain ⟨id2,rows3,L3,u3,rfl,hres,C6⟩:=hcut
 have HRs:=Lib.hid hres
 clear hres C5
 go_wp2_with (first
   | (go_at_call 72;refine (end_any _ p cp q u3 _ id2 C6.rd).mono ?_;rintro e w7 ⟨rfl,R7,F7⟩))
 go_end0
 exact ⟨rfl,rows3,fv,by rw [HRs.out];exact C6.on2 HLT.out F7 R7⟩
end Go.Proofs.YtkodindajfdagaaGreatDoor
