/- Contract: the reader's sums. No condition but that lengths fit. -/
import Derived.Test.YtkodindajfdagaaGreatDoorHCellsM
import Derived.Test.YtkodindajfdagaaGreatDoorJG
import Derived.Test.YtkodindajfdagaaGreatDoorHSmM
import Derived.Test.YtkodindajfdagaaGreatDoorJF
import Derived.Deep.DeepCutAuto
namespace Go.Proofs.YtkodindajfdagaaGreatDoor
open Go.RowKit
theorem bits_b (c : Cur) (n : Int) : (c.bits n).2.b = c.b:=by
 unfold Cur.bits Cur.fail
 split
 · rfl
 · split <;> rfl
theorem told_b (c : Cur) (n : Int) : (c.told n).2.b = c.b:=by
 unfold Cur.told
 split
 · rfl
 · split
   · rfl
   · split
     · split
       · exact bits_b _ n
       · exact bits_b _ n
     · rfl
theorem bits_len (c : Cur) (n : Int) : (c.bits n).1.length ≤ n.toNat:=by
 unfold Cur.bits
 split
 · simp
 · split
   · simp
   · simp [unpack]
theorem told_len (c : Cur) (n : Int) : (c.told n).1.length ≤ n.toNat:=by
 unfold Cur.told
 split
 · simp
 · split
   · simp
   · split
     · split
       · simp
       · exact bits_len _ n
     · simp
theorem two_lt {p cp b : Nat} (h : p < b ∧ cp < b) : ∀ i ∈ [p,cp],i < b:=by simp;exact h
theorem RdAt.qlt {w : World} {p cp : Nat} {q : Option Nat} {s : Rs} {d : DV} (h : RdAt w p cp q s d) : ∀ k,q = some k → k < w.heap.size:=h.ql
theorem RdAt.grownB {w w' : World} {p cp : Nat} {q : Option Nat} {s : Rs} {d : DV} {base e m n : Nat} {v : Value} {xs : List Value} {w0 : World} (h : RdAt w p cp q s d) (hg : w.grownBy w' v.ownBlock) (own : w0.ownsRow base e m v n xs) (h1 : p < base) (h2 : cp < base) (h3 : ∀ k,q = some k → k < base) : RdAt w' p cp q s d:=by
 have hb : ∀ k,v.ownBlock = some k → base ≤ k:=fun k hk => (own_ltS own k hk).1
 have F : Fr v.ownBlock.toList w w':=(Fr.refl _ _).grown hg (fun k hk => .inl (by rw [hk];simp))
 refine h.fr F ?_ ?_ ?_
 · intro hm;have:=hb p (by simpa using hm);omega
 · intro hm;have:=hb cp (by simpa using hm);omega
 · intro k hk hm;have:=hb k (by simpa using hm);have:=h3 k hk;omega
def sumsL : List Bool → Rs → List Ck → List Ck × Rs
 | [],s,out => (out,s.ok)
 | h :: t,s,out =>
   if (if h then (s.num 4).2 else s).ok.k ≠ 0 then ([],(if h then (s.num 4).2 else s).ok)
   else sumsL t (if h then (s.num 4).2 else s).ok (out ++ [⟨h,UInt32.ofNat (if h then (s.num 4).1 else 0)⟩])
theorem sumsL_false (t : List Bool) (s : Rs) (out : List Ck) : sumsL (false :: t) s out = if s.ok.k ≠ 0 then ([],s.ok) else sumsL t s.ok (out ++ [⟨false,0⟩]):=rfl
theorem sumsL_true (t : List Bool) (s : Rs) (out : List Ck) : sumsL (true :: t) s out = if (s.num 4).2.ok.k ≠ 0 then ([],(s.num 4).2.ok) else sumsL t (s.num 4).2.ok (out ++ [⟨true,UInt32.ofNat (s.num 4).1⟩]):=rfl
def Rs.told (s : Rs) (n : Int) : List Bool × Rs:=((s.c.told n).1,{ s with c:=(s.c.told n).2 })
def Rs.sums (s : Rs) (n : Nat) : List Ck × Rs:=sumsL (s.told n).1 (s.told n).2 []
def SumsR (w : World) (p cp : Nat) (q : Option Nat) (r : List Ck × Rs) (d : DV) (e : Ending) (w' : World) : Prop :=
 (∃ v,e = .returned v ∧ Sm w' w.heap.size 68 2 v r.1.length (ckV r.1)) ∧ RdAt w' p cp q r.2 d ∧ Fr [p,cp] w w'
theorem num4_lt (s : Rs) : (s.num 4).1 < 4294967296:=by
 have h1 : (s.c.take 4).1.length ≤ 4:=by unfold Cur.take;split <;> simp;omega
 have h2:=leNat_lt (s.c.take 4).1
 show (s.c.num 4).1 < 4294967296
 have e : (s.c.num 4).1 = leNat (s.c.take 4).1:=rfl
 rw [e]
 have : 256 ^ (s.c.take 4).1.length ≤ 256 ^ 4:=Nat.pow_le_pow_right (by omega) h1
 omega
set_option maxRecDepth 100000 in
set_option maxHeartbeats 2000000 in
theorem sums_big (w : World) (p cp : Nat) (q : Option Nat) (s : Rs) (d : DV) (n : Nat) (h : RdAt w p cp q s d) (hb : s.c.b.length ≤ 10000000) (hn : n ≤ 16500000000000) :
   Calls Tryz.prog 104 #[.pointer (some ⟨p,0,none⟩),.int .i64 (n : Int)] w (SumsR w p cp q (s.sums n) d):=by
 obtain ⟨c0,-⟩:=cells9 h.blk
 have HR0:=Lib.hid h
 have HB:=Lib.hid (show s.c.b.length ≤ 140737488355328 / 16 by omega)
 have HTL:=Lib.hid (show (s.told n).1.length ≤ n from Nat.le_trans (told_len s.c n) (by simp))
 have HTB:=Lib.hid (show (s.told n).2.c.b.length ≤ 10000000 by rw [show (s.told n).2.c.b = s.c.b from told_b s.c n];exact hb)
 have HN:=Lib.hid hn
 have HS:=Lib.hid (show s.sums n = sumsL (s.told n).1 (s.told n).2 [] from rfl)
 have HT1:=Lib.hid (show (s.c.told n).1 = (s.told n).1 from rfl)
 have HT2:=Lib.hid (show ({ s with c:=(s.c.told n).2 } : Rs) = (s.told n).2 from rfl)
 have HLT:=Lib.hid (And.intro h.lt h.cur.lt)
 have HLQ:=Lib.hid h.qlt
 clear h hb hn
 generalize (s.told n).1 = hs at *
 generalize (s.told n).2 = t at *
 obtain ⟨N,hN⟩ : ∃ N,hs.length = N:=⟨_,rfl⟩
 rw [hN] at HTL
 have HNN:=Lib.hid hN
 go_enter Tryz.func104,Tryz.ntmps104
 go_wp2_with (go_at_call 131;refine (told_any _ cp q s.c n (by have:=HN.out;omega) HR0.out.cur HB.out).mono ?_;intro e w1 h1;unfold TakeBits at h1;rw [HT1.out,hN] at h1;obtain ⟨bv1,rfl,own1,hC,F1⟩:=h1;have R1:=HR0.out.cur' F1 hC;rw [HT2.out] at R1;obtain ⟨bao,bcap,rfl,-⟩:=own_outS own1)
 have HSl:=Lib.hid (Sm.of_own w.heap.size own1 (Nat.le_refl _))
 have hNM : (N : Int) ≤ 16500000000000:=by have:=HTL.out;have:=HN.out;omega
 have HF1:=Lib.hid F1
 clear own1 hC hN
 go_loopw [5,16] (fun out i wr => ∃ (k : Nat) (L : List Ck) (u : Rs),k ≤ N ∧ i = .int .i64 ((k : Int)) ∧ L.length = k ∧ sumsL hs t [] = sumsL (hs.drop k) u L ∧ u.c.b.length ≤ 10000000 ∧ wr.ownsRow w1.heap.size 68 2 out k (ckV L) ∧ RdAt wr p cp q u d ∧ Fr [p,cp] w1 wr) (fun _ i _ => N - (intOf i).toNat)
 case atStart => exact ⟨0,[],t,Nat.zero_le _,rfl,rfl,by simp,HTB.out,World.ownsRow_nil _ _ _ _,R1,Fr.refl _ _⟩
 case round =>
   obtain ⟨k,L,u,hk,rfl,hLk,hsum,hub,own,RU,F⟩:=hrel
   obtain ⟨oao,ocap,rfl,-⟩:=own_outS own
   have HOwn:=Lib.hid own
   have HU:=Lib.hid RU
   have HUB:=Lib.hid hub
   have HLK:=Lib.hid hLk
   have HF:=Lib.hid F
   have hplt : p < w1.heap.size ∧ cp < w1.heap.size:=by have:=HLT.out;have:=HF1.out.size;omega
   have HW1:=Lib.hid hplt
   clear own RU hub hLk F hplt
   by_cases hlt : k < N
   · obtain ⟨x,hx⟩:=some_get hs k (by rw [HNN.out];exact hlt)
     have hltI : (k : Int) < (N : Int):=by omega
     have HD:=Lib.hid (show hs.drop k = x :: hs.drop (k + 1) by rw [List.drop_eq_getElem_cons (by rw [HNN.out];exact hlt),(List.getElem?_eq_some_iff.1 hx).2])
     rw [HD.out] at hsum
     have HSum:=Lib.hid hsum
     clear hsum
     obtain ⟨b1,o1,rfl,hb1,hcl⟩ : ∃ b o,bao = some ⟨b,o,none⟩ ∧ (w.heap.size ≤ b ∧ b < w1.heap.size) ∧ w1.cell? ⟨b,o + k,none⟩ = some (.bool x):=by
       obtain ⟨ao',cap',he,-,-,ho⟩:=HSl.out.out
       injection he with e1 e2 e3
       obtain ⟨b,o,hbo,hlo,hb,hc⟩:=ho k hlt
       exact ⟨b,o,e1.trans hbo,⟨hlo,hb⟩,(hc k (by omega)).trans (tv_get _ _ _ hx)⟩
     have f0 : wr.cell? ⟨b1,o1 + k,none⟩ = some (.bool x):=(HF.out.cell (p:=⟨b1,o1 + k,none⟩) hb1.2 (by simp;have:=HLT.out;omega)).trans hcl
     clear hcl hx
     obtain ⟨wA,hwA⟩ : ∃ wA,wA = wr.alloc (.cells #[.bool x,.int .u32 0] 68):=⟨_,rfl⟩
     obtain ⟨g,hg⟩ : ∃ g,wr.heap.size = g:=⟨_,rfl⟩
     have hgA : wA.heap[g]? = some (.cells #[.bool x,.int .u32 0] 68 (0,0)):=by rw [hwA,← hg];exact heap_alloc_new wr _
     have FA : Fr [] wr wA:=hwA ▸ (Fr.refl _ _).alloc _
     have RA:=HU.out.fr0 FA
     have HGp:=Lib.hid (show g ≠ p ∧ g ≠ cp ∧ g < wA.heap.size ∧ w1.heap.size ≤ g by
       have:=HW1.out;have:=HF.out.size
       have:=(Array.getElem?_eq_some_iff.1 hgA).1
       omega)
     have HF0:=Lib.hid (F1.two2 (p:=p))
     have HQ:=Lib.hid (show ∀ k,q = some k → k < w1.heap.size from fun j hj => by have:=HLQ.out j hj;have:=HF1.out.size;omega)
     have HQG:=Lib.hid (show ∀ k,q = some k → k ≠ g from fun j hj e => by have:=HQ.out j hj;have:=HGp.out;omega)
     cases x with
     | false =>
       by_cases hz : u.ok.k = 0
       · have HO:=Lib.hid (Rs.ok_of_zero hz)
         have HK:=Lib.hid (show (u.ok.k == 0) = true by rw [hz];rfl)
         have HE:=Lib.hid (show sumsL (false :: hs.drop (k + 1)) u L = sumsL (hs.drop (k + 1)) u (L ++ [⟨false,0⟩]) by rw [sumsL_false,if_neg (by simp [hz]),Rs.ok_of_zero hz])
         clear hz
         go_wp2_with (first
           | (at_builtin;refine wpList_append_small sty_ck rfl _ _ (by rfl) w1.heap.size _ _ _ (by rfl) own4 w4.heap.size [.bool false,.int .u32 0] (by rfl) hgS rfl rfl (by omega) (by decide) sz4 ?_;intro v2 w6 own6 g6;obtain ⟨vao2,vcap2,rfl,-⟩:=own_outS own6;have F06 : Fr [p,cp] w1 w6:=(F04.alloc _).grown g6 (fun t ht => .inr (own_ltS own4 t ht).1);have R6:=(R4.fr0 ((Fr.refl _ _).alloc _)).grownB g6 own4 HW1.out.1 HW1.out.2 HQ.out)
           | (go_at_call 37;rw [← hwA];refine (ok_any _ p cp q u d RA).mono ?_;rw [HK.out,HO.out];rintro e w4 ⟨rfl,R4,F4⟩;have hg4 : w4.heap[g]? = some (.cells #[.bool false,.int .u32 0] 68 (0,0)):=(F4.block g HGp.out.2.2.1 (fun hm => HGp.out.1 (List.mem_singleton.1 hm))).trans hgA;have e0 : w4.cell? ⟨g,0,none⟩ = some (.bool false):=(by simp [Go.Joins.cell_of_block hg4]);have e1 : w4.cell? ⟨g,1,none⟩ = some (.int .u32 0):=(by simp [Go.Joins.cell_of_block hg4]);have F04 : Fr [p,cp] w1 w4:=(HF.out.trans0 FA).tr2 F4.two1;have own4:=own_frB HOwn.out ((Fr.tr2 (p:=p) (cp:=cp) (FA.mono (by simp)) F4.two1).alloc (.cells #[.bool false,.int .u32 0] 68)) (two_lt HW1.out);have hgS:=heap_alloc_new w4 (.cells #[.bool false,.int .u32 0] 68);have sz4 : w1.heap.size ≤ (w4.alloc (.cells #[.bool false,.int .u32 0] 68)).heap.size:=(by rw [World.size_alloc];have:=F04.size;omega)))
         go_roundw
         case rel => exact ⟨k + 1,L ++ [⟨false,0⟩],u,by omega,by go_num,by rw [List.length_append,HLK.out];rfl,by rw [HSum.out,HE.out],HUB.out,by rw [ckV_append];exact own6,R6,F06⟩
         case measure => simp [intOf];omega
       · have HK:=Lib.hid (show (u.ok.k == 0) = false by rw [beq_eq_false_iff_ne];exact hz)
         have HE:=Lib.hid (show sumsL (false :: hs.drop (k + 1)) u L = ([],u.ok) by rw [sumsL_false,if_pos hz])
         clear hz
         go_wp2_with (first
           | (go_at_call 37;rw [← hwA];refine (ok_any _ p cp q u d RA).mono ?_;rw [HK.out];rintro e w4 ⟨rfl,R4,F4⟩;have hg4 : w4.heap[g]? = some (.cells #[.bool false,.int .u32 0] 68 (0,0)):=(F4.block g HGp.out.2.2.1 (fun hm => HGp.out.1 (List.mem_singleton.1 hm))).trans hgA;have e0 : w4.cell? ⟨g,0,none⟩ = some (.bool false):=(by simp [Go.Joins.cell_of_block hg4]);have e1 : w4.cell? ⟨g,1,none⟩ = some (.int .u32 0):=(by simp [Go.Joins.cell_of_block hg4]);have F04 : Fr [p,cp] w1 w4:=(HF.out.trans0 FA).tr2 F4.two1;have own4:=own_frB HOwn.out ((Fr.tr2 (p:=p) (cp:=cp) (FA.mono (by simp)) F4.two1).alloc (.cells #[.bool false,.int .u32 0] 68)) (two_lt HW1.out);have hgS:=heap_alloc_new w4 (.cells #[.bool false,.int .u32 0] 68);have sz4 : w1.heap.size ≤ (w4.alloc (.cells #[.bool false,.int .u32 0] 68)).heap.size:=(by rw [World.size_alloc];have:=F04.size;omega)))
         go_ret
         exact ⟨⟨_,by rfl,by rw [HS.out,HSum.out,HE.out];exact Sm.nil _ _ _ _⟩,by rw [HS.out,HSum.out,HE.out];exact R4,HF0.out.tr2 F04⟩
     | true =>
       have a0 : (wr.alloc (.cells #[.bool true,.int .u32 0] 68)).cell? ⟨p,0,none⟩ = some (.pointer (some ⟨cp,0,none⟩)):=hwA ▸ (cells9 RA.blk).1
       obtain ⟨v,hv⟩ : ∃ v,(u.num 4).1 = v:=⟨_,rfl⟩
       obtain ⟨t4,ht4⟩ : ∃ t4,(u.num 4).2 = t4:=⟨_,rfl⟩
       have hw4 : IntKind.u32.wrap (v : Int) = (v : Int):=IntWalk.u32_in _ (by have:=num4_lt u;omega)
       have HV:=Lib.hid (show (u.c.num 4).1 = v from hv)
       have HU4:=Lib.hid (show ({ u with c:=(u.c.num 4).2 } : Rs) = t4 from ht4)
       have HUB2:=Lib.hid (show u.c.b.length ≤ 140737488355328 by have:=HUB.out;omega)
       have HUB4:=Lib.hid (show t4.c.b.length ≤ 10000000 by rw [← ht4];show (u.c.num 4).2.b.length ≤ 10000000;rw [num_b];exact HUB.out)
       have HST:=Lib.hid (sumsL_true (hs.drop (k + 1)) u L)
       rw [hv,ht4] at HST
       have HVN:=Lib.hid (show ((UInt32.ofNat v).toNat : Int) = (v : Int) by have:=num4_lt u;rw [hv] at this;simp;omega)
       clear hv ht4
       by_cases hz : t4.ok.k = 0
       · have HO:=Lib.hid (Rs.ok_of_zero hz)
         have HK:=Lib.hid (show (t4.ok.k == 0) = true by rw [hz];rfl)
         have HE:=Lib.hid (show sumsL (true :: hs.drop (k + 1)) u L = sumsL (hs.drop (k + 1)) t4 (L ++ [⟨true,UInt32.ofNat v⟩]) by rw [HST.out,if_neg (by simp [hz]),Rs.ok_of_zero hz])
         clear hz
         go_wp2_with (first
           | (at_builtin;refine wpList_append_small sty_ck rfl _ _ (by rfl) w1.heap.size _ _ _ (by rfl) own4 w4.heap.size [.bool true,.int .u32 (v : Int)] (by rfl) hgS rfl rfl (by omega) (by decide) sz4 ?_;intro v2 w6 own6 g6;obtain ⟨vao2,vcap2,rfl,-⟩:=own_outS own6;have F06 : Fr [p,cp] w1 w6:=(F04.alloc _).grown g6 (fun t ht => .inr (own_ltS own4 t ht).1);have R6:=(R4.fr0 ((Fr.refl _ _).alloc _)).grownB g6 own4 HW1.out.1 HW1.out.2 HQ.out)
           | (go_at_call 37;  have R3:=R2.fr ((Fr.refl [g] w2).setCell (p:=⟨g,1,none⟩) (by simp) (.int .u32 (v : Int))) (by simp;exact fun e => HGp.out.1 e.symm) (by simp;exact fun e => HGp.out.2.1 e.symm) (by simpa using HQG.out);refine (ok_any _ p cp q t4 d R3).mono ?_;rw [HK.out,HO.out];rintro e w4 ⟨rfl,R4,F4⟩;have hg4 : w4.heap[g]? = some (.cells #[.bool true,.int .u32 (v : Int)] 68 (0,0)):=(F4.block g (by have:=HGp.out;have:=F2.size;simp;omega) (fun hm => HGp.out.1 (List.mem_singleton.1 hm))).trans (Go.Joins.block_setCell hg2 _);have e0 : w4.cell? ⟨g,0,none⟩ = some (.bool true):=(by simp [Go.Joins.cell_of_block hg4]);have e1 : w4.cell? ⟨g,1,none⟩ = some (.int .u32 (v : Int)):=(by simp [Go.Joins.cell_of_block hg4]);have F04 : Fr [p,cp] w1 w4:=(((HF.out.trans0 FA).tr2 F2.two2).setCell (p:=⟨g,1,none⟩) (.inr HGp.out.2.2.2) _).tr2 F4.two1;have own4:=own_frB HOwn.out ((Fr.tr2 (p:=p) (cp:=cp) ((Fr.tr2 (p:=p) (cp:=cp) (FA.mono (by simp)) F2.two2).setCell (p:=⟨g,1,none⟩) (.inr (by show wr.heap.size ≤ g;omega)) _) F4.two1).alloc (.cells #[.bool true,.int .u32 (v : Int)] 68)) (two_lt HW1.out);have hgS:=heap_alloc_new w4 (.cells #[.bool true,.int .u32 (v : Int)] 68);have sz4 : w1.heap.size ≤ (w4.alloc (.cells #[.bool true,.int .u32 (v : Int)] 68)).heap.size:=(by rw [World.size_alloc];have:=F04.size;omega))
           | (go_at_call 27;rw [← hwA];refine (num_any _ cp q u.c 4 RA.cur HUB2.out).mono ?_;rw [HV.out];rintro e w2 ⟨rfl,hC2,F2⟩;have R2:=RA.cur' F2 hC2;rw [HU4.out] at R2;have hg2 : w2.heap[g]? = some (.cells #[.bool true,.int .u32 0] 68 (0,0)):=(F2.block g HGp.out.2.2.1 (fun hm => HGp.out.2.1 (List.mem_singleton.1 hm))).trans hgA;have i1 : w2.cell? ⟨g,1,none⟩ = some (.int .u32 0):=(by simp [Go.Joins.cell_of_block hg2]);have iz:=Go.Joins.unfrozen_of_block hg2 1))
         go_roundw
         case rel => exact ⟨k + 1,L ++ [⟨true,UInt32.ofNat v⟩],t4,by omega,by go_num,by rw [List.length_append,HLK.out];rfl,by rw [HSum.out,HE.out],HUB4.out,by rw [ckV_append];simp only [ckV,List.flatMap_cons,List.flatMap_nil,List.append_nil,HVN.out];exact own6,R6,F06⟩
         case measure => simp [intOf];omega
       · have HK:=Lib.hid (show (t4.ok.k == 0) = false by rw [beq_eq_false_iff_ne];exact hz)
         have HE:=Lib.hid (show sumsL (true :: hs.drop (k + 1)) u L = ([],t4.ok) by rw [HST.out,if_pos hz])
         clear hz
         go_wp2_with (first
           | (go_at_call 37;  have R3:=R2.fr ((Fr.refl [g] w2).setCell (p:=⟨g,1,none⟩) (by simp) (.int .u32 (v : Int))) (by simp;exact fun e => HGp.out.1 e.symm) (by simp;exact fun e => HGp.out.2.1 e.symm) (by simpa using HQG.out);refine (ok_any _ p cp q t4 d R3).mono ?_;rw [HK.out];rintro e w4 ⟨rfl,R4,F4⟩;have hg4 : w4.heap[g]? = some (.cells #[.bool true,.int .u32 (v : Int)] 68 (0,0)):=(F4.block g (by have:=HGp.out;have:=F2.size;simp;omega) (fun hm => HGp.out.1 (List.mem_singleton.1 hm))).trans (Go.Joins.block_setCell hg2 _);have e0 : w4.cell? ⟨g,0,none⟩ = some (.bool true):=(by simp [Go.Joins.cell_of_block hg4]);have e1 : w4.cell? ⟨g,1,none⟩ = some (.int .u32 (v : Int)):=(by simp [Go.Joins.cell_of_block hg4]);have F04 : Fr [p,cp] w1 w4:=(((HF.out.trans0 FA).tr2 F2.two2).setCell (p:=⟨g,1,none⟩) (.inr HGp.out.2.2.2) _).tr2 F4.two1;have own4:=own_frB HOwn.out ((Fr.tr2 (p:=p) (cp:=cp) ((Fr.tr2 (p:=p) (cp:=cp) (FA.mono (by simp)) F2.two2).setCell (p:=⟨g,1,none⟩) (.inr (by show wr.heap.size ≤ g;omega)) _) F4.two1).alloc (.cells #[.bool true,.int .u32 (v : Int)] 68)) (two_lt HW1.out);have hgS:=heap_alloc_new w4 (.cells #[.bool true,.int .u32 (v : Int)] 68);have sz4 : w1.heap.size ≤ (w4.alloc (.cells #[.bool true,.int .u32 (v : Int)] 68)).heap.size:=(by rw [World.size_alloc];have:=F04.size;omega))
           | (go_at_call 27;rw [← hwA];refine (num_any _ cp q u.c 4 RA.cur HUB2.out).mono ?_;rw [HV.out];rintro e w2 ⟨rfl,hC2,F2⟩;have R2:=RA.cur' F2 hC2;rw [HU4.out] at R2;have hg2 : w2.heap[g]? = some (.cells #[.bool true,.int .u32 0] 68 (0,0)):=(F2.block g HGp.out.2.2.1 (fun hm => HGp.out.2.1 (List.mem_singleton.1 hm))).trans hgA;have i1 : w2.cell? ⟨g,1,none⟩ = some (.int .u32 0):=(by simp [Go.Joins.cell_of_block hg2]);have iz:=Go.Joins.unfrozen_of_block hg2 1))
         go_ret
         exact ⟨⟨_,by rfl,by rw [HS.out,HSum.out,HE.out];exact Sm.nil _ _ _ _⟩,by rw [HS.out,HSum.out,HE.out];exact R4,HF0.out.tr2 F04⟩
   · have hke : k = N:=by omega
     have HE:=Lib.hid (show sumsL (hs.drop k) u L = (L,u.ok) by rw [List.drop_of_length_le (by rw [HNN.out];omega)];rfl)
     have HSum:=Lib.hid hsum
     have hltI : (N : Int) ≤ (k : Int):=by omega
     clear hsum
     go_wp2_with (go_at_call 37;refine (ok_any _ p cp q u d HU.out).mono ?_;rintro e w4 ⟨rfl,R4,F4⟩)
     go_ret
     refine ⟨⟨_,by rfl,?_⟩,by rw [HS.out,HSum.out,HE.out];exact R4,F1.two2.tr2 (HF.out.tr2 F4.two1)⟩
     rw [HS.out,HSum.out,HE.out]
     show Sm w4 w.heap.size 68 2 (Value.slice oao N ocap) L.length (ckV L)
     have h6:=own_frB HOwn.out F4 (by simp;exact HW1.out.1)
     have h7:=Sm.of_own w.heap.size h6 F1.size
     rw [HLK.out]
     subst hke
     exact h7
theorem sums_any (w : World) (p cp : Nat) (q : Option Nat) (s : Rs) (d : DV) (n : Nat) (h : RdAt w p cp q s d) (hb : s.c.b.length ≤ 10000000) (hn : n ≤ 10000000) :
   Calls Tryz.prog 104 #[.pointer (some ⟨p,0,none⟩),.int .i64 (n : Int)] w (SumsR w p cp q (s.sums n) d):=sums_big w p cp q s d n h hb (by omega)
end Go.Proofs.YtkodindajfdagaaGreatDoor
/- The reader's fields are written; what follows an 'and'. No condition. -/
namespace Go.Proofs.YtkodindajfdagaaGreatDoor
open Go.RowKit
theorem RdAt.put {w : World} {p cp : Nat} {q : Option Nat} {s : Rs} {d d' : DV} (h : RdAt w p cp q s d) (i : Nat) (v : Value)
   (hb : (w.setCell ⟨p,i,none⟩ v).heap[p]? = some (.cells #[.pointer (some ⟨cp,0,none⟩),.int .i64 s.k,d'.pk,d'.pl,d'.ps,d'.cs,d'.fs,d'.ss,d'.es] 82 (0,0))) : RdAt (w.setCell ⟨p,i,none⟩ v) p cp q s d' :=
 ⟨hb,h.cur.fr ((Fr.refl [p] w).setCell (by simp) _) (by simp;exact fun e => h.ne e.symm) (by rintro k hk e;simp at e;subst e;exact h.nq hk),h.ne,h.nq,fun k hk => by rw [World.size_setCell];exact h.ql k hk⟩
theorem RdAt.put2 {w : World} {p cp : Nat} {q : Option Nat} {s : Rs} {d : DV} (h : RdAt w p cp q s d) (v : Value) : RdAt (w.setCell ⟨p,2,none⟩ v) p cp q s { d with pk:=v }:=h.put 2 v (Go.Joins.block_setCell h.blk _)
theorem RdAt.put3 {w : World} {p cp : Nat} {q : Option Nat} {s : Rs} {d : DV} (h : RdAt w p cp q s d) (v : Value) : RdAt (w.setCell ⟨p,3,none⟩ v) p cp q s { d with pl:=v }:=h.put 3 v (Go.Joins.block_setCell h.blk _)
theorem RdAt.put4 {w : World} {p cp : Nat} {q : Option Nat} {s : Rs} {d : DV} (h : RdAt w p cp q s d) (v : Value) : RdAt (w.setCell ⟨p,4,none⟩ v) p cp q s { d with ps:=v }:=h.put 4 v (Go.Joins.block_setCell h.blk _)
theorem RdAt.put5 {w : World} {p cp : Nat} {q : Option Nat} {s : Rs} {d : DV} (h : RdAt w p cp q s d) (v : Value) : RdAt (w.setCell ⟨p,5,none⟩ v) p cp q s { d with cs:=v }:=h.put 5 v (Go.Joins.block_setCell h.blk _)
theorem RdAt.put6 {w : World} {p cp : Nat} {q : Option Nat} {s : Rs} {d : DV} (h : RdAt w p cp q s d) (v : Value) : RdAt (w.setCell ⟨p,6,none⟩ v) p cp q s { d with fs:=v }:=h.put 6 v (Go.Joins.block_setCell h.blk _)
theorem RdAt.put7 {w : World} {p cp : Nat} {q : Option Nat} {s : Rs} {d : DV} (h : RdAt w p cp q s d) (v : Value) : RdAt (w.setCell ⟨p,7,none⟩ v) p cp q s { d with ss:=v }:=h.put 7 v (Go.Joins.block_setCell h.blk _)
theorem RdAt.put8 {w : World} {p cp : Nat} {q : Option Nat} {s : Rs} {d : DV} (h : RdAt w p cp q s d) (v : Value) : RdAt (w.setCell ⟨p,8,none⟩ v) p cp q s { d with es:=v }:=h.put 8 v (Go.Joins.block_setCell h.blk _)
def Rs.at (s : Rs) (c : Bool) : Bool × Rs:=if c then (s.ok.k == 0,s.ok) else (false,s)
theorem Rs.at_false (s : Rs) : s.at false = (false,s):=rfl
theorem Rs.at_true (s : Rs) : s.at true = (s.ok.k == 0,s.ok):=rfl
theorem Rs.at_c (s : Rs) (c : Bool) : (s.at c).2.c = s.c:=by cases c <;> rfl
theorem lim_ok (s : Rs) (bad : Nat → Rs → Bool) (e : Nat) (he : e ≠ 0) : (s.lim bad e).2.ok = (s.lim bad e).2:=by
 unfold Rs.lim
 split
 · exact Rs.ok_ok _
 · split
   · exact Rs.fail_ok he
   · exact Rs.ok_ok _
theorem lim_b (s : Rs) (bad : Nat → Rs → Bool) (e : Nat) : (s.lim bad e).2.c.b = s.c.b:=by
 have h : s.number.2.c.b = s.c.b:=number_b s.c
 unfold Rs.lim
 split
 · exact h
 · split
   · exact h
   · exact h
theorem size_b (s : Rs) : s.size.2.c.b = s.c.b:=lim_b _ _ _
theorem things_b (s : Rs) : s.things.2.c.b = s.c.b:=lim_b _ _ _
theorem below_b (s : Rs) (m : Nat) : (s.below m).2.c.b = s.c.b:=lim_b _ _ _
theorem byte_b (s : Rs) : s.byte.2.c.b = s.c.b:=num_b s.c 1
theorem size_le (s : Rs) : s.size.1 ≤ 1099511627776:=by
 unfold Rs.size Rs.lim
 split
 · simp
 · split
   · simp
   · rename_i h
     simpa using h
theorem things_le (s : Rs) : s.things.1 ≤ s.c.b.length:=by
 have h : s.number.2.ok.c.b = s.c.b:=number_b s.c
 unfold Rs.things Rs.lim
 split
 · simp
 · split
   · simp
   · rename_i h2
     have:=left_le s.number.2.ok.c
     rw [h] at this
     simp at h2
     omega
theorem sumsL_b : ∀ (hs : List Bool) (s : Rs) (out : List Ck),(sumsL hs s out).2.c.b = s.c.b
 | [],s,out => rfl
 | false :: t,s,out => by
   rw [sumsL_false]
   split
   · rfl
   · rw [sumsL_b t]
     rfl
 | true :: t,s,out => by
   rw [sumsL_true]
   split
   · exact num_b s.c 4
   · rw [sumsL_b t]
     exact num_b s.c 4
theorem sums_b (s : Rs) (n : Nat) : (s.sums n).2.c.b = s.c.b:=by
 unfold Rs.sums
 rw [sumsL_b]
 exact told_b s.c n
theorem end_b (s : Rs) (id : Nat) : (s.end_ id).c.b = s.c.b:=by
 unfold Rs.end_
 split <;> rfl
theorem things_ok (w : World) (p cp : Nat) (q : Option Nat) (s : Rs) (d : DV) (h : RdAt w p cp q s d) (hb : s.c.b.length ≤ 10000000) :
   Calls Tryz.prog 100 #[.pointer (some ⟨p,0,none⟩)] w fun e w' => e = .returned (.int .i64 (s.things.1 : Int)) ∧ RdAt w' p cp q s.things.2 d ∧ Fr [p,cp] w w':=things_any w p cp q s d h hb
theorem size_ok (w : World) (p cp : Nat) (q : Option Nat) (s : Rs) (d : DV) (h : RdAt w p cp q s d) (hb : s.c.b.length ≤ 10000000) :
   Calls Tryz.prog 103 #[.pointer (some ⟨p,0,none⟩)] w fun e w' => e = .returned (.int .u64 (s.size.1 : Int)) ∧ RdAt w' p cp q s.size.2 d ∧ Fr [p,cp] w w':=size_any w p cp q s d h hb
theorem below_ok (w : World) (p cp : Nat) (q : Option Nat) (s : Rs) (d : DV) (m : Nat) (hm : m ≤ 10000000) (h : RdAt w p cp q s d) (hb : s.c.b.length ≤ 10000000) :
   Calls Tryz.prog 133 #[.pointer (some ⟨p,0,none⟩),.int .i64 (m : Int)] w fun e w' => e = .returned (.int .i64 ((s.below m).1 : Int)) ∧ RdAt w' p cp q (s.below m).2 d ∧ Fr [p,cp] w w':=below_any w p cp q s d m hm h hb
end Go.Proofs.YtkodindajfdagaaGreatDoor
/- Contract: the reader's packs. No condition but that lengths fit. -/
namespace Go.Proofs.YtkodindajfdagaaGreatDoor
open Go.RowKit
def packsGo : Nat → Nat → Rs → List UInt64 → Bool × List UInt64 × Rs
 | 0,_,s,P => (false,P,s)
 | m + 1,sum,s,P =>
   if (if s.size.2.k = 0 ∧ 1099511627776 < sum + s.size.1 then s.size.2.fail 7 else s.size.2).k ≠ 0 then (true,P,if s.size.2.k = 0 ∧ 1099511627776 < sum + s.size.1 then s.size.2.fail 7 else s.size.2)
   else packsGo m (sum + s.size.1) s.size.2 (P ++ [UInt64.ofNat s.size.1])
def Rs.packsEnd (P : List UInt64) (n id : Nat) (s : Rs) : List Ck × Rs :=
 if (s.at (id == 10)).1 then (((s.at (id == 10)).2.sums n).1,((s.at (id == 10)).2.sums n).2.byte.2.end_ ((s.at (id == 10)).2.sums n).2.byte.1)
 else (List.replicate P.length ⟨false,0⟩,(s.at (id == 10)).2.end_ id)
def Rs.packsA (n id place : Nat) (s : Rs) : (Nat × List UInt64 × List Ck) × Rs :=
 if (s.at (id == 9)).1 then
   if (packsGo n 0 (s.at (id == 9)).2 []).1 then ((place,(packsGo n 0 (s.at (id == 9)).2 []).2.1,[]),(packsGo n 0 (s.at (id == 9)).2 []).2.2)
   else ((place,(packsGo n 0 (s.at (id == 9)).2 []).2.1,(Rs.packsEnd (packsGo n 0 (s.at (id == 9)).2 []).2.1 n (packsGo n 0 (s.at (id == 9)).2 []).2.2.byte.1 (packsGo n 0 (s.at (id == 9)).2 []).2.2.byte.2).1),(Rs.packsEnd (packsGo n 0 (s.at (id == 9)).2 []).2.1 n (packsGo n 0 (s.at (id == 9)).2 []).2.2.byte.1 (packsGo n 0 (s.at (id == 9)).2 []).2.2.byte.2).2)
 else
   ((place,[],(Rs.packsEnd [] n id (if ((s.at (id == 9)).2.at (decide (0 < n))).1 then ((s.at (id == 9)).2.at (decide (0 < n))).2.fail 5 else ((s.at (id == 9)).2.at (decide (0 < n))).2)).1),
     (Rs.packsEnd [] n id (if ((s.at (id == 9)).2.at (decide (0 < n))).1 then ((s.at (id == 9)).2.at (decide (0 < n))).2.fail 5 else ((s.at (id == 9)).2.at (decide (0 < n))).2)).2)
def Rs.packs (s : Rs) : (Nat × List UInt64 × List Ck) × Rs:=Rs.packsA s.size.2.things.1 s.size.2.things.2.byte.1 s.size.1 s.size.2.things.2.byte.2
theorem packsA_true {n id pl : Nat} {s u : Rs} (h : s.at (id == 9) = (true,u)) : Rs.packsA n id pl s = if (packsGo n 0 u []).1 then ((pl,(packsGo n 0 u []).2.1,[]),(packsGo n 0 u []).2.2)
   else ((pl,(packsGo n 0 u []).2.1,(Rs.packsEnd (packsGo n 0 u []).2.1 n (packsGo n 0 u []).2.2.byte.1 (packsGo n 0 u []).2.2.byte.2).1),(Rs.packsEnd (packsGo n 0 u []).2.1 n (packsGo n 0 u []).2.2.byte.1 (packsGo n 0 u []).2.2.byte.2).2):=by
 unfold Rs.packsA
 rw [h]
 simp only [if_true]
theorem packsA_false {n id pl : Nat} {s u : Rs} (h : s.at (id == 9) = (false,u)) : Rs.packsA n id pl s =
   ((pl,[],(Rs.packsEnd [] n id (if (u.at (decide (0 < n))).1 then (u.at (decide (0 < n))).2.fail 5 else (u.at (decide (0 < n))).2)).1),
     (Rs.packsEnd [] n id (if (u.at (decide (0 < n))).1 then (u.at (decide (0 < n))).2.fail 5 else (u.at (decide (0 < n))).2)).2):=by
 unfold Rs.packsA
 rw [h]
 simp only [Bool.false_eq_true,if_false]
theorem made_list (z : Array Value) (m : Nat) (hm : z.size = m) (n : Nat) : (madeCells z (n * m)).toList = (List.replicate n z.toList).flatten:=by
 subst hm
 have key : ∀ k : Nat,(madeCells z k).toList = (List.range k).map fun i => z[i % z.size]!:=fun k => by simp [madeCells]
 have hz : ∀ t : Nat,(List.range z.size).map (fun j => z[(t * z.size + j) % z.size]!) = z.toList:=fun t => by
   refine List.ext_getElem? fun i => ?_
   by_cases h : i < z.size
   · have e : (t * z.size + i) % z.size = i:=by rw [Nat.add_comm,Nat.add_mul_mod_self_right];exact Nat.mod_eq_of_lt h
     rw [List.getElem?_map,List.getElem?_range h]
     simp only [Option.map_some,e]
     rw [getElem!_pos z i h]
     simp [h]
   · rw [List.getElem?_eq_none (by simp;omega),List.getElem?_eq_none (by simp;omega)]
 induction n with
 | zero => simp [key]
 | succ n ih =>
   rw [key] at ih ⊢
   rw [Nat.succ_mul,List.range_add,List.map_append,ih,List.map_map,List.replicate_succ',List.flatten_append]
   congr 1
   have:=hz n
   simpa [Function.comp_def] using this
theorem made_ck (n : Nat) : (madeCells (Value.cells (.agg #[.bool false,.int .u32 0])) (n * 2)).toList = ckV (List.replicate n ⟨false,0⟩):=by
 rw [made_list _ 2 rfl n]
 induction n with
 | zero => rfl
 | succ n ih =>
   rw [List.replicate_succ,List.flatten_cons,ih,List.replicate_succ]
   rfl
theorem info_u64 : (Tryz.prog.info? 31).map (fun i => (i.zero,i.size,i.bytes)) = some (some (.int .u64 0),1,8):=by kernel_rfl
theorem sty_u64 : SlTyM Tryz.prog 32 31 (.int .u64 0) 1 8:=⟨Tryz.underlying32,by obtain ⟨i,h⟩:=info_parts info_u64;exact ⟨i,h⟩,rfl,by decide⟩
def PacksR (w : World) (p cp : Nat) (q : Option Nat) (r : (Nat × List UInt64 × List Ck) × Rs) (d : DV) (e : Ending) (w' : World) : Prop :=
 e = .returned (.tuple #[]) ∧ (∃ ps cs,RdAt w' p cp q r.2 { d with pl:=.int .u64 (r.1.1 : Int),ps:=ps,cs:=cs } ∧ Sm w' w.heap.size 31 1 ps r.1.2.1.length (u64v r.1.2.1) ∧ Sm w' w.heap.size 68 2 cs r.1.2.2.length (ckV r.1.2.2)) ∧ Fr [p,cp] w w'
set_option maxRecDepth 100000 in
set_option maxHeartbeats 4000000 in
theorem packs_any (w : World) (p cp : Nat) (q : Option Nat) (s : Rs) (d : DV) (h : RdAt w p cp q s d) (hb : s.c.b.length ≤ 10000000) (hps : d.ps = .slice none 0 0) (hcs : d.cs = .slice none 0 0) :
   Calls Tryz.prog 73 #[.pointer (some ⟨p,0,none⟩)] w (PacksR w p cp q s.packs d):=by
 obtain ⟨c0,-,-,c3,-,-,-,-,-,cf⟩:=cells9 h.blk
 have HR0:=Lib.hid h
 have HB:=Lib.hid hb
 have HLT:=Lib.hid (And.intro h.lt h.cur.lt)
 have HLQ:=Lib.hid h.ql
 have HPS:=Lib.hid (And.intro hps hcs)
 have HS:=Lib.hid (show s.packs = Rs.packsA s.size.2.things.1 s.size.2.things.2.byte.1 s.size.1 s.size.2.things.2.byte.2 from rfl)
 have HA1:=Lib.hid (fun w d (h : RdAt w p cp q s d) => size_ok w p cp q s d h HB.out)
 have HB1:=Lib.hid (show s.size.2.c.b.length ≤ 10000000 by rw [size_b];exact hb)
 have HA2:=Lib.hid (fun w d (h : RdAt w p cp q s.size.2 d) => things_ok w p cp q s.size.2 d h HB1.out)
 have HB2:=Lib.hid (show s.size.2.things.2.c.b.length ≤ 10000000 by rw [things_b];exact HB1.out)
 have HA3:=Lib.hid (fun w d (h : RdAt w p cp q s.size.2.things.2 d) => byte_any w p cp q s.size.2.things.2 d h HB2.out)
 have HB3:=Lib.hid (show s.size.2.things.2.byte.2.c.b.length ≤ 10000000 by rw [byte_b];exact HB2.out)
 have HNL:=Lib.hid (show s.size.2.things.1 ≤ 10000000 from Nat.le_trans (things_le _) HB1.out)
 clear h hb hps hcs
 generalize s.size.2.things.2.byte.2 = s3 at *
 generalize s.size.2.things.2.byte.1 = id at *
 generalize s.size.2.things.2 = s2 at *
 generalize s.size.2.things.1 = n at *
 generalize hs1 : s.size.2 = s1 at *
 generalize hpl : s.size.1 = pl at *
 clear hs1 hpl
 go_enter Tryz.func73,Tryz.ntmps73
 go_upto_region 3 with (first
   | (have hq:=R2;go_at_call 34;refine (HA3.out _ _ R2).mono ?_;rintro e w3 ⟨rfl,R3,F3⟩)
   | (have hq:=R1;go_at_call 100;refine (HA2.out _ _ (R1.put3 _)).mono ?_;rintro e w2 ⟨rfl,R2,F2⟩)
   | (go_at_call 103;refine (HA1.out _ _ HR0.out).mono ?_;rintro e w1 ⟨rfl,R1,F1⟩;obtain ⟨-,-,-,e3,-,-,-,-,-,ef⟩:=cells9 R1.blk))
 have F03 : Fr [p,cp] w w3:=((F1.setCell (p:=⟨p,3,none⟩) (by simp) _).tr2 F2).tr2 F3.two2
 clear e3 ef F1 F2 F3 R1 R2
 obtain ⟨D,hD⟩ : ∃ D,D = ({ d with pl:=.int .u64 (pl : Int) } : DV):=⟨_,rfl⟩
 have hR3 : RdAt w3 p cp q s3 D:=by rw [hD];exact R3
 have HPS2:=Lib.hid (show D.ps = .slice none 0 0 ∧ D.cs = .slice none 0 0 by rw [hD];exact HPS.out)
 have HDD:=Lib.hid hD
 have HDX:=Lib.hid (show ∀ ps cs,({ d with pl:=.int .u64 (pl : Int),ps:=ps,cs:=cs } : DV) = { D with ps:=ps,cs:=cs } by intro ps cs;rw [hD])
 clear R3 hD
 go_cut [21] (fun v wx => v = .bool (s3.at (id == 9)).1 ∧ RdAt wx p cp q (s3.at (id == 9)).2 D ∧ Fr [p,cp] w wx)
 case first =>
   by_cases h9 : id = 9
   · subst h9
     have HA:=Lib.hid (show s3.at (9 == 9) = (s3.ok.k == 0,s3.ok) from rfl)
     go_wp2_with (go_at_call 37;refine (ok_any _ p cp q s3 D hR3).mono ?_;rintro e w4 ⟨rfl,R4,F4⟩)
     go_meet
     case rel => exact ⟨by rw [HA.out],by rw [HA.out];exact R4,F03.tr2 F4.two1⟩
   · have t0 : ((id : Int) == 9) = false:=by rw [beq_eq_false_iff_ne];omega
     have HA:=Lib.hid (show s3.at (id == 9) = (false,s3) by rw [show (id == 9) = false from by simpa using h9];rfl)
     clear h9
     go_wp2_with fail
     go_meet
     case rel => exact ⟨by rw [HA.out],by rw [HA.out];exact hR3,F03⟩
 case rest =>
 obtain ⟨rfl,R4,F4⟩:=hcut
 clear hR3 F03
 obtain ⟨⟨b,u0⟩,ha⟩ : ∃ a,s3.at (id == 9) = a:=⟨_,rfl⟩
 have HUB0:=Lib.hid (show u0.c.b.length ≤ 10000000 by have:=Rs.at_c s3 (id == 9);rw [ha] at this;rw [this];exact HB3.out)
 have HAE:=Lib.hid ha
 rw [ha] at R4 ⊢
 clear ha
 dsimp only at R4 ⊢
 go_upto_if 21 with fail
 go_cut [3,4,5] (fun v3 v4 v5 wx => ∃ (id2 : Nat) (P : List UInt64) (t : Rs) (psV : Value),v3 = .int .i64 (id2 : Int) ∧ s.packs = ((pl,P,(Rs.packsEnd P n id2 t).1),(Rs.packsEnd P n id2 t).2) ∧ t.c.b.length ≤ 10000000 ∧ P.length ≤ 10000000 ∧ wx.ownsRow w.heap.size 31 1 psV P.length (u64v P) ∧ RdAt wx p cp q t { D with ps:=psV } ∧ Fr [p,cp] w wx)
 case first =>
   cases b with
   | true =>
     have HSA:=Lib.hid (HS.out.trans (packsA_true HAE.out))
     have hnM : (n : Int) ≤ 10000000:=by have:=HNL.out;omega
     go_wp2_with fail
     go_loopw [4,23] (fun sm i wr => ∃ (k sum : Nat) (u : Rs) (P : List UInt64) (psV : Value),k ≤ n ∧ i = .int .i64 (k : Int) ∧ sm = .int .u64 (sum : Int) ∧ sum ≤ 1099511627776 ∧ packsGo n 0 u0 [] = packsGo (n - k) sum u P ∧ P.length = k ∧ u.c.b.length ≤ 10000000 ∧ wr.ownsRow w.heap.size 31 1 psV k (u64v P) ∧ RdAt wr p cp q u { D with ps:=psV } ∧ Fr [p,cp] w wr) (fun _ i _ => n - (intOf i).toNat)
     case atStart => exact ⟨0,0,u0,[],.slice none 0 0,Nat.zero_le _,rfl,rfl,by simp,by simp,rfl,HUB0.out,World.ownsRow_nil _ _ _ _,by rw [← HPS2.out.1];exact R4,F4⟩
     case round =>
       obtain ⟨k,sum,u,P,psV,hk,rfl,rfl,hsum,hgo,hPk,hub,own,RU,F⟩:=hrel
       have HGo:=Lib.hid hgo
       have HPk:=Lib.hid hPk
       have HUB:=Lib.hid hub
       have HOwn:=Lib.hid own
       have HF:=Lib.hid F
       have HRU:=Lib.hid RU
       have HSumL:=Lib.hid hsum
       obtain ⟨oao,ocap,rfl,-⟩:=own_outS own
       clear hgo hPk hub own F RU hsum
       by_cases hlt : k < n
       · have hltI : (k : Int) < (n : Int):=by omega
         have e1 : n - k = (n - (k + 1)) + 1:=by omega
         have HG1:=Lib.hid (show packsGo n 0 u0 [] = if (if u.size.2.k = 0 ∧ 1099511627776 < sum + u.size.1 then u.size.2.fail 7 else u.size.2).k ≠ 0 then (true,P,if u.size.2.k = 0 ∧ 1099511627776 < sum + u.size.1 then u.size.2.fail 7 else u.size.2) else packsGo (n - (k + 1)) (sum + u.size.1) u.size.2 (P ++ [UInt64.ofNat u.size.1]) by rw [HGo.out,e1];rfl)
         have HSZ:=Lib.hid (fun w d (h : RdAt w p cp q u d) => size_ok w p cp q u d h HUB.out)
         have HV:=Lib.hid (size_le u)
         have HTB:=Lib.hid (show u.size.2.c.b.length ≤ 10000000 by rw [size_b];exact HUB.out)
         have HTO:=Lib.hid (show u.size.2.ok = u.size.2 from lim_ok _ _ _ (by decide))
         clear e1
         generalize u.size.2 = t at *
         generalize u.size.1 = v at *
         obtain ⟨sm2,hsm2⟩ : ∃ sm2,sum + v = sm2:=⟨_,rfl⟩
         have hw : IntKind.u64.wrap ((sum : Int) + (v : Int)) = (sm2 : Int):=by rw [← hsm2,IntWalk.u64_in _ (by have:=HV.out;have:=HSumL.out;omega)];omega
         rw [hsm2] at HG1
         clear hsm2
         by_cases hz : t.k = 0
         · have HK:=Lib.hid (show (t.k == 0) = true by rw [hz];rfl)
           by_cases hbig : 1099511627776 < sm2
           · have aB : (1099511627776 : Int) < (sm2 : Int):=by omega
             have HFO:=Lib.hid (Rs.fail_ok (s:=t) (e:=7) (by decide))
             have HFK:=Lib.hid (show ((t.fail 7).k == 0) = false by rw [Rs.fail_k hz];rfl)
             have HG:=Lib.hid (show packsGo n 0 u0 [] = (true,P,t.fail 7) by rw [HG1.out,show (if t.k = 0 ∧ 1099511627776 < sm2 then t.fail 7 else t) = t.fail 7 from if_pos ⟨hz,hbig⟩,if_pos (by rw [Rs.fail_k hz];decide)])
             have HRes:=Lib.hid (show s.packs = ((pl,P,[]),t.fail 7) by rw [HSA.out,HG.out];rfl)
             clear hz hbig
             go_wp2_with (first
               | (have hq:=R8;go_at_call 37;refine (ok_any _ p cp q (t.fail 7) { D with ps:=.slice oao k ocap } R8).mono ?_;rw [HFO.out,HFK.out];rintro e w9 ⟨rfl,R9,F9⟩;have FW9:=FW8.tr2 F9.two1)
               | (go_at_call 38;refine (rfail_any _ p cp q t { D with ps:=.slice oao k ocap } 7 R7).mono ?_;rintro e w8 ⟨rfl,R8,F8⟩;have FW8:=FW7.tr2 F8.two1)
               | (have hq:=R6;go_at_call 37;refine (ok_any _ p cp q t { D with ps:=.slice oao k ocap } R6).mono ?_;rw [HTO.out,HK.out];rintro e w7 ⟨rfl,R7,F7⟩;have FW7:=F67.tr2 F7.two1)
               | (go_at_call 103;refine (HSZ.out _ _ HRU.out).mono ?_;rintro e w6 ⟨rfl,R6,F67⟩))
             go_end0
             exact ⟨rfl,⟨.slice oao k ocap,.slice none 0 0,by rw [HRes.out];rw [HDX.out,← HPS2.out.2];exact R9,by rw [HRes.out];dsimp only;rw [HPk.out];exact Sm.of_own w.heap.size (own_frB HOwn.out FW9 (two_lt HLT.out)) (Nat.le_refl _),by rw [HRes.out];exact Sm.nil _ _ _ _⟩,HF.out.tr2 FW9⟩
           · have aB : (sm2 : Int) ≤ (1099511627776 : Int):=by omega
             have HG:=Lib.hid (show packsGo n 0 u0 [] = packsGo (n - (k + 1)) sm2 t (P ++ [UInt64.ofNat v]) by rw [HG1.out,show (if t.k = 0 ∧ 1099511627776 < sm2 then t.fail 7 else t) = t from if_neg (fun h => hbig h.2),if_neg (by simp [hz])])
             have HSM:=Lib.hid (show sm2 ≤ 1099511627776 by omega)
             have HVN:=Lib.hid (show ((UInt64.ofNat v).toNat : Int) = (v : Int) by have:=HV.out;simp;omega)
             clear hz hbig
             go_wp2_with (first
               | (at_builtin;refine wpList_append_struct sty_u64 rfl _ _ (by rfl) w.heap.size _ _ _ (by rfl) own9 w9.heap.size [.int .u64 (v : Int)] (by rfl) hgS rfl rfl (by omega) (by decide) sz9 ?_;intro v2 wa owna ga;obtain ⟨vao2,vcap2,rfl,-⟩:=own_outS owna;have Fa : Fr [p,cp] w wa:=((HF.out.tr2 FW9).alloc _).grown ga (fun t ht => .inr (own_ltS own9 t ht).1);have Ra:=(R9.fr0 ((Fr.refl _ _).alloc _)).grownB ga own9 HLT.out.1 HLT.out.2 HLQ.out;obtain ⟨-,-,-,-,a4,-,-,-,-,af⟩:=cells9 Ra.blk;have Rb:=Ra.put4 (.slice vao2 (k + 1) vcap2);have ownb:=own_frB owna ((Fr.refl [p,cp] wa).setCell (p:=⟨p,4,none⟩) (by simp) (.slice vao2 (k + 1) vcap2)) (two_lt HLT.out);have Fb:=Fa.setCell (p:=⟨p,4,none⟩) (by simp) (.slice vao2 (k + 1) vcap2))
               | (have hq:=R7;go_at_call 37;refine (ok_any _ p cp q t { D with ps:=.slice oao k ocap } R7).mono ?_;rw [HTO.out,HK.out];rintro e w9 ⟨rfl,R9,F9⟩;have FW9:=FW7.tr2 F9.two1;obtain ⟨-,-,-,-,g4,-,-,-,-,gf⟩:=cells9 R9.blk;have own9:=own_frB HOwn.out (FW9.alloc (.cells #[.int .u64 (v : Int)] 31)) (two_lt HLT.out);have hgS:=heap_alloc_new w9 (.cells #[.int .u64 (v : Int)] 31);have sz9 : w.heap.size ≤ (w9.alloc (.cells #[.int .u64 (v : Int)] 31)).heap.size:=(by rw [World.size_alloc];have:=HF.out.size;have:=FW9.size;omega))
               | (have hq:=R6;go_at_call 37;refine (ok_any _ p cp q t { D with ps:=.slice oao k ocap } R6).mono ?_;rw [HTO.out,HK.out];rintro e w7 ⟨rfl,R7,F7⟩;have FW7:=F67.tr2 F7.two1)
               | (go_at_call 103;refine (HSZ.out _ _ HRU.out).mono ?_;rintro e w6 ⟨rfl,R6,F67⟩))
             go_roundw
             case rel => exact ⟨k + 1,sm2,t,P ++ [UInt64.ofNat v],.slice vao2 (k + 1) vcap2,by omega,by go_num,rfl,HSM.out,HG.out,by rw [List.length_append,HPk.out];rfl,HTB.out,by rw [show u64v (P ++ [UInt64.ofNat v]) = u64v P ++ [.int .u64 (v : Int)] by simp only [u64v,List.map_append,List.map_cons,List.map_nil,HVN.out]];exact ownb,Rb,Fb⟩
             case measure => simp [intOf];omega
         · have HK:=Lib.hid (show (t.k == 0) = false by rw [beq_eq_false_iff_ne];exact hz)
           have HG:=Lib.hid (show packsGo n 0 u0 [] = (true,P,t) by rw [HG1.out,show (if t.k = 0 ∧ 1099511627776 < sm2 then t.fail 7 else t) = t from if_neg (fun h => hz h.1),if_pos hz])
           have HRes:=Lib.hid (show s.packs = ((pl,P,[]),t) by rw [HSA.out,HG.out];rfl)
           clear hz
           go_wp2_with (first
             | (have hq:=R7;go_at_call 37;refine (ok_any _ p cp q t { D with ps:=.slice oao k ocap } R7).mono ?_;rw [HTO.out,HK.out];rintro e w9 ⟨rfl,R9,F9⟩;have FW9:=FW7.tr2 F9.two1)
             | (have hq:=R6;go_at_call 37;refine (ok_any _ p cp q t { D with ps:=.slice oao k ocap } R6).mono ?_;rw [HTO.out,HK.out];rintro e w7 ⟨rfl,R7,F7⟩;have FW7:=F67.tr2 F7.two1)
             | (go_at_call 103;refine (HSZ.out _ _ HRU.out).mono ?_;rintro e w6 ⟨rfl,R6,F67⟩))
           go_end0
           exact ⟨rfl,⟨.slice oao k ocap,.slice none 0 0,by rw [HRes.out];rw [HDX.out,← HPS2.out.2];exact R9,by rw [HRes.out];dsimp only;rw [HPk.out];exact Sm.of_own w.heap.size (own_frB HOwn.out FW9 (two_lt HLT.out)) (Nat.le_refl _),by rw [HRes.out];exact Sm.nil _ _ _ _⟩,HF.out.tr2 FW9⟩
       · have hke : k = n:=by omega
         have HG:=Lib.hid (show packsGo n 0 u0 [] = (false,P,u) by rw [HGo.out,hke,Nat.sub_self];rfl)
         have HBY:=Lib.hid (byte_any wr p cp q u { D with ps:=.slice oao k ocap } HRU.out HUB.out)
         have HRes:=Lib.hid (show s.packs = ((pl,P,(Rs.packsEnd P n u.byte.1 u.byte.2).1),(Rs.packsEnd P n u.byte.1 u.byte.2).2) by rw [HSA.out,HG.out];rfl)
         have HTB:=Lib.hid (show u.byte.2.c.b.length ≤ 10000000 by rw [byte_b];exact HUB.out)
         have hltI : (n : Int) ≤ (k : Int):=by omega
         go_wp2_with (go_at_call 34;refine HBY.out.mono ?_;rintro e w6 ⟨rfl,R6,F6⟩)
         go_meet
         case rel => exact ⟨u.byte.1,P,u.byte.2,.slice oao k ocap,rfl,HRes.out,HTB.out,by have:=HPk.out;have:=HNL.out;omega,by rw [HPk.out];exact own_frB HOwn.out F6.two2 (two_lt HLT.out),R6,HF.out.tr2 F6.two2⟩
   | false =>
     have HSA:=Lib.hid (HS.out.trans (packsA_false HAE.out))
     cases hn : decide (0 < n) with
     | true =>
       have hnI : (0 : Int) < (n : Int):=by simp at hn;omega
       rw [hn] at HSA
       clear hn
       by_cases hk : u0.ok.k = 0
       · have HK:=Lib.hid (show (u0.ok.k == 0) = true by rw [hk];rfl)
         have HO:=Lib.hid (Rs.ok_of_zero hk)
         clear hk
         go_wp2_with (first
           | (have hq:=R5;go_at_call 38;refine (rfail_any _ p cp q u0 D 5 R5).mono ?_;rintro e w6 ⟨rfl,R6,F6⟩)
           | (go_at_call 37;refine (ok_any _ p cp q u0 D R4).mono ?_;rw [HK.out,HO.out];rintro e w5 ⟨rfl,R5,F5⟩))
         go_meet
         case rel => exact ⟨id,[],u0.fail 5,_,rfl,by rw [HSA.out,Rs.at_true,HK.out,HO.out];rfl,HUB0.out,by simp,World.ownsRow_nil _ _ _ _,by rw [← HPS2.out.1];exact R6,(F4.tr2 F5.two1).tr2 F6.two1⟩
       · have HK:=Lib.hid (show (u0.ok.k == 0) = false by rw [beq_eq_false_iff_ne];exact hk)
         clear hk
         go_wp2_with (go_at_call 37;refine (ok_any _ p cp q u0 D R4).mono ?_;rw [HK.out];rintro e w5 ⟨rfl,R5,F5⟩)
         go_meet
         case rel => exact ⟨id,[],u0.ok,_,rfl,by rw [HSA.out,Rs.at_true];simp only [HK.out,Bool.false_eq_true,if_false],HUB0.out,by simp,World.ownsRow_nil _ _ _ _,by rw [← HPS2.out.1];exact R5,F4.tr2 F5.two1⟩
     | false =>
       have hnI : (n : Int) ≤ 0:=by simp at hn;omega
       rw [hn] at HSA
       clear hn
       go_wp2_with fail
       go_meet
       case rel => exact ⟨id,[],u0,_,rfl,by rw [HSA.out,Rs.at_false];simp only [Bool.false_eq_true,if_false],HUB0.out,by simp,World.ownsRow_nil _ _ _ _,by rw [← HPS2.out.1];exact R4,F4⟩
 case rest =>
 obtain ⟨id2,P,t,psV,rfl,hspec,htb,hpl,own,R5,F5⟩:=hcut
 have HSP:=Lib.hid hspec
 have HTB:=Lib.hid htb
 have HPL:=Lib.hid hpl
 have hplI : (P.length : Int) ≤ 10000000:=by omega
 obtain ⟨oao,ocap,rfl,-⟩:=own_outS own
 have HOwn:=Lib.hid own
 obtain ⟨i0,hi0,hz0,hs0,hb0⟩:=info_parts info_ck
 have hb0' : i0.bytes * P.length ≤ 281474976710656:=by rw [hb0];omega
 obtain ⟨-,-,-,-,g4,g5,-,-,-,gf⟩:=cells9 R5.blk
 obtain ⟨M,hM⟩ : ∃ M,P.length = M:=⟨_,rfl⟩
 have HM:=Lib.hid hM
 rw [hM] at hplI hb0' HOwn g4 R5 HPL
 dsimp only at g4 g5
 clear hspec htb hpl own hM
 go_upto_region 18 with (at_make;refine wpList_make_full _ rfl _ _ _ rfl wc.heap.size _ i0 _ _ Tryz.underlying33 hi0 hz0 hs0 _ _ _ _ M (by rfl) (by rfl) rfl rfl hb0' (by unfold maxLen;omega) (Nat.le_refl _) ?_;rw [made_ck];intro w6 own6 g6;have F6:=(Fr.refl [] wc).grown g6 (by simp);have R6:=R5.fr0 F6;obtain ⟨-,-,-,-,-,k5,-,-,-,kf⟩:=cells9 R6.blk)
 obtain ⟨w7,hw7⟩ : ∃ w7,w7 = w6.setCell ⟨p,5,none⟩ (.slice (some ⟨wc.heap.size,0,none⟩) M M):=⟨_,rfl⟩
 have R7:=R6.put5 (.slice (some ⟨wc.heap.size,0,none⟩) M M)
 rw [← hw7] at R7 ⊢
 have F67 : Fr [p,cp] w6 w7:=hw7 ▸ (Fr.refl _ _).setCell (by simp) _
 have HCs:=Lib.hid (own_frB own6 F67 (two_lt (by have:=HLT.out;have:=F5.size;omega)))
 have HPs:=Lib.hid (own_frB HOwn.out ((F6.mono (by simp) : Fr [p,cp] wc w6).tr2 F67) (two_lt HLT.out))
 have FW7 : Fr [p,cp] w w7:=(F5.trans0 F6).tr2 F67
 have hcw : w.heap.size ≤ wc.heap.size:=F5.size
 have HLC:=Lib.hid (show p < w7.heap.size ∧ cp < w7.heap.size by have:=HLT.out;have:=FW7.size;omega)
 clear hw7 g4 g5 gf k5 kf own6 g6 F6 R6 R5 hi0 hz0 hs0 hb0 hb0' F67
 by_cases h10 : id2 = 10
 · subst h10
   by_cases hk : t.ok.k = 0
   · have HK:=Lib.hid (show (t.ok.k == 0) = true by rw [hk];rfl)
     have HO:=Lib.hid (Rs.ok_of_zero hk)
     have HNN:=Lib.hid (show n ≤ 10000000 from HNL.out)
     have HE:=Lib.hid (show Rs.packsEnd P n 10 t = ((t.sums n).1,(t.sums n).2.byte.2.end_ (t.sums n).2.byte.1) by
       unfold Rs.packsEnd
       rw [show t.at (10 == 10) = (true,t) by rw [← Rs.ok_of_zero hk];show ((t.ok.ok.k == 0),t.ok.ok) = _;rw [Rs.ok_ok,hk];rfl]
       simp only [if_true])
     have HSB:=Lib.hid (show (t.sums n).2.c.b.length ≤ 10000000 by rw [sums_b];exact HTB.out)
     clear hk
     go_wp2_with (first
       | (have hq:=R11;go_at_call 72;refine (end_any _ p cp q _ _ _ R11).mono ?_;rintro e wd ⟨rfl,Rd,Fd⟩)
       | (have hq:=R10;go_at_call 34;refine (byte_any _ p cp q _ _ R10 HSB.out).mono ?_;rintro e wb ⟨rfl,R11,Fb⟩)
       | (have hq:=R8;go_at_call 104;refine (sums_any _ p cp q t _ n R8 HTB.out HNN.out).mono ?_;rintro e w9 ⟨⟨cv,rfl,hcv⟩,R9,F9⟩;obtain ⟨cao,ccap,rfl,-⟩:=hcv.out;obtain ⟨-,-,-,-,-,l5,-,-,-,lf⟩:=cells9 R9.blk;have R10:=R9.put5 (.slice cao (t.sums n).1.length ccap))
       | (go_at_call 37;refine (ok_any _ p cp q t _ R7).mono ?_;rw [HK.out,HO.out];rintro e w8 ⟨rfl,R8,F8⟩))
     go_end0
     have Fe : Fr [p,cp] w7 wd:=((((F8.two1.tr2 F9).setCell (p:=⟨p,5,none⟩) (by simp) (.slice cao (t.sums n).1.length ccap)).tr2 Fb.two2).tr2 Fd)
     refine ⟨rfl,⟨_,_,by rw [HSP.out,HE.out];rw [HDX.out];exact Rd,by rw [HSP.out];dsimp only;rw [HM.out];exact Sm.of_own w.heap.size (own_frB HPs.out Fe (two_lt HLT.out)) (Nat.le_refl _),?_⟩,FW7.tr2 Fe⟩
     rw [HSP.out,HE.out]
     exact ((hcv.two ((((Fr.refl [p,cp] w9).setCell (p:=⟨p,5,none⟩) (by simp) (.slice cao (t.sums n).1.length ccap)).tr2 Fb.two2).tr2 Fd) (by have:=HLC.out;have:=F8.size;omega) (by have:=HLC.out;have:=F8.size;omega))).mono (by have:=FW7.size;have:=F8.size;omega)
   · have HK:=Lib.hid (show (t.ok.k == 0) = false by rw [beq_eq_false_iff_ne];exact hk)
     have HE:=Lib.hid (show Rs.packsEnd P n 10 t = (List.replicate P.length ⟨false,0⟩,t.ok.end_ 10) by
       unfold Rs.packsEnd
       rw [show t.at (10 == 10) = (false,t.ok) by show ((t.ok.k == 0),t.ok) = _;rw [beq_eq_false_iff_ne.2 hk]]
       simp only [Bool.false_eq_true,if_false])
     clear hk
     go_wp2_with (first
       | (have hq:=R8;go_at_call 72;refine (end_any _ p cp q t.ok _ 10 R8).mono ?_;rintro e wd ⟨rfl,Rd,Fd⟩)
       | (go_at_call 37;refine (ok_any _ p cp q t _ R7).mono ?_;rw [HK.out];rintro e w8 ⟨rfl,R8,F8⟩))
     go_end0
     have Fe : Fr [p,cp] w7 wd:=F8.two1.tr2 Fd
     refine ⟨rfl,⟨_,_,by rw [HSP.out,HE.out];rw [HDX.out];exact Rd,by rw [HSP.out];dsimp only;rw [HM.out];exact Sm.of_own w.heap.size (own_frB HPs.out Fe (two_lt HLT.out)) (Nat.le_refl _),?_⟩,FW7.tr2 Fe⟩
     rw [HSP.out,HE.out]
     dsimp only
     rw [List.length_replicate,HM.out]
     exact Sm.of_own w.heap.size (own_frB HCs.out Fe (two_lt (by have:=HLT.out;omega))) hcw
 · have t0 : ((id2 : Int) == 10) = false:=by rw [beq_eq_false_iff_ne];omega
   have HE:=Lib.hid (show Rs.packsEnd P n id2 t = (List.replicate P.length ⟨false,0⟩,t.end_ id2) by
     unfold Rs.packsEnd
     rw [show (id2 == 10) = false from by simpa using h10,Rs.at_false]
     simp only [Bool.false_eq_true,if_false])
   clear h10
   go_wp2_with (go_at_call 72;refine (end_any _ p cp q t _ id2 R7).mono ?_;rintro e wd ⟨rfl,Rd,Fd⟩)
   go_end0
   refine ⟨rfl,⟨_,_,by rw [HSP.out,HE.out];rw [HDX.out];exact Rd,by rw [HSP.out];dsimp only;rw [HM.out];exact Sm.of_own w.heap.size (own_frB HPs.out Fd (two_lt HLT.out)) (Nat.le_refl _),?_⟩,FW7.tr2 Fd⟩
   rw [HSP.out,HE.out]
   dsimp only
   rw [List.length_replicate,HM.out]
   exact Sm.of_own w.heap.size (own_frB HCs.out Fd (two_lt (by have:=HLT.out;omega))) hcw
end Go.Proofs.YtkodindajfdagaaGreatDoor
