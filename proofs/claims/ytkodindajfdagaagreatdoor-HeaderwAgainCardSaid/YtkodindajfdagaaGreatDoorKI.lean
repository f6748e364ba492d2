/- Contracts: the reference's Numbers, Checks, Ints, Folders, of two that read the same. No condition. -/
import Derived.Test.YtkodindajfdagaaGreatDoorKC
import Derived.Test.YtkodindajfdagaaGreatDoorJZ
import Derived.Test.YtkodindajfdagaaGreatDoorRefByM
import Derived.Deep.RegionHeld3
import Derived.Deep.DeepCutAuto
import Derived.Test.YtkodindajfdagaaGreatDoorKA
import Derived.Test.YtkodindajfdagaaGreatDoorKE
namespace Go.Proofs.YtkodindajfdagaaGreatDoor
open Go.RowKit
def Row1 (w : World) (v : Value) (n : Nat) (xs : List Value) : Prop :=
 ∃ ao cap,v = .slice ao n cap ∧ n ≤ cap ∧ cap ≤ 9223372036854775807 ∧ ∀ j,j < n → ∃ b o,ao = some ⟨b,o,none⟩ ∧ b < w.heap.size ∧ w.cell? ⟨b,o + j,none⟩ = xs[j]?
theorem Row1.sl {w : World} {v : Value} {xs : List Value} (h : Sl w v xs) : Row1 w v xs.length xs:=by
 obtain ⟨ao,cap,e,h1,h2,h3⟩:=h.out
 refine ⟨ao,cap,e,h1,h2,fun j hj => ?_⟩
 obtain ⟨b,o,q1,q2,q3⟩:=h3 j hj
 exact ⟨b,o,q1,q2,q3 j hj⟩
theorem Row1.row {w : World} {hi : Nat} {v : Value} {n : Nat} {xs : List Value} (h : RowAt w hi 1 v n xs) : Row1 w v n xs:=by
 obtain ⟨ao,cap,e,h1,h2,h3⟩:=h.out
 refine ⟨ao,cap,e,h1,h2,fun j hj => ?_⟩
 obtain ⟨b,o,q1,-,q2,q3⟩:=h3 j hj
 have:=q3 0 (by decide)
 simp only [Nat.mul_one,Nat.add_zero] at this
 exact ⟨b,o,q1,q2,this⟩
theorem Row1.fr {w w' : World} {v : Value} {n : Nat} {xs : List Value} (h : Row1 w v n xs) (F : Fr [] w w') : Row1 w' v n xs:=by
 obtain ⟨ao,cap,e,h1,h2,h3⟩:=h
 refine ⟨ao,cap,e,h1,h2,fun j hj => ?_⟩
 obtain ⟨b,o,q1,q2,q3⟩:=h3 j hj
 exact ⟨b,o,q1,Nat.lt_of_lt_of_le q2 F.size,(F.cell (p:=⟨b,o + j,none⟩) q2 (by simp)).trans q3⟩
set_option maxRecDepth 100000 in
theorem rnumbers_any (w : World) (va vb : Value) (n : Nat) (l : List UInt64) (hn : l.length = n) (hN : n ≤ 1000000000) (ha : Row1 w va n (u64v l)) (hb : Row1 w vb n (u64v l)) :
   Calls Tryz.prog 41 #[va,vb] w fun e w' => e = .returned (.bool true) ∧ Fr [] w w':=by
 obtain ⟨ao,ac,rfl,-,-,oa⟩:=ha
 obtain ⟨bo,bc,rfl,-,-,ob⟩:=hb
 have HA:=Lib.hid oa
 have HB:=Lib.hid ob
 have HN:=Lib.hid hn
 have hNI : (n : Int) ≤ 1000000000:=by omega
 clear oa ob hn
 go_enter Tryz.func41,Tryz.ntmps41
 go_wp2_with fail
 go_loopw [5] (fun iv wr => ∃ k : Nat,k ≤ n ∧ iv = .int .i64 (k : Int) ∧ Fr [] w wr) (fun iv _ => n - (intOf iv).toNat)
 case atStart => exact ⟨0,Nat.zero_le _,rfl,Fr.refl _ _⟩
 case round =>
   obtain ⟨k,hk,rfl,F⟩:=hrel
   by_cases hlt : k < n
   rotate_left
   · have hltI : ¬ (k : Int) < (n : Int):=by omega
     go_wp2_with fail
     go_ret
     exact ⟨rfl,F⟩
   have hltI : (k : Int) < (n : Int):=by omega
   obtain ⟨x,hx⟩:=some_get l k (by rw [HN.out];exact hlt)
   obtain ⟨b1,o1,rfl,hb1,q1⟩:=HA.out k hlt
   obtain ⟨b2,o2,rfl,hb2,q2⟩:=HB.out k hlt
   have c1:=(F.cell (p:=⟨b1,o1 + k,none⟩) hb1 (by simp)).trans (q1.trans (u64v_get _ _ _ hx))
   have c2:=(F.cell (p:=⟨b2,o2 + k,none⟩) hb2 (by simp)).trans (q2.trans (u64v_get _ _ _ hx))
   clear hx q1 q2
   go_wp2_with fail
   go_quiet (fail)
   obtain ⟨w2,hw2⟩ : ∃ w2,w2 = wr.drewN nq:=⟨_,rfl⟩
   rw [← hw2]
   have F2 : Fr [] w w2:=hw2 ▸ F.drewN nq
   clear hw2
   go_wp2_with fail
   go_roundw
   case rel => exact ⟨k + 1,by omega,by go_num,F2⟩
   case measure => simp [intOf];omega
set_option maxRecDepth 100000 in
theorem rints_any (w : World) (va vb : Value) (n : Nat) (l : List Int) (hn : l.length = n) (hN : n ≤ 1000000000) (ha : Row1 w va n (iv l)) (hb : Row1 w vb n (iv l)) :
   Calls Tryz.prog 78 #[va,vb] w fun e w' => e = .returned (.bool true) ∧ Fr [] w w':=by
 obtain ⟨ao,ac,rfl,-,-,oa⟩:=ha
 obtain ⟨bo,bc,rfl,-,-,ob⟩:=hb
 have HA:=Lib.hid oa
 have HB:=Lib.hid ob
 have HN:=Lib.hid hn
 have hNI : (n : Int) ≤ 1000000000:=by omega
 clear oa ob hn
 go_enter Tryz.func78,Tryz.ntmps78
 go_wp2_with fail
 go_loopw [5] (fun iv wr => ∃ k : Nat,k ≤ n ∧ iv = .int .i64 (k : Int) ∧ Fr [] w wr) (fun iv _ => n - (intOf iv).toNat)
 case atStart => exact ⟨0,Nat.zero_le _,rfl,Fr.refl _ _⟩
 case round =>
   obtain ⟨k,hk,rfl,F⟩:=hrel
   by_cases hlt : k < n
   rotate_left
   · have hltI : ¬ (k : Int) < (n : Int):=by omega
     go_wp2_with fail
     go_ret
     exact ⟨rfl,F⟩
   have hltI : (k : Int) < (n : Int):=by omega
   obtain ⟨x,hx⟩:=some_get l k (by rw [HN.out];exact hlt)
   obtain ⟨b1,o1,rfl,hb1,q1⟩:=HA.out k hlt
   obtain ⟨b2,o2,rfl,hb2,q2⟩:=HB.out k hlt
   have c1:=(F.cell (p:=⟨b1,o1 + k,none⟩) hb1 (by simp)).trans (q1.trans (iv_get _ _ _ hx))
   have c2:=(F.cell (p:=⟨b2,o2 + k,none⟩) hb2 (by simp)).trans (q2.trans (iv_get _ _ _ hx))
   clear hx q1 q2
   go_wp2_with fail
   go_quiet (fail)
   obtain ⟨w2,hw2⟩ : ∃ w2,w2 = wr.drewN nq:=⟨_,rfl⟩
   rw [← hw2]
   have F2 : Fr [] w w2:=hw2 ▸ F.drewN nq
   clear hw2
   go_wp2_with fail
   go_roundw
   case rel => exact ⟨k + 1,by omega,by go_num,F2⟩
   case measure => simp [intOf];omega
theorem ckV_at {l : List Ck} {i : Nat} {c : Ck} (h : l[i]? = some c) : (ckV l)[i * 2]? = some (.bool c.has) ∧ (ckV l)[i * 2 + 1]? = some (.int .u32 c.sum.toNat):=by
 induction l generalizing i with
 | nil => simp at h
 | cons x t ih =>
   cases i with
   | zero => simp at h;subst h;simp [ckV]
   | succ i =>
     have:=ih (i:=i) (by simpa using h)
     rw [show (i + 1) * 2 = i * 2 + 2 by omega]
     exact ⟨by rw [show ckV (x :: t) = [.bool x.has,.int .u32 x.sum.toNat] ++ ckV t from rfl,List.getElem?_append_right (by simp)];simpa using this.1,
       by rw [show ckV (x :: t) = [.bool x.has,.int .u32 x.sum.toNat] ++ ckV t from rfl,List.getElem?_append_right (by simp)];simpa using this.2⟩
set_option maxRecDepth 100000 in
theorem rchecks_any (w : World) (va vb : Value) (n h1 h2 : Nat) (l : List Ck) (hn : l.length = n) (hN : n ≤ 1000000000) (ha : RowAt w h1 2 va n (ckV l)) (hb : RowAt w h2 2 vb n (ckV l)) :
   Calls Tryz.prog 42 #[va,vb] w fun e w' => e = .returned (.bool true) ∧ Fr [] w w':=by
 obtain ⟨ao,ac,rfl,-,-,oa⟩:=ha
 obtain ⟨bo,bc,rfl,-,-,ob⟩:=hb
 have HA:=Lib.hid oa
 have HB:=Lib.hid ob
 have HN:=Lib.hid hn
 have hne:=@neq_ck
 have hNI : (n : Int) ≤ 1000000000:=by omega
 clear oa ob hn
 go_enter Tryz.func42,Tryz.ntmps42
 go_wp2_with fail
 go_loopw [5] (fun iv wr => ∃ k : Nat,k ≤ n ∧ iv = .int .i64 (k : Int) ∧ Fr [] w wr) (fun iv _ => n - (intOf iv).toNat)
 case atStart => exact ⟨0,Nat.zero_le _,rfl,Fr.refl _ _⟩
 case round =>
   obtain ⟨k,hk,rfl,F⟩:=hrel
   by_cases hlt : k < n
   rotate_left
   · have hltI : ¬ (k : Int) < (n : Int):=by omega
     go_wp2_with fail
     go_ret
     exact ⟨rfl,F⟩
   have hltI : (k : Int) < (n : Int):=by omega
   obtain ⟨x,hx⟩:=some_get l k (by rw [HN.out];exact hlt)
   obtain ⟨b1,o1,rfl,-,hb1,q1⟩:=HA.out k hlt
   obtain ⟨b2,o2,rfl,-,hb2,q2⟩:=HB.out k hlt
   have c1 : wr.cell? ⟨b1,o1 + k * 2,none⟩ = some (.bool x.has):=(F.cell (p:=⟨b1,o1 + k * 2,none⟩) hb1 (by simp)).trans ((q1 0 (by decide)).trans (ckV_at hx).1)
   have c2 : wr.cell? ⟨b2,o2 + k * 2,none⟩ = some (.bool x.has):=(F.cell (p:=⟨b2,o2 + k * 2,none⟩) hb2 (by simp)).trans ((q2 0 (by decide)).trans (ckV_at hx).1)
   have c3 : wr.cell? ⟨b1,o1 + k * 2 + 1,none⟩ = some (.int .u32 x.sum.toNat):=(F.cell (p:=⟨b1,o1 + k * 2 + 1,none⟩) hb1 (by simp)).trans ((q1 1 (by decide)).trans (ckV_at hx).2)
   have c4 : wr.cell? ⟨b2,o2 + k * 2 + 1,none⟩ = some (.int .u32 x.sum.toNat):=(F.cell (p:=⟨b2,o2 + k * 2 + 1,none⟩) hb2 (by simp)).trans ((q2 1 (by decide)).trans (ckV_at hx).2)
   clear hx q1 q2
   go_wp2_with fail
   go_quiet (fail)
   obtain ⟨w2,hw2⟩ : ∃ w2,w2 = wr.drewN nq:=⟨_,rfl⟩
   rw [← hw2]
   have F2 : Fr [] w w2:=hw2 ▸ F.drewN nq
   clear hw2
   go_wp2_with fail
   go_roundw
   case rel => exact ⟨k + 1,by omega,by go_num,F2⟩
   case measure => simp [intOf];omega
theorem bytes_same (w : World) (va vb : Value) (l : List UInt8) (ha : Sl w va (bv l)) (hb : Sl w vb (bv l)) : Calls Tryz.prog 9 #[va,vb] w fun e w' => e = .returned (.bool true) ∧ Same w w':=by
 have h:=bytes_any w va vb l l ha hb
 rw [decide_eq_true rfl] at h
 exact h
theorem cells6w {w : World} {g : Nat} {t : TypeId} {a0 a1 a2 a3 a4 a5 : Value} (h : w.heap[g]? = some (.cells #[a0,a1,a2,a3,a4,a5] t (0,0))) :
   w.cell? ⟨g,0,none⟩ = some a0 ∧ w.cell? ⟨g,1,none⟩ = some a1 ∧ w.cell? ⟨g,2,none⟩ = some a2 ∧ w.cell? ⟨g,3,none⟩ = some a3 ∧ w.cell? ⟨g,4,none⟩ = some a4 ∧ w.cell? ⟨g,5,none⟩ = some a5 :=
 ⟨by simp [Go.Joins.cell_of_block h],by simp [Go.Joins.cell_of_block h],by simp [Go.Joins.cell_of_block h],by simp [Go.Joins.cell_of_block h],by simp [Go.Joins.cell_of_block h],by simp [Go.Joins.cell_of_block h]⟩
def Two6 (t : TypeId) (p q : Nat) (A B : Array Value) (w : World) : Prop:=w.heap[p]? = some (.cells A t (0,0)) ∧ w.heap[q]? = some (.cells B t (0,0))
theorem Two6.fr {t : TypeId} {p q : Nat} {A B : Array Value} {w w' : World} (h : Two6 t p q A B w) (F : Fr [] w w') : Two6 t p q A B w' :=
 ⟨(F.block p (Array.getElem?_eq_some_iff.1 h.1).1 (by simp)).trans h.1,(F.block q (Array.getElem?_eq_some_iff.1 h.2).1 (by simp)).trans h.2⟩
set_option maxRecDepth 100000 in
set_option maxHeartbeats 4000000 in
theorem rfolders_any (w : World) (c1 b1 p1 s1 c2 b2 p2 s2 : Value) (h : Bool) (k : Int) (f : Folder) (hf1 : FoV w c1 b1 p1 s1 f) (hf2 : FoV w c2 b2 p2 s2 f) (hn : f.coders.length ≤ 1000000000) (hb : f.binds.length ≤ 1000000000) (hp : f.packs.length ≤ 1000000000) (hs : f.sizes.length ≤ 1000000000) :
   Calls Tryz.prog 43 #[.agg #[c1,b1,p1,s1,.bool h,.int .u32 k],.agg #[c2,b2,p2,s2,.bool h,.int .u32 k]] w fun e w' => e = .returned (.bool true) ∧ Fr [] w w':=by
 obtain ⟨co1,cc1,rfl,-,-,ho1⟩:=hf1.co.out
 obtain ⟨co2,cc2,rfl,-,-,ho2⟩:=hf2.co.out
 obtain ⟨bo1,bc1,rfl,-,-,hi1⟩:=hf1.bi.out
 obtain ⟨bo2,bc2,rfl,-,-,hi2⟩:=hf2.bi.out
 have r1:=Row1.sl hf1.pa
 have r2:=Row1.sl hf2.pa
 have r3:=Row1.sl hf1.si
 have r4:=Row1.sl hf2.si
 rw [iv_length] at r1 r2
 rw [u64v_length] at r3 r4
 obtain ⟨po1,pc1,rfl,-⟩:=id r1
 obtain ⟨po2,pc2,rfl,-⟩:=id r2
 obtain ⟨so1,sc1,rfl,-⟩:=id r3
 obtain ⟨so2,sc2,rfl,-⟩:=id r4
 have HIn:=Lib.hid (fun wx (F : Fr [] w wx) => rints_any wx _ _ _ f.packs rfl hp (r1.fr F) (r2.fr F))
 have HNu:=Lib.hid (fun wx (F : Fr [] w wx) => rnumbers_any wx _ _ _ f.sizes rfl hs (r3.fr F) (r4.fr F))
 have HC1:=Lib.hid ho1
 have HC2:=Lib.hid ho2
 have HB1:=Lib.hid hi1
 have HB2:=Lib.hid hi2
 have hneb:=@neq_bi
 have hnec:=@neq_ck
 obtain ⟨nc,hnc⟩ : ∃ n,f.coders.length = n:=⟨_,rfl⟩
 obtain ⟨nb,hnb⟩ : ∃ n,f.binds.length = n:=⟨_,rfl⟩
 have HNC:=Lib.hid hnc
 have HNB:=Lib.hid hnb
 rw [hnc] at hn ⊢
 rw [hnb] at hb ⊢
 have hncI : (nc : Int) ≤ 1000000000:=by omega
 have hnbI : (nb : Int) ≤ 1000000000:=by omega
 obtain ⟨np,hnp⟩ : ∃ n,f.packs.length = n:=⟨_,rfl⟩
 obtain ⟨nz,hnz⟩ : ∃ n,f.sizes.length = n:=⟨_,rfl⟩
 rw [hnp] at HIn ⊢
 rw [hnz] at HNu ⊢
 clear ho1 ho2 hi1 hi2 hf1 hf2 r1 r2 r3 r4 hn hb hp hs hnc hnb hnp hnz
 go_enter Tryz.func43,Tryz.ntmps43
 refine wp_seq_k fun K0 hK0 => ?_
 go_cut [2,3,4] (fun v2 v3 _ wx => ∃ p q,v2 = .pointer (some ⟨p,0,none⟩) ∧ v3 = .pointer (some ⟨q,0,none⟩) ∧
   Two6 70 p q #[.slice co1 nc cc1,.slice bo1 nb bc1,.slice po1 np pc1,.slice so1 nz sc1,.bool h,.int .u32 k] #[.slice co2 nc cc2,.slice bo2 nb bc2,.slice po2 np pc2,.slice so2 nz sc2,.bool h,.int .u32 k] wx ∧ Fr [] w wx)
 case first =>
   clear hK0
   have G1 : Fr [] w (w.alloc (.cells #[.slice co1 nc cc1,.slice bo1 nb bc1,.slice po1 np pc1,.slice so1 nz sc1,.bool h,.int .u32 k] 70)):=(Fr.refl _ _).alloc _
   have G2 : Fr [] (w.alloc (.cells #[.slice co1 nc cc1,.slice bo1 nb bc1,.slice po1 np pc1,.slice so1 nz sc1,.bool h,.int .u32 k] 70)) ((w.alloc (.cells #[.slice co1 nc cc1,.slice bo1 nb bc1,.slice po1 np pc1,.slice so1 nz sc1,.bool h,.int .u32 k] 70)).alloc (.cells #[.slice co2 nc cc2,.slice bo2 nb bc2,.slice po2 np pc2,.slice so2 nz sc2,.bool h,.int .u32 k] 70)):=(Fr.refl _ _).alloc _
   have hb2:=heap_alloc_new (w.alloc (.cells #[.slice co1 nc cc1,.slice bo1 nb bc1,.slice po1 np pc1,.slice so1 nz sc1,.bool h,.int .u32 k] 70)) (.cells #[.slice co2 nc cc2,.slice bo2 nb bc2,.slice po2 np pc2,.slice so2 nz sc2,.bool h,.int .u32 k] 70)
   rw [World.size_alloc] at hb2
   go_wp2_with fail
   go_meet
   case rel => exact ⟨w.heap.size,w.heap.size + 1,rfl,rfl,⟨(G2.block _ (by rw [World.size_alloc];omega) (by simp)).trans (heap_alloc_new w _),hb2⟩,G1.trans0 G2⟩
 case rest =>
 obtain ⟨p,q,rfl,rfl,hT,F0⟩:=hcut
 obtain ⟨wz,hwz⟩ : ∃ wz,wz = wc:=⟨_,rfl⟩
 rw [← hwz] at hT F0 ⊢
 clear hwz
 have HF0:=Lib.hid F0
 have HX:=Lib.hid (fun wx (F : Fr [] wz wx) => And.intro (cells6w (hT.fr F).1) (cells6w (hT.fr F).2))
 clear hT F0
 obtain ⟨⟨a0,a1,a2,a3,a4,a5⟩,⟨d0,d1,d2,d3,d4,d5⟩⟩:=HX.out wz (Fr.refl _ _)
 refine hK0 _ _ ?_
 clear hK0
 go_wp2_with (first
   | (have hq:=G3;go_at_call 41;refine (HNu.out w3 (HF0.out.trans0 G3)).mono ?_;rintro e w4 ⟨rfl,F4⟩;have G4:=G3.trans0 F4;obtain ⟨⟨m0,m1,m2,m3,m4,m5⟩,⟨n0,n1,n2,n3,n4,n5⟩⟩:=HX.out w4 G4)
   | (go_at_call 78;refine (HIn.out wz HF0.out).mono ?_;rintro e w3 ⟨rfl,F3⟩;have G3 : Fr [] wz w3:=F3;obtain ⟨⟨i0,i1,i2,i3,i4,i5⟩,⟨j0,j1,j2,j3,j4,j5⟩⟩:=HX.out w3 G3))
 clear a0 a1 a2 a3 a4 a5 d0 d1 d2 d3 d4 d5 i0 i1 i2 i3 i4 i5 j0 j1 j2 j3 j4 j5 m0 m1 m2 m3 m4 m5 n0 n1 n2 n3 n4 n5 F3 F4 G3
 go_loopw [5] (fun iv wr => ∃ k : Nat,k ≤ nc ∧ iv = .int .i64 (k : Int) ∧ Fr [] wz wr) (fun iv _ => nc - (intOf iv).toNat)
 case atStart => exact ⟨0,Nat.zero_le _,rfl,G4⟩
 case round =>
   obtain ⟨j,hk,rfl,F⟩:=hrel
   obtain ⟨⟨a0,a1,a2,a3,a4,a5⟩,⟨d0,d1,d2,d3,d4,d5⟩⟩:=HX.out wr F
   by_cases hlt : j < nc
   · have hltI : (j : Int) < (nc : Int):=by omega
     obtain ⟨x,hx⟩:=some_get f.coders j (by rw [HNC.out];exact hlt)
     obtain ⟨g1,o1,v1,rfl,hb1,q1,q2,q3⟩:=HC1.out j x hx
     obtain ⟨g2,o2,v2,rfl,hb2,t1,t2,t3⟩:=HC2.out j x hx
     have FW:=HF0.out.trans0 F
     have e1:=(FW.cell (p:=⟨g1,o1 + j * 2,none⟩) hb1 (by simp)).trans q1
     have e2:=(FW.cell (p:=⟨g1,o1 + j * 2 + 1,none⟩) hb1 (by simp)).trans q2
     have e3:=(FW.cell (p:=⟨g2,o2 + j * 2,none⟩) hb2 (by simp)).trans t1
     have e4:=(FW.cell (p:=⟨g2,o2 + j * 2 + 1,none⟩) hb2 (by simp)).trans t2
     obtain ⟨vo1,vc1,rfl,-⟩:=id q3.out
     obtain ⟨vo2,vc2,rfl,-⟩:=id t3.out
     rw [bv_length] at q3 t3 e2 e4
     have HBy:=Lib.hid (fun wx (G : Fr [] w wx) => bytes_same wx _ _ x.props (q3.fr0 G) (t3.fr0 G))
     have hg1 : g1 < wr.heap.size:=Nat.lt_of_lt_of_le hb1 FW.size
     have hg2 : g2 < wr.heap.size:=Nat.lt_of_lt_of_le hb2 FW.size
     have HK:=Lib.hid (fun wx (G : Fr [] wr wx) => And.intro (HX.out wx (F.trans0 G)).1.1 (And.intro (HX.out wx (F.trans0 G)).2.1 (And.intro ((G.cell (p:=⟨g1,o1 + j * 2,none⟩) hg1 (by simp)).trans e1) (And.intro ((G.cell (p:=⟨g2,o2 + j * 2,none⟩) hg2 (by simp)).trans e3) (And.intro ((G.cell (p:=⟨g1,o1 + j * 2 + 1,none⟩) hg1 (by simp)).trans e2) ((G.cell (p:=⟨g2,o2 + j * 2 + 1,none⟩) hg2 (by simp)).trans e4))))))
     clear hx q1 q2 q3 t1 t2 t3 hg1 hg2
     go_wp2_with fail
     go_region_held3 (fun w' => w'.cell? ⟨p,0,none⟩ = some (.slice (some ⟨g1,o1,none⟩) nc cc1) ∧ w'.cell? ⟨q,0,none⟩ = some (.slice (some ⟨g2,o2,none⟩) nc cc2) ∧ w'.cell? ⟨g1,o1 + j * 2,none⟩ = some (.int .i64 x.method) ∧ w'.cell? ⟨g2,o2 + j * 2,none⟩ = some (.int .i64 x.method) ∧ w'.cell? ⟨g1,o1 + j * 2 + 1,none⟩ = some (.slice vo1 x.props.length vc1) ∧ w'.cell? ⟨g2,o2 + j * 2 + 1,none⟩ = some (.slice vo2 x.props.length vc2))
       (first
         | (have hq:=F5;exact HK.out _ GG)
         | exact ⟨a0,d0,e1,e3,e2,e4⟩
         | go_keep)
       (first | (go_at_call 9;refine (HBy.out _ (by first | exact FW.drew | exact FW)).mono ?_;rintro e w5 ⟨rfl,S5⟩;have GG : Fr [] wr w5:=(by first | exact ((Fr.refl [] wr).drew).trans0 S5.fr | exact S5.fr);have F5:=F.trans0 GG))
     go_wp2_with fail
     go_roundw
     case rel => exact ⟨j + 1,by omega,by go_num,F5⟩
     case measure => simp [intOf];omega
   · have hltI : ¬ (j : Int) < (nc : Int):=by omega
     go_wp2_with fail
     clear a0 a1 a2 a3 a4 a5 d0 d1 d2 d3 d4 d5 hltI hlt hk
     go_loopw [6] (fun iv wx => ∃ k : Nat,k ≤ nb ∧ iv = .int .i64 (k : Int) ∧ Fr [] wz wx) (fun iv _ => nb - (intOf iv).toNat)
     case atStart => exact ⟨0,Nat.zero_le _,rfl,F⟩
     case round =>
       obtain ⟨i,hk,rfl,F⟩:=hrel
       obtain ⟨⟨a0,a1,a2,a3,a4,a5⟩,⟨d0,d1,d2,d3,d4,d5⟩⟩:=HX.out wr F
       by_cases hlt : i < nb
       · have hltI : (i : Int) < (nb : Int):=by omega
         obtain ⟨x,hx⟩:=some_get f.binds i (by rw [HNB.out];exact hlt)
         obtain ⟨g1,o1,rfl,hb1,q1,q2⟩:=HB1.out i x hx
         obtain ⟨g2,o2,rfl,hb2,t1,t2⟩:=HB2.out i x hx
         have FW:=HF0.out.trans0 F
         have e1:=(FW.cell (p:=⟨g1,o1 + i * 2,none⟩) hb1 (by simp)).trans q1
         have e2:=(FW.cell (p:=⟨g1,o1 + i * 2 + 1,none⟩) hb1 (by simp)).trans q2
         have e3:=(FW.cell (p:=⟨g2,o2 + i * 2,none⟩) hb2 (by simp)).trans t1
         have e4:=(FW.cell (p:=⟨g2,o2 + i * 2 + 1,none⟩) hb2 (by simp)).trans t2
         clear hx q1 q2 t1 t2
         go_wp2_with fail
         go_quiet (fail)
         obtain ⟨w2,hw2⟩ : ∃ w2,w2 = wr.drewN nq:=⟨_,rfl⟩
         rw [← hw2]
         have F2 : Fr [] wz w2:=hw2 ▸ F.drewN nq
         clear hw2
         go_wp2_with fail
         go_roundw
         case rel => exact ⟨i + 1,by omega,by go_num,F2⟩
         case measure => simp [intOf];omega
       · have hltI : ¬ (i : Int) < (nb : Int):=by omega
         go_wp2_with fail
         go_ret
         exact ⟨rfl,HF0.out.trans0 F⟩
end Go.Proofs.YtkodindajfdagaaGreatDoor
/- Contract: the reference's Same, of two descriptions that read the same. No condition but that lengths fit. -/
namespace Go.Proofs.YtkodindajfdagaaGreatDoor
open Go.RowKit
theorem cells7w {w : World} {g : Nat} {t : TypeId} {a0 a1 a2 a3 a4 a5 a6 : Value} (h : w.heap[g]? = some (.cells #[a0,a1,a2,a3,a4,a5,a6] t (0,0))) :
   w.cell? ⟨g,0,none⟩ = some a0 ∧ w.cell? ⟨g,1,none⟩ = some a1 ∧ w.cell? ⟨g,2,none⟩ = some a2 ∧ w.cell? ⟨g,3,none⟩ = some a3 ∧ w.cell? ⟨g,4,none⟩ = some a4 ∧ w.cell? ⟨g,5,none⟩ = some a5 ∧ w.cell? ⟨g,6,none⟩ = some a6 :=
 ⟨by simp [Go.Joins.cell_of_block h],by simp [Go.Joins.cell_of_block h],by simp [Go.Joins.cell_of_block h],by simp [Go.Joins.cell_of_block h],by simp [Go.Joins.cell_of_block h],by simp [Go.Joins.cell_of_block h],by simp [Go.Joins.cell_of_block h]⟩
theorem sbV_at {l : List Sub} {i : Nat} {y : Sub} (h : l[i]? = some y) : (sbV l)[i * 3]? = some (.int .u64 y.size.toNat) ∧ (sbV l)[i * 3 + 1]? = some (.bool y.ck.has) ∧ (sbV l)[i * 3 + 2]? = some (.int .u32 y.ck.sum.toNat):=by
 induction l generalizing i with
 | nil => simp at h
 | cons x t ih =>
   have hc : sbV (x :: t) = [.int .u64 x.size.toNat,.bool x.ck.has,.int .u32 x.ck.sum.toNat] ++ sbV t:=rfl
   cases i with
   | zero => simp at h;subst h;simp [sbV]
   | succ i =>
     have:=ih (i:=i) (by simpa using h)
     rw [show (i + 1) * 3 = i * 3 + 3 by omega,hc]
     refine ⟨?_,?_,?_⟩
     · rw [List.getElem?_append_right (by simp)];simpa using this.1
     · rw [List.getElem?_append_right (by simp)];simpa using this.2.1
     · rw [List.getElem?_append_right (by simp)];simpa using this.2.2
def DeR (w : World) (v : Value) (pk : Bool) (D : StD) (F : List Fil) : Prop :=
 ∃ d : DW,v = .agg #[d.pk,d.pl,d.ps,d.cs,d.fo,d.su,d.es] ∧ d.pk = .bool pk ∧ StR w d D ∧ RowAt w w.heap.size 7 d.es F.length (fiV F)
theorem DeR.fr {w w' : World} {v : Value} {pk : Bool} {D : StD} {F : List Fil} (h : DeR w v pk D F) (G : Fr [] w w') : DeR w' v pk D F:=by
 obtain ⟨d,e,hp,hR,hF⟩:=h
 exact ⟨d,e,hp,⟨hR.pl,(hR.ps.fr0 G).up G.size,(hR.cs.fr0 G).up G.size,hR.fo.fr G,hR.su.fr G⟩,(hF.fr0 G).up G.size⟩
structure DeFit (D : StD) (F : List Fil) : Prop where
 n1 : D.ps.length ≤ 1000000000
 n2 : D.cs.length ≤ 1000000000
 n3 : D.L.length ≤ 1000000000
 n4 : D.S.length ≤ 1000000000
 n5 : F.length ≤ 1000000000
 fo : ∀ x ∈ D.L,x.f.coders.length ≤ 1000000000 ∧ x.f.binds.length ≤ 1000000000 ∧ x.f.packs.length ≤ 1000000000 ∧ x.f.sizes.length ≤ 1000000000
 su : ∀ l ∈ D.S,l.length ≤ 1000000000
set_option maxRecDepth 100000 in
set_option maxHeartbeats 8000000 in
theorem rsame_any (w : World) (va vb : Value) (pk : Bool) (D : StD) (Fi : List Fil) (ha : DeR w va pk D Fi) (hb : DeR w vb pk D Fi) (hfit : DeFit D Fi) :
   Calls Tryz.prog 16 #[va,vb] w fun e w' => e = .returned (.bool true) ∧ Fr [] w w':=by
 obtain ⟨⟨pk1,pl1,ps1,cs1,fo1,su1,es1⟩,rfl,hp1,hR1,hF1⟩:=ha
 obtain ⟨⟨pk2,pl2,ps2,cs2,fo2,su2,es2⟩,rfl,hp2,hR2,hF2⟩:=hb
 dsimp only at hp1 hp2 hF1 hF2 ⊢
 subst hp1 hp2
 obtain ⟨l1,r1,c1,f1,u1⟩:=hR1
 obtain ⟨l2,r2,c2,f2,u2⟩:=hR2
 dsimp only at l1 r1 c1 f1 u1 l2 r2 c2 f2 u2
 subst l1 l2
 obtain ⟨po1,pc1,rfl,-⟩:=id r1.out
 obtain ⟨po2,pc2,rfl,-⟩:=id r2.out
 obtain ⟨co1,cc1,rfl,-⟩:=id c1.out
 obtain ⟨co2,cc2,rfl,-⟩:=id c2.out
 obtain ⟨fo1,fc1,rfl,-,-,of1⟩:=f1.out
 obtain ⟨fo2,fc2,rfl,-,-,of2⟩:=f2.out
 obtain ⟨so1,sc1,rfl,-,-,os1⟩:=u1.out
 obtain ⟨so2,sc2,rfl,-,-,os2⟩:=u2.out
 obtain ⟨eo1,ec1,rfl,-⟩:=id hF1.out
 obtain ⟨eo2,ec2,rfl,-⟩:=id hF2.out
 have HNu:=Lib.hid (fun wx (G : Fr [] w wx) => rnumbers_any wx _ _ _ D.ps rfl hfit.n1 (Row1.row (r1.fr0 G)) (Row1.row (r2.fr0 G)))
 have HCh:=Lib.hid (fun wx (G : Fr [] w wx) => rchecks_any wx _ _ _ _ _ D.cs rfl hfit.n2 (c1.fr0 G) (c2.fr0 G))
 have HFo1:=Lib.hid of1
 have HFo2:=Lib.hid of2
 have HSu1:=Lib.hid os1
 have HSu2:=Lib.hid os2
 have HFi1:=Lib.hid hF1
 have HFi2:=Lib.hid hF2
 have HFit:=Lib.hid hfit
 have hnes:=@neq_sb
 have hnef:=@neq_fi
 clear r1 r2 c1 c2 f1 f2 u1 u2 of1 of2 os1 os2 hF1 hF2 hfit
 obtain ⟨np,hnp⟩ : ∃ n,D.ps.length = n:=⟨_,rfl⟩
 obtain ⟨nc,hnc⟩ : ∃ n,D.cs.length = n:=⟨_,rfl⟩
 obtain ⟨nf,hnf⟩ : ∃ n,D.L.length = n:=⟨_,rfl⟩
 obtain ⟨ns,hns⟩ : ∃ n,D.S.length = n:=⟨_,rfl⟩
 obtain ⟨ne,hne⟩ : ∃ n,Fi.length = n:=⟨_,rfl⟩
 have HNF:=Lib.hid hnf
 have HNS:=Lib.hid hns
 have HNE:=Lib.hid hne
 have hnfI : (nf : Int) ≤ 1000000000:=by have:=HFit.out.n3;omega
 have hnsI : (ns : Int) ≤ 1000000000:=by have:=HFit.out.n4;omega
 have hneI : (ne : Int) ≤ 1000000000:=by have:=HFit.out.n5;omega
 rw [hnp] at HNu ⊢
 rw [hnc] at HCh ⊢
 rw [hnf] at ⊢
 rw [hns] at ⊢
 rw [hne] at HFi1 HFi2 ⊢
 clear hnp hnc hnf hns hne
 obtain ⟨pl,hpl⟩ : ∃ pl,(D.pl.toNat : Int) = pl:=⟨_,rfl⟩
 rw [hpl]
 clear hpl
 go_enter Tryz.func16,Tryz.ntmps16
 refine wp_seq_k fun K0 hK0 => ?_
 go_cut [2,3,4] (fun v2 v3 _ wx => ∃ p q,v2 = .pointer (some ⟨p,0,none⟩) ∧ v3 = .pointer (some ⟨q,0,none⟩) ∧
   Two6 38 p q #[.bool pk,.int .u64 pl,.slice po1 np pc1,.slice co1 nc cc1,.slice fo1 nf fc1,.slice so1 ns sc1,.slice eo1 ne ec1] #[.bool pk,.int .u64 pl,.slice po2 np pc2,.slice co2 nc cc2,.slice fo2 nf fc2,.slice so2 ns sc2,.slice eo2 ne ec2] wx ∧ Fr [] w wx)
 case first =>
   clear hK0
   have G1 : Fr [] w (w.alloc (.cells #[.bool pk,.int .u64 pl,.slice po1 np pc1,.slice co1 nc cc1,.slice fo1 nf fc1,.slice so1 ns sc1,.slice eo1 ne ec1] 38)):=(Fr.refl _ _).alloc _
   have G2 : Fr [] (w.alloc (.cells #[.bool pk,.int .u64 pl,.slice po1 np pc1,.slice co1 nc cc1,.slice fo1 nf fc1,.slice so1 ns sc1,.slice eo1 ne ec1] 38)) ((w.alloc (.cells #[.bool pk,.int .u64 pl,.slice po1 np pc1,.slice co1 nc cc1,.slice fo1 nf fc1,.slice so1 ns sc1,.slice eo1 ne ec1] 38)).alloc (.cells #[.bool pk,.int .u64 pl,.slice po2 np pc2,.slice co2 nc cc2,.slice fo2 nf fc2,.slice so2 ns sc2,.slice eo2 ne ec2] 38)):=(Fr.refl _ _).alloc _
   have hb2:=heap_alloc_new (w.alloc (.cells #[.bool pk,.int .u64 pl,.slice po1 np pc1,.slice co1 nc cc1,.slice fo1 nf fc1,.slice so1 ns sc1,.slice eo1 ne ec1] 38)) (.cells #[.bool pk,.int .u64 pl,.slice po2 np pc2,.slice co2 nc cc2,.slice fo2 nf fc2,.slice so2 ns sc2,.slice eo2 ne ec2] 38)
   rw [World.size_alloc] at hb2
   go_wp2_with fail
   go_meet
   case rel => exact ⟨w.heap.size,w.heap.size + 1,rfl,rfl,⟨(G2.block _ (by rw [World.size_alloc];omega) (by simp)).trans (heap_alloc_new w _),hb2⟩,G1.trans0 G2⟩
 case rest =>
 obtain ⟨p,q,rfl,rfl,hT,F0⟩:=hcut
 obtain ⟨wz,hwz⟩ : ∃ wz,wz = wc:=⟨_,rfl⟩
 rw [← hwz] at hT F0 ⊢
 clear hwz
 have HF0:=Lib.hid F0
 have HX:=Lib.hid (fun wx (F : Fr [] wz wx) => And.intro (cells7w (hT.fr F).1) (cells7w (hT.fr F).2))
 clear hT F0
 obtain ⟨⟨a0,a1,a2,a3,a4,a5,a6⟩,⟨d0,d1,d2,d3,d4,d5,d6⟩⟩:=HX.out wz (Fr.refl _ _)
 refine hK0 _ _ ?_
 clear hK0
 go_wp2_with (first
   | (have hq:=G3;go_at_call 42;refine (HCh.out w3 (HF0.out.trans0 G3)).mono ?_;rintro e w4 ⟨rfl,F4⟩;have G4:=G3.trans0 F4;obtain ⟨⟨m0,m1,m2,m3,m4,m5,m6⟩,⟨n0,n1,n2,n3,n4,n5,n6⟩⟩:=HX.out w4 G4)
   | (go_at_call 41;refine (HNu.out wz HF0.out).mono ?_;rintro e w3 ⟨rfl,F3⟩;have G3 : Fr [] wz w3:=F3;obtain ⟨⟨i0,i1,i2,i3,i4,i5,i6⟩,⟨j0,j1,j2,j3,j4,j5,j6⟩⟩:=HX.out w3 G3))
 clear a0 a1 a2 a3 a4 a5 a6 d0 d1 d2 d3 d4 d5 d6 i0 i1 i2 i3 i4 i5 i6 j0 j1 j2 j3 j4 j5 j6 m0 m1 m2 m3 m4 m5 m6 n0 n1 n2 n3 n4 n5 n6 F3 F4 G3
 go_loopw [5] (fun iv wr => ∃ k : Nat,k ≤ nf ∧ iv = .int .i64 (k : Int) ∧ Fr [] wz wr) (fun iv _ => nf - (intOf iv).toNat)
 case atStart => exact ⟨0,Nat.zero_le _,rfl,G4⟩
 case round =>
   obtain ⟨j,hk,rfl,F⟩:=hrel
   obtain ⟨⟨a0,a1,a2,a3,a4,a5,a6⟩,⟨d0,d1,d2,d3,d4,d5,d6⟩⟩:=HX.out wr F
   by_cases hlt : j < nf
   · have hltI : (j : Int) < (nf : Int):=by omega
     obtain ⟨x,hx⟩:=some_get D.L j (by rw [HNF.out];exact hlt)
     obtain ⟨g1,o1,v1,v2,v3,v4,rfl,hb1,q1,q2,q3,q4,q5,q6,fv1⟩:=HFo1.out j x hx
     obtain ⟨g2,o2,t1,t2,t3,t4,rfl,hb2,s1,s2,s3,s4,s5,s6,fv2⟩:=HFo2.out j x hx
     obtain ⟨z1,z2,z3,z4⟩:=HFit.out.fo x (List.mem_of_getElem? hx)
     have HFl:=Lib.hid (fun wx (G : Fr [] w wx) => rfolders_any wx _ _ _ _ _ _ _ _ x.ck.has x.ck.sum.toNat x.f (fv1.fr G) (fv2.fr G) z1 z2 z3 z4)
     have FW:=HF0.out.trans0 F
     have hg1 : g1 < wr.heap.size:=Nat.lt_of_lt_of_le hb1 FW.size
     have hg2 : g2 < wr.heap.size:=Nat.lt_of_lt_of_le hb2 FW.size
     have c1 : ∀ i,wr.cell? ⟨g1,i,none⟩ = w.cell? ⟨g1,i,none⟩:=fun i => FW.cell (p:=⟨g1,i,none⟩) hb1 (by simp)
     have c2 : ∀ i,wr.cell? ⟨g2,i,none⟩ = w.cell? ⟨g2,i,none⟩:=fun i => FW.cell (p:=⟨g2,i,none⟩) hb2 (by simp)
     have HK:=Lib.hid (fun wx (G : Fr [] wr wx) => (And.intro (HX.out wx (F.trans0 G)).1.2.2.2.2.1 (And.intro (HX.out wx (F.trans0 G)).2.2.2.2.2.1
       (And.intro (((G.cell (p:=⟨g1,o1 + j * 6,none⟩) hg1 (by simp)).trans (c1 _)).trans q1) (And.intro (((G.cell (p:=⟨g1,o1 + j * 6 + 1,none⟩) hg1 (by simp)).trans (c1 _)).trans q2) (And.intro (((G.cell (p:=⟨g1,o1 + j * 6 + 2,none⟩) hg1 (by simp)).trans (c1 _)).trans q3) (And.intro (((G.cell (p:=⟨g1,o1 + j * 6 + 3,none⟩) hg1 (by simp)).trans (c1 _)).trans q4) (And.intro (((G.cell (p:=⟨g1,o1 + j * 6 + 4,none⟩) hg1 (by simp)).trans (c1 _)).trans q5) (And.intro (((G.cell (p:=⟨g1,o1 + j * 6 + 5,none⟩) hg1 (by simp)).trans (c1 _)).trans q6)
       (And.intro (((G.cell (p:=⟨g2,o2 + j * 6,none⟩) hg2 (by simp)).trans (c2 _)).trans s1) (And.intro (((G.cell (p:=⟨g2,o2 + j * 6 + 1,none⟩) hg2 (by simp)).trans (c2 _)).trans s2) (And.intro (((G.cell (p:=⟨g2,o2 + j * 6 + 2,none⟩) hg2 (by simp)).trans (c2 _)).trans s3) (And.intro (((G.cell (p:=⟨g2,o2 + j * 6 + 3,none⟩) hg2 (by simp)).trans (c2 _)).trans s4) (And.intro (((G.cell (p:=⟨g2,o2 + j * 6 + 4,none⟩) hg2 (by simp)).trans (c2 _)).trans s5) (((G.cell (p:=⟨g2,o2 + j * 6 + 5,none⟩) hg2 (by simp)).trans (c2 _)).trans s6)))))))))))))))
     obtain ⟨w0,hw0⟩ : ∃ w0,w0 = wr:=⟨_,rfl⟩
     clear hx q1 q2 q3 q4 q5 q6 s1 s2 s3 s4 s5 s6 c1 c2 fv1 fv2 z1 z2 z3 z4 hg1 hg2 hb1 hb2 hw0 w0
     clear a0 a1 a2 a3 a4 a5 a6 d0 d1 d2 d3 d4 d5 d6
     obtain ⟨y1,y2,y3,y4,y5,y6,y7,y8,y9,y10,y11,y12,y13,y14⟩:=HK.out wr (Fr.refl _ _)
     go_wp2_with fail
     go_region_held3 (fun wx => wx.cell? ⟨p,4,none⟩ = some (.slice (some ⟨g1,o1,none⟩) nf fc1) ∧ wx.cell? ⟨q,4,none⟩ = some (.slice (some ⟨g2,o2,none⟩) nf fc2) ∧
       wx.cell? ⟨g1,o1 + j * 6,none⟩ = some v1 ∧ wx.cell? ⟨g1,o1 + j * 6 + 1,none⟩ = some v2 ∧ wx.cell? ⟨g1,o1 + j * 6 + 2,none⟩ = some v3 ∧ wx.cell? ⟨g1,o1 + j * 6 + 3,none⟩ = some v4 ∧ wx.cell? ⟨g1,o1 + j * 6 + 4,none⟩ = some (.bool x.ck.has) ∧ wx.cell? ⟨g1,o1 + j * 6 + 5,none⟩ = some (.int .u32 x.ck.sum.toNat) ∧
       wx.cell? ⟨g2,o2 + j * 6,none⟩ = some t1 ∧ wx.cell? ⟨g2,o2 + j * 6 + 1,none⟩ = some t2 ∧ wx.cell? ⟨g2,o2 + j * 6 + 2,none⟩ = some t3 ∧ wx.cell? ⟨g2,o2 + j * 6 + 3,none⟩ = some t4 ∧ wx.cell? ⟨g2,o2 + j * 6 + 4,none⟩ = some (.bool x.ck.has) ∧ wx.cell? ⟨g2,o2 + j * 6 + 5,none⟩ = some (.int .u32 x.ck.sum.toNat))
       (first
         | (have hq:=F5;exact HK.out _ GG)
         | exact HK.out _ (Fr.refl _ _)
         | go_keep)
       (first | (go_at_call 43;refine (HFl.out _ (by first | exact FW.drew | exact FW)).mono ?_;rintro e w5 ⟨rfl,S5⟩;have GG : Fr [] wr w5:=(by first | exact ((Fr.refl [] wr).drew).trans0 S5 | exact S5);have F5:=F.trans0 GG))
     go_wp2_with fail
     go_roundw
     case rel => exact ⟨j + 1,by omega,by go_num,F5⟩
     case measure => simp [intOf];omega
   · have hltI : ¬ (j : Int) < (nf : Int):=by omega
     go_wp2_with fail
     clear a0 a1 a2 a3 a4 a5 a6 d0 d1 d2 d3 d4 d5 d6 hltI hlt hk G4
     go_loopw [6] (fun iv wx => ∃ k : Nat,k ≤ ns ∧ iv = .int .i64 (k : Int) ∧ Fr [] wz wx) (fun iv _ => ns - (intOf iv).toNat)
     case atStart => exact ⟨0,Nat.zero_le _,rfl,F⟩
     case round =>
       obtain ⟨i,hk,rfl,F⟩:=hrel
       obtain ⟨⟨a0,a1,a2,a3,a4,a5,a6⟩,⟨d0,d1,d2,d3,d4,d5,d6⟩⟩:=HX.out wr F
       by_cases hlt : i < ns
       · have hltI : (i : Int) < (ns : Int):=by omega
         obtain ⟨l,hl⟩:=some_get D.S i (by rw [HNS.out];exact hlt)
         obtain ⟨g1,o1,v1,rfl,hb1,q1,r1⟩:=HSu1.out i l hl
         obtain ⟨g2,o2,v2,rfl,hb2,q2,r2⟩:=HSu2.out i l hl
         have hll:=HFit.out.su l (List.mem_of_getElem? hl)
         obtain ⟨ao1,ac1,rfl,-,-,z1⟩:=r1.out
         obtain ⟨ao2,ac2,rfl,-,-,z2⟩:=r2.out
         obtain ⟨nl,hnl⟩ : ∃ n,l.length = n:=⟨_,rfl⟩
         have HNL:=Lib.hid hnl
         rw [hnl] at q1 q2 z1 z2 hll
         have HZ1:=Lib.hid z1
         have HZ2:=Lib.hid z2
         have hnlI : (nl : Int) ≤ 1000000000:=by omega
         have FW:=HF0.out.trans0 F
         have HQ:=Lib.hid (fun wx (G : Fr [] w wx) => And.intro ((G.cell (p:=⟨g1,o1 + i,none⟩) hb1 (by simp)).trans q1) ((G.cell (p:=⟨g2,o2 + i,none⟩) hb2 (by simp)).trans q2))
         obtain ⟨e1,e2⟩:=HQ.out wr FW
         clear hl hnl z1 z2 r1 r2 q1 q2 hb1 hb2 hll
         go_wp2_with fail
         go_quiet (fail)
         obtain ⟨w2,hw2⟩ : ∃ w2,w2 = wr.drewN nq:=⟨_,rfl⟩
         rw [← hw2]
         have F2 : Fr [] wz w2:=hw2 ▸ F.drewN nq
         clear hw2 e1 e2 a0 a1 a2 a3 a4 a5 a6 d0 d1 d2 d3 d4 d5 d6
         go_wp2_with fail
         go_loopw [7] (fun iv wx => ∃ k : Nat,k ≤ nl ∧ iv = .int .i64 (k : Int) ∧ Fr [] wz wx) (fun iv _ => nl - (intOf iv).toNat)
         case atStart => exact ⟨0,Nat.zero_le _,rfl,F2⟩
         case round =>
           obtain ⟨k,hkk,rfl,F⟩:=hrel
           obtain ⟨⟨a0,a1,a2,a3,a4,a5,a6⟩,⟨d0,d1,d2,d3,d4,d5,d6⟩⟩:=HX.out wr F
           have FW:=HF0.out.trans0 F
           obtain ⟨e1,e2⟩:=HQ.out wr FW
           by_cases hltk : k < nl
           · have hltkI : (k : Int) < (nl : Int):=by omega
             obtain ⟨y,hy⟩:=some_get l k (by rw [HNL.out];exact hltk)
             obtain ⟨h1,u1,rfl,-,hb1,z1⟩:=HZ1.out k hltk
             obtain ⟨h2,u2,rfl,-,hb2,z2⟩:=HZ2.out k hltk
             obtain ⟨y0,y1,y2⟩:=sbV_at hy
             have k0 : wr.cell? ⟨h1,u1 + k * 3,none⟩ = some (.int .u64 y.size.toNat):=(FW.cell (p:=⟨h1,u1 + k * 3,none⟩) hb1 (by simp)).trans ((z1 0 (by decide)).trans y0)
             have k1 : wr.cell? ⟨h1,u1 + k * 3 + 1,none⟩ = some (.bool y.ck.has):=(FW.cell (p:=⟨h1,u1 + k * 3 + 1,none⟩) hb1 (by simp)).trans ((z1 1 (by decide)).trans y1)
             have k2 : wr.cell? ⟨h1,u1 + k * 3 + 2,none⟩ = some (.int .u32 y.ck.sum.toNat):=(FW.cell (p:=⟨h1,u1 + k * 3 + 2,none⟩) hb1 (by simp)).trans ((z1 2 (by decide)).trans y2)
             have m0 : wr.cell? ⟨h2,u2 + k * 3,none⟩ = some (.int .u64 y.size.toNat):=(FW.cell (p:=⟨h2,u2 + k * 3,none⟩) hb2 (by simp)).trans ((z2 0 (by decide)).trans y0)
             have m1 : wr.cell? ⟨h2,u2 + k * 3 + 1,none⟩ = some (.bool y.ck.has):=(FW.cell (p:=⟨h2,u2 + k * 3 + 1,none⟩) hb2 (by simp)).trans ((z2 1 (by decide)).trans y1)
             have m2 : wr.cell? ⟨h2,u2 + k * 3 + 2,none⟩ = some (.int .u32 y.ck.sum.toNat):=(FW.cell (p:=⟨h2,u2 + k * 3 + 2,none⟩) hb2 (by simp)).trans ((z2 2 (by decide)).trans y2)
             clear hy z1 z2 y0 y1 y2
             go_wp2_with fail
             go_quiet (fail)
             obtain ⟨w3,hw3⟩ : ∃ w3,w3 = wr.drewN nq:=⟨_,rfl⟩
             rw [← hw3]
             have F3 : Fr [] wz w3:=hw3 ▸ F.drewN nq
             clear hw3
             go_wp2_with fail
             go_roundw
             case rel => exact ⟨k + 1,by omega,by go_num,F3⟩
             case measure => simp [intOf];omega
           · have hltkI : ¬ (k : Int) < (nl : Int):=by omega
             go_wp2_with fail
             go_roundw
             case rel => exact ⟨i + 1,by omega,by go_num,F⟩
             case measure => simp [intOf];omega
       · have hltI : ¬ (i : Int) < (ns : Int):=by omega
         go_wp2_with fail
         clear a0 a1 a2 a3 a4 a5 a6 d0 d1 d2 d3 d4 d5 d6 hltI hlt hk
         go_loopw [8] (fun iv wx => ∃ k : Nat,k ≤ ne ∧ iv = .int .i64 (k : Int) ∧ Fr [] wz wx) (fun iv _ => ne - (intOf iv).toNat)
         case atStart => exact ⟨0,Nat.zero_le _,rfl,F⟩
         case round =>
           obtain ⟨k,hk,rfl,F⟩:=hrel
           obtain ⟨⟨a0,a1,a2,a3,a4,a5,a6⟩,⟨d0,d1,d2,d3,d4,d5,d6⟩⟩:=HX.out wr F
           by_cases hlt : k < ne
           · have hltI : (k : Int) < (ne : Int):=by omega
             obtain ⟨X,hX⟩:=some_get Fi k (by rw [HNE.out];exact hlt)
             have FW:=HF0.out.trans0 F
             obtain ⟨g1,o1,rfl,hb1,p0,p1,p2,p3,p4,p5,p6⟩:=(HFi1.out.fr0 FW).fil hX hlt
             obtain ⟨g2,o2,rfl,hb2,q0,q1,q2,q3,q4,q5,q6⟩:=(HFi2.out.fr0 FW).fil hX hlt
             clear hX
             go_wp2_with fail
             go_quiet (fail)
             obtain ⟨w3,hw3⟩ : ∃ w3,w3 = wr.drewN nq:=⟨_,rfl⟩
             rw [← hw3]
             have F3 : Fr [] wz w3:=hw3 ▸ F.drewN nq
             clear hw3
             go_wp2_with fail
             go_roundw
             case rel => exact ⟨k + 1,by omega,by go_num,F3⟩
             case measure => simp [intOf];omega
           · have hltI : ¬ (k : Int) < (ne : Int):=by omega
             go_wp2_with fail
             go_ret
             exact ⟨rfl,HF0.out.trans0 F⟩
end Go.Proofs.YtkodindajfdagaaGreatDoor
/- Contract: the reference's Small. No condition but that lengths are those of what lies in memory. -/
namespace Go.Proofs.YtkodindajfdagaaGreatDoor
open Go.RowKit
structure DeSz (D : StD) (F : List Fil) : Prop where
 n1 : D.ps.length ≤ 140737488355328
 n2 : D.L.length ≤ 140737488355328
 n3 : F.length ≤ 140737488355328
 fo : ∀ x ∈ D.L,x.f.coders.length ≤ 140737488355328 ∧ x.f.binds.length ≤ 140737488355328 ∧ x.f.packs.length ≤ 140737488355328 ∧ x.f.sizes.length ≤ 140737488355328
def pr64 (f : Folder) : Nat:=(f.coders.map fun c => c.props.length / 64).sum
def fCost (x : Fol) : Nat:=x.f.coders.length + x.f.binds.length + x.f.packs.length + x.f.sizes.length + pr64 x.f
def fCosts (L : List Fol) : Nat:=(L.map fCost).sum
structure SmOk (D : StD) (F : List Fil) : Prop where
 a : D.ps.length + D.L.length + F.length ≤ 300
 b : D.cs.length ≤ 300
 c : D.S.length ≤ 300
 d : fCosts D.L + manyOf D.S ≤ 3000
 e : ∀ x ∈ D.L,∀ c ∈ x.f.coders,c.props.length ≤ 131072
 f : ∀ x ∈ F,x.name.length ≤ 2000
end Go.Proofs.YtkodindajfdagaaGreatDoor
