/- Contract: headerw.mayStreams. No condition but that lengths fit. -/
import Derived.Test.YtkodindajfdagaaGreatDoorWMayGM
import Derived.Test.YtkodindajfdagaaGreatDoorKD
import Derived.Deep.RegionHeld3
import Derived.Test.YtkodindajfdagaaGreatDoorJX
namespace Go.Proofs.YtkodindajfdagaaGreatDoor
open Go.RowKit
structure StFit (D : StD) : Prop where
 n1 : D.ps.length ≤ 100000
 n2 : D.cs.length ≤ 100000
 n3 : D.S.length ≤ 100000
 n4 : D.L.length ≤ 100000
 fo : ∀ x ∈ D.L,x.f.coders.length ≤ 100000 ∧ x.f.binds.length ≤ 100000 ∧ x.f.packs.length ≤ 100000 ∧ x.f.sizes.length ≤ 100000
 su : ∀ l ∈ D.S,l.length ≤ 100000
theorem arr_get {α : Type} (l : List α) (i : Nat) (x : α) (h : l[i]? = some x) : l.toArray[i]? = some x:=by simpa using h
theorem manyOf_take {S : List (List Sub)} {k : Nat} {l : List Sub} (h : S[k]? = some l) : manyOf (S.take (k + 1)) = manyOf (S.take k) + l.length:=by
 unfold manyOf
 rw [List.take_add_one,h]
 simp
theorem manyOf_le {S : List (List Sub)} (h : ∀ l ∈ S,l.length ≤ 100000) : manyOf S ≤ S.length * 100000:=by
 induction S with
 | nil => simp [manyOf]
 | cons x t ih =>
   have h1:=h x (by simp)
   have h2:=ih (fun l hl => h l (by simp [hl]))
   unfold manyOf at h2 ⊢
   rw [List.map_cons,List.sum_cons,List.length_cons,Nat.succ_mul]
   omega
theorem mayRows_take {L : List Fol} {S : List (List Sub)} {k : Nat} {x : Fol} {l : List Sub} (h1 : L[k]? = some x) (h2 : S[k]? = some l) (h : ((L.zip S).take k).all (fun p => mayFol p.1 && maySub p.1 p.2) = true) (h3 : mayFol x = true) (h4 : maySub x l = true) : ((L.zip S).take (k + 1)).all (fun p => mayFol p.1 && maySub p.1 p.2) = true:=by
 have e : (L.zip S)[k]? = some (x,l):=by rw [List.getElem?_zip_eq_some];exact ⟨h1,h2⟩
 rw [List.take_add_one,e,List.all_append,h]
 simp [h3,h4]
theorem mayRows_bad {L : List Fol} {S : List (List Sub)} {k : Nat} {x : Fol} {l : List Sub} (h1 : L[k]? = some x) (h2 : S[k]? = some l) (h : (mayFol x && maySub x l) = false) : mayRows L S = false:=by
 by_cases e : mayRows L S = true
 · have:=zip_all e h1 h2
   dsimp only at this
   rw [h] at this
   cases this
 · simpa using e
def mayOut (D : StD) : Value:=.tuple #[.int .i64 (if mayStr D then (manyOf D.S : Int) else 0),.bool (mayStr D)]
theorem mayOut_no {D : StD} (h : mayStr D = false) : mayOut D = .tuple #[.int .i64 0,.bool false]:=by unfold mayOut;rw [h];rfl
theorem mayOut_yes {D : StD} (h : mayStr D = true) : mayOut D = .tuple #[.int .i64 (manyOf D.S : Int),.bool true]:=by unfold mayOut;rw [h];rfl
set_option maxRecDepth 100000 in
set_option maxHeartbeats 8000000 in
theorem maystreams_any (w : World) (d : DW) (D : StD) (hR : StR w d D) (hfit : StFit D) :
   Calls Tryz.prog 44 #[.agg #[d.pk,d.pl,d.ps,d.cs,d.fo,d.su,d.es]] w fun e w' => e = .returned (mayOut D) ∧ Fr [] w w':=by
 obtain ⟨pk,pl,ps,cs,fo,su,es⟩:=d
 obtain ⟨r1,r2,r3,r4,r5⟩:=hR
 dsimp only at r1 r2 r3 r4 r5 ⊢
 subst r1
 obtain ⟨pao,pcap,rfl,-,-,-⟩:=r2.out
 obtain ⟨cao,ccap,rfl,-,-,-⟩:=r3.out
 obtain ⟨fao,fcap,rfl,-,-,fel⟩:=r4.out
 obtain ⟨sao,scap,rfl,-,-,sel⟩:=r5.out
 have HP:=Lib.hid r2
 have HC:=Lib.hid r3
 have HFe:=Lib.hid fel
 have HSe:=Lib.hid sel
 have HFit:=Lib.hid hfit
 have HSz:=Lib.hid (fun wx (F : Fr [] w wx) => sizes_any wx w.heap.size _ D.ps (r2.fr0 F) (by have:=hfit.n1;omega))
 have hM : mayStr D = (decide (D.pl.toNat ≤ 1099511627776) && sizesUp 0 D.ps && decide (D.cs.length = D.ps.length) && decide (D.S.length = D.L.length) && D.cs.all ckOk && mayRows D.L D.S):=rfl
 have HM:=Lib.hid hM
 have b1:=hfit.n1
 have b2:=hfit.n2
 have b3:=hfit.n3
 have b4:=hfit.n4
 clear r2 r3 r4 r5 fel sel hfit hM
 obtain ⟨NP,hNP⟩ : ∃ n,D.ps.length = n:=⟨_,rfl⟩
 obtain ⟨NC,hNC⟩ : ∃ n,D.cs.length = n:=⟨_,rfl⟩
 obtain ⟨NS,hNS⟩ : ∃ n,D.S.length = n:=⟨_,rfl⟩
 obtain ⟨NL,hNL⟩ : ∃ n,D.L.length = n:=⟨_,rfl⟩
 have HNP:=Lib.hid hNP
 have HNC:=Lib.hid hNC
 have HNS:=Lib.hid hNS
 have HNL:=Lib.hid hNL
 rw [hNP] at b1 HSz HP HM ⊢
 rw [hNC] at b2 HC HM ⊢
 rw [hNS] at b3 HM ⊢
 rw [hNL] at b4 HM ⊢
 clear hNP hNC hNS hNL
 generalize hz : sizesUp 0 D.ps = sz at *
 have HZ:=Lib.hid hz
 clear hz
 obtain ⟨wA,hwA⟩ : ∃ wA,wA = w.alloc (.cells #[pk,.int .u64 D.pl.toNat,.slice pao NP pcap,.slice cao NC ccap,.slice fao NL fcap,.slice sao NS scap,es] 38):=⟨_,rfl⟩
 have FA : Fr [] w wA:=hwA ▸ (Fr.refl _ _).alloc _
 have HBX:=Lib.hid (fun wx (F2 : Fr [] wA wx) => wbox7 (hwA ▸ F2 : Fr [] (w.alloc (.cells #[pk,.int .u64 D.pl.toNat,.slice pao NP pcap,.slice cao NC ccap,.slice fao NL fcap,.slice sao NS scap,es] 38)) wx) (by simp))
 obtain ⟨k0,k1,k2,k3,k4,k5,k6⟩:=HBX.out wA (Fr.refl _ _)
 have hnot : ∀ (x : Bool) (w : World),(Op.unary .not (.bool x)).run Tryz.prog w = .ok (.bool (!x)) w:=fun _ _ => rfl
 by_cases h1 : D.pl.toNat ≤ 1099511627776
 rotate_left
 · have HE:=Lib.hid (mayOut_no (D:=D) (by rw [HM.out,decide_eq_false h1];rfl))
   have t1 : decide ((1099511627776 : Int) < (D.pl.toNat : Int)) = true:=decide_eq_true (by omega)
   clear h1
   go_enter Tryz.func44,Tryz.ntmps44
   go_wp2_with fail
   go_ret2
   exact ⟨by rw [HE.out];rfl,by first | exact FA | exact (Fr.refl _ _).alloc _⟩
 have t1 : decide ((1099511627776 : Int) < (D.pl.toNat : Int)) = false:=decide_eq_false (by omega)
 have HD1:=Lib.hid (decide_eq_true h1)
 clear h1
 cases sz with
 | false =>
   have HE:=Lib.hid (mayOut_no (D:=D) (by rw [HM.out];simp))
   go_enter Tryz.func44,Tryz.ntmps44
   go_wp2_with (go_at_call 79;rw [← hwA];refine (HSz.out _ FA).mono ?_;rintro e w1 ⟨rfl,rfl⟩)
   rw [← hwA]
   go_ret2
   exact ⟨by rw [HE.out];rfl,by first | exact FA | exact (Fr.refl _ _).alloc _⟩
 | true =>
 by_cases h2 : NC = NP
 rotate_left
 · have HE:=Lib.hid (mayOut_no (D:=D) (by rw [HM.out,decide_eq_false h2];simp))
   have t2 : ((NC : Int) == (NP : Int)) = false:=by rw [beq_eq_false_iff_ne];omega
   have t2' : ((NC : Int) != (NP : Int)) = true:=by unfold bne;rw [t2];rfl
   clear h2
   go_enter Tryz.func44,Tryz.ntmps44
   go_wp2_with (go_at_call 79;rw [← hwA];refine (HSz.out _ FA).mono ?_;rintro e w1 ⟨rfl,rfl⟩)
   go_ret2
   exact ⟨by rw [HE.out];rfl,by first | exact FA | exact (Fr.refl _ _).alloc _⟩
 have t2 : ((NC : Int) == (NP : Int)) = true:=by rw [beq_iff_eq];omega
 have t2' : ((NC : Int) != (NP : Int)) = false:=by unfold bne;rw [t2];rfl
 have HD2:=Lib.hid (decide_eq_true h2)
 clear h2
 by_cases h3 : NS = NL
 rotate_left
 · have HE:=Lib.hid (mayOut_no (D:=D) (by rw [HM.out,decide_eq_false h3];simp))
   have t3 : ((NS : Int) == (NL : Int)) = false:=by rw [beq_eq_false_iff_ne];omega
   have t3' : ((NS : Int) != (NL : Int)) = true:=by unfold bne;rw [t3];rfl
   clear h3
   go_enter Tryz.func44,Tryz.ntmps44
   go_wp2_with (go_at_call 79;rw [← hwA];refine (HSz.out _ FA).mono ?_;rintro e w1 ⟨rfl,rfl⟩)
   go_ret2
   exact ⟨by rw [HE.out];rfl,by first | exact FA | exact (Fr.refl _ _).alloc _⟩
 have t3 : ((NS : Int) == (NL : Int)) = true:=by rw [beq_iff_eq];omega
 have t3' : ((NS : Int) != (NL : Int)) = false:=by unfold bne;rw [t3];rfl
 have HD3:=Lib.hid h3
 clear h3
 go_enter Tryz.func44,Tryz.ntmps44
 go_wp2_with (go_at_call 79;rw [← hwA];refine (HSz.out _ FA).mono ?_;rintro e w1 ⟨rfl,rfl⟩)
 rw [← hwA]
 clear hwA
 have HFit2:=HFit.out
 go_loopw [39] (fun i wr => ∃ k : Nat,k ≤ NC ∧ i = .int .i64 k ∧ Hid ((D.cs.take k).all ckOk = true) ∧ Fr [] wA wr) (fun i _ => NC - (intOf i).toNat)
 case atStart => exact ⟨0,Nat.zero_le _,rfl,by show ([] : List Ck).all ckOk = true;rfl,Fr.refl _ _⟩
 case round =>
   obtain ⟨k,hk,rfl,hA,F⟩:=hrel
   by_cases hlt : k < NC
   · obtain ⟨c,hc⟩:=some_get D.cs k (by rw [HNC.out];exact hlt)
     obtain ⟨b1,o1,hao,hb1,e0,e1⟩:=(HC.out.fr0 (FA.trans0 F)).ck hc hlt
     subst hao
     have HX:=Lib.hid (show ckOk c = true → (D.cs.take (k + 1)).all ckOk = true from fun h => by rw [List.take_add_one,hc,List.all_append,hA.out];simp [h])
     have HBad:=Lib.hid (show ckOk c = false → mayStr D = false from fun h => by
       have : D.cs.all ckOk = false:=by rw [List.all_eq_false];exact ⟨c,List.mem_of_getElem? hc,by simp [h]⟩
       rw [HM.out,this]
       simp)
     have HFa:=Lib.hid (fun wx => (show Calls Tryz.prog 80 #[.agg #[.bool c.has,.int .u32 c.sum.toNat]] wx fun e w' => e = .returned (.bool (ckOk c)) ∧ Fr [] wx w' from fair_any wx c))
     have hltI : (k : Int) < (NC : Int):=by omega
     have HF:=Lib.hid F
     clear hc hA F
     cases hco : ckOk c with
     | false =>
       have HE:=Lib.hid (mayOut_no (HBad.out hco))
       rw [hco] at HFa
       clear hco
       go_wp2_with (go_at_call 80;refine (HFa.out _).mono ?_;rintro e w3 ⟨rfl,F3⟩)
       go_ret2
       exact ⟨by rw [HE.out];rfl,FA.trans0 (HF.out.trans0 (((Fr.refl _ _).alloc _).trans0 F3))⟩
     | true =>
       have HE:=Lib.hid (HX.out hco)
       rw [hco] at HFa
       clear hco
       go_wp2_with (go_at_call 80;refine (HFa.out _).mono ?_;rintro e w3 ⟨rfl,F3⟩)
       go_roundw
       case rel => exact ⟨k + 1,by omega,by go_num,HE.out,HF.out.trans0 (((Fr.refl _ _).alloc _).trans0 F3)⟩
       case measure => simp [intOf];omega
   obtain rfl : k = NC:=by omega
   have HCA:=Lib.hid (show D.cs.all ckOk = true by
     have:=hA.out
     rw [List.take_of_length_le (by rw [HNC.out];exact Nat.le_refl _)] at this
     exact this)
   obtain ⟨n0,n1,n2,n3,n4,n5,n6⟩:=HBX.out _ F
   have HF1:=Lib.hid (FA.trans0 F)
   have HB1:=Lib.hid (fun wx (F2 : Fr [] wr wx) => HBX.out wx (F.trans0 F2))
   have HME:=Lib.hid (show mayStr D = mayRows D.L D.S by
     rw [HM.out,HD1.out,HD2.out,HCA.out,decide_eq_true HD3.out]
     simp)
   clear hA
   rename World => wK
   go_wp2_with fail
   go_loopw [4,50] (fun v4 i wr => ∃ m : Nat,m ≤ NL ∧ i = .int .i64 m ∧ v4 = .int .i64 (manyOf (D.S.take m) : Nat) ∧ Hid (((D.L.zip D.S).take m).all (fun p => mayFol p.1 && maySub p.1 p.2) = true) ∧ Fr [] wK wr) (fun _ i _ => NL - (intOf i).toNat)
   case atStart => exact ⟨0,Nat.zero_le _,rfl,rfl,by show ([] : List (Fol × List Sub)).all _ = true;rfl,Fr.refl _ _⟩
   case round =>
     obtain ⟨m,hm,rfl,rfl,hA,F2⟩:=hrel
     have hsum:=manyOf_le (S:=D.S.take m) (fun l hl => HFit.out.su l (List.mem_of_mem_take hl))
     rw [List.length_take] at hsum
     by_cases hlt : m < NL
     · obtain ⟨x,hx⟩:=some_get D.L m (by rw [HNL.out];exact hlt)
       obtain ⟨l,hl⟩:=some_get D.S m (by rw [HNS.out,HD3.out];exact hlt)
       obtain ⟨q1,o1,c,b',q,s,rfl,hq1,e0,e1,e2,e3,e4,e5,hfv⟩:=HFe.out m x hx
       obtain ⟨q2,o2,lv,rfl,hq2,u0,hrow⟩:=HSe.out m l hl
       obtain ⟨lao,lcap,rfl,-,-,-⟩:=hrow.out
       have hfit:=HFit.out.fo x (List.mem_of_getElem? hx)
       have hlen:=HFit.out.su l (List.mem_of_getElem? hl)
       have HX:=Lib.hid (fun h3 h4 => mayRows_take hx hl hA.out h3 h4)
       have HBad:=Lib.hid (show (mayFol x && maySub x l) = false → mayStr D = false from fun h => by rw [HME.out];exact mayRows_bad hx hl h)
       have HT:=Lib.hid (manyOf_take hl)
       have HFw:=Lib.hid (HF1.out.trans0 F2)
       have g0:=(HFw.out.cell (p:=⟨q1,o1 + m * 6,none⟩) hq1 (by simp)).trans e0
       have g1:=(HFw.out.cell (p:=⟨q1,o1 + m * 6 + 1,none⟩) hq1 (by simp)).trans e1
       have g2:=(HFw.out.cell (p:=⟨q1,o1 + m * 6 + 2,none⟩) hq1 (by simp)).trans e2
       have g3:=(HFw.out.cell (p:=⟨q1,o1 + m * 6 + 3,none⟩) hq1 (by simp)).trans e3
       have g4:=(HFw.out.cell (p:=⟨q1,o1 + m * 6 + 4,none⟩) hq1 (by simp)).trans e4
       have g5:=(HFw.out.cell (p:=⟨q1,o1 + m * 6 + 5,none⟩) hq1 (by simp)).trans e5
       obtain ⟨ca1,cc1,rfl,-,-,-⟩:=hfv.co.out
       obtain ⟨ba1,bc1,rfl,-,-,-⟩:=hfv.bi.out
       have hpo:=hfv.pa.out
       rw [iv_length] at hpo
       obtain ⟨pa1,pc1,rfl,-,-,-⟩:=hpo
       have hso:=hfv.si.out
       rw [u64v_length] at hso
       obtain ⟨sa1,sc1,rfl,-,-,-⟩:=hso
       have HMF:=Lib.hid (fun wx (Fx : Fr [] w wx) => mayfolder_any wx _ _ _ _ x (hfv.fr Fx) hfit.1 hfit.2.1 hfit.2.2.1)
       have HMS:=Lib.hid (fun (hmf : mayFol x = true) wx (Fx : Fr [] w wx) => maysubs_any wx _ _ _ _ _ x l w.heap.size (hfv.fr Fx) hmf (hrow.fr0 Fx) (by omega))
       clear hx hl hA hfv hrow e0 e1 e2 e3 e4 e5
       obtain ⟨xf,⟨xh,xm⟩⟩:=x
       dsimp only at g4 g5 HMF HMS HX HBad
       obtain ⟨wC,hwC⟩ : ∃ wC,wC = wr.alloc (.cells #[.slice ca1 xf.coders.length cc1,.slice ba1 xf.binds.length bc1,.slice pa1 xf.packs.length pc1,.slice sa1 xf.sizes.length sc1,.bool xh,.int .u32 xm.toNat] 70):=⟨_,rfl⟩
       have FC : Fr [] wr wC:=hwC ▸ (Fr.refl _ _).alloc _
       have HBC:=Lib.hid (fun wx (F3 : Fr [] wC wx) => box6 (hwC ▸ F3 : Fr [] (wr.alloc (.cells #[.slice ca1 xf.coders.length cc1,.slice ba1 xf.binds.length bc1,.slice pa1 xf.packs.length pc1,.slice sa1 xf.sizes.length sc1,.bool xh,.int .u32 xm.toNat] 70)) wx))
       have HFC:=Lib.hid (HFw.out.trans0 FC)
       have HB2:=Lib.hid (fun wx (F3 : Fr [] wC wx) => HB1.out wx (F2.trans0 (FC.trans0 F3)))
       have HSc:=Lib.hid (fun wx (F3 : Fr [] wC wx) => ((HFC.out.trans0 F3).cell (p:=⟨q2,o2 + m,none⟩) hq2 (by simp)).trans u0)
       have hltI : (m : Int) < (NL : Int):=by omega
       have hltS : (m : Int) < (NS : Int):=by have:=HD3.out;omega
       have HF2:=Lib.hid (F2.trans0 FC)
       have G0:=Fr.refl [] wC
       cases hmf : mayFol ⟨xf,⟨xh,xm⟩⟩ with
       | false =>
         have HE:=Lib.hid (mayOut_no (HBad.out (by rw [hmf];rfl)))
         rw [hmf] at HMF
         clear hmf HMS HX HBad F2 u0
         go_wp2_with fail
         rw [← hwC]
         clear hwC
         obtain ⟨j0,j1,j2,j3,j4,j5⟩:=HBC.out _ G0.drew
         refine wp_region_held_drew (S:=fun _ => True) (by kernel_rfl) trivial (fun _ => ?_)
         refine wpAnyH_ready (rs:=[0]) (by kernel_rfl) (by simp) ?_
         refine AllReadyH.cons (arr_get _ 0 _ rfl) (fun K hK => ?_) AllReadyH.nil
         go_simp
         refine hK.out _ _ trivial (fun _ => ?_)
         clear hK K
         try simp only [Act.put,List.setIfInBounds_toArray,List.set_cons_zero,List.set_cons_succ]
         refine wpAnyH_ready (rs:=[1]) (by kernel_rfl) (by simp) ?_
         refine AllReadyH.cons (arr_get _ 1 _ rfl) (fun K hK => ?_) AllReadyH.nil
         go_simp
         (go_at_call 81;refine (HMF.out _ HFC.out.drew).mono ?_;rintro e w1 ⟨rfl,F1⟩;have G1:=G0.drew.trans0 F1)
         refine hK.out _ _ trivial (fun _ => ?_)
         clear hK K
         try simp only [Act.put,List.setIfInBounds_toArray,List.set_cons_zero,List.set_cons_succ]
         refine wpAnyH_take (i:=2) (v:=?_) (arr_get _ 2 _ rfl) (by kernel_rfl) (by kernel_rfl) (by kernel_rfl) (fun _ _ _ h => h) (Or.inl ⟨by rfl,?_⟩) trivial ?_
         rotate_left
         · intro w _
           go_simp
           all_goals with_reducible rfl
         try simp only [Act.put,List.setIfInBounds_toArray,List.set_cons_zero,List.set_cons_succ]
         refine wpAnyH_take (i:=3) (v:=?_) (arr_get _ 3 _ rfl) (by kernel_rfl) (by kernel_rfl) (by kernel_rfl) (fun _ _ _ h => h) (Or.inl ⟨by rfl,?_⟩) trivial ?_
         rotate_left
         · intro w _
           go_simp
           all_goals with_reducible rfl
         try simp only [Act.put,List.setIfInBounds_toArray,List.set_cons_zero,List.set_cons_succ]
         refine wpAnyH_take (i:=4) (v:=undef) (arr_get _ 4 _ rfl) (by kernel_rfl) (by kernel_rfl) (by kernel_rfl) (fun _ _ _ h => h) (Or.inr ⟨by rfl,rfl⟩) trivial ?_
         try simp only [Act.put,List.setIfInBounds_toArray,List.set_cons_zero,List.set_cons_succ]
         refine wpAnyH_take (i:=5) (v:=undef) (arr_get _ 5 _ rfl) (by kernel_rfl) (by kernel_rfl) (by kernel_rfl) (fun _ _ _ h => h) (Or.inr ⟨by rfl,rfl⟩) trivial ?_
         try simp only [Act.put,List.setIfInBounds_toArray,List.set_cons_zero,List.set_cons_succ]
         refine wpAnyH_take (i:=6) (v:=undef) (arr_get _ 6 _ rfl) (by kernel_rfl) (by kernel_rfl) (by kernel_rfl) (fun _ _ _ h => h) (Or.inr ⟨by rfl,rfl⟩) trivial ?_
         try simp only [Act.put,List.setIfInBounds_toArray,List.set_cons_zero,List.set_cons_succ]
         refine wpAnyH_take (i:=7) (v:=undef) (arr_get _ 7 _ rfl) (by kernel_rfl) (by kernel_rfl) (by kernel_rfl) (fun _ _ _ h => h) (Or.inr ⟨by rfl,rfl⟩) trivial ?_
         try simp only [Act.put,List.setIfInBounds_toArray,List.set_cons_zero,List.set_cons_succ]
         refine wpAnyH_take (i:=8) (v:=undef) (arr_get _ 8 _ rfl) (by kernel_rfl) (by kernel_rfl) (by kernel_rfl) (fun _ _ _ h => h) (Or.inr ⟨by rfl,rfl⟩) trivial ?_
         try simp only [Act.put,List.setIfInBounds_toArray,List.set_cons_zero,List.set_cons_succ]
         refine wpAnyH_take (i:=9) (v:=undef) (arr_get _ 9 _ rfl) (by kernel_rfl) (by kernel_rfl) (by kernel_rfl) (fun _ _ _ h => h) (Or.inr ⟨by rfl,rfl⟩) trivial ?_
         try simp only [Act.put,List.setIfInBounds_toArray,List.set_cons_zero,List.set_cons_succ]
         refine wpAnyH_ready (rs:=[10]) (by kernel_rfl) (by simp) ?_
         refine AllReadyH.cons (arr_get _ 10 _ rfl) (fun K hK => ?_) AllReadyH.nil
         go_simp
         refine hK.out _ _ trivial (fun _ => ?_)
         clear hK K
         try simp only [Act.put,List.setIfInBounds_toArray,List.set_cons_zero,List.set_cons_succ]
         refine wpAnyH_take (i:=11) (v:=undef) (arr_get _ 11 _ rfl) (by kernel_rfl) (by kernel_rfl) (by kernel_rfl) (fun _ _ _ h => h) (Or.inr ⟨by rfl,rfl⟩) trivial ?_
         try simp only [Act.put,List.setIfInBounds_toArray,List.set_cons_zero,List.set_cons_succ]
         refine wpAnyH_take (i:=12) (v:=?_) (arr_get _ 12 _ rfl) (by kernel_rfl) (by kernel_rfl) (by kernel_rfl) (fun _ _ _ h => h) (Or.inl ⟨by rfl,?_⟩) trivial ?_
         rotate_left
         · intro w _
           go_simp
           all_goals with_reducible rfl
         try simp only [Act.put,List.setIfInBounds_toArray,List.set_cons_zero,List.set_cons_succ]
         refine wpAnyH_done (by kernel_rfl) ?_ _
         all_goals
           go_wp2_with fail
           go_ret2
           exact ⟨by rw [HE.out];rfl,HFC.out.trans0 G1⟩
       | true =>
         have HMS2:=Lib.hid (HMS.out hmf)
         clear HMS
         cases hms : maySub ⟨xf,⟨xh,xm⟩⟩ l with
         | false =>
           have HE:=Lib.hid (mayOut_no (HBad.out (by rw [hmf,hms];rfl)))
           rw [hmf] at HMF
           rw [hms] at HMS2
           clear hmf hms HX HBad F2 u0
           go_wp2_with fail
           rw [← hwC]
           clear hwC
           go_region_held3 (fun wx => wx.cell? ⟨wr.heap.size,0,none⟩ = some (.slice ca1 xf.coders.length cc1) ∧ wx.cell? ⟨wr.heap.size,1,none⟩ = some (.slice ba1 xf.binds.length bc1) ∧ wx.cell? ⟨wr.heap.size,2,none⟩ = some (.slice pa1 xf.packs.length pc1) ∧ wx.cell? ⟨wr.heap.size,3,none⟩ = some (.slice sa1 xf.sizes.length sc1) ∧ wx.cell? ⟨wr.heap.size,4,none⟩ = some (.bool xh) ∧ wx.cell? ⟨wr.heap.size,5,none⟩ = some (.int .u32 xm.toNat) ∧ wx.cell? ⟨w.heap.size,5,none⟩ = some (.slice (some ⟨q2,o2,none⟩) NS scap) ∧ wx.cell? ⟨q2,o2 + m,none⟩ = some (.slice lao l.length lcap))
         (first
           | (have hq:=G2;obtain ⟨j0,j1,j2,j3,j4,j5⟩:=HBC.out _ G2;obtain ⟨n0,n1,n2,n3,n4,n5,n6⟩:=HB2.out _ G2;exact ⟨j0,j1,j2,j3,j4,j5,n5,HSc.out _ G2⟩)
           | (have hq:=G1;obtain ⟨j0,j1,j2,j3,j4,j5⟩:=HBC.out _ G1;obtain ⟨n0,n1,n2,n3,n4,n5,n6⟩:=HB2.out _ G1;exact ⟨j0,j1,j2,j3,j4,j5,n5,HSc.out _ G1⟩)
           | (obtain ⟨j0,j1,j2,j3,j4,j5⟩:=HBC.out _ G0;obtain ⟨n0,n1,n2,n3,n4,n5,n6⟩:=HB2.out _ G0;exact ⟨j0,j1,j2,j3,j4,j5,n5,HSc.out _ G0⟩)
           | (obtain ⟨j0,j1,j2,j3,j4,j5⟩:=HBC.out _ G0.drew;obtain ⟨n0,n1,n2,n3,n4,n5,n6⟩:=HB2.out _ G0.drew;exact ⟨j0,j1,j2,j3,j4,j5,n5,HSc.out _ G0.drew⟩)
           | go_keep)
             (first
               | (have hq:=G1;go_at_call 82;refine (HMS2.out _ (HFC.out.trans0 G1)).mono ?_;rintro e w2 ⟨rfl,F2⟩;have G2:=G1.trans0 F2)
               | (go_at_call 81;refine (HMF.out _ HFC.out.drew).mono ?_;rintro e w1 ⟨rfl,F1⟩;have G1:=G0.drew.trans0 F1))
           all_goals
             go_wp2_with fail
             go_ret2
             exact ⟨by rw [HE.out];rfl,HFC.out.trans0 G2⟩
         | true =>
           have HE:=Lib.hid (HX.out hmf hms)
           rw [hmf] at HMF
           rw [hms] at HMS2
           clear hmf hms HX HBad F2 u0
           go_wp2_with fail
           rw [← hwC]
           clear hwC
           go_region_held3 (fun wx => wx.cell? ⟨wr.heap.size,0,none⟩ = some (.slice ca1 xf.coders.length cc1) ∧ wx.cell? ⟨wr.heap.size,1,none⟩ = some (.slice ba1 xf.binds.length bc1) ∧ wx.cell? ⟨wr.heap.size,2,none⟩ = some (.slice pa1 xf.packs.length pc1) ∧ wx.cell? ⟨wr.heap.size,3,none⟩ = some (.slice sa1 xf.sizes.length sc1) ∧ wx.cell? ⟨wr.heap.size,4,none⟩ = some (.bool xh) ∧ wx.cell? ⟨wr.heap.size,5,none⟩ = some (.int .u32 xm.toNat) ∧ wx.cell? ⟨w.heap.size,5,none⟩ = some (.slice (some ⟨q2,o2,none⟩) NS scap) ∧ wx.cell? ⟨q2,o2 + m,none⟩ = some (.slice lao l.length lcap))
         (first
           | (have hq:=G2;obtain ⟨j0,j1,j2,j3,j4,j5⟩:=HBC.out _ G2;obtain ⟨n0,n1,n2,n3,n4,n5,n6⟩:=HB2.out _ G2;exact ⟨j0,j1,j2,j3,j4,j5,n5,HSc.out _ G2⟩)
           | (have hq:=G1;obtain ⟨j0,j1,j2,j3,j4,j5⟩:=HBC.out _ G1;obtain ⟨n0,n1,n2,n3,n4,n5,n6⟩:=HB2.out _ G1;exact ⟨j0,j1,j2,j3,j4,j5,n5,HSc.out _ G1⟩)
           | (obtain ⟨j0,j1,j2,j3,j4,j5⟩:=HBC.out _ G0;obtain ⟨n0,n1,n2,n3,n4,n5,n6⟩:=HB2.out _ G0;exact ⟨j0,j1,j2,j3,j4,j5,n5,HSc.out _ G0⟩)
           | (obtain ⟨j0,j1,j2,j3,j4,j5⟩:=HBC.out _ G0.drew;obtain ⟨n0,n1,n2,n3,n4,n5,n6⟩:=HB2.out _ G0.drew;exact ⟨j0,j1,j2,j3,j4,j5,n5,HSc.out _ G0.drew⟩)
           | go_keep)
             (first
               | (have hq:=G1;go_at_call 82;refine (HMS2.out _ (HFC.out.trans0 G1)).mono ?_;rintro e w2 ⟨rfl,F2⟩;have G2:=G1.trans0 F2)
               | (go_at_call 81;refine (HMF.out _ HFC.out.drew).mono ?_;rintro e w1 ⟨rfl,F1⟩;have G1:=G0.drew.trans0 F1))
           all_goals
             obtain ⟨n0,n1,n2,n3,n4,n5,n6⟩:=HB2.out _ G2
             have u1:=HSc.out _ G2
             have hT:=HT.out
             go_wp2_with fail
             go_roundw
             case rel => exact ⟨m + 1,by omega,by go_num,by rw [HT.out];first | rfl | (congr 1;omega) | (simp <;> omega),HE.out,HF2.out.trans0 G2⟩
             case measure => simp [intOf];omega
     · obtain rfl : m = NL:=by omega
       have HE:=Lib.hid (mayOut_yes (D:=D) (by
         rw [HME.out]
         have:=hA.out
         rw [List.take_of_length_le (by rw [List.length_zip,HNL.out,HNS.out,HD3.out];omega)] at this
         exact this))
       rw [List.take_of_length_le (by rw [HNS.out,HD3.out];exact Nat.le_refl _)]
       go_wp2_with fail
       go_ret2
       exact ⟨by rw [HE.out];rfl,HF1.out.trans0 F2⟩
end Go.Proofs.YtkodindajfdagaaGreatDoor
/- Contract: headerw.May of any description. No condition but that lengths fit. -/
namespace Go.Proofs.YtkodindajfdagaaGreatDoor
open Go.RowKit
theorem manyOf_le2 {S : List (List Sub)} (h : ∀ l ∈ S,l.length ≤ 100000) (hn : S.length ≤ 10000) : manyOf S ≤ 1000000000:=by
 have:=manyOf_le h
 omega
def mayAll (pk : Bool) (D : StD) (F : List Fil) : Bool:=mayR (mayStr D) pk D.L.length (if mayStr D then manyOf D.S else 0) F
set_option maxRecDepth 100000 in
set_option maxHeartbeats 4000000 in
theorem wmay_any (w : World) (hi : Nat) (d : DW) (pk : Bool) (D : StD) (F : List Fil) (hp : d.pk = .bool pk) (hR : StR w d D) (hfit : StFit D) (hF : RowAt w hi 7 d.es F.length (fiV F)) (hG : Gl w) (hn : F.length ≤ 1000000) (hS : D.S.length ≤ 10000)
   (hv : ∀ x ∈ F,x.name.length ≤ 100000) :
   Calls Tryz.prog 17 #[.agg #[d.pk,d.pl,d.ps,d.cs,d.fo,d.su,d.es]] w fun e w' => e = .returned (.bool (mayAll pk D F)) ∧ Fr [] w w':=by
 have HMS:=Lib.hid (fun wx (Fx : Fr [] w wx) => maystreams_any wx d D (⟨hR.pl,hR.ps.fr0 Fx |>.up Fx.size,hR.cs.fr0 Fx |>.up Fx.size,hR.fo.fr Fx,hR.su.fr Fx⟩) hfit)
 obtain ⟨dpk,pl,ps,cs,fo,su,es⟩:=d
 dsimp only at hp hF HMS ⊢
 subst hp
 have h4:=hR.fo
 dsimp only at h4
 obtain ⟨fao,fcap,rfl,-,-,-⟩:=h4.out
 have hmany:=manyOf_le2 hfit.su hS
 cases hm : mayStr D with
 | true =>
   cases pk with
   | false =>
     have he : mayAll false D F = mayR true false D.L.length (manyOf D.S) F:=by unfold mayAll;rw [hm];rfl
     rw [he]
     rw [mayOut_yes hm] at HMS
     exact may_files w hi pl ps cs su es fao D.L.length fcap (manyOf D.S) F hF hG hn hmany hv (fun wx Fx => HMS.out wx Fx)
   | true =>
     have HE:=Lib.hid (show mayAll true D F = (decide (D.L.length = 1) && decide (manyOf D.S = 1) && decide (F.length = 0)) by unfold mayAll mayR;rw [hm];simp)
     rw [mayOut_yes hm] at HMS
     obtain ⟨eao,ecap,rfl,-,-,-⟩:=hF.out
     clear hF hG hv hR h4 hm hfit
     obtain ⟨NL,hNL⟩ : ∃ n,D.L.length = n:=⟨_,rfl⟩
     obtain ⟨NF,hNF⟩ : ∃ n,F.length = n:=⟨_,rfl⟩
     obtain ⟨MM,hMM⟩ : ∃ n,manyOf D.S = n:=⟨_,rfl⟩
     rw [hNL,hNF,hMM] at HE
     rw [hNL] at HMS ⊢
     rw [hMM] at HMS
     rw [hNF] at HMS hn ⊢
     clear hNL hNF hMM
     obtain ⟨wA,hwA⟩ : ∃ wA,wA = w.alloc (.cells #[.bool true,pl,ps,cs,.slice fao NL fcap,su,.slice eao NF ecap] 38):=⟨_,rfl⟩
     have FA : Fr [] w wA:=hwA ▸ (Fr.refl _ _).alloc _
     have HBX:=Lib.hid (fun wx (F2 : Fr [] wA wx) => wbox7 (hwA ▸ F2 : Fr [] (w.alloc (.cells #[.bool true,pl,ps,cs,.slice fao NL fcap,su,.slice eao NF ecap] 38)) wx) (by simp))
     obtain ⟨k0,k1,k2,k3,k4,k5,k6⟩:=HBX.out wA (Fr.refl _ _)
     have hnot : ∀ (x : Bool) (w : World),(Op.unary .not (.bool x)).run Tryz.prog w = .ok (.bool (!x)) w:=fun _ _ => rfl
     have key : ∀ n m : Nat,((n : Int) == (m : Int)) = decide (n = m):=fun n m => by
       by_cases h : n = m
       · subst h;simp
       · rw [decide_eq_false h,beq_eq_false_iff_ne];omega
     have a1:=key NL 1
     have a2:=key MM 1
     have a3:=key NF 0
     clear key
     have c1 : ((1 : Nat) : Int) = 1:=rfl
     have c0 : ((0 : Nat) : Int) = 0:=rfl
     rw [c1] at a1 a2
     rw [c0] at a3
     clear c1 c0
     generalize decide (NL = 1) = z1 at *
     generalize decide (MM = 1) = z2 at *
     generalize decide (NF = 0) = z3 at *
     cases z1 <;> cases z2 <;> cases z3
     all_goals
       go_enter Tryz.func17,Tryz.ntmps17
       go_wp2_with (go_at_call 44;rw [← hwA];refine (HMS.out wA FA).mono ?_;rintro e w1 ⟨rfl,F1⟩;obtain ⟨l0,l1,l2,l3,l4,l5,l6⟩:=HBX.out w1 F1)
       go_ret
       exact ⟨by rw [HE.out];rfl,FA.trans0 F1⟩
 | false =>
   have HE:=Lib.hid (show mayAll pk D F = false by unfold mayAll mayR;rw [hm];simp)
   rw [mayOut_no hm] at HMS
   obtain ⟨eao,ecap,rfl,-,-,-⟩:=hF.out
   clear hF hG hv hR h4 hm hfit
   obtain ⟨NL,hNL⟩ : ∃ n,D.L.length = n:=⟨_,rfl⟩
   rw [hNL] at HMS ⊢
   clear hNL
   obtain ⟨wA,hwA⟩ : ∃ wA,wA = w.alloc (.cells #[.bool pk,pl,ps,cs,.slice fao NL fcap,su,.slice eao F.length ecap] 38):=⟨_,rfl⟩
   have FA : Fr [] w wA:=hwA ▸ (Fr.refl _ _).alloc _
   have HBX:=Lib.hid (fun wx (F2 : Fr [] wA wx) => wbox7 (hwA ▸ F2 : Fr [] (w.alloc (.cells #[.bool pk,pl,ps,cs,.slice fao NL fcap,su,.slice eao F.length ecap] 38)) wx) (by simp))
   obtain ⟨k0,k1,k2,k3,k4,k5,k6⟩:=HBX.out wA (Fr.refl _ _)
   have hnot : ∀ (x : Bool) (w : World),(Op.unary .not (.bool x)).run Tryz.prog w = .ok (.bool (!x)) w:=fun _ _ => rfl
   go_enter Tryz.func17,Tryz.ntmps17
   go_wp2_with (go_at_call 44;rw [← hwA];refine (HMS.out wA FA).mono ?_;rintro e w1 ⟨rfl,F1⟩;obtain ⟨l0,l1,l2,l3,l4,l5,l6⟩:=HBX.out w1 F1)
   go_ret
   exact ⟨by rw [HE.out];rfl,FA.trans0 F1⟩
end Go.Proofs.YtkodindajfdagaaGreatDoor
/- Contract: headerw.Write of any description. No condition but that lengths fit. -/
namespace Go.Proofs.YtkodindajfdagaaGreatDoor
open Go.RowKit
def writeW (pk : Bool) (D : StD) (F : List Fil) : List UInt8 :=
 if pk then 23 :: strmW D else if D.some then [1,4] ++ (strmW D ++ (filesW F ++ [0])) else 1 :: (filesW F ++ [0])
def writR (pk : Bool) (D : StD) (F : List Fil) : List UInt8 × Int:=if mayAll pk D F then (writeW pk D F,0) else ([],301)
def Writ (pk : Bool) (D : StD) (F : List Fil) (w : World) (e : Ending) (w' : World) : Prop :=
 ∃ v,e = .returned (.tuple #[v,.int .i64 (writR pk D F).2]) ∧ Sl w' v (bv (writR pk D F).1) ∧ Fr [] w w'
theorem unk_le {S : List (List Sub)} {L : List Fol} : (unkW S L).length ≤ manyOf S:=by
 induction S generalizing L with
 | nil => simp [unkW]
 | cons l t ih =>
   cases L with
   | nil => simp [unkW]
   | cons x u =>
     have:=@ih u
     unfold unkW manyOf at this ⊢
     rw [List.zip_cons_cons,List.flatMap_cons,List.length_append,List.map_cons,List.sum_cons]
     have h1 : (unkOf l x).length ≤ l.length:=by unfold unkOf;split <;> simp
     dsimp only
     omega
theorem manyOf_take_le (S : List (List Sub)) (k : Nat) : manyOf (S.take k) ≤ manyOf S:=by
 unfold manyOf
 rw [List.map_take]
 have h : (S.map List.length).sum = ((S.map List.length).take k).sum + ((S.map List.length).drop k).sum:=by rw [← List.sum_append,List.take_append_drop]
 omega
theorem mayFol_ok {x : Fol} (h : mayFol x = true) : FolOk x.f:=by
 have hout : (∃ i,mainIdx x.f = some i ∧ i < x.f.sizes.length):=mayFol_main h
 unfold mayFol foHead paHead at h
 simp only [Bool.and_eq_true,decide_eq_true_eq] at h
 obtain ⟨⟨⟨⟨⟨⟨⟨⟨a1,a2⟩,a3⟩,a4⟩,-⟩,hco⟩,hbi⟩,⟨hpl,hpa⟩⟩,-⟩:=h
 have hall:=allOf_le x.f
 refine ⟨fun c hc => ?_,fun b hb => ?_,fun z hz => ?_,by omega,by omega,by omega,by omega⟩
 · obtain ⟨j,hj⟩:=List.mem_iff_getElem?.1 hc
   have hjl : j < x.f.coders.length:=(List.getElem?_eq_some_iff.1 hj).1
   obtain ⟨z,hz⟩:=some_get x.f.sizes j (by omega)
   have:=zip_all hco hj hz
   unfold coOk at this
   simp only [Bool.and_eq_true,Bool.not_eq_true',decide_eq_false_iff_not] at this
   have h0:=this.1.1
   rw [ins_zero] at h0
   omega
 · have:=List.all_eq_true.1 hbi b hb
   unfold biOk at this
   simp only [Bool.and_eq_true,decide_eq_true_eq] at this
   omega
 · have:=List.all_eq_true.1 hpa z hz
   unfold paOk at this
   simp only [Bool.and_eq_true,decide_eq_true_eq] at this
   omega
theorem stOk_of {D : StD} (h : mayStr D = true) (hfit : StFit D) (hm : manyOf D.S ≤ 1000000) : StOk D:=by
 unfold mayStr at h
 simp only [Bool.and_eq_true,decide_eq_true_eq] at h
 obtain ⟨⟨⟨⟨⟨-,-⟩,-⟩,hlen⟩,-⟩,hr⟩:=h
 refine ⟨fun x hx => ?_,fun l hl => ?_,hlen,hfit.n1,hfit.n2,hfit.n3,hfit.su,fun k => Nat.le_trans unk_le (Nat.le_trans (manyOf_take_le _ _) hm)⟩
 · obtain ⟨j,hj⟩:=List.mem_iff_getElem?.1 hx
   have hjl:=(List.getElem?_eq_some_iff.1 hj).1
   obtain ⟨l,hl⟩:=some_get D.S j (by omega)
   have:=zip_all hr hj hl
   simp only [Bool.and_eq_true] at this
   exact mayFol_ok this.1
 · obtain ⟨j,hj⟩:=List.mem_iff_getElem?.1 hl
   have hjl:=(List.getElem?_eq_some_iff.1 hj).1
   obtain ⟨x,hx⟩:=some_get D.L j (by omega)
   have:=zip_all hr hx hj
   simp only [Bool.and_eq_true] at this
   have h2:=this.2
   unfold maySub at h2
   simp only [Bool.and_eq_true,Bool.not_eq_true',decide_eq_false_iff_not] at h2
   exact h2.1.1
theorem StR.fr {w w' : World} {d : DW} {D : StD} (h : StR w d D) (F : Fr [] w w') : StR w' d D:=⟨h.pl,(h.ps.fr0 F).up F.size,(h.cs.fr0 F).up F.size,h.fo.fr F,h.su.fr F⟩
set_option maxRecDepth 100000 in
set_option maxHeartbeats 4000000 in
theorem write_any (w : World) (d : DW) (pk : Bool) (D : StD) (F : List Fil) (hpk : d.pk = .bool pk) (hR : StR w d D) (hfit : StFit D) (hF : RowAt w w.heap.size 7 d.es F.length (fiV F)) (hG : Gl w) (hn : F.length ≤ 1000000) (hS : D.S.length ≤ 10000) (hM : manyOf D.S ≤ 1000000)
   (hv : ∀ x ∈ F,x.name.length ≤ 100000) (hb : (strmW D).length + (filesW F).length ≤ 30000000) :
   Calls Tryz.prog 14 #[.agg #[d.pk,d.pl,d.ps,d.cs,d.fo,d.su,d.es]] w (Writ pk D F w):=by
 have HMY:=Lib.hid (fun wx (Fx : Fr [] w wx) => wmay_any wx w.heap.size d pk D F hpk (hR.fr Fx) hfit (hF.fr0 Fx) (hG.fr Fx) hn hS hv)
 have HR:=Lib.hid hR
 have HFi:=Lib.hid hF
 have HG:=Lib.hid hG
 have HB:=Lib.hid hb
 have HN:=Lib.hid hn
 have HOk:=Lib.hid (fun (h : mayStr D = true) => stOk_of h hfit hM)
 obtain ⟨dpk,pl,ps,cs',fo,su,es⟩:=d
 dsimp only at hpk hF HMY ⊢
 subst hpk
 obtain ⟨wA,hwA⟩ : ∃ wA,wA = w.alloc (.cells #[.bool pk,pl,ps,cs',fo,su,es] 38):=⟨_,rfl⟩
 have FA : Fr [] w wA:=hwA ▸ (Fr.refl _ _).alloc _
 have HBX:=Lib.hid (fun wx (F2 : Fr [] wA wx) => wbox7 (hwA ▸ F2 : Fr [] (w.alloc (.cells #[.bool pk,pl,ps,cs',fo,su,es] 38)) wx) (by simp))
 obtain ⟨k0,k1,k2,k3,k4,k5,k6⟩:=HBX.out wA (Fr.refl _ _)
 clear hR hF hG hb hfit
 have hnot : ∀ (x : Bool) (w : World),(Op.unary .not (.bool x)).run Tryz.prog w = .ok (.bool (!x)) w:=fun _ _ => rfl
 cases hma : mayAll pk D F with
 | false =>
   have HE:=Lib.hid (show writR pk D F = ([],301) by unfold writR;rw [hma];rfl)
   rw [hma] at HMY
   go_enter Tryz.func14,Tryz.ntmps14
   go_wp2_with (go_at_call 17;rw [← hwA];refine (HMY.out wA FA).mono ?_;rintro e w1 ⟨rfl,F1⟩)
   go_ret2
   exact ⟨_,by rw [HE.out];rfl,by rw [HE.out];exact Sl.nil _,FA.trans0 F1⟩
 | true =>
 have hms : mayStr D = true:=by
   unfold mayAll mayR at hma
   cases h : mayStr D with
   | true => rfl
   | false => rw [h] at hma;simp at hma
 have HV:=Lib.hid (show pk = false → ∀ x ∈ F,(runesL x.name).isSome = true ∧ x.name.length ≤ 100000 from fun hp x hx => by
   unfold mayAll mayR at hma
   rw [hms,hp] at hma
   simp only [Bool.not_true,Bool.or_self,Bool.false_eq_true,if_false,Bool.and_eq_true] at hma
   have h1:=List.all_eq_true.1 hma.1 x hx
   refine ⟨?_,hv x hx⟩
   unfold mayFil at h1
   simp only [Bool.and_eq_true] at h1
   exact h1.1.1.1.1)
 have HOK:=Lib.hid (HOk.out hms)
 have HE:=Lib.hid (show writR pk D F = (writeW pk D F,0) by unfold writR;rw [hma];rfl)
 rw [hma] at HMY
 clear hma hms hv HOk
 go_enter Tryz.func14,Tryz.ntmps14
 go_upto_region 3 with (go_at_call 17;rw [← hwA];refine (HMY.out wA FA).mono ?_;rintro e w1 ⟨rfl,F1⟩;obtain ⟨l0,l1,l2,l3,l4,l5,l6⟩:=HBX.out w1 F1)
 have hSZ : w.heap.size < w1.heap.size:=by have:=F1.size;rw [hwA] at this;simp at this;omega
 clear k0 k1 k2 k3 k4 k5 k6 hwA
 have F1w:=FA.trans0 F1
 obtain ⟨wP,hwP⟩ : ∃ wP,wP = w1.alloc (.cells #[.slice none 0 0,.bool pk,pl,ps,cs',fo,su,es] 78):=⟨_,rfl⟩
 have FP : Fr [] w1 wP:=hwP ▸ (Fr.refl _ _).alloc _
 have WP : WrAt wP (w1.heap.size + 1) w1.heap.size (.slice none 0 0) [] ⟨.bool pk,pl,ps,cs',fo,su,es⟩:=⟨hwP ▸ heap_alloc_new w1 _,World.ownsRow_nil _ _ _ _,by omega,by rw [hwP];simp⟩
 obtain ⟨m0,m1,m2,m3,m4,m5,m6⟩:=HBX.out wP (F1.trans0 FP)
 have sP : wP.heap.size = w1.heap.size + 1:=by rw [hwP];simp
 have FwP:=F1w.trans0 FP
 have HFwP:=Lib.hid FwP
 have HSt:=Lib.hid (fun (bs : List UInt8) (wx : World) (T : WrTo wP (w1.heap.size + 1) w1.heap.size (.slice none 0 0) bs ⟨.bool pk,pl,ps,cs',fo,su,es⟩ wx) (hl : bs.length + (strmW D).length ≤ 40000000) =>
   (show Calls Tryz.prog 32 #[.pointer (some ⟨w1.heap.size,0,none⟩)] wx fun e w' => e = .returned (.bool D.some) ∧ WrTo wP (w1.heap.size + 1) w1.heap.size (.slice none 0 0) (bs ++ strmW D) ⟨.bool pk,pl,ps,cs',fo,su,es⟩ w' from
     T.chain fun v1 W1 => streams_one w wx (w1.heap.size + 1) w1.heap.size v1 bs ⟨.bool pk,pl,ps,cs',fo,su,es⟩ D W1 (T.base WP HFwP.out (by omega)) (by omega) HR.out HOK.out hl))
 clear HMY HOK
 have hSl : (strmW D).length ≤ 30000000:=by have:=HB.out;omega
 have HSl:=Lib.hid hSl
 clear hSl hM
 cases pk with
 | true =>
   have HE2:=Lib.hid (show writR true D F = (23 :: strmW D,0) from HE.out)
   have HSL:=Lib.hid (show Sl (wP.alloc (.cells #[.int .u8 23] 5)) (.slice (some ⟨w1.heap.size + 1,0,none⟩) 1 1) (bv [23]) from sP ▸ sl_one wP 5 (.int .u8 23))
   have HSL2:=Lib.hid (show Sl (wP.alloc (.cells #[.int .u8 23] 5)) (.slice (some ⟨wP.heap.size,0,none⟩) 1 1) (bv [23]) from sl_one wP 5 (.int .u8 23))
   go_upto_region 5 with fail
   rw [← hwP]
   clear hwP l0 l1 l2 l3 l4 l5 l6
   go_upto_region 7 with (first
     | (have hq:=T1;go_at_call 32;refine (HSt.out _ _ T1 (by have:=HSl.out;simp only [List.length_append,List.length_cons,List.length_nil];omega)).mono ?_;rintro e w3 ⟨rfl,T2⟩)
     | (go_at_call 31;refine (wput_any ((WrTo.refl WP).then0 ((Fr.refl _ _).alloc _)) _ [23] (by first | exact HSL.out | exact HSL2.out) (by decide)).mono ?_;rintro e w2 ⟨rfl,T1⟩))
   obtain ⟨v3,W3,F3,-⟩:=T2.out
   obtain ⟨vo3,vc3,rfl,-⟩:=own_out W3.own
   have c0:=(cells8 W3.blk).1
   clear T1 T2 hq
   go_wp2_with fail
   go_ret2
   refine ⟨_,by rw [HE2.out];rfl,?_,HFwP.out.trans F3 (fun i hi => ?_)⟩
   · have:=Sl.of_own W3.own
     rw [HE2.out]
     exact this
   · simp only [List.mem_cons,Option.mem_toList] at hi
     rcases hi with rfl | hi
     · exact .inr (by omega)
     · cases hi
 | false =>
   have HSL:=Lib.hid (show Sl (wP.alloc (.cells #[.int .u8 1,.int .u8 4] 5)) (.slice (some ⟨w1.heap.size + 1,0,none⟩) 2 2) (bv [1,4]) from sP ▸ sl_lit wP 5 (bv [1,4]) 2 rfl (by decide))
   have HSL2:=Lib.hid (show Sl (wP.alloc (.cells #[.int .u8 1,.int .u8 4] 5)) (.slice (some ⟨wP.heap.size,0,none⟩) 2 2) (bv [1,4]) from sl_lit wP 5 (bv [1,4]) 2 rfl (by decide))
   have h3 : 2 ≤ w1.heap.size:=by have:=HG.out.sz;omega
   have h4 : w.heap.size ≤ w1.heap.size:=by omega
   have HVV:=Lib.hid (HV.out rfl)
   have HFl:=Lib.hid (fun (cs : List UInt8) (wx : World) (T : WrTo wP (w1.heap.size + 1) w1.heap.size (.slice none 0 0) cs ⟨.bool false,pl,ps,cs',fo,su,es⟩ wx) (hl : cs.length + (filesW F).length ≤ 60000000) =>
     (show Calls Tryz.prog 33 #[.pointer (some ⟨w1.heap.size,0,none⟩)] wx fun e w' => e = .returned (.tuple #[]) ∧ WrTo wP (w1.heap.size + 1) w1.heap.size (.slice none 0 0) (cs ++ filesW F) ⟨.bool false,pl,ps,cs',fo,su,es⟩ w' from
       wfiles_any T F ((HFi.out.fr0 HFwP.out).wr WP (by omega) T) h4 h3 (((HG.out.fr HFwP.out)).frS T.frm (WP.above (by have:=HG.out.sz;omega))) HN.out hl HVV.out))
   go_upto_region 8 with fail
   rw [← hwP]
   clear hwP l0 l1 l2 l3 l4 l5 l6
   generalize hsm : D.some = sm at *
   have HSM:=Lib.hid hsm
   clear hsm
   cases sm with
   | false =>
     have HE2:=Lib.hid (show writR false D F = (1 :: (filesW F ++ [0]),0) by rw [HE.out];unfold writeW;rw [HSM.out];rfl)
     go_upto_region 10 with (first
       | (have hq:=T1;go_at_call 32;refine (HSt.out _ _ T1 (by have:=HSl.out;simp only [List.length_append,List.length_cons,List.length_nil];omega)).mono ?_;rintro e w3 ⟨rfl,T2⟩)
       | (go_at_call 31;refine (wput_any ((WrTo.refl WP).then0 ((Fr.refl _ _).alloc _)) _ [1,4] (by first | exact HSL.out | exact HSL2.out) (by decide)).mono ?_;rintro e w2 ⟨rfl,T1⟩))
     obtain ⟨v3,W3,F3,hk3⟩:=T2.out
     obtain ⟨bl,hbl⟩ : ∃ bl,bl = [] ++ [1,4] ++ strmW D:=⟨_,rfl⟩
     have HTK:=Lib.hid (show bl.take 1 = [1] by rw [hbl];rfl)
     rw [← hbl] at W3
     have hll : 2 ≤ bl.length:=by rw [hbl];simp
     obtain ⟨g,cap,rfl,hc3,own1⟩:=own_cut W3.own 1 (by omega) (by omega)
     rw [← bv_take,HTK.out] at own1
     obtain ⟨c0,-,-,-,-,-,-,-,cz⟩:=cells8 W3.blk
     generalize bl.length = n3 at *
     have hcI : (n3 : Int) ≤ (cap : Int):=by omega
     have hcI1 : (1 : Int) ≤ (cap : Int):=by omega
     have hgs:=W3.gs g rfl
     have hgp:=W3.hp
     have F4 : Fr [w1.heap.size] w3 (w3.setCell ⟨w1.heap.size,0,none⟩ (.slice (some ⟨g,0,none⟩) 1 cap)):=(Fr.refl _ _).setCell (by simp) _
     have T3 : WrTo wP (w1.heap.size + 1) w1.heap.size (.slice none 0 0) [1] ⟨.bool false,pl,ps,cs',fo,su,es⟩ (w3.setCell ⟨w1.heap.size,0,none⟩ (.slice (some ⟨g,0,none⟩) 1 cap)) :=
       ⟨_,⟨Go.Joins.block_setCell W3.blk _,own_frS own1 F4 (fun k hk hm => by cases hk;simp at hm;omega),W3.hp,Nat.le_trans W3.hl F4.size⟩,F3.trans F4 (by simp),fun k hk => hk3 k hk⟩
     clear hbl
     go_upto_region 11 with fail
     obtain ⟨w4,hw4⟩ : ∃ w4,w4 = w3.setCell ⟨w1.heap.size,0,none⟩ (.slice (some ⟨g,0,none⟩) 1 cap):=⟨_,rfl⟩
     rw [← hw4] at T3 ⊢
     clear hw4 F4 own1 c0 cz W3 F3 hk3 T2 T1 hq
     go_upto_region 13 with (first
       | (have hq:=T4;go_at_call 31;refine (wput_any (T4.then0 ((Fr.refl _ _).alloc _)) _ [0] (sl_one _ _ _) (by have:=HB.out;simp only [List.length_append,List.length_cons,List.length_nil];omega)).mono ?_;rintro e w6 ⟨rfl,T5⟩)
       | (go_at_call 33;refine (HFl.out _ _ T3 (by have:=HB.out;simp only [List.length_cons,List.length_nil];omega)).mono ?_;rintro e w5 ⟨rfl,T4⟩))
     obtain ⟨v3,W3,F3,-⟩:=T5.out
     obtain ⟨vo3,vc3,rfl,-⟩:=own_out W3.own
     have c0:=(cells8 W3.blk).1
     clear T3 T4 T5
     go_wp2_with fail
     go_ret2
     refine ⟨_,by rw [HE2.out];rfl,?_,HFwP.out.trans F3 (fun i hi => ?_)⟩
     · have:=Sl.of_own W3.own
       rw [HE2.out]
       rw [show (([1] ++ filesW F) ++ [0] : List UInt8) = 1 :: (filesW F ++ [0]) by simp only [List.cons_append,List.nil_append]] at this
       rw [show (1 :: (filesW F ++ [0]) : List UInt8).length = (filesW F).length + 1 + 1 by simp] at this
       exact this
     · simp only [List.mem_cons,Option.mem_toList] at hi
       rcases hi with rfl | hi
       · exact .inr (by omega)
       · cases hi
   | true =>
     have HE2:=Lib.hid (show writR false D F = ([1,4] ++ (strmW D ++ (filesW F ++ [0])),0) by rw [HE.out];unfold writeW;rw [HSM.out];rfl)
     go_upto_region 13 with (first
       | (have hq:=T3;go_at_call 31;refine (wput_any (T3.then0 ((Fr.refl _ _).alloc _)) _ [0] (sl_one _ _ _) (by have:=HB.out;simp only [List.length_append,List.length_cons,List.length_nil];omega)).mono ?_;rintro e w6 ⟨rfl,T4⟩)
       | (have hq:=T2;go_at_call 33;refine (HFl.out _ _ T2 (by have:=HB.out;simp only [List.length_append,List.length_cons,List.length_nil];omega)).mono ?_;rintro e w5 ⟨rfl,T3⟩)
       | (have hq:=T1;go_at_call 32;refine (HSt.out _ _ T1 (by have:=HSl.out;simp only [List.length_append,List.length_cons,List.length_nil];omega)).mono ?_;rintro e w3 ⟨rfl,T2⟩)
       | (go_at_call 31;refine (wput_any ((WrTo.refl WP).then0 ((Fr.refl _ _).alloc _)) _ [1,4] (by first | exact HSL.out | exact HSL2.out) (by decide)).mono ?_;rintro e w2 ⟨rfl,T1⟩))
     obtain ⟨v3,W3,F3,-⟩:=T4.out
     obtain ⟨vo3,vc3,rfl,-⟩:=own_out W3.own
     have c0:=(cells8 W3.blk).1
     clear T1 T2 T3 T4
     go_wp2_with fail
     go_ret2
     refine ⟨_,by rw [HE2.out];rfl,?_,HFwP.out.trans F3 (fun i hi => ?_)⟩
     · have:=Sl.of_own W3.own
       rw [HE2.out]
       rw [show (((([] ++ [1,4]) ++ strmW D) ++ filesW F) ++ [0] : List UInt8) = [1,4] ++ (strmW D ++ (filesW F ++ [0])) by simp only [List.append_assoc,List.nil_append]] at this
       rw [show ([1,4] ++ (strmW D ++ (filesW F ++ [0])) : List UInt8).length = (strmW D).length + ((filesW F).length + 1) + 1 + 1 by simp] at this
       exact this
     · simp only [List.mem_cons,Option.mem_toList] at hi
       rcases hi with rfl | hi
       · exact .inr (by omega)
       · cases hi
end Go.Proofs.YtkodindajfdagaaGreatDoor
