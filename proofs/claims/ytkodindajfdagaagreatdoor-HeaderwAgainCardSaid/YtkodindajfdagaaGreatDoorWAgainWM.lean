/- The law HeaderwAgain: the walk. No condition but what the library's tables hold. -/
import Derived.Test.YtkodindajfdagaaGreatDoorHEatPM
import Derived.Test.YtkodindajfdagaaGreatDoorKM
namespace Go.Proofs.YtkodindajfdagaaGreatDoor
open Go.RowKit Go.Maps
theorem parse_gen (w : World) (v : Value) (b : List UInt8) (hv : Sl w v (bv b)) (hb : b.length ≤ 4000000) {pk : Bool} {M : Strm} {F : List Fil} {k : Nat} (e : parseL b = ((pk,M,F),k)) :
   Calls Tryz.prog 15 #[v] w fun e w' => ∃ a1 a2 a3 a4 a5 c1 c2 c3 c4 c5,e = .returned (.tuple #[.agg #[.bool pk,.int .u64 (M.pl : Int),.slice a1 M.ps.length c1,.slice a2 M.cs.length c2,.slice a3 M.fo.length c3,.slice a4 M.ss.length c4,.slice a5 F.length c5],.int .i64 (k : Int)]) ∧
     (sD (toD M) = M → DeR w' (.agg #[.bool pk,.int .u64 (M.pl : Int),.slice a1 M.ps.length c1,.slice a2 M.cs.length c2,.slice a3 M.fo.length c3,.slice a4 M.ss.length c4,.slice a5 F.length c5]) pk (toD M) F) ∧ Fr [] w w':=by
 refine (parse_any w v b hv hb).mono ?_
 rintro e w' ⟨v',rfl,hd,F1⟩
 rw [e] at hd ⊢
 have hde : sD (toD M) = M → DeR w' v' pk (toD M) F:=fun h => (show DescM w' (w.heap.size + 1) v' (pk,sD (toD M),F) by rw [h];exact hd).de
 obtain ⟨psv,csv,fv,sv,es,rows,svs,rfl,s1,s2,s3,s4,s5,s6⟩:=hd.ex
 obtain ⟨a1,c1,rfl,-⟩:=s1.out
 obtain ⟨a2,c2,rfl,-⟩:=s2.out
 obtain ⟨a3,c3,rfl,-⟩:=own_outS s3.own
 obtain ⟨a4,c4,rfl,-⟩:=own_outS s4
 obtain ⟨a5,c5,rfl,-⟩:=own_outS s6
 have e3 : rows.length = M.fo.length:=s3.rw.len
 have e5 : svs.length = M.ss.length:=s5.len
 rw [e3,e5] at hde ⊢
 exact ⟨a1,a2,a3,a4,a5,c1,c2,c3,c4,c5,rfl,hde,F1⟩
theorem wmay_de {w : World} {v : Value} {pk : Bool} {D : StD} {F : List Fil} (h : DeR w v pk D F) (hfit : StFit D) (hG : Gl w) (hn : F.length ≤ 1000000) (hS : D.S.length ≤ 10000) (hv : ∀ x ∈ F,x.name.length ≤ 100000) :
   Calls Tryz.prog 17 #[v] w fun e w' => e = .returned (.bool (mayAll pk D F)) ∧ Fr [] w w':=by
 obtain ⟨d,rfl,hp,hR,hF⟩:=h
 exact wmay_any w _ d pk D F hp hR hfit hF hG hn hS hv
theorem write_de {w : World} {v : Value} {pk : Bool} {D : StD} {F : List Fil} (h : DeR w v pk D F) (hfit : StFit D) (hG : Gl w) (hn : F.length ≤ 1000000) (hS : D.S.length ≤ 10000) (hM : manyOf D.S ≤ 1000000) (hv : ∀ x ∈ F,x.name.length ≤ 100000)
   (hb : (strmW D).length + (filesW F).length ≤ 30000000) : Calls Tryz.prog 14 #[v] w (Writ pk D F w):=by
 obtain ⟨d,rfl,hp,hR,hF⟩:=h
 exact write_any w d pk D F hp hR hfit hF hG hn hS hM hv hb
set_option maxRecDepth 100000 in
set_option maxHeartbeats 8000000 in
theorem walk_HeaderwAgain (w : World) (v : Value) (b : List UInt8) (hG : Gl w) (hv : Sl w v (bv b)) :
   Calls Tryz.prog 5 #[v] w fun e w' => e = .returned (.bool true) ∧ Fr [] w w':=by
 obtain ⟨⟨⟨pk,M,Fi⟩,k⟩,hr⟩ : ∃ r,parseL b = r:=⟨_,rfl⟩
 have HAW:=Lib.hid (awake_any w hG)
 have HPG:=Lib.hid (fun wx (G : Fr [] w wx) (h8 : b.length ≤ 8192) => parse_gen wx v b (hv.fr0 G) (by omega) hr)
 have HFT:=Lib.hid (fun (h8 : b.length ≤ 8192) (h0 : k = 0) => again_fit h8 (by rw [hr];exact h0) (show (parseL b).1 = (pk,M,Fi) by rw [hr]))
 have HLN:=Lib.hid (fun (h8 : b.length ≤ 8192) (h0 : k = 0) (hm : mayAll pk (toD M) Fi = true) => again_len h8 (by rw [hr];exact h0) (show (parseL b).1 = (pk,M,Fi) by rw [hr]) hm)
 obtain ⟨ao,cap,rfl,-⟩:=sl_outC hv
 clear hv hr
 obtain ⟨N,hN⟩ : ∃ N,b.length = N:=⟨_,rfl⟩
 rw [hN] at HPG HFT HLN ⊢
 clear hN
 have hnot : ∀ (x : Bool) (w : World),(Op.unary .not (.bool x)).run Tryz.prog w = .ok (.bool (!x)) w:=fun _ _ => rfl
 by_cases h8 : N ≤ 8192
 rotate_left
 · have s0 : (8192 : Int) < (N : Int):=by omega
   clear h8 HPG HFT HLN hG
   go_enter Tryz.func5,Tryz.ntmps5
   go_upto_region 3 with (go_at_call 7;refine HAW.out.mono ?_;rintro e w1 ⟨rfl,F1⟩)
   go_wp2_with fail
   go_ret
   exact ⟨rfl,F1⟩
 have s0 : ¬ (8192 : Int) < (N : Int):=by omega
 have HP0:=Lib.hid (fun wx G => HPG.out wx G h8)
 have HF0:=Lib.hid (HFT.out h8)
 have HL0:=Lib.hid (HLN.out h8)
 clear HPG HFT HLN h8
 by_cases hk : k = 0
 rotate_left
 · have s1 : ¬ (k : Int) = 0:=by omega
   obtain ⟨kI,hkI⟩ : ∃ kI,(k : Int) = kI:=⟨_,rfl⟩
   rw [hkI] at HP0 s1
   clear hk hkI HF0 HL0 hG
   go_enter Tryz.func5,Tryz.ntmps5
   go_upto_region 3 with (go_at_call 7;refine HAW.out.mono ?_;rintro e w1 ⟨rfl,F1⟩)
   go_upto_region 6 with (go_at_call 15;refine (HP0.out w1 F1).mono ?_;rintro e w2 ⟨x1,x2,x3,x4,x5,y1,y2,y3,y4,y5,rfl,-,F2⟩)
   go_wp2_with fail
   go_ret
   exact ⟨rfl,(F1.trans0 F2).trans0 ((Fr.refl [] w2).alloc _)⟩
 obtain ⟨ht,hde,hnf,hns,hnm,hsd⟩:=HF0.out hk
 have HL1:=Lib.hid (HL0.out hk)
 subst hk
 have HP1:=Lib.hid (fun wx G => (HP0.out wx G).mono (fun e w' h => by
   obtain ⟨x1,x2,x3,x4,x5,y1,y2,y3,y4,y5,h1,h2,h3⟩:=h
   exact (⟨x1,x2,x3,x4,x5,y1,y2,y3,y4,y5,h1,h2 hsd,h3⟩ : ∃ x1 x2 x3 x4 x5 y1 y2 y3 y4 y5,e = .returned (.tuple #[.agg #[.bool pk,.int .u64 (M.pl : Int),.slice x1 M.ps.length y1,.slice x2 M.cs.length y2,.slice x3 M.fo.length y3,.slice x4 M.ss.length y4,.slice x5 Fi.length y5],.int .i64 ((0 : Nat) : Int)]) ∧
     DeR w' (.agg #[.bool pk,.int .u64 (M.pl : Int),.slice x1 M.ps.length y1,.slice x2 M.cs.length y2,.slice x3 M.fo.length y3,.slice x4 M.ss.length y4,.slice x5 Fi.length y5]) pk (toD M) Fi ∧ Fr [] wx w')))
 clear HP0 HF0 HL0
 have hpl : (M.pl : Int) = ((toD M).pl.toNat : Int):=by
   have:=congrArg Strm.pl hsd
   rw [← this]
   rfl
 rw [hpl] at HP1
 clear hpl
 rw [show M.ps = (toD M).ps from rfl,show M.cs = (toD M).cs from rfl,show M.fo = (toD M).L from rfl,show M.ss = (toD M).S from rfl] at HP1
 rw [show M.ss = (toD M).S from rfl] at HL1 hns
 clear hsd
 generalize toD M = D at *
 clear M
 have HGl:=Lib.hid (fun wx (G : Fr [] w wx) => hG.fr G)
 have HMy:=Lib.hid (fun wx vx (h : DeR wx vx pk D Fi) (G : Fr [] w wx) => wmay_de h ht (hG.fr G) (by omega) (by omega) hnm)
 have HWr:=Lib.hid (fun wx vx (hs : (strmW D).length + (filesW Fi).length ≤ 3999000 ∧ manyOf D.S ≤ 8192) (h : DeR wx vx pk D Fi) (G : Fr [] w wx) => write_de h ht (hG.fr G) (by omega) (by omega) (by omega) hnm (by omega))
 have HSa:=Lib.hid (fun wx vx vy (hx : DeR wx vx pk D Fi) (hy : DeR wx vy pk D Fi) => rsame_any wx vx vy pk D Fi hx hy hde)
 have HPD:=Lib.hid (fun wx vx B => parse_desc wx vx B pk D Fi)
 clear ht hde hnf hns hnm hG
 obtain ⟨np,hnp⟩ : ∃ n,D.ps.length = n:=⟨_,rfl⟩
 obtain ⟨nc,hnc⟩ : ∃ n,D.cs.length = n:=⟨_,rfl⟩
 obtain ⟨nf,hnf⟩ : ∃ n,D.L.length = n:=⟨_,rfl⟩
 obtain ⟨ns,hns⟩ : ∃ n,D.S.length = n:=⟨_,rfl⟩
 obtain ⟨ne,hne⟩ : ∃ n,Fi.length = n:=⟨_,rfl⟩
 obtain ⟨pl,hpl⟩ : ∃ pl,(D.pl.toNat : Int) = pl:=⟨_,rfl⟩
 rw [hnp,hnc,hnf,hns,hne,hpl] at HP1 HPD
 clear hnp hnc hnf hns hne hpl
 go_enter Tryz.func5,Tryz.ntmps5
 go_upto_region 3 with (go_at_call 7;refine HAW.out.mono ?_;rintro e w1 ⟨rfl,F1⟩)
 go_upto_region 6 with (go_at_call 15;refine (HP1.out w1 F1).mono ?_;rintro e w2 ⟨x1,x2,x3,x4,x5,y1,y2,y3,y4,y5,rfl,hd2,F2⟩;have HD2:=Lib.hid hd2;clear hd2)
 obtain ⟨p,hp⟩ : ∃ p,w2.heap.size = p:=⟨_,rfl⟩
 obtain ⟨wA,hwA⟩ : ∃ wA,wA = w2.alloc (.cells #[.bool pk,.int .u64 pl,.slice x1 np y1,.slice x2 nc y2,.slice x3 nf y3,.slice x4 ns y4,.slice x5 ne y5] 38):=⟨_,rfl⟩
 have FA : Fr [] w2 wA:=hwA ▸ (Fr.refl _ _).alloc _
 have HX:=Lib.hid (fun wx (F : Fr [] wA wx) => wbox7 (hwA ▸ F : Fr [] (w2.alloc (.cells #[.bool pk,.int .u64 pl,.slice x1 np y1,.slice x2 nc y2,.slice x3 nf y3,.slice x4 ns y4,.slice x5 ne y5] 38)) wx) (by simp))
 have HDA:=Lib.hid (fun wx (F : Fr [] wA wx) => (HD2.out.fr FA).fr F)
 have FWA:=Lib.hid ((F1.trans0 F2).trans0 FA)
 rw [hp] at HX
 rw [← hwA,hp]
 obtain ⟨a0,a1,a2,a3,a4,a5,a6⟩:=HX.out wA (Fr.refl _ _)
 clear hwA hp HD2 FA F1 F2 HP1
 cases hM : mayAll pk D Fi with
 | false =>
   rw [hM] at HMy
   clear hM HWr HSa HL1 HPD
   go_wp2_with (go_at_call 17;refine (HMy.out wA _ (HDA.out wA (Fr.refl _ _)) FWA.out).mono ?_;rintro e w3 ⟨rfl,F3⟩)
   go_ret
   exact ⟨rfl,FWA.out.trans0 F3⟩
 | true =>
   have hw : writR pk D Fi = (writeW pk D Fi,0):=by unfold writR;rw [hM,if_pos rfl]
   rw [hM] at HMy
   unfold Writ at HWr
   rw [hw] at HWr
   clear hw
   have HL2:=Lib.hid (HL1.out hM)
   have hwl : (writeW pk D Fi).length ≤ 4000000:=by have h1:=writeW_le pk D Fi;have h2:=HL2.out.1;omega
   have HPL:=Lib.hid (parse_write hM (by omega))
   have HBL:=Lib.hid hwl
   clear hM HL1 hwl
   generalize writeW pk D Fi = B at *
   go_wp2_with (first
     | (have hq:=F5;go_at_call 16;refine (HSa.out _ _ _ (HD5.out.fr ((Fr.refl [] w5).alloc _)) (HDA.out _ (FW5.out.trans0 ((Fr.refl [] w5).alloc _)))).mono ?_;rintro e w6 ⟨rfl,F6⟩)
     | (have hq:=F4;go_at_call 15;refine (HPD.out w4 _ B HV4.out HBL.out HPL.out).mono ?_;rintro e w5 ⟨z1,z2,z3,z4,z5,u1,u2,u3,u4,u5,rfl,hd5,F5⟩;have HD5:=Lib.hid hd5;have FW5:=Lib.hid ((F3.trans0 F4).trans0 F5);obtain ⟨c0,c1,c2,c3,c4,c5,c6⟩:=HX.out (w5.alloc (.cells #[.bool pk,.int .u64 pl,.slice z1 np u1,.slice z2 nc u2,.slice z3 nf u3,.slice z4 ns u4,.slice z5 ne u5] 38)) (((F3.trans0 F4).trans0 F5).trans0 ((Fr.refl [] w5).alloc _));clear hd5)
     | (have hq:=F3;go_at_call 14;refine (HWr.out w3 _ HL2.out (HDA.out w3 F3) (FWA.out.trans0 F3)).mono ?_;rintro e w4 ⟨v4,rfl,hv4,F4⟩;have HV4:=Lib.hid hv4;obtain ⟨vo,vc,rfl,-⟩:=sl_outC hv4;clear hv4)
     | (go_at_call 17;refine (HMy.out wA _ (HDA.out wA (Fr.refl _ _)) FWA.out).mono ?_;rintro e w3 ⟨rfl,F3⟩;obtain ⟨d0,d1,d2,d3,d4,d5,d6⟩:=HX.out w3 F3))
   go_ret
   exact ⟨rfl,FWA.out.trans0 ((FW5.out.trans0 ((Fr.refl [] w5).alloc _)).trans0 F6)⟩
end Go.Proofs.YtkodindajfdagaaGreatDoor
