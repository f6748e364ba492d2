/- What Parse hands back, as a description in memory. No condition. -/
import Derived.Test.YtkodindajfdagaaGreatDoorJO
import Derived.Test.YtkodindajfdagaaGreatDoorKI
import Derived.Test.YtkodindajfdagaaGreatDoorKH
import Derived.Test.YtkodindajfdagaaGreatDoorWAwakeM
import Derived.Test.YtkodindajfdagaaGreatDoorJQ
import Derived.Test.YtkodindajfdagaaGreatDoorKJ
namespace Go.Proofs.YtkodindajfdagaaGreatDoor
open Go.RowKit Go.Maps
theorem RowAt.of_sm {w : World} {lo e m n : Nat} {v : Value} {xs : List Value} (h : Sm w lo e m v n xs) : RowAt w w.heap.size m v n xs:=by
 obtain ⟨ao,cap,e,h1,h2,h3⟩:=h.out
 refine ⟨ao,cap,e,h1,h2,fun j hj => ?_⟩
 obtain ⟨b,o,q1,-,q2,q3⟩:=h3 j hj
 refine ⟨b,o,q1,q2,q2,fun k hk => ?_⟩
 rw [Nat.add_assoc]
 refine q3 (j * m + k) ?_
 have : (j + 1) * m ≤ n * m:=Nat.mul_le_mul_right m hj
 rw [Nat.succ_mul] at this
 omega
theorem FolR.of_fols {w : World} {lo : Nat} {fv : Value} {rows : List FoRow} {L : List Fol} (h : FolsAt w lo fv rows L) : FolR w fv L:=by
 obtain ⟨ao,cap,e,h1,h2⟩:=own_outS h.own
 have hl:=h.rw.len
 refine ⟨ao,cap,by rw [e,hl],by omega,h2,fun j x hx => ?_⟩
 have hj : j < L.length:=(List.getElem?_eq_some_iff.1 hx).1
 obtain ⟨r,hr⟩:=some_get rows j (by omega)
 have hrow:=h.rw.row j r x hr hx
 have hown:=h.own
 rcases hown.2 with ⟨-,h0⟩ | ⟨g,cap',cur,h3,-,hg,-⟩
 · omega
 · rw [e] at h3
   injection h3 with h3 _ _
   have hc : ∀ k,k < 6 → w.cell? ⟨g,j * 6 + k,none⟩ = r.cells[k]?:=fun k hk => by
     have e2 : fv = .slice (some ⟨g,0,none⟩) rows.length cap:=by rw [e,h3]
     rw [e2] at hown
     rw [hown.cellAt (j * 6 + k) (by omega),foV_get rows j r hr k hk]
   obtain ⟨c,b,p,s,hh,kk,e4,hV⟩:=hrow.fo
   injection e4 with e4
   have e5 : [r.cv,r.bv,r.pv,r.sv,.bool r.has,.int .u32 r.sum.toNat] = [c,b,p,s,hh,kk]:=by
     have:=congrArg Array.toList e4
     simpa using this
   simp only [List.cons.injEq] at e5
   obtain ⟨e6,e7,e8,e9,-,-,-⟩:=e5
   refine ⟨g,0,c,b,p,s,h3,(Array.getElem?_eq_some_iff.1 hg).1,?_,?_,?_,?_,?_,?_,hV⟩
   · rw [Nat.zero_add,← e6];exact hc 0 (by decide)
   · rw [Nat.zero_add,← e7];exact hc 1 (by decide)
   · rw [Nat.zero_add,← e8];exact hc 2 (by decide)
   · rw [Nat.zero_add,← e9];exact hc 3 (by decide)
   · rw [Nat.zero_add,← hrow.has];exact hc 4 (by decide)
   · rw [Nat.zero_add,← hrow.sum];exact hc 5 (by decide)
theorem WSubsR.of_subs {w : World} {lo : Nat} {sv : Value} {svs : List Value} {S : List (List Sub)} (ho : w.ownsRow lo 73 1 sv svs.length svs) (hs : SubsM w lo svs S) : WSubsR w sv S:=by
 obtain ⟨ao,cap,e,h1,h2⟩:=own_outS ho
 have hl:=hs.len
 refine ⟨ao,cap,by rw [e,hl],by omega,h2,fun j l hl2 => ?_⟩
 have hj : j < S.length:=(List.getElem?_eq_some_iff.1 hl2).1
 obtain ⟨v,hv⟩:=some_get svs j (by omega)
 rcases ho.2 with ⟨-,h0⟩ | ⟨g,cap',cur,h3,-,hg,-⟩
 · omega
 · rw [e] at h3
   injection h3 with h3 _ _
   have e2 : sv = .slice (some ⟨g,0,none⟩) svs.length cap:=by rw [e,h3]
   rw [e2] at ho
   have hc:=ho.cellAt j (by omega)
   exact ⟨g,0,v,h3,(Array.getElem?_eq_some_iff.1 hg).1,by rw [Nat.zero_add];exact hc.trans hv,RowAt.of_own (hs.row j v l hv hl2) _ (Nat.le_refl _)⟩
theorem DescM.de {w : World} {lo : Nat} {v : Value} {pk : Bool} {D : StD} {F : List Fil} (h : DescM w lo v (pk,sD D,F)) : DeR w v pk D F:=by
 obtain ⟨psv,csv,fv,sv,es,rows,svs,e,s1,s2,s3,s4,s5,s6⟩:=h.ex
 exact ⟨⟨.bool pk,.int .u64 D.pl.toNat,psv,csv,fv,sv,es⟩,e,rfl,⟨rfl,RowAt.of_sm s1,RowAt.of_sm s2,FolR.of_fols s3,WSubsR.of_subs s4 s5⟩,RowAt.of_own s6 _ (Nat.le_refl _)⟩
end Go.Proofs.YtkodindajfdagaaGreatDoor
/- The law HeaderwBack: the walk. No condition but that lengths are those of what a memory can hold, and what the library's tables hold. -/
namespace Go.Proofs.YtkodindajfdagaaGreatDoor
open Go.RowKit Go.Maps
theorem sl_outC {w : World} {v : Value} {l : List UInt8} (h : Sl w v (bv l)) : ∃ ao cap,v = .slice ao l.length cap ∧ l.length ≤ cap ∧ cap ≤ 9223372036854775807:=by
 obtain ⟨ao,cap,e,h1,h2,-⟩:=h.out
 rw [bv_length] at e h1
 exact ⟨ao,cap,e,h1,h2⟩
theorem parse_desc (w : World) (v : Value) (B : List UInt8) (pk : Bool) (D : StD) (F : List Fil) (hv : Sl w v (bv B)) (hB : B.length ≤ 4000000) (hp : parseL B = ((pk,sD D,F),0)) :
   Calls Tryz.prog 15 #[v] w fun e w' => ∃ a1 a2 a3 a4 a5 c1 c2 c3 c4 c5,e = .returned (.tuple #[.agg #[.bool pk,.int .u64 D.pl.toNat,.slice a1 D.ps.length c1,.slice a2 D.cs.length c2,.slice a3 D.L.length c3,.slice a4 D.S.length c4,.slice a5 F.length c5],.int .i64 0]) ∧
     DeR w' (.agg #[.bool pk,.int .u64 D.pl.toNat,.slice a1 D.ps.length c1,.slice a2 D.cs.length c2,.slice a3 D.L.length c3,.slice a4 D.S.length c4,.slice a5 F.length c5]) pk D F ∧ Fr [] w w':=by
 refine (parse_any w v B hv hB).mono ?_
 rintro e w' ⟨v',rfl,hd,F1⟩
 rw [hp] at hd ⊢
 have hde:=hd.de
 obtain ⟨psv,csv,fv,sv,es,rows,svs,rfl,s1,s2,s3,s4,s5,s6⟩:=hd.ex
 obtain ⟨a1,c1,rfl,-⟩:=s1.out
 obtain ⟨a2,c2,rfl,-⟩:=s2.out
 obtain ⟨a3,c3,rfl,-⟩:=own_outS s3.own
 obtain ⟨a4,c4,rfl,-⟩:=own_outS s4
 obtain ⟨a5,c5,rfl,-⟩:=own_outS s6
 have e3 : rows.length = D.L.length:=s3.rw.len
 have e5 : svs.length = D.S.length:=s5.len
 rw [e3,e5] at hde ⊢
 exact ⟨a1,a2,a3,a4,a5,c1,c2,c3,c4,c5,rfl,hde,F1⟩
theorem SmOk.each {D : StD} {F : List Fil} (h : SmOk D F) {x : Fol} (hx : x ∈ D.L) : fCost x ≤ 3000:=by
 have h1:=h.d
 have h2 : fCost x ≤ fCosts D.L:=by
   obtain ⟨A,B,hAB⟩:=List.append_of_mem hx
   unfold fCosts
   rw [hAB,List.map_append,List.map_cons,List.sum_append,List.sum_cons]
   omega
 omega
theorem many_mem {S : List (List Sub)} {l : List Sub} (h : l ∈ S) : l.length ≤ manyOf S:=by
 obtain ⟨A,B,rfl⟩:=List.append_of_mem h
 unfold manyOf
 rw [List.map_append,List.map_cons,List.sum_append,List.sum_cons]
 omega
theorem SmOk.fit {D : StD} {F : List Fil} (h : SmOk D F) : StFit D:=by
 have ha:=h.a
 have hb:=h.b
 have hc:=h.c
 have hd:=h.d
 refine ⟨by omega,by omega,by omega,by omega,fun x hx => ?_,fun l hl => ?_⟩
 · have:=h.each hx
   unfold fCost at this
   omega
 · have:=many_mem hl
   omega
theorem SmOk.defit {D : StD} {F : List Fil} (h : SmOk D F) : DeFit D F:=by
 have ha:=h.a
 have hb:=h.b
 have hc:=h.c
 have hd:=h.d
 refine ⟨by omega,by omega,by omega,by omega,by omega,fun x hx => ?_,fun l hl => ?_⟩
 · have:=h.each hx
   unfold fCost at this
   omega
 · have:=many_mem hl
   omega
theorem prop_le (f : Folder) : propN f ≤ 64 * pr64 f + 63 * f.coders.length:=by
 unfold propN pr64
 induction f.coders with
 | nil => exact Nat.zero_le _
 | cons c t ih =>
   simp only [List.map_cons,List.sum_cons,List.length_cons]
   omega
theorem folSN_le (L : List Fol) : folSN L ≤ 10 * L.length + 80 * fCosts L:=by
 unfold folSN fCosts
 induction L with
 | nil => exact Nat.zero_le _
 | cons x t ih =>
   simp only [List.map_cons,List.sum_cons,List.length_cons]
   have h1:=prop_le x.f
   have h2 : folN x.f + 9 * x.f.sizes.length ≤ 10 + 80 * fCost x:=by
     unfold folN fCost
     omega
   omega
theorem nameN_le {F : List Fil} {k : Nat} (h : ∀ x ∈ F,x.name.length ≤ k) : nameN F ≤ k * F.length:=by
 unfold nameN
 induction F with
 | nil => exact Nat.zero_le _
 | cons x t ih =>
   simp only [List.map_cons,List.sum_cons,List.length_cons,Nat.mul_succ]
   have h1:=h x (by simp)
   have h2:=ih (fun y hy => h y (List.mem_cons_of_mem _ hy))
   omega
theorem SmOk.short {D : StD} {F : List Fil} (h : SmOk D F) : (strmW D).length + (filesW F).length ≤ 3999000:=by
 have h1:=strmW_le D
 have h2:=filesW_le F
 have h3:=folSN_le D.L
 have h4:=nameN_le h.f
 have ha:=h.a
 have hb:=h.b
 have hc:=h.c
 have hd:=h.d
 omega
set_option maxRecDepth 100000 in
set_option maxHeartbeats 8000000 in
theorem walk_HeaderwBack (w : World) (v : Value) (pk : Bool) (D : StD) (Fi : List Fil) (hG : Gl w) (hD : DeR w v pk D Fi) (hsz : DeSz D Fi) :
   Calls Tryz.prog 4 #[v] w fun e w' => e = .returned (.bool true) ∧ Fr [] w w':=by
 have hD2:=hD
 obtain ⟨⟨pk1,pl1,ps1,cs1,fo1,su1,es1⟩,rfl,hp1,hR1,hF1⟩:=hD
 dsimp only at hp1 hF1 hD2 ⊢
 subst hp1
 have l1 : pl1 = .int .u64 D.pl.toNat:=hR1.pl
 subst l1
 obtain ⟨po1,pc1,e1,-⟩ : ∃ ao cap,ps1 = .slice ao D.ps.length cap ∧ True:=by obtain ⟨a,c,e,-⟩:=hR1.ps.out;exact ⟨a,c,e,trivial⟩
 obtain ⟨co1,cc1,e2,-⟩ : ∃ ao cap,cs1 = .slice ao D.cs.length cap ∧ True:=by obtain ⟨a,c,e,-⟩:=hR1.cs.out;exact ⟨a,c,e,trivial⟩
 obtain ⟨xo1,xc1,e3,-⟩ : ∃ ao cap,fo1 = .slice ao D.L.length cap ∧ True:=by obtain ⟨a,c,e,-⟩:=hR1.fo.out;exact ⟨a,c,e,trivial⟩
 obtain ⟨so1,sc1,e4,-⟩ : ∃ ao cap,su1 = .slice ao D.S.length cap ∧ True:=by obtain ⟨a,c,e,-⟩:=hR1.su.out;exact ⟨a,c,e,trivial⟩
 obtain ⟨eo1,ec1,e5,-⟩ : ∃ ao cap,es1 = .slice ao Fi.length cap ∧ True:=by obtain ⟨a,c,e,-⟩:=hF1.out;exact ⟨a,c,e,trivial⟩
 subst e1 e2 e3 e4 e5
 have HD:=Lib.hid (fun wx (G : Fr [] w wx) => hD2.fr G)
 have HSm:=Lib.hid (fun wx (G : Fr [] w wx) => rsmall_any wx _ pk D Fi (hD2.fr G) hsz)
 have HSt:=Lib.hid (fun wx (G : Fr [] w wx) => hR1.fr G)
 have HFi:=Lib.hid (fun wx (G : Fr [] w wx) => (hF1.fr0 G).up G.size)
 have HGl:=Lib.hid hG
 have HMy:=Lib.hid (fun wx (hs : SmOk D Fi) (G : Fr [] w wx) => rmay_any wx _ ⟨.bool pk,.int .u64 D.pl.toNat,.slice po1 D.ps.length pc1,.slice co1 D.cs.length cc1,.slice xo1 D.L.length xc1,.slice so1 D.S.length sc1,.slice eo1 Fi.length ec1⟩ pk D Fi rfl (hR1.fr G) hs.fit ((hF1.fr0 G).up G.size) (by have:=hs.a;omega) (by have:=hs.c;omega) (fun x hx => by have:=hs.f x hx;omega))
 have HWr:=Lib.hid (fun wx (hs : SmOk D Fi) (G : Fr [] w wx) => write_any wx ⟨.bool pk,.int .u64 D.pl.toNat,.slice po1 D.ps.length pc1,.slice co1 D.cs.length cc1,.slice xo1 D.L.length xc1,.slice so1 D.S.length sc1,.slice eo1 Fi.length ec1⟩ pk D Fi rfl (hR1.fr G) hs.fit ((hF1.fr0 G).up G.size) (hG.fr G) (by have:=hs.a;omega) (by have:=hs.c;omega) (by have:=hs.d;omega) (fun x hx => by have:=hs.f x hx;omega) (by have:=hs.short;omega))
 have HSa:=Lib.hid (fun wx vx (hs : SmOk D Fi) (hx : DeR wx vx pk D Fi) (G : Fr [] w wx) => rsame_any wx vx _ pk D Fi hx (hD2.fr G) hs.defit)
 have HSh:=Lib.hid (fun (hs : SmOk D Fi) => hs.short)
 clear hD2 hR1 hF1 hsz
 obtain ⟨np,hnp⟩ : ∃ n,D.ps.length = n:=⟨_,rfl⟩
 obtain ⟨nc,hnc⟩ : ∃ n,D.cs.length = n:=⟨_,rfl⟩
 obtain ⟨nf,hnf⟩ : ∃ n,D.L.length = n:=⟨_,rfl⟩
 obtain ⟨ns,hns⟩ : ∃ n,D.S.length = n:=⟨_,rfl⟩
 obtain ⟨ne,hne⟩ : ∃ n,Fi.length = n:=⟨_,rfl⟩
 have HPD:=Lib.hid (fun wx vx B => parse_desc wx vx B pk D Fi)
 rw [hnp,hnc,hnf,hns,hne] at HD HSm HMy HWr HSa HPD ⊢
 clear hnp hnc hnf hns hne
 obtain ⟨pl,hpl⟩ : ∃ pl,(D.pl.toNat : Int) = pl:=⟨_,rfl⟩
 rw [hpl] at HD HSm HMy HWr HSa HPD ⊢
 clear hpl
 obtain ⟨wA,hwA⟩ : ∃ wA,wA = w.alloc (.cells #[.bool pk,.int .u64 pl,.slice po1 np pc1,.slice co1 nc cc1,.slice xo1 nf xc1,.slice so1 ns sc1,.slice eo1 ne ec1] 38):=⟨_,rfl⟩
 have FA : Fr [] w wA:=hwA ▸ (Fr.refl _ _).alloc _
 have HX:=Lib.hid (fun wx (F : Fr [] wA wx) => wbox7 (hwA ▸ F : Fr [] (w.alloc (.cells #[.bool pk,.int .u64 pl,.slice po1 np pc1,.slice co1 nc cc1,.slice xo1 nf xc1,.slice so1 ns sc1,.slice eo1 ne ec1] 38)) wx) (by simp))
 have HAW:=Lib.hid (awake_any wA (hG.fr FA))
 clear hG
 obtain ⟨p,hp⟩ : ∃ p,w.heap.size = p:=⟨_,rfl⟩
 rw [hp] at HX
 have hnot : ∀ (x : Bool) (w : World),(Op.unary .not (.bool x)).run Tryz.prog w = .ok (.bool (!x)) w:=fun _ _ => rfl
 cases hM : mayAll pk D Fi with
 | false =>
   rw [hM] at HMy
   clear hM HWr HSa HSh HPD
   go_enter Tryz.func4,Tryz.ntmps4
   go_upto_region 3 with (go_at_call 7;rw [← hwA];refine HAW.out.mono ?_;rintro e w1 ⟨rfl,F1⟩)
   obtain ⟨a0,a1,a2,a3,a4,a5,a6⟩:=HX.out w1 F1
   clear hwA
   go_wp2_with (first
     | (have hq:=F2;go_at_call 13;refine (HMy.out w2 (HR.out (by trivial)) (FA.trans0 (F1.trans0 F2))).mono ?_;rintro e w3 ⟨rfl,F3⟩)
     | (go_at_call 12;refine (HSm.out w1 (FA.trans0 F1)).mono ?_;rintro e w2 ⟨r,rfl,hr,F2⟩;obtain ⟨b0,b1,b2,b3,b4,b5,b6⟩:=HX.out w2 (F1.trans0 F2);have HR:=Lib.hid hr;clear hr;cases r))
   all_goals (try go_ret)
   all_goals first
     | exact ⟨rfl,FA.trans0 (F1.trans0 (F2.trans0 F3))⟩
     | exact ⟨rfl,FA.trans0 (F1.trans0 F2)⟩
 | true =>
   have hw : writR pk D Fi = (writeW pk D Fi,0):=by unfold writR;rw [hM,if_pos rfl]
   rw [hM] at HMy
   unfold Writ at HWr
   rw [hw] at HWr
   clear hw
   have HPL:=Lib.hid (fun (hs : SmOk D Fi) => parse_write hM (by have h1:=writeW_le pk D Fi;have h2:=HSh.out hs;omega))
   have HBL:=Lib.hid (fun (hs : SmOk D Fi) => show (writeW pk D Fi).length ≤ 4000000 by have h1:=writeW_le pk D Fi;have h2:=HSh.out hs;omega)
   clear hM HSh
   generalize writeW pk D Fi = B at *
   go_enter Tryz.func4,Tryz.ntmps4
   go_upto_region 3 with (go_at_call 7;rw [← hwA];refine HAW.out.mono ?_;rintro e w1 ⟨rfl,F1⟩)
   obtain ⟨a0,a1,a2,a3,a4,a5,a6⟩:=HX.out w1 F1
   clear hwA
   go_wp2_with (first
     | (have hq:=F5;go_at_call 16;refine (HSa.out _ _ (HR.out (by trivial)) (HD5.out.fr ((Fr.refl [] w5).alloc _)) (FW5.out.trans0 ((Fr.refl [] w5).alloc _))).mono ?_;rintro e w6 ⟨rfl,F6⟩)
     | (have hq:=F4;go_at_call 15;refine (HPD.out w4 _ B HV4.out (HBL.out (HR.out (by trivial))) (HPL.out (HR.out (by trivial)))).mono ?_;rintro e w5 ⟨x1,x2,x3,x4,x5,y1,y2,y3,y4,y5,rfl,hd5,F5⟩;have HD5:=Lib.hid hd5;have FW5:=Lib.hid (FA.trans0 ((((F1.trans0 F2).trans0 F3).trans0 F4).trans0 F5));obtain ⟨c0,c1,c2,c3,c4,c5,c6⟩:=HX.out (w5.alloc (.cells #[.bool pk,.int .u64 pl,.slice x1 np y1,.slice x2 nc y2,.slice x3 nf y3,.slice x4 ns y4,.slice x5 ne y5] 38)) (((((F1.trans0 F2).trans0 F3).trans0 F4).trans0 F5).trans0 ((Fr.refl [] w5).alloc _));clear hd5)
     | (have hq:=F3;go_at_call 14;refine (HWr.out w3 (HR.out (by trivial)) (FA.trans0 ((F1.trans0 F2).trans0 F3))).mono ?_;rintro e w4 ⟨v4,rfl,hv4,F4⟩;have HV4:=Lib.hid hv4;obtain ⟨vo,vc,rfl,-⟩:=sl_outC hv4;clear hv4)
     | (have hq:=F2;go_at_call 13;refine (HMy.out w2 (HR.out (by trivial)) (FA.trans0 (F1.trans0 F2))).mono ?_;rintro e w3 ⟨rfl,F3⟩;obtain ⟨d0,d1,d2,d3,d4,d5,d6⟩:=HX.out w3 ((F1.trans0 F2).trans0 F3))
     | (go_at_call 12;refine (HSm.out w1 (FA.trans0 F1)).mono ?_;rintro e w2 ⟨r,rfl,hr,F2⟩;obtain ⟨b0,b1,b2,b3,b4,b5,b6⟩:=HX.out w2 (F1.trans0 F2);have HR:=Lib.hid hr;clear hr;cases r))
   all_goals (try go_ret)
   all_goals first
     | exact ⟨rfl,(FW5.out.trans0 ((Fr.refl [] w5).alloc _)).trans0 F6⟩
     | exact ⟨rfl,FA.trans0 (F1.trans0 F2)⟩
end Go.Proofs.YtkodindajfdagaaGreatDoor
