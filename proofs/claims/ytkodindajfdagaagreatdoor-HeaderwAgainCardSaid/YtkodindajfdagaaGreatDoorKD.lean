/- Contract: headerw.whole. No condition but that lengths fit. -/
import Derived.Test.YtkodindajfdagaaGreatDoorHWholeM
import Derived.Deep.RegionHeld3
import Derived.Test.YtkodindajfdagaaGreatDoorKC
import Derived.BigQuiet
namespace Go.Proofs.YtkodindajfdagaaGreatDoor
open Go.RowKit Go.Maps
set_option maxRecDepth 100000 in
set_option maxHeartbeats 1000000 in
theorem wwhole_any (w : World) (v : Value) (f : Folder) (hf : Fo w v f) (hn : f.coders.length ≤ 100000) (hb : f.binds.length ≤ 100000) (hs : f.sizes.length ≤ 100000000) (hout : ∀ b ∈ f.binds,(Lit.int .i64 b.2).wf = true) (i : Nat) (hi : mainIdx f = some i) (hlt : i < f.sizes.length) :
   Calls Tryz.prog 117 #[v] w fun e w' => e = .returned (.int .u64 ((wholeOf f).toNat : Int)) ∧ Fr [] w w':=by
 have HF:=Lib.hid hf
 have HM:=Lib.hid (fun wy h => main_any wy v f h hn hb hout)
 obtain ⟨cv,bv',p,s,h,k0,rfl,hV⟩:=hf
 obtain ⟨sao,scap,rfl,-,-,so⟩:=hV.si.out
 rw [u64v_length] at so
 have HSo:=Lib.hid so
 have hsI : (f.sizes.length : Int) ≤ 100000000:=by omega
 rw [u64v_length] at HF HM ⊢
 clear hV hn hb hout so
 obtain ⟨wB,hwB⟩ : ∃ wB,wB = w.alloc (.cells #[cv,bv',p,.slice sao f.sizes.length scap,h,k0] 70):=⟨_,rfl⟩
 have F0 : Fr [] w wB:=hwB ▸ (Fr.refl _ _).alloc _
 have HBX:=Lib.hid (fun wx (F : Fr [] wB wx) => box6 (hwB ▸ F : Fr [] (w.alloc (.cells #[cv,bv',p,.slice sao f.sizes.length scap,h,k0] 70)) wx))
 have HMO:=Lib.hid (show mainOf f = (i : Int) by rw [mainOf,hi])
 obtain ⟨x,hx⟩:=some_get f.sizes i hlt
 have HE:=Lib.hid (show wholeOf f = x by rw [wholeOf,hi];simp [List.getD,hx])
 obtain ⟨b,o,rfl,hb,hcell⟩:=HSo.out i hlt
 have HC0:=Lib.hid ((hcell i hlt).trans (u64v_get _ _ _ hx))
 have hltI : (i : Int) < (f.sizes.length : Int):=by omega
 clear hi hcell hx
 go_enter Tryz.func117,Tryz.ntmps117
 go_wp2_with fail
 rw [← hwB]
 clear hwB
 have G0:=Fr.refl [] wB
 go_region_held3 (fun wx => wx.cell? ⟨w.heap.size,0,none⟩ = some cv ∧ wx.cell? ⟨w.heap.size,1,none⟩ = some bv' ∧ wx.cell? ⟨w.heap.size,2,none⟩ = some p ∧ wx.cell? ⟨w.heap.size,3,none⟩ = some (.slice (some ⟨b,o,none⟩) f.sizes.length scap) ∧ wx.cell? ⟨w.heap.size,4,none⟩ = some h ∧ wx.cell? ⟨w.heap.size,5,none⟩ = some k0 ∧ wx.cell? ⟨b,o + i,none⟩ = some (.int .u64 x.toNat))
   (first
     | (have hq:=G1;obtain ⟨g0,g1,g2,g3,g4,g5⟩:=HBX.out _ G1;exact ⟨g0,g1,g2,g3,g4,g5,((F0.trans0 G1).cell (p:=⟨b,o + i,none⟩) hb (by simp)).trans HC0.out⟩)
     | (obtain ⟨g0,g1,g2,g3,g4,g5⟩:=HBX.out _ G0;exact ⟨g0,g1,g2,g3,g4,g5,(F0.cell (p:=⟨b,o + i,none⟩) hb (by simp)).trans HC0.out⟩)
     | (obtain ⟨g0,g1,g2,g3,g4,g5⟩:=HBX.out _ G0.drew;exact ⟨g0,g1,g2,g3,g4,g5,(F0.drew.cell (p:=⟨b,o + i,none⟩) hb (by simp)).trans HC0.out⟩)
     | go_keep)
   (first | (go_at_call 134;refine (HM.out _ (HF.out.fr F0.drew)).mono ?_;rw [HMO.out];rintro e w1 ⟨rfl,F1⟩;have G1:=G0.drew.trans0 F1))
 go_wp2_with fail
 go_ret
 exact ⟨by rw [HE.out];rfl,F0.trans0 G1⟩
end Go.Proofs.YtkodindajfdagaaGreatDoor
/- Contract: headerw.maySubs, of a folder that may be. No condition but that lengths fit. -/
namespace Go.Proofs.YtkodindajfdagaaGreatDoor
open Go.RowKit
theorem subsGo_nil {n : Nat} {l : List Sub} {k : Nat} (h : l.length ≤ k) : subsGo n (l.drop k) = some n:=by
 rw [List.drop_eq_nil_of_le h]
 rfl
theorem mayFol_main {x : Fol} (h : mayFol x = true) : ∃ i,mainIdx x.f = some i ∧ i < x.f.sizes.length:=by
 have h1 : foHead x = true:=by
   unfold mayFol at h
   simp only [Bool.and_eq_true] at h
   exact h.1.1.1.1
 unfold foHead at h1
 simp only [Bool.and_eq_true,decide_eq_true_eq] at h1
 obtain ⟨⟨⟨⟨a1,a2⟩,a3⟩,a4⟩,-⟩:=h1
 cases e : mainIdx x.f with
 | none =>
   unfold mainIdx at e
   rw [List.find?_eq_none] at e
   have:=few_of x.f.coders.length (x.f.binds.map (·.2)) (fun j hj => by
     have:=e j (List.mem_range.2 hj)
     simpa using this)
   rw [List.length_map] at this
   omega
 | some i =>
   refine ⟨i,rfl,?_⟩
   unfold mainIdx at e
   rw [List.find?_range_eq_some] at e
   have:=e.2.1
   simp at this
   omega
theorem mayFol_outs {x : Fol} (h : mayFol x = true) : ∀ b ∈ x.f.binds,(Lit.int .i64 b.2).wf = true:=by
 intro b hb
 have h1 : x.f.binds.all (biOk (allOf x.f) x.f.coders.length) = true ∧ x.f.coders.length ≤ 8:=by
   unfold mayFol foHead at h
   simp only [Bool.and_eq_true,decide_eq_true_eq] at h
   exact ⟨h.1.1.2,h.1.1.1.1.1.1.1.2⟩
 have h2:=List.all_eq_true.1 h1.1 b hb
 unfold biOk at h2
 simp only [Bool.and_eq_true,decide_eq_true_eq] at h2
 exact WalkArith.wf_i64 (by omega)
set_option maxRecDepth 100000 in
set_option maxHeartbeats 4000000 in
theorem maysubs_any (w : World) (cv bv' pv sv lv : Value) (x : Fol) (l : List Sub) (hi : Nat) (hf : FoV w cv bv' pv sv x.f) (hm : mayFol x = true) (hl : RowAt w hi 3 lv l.length (sbV l)) (hn : l.length ≤ 1000000) :
   Calls Tryz.prog 82 #[.agg #[cv,bv',pv,sv,.bool x.ck.has,.int .u32 x.ck.sum.toNat],lv] w fun e w' => e = .returned (.bool (maySub x l)) ∧ Fr [] w w':=by
 obtain ⟨i,hi1,hi2⟩:=mayFol_main hm
 have hcl : x.f.coders.length ≤ 100000 ∧ x.f.binds.length ≤ 100000 ∧ x.f.sizes.length ≤ 100000000:=by
   unfold mayFol foHead at hm
   simp only [Bool.and_eq_true,decide_eq_true_eq] at hm
   have:=hm.1.1.1.1
   omega
 have HW:=Lib.hid (fun wx (F : Fr [] w wx) => wwhole_any wx _ x.f (Fo.fr ⟨_,_,_,_,.bool x.ck.has,.int .u32 x.ck.sum.toNat,rfl,hf⟩ F) hcl.1 hcl.2.1 hcl.2.2 (mayFol_outs hm) i hi1 hi2)
 obtain ⟨ao,cap,rfl,-,-,-⟩:=hl.out
 have HL:=Lib.hid hl
 have HN:=Lib.hid hn
 clear hl hf hm hi1 hi2 hcl
 obtain ⟨W0,hW0⟩ : ∃ W0,(wholeOf x.f).toNat = W0:=⟨_,rfl⟩
 have HMS:=Lib.hid (show maySub x l = (!(decide (l = [])) && decide (subsGo W0 l = some 0) && subsEnd x l) by unfold maySub;rw [hW0])
 have hWl : W0 < 18446744073709551616:=hW0 ▸ (wholeOf x.f).toNat_lt
 rw [hW0] at HW
 clear hW0
 obtain ⟨wA,hwA⟩ : ∃ wA,wA = w.alloc (.cells #[cv,bv',pv,sv,.bool x.ck.has,.int .u32 x.ck.sum.toNat] 70):=⟨_,rfl⟩
 have FA : Fr [] w wA:=hwA ▸ (Fr.refl _ _).alloc _
 have HBX:=Lib.hid (fun wx (F2 : Fr [] wA wx) => box6 (hwA ▸ F2 : Fr [] (w.alloc (.cells #[cv,bv',pv,sv,.bool x.ck.has,.int .u32 x.ck.sum.toNat] 70)) wx))
 obtain ⟨k0,k1,k2,k3,k4,k5⟩:=HBX.out wA (Fr.refl _ _)
 have hnot : ∀ (x : Bool) (w : World),(Op.unary .not (.bool x)).run Tryz.prog w = .ok (.bool (!x)) w:=fun _ _ => rfl
 go_enter Tryz.func82,Tryz.ntmps82
 go_wp2_with (go_at_call 117;rw [← hwA];refine (HW.out _ FA).mono ?_;rintro e w1 ⟨rfl,F1⟩)
 clear hwA k0 k1 k2 k3 k4 k5
 have HF1:=Lib.hid (FA.trans0 F1)
 go_loopw [5,12] (fun v5 v12 wr => ∃ k z : Nat,k ≤ l.length ∧ z < 18446744073709551616 ∧ v12 = .int .i64 k ∧ v5 = .int .u64 (z : Int) ∧ Hid (subsGo W0 l = subsGo z (l.drop k)) ∧ Fr [] w1 wr) (fun _ i _ => l.length - (intOf i).toNat)
 case atStart => exact ⟨0,W0,Nat.zero_le _,hWl,rfl,rfl,by show subsGo W0 l = subsGo W0 (l.drop 0);rfl,Fr.refl _ _⟩
 case round =>
   obtain ⟨k,z,hk,hz,rfl,rfl,hs,F⟩:=hrel
   have hnI : (l.length : Int) ≤ 1000000:=by have:=HN.out;omega
   by_cases hlt : k < l.length
   · obtain ⟨s,hsx⟩:=some_get l k hlt
     obtain ⟨b1,o1,hao,hb1,e0,e1,e2⟩:=(HL.out.fr0 (HF1.out.trans0 F)).sb hsx hlt
     subst hao
     have hdr : l.drop k = s :: l.drop (k + 1):=by
       have:=List.drop_eq_getElem_cons hlt
       rwa [(List.getElem?_eq_some_iff.1 hsx).2] at this
     have HD:=Lib.hid (show subsGo W0 l = if z < s.size.toNat ∨ ckOk s.ck = false then none else subsGo (z - s.size.toNat) (l.drop (k + 1)) by rw [hs.out,hdr];rfl)
     have HFa:=Lib.hid (fun wx => fair_any wx s.ck)
     have HF:=Lib.hid F
     have hltI : (k : Int) < (l.length : Int):=by omega
     have hzl:=s.size.toNat_lt
     clear hsx hdr hs F
     obtain ⟨sz,ck⟩:=s
     dsimp only at e0 e1 e2 HD HFa hzl
     have HFa2:=Lib.hid (fun wx => (show Calls Tryz.prog 80 #[.agg #[.bool ck.has,.int .u32 ck.sum.toNat]] wx fun e w' => e = .returned (.bool (ckOk ck)) ∧ Fr [] wx w' from HFa.out wx))
     clear HFa
     obtain ⟨wB,hwB⟩ : ∃ wB,wB = wr.alloc (.cells #[.int .u64 sz.toNat,.bool ck.has,.int .u32 ck.sum.toNat] 89):=⟨_,rfl⟩
     have FB : Fr [] wr wB:=hwB ▸ (Fr.refl _ _).alloc _
     have HBB:=Lib.hid (fun wx (F2 : Fr [] wB wx) => wbox3 (hwB ▸ F2 : Fr [] (wr.alloc (.cells #[.int .u64 sz.toNat,.bool ck.has,.int .u32 ck.sum.toNat] 89)) wx) (by simp))
     obtain ⟨d0,d1,d2⟩:=HBB.out wB (Fr.refl _ _)
     by_cases hgt : z < sz.toNat
     · have HE:=Lib.hid (show maySub x l = false by rw [HMS.out,HD.out,if_pos (.inl hgt)];simp)
       have t0 : (z : Int) < (sz.toNat : Int):=by omega
       clear hgt
       go_wp2_with fail
       go_ret
       exact ⟨by rw [HE.out];rfl,(HF1.out.trans0 HF.out).trans0 ((Fr.refl _ _).alloc _)⟩
     have t0 : (sz.toNat : Int) ≤ (z : Int):=by omega
     cases hc : ckOk ck with
     | false =>
       have HE:=Lib.hid (show maySub x l = false by rw [HMS.out,HD.out,if_pos (.inr hc)];simp)
       rw [hc] at HFa2
       clear hc
       go_wp2_with (go_at_call 80;rw [← hwB];refine (HFa2.out _).mono ?_;rintro e w3 ⟨rfl,F3⟩)
       go_ret
       exact ⟨by rw [HE.out];rfl,(HF1.out.trans0 HF.out).trans0 (FB.trans0 F3)⟩
     | true =>
       have HE:=Lib.hid (show subsGo W0 l = subsGo (z - sz.toNat) (l.drop (k + 1)) by rw [HD.out,if_neg];rintro (h | h);exact hgt h;rw [hc] at h;cases h)
       rw [hc] at HFa2
       have hw1 : IntKind.u64.wrap ((z : Int) - (sz.toNat : Int)) = ((z - sz.toNat : Nat) : Int):=by simp [IntKind.wrap,IntKind.bits,IntKind.signed];omega
       have hz2 : z - sz.toNat < 18446744073709551616:=by omega
       clear hc hgt HD
       go_wp2_with (go_at_call 80;rw [← hwB];refine (HFa2.out _).mono ?_;rintro e w3 ⟨rfl,F3⟩;obtain ⟨g0,g1,g2⟩:=HBB.out _ F3)
       go_roundw
       case rel => exact ⟨k + 1,z - sz.toNat,by omega,hz2,by go_num,by first | rfl | (congr 1;omega) | (simp <;> omega),HE.out,HF.out.trans0 (FB.trans0 F3)⟩
       case measure => simp [intOf];omega
   obtain rfl : k = l.length:=by omega
   have HE:=Lib.hid (show maySub x l = (!(decide (l = [])) && decide (z = 0) && subsEnd x l) by
     rw [HMS.out,hs.out,subsGo_nil (Nat.le_refl _)]
     simp)
   obtain ⟨n0,n1,n2,n3,n4,n5⟩:=HBX.out _ (F1.trans0 F)
   have HFw:=Lib.hid (HF1.out.trans0 F)
   clear hs HMS
   by_cases e0 : l.length = 0
   · have HE2:=Lib.hid (show maySub x l = false by rw [HE.out,decide_eq_true (List.eq_nil_of_length_eq_zero e0)];rfl)
     have t0 : decide ((0 : Int) < (l.length : Int)) = false:=decide_eq_false (by omega)
     have t0' : decide (0 < l.length) = false:=decide_eq_false (by omega)
     clear e0
     go_wp2_with fail
     go_quiet (fail)
     go_wp2
     go_ret
     exact ⟨by rw [HE2.out];rfl,HFw.out.drewN _⟩
   have hne : l ≠ []:=fun e => e0 (by rw [e];rfl)
   have hpos : 0 < l.length:=by omega
   have t0 : decide ((0 : Int) < (l.length : Int)) = true:=decide_eq_true (by omega)
   have t0' : decide (0 < l.length) = true:=decide_eq_true (by omega)
   have HE1:=Lib.hid (show maySub x l = (decide (z = 0) && subsEnd x l) by rw [HE.out,decide_eq_false hne];rfl)
   clear e0 hne HE
   by_cases e1 : z = 0
   rotate_left
   · have HE2:=Lib.hid (show maySub x l = false by rw [HE1.out,decide_eq_false e1];rfl)
     have t1 : ((z : Int) == 0) = false:=by rw [beq_eq_false_iff_ne];omega
     clear e1
     go_wp2_with fail
     go_quiet (fail)
     go_wp2
     go_ret
     exact ⟨by rw [HE2.out];rfl,HFw.out.drewN _⟩
   have t1 : ((z : Int) == 0) = true:=by rw [beq_iff_eq];omega
   have HE2:=Lib.hid (show maySub x l = subsEnd x l by rw [HE1.out,decide_eq_true e1];rfl)
   clear e1 HE1
   by_cases e2 : 1 < l.length
   · have HE3:=Lib.hid (show maySub x l = true by rw [HE2.out];unfold subsEnd;rw [decide_eq_true e2];rfl)
     have t2 : decide ((1 : Int) < (l.length : Int)) = true:=decide_eq_true (by omega)
     have t2' : decide (1 < l.length) = true:=decide_eq_true (by omega)
     clear e2
     go_wp2_with fail
     go_quiet (fail)
     go_wp2
     go_ret
     exact ⟨by rw [HE3.out];rfl,HFw.out.drewN _⟩
   have t2 : decide ((1 : Int) < (l.length : Int)) = false:=decide_eq_false (by omega)
   have t2' : decide (1 < l.length) = false:=decide_eq_false (by omega)
   have HE3:=Lib.hid (show maySub x l = (!x.ck.has || decide (l[0]?.map (·.ck) = some x.ck)) by rw [HE2.out];unfold subsEnd;rw [decide_eq_false e2];rfl)
   clear e2 HE2
   obtain ⟨s,hs0⟩:=some_get l 0 hpos
   obtain ⟨b1,o1,hao,hb1,e0,e1,e2⟩:=(HL.out.fr0 HFw.out).sb hs0 hpos
   subst hao
   rw [hs0] at HE3
   obtain ⟨sz,⟨sh,sm⟩⟩:=s
   obtain ⟨xf,⟨xh,xm⟩⟩:=x
   dsimp only at e0 e1 e2 HE3 n4 n5
   have HE4:=Lib.hid (show maySub ⟨xf,⟨xh,xm⟩⟩ l = (!xh || ((sh == xh) && ((sm.toNat : Int) == (xm.toNat : Int)))) by
     rw [HE3.out]
     congr 1
     have hmm : (sm.toNat = xm.toNat) ↔ (sm = xm):=UInt32.toNat_inj
     by_cases a : sh = xh
     · by_cases b : sm = xm
       · subst a b;simp
       · have b' : sm.toNat ≠ xm.toNat:=fun h => b (hmm.1 h)
         have b2 : ((sm.toNat : Int) == (xm.toNat : Int)) = false:=by rw [beq_eq_false_iff_ne];omega
         rw [b2]
         simp [b]
     · simp [a])
   clear HE3 hs0
   cases xh with
   | false =>
     have HE5:=Lib.hid (show maySub ⟨xf,⟨false,xm⟩⟩ l = true by rw [HE4.out];rfl)
     go_wp2_with fail
     go_quiet (fail)
     go_wp2
     go_ret
     exact ⟨by rw [HE5.out];rfl,HFw.out.drewN _⟩
   | true =>
     have HE5:=Lib.hid (show maySub ⟨xf,⟨true,xm⟩⟩ l = ((sh == true) && ((sm.toNat : Int) == (xm.toNat : Int))) by rw [HE4.out];rfl)
     have hq:=run_eql_ck
     go_wp2_with fail
     go_quiet (fail)
     go_wp2
     go_ret
     exact ⟨by rw [HE5.out];first | rfl | (simp;done),HFw.out.drewN _⟩
end Go.Proofs.YtkodindajfdagaaGreatDoor
