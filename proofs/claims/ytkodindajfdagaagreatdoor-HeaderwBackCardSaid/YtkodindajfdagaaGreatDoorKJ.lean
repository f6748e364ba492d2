/- Contracts: the reference's AllIns, Whole, Lone, fair. No condition but that lengths fit. -/
import Derived.Test.YtkodindajfdagaaGreatDoorKC
import Derived.Test.YtkodindajfdagaaGreatDoorWMayGM
import Derived.Test.YtkodindajfdagaaGreatDoorKD
import Derived.Deep.RegionHeld3
import Derived.BigQuiet
import Derived.Test.YtkodindajfdagaaGreatDoorKE
import Derived.Test.YtkodindajfdagaaGreatDoorJR
import Derived.Test.YtkodindajfdagaaGreatDoorKF
import Derived.Test.YtkodindajfdagaaGreatDoorKG
import Derived.Deep.DeepCutAuto
namespace Go.Proofs.YtkodindajfdagaaGreatDoor
open Go.RowKit
set_option maxRecDepth 100000 in
set_option maxHeartbeats 4000000 in
theorem rallins_any (w : World) (v : Value) (f : Folder) (hf : Fo w v f) (hn : f.coders.length ≤ 100000) :
   Calls Tryz.prog 58 #[v] w fun e w' => e = .returned (.int .i64 (allOf f : Nat)) ∧ Fr [] w w':=by
 obtain ⟨cv,bv',p,s,h,k0,rfl,hV⟩:=hf
 obtain ⟨ao,cap,rfl,-,-,o⟩:=hV.co
 have HO:=Lib.hid o
 have hnI : (f.coders.length : Int) ≤ 100000:=by omega
 have HN:=Lib.hid hn
 obtain ⟨wB,hwB⟩ : ∃ wB,wB = w.alloc (.cells #[.slice ao f.coders.length cap,bv',p,s,h,k0] 70):=⟨_,rfl⟩
 have F0 : Fr [] w wB:=hwB ▸ (Fr.refl _ _).alloc _
 have HBX:=Lib.hid (fun wx (F : Fr [] wB wx) => box6 (hwB ▸ F : Fr [] (w.alloc (.cells #[.slice ao f.coders.length cap,bv',p,s,h,k0] 70)) wx))
 clear hV o hn
 go_enter Tryz.func58,Tryz.ntmps58
 go_wp2_with fail
 rw [← hwB]
 clear hwB
 go_loopw [3,4] (fun nv iv wr => ∃ k : Nat,k ≤ f.coders.length ∧ iv = .int .i64 (k : Int) ∧ nv = .int .i64 (f.first k : Int) ∧ Fr [] wB wr) (fun _ iv _ => f.coders.length - (intOf iv).toNat)
 case atStart => exact ⟨0,Nat.zero_le _,rfl,rfl,Fr.refl _ _⟩
 case round =>
   obtain ⟨k,hk,rfl,rfl,F⟩:=hrel
   obtain ⟨d0,-⟩:=HBX.out _ F
   by_cases hlt : k < f.coders.length
   rotate_left
   · have hltI : ¬ (k : Int) < (f.coders.length : Int):=by omega
     obtain rfl : k = f.coders.length:=by omega
     go_wp2_with fail
     go_ret
     exact ⟨rfl,F0.trans0 F⟩
   have hltI : (k : Int) < (f.coders.length : Int):=by omega
   obtain ⟨c,hc⟩:=some_get f.coders k hlt
   obtain ⟨b,o,pv,rfl,hb,q1,q2,q3⟩:=HO.out k c hc
   have c0:=((F0.trans0 F).cell (p:=⟨b,o + k * 2,none⟩) hb (by simp)).trans q1
   have c1:=((F0.trans0 F).cell (p:=⟨b,o + k * 2 + 1,none⟩) hb (by simp)).trans q2
   obtain ⟨pao,pcap,rfl,-,-,-⟩:=q3.out
   have HTk:=Lib.hid (f.first_succ k c hc)
   have hil : (f.first k : Int) ≤ 400000:=by
     have h1:=f.first_le k
     omega
   have hi4 : (ins c.method : Int) ≤ 4:=by
     have:=ins_le c.method
     omega
   clear hc q1 q2 q3
   generalize f.first k = z at *
   go_wp2_with (go_at_call 86;refine (rins_any _ c.method _).mono ?_;rintro e w3 ⟨rfl,F3⟩)
   go_roundw
   case rel => exact ⟨k + 1,by omega,by go_num,by rw [HTk.out];first | rfl | (congr 1;omega) | (simp <;> omega),F.trans0 F3⟩
   case measure => simp [intOf];omega
set_option maxRecDepth 100000 in
set_option maxHeartbeats 1000000 in
theorem rwhole_any (w : World) (v : Value) (f : Folder) (hf : Fo w v f) (hn : f.coders.length ≤ 100000) (hb : f.binds.length ≤ 100000) (hs : f.sizes.length ≤ 100000000) :
   Calls Tryz.prog 60 #[v] w fun e w' => e = .returned (.int .u64 ((wholeOf f).toNat : Int)) ∧ Fr [] w w':=by
 have HF:=Lib.hid hf
 have HM:=Lib.hid (fun wy h => rmain_any wy v f h hn hb)
 obtain ⟨cv,bv',p,s,h,k0,rfl,hV⟩:=hf
 obtain ⟨sao,scap,rfl,-,-,so⟩:=hV.si.out
 obtain ⟨cao,ccap,rfl,-⟩:=hV.co
 obtain ⟨bao,bcap,rfl,-⟩:=hV.bi
 obtain ⟨pao,pcap,rfl,-⟩:=hV.pa.out
 rw [u64v_length] at so
 have HSo:=Lib.hid so
 have hsI : (f.sizes.length : Int) ≤ 100000000:=by omega
 rw [u64v_length] at HF HM ⊢
 clear hV hn hb so
 obtain ⟨wB,hwB⟩ : ∃ wB,wB = w.alloc (.cells #[.slice cao f.coders.length ccap,.slice bao f.binds.length bcap,.slice pao (iv f.packs).length pcap,.slice sao f.sizes.length scap,h,k0] 70):=⟨_,rfl⟩
 have F0 : Fr [] w wB:=hwB ▸ (Fr.refl _ _).alloc _
 have HBX:=Lib.hid (fun wx (F : Fr [] wB wx) => box6 (hwB ▸ F : Fr [] (w.alloc (.cells #[.slice cao f.coders.length ccap,.slice bao f.binds.length bcap,.slice pao (iv f.packs).length pcap,.slice sao f.sizes.length scap,h,k0] 70)) wx))
 obtain ⟨d0,d1,d2,d3,d4,d5⟩:=HBX.out wB (Fr.refl _ _)
 cases hm : mainIdx f with
 | none =>
   have HE:=Lib.hid (show wholeOf f = 0 by rw [wholeOf,hm])
   have HMO:=Lib.hid (show mainOf f = -1 by rw [mainOf,hm])
   clear hm
   go_enter Tryz.func60,Tryz.ntmps60
   go_upto_region 1 with fail
   rw [← hwB]
   clear hwB
   go_wp2_with (go_at_call 87;refine (HM.out _ (HF.out.fr F0)).mono ?_;rw [HMO.out];rintro e w1 ⟨rfl,F1⟩)
   go_ret
   exact ⟨by rw [HE.out];rfl,F0.trans0 F1⟩
 | some i =>
   have HMO:=Lib.hid (show mainOf f = (i : Int) by rw [mainOf,hm])
   by_cases hlt : i < f.sizes.length
   · obtain ⟨x,hx⟩:=some_get f.sizes i hlt
     have HE:=Lib.hid (show wholeOf f = x by rw [wholeOf,hm];simp [List.getD,hx])
     obtain ⟨b,o,rfl,hb,hcell⟩:=HSo.out i hlt
     have HC0:=Lib.hid ((hcell i hlt).trans (u64v_get _ _ _ hx))
     have hltI : (i : Int) < (f.sizes.length : Int):=by omega
     clear hm hcell hx
     go_enter Tryz.func60,Tryz.ntmps60
     go_upto_region 1 with fail
     rw [← hwB]
     clear hwB
     go_wp2_with (go_at_call 87;refine (HM.out _ (HF.out.fr F0)).mono ?_;rw [HMO.out];rintro e w1 ⟨rfl,F1⟩;obtain ⟨g0,g1,g2,g3,g4,g5⟩:=HBX.out _ F1;have d6:=((F0.trans0 F1).cell (p:=⟨b,o + i,none⟩) hb (by simp)).trans HC0.out)
     go_ret
     exact ⟨by rw [HE.out];rfl,F0.trans0 F1⟩
   · have HE:=Lib.hid (show wholeOf f = 0 by rw [wholeOf,hm];simp [List.getD,hlt])
     have hltI : (f.sizes.length : Int) ≤ (i : Int):=by omega
     clear hm
     go_enter Tryz.func60,Tryz.ntmps60
     go_upto_region 1 with fail
     rw [← hwB]
     clear hwB
     go_wp2_with (go_at_call 87;refine (HM.out _ (HF.out.fr F0)).mono ?_;rw [HMO.out];rintro e w1 ⟨rfl,F1⟩;obtain ⟨g0,g1,g2,g3,g4,g5⟩:=HBX.out _ F1)
     go_ret
     exact ⟨by rw [HE.out];rfl,F0.trans0 F1⟩
theorem lone_le (f : Folder) : loneN f ≤ f.binds.length:=by
 unfold loneN
 cases e : ((List.range (f.binds.length + 1)).find? fun i : Nat => decide ((i : Int) ∉ f.binds.map (·.1))) with
 | none => simp
 | some k =>
   rw [List.find?_range_eq_some] at e
   have:=e.2.1
   simp at this
   simp
   omega
set_option maxRecDepth 100000 in
set_option maxHeartbeats 4000000 in
theorem rlone_any (w : World) (cv bv' p s h k0 : Value) (f : Folder) (hf : FoV w cv bv' p s f) (hn : f.coders.length ≤ 100000) (hb : f.binds.length ≤ 100000) (hlt : f.binds.length < allOf f) :
   Calls Tryz.prog 59 #[.agg #[cv,bv',p,s,h,k0]] w fun e w' => e = .returned (.int .i64 (loneN f : Nat)) ∧ Fr [] w w':=by
 have HAl:=Lib.hid (fun wx (F : Fr [] w wx) => rallins_any wx (.agg #[cv,bv',p,s,h,k0]) f ⟨_,_,_,_,_,_,rfl,hf.fr F⟩ hn)
 obtain ⟨aob,capb,rfl,-,-,o⟩:=hf.bi.out
 obtain ⟨ao,cap,rfl,-,-,-⟩:=hf.co.out
 have HO:=Lib.hid o
 clear hf o
 have HLT:=Lib.hid hlt
 obtain ⟨wB,hwB⟩ : ∃ wB,wB = w.alloc (.cells #[.slice ao f.coders.length cap,.slice aob f.binds.length capb,p,s,h,k0] 70):=⟨_,rfl⟩
 have F0 : Fr [] w wB:=hwB ▸ (Fr.refl _ _).alloc _
 have HBX:=Lib.hid (fun wx (F : Fr [] wB wx) => box6 (hwB ▸ F : Fr [] (w.alloc (.cells #[.slice ao f.coders.length cap,.slice aob f.binds.length capb,p,s,h,k0] 70)) wx))
 obtain ⟨M,hM⟩ : ∃ M,f.binds.length = M:=⟨_,rfl⟩
 have HM:=Lib.hid hM
 rw [hM] at hb HBX hwB hlt HAl ⊢
 obtain ⟨AA,hAA⟩ : ∃ AA,allOf f = AA:=⟨_,rfl⟩
 rw [hAA] at HAl hlt
 have hmI : (M : Int) ≤ 100000:=by omega
 clear hM hAA hn
 go_enter Tryz.func59,Tryz.ntmps59
 go_wp2_with fail
 rw [← hwB]
 clear hwB
 go_loopw [3] (fun i wr => ∃ k : Nat,k ≤ M ∧ i = .int .i64 k ∧ (∀ j,j < k → (j : Int) ∈ f.binds.map (·.1)) ∧ Fr [] wB wr) (fun i _ => M + 1 - (intOf i).toNat)
 case atStart => exact ⟨0,Nat.zero_le _,rfl,fun _ h => by omega,Fr.refl _ _⟩
 case round =>
   obtain ⟨k,hk,rfl,hA,F⟩:=hrel
   obtain ⟨d0,d1,d2,d3,d4,d5⟩:=HBX.out _ F
   have hkI : (k : Int) < (AA : Int):=by omega
   have HA:=Lib.hid hA
   clear hA
   rename World => wK
   go_wp2_with (go_at_call 58;refine (HAl.out _ (F0.trans0 F)).mono ?_;rintro e w2 ⟨rfl,F2⟩)
   have HFK:=Lib.hid (F.trans0 F2)
   clear d0 d1 d2 d3 d4 d5 F F2
   go_loopw [4,5] (fun fr i wq => ∃ m : Nat,m ≤ M ∧ i = .int .i64 m ∧ fr = .bool (decide ((k : Int) ∉ (f.binds.map (·.1)).take m)) ∧ Fr [] wB wq) (fun _ i _ => M - (intOf i).toNat)
   case atStart => exact ⟨0,Nat.zero_le _,rfl,by simp,HFK.out⟩
   case round =>
     obtain ⟨m,hm,rfl,rfl,FQ⟩:=hrel
     obtain ⟨d0,d1,d2,d3,d4,d5⟩:=HBX.out _ FQ
     by_cases hlm : m < M
     · have hlmI : (m : Int) < (M : Int):=by omega
       obtain ⟨y,hy⟩:=some_get f.binds m (by rw [HM.out];exact hlm)
       obtain ⟨b1,o1,rfl,hb1,e0,e1⟩:=HO.out m y hy
       have c1:=((F0.trans0 FQ).cell (p:=⟨b1,o1 + m * 2,none⟩) hb1 (by simp)).trans e0
       have HT:=Lib.hid (show decide ((k : Int) ∉ (f.binds.map (·.1)).take (m + 1)) = (decide ((k : Int) ∉ (f.binds.map (·.1)).take m) && (y.1 != (k : Int))) by
         have : (f.binds.map (·.1))[m]? = some y.1:=by simp [hy]
         rw [List.take_add_one,this]
         by_cases e : y.1 = (k : Int)
         · simp [e]
         · have e' : (k : Int) ≠ y.1:=fun h => e h.symm
           simp [e',e])
       obtain ⟨y1,y2⟩:=y
       dsimp only at c1 HT
       clear e0 e1 hy
       generalize decide ((k : Int) ∉ (f.binds.map (·.1)).take m) = fr at *
       cases fr with
       | true =>
         by_cases e : y1 = (k : Int)
         · have t0 : (y1 == (k : Int)) = true:=by rw [beq_iff_eq];exact e
           have HT2:=Lib.hid (show decide ((k : Int) ∉ (f.binds.map (·.1)).take (m + 1)) = false by rw [HT.out,e];simp)
           clear e
           go_wp2_with fail
           go_roundw
           case rel => exact ⟨m + 1,by omega,by go_num,by rw [HT2.out];first | rfl | (simp;first | exact beq_iff_eq.1 t0 | exact beq_eq_false_iff_ne.1 t0),FQ⟩
           case measure => simp [intOf];omega
         · have t0 : (y1 == (k : Int)) = false:=by rw [beq_eq_false_iff_ne];exact e
           have HT2:=Lib.hid (show decide ((k : Int) ∉ (f.binds.map (·.1)).take (m + 1)) = true by rw [HT.out];simp [e])
           clear e
           go_wp2_with fail
           go_roundw
           case rel => exact ⟨m + 1,by omega,by go_num,by rw [HT2.out];first | rfl | (simp;first | exact beq_iff_eq.1 t0 | exact beq_eq_false_iff_ne.1 t0),FQ⟩
           case measure => simp [intOf];omega
       | false =>
         have HT2:=Lib.hid (show decide ((k : Int) ∉ (f.binds.map (·.1)).take (m + 1)) = false by rw [HT.out];rfl)
         go_wp2_with fail
         go_roundw
         case rel => exact ⟨m + 1,by omega,by go_num,by rw [HT2.out],FQ⟩
         case measure => simp [intOf];omega
     · have hme : m = M:=by omega
       subst hme
       rw [List.take_of_length_le (by rw [List.length_map,HM.out];exact Nat.le_refl _)]
       by_cases hin : (k : Int) ∈ f.binds.map (·.1)
       · rw [show decide ((k : Int) ∉ f.binds.map (·.1)) = false by simpa using hin]
         have HA2:=Lib.hid (show ∀ j : Nat,j < k + 1 → (j : Int) ∈ f.binds.map (·.1) from fun j hj => by
           by_cases e : j = k
           · rw [e];exact hin
           · exact HA.out j (by omega))
         have hfew:=few_of (k + 1) _ HA2.out
         rw [List.length_map,HM.out] at hfew
         clear hin
         go_wp2_with fail
         go_roundw
         case rel => exact ⟨k + 1,by omega,by go_num,HA2.out,FQ⟩
         case measure => simp [intOf];omega
       · rw [show decide ((k : Int) ∉ f.binds.map (·.1)) = true by simpa using hin]
         have HE:=Lib.hid (lone_at HA.out hin)
         clear hin
         go_wp2_with fail
         go_ret
         exact ⟨by rw [HE.out];rfl,F0.trans0 FQ⟩
set_option maxRecDepth 100000 in
theorem rfair_any (w : World) (c : Ck) : Calls Tryz.prog 29 #[.agg #[.bool c.has,.int .u32 c.sum.toNat]] w fun e w' => e = .returned (.bool (ckOk c)) ∧ Fr [] w w':=by
 obtain ⟨hs,sm⟩:=c
 have ea : ((sm.toNat : Int) == 0) = (sm == 0):=by
   by_cases h : sm = 0
   · subst h;rfl
   · have h1 : sm.toNat ≠ 0:=fun e => h (UInt32.toNat_inj.1 e)
     have h2 : (sm == 0) = false:=by simp [h]
     rw [h2,beq_eq_false_iff_ne]
     omega
 unfold ckOk
 dsimp only
 generalize (sm == 0) = z at *
 cases hs <;> cases z
 all_goals
   go_enter Tryz.func29,Tryz.ntmps29
   go_wp2_with fail
   go_ret
   exact ⟨rfl,(Fr.refl _ _).alloc _⟩
end Go.Proofs.YtkodindajfdagaaGreatDoor
/- Contract: the reference's folder. No condition but that lengths fit. -/
namespace Go.Proofs.YtkodindajfdagaaGreatDoor
open Go.RowKit
def foSub (x : Fol) (l : List Sub) : Bool:=mayFol x && maySub x l
theorem foSub_no {x : Fol} {l : List Sub} (h : mayFol x = false) : foSub x l = false:=by unfold foSub;rw [h];rfl
theorem foSub_no2 {x : Fol} {l : List Sub} (h : maySub x l = false) : foSub x l = false:=by unfold foSub;rw [h];simp
theorem coOk_eq (c : Coder) (z : UInt64) : coOk c z = (decide (1 ≤ c.method) && decide (c.method ≤ 7) && decide (c.props.length ≤ 65536) && decide (z.toNat ≤ 1099511627776)):=by
 unfold coOk
 congr 2
 by_cases h : ins c.method = 0
 · have h2:=(ins_zero _).1 h
   rw [decide_eq_true h]
   by_cases h3 : 1 ≤ c.method
   · have h4 : ¬ c.method ≤ 7:=fun h4 => h2 ⟨h3,h4⟩
     rw [decide_eq_false h4]
     simp
   · rw [decide_eq_false h3]
     rfl
 · have h2 : 1 ≤ c.method ∧ c.method ≤ 7:=by
     by_cases h3 : 1 ≤ c.method ∧ c.method ≤ 7
     · exact h3
     · exact (h ((ins_zero _).2 h3)).elim
   rw [decide_eq_false h,decide_eq_true h2.1,decide_eq_true h2.2]
   rfl
set_option maxRecDepth 100000 in
set_option maxHeartbeats 8000000 in
theorem rfolder_any (w : World) (cv bv' pv sv lv : Value) (x : Fol) (l : List Sub) (hi : Nat) (hf : FoV w cv bv' pv sv x.f) (hcl : x.f.coders.length ≤ 100000) (hbl : x.f.binds.length ≤ 100000) (hpl : x.f.packs.length ≤ 100000) (hl : RowAt w hi 3 lv l.length (sbV l)) (hn : l.length ≤ 1000000) :
   Calls Tryz.prog 30 #[.agg #[cv,bv',pv,sv,.bool x.ck.has,.int .u32 x.ck.sum.toNat],lv] w fun e w' => e = .returned (.bool (foSub x l)) ∧ Fr [] w w':=by
 obtain ⟨cao,ccap,rfl,-,-,co⟩:=hf.co.out
 obtain ⟨bao,bcap,rfl,-,-,bo⟩:=hf.bi.out
 have hpo:=hf.pa.out
 rw [iv_length] at hpo
 obtain ⟨pao,pcap,rfl,-,-,po⟩:=hpo
 have hso:=hf.si.out
 rw [u64v_length] at hso
 obtain ⟨sao,scap,rfl,-,-,so⟩:=hso
 obtain ⟨lao,lcap,rfl,-,-,-⟩:=hl.out
 have HL:=Lib.hid hl
 have HCo:=Lib.hid co
 have HBo:=Lib.hid bo
 have HPo:=Lib.hid po
 have HSo:=Lib.hid so
 have HF:=Lib.hid hf
 have HLo:=Lib.hid (fun wx (F : Fr [] w wx) h => rlone_any wx _ _ _ _ (.bool x.ck.has) (.int .u32 x.ck.sum.toNat) x.f (hf.fr F) hcl hbl h)
 have HIn:=Lib.hid (fun wx (F : Fr [] w wx) => rallins_any wx _ x.f (Fo.fr ⟨_,_,_,_,.bool x.ck.has,.int .u32 x.ck.sum.toNat,rfl,hf⟩ F) hcl)
 have HWh:=Lib.hid (fun wx (F : Fr [] w wx) (hs : x.f.sizes.length ≤ 100000000) => rwhole_any wx _ x.f (Fo.fr ⟨_,_,_,_,.bool x.ck.has,.int .u32 x.ck.sum.toNat,rfl,hf⟩ F) hcl hbl hs)
 have HFa:=Lib.hid (fun wx => rfair_any wx x.ck)
 obtain ⟨N,hN⟩ : ∃ N,x.f.coders.length = N:=⟨_,rfl⟩
 obtain ⟨M,hM⟩ : ∃ M,x.f.binds.length = M:=⟨_,rfl⟩
 obtain ⟨Q,hQ⟩ : ∃ Q,x.f.packs.length = Q:=⟨_,rfl⟩
 obtain ⟨Z,hZ⟩ : ∃ Z,x.f.sizes.length = Z:=⟨_,rfl⟩
 obtain ⟨U,hU⟩ : ∃ U,l.length = U:=⟨_,rfl⟩
 have HN:=Lib.hid hN
 have HM:=Lib.hid hM
 have HQ:=Lib.hid hQ
 have HZ:=Lib.hid hZ
 have HU:=Lib.hid hU
 rw [hN] at hcl HLo HIn HWh ⊢
 rw [hM] at hbl HLo HIn HWh ⊢
 rw [hQ] at hpl HLo HIn HWh ⊢
 rw [hZ] at HLo HIn HWh ⊢
 rw [hU] at hn HL ⊢
 have hH : foHead x = (decide (1 ≤ N) && decide (N ≤ 8) && decide (M + 1 = N) && decide (Z = N) && ckOk x.ck):=by unfold foHead;rw [hN,hM,hZ]
 have HH:=Lib.hid hH
 clear hN hM hQ hZ hU hH hf co bo po so hl
 obtain ⟨wA,hwA⟩ : ∃ wA,wA = w.alloc (.cells #[.slice cao N ccap,.slice bao M bcap,.slice pao Q pcap,.slice sao Z scap,.bool x.ck.has,.int .u32 x.ck.sum.toNat] 70):=⟨_,rfl⟩
 have FA : Fr [] w wA:=hwA ▸ (Fr.refl _ _).alloc _
 have HBX:=Lib.hid (fun wx (F2 : Fr [] wA wx) => box6 (hwA ▸ F2 : Fr [] (w.alloc (.cells #[.slice cao N ccap,.slice bao M bcap,.slice pao Q pcap,.slice sao Z scap,.bool x.ck.has,.int .u32 x.ck.sum.toNat] 70)) wx))
 obtain ⟨k0,k1,k2,k3,k4,k5⟩:=HBX.out wA (Fr.refl _ _)
 have hnot : ∀ (x : Bool) (w : World),(Op.unary .not (.bool x)).run Tryz.prog w = .ok (.bool (!x)) w:=fun _ _ => rfl
 by_cases h1 : 1 ≤ N
 rotate_left
 · have HE:=Lib.hid (foSub_no (l:=l) (mayFol_head (x:=x) (by rw [HH.out,decide_eq_false h1];rfl)))
   have t1 : decide ((N : Int) < 1) = true:=decide_eq_true (by omega)
   go_enter Tryz.func30,Tryz.ntmps30
   go_wp2_with fail
   go_ret
   exact ⟨by rw [HE.out];rfl,(Fr.refl _ _).alloc _⟩
 have d1 : decide ((N : Int) < 1) = false:=decide_eq_false (by omega)
 by_cases h2 : N ≤ 8
 rotate_left
 · have HE:=Lib.hid (foSub_no (l:=l) (mayFol_head (x:=x) (by rw [HH.out,decide_eq_false h2];simp)))
   have t1 : decide ((8 : Int) < (N : Int)) = true:=decide_eq_true (by omega)
   go_enter Tryz.func30,Tryz.ntmps30
   go_wp2_with fail
   go_ret
   exact ⟨by rw [HE.out];rfl,(Fr.refl _ _).alloc _⟩
 have d2 : decide ((8 : Int) < (N : Int)) = false:=decide_eq_false (by omega)
 have hsub : wrap64 ((N : Int) - 1) = ((N - 1 : Nat) : Int):=by unfold wrap64;omega
 by_cases h3 : M + 1 = N
 rotate_left
 · have HE:=Lib.hid (foSub_no (l:=l) (mayFol_head (x:=x) (by rw [HH.out,decide_eq_false h3];simp)))
   have t1 : ((M : Int) == (N : Int) - 1) = false:=by rw [beq_eq_false_iff_ne];omega
   have t1' : ((M : Int) != (N : Int) - 1) = true:=by unfold bne;rw [t1];rfl
   go_enter Tryz.func30,Tryz.ntmps30
   go_wp2_with fail
   go_ret
   exact ⟨by rw [HE.out];rfl,(Fr.refl _ _).alloc _⟩
 have t3 : ((M : Int) == (N : Int) - 1) = true:=by rw [beq_iff_eq];omega
 have t3' : ((M : Int) != (N : Int) - 1) = false:=by unfold bne;rw [t3];rfl
 by_cases h4 : Z = N
 rotate_left
 · have HE:=Lib.hid (foSub_no (l:=l) (mayFol_head (x:=x) (by rw [HH.out,decide_eq_false h4];simp)))
   have t1 : ((Z : Int) == (N : Int)) = false:=by rw [beq_eq_false_iff_ne];omega
   have t1' : ((Z : Int) != (N : Int)) = true:=by unfold bne;rw [t1];rfl
   have HD:=Lib.hid h3
   clear h3 h4
   go_enter Tryz.func30,Tryz.ntmps30
   go_wp2_with fail
   go_ret
   exact ⟨by rw [HE.out];rfl,(Fr.refl _ _).alloc _⟩
 have t4 : ((Z : Int) == (N : Int)) = true:=by rw [beq_iff_eq];omega
 have t4' : ((Z : Int) != (N : Int)) = false:=by unfold bne;rw [t4];rfl
 have HD3:=Lib.hid h3
 have HD4:=Lib.hid h4
 clear h3 h4
 by_cases h5 : ckOk x.ck = true
 rotate_left
 · have h5' : ckOk x.ck = false:=by simpa using h5
   have HE:=Lib.hid (foSub_no (l:=l) (mayFol_head (x:=x) (by rw [HH.out,h5'];simp)))
   rw [h5'] at HFa
   clear h5 h5' HH
   go_enter Tryz.func30,Tryz.ntmps30
   go_wp2_with (go_at_call 29;refine (HFa.out _).mono ?_;rintro e w1 ⟨rfl,F1⟩)
   rw [← hwA] at F1
   go_ret
   exact ⟨by rw [HE.out];rfl,FA.trans0 F1⟩
 have HHd:=Lib.hid (show foHead x = true by rw [HH.out,decide_eq_true (by omega : 1 ≤ N),decide_eq_true h2,decide_eq_true HD3.out,decide_eq_true HD4.out,h5];rfl)
 rw [h5] at HFa
 clear h5 HH
 by_cases h6 : U = 0
 · have HE:=Lib.hid (foSub_no2 (x:=x) (l:=l) (by unfold maySub;rw [decide_eq_true (List.eq_nil_of_length_eq_zero (HU.out.trans h6))];rfl))
   have t6 : ((U : Int) == 0) = true:=by rw [beq_iff_eq];omega
   clear h6
   go_enter Tryz.func30,Tryz.ntmps30
   go_wp2_with (go_at_call 29;refine (HFa.out _).mono ?_;rintro e w1 ⟨rfl,F1⟩)
   rw [← hwA] at F1
   go_ret
   exact ⟨by rw [HE.out];rfl,FA.trans0 F1⟩
 have t6 : ((U : Int) == 0) = false:=by rw [beq_eq_false_iff_ne];omega
 have HU0:=Lib.hid h6
 clear h6
 go_enter Tryz.func30,Tryz.ntmps30
 go_wp2_with (go_at_call 29;rw [← hwA];refine (HFa.out _).mono ?_;rintro e w1 ⟨rfl,F1⟩;obtain ⟨l0,l1,l2,l3,l4,l5⟩:=HBX.out w1 F1)
 clear hwA k0 k1 k2 k3 k4 k5 t3 t3' t4 t4' t6
 have HF1:=Lib.hid F1
 go_loopw [6] (fun i wr => ∃ k : Nat,k ≤ N ∧ i = .int .i64 k ∧ Hid (((x.f.coders.zip x.f.sizes).take k).all (fun x => coOk x.1 x.2) = true) ∧ Fr [] w1 wr) (fun i _ => N - (intOf i).toNat)
 case atStart => exact ⟨0,Nat.zero_le _,rfl,by show ([] : List (Coder × UInt64)).all _ = true;rfl,Fr.refl _ _⟩
 case round =>
   obtain ⟨k,hk,rfl,hA,F⟩:=hrel
   by_cases hlt : k < N
   · obtain ⟨c,hc⟩:=some_get x.f.coders k (by rw [HN.out];exact hlt)
     obtain ⟨z,hz⟩:=some_get x.f.sizes k (by rw [HZ.out,HD4.out];exact hlt)
     obtain ⟨b1,o1,pv1,rfl,hb1,q1,q2,q3⟩:=HCo.out k c hc
     have hq3:=q3.out
     rw [bv_length] at hq3
     obtain ⟨ppa,ppc,rfl,-,-,-⟩:=hq3
     obtain ⟨b2,o2,rfl,hb2,q4⟩:=HSo.out k (by rw [HZ.out,HD4.out];exact hlt)
     have q5:=(q4 k (by rw [HZ.out,HD4.out];exact hlt)).trans (u64v_get _ _ _ hz)
     have HFw:=Lib.hid ((FA.trans0 HF1.out).trans0 F)
     have e1:=(HFw.out.cell (p:=⟨b1,o1 + k * 2,none⟩) hb1 (by simp)).trans q1
     have e2:=(HFw.out.cell (p:=⟨b1,o1 + k * 2 + 1,none⟩) hb1 (by simp)).trans q2
     have e3:=(HFw.out.cell (p:=⟨b2,o2 + k,none⟩) hb2 (by simp)).trans q5
     obtain ⟨n0,n1,n2,n3,n4,n5⟩:=HBX.out _ (HF1.out.trans0 F)
     have HST:=Lib.hid (fun h => coAll_take hc hz hA.out h)
     have HBad:=Lib.hid (fun h => foSub_no (l:=l) (mayFol_co hc hz h))
     have HCK:=Lib.hid (coOk_eq c z)
     have HF:=Lib.hid F
     have hltI : (k : Int) < (N : Int):=by omega
     have hltZ : (k : Int) < (Z : Int):=by have:=HD4.out;omega
     clear hc hz q1 q2 q3 q4 q5 hA F
     by_cases g0 : 1 ≤ c.method
     rotate_left
     · have HE:=Lib.hid (HBad.out (by rw [HCK.out,decide_eq_false g0];rfl))
       have t0 : decide (c.method < 1) = true:=decide_eq_true (by omega)
       clear g0
       go_wp2_with fail
       go_ret
       exact ⟨by rw [HE.out];rfl,HFw.out⟩
     have t0 : decide (c.method < 1) = false:=decide_eq_false (by omega)
     by_cases g1 : c.method ≤ 7
     rotate_left
     · have HE:=Lib.hid (HBad.out (by rw [HCK.out,decide_eq_false g1];simp))
       have t1 : decide (7 < c.method) = true:=decide_eq_true (by omega)
       clear g0 g1
       go_wp2_with fail
       go_ret
       exact ⟨by rw [HE.out];rfl,HFw.out⟩
     have t1 : decide (7 < c.method) = false:=decide_eq_false (by omega)
     have HG:=Lib.hid (show (decide (1 ≤ c.method) && decide (c.method ≤ 7)) = true by rw [decide_eq_true g0,decide_eq_true g1];rfl)
     clear g0 g1
     by_cases g2 : c.props.length ≤ 65536
     rotate_left
     · have HE:=Lib.hid (HBad.out (by rw [HCK.out,decide_eq_false g2];simp))
       have t2 : decide ((65536 : Int) < (c.props.length : Int)) = true:=decide_eq_true (by omega)
       clear g2
       go_wp2_with fail
       go_ret
       exact ⟨by rw [HE.out];rfl,HFw.out⟩
     have t2 : decide ((65536 : Int) < (c.props.length : Int)) = false:=decide_eq_false (by omega)
     by_cases g3 : z.toNat ≤ 1099511627776
     rotate_left
     · have HE:=Lib.hid (HBad.out (by rw [HCK.out,decide_eq_false g3];simp))
       have t5 : decide ((1099511627776 : Int) < (z.toNat : Int)) = true:=decide_eq_true (by omega)
       clear g2 g3
       go_wp2_with fail
       go_ret
       exact ⟨by rw [HE.out];rfl,HFw.out⟩
     have t5 : decide ((1099511627776 : Int) < (z.toNat : Int)) = false:=decide_eq_false (by omega)
     have HE:=Lib.hid (HST.out (by rw [HCK.out,HG.out,decide_eq_true g2,decide_eq_true g3];rfl))
     clear g2 g3
     go_wp2_with fail
     go_roundw
     case rel => exact ⟨k + 1,by omega,by go_num,HE.out,HF.out⟩
     case measure => simp [intOf];omega
   obtain rfl : k = N:=by omega
   have HCA:=Lib.hid (show coAll x.f = true by
     have:=hA.out
     rw [List.take_of_length_le (by rw [List.length_zip,HN.out,HZ.out,HD4.out];omega)] at this
     exact this)
   have hge : ∀ c ∈ x.f.coders,ins c.method ≠ 0:=by
     intro c hm
     obtain ⟨j,hj⟩:=List.mem_iff_getElem?.1 hm
     have hjl : j < x.f.coders.length:=(List.getElem?_eq_some_iff.1 hj).1
     obtain ⟨z,hz⟩:=some_get x.f.sizes j (by rw [HZ.out,HD4.out,← HN.out];exact hjl)
     have:=zip_all HCA.out hj hz
     unfold coOk at this
     simp only [Bool.and_eq_true,Bool.not_eq_true',decide_eq_false_iff_not] at this
     exact this.1.1
   have hall:=all_ge hge x.f.coders.length (Nat.le_refl _)
   have hall2:=allOf_le x.f
   rw [show x.f.first x.f.coders.length = allOf x.f from rfl] at hall
   rw [HN.out] at hall hall2
   have HAll:=Lib.hid (show (k : Nat) ≤ allOf x.f ∧ allOf x.f ≤ 4 * k from ⟨hall,hall2⟩)
   have HFw:=Lib.hid ((FA.trans0 HF1.out).trans0 F)
   obtain ⟨n0,n1,n2,n3,n4,n5⟩:=HBX.out _ (HF1.out.trans0 F)
   clear hge hall hall2 hA
   generalize hAA : allOf x.f = AA at *
   have HAA:=Lib.hid hAA
   clear hAA
   obtain ⟨hall,hall2⟩:=HAll.out
   have hltI : (k : Int) ≤ (k : Int):=Int.le_refl _
   go_wp2_with (go_at_call 58;refine (HIn.out _ HFw.out).mono ?_;rintro e w4 ⟨rfl,F4⟩)
   have HF4:=Lib.hid ((HF1.out.trans0 F).trans0 F4)
   clear n0 n1 n2 n3 n4 n5 l0 l1 l2 l3 l4 l5
   go_loopw [8] (fun i wr => ∃ m : Nat,m ≤ M ∧ i = .int .i64 m ∧ Hid ((x.f.binds.take m).all (biOk AA k) = true) ∧ Fr [] w4 wr) (fun i _ => M - (intOf i).toNat)
   case atStart => exact ⟨0,Nat.zero_le _,rfl,by show ([] : List (Int × Int)).all _ = true;rfl,Fr.refl _ _⟩
   case round =>
     obtain ⟨m,hm,rfl,hA,F⟩:=hrel
     obtain ⟨n0,n1,n2,n3,n4,n5⟩:=HBX.out _ (HF4.out.trans0 F)
     by_cases hlt : m < M
     · obtain ⟨y,hy⟩:=some_get x.f.binds m (by rw [HM.out];exact hlt)
       obtain ⟨b1,o1,rfl,hb1,q1,q2⟩:=HBo.out m y hy
       have HFw2:=Lib.hid ((FA.trans0 HF4.out).trans0 F)
       have d0:=(HFw2.out.cell (p:=⟨b1,o1 + m * 2,none⟩) hb1 (by simp)).trans q1
       have d1:=(HFw2.out.cell (p:=⟨b1,o1 + m * 2 + 1,none⟩) hb1 (by simp)).trans q2
       have HST:=Lib.hid (show biOk AA k y = true → (x.f.binds.take (m + 1)).all (biOk AA k) = true from fun h => by rw [List.take_add_one,hy,List.all_append,hA.out];simp [h])
       have HBad:=Lib.hid (show biOk AA k y = false → foSub x l = false from fun h => foSub_no (mayFol_bi (List.mem_of_getElem? hy) (by rw [HAA.out,HN.out];exact h)))
       obtain ⟨y1,y2⟩:=y
       have HCK:=Lib.hid (show biOk AA k (y1,y2) = (decide (0 ≤ y1) && decide (y1 < AA) && decide (0 ≤ y2) && decide (y2 < k)) from rfl)
       have HF:=Lib.hid F
       have hltM : (m : Int) < (M : Int):=by omega
       dsimp only at d0 d1
       clear hy q1 q2 hA F
       by_cases e0 : 0 ≤ y1
       rotate_left
       · have HE:=Lib.hid (HBad.out (by rw [HCK.out,decide_eq_false e0];rfl))
         have t0 : decide (y1 < 0) = true:=decide_eq_true (by omega)
         clear e0
         go_wp2_with fail
         go_ret
         exact ⟨by rw [HE.out];rfl,HFw2.out⟩
       have t0 : decide (y1 < 0) = false:=decide_eq_false (by omega)
       by_cases e1 : y1 < AA
       rotate_left
       · have HE:=Lib.hid (HBad.out (by rw [HCK.out,decide_eq_false e1];simp))
         have t1 : decide ((AA : Int) ≤ y1) = true:=decide_eq_true (by omega)
         clear e0 e1
         go_wp2_with fail
         go_ret
         exact ⟨by rw [HE.out];rfl,HFw2.out⟩
       have t1 : decide ((AA : Int) ≤ y1) = false:=decide_eq_false (by omega)
       by_cases e2 : 0 ≤ y2
       rotate_left
       · have HE:=Lib.hid (HBad.out (by rw [HCK.out,decide_eq_false e2];simp))
         have t2 : decide (y2 < 0) = true:=decide_eq_true (by omega)
         clear e0 e1 e2
         go_wp2_with fail
         go_ret
         exact ⟨by rw [HE.out];rfl,HFw2.out⟩
       have t2 : decide (y2 < 0) = false:=decide_eq_false (by omega)
       by_cases e3 : y2 < k
       rotate_left
       · have HE:=Lib.hid (HBad.out (by rw [HCK.out,decide_eq_false e3];simp))
         have t3 : decide ((k : Int) ≤ y2) = true:=decide_eq_true (by omega)
         clear e0 e1 e2 e3
         go_wp2_with fail
         go_ret
         exact ⟨by rw [HE.out];rfl,HFw2.out⟩
       have t3 : decide ((k : Int) ≤ y2) = false:=decide_eq_false (by omega)
       have HE:=Lib.hid (HST.out (by rw [HCK.out,decide_eq_true e0,decide_eq_true e1,decide_eq_true e2,decide_eq_true e3];rfl))
       clear e0 e1 e2 e3
       go_wp2_with fail
       go_roundw
       case rel => exact ⟨m + 1,by omega,by go_num,HE.out,HF.out⟩
       case measure => simp [intOf];omega
     obtain rfl : m = M:=by omega
     have HBA:=Lib.hid (show x.f.binds.all (biOk (allOf x.f) x.f.coders.length) = true by
       have:=hA.out
       rw [List.take_of_length_le (by rw [HM.out];exact Nat.le_refl _)] at this
       rw [HAA.out,HN.out]
       exact this)
     have HF5:=Lib.hid (FA.trans0 (HF4.out.trans0 F))
     have hPH : paHead x.f = (decide (Q + m = AA) && x.f.packs.all (paOk AA)):=by unfold paHead;rw [HQ.out,HM.out,HAA.out]
     have HPH:=Lib.hid hPH
     have h3:=HD3.out
     have hw2 : wrap64 ((AA : Int) - (m : Int)) = ((AA - m : Nat) : Int):=by unfold wrap64;omega
     clear hA hPH
     by_cases e0 : Q + m = AA
     rotate_left
     · have HE:=Lib.hid (foSub_no (l:=l) (mayFol_pa (x:=x) (by rw [HPH.out,decide_eq_false e0];rfl)))
       have t0 : ((Q : Int) == (AA : Int) - (m : Int)) = false:=by rw [beq_eq_false_iff_ne];omega
       have t0' : ((Q : Int) != (AA : Int) - (m : Int)) = true:=by unfold bne;rw [t0];rfl
       clear e0 h3
       go_wp2_with fail
       go_ret
       exact ⟨by rw [HE.out];rfl,HF5.out⟩
     have t0 : ((Q : Int) == (AA : Int) - (m : Int)) = true:=by rw [beq_iff_eq];omega
     have t0' : ((Q : Int) != (AA : Int) - (m : Int)) = false:=by unfold bne;rw [t0];rfl
     have hQ1 : 1 ≤ Q:=by omega
     have HE0:=Lib.hid e0
     have HMA:=Lib.hid (show m < AA by omega)
     rename World => w5
     go_wp2_with fail
     clear e0 h3 t0 t0' n0 n1 n2 n3 n4 n5
     have HF6:=Lib.hid (HF4.out.trans0 F)
     go_loopw [9] (fun i wr => ∃ q : Nat,q ≤ Q ∧ i = .int .i64 q ∧ Hid ((x.f.packs.take q).all (paOk AA) = true) ∧ Fr [] w5 wr) (fun i _ => Q - (intOf i).toNat)
     case atStart => exact ⟨0,Nat.zero_le _,rfl,by show ([] : List Int).all _ = true;rfl,Fr.refl _ _⟩
     case round =>
       obtain ⟨q,hq,rfl,hA,F⟩:=hrel
       obtain ⟨n0,n1,n2,n3,n4,n5⟩:=HBX.out _ (HF6.out.trans0 F)
       have HFw3:=Lib.hid (FA.trans0 (HF6.out.trans0 F))
       by_cases hlt : q < Q
       · obtain ⟨y,hy⟩:=some_get x.f.packs q (by rw [HQ.out];exact hlt)
         obtain ⟨b1,o1,rfl,hb1,q1⟩:=HPo.out q (by rw [HQ.out];exact hlt)
         have q2:=(q1 q (by rw [HQ.out];exact hlt)).trans (iv_get _ _ _ hy)
         have d0:=(HFw3.out.cell (p:=⟨b1,o1 + q,none⟩) hb1 (by simp)).trans q2
         have HST:=Lib.hid (show paOk AA y = true → (x.f.packs.take (q + 1)).all (paOk AA) = true from fun h => by rw [List.take_add_one,hy,List.all_append,hA.out];simp [h])
         have HBad:=Lib.hid (show paOk AA y = false → foSub x l = false from fun h => foSub_no (mayFol_pa (by
           rw [HPH.out,show x.f.packs.all (paOk AA) = false from by rw [List.all_eq_false];exact ⟨y,List.mem_of_getElem? hy,by simp [h]⟩]
           simp)))
         have HCK:=Lib.hid (show paOk AA y = (decide (0 ≤ y) && decide (y < AA)) from rfl)
         have HF:=Lib.hid F
         have hltQ : (q : Int) < (Q : Int):=by omega
         clear hy q1 q2 hA F
         by_cases e0 : 0 ≤ y
         rotate_left
         · have HE:=Lib.hid (HBad.out (by rw [HCK.out,decide_eq_false e0];rfl))
           have t0 : decide (y < 0) = true:=decide_eq_true (by omega)
           clear e0
           go_wp2_with fail
           go_ret
           exact ⟨by rw [HE.out];rfl,HFw3.out⟩
         have t0 : decide (y < 0) = false:=decide_eq_false (by omega)
         by_cases e1 : y < AA
         rotate_left
         · have HE:=Lib.hid (HBad.out (by rw [HCK.out,decide_eq_false e1];simp))
           have t1 : decide ((AA : Int) ≤ y) = true:=decide_eq_true (by omega)
           clear e0 e1
           go_wp2_with fail
           go_ret
           exact ⟨by rw [HE.out];rfl,HFw3.out⟩
         have t1 : decide ((AA : Int) ≤ y) = false:=decide_eq_false (by omega)
         have HE:=Lib.hid (HST.out (by rw [HCK.out,decide_eq_true e0,decide_eq_true e1];rfl))
         clear e0 e1
         go_wp2_with fail
         go_roundw
         case rel => exact ⟨q + 1,by omega,by go_num,HE.out,HF.out⟩
         case measure => simp [intOf];omega
       obtain rfl : q = Q:=by omega
       have HPA:=Lib.hid (show paHead x.f = true by
         have:=hA.out
         rw [List.take_of_length_le (by rw [HQ.out];exact Nat.le_refl _)] at this
         rw [HPH.out,decide_eq_true HE0.out,this]
         rfl)
       have HLn:=Lib.hid (mayFol_end HHd.out HCA.out HBA.out HPA.out)
       have HFX:=Lib.hid (HF6.out.trans0 F)
       have HWh2:=Lib.hid (fun wx F => HWh.out wx F (by have:=HD4.out;omega))
       obtain ⟨W0,hW0⟩ : ∃ W0,(wholeOf x.f).toNat = W0:=⟨_,rfl⟩
       have HMS:=Lib.hid (show maySub x l = (!(decide (l = [])) && decide (subsGo W0 l = some 0) && subsEnd x l) by unfold maySub;rw [hW0])
       have hWl : W0 < 18446744073709551616:=hW0 ▸ (wholeOf x.f).toNat_lt
       rw [hW0] at HWh2
       clear hW0 HWh hA
       by_cases e3 : q = 1
       rotate_left
       · have HMF:=Lib.hid (show mayFol x = true by rw [HLn.out];unfold lonely;rw [HQ.out,decide_eq_true (by omega : 1 < q)];rfl)
         have t1 : ((q : Int) == 1) = false:=by rw [beq_eq_false_iff_ne];omega
         clear e3 F
         go_wp2_with fail
         go_quiet (fail)
         rename Nat => nq
         have GG:=HFX.out.drewN nq
         obtain ⟨n0,n1,n2,n3,n4,n5⟩:=HBX.out _ GG
         have HGG:=Lib.hid (FA.trans0 GG)
         clear t1
         go_wp2_with (go_at_call 60;refine (HWh2.out _ HGG.out).mono ?_;rintro e w8 ⟨rfl,F8⟩)
         have HF8:=Lib.hid (GG.trans0 F8)
         clear n0 n1 n2 n3 n4 n5 GG F8
         go_loopw [10,11] (fun v5 v12 wr => ∃ j z : Nat,j ≤ U ∧ z < 18446744073709551616 ∧ v12 = .int .i64 j ∧ v5 = .int .u64 (z : Int) ∧ Hid (subsGo W0 l = subsGo z (l.drop j)) ∧ Fr [] w8 wr) (fun _ i _ => U - (intOf i).toNat)
         case atStart => exact ⟨0,W0,Nat.zero_le _,hWl,rfl,rfl,by show subsGo W0 l = subsGo W0 (l.drop 0);rfl,Fr.refl _ _⟩
         case round =>
           obtain ⟨j,z,hj,hz,rfl,rfl,hs,F⟩:=hrel
           obtain ⟨n0,n1,n2,n3,n4,n5⟩:=HBX.out _ (HF8.out.trans0 F)
           have HFw:=Lib.hid (FA.trans0 (HF8.out.trans0 F))
           by_cases hlt : j < U
           · obtain ⟨s,hsx⟩:=some_get l j (by rw [HU.out];exact hlt)
             obtain ⟨b1,o1,hao,hb1,e0,e1,e2⟩:=(HL.out.fr0 HFw.out).sb hsx hlt
             subst hao
             have hdr : l.drop j = s :: l.drop (j + 1):=by
               have:=List.drop_eq_getElem_cons (show j < l.length by rw [HU.out];exact hlt)
               rwa [(List.getElem?_eq_some_iff.1 hsx).2] at this
             have HD:=Lib.hid (show subsGo W0 l = if z < s.size.toNat ∨ ckOk s.ck = false then none else subsGo (z - s.size.toNat) (l.drop (j + 1)) by rw [hs.out,hdr];rfl)
             have HFa:=Lib.hid (fun wx => rfair_any wx s.ck)
             have HF:=Lib.hid F
             have hltI : (j : Int) < (U : Int):=by omega
             have hzl:=s.size.toNat_lt
             clear hsx hdr hs F
             obtain ⟨sz,ck⟩:=s
             dsimp only at e0 e1 e2 HD HFa hzl
             by_cases hgt : z < sz.toNat
             · have HE:=Lib.hid (foSub_no2 (x:=x) (l:=l) (by rw [HMS.out,HD.out,if_pos (.inl hgt)];simp))
               have u0 : decide ((z : Int) < (sz.toNat : Int)) = true:=decide_eq_true (by omega)
               have u0' : decide (z < sz.toNat) = true:=decide_eq_true hgt
               clear hgt
               go_wp2_with fail
               go_ret
               exact ⟨by rw [HE.out];rfl,HFw.out⟩
             have u0 : decide ((z : Int) < (sz.toNat : Int)) = false:=decide_eq_false (by omega)
             have u0' : decide (z < sz.toNat) = false:=decide_eq_false hgt
             cases hc : ckOk ck with
             | false =>
               have HE:=Lib.hid (foSub_no2 (x:=x) (l:=l) (by rw [HMS.out,HD.out,if_pos (.inr hc)];simp))
               rw [hc] at HFa
               clear hc hgt
               go_wp2_with (go_at_call 29;refine (HFa.out _).mono ?_;rintro e w3 ⟨rfl,F3⟩)
               go_ret
               exact ⟨by rw [HE.out];rfl,HFw.out.trans0 F3⟩
             | true =>
               have HE:=Lib.hid (show subsGo W0 l = subsGo (z - sz.toNat) (l.drop (j + 1)) by rw [HD.out,if_neg];rintro (h | h);exact hgt h;rw [hc] at h;cases h)
               rw [hc] at HFa
               have hw1 : IntKind.u64.wrap ((z : Int) - (sz.toNat : Int)) = ((z - sz.toNat : Nat) : Int):=by simp [IntKind.wrap,IntKind.bits,IntKind.signed];omega
               have hz2 : z - sz.toNat < 18446744073709551616:=by omega
               clear hc hgt HD
               go_wp2_with (go_at_call 29;refine (HFa.out _).mono ?_;rintro e w3 ⟨rfl,F3⟩;obtain ⟨b1',o1',hao',hb1',g0,g1,g2⟩ : ∃ a b,some (⟨b1,o1,none⟩ : Addr) = some ⟨a,b,none⟩ ∧ a < w3.heap.size ∧ w3.cell? ⟨b1,o1 + j * 3,none⟩ = some (.int .u64 sz.toNat) ∧ w3.cell? ⟨b1,o1 + j * 3 + 1,none⟩ = some (.bool ck.has) ∧ w3.cell? ⟨b1,o1 + j * 3 + 2,none⟩ = some (.int .u32 ck.sum.toNat):=⟨b1,o1,rfl,Nat.lt_of_lt_of_le hb1 F3.size,(F3.cell (p:=⟨b1,o1 + j * 3,none⟩) hb1 (by simp)).trans e0,(F3.cell (p:=⟨b1,o1 + j * 3 + 1,none⟩) hb1 (by simp)).trans e1,(F3.cell (p:=⟨b1,o1 + j * 3 + 2,none⟩) hb1 (by simp)).trans e2⟩;clear hao' hb1')
               go_roundw
               case rel => exact ⟨j + 1,z - sz.toNat,by omega,hz2,by go_num,by first | rfl | (congr 1;omega) | (simp <;> omega),HE.out,HF.out.trans0 F3⟩
               case measure => simp [intOf];omega
           obtain rfl : j = U:=by omega
           have HE:=Lib.hid (show foSub x l = (decide (z = 0) && subsEnd x l) by
             unfold foSub
             rw [HMF.out,HMS.out,hs.out,subsGo_nil (by rw [HU.out];exact Nat.le_refl _),decide_eq_false (fun e : l = [] => HU0.out (by rw [← HU.out,e];rfl))]
             simp)
           clear hs
           by_cases e1 : z = 0
           rotate_left
           · have HE2:=Lib.hid (show foSub x l = false by rw [HE.out,decide_eq_false e1];rfl)
             have u1 : ((z : Int) == 0) = false:=by rw [beq_eq_false_iff_ne];omega
             clear e1
             go_wp2_with fail
             go_quiet (fail)
             go_wp2
             go_ret
             exact ⟨by rw [HE2.out];rfl,HFw.out.drewN _⟩
           have u1 : ((z : Int) == 0) = true:=by rw [beq_iff_eq];omega
           have HE2:=Lib.hid (show foSub x l = subsEnd x l by rw [HE.out,decide_eq_true e1];rfl)
           clear e1 HE
           have hj0:=HU0.out
           by_cases e2 : 1 < j
           · have HE3:=Lib.hid (show foSub x l = true by rw [HE2.out];unfold subsEnd;rw [HU.out,decide_eq_true e2];rfl)
             have u2 : decide ((1 : Int) < (j : Int)) = true:=decide_eq_true (by omega)
             have u2' : decide (1 < j) = true:=decide_eq_true (by omega)
             clear e2
             go_wp2_with fail
             go_quiet (fail)
             go_wp2
             go_ret
             exact ⟨by rw [HE3.out];rfl,HFw.out.drewN _⟩
           have u2 : decide ((1 : Int) < (j : Int)) = false:=decide_eq_false (by omega)
           have u2' : decide (1 < j) = false:=decide_eq_false (by omega)
           have hpos : 0 < j:=by omega
           have u3 : decide ((0 : Int) < (j : Int)) = true:=decide_eq_true (by omega)
           obtain ⟨s,hs0⟩:=some_get l 0 (by rw [HU.out];exact hpos)
           obtain ⟨b1,o1,hao,hb1,e0,e1,e3⟩:=(HL.out.fr0 HFw.out).sb hs0 hpos
           subst hao
           obtain ⟨sz,⟨sh,sm⟩⟩:=s
           have HE4:=Lib.hid (show foSub x l = (!x.ck.has || ((sh == x.ck.has) && ((sm.toNat : Int) == (x.ck.sum.toNat : Int)))) by
             rw [HE2.out]
             unfold subsEnd
             rw [HU.out,decide_eq_false e2,hs0]
             obtain ⟨xf,⟨xh,xm⟩⟩:=x
             simp only [Option.map_some,Option.some.injEq,Ck.mk.injEq,Bool.false_or]
             congr 1
             have hmm : (sm.toNat = xm.toNat) ↔ (sm = xm):=UInt32.toNat_inj
             by_cases a : sh = xh
             · by_cases b : sm = xm
               · subst a b;simp
               · have b' : sm.toNat ≠ xm.toNat:=fun h => b (hmm.1 h)
                 have b2 : ((sm.toNat : Int) == (xm.toNat : Int)) = false:=by rw [beq_eq_false_iff_ne];omega
                 rw [b2]
                 simp [b]
             · simp [a])
           dsimp only at e0 e1 e3
           have hq:=run_eql_ck
           clear hs0 e2 HE2
           generalize hxh : x.ck.has = xh at *
           have HXH:=Lib.hid hxh
           clear hxh
           cases xh with
           | false =>
             have HE5:=Lib.hid (show foSub x l = true by rw [HE4.out];rfl)
             go_wp2_with fail
             go_quiet (fail)
             go_wp2
             go_ret
             exact ⟨by rw [HE5.out];rfl,HFw.out.drewN _⟩
           | true =>
             have HE5:=Lib.hid (show foSub x l = ((sh == true) && ((sm.toNat : Int) == (x.ck.sum.toNat : Int))) by rw [HE4.out];rfl)
             go_wp2_with fail
             go_quiet (fail)
             go_wp2
             go_ret
             exact ⟨by rw [HE5.out];first | rfl | (simp;done),HFw.out.drewN _⟩
       obtain ⟨p0,hp0⟩:=some_get x.f.packs 0 (by rw [HQ.out];omega)
       obtain ⟨b1,o1,rfl,hb1,q1⟩:=HPo.out 0 (by rw [HQ.out];omega)
       have q2:=(q1 0 (by rw [HQ.out];omega)).trans (iv_get _ _ _ hp0)
       have c9:=(HFw3.out.cell (p:=⟨b1,o1,none⟩) hb1 (by simp)).trans q2
       have HMQ:=Lib.hid (show mayFol x = (p0 == (loneN x.f : Int)) by
         rw [HLn.out]
         unfold lonely
         rw [HQ.out,hp0,e3]
         by_cases h : p0 = (loneN x.f : Int)
         · simp [h]
         · simp [h])
       have HKB:=Lib.hid (fun wx (F2 : Fr [] wr wx) => (show wx.cell? ⟨b1,o1,none⟩ = some (.int .i64 p0) from (F2.cell (p:=⟨b1,o1,none⟩) (Nat.lt_of_lt_of_le hb1 HFw3.out.size) (by simp)).trans c9))
       have HKX:=Lib.hid (fun wx (F2 : Fr [] wr wx) => HBX.out wx (HF6.out.trans0 (F.trans0 F2)))
       have t1 : ((q : Int) == 1) = true:=by rw [beq_iff_eq];omega
       have t30 : (0 : Int) < (q : Int):=by omega
       have t31 : 0 < q:=by omega
       have t32 : decide ((0 : Int) < (q : Int)) = true:=decide_eq_true t30
       have HL2:=Lib.hid (fun wx (F : Fr [] wr wx) => HLo.out wx (HFw3.out.trans0 F) HMA.out)
       clear e3 q1 q2 hp0 F
       generalize loneN x.f = ln at *
       by_cases e4 : p0 = (ln : Int)
       rotate_left
       · have HE:=Lib.hid (foSub_no (l:=l) (show mayFol x = false by rw [HMQ.out,beq_eq_false_iff_ne];exact e4))
         have t5 : (p0 == (ln : Int)) = false:=by rw [beq_eq_false_iff_ne];exact e4
         have t5' : (p0 != (ln : Int)) = true:=by unfold bne;rw [t5];rfl
         clear e4
         go_wp2_with fail
         have G0:=Fr.refl [] wr
         go_region_held3 (fun wx => wx.cell? ⟨w.heap.size,0,none⟩ = some (.slice cao k ccap) ∧ wx.cell? ⟨w.heap.size,1,none⟩ = some (.slice bao m bcap) ∧ wx.cell? ⟨w.heap.size,2,none⟩ = some (.slice (some ⟨b1,o1,none⟩) q pcap) ∧ wx.cell? ⟨w.heap.size,3,none⟩ = some (.slice sao Z scap) ∧ wx.cell? ⟨w.heap.size,4,none⟩ = some (.bool x.ck.has) ∧ wx.cell? ⟨w.heap.size,5,none⟩ = some (.int .u32 x.ck.sum.toNat) ∧ wx.cell? ⟨b1,o1,none⟩ = some (.int .i64 p0))
           (first
             | (have hq:=G1;obtain ⟨g0,g1,g2,g3,g4,g5⟩:=HKX.out _ G1;exact ⟨g0,g1,g2,g3,g4,g5,HKB.out _ G1⟩)
             | (obtain ⟨g0,g1,g2,g3,g4,g5⟩:=HKX.out _ G0;exact ⟨g0,g1,g2,g3,g4,g5,HKB.out _ G0⟩)
             | (obtain ⟨g0,g1,g2,g3,g4,g5⟩:=HKX.out _ G0.drew;exact ⟨g0,g1,g2,g3,g4,g5,HKB.out _ G0.drew⟩)
             | go_keep)
           (first | (go_at_call 59;refine (HL2.out _ G0.drew).mono ?_;rintro e w1 ⟨rfl,F1⟩;have G1:=G0.drew.trans0 F1))
         all_goals
           go_wp2_with fail
           go_ret
           exact ⟨by rw [HE.out];rfl,HFw3.out.trans0 G1⟩
       have HMF:=Lib.hid (show mayFol x = true by rw [HMQ.out,beq_iff_eq];exact e4)
       have t5 : (p0 == (ln : Int)) = true:=by rw [beq_iff_eq];exact e4
       have t5' : (p0 != (ln : Int)) = false:=by unfold bne;rw [t5];rfl
       clear e4
       go_wp2_with fail
       have G0:=Fr.refl [] wr
       go_region_held3 (fun wx => wx.cell? ⟨w.heap.size,0,none⟩ = some (.slice cao k ccap) ∧ wx.cell? ⟨w.heap.size,1,none⟩ = some (.slice bao m bcap) ∧ wx.cell? ⟨w.heap.size,2,none⟩ = some (.slice (some ⟨b1,o1,none⟩) q pcap) ∧ wx.cell? ⟨w.heap.size,3,none⟩ = some (.slice sao Z scap) ∧ wx.cell? ⟨w.heap.size,4,none⟩ = some (.bool x.ck.has) ∧ wx.cell? ⟨w.heap.size,5,none⟩ = some (.int .u32 x.ck.sum.toNat) ∧ wx.cell? ⟨b1,o1,none⟩ = some (.int .i64 p0))
         (first
           | (have hq:=G1;obtain ⟨g0,g1,g2,g3,g4,g5⟩:=HKX.out _ G1;exact ⟨g0,g1,g2,g3,g4,g5,HKB.out _ G1⟩)
           | (obtain ⟨g0,g1,g2,g3,g4,g5⟩:=HKX.out _ G0;exact ⟨g0,g1,g2,g3,g4,g5,HKB.out _ G0⟩)
           | (obtain ⟨g0,g1,g2,g3,g4,g5⟩:=HKX.out _ G0.drew;exact ⟨g0,g1,g2,g3,g4,g5,HKB.out _ G0.drew⟩)
           | go_keep)
         (first | (go_at_call 59;refine (HL2.out _ G0.drew).mono ?_;rintro e w1 ⟨rfl,F1⟩;have G1:=G0.drew.trans0 F1))
       all_goals
         have GG:=HFX.out.trans0 G1
         clear t5 t5' t30 t31 t32
         obtain ⟨n0,n1,n2,n3,n4,n5⟩:=HBX.out _ GG
         have HGG:=Lib.hid (FA.trans0 GG)
         clear t1
         go_wp2_with (go_at_call 60;refine (HWh2.out _ HGG.out).mono ?_;rintro e w8 ⟨rfl,F8⟩)
         have HF8:=Lib.hid (GG.trans0 F8)
         clear n0 n1 n2 n3 n4 n5 GG F8
         go_loopw [10,11] (fun v5 v12 wr => ∃ j z : Nat,j ≤ U ∧ z < 18446744073709551616 ∧ v12 = .int .i64 j ∧ v5 = .int .u64 (z : Int) ∧ Hid (subsGo W0 l = subsGo z (l.drop j)) ∧ Fr [] w8 wr) (fun _ i _ => U - (intOf i).toNat)
         case atStart => exact ⟨0,W0,Nat.zero_le _,hWl,rfl,rfl,by show subsGo W0 l = subsGo W0 (l.drop 0);rfl,Fr.refl _ _⟩
         case round =>
           obtain ⟨j,z,hj,hz,rfl,rfl,hs,F⟩:=hrel
           obtain ⟨n0,n1,n2,n3,n4,n5⟩:=HBX.out _ (HF8.out.trans0 F)
           have HFw:=Lib.hid (FA.trans0 (HF8.out.trans0 F))
           by_cases hlt : j < U
           · obtain ⟨s,hsx⟩:=some_get l j (by rw [HU.out];exact hlt)
             obtain ⟨b1,o1,hao,hb1,e0,e1,e2⟩:=(HL.out.fr0 HFw.out).sb hsx hlt
             subst hao
             have hdr : l.drop j = s :: l.drop (j + 1):=by
               have:=List.drop_eq_getElem_cons (show j < l.length by rw [HU.out];exact hlt)
               rwa [(List.getElem?_eq_some_iff.1 hsx).2] at this
             have HD:=Lib.hid (show subsGo W0 l = if z < s.size.toNat ∨ ckOk s.ck = false then none else subsGo (z - s.size.toNat) (l.drop (j + 1)) by rw [hs.out,hdr];rfl)
             have HFa:=Lib.hid (fun wx => rfair_any wx s.ck)
             have HF:=Lib.hid F
             have hltI : (j : Int) < (U : Int):=by omega
             have hzl:=s.size.toNat_lt
             clear hsx hdr hs F
             obtain ⟨sz,ck⟩:=s
             dsimp only at e0 e1 e2 HD HFa hzl
             by_cases hgt : z < sz.toNat
             · have HE:=Lib.hid (foSub_no2 (x:=x) (l:=l) (by rw [HMS.out,HD.out,if_pos (.inl hgt)];simp))
               have u0 : decide ((z : Int) < (sz.toNat : Int)) = true:=decide_eq_true (by omega)
               have u0' : decide (z < sz.toNat) = true:=decide_eq_true hgt
               clear hgt
               go_wp2_with fail
               go_ret
               exact ⟨by rw [HE.out];rfl,HFw.out⟩
             have u0 : decide ((z : Int) < (sz.toNat : Int)) = false:=decide_eq_false (by omega)
             have u0' : decide (z < sz.toNat) = false:=decide_eq_false hgt
             cases hc : ckOk ck with
             | false =>
               have HE:=Lib.hid (foSub_no2 (x:=x) (l:=l) (by rw [HMS.out,HD.out,if_pos (.inr hc)];simp))
               rw [hc] at HFa
               clear hc hgt
               go_wp2_with (go_at_call 29;refine (HFa.out _).mono ?_;rintro e w3 ⟨rfl,F3⟩)
               go_ret
               exact ⟨by rw [HE.out];rfl,HFw.out.trans0 F3⟩
             | true =>
               have HE:=Lib.hid (show subsGo W0 l = subsGo (z - sz.toNat) (l.drop (j + 1)) by rw [HD.out,if_neg];rintro (h | h);exact hgt h;rw [hc] at h;cases h)
               rw [hc] at HFa
               have hw1 : IntKind.u64.wrap ((z : Int) - (sz.toNat : Int)) = ((z - sz.toNat : Nat) : Int):=by simp [IntKind.wrap,IntKind.bits,IntKind.signed];omega
               have hz2 : z - sz.toNat < 18446744073709551616:=by omega
               clear hc hgt HD
               go_wp2_with (go_at_call 29;refine (HFa.out _).mono ?_;rintro e w3 ⟨rfl,F3⟩;obtain ⟨b1',o1',hao',hb1',g0,g1,g2⟩ : ∃ a b,some (⟨b1,o1,none⟩ : Addr) = some ⟨a,b,none⟩ ∧ a < w3.heap.size ∧ w3.cell? ⟨b1,o1 + j * 3,none⟩ = some (.int .u64 sz.toNat) ∧ w3.cell? ⟨b1,o1 + j * 3 + 1,none⟩ = some (.bool ck.has) ∧ w3.cell? ⟨b1,o1 + j * 3 + 2,none⟩ = some (.int .u32 ck.sum.toNat):=⟨b1,o1,rfl,Nat.lt_of_lt_of_le hb1 F3.size,(F3.cell (p:=⟨b1,o1 + j * 3,none⟩) hb1 (by simp)).trans e0,(F3.cell (p:=⟨b1,o1 + j * 3 + 1,none⟩) hb1 (by simp)).trans e1,(F3.cell (p:=⟨b1,o1 + j * 3 + 2,none⟩) hb1 (by simp)).trans e2⟩;clear hao' hb1')
               go_roundw
               case rel => exact ⟨j + 1,z - sz.toNat,by omega,hz2,by go_num,by first | rfl | (congr 1;omega) | (simp <;> omega),HE.out,HF.out.trans0 F3⟩
               case measure => simp [intOf];omega
           obtain rfl : j = U:=by omega
           have HE:=Lib.hid (show foSub x l = (decide (z = 0) && subsEnd x l) by
             unfold foSub
             rw [HMF.out,HMS.out,hs.out,subsGo_nil (by rw [HU.out];exact Nat.le_refl _),decide_eq_false (fun e : l = [] => HU0.out (by rw [← HU.out,e];rfl))]
             simp)
           clear hs
           by_cases e1 : z = 0
           rotate_left
           · have HE2:=Lib.hid (show foSub x l = false by rw [HE.out,decide_eq_false e1];rfl)
             have u1 : ((z : Int) == 0) = false:=by rw [beq_eq_false_iff_ne];omega
             clear e1
             go_wp2_with fail
             go_quiet (fail)
             go_wp2
             go_ret
             exact ⟨by rw [HE2.out];rfl,HFw.out.drewN _⟩
           have u1 : ((z : Int) == 0) = true:=by rw [beq_iff_eq];omega
           have HE2:=Lib.hid (show foSub x l = subsEnd x l by rw [HE.out,decide_eq_true e1];rfl)
           clear e1 HE
           have hj0:=HU0.out
           by_cases e2 : 1 < j
           · have HE3:=Lib.hid (show foSub x l = true by rw [HE2.out];unfold subsEnd;rw [HU.out,decide_eq_true e2];rfl)
             have u2 : decide ((1 : Int) < (j : Int)) = true:=decide_eq_true (by omega)
             have u2' : decide (1 < j) = true:=decide_eq_true (by omega)
             clear e2
             go_wp2_with fail
             go_quiet (fail)
             go_wp2
             go_ret
             exact ⟨by rw [HE3.out];rfl,HFw.out.drewN _⟩
           have u2 : decide ((1 : Int) < (j : Int)) = false:=decide_eq_false (by omega)
           have u2' : decide (1 < j) = false:=decide_eq_false (by omega)
           have hpos : 0 < j:=by omega
           have u3 : decide ((0 : Int) < (j : Int)) = true:=decide_eq_true (by omega)
           obtain ⟨s,hs0⟩:=some_get l 0 (by rw [HU.out];exact hpos)
           obtain ⟨b1,o1,hao,hb1,e0,e1,e3⟩:=(HL.out.fr0 HFw.out).sb hs0 hpos
           subst hao
           obtain ⟨sz,⟨sh,sm⟩⟩:=s
           have HE4:=Lib.hid (show foSub x l = (!x.ck.has || ((sh == x.ck.has) && ((sm.toNat : Int) == (x.ck.sum.toNat : Int)))) by
             rw [HE2.out]
             unfold subsEnd
             rw [HU.out,decide_eq_false e2,hs0]
             obtain ⟨xf,⟨xh,xm⟩⟩:=x
             simp only [Option.map_some,Option.some.injEq,Ck.mk.injEq,Bool.false_or]
             congr 1
             have hmm : (sm.toNat = xm.toNat) ↔ (sm = xm):=UInt32.toNat_inj
             by_cases a : sh = xh
             · by_cases b : sm = xm
               · subst a b;simp
               · have b' : sm.toNat ≠ xm.toNat:=fun h => b (hmm.1 h)
                 have b2 : ((sm.toNat : Int) == (xm.toNat : Int)) = false:=by rw [beq_eq_false_iff_ne];omega
                 rw [b2]
                 simp [b]
             · simp [a])
           dsimp only at e0 e1 e3
           have hq:=run_eql_ck
           clear hs0 e2 HE2
           generalize hxh : x.ck.has = xh at *
           have HXH:=Lib.hid hxh
           clear hxh
           cases xh with
           | false =>
             have HE5:=Lib.hid (show foSub x l = true by rw [HE4.out];rfl)
             go_wp2_with fail
             go_quiet (fail)
             go_wp2
             go_ret
             exact ⟨by rw [HE5.out];rfl,HFw.out.drewN _⟩
           | true =>
             have HE5:=Lib.hid (show foSub x l = ((sh == true) && ((sm.toNat : Int) == (x.ck.sum.toNat : Int))) by rw [HE4.out];rfl)
             go_wp2_with fail
             go_quiet (fail)
             go_wp2
             go_ret
             exact ⟨by rw [HE5.out];first | rfl | (simp;done),HFw.out.drewN _⟩
end Go.Proofs.YtkodindajfdagaaGreatDoor
/- Contract: the reference's May. No condition but that lengths fit. -/
namespace Go.Proofs.YtkodindajfdagaaGreatDoor
open Go.RowKit
theorem mayAll_no {pk : Bool} {D : StD} {F : List Fil} (h : mayStr D = false) : mayAll pk D F = false:=by unfold mayAll mayR;rw [h];simp
theorem mayAll_pk {D : StD} {F : List Fil} (h : mayStr D = true) : mayAll true D F = (decide (D.L.length = 1) && decide (manyOf D.S = 1) && decide (F.length = 0)):=by unfold mayAll mayR;rw [h];simp
theorem mayAll_fi {D : StD} {F : List Fil} (h : mayStr D = true) : mayAll false D F = (F.all mayFil && decide (manyOf D.S = streamN F)):=by unfold mayAll mayR;rw [h];simp
theorem mayFil_eq (nm : List UInt8) (st dir ha : Bool) (attr : UInt32) (ht : Bool) (tm : UInt64) (rs : List Nat) (h : runesL nm = some rs) :
   mayFil ⟨nm,st,dir,ha,attr,ht,tm⟩ = (tests st dir ha (attr == 0) ht (tm == 0) && decide (0 ∉ unitsR rs)):=by
 have hz:=zero_text _ nm rs (Nat.le_refl _) h
 have e : decide (0 ∉ unitsR rs) = !(decide ((0 : UInt8) ∈ nm)):=by
   rw [← decide_not]
   exact decide_eq_decide.2 (not_congr hz.symm)
 rw [e]
 unfold mayFil tests
 dsimp only
 rw [h]
 generalize decide ((0 : UInt8) ∈ nm) = z
 generalize (ha || attr == 0) = y1
 generalize (ht || tm == 0) = y2
 generalize (st && dir) = y3
 cases z <;> cases y1 <;> cases y2 <;> cases y3 <;> rfl
set_option maxRecDepth 100000 in
set_option maxHeartbeats 8000000 in
theorem rmay_any (w : World) (hi : Nat) (d : DW) (pk : Bool) (D : StD) (F : List Fil) (hp : d.pk = .bool pk) (hR : StR w d D) (hfit : StFit D) (hF : RowAt w hi 7 d.es F.length (fiV F)) (hn : F.length ≤ 1000000) (hS : D.S.length ≤ 10000)
   (hv : ∀ x ∈ F,x.name.length ≤ 100000) :
   Calls Tryz.prog 13 #[.agg #[d.pk,d.pl,d.ps,d.cs,d.fo,d.su,d.es]] w fun e w' => e = .returned (.bool (mayAll pk D F)) ∧ Fr [] w w':=by
 obtain ⟨dpk,pl,ps,cs,fo,su,es⟩:=d
 obtain ⟨r1,r2,r3,r4,r5⟩:=hR
 dsimp only at hp r1 r2 r3 r4 r5 hF ⊢
 subst r1 hp
 obtain ⟨pao,pcap,rfl,-,-,-⟩:=r2.out
 obtain ⟨cao,ccap,rfl,-,-,-⟩:=r3.out
 obtain ⟨fao,fcap,rfl,-,-,fel⟩:=r4.out
 obtain ⟨sao,scap,rfl,-,-,sel⟩:=r5.out
 obtain ⟨eao,ecap,rfl,-,-,-⟩:=hF.out
 have HP:=Lib.hid r2
 have HC:=Lib.hid r3
 have HFi:=Lib.hid hF
 have HFe:=Lib.hid fel
 have HSe:=Lib.hid sel
 have HFit:=Lib.hid hfit
 have HV:=Lib.hid hv
 have hmany:=manyOf_le2 hfit.su hS
 have hM : mayStr D = (decide (D.pl.toNat ≤ 1099511627776) && sizesUp 0 D.ps && decide (D.cs.length = D.ps.length) && decide (D.S.length = D.L.length) && D.cs.all ckOk && mayRows D.L D.S):=rfl
 have HM:=Lib.hid hM
 have b1:=hfit.n1
 have b2:=hfit.n2
 have b3:=hfit.n3
 have b4:=hfit.n4
 clear r2 r3 r4 r5 fel sel hfit hM hF hv hS
 obtain ⟨NP,hNP⟩ : ∃ n,D.ps.length = n:=⟨_,rfl⟩
 obtain ⟨NC,hNC⟩ : ∃ n,D.cs.length = n:=⟨_,rfl⟩
 obtain ⟨NS,hNS⟩ : ∃ n,D.S.length = n:=⟨_,rfl⟩
 obtain ⟨NL,hNL⟩ : ∃ n,D.L.length = n:=⟨_,rfl⟩
 obtain ⟨NF,hNF⟩ : ∃ n,F.length = n:=⟨_,rfl⟩
 have HNP:=Lib.hid hNP
 have HNC:=Lib.hid hNC
 have HNS:=Lib.hid hNS
 have HNL:=Lib.hid hNL
 have HNF:=Lib.hid hNF
 rw [hNP] at b1 HP HM ⊢
 rw [hNC] at b2 HC HM ⊢
 rw [hNS] at b3 HM ⊢
 rw [hNL] at b4 HM ⊢
 rw [hNF] at hn HFi ⊢
 clear hNP hNC hNS hNL hNF
 obtain ⟨wA,hwA⟩ : ∃ wA,wA = w.alloc (.cells #[.bool pk,.int .u64 D.pl.toNat,.slice pao NP pcap,.slice cao NC ccap,.slice fao NL fcap,.slice sao NS scap,.slice eao NF ecap] 38):=⟨_,rfl⟩
 have FA : Fr [] w wA:=hwA ▸ (Fr.refl _ _).alloc _
 have HBX:=Lib.hid (fun wx (F2 : Fr [] wA wx) => wbox7 (hwA ▸ F2 : Fr [] (w.alloc (.cells #[.bool pk,.int .u64 D.pl.toNat,.slice pao NP pcap,.slice cao NC ccap,.slice fao NL fcap,.slice sao NS scap,.slice eao NF ecap] 38)) wx) (by simp))
 obtain ⟨k0,k1,k2,k3,k4,k5,k6⟩:=HBX.out wA (Fr.refl _ _)
 have hnot : ∀ (x : Bool) (w : World),(Op.unary .not (.bool x)).run Tryz.prog w = .ok (.bool (!x)) w:=fun _ _ => rfl
 by_cases h1 : D.pl.toNat ≤ 1099511627776
 rotate_left
 · have HE:=Lib.hid (mayAll_no (pk:=pk) (F:=F) (D:=D) (by rw [HM.out,decide_eq_false h1];rfl))
   have t1 : decide ((1099511627776 : Int) < (D.pl.toNat : Int)) = true:=decide_eq_true (by omega)
   clear h1
   go_enter Tryz.func13,Tryz.ntmps13
   go_wp2_with fail
   go_ret
   exact ⟨by rw [HE.out];rfl,(Fr.refl _ _).alloc _⟩
 have t1 : decide ((1099511627776 : Int) < (D.pl.toNat : Int)) = false:=decide_eq_false (by omega)
 have HD1:=Lib.hid (decide_eq_true h1)
 clear h1
 by_cases h2 : NC = NP
 rotate_left
 · have HE:=Lib.hid (mayAll_no (pk:=pk) (F:=F) (D:=D) (by rw [HM.out,decide_eq_false h2];simp))
   have t2 : ((NC : Int) == (NP : Int)) = false:=by rw [beq_eq_false_iff_ne];omega
   have t2' : ((NC : Int) != (NP : Int)) = true:=by unfold bne;rw [t2];rfl
   clear h2
   go_enter Tryz.func13,Tryz.ntmps13
   go_wp2_with fail
   go_ret
   exact ⟨by rw [HE.out];rfl,(Fr.refl _ _).alloc _⟩
 have t2 : ((NC : Int) == (NP : Int)) = true:=by rw [beq_iff_eq];omega
 have t2' : ((NC : Int) != (NP : Int)) = false:=by unfold bne;rw [t2];rfl
 have HD2:=Lib.hid h2
 clear h2
 by_cases h3 : NS = NL
 rotate_left
 · have HE:=Lib.hid (mayAll_no (pk:=pk) (F:=F) (D:=D) (by rw [HM.out,decide_eq_false h3];simp))
   have t3 : ((NS : Int) == (NL : Int)) = false:=by rw [beq_eq_false_iff_ne];omega
   have t3' : ((NS : Int) != (NL : Int)) = true:=by unfold bne;rw [t3];rfl
   clear h3
   go_enter Tryz.func13,Tryz.ntmps13
   go_wp2_with fail
   go_ret
   exact ⟨by rw [HE.out];rfl,(Fr.refl _ _).alloc _⟩
 have t3 : ((NS : Int) == (NL : Int)) = true:=by rw [beq_iff_eq];omega
 have t3' : ((NS : Int) != (NL : Int)) = false:=by unfold bne;rw [t3];rfl
 have HD3:=Lib.hid h3
 clear h3
 go_enter Tryz.func13,Tryz.ntmps13
 go_wp2_with fail
 rw [← hwA]
 clear hwA t1 t2 t2' t3 t3' k0 k1 k2 k3 k4 k5 k6
 go_loopw [3,4] (fun v3 i wr => ∃ k a : Nat,k ≤ NP ∧ a ≤ 1099511627776 ∧ i = .int .i64 k ∧ v3 = .int .u64 ((1099511627776 - a : Nat) : Int) ∧ Hid (sizesUp 0 D.ps = sizesUp a (D.ps.drop k)) ∧ Hid ((D.cs.take k).all ckOk = true) ∧ Fr [] wA wr) (fun _ i _ => NP - (intOf i).toNat)
 case atStart => exact ⟨0,0,Nat.zero_le _,by omega,rfl,rfl,by show sizesUp 0 D.ps = sizesUp 0 (D.ps.drop 0);rfl,by show ([] : List Ck).all ckOk = true;rfl,Fr.refl _ _⟩
 case round =>
   obtain ⟨k,a,hk,ha,rfl,rfl,hs,hA,F1⟩:=hrel
   obtain ⟨n0,n1,n2,n3,n4,n5,n6⟩:=HBX.out _ F1
   have HFw:=Lib.hid (FA.trans0 F1)
   by_cases hlt : k < NP
   · obtain ⟨x,hx⟩:=some_get D.ps k (by rw [HNP.out];exact hlt)
     obtain ⟨c,hc⟩:=some_get D.cs k (by rw [HNC.out,HD2.out];exact hlt)
     obtain ⟨b1,o1,hao,hb1,e0⟩:=(HP.out.fr0 HFw.out).word hx hlt
     subst hao
     obtain ⟨b2,o2,hao,hb2,g0,g1⟩:=(HC.out.fr0 HFw.out).ck hc (by have:=HD2.out;omega)
     subst hao
     have hdr : D.ps.drop k = x :: D.ps.drop (k + 1):=by
       have:=List.drop_eq_getElem_cons (show k < D.ps.length by rw [HNP.out];exact hlt)
       rwa [(List.getElem?_eq_some_iff.1 hx).2] at this
     have HD:=Lib.hid (show sizesUp 0 D.ps = if 1099511627776 < a + x.toNat then false else sizesUp (a + x.toNat) (D.ps.drop (k + 1)) by rw [hs.out,hdr];rfl)
     have HX:=Lib.hid (show ckOk c = true → (D.cs.take (k + 1)).all ckOk = true from fun h => by rw [List.take_add_one,hc,List.all_append,hA.out];simp [h])
     have HBad:=Lib.hid (show ckOk c = false → mayStr D = false from fun h => by
       have : D.cs.all ckOk = false:=by rw [List.all_eq_false];exact ⟨c,List.mem_of_getElem? hc,by simp [h]⟩
       rw [HM.out,this]
       simp)
     have HFa:=Lib.hid (fun wx => rfair_any wx c)
     have hltI : (k : Int) < (NP : Int):=by omega
     have hltC : (k : Int) < (NC : Int):=by have:=HD2.out;omega
     have hxl:=x.toNat_lt
     have HF1:=Lib.hid F1
     clear hx hc hdr hs hA F1
     by_cases hgt : 1099511627776 < a + x.toNat
     · have HE:=Lib.hid (mayAll_no (pk:=pk) (F:=F) (D:=D) (by rw [HM.out,HD.out,if_pos hgt];simp))
       have t0 : decide (((1099511627776 - a : Nat) : Int) < (x.toNat : Int)) = true:=decide_eq_true (by omega)
       have t0' : decide (1099511627776 - a < x.toNat) = true:=decide_eq_true (by omega)
       clear hgt
       generalize 1099511627776 - a = lf at *
       go_wp2_with fail
       go_ret
       exact ⟨by rw [HE.out];rfl,HFw.out⟩
     have HSz:=Lib.hid (show sizesUp 0 D.ps = sizesUp (a + x.toNat) (D.ps.drop (k + 1)) by rw [HD.out,if_neg hgt])
     have ha2 : a + x.toNat ≤ 1099511627776:=by omega
     obtain ⟨lf,hlf⟩ : ∃ lf,1099511627776 - a = lf:=⟨_,rfl⟩
     have hlf2 : 1099511627776 - (a + x.toNat) = lf - x.toNat:=by omega
     have HLF:=Lib.hid hlf2
     rw [hlf]
     have t0 : decide ((lf : Int) < (x.toNat : Int)) = false:=decide_eq_false (by omega)
     have t0' : decide (lf < x.toNat) = false:=decide_eq_false (by omega)
     have hwr : IntKind.u64.wrap ((lf : Int) - (x.toNat : Int)) = ((lf - x.toNat : Nat) : Int):=by simp [IntKind.wrap,IntKind.bits,IntKind.signed];omega
     have hle : x.toNat ≤ lf:=by omega
     clear hgt hlf hlf2 HD
     cases hco : ckOk c with
     | false =>
       have HE:=Lib.hid (mayAll_no (pk:=pk) (F:=F) (HBad.out hco))
       rw [hco] at HFa
       clear hco
       go_wp2_with (go_at_call 29;refine (HFa.out _).mono ?_;rintro e w3 ⟨rfl,F3⟩)
       go_ret
       exact ⟨by rw [HE.out];rfl,HFw.out.trans0 F3⟩
     | true =>
       have HE:=Lib.hid (HX.out hco)
       rw [hco] at HFa
       clear hco
       go_wp2_with (go_at_call 29;refine (HFa.out _).mono ?_;rintro e w3 ⟨rfl,F3⟩;obtain ⟨n0,n1,n2,n3,n4,n5,n6⟩:=HBX.out _ (HF1.out.trans0 F3);have e0:=(F3.cell (p:=⟨b1,o1 + k,none⟩) hb1 (by simp)).trans e0)
       go_roundw
       case rel => exact ⟨k + 1,a + x.toNat,by omega,ha2,by go_num,by rw [HLF.out],HSz.out,HE.out,HF1.out.trans0 F3⟩
       case measure => simp [intOf];omega
   obtain rfl : k = NP:=by omega
   have HCA:=Lib.hid (show D.cs.all ckOk = true by
     have:=hA.out
     rw [List.take_of_length_le (by rw [HNC.out,HD2.out];exact Nat.le_refl _)] at this
     exact this)
   have HZ:=Lib.hid (show sizesUp 0 D.ps = true by
     rw [hs.out,List.drop_of_length_le (by rw [HNP.out];exact Nat.le_refl _)]
     rfl)
   have HME:=Lib.hid (show mayStr D = mayRows D.L D.S by
     rw [HM.out,HD1.out,HZ.out,HCA.out,decide_eq_true HD2.out,decide_eq_true HD3.out]
     simp)
   clear hs hA
   rename World => wK
   go_wp2_with fail
   clear n0 n1 n2 n3 n4 n5 n6
   have HF1:=Lib.hid F1
   go_loopw [5,6] (fun v5 i wr => ∃ m : Nat,m ≤ NL ∧ i = .int .i64 m ∧ v5 = .int .i64 (manyOf (D.S.take m) : Nat) ∧ Hid (((D.L.zip D.S).take m).all (fun p => mayFol p.1 && maySub p.1 p.2) = true) ∧ Fr [] wK wr) (fun _ i _ => NL - (intOf i).toNat)
   case atStart => exact ⟨0,Nat.zero_le _,rfl,rfl,by show ([] : List (Fol × List Sub)).all _ = true;rfl,Fr.refl _ _⟩
   case round =>
     obtain ⟨m,hm,rfl,rfl,hA,F2⟩:=hrel
     have hsum:=manyOf_le (S:=D.S.take m) (fun l hl => HFit.out.su l (List.mem_of_mem_take hl))
     rw [List.length_take] at hsum
     obtain ⟨n0,n1,n2,n3,n4,n5,n6⟩:=HBX.out _ (HF1.out.trans0 F2)
     have HFw2:=Lib.hid (FA.trans0 (HF1.out.trans0 F2))
     by_cases hlt : m < NL
     · obtain ⟨x,hx⟩:=some_get D.L m (by rw [HNL.out];exact hlt)
       obtain ⟨l,hl⟩:=some_get D.S m (by rw [HNS.out,HD3.out];exact hlt)
       obtain ⟨q1,o1,c,b',q,s,rfl,hq1,e0,e1,e2,e3,e4,e5,hfv⟩:=HFe.out m x hx
       obtain ⟨q2,o2,lv,rfl,hq2,u0,hrow⟩:=HSe.out m l hl
       obtain ⟨lao,lcap,rfl,-,-,-⟩:=hrow.out
       have hfit:=HFit.out.fo x (List.mem_of_getElem? hx)
       have hlen:=HFit.out.su l (List.mem_of_getElem? hl)
       have HX:=Lib.hid (fun h3 h4 => mayRows_take hx hl hA.out h3 h4)
       have HBad:=Lib.hid (show (mayFol x && maySub x l) = false → mayStr D = false from fun h => by rw [HME.out];exact mayRows_bad hx hl h)
       have HT:=Lib.hid (manyOf_take hl)
       obtain ⟨ca1,cc1,rfl,-,-,-⟩:=hfv.co.out
       obtain ⟨ba1,bc1,rfl,-,-,-⟩:=hfv.bi.out
       have hpo:=hfv.pa.out
       rw [iv_length] at hpo
       obtain ⟨pa1,pc1,rfl,-,-,-⟩:=hpo
       have hso:=hfv.si.out
       rw [u64v_length] at hso
       obtain ⟨sa1,sc1,rfl,-,-,-⟩:=hso
       have HFo:=Lib.hid (fun wx (Fx : Fr [] w wx) => rfolder_any wx _ _ _ _ _ x l w.heap.size (hfv.fr Fx) hfit.1 hfit.2.1 hfit.2.2.1 (hrow.fr0 Fx) (by omega))
       have HC6:=Lib.hid (fun wx (Fx : Fr [] w wx) => (show wx.cell? ⟨q1,o1 + m * 6,none⟩ = some (.slice ca1 x.f.coders.length cc1) ∧ wx.cell? ⟨q1,o1 + m * 6 + 1,none⟩ = some (.slice ba1 x.f.binds.length bc1) ∧ wx.cell? ⟨q1,o1 + m * 6 + 2,none⟩ = some (.slice pa1 x.f.packs.length pc1) ∧ wx.cell? ⟨q1,o1 + m * 6 + 3,none⟩ = some (.slice sa1 x.f.sizes.length sc1) ∧ wx.cell? ⟨q1,o1 + m * 6 + 4,none⟩ = some (.bool x.ck.has) ∧ wx.cell? ⟨q1,o1 + m * 6 + 5,none⟩ = some (.int .u32 x.ck.sum.toNat) ∧ wx.cell? ⟨q2,o2 + m,none⟩ = some (.slice lao l.length lcap) from
         ⟨(Fx.cell (p:=⟨q1,_,none⟩) hq1 (by simp)).trans e0,(Fx.cell (p:=⟨q1,_,none⟩) hq1 (by simp)).trans e1,(Fx.cell (p:=⟨q1,_,none⟩) hq1 (by simp)).trans e2,(Fx.cell (p:=⟨q1,_,none⟩) hq1 (by simp)).trans e3,(Fx.cell (p:=⟨q1,_,none⟩) hq1 (by simp)).trans e4,(Fx.cell (p:=⟨q1,_,none⟩) hq1 (by simp)).trans e5,(Fx.cell (p:=⟨q2,_,none⟩) hq2 (by simp)).trans u0⟩))
       have HBK:=Lib.hid (fun wx (Fx : Fr [] wr wx) => HBX.out wx (HF1.out.trans0 (F2.trans0 Fx)))
       have HF2:=Lib.hid F2
       clear hx hl hA hfv hrow e0 e1 e2 e3 e4 e5 u0 F2
       have hltI : (m : Int) < (NL : Int):=by omega
       have hltS : (m : Int) < (NS : Int):=by have:=HD3.out;omega
       generalize hfs : foSub x l = fs at *
       obtain ⟨xf,⟨xh,xm⟩⟩:=x
       dsimp only at HFo HC6
       have G0:=Fr.refl [] wr
       go_wp2_with fail
       go_region_held3 (fun wx => wx.cell? ⟨w.heap.size,4,none⟩ = some (.slice (some ⟨q1,o1,none⟩) NL fcap) ∧ wx.cell? ⟨w.heap.size,5,none⟩ = some (.slice (some ⟨q2,o2,none⟩) NS scap) ∧ wx.cell? ⟨q1,o1 + m * 6,none⟩ = some (.slice ca1 xf.coders.length cc1) ∧ wx.cell? ⟨q1,o1 + m * 6 + 1,none⟩ = some (.slice ba1 xf.binds.length bc1) ∧ wx.cell? ⟨q1,o1 + m * 6 + 2,none⟩ = some (.slice pa1 xf.packs.length pc1) ∧ wx.cell? ⟨q1,o1 + m * 6 + 3,none⟩ = some (.slice sa1 xf.sizes.length sc1) ∧ wx.cell? ⟨q1,o1 + m * 6 + 4,none⟩ = some (.bool xh) ∧ wx.cell? ⟨q1,o1 + m * 6 + 5,none⟩ = some (.int .u32 xm.toNat) ∧ wx.cell? ⟨q2,o2 + m,none⟩ = some (.slice lao l.length lcap))
         (first
           | (have hq:=G1;obtain ⟨n0,n1,n2,n3,n4,n5,n6⟩:=HBK.out _ G1;exact ⟨n4,n5,HC6.out _ (HFw2.out.trans0 G1)⟩)
           | (obtain ⟨n0,n1,n2,n3,n4,n5,n6⟩:=HBK.out _ G0;exact ⟨n4,n5,HC6.out _ (HFw2.out.trans0 G0)⟩)
           | (obtain ⟨n0,n1,n2,n3,n4,n5,n6⟩:=HBK.out _ G0.drew;exact ⟨n4,n5,HC6.out _ (HFw2.out.trans0 G0.drew)⟩)
           | go_keep)
         (first | (go_at_call 30;refine (HFo.out _ (HFw2.out.trans0 G0.drew)).mono ?_;rintro e w1 ⟨rfl,F1⟩;have G1:=G0.drew.trans0 F1))
       cases fs with
       | false =>
         have HE:=Lib.hid (mayAll_no (pk:=pk) (F:=F) (HBad.out hfs))
         go_wp2_with fail
         go_ret
         exact ⟨by rw [HE.out];rfl,HFw2.out.trans0 G1⟩
       | true =>
         have hb : mayFol ⟨xf,⟨xh,xm⟩⟩ = true ∧ maySub ⟨xf,⟨xh,xm⟩⟩ l = true:=by
           unfold foSub at hfs
           simpa using hfs
         have HE:=Lib.hid (HX.out hb.1 hb.2)
         clear hb hfs HX HBad
         obtain ⟨n0,n1,n2,n3,n4,n5,n6⟩:=HBK.out _ G1
         obtain ⟨-,-,-,-,-,-,u0⟩:=HC6.out _ (HFw2.out.trans0 G1)
         go_wp2_with fail
         go_roundw
         case rel => exact ⟨m + 1,by omega,by go_num,by rw [HT.out];first | rfl | (congr 1;omega) | (simp <;> omega),HE.out,HF2.out.trans0 G1⟩
         case measure => simp [intOf];omega
     obtain rfl : m = NL:=by omega
     have HMY:=Lib.hid (show mayStr D = true by
       rw [HME.out]
       have:=hA.out
       rw [List.take_of_length_le (by rw [List.length_zip,HNL.out,HNS.out,HD3.out];omega)] at this
       exact this)
     have hse : manyOf (D.S.take m) = manyOf D.S:=by rw [List.take_of_length_le (by rw [HNS.out,HD3.out];exact Nat.le_refl _)]
     rw [hse]
     clear hse hA hsum
     obtain ⟨MM,hMM⟩ : ∃ n,manyOf D.S = n:=⟨_,rfl⟩
     have HMM:=Lib.hid hMM
     rw [hMM] at hmany ⊢
     clear hMM
     cases pk with
     | true =>
       have HE:=Lib.hid (show mayAll true D F = (decide (m = 1) && decide (MM = 1) && decide (NF = 0)) by rw [mayAll_pk HMY.out,HNL.out,HMM.out,HNF.out])
       have key : ∀ n m : Nat,((n : Int) == (m : Int)) = decide (n = m):=fun n m => by
         by_cases h : n = m
         · subst h;simp
         · rw [decide_eq_false h,beq_eq_false_iff_ne];omega
       have a1:=key m 1
       have a2:=key MM 1
       have a3:=key NF 0
       clear key
       have c1 : ((1 : Nat) : Int) = 1:=rfl
       have c0 : ((0 : Nat) : Int) = 0:=rfl
       rw [c1] at a1 a2
       rw [c0] at a3
       clear c1 c0
       generalize decide (m = 1) = z1 at *
       generalize decide (MM = 1) = z2 at *
       generalize decide (NF = 0) = z3 at *
       cases z1 <;> cases z2 <;> cases z3
       all_goals
         go_wp2_with fail
         go_ret
         exact ⟨by rw [HE.out];rfl,HFw2.out⟩
     | false =>
       have HMA:=Lib.hid (show mayAll false D F = (F.all mayFil && decide (MM = streamN F)) by rw [mayAll_fi HMY.out,HMM.out])
       clear n5 n2 n3
       have HZ0:=Lib.hid HFw2.out
       rename World => wK2
       go_wp2_with fail
       clear n0 n1 n6 n4
       have HF3:=Lib.hid (HF1.out.trans0 F2)
       go_loopw [5,7] (fun v5 i wr => ∃ k : Nat,k ≤ NF ∧ i = .int .i64 k ∧ v5 = .int .i64 ((MM : Int) - (streamN (F.take k) : Int)) ∧ Hid ((F.take k).all mayFil = true) ∧ Fr [] wK2 wr) (fun _ i _ => NF - (intOf i).toNat)
       case atStart => exact ⟨0,Nat.zero_le _,rfl,by simp [streamN],by show ([] : List Fil).all mayFil = true;rfl,Fr.refl _ _⟩
       case round =>
         obtain ⟨k,hk,rfl,rfl,hA,F4⟩:=hrel
         obtain ⟨n0,n1,n2,n3,n4,n5,n6⟩:=HBX.out _ (HF3.out.trans0 F4)
         have HFw4:=Lib.hid (FA.trans0 (HF3.out.trans0 F4))
         have hsn:=streamN_le F k
         rw [HNF.out] at hsn
         by_cases hlt : k < NF
         · obtain ⟨x,hx⟩:=some_get F k (by rw [HNF.out];exact hlt)
           obtain ⟨b1,o1,hao,hb1,e0,e1,e2,e3,e4,e5,e6⟩:=(HFi.out.fr0 HFw4.out).fil hx hlt
           subst hao
           have HX:=Lib.hid (streamN_take hx)
           have HAL:=Lib.hid (show (F.take (k + 1)).all mayFil = mayFil x by rw [List.take_add_one,hx,List.all_append,hA.out];simp)
           have HFA:=Lib.hid (show mayFil x = false → mayAll false D F = false from fun h => by
             have : F.all mayFil = false:=by rw [List.all_eq_false];exact ⟨x,List.mem_of_getElem? hx,by simp [h]⟩
             rw [HMA.out,this]
             rfl)
           have hxl:=HV.out x (List.mem_of_getElem? hx)
           have HF4:=Lib.hid F4
           have hltI : (k : Int) < (NF : Int):=by omega
           clear hx hA F4
           obtain ⟨nm,st,dir,ha,attr,ht,tm⟩:=x
           dsimp only at e0 e1 e2 e3 e4 e5 e6 HX hxl
           obtain ⟨wB,hwB⟩ : ∃ wB,wB = wr.alloc (.cells #[.string ⟨nm.toArray⟩,.bool st,.bool dir,.bool ha,.int .u32 attr.toNat,.bool ht,.int .u64 tm.toNat] 54):=⟨_,rfl⟩
           have FB : Fr [] wr wB:=hwB ▸ (Fr.refl _ _).alloc _
           have HBF:=Lib.hid (fun wx (F2 : Fr [] wB wx) => wbox7 (hwB ▸ F2 : Fr [] (wr.alloc (.cells #[.string ⟨nm.toArray⟩,.bool st,.bool dir,.bool ha,.int .u32 attr.toNat,.bool ht,.int .u64 tm.toNat] 54)) wx) (by simp))
           obtain ⟨d0,d1,d2,d3,d4,d5,d6⟩:=HBF.out wB (Fr.refl _ _)
           have HU:=Lib.hid (runits_any wB nm hxl)
           have HFB:=Lib.hid (HFw4.out.trans0 FB)
           have HFS:=Lib.hid (HF4.out.trans0 FB)
           have HBY:=Lib.hid (fun wx (F2 : Fr [] wB wx) => HBX.out wx (HF3.out.trans0 (HFS.out.trans0 F2)))
           cases hr : runesL nm with
           | none =>
             have HRN:=Lib.hid hr
             have HE:=Lib.hid (HFA.out (by unfold mayFil;rw [hr];rfl))
             clear hr HX HAL HFA
             go_wp2_with (go_at_call 18;rw [← hwB];refine HU.out.mono ?_;intro e w1 hr;rcases hr with ⟨uv,rs,hrs,rfl,hsl,F5⟩ | ⟨hrn,rfl,F5⟩;(exfalso;rw [HRN.out] at hrs;cases hrs))
             go_ret
             exact ⟨by rw [HE.out];rfl,HFB.out.trans0 F5⟩
           | some rs =>
             have HRN:=Lib.hid hr
             have HEQ:=Lib.hid (mayFil_eq nm st dir ha attr ht tm rs hr)
             have hul : (unitsR rs).length ≤ 1000000:=by
               have h1:=runes_scal _ nm rs (Nat.le_refl _) hr
               have h2:=unitsR_len rs
               omega
             have HUL:=Lib.hid hul
             clear hr hul
             generalize hmf : mayFil ⟨nm,st,dir,ha,attr,ht,tm⟩ = mf at *
             clear hmf
             go_upto_region 23 with fail
             rename_i K0 hK0
             rw [← hwB]
             clear hwB
             go_cut [9,10] (fun v9 v10 wx => ∃ uao ucap,v9 = .slice uao (unitsR rs).length ucap ∧ v10 = .int .i64 0 ∧ Sl wx (.slice uao (unitsR rs).length ucap) (hv (unitsR rs)) ∧ Fr [] wB wx)
             case first =>
               clear hK0
               go_wp2_with (go_at_call 18;refine HU.out.mono ?_;intro e w1 hr;rcases hr with ⟨uv,rs2,hrs,rfl,hsl,F5⟩ | ⟨hrn,rfl,F5⟩;rotate_left;(exfalso;rw [HRN.out] at hrn;cases hrn);obtain rfl : rs2 = rs:=by rw [HRN.out] at hrs;exact (Option.some.inj hrs).symm)
               obtain ⟨uo,uc,rfl,-⟩:=own_out hsl
               go_meet
               case rel => exact ⟨uo,uc,rfl,rfl,Sl.of_own hsl,F5⟩
             case rest =>
             obtain ⟨uao,ucap,rfl,rfl,hus,F5⟩:=hcut
             rename World => wU
             (refine hK0 _ _ ?_;clear hK0;refine wp_seq_k fun K1 hK1 => ?_)
             obtain ⟨d0,d1,d2,d3,d4,d5,d6⟩:=HBF.out wU F5
             have HF5:=Lib.hid F5
             have HUS:=Lib.hid hus
             clear hus F5
             go_cut [] (fun wx => tests st dir ha (attr == 0) ht (tm == 0) = true ∧ wx = wU)
             case first =>
               clear hK1
               have ea : ((attr.toNat : Int) == 0) = (attr == 0):=by
                 by_cases h : attr = 0
                 · subst h;rfl
                 · have h1 : attr.toNat ≠ 0:=fun e => h (UInt32.toNat_inj.1 e)
                   have h2 : (attr == 0) = false:=by simp [h]
                   rw [h2,beq_eq_false_iff_ne]
                   omega
               have et : ((tm.toNat : Int) == 0) = (tm == 0):=by
                 by_cases h : tm = 0
                 · subst h;rfl
                 · have h1 : tm.toNat ≠ 0:=fun e => h (UInt64.toNat_inj.1 e)
                   have h2 : (tm == 0) = false:=by simp [h]
                   rw [h2,beq_eq_false_iff_ne]
                   omega
               have ea' : ((attr.toNat : Int) != 0) = !(attr == 0):=by unfold bne;rw [ea]
               have et' : ((tm.toNat : Int) != 0) = !(tm == 0):=by unfold bne;rw [et]
               clear ea et
               generalize (attr == 0) = za at *
               generalize (tm == 0) = zt at *
               rcases (show (st = true ∧ dir = true) ∨ (st = true ∧ dir = false) ∨ st = false by cases st <;> cases dir <;> simp) with ⟨rfl,rfl⟩ | ⟨rfl,rfl⟩ | rfl <;>
               rcases (show ha = true ∨ (ha = false ∧ za = true) ∨ (ha = false ∧ za = false) by cases ha <;> cases za <;> simp) with rfl | ⟨rfl,rfl⟩ | ⟨rfl,rfl⟩ <;>
               rcases (show ht = true ∨ (ht = false ∧ zt = true) ∨ (ht = false ∧ zt = false) by cases ht <;> cases zt <;> simp) with rfl | ⟨rfl,rfl⟩ | ⟨rfl,rfl⟩
               all_goals
                 go_wp2_with fail
                 first
                   | (go_meet;case rel => exact ⟨by first | rfl | simp [tests],rfl⟩)
                   | (go_ret;exact ⟨by rw [HFA.out (by rw [HEQ.out];first | rfl | simp [tests])];rfl,HFB.out.trans0 HF5.out⟩)
             case rest =>
             obtain ⟨htst,hw⟩:=hcut
             have HMF:=Lib.hid (show mf = decide (0 ∉ unitsR rs) by rw [HEQ.out,htst];rfl)
             have hw':=hw.symm
             clear hw htst HEQ
             subst hw'
             have hul:=HUL.out
             obtain ⟨NU,hNU⟩ : ∃ n,(unitsR rs).length = n:=⟨_,rfl⟩
             have HNU:=Lib.hid hNU
             rw [hNU] at hul HUS ⊢
             clear hNU
             (refine hK1 _ _ ?_;clear hK1)
             go_wp2_with fail
             have HUO:=Lib.hid (show ∀ j,j < (hv (unitsR rs)).length → ∃ b o,uao = some ⟨b,o,none⟩ ∧ b < wU.heap.size ∧ ∀ i,i < (hv (unitsR rs)).length → wU.cell? ⟨b,o + i,none⟩ = (hv (unitsR rs))[i]? by
               obtain ⟨ao',cap',he,-,-,h3⟩:=HUS.out.out
               injection he with e1 e2 e3
               subst e1
               exact h3)
             go_loopw [11] (fun i wr => ∃ j : Nat,j ≤ NU ∧ i = .int .i64 j ∧ Hid (0 ∉ (unitsR rs).take j) ∧ wr = wU) (fun i _ => NU - (intOf i).toNat)
             case atStart => exact ⟨0,Nat.zero_le _,rfl,by show 0 ∉ [];simp,rfl⟩
             case round =>
               obtain ⟨j,hj,rfl,hz,hw⟩:=hrel
               subst hw
               by_cases hlj : j < NU
               · obtain ⟨y,hy⟩:=some_get (unitsR rs) j (by rw [HNU.out];exact hlj)
                 have hlen2 : (hv (unitsR rs)).length = NU:=by unfold hv;rw [List.length_map,HNU.out]
                 obtain ⟨b2,o2,hao2,hb2,hcl⟩:=HUO.out j (by rw [hlen2];exact hlj)
                 have c2:=(hcl j (by rw [hlen2];exact hlj)).trans (show (hv (unitsR rs))[j]? = some (.int .u16 (y : Int)) by unfold hv;simp [hy])
                 subst hao2
                 have HTK:=Lib.hid (show (unitsR rs).take (j + 1) = (unitsR rs).take j ++ [y] by rw [List.take_add_one,hy];rfl)
                 have HMem:=Lib.hid (List.mem_of_getElem? hy)
                 have hltJ : (j : Int) < (NU : Int):=by omega
                 clear hcl hlen2 hy
                 by_cases hy0 : y = 0
                 · have HE:=Lib.hid (HFA.out (by rw [HMF.out,decide_eq_false];rw [Classical.not_not];exact hy0 ▸ HMem.out))
                   have t0 : ((y : Int) == 0) = true:=by rw [beq_iff_eq];omega
                   clear hy0
                   go_wp2_with fail
                   go_ret
                   exact ⟨by rw [HE.out];rfl,HFB.out.trans0 HF5.out⟩
                 · have t0 : ((y : Int) == 0) = false:=by rw [beq_eq_false_iff_ne];omega
                   have HN:=Lib.hid hy0
                   clear hy0
                   go_wp2_with fail
                   go_roundw
                   case rel => exact ⟨j + 1,by omega,by go_num,by show 0 ∉ (unitsR rs).take (j + 1);rw [HTK.out,List.mem_append,not_or,List.mem_singleton];exact ⟨hz.out,fun h => HN.out h.symm⟩,by trivial⟩
                   case measure => simp [intOf];omega
               · obtain rfl : j = NU:=by omega
                 have hz2:=hz.out
                 rw [List.take_of_length_le (by rw [HNU.out];exact Nat.le_refl _)] at hz2
                 have HT:=Lib.hid (show (F.take (k + 1)).all mayFil = true by rw [HAL.out,HMF.out,decide_eq_true hz2])
                 clear hz hz2 HMF HAL HFA
                 cases st with
                 | true =>
                   go_wp2_with fail
                   go_roundw
                   case rel => exact ⟨k + 1,by omega,by go_num,by rw [HX.out];simp;omega,HT.out,HFS.out.trans0 HF5.out⟩
                   case measure => simp [intOf];omega
                 | false =>
                   go_wp2_with fail
                   go_roundw
                   case rel => exact ⟨k + 1,by omega,by go_num,by rw [HX.out];simp,HT.out,HFS.out.trans0 HF5.out⟩
                   case measure => simp [intOf];omega
         · obtain rfl : k = NF:=by omega
           have HE:=Lib.hid (show mayAll false D F = (((MM : Int) - (streamN F : Int)) == 0) by
             have:=hA.out
             rw [List.take_of_length_le (by rw [HNF.out];exact Nat.le_refl _)] at this
             rw [HMA.out,this]
             by_cases e : MM = streamN F
             · rw [decide_eq_true e,e];simp
             · rw [decide_eq_false e]
               symm
               rw [Bool.true_and,beq_eq_false_iff_ne]
               omega)
           rw [show F.take k = F from List.take_of_length_le (by rw [HNF.out];exact Nat.le_refl _)]
           clear hA
           go_wp2_with fail
           go_ret
           exact ⟨by rw [HE.out];rfl,HFw4.out⟩
end Go.Proofs.YtkodindajfdagaaGreatDoor
