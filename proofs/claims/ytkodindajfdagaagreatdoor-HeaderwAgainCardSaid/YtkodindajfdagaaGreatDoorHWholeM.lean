/- Contract: header.whole. No condition but that lengths fit. -/
import Derived.Test.YtkodindajfdagaaGreatDoorJB
namespace Go.Proofs.YtkodindajfdagaaGreatDoor
open Go.RowKit Go.Maps
def wholeOf (f : Folder) : UInt64:=match mainIdx f with | some i => f.sizes.getD i 0 | none => 0
set_option maxRecDepth 100000 in
set_option maxHeartbeats 1000000 in
theorem whole_any (w : World) (v : Value) (f : Folder) (hf : Fo w v f) (hn : f.coders.length ≤ 100000) (hb : f.binds.length ≤ 100000) (hs : f.sizes.length ≤ 100000000) (hout : ∀ b ∈ f.binds,(Lit.int .i64 b.2).wf = true) :
   Calls Tryz.prog 108 #[v] w fun e w' => e = .returned (.int .u64 ((wholeOf f).toNat : Int)) ∧ Fr [] w w':=by
 have HF:=Lib.hid hf
 have HM:=Lib.hid (fun wy h => main_any wy v f h hn hb hout)
 obtain ⟨cv,bv',p,s,h,k0,rfl,hV⟩:=hf
 obtain ⟨sao,scap,rfl,-,-,so⟩:=hV.si.out
 rw [u64v_length] at so
 have HSo:=Lib.hid so
 have hsI : (f.sizes.length : Int) ≤ 100000000:=by omega
 rw [u64v_length] at HF HM ⊢
 clear hV hn hb hout so
 obtain ⟨wB,hwB⟩ : ∃ wB,wB = w.alloc (.cells #[cv,bv',p,.slice sao f.sizes.length scap,h,k0] 70):=⟨_,rfl⟩
 have F0 : Fr [] w wB:=hwB ▸ (Fr.refl _ _).alloc _
 have HBX:=Lib.hid (fun wx (F : Fr [] wB wx) => box6 (hwB ▸ F : Fr [] (w.alloc (.cells #[cv,bv',p,.slice sao f.sizes.length scap,h,k0] 70)) wx))
 cases hm : mainIdx f with
 | none =>
   have HE:=Lib.hid (show wholeOf f = 0 by rw [wholeOf,hm])
   have HMO:=Lib.hid (show mainOf f = -1 by rw [mainOf,hm])
   clear hm
   go_enter Tryz.func108,Tryz.ntmps108
   go_wp2_with fail
   rw [← hwB]
   clear hwB
   refine (HM.out _ (HF.out.fr F0)).mono ?_
   rw [HMO.out]
   rintro e w1 ⟨rfl,F1⟩
   obtain ⟨d0,d1,d2,d3,d4,d5⟩:=HBX.out _ F1
   go_wp2_with fail
   go_ret
   exact ⟨by rw [HE.out];rfl,F0.trans0 F1⟩
 | some i =>
   have HMO:=Lib.hid (show mainOf f = (i : Int) by rw [mainOf,hm])
   have hi : i < f.coders.length:=by
     unfold mainIdx at hm
     rw [List.find?_range_eq_some] at hm
     simpa using hm.2.1
   by_cases hlt : i < f.sizes.length
   · obtain ⟨x,hx⟩:=some_get f.sizes i hlt
     have HE:=Lib.hid (show wholeOf f = x by rw [wholeOf,hm];simp [List.getD,hx])
     obtain ⟨b,o,rfl,hb,hcell⟩:=HSo.out i hlt
     have c0 : w.cell? ⟨b,o + i,none⟩ = some (.int .u64 x.toNat):=(hcell i hlt).trans (u64v_get _ _ _ hx)
     have HC0:=Lib.hid c0
     have hltI : (i : Int) < (f.sizes.length : Int):=by omega
     clear hm hcell hx c0
     go_enter Tryz.func108,Tryz.ntmps108
     go_wp2_with fail
     rw [← hwB]
     clear hwB
     refine (HM.out _ (HF.out.fr F0)).mono ?_
     rw [HMO.out]
     rintro e w1 ⟨rfl,F1⟩
     obtain ⟨d0,d1,d2,d3,d4,d5⟩:=HBX.out _ F1
     have d6:=((F0.trans0 F1).cell (p:=⟨b,o + i,none⟩) hb (by simp)).trans HC0.out
     go_wp2_with fail
     go_ret
     exact ⟨by rw [HE.out];rfl,F0.trans0 F1⟩
   · have HE:=Lib.hid (show wholeOf f = 0 by rw [wholeOf,hm];simp [List.getD,hlt])
     have hltI : (f.sizes.length : Int) ≤ (i : Int):=by omega
     clear hm
     go_enter Tryz.func108,Tryz.ntmps108
     go_wp2_with fail
     rw [← hwB]
     clear hwB
     refine (HM.out _ (HF.out.fr F0)).mono ?_
     rw [HMO.out]
     rintro e w1 ⟨rfl,F1⟩
     obtain ⟨d0,d1,d2,d3,d4,d5⟩:=HBX.out _ F1
     go_wp2_with fail
     go_ret
     exact ⟨by rw [HE.out];rfl,F0.trans0 F1⟩
end Go.Proofs.YtkodindajfdagaaGreatDoor
