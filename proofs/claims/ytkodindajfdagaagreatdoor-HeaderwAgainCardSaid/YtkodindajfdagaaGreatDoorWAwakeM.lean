/- Contract: law 21's awake: two headers that the document fixes. No condition but what the library's tables hold. -/
import Derived.Test.YtkodindajfdagaaGreatDoorJX
import Derived.Test.YtkodindajfdagaaGreatDoorRefByM
namespace Go.Proofs.YtkodindajfdagaaGreatDoor
open Go.RowKit
def fileA : Fil:=⟨[97],false,false,false,0,false,0⟩
theorem filesA : 1 :: (filesW [fileA] ++ [0]) = [1,5,1,14,1,128,15,1,128,17,5,0,97,0,0,0,0,0]:=by kernel_rfl
theorem filesN : 1 :: (filesW [] ++ [0]) = [1,0]:=by kernel_rfl
set_option maxRecDepth 100000 in
set_option maxHeartbeats 4000000 in
theorem awake_any (w : World) (hG : Gl w) : Calls Tryz.prog 7 #[] w fun e w' => e = .returned (.bool true) ∧ Fr [] w w':=by
 have HG:=Lib.hid hG
 have HW1:=Lib.hid (write0_any w (.slice none 0 0) [] (RowAt.nil w _ 7) hG (by decide) (by decide) (by simp) rfl rfl)
 have HW2:=Lib.hid (fun (w1 : World) (F1 : Fr [] w w1) => write0_any (w1.alloc (.cells #[.string ⟨#[97]⟩,.bool false,.bool false,.bool false,.int .u32 0,.bool false,.int .u64 0] 54)) (.slice (some ⟨w1.heap.size,0,none⟩) 1 1) [fileA]
   ⟨_,1,rfl,by decide,by decide,fun j hj => ⟨w1.heap.size,0,rfl,by simp,by simp,fun k hk => by
     obtain rfl : j = 0:=by simp at hj;omega
     rw [Go.Joins.cell_of_block (heap_alloc_new w1 _)]
     simp [fiV,Fil.cells,fileA]⟩⟩ ((HG.out.fr F1).fr ((Fr.refl _ _).alloc _)) (by decide) (by decide) (by intro x hx;simp at hx;subst hx;decide) (by kernel_rfl) rfl)
 go_enter Tryz.func7,Tryz.ntmps7
 go_upto_region 3 with (first
   | (have hq:=F1;go_at_call 14;refine (HW2.out w1 F1).mono ?_;rintro e w2 ⟨v2,rfl,hv2,F2⟩;rw [filesA] at hv2;have HV2:=Lib.hid hv2;obtain ⟨o2,c2,rfl,-⟩:=hv2.out;have HX2:=Lib.hid (show Sl w2 (.slice o2 18 c2) (bv [1,5,1,14,1,128,15,1,128,17,5,0,97,0,0,0,0,0]) from hv2);clear hv2)
   | (go_at_call 14;refine HW1.out.mono ?_;rintro e w1 ⟨v1,rfl,hv1,F1⟩;rw [filesN] at hv1;have HV1:=Lib.hid hv1;obtain ⟨o1,c1,rfl,-⟩:=hv1.out;have HX1:=Lib.hid (show Sl w1 (.slice o1 2 c1) (bv [1,0]) from hv1);clear hv1))
 have FW2 : Fr [] w1 w2:=((Fr.refl [] w1).alloc _).trans0 F2
 go_wp2_with (first
   | (have hq:=F4;go_at_call 9;refine (bytes_any _ _ _ [1,5,1,14,1,128,15,1,128,17,5,0,97,0,0,0,0,0] [1,5,1,14,1,128,15,1,128,17,5,0,97,0,0,0,0,0] (HX2.out.fr0 (F4.alloc _)) (sl_lit _ _ (bv [1,5,1,14,1,128,15,1,128,17,5,0,97,0,0,0,0,0]) 18 rfl (by decide))).mono ?_;rw [decide_eq_true rfl];rintro e w5 ⟨rfl,S5⟩)
   | (go_at_call 9;refine (bytes_any _ _ _ [1,0] [1,0] (HX1.out.fr0 (FW2.alloc _)) (sl_lit _ _ (bv [1,0]) 2 rfl (by decide))).mono ?_;rw [decide_eq_true rfl];rintro e w4 ⟨rfl,S4⟩;have F4 : Fr [] w2 w4:=((Fr.refl [] w2).alloc _).trans0 S4.fr))
 go_ret
 exact ⟨rfl,(F1.trans0 FW2).trans0 ((F4.alloc _).trans0 S5.fr)⟩
end Go.Proofs.YtkodindajfdagaaGreatDoor
