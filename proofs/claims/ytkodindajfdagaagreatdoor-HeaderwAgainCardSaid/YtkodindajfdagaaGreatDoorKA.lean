/- Contracts: slices.ContainsFunc of the writer's two tests of subs and checks. No condition. -/
import Derived.Test.YtkodindajfdagaaGreatDoorJY
import Derived.Test.YtkodindajfdagaaGreatDoorJZ
namespace Go.Proofs.YtkodindajfdagaaGreatDoor
open Go.RowKit
def WSubsR (w : World) (sv : Value) (S : List (List Sub)) : Prop :=
 ∃ ao cap,sv = .slice ao S.length cap ∧ S.length ≤ cap ∧ cap ≤ 9223372036854775807 ∧
   ∀ j l,S[j]? = some l → ∃ b o v,ao = some ⟨b,o,none⟩ ∧ b < w.heap.size ∧ w.cell? ⟨b,o + j,none⟩ = some v ∧ RowAt w w.heap.size 3 v l.length (sbV l)
theorem WSubsR.out {w : World} {sv : Value} {S : List (List Sub)} (h : WSubsR w sv S) : ∃ ao cap,sv = .slice ao S.length cap ∧ S.length ≤ cap ∧ cap ≤ 9223372036854775807 ∧
   ∀ j l,S[j]? = some l → ∃ b o v,ao = some ⟨b,o,none⟩ ∧ b < w.heap.size ∧ w.cell? ⟨b,o + j,none⟩ = some v ∧ RowAt w w.heap.size 3 v l.length (sbV l):=h
theorem RowAt.up {w : World} {hi hi2 m : Nat} {v : Value} {n : Nat} {xs : List Value} (h : RowAt w hi m v n xs) (hh : hi ≤ hi2) : RowAt w hi2 m v n xs:=by
 obtain ⟨ao,cap,e,h1,h2,h3⟩:=h
 refine ⟨ao,cap,e,h1,h2,fun j hj => ?_⟩
 obtain ⟨b,o,q1,q2,q3,q4⟩:=h3 j hj
 exact ⟨b,o,q1,by omega,q3,q4⟩
theorem WSubsR.fr {w w' : World} {sv : Value} {S : List (List Sub)} (h : WSubsR w sv S) (F : Fr [] w w') : WSubsR w' sv S:=by
 obtain ⟨ao,cap,e,h1,h2,h3⟩:=h
 refine ⟨ao,cap,e,h1,h2,fun j l hl => ?_⟩
 obtain ⟨b,o,v,q1,q2,q3,q4⟩:=h3 j l hl
 exact ⟨b,o,v,q1,Nat.lt_of_lt_of_le q2 F.size,(F.cell (p:=⟨b,o + j,none⟩) q2 (by simp)).trans q3,(q4.fr0 F).up F.size⟩
set_option maxRecDepth 100000 in
theorem subs1_any (w : World) (ao : Option Addr) (n cap : Nat) : Calls Tryz.prog 91 #[.slice ao n cap] w fun e w' => e = .returned (.bool (!((n : Int) == 1))) ∧ w = w':=by
 go_enter Tryz.func91,Tryz.ntmps91
 go_wp2_with fail
 go_ret
 exact ⟨rfl,rfl⟩
set_option maxRecDepth 100000 in
theorem subs2_any (w : World) (hs : Bool) (sm : UInt32) : Calls Tryz.prog 94 #[.agg #[.bool hs,.int .u32 sm.toNat]] w fun e w' => e = .returned (.bool hs) ∧ Fr [] w w':=by
 go_enter Tryz.func94,Tryz.ntmps94
 go_wp2_with fail
 go_ret
 exact ⟨rfl,(Fr.refl _ _).alloc _⟩
def oddS (l : List Sub) : Bool:=!(l.length == 1)
theorem any_take {α : Type} (f : α → Bool) {l : List α} {k : Nat} {x : α} (h : l[k]? = some x) : (l.take (k + 1)).any f = ((l.take k).any f || f x):=by
 rw [List.take_add_one,h,List.any_append]
 simp
set_option maxRecDepth 100000 in
set_option maxHeartbeats 1000000 in
theorem ixs_any (w : World) (sv : Value) (S : List (List Sub)) (h : WSubsR w sv S) :
   Calls Tryz.prog 123 #[sv,.func (.func 91) #[] #[]] w fun e w' => (∃ n : Int,e = .returned (.int .i64 n) ∧ decide (0 ≤ n) = S.any oddS) ∧ w = w':=by
 obtain ⟨ao,cap,rfl,hc1,hc2,hel⟩:=h.out
 have HEL:=Lib.hid hel
 clear hel h
 go_enter Tryz.func123,Tryz.ntmps123
 go_wp2_with fail
 go_loopw [8] (fun i wr => ∃ k : Nat,k ≤ S.length ∧ i = .int .i64 k ∧ Hid ((S.take k).any oddS = false) ∧ wr = w) (fun i _ => S.length - (intOf i).toNat)
 case atStart => exact ⟨0,Nat.zero_le _,rfl,by show ([] : List (List Sub)).any oddS = false;rfl,rfl⟩
 case round =>
   obtain ⟨k,hk,rfl,hall,hw⟩:=hrel
   subst hw
   by_cases hlt : k < S.length
   · obtain ⟨x,hx⟩:=some_get S k hlt
     obtain ⟨b1,o1,v1,rfl,hbl,cc,hrow⟩:=HEL.out k x hx
     obtain ⟨vo,vc,rfl,-,-,-⟩:=hrow.out
     have HX:=Lib.hid (any_take oddS hx)
     have HM:=Lib.hid (List.mem_of_getElem? hx)
     have hod : oddS x = !((x.length : Int) == 1):=by
       unfold oddS
       congr 1
       by_cases e : x.length = 1
       · rw [e];rfl
       · rw [show (x.length == 1) = false by simp [e]]
         symm
         rw [beq_eq_false_iff_ne]
         omega
     have HOD:=Lib.hid hod
     clear hx hod hrow
     cases hq : !((x.length : Int) == 1) with
     | true =>
       have HQ:=Lib.hid hq
       clear hq
       go_wp2_with (go_at_call 91;refine (subs1_any _ vo x.length vc).mono ?_;rw [HQ.out];rintro e w1 ⟨rfl,rfl⟩)
       go_ret
       exact ⟨⟨k,rfl,by rw [show S.any oddS = true from List.any_eq_true.2 ⟨x,HM.out,HOD.out.trans HQ.out⟩];simp⟩,rfl⟩
     | false =>
       have HQ:=Lib.hid hq
       clear hq
       go_wp2_with (go_at_call 91;refine (subs1_any _ vo x.length vc).mono ?_;rw [HQ.out];rintro e w1 ⟨rfl,rfl⟩)
       go_roundw
       case rel => exact ⟨k + 1,by omega,by go_num,by show (S.take (k + 1)).any oddS = false;rw [HX.out,hall.out,HOD.out,HQ.out];rfl,by trivial⟩
       case measure => simp [intOf];omega
   · obtain rfl : k = S.length:=by omega
     have hA:=hall.out
     rw [List.take_of_length_le (Nat.le_refl _)] at hA
     go_wp2_with fail
     go_ret
     exact ⟨⟨-1,rfl,by rw [hA];rfl⟩,rfl⟩
set_option maxRecDepth 100000 in
theorem cfs_any (w : World) (sv : Value) (S : List (List Sub)) (h : WSubsR w sv S) :
   Calls Tryz.prog 90 #[sv,.func (.func 91) #[] #[]] w fun e w' => e = .returned (.bool (S.any oddS)) ∧ w = w':=by
 have HI:=Lib.hid (ixs_any w sv S h)
 obtain ⟨ao,cap,rfl,-,-,-⟩:=h.out
 clear h
 go_enter Tryz.func90,Tryz.ntmps90
 go_wp2_with (go_at_call 123;refine HI.out.mono ?_;rintro e w1 ⟨⟨n,rfl,hn⟩,rfl⟩;have HNN:=Lib.hid hn;clear hn)
 go_ret
 exact ⟨by rw [← HNN.out];rfl,rfl⟩
set_option maxRecDepth 100000 in
set_option maxHeartbeats 1000000 in
theorem ixc_any (w : World) (hi : Nat) (sv : Value) (cs : List Ck) (h : RowAt w hi 2 sv cs.length (ckV cs)) :
   Calls Tryz.prog 124 #[sv,.func (.func 94) #[] #[]] w fun e w' => (∃ n : Int,e = .returned (.int .i64 n) ∧ decide (0 ≤ n) = cs.any (·.has)) ∧ Fr [] w w':=by
 obtain ⟨ao,cap,rfl,hcap,hcm,-⟩:=h.out
 have HR:=Lib.hid h
 clear h
 go_enter Tryz.func124,Tryz.ntmps124
 go_wp2_with fail
 go_loopw [8] (fun i wr => ∃ k : Nat,k ≤ cs.length ∧ i = .int .i64 k ∧ Hid ((cs.take k).any (·.has) = false) ∧ Fr [] w wr) (fun i _ => cs.length - (intOf i).toNat)
 case atStart => exact ⟨0,Nat.zero_le _,rfl,by show ([] : List Ck).any (·.has) = false;rfl,Fr.refl _ _⟩
 case round =>
   obtain ⟨k,hk,rfl,hall,F⟩:=hrel
   by_cases hlt : k < cs.length
   · obtain ⟨x,hx⟩:=some_get cs k hlt
     obtain ⟨b1,o1,hao,hb1,e0,e1⟩:=(HR.out.fr0 F).ck hx hlt
     subst hao
     have HX:=Lib.hid (any_take (·.has) hx)
     have HM:=Lib.hid (List.mem_of_getElem? hx)
     have HF:=Lib.hid F
     obtain ⟨hs,sm⟩:=x
     dsimp only at e0 e1
     clear hx F
     cases hs with
     | true =>
       go_wp2_with (go_at_call 94;refine (subs2_any _ true sm).mono ?_;rintro e w1 ⟨rfl,F1⟩)
       go_ret
       exact ⟨⟨k,rfl,by rw [show cs.any (·.has) = true from List.any_eq_true.2 ⟨_,HM.out,rfl⟩];simp⟩,HF.out.trans0 F1⟩
     | false =>
       go_wp2_with (go_at_call 94;refine (subs2_any _ false sm).mono ?_;rintro e w1 ⟨rfl,F1⟩)
       go_roundw
       case rel => exact ⟨k + 1,by omega,by go_num,by show (cs.take (k + 1)).any (·.has) = false;rw [HX.out,hall.out];rfl,HF.out.trans0 F1⟩
       case measure => simp [intOf];omega
   · obtain rfl : k = cs.length:=by omega
     have hA:=hall.out
     rw [List.take_of_length_le (Nat.le_refl _)] at hA
     go_wp2_with fail
     go_ret
     exact ⟨⟨-1,rfl,by rw [hA];rfl⟩,F⟩
set_option maxRecDepth 100000 in
theorem cfc_any (w : World) (hi : Nat) (sv : Value) (cs : List Ck) (h : RowAt w hi 2 sv cs.length (ckV cs)) :
   Calls Tryz.prog 93 #[sv,.func (.func 94) #[] #[]] w fun e w' => e = .returned (.bool (cs.any (·.has))) ∧ Fr [] w w':=by
 have HI:=Lib.hid (ixc_any w hi sv cs h)
 obtain ⟨ao,cap,rfl,-,-,-⟩:=h.out
 clear h
 go_enter Tryz.func93,Tryz.ntmps93
 go_wp2_with (go_at_call 124;refine HI.out.mono ?_;rintro e w1 ⟨⟨n,rfl,hn⟩,F1⟩;have HNN:=Lib.hid hn;clear hn)
 go_ret
 exact ⟨by rw [← HNN.out];rfl,F1⟩
end Go.Proofs.YtkodindajfdagaaGreatDoor
/- Contract: headerw.unknown. No condition but that lengths fit. -/
namespace Go.Proofs.YtkodindajfdagaaGreatDoor
open Go.RowKit
def unkOf (l : List Sub) (x : Fol) : List Ck:=if l.length = 1 ∧ x.ck.has = true then [] else l.map (·.ck)
def unkW (S : List (List Sub)) (L : List Fol) : List Ck:=(S.zip L).flatMap fun p => unkOf p.1 p.2
theorem unkW_take {S : List (List Sub)} {L : List Fol} {k : Nat} {l : List Sub} {x : Fol} (h1 : S[k]? = some l) (h2 : L[k]? = some x) : unkW (S.take (k + 1)) (L.take (k + 1)) = unkW (S.take k) (L.take k) ++ unkOf l x:=by
 unfold unkW
 have e : ∀ m,(S.take m).zip (L.take m) = (S.zip L).take m:=fun m => by rw [List.zip_eq_zipWith,List.zip_eq_zipWith,List.take_zipWith]
 have hz : (S.zip L)[k]? = some (l,x):=by rw [List.getElem?_zip_eq_some];exact ⟨h1,h2⟩
 rw [e,e,List.take_add_one,hz,List.flatMap_append]
 congr 1
 simp only [Option.toList_some,List.flatMap_cons,List.flatMap_nil,List.append_nil]
theorem ckV_app (a b : List Ck) : ckV (a ++ b) = ckV a ++ ckV b:=ckV_append a b
theorem RowAt.sb {w : World} {hi : Nat} {ao : Option Addr} {n cap : Nat} {l : List Sub} (h : RowAt w hi 3 (.slice ao n cap) n (sbV l)) {k : Nat} {x : Sub} (hx : l[k]? = some x) (hk : k < n) :
   ∃ b o,ao = some ⟨b,o,none⟩ ∧ b < w.heap.size ∧ w.cell? ⟨b,o + k * 3,none⟩ = some (.int .u64 x.size.toNat) ∧ w.cell? ⟨b,o + k * 3 + 1,none⟩ = some (.bool x.ck.has) ∧ w.cell? ⟨b,o + k * 3 + 2,none⟩ = some (.int .u32 x.ck.sum.toNat):=by
 obtain ⟨ao',cap',e,h1,h2,h3⟩:=h
 injection e with e1 e2 e3
 subst e1 e3
 obtain ⟨b,o,q1,-,q3,q4⟩:=h3 k hk
 have key : ∀ j,j < 3 → w.cell? ⟨b,o + k * 3 + j,none⟩ = ([.int .u64 x.size.toNat,.bool x.ck.has,.int .u32 x.ck.sum.toNat] : List Value)[j]?:=fun j hj => (q4 j hj).trans (flat_get (fun x : Sub => [.int .u64 x.size.toNat,.bool x.ck.has,.int .u32 x.ck.sum.toNat]) 3 (fun _ => rfl) l k x hx j hj)
 exact ⟨b,o,q1,q3,key 0 (by decide),key 1 (by decide),key 2 (by decide)⟩
theorem wbox3 {w wr : World} {t : TypeId} {a0 a1 a2 : Value} {S : List Nat} (F : Fr S (w.alloc (.cells #[a0,a1,a2] t)) wr) (hS : w.heap.size ∉ S) :
   wr.cell? ⟨w.heap.size,0,none⟩ = some a0 ∧ wr.cell? ⟨w.heap.size,1,none⟩ = some a1 ∧ wr.cell? ⟨w.heap.size,2,none⟩ = some a2:=by
 have key : ∀ (i : Nat),wr.cell? ⟨w.heap.size,i,none⟩ = #[a0,a1,a2][i]?:=fun i => by
   rw [F.cell (p:=⟨w.heap.size,i,none⟩) (by simp) hS,Go.Joins.cell_of_block (heap_alloc_new w _)]
 exact ⟨by rw [key];rfl,by rw [key];rfl,by rw [key];rfl⟩
theorem wown_mono {w : World} {base base' e m : Nat} {v : Value} {n : Nat} {xs : List Value} (h : w.ownsRow base e m v n xs) (hb : base' ≤ base) : w.ownsRow base' e m v n xs:=by
 refine ⟨h.1,?_⟩
 rcases h.2 with h1 | ⟨g,cap,cur,rfl,hbb,rest⟩
 · exact .inl h1
 · exact .inr ⟨g,cap,cur,rfl,by omega,rest⟩
def UnkR (S : List (List Sub)) (L : List Fol) (w : World) (e : Ending) (w' : World) : Prop :=
 ∃ v,e = .returned v ∧ w'.ownsRow w.heap.size 68 2 v (unkW S L).length (ckV (unkW S L)) ∧ Fr [] w w'
set_option maxRecDepth 100000 in
set_option maxHeartbeats 4000000 in
theorem wunknown_any (w : World) (pk pl ps cs es fv sv : Value) (S : List (List Sub)) (L : List Fol) (hS : WSubsR w sv S) (hF : FolR w fv L) (hl : S.length = L.length) (hn : S.length ≤ 100000) (hr : ∀ l ∈ S,l.length ≤ 100000) (hu : ∀ k,(unkW (S.take k) (L.take k)).length ≤ 1000000) :
   Calls Tryz.prog 92 #[.agg #[pk,pl,ps,cs,fv,sv,es]] w (UnkR S L w):=by
 obtain ⟨sao,scap,rfl,-,-,so⟩:=hS.out
 obtain ⟨fao,fcap,rfl,-,-,fo⟩:=hF.out
 have HSO:=Lib.hid so
 have HFO:=Lib.hid fo
 have HN:=Lib.hid hn
 have HRB:=Lib.hid hr
 have HU:=Lib.hid hu
 have HLn:=Lib.hid hl
 clear so fo hr hS hF hu hl
 obtain ⟨wA,hwA⟩ : ∃ wA,wA = w.alloc (.cells #[pk,pl,ps,cs,.slice fao L.length fcap,.slice sao S.length scap,es] 38):=⟨_,rfl⟩
 have FA : Fr [] w wA:=hwA ▸ (Fr.refl _ _).alloc _
 have HBX:=Lib.hid (fun wx (F2 : Fr [] wA wx) => wbox7 (hwA ▸ F2 : Fr [] (w.alloc (.cells #[pk,pl,ps,cs,.slice fao L.length fcap,.slice sao S.length scap,es] 38)) wx) (by simp))
 obtain ⟨k0,k1,k2,k3,k4,k5,k6⟩:=HBX.out wA (Fr.refl _ _)
 go_enter Tryz.func92,Tryz.ntmps92
 go_wp2_with fail
 try rw [← hwA]
 clear hwA k0 k1 k2 k3 k4 k5 k6
 go_loopw [3,11] (fun v3 i wr => ∃ k : Nat,k ≤ S.length ∧ i = .int .i64 k ∧ wr.ownsRow wA.heap.size 68 2 v3 (unkW (S.take k) (L.take k)).length (ckV (unkW (S.take k) (L.take k))) ∧ Fr [] wA wr) (fun _ i _ => S.length - (intOf i).toNat)
 case atStart => exact ⟨0,Nat.zero_le _,rfl,by first | exact World.ownsRow_nil _ _ _ _ | simpa [unkW] using World.ownsRow_nil _ _ _ _,by first | exact Fr.refl _ _ | simp⟩
 case round =>
   obtain ⟨k,hk,rfl,own,F⟩:=hrel
   obtain ⟨vo,vc,rfl,-⟩:=own_outS own
   by_cases hlt : k < S.length
   · obtain ⟨l,hl1⟩:=some_get S k hlt
     obtain ⟨x,hx⟩:=some_get L k (by have:=HLn.out;omega)
     obtain ⟨q1,o1,lv,hao,hq1,e0,hrow⟩:=HSO.out k l hl1
     subst hao
     obtain ⟨lo1,lc1,rfl,-,-,-⟩:=hrow.out
     obtain ⟨q2,o2,c,b',q,s,hao2,hq2,-,-,-,-,g4,-,-⟩:=HFO.out k x hx
     subst hao2
     have FW:=FA.trans0 F
     have hq1':=Nat.lt_of_lt_of_le hq1 FW.size
     have hq2':=Nat.lt_of_lt_of_le hq2 FW.size
     have f0:=(FW.cell (p:=⟨q1,o1 + k,none⟩) hq1 (by simp)).trans e0
     have f4:=(FW.cell (p:=⟨q2,o2 + k * 6 + 4,none⟩) hq2 (by simp)).trans g4
     have HRow:=Lib.hid (fun wx (Fx : Fr [] w wx) => hrow.fr0 Fx)
     have HTK:=Lib.hid (unkW_take hl1 hx)
     have HLB:=Lib.hid (HRB.out l (List.mem_of_getElem? hl1))
     have HUK:=Lib.hid (show (unkW (S.take k) (L.take k)).length + (unkOf l x).length ≤ 1000000 by have:=HU.out (k + 1);rw [HTK.out,List.length_append] at this;exact this)
     have hkL : k < L.length:=by have:=HLn.out;omega
     obtain ⟨m0,m1,m2,m3,m4,m5,m6⟩:=HBX.out wr F
     have HOW:=Lib.hid own
     have HF:=Lib.hid F
     obtain ⟨U,hU⟩ : ∃ U,U = unkW (S.take k) (L.take k):=⟨_,rfl⟩
     rw [← hU] at HOW HTK HUK ⊢
     clear hl1 hx own e0 g4 hrow F hU
     obtain ⟨xf,⟨hs,sm⟩⟩:=x
     dsimp only at f4
     by_cases hskip : l.length = 1 ∧ hs = true
     · have HE:=Lib.hid (show unkOf l ⟨xf,⟨hs,sm⟩⟩ = [] from if_pos hskip)
       obtain ⟨h1,rfl⟩:=hskip
       have t0 : ((l.length : Int) == 1) = true:=by rw [h1];rfl
       clear h1
       go_wp2_with fail
       go_roundw
       case rel => exact ⟨k + 1,by omega,by go_num,by rw [HTK.out,HE.out,List.append_nil];exact HOW.out,HF.out⟩
       case measure => simp [intOf];omega
     · have HE:=Lib.hid (show unkOf l ⟨xf,⟨hs,sm⟩⟩ = l.map (·.ck) from if_neg hskip)
       have HINN:=Lib.hid (fun (j : Nat) (y : Sub) (hy : l[j]? = some y) => (show ckV (U ++ (l.take (j + 1)).map (·.ck)) = ckV (U ++ (l.take j).map (·.ck)) ++ [.bool y.ck.has,.int .u32 y.ck.sum.toNat] from by
         rw [List.take_add_one,hy,List.map_append,← List.append_assoc,ckV_app]
         rfl))
       have t0 : ((l.length : Int) == 1) = true → hs = false:=fun h => by
         cases hs with
         | false => rfl
         | true => exact absurd ⟨by have:=beq_iff_eq.1 h;omega,rfl⟩ hskip
       clear hskip
       have HT0:=Lib.hid t0
       have hlb:=HLB.out
       clear t0
       cases hq : ((l.length : Int) == 1) with
       | true =>
         obtain rfl:=HT0.out hq
         go_wp2_with fail
         go_loopw [3,30] (fun v3 i wx => ∃ j : Nat,j ≤ l.length ∧ i = .int .i64 j ∧ wx.ownsRow wA.heap.size 68 2 v3 (U.length + j) (ckV (U ++ (l.take j).map (·.ck))) ∧ Fr [] wA wx) (fun _ i _ => l.length - (intOf i).toNat)
         case atStart => exact ⟨0,Nat.zero_le _,rfl,by simpa using HOW.out,HF.out⟩
         case round =>
           obtain ⟨j,hj,rfl,ownj,Fj⟩:=hrel
           rename World => wJ
           obtain ⟨vj,vjc,rfl,-⟩:=own_outS ownj
           by_cases hlt2 : j < l.length
           · obtain ⟨y,hy⟩:=some_get l j hlt2
             obtain ⟨q3,o3,hao3,hq3,e0,e1,e2⟩:=(HRow.out wJ (FA.trans0 Fj)).sb hy hlt2
             subst hao3
             have HCK:=Lib.hid (HINN.out j y hy)
             obtain ⟨ysz,⟨yh,ys⟩⟩:=y
             dsimp only at e0 e1 e2 HCK
             clear hy
             obtain ⟨wC,hwC⟩ : ∃ wC,wC = wJ.alloc (.cells #[.int .u64 ysz.toNat,.bool yh,.int .u32 ys.toNat] 89):=⟨_,rfl⟩
             have FC : Fr [] wJ wC:=hwC ▸ (Fr.refl _ _).alloc _
             obtain ⟨z0,z1,z2⟩:=wbox3 (hwC ▸ Fr.refl [] wC : Fr [] (wJ.alloc (.cells #[.int .u64 ysz.toNat,.bool yh,.int .u32 ys.toNat] 89)) wC) (by simp)
             have hszC : wC.heap.size = wJ.heap.size + 1:=by rw [hwC];simp
             have HOC:=Lib.hid (own_frS (own_frS ownj FC (by simp)) ((Fr.refl [] wC).alloc (.cells #[.bool yh,.int .u32 ys.toNat] 68)) (by simp))
             have HNB:=Lib.hid (show (wC.alloc (.cells #[.bool yh,.int .u32 ys.toNat] 68)).heap[wJ.heap.size + 1]? = some (.cells #[.bool yh,.int .u32 ys.toNat] 68) from hszC ▸ heap_alloc_new wC _)
             have HSW:=Lib.hid (show wA.heap.size ≤ (wC.alloc (.cells #[.bool yh,.int .u32 ys.toNat] 68)).heap.size from by have:=(Fj.trans0 FC).size;rw [World.size_alloc];omega)
             subst hwC
             clear ownj hszC
             go_wp2_with (at_builtin;refine wpList_append_struct sty_ck rfl _ _ (by rfl) wA.heap.size _ _ _ (by rfl) HOC.out (wJ.heap.size + 1) [.bool yh,.int .u32 ys.toNat] (by rfl) HNB.out rfl rfl (by have h1:=HUK.out;rw [HE.out,List.length_map] at h1;omega) (by decide) HSW.out ?_;intro v7 w7 own7 g7;obtain ⟨vo7,vc7,rfl,-⟩:=own_outS own7)
             have F7 : Fr [] wA w7:=((Fj.trans0 FC).alloc _).grown g7 (fun q hq => .inr (own_ltS HOC.out q hq).1)
             go_roundw
             case rel => exact ⟨j + 1,by omega,by go_num,by rw [HCK.out];exact own7,F7⟩
             case measure => simp [intOf];omega
           · obtain rfl : j = l.length:=by omega
             rw [List.take_of_length_le (Nat.le_refl _)] at ownj
             have HOJ:=Lib.hid ownj
             clear ownj
             go_wp2_with fail
             go_roundw
             case rel => exact ⟨k + 1,by omega,by go_num,by rw [HTK.out,HE.out,List.length_append,List.length_map];exact HOJ.out,Fj⟩
             case measure => simp [intOf];omega
       | false =>
         go_wp2_with fail
         go_loopw [3,30] (fun v3 i wx => ∃ j : Nat,j ≤ l.length ∧ i = .int .i64 j ∧ wx.ownsRow wA.heap.size 68 2 v3 (U.length + j) (ckV (U ++ (l.take j).map (·.ck))) ∧ Fr [] wA wx) (fun _ i _ => l.length - (intOf i).toNat)
         case atStart => exact ⟨0,Nat.zero_le _,rfl,by simpa using HOW.out,HF.out⟩
         case round =>
           obtain ⟨j,hj,rfl,ownj,Fj⟩:=hrel
           rename World => wJ
           obtain ⟨vj,vjc,rfl,-⟩:=own_outS ownj
           by_cases hlt2 : j < l.length
           · obtain ⟨y,hy⟩:=some_get l j hlt2
             obtain ⟨q3,o3,hao3,hq3,e0,e1,e2⟩:=(HRow.out wJ (FA.trans0 Fj)).sb hy hlt2
             subst hao3
             have HCK:=Lib.hid (HINN.out j y hy)
             obtain ⟨ysz,⟨yh,ys⟩⟩:=y
             dsimp only at e0 e1 e2 HCK
             clear hy
             obtain ⟨wC,hwC⟩ : ∃ wC,wC = wJ.alloc (.cells #[.int .u64 ysz.toNat,.bool yh,.int .u32 ys.toNat] 89):=⟨_,rfl⟩
             have FC : Fr [] wJ wC:=hwC ▸ (Fr.refl _ _).alloc _
             obtain ⟨z0,z1,z2⟩:=wbox3 (hwC ▸ Fr.refl [] wC : Fr [] (wJ.alloc (.cells #[.int .u64 ysz.toNat,.bool yh,.int .u32 ys.toNat] 89)) wC) (by simp)
             have hszC : wC.heap.size = wJ.heap.size + 1:=by rw [hwC];simp
             have HOC:=Lib.hid (own_frS (own_frS ownj FC (by simp)) ((Fr.refl [] wC).alloc (.cells #[.bool yh,.int .u32 ys.toNat] 68)) (by simp))
             have HNB:=Lib.hid (show (wC.alloc (.cells #[.bool yh,.int .u32 ys.toNat] 68)).heap[wJ.heap.size + 1]? = some (.cells #[.bool yh,.int .u32 ys.toNat] 68) from hszC ▸ heap_alloc_new wC _)
             have HSW:=Lib.hid (show wA.heap.size ≤ (wC.alloc (.cells #[.bool yh,.int .u32 ys.toNat] 68)).heap.size from by have:=(Fj.trans0 FC).size;rw [World.size_alloc];omega)
             subst hwC
             clear ownj hszC
             go_wp2_with (at_builtin;refine wpList_append_struct sty_ck rfl _ _ (by rfl) wA.heap.size _ _ _ (by rfl) HOC.out (wJ.heap.size + 1) [.bool yh,.int .u32 ys.toNat] (by rfl) HNB.out rfl rfl (by have h1:=HUK.out;rw [HE.out,List.length_map] at h1;omega) (by decide) HSW.out ?_;intro v7 w7 own7 g7;obtain ⟨vo7,vc7,rfl,-⟩:=own_outS own7)
             have F7 : Fr [] wA w7:=((Fj.trans0 FC).alloc _).grown g7 (fun q hq => .inr (own_ltS HOC.out q hq).1)
             go_roundw
             case rel => exact ⟨j + 1,by omega,by go_num,by rw [HCK.out];exact own7,F7⟩
             case measure => simp [intOf];omega
           · obtain rfl : j = l.length:=by omega
             rw [List.take_of_length_le (Nat.le_refl _)] at ownj
             have HOJ:=Lib.hid ownj
             clear ownj
             go_wp2_with fail
             go_roundw
             case rel => exact ⟨k + 1,by omega,by go_num,by rw [HTK.out,HE.out,List.length_append,List.length_map];exact HOJ.out,Fj⟩
             case measure => simp [intOf];omega
   · obtain rfl : k = S.length:=by omega
     have e1 : unkW (S.take S.length) (L.take S.length) = unkW S L:=by rw [List.take_of_length_le (Nat.le_refl _),List.take_of_length_le (by have:=HLn.out;omega)]
     have HE1:=Lib.hid e1
     have HOW:=Lib.hid (wown_mono own FA.size)
     clear own e1
     go_wp2_with fail
     go_ret
     refine ⟨_,rfl,?_,FA.trans0 F⟩
     rw [← HE1.out]
     exact HOW.out
end Go.Proofs.YtkodindajfdagaaGreatDoor
/- Contract: the writer's subs. No condition but that lengths fit. -/
namespace Go.Proofs.YtkodindajfdagaaGreatDoor
open Go.RowKit
def cntB (S : List (List Sub)) : List UInt8:=S.flatMap fun l => shortN l.length
def cutOf (l : List Sub) : List UInt8:=(l.take (l.length - 1)).flatMap fun s => shortN s.size.toNat
def cutB (S : List (List Sub)) : List UInt8:=S.flatMap cutOf
def subsW (S : List (List Sub)) (L : List Fol) : List UInt8 :=
 if S.any oddS = false ∧ (unkW S L).any (·.has) = false then []
 else 8 :: ((if S.any oddS then 13 :: (cntB S ++ (9 :: cutB S)) else []) ++ (sumsW (unkW S L) ++ [0]))
theorem cntB_take {S : List (List Sub)} {k : Nat} {l : List Sub} (h : S[k]? = some l) : cntB (S.take (k + 1)) = cntB (S.take k) ++ shortN l.length:=by
 unfold cntB
 rw [List.take_add_one,h,List.flatMap_append]
 congr 1
 simp only [Option.toList_some,List.flatMap_cons,List.flatMap_nil,List.append_nil]
theorem cntB_le {S : List (List Sub)} {k : Nat} {l : List Sub} (h : S[k]? = some l) : (cntB (S.take k)).length + (shortN l.length).length ≤ (cntB S).length:=by
 have h1:=flat_le (fun l : List Sub => shortN l.length) h
 unfold cntB
 exact h1
theorem cutB_take {S : List (List Sub)} {k : Nat} {l : List Sub} (h : S[k]? = some l) : cutB (S.take (k + 1)) = cutB (S.take k) ++ cutOf l:=by
 unfold cutB
 rw [List.take_add_one,h,List.flatMap_append]
 congr 1
 simp only [Option.toList_some,List.flatMap_cons,List.flatMap_nil,List.append_nil]
theorem cutB_le {S : List (List Sub)} {k : Nat} {l : List Sub} (h : S[k]? = some l) : (cutB (S.take k)).length + (cutOf l).length ≤ (cutB S).length:=by
 have h1:=flat_le cutOf h
 unfold cutB
 exact h1
set_option maxRecDepth 100000 in
set_option maxHeartbeats 8000000 in
theorem subs_one (w0 w : World) (lo p : Nat) (v fv sv : Value) (bs : List UInt8) (d : DW) (S : List (List Sub)) (L : List Fol) (W : WrAt w lo p v bs d) (F0 : Fr [] w0 w) (hp : w0.heap.size ≤ p) (hd : d.fo = fv ∧ d.su = sv) (hS : WSubsR w0 sv S) (hF : FolR w0 fv L) (hl : S.length = L.length) (hn : S.length ≤ 100000) (hr : ∀ l ∈ S,l.length ≤ 100000)
   (hne : ∀ l ∈ S,l ≠ []) (hu : ∀ k,(unkW (S.take k) (L.take k)).length ≤ 1000000) (hb : bs.length + (subsW S L).length ≤ 40000000) :
   Calls Tryz.prog 63 #[.pointer (some ⟨p,0,none⟩)] w fun e w' => e = .returned (.bool (S.any oddS || (unkW S L).any (·.has))) ∧ WrTo w lo p v (bs ++ subsW S L) d w':=by
 obtain ⟨sao,scap,rfl,-,-,so⟩:=hS.out
 obtain ⟨fao,fcap,rfl,-,-,-⟩:=hF.out
 obtain ⟨dpk,dpl,dps,dcs,dfo,dsu,des⟩:=d
 obtain ⟨h1,h2⟩:=hd
 dsimp only at h1 h2
 subst h1 h2
 have HW:=Lib.hid W
 have T0:=WrTo.refl W
 obtain ⟨c1,c2,c3,c4,c5,c6,c7⟩:=T0.cell
 dsimp only at c1 c2 c3 c4 c5 c6 c7
 have HC1:=Lib.hid (cfs_any w _ S (hS.fr F0))
 have HUN:=Lib.hid (wunknown_any w dpk dpl dps dcs des _ _ S L (hS.fr F0) (hF.fr F0) hl hn hr hu)
 have HSO:=Lib.hid so
 have HF0:=Lib.hid F0
 have HN:=Lib.hid hn
 have HRB:=Lib.hid hr
 have HNE:=Lib.hid hne
 have HUL:=Lib.hid (show (unkW S L).length ≤ 1000000 from by have:=hu S.length;rwa [List.take_of_length_le (Nat.le_refl _),List.take_of_length_le (by omega)] at this)
 obtain ⟨d,hd⟩ : ∃ d : DW,d = ⟨dpk,dpl,dps,dcs,.slice fao L.length fcap,.slice sao S.length scap,des⟩:=⟨_,rfl⟩
 rw [← hd] at HW T0 W ⊢
 have HCell:=Lib.hid (fun (w1 wx : World) (v1 : Value) (bs2 : List UInt8) (T : WrTo w1 lo p v1 bs2 d wx) => (show wx.cell? ⟨p,6,none⟩ = some (.slice sao S.length scap) from by have:=T.cell.2.2.2.2.2.1;rw [hd] at this;exact this))
 clear hd
 obtain ⟨UK,hUK⟩ : ∃ UK,UK = unkW S L:=⟨_,rfl⟩
 have HSW:=Lib.hid (show subsW S L = if S.any oddS = false ∧ UK.any (·.has) = false then [] else 8 :: ((if S.any oddS then 13 :: (cntB S ++ (9 :: cutB S)) else []) ++ (sumsW UK ++ [0])) by rw [hUK];rfl)
 have HUN2:=Lib.hid (show Calls Tryz.prog 92 #[.agg #[dpk,dpl,dps,dcs,.slice fao L.length fcap,.slice sao S.length scap,des]] w fun e w' => ∃ v,e = .returned v ∧ w'.ownsRow w.heap.size 68 2 v UK.length (ckV UK) ∧ Fr [] w w' by rw [hUK];exact HUN.out)
 rw [← hUK] at HUL ⊢
 clear hUK so hl hS hF hr hne hu HUN F0
 generalize hmany : S.any oddS = many at *
 have HMany:=Lib.hid hmany
 clear hmany
 go_enter Tryz.func63,Tryz.ntmps63
 go_upto_region 3 with (first
   | (go_at_call 90;refine HC1.out.mono ?_;rintro e w1 ⟨rfl,rfl⟩)
   | (go_at_call 92;refine HUN2.out.mono ?_;rintro e w2 ⟨vc,rfl,ownC,F2⟩;obtain ⟨vo,vcc,rfl,-⟩:=own_outS ownC))
 have HOC:=Lib.hid ownC
 have W2:=W.fr0 F2
 have HFR:=Lib.hid F2
 have HC2:=Lib.hid (cfc_any w2 w2.heap.size _ UK (RowAt.of_own ownC _ (Nat.le_refl _)))
 clear ownC c1 c2 c3 c4 c5 c6 c7 HC1
 cases many with
 | false =>
   cases hany : UK.any (·.has) with
   | false =>
     have HE:=Lib.hid (show subsW S L = [] by rw [HSW.out,if_pos ⟨rfl,hany⟩])
     have HC3:=HC2.out
     rw [hany] at HC3
     have HAny:=Lib.hid hany
     clear hany
     have hnot : ∀ (x : Bool) (w : World),(Op.unary .not (.bool x)).run Tryz.prog w = .ok (.bool (!x)) w:=fun _ _ => rfl
     go_wp2_with (go_at_call 93;refine HC3.mono ?_;rintro e w3 ⟨rfl,F3⟩)
     go_ret
     exact ⟨by rw [HAny.out];rfl,by rw [HE.out,List.append_nil];exact WrTo.fr0 (HFR.out.trans0 F3) (WrTo.refl (HW.out.fr0 (HFR.out.trans0 F3)))⟩
   | true =>
     have HE:=Lib.hid (show subsW S L = 8 :: (sumsW UK ++ [0]) by rw [HSW.out,if_neg (by simp [hany])];simp)
     have HL:=Lib.hid (show bs.length + (1 + (sumsW UK).length + 1) ≤ 40000000 by have:=hb;rw [HE.out] at this;simp only [List.length_append,List.length_cons,List.length_nil] at this;omega)
     have HC3:=HC2.out
     rw [hany] at HC3
     have HAny:=Lib.hid hany
     clear hany hb
     have hnot : ∀ (x : Bool) (w : World),(Op.unary .not (.bool x)).run Tryz.prog w = .ok (.bool (!x)) w:=fun _ _ => rfl
     go_upto_region 5 with (go_at_call 93;refine HC3.mono ?_;rintro e w3 ⟨rfl,F3⟩)
     have WX:=W2.fr0 F3
     have TX:=WrTo.refl WX
     have hpw : p < w.heap.size:=HW.out.lt
     have HOX:=Lib.hid (own_frS HOC.out F3 (by simp))
     have HOW:=Lib.hid (fun (cs : List UInt8) wx (T : WrTo _ lo p v cs d wx) => own_wr HOX.out T.frm (fun k hk => ⟨by have:=(own_ltS HOX.out k hk).1;omega,fun e2 => own_apart HOX.out WX.own (by decide) k hk e2⟩))
     go_wp2_with (first
       | (have hq:=T8;go_at_call 31;refine (wput_any (T8.then0 ((Fr.refl _ _).alloc _)) _ [0] (sl_one _ _ _) (by have:=HL.out;simp only [List.length_append,List.length_cons,List.length_nil];omega)).mono ?_;rintro e w9 ⟨rfl,T9⟩)
       | (have hq:=T4;go_at_call 88;refine (wsums_any T4 _ UK (RowSt.own (HOW.out _ _ T4) (by decide) hpw) HUL.out (by have:=HL.out;simp only [List.length_append,List.length_cons,List.length_nil];omega)).mono ?_;rintro e w8 ⟨rfl,T8⟩)
       | (go_at_call 31;refine (wput_any (TX.then0 ((Fr.refl _ _).alloc _)) _ [8] (sl_one _ _ _) (by have:=HL.out;simp only [List.length_cons,List.length_nil];omega)).mono ?_;rintro e w4 ⟨rfl,T4⟩))
     go_ret
     exact ⟨by rw [HAny.out];rfl,by rw [HE.out,show bs ++ 8 :: (sumsW UK ++ [0]) = ((bs ++ [8]) ++ sumsW UK) ++ [0] by simp];exact WrTo.fr0 (HFR.out.trans0 F3) T9⟩
 | true =>
   have HE:=Lib.hid (show subsW S L = 8 :: (13 :: (cntB S ++ (9 :: cutB S)) ++ (sumsW UK ++ [0])) by rw [HSW.out,if_neg (by simp)];simp)
   have HL:=Lib.hid (show bs.length + (2 + (cntB S).length + 1 + (cutB S).length + (sumsW UK).length + 1) ≤ 40000000 by have:=hb;rw [HE.out] at this;simp only [List.length_append,List.length_cons,List.length_nil] at this;omega)
   have hnot : ∀ (x : Bool) (w : World),(Op.unary .not (.bool x)).run Tryz.prog w = .ok (.bool (!x)) w:=fun _ _ => rfl
   clear hb
   have WX:=W2
   have TX:=WrTo.refl WX
   have hpw : p < w.heap.size:=HW.out.lt
   have HOX:=Lib.hid (own_frS HOC.out (Fr.refl [] w2) (by simp))
   have HOW:=Lib.hid (fun (cs : List UInt8) wx (T : WrTo _ lo p v cs d wx) => own_wr HOX.out T.frm (fun k hk => ⟨by have:=(own_ltS HOX.out k hk).1;omega,fun e2 => own_apart HOX.out WX.own (by decide) k hk e2⟩))
   have HBF:=Lib.hid (fun (cs : List UInt8) wx (T : WrTo w2 lo p v cs d wx) => T.base WX (HF0.out.trans0 HFR.out) hp)
   go_upto_region 8 with (first
     | (have hq:=T4;go_at_call 31;refine (wput_any (T4.then0 ((Fr.refl _ _).alloc _)) _ [13] (sl_one _ _ _) (by have:=HL.out;simp only [List.length_append,List.length_cons,List.length_nil];omega)).mono ?_;rintro e w5 ⟨rfl,T5⟩)
     | (go_at_call 31;refine (wput_any (TX.then0 ((Fr.refl _ _).alloc _)) _ [8] (sl_one _ _ _) (by have:=HL.out;simp only [List.length_cons,List.length_nil];omega)).mono ?_;rintro e w4 ⟨rfl,T4⟩))
   obtain ⟨b5,hb5⟩ : ∃ b5,b5 = (bs ++ [8]) ++ [13]:=⟨_,rfl⟩
   rw [← hb5] at T5
   have HL5:=Lib.hid (show b5.length = bs.length + 2 by rw [hb5];simp only [List.length_append,List.length_cons,List.length_nil])
   have HXE:=Lib.hid (show bs ++ subsW S L = ((((b5 ++ cntB S) ++ [9]) ++ cutB S) ++ sumsW UK) ++ [0] by rw [HE.out,hb5];simp)
   clear hb5 T4
   have e6:=HCell.out _ _ _ _ T5
   go_wp2_with fail
   go_loopw [42] (fun i wr => ∃ k : Nat,k ≤ S.length ∧ i = .int .i64 k ∧ WrTo w2 lo p v (b5 ++ cntB (S.take k)) d wr) (fun i _ => S.length - (intOf i).toNat)
   case atStart => exact ⟨0,Nat.zero_le _,rfl,by simpa [cntB] using T5⟩
   case round =>
     obtain ⟨k,hk,rfl,T⟩:=hrel
     by_cases hlt : k < S.length
     · obtain ⟨l,hx⟩:=some_get S k hlt
       obtain ⟨q1,o1,lv,hao,hq1,e0,hrow⟩:=HSO.out k l hx
       subst hao
       obtain ⟨lo1,lc1,rfl,-,-,-⟩:=hrow.out
       have FW:=HBF.out _ _ T
       have hq1':=Nat.lt_of_lt_of_le hq1 FW.size
       have f0:=(FW.cell (p:=⟨q1,o1 + k,none⟩) hq1 (by simp)).trans e0
       have hll:=HRB.out l (List.mem_of_getElem? hx)
       have hwl : IntKind.u64.wrap (l.length : Int) = (l.length : Int):=by simp [IntKind.wrap,IntKind.bits,IntKind.signed];omega
       have HTK:=Lib.hid (cntB_take hx)
       have HTL:=Lib.hid (cntB_le hx)
       clear hx e0 hrow
       go_wp2_with (go_at_call 64;refine (wnumber_any T l.length (by have:=HL.out;have:=HL5.out;have:=HTL.out;rw [List.length_append];omega) (by omega)).mono ?_;rintro e w6 ⟨rfl,T6⟩)
       go_roundw
       case rel => exact ⟨k + 1,by omega,by go_num,by rw [HTK.out,← List.append_assoc];exact T6⟩
       case measure => simp [intOf];omega
     · obtain rfl : k = S.length:=by omega
       rw [List.take_of_length_le (Nat.le_refl _)] at T
       obtain ⟨b6,hb6⟩ : ∃ b6,b6 = b5 ++ cntB S:=⟨_,rfl⟩
       rw [← hb6] at T HXE
       have HL6:=Lib.hid (show b6.length = b5.length + (cntB S).length by rw [hb6,List.length_append])
       clear hb6 T5 e6
       go_upto_region 14 with (go_at_call 31;refine (wput_any (T.then0 ((Fr.refl _ _).alloc _)) _ [9] (sl_one _ _ _) (by have:=HL.out;have:=HL5.out;have:=HL6.out;simp only [List.length_cons,List.length_nil];omega)).mono ?_;rintro e w7 ⟨rfl,T7⟩)
       obtain ⟨b7,hb7⟩ : ∃ b7,b7 = b6 ++ [9]:=⟨_,rfl⟩
       rw [← hb7] at T7 HXE
       have HL7:=Lib.hid (show b7.length = b6.length + 1 by rw [hb7,List.length_append,List.length_singleton])
       clear hb7 T
       have e6:=HCell.out _ _ _ _ T7
       go_wp2_with fail
       go_loopw [61] (fun i wx => ∃ j : Nat,j ≤ S.length ∧ i = .int .i64 j ∧ WrTo w2 lo p v (b7 ++ cutB (S.take j)) d wx) (fun i _ => S.length - (intOf i).toNat)
       case atStart => exact ⟨0,Nat.zero_le _,rfl,by simpa [cutB] using T7⟩
       case round =>
         obtain ⟨j,hj,rfl,T⟩:=hrel
         rename World => wJ
         by_cases hlt : j < S.length
         · obtain ⟨l,hx⟩:=some_get S j hlt
           obtain ⟨q1,o1,lv,hao,hq1,e0,hrow⟩:=HSO.out j l hx
           subst hao
           obtain ⟨lo1,lc1,rfl,hlc1,hlc2,-⟩:=hrow.out
           have FW:=HBF.out _ _ T
           have hq1':=Nat.lt_of_lt_of_le hq1 FW.size
           have f0:=(FW.cell (p:=⟨q1,o1 + j,none⟩) hq1 (by simp)).trans e0
           have hll:=HRB.out l (List.mem_of_getElem? hx)
           have hl0:=List.length_pos_iff.2 (HNE.out l (List.mem_of_getElem? hx))
           have HTK:=Lib.hid (cutB_take hx)
           have HTL:=Lib.hid (cutB_le hx)
           have HRow:=Lib.hid (fun wx (Fx : Fr [] w0 wx) => hrow.fr0 Fx)
           obtain ⟨b8,hb8⟩ : ∃ b8,b8 = b7 ++ cutB (S.take j):=⟨_,rfl⟩
           have HFIN:=Lib.hid (show b7 ++ cutB (S.take (j + 1)) = b8 ++ cutOf l by rw [HTK.out,← List.append_assoc,← hb8])
           have HLC:=Lib.hid (show b8.length + (cutOf l).length ≤ 40000000 by rw [hb8,List.length_append];have:=HTL.out;have:=HL.out;have:=HL5.out;have:=HL6.out;have:=HL7.out;omega)
           rw [← hb8] at T
           have HLL:=Lib.hid (show (l.take (l.length - 1)).length = l.length - 1 by rw [List.length_take];omega)
           have hlI : (l.length : Int) ≤ (lc1 : Int):=by omega
           have hl0I : (0 : Int) < (l.length : Int):=by omega
           clear hx e0 hrow hb8
           go_wp2_with fail
           go_loopw [71] (fun i wx => ∃ m : Nat,m ≤ l.length - 1 ∧ i = .int .i64 m ∧ WrTo w2 lo p v (b8 ++ ((l.take (l.length - 1)).take m).flatMap (fun s => shortN s.size.toNat)) d wx) (fun i _ => l.length - 1 - (intOf i).toNat)
           case atStart => exact ⟨0,Nat.zero_le _,rfl,by simpa using T⟩
           case round =>
             obtain ⟨m,hm,rfl,Tm⟩:=hrel
             rename World => wM
             by_cases hlt2 : m < l.length - 1
             · obtain ⟨y,hy⟩:=some_get (l.take (l.length - 1)) m (by rw [HLL.out];exact hlt2)
               have hy2 : l[m]? = some y:=by have h:=hy;rw [List.getElem?_take,if_pos hlt2] at h;exact h
               obtain ⟨q3,o3,hao3,hq3,e0,e1,e2⟩:=(HRow.out wM (HBF.out _ _ Tm)).sb hy2 (by omega)
               subst hao3
               have HTM:=Lib.hid (flat_le (fun s : Sub => shortN s.size.toNat) hy)
               have HTN:=Lib.hid (show ((l.take (l.length - 1)).take (m + 1)).flatMap (fun s => shortN s.size.toNat) = ((l.take (l.length - 1)).take m).flatMap (fun s => shortN s.size.toNat) ++ shortN y.size.toNat by
                 rw [List.take_add_one,hy,List.flatMap_append]
                 congr 1
                 simp only [Option.toList_some,List.flatMap_cons,List.flatMap_nil,List.append_nil])
               have hyl:=y.size.toNat_lt
               obtain ⟨ysz,⟨yh,ys⟩⟩:=y
               dsimp only at e0 e1 e2 hyl HTN HTM
               have hbnd : (b8 ++ ((l.take (l.length - 1)).take m).flatMap (fun s => shortN s.size.toNat)).length ≤ 100000000:=by
                 have h1:=HTM.out
                 have h2:=HLC.out
                 unfold cutOf at h2
                 rw [List.length_append]
                 omega
               have FC : Fr [] wM (wM.alloc (.cells #[.int .u64 ysz.toNat,.bool yh,.int .u32 ys.toNat] 89)):=(Fr.refl _ _).alloc _
               have TC:=Tm.then0 FC
               clear hy hy2
               go_wp2_with (go_at_call 64;refine (wnumber_any TC ysz.toNat hbnd hyl).mono ?_;rintro e w6 ⟨rfl,T6⟩)
               go_roundw
               case rel => exact ⟨m + 1,by omega,by go_num,by rw [HTN.out,← List.append_assoc];exact T6⟩
               case measure => simp [intOf];omega
             · obtain rfl : m = l.length - 1:=by omega
               have Te : WrTo w2 lo p v (b8 ++ cutOf l) d wM:=by
                 have h:=Tm
                 rw [List.take_of_length_le (by rw [HLL.out];exact Nat.le_refl _)] at h
                 exact h
               rw [← HFIN.out] at Te
               clear Tm
               go_wp2_with fail
               go_roundw
               case rel => exact ⟨j + 1,by omega,by go_num,Te⟩
               case measure => simp [intOf];omega
         · obtain rfl : j = S.length:=by omega
           rw [List.take_of_length_le (Nat.le_refl _)] at T
           obtain ⟨b8,hb8⟩ : ∃ b8,b8 = b7 ++ cutB S:=⟨_,rfl⟩
           rw [← hb8] at T HXE
           have HL8:=Lib.hid (show b8.length = b7.length + (cutB S).length by rw [hb8,List.length_append])
           clear hb8 T7 e6
           go_wp2_with (first
             | (have hq:=T8;go_at_call 31;refine (wput_any (T8.then0 ((Fr.refl _ _).alloc _)) _ [0] (sl_one _ _ _) (by have:=HL.out;have:=HL5.out;have:=HL6.out;have:=HL7.out;have:=HL8.out;simp only [List.length_append,List.length_cons,List.length_nil];omega)).mono ?_;rintro e w9 ⟨rfl,T9⟩)
             | (go_at_call 88;refine (wsums_any T _ UK (RowSt.own (HOW.out _ _ T) (by decide) hpw) HUL.out (by have:=HL.out;have:=HL5.out;have:=HL6.out;have:=HL7.out;have:=HL8.out;omega)).mono ?_;rintro e w8 ⟨rfl,T8⟩))
           go_ret
           exact ⟨rfl,by rw [HXE.out];exact WrTo.fr0 HFR.out T9⟩
end Go.Proofs.YtkodindajfdagaaGreatDoor
/- Contract: the writer's streams. No condition but that lengths fit. -/
namespace Go.Proofs.YtkodindajfdagaaGreatDoor
open Go.RowKit
structure StD where
 pl : UInt64
 ps : List UInt64
 cs : List Ck
 L : List Fol
 S : List (List Sub)
structure StR (w0 : World) (d : DW) (D : StD) : Prop where
 pl : d.pl = .int .u64 D.pl.toNat
 ps : RowAt w0 w0.heap.size 1 d.ps D.ps.length (u64v D.ps)
 cs : RowAt w0 w0.heap.size 2 d.cs D.cs.length (ckV D.cs)
 fo : FolR w0 d.fo D.L
 su : WSubsR w0 d.su D.S
structure StOk (D : StD) : Prop where
 fo : ∀ x ∈ D.L,FolOk x.f
 ne : ∀ l ∈ D.S,l ≠ []
 len : D.S.length = D.L.length
 n1 : D.ps.length ≤ 100000
 n2 : D.cs.length ≤ 100000
 n3 : D.S.length ≤ 100000
 n4 : ∀ l ∈ D.S,l.length ≤ 100000
 n5 : ∀ k,(unkW (D.S.take k) (D.L.take k)).length ≤ 1000000
def StD.p1 (D : StD) : Bool:=!(decide (D.ps = []) && (D.pl == 0))
def StD.p2 (D : StD) : Bool:=!(decide (D.L = []))
def StD.p3 (D : StD) : Bool:=D.S.any oddS || (unkW D.S D.L).any (·.has)
def StD.some (D : StD) : Bool:=D.p3 || (D.p2 || D.p1)
def strmW (D : StD) : List UInt8:=packsW D.pl D.ps D.cs ++ (foldersW D.L ++ (subsW D.S D.L ++ [0]))
set_option maxRecDepth 100000 in
set_option maxHeartbeats 4000000 in
theorem streams_one (w0 w : World) (lo p : Nat) (v : Value) (bs : List UInt8) (d : DW) (D : StD) (W : WrAt w lo p v bs d) (F0 : Fr [] w0 w) (hp : w0.heap.size ≤ p) (hR : StR w0 d D) (hok : StOk D) (hb : bs.length + (strmW D).length ≤ 40000000) :
   Calls Tryz.prog 32 #[.pointer (some ⟨p,0,none⟩)] w fun e w' => e = .returned (.bool D.some) ∧ WrTo w lo p v (bs ++ strmW D) d w':=by
 have hmf : ∀ (fn : Fn) (first cap : Array Value) (w : World),(Instr.makeFunc fn first cap).run Tryz.prog w = .ok (.func fn first cap) w:=fun _ _ _ _ => rfl
 have HE:=Lib.hid (show bs ++ strmW D = (((bs ++ packsW D.pl D.ps D.cs) ++ foldersW D.L) ++ subsW D.S D.L) ++ [0] by unfold strmW;simp only [List.append_assoc])
 have HL:=Lib.hid (show bs.length + (packsW D.pl D.ps D.cs).length + (foldersW D.L).length + (subsW D.S D.L).length + 1 ≤ 40000000 by have:=hb;unfold strmW at this;simp only [List.length_append,List.length_singleton] at this;omega)
 obtain ⟨wA,hwA⟩ : ∃ wA,wA = w.alloc (.cells #[.func (.func 61) #[.pointer (some ⟨p,0,none⟩)] #[],.func (.func 62) #[.pointer (some ⟨p,0,none⟩)] #[],.func (.func 63) #[.pointer (some ⟨p,0,none⟩)] #[]] 24):=⟨_,rfl⟩
 have FA : Fr [] w wA:=hwA ▸ (Fr.refl _ _).alloc _
 have WA:=W.fr0 FA
 have TA:=WrTo.refl WA
 have HK:=Lib.hid (fun (cs : List UInt8) (w2 : World) (T : WrTo wA lo p v cs d w2) => show w2.cell? ⟨w.heap.size,0,none⟩ = some (.func (.func 61) #[.pointer (some ⟨p,0,none⟩)] #[]) ∧ w2.cell? ⟨w.heap.size,1,none⟩ = some (.func (.func 62) #[.pointer (some ⟨p,0,none⟩)] #[]) ∧ w2.cell? ⟨w.heap.size,2,none⟩ = some (.func (.func 63) #[.pointer (some ⟨p,0,none⟩)] #[]) from by
   have hs : w.heap.size < wA.heap.size:=by rw [hwA];simp
   have hns : w.heap.size ∉ p :: v.ownBlock.toList:=fun hmm => by
     simp only [List.mem_cons,Option.mem_toList] at hmm
     rcases hmm with hmm | hmm
     · have:=W.lt;omega
     · have:=(W.gs _ hmm).2;omega
   have key : ∀ i,w2.cell? ⟨w.heap.size,i,none⟩ = _:=fun i => (T.frm.cell (p:=⟨w.heap.size,i,none⟩) hs hns).trans (by rw [hwA,Go.Joins.cell_of_block (heap_alloc_new w _)])
   exact ⟨by rw [key];rfl,by rw [key];rfl,by rw [key];rfl⟩)
 have HBF:=Lib.hid (fun (cs : List UInt8) (w2 : World) (T : WrTo wA lo p v cs d w2) => T.base WA (F0.trans0 FA) hp)
 have HP1:=Lib.hid (fun (cs : List UInt8) (w2 : World) (T : WrTo wA lo p v cs d w2) (hc : cs.length + (packsW D.pl D.ps D.cs).length ≤ 50000000) => (show Calls Tryz.prog 61 #[.pointer (some ⟨p,0,none⟩)] w2 fun e w' => e = .returned (.bool D.p1) ∧ WrTo wA lo p v (cs ++ packsW D.pl D.ps D.cs) d w' from T.chain fun v1 W1 => by
   obtain ⟨d1,d2,d3,d4,d5,d6,d7⟩:=d
   have e1:=hR.pl
   dsimp only at e1
   subst e1
   exact packs_one w2 lo p w0.heap.size v1 d1 d3 d4 d5 d6 d7 cs D.pl D.ps D.cs W1 hp (hR.ps.fr0 (HBF.out _ _ T)) (hR.cs.fr0 (HBF.out _ _ T)) (by have:=hok.n2;omega) (by have:=hok.n1;omega) hc))
 have HP2:=Lib.hid (fun (cs : List UInt8) (w2 : World) (T : WrTo wA lo p v cs d w2) (hc : cs.length + (foldersW D.L).length ≤ 40000000) => (show Calls Tryz.prog 62 #[.pointer (some ⟨p,0,none⟩)] w2 fun e w' => e = .returned (.bool D.p2) ∧ WrTo wA lo p v (cs ++ foldersW D.L) d w' from T.chain fun v1 W1 => folders_one w0 w2 lo p v1 d.fo cs d D.L W1 (HBF.out _ _ T) hp rfl hR.fo hok.fo (by have:=hok.n3;have:=hok.len;omega) hc))
 have HP3:=Lib.hid (fun (cs : List UInt8) (w2 : World) (T : WrTo wA lo p v cs d w2) (hc : cs.length + (subsW D.S D.L).length ≤ 40000000) => (show Calls Tryz.prog 63 #[.pointer (some ⟨p,0,none⟩)] w2 fun e w' => e = .returned (.bool D.p3) ∧ WrTo wA lo p v (cs ++ subsW D.S D.L) d w' from T.chain fun v1 W1 => subs_one w0 w2 lo p v1 d.fo d.su cs d D.S D.L W1 (HBF.out _ _ T) hp ⟨rfl,rfl⟩ hR.su hR.fo hok.len hok.n3 hok.n4 hok.ne hok.n5 hc))
 have HSM:=Lib.hid (show D.some = (D.p3 || (D.p2 || D.p1)) from rfl)
 generalize D.some = sm at *
 obtain ⟨b1,hb1⟩ : ∃ b1,b1 = bs ++ packsW D.pl D.ps D.cs:=⟨_,rfl⟩
 obtain ⟨b2,hb2⟩ : ∃ b2,b2 = b1 ++ foldersW D.L:=⟨_,rfl⟩
 obtain ⟨b3,hb3⟩ : ∃ b3,b3 = b2 ++ subsW D.S D.L:=⟨_,rfl⟩
 rw [← hb1,← hb2,← hb3] at HE
 have hl1:=congrArg List.length hb1
 have hl2:=congrArg List.length hb2
 have hl3:=congrArg List.length hb3
 rw [List.length_append] at hl1 hl2 hl3
 have hL:=HL.out
 have Q1:=Lib.hid (HP1.out bs wA TA (by omega))
 have Q2:=Lib.hid (fun w2 T => HP2.out b1 w2 T (by omega))
 have Q3:=Lib.hid (fun w2 T => HP3.out b2 w2 T (by omega))
 have hb3l : b3.length + 1 ≤ 40000000:=by omega
 rw [← hb1] at Q1
 rw [← hb2] at Q2
 rw [← hb3] at Q3
 clear hl1 hl2 hl3 hL HP1 HP2 HP3 hb1 hb2 hb3 hR hok hb HL W F0
 generalize D.p1 = p1 at *
 generalize D.p2 = p2 at *
 generalize D.p3 = p3 at *
 obtain ⟨k0,k1,k2⟩:=HK.out _ _ TA
 cases p1 <;> cases p2 <;> cases p3
 all_goals
   go_enter Tryz.func32,Tryz.ntmps32
   go_wp2_with fail
   rw [← hwA]
   clear hwA
   refine wp_loop_rounds 4 ?_
   rw [rounds_succ]
   go_wp2_with (go_at_call 61;refine Q1.out.mono ?_;rintro e w2 ⟨rfl,T1⟩;obtain ⟨l0,l1,l2⟩:=HK.out _ _ T1)
   rw [rounds_succ]
   go_wp2_with (go_at_call 62;refine (Q2.out w2 T1).mono ?_;rintro e w3 ⟨rfl,T2⟩;obtain ⟨m0,m1,m2⟩:=HK.out _ _ T2)
   rw [rounds_succ]
   go_wp2_with (go_at_call 63;refine (Q3.out w3 T2).mono ?_;rintro e w4 ⟨rfl,T3⟩)
   rw [rounds_succ]
   go_wp2_with (go_at_call 31;refine (wput_any (T3.then0 ((Fr.refl _ _).alloc _)) _ [0] (sl_one _ _ _) (by rw [List.length_singleton];omega)).mono ?_;rintro e w7 ⟨rfl,T7⟩)
   go_ret
   exact ⟨by rw [HSM.out];rfl,by rw [HE.out];exact WrTo.fr0 FA T7⟩
end Go.Proofs.YtkodindajfdagaaGreatDoor
