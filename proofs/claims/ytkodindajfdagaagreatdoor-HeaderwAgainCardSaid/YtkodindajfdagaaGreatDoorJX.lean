/- Contracts: the writer's streams where there are none. No condition. -/
import Derived.Test.YtkodindajfdagaaGreatDoorJS
import Derived.LoopN
import Derived.Test.YtkodindajfdagaaGreatDoorJW
import Derived.Test.YtkodindajfdagaaGreatDoorKG
namespace Go.Proofs.YtkodindajfdagaaGreatDoor
open Go.RowKit
def d0 (pk cs es : Value) : DW:=⟨pk,.int .u64 0,.slice none 0 0,cs,.slice none 0 0,.slice none 0 0,es⟩
set_option maxRecDepth 100000 in
theorem packs0_any (wx : World) (lo p : Nat) (v : Value) (bs : List UInt8) (pk cs es : Value) (h : WrAt wx lo p v bs (d0 pk cs es)) :
   Calls Tryz.prog 61 #[.pointer (some ⟨p,0,none⟩)] wx fun e w' => e = .returned (.bool false) ∧ wx = w':=by
 obtain ⟨c0,c1,c2,c3,c4,c5,c6,c7,cz⟩:=cells8 h.blk
 dsimp only [d0] at c1 c2 c3 c4 c5 c6 c7
 clear h
 go_enter Tryz.func61,Tryz.ntmps61
 go_wp2_with fail
 go_ret
 exact ⟨rfl,rfl⟩
set_option maxRecDepth 100000 in
theorem folders0_any (wx : World) (lo p : Nat) (v : Value) (bs : List UInt8) (pk cs es : Value) (h : WrAt wx lo p v bs (d0 pk cs es)) :
   Calls Tryz.prog 62 #[.pointer (some ⟨p,0,none⟩)] wx fun e w' => e = .returned (.bool false) ∧ wx = w':=by
 obtain ⟨c0,c1,c2,c3,c4,c5,c6,c7,cz⟩:=cells8 h.blk
 dsimp only [d0] at c1 c2 c3 c4 c5 c6 c7
 clear h
 go_enter Tryz.func62,Tryz.ntmps62
 go_wp2_with fail
 go_ret
 exact ⟨rfl,rfl⟩
set_option maxRecDepth 100000 in
theorem cfs0_any (w : World) (fv : Value) : Calls Tryz.prog 90 #[.slice none 0 0,fv] w fun e w' => e = .returned (.bool false) ∧ w = w':=by
 go_enter Tryz.func90,Tryz.ntmps90
 go_wp2
 refine wp_loop_rounds 1 ?_
 rw [rounds_succ]
 go_wp2
 go_ret
 exact ⟨rfl,rfl⟩
set_option maxRecDepth 100000 in
theorem cfc0_any (w : World) (fv : Value) : Calls Tryz.prog 93 #[.slice none 0 0,fv] w fun e w' => e = .returned (.bool false) ∧ w = w':=by
 go_enter Tryz.func93,Tryz.ntmps93
 go_wp2
 refine wp_loop_rounds 1 ?_
 rw [rounds_succ]
 go_wp2
 go_ret
 exact ⟨rfl,rfl⟩
set_option maxRecDepth 100000 in
theorem unknown0_any (w : World) (pk cs es : Value) : Calls Tryz.prog 92 #[.agg #[pk,.int .u64 0,.slice none 0 0,cs,.slice none 0 0,.slice none 0 0,es]] w fun e w' => e = .returned (.slice none 0 0) ∧ Fr [] w w':=by
 go_enter Tryz.func92,Tryz.ntmps92
 go_wp2_with fail
 refine wp_loop_rounds 1 ?_
 rw [rounds_succ]
 go_wp2_with fail
 go_ret
 exact ⟨rfl,(Fr.refl _ _).alloc _⟩
set_option maxRecDepth 100000 in
theorem subs0_any (wx : World) (lo p : Nat) (v : Value) (bs : List UInt8) (pk cs es : Value) (h : WrAt wx lo p v bs (d0 pk cs es)) :
   Calls Tryz.prog 63 #[.pointer (some ⟨p,0,none⟩)] wx fun e w' => e = .returned (.bool false) ∧ Fr [] wx w':=by
 obtain ⟨c0,c1,c2,c3,c4,c5,c6,c7,cz⟩:=cells8 h.blk
 dsimp only [d0] at c1 c2 c3 c4 c5 c6 c7
 clear h
 go_enter Tryz.func63,Tryz.ntmps63
 go_wp2_with (first
   | (go_at_call 90;refine (cfs0_any wx _).mono ?_;rintro e w1 ⟨rfl,rfl⟩)
   | (go_at_call 92;refine (unknown0_any wx _ _ _).mono ?_;rintro e w2 ⟨rfl,F2⟩)
   | (go_at_call 93;refine (cfc0_any w2 _).mono ?_;rintro e w3 ⟨rfl,rfl⟩))
 go_ret
 exact ⟨rfl,F2⟩
set_option maxRecDepth 100000 in
set_option maxHeartbeats 2000000 in
theorem streams0_any {w wx : World} {lo p : Nat} {v : Value} {bs : List UInt8} {pk cs es : Value} (T : WrTo w lo p v bs (d0 pk cs es) wx) (hb : bs.length ≤ 1000000) :
   Calls Tryz.prog 32 #[.pointer (some ⟨p,0,none⟩)] wx fun e w' => e = .returned (.bool false) ∧ WrTo w lo p v (bs ++ [0]) (d0 pk cs es) w':=by
 have hmf : ∀ (fn : Fn) (first cap : Array Value) (w : World),(Instr.makeFunc fn first cap).run Tryz.prog w = .ok (.func fn first cap) w:=fun _ _ _ _ => rfl
 obtain ⟨wA,hwA⟩ : ∃ wA,wA = wx.alloc (.cells #[.func (.func 61) #[.pointer (some ⟨p,0,none⟩)] #[],.func (.func 62) #[.pointer (some ⟨p,0,none⟩)] #[],.func (.func 63) #[.pointer (some ⟨p,0,none⟩)] #[]] 24):=⟨_,rfl⟩
 have FA : Fr [] wx wA:=hwA ▸ (Fr.refl _ _).alloc _
 have T1:=T.then0 FA
 have HK:=Lib.hid (fun w2 (F : Fr [] wA w2) => show w2.cell? ⟨wx.heap.size,0,none⟩ = some (.func (.func 61) #[.pointer (some ⟨p,0,none⟩)] #[]) ∧ w2.cell? ⟨wx.heap.size,1,none⟩ = some (.func (.func 62) #[.pointer (some ⟨p,0,none⟩)] #[]) ∧ w2.cell? ⟨wx.heap.size,2,none⟩ = some (.func (.func 63) #[.pointer (some ⟨p,0,none⟩)] #[]) from by
   have hs : wx.heap.size < wA.heap.size:=by rw [hwA];simp
   have key : ∀ i,w2.cell? ⟨wx.heap.size,i,none⟩ = _:=fun i => (F.cell (p:=⟨wx.heap.size,i,none⟩) hs (by simp)).trans (by rw [hwA,Go.Joins.cell_of_block (heap_alloc_new wx _)])
   exact ⟨by rw [key];rfl,by rw [key];rfl,by rw [key];rfl⟩)
 obtain ⟨k0,k1,k2⟩:=HK.out wA (Fr.refl _ _)
 go_enter Tryz.func32,Tryz.ntmps32
 go_wp2_with fail
 rw [← hwA]
 clear hwA
 refine wp_loop_rounds 4 ?_
 rw [rounds_succ]
 obtain ⟨v1,W1,-,-⟩:=T1.out
 go_wp2_with (go_at_call 61;refine (packs0_any wA lo p v1 bs pk cs es W1).mono ?_;rintro e w2 ⟨rfl,rfl⟩)
 rw [rounds_succ]
 go_wp2_with (go_at_call 62;refine (folders0_any wA lo p v1 bs pk cs es W1).mono ?_;rintro e w2 ⟨rfl,rfl⟩)
 rw [rounds_succ]
 go_wp2_with (go_at_call 63;refine (subs0_any wA lo p v1 bs pk cs es W1).mono ?_;rintro e w2 ⟨rfl,F2⟩)
 have T2:=T1.then0 F2
 rw [rounds_succ]
 go_wp2_with (go_at_call 31;refine (wput_any (T2.then0 ((Fr.refl _ _).alloc _)) _ [0] (sl_one _ _ _) (by simp;omega)).mono ?_;rintro e w7 ⟨rfl,T7⟩)
 go_ret
 exact ⟨rfl,T7⟩
end Go.Proofs.YtkodindajfdagaaGreatDoor
/- Contracts: headerw.Write of descriptions that have files alone. No condition but that lengths fit. -/
namespace Go.Proofs.YtkodindajfdagaaGreatDoor
open Go.RowKit
set_option maxRecDepth 100000 in
theorem sizes0_any (w : World) : Calls Tryz.prog 79 #[.slice none 0 0] w fun e w' => e = .returned (.bool true) ∧ w = w':=by
 go_enter Tryz.func79,Tryz.ntmps79
 go_wp2_with fail
 refine wp_loop_rounds 1 ?_
 rw [rounds_succ]
 go_wp2_with fail
 go_ret
 exact ⟨rfl,rfl⟩
set_option maxRecDepth 100000 in
theorem mayStreams0_any (w : World) (es : Value) : Calls Tryz.prog 44 #[.agg #[.bool false,.int .u64 0,.slice none 0 0,.slice none 0 0,.slice none 0 0,.slice none 0 0,es]] w fun e w' => e = .returned (.tuple #[.int .i64 ((0 : Nat) : Int),.bool true]) ∧ Fr [] w w':=by
 obtain ⟨wA,hwA⟩ : ∃ wA,wA = w.alloc (.cells #[.bool false,.int .u64 0,.slice none 0 0,.slice none 0 0,.slice none 0 0,.slice none 0 0,es] 38):=⟨_,rfl⟩
 have FA : Fr [] w wA:=hwA ▸ (Fr.refl _ _).alloc _
 obtain ⟨k0,k1,k2,k3,k4,k5,k6⟩:=wbox7 (hwA ▸ Fr.refl [] wA : Fr [] (w.alloc (.cells #[.bool false,.int .u64 0,.slice none 0 0,.slice none 0 0,.slice none 0 0,.slice none 0 0,es] 38)) wA) (by simp)
 go_enter Tryz.func44,Tryz.ntmps44
 go_wp2_with (go_at_call 79;rw [← hwA];refine (sizes0_any wA).mono ?_;rintro e w1 ⟨rfl,rfl⟩)
 clear hwA
 refine wp_loop_rounds 1 ?_
 rw [rounds_succ]
 go_wp2_with fail
 refine wp_loop_rounds 1 ?_
 rw [rounds_succ]
 go_wp2_with fail
 first | go_ret2 | (go_region;all_goals (try go_wp2);all_goals go_ret2)
 all_goals exact ⟨rfl,by first | exact FA | exact FA.drew | exact (Fr.refl _ _).alloc _ | exact ((Fr.refl _ _).alloc _).drew | exact ((Fr.refl _ _).alloc _).drewN _⟩
theorem own_cut {w : World} {base e n : Nat} {v : Value} {xs : List Value} (h : w.ownsRow base e 1 v n xs) (m : Nat) (hm : m ≤ n) (h0 : 0 < m) : ∃ g cap,v = .slice (some ⟨g,0,none⟩) n cap ∧ n ≤ cap ∧ w.ownsRow base e 1 (.slice (some ⟨g,0,none⟩) m cap) m (xs.take m):=by
 have hx:=h.1
 rcases h.2 with ⟨rfl,hn⟩ | ⟨g,cap,cur,rfl,hb,hg,hnc,hcm,hcs,htake⟩
 · omega
 · refine ⟨g,cap,rfl,hnc,by simp;omega,.inr ⟨g,cap,cur,rfl,hb,hg,by omega,hcm,hcs,?_⟩⟩
   rw [← htake,List.take_take]
   congr 1
   omega
def Writ0 (F : List Fil) (w : World) (e : Ending) (w' : World) : Prop:=∃ v,e = .returned (.tuple #[v,.int .i64 0]) ∧ Sl w' v (bv (1 :: (filesW F ++ [0]))) ∧ Fr [] w w'
set_option maxRecDepth 100000 in
set_option maxHeartbeats 4000000 in
theorem write0_any (w : World) (es : Value) (F : List Fil) (hF : RowAt w w.heap.size 7 es F.length (fiV F)) (hG : Gl w) (hn : F.length ≤ 1000000) (hb : (filesW F).length ≤ 50000000) (hv : ∀ x ∈ F,x.name.length ≤ 100000) (hm : F.all mayFil = true) (hs : streamN F = 0) :
   Calls Tryz.prog 14 #[.agg #[.bool false,.int .u64 0,.slice none 0 0,.slice none 0 0,.slice none 0 0,.slice none 0 0,es]] w (Writ0 F w):=by
 obtain ⟨wA,hwA⟩ : ∃ wA,wA = w.alloc (.cells #[.bool false,.int .u64 0,.slice none 0 0,.slice none 0 0,.slice none 0 0,.slice none 0 0,es] 38):=⟨_,rfl⟩
 have FA : Fr [] w wA:=hwA ▸ (Fr.refl _ _).alloc _
 have HBX:=Lib.hid (fun wx (F2 : Fr [] wA wx) => wbox7 (hwA ▸ F2 : Fr [] (w.alloc (.cells #[.bool false,.int .u64 0,.slice none 0 0,.slice none 0 0,.slice none 0 0,.slice none 0 0,es] 38)) wx) (by simp))
 obtain ⟨k0,k1,k2,k3,k4,k5,k6⟩:=HBX.out wA (Fr.refl _ _)
 have HR:=Lib.hid hF
 have HG:=Lib.hid hG
 have HB:=Lib.hid hb
 have HN:=Lib.hid hn
 have HMY:=Lib.hid (may_files wA w.heap.size (.int .u64 0) (.slice none 0 0) (.slice none 0 0) (.slice none 0 0) es none 0 0 0 F (hF.fr0 FA) (hG.fr FA) hn (by omega) hv (fun wx _ => mayStreams0_any wx es))
 have hmr : mayR true false 0 0 F = true:=by simp [mayR,hm,hs]
 rw [hmr] at HMY
 have HV:=Lib.hid (show ∀ x ∈ F,(runesL x.name).isSome = true ∧ x.name.length ≤ 100000 from fun x hx => by
   have h1:=List.all_eq_true.1 hm x hx
   refine ⟨?_,hv x hx⟩
   unfold mayFil at h1
   simp only [Bool.and_eq_true] at h1
   exact h1.1.1.1.1)
 clear hF hG hm hs hv hmr
 have hnot : ∀ (x : Bool) (w : World),(Op.unary .not (.bool x)).run Tryz.prog w = .ok (.bool (!x)) w:=fun _ _ => rfl
 go_enter Tryz.func14,Tryz.ntmps14
 go_upto_region 3 with (go_at_call 17;rw [← hwA];refine HMY.out.mono ?_;rintro e w1 ⟨rfl,F1⟩;obtain ⟨l0,l1,l2,l3,l4,l5,l6⟩:=HBX.out w1 F1)
 have hSZ : w.heap.size < w1.heap.size:=by have:=F1.size;rw [hwA] at this;simp at this;omega
 clear k0 k1 k2 k3 k4 k5 k6 hwA
 have F1w:=FA.trans0 F1
 obtain ⟨wP,hwP⟩ : ∃ wP,wP = w1.alloc (.cells #[.slice none 0 0,.bool false,.int .u64 0,.slice none 0 0,.slice none 0 0,.slice none 0 0,.slice none 0 0,es] 78):=⟨_,rfl⟩
 have FP : Fr [] w1 wP:=hwP ▸ (Fr.refl _ _).alloc _
 have WP : WrAt wP (w1.heap.size + 1) w1.heap.size (.slice none 0 0) [] (d0 (.bool false) (.slice none 0 0) es):=⟨hwP ▸ heap_alloc_new w1 _,World.ownsRow_nil _ _ _ _,by omega,by rw [hwP];simp⟩
 obtain ⟨m0,m1,m2,m3,m4,m5,m6⟩:=HBX.out wP (F1.trans0 FP)
 have sP : wP.heap.size = w1.heap.size + 1:=by rw [hwP];simp
 go_upto_region 4 with fail
 rw [← hwP]
 clear hwP l0 l1 l2 l3 l4 l5 l6
 have HSL:=Lib.hid (show Sl (wP.alloc (.cells #[.int .u8 1,.int .u8 4] 5)) (.slice (some ⟨w1.heap.size + 1,0,none⟩) 2 2) (bv [1,4]) from sP ▸ sl_lit wP 5 (bv [1,4]) 2 rfl (by decide))
 have HSL2:=Lib.hid (show Sl (wP.alloc (.cells #[.int .u8 1,.int .u8 4] 5)) (.slice (some ⟨wP.heap.size,0,none⟩) 2 2) (bv [1,4]) from sl_lit wP 5 (bv [1,4]) 2 rfl (by decide))
 go_upto_region 10 with (first
   | (have hq:=T1;go_at_call 32;refine (streams0_any T1 (by decide)).mono ?_;rintro e w3 ⟨rfl,T2⟩)
   | (go_at_call 31;refine (wput_any ((WrTo.refl WP).then0 ((Fr.refl _ _).alloc _)) _ [1,4] (by first | exact HSL.out | exact HSL2.out) (by decide)).mono ?_;rintro e w2 ⟨rfl,T1⟩))
 obtain ⟨v3,W3,F3,hk3⟩:=T2.out
 obtain ⟨g,cap,rfl,hc3,own1⟩:=own_cut W3.own 1 (by decide) (by decide)
 obtain ⟨c0,-,-,-,-,-,-,-,cz⟩:=cells8 W3.blk
 have hcI : (3 : Int) ≤ (cap : Int):=by have : 3 ≤ cap:=hc3;omega
 have hgs:=W3.gs g rfl
 have hgp:=W3.hp
 have F4 : Fr [w1.heap.size] w3 (w3.setCell ⟨w1.heap.size,0,none⟩ (.slice (some ⟨g,0,none⟩) 1 cap)):=(Fr.refl _ _).setCell (by simp) _
 have T3 : WrTo wP (w1.heap.size + 1) w1.heap.size (.slice none 0 0) [1] (d0 (.bool false) (.slice none 0 0) es) (w3.setCell ⟨w1.heap.size,0,none⟩ (.slice (some ⟨g,0,none⟩) 1 cap)) :=
   ⟨_,⟨Go.Joins.block_setCell W3.blk _,own_frS own1 F4 (fun k hk hm => by cases hk;simp at hm;omega),W3.hp,Nat.le_trans W3.hl F4.size⟩,F3.trans F4 (by simp),fun k hk => hk3 k hk⟩
 go_upto_region 11 with fail
 have HRP:=(HR.out.fr0 (F1w.trans0 FP)).wr WP (by omega) T3
 have HGP:=((HG.out.fr (F1w.trans0 FP))).frS T3.frm (WP.above (by have:=HG.out.sz;omega))
 have HNP:=Lib.hid (F1w.trans0 FP)
 obtain ⟨w4,hw4⟩ : ∃ w4,w4 = w3.setCell ⟨w1.heap.size,0,none⟩ (.slice (some ⟨g,0,none⟩) 1 cap):=⟨_,rfl⟩
 rw [← hw4] at T3 HRP HGP ⊢
 clear hw4 F4 own1 c0 cz W3 F3 hk3 T2 T1 hq
 have h3 : 2 ≤ w1.heap.size:=by have:=HG.out.sz;omega
 have h4 : w.heap.size ≤ w1.heap.size:=by omega
 go_wp2_with (first
   | (have hq:=T5;go_at_call 31;refine (wput_any (T5.then0 ((Fr.refl _ _).alloc _)) _ [0] (sl_one _ _ _) (by have:=HB.out;simp only [List.length_append,List.length_singleton];omega)).mono ?_;rintro e w6 ⟨rfl,T6⟩;obtain ⟨v6,W6,F6,-⟩:=T6.out;obtain ⟨vo6,vc6,rfl,-⟩:=own_out W6.own;have c6:=(cells8 W6.blk).1)
   | (go_at_call 33;refine (wfiles_any T3 F HRP h4 h3 HGP HN.out (by have:=HB.out;simp only [List.length_singleton];omega) HV.out).mono ?_;rintro e w5 ⟨rfl,T5⟩))
 go_ret2
 refine ⟨_,rfl,?_,HNP.out.trans F6 (fun i hi => ?_)⟩
 · have:=Sl.of_own W6.own
   rw [show ([1] ++ filesW F ++ [0] : List UInt8).length = (filesW F).length + 1 + 1 by simp,List.append_assoc] at this
   exact this
 · simp only [List.mem_cons,Option.mem_toList] at hi
   rcases hi with rfl | hi
   · exact .inr h4
   · cases hi
end Go.Proofs.YtkodindajfdagaaGreatDoor
