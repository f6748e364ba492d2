/- Contract: the writer's rows. No condition but that lengths fit. -/
import Derived.Test.YtkodindajfdagaaGreatDoorJS
import Derived.Test.YtkodindajfdagaaGreatDoorJT
import Derived.Deep.DeepCutAuto
namespace Go.Proofs.YtkodindajfdagaaGreatDoor
open Go.RowKit
theorem info_boolW : (Tryz.prog.info? 4).map (fun i => (i.zero,i.size,i.bytes)) = some (some (.bool false),1,1):=by kernel_rfl
theorem sty_boolW : SlTy Tryz.prog 144 4 (.bool false) 1:=⟨Tryz.underlying144,by obtain ⟨i,h⟩:=info_parts info_boolW;exact ⟨i,h⟩,rfl⟩
theorem emptyB_take {F : List Fil} {k : Nat} {x : Fil} (h : F[k]? = some x) : emptyB (F.take (k + 1)) = emptyB (F.take k) ++ [!x.stream]:=by
 simp [emptyB,List.take_add_one,h]
theorem plainB_take {F : List Fil} {k : Nat} {x : Fil} (h : F[k]? = some x) : plainB (F.take (k + 1)) = plainB (F.take k) ++ (if x.stream then [] else [!x.dir]):=by
 unfold plainB
 rw [List.take_add_one,h]
 cases hs : x.stream <;> simp [hs]
theorem emptyB_len (F : List Fil) : (emptyB F).length = F.length:=by simp [emptyB]
theorem plainB_len (F : List Fil) : (plainB F).length ≤ F.length:=by
 unfold plainB
 rw [List.length_map]
 exact List.length_filter_le _ _
theorem packBits_len (l : List Bool) : (packBits l).length = (l.length + 7) / 8:=by simp [packBits,packF_length]
theorem partW_len (id : UInt8) (x : List UInt8) : (partW id x).length ≤ x.length + 10:=by
 have:=shortN_le x.length
 simp [partW]
 omega
theorem own_grown {w w' : World} {base e sz n : Nat} {v u : Value} {xs : List Value} (h : w.ownsRow base e sz u n xs) (g : w.grownBy w' v.ownBlock) (h1 : ∀ k,u.ownBlock = some k → v.ownBlock ≠ some k) : w'.ownsRow base e sz u n xs :=
 own_frS (S:=v.ownBlock.toList) h ((Fr.refl _ _).grown g (fun k hk => .inl (by simp [hk]))) fun k hk hm => h1 k hk (by simpa using hm)
structure TwoB (w : World) (lo : Nat) (a b : Value) (xs ys : List Bool) : Prop where
 oa : w.ownsRow lo 4 1 a xs.length (tv xs)
 ob : w.ownsRow lo 4 1 b ys.length (tv ys)
 ne : ∀ k,a.ownBlock = some k → b.ownBlock ≠ some k
theorem TwoB.fr0 {w w' : World} {lo : Nat} {a b : Value} {xs ys : List Bool} (h : TwoB w lo a b xs ys) (F : Fr [] w w') : TwoB w' lo a b xs ys:=⟨own_frS h.oa F (by simp),own_frS h.ob F (by simp),h.ne⟩
theorem TwoB.ga {w w' : World} {lo : Nat} {a b a' : Value} {xs ys xs' : List Bool} (h : TwoB w lo a b xs ys) (g : w.grownBy w' a.ownBlock) (o : w'.ownsRow lo 4 1 a' xs'.length (tv xs')) (hat : a'.ownBlock = a.ownBlock ∨ a'.ownBlock = some w.heap.size) : TwoB w' lo a' b xs' ys :=
 ⟨o,own_grown h.ob g (fun k hk e => h.ne k e hk),fun k hk e => by
   rcases hat with ha | ha
   · exact h.ne k (ha ▸ hk) e
   · have h1:=(own_ltS h.ob k e).2
     rw [ha] at hk
     cases hk
     omega⟩
theorem TwoB.gb {w w' : World} {lo : Nat} {a b b' : Value} {xs ys ys' : List Bool} (h : TwoB w lo a b xs ys) (g : w.grownBy w' b.ownBlock) (o : w'.ownsRow lo 4 1 b' ys'.length (tv ys')) (hat : b'.ownBlock = b.ownBlock ∨ b'.ownBlock = some w.heap.size) : TwoB w' lo a b' xs ys' :=
 ⟨own_grown h.oa g (fun k hk e => h.ne k hk e),o,fun k hk e => by
   rcases hat with ha | ha
   · exact h.ne k hk (ha ▸ e)
   · have h1:=(own_ltS h.oa k hk).2
     rw [ha] at e
     cases e
     omega⟩
theorem TwoB.wr {w wx : World} {lo2 lo p : Nat} {a b v : Value} {xs ys : List Bool} {bs : List UInt8} {d : DW} (h : TwoB w lo2 a b xs ys) (T : WrTo w lo p v bs d wx) (hp : p < lo2) (hv : ∀ k,v.ownBlock = some k → k < lo2) : TwoB wx lo2 a b xs ys:=by
 have key : ∀ u n (zs : List Bool),w.ownsRow lo2 4 1 u n (tv zs) → wx.ownsRow lo2 4 1 u n (tv zs):=fun u n zs o => own_wr o T.frm fun k hk => by
   have h1:=(own_ltS o k hk).1
   refine ⟨by omega,fun e => ?_⟩
   have:=hv k e
   omega
 exact ⟨key _ _ _ h.oa,key _ _ _ h.ob,h.ne⟩
theorem pb_new (w : World) (v : Value) (row : List Bool) (h : Sl w v (tv row)) (hr : row.length ≤ 1000000) : Calls Tryz.prog 97 #[.slice none 0 0,v] w (NewBytes (packBits row) w) :=
 putbits_any w _ v [] row (Sl.nil w) h (by have : ([] : List UInt8).length = 0:=rfl;omega) (by omega)
set_option maxRecDepth 100000 in
set_option maxHeartbeats 4000000 in
theorem rows1_any (w : World) (lo p hi : Nat) (v : Value) (bs : List UInt8) (d : DW) (F : List Fil) (h : WrAt w lo p v bs d) (hF : RowAt w hi 7 d.es F.length (fiV F)) (hn : F.length ≤ 1000000) (hb : bs.length ≤ 80000000) :
   Calls Tryz.prog 65 #[.pointer (some ⟨p,0,none⟩)] w fun e w' => e = .returned (.tuple #[]) ∧ WrTo w lo p v (bs ++ rowsW F) d w':=by
 have HW:=Lib.hid h
 obtain ⟨eao,ecap,he,hec,hem,-⟩:=hF.out
 have HR:=Lib.hid hF
 rw [he] at HR
 obtain ⟨c0,c1,c2,c3,c4,c5,c6,c7,cz⟩:=cells8 h.blk
 rw [he] at c7
 clear h hF he
 have HB:=Lib.hid hb
 have HN:=Lib.hid hn
 go_enter Tryz.func65,Tryz.ntmps65
 refine wp_seq_k fun K0 hK0 => ?_
 go_cut [2,3] (fun v2 v3 wx => v2 = .slice none 0 0 ∧ v3 = .slice none 0 0 ∧ wx = w)
 case first =>
   clear hK0
   go_wp2_with fail
   go_meet
   case rel => exact ⟨rfl,rfl,rfl⟩
 case rest =>
 obtain ⟨rfl,rfl,hw⟩:=hcut
 have hw':=hw.symm
 clear hw
 subst hw'
 (refine hK0 _ _ ?_;clear hK0;refine wp_seq_k fun K1 hK1 => ?_)
 go_cut [2,3] (fun v2 v3 wx => ∃ ve vf,v2 = ve ∧ v3 = vf ∧ TwoB wx w.heap.size ve vf (emptyB F) (plainB F) ∧ Fr [] w wx)
 case first =>
   clear hK1
   go_wp2_with fail
   go_loopw [2,3,12] (fun v2 v3 i wr => ∃ (k : Nat),k ≤ F.length ∧ i = .int .i64 k ∧ TwoB wr w.heap.size v2 v3 (emptyB (F.take k)) (plainB (F.take k)) ∧ Fr [] w wr) (fun _ _ i _ => F.length - (intOf i).toNat)
   case atStart => exact ⟨0,Nat.zero_le _,rfl,⟨World.ownsRow_nil _ _ _ _,World.ownsRow_nil _ _ _ _,fun k hk => by cases hk⟩,Fr.refl _ _⟩
   case round =>
     obtain ⟨k,hk,rfl,B2,F2⟩:=hrel
     by_cases hlt : k < F.length
     · obtain ⟨x,hx⟩:=some_get F k hlt
       obtain ⟨b1,o1,hao,hb1,e0,e1,e2,e3,e4,e5,e6⟩:=(HR.out.fr0 F2).fil hx hlt
       subst hao
       obtain ⟨nm,st,dir,ha,attr,ht,tm⟩:=x
       dsimp only at e0 e1 e2 e3 e4 e5 e6
       have HX1:=Lib.hid (emptyB_take hx)
       have HX2:=Lib.hid (plainB_take hx)
       have HB2:=Lib.hid B2
       have HLE:=Lib.hid (show (emptyB (F.take k)).length = k by rw [emptyB_len,List.length_take];omega)
       have HLP:=Lib.hid (show (plainB (F.take k)).length ≤ k by have:=plainB_len (F.take k);rw [List.length_take] at this;omega)
       obtain ⟨vao,vcap,rfl,-⟩:=own_out B2.oa
       obtain ⟨fao,fcap,rfl,-⟩:=own_out B2.ob
       have HVL:=Lib.hid (fun q hq => (own_ltS B2.oa q hq))
       have HFL:=Lib.hid (fun q hq => (own_ltS B2.ob q hq))
       have hnot : ∀ (x : Bool) (w : World),(Op.unary .not (.bool x)).run Tryz.prog w = .ok (.bool (!x)) w:=fun _ _ => rfl
       clear hx B2
       obtain ⟨wB,hwB⟩ : ∃ wB,wB = wr.alloc (.cells #[.string ⟨nm.toArray⟩,.bool st,.bool dir,.bool ha,.int .u32 attr.toNat,.bool ht,.int .u64 tm.toNat] 54):=⟨_,rfl⟩
       have FB0 : Fr [] wr wB:=hwB ▸ (Fr.refl _ _).alloc _
       have HBX:=Lib.hid (fun (S : List Nat) wx (F : Fr S wB wx) (hS : wr.heap.size ∉ S) => wbox7 (hwB ▸ F : Fr S (wr.alloc (.cells #[.string ⟨nm.toArray⟩,.bool st,.bool dir,.bool ha,.int .u32 attr.toNat,.bool ht,.int .u64 tm.toNat] 54)) wx) hS)
       obtain ⟨d0,d1,d2,d3,d4,d5,d6⟩:=HBX.out [] wB (Fr.refl _ _) (by simp)
       have HTB:=Lib.hid (HB2.out.fr0 FB0)
       have sB : wB.heap.size = wr.heap.size + 1:=by rw [hwB];simp
       have HSL:=Lib.hid (fun (y : Bool) => (show Sl (wB.alloc (.cells #[.bool y] 4)) (.slice (some ⟨wr.heap.size + 1,0,none⟩) 1 1) [.bool y] from sB ▸ sl_one wB 4 (.bool y)))
       have HF2:=Lib.hid F2
       have HBS:=Lib.hid hwB
       subst hwB
       clear sB F2
       have HAP:=Lib.hid (fun (v4 : Value) (w4 : World) (g4 : ((wr.alloc (.cells #[.string ⟨nm.toArray⟩,.bool st,.bool dir,.bool ha,.int .u32 attr.toNat,.bool ht,.int .u64 tm.toNat] 54)).alloc (.cells #[.bool (!st)] 4)).grownBy w4 (Value.slice vao (emptyB (F.take k)).length vcap).ownBlock) => (show Fr [] w w4 from ((HF2.out.trans0 FB0).alloc _).grown g4 (fun q hq => .inr (HVL.out q hq).1)))
       have HAB:=Lib.hid (fun (v4 : Value) (w4 : World) (g4 : ((wr.alloc (.cells #[.string ⟨nm.toArray⟩,.bool st,.bool dir,.bool ha,.int .u32 attr.toNat,.bool ht,.int .u64 tm.toNat] 54)).alloc (.cells #[.bool (!st)] 4)).grownBy w4 (Value.slice vao (emptyB (F.take k)).length vcap).ownBlock) => HBX.out (Value.slice vao (emptyB (F.take k)).length vcap).ownBlock.toList w4 (((Fr.refl _ _).alloc _).grown g4 (fun q hq => .inl (by simp [hq]))) (fun hm => by have:=(HVL.out _ (by simpa using hm)).2;omega))
       cases st with
       | false =>
         go_wp2_with (at_builtin;refine wpList_append_sl_at sty_boolW rfl _ _ (by rfl) w.heap.size _ _ _ (by rfl) (HTB.out.fr0 ((Fr.refl _ _).alloc _)).oa _ [.bool true] (by rfl) (HSL.out true) (by intro u hu;simp at hu;subst hu;rfl) (by simp;have:=HLE.out;have:=HN.out;omega) (by simp;have:=HLE.out;have:=HN.out;omega) (by have:=HF2.out.size;simp;omega) ?_)
         intro v4 w4 own4 g4 at4
         obtain ⟨b0,b1,b2,b3,b4,b5,b6⟩:=HAB.out v4 w4 g4
         have HF4:=Lib.hid (HAP.out v4 w4 g4)
         have HT4:=Lib.hid ((HTB.out.fr0 ((Fr.refl _ _).alloc _)).ga (xs':=emptyB (F.take (k + 1))) g4 (by rw [HX1.out,tv_append,List.length_append];exact own4) (by simpa using at4))
         obtain ⟨vao4,vcap4,rfl,-⟩:=own_out own4
         obtain ⟨fo4,ho4⟩ : ∃ x,x = HT4.out.ob:=⟨_,rfl⟩
         clear own4 g4 at4 ho4 fo4
         go_wp2_with (at_builtin;refine wpList_append_sl_at sty_boolW rfl _ _ (by rfl) w.heap.size _ _ _ (by rfl) (HT4.out.fr0 ((Fr.refl _ _).alloc _)).ob _ [.bool (!dir)] (by rfl) (sl_one _ _ _) (by intro u hu;simp at hu;subst hu;rfl) (by simp;have:=HLP.out;have:=HN.out;omega) (by simp;have:=HLP.out;have:=HN.out;omega) (by have:=HF4.out.size;simp;omega) ?_)
         intro v5 w5 own5 g5 at5
         have HF5:=Lib.hid (show Fr [] w w5 from (HF4.out.alloc _).grown g5 (fun q hq => .inr (own_ltS HT4.out.ob q hq).1))
         have HT5:=Lib.hid ((HT4.out.fr0 ((Fr.refl _ _).alloc _)).gb (ys':=plainB (F.take (k + 1))) g5 (by rw [HX2.out,tv_append,List.length_append];exact own5) (by simpa using at5))
         obtain ⟨vao5,vcap5,rfl,-⟩:=own_out own5
         clear own5 g5 at5
         go_wp2_with fail
         go_roundw
         case rel => exact ⟨k + 1,by omega,by go_num,by have:=HT5.out;rw [HX1.out] at this ⊢;exact this,HF5.out⟩
         case measure => simp [intOf];omega
       | true =>
         go_wp2_with (at_builtin;refine wpList_append_sl_at sty_boolW rfl _ _ (by rfl) w.heap.size _ _ _ (by rfl) (HTB.out.fr0 ((Fr.refl _ _).alloc _)).oa _ [.bool false] (by rfl) (HSL.out false) (by intro u hu;simp at hu;subst hu;rfl) (by simp;have:=HLE.out;have:=HN.out;omega) (by simp;have:=HLE.out;have:=HN.out;omega) (by have:=HF2.out.size;simp;omega) ?_)
         intro v4 w4 own4 g4 at4
         obtain ⟨b0,b1,b2,b3,b4,b5,b6⟩:=HAB.out v4 w4 g4
         have HF4:=Lib.hid (HAP.out v4 w4 g4)
         have HT4:=Lib.hid ((HTB.out.fr0 ((Fr.refl _ _).alloc _)).ga (xs':=emptyB (F.take (k + 1))) g4 (by rw [HX1.out,tv_append,List.length_append];exact own4) (by simpa using at4))
         obtain ⟨vao4,vcap4,rfl,-⟩:=own_out own4
         clear own4 g4 at4
         have HP0:=Lib.hid (show plainB (F.take (k + 1)) = plainB (F.take k) by rw [HX2.out];simp)
         go_wp2_with fail
         go_roundw
         case rel => exact ⟨k + 1,by omega,by go_num,by have:=HT4.out;rw [HP0.out];exact this,HF4.out⟩
         case measure => simp [intOf];omega
     · obtain rfl : k = F.length:=by omega
       rw [List.take_of_length_le (Nat.le_refl _)] at B2
       go_wp2_with fail
       go_meet
       case rel => exact ⟨_,_,rfl,rfl,B2,F2⟩
 case rest =>
 obtain ⟨ve,vf,rfl,rfl,B1,F1⟩:=hcut
 obtain ⟨vao,vcap,rfl,-⟩:=own_out B1.oa
 obtain ⟨fao,fcap,rfl,-⟩:=own_out B1.ob
 obtain ⟨wS,hwS⟩ : ∃ wS,wS = wc:=⟨_,rfl⟩
 rw [← hwS] at B1 F1 ⊢
 clear hwS
 have T1:=WrTo.refl (HW.out.fr0 F1)
 have HB1:=Lib.hid B1
 have HKeep:=Lib.hid (fun (bs2 : List UInt8) (w2 : World) (T : WrTo wS lo p v bs2 d w2) => B1.wr T HW.out.lt (fun k hk => (HW.out.gs k hk).2))
 have HF1:=Lib.hid F1
 have HLE:=Lib.hid (emptyB_len F)
 have HLP:=Lib.hid (plainB_len F)
 have hPE:=packBits_len (emptyB F)
 have hPP:=packBits_len (plainB F)
 rw [emptyB_len] at hPE
 have hw1:=partW_len 14 (packBits (emptyB F))
 have hplp:=plainB_len F
 have HL1:=Lib.hid (show bs.length + (packBits (emptyB F)).length ≤ 90000000 ∧ bs.length + (partW 14 (packBits (emptyB F))).length + (packBits (plainB F)).length ≤ 90000000 ∧ bs.length + (packBits (plainB F)).length ≤ 90000000 by omega)
 clear B1 F1 c0 c1 c2 c3 c4 c5 c6 c7 cz hPE hPP hw1 hplp
 (refine hK1 _ _ ?_;clear hK1;refine wp_seq_k fun K2 hK2 => ?_)
 go_cut [] (fun wx => WrTo wS lo p v (bs ++ (if plainB F = [] then [] else partW 14 (packBits (emptyB F)))) d wx)
 case first =>
   clear hK2
   by_cases hp : plainB F = []
   · have HE:=Lib.hid (show (if plainB F = [] then [] else partW 14 (packBits (emptyB F))) = [] from if_pos hp)
     have t0 : ¬ (0 : Int) < ((plainB F).length : Int):=by rw [hp];simp
     clear hp
     go_wp2_with fail
     go_meet
     case rel => rw [HE.out,List.append_nil];exact T1
   · have HE:=Lib.hid (show (if plainB F = [] then [] else partW 14 (packBits (emptyB F))) = partW 14 (packBits (emptyB F)) from if_neg hp)
     have t0 : (0 : Int) < ((plainB F).length : Int):=by have:=List.length_pos_iff.2 hp;omega
     clear hp
     go_wp2_with (first
       | (have hq:=own2;go_at_call 96;refine (wpart_any T1 F2 _ (packBits (emptyB F)) 14 own2 HL1.out.1).mono ?_;rintro e w3 ⟨rfl,T3⟩)
       | (go_at_call 97;refine (pb_new wS _ (emptyB F) (Sl.of_own HB1.out.oa) (by have:=HLE.out;have:=HN.out;omega)).mono ?_;rintro e w2 ⟨r,rfl,own2,F2⟩;obtain ⟨ro,rc,rfl,-⟩:=own_out own2))
     go_meet
     case rel => rw [HE.out];exact T3
 case rest =>
 obtain ⟨wT,hwT⟩ : ∃ wT,wT = wc:=⟨_,rfl⟩
 rw [← hwT] at hcut ⊢
 clear hwT
 have T2:=hcut
 clear hcut
 refine hK2 _ _ ?_
 clear hK2
 have HT2:=Lib.hid T2
 have HB2:=Lib.hid (HKeep.out _ _ T2)
 have hR : bs ++ rowsW F = (bs ++ (if plainB F = [] then [] else partW 14 (packBits (emptyB F)))) ++ (if true ∈ plainB F then partW 15 (packBits (plainB F)) else []):=by unfold rowsW;rw [List.append_assoc]
 have HL2:=Lib.hid (show (bs ++ (if plainB F = [] then [] else partW 14 (packBits (emptyB F)))).length + (packBits (plainB F)).length ≤ 90000000 by
   rw [List.length_append]
   split
   · have:=HL1.out.2.2;simpa using this
   · exact HL1.out.2.1)
 have HC:=Lib.hid (containst_any wT _ (plainB F) (Sl.of_own HB2.out.ob))
 rw [hR]
 generalize (bs ++ (if plainB F = [] then [] else partW 14 (packBits (emptyB F)))) = bs2 at *
 by_cases hp : true ∈ plainB F
 · rw [if_pos hp]
   rw [decide_eq_true hp] at HC
   clear hp
   go_wp2_with (first
     | (have hq:=own2;go_at_call 96;refine (wpart_any HT2.out F2 _ (packBits (plainB F)) 15 own2 HL2.out).mono ?_;rintro e w3 ⟨rfl,T3⟩)
     | (go_at_call 97;refine (pb_new wT _ (plainB F) (Sl.of_own HB2.out.ob) (by have:=HLP.out;have:=HN.out;omega)).mono ?_;rintro e w2 ⟨r,rfl,own2,F2⟩;obtain ⟨ro,rc,rfl,-⟩:=own_out own2)
     | (go_at_call 98;refine HC.out.mono ?_;rintro e w1 ⟨rfl,rfl⟩))
   go_end0
   exact ⟨rfl,WrTo.fr0 HF1.out T3⟩
 · rw [if_neg hp,List.append_nil]
   rw [decide_eq_false hp] at HC
   clear hp
   go_wp2_with (go_at_call 98;refine HC.out.mono ?_;rintro e w1 ⟨rfl,rfl⟩)
   go_end0
   exact ⟨rfl,WrTo.fr0 HF1.out HT2.out⟩
end Go.Proofs.YtkodindajfdagaaGreatDoor
/- Contract: the writer's numbers. No condition but that lengths fit. -/
namespace Go.Proofs.YtkodindajfdagaaGreatDoor
open Go.RowKit
theorem own_apart {w : World} {b1 b2 e1 e2 s1 s2 n m : Nat} {u v : Value} {xs ys : List Value} (h1 : w.ownsRow b1 e1 s1 u n xs) (h2 : w.ownsRow b2 e2 s2 v m ys) (he : e1 ≠ e2) : ∀ k,u.ownBlock = some k → v.ownBlock ≠ some k:=fun k hu hv => by
 rcases h1.2 with ⟨rfl,_⟩ | ⟨g,cap,cur,rfl,hb,hg,_⟩
 · simp [Value.ownBlock] at hu
 rcases h2.2 with ⟨rfl,_⟩ | ⟨g2,cap2,cur2,rfl,hb2,hg2,_⟩
 · simp [Value.ownBlock] at hv
 simp [Value.ownBlock] at hu hv
 subst hu hv
 rw [hg] at hg2
 injection hg2 with h
 injection h with _ h3 _
 exact he h3
theorem time_any (w : World) (x : Fil) : Calls Tryz.prog 68 #[.agg x.cells.toArray] w fun e w' => e = .returned (.tuple #[.int .u64 (x.time.toNat : Int),.bool x.hasTime]) ∧ Fr [] w w':=by
 obtain ⟨nm,st,dir,ha,attr,ht,tm⟩:=x
 show Calls _ _ #[.agg #[.string ⟨nm.toArray⟩,.bool st,.bool dir,.bool ha,.int .u32 attr.toNat,.bool ht,.int .u64 tm.toNat]] w _
 go_enter Tryz.func68,Tryz.ntmps68
 obtain ⟨wB,hwB⟩ : ∃ wB,wB = w.alloc (.cells #[.string ⟨nm.toArray⟩,.bool st,.bool dir,.bool ha,.int .u32 attr.toNat,.bool ht,.int .u64 tm.toNat] 54):=⟨_,rfl⟩
 have FB0 : Fr [] w wB:=hwB ▸ (Fr.refl _ _).alloc _
 obtain ⟨d0,d1,d2,d3,d4,d5,d6⟩:=wbox7 (hwB ▸ Fr.refl [] wB : Fr [] (w.alloc (.cells #[.string ⟨nm.toArray⟩,.bool st,.bool dir,.bool ha,.int .u32 attr.toNat,.bool ht,.int .u64 tm.toNat] 54)) wB) (by simp)
 go_wp2_with fail
 rw [← hwB]
 clear hwB
 go_region
 all_goals (try go_wp2)
 all_goals go_ret2
 all_goals exact ⟨by first | rfl | (rw [h1]),by first | exact FB0 | exact FB0.drew | exact FB0.drewN _⟩
theorem attr_any (w : World) (x : Fil) : Calls Tryz.prog 69 #[.agg x.cells.toArray] w fun e w' => e = .returned (.tuple #[.int .u64 (x.attr.toNat : Int),.bool x.hasAttr]) ∧ Fr [] w w':=by
 obtain ⟨nm,st,dir,ha,attr,ht,tm⟩:=x
 have h1 : IntKind.u64.wrap (attr.toNat : Int) = (attr.toNat : Int):=by have:=attr.toNat_lt;simp [IntKind.wrap,IntKind.bits,IntKind.signed];omega
 show Calls _ _ #[.agg #[.string ⟨nm.toArray⟩,.bool st,.bool dir,.bool ha,.int .u32 attr.toNat,.bool ht,.int .u64 tm.toNat]] w _
 go_enter Tryz.func69,Tryz.ntmps69
 obtain ⟨wB,hwB⟩ : ∃ wB,wB = w.alloc (.cells #[.string ⟨nm.toArray⟩,.bool st,.bool dir,.bool ha,.int .u32 attr.toNat,.bool ht,.int .u64 tm.toNat] 54):=⟨_,rfl⟩
 have FB0 : Fr [] w wB:=hwB ▸ (Fr.refl _ _).alloc _
 obtain ⟨d0,d1,d2,d3,d4,d5,d6⟩:=wbox7 (hwB ▸ Fr.refl [] wB : Fr [] (w.alloc (.cells #[.string ⟨nm.toArray⟩,.bool st,.bool dir,.bool ha,.int .u32 attr.toNat,.bool ht,.int .u64 tm.toNat] 54)) wB) (by simp)
 go_wp2_with fail
 rw [← hwB]
 clear hwB
 go_region
 all_goals (try go_wp2)
 all_goals go_ret2
 all_goals exact ⟨by first | rfl | (rw [h1]),by first | exact FB0 | exact FB0.drew | exact FB0.drewN _⟩
theorem hasV_take {of : Fil → Nat × Bool} {F : List Fil} {k : Nat} {x : Fil} (h : F[k]? = some x) : hasV of (F.take (k + 1)) = hasV of (F.take k) ++ [(of x).2]:=by
 simp [hasV,List.take_add_one,h]
theorem valsV_take {of : Fil → Nat × Bool} {size : Nat} {F : List Fil} {k : Nat} {x : Fil} (h : F[k]? = some x) : valsV of size (F.take (k + 1)) = valsV of size (F.take k) ++ (if (of x).2 then leBytes size (of x).1 else []):=by
 simp [valsV,List.take_add_one,h]
theorem hasV_len (of : Fil → Nat × Bool) (F : List Fil) : (hasV of F).length = F.length:=by simp [hasV]
theorem valsV_len (of : Fil → Nat × Bool) (size : Nat) : ∀ F : List Fil,(valsV of size F).length ≤ F.length * size
 | [] => by simp [valsV]
 | x :: t => by
   have:=valsV_len of size t
   unfold valsV at *
   rw [List.flatMap_cons,List.length_append,List.length_cons,Nat.add_mul,Nat.one_mul]
   split
   · rw [leBytes_length];omega
   · rw [List.length_nil];omega
theorem toldN_len (row : List Bool) : (toldN row).length ≤ row.length + 8:=by
 unfold toldN
 split
 · simp
 · simp [packBits_len];omega
set_option maxRecDepth 100000 in
set_option maxHeartbeats 4000000 in
theorem nums_1 (w : World) (lo p hi : Nat) (v : Value) (bs : List UInt8) (d : DW) (F : List Fil) (id : UInt8) (size : Nat) (of : Fil → Nat × Bool) (hsz : Cur.sized (size : Int) = true) (hlt : ∀ x,(of x).1 < 18446744073709551616)
   (hof : ∀ w x,Calls Tryz.prog 68 #[.agg (Fil.cells x).toArray] w fun e w' => e = .returned (.tuple #[.int .u64 ((of x).1 : Int),.bool (of x).2]) ∧ Fr [] w w')
   (h : WrAt w lo p v bs d) (hF : RowAt w hi 7 d.es F.length (fiV F)) (hn : F.length ≤ 1000000) (hb : bs.length ≤ 70000000) :
   Calls Tryz.prog 67 #[.pointer (some ⟨p,0,none⟩),.int .u8 (id.toNat : Int),.int .i64 (size : Int),.func (.func 68) #[] #[]] w fun e w' => e = .returned (.tuple #[]) ∧ WrTo w lo p v (bs ++ numsW id size of F) d w':=by
 have HW:=Lib.hid h
 obtain ⟨eao,ecap,he,hec,hem,-⟩:=hF.out
 have HR:=Lib.hid hF
 rw [he] at HR
 obtain ⟨c0,c1,c2,c3,c4,c5,c6,c7,cz⟩:=cells8 h.blk
 rw [he] at c7
 clear h hF he
 have HB:=Lib.hid hb
 have HN:=Lib.hid hn
 have HOF:=Lib.hid hof
 have HLT:=Lib.hid hlt
 have HSZ:=Lib.hid hsz
 have hs8 : size ≤ 8:=by unfold Cur.sized at hsz;simp at hsz;omega
 clear hof hlt hsz
 go_enter Tryz.func67,Tryz.ntmps67
 refine wp_seq_k fun K0 hK0 => ?_
 go_cut [8] (fun v2 wx => v2 = .slice none 0 0 ∧ wx = w)
 case first =>
   clear hK0
   go_wp2_with fail
   go_meet
   case rel => exact ⟨rfl,rfl⟩
 case rest =>
 obtain ⟨rfl,hw⟩:=hcut
 have hw':=hw.symm
 clear hw
 subst hw'
 (refine hK0 _ _ ?_;clear hK0;refine wp_seq_k fun K1 hK1 => ?_)
 go_cut [9] (fun v2 wx => v2 = .slice none 0 0 ∧ wx = w)
 case first =>
   clear hK1
   go_wp2_with fail
   go_meet
   case rel => exact ⟨rfl,rfl⟩
 case rest =>
 obtain ⟨rfl,hw⟩:=hcut
 have hw':=hw.symm
 clear hw
 subst hw'
 (refine hK1 _ _ ?_;clear hK1;refine wp_seq_k fun K2 hK2 => ?_)
 go_cut [8,9] (fun v2 v3 wx => ∃ ve vf,v2 = ve ∧ v3 = vf ∧ wx.ownsRow w.heap.size 4 1 ve F.length (tv (hasV of F)) ∧ wx.ownsRow w.heap.size 5 1 vf (valsV of size F).length (bv (valsV of size F)) ∧ Fr [] w wx)
 case first =>
   clear hK2
   go_wp2_with fail
   go_loopw [8,9,20] (fun v2 v3 i wr => ∃ (k : Nat),k ≤ F.length ∧ i = .int .i64 k ∧ wr.ownsRow w.heap.size 4 1 v2 k (tv (hasV of (F.take k))) ∧ wr.ownsRow w.heap.size 5 1 v3 (valsV of size (F.take k)).length (bv (valsV of size (F.take k))) ∧ Fr [] w wr) (fun _ _ i _ => F.length - (intOf i).toNat)
   case atStart => exact ⟨0,Nat.zero_le _,rfl,World.ownsRow_nil _ _ _ _,World.ownsRow_nil _ _ _ _,Fr.refl _ _⟩
   case round =>
     obtain ⟨k,hk,rfl,oa,ob,F2⟩:=hrel
     by_cases hlt : k < F.length
     · obtain ⟨x,hx⟩:=some_get F k hlt
       obtain ⟨b1,o1,hao,hb1,e0,e1,e2,e3,e4,e5,e6⟩:=(HR.out.fr0 F2).fil hx hlt
       subst hao
       have HX1:=Lib.hid (hasV_take (of:=of) hx)
       have HX2:=Lib.hid (valsV_take (of:=of) (size:=size) hx)
       have HVLen:=Lib.hid (show (valsV of size (F.take k)).length ≤ 8000000 by
         have h1:=valsV_len of size (F.take k)
         rw [List.length_take,Nat.min_eq_left hk] at h1
         have : k * size ≤ 1000000 * 8:=Nat.mul_le_mul (by omega) hs8
         omega)
       have HOA:=Lib.hid oa
       have HOB:=Lib.hid ob
       obtain ⟨vao,vcap,rfl,-⟩:=own_out oa
       obtain ⟨fao,fcap,rfl,-⟩:=own_out ob
       have HF2:=Lib.hid F2
       have HL1:=Lib.hid (HLT.out x)
       obtain ⟨nm,st,dir,ha,attr,ht,tm⟩:=x
       dsimp only at e0 e1 e2 e3 e4 e5 e6
       have HOX:=Lib.hid (fun wx => (show Calls Tryz.prog 68 #[.agg #[.string ⟨nm.toArray⟩,.bool st,.bool dir,.bool ha,.int .u32 attr.toNat,.bool ht,.int .u64 tm.toNat]] wx fun e w' => e = .returned (.tuple #[.int .u64 ((of ⟨nm,st,dir,ha,attr,ht,tm⟩).1 : Int),.bool (of ⟨nm,st,dir,ha,attr,ht,tm⟩).2]) ∧ Fr [] wx w' from HOF.out wx ⟨nm,st,dir,ha,attr,ht,tm⟩))
       obtain ⟨q1,hq1⟩ : ∃ q1,q1 = (of ⟨nm,st,dir,ha,attr,ht,tm⟩).1:=⟨_,rfl⟩
       obtain ⟨q2,hq2⟩ : ∃ q2,q2 = (of ⟨nm,st,dir,ha,attr,ht,tm⟩).2:=⟨_,rfl⟩
       rw [← hq1] at HL1
       simp only [← hq1,← hq2] at HX2 HX1 HOX
       clear hq1 hq2
       have hnot : ∀ (x : Bool) (w : World),(Op.unary .not (.bool x)).run Tryz.prog w = .ok (.bool (!x)) w:=fun _ _ => rfl
       clear hx oa ob F2
       obtain ⟨wB,hwB⟩ : ∃ wB,wB = wr.alloc (.cells #[.string ⟨nm.toArray⟩,.bool st,.bool dir,.bool ha,.int .u32 attr.toNat,.bool ht,.int .u64 tm.toNat] 54):=⟨_,rfl⟩
       have FB0 : Fr [] wr wB:=hwB ▸ (Fr.refl _ _).alloc _
       obtain ⟨d0,d1,d2,d3,d4,d5,d6⟩:=wbox7 (hwB ▸ Fr.refl [] wB : Fr [] (wr.alloc (.cells #[.string ⟨nm.toArray⟩,.bool st,.bool dir,.bool ha,.int .u32 attr.toNat,.bool ht,.int .u64 tm.toNat] 54)) wB) (by simp)
       have HF3:=Lib.hid (fun w3 (F : Fr [] wB w3) => (HF2.out.trans0 FB0).trans0 F)
       have HOA3:=Lib.hid (fun w3 (F : Fr [] wB w3) => own_frS (own_frS HOA.out FB0 (by simp)) F (by simp))
       have HOB3:=Lib.hid (fun w3 (F : Fr [] wB w3) => own_frS (own_frS HOB.out FB0 (by simp)) F (by simp))
       clear FB0
       cases q2 with
       | false =>
         have HP0:=Lib.hid (show valsV of size (F.take (k + 1)) = valsV of size (F.take k) by rw [HX2.out];simp)
         go_wp2_with (first
           | (have hq:=F3;at_builtin;refine wpList_append_sl sty_boolW rfl _ _ (by rfl) w.heap.size _ _ _ (by rfl) (own_frS (HOA3.out w3 F3) ((Fr.refl [] w3).alloc _) (by simp)) _ [.bool false] (by rfl) (sl_one _ _ _) (by intro u hu;simp at hu;subst hu;rfl) (by simp;have:=HN.out;omega) (by simp;have:=HN.out;omega) (by have:=(HF3.out w3 F3).size;simp;omega) ?_;intro v4 w4 own4 g4;obtain ⟨vo4,vc4,rfl,-⟩:=own_out own4)
           | (go_at_call 68;rw [← hwB];refine (HOX.out wB).mono ?_;rintro e w3 ⟨rfl,F3⟩))
         have HOA4:=Lib.hid (show w4.ownsRow w.heap.size 4 1 (.slice vo4 (k + 1) vc4) (k + 1) (tv (hasV of (F.take (k + 1)))) by rw [HX1.out,tv_append];exact own4)
         have HOB4:=Lib.hid (own_grown (own_frS (HOB3.out w3 F3) ((Fr.refl [] w3).alloc (.cells #[.bool false] 4)) (by simp)) g4 (own_apart (own_frS (HOB3.out w3 F3) ((Fr.refl [] w3).alloc (.cells #[.bool false] 4)) (by simp)) (own_frS (HOA3.out w3 F3) ((Fr.refl [] w3).alloc (.cells #[.bool false] 4)) (by simp)) (by decide)))
         have HF4:=Lib.hid (show Fr [] w w4 from ((HF3.out w3 F3).alloc _).grown g4 (fun q hq => .inr (own_ltS HOA.out q hq).1))
         clear own4 g4
         go_wp2_with fail
         go_roundw
         case rel => exact ⟨k + 1,by omega,by go_num,HOA4.out,by rw [HP0.out];exact HOB4.out,HF4.out⟩
         case measure => simp [intOf];omega
       | true =>
         have HP0:=Lib.hid (show valsV of size (F.take (k + 1)) = put (valsV of size (F.take k)) (size : Int) q1 by rw [HX2.out,put_le _ _ _ HSZ.out];simp)
         go_wp2_with (first
           | (have hq:=own4;go_at_call 19;refine (put_any w4 _ (valsV of size (F.take k)) (size : Int) q1 (Sl.of_own HOB4.out) (by have:=HVLen.out;omega) HL1.out).mono ?_;rintro e w5 ⟨r5,rfl,own5,F5⟩;obtain ⟨ro5,rc5,rfl,-⟩:=own_out own5)
           | (have hq:=F3;at_builtin;refine wpList_append_sl sty_boolW rfl _ _ (by rfl) w.heap.size _ _ _ (by rfl) (own_frS (HOA3.out w3 F3) ((Fr.refl [] w3).alloc _) (by simp)) _ [.bool true] (by rfl) (sl_one _ _ _) (by intro u hu;simp at hu;subst hu;rfl) (by simp;have:=HN.out;omega) (by simp;have:=HN.out;omega) (by have:=(HF3.out w3 F3).size;simp;omega) ?_;intro v4 w4 own4 g4;obtain ⟨vo4,vc4,rfl,-⟩:=own_out own4;have HOB4:=Lib.hid (own_grown (own_frS (HOB3.out w3 F3) ((Fr.refl [] w3).alloc (.cells #[.bool true] 4)) (by simp)) g4 (own_apart (own_frS (HOB3.out w3 F3) ((Fr.refl [] w3).alloc (.cells #[.bool true] 4)) (by simp)) (own_frS (HOA3.out w3 F3) ((Fr.refl [] w3).alloc (.cells #[.bool true] 4)) (by simp)) (by decide)));have HF4:=Lib.hid (show Fr [] w w4 from ((HF3.out w3 F3).alloc _).grown g4 (fun q hq => .inr (own_ltS HOA.out q hq).1)))
           | (go_at_call 68;rw [← hwB];refine (HOX.out wB).mono ?_;rintro e w3 ⟨rfl,F3⟩))
         have HOA5:=Lib.hid (show w5.ownsRow w.heap.size 4 1 (.slice vo4 (k + 1) vc4) (k + 1) (tv (hasV of (F.take (k + 1)))) by rw [HX1.out,tv_append];exact own_frS own4 F5 (by simp))
         have HOB5:=Lib.hid (own_mono own5 HF4.out.size)
         have HF5:=Lib.hid (HF4.out.trans0 F5)
         clear own4 g4 own5 F5
         go_roundw
         case rel => exact ⟨k + 1,by omega,by go_num,HOA5.out,by rw [HP0.out];exact HOB5.out,HF5.out⟩
         case measure => simp [intOf];omega
     · obtain rfl : k = F.length:=by omega
       rw [List.take_of_length_le (Nat.le_refl _)] at oa ob
       obtain ⟨vao,vcap,rfl,-⟩:=own_out oa
       obtain ⟨fao,fcap,rfl,-⟩:=own_out ob
       go_wp2_with fail
       go_meet
       case rel => exact ⟨_,_,rfl,rfl,oa,ob,F2⟩
 case rest =>
 obtain ⟨ve,vf,rfl,rfl,oa,ob,F1⟩:=hcut
 obtain ⟨vao,vcap,rfl,-⟩:=own_out oa
 obtain ⟨fao,fcap,rfl,-⟩:=own_out ob
 obtain ⟨wS,hwS⟩ : ∃ wS,wS = wc:=⟨_,rfl⟩
 rw [← hwS] at oa ob F1 ⊢
 clear hwS
 have T1:=WrTo.fr0 F1 (WrTo.refl (HW.out.fr0 F1))
 have HC:=Lib.hid (containst_any wS _ (hasV of F) (Sl.of_own oa))
 have HOA:=Lib.hid oa
 have HOB:=Lib.hid ob
 have HLen:=Lib.hid (show (hasV of F).length = F.length ∧ (valsV of size F).length ≤ 8000000 from ⟨hasV_len of F,by
   have h1:=valsV_len of size F
   have : F.length * size ≤ 1000000 * 8:=Nat.mul_le_mul (by omega) hs8
   omega⟩)
 have HTL:=Lib.hid (show (putTold [] (hasV of F)).length ≤ F.length + 8 ∧ putTold [] (hasV of F) = toldN (hasV of F) from ⟨by rw [putTold_told,List.nil_append,← hasV_len of F];exact toldN_len _,by rw [putTold_told,List.nil_append]⟩)
 clear oa ob F1 c0 c1 c2 c3 c4 c5 c6 c7 cz
 refine hK2 _ _ ?_
 clear hK2
 by_cases hp : true ∈ hasV of F
 · have HE:=Lib.hid (show numsW id size of F = partW id ((toldN (hasV of F) ++ [0]) ++ valsV of size F) from if_pos hp)
   rw [decide_eq_true hp] at HC
   clear hp
   go_wp2_with (first
     | (have hq:=own5;go_at_call 96;refine (wpart_any T1 F5 _ ((putTold [] (hasV of F) ++ [0]) ++ valsV of size F) id (by simp only [List.length_append,bv_append,List.length_singleton];exact own5) (by have:=HTL.out.1;have:=HLen.out.2;have:=HB.out;have:=HN.out;simp;omega)).mono ?_;rintro e w6 ⟨rfl,T6⟩)
     | (have hq:=own4;at_builtin;refine wpList_append_sl sty_u8 rfl _ _ (by rfl) wS.heap.size _ _ _ (by rfl) own4 _ (bv (valsV of size F)) (by rfl) (Sl.of_own (own_frS HOB.out F4 (by simp))) (bv_one _) (by have:=HTL.out.1;have:=HLen.out.2;have:=HN.out;simp [bv_length];omega) (by have:=HTL.out.1;have:=HLen.out.2;have:=HN.out;simp [bv_length];omega) F4.size ?_;intro v5 w5 own5 g5;rw [bv_length (valsV of size F)] at own5;have F5 : Fr [] wS w5:=F4.grown g5 (fun q hq => .inr (own_ltS own4 q hq).1);obtain ⟨vo5,vc5,rfl,-⟩:=own_out own5)
     | (have hq:=own2;at_builtin;refine wpList_append_sl sty_u8 rfl _ _ (by rfl) wS.heap.size _ _ _ (by rfl) (own_frS own2 ((Fr.refl [] w2).alloc _) (by simp)) _ (bv [0]) (by rfl) (sl_one _ _ _) (bv_one _) (by have:=HTL.out.1;have:=HN.out;simp [bv_length];omega) (by have:=HTL.out.1;have:=HN.out;simp [bv_length];omega) (by have:=F2.size;simp;omega) ?_;intro v4 w4 own4 g4;rw [show (bv [0]).length = 1 from rfl] at own4;have F4 : Fr [] wS w4:=(F2.alloc _).grown g4 (fun q hq => .inr (own_ltS own2 q hq).1);obtain ⟨vo4,vc4,rfl,-⟩:=own_out own4)
     | (go_at_call 99;refine (puttold_any wS _ _ [] (hasV of F) (Sl.nil wS) (Sl.of_own HOA.out) (by have:=HLen.out.1;have:=HN.out;have e0 : ([] : List UInt8).length = 0:=rfl;omega) (by have:=HLen.out.1;have:=HN.out;omega)).mono ?_;rintro e w2 ⟨r,rfl,own2,F2⟩;obtain ⟨ro,rc,rfl,-⟩:=own_out own2)
     | (go_at_call 98;refine HC.out.mono ?_;rintro e w1 ⟨rfl,rfl⟩))
   go_end0
   exact ⟨rfl,by rw [HE.out,← HTL.out.2];exact T6⟩
 · have HE:=Lib.hid (show numsW id size of F = [] from if_neg hp)
   rw [decide_eq_false hp] at HC
   clear hp
   go_wp2_with (go_at_call 98;refine HC.out.mono ?_;rintro e w1 ⟨rfl,rfl⟩)
   go_end0
   exact ⟨rfl,by rw [HE.out,List.append_nil];exact T1⟩
set_option maxRecDepth 100000 in
set_option maxHeartbeats 4000000 in
theorem nums_2 (w : World) (lo p hi : Nat) (v : Value) (bs : List UInt8) (d : DW) (F : List Fil) (id : UInt8) (size : Nat) (of : Fil → Nat × Bool) (hsz : Cur.sized (size : Int) = true) (hlt : ∀ x,(of x).1 < 18446744073709551616)
   (hof : ∀ w x,Calls Tryz.prog 69 #[.agg (Fil.cells x).toArray] w fun e w' => e = .returned (.tuple #[.int .u64 ((of x).1 : Int),.bool (of x).2]) ∧ Fr [] w w')
   (h : WrAt w lo p v bs d) (hF : RowAt w hi 7 d.es F.length (fiV F)) (hn : F.length ≤ 1000000) (hb : bs.length ≤ 70000000) :
   Calls Tryz.prog 67 #[.pointer (some ⟨p,0,none⟩),.int .u8 (id.toNat : Int),.int .i64 (size : Int),.func (.func 69) #[] #[]] w fun e w' => e = .returned (.tuple #[]) ∧ WrTo w lo p v (bs ++ numsW id size of F) d w':=by
 have HW:=Lib.hid h
 obtain ⟨eao,ecap,he,hec,hem,-⟩:=hF.out
 have HR:=Lib.hid hF
 rw [he] at HR
 obtain ⟨c0,c1,c2,c3,c4,c5,c6,c7,cz⟩:=cells8 h.blk
 rw [he] at c7
 clear h hF he
 have HB:=Lib.hid hb
 have HN:=Lib.hid hn
 have HOF:=Lib.hid hof
 have HLT:=Lib.hid hlt
 have HSZ:=Lib.hid hsz
 have hs8 : size ≤ 8:=by unfold Cur.sized at hsz;simp at hsz;omega
 clear hof hlt hsz
 go_enter Tryz.func67,Tryz.ntmps67
 refine wp_seq_k fun K0 hK0 => ?_
 go_cut [8] (fun v2 wx => v2 = .slice none 0 0 ∧ wx = w)
 case first =>
   clear hK0
   go_wp2_with fail
   go_meet
   case rel => exact ⟨rfl,rfl⟩
 case rest =>
 obtain ⟨rfl,hw⟩:=hcut
 have hw':=hw.symm
 clear hw
 subst hw'
 (refine hK0 _ _ ?_;clear hK0;refine wp_seq_k fun K1 hK1 => ?_)
 go_cut [9] (fun v2 wx => v2 = .slice none 0 0 ∧ wx = w)
 case first =>
   clear hK1
   go_wp2_with fail
   go_meet
   case rel => exact ⟨rfl,rfl⟩
 case rest =>
 obtain ⟨rfl,hw⟩:=hcut
 have hw':=hw.symm
 clear hw
 subst hw'
 (refine hK1 _ _ ?_;clear hK1;refine wp_seq_k fun K2 hK2 => ?_)
 go_cut [8,9] (fun v2 v3 wx => ∃ ve vf,v2 = ve ∧ v3 = vf ∧ wx.ownsRow w.heap.size 4 1 ve F.length (tv (hasV of F)) ∧ wx.ownsRow w.heap.size 5 1 vf (valsV of size F).length (bv (valsV of size F)) ∧ Fr [] w wx)
 case first =>
   clear hK2
   go_wp2_with fail
   go_loopw [8,9,20] (fun v2 v3 i wr => ∃ (k : Nat),k ≤ F.length ∧ i = .int .i64 k ∧ wr.ownsRow w.heap.size 4 1 v2 k (tv (hasV of (F.take k))) ∧ wr.ownsRow w.heap.size 5 1 v3 (valsV of size (F.take k)).length (bv (valsV of size (F.take k))) ∧ Fr [] w wr) (fun _ _ i _ => F.length - (intOf i).toNat)
   case atStart => exact ⟨0,Nat.zero_le _,rfl,World.ownsRow_nil _ _ _ _,World.ownsRow_nil _ _ _ _,Fr.refl _ _⟩
   case round =>
     obtain ⟨k,hk,rfl,oa,ob,F2⟩:=hrel
     by_cases hlt : k < F.length
     · obtain ⟨x,hx⟩:=some_get F k hlt
       obtain ⟨b1,o1,hao,hb1,e0,e1,e2,e3,e4,e5,e6⟩:=(HR.out.fr0 F2).fil hx hlt
       subst hao
       have HX1:=Lib.hid (hasV_take (of:=of) hx)
       have HX2:=Lib.hid (valsV_take (of:=of) (size:=size) hx)
       have HVLen:=Lib.hid (show (valsV of size (F.take k)).length ≤ 8000000 by
         have h1:=valsV_len of size (F.take k)
         rw [List.length_take,Nat.min_eq_left hk] at h1
         have : k * size ≤ 1000000 * 8:=Nat.mul_le_mul (by omega) hs8
         omega)
       have HOA:=Lib.hid oa
       have HOB:=Lib.hid ob
       obtain ⟨vao,vcap,rfl,-⟩:=own_out oa
       obtain ⟨fao,fcap,rfl,-⟩:=own_out ob
       have HF2:=Lib.hid F2
       have HL1:=Lib.hid (HLT.out x)
       obtain ⟨nm,st,dir,ha,attr,ht,tm⟩:=x
       dsimp only at e0 e1 e2 e3 e4 e5 e6
       have HOX:=Lib.hid (fun wx => (show Calls Tryz.prog 69 #[.agg #[.string ⟨nm.toArray⟩,.bool st,.bool dir,.bool ha,.int .u32 attr.toNat,.bool ht,.int .u64 tm.toNat]] wx fun e w' => e = .returned (.tuple #[.int .u64 ((of ⟨nm,st,dir,ha,attr,ht,tm⟩).1 : Int),.bool (of ⟨nm,st,dir,ha,attr,ht,tm⟩).2]) ∧ Fr [] wx w' from HOF.out wx ⟨nm,st,dir,ha,attr,ht,tm⟩))
       obtain ⟨q1,hq1⟩ : ∃ q1,q1 = (of ⟨nm,st,dir,ha,attr,ht,tm⟩).1:=⟨_,rfl⟩
       obtain ⟨q2,hq2⟩ : ∃ q2,q2 = (of ⟨nm,st,dir,ha,attr,ht,tm⟩).2:=⟨_,rfl⟩
       rw [← hq1] at HL1
       simp only [← hq1,← hq2] at HX2 HX1 HOX
       clear hq1 hq2
       have hnot : ∀ (x : Bool) (w : World),(Op.unary .not (.bool x)).run Tryz.prog w = .ok (.bool (!x)) w:=fun _ _ => rfl
       clear hx oa ob F2
       obtain ⟨wB,hwB⟩ : ∃ wB,wB = wr.alloc (.cells #[.string ⟨nm.toArray⟩,.bool st,.bool dir,.bool ha,.int .u32 attr.toNat,.bool ht,.int .u64 tm.toNat] 54):=⟨_,rfl⟩
       have FB0 : Fr [] wr wB:=hwB ▸ (Fr.refl _ _).alloc _
       obtain ⟨d0,d1,d2,d3,d4,d5,d6⟩:=wbox7 (hwB ▸ Fr.refl [] wB : Fr [] (wr.alloc (.cells #[.string ⟨nm.toArray⟩,.bool st,.bool dir,.bool ha,.int .u32 attr.toNat,.bool ht,.int .u64 tm.toNat] 54)) wB) (by simp)
       have HF3:=Lib.hid (fun w3 (F : Fr [] wB w3) => (HF2.out.trans0 FB0).trans0 F)
       have HOA3:=Lib.hid (fun w3 (F : Fr [] wB w3) => own_frS (own_frS HOA.out FB0 (by simp)) F (by simp))
       have HOB3:=Lib.hid (fun w3 (F : Fr [] wB w3) => own_frS (own_frS HOB.out FB0 (by simp)) F (by simp))
       clear FB0
       cases q2 with
       | false =>
         have HP0:=Lib.hid (show valsV of size (F.take (k + 1)) = valsV of size (F.take k) by rw [HX2.out];simp)
         go_wp2_with (first
           | (have hq:=F3;at_builtin;refine wpList_append_sl sty_boolW rfl _ _ (by rfl) w.heap.size _ _ _ (by rfl) (own_frS (HOA3.out w3 F3) ((Fr.refl [] w3).alloc _) (by simp)) _ [.bool false] (by rfl) (sl_one _ _ _) (by intro u hu;simp at hu;subst hu;rfl) (by simp;have:=HN.out;omega) (by simp;have:=HN.out;omega) (by have:=(HF3.out w3 F3).size;simp;omega) ?_;intro v4 w4 own4 g4;obtain ⟨vo4,vc4,rfl,-⟩:=own_out own4)
           | (go_at_call 69;rw [← hwB];refine (HOX.out wB).mono ?_;rintro e w3 ⟨rfl,F3⟩))
         have HOA4:=Lib.hid (show w4.ownsRow w.heap.size 4 1 (.slice vo4 (k + 1) vc4) (k + 1) (tv (hasV of (F.take (k + 1)))) by rw [HX1.out,tv_append];exact own4)
         have HOB4:=Lib.hid (own_grown (own_frS (HOB3.out w3 F3) ((Fr.refl [] w3).alloc (.cells #[.bool false] 4)) (by simp)) g4 (own_apart (own_frS (HOB3.out w3 F3) ((Fr.refl [] w3).alloc (.cells #[.bool false] 4)) (by simp)) (own_frS (HOA3.out w3 F3) ((Fr.refl [] w3).alloc (.cells #[.bool false] 4)) (by simp)) (by decide)))
         have HF4:=Lib.hid (show Fr [] w w4 from ((HF3.out w3 F3).alloc _).grown g4 (fun q hq => .inr (own_ltS HOA.out q hq).1))
         clear own4 g4
         go_wp2_with fail
         go_roundw
         case rel => exact ⟨k + 1,by omega,by go_num,HOA4.out,by rw [HP0.out];exact HOB4.out,HF4.out⟩
         case measure => simp [intOf];omega
       | true =>
         have HP0:=Lib.hid (show valsV of size (F.take (k + 1)) = put (valsV of size (F.take k)) (size : Int) q1 by rw [HX2.out,put_le _ _ _ HSZ.out];simp)
         go_wp2_with (first
           | (have hq:=own4;go_at_call 19;refine (put_any w4 _ (valsV of size (F.take k)) (size : Int) q1 (Sl.of_own HOB4.out) (by have:=HVLen.out;omega) HL1.out).mono ?_;rintro e w5 ⟨r5,rfl,own5,F5⟩;obtain ⟨ro5,rc5,rfl,-⟩:=own_out own5)
           | (have hq:=F3;at_builtin;refine wpList_append_sl sty_boolW rfl _ _ (by rfl) w.heap.size _ _ _ (by rfl) (own_frS (HOA3.out w3 F3) ((Fr.refl [] w3).alloc _) (by simp)) _ [.bool true] (by rfl) (sl_one _ _ _) (by intro u hu;simp at hu;subst hu;rfl) (by simp;have:=HN.out;omega) (by simp;have:=HN.out;omega) (by have:=(HF3.out w3 F3).size;simp;omega) ?_;intro v4 w4 own4 g4;obtain ⟨vo4,vc4,rfl,-⟩:=own_out own4;have HOB4:=Lib.hid (own_grown (own_frS (HOB3.out w3 F3) ((Fr.refl [] w3).alloc (.cells #[.bool true] 4)) (by simp)) g4 (own_apart (own_frS (HOB3.out w3 F3) ((Fr.refl [] w3).alloc (.cells #[.bool true] 4)) (by simp)) (own_frS (HOA3.out w3 F3) ((Fr.refl [] w3).alloc (.cells #[.bool true] 4)) (by simp)) (by decide)));have HF4:=Lib.hid (show Fr [] w w4 from ((HF3.out w3 F3).alloc _).grown g4 (fun q hq => .inr (own_ltS HOA.out q hq).1)))
           | (go_at_call 69;rw [← hwB];refine (HOX.out wB).mono ?_;rintro e w3 ⟨rfl,F3⟩))
         have HOA5:=Lib.hid (show w5.ownsRow w.heap.size 4 1 (.slice vo4 (k + 1) vc4) (k + 1) (tv (hasV of (F.take (k + 1)))) by rw [HX1.out,tv_append];exact own_frS own4 F5 (by simp))
         have HOB5:=Lib.hid (own_mono own5 HF4.out.size)
         have HF5:=Lib.hid (HF4.out.trans0 F5)
         clear own4 g4 own5 F5
         go_roundw
         case rel => exact ⟨k + 1,by omega,by go_num,HOA5.out,by rw [HP0.out];exact HOB5.out,HF5.out⟩
         case measure => simp [intOf];omega
     · obtain rfl : k = F.length:=by omega
       rw [List.take_of_length_le (Nat.le_refl _)] at oa ob
       obtain ⟨vao,vcap,rfl,-⟩:=own_out oa
       obtain ⟨fao,fcap,rfl,-⟩:=own_out ob
       go_wp2_with fail
       go_meet
       case rel => exact ⟨_,_,rfl,rfl,oa,ob,F2⟩
 case rest =>
 obtain ⟨ve,vf,rfl,rfl,oa,ob,F1⟩:=hcut
 obtain ⟨vao,vcap,rfl,-⟩:=own_out oa
 obtain ⟨fao,fcap,rfl,-⟩:=own_out ob
 obtain ⟨wS,hwS⟩ : ∃ wS,wS = wc:=⟨_,rfl⟩
 rw [← hwS] at oa ob F1 ⊢
 clear hwS
 have T1:=WrTo.fr0 F1 (WrTo.refl (HW.out.fr0 F1))
 have HC:=Lib.hid (containst_any wS _ (hasV of F) (Sl.of_own oa))
 have HOA:=Lib.hid oa
 have HOB:=Lib.hid ob
 have HLen:=Lib.hid (show (hasV of F).length = F.length ∧ (valsV of size F).length ≤ 8000000 from ⟨hasV_len of F,by
   have h1:=valsV_len of size F
   have : F.length * size ≤ 1000000 * 8:=Nat.mul_le_mul (by omega) hs8
   omega⟩)
 have HTL:=Lib.hid (show (putTold [] (hasV of F)).length ≤ F.length + 8 ∧ putTold [] (hasV of F) = toldN (hasV of F) from ⟨by rw [putTold_told,List.nil_append,← hasV_len of F];exact toldN_len _,by rw [putTold_told,List.nil_append]⟩)
 clear oa ob F1 c0 c1 c2 c3 c4 c5 c6 c7 cz
 refine hK2 _ _ ?_
 clear hK2
 by_cases hp : true ∈ hasV of F
 · have HE:=Lib.hid (show numsW id size of F = partW id ((toldN (hasV of F) ++ [0]) ++ valsV of size F) from if_pos hp)
   rw [decide_eq_true hp] at HC
   clear hp
   go_wp2_with (first
     | (have hq:=own5;go_at_call 96;refine (wpart_any T1 F5 _ ((putTold [] (hasV of F) ++ [0]) ++ valsV of size F) id (by simp only [List.length_append,bv_append,List.length_singleton];exact own5) (by have:=HTL.out.1;have:=HLen.out.2;have:=HB.out;have:=HN.out;simp;omega)).mono ?_;rintro e w6 ⟨rfl,T6⟩)
     | (have hq:=own4;at_builtin;refine wpList_append_sl sty_u8 rfl _ _ (by rfl) wS.heap.size _ _ _ (by rfl) own4 _ (bv (valsV of size F)) (by rfl) (Sl.of_own (own_frS HOB.out F4 (by simp))) (bv_one _) (by have:=HTL.out.1;have:=HLen.out.2;have:=HN.out;simp [bv_length];omega) (by have:=HTL.out.1;have:=HLen.out.2;have:=HN.out;simp [bv_length];omega) F4.size ?_;intro v5 w5 own5 g5;rw [bv_length (valsV of size F)] at own5;have F5 : Fr [] wS w5:=F4.grown g5 (fun q hq => .inr (own_ltS own4 q hq).1);obtain ⟨vo5,vc5,rfl,-⟩:=own_out own5)
     | (have hq:=own2;at_builtin;refine wpList_append_sl sty_u8 rfl _ _ (by rfl) wS.heap.size _ _ _ (by rfl) (own_frS own2 ((Fr.refl [] w2).alloc _) (by simp)) _ (bv [0]) (by rfl) (sl_one _ _ _) (bv_one _) (by have:=HTL.out.1;have:=HN.out;simp [bv_length];omega) (by have:=HTL.out.1;have:=HN.out;simp [bv_length];omega) (by have:=F2.size;simp;omega) ?_;intro v4 w4 own4 g4;rw [show (bv [0]).length = 1 from rfl] at own4;have F4 : Fr [] wS w4:=(F2.alloc _).grown g4 (fun q hq => .inr (own_ltS own2 q hq).1);obtain ⟨vo4,vc4,rfl,-⟩:=own_out own4)
     | (go_at_call 99;refine (puttold_any wS _ _ [] (hasV of F) (Sl.nil wS) (Sl.of_own HOA.out) (by have:=HLen.out.1;have:=HN.out;have e0 : ([] : List UInt8).length = 0:=rfl;omega) (by have:=HLen.out.1;have:=HN.out;omega)).mono ?_;rintro e w2 ⟨r,rfl,own2,F2⟩;obtain ⟨ro,rc,rfl,-⟩:=own_out own2)
     | (go_at_call 98;refine HC.out.mono ?_;rintro e w1 ⟨rfl,rfl⟩))
   go_end0
   exact ⟨rfl,by rw [HE.out,← HTL.out.2];exact T6⟩
 · have HE:=Lib.hid (show numsW id size of F = [] from if_neg hp)
   rw [decide_eq_false hp] at HC
   clear hp
   go_wp2_with (go_at_call 98;refine HC.out.mono ?_;rintro e w1 ⟨rfl,rfl⟩)
   go_end0
   exact ⟨rfl,by rw [HE.out,List.append_nil];exact T1⟩
theorem wtime_any {w wx : World} {lo p hi : Nat} {v : Value} {bs : List UInt8} {d : DW} (T : WrTo w lo p v bs d wx) (F : List Fil) (hF : RowAt wx hi 7 d.es F.length (fiV F)) (hn : F.length ≤ 1000000) (hb : bs.length ≤ 70000000) :
   Calls Tryz.prog 67 #[.pointer (some ⟨p,0,none⟩),.int .u8 20,.int .i64 8,.func (.func 68) #[] #[]] wx fun e w' => e = .returned (.tuple #[]) ∧ WrTo w lo p v (bs ++ numsW 20 8 timeOf F) d w' :=
 T.chain fun v1 W1 => nums_1 wx lo p hi v1 bs d F 20 8 timeOf (by decide) (fun x => x.time.toNat_lt) (fun w x => time_any w x) W1 hF hn hb
theorem wattr_any {w wx : World} {lo p hi : Nat} {v : Value} {bs : List UInt8} {d : DW} (T : WrTo w lo p v bs d wx) (F : List Fil) (hF : RowAt wx hi 7 d.es F.length (fiV F)) (hn : F.length ≤ 1000000) (hb : bs.length ≤ 70000000) :
   Calls Tryz.prog 67 #[.pointer (some ⟨p,0,none⟩),.int .u8 21,.int .i64 4,.func (.func 69) #[] #[]] wx fun e w' => e = .returned (.tuple #[]) ∧ WrTo w lo p v (bs ++ numsW 21 4 attrOf F) d w' :=
 T.chain fun v1 W1 => nums_2 wx lo p hi v1 bs d F 21 4 attrOf (by decide) (fun x => by have:=x.attr.toNat_lt;show x.attr.toNat < _;omega) (fun w x => attr_any w x) W1 hF hn hb
end Go.Proofs.YtkodindajfdagaaGreatDoor
