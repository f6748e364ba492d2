/- Contract: the list's part. No condition but that lengths fit. -/
import Derived.Test.YtkodindajfdagaaGreatDoorJM
namespace Go.Proofs.YtkodindajfdagaaGreatDoor
open Go.RowKit Go.Maps
theorem dummyGo_end {s : Rs} {m : Nat} (h : s.c.left = 0) : dummyGo (m + 1) s = s:=by
 show (if s.c.left = 0 then _ else _) = _
 rw [if_pos h]
theorem dummyGo_bad {s : Rs} {m : Nat} (h : s.c.left ≠ 0) (h2 : s.ok.k ≠ 0) : dummyGo (m + 1) s = s.ok:=by
 show (if s.c.left = 0 then _ else if s.ok.k ≠ 0 then _ else _) = _
 rw [if_neg h,if_pos h2]
theorem dummyGo_ok {s : Rs} {m : Nat} (h : s.c.left ≠ 0) (h2 : s.ok.k = 0) : dummyGo (m + 1) s = dummyGo m (if s.byte.1 ≠ 0 then s.byte.2.fail 5 else s.byte.2):=by
 show (if s.c.left = 0 then _ else if s.ok.k ≠ 0 then _ else _) = _
 rw [if_neg h,if_neg (by simp [h2]),Rs.ok_of_zero h2]
theorem byte_on {s : Rs} (h : s.c.left ≠ 0) : s.byte.2.c.at_ = s.c.at_ + 1 ∧ s.c.at_ + 1 ≤ s.c.b.length:=by
 have hc : s.c.code = 0 ∧ s.c.at_ < s.c.b.length:=by
   unfold Cur.left at h
   split at h
   · rename_i hc
     exact ⟨hc,by omega⟩
   · exact absurd rfl h
 have hl : ¬ (s.c.code ≠ 0 ∨ s.c.left < 1):=by
   rw [hc.1]
   simp
   omega
 have e : s.byte.2.c = (s.c.take 1).2:=rfl
 rw [e]
 unfold Cur.take
 rw [if_neg hl]
 exact ⟨rfl,by omega⟩
theorem withEmpty_len (F : List Fil) (E : List Bool) : (withEmpty F E).length = F.length:=by simp [withEmpty]
theorem withEmpty_nil (F : List Fil) : withEmpty F [] = F:=by
 unfold withEmpty
 refine List.ext_getElem? fun i => ?_
 simp [List.getElem?_mapIdx]
theorem withEmpty_get (F : List Fil) (E : List Bool) (k : Nat) : (withEmpty F (E.take k))[k]? = F[k]?:=by
 unfold withEmpty
 rw [List.getElem?_mapIdx]
 rw [List.getElem?_eq_none (l:=E.take k) (by simp;omega)]
 simp
theorem withEmpty_snoc {F : List Fil} {E : List Bool} {k : Nat} {f : Fil} {b : Bool} (hf : F[k]? = some f) (hb : E[k]? = some b) : withEmpty F (E.take (k + 1)) = (withEmpty F (E.take k)).set k { f with stream:=!b,dir:=b }:=by
 refine List.ext_getElem? fun i => ?_
 have hk:=(List.getElem?_eq_some_iff.1 hf).1
 rw [List.getElem?_set]
 by_cases e : k = i
 · subst e
   rw [if_pos rfl,if_pos (by rw [withEmpty_len];exact hk)]
   unfold withEmpty
   rw [List.getElem?_mapIdx,hf,List.getElem?_take,if_pos (by omega),hb]
   rfl
 · rw [if_neg e]
   unfold withEmpty
   rw [List.getElem?_mapIdx,List.getElem?_mapIdx,List.getElem?_take,List.getElem?_take]
   by_cases h : i < k
   · rw [if_pos (by omega),if_pos h]
   · rw [if_neg (by omega),if_neg h]
theorem dummyGo_b : ∀ (m : Nat) (s : Rs),(dummyGo m s).c.b = s.c.b
 | 0,s => rfl
 | m + 1,s => by
   by_cases h : s.c.left = 0
   · rw [dummyGo_end h]
   · by_cases h2 : s.ok.k = 0
     · rw [dummyGo_ok h h2,dummyGo_b m]
       split
       · rw [Rs.fail_c,byte_b]
       · rw [byte_b]
     · rw [dummyGo_bad h h2];rfl
theorem namesGo_b : ∀ (m i : Nat) (s : Rs) (F : List Fil),(namesGo m i s F).2.c.b = s.c.b
 | 0,i,s,F => rfl
 | m + 1,i,s,F => by
   by_cases h : s.ok.k = 0
   · by_cases h2 : s.units.2.ok.k = 0
     · rw [namesGo_ok h h2,namesGo_b m,nameOk_b]
     · rw [namesGo_cut h h2,Rs.ok_c,units_b]
   · rw [namesGo_bad h];rfl
theorem numsGo_b (id : Nat) : ∀ (l : List Bool) (k : Nat) (s : Rs) (F : List Fil),(numsGo id l k s F).2.c.b = s.c.b
 | [],k,s,F => rfl
 | false :: t,k,s,F => by rw [numsGo_no,numsGo_b id t]
 | true :: t,k,s,F => by
   by_cases h : (s.num (numSz id)).2.ok.k = 0
   · rw [numsGo_ok h,numsGo_b id t,rnum_b]
   · rw [numsGo_bad h,Rs.ok_c,rnum_b]
theorem amongFold_b (id : Nat) : ∀ (z : List (Nat × Bool)) (r : List Fil × Rs),(z.foldl (amongStep id) r).2.c.b = r.2.c.b
 | [],r => rfl
 | a :: t,r => by
   rw [List.foldl_cons,amongFold_b id t]
   unfold amongStep
   split
   · rfl
   · dsimp only
     split <;> rfl
theorem partBody_b (n id : Nat) (L : Lst) (s : Rs) : (partBody n id L s).2.c.b = s.c.b:=by
 unfold partBody
 split
 · exact rbits_b _ _
 split
 · show (amongL id L.empty L.files s).2.c.b = _
   unfold amongL
   rw [amongFold_b,rbits_b]
 split
 · show (namesGo n 0 s.inside L.files).2.c.b = _
   rw [namesGo_b,inside_b]
 split
 · show (numsGo id (s.told n).1 0 (s.told n).2.inside L.files).2.c.b = _
   rw [numsGo_b,inside_b,rtold_b]
 split
 · exact dummyGo_b _ _
 · rfl
theorem PaM.empty {w : World} {p cp : Nat} {q : Option Nat} {d : DV} {lp mb n m : Nat} {ev fv v : Value} {L : Lst} {s : Rs} {p' cp' : Nat} {q' : Option Nat} {d' : DV} {s' : Rs} {wx : World} {B : Nat} {E : List Bool} (h : PaM w p cp q d lp mb n m ev fv L s p' cp' q' d' s' wx)
   (own : wx.ownsRow B 4 1 v E.length (tv E)) (hB : lp + 1 ≤ B) (hE : E.length = 0 ∨ E.length = n) :
   PaM w p cp q d lp mb n m v fv { L with empty:=E } s p' cp' q' d' s' (wx.setCell ⟨lp,3,none⟩ v):=by
 have hl:=h.fi.lps
 have h1:=h.a1
 have h2:=h.a2
 have F : Fr [lp] wx (wx.setCell ⟨lp,3,none⟩ v):=(Fr.refl _ _).setCell (by simp) _
 obtain ⟨k1,k2,k3,k4,k5,k6,k7,k8⟩:=h.fi.ls
 refine ⟨⟨⟨k1.put3 v,k2.frS F (by simp;omega),k3.fr F (by simp;omega) (by simp;omega) (fun k hk => by have:=hl.2.2.2 k hk;simp;omega),k4.setCell (.inr (by dsimp only;omega)) _,k5,k6,k7,k8⟩,own_frB h.fi.own F (by simp),?_,h.fi.fl,hE,h.fi.qw⟩,h.sub.fr F (by simp;omega) (by simp;omega) (fun k hk => by have:=h.a3 k hk;simp;omega),h1,h2,h.a3,h.b1⟩
 exact (Sm.of_own (lp + 1) own hB).fr F (by simp)
def PartR (w : World) (p cp : Nat) (q : Option Nat) (d : DV) (lp mb n m : Nat) (fv : Value) (s : Rs) (p' cp' : Nat) (q' : Option Nat) (d' : DV) (r : Lst × Rs) (e : Ending) (w' : World) : Prop :=
 e = .returned (.tuple #[]) ∧ ∃ ev,PaM w p cp q d lp mb n m ev fv r.1 (s.told' r.2.partEnd.k) p' cp' q' d' r.2.partEnd w'
set_option maxRecDepth 100000 in
set_option maxHeartbeats 8000000 in
theorem part_any (w wx : World) (p cp : Nat) (q : Option Nat) (d : DV) (lp mb n m : Nat) (ev fv : Value) (L : Lst) (s : Rs) (p' cp' : Nat) (q' : Option Nat) (d' : DV) (s' : Rs) (h : PaM w p cp q d lp mb n m ev fv L s p' cp' q' d' s' wx)
   (hn : n ≤ 4000000) (hb : s'.c.b.length ≤ 4000000) (id : Nat) :
   Calls Tryz.prog 102 #[.pointer (some ⟨lp,0,none⟩),.int .i64 (id : Int),.pointer (some ⟨p',0,none⟩)] wx (PartR w p cp q d lp mb n m fv s p' cp' q' d' (partBody n id L s')):=by
 have HP:=Lib.hid h
 have hnI : (n : Int) ≤ 4000000:=by omega
 have HNn:=Lib.hid hn
 have HB:=Lib.hid hb
 clear h hn hb
 go_enter Tryz.func102,Tryz.ntmps102
 refine wp_seq_k fun K0 hK0 => ?_
 go_cut [6,7] (fun _ _ wy => ∃ ev',PaM w p cp q d lp mb n m ev' fv (partBody n id L s').1 s p' cp' q' d' (partBody n id L s').2 wy)
 case first =>
   clear hK0
   by_cases h15 : id = 15 ∨ id = 16
   · have HE:=Lib.hid (show partBody n id L s' = ({ L with files:=(amongL id L.empty L.files s').1 },(amongL id L.empty L.files s').2) by
       unfold partBody
       rw [if_neg (by omega),if_pos h15])
     rw [HE.out]
     have HA:=Lib.hid (among_any w wx p cp q d lp mb n m ev fv L s p' cp' q' d' s' HP.out HNn.out (by have:=HB.out;omega) id h15)
     have t0 : ((id : Int) == 14) = false:=by rw [beq_eq_false_iff_ne];omega
     rcases h15 with rfl | rfl
     all_goals
       go_wp2_with (go_at_call 128;refine HA.out.mono ?_;rintro e w1 ⟨rfl,P1⟩)
       go_meet
       case rel => exact ⟨ev,P1⟩
   by_cases h17 : id = 17
   · subst h17
     have HE:=Lib.hid (show partBody n 17 L s' = ({ L with files:=(namesGo n 0 s'.inside L.files).1 },(namesGo n 0 s'.inside L.files).2) from rfl)
     rw [HE.out]
     have HA:=Lib.hid (names_any w wx p cp q d lp mb n m ev fv L s p' cp' q' d' s' HP.out HNn.out HB.out)
     go_wp2_with (go_at_call 129;refine HA.out.mono ?_;rintro e w1 ⟨rfl,P1⟩)
     go_meet
     case rel => exact ⟨ev,P1⟩
   by_cases h18 : id = 18 ∨ id = 19 ∨ id = 24 ∨ id = 20 ∨ id = 21
   · have HE:=Lib.hid (show partBody n id L s' = ({ L with files:=(numsGo id (s'.told n).1 0 (s'.told n).2.inside L.files).1 },(numsGo id (s'.told n).1 0 (s'.told n).2.inside L.files).2) by
       unfold partBody
       rw [if_neg (by omega),if_neg h15,if_neg h17,if_pos h18])
     rw [HE.out]
     have HA:=Lib.hid (numbers_any w wx p cp q d lp mb n m ev fv L s p' cp' q' d' s' HP.out HNn.out HB.out id)
     clear h15 h17
     rcases h18 with rfl | rfl | rfl | rfl | rfl
     all_goals
       go_wp2_with (go_at_call 130;refine HA.out.mono ?_;rintro e w1 ⟨rfl,P1⟩)
       go_meet
       case rel => exact ⟨ev,P1⟩
   by_cases h14 : id = 14
   · subst h14
     have HE:=Lib.hid (show partBody n 14 L s' = ({ L with empty:=(s'.bits n).1,files:=withEmpty L.files (s'.bits n).1 },(s'.bits n).2) from rfl)
     rw [HE.out]
     have HBt:=Lib.hid (fun wy (P : PaM w p cp q d lp mb n m ev fv L s p' cp' q' d' s' wy) => bits_any wy cp' q' s'.c (n : Int) (by omega) P.sub.cur (by have:=HB.out;omega))
     have HBE:=Lib.hid (show (s'.c.bits (n : Int)) = ((s'.bits n).1,(s'.bits n).2.c) from rfl)
     have HBK:=Lib.hid (show ({ s' with c:=(s'.bits n).2.c } : Rs) = (s'.bits n).2 from rfl)
     rw [HBE.out] at HBt
     have HEL:=Lib.hid (rbits_len s' n)
     have HPd:=Lib.hid (HP.out.fr0 (Fr.refl _ _).drew)
     obtain ⟨-,l1,-⟩:=cells5 HPd.out.fi.ls.ls
     have c0:=(cells9 HPd.out.sub.blk).1
     have HPE:=Lib.hid (show (partBody n 14 L s') = ({ L with empty:=(s'.bits n).1,files:=withEmpty L.files (s'.bits n).1 },(s'.bits n).2) from rfl)
     clear h15 h17 h18 HBE
     generalize (s'.bits n).1 = E at *
     generalize (s'.bits n).2 = u at *
     go_wp2_with fail
     have hlw : lp + 1 ≤ wx.drew.heap.size:=HPd.out.fi.ls.ls.lt
     go_region_held3 (fun w' => w'.cell? ⟨p',0,none⟩ = some (.pointer (some ⟨cp',0,none⟩)) ∧ w'.cell? ⟨lp,1,none⟩ = some (.int .i64 (n : Int)))
       (first | exact ⟨c0,l1⟩ | exact ⟨(cells9 P2.sub.blk).1,(cells5 P2.fi.ls.ls).2.1⟩ | exact ⟨(cells9 P3.sub.blk).1,(cells5 P3.fi.ls.ls).2.1⟩ | go_keep)
       (first
         | (go_at_call 127;refine (HBt.out _ HPd.out).mono ?_;rintro e w2 ⟨v,rfl,own2,C2,F2⟩;have R2:=HPd.out.sub.cur' F2 C2;rw [HBK.out] at R2;have P2:=HPd.out.on2 F2.two2 R2;obtain ⟨vao,vcap,rfl,-⟩:=own_outS own2;have P3:=P2.empty own2 hlw HEL.out;obtain ⟨-,-,-,l3,-,lf⟩:=cells5 P2.fi.ls.ls))
     have HP3:=Lib.hid P3
     have hEn : E.length ≤ n:=by rcases HEL.out with h | h <;> omega
     have hEI : (E.length : Int) ≤ 4000000:=by omega
     clear P3 P2 own2 R2 C2 F2 c0 l1 l3 lf HPd HBt
     obtain ⟨w3,hw3⟩ : ∃ w3,w3 = w2.setCell ⟨lp,3,none⟩ (.slice vao E.length vcap):=⟨_,rfl⟩
     rw [← hw3] at HP3 ⊢
     clear hw3
     obtain ⟨-,-,-,l3,l4,lf⟩:=cells5 HP3.out.fi.ls.ls
     go_wp2_with fail
     clear l3 l4 lf
     go_loopw [28] (fun iv wr => ∃ (k : Nat),k ≤ E.length ∧ iv = .int .i64 (k : Int) ∧ PaM w p cp q d lp mb n m (.slice vao E.length vcap) fv { L with empty:=E,files:=withEmpty L.files (E.take k) } s p' cp' q' d' u wr) (fun iv _ => E.length - (intOf iv).toNat)
     case atStart => exact ⟨0,Nat.zero_le _,rfl,by rw [List.take_zero,withEmpty_nil];exact HP3.out⟩
     case round =>
       obtain ⟨k,hk,rfl,P⟩:=hrel
       have HPr:=Lib.hid P
       clear P HP3
       by_cases hlt : k < E.length
       rotate_left
       · have hltI : ¬ (k : Int) < (E.length : Int):=by omega
         have HTk:=Lib.hid (show E.take k = E from List.take_of_length_le (by omega))
         go_wp2_with fail
         go_meet
         case rel => exact ⟨_,by have:=HPr.out;rw [HTk.out] at this;rw [HPE.out];exact this⟩
       have hltI : (k : Int) < (E.length : Int):=by omega
       have hkn : k < n:=by omega
       have hknI : (k : Int) < (n : Int):=by omega
       obtain ⟨b,hbk⟩:=some_get E k hlt
       obtain ⟨f0,hf0⟩:=some_get L.files k (by have:=HP.out.fi.fl;omega)
       have HSn:=Lib.hid (withEmpty_snoc hf0 hbk)
       have hfw : (withEmpty L.files (E.take k))[k]? = some f0:=(withEmpty_get L.files E k).trans hf0
       obtain ⟨x1,x2,he,-,-,ho⟩:=HPr.out.fi.emp.out
       obtain ⟨bb,oo,rfl,hblo,hb2,hcell⟩:=ho k hlt
       injection he with e1 e2 e3
       subst e1
       have c0 : wr.cell? ⟨bb,oo + k,none⟩ = some (.bool b):=(hcell k (by dsimp only;omega)).trans (tv_get _ _ _ hbk)
       obtain ⟨gf,fcap,hfv⟩ : ∃ gf fcap,fv = .slice (some ⟨gf,0,none⟩) n fcap:=by
         rcases HPr.out.fi.own.2 with ⟨h1,h2⟩ | ⟨g',cap',cur,h1,-⟩
         · omega
         · exact ⟨g',cap',h1⟩
       subst hfv
       obtain ⟨⟨u5,hu5⟩,⟨u6,hu6⟩,hfz,P9⟩:=HPr.out.put2 k f0 { f0 with stream:=!b } { f0 with stream:=!b,dir:=b } 1 2 (.bool (!b)) (.bool b) hfw (by decide) (by decide) rfl rfl
       obtain ⟨l0,l1,l2,l3,l4,lf⟩:=cells5 HPr.out.fi.ls.ls
       have HFin:=Lib.hid (P9.fr0 (Fr.refl _ _).drew)
       dsimp only at HFin
       rw [← HSn.out] at HFin
       clear hcell ho hbk hf0 hfw e2 e3 P9 hkn HSn
       go_wp2_with fail
       go_region
       all_goals
         go_wp2_with fail
         go_roundw
         case rel => exact ⟨k + 1,by omega,by go_num,HFin.out⟩
         case measure => simp [intOf];omega
   by_cases h25 : id = 25
   · have HE:=Lib.hid (show partBody n id L s' = (L,s'.dummy) by rw [h25];rfl)
     have HPE:=HE
     have t1 : ((id : Int) == 25) = true:=by rw [h25];rfl
     have t2 : ((id : Int) == 15) = false:=by rw [h25];rfl
     have t3 : ((id : Int) == 16) = false:=by rw [h25];rfl
     have t4 : ((id : Int) == 14) = false:=by rw [h25];rfl
     have t5 : ((id : Int) == 17) = false:=by rw [h25];rfl
     have t6 : ((id : Int) == 18) = false:=by rw [h25];rfl
     have t7 : ((id : Int) == 19) = false:=by rw [h25];rfl
     have t8 : ((id : Int) == 20) = false:=by rw [h25];rfl
     have t9 : ((id : Int) == 21) = false:=by rw [h25];rfl
     have t10 : ((id : Int) == 24) = false:=by rw [h25];rfl
     clear h15 h17 h18 h14 h25
     go_wp2_with fail
     have hle0:=HP.out.sub.le
     go_loopw [] (fun wr => ∃ (mm : Nat) (x : Rs),s'.dummy = dummyGo mm x ∧ x.c.b.length - x.c.at_ < mm ∧ x.c.b = s'.c.b ∧ PaM w p cp q d lp mb n m ev fv L s p' cp' q' d' x wr) (fun wr => s'.c.b.length - atOf wr cp')
     case atStart => exact ⟨s'.c.b.length + 1,s',rfl,by omega,rfl,HP.out⟩
     case round =>
       obtain ⟨mm,x,hgo,hmm,hxb,P⟩:=hrel
       have HGo:=Lib.hid hgo
       have HPr:=Lib.hid P
       have HXB:=Lib.hid hxb
       have HMM:=Lib.hid hmm
       obtain ⟨mm',rfl⟩ : ∃ mm',mm = mm' + 1:=⟨mm - 1,by omega⟩
       have hxl : x.c.b.length ≤ 4000000:=by rw [hxb];exact HB.out
       have HXL:=Lib.hid hxl
       have c0:=(cells9 P.sub.blk).1
       have hll:=left_le x.c
       have HEnd:=Lib.hid (dummyGo_end (s:=x) (m:=mm'))
       have HBad:=Lib.hid (dummyGo_bad (s:=x) (m:=mm'))
       have HOk:=Lib.hid (dummyGo_ok (s:=x) (m:=mm'))
       have HOn:=Lib.hid (byte_on (s:=x))
       have HBB:=Lib.hid (byte_b x)
       have HLf:=Lib.hid (fun wy (P : PaM w p cp q d lp mb n m ev fv L s p' cp' q' d' x wy) => left_any wy cp' q' x.c P.sub.cur)
       clear P hgo hmm hxb hxl hle0
       by_cases hl0 : x.c.left = 0
       · have HL0:=Lib.hid hl0
         rw [hl0] at HLf
         have HD:=Lib.hid (show s'.dummy = x by rw [HGo.out,HEnd.out hl0])
         clear hl0 hll
         go_wp2_with (go_at_call 39;refine (HLf.out _ HPr.out).mono ?_;rintro e w3 ⟨rfl,S3⟩;have P3:=HPr.out.fr0 S3.fr)
         go_meet
         case rel => exact ⟨ev,by rw [HPE.out,HD.out];exact P3⟩
       have hlI : (0 : Int) < (x.c.left : Int):=by omega
       have hlI2 : (x.c.left : Int) ≤ 4000000:=by have:=HXL.out;omega
       have HOn2:=Lib.hid (HOn.out hl0)
       have HBad2:=Lib.hid (HBad.out hl0)
       have HOk2:=Lib.hid (HOk.out hl0)
       have HLI:=Lib.hid hl0
       clear hl0 HEnd
       generalize x.c.left = lf at *
       by_cases hz : x.ok.k = 0
       rotate_left
       · have HK:=Lib.hid (show (x.ok.k == 0) = false by rw [beq_eq_false_iff_ne];exact hz)
         have HD:=Lib.hid (show s'.dummy = x.ok by rw [HGo.out,HBad2.out hz])
         clear hz
         go_wp2_with (first
           | (have hq:=P3;go_at_call 37;refine (ok_any _ p' cp' q' x _ P3.sub).mono ?_;rw [HK.out];rintro e w4 ⟨rfl,R4,F4⟩;have P4:=P3.on2 F4.two1 R4)
           | (go_at_call 39;refine (HLf.out _ HPr.out).mono ?_;rintro e w3 ⟨rfl,S3⟩;have P3:=HPr.out.fr0 S3.fr))
         go_meet
         case rel => exact ⟨ev,by rw [HPE.out,HD.out];exact P4⟩
       have HK:=Lib.hid (show (x.ok.k == 0) = true by rw [hz];rfl)
       have HO:=Lib.hid (Rs.ok_of_zero hz)
       have HBy:=Lib.hid (fun wy (P : PaM w p cp q d lp mb n m ev fv L s p' cp' q' d' x wy) => byte_any wy p' cp' q' x d' P.sub (by have:=HXL.out;omega))
       have HD:=Lib.hid (show s'.dummy = dummyGo mm' (if x.byte.1 ≠ 0 then x.byte.2.fail 5 else x.byte.2) by rw [HGo.out,HOk2.out hz])
       clear hz
       generalize x.byte.1 = v at *
       generalize x.byte.2 = y at *
       by_cases hv : v = 0
       · subst hv
         rw [if_neg (by simp)] at HD
         go_wp2_with (first
           | (have hq:=P4;go_at_call 34;refine (HBy.out _ P4).mono ?_;rintro e w5 ⟨rfl,R5,F5⟩;have P5:=P4.on2 F5.two2 R5)
           | (have hq:=P3;go_at_call 37;refine (ok_any _ p' cp' q' x _ P3.sub).mono ?_;rw [HK.out,HO.out];rintro e w4 ⟨rfl,R4,F4⟩;have P4:=P3.on2 F4.two1 R4)
           | (go_at_call 39;refine (HLf.out _ HPr.out).mono ?_;rintro e w3 ⟨rfl,S3⟩;have P3:=HPr.out.fr0 S3.fr))
         go_roundw
         case rel => exact ⟨mm',y,HD.out,by have h1:=HOn2.out;have h2:=HMM.out;rw [HBB.out,h1.1];omega,by rw [HBB.out,HXB.out],P5⟩
         case measure =>
           have h1:=P5.sub.cur.atOf
           have h2:=HPr.out.sub.cur.atOf
           have h3:=HOn2.out
           have h4:=HXB.out
           rw [h1,h2]
           rw [h4] at h3
           omega
       · have t0 : ((v : Int) == 0) = false:=by rw [beq_eq_false_iff_ne];omega
         have t1 : ((v : Int) != 0) = true:=by simp;omega
         rw [if_pos hv] at HD
         clear hv
         go_wp2_with (first
           | (have hq:=P5;go_at_call 38;refine (rfail_any _ p' cp' q' y _ 5 P5.sub).mono ?_;rintro e w6 ⟨rfl,R6,F6⟩;have P6:=P5.on2 F6.two1 R6)
           | (have hq:=P4;go_at_call 34;refine (HBy.out _ P4).mono ?_;rintro e w5 ⟨rfl,R5,F5⟩;have P5:=P4.on2 F5.two2 R5)
           | (have hq:=P3;go_at_call 37;refine (ok_any _ p' cp' q' x _ P3.sub).mono ?_;rw [HK.out,HO.out];rintro e w4 ⟨rfl,R4,F4⟩;have P4:=P3.on2 F4.two1 R4)
           | (go_at_call 39;refine (HLf.out _ HPr.out).mono ?_;rintro e w3 ⟨rfl,S3⟩;have P3:=HPr.out.fr0 S3.fr))
         go_roundw
         case rel => exact ⟨mm',y.fail 5,HD.out,by have h1:=HOn2.out;have h2:=HMM.out;rw [Rs.fail_c,HBB.out,h1.1];omega,by rw [Rs.fail_c,HBB.out,HXB.out],P6⟩
         case measure =>
           have h1:=P6.sub.cur.atOf
           have h2:=HPr.out.sub.cur.atOf
           have h3:=HOn2.out
           have h4:=HXB.out
           rw [h1,h2,Rs.fail_c]
           rw [h4] at h3
           omega
   have HE:=Lib.hid (show partBody n id L s' = (L,s') by
     unfold partBody
     rw [if_neg h14,if_neg h15,if_neg h17,if_neg h18,if_neg h25])
   rw [HE.out]
   have t1 : ((id : Int) == 25) = false:=by rw [beq_eq_false_iff_ne];omega
   have t2 : ((id : Int) == 15) = false:=by rw [beq_eq_false_iff_ne];omega
   have t3 : ((id : Int) == 16) = false:=by rw [beq_eq_false_iff_ne];omega
   have t4 : ((id : Int) == 14) = false:=by rw [beq_eq_false_iff_ne];omega
   have t5 : ((id : Int) == 17) = false:=by rw [beq_eq_false_iff_ne];omega
   have t6 : ((id : Int) == 18) = false:=by rw [beq_eq_false_iff_ne];omega
   have t7 : ((id : Int) == 19) = false:=by rw [beq_eq_false_iff_ne];omega
   have t8 : ((id : Int) == 20) = false:=by rw [beq_eq_false_iff_ne];omega
   have t9 : ((id : Int) == 21) = false:=by rw [beq_eq_false_iff_ne];omega
   have t10 : ((id : Int) == 24) = false:=by rw [beq_eq_false_iff_ne];omega
   clear h14 h15 h17 h18 h25
   go_wp2_with fail
   go_meet
   case rel => exact ⟨ev,by rw [HE.out];exact HP.out⟩
 case rest =>
 obtain ⟨ev',P1⟩:=hcut
 have hb1 : (partBody n id L s').2.c.b.length ≤ 4000000:=by rw [partBody_b];exact HB.out
 generalize partBody n id L s' = r at *
 obtain ⟨L1,t⟩:=r
 dsimp only at P1 hb1
 have HTL:=Lib.hid hb1
 have hll:=left_le t.c
 have HLf:=Lib.hid (fun wy (P : PaM w p cp q d lp mb n m ev' fv L1 s p' cp' q' d' t wy) => left_any wy cp' q' t.c P.sub.cur)
 by_cases hz : t.ok.k = 0
 rotate_left
 · have HK:=Lib.hid (show (t.ok.k == 0) = false by rw [beq_eq_false_iff_ne];exact hz)
   have HOO:=Lib.hid (Rs.ok_ok t)
   have HE:=Lib.hid (show t.partEnd = t.ok by unfold Rs.partEnd;rw [if_neg (fun h => hz h.1)])
   have HT:=Lib.hid (show s.told' t.ok.k = s.fail t.ok.k by unfold Rs.told';rw [if_neg hz])
   clear hz hb1 hll
   go_wp2_with (first
     | (have hq:=P2;go_at_call 37;refine (ok_any _ p' cp' q' t.ok _ P2.sub).mono ?_;rw [HOO.out,HK.out];rintro e w3 ⟨rfl,R3,F3⟩;have P3:=P2.on2 F3.two1 R3)
     | (go_at_call 37;refine (ok_any _ p' cp' q' t _ P1.sub).mono ?_;rw [HK.out];rintro e w2 ⟨rfl,R2,F2⟩;have P2:=P1.on2 F2.two1 R2))
   have P3d:=P3.fr0 (Fr.refl _ _).drew
   obtain ⟨l0,-⟩:=cells5 P3d.fi.ls.ls
   obtain ⟨-,c1,-⟩:=cells9 P3d.sub.blk
   go_region_held3 (fun w' => w'.cell? ⟨lp,0,none⟩ = some (.pointer (some ⟨p,0,none⟩)) ∧ w'.cell? ⟨p',1,none⟩ = some (.int .i64 (t.ok.k : Int)))
     (first | exact ⟨l0,c1⟩ | exact ⟨(cells5 P4.fi.ls.ls).1,(cells9 P4.sub.blk).2.1⟩ | go_keep)
     (first
       | (go_at_call 38;refine (rfail_any _ p cp q s _ t.ok.k P3d.fi.ls.rd).mono ?_;rintro e w4 ⟨rfl,R4,F4⟩;have P4:=P3d.out F4.two1 R4))
   go_wp2_with fail
   go_end0
   exact ⟨rfl,ev',by rw [HE.out,HT.out];exact P4⟩
 have HK:=Lib.hid (show (t.ok.k == 0) = true by rw [hz];rfl)
 have HO:=Lib.hid (Rs.ok_of_zero hz)
 by_cases hl : t.c.left = 0
 · have HE:=Lib.hid (show t.partEnd = t by unfold Rs.partEnd;rw [if_neg (by rw [hl];simp),Rs.ok_of_zero hz])
   have HT:=Lib.hid (show s.told' t.k = s by unfold Rs.told';rw [if_pos (Rs.ok_zero hz).1])
   rw [hl] at HLf
   clear hz hb1 hll hl
   go_wp2_with (first
     | (have hq:=P3;go_at_call 37;refine (ok_any _ p' cp' q' t _ P3.sub).mono ?_;rw [HK.out,HO.out];rintro e w4 ⟨rfl,R4,F4⟩;have P4:=P3.on2 F4.two1 R4)
     | (have hq:=P2;go_at_call 39;refine (HLf.out _ P2).mono ?_;rintro e w3 ⟨rfl,S3⟩;have P3:=P2.fr0 S3.fr)
     | (go_at_call 37;refine (ok_any _ p' cp' q' t _ P1.sub).mono ?_;rw [HK.out,HO.out];rintro e w2 ⟨rfl,R2,F2⟩;have P2:=P1.on2 F2.two1 R2;have c2:=(cells9 P2.sub.blk).1))
   go_end0
   exact ⟨rfl,ev',by rw [HE.out,HT.out];exact P4⟩
 · have hlI : (0 : Int) < (t.c.left : Int):=by omega
   have hlI2 : (t.c.left : Int) ≤ 4000000:=by omega
   have hk5 : (t.fail 5).k = 5:=Rs.fail_k (Rs.ok_zero hz).1
   have HE:=Lib.hid (show t.partEnd = t.fail 5 by unfold Rs.partEnd;rw [if_pos ⟨hz,by omega⟩,Rs.ok_of_zero hz])
   have HT:=Lib.hid (show s.told' (t.fail 5).k = s.fail (t.fail 5).k by unfold Rs.told';rw [if_neg (by rw [hk5];decide)])
   have HK5:=Lib.hid (show ((t.fail 5).ok.k == 0) = false by rw [Rs.fail_ok (by decide),hk5];rfl)
   have HO5:=Lib.hid (Rs.fail_ok (s:=t) (e:=5) (by decide))
   clear hz hb1 hll hl hk5
   generalize t.c.left = lf at *
   go_wp2_with (first
     | (have hq:=P4;go_at_call 37;refine (ok_any _ p' cp' q' (t.fail 5) _ P4.sub).mono ?_;rw [HK5.out,HO5.out];rintro e w5 ⟨rfl,R5,F5⟩;have P5:=P4.on2 F5.two1 R5)
     | (have hq:=P3;go_at_call 38;refine (rfail_any _ p' cp' q' t _ 5 P3.sub).mono ?_;rintro e w4 ⟨rfl,R4,F4⟩;have P4:=P3.on2 F4.two1 R4)
     | (have hq:=P2;go_at_call 39;refine (HLf.out _ P2).mono ?_;rintro e w3 ⟨rfl,S3⟩;have P3:=P2.fr0 S3.fr)
     | (go_at_call 37;refine (ok_any _ p' cp' q' t _ P1.sub).mono ?_;rw [HK.out,HO.out];rintro e w2 ⟨rfl,R2,F2⟩;have P2:=P1.on2 F2.two1 R2;have c2:=(cells9 P2.sub.blk).1))
   have P5d:=P5.fr0 (Fr.refl _ _).drew
   obtain ⟨l0,-⟩:=cells5 P5d.fi.ls.ls
   obtain ⟨-,c1,-⟩:=cells9 P5d.sub.blk
   go_region_held3 (fun w' => w'.cell? ⟨lp,0,none⟩ = some (.pointer (some ⟨p,0,none⟩)) ∧ w'.cell? ⟨p',1,none⟩ = some (.int .i64 ((t.fail 5).k : Int)))
     (first | exact ⟨l0,c1⟩ | exact ⟨(cells5 P6.fi.ls.ls).1,(cells9 P6.sub.blk).2.1⟩ | go_keep)
     (first
       | (go_at_call 38;refine (rfail_any _ p cp q s _ (t.fail 5).k P5d.fi.ls.rd).mono ?_;rintro e w6 ⟨rfl,R6,F6⟩;have P6:=P5d.out F6.two1 R6))
   go_wp2_with fail
   go_end0
   exact ⟨rfl,ev',by rw [HE.out,HT.out];exact P6⟩
end Go.Proofs.YtkodindajfdagaaGreatDoor
/- Contract: the reader's files. No condition but that lengths fit. -/
namespace Go.Proofs.YtkodindajfdagaaGreatDoor
open Go.RowKit Go.Maps
def zFil : Fil:=⟨[],false,false,false,0,false,0⟩
theorem made_fil (n : Nat) : (madeCells (Value.cells (.agg #[.string .empty,.bool false,.bool false,.bool false,.int .u32 0,.bool false,.int .u64 0])) (n * 7)).toList = fiV (List.replicate n zFil):=by
 rw [made_list _ 7 rfl n]
 induction n with
 | zero => rfl
 | succ n ih =>
   rw [List.replicate_succ,List.flatten_cons,ih,List.replicate_succ]
   rfl
def strTo (n k : Nat) : List Fil:=List.replicate k noFil ++ List.replicate (n - k) zFil
theorem strTo_zero (n : Nat) : strTo n 0 = List.replicate n zFil:=by simp [strTo]
theorem strTo_all (n : Nat) : strTo n n = List.replicate n noFil:=by simp [strTo]
theorem strTo_len {n k : Nat} (h : k ≤ n) : (strTo n k).length = n:=by simp [strTo];omega
theorem strTo_get {n k : Nat} (h : k < n) : (strTo n k)[k]? = some zFil:=by
 unfold strTo
 rw [List.getElem?_append_right (by simp),List.length_replicate,Nat.sub_self]
 obtain ⟨j,hj⟩ : ∃ j,n - k = j + 1:=⟨n - k - 1,by omega⟩
 rw [hj,List.replicate_succ]
 rfl
theorem strTo_succ {n k : Nat} (h : k < n) : (strTo n k).set k noFil = strTo n (k + 1):=by
 unfold strTo
 rw [List.set_append_right _ _ (by simp),List.length_replicate,Nat.sub_self]
 obtain ⟨j,hj⟩ : ∃ j,n - k = j + 1:=⟨n - k - 1,by omega⟩
 rw [hj,show n - (k + 1) = j by omega,List.replicate_succ,List.replicate_succ']
 simp
theorem filesGo_bad {n m : Nat} {L : Lst} {s : Rs} (h : s.ok.k ≠ 0) : filesGo n (m + 1) L s = (L,s.ok):=by
 show (if s.ok.k ≠ 0 then _ else _) = _
 rw [if_pos h]
theorem filesGo_end {n m : Nat} {L : Lst} {s : Rs} (h : s.ok.k = 0) (h2 : s.byte.2.ok.k ≠ 0 ∨ s.byte.1 = 0) : filesGo n (m + 1) L s = (L,s.byte.2.ok):=by
 show (if s.ok.k ≠ 0 then _ else if s.ok.byte.2.ok.k ≠ 0 ∨ s.ok.byte.1 = 0 then _ else _) = _
 rw [if_neg (by simp [h]),Rs.ok_of_zero h,if_pos h2]
theorem filesGo_not {n m : Nat} {L : Lst} {s : Rs} (h : s.ok.k = 0) (h2 : s.byte.2.ok.k = 0) (h3 : s.byte.1 ≠ 0) (h4 : mayL L.said s.byte.1 = false) : filesGo n (m + 1) L s = (L,s.byte.2.fail 5):=by
 show (if s.ok.k ≠ 0 then _ else if s.ok.byte.2.ok.k ≠ 0 ∨ s.ok.byte.1 = 0 then _ else if mayL L.said s.ok.byte.1 = false then _ else _) = _
 rw [if_neg (by simp [h]),Rs.ok_of_zero h,if_neg (by simp [h2,h3]),if_pos h4,Rs.ok_of_zero h2]
def Rs.chunk (s : Rs) : List UInt8 × Rs:=s.things.2.take s.things.1
theorem filesGo_cut {n m : Nat} {L : Lst} {s : Rs} (h : s.ok.k = 0) (h2 : s.byte.2.ok.k = 0) (h3 : s.byte.1 ≠ 0) (h4 : mayL L.said s.byte.1 = true) (h5 : s.byte.2.chunk.2.ok.k ≠ 0) : filesGo n (m + 1) L s = filesGo n m (L.say s.byte.1) s.byte.2.chunk.2.ok:=by
 show (if s.ok.k ≠ 0 then _ else if s.ok.byte.2.ok.k ≠ 0 ∨ s.ok.byte.1 = 0 then _ else if mayL L.said s.ok.byte.1 = false then _ else if s.ok.byte.2.ok.chunk.2.ok.k ≠ 0 then _ else _) = _
 rw [if_neg (by simp [h]),Rs.ok_of_zero h,if_neg (by simp [h2,h3]),if_neg (by simp [h4]),Rs.ok_of_zero h2,if_pos h5]
 rfl
theorem filesGo_ok {n m : Nat} {L : Lst} {s : Rs} (h : s.ok.k = 0) (h2 : s.byte.2.ok.k = 0) (h3 : s.byte.1 ≠ 0) (h4 : mayL L.said s.byte.1 = true) (h5 : s.byte.2.chunk.2.ok.k = 0) :
   filesGo n (m + 1) L s = filesGo n m (partL n s.byte.1 (L.say s.byte.1) s.byte.2.chunk.1).1 (s.byte.2.chunk.2.told' (partL n s.byte.1 (L.say s.byte.1) s.byte.2.chunk.1).2):=by
 show (if s.ok.k ≠ 0 then _ else if s.ok.byte.2.ok.k ≠ 0 ∨ s.ok.byte.1 = 0 then _ else if mayL L.said s.ok.byte.1 = false then _ else if s.ok.byte.2.ok.chunk.2.ok.k ≠ 0 then _ else _) = _
 rw [if_neg (by simp [h]),Rs.ok_of_zero h,if_neg (by simp [h2,h3]),if_neg (by simp [h4]),Rs.ok_of_zero h2,if_neg (by simp [h5])]
 show filesGo n m (partL n s.byte.1 (L.say s.byte.1) s.byte.2.chunk.1).1 (s.byte.2.chunk.2.ok.told' _) = _
 rw [Rs.ok_of_zero h5]
 rfl
theorem chunk_b (s : Rs) : s.chunk.2.c.b = s.c.b:=by
 unfold Rs.chunk
 rw [take_b,things_b]
theorem told'_c (s : Rs) (e : Nat) : (s.told' e).c = s.c:=by
 unfold Rs.told'
 split <;> rfl
theorem chunk_len (s : Rs) : s.chunk.1.length ≤ s.c.b.length:=by
 have:=Cur.take_length s.things.2.c s.things.1
 rw [show s.things.2.c.b = s.c.b from things_b s] at this
 exact this
theorem number_at (c : Cur) : c.at_ ≤ c.number.2.at_:=by
 unfold Cur.number
 split
 · exact Nat.le_refl _
 · dsimp only;omega
theorem things_at (s : Rs) : s.c.at_ ≤ s.things.2.c.at_:=by
 have h : s.c.at_ ≤ s.number.2.c.at_:=number_at s.c
 unfold Rs.things Rs.lim
 split
 · exact h
 · split
   · exact h
   · exact h
theorem take_at (s : Rs) (n : Nat) : s.c.at_ ≤ (s.take n).2.c.at_:=by
 show s.c.at_ ≤ (s.c.take n).2.at_
 unfold Cur.take
 split
 · exact Nat.le_refl _
 · dsimp only;omega
theorem chunk_at (s : Rs) : s.c.at_ ≤ s.chunk.2.c.at_:=by
 have:=things_at s
 have:=take_at s.things.2 s.things.1
 unfold Rs.chunk
 omega
theorem byte_left {s : Rs} (h : s.byte.2.ok.k = 0) : s.c.left ≠ 0:=by
 intro hl
 have hc:=(Rs.ok_zero h).2
 have e : s.byte.2.c = (s.c.take 1).2:=rfl
 rw [e] at hc
 unfold Cur.take at hc
 rw [if_pos (.inr (by omega))] at hc
 unfold Cur.fail at hc
 dsimp only at hc
 split at hc
 · cases hc
 · contradiction
theorem FiM.put {w : World} {p cp : Nat} {q : Option Nat} {d : DV} {lp mb n m g cap : Nat} {ev : Value} {L : Lst} {s : Rs} {wx : World} (h : FiM w p cp q d lp mb n m ev (.slice (some ⟨g,0,none⟩) n cap) L s wx)
   (i : Nat) (x y : Fil) (j : Nat) (v : Value) (hx : L.files[i]? = some x) (hj : j < 7) (e : x.cells.set j v = y.cells) :
   (∃ u,wx.cell? ⟨g,i * 7 + j,none⟩ = some u) ∧ wx.frozen? ⟨g,i * 7 + j,none⟩ = false ∧ FiM w p cp q d lp mb n m ev (.slice (some ⟨g,0,none⟩) n cap) { L with files:=L.files.set i y } s (wx.setCell ⟨g,i * 7 + j,none⟩ v):=by
 have hl:=h.lps
 have hg : lp + 1 ≤ g:=(own_ltS h.own g rfl).1
 have hi:=(List.getElem?_eq_some_iff.1 hx).1
 have hfl:=h.fl
 have hgt : Typed wx g 54:=own_typed h.own g (by simp [Value.ownBlock])
 have F : Fr [g] wx (wx.setCell ⟨g,i * 7 + j,none⟩ v):=(Fr.refl _ _).setCell (by simp) _
 have hst:=(h.own.stored (i * 7 + j) v).1
 rw [fiV_set L.files i x y j v hx hj e] at hst
 obtain ⟨u,hu⟩:=some_get (fiV L.files) (i * 7 + j) (by rw [fiV_length];omega)
 exact ⟨⟨u,(h.own.cellAt (i * 7 + j) (by omega)).trans hu⟩,h.own.frozenAt _,⟨h.ls.on F (by simp;omega) (h.ls.rd.fr F (by simp;omega) (by simp;omega) (fun k hk => by have:=hl.2.2.2 k hk;simp;omega)),hst,h.emp.frT F (fun k hk => .inr (by rw [List.mem_singleton.1 hk];exact hgt.ne (by decide))),by rw [List.length_set];exact hfl,h.el,h.qw⟩⟩
theorem FiM.say {w : World} {p cp : Nat} {q : Option Nat} {d : DV} {lp mb n m : Nat} {ev fv : Value} {L : Lst} {s : Rs} {wx w5 : World} (h : FiM w p cp q d lp mb n m ev fv L s wx) (v : Nat) (I : ISet w5 mb (m + 1) (addI L.said (v : Int))) (g : wx.grownBy w5 (some mb)) : FiM w p cp q d lp mb n (m + 1) ev fv (L.say v) s w5:=by
 have F : Fr [mb] wx w5:=(Fr.refl _ _).grown g (fun i hi => .inl (by cases hi;simp))
 have hl:=h.lps
 obtain ⟨k1,k2,k3,k4,k5,k6,k7,k8⟩:=h.ls
 have hS : ∀ i ∈ [mb],i < lp + 1:=by simp;omega
 exact ⟨⟨k1.fr F (by simp;omega),I,k3.fr F (by simp;omega) (by simp;omega) (fun k hk => by have:=h.qw k hk;simp;omega),k4.trans F (by simp;omega),k5,k6,k7,k8⟩,own_frB h.own F hS,h.emp.fr F hS,h.fl,h.el,h.qw⟩
def dv0 : DV:=⟨.bool false,.int .u64 0,.slice none 0 0,.slice none 0 0,.slice none 0 0,.slice none 0 0,.slice none 0 0⟩
theorem PaM.new {w : World} {p cp : Nat} {q : Option Nat} {d : DV} {lp mb n m : Nat} {ev fv : Value} {L : Lst} {s : Rs} {wx w9 : World} {cp' : Nat} {q' : Option Nat} {bs : List UInt8} (h : FiM w p cp q d lp mb n m ev fv L s wx) (N : CurAt w9 cp' q' ⟨bs,0,0⟩) (F : Fr [] wx w9) (hcp : wx.heap.size ≤ cp') (hq : ∀ k,q' = some k → wx.heap.size ≤ k ∧ k < cp') :
   PaM w p cp q d lp mb n m ev fv L s w9.heap.size cp' q' dv0 (newRs bs) (w9.alloc (.cells #[.pointer (some ⟨cp',0,none⟩),.int .i64 0,.bool false,.int .u64 0,.slice none 0 0,.slice none 0 0,.slice none 0 0,.slice none 0 0,.slice none 0 0] 82)):=by
 have hsz:=F.size
 have hcw:=N.lt
 have FA : Fr [] w9 (w9.alloc (.cells #[.pointer (some ⟨cp',0,none⟩),.int .i64 0,.bool false,.int .u64 0,.slice none 0 0,.slice none 0 0,.slice none 0 0,.slice none 0 0,.slice none 0 0] 82)):=(Fr.refl _ _).alloc _
 have hlp:=h.ls.ls.lt
 refine ⟨(h.fr0 F).fr0 FA,⟨heap_alloc_new w9 _,N.fr FA (by simp) (by simp),by omega,fun e => by have:=(hq _ e).2;omega,fun k hk => by have:=(hq k hk).2;rw [World.size_alloc];omega⟩,by omega,by omega,fun k hk => by have:=(hq k hk).1;omega,fun k hk => ?_⟩
 have:=(own_ltS h.own k hk).2
 exact ⟨by omega,by omega,fun e => by have:=(hq k e).1;omega⟩
theorem part_ok (w wx : World) (p cp : Nat) (q : Option Nat) (d : DV) (lp mb n m : Nat) (ev fv : Value) (L : Lst) (s : Rs) (p' cp' : Nat) (q' : Option Nat) (d' : DV) (s' : Rs) (h : PaM w p cp q d lp mb n m ev fv L s p' cp' q' d' s' wx)
   (hn : n ≤ 4000000) (hb : s'.c.b.length ≤ 4000000) (id : Nat) :
   Calls Tryz.prog 102 #[.pointer (some ⟨lp,0,none⟩),.int .i64 (id : Int),.pointer (some ⟨p',0,none⟩)] wx fun e w' => e = .returned (.tuple #[]) ∧ ∃ ev,PaM w p cp q d lp mb n m ev fv (partBody n id L s').1 (s.told' (partBody n id L s').2.partEnd.k) p' cp' q' d' (partBody n id L s').2.partEnd w' :=
 part_any w wx p cp q d lp mb n m ev fv L s p' cp' q' d' s' h hn hb id
def FilesR (w : World) (p cp : Nat) (q : Option Nat) (d : DV) (r : List Fil × Rs) (e : Ending) (w' : World) : Prop :=
 e = .returned (.tuple #[]) ∧ ∃ es,RdAt w' p cp q r.2 { d with es:=es } ∧ w'.ownsRow w.heap.size 54 7 es r.1.length (fiV r.1) ∧ Fr [p,cp] w w'
set_option maxRecDepth 100000 in
set_option maxHeartbeats 8000000 in
theorem files_any (w : World) (p cp : Nat) (q : Option Nat) (s : Rs) (d : DV) (h : RdAt w p cp q s d) (hb : s.c.b.length ≤ 4000000) :
   Calls Tryz.prog 71 #[.pointer (some ⟨p,0,none⟩)] w (FilesR w p cp q d s.files):=by
 have HR0:=Lib.hid h
 have HLT:=Lib.hid (And.intro h.lt h.cur.lt)
 have HLQ:=Lib.hid h.ql
 have HT:=Lib.hid (things_ok w p cp q s d h (by omega))
 have HTB:=Lib.hid (show s.things.2.c.b.length ≤ 4000000 by rw [things_b];exact hb)
 have HTL:=Lib.hid (show s.things.1 ≤ 4000000 from Nat.le_trans (things_le _) hb)
 have HS:=Lib.hid (show s.files = Rs.filesEnd (s.things.2.filesN s.things.1) s.things.1 from rfl)
 clear h hb
 generalize s.things.2 = s1 at *
 generalize s.things.1 = n at *
 have hnI : (n : Int) ≤ 4000000:=by have:=HTL.out;omega
 obtain ⟨i0,hi0,hz0,hs0,hb0⟩:=info_parts info_fi
 have hb0' : i0.bytes * n ≤ 281474976710656:=by
   rw [hb0]
   have:=HTL.out
   omega
 go_enter Tryz.func71,Tryz.ntmps71
 have hmm:=@run_makeMap Tryz.prog
 refine wp_seq_k fun K0 hK0 => ?_
 go_cut [2] (fun v2 wx => ∃ lp mb,v2 = .pointer (some ⟨lp,0,none⟩) ∧ LsM w p cp q d lp mb n 0 (fun _ => false) (.slice none 0 0) (.slice none 0 0) s1 wx)
 case first =>
   clear hK0
   go_wp2_with (go_at_call 100;refine HT.out.mono ?_;rintro e w1 ⟨rfl,R1,F1⟩)
   have F12 : Fr [] w1 ((w1.alloc (Obj.map #[] 0)).alloc (Obj.cells #[.pointer (some ⟨p,0,none⟩),.int .i64 n,.map (some w1.heap.size),.slice none 0 0,.slice none 0 0] 152)):=((Fr.refl _ _).alloc _).alloc _
   have L2 : LsAt ((w1.alloc (Obj.map #[] 0)).alloc (Obj.cells #[.pointer (some ⟨p,0,none⟩),.int .i64 n,.map (some w1.heap.size),.slice none 0 0,.slice none 0 0] 152)) (w1.heap.size + 1) p n w1.heap.size (.slice none 0 0) (.slice none 0 0):=by
     have:=heap_alloc_new (w1.alloc (Obj.map #[] 0)) (Obj.cells #[.pointer (some ⟨p,0,none⟩),.int .i64 n,.map (some w1.heap.size),.slice none 0 0,.slice none 0 0] 152)
     rw [World.size_alloc] at this
     exact this
   have I2:=(ISet.made w1).fr ((Fr.refl [] (w1.alloc (Obj.map #[] 0))).alloc (Obj.cells #[.pointer (some ⟨p,0,none⟩),.int .i64 n,.map (some w1.heap.size),.slice none 0 0,.slice none 0 0] 152))
   go_meet
   case rel => exact ⟨_,w1.heap.size,rfl,L2,I2,R1.fr0 F12,F1.trans0 F12,F1.size,by omega,HLT.out.1,HLT.out.2⟩
 case rest =>
 obtain ⟨lp,mb,rfl,M1⟩:=hcut
 (refine hK0 _ _ ?_;clear hK0;refine wp_seq_k fun K1 hK1 => ?_)
 go_cut [] (fun wx => ∃ fv,FiM w p cp q d lp mb n 0 (.slice none 0 0) fv ⟨fun _ => false,[],strTo n 0⟩ s1 wx)
 case first =>
   clear hK1
   obtain ⟨l0,l1,l2,l3,l4,lf⟩:=cells5 M1.ls
   have hlw : lp + 1 ≤ wc.heap.size:=M1.ls.lt
   go_wp2_with (at_make;refine wpList_make_full _ rfl _ _ _ rfl wc.heap.size _ i0 _ _ Tryz.underlying36 hi0 hz0 hs0 _ _ _ _ n (by rfl) (by rfl) rfl rfl hb0' (by unfold maxLen;have:=HTL.out;omega) (Nat.le_refl _) ?_;intro w6 own6 g6;have F6:=(Fr.refl [] wc).grown g6 (by simp);have M6:=M1.fr0 F6;obtain ⟨k0,k1,k2,k3,k4,kf⟩:=cells5 M6.ls)
   rw [made_fil] at own6
   have M7:=M6.put4 HLQ.out (.slice (some ⟨wc.heap.size,0,none⟩) n n)
   have F67 : Fr [lp] w6 (w6.setCell ⟨lp,4,none⟩ (.slice (some ⟨wc.heap.size,0,none⟩) n n)):=(Fr.refl _ _).setCell (by simp) _
   have own7:=own_monoM (own_frB own6 F67 (by simp;omega)) hlw
   go_meet
   case rel => exact ⟨_,M7,by rw [strTo_zero];exact own7,Sm.nil _ _ _ _,strTo_len (by omega),.inl rfl,HLQ.out⟩
 case rest =>
 clear M1 hi0 hz0 hs0 hb0 hb0' hmm
 obtain ⟨fv,M2⟩:=hcut
 (refine hK1 _ _ ?_;clear hK1;refine wp_seq_k fun K2 hK2 => ?_)
 go_cut [3] (fun _ wx => FiM w p cp q d lp mb n 0 (.slice none 0 0) fv ⟨fun _ => false,[],List.replicate n noFil⟩ s1 wx)
 case first =>
   clear hK2
   obtain ⟨fao,fcap,rfl,-⟩:=own_outS M2.own
   obtain ⟨l0,l1,l2,l3,l4,lf⟩:=cells5 M2.ls.ls
   go_wp2_with fail
   clear l0 l1 l2 l3 l4 lf
   go_loopw [25] (fun iv wr => ∃ (k : Nat),k ≤ n ∧ iv = .int .i64 (k : Int) ∧ FiM w p cp q d lp mb n 0 (.slice none 0 0) (.slice fao n fcap) ⟨fun _ => false,[],strTo n k⟩ s1 wr) (fun iv _ => n - (intOf iv).toNat)
   case atStart => exact ⟨0,Nat.zero_le _,rfl,M2⟩
   case round =>
     obtain ⟨k,hk,rfl,M⟩:=hrel
     have HM:=Lib.hid M
     clear M M2
     by_cases hlt : k < n
     rotate_left
     · have hltI : ¬ (k : Int) < (n : Int):=by omega
       obtain rfl : k = n:=by omega
       have HE:=Lib.hid (strTo_all k)
       go_wp2_with fail
       go_meet
       case rel => rw [← HE.out];exact HM.out
     have hltI : (k : Int) < (n : Int):=by omega
     obtain ⟨gf,hgf⟩ : ∃ gf,fao = some ⟨gf,0,none⟩:=by
       rcases HM.out.own.2 with ⟨h1,h2⟩ | ⟨g',cap',cur,h1,-⟩
       · omega
       · injection h1 with h1 _ _;exact ⟨g',h1⟩
     subst hgf
     obtain ⟨⟨u0,hu0⟩,huz,P9⟩:=HM.out.put k zFil noFil 1 (.bool true) (strTo_get hlt) (by decide) rfl
     obtain ⟨l0,l1,l2,l3,l4,lf⟩:=cells5 HM.out.ls.ls
     have HP9:=Lib.hid P9
     dsimp only at HP9
     rw [strTo_succ hlt] at HP9
     clear P9
     go_wp2_with fail
     go_roundw
     case rel => exact ⟨k + 1,by omega,by go_num,HP9.out⟩
     case measure => simp [intOf];omega
 case rest =>
 clear M2
 have M3:=hcut
 clear hcut
 (refine hK2 _ _ ?_;clear hK2;refine wp_seq_k fun K3 hK3 => ?_)
 have HFN:=Lib.hid (show s1.filesN n = filesGo n (s1.c.b.length + 1) ⟨fun _ => false,[],List.replicate n noFil⟩ s1 from rfl)
 go_cut [4,5] (fun _ _ wx => ∃ (L : Lst) (u : Rs) (ev : Value) (m : Nat),s1.filesN n = (L,u) ∧ FiM w p cp q d lp mb n m ev fv L u wx)
 case first =>
   clear hK3
   go_wp2_with fail
   go_loopw [4,5] (fun _ _ wr => ∃ (mm m : Nat) (L : Lst) (x : Rs) (ev : Value),s1.filesN n = filesGo n mm L x ∧ x.c.b.length - x.c.at_ < mm ∧ m ≤ x.c.at_ ∧ x.c.b = s1.c.b ∧ FiM w p cp q d lp mb n m ev fv L x wr) (fun _ _ wr => s1.c.b.length - atOf wr cp)
   case atStart => exact ⟨s1.c.b.length + 1,0,_,s1,_,HFN.out,by have:=M3.ls.rd.le;omega,Nat.zero_le _,rfl,M3⟩
   case round =>
     obtain ⟨mm,m,L,x,ev,hgo,hmm,hmx,hxb,M⟩:=hrel
     have HGo:=Lib.hid hgo
     have HM:=Lib.hid M
     have HXB:=Lib.hid hxb
     have HMM:=Lib.hid hmm
     have HMX:=Lib.hid hmx
     have HXL:=Lib.hid (show x.c.b.length ≤ 4000000 by rw [hxb];exact HTB.out)
     have HLe:=Lib.hid M.ls.rd.le
     obtain ⟨mm',rfl⟩ : ∃ mm',mm = mm' + 1:=⟨mm - 1,by omega⟩
     clear M M3 hgo hmm hmx hxb
     by_cases hz : x.ok.k = 0
     rotate_left
     · have HK:=Lib.hid (show (x.ok.k == 0) = false by rw [beq_eq_false_iff_ne];exact hz)
       have HE:=Lib.hid (show s1.filesN n = (L,x.ok) by rw [HGo.out,filesGo_bad hz])
       clear hz
       go_wp2_with (go_at_call 37;refine (ok_any _ p cp q x _ HM.out.ls.rd).mono ?_;rw [HK.out];rintro e w2 ⟨rfl,R2,F2⟩;have M4:=HM.out.on2 F2.two1 R2)
       go_meet
       case rel => exact ⟨L,x.ok,ev,m,HE.out,M4⟩
     have HK:=Lib.hid (show (x.ok.k == 0) = true by rw [hz];rfl)
     have HO:=Lib.hid (Rs.ok_of_zero hz)
     have HBy:=Lib.hid (fun wy (R : RdAt wy p cp q x d) => byte_any wy p cp q x d R (by have:=HXL.out;omega))
     have HBB:=Lib.hid (byte_b x)
     have HEnd:=Lib.hid (filesGo_end (n:=n) (m:=mm') (L:=L) hz)
     have HNot:=Lib.hid (filesGo_not (n:=n) (m:=mm') (L:=L) hz)
     have HCut:=Lib.hid (filesGo_cut (n:=n) (m:=mm') (L:=L) hz)
     have HGOk:=Lib.hid (filesGo_ok (n:=n) (m:=mm') (L:=L) hz)
     have hv0:=num1_lt x
     have HOn : x.byte.2.ok.k = 0 → x.byte.2.c.at_ = x.c.at_ + 1 ∧ x.c.at_ + 1 ≤ x.c.b.length:=fun h => byte_on (byte_left h)
     have HOn:=Lib.hid HOn
     clear hz
     generalize x.byte.2 = y at *
     generalize x.byte.1 = v at *
     by_cases hzy : y.ok.k = 0
     rotate_left
     · have HKy:=Lib.hid (show (y.ok.k == 0) = false by rw [beq_eq_false_iff_ne];exact hzy)
       have HE:=Lib.hid (show s1.filesN n = (L,y.ok) by rw [HGo.out,HEnd.out (.inl hzy)])
       clear hzy
       go_wp2_with (first
         | (have hq:=M5;go_at_call 37;refine (ok_any _ p cp q y _ M5.ls.rd).mono ?_;rw [HKy.out];rintro e w4 ⟨rfl,R4,F4⟩;have M6:=M5.on2 F4.two1 R4)
         | (have hq:=M4;go_at_call 34;refine (HBy.out _ M4.ls.rd).mono ?_;rintro e w3 ⟨rfl,R3,F3⟩;have M5:=M4.on2 F3.two2 R3)
         | (go_at_call 37;refine (ok_any _ p cp q x _ HM.out.ls.rd).mono ?_;rw [HK.out,HO.out];rintro e w2 ⟨rfl,R2,F2⟩;have M4:=HM.out.on2 F2.two1 R2))
       go_meet
       case rel => exact ⟨L,y.ok,ev,m,HE.out,M6⟩
     have HKy:=Lib.hid (show (y.ok.k == 0) = true by rw [hzy];rfl)
     have HOy:=Lib.hid (Rs.ok_of_zero hzy)
     by_cases hv : v = 0
     · subst hv
       have HE:=Lib.hid (show s1.filesN n = (L,y) by rw [HGo.out,HEnd.out (.inr rfl),HOy.out])
       clear hzy
       go_wp2_with (first
         | (have hq:=M5;go_at_call 37;refine (ok_any _ p cp q y _ M5.ls.rd).mono ?_;rw [HKy.out,HOy.out];rintro e w4 ⟨rfl,R4,F4⟩;have M6:=M5.on2 F4.two1 R4)
         | (have hq:=M4;go_at_call 34;refine (HBy.out _ M4.ls.rd).mono ?_;rintro e w3 ⟨rfl,R3,F3⟩;have M5:=M4.on2 F3.two2 R3)
         | (go_at_call 37;refine (ok_any _ p cp q x _ HM.out.ls.rd).mono ?_;rw [HK.out,HO.out];rintro e w2 ⟨rfl,R2,F2⟩;have M4:=HM.out.on2 F2.two1 R2))
       go_meet
       case rel => exact ⟨L,y,ev,m,HE.out,M6⟩
     have t0 : ((v : Int) == 0) = false:=by rw [beq_eq_false_iff_ne];omega
     have HMay:=Lib.hid (fun wy (M : FiM w p cp q d lp mb n m ev fv L y wy) => may_any wy lp p n mb m ev fv L.said M.ls.ls M.ls.mp v)
     cases hmay : mayL L.said v with
     | false =>
       rw [hmay] at HMay
       have HE:=Lib.hid (show s1.filesN n = (L,y.fail 5) by rw [HGo.out,HNot.out hzy hv hmay])
       clear hzy hv hmay
       go_wp2_with (first
         | (have hq:=M7;go_at_call 38;refine (rfail_any _ p cp q y _ 5 M7.ls.rd).mono ?_;rintro e w6 ⟨rfl,R6,F6⟩;have M8:=M7.on2 F6.two1 R6)
         | (have hq:=M6;go_at_call 101;refine (HMay.out _ M6).mono ?_;rintro e w5 ⟨rfl,rfl⟩;have M7:=M6)
         | (have hq:=M5;go_at_call 37;refine (ok_any _ p cp q y _ M5.ls.rd).mono ?_;rw [HKy.out,HOy.out];rintro e w4 ⟨rfl,R4,F4⟩;have M6:=M5.on2 F4.two1 R4)
         | (have hq:=M4;go_at_call 34;refine (HBy.out _ M4.ls.rd).mono ?_;rintro e w3 ⟨rfl,R3,F3⟩;have M5:=M4.on2 F3.two2 R3)
         | (go_at_call 37;refine (ok_any _ p cp q x _ HM.out.ls.rd).mono ?_;rw [HK.out,HO.out];rintro e w2 ⟨rfl,R2,F2⟩;have M4:=HM.out.on2 F2.two1 R2))
       go_meet
       case rel => exact ⟨L,y.fail 5,ev,m,HE.out,M8⟩
     | true =>
       rw [hmay] at HMay
       have HOn2:=Lib.hid (HOn.out hzy)
       have HCut2:=Lib.hid (HCut.out hzy hv hmay)
       have HGOk2:=Lib.hid (HGOk.out hzy hv hmay)
       clear hzy hv hmay HEnd HNot HCut HGOk
       have HMS:=Lib.hid (fun wy (M : FiM w p cp q d lp mb n m ev fv L y wy) => M.ls.mp)
       have hwf : (Lit.int .i64 (v : Int)).wf = true:=WalkArith.wf_i64 (by omega)
       have HYL:=Lib.hid (show y.c.b.length ≤ 4000000 by rw [HBB.out];exact HXL.out)
       go_wp2_with (first
         | (at_mapUpdate;refine wpList_iset rfl _ _ _ rfl rfl M7.ls.mp (by rfl) (by rfl) hwf (by have h1:=HMX.out;have h2:=HLe.out;have h3:=HXL.out;omega) ?_;intro w6 IS6 g6;have M8:=M7.say v IS6 g6)
         | (have hq:=M6;go_at_call 101;refine (HMay.out _ M6).mono ?_;rintro e w5 ⟨rfl,rfl⟩;have M7:=M6;obtain ⟨l0,l1,l2,l3,l4,lf⟩:=cells5 M7.ls.ls)
         | (have hq:=M5;go_at_call 37;refine (ok_any _ p cp q y _ M5.ls.rd).mono ?_;rw [HKy.out,HOy.out];rintro e w4 ⟨rfl,R4,F4⟩;have M6:=M5.on2 F4.two1 R4)
         | (have hq:=M4;go_at_call 34;refine (HBy.out _ M4.ls.rd).mono ?_;rintro e w3 ⟨rfl,R3,F3⟩;have M5:=M4.on2 F3.two2 R3)
         | (go_at_call 37;refine (ok_any _ p cp q x _ HM.out.ls.rd).mono ?_;rw [HK.out,HO.out];rintro e w2 ⟨rfl,R2,F2⟩;have M4:=HM.out.on2 F2.two1 R2))
       have HM8:=Lib.hid M8
       have HM8d:=Lib.hid (M8.fr0 (Fr.refl _ _).drew)
       have HTh:=Lib.hid (fun wy d' (R : RdAt wy p cp q y d') => things_ok wy p cp q y d' R (by have:=HYL.out;omega))
       have HTl:=Lib.hid (show y.things.1 ≤ 4000000 from Nat.le_trans (things_le y) HYL.out)
       have HTb:=Lib.hid (show y.things.2.c.b.length ≤ 4000000 by rw [things_b];exact HYL.out)
       have HChk:=Lib.hid (show y.chunk = y.things.2.take y.things.1 from rfl)
       have HCb:=Lib.hid (chunk_b y)
       have HCl:=Lib.hid (chunk_len y)
       have HCa:=Lib.hid (chunk_at y)
       clear M4 M5 M6 M7 M8 R2 R3 R4 F2 F3 F4 hq l0 l1 l2 l3 l4 lf IS6 g6 hwf HMS HMay
       generalize y.things.2 = ts at *
       generalize y.things.1 = tn at *
       have htI : (tn : Int) ≤ 4000000:=by have:=HTl.out;omega
       have HTk:=Lib.hid (fun wy (R : RdAt wy p cp q ts d) => take_any wy cp q ts.c tn tn rfl (by have:=HTl.out;omega) R.cur (by have:=HTb.out;omega))
       have HTe:=Lib.hid (show (ts.c.take tn) = (y.chunk.1,y.chunk.2.c) by rw [HChk.out];rfl)
       have HTf:=Lib.hid (show ({ ts with c:=y.chunk.2.c } : Rs) = y.chunk.2 by rw [HChk.out];rfl)
       rw [HTe.out] at HTk
       clear HChk HTe
       generalize y.chunk.2 = z at *
       generalize y.chunk.1 = bs at *
       go_region_held3 (fun w' => w'.cell? ⟨p,0,none⟩ = some (.pointer (some ⟨cp,0,none⟩)))
         (first | exact (cells9 HM8d.out.ls.rd.blk).1 | exact (cells9 HM8.out.ls.rd.blk).1 | exact (cells9 M9.ls.rd.blk).1 | exact (cells9 M10.ls.rd.blk).1 | go_keep)
         (first
           | (have hq:=M9;go_at_call 57;rw [IntWalk.u64_in (tn : Int) (by omega)];refine (HTk.out _ M9.ls.rd).mono ?_;rintro e w8 ⟨nv,rfl,own8,hC8,F8⟩;have R8:=M9.ls.rd.cur' F8 hC8;rw [HTf.out] at R8;have M10:=M9.on2 F8.two2 R8;obtain ⟨vao,vcap,rfl,-⟩:=own_outS own8)
           | (go_at_call 100;refine (HTh.out _ _ HM8d.out.ls.rd).mono ?_;rintro e w7 ⟨rfl,R7,F7⟩;have M9:=HM8d.out.on2 F7 R7))
       have HM10:=Lib.hid M10
       have HBs:=Lib.hid (And.intro own8 M9.ls.rd.lt)
       clear M9 M10 own8 R8 hC8 F8 R7 F7 hq
       by_cases hzz : z.ok.k = 0
       rotate_left
       · have HKz:=Lib.hid (show (z.ok.k == 0) = false by rw [beq_eq_false_iff_ne];exact hzz)
         have HG2:=Lib.hid (show s1.filesN n = filesGo n mm' (L.say v) z.ok by rw [HGo.out,HCut2.out hzz])
         clear hzz
         go_wp2_with (go_at_call 37;refine (ok_any _ p cp q z _ HM10.out.ls.rd).mono ?_;rw [HKz.out];rintro e w9 ⟨rfl,R9,F9⟩;have M11:=HM10.out.on2 F9.two1 R9)
         go_roundw
         case rel => exact ⟨mm',m + 1,L.say v,z.ok,ev,HG2.out,by have h1:=HOn2.out;have h2:=HMM.out;have h3:=HCa.out;rw [Rs.ok_c,HCb.out,HBB.out];omega,by have h1:=HOn2.out;have h2:=HMX.out;have h3:=HCa.out;rw [Rs.ok_c];omega,by rw [Rs.ok_c,HCb.out,HBB.out,HXB.out],M11⟩
         case measure =>
           have h1:=M11.ls.rd.cur.atOf
           have h2:=HM.out.ls.rd.cur.atOf
           have h3:=HOn2.out
           have h4:=HXB.out
           have h5:=HCa.out
           rw [h1,h2,Rs.ok_c]
           rw [h4] at h3
           omega
       have HKz:=Lib.hid (show (z.ok.k == 0) = true by rw [hzz];rfl)
       have HOz:=Lib.hid (Rs.ok_of_zero hzz)
       have HG2:=Lib.hid (show s1.filesN n = filesGo n mm' (partBody n v (L.say v) (newRs bs)).1 (z.told' (partBody n v (L.say v) (newRs bs)).2.partEnd.k) by rw [HGo.out,HGOk2.out hzz];rfl)
       have HNw:=Lib.hid (fun wy (S : Sl wy (.slice vao bs.length vcap) (bv bs)) => new_any wy _ bs S (by have h1:=HCl.out;have h2:=HYL.out;omega))
       have HPt:=Lib.hid (fun wy p' cp' q' (P : PaM w p cp q d lp mb n (m + 1) ev fv (L.say v) z p' cp' q' dv0 (newRs bs) wy) => part_ok w wy p cp q d lp mb n (m + 1) ev fv (L.say v) z p' cp' q' dv0 (newRs bs) P (by have:=HTL.out;omega) (by have h1:=HCl.out;have h2:=HYL.out;show bs.length ≤ 4000000;omega) v)
       clear hzz
       generalize partBody n v (L.say v) (newRs bs) = r at *
       obtain ⟨L2,u2⟩:=r
       dsimp only at HG2 HPt
       go_wp2_with (first
         | (have hq:=N12;go_at_call 102;refine (HPt.out _ _ _ _ (PaM.new M11 N12 F12 hcp12 hq12)).mono ?_;rintro e w13 ⟨rfl,ev2,P13⟩;have M14:=P13.fi)
         | (have hq:=M11;go_at_call 26;refine (HNw.out _ HBs11).mono ?_;rintro e w12 ⟨cp',q',rfl,hcp12,hq12,N12,F12⟩)
         | (go_at_call 37;refine (ok_any _ p cp q z _ HM10.out.ls.rd).mono ?_;rw [HKz.out,HOz.out];rintro e w9 ⟨rfl,R9,F9⟩;have M11:=HM10.out.on2 F9.two1 R9;have HBs11:=Sl.of_own (own_frB HBs.out.1 F9 (by simp;exact HBs.out.2))))
       go_roundw
       case rel => exact ⟨mm',m + 1,L2,_,ev2,HG2.out,by have h1:=HOn2.out;have h2:=HMM.out;have h3:=HCa.out;rw [told'_c,HCb.out,HBB.out];omega,by have h1:=HOn2.out;have h2:=HMX.out;have h3:=HCa.out;rw [told'_c];omega,by rw [told'_c,HCb.out,HBB.out,HXB.out],M14⟩
       case measure =>
         have h1:=M14.ls.rd.cur.atOf
         have h2:=HM.out.ls.rd.cur.atOf
         have h3:=HOn2.out
         have h4:=HXB.out
         have h5:=HCa.out
         rw [h1,h2,told'_c]
         rw [h4] at h3
         omega
 case rest =>
 clear M3 HFN
 obtain ⟨L,u,ev,m,hgo,M5⟩:=hcut
 have HS2:=Lib.hid (show s.files = Rs.filesEnd (L,u) n by rw [HS.out,hgo])
 clear hgo
 (refine hK3 _ _ ?_;clear hK3;refine wp_seq_k fun K4 hK4 => ?_)
 go_cut [] (fun wx => ∃ u2,s.files = (L.files,u2) ∧ FiM w p cp q d lp mb n m ev fv L u2 wx)
 case first =>
   clear hK4
   by_cases hz : u.ok.k = 0
   rotate_left
   · have HK:=Lib.hid (show (u.ok.k == 0) = false by rw [beq_eq_false_iff_ne];exact hz)
     have HE:=Lib.hid (show s.files = (L.files,u.ok) by rw [HS2.out];unfold Rs.filesEnd;rw [if_neg (fun h => hz h.1)])
     clear hz
     go_wp2_with (go_at_call 37;refine (ok_any _ p cp q u _ M5.ls.rd).mono ?_;rw [HK.out];rintro e w2 ⟨rfl,R2,F2⟩;have M6:=M5.on2 F2.two1 R2)
     go_meet
     case rel => exact ⟨u.ok,HE.out,M6⟩
   have HK:=Lib.hid (show (u.ok.k == 0) = true by rw [hz];rfl)
   have HO:=Lib.hid (Rs.ok_of_zero hz)
   by_cases hn0 : 0 < n
   rotate_left
   · have hn0I : ¬ (0 : Int) < (n : Int):=by omega
     have HE:=Lib.hid (show s.files = (L.files,u) by rw [HS2.out];unfold Rs.filesEnd;rw [if_neg (fun h => hn0 h.2.1)];rw [HO.out])
     clear hz
     go_wp2_with (go_at_call 37;refine (ok_any _ p cp q u _ M5.ls.rd).mono ?_;rw [HK.out,HO.out];rintro e w2 ⟨rfl,R2,F2⟩;have M6:=M5.on2 F2.two1 R2;obtain ⟨l0,l1,l2,l3,l4,lf⟩:=cells5 M6.ls.ls)
     go_meet
     case rel => exact ⟨u,HE.out,M6⟩
   have hn0I : (0 : Int) < (n : Int):=by omega
   have HLk:=Lib.hid (fun wy (M : FiM w p cp q d lp mb n m ev fv L u wy) => M.ls.mp.look (x:=17) (by decide))
   cases h17 : L.said 17 with
   | true =>
     rw [h17] at HLk
     have HE:=Lib.hid (show s.files = (L.files,u) by rw [HS2.out];unfold Rs.filesEnd;rw [if_neg (fun h => by have:=h.2.2;dsimp only at this;rw [h17] at this;cases this)];rw [HO.out])
     clear hz h17
     go_wp2_with (go_at_call 37;refine (ok_any _ p cp q u _ M5.ls.rd).mono ?_;rw [HK.out,HO.out];rintro e w2 ⟨rfl,R2,F2⟩;have M6:=M5.on2 F2.two1 R2;obtain ⟨l0,l1,l2,l3,l4,lf⟩:=cells5 M6.ls.ls;have lk:=HLk.out _ M6)
     go_meet
     case rel => exact ⟨u,HE.out,M6⟩
   | false =>
     rw [h17] at HLk
     have HE:=Lib.hid (show s.files = (L.files,u.fail 5) by rw [HS2.out];unfold Rs.filesEnd;rw [if_pos ⟨hz,hn0,h17⟩];rw [HO.out])
     clear hz h17
     go_wp2_with (first
       | (have hq:=M6;go_at_call 38;refine (rfail_any _ p cp q u _ 5 M6.ls.rd).mono ?_;rintro e w6 ⟨rfl,R6,F6⟩;have M7:=M6.on2 F6.two1 R6)
       | (go_at_call 37;refine (ok_any _ p cp q u _ M5.ls.rd).mono ?_;rw [HK.out,HO.out];rintro e w2 ⟨rfl,R2,F2⟩;have M6:=M5.on2 F2.two1 R2;obtain ⟨l0,l1,l2,l3,l4,lf⟩:=cells5 M6.ls.ls;have lk:=HLk.out _ M6))
     go_meet
     case rel => exact ⟨u.fail 5,HE.out,M7⟩
 case rest =>
 clear M5 HS2
 obtain ⟨u2,hE,M6⟩:=hcut
 have HE:=Lib.hid hE
 have HM6:=Lib.hid M6
 clear hE
 obtain ⟨fao,fcap,rfl,-⟩:=own_outS M6.own
 obtain ⟨l0,l1,l2,l3,l4,lf⟩:=cells5 M6.ls.ls
 obtain ⟨-,-,-,-,-,-,-,-,e8,ef⟩:=cells9 M6.ls.rd.blk
 clear M6
 go_wp2_with fail
 go_end0
 have M6:=HM6.out
 have F8 : Fr [p] wc (wc.setCell ⟨p,8,none⟩ (.slice fao n fcap)):=(Fr.refl _ _).setCell (by simp) _
 have hlps:=M6.lps
 refine ⟨rfl,_,by rw [HE.out];exact M6.ls.rd.put8 _,?_,M6.ls.fr.setCell (.inl (by simp)) _⟩
 rw [HE.out]
 dsimp only
 rw [M6.fl]
 exact own_monoM (own_frB M6.own F8 (by simp;omega)) (by omega)
end Go.Proofs.YtkodindajfdagaaGreatDoor
/- Contracts: the reader's props and all. No condition but that lengths fit. -/
namespace Go.Proofs.YtkodindajfdagaaGreatDoor
open Go.RowKit Go.Maps
def propsGo : Nat → Rs → Rs
 | 0,s => s
 | m + 1,s => if s.byte.1 ≠ 0 ∧ s.byte.2.ok.k = 0 then propsGo m (s.byte.2.ok.things.2.take s.byte.2.ok.things.1).2 else s.byte.2.ok
def Rs.props (s : Rs) : Rs:=propsGo (s.c.b.length + 1) s
theorem propsGo_end {m : Nat} {s : Rs} (h : s.byte.1 = 0 ∨ s.byte.2.ok.k ≠ 0) : propsGo (m + 1) s = s.byte.2.ok:=by
 show (if s.byte.1 ≠ 0 ∧ s.byte.2.ok.k = 0 then _ else _) = _
 rw [if_neg (fun hh => by rcases h with h | h;exact hh.1 h;exact h hh.2)]
theorem propsGo_ok {m : Nat} {s : Rs} (h : s.byte.1 ≠ 0) (h2 : s.byte.2.ok.k = 0) : propsGo (m + 1) s = propsGo m s.byte.2.chunk.2:=by
 show (if s.byte.1 ≠ 0 ∧ s.byte.2.ok.k = 0 then _ else _) = _
 rw [if_pos ⟨h,h2⟩,Rs.ok_of_zero h2]
 rfl
theorem propsGo_b : ∀ (m : Nat) (s : Rs),(propsGo m s).c.b = s.c.b
 | 0,s => rfl
 | m + 1,s => by
   by_cases h : s.byte.1 = 0 ∨ s.byte.2.ok.k ≠ 0
   · rw [propsGo_end h,Rs.ok_c,byte_b]
   · have h1 : s.byte.1 ≠ 0:=fun e => h (.inl e)
     have h2 : s.byte.2.ok.k = 0:=by
       by_cases e : s.byte.2.ok.k = 0
       · exact e
       · exact absurd (.inr e) h
     rw [propsGo_ok h1 h2,propsGo_b m,chunk_b,byte_b]
theorem props_b (s : Rs) : s.props.c.b = s.c.b:=propsGo_b _ _
set_option maxRecDepth 100000 in
set_option maxHeartbeats 4000000 in
theorem props_any (w : World) (p cp : Nat) (q : Option Nat) (s : Rs) (d : DV) (h : RdAt w p cp q s d) (hb : s.c.b.length ≤ 4000000) :
   Calls Tryz.prog 70 #[.pointer (some ⟨p,0,none⟩)] w fun e w' => e = .returned (.tuple #[]) ∧ RdAt w' p cp q s.props d ∧ Fr [p,cp] w w':=by
 have HLT:=Lib.hid (And.intro h.lt h.cur.lt)
 have HB:=Lib.hid hb
 have hle:=h.le
 have HR0:=Lib.hid h
 clear h hb
 go_enter Tryz.func70,Tryz.ntmps70
 go_wp2_with fail
 go_loopw [] (fun wr => ∃ (mm : Nat) (x : Rs),s.props = propsGo mm x ∧ x.c.b.length - x.c.at_ < mm ∧ x.c.b = s.c.b ∧ RdAt wr p cp q x d ∧ Fr [p,cp] w wr) (fun wr => s.c.b.length - atOf wr cp)
 case atStart => exact ⟨s.c.b.length + 1,s,rfl,by omega,rfl,HR0.out,Fr.refl _ _⟩
 case round =>
   obtain ⟨mm,x,hgo,hmm,hxb,R,F⟩:=hrel
   have HGo:=Lib.hid hgo
   have HR:=Lib.hid R
   have HXB:=Lib.hid hxb
   have HMM:=Lib.hid hmm
   have HXL:=Lib.hid (show x.c.b.length ≤ 4000000 by rw [hxb];exact HB.out)
   obtain ⟨mm',rfl⟩ : ∃ mm',mm = mm' + 1:=⟨mm - 1,by omega⟩
   have HEnd:=Lib.hid (propsGo_end (m:=mm') (s:=x))
   have HOk:=Lib.hid (propsGo_ok (m:=mm') (s:=x))
   have HBy:=Lib.hid (byte_any wr p cp q x d R (by have:=HXL.out;omega))
   have HBB:=Lib.hid (byte_b x)
   have HOn:=Lib.hid (show x.byte.2.ok.k = 0 → x.byte.2.c.at_ = x.c.at_ + 1 ∧ x.c.at_ + 1 ≤ x.c.b.length from fun h => byte_on (byte_left h))
   clear R hgo hmm hxb hle
   generalize x.byte.2 = y at *
   generalize x.byte.1 = v at *
   have HYL:=Lib.hid (show y.c.b.length ≤ 4000000 by rw [HBB.out];exact HXL.out)
   by_cases hv : v = 0
   · subst hv
     have HE:=Lib.hid (show s.props = y.ok by rw [HGo.out,HEnd.out (.inl rfl)])
     go_wp2_with (first
       | (have hq:=R2;go_at_call 37;refine (ok_any _ p cp q y _ R2).mono ?_;rintro e w3 ⟨rfl,R3,F3⟩)
       | (go_at_call 34;refine HBy.out.mono ?_;rintro e w2 ⟨rfl,R2,F2⟩))
     go_end0
     exact ⟨rfl,by rw [HE.out];exact R3,(F.tr2 F2.two2).tr2 F3.two1⟩
   have t0 : ((v : Int) == 0) = false:=by rw [beq_eq_false_iff_ne];omega
   have t1 : ((v : Int) != 0) = true:=by simp;omega
   by_cases hz : y.ok.k = 0
   rotate_left
   · have HK:=Lib.hid (show (y.ok.k == 0) = false by rw [beq_eq_false_iff_ne];exact hz)
     have HOO:=Lib.hid (Rs.ok_ok y)
     have HE:=Lib.hid (show s.props = y.ok by rw [HGo.out,HEnd.out (.inr hz)])
     clear hz hv
     go_wp2_with (first
       | (have hq:=R3;go_at_call 37;refine (ok_any _ p cp q y.ok _ R3).mono ?_;rw [HOO.out];rintro e w4 ⟨rfl,R4,F4⟩)
       | (have hq:=R2;go_at_call 37;refine (ok_any _ p cp q y _ R2).mono ?_;rw [HK.out];rintro e w3 ⟨rfl,R3,F3⟩)
       | (go_at_call 34;refine HBy.out.mono ?_;rintro e w2 ⟨rfl,R2,F2⟩))
     go_end0
     exact ⟨rfl,by rw [HE.out];exact R4,((F.tr2 F2.two2).tr2 F3.two1).tr2 F4.two1⟩
   have HK:=Lib.hid (show (y.ok.k == 0) = true by rw [hz];rfl)
   have HO:=Lib.hid (Rs.ok_of_zero hz)
   have HOn2:=Lib.hid (HOn.out hz)
   have HG2:=Lib.hid (show s.props = propsGo mm' y.chunk.2 by rw [HGo.out,HOk.out hv hz])
   have HTh:=Lib.hid (fun wy (R : RdAt wy p cp q y d) => things_ok wy p cp q y d R (by have:=HYL.out;omega))
   have HTl:=Lib.hid (show y.things.1 ≤ 4000000 from Nat.le_trans (things_le y) HYL.out)
   have HTb:=Lib.hid (show y.things.2.c.b.length ≤ 4000000 by rw [things_b];exact HYL.out)
   have HChk:=Lib.hid (show y.chunk = y.things.2.take y.things.1 from rfl)
   have HCb:=Lib.hid (chunk_b y)
   have HCa:=Lib.hid (chunk_at y)
   clear hz hv
   generalize y.things.2 = ts at *
   generalize y.things.1 = tn at *
   have htI : (tn : Int) ≤ 4000000:=by have:=HTl.out;omega
   have HTk:=Lib.hid (fun wy (R : RdAt wy p cp q ts d) => take_any wy cp q ts.c tn tn rfl (by have:=HTl.out;omega) R.cur (by have:=HTb.out;omega))
   have HTe:=Lib.hid (show (ts.c.take tn) = (y.chunk.1,y.chunk.2.c) by rw [HChk.out];rfl)
   have HTf:=Lib.hid (show ({ ts with c:=y.chunk.2.c } : Rs) = y.chunk.2 by rw [HChk.out];rfl)
   rw [HTe.out] at HTk
   clear HChk HTe
   generalize y.chunk.2 = z at *
   generalize y.chunk.1 = bs at *
   go_wp2_with (first
     | (have hq:=R2;go_at_call 37;refine (ok_any _ p cp q y _ R2).mono ?_;rw [HK.out,HO.out];rintro e w3 ⟨rfl,R3,F3⟩)
     | (go_at_call 34;refine HBy.out.mono ?_;rintro e w2 ⟨rfl,R2,F2⟩))
   have R3d:=R3.same Same.drew
   go_region_held3 (fun w' => w'.cell? ⟨p,0,none⟩ = some (.pointer (some ⟨cp,0,none⟩)))
     (first | exact (cells9 R3d.blk).1 | exact (cells9 R3.blk).1 | exact (cells9 R7.blk).1 | exact (cells9 R8.blk).1 | go_keep)
     (first
       | (have hq:=R7;go_at_call 57;rw [IntWalk.u64_in (tn : Int) (by omega)];refine (HTk.out _ R7).mono ?_;rintro e w8 ⟨nv,rfl,own8,hC8,F8⟩;have R8:=R7.cur' F8 hC8;rw [HTf.out] at R8;obtain ⟨vao,vcap,rfl,-⟩:=own_outS own8)
       | (go_at_call 100;refine (HTh.out _ R3d).mono ?_;rintro e w7 ⟨rfl,R7,F7⟩))
   have FF : Fr [p,cp] w w8:=(((F.tr2 F2.two2).tr2 F3.two1.drew).tr2 F7).tr2 F8.two2
   clear R2 R3 R3d R7 hC8 own8 F2 F3 F7 F8 hq
   go_wp2_with fail
   go_roundw
   case rel => exact ⟨mm',z,HG2.out,by have h1:=HOn2.out;have h2:=HMM.out;have h3:=HCa.out;rw [HCb.out,HBB.out];omega,by rw [HCb.out,HBB.out,HXB.out],R8,FF⟩
   case measure =>
     have h1:=R8.cur.atOf
     have h2:=HR.out.cur.atOf
     have h3:=HOn2.out
     have h4:=HXB.out
     have h5:=HCa.out
     rw [h1,h2]
     rw [h4] at h3
     omega
def noStrm : Strm:=⟨0,[],[],[],[]⟩
def Rs.allC (D : Strm) (id : Nat) (s : Rs) : (Strm × List Fil) × Rs :=
 if (s.at (id == 5)).1 then ((D,(s.at (id == 5)).2.files.1),(s.at (id == 5)).2.files.2.byte.2.end_ (s.at (id == 5)).2.files.2.byte.1)
 else ((D,[]),(s.at (id == 5)).2.end_ id)
def Rs.allB (id : Nat) (s : Rs) : (Strm × List Fil) × Rs :=
 if (s.at (id == 4)).1 then Rs.allC (s.at (id == 4)).2.streams.1 (s.at (id == 4)).2.streams.2.byte.1 (s.at (id == 4)).2.streams.2.byte.2
 else Rs.allC noStrm id (s.at (id == 4)).2
def Rs.allA (id : Nat) (s : Rs) : (Strm × List Fil) × Rs:=Rs.allB id (if (s.at (id == 3)).1 then (s.at (id == 3)).2.fail 6 else (s.at (id == 3)).2)
def Rs.all (s : Rs) : (Strm × List Fil) × Rs :=
 if (s.byte.2.at (s.byte.1 == 2)).1 then Rs.allA (s.byte.2.at (s.byte.1 == 2)).2.props.byte.1 (s.byte.2.at (s.byte.1 == 2)).2.props.byte.2
 else Rs.allA s.byte.1 (s.byte.2.at (s.byte.1 == 2)).2
theorem StM.es {w : World} {p cp : Nat} {q : Option Nat} {d : DV} {psv csv fv sv es : Value} {rows : List FoRow} {svs : List Value} {D : Strm} {t t' : Rs} {wx wy : World} (h : StM w p cp q d psv csv fv sv rows svs D t wx) (hl : p < w.heap.size ∧ cp < w.heap.size) (F : Fr [p,cp] wx wy)
   (R : RdAt wy p cp q t' { ({ d with pl:=.int .u64 (D.pl : Int),ps:=psv,cs:=csv,fs:=fv,ss:=sv } : DV) with es:=es }) : StM w p cp q { d with es:=es } psv csv fv sv rows svs D t' wy :=
 ⟨R,h.ps.two F hl.1 hl.2,h.cs.two F hl.1 hl.2,h.fo.fr F (two_lt hl),own_frB h.ss F (two_lt hl),h.sm.frT F (fun i hi => .inl (two_lt hl i hi)),h.fr.tr2 F⟩
theorem StM.lower {w w0 : World} {p cp : Nat} {q : Option Nat} {d : DV} {psv csv fv sv : Value} {rows : List FoRow} {svs : List Value} {D : Strm} {t : Rs} {wx : World} (h : StM w p cp q d psv csv fv sv rows svs D t wx) (F : Fr [p,cp] w0 w) : StM w0 p cp q d psv csv fv sv rows svs D t wx :=
 ⟨h.rd,h.ps.mono F.size,h.cs.mono F.size,h.fo.mono F.size,own_monoM h.ss F.size,h.sm.mono F.size,F.tr2 h.fr⟩
theorem streams_ok (w : World) (p cp : Nat) (q : Option Nat) (s : Rs) (d : DV) (h : RdAt w p cp q s d) (hb : s.c.b.length ≤ 4000000)
   (h0 : d.pl = .int .u64 0 ∧ d.ps = .slice none 0 0 ∧ d.cs = .slice none 0 0 ∧ d.fs = .slice none 0 0 ∧ d.ss = .slice none 0 0) :
   Calls Tryz.prog 36 #[.pointer (some ⟨p,0,none⟩)] w fun e w' => e = .returned (.tuple #[]) ∧ ∃ psv csv fv sv rows svs,StM w p cp q d psv csv fv sv rows svs s.streams.1 s.streams.2 w':=streams_any w p cp q s d h hb h0
theorem files_ok (w : World) (p cp : Nat) (q : Option Nat) (s : Rs) (d : DV) (h : RdAt w p cp q s d) (hb : s.c.b.length ≤ 4000000) :
   Calls Tryz.prog 71 #[.pointer (some ⟨p,0,none⟩)] w fun e w' => e = .returned (.tuple #[]) ∧ ∃ es,RdAt w' p cp q s.files.2 { d with es:=es } ∧ w'.ownsRow w.heap.size 54 7 es s.files.1.length (fiV s.files.1) ∧ Fr [p,cp] w w':=files_any w p cp q s d h hb
structure AlM (w : World) (p cp : Nat) (q : Option Nat) (pk : Value) (D : Strm) (F : List Fil) (t : Rs) (wx : World) : Prop where
 ex : ∃ psv csv fv sv es rows svs,StM w p cp q ⟨pk,.int .u64 0,.slice none 0 0,.slice none 0 0,.slice none 0 0,.slice none 0 0,es⟩ psv csv fv sv rows svs D t wx ∧ wx.ownsRow w.heap.size 54 7 es F.length (fiV F)
def dz (pk : Value) : DV:=⟨pk,.int .u64 0,.slice none 0 0,.slice none 0 0,.slice none 0 0,.slice none 0 0,.slice none 0 0⟩
theorem fileEnd_b (r : Lst × Rs) (n : Nat) : (Rs.filesEnd r n).2.c.b = r.2.c.b:=by
 unfold Rs.filesEnd
 dsimp only
 split
 · rw [Rs.fail_c,Rs.ok_c]
 · rw [Rs.ok_c]
theorem filesGo_b (n : Nat) : ∀ (m : Nat) (L : Lst) (s : Rs),(filesGo n m L s).2.c.b = s.c.b
 | 0,L,s => rfl
 | m + 1,L,s => by
   by_cases hz : s.ok.k = 0
   rotate_left
   · rw [filesGo_bad hz];rfl
   by_cases hzy : s.byte.2.ok.k = 0
   rotate_left
   · rw [filesGo_end hz (.inl hzy),Rs.ok_c,byte_b]
   by_cases hv : s.byte.1 = 0
   · rw [filesGo_end hz (.inr hv),Rs.ok_c,byte_b]
   cases hm : mayL L.said s.byte.1 with
   | false => rw [filesGo_not hz hzy hv hm,Rs.fail_c,byte_b]
   | true =>
     by_cases hzz : s.byte.2.chunk.2.ok.k = 0
     · rw [filesGo_ok hz hzy hv hm hzz,filesGo_b n m,told'_c,chunk_b,byte_b]
     · rw [filesGo_cut hz hzy hv hm hzz,filesGo_b n m,Rs.ok_c,chunk_b,byte_b]
theorem files_b2 (s : Rs) : s.files.2.c.b = s.c.b:=by
 unfold Rs.files Rs.filesN
 rw [fileEnd_b,filesGo_b,things_b]
def AllR (w : World) (p cp : Nat) (q : Option Nat) (pk : Value) (r : (Strm × List Fil) × Rs) (e : Ending) (w' : World) : Prop :=
 e = .returned (.tuple #[]) ∧ AlM w p cp q pk r.1.1 r.1.2 r.2 w'
set_option maxRecDepth 100000 in
set_option maxHeartbeats 8000000 in
theorem all_any (w : World) (p cp : Nat) (q : Option Nat) (s : Rs) (pk : Value) (h : RdAt w p cp q s (dz pk)) (hb : s.c.b.length ≤ 4000000) :
   Calls Tryz.prog 35 #[.pointer (some ⟨p,0,none⟩)] w (AllR w p cp q pk s.all):=by
 have HLT:=Lib.hid (And.intro h.lt h.cur.lt)
 have HR0:=Lib.hid h
 have HBY:=Lib.hid (byte_any w p cp q s _ h (by omega))
 have HS:=Lib.hid (show s.all = if (s.byte.2.at (s.byte.1 == 2)).1 then Rs.allA (s.byte.2.at (s.byte.1 == 2)).2.props.byte.1 (s.byte.2.at (s.byte.1 == 2)).2.props.byte.2 else Rs.allA s.byte.1 (s.byte.2.at (s.byte.1 == 2)).2 from rfl)
 have hb1 : s.byte.2.c.b.length ≤ 4000000:=by rw [byte_b];exact hb
 clear h hb
 generalize s.byte.2 = s1 at *
 generalize s.byte.1 = id0 at *
 go_enter Tryz.func35,Tryz.ntmps35
 refine wp_seq_k fun K0 hK0 => ?_
 go_cut [2] (fun v2 wx => v2 = .int .i64 (id0 : Int) ∧ RdAt wx p cp q s1 (dz pk) ∧ Fr [p,cp] w wx)
 case first =>
   clear hK0
   go_wp2_with (go_at_call 34;refine HBY.out.mono ?_;rintro e w1 ⟨rfl,R1,F1⟩)
   go_meet
   case rel => exact ⟨rfl,R1,F1.two2⟩
 case rest =>
 clear HBY
 obtain ⟨rfl,R1,F1⟩:=hcut
 (refine hK0 _ _ ?_;clear hK0;refine wp_seq_k fun K1 hK1 => ?_)
 go_cut [2] (fun v2 wx => ∃ (id1 : Nat) (t1 : Rs),v2 = .int .i64 (id1 : Int) ∧ s.all = Rs.allA id1 t1 ∧ t1.c.b.length ≤ 4000000 ∧ RdAt wx p cp q t1 (dz pk) ∧ Fr [p,cp] w wx)
 case first =>
   clear hK1
   by_cases h2 : id0 = 2
   rotate_left
   · have t0 : ((id0 : Int) == 2) = false:=by rw [beq_eq_false_iff_ne];omega
     have HE:=Lib.hid (show s.all = Rs.allA id0 s1 by rw [HS.out,Rs.at_ne h2];simp)
     clear h2
     go_wp2_with fail
     go_meet
     case rel => exact ⟨id0,s1,rfl,HE.out,hb1,R1,F1⟩
   subst h2
   by_cases hz : s1.ok.k = 0
   rotate_left
   · have HK:=Lib.hid (show (s1.ok.k == 0) = false by rw [beq_eq_false_iff_ne];exact hz)
     have HE:=Lib.hid (show s.all = Rs.allA 2 s1.ok by rw [HS.out,Rs.at_bad hz];simp)
     clear hz
     go_wp2_with (go_at_call 37;refine (ok_any _ p cp q s1 _ R1).mono ?_;rw [HK.out];rintro e w2 ⟨rfl,R2,F2⟩)
     go_meet
     case rel => exact ⟨2,s1.ok,rfl,HE.out,hb1,R2,F1.tr2 F2.two1⟩
   have HK:=Lib.hid (show (s1.ok.k == 0) = true by rw [hz];rfl)
   have HO:=Lib.hid (Rs.ok_of_zero hz)
   have HE:=Lib.hid (show s.all = Rs.allA s1.props.byte.1 s1.props.byte.2 by rw [HS.out,Rs.at_ok hz];simp)
   have HP:=Lib.hid (fun wy (R : RdAt wy p cp q s1 (dz pk)) => props_any wy p cp q s1 _ R hb1)
   have HPB:=Lib.hid (show s1.props.c.b.length ≤ 4000000 by rw [props_b];exact hb1)
   have HPB2:=Lib.hid (show s1.props.byte.2.c.b.length ≤ 4000000 by rw [byte_b];exact HPB.out)
   have HBY2:=Lib.hid (fun wy d' (R : RdAt wy p cp q s1.props d') => byte_any wy p cp q _ d' R (by have:=HPB.out;omega))
   clear hz
   generalize s1.props.byte.2 = u2 at *
   generalize s1.props.byte.1 = id2 at *
   generalize s1.props = u1 at *
   go_wp2_with (first
     | (have hq:=R3;go_at_call 34;refine (HBY2.out _ _ R3).mono ?_;rintro e w4 ⟨rfl,R4,F4⟩)
     | (have hq:=R2;go_at_call 70;refine (HP.out _ R2).mono ?_;rintro e w3 ⟨rfl,R3,F3⟩)
     | (go_at_call 37;refine (ok_any _ p cp q s1 _ R1).mono ?_;rw [HK.out,HO.out];rintro e w2 ⟨rfl,R2,F2⟩))
   go_meet
   case rel => exact ⟨id2,u2,rfl,HE.out,HPB2.out,R4,((F1.tr2 F2.two1).tr2 F3).tr2 F4.two2⟩
 case rest =>
 clear R1 F1 HS hb1
 obtain ⟨id1,t1,rfl,hE,htb,R1,F1⟩:=hcut
 have HE1:=Lib.hid hE
 clear hE
 (refine hK1 _ _ ?_;clear hK1;refine wp_seq_k fun K2 hK2 => ?_)
 go_cut [] (fun wx => ∃ (t2 : Rs),s.all = Rs.allB id1 t2 ∧ t2.c.b.length ≤ 4000000 ∧ RdAt wx p cp q t2 (dz pk) ∧ Fr [p,cp] w wx)
 case first =>
   clear hK2
   by_cases h3 : id1 = 3
   rotate_left
   · have t0 : ((id1 : Int) == 3) = false:=by rw [beq_eq_false_iff_ne];omega
     have HE:=Lib.hid (show s.all = Rs.allB id1 t1 by rw [HE1.out,Rs.allA,Rs.at_ne h3];simp)
     clear h3
     go_wp2_with fail
     go_meet
     case rel => exact ⟨t1,HE.out,htb,R1,F1⟩
   subst h3
   by_cases hz : t1.ok.k = 0
   rotate_left
   · have HK:=Lib.hid (show (t1.ok.k == 0) = false by rw [beq_eq_false_iff_ne];exact hz)
     have HE:=Lib.hid (show s.all = Rs.allB 3 t1.ok by rw [HE1.out,Rs.allA,Rs.at_bad hz];simp)
     clear hz
     go_wp2_with (go_at_call 37;refine (ok_any _ p cp q t1 _ R1).mono ?_;rw [HK.out];rintro e w2 ⟨rfl,R2,F2⟩)
     go_meet
     case rel => exact ⟨t1.ok,HE.out,htb,R2,F1.tr2 F2.two1⟩
   have HK:=Lib.hid (show (t1.ok.k == 0) = true by rw [hz];rfl)
   have HO:=Lib.hid (Rs.ok_of_zero hz)
   have HE:=Lib.hid (show s.all = Rs.allB 3 (t1.fail 6) by rw [HE1.out,Rs.allA,Rs.at_ok hz];simp)
   clear hz
   go_wp2_with (first
     | (have hq:=R2;go_at_call 38;refine (rfail_any _ p cp q t1 _ 6 R2).mono ?_;rintro e w3 ⟨rfl,R3,F3⟩)
     | (go_at_call 37;refine (ok_any _ p cp q t1 _ R1).mono ?_;rw [HK.out,HO.out];rintro e w2 ⟨rfl,R2,F2⟩))
   go_meet
   case rel => exact ⟨t1.fail 6,HE.out,htb,R3,(F1.tr2 F2.two1).tr2 F3.two1⟩
 case rest =>
 clear R1 F1 HE1 htb
 obtain ⟨t2,hE,htb,R1,F1⟩:=hcut
 have HE2:=Lib.hid hE
 clear hE
 (refine hK2 _ _ ?_;clear hK2;refine wp_seq_k fun K3 hK3 => ?_)
 go_cut [2] (fun v2 wx => ∃ (id3 : Nat) (D : Strm) (t3 : Rs) (psv csv fv sv : Value) (rows : List FoRow) (svs : List Value),v2 = .int .i64 (id3 : Int) ∧ s.all = Rs.allC D id3 t3 ∧ t3.c.b.length ≤ 4000000 ∧ StM w p cp q (dz pk) psv csv fv sv rows svs D t3 wx)
 case first =>
   clear hK3
   have HC0:=Lib.hid (fun wx t (R : RdAt wx p cp q t (dz pk)) (F : Fr [p,cp] w wx) => (StM.mk R (Sm.nil _ _ _ _) (Sm.nil _ _ _ _) (FolsAt.nil _ _) (World.ownsRow_nil _ _ _ _) (SubsM.nil _ _) F : StM w p cp q (dz pk) (.slice none 0 0) (.slice none 0 0) (.slice none 0 0) (.slice none 0 0) [] [] noStrm t wx))
   by_cases h4 : id1 = 4
   rotate_left
   · have t0 : ((id1 : Int) == 4) = false:=by rw [beq_eq_false_iff_ne];omega
     have HE:=Lib.hid (show s.all = Rs.allC noStrm id1 t2 by rw [HE2.out,Rs.allB,Rs.at_ne h4];simp)
     clear h4
     go_wp2_with fail
     go_meet
     case rel => exact ⟨id1,noStrm,t2,_,_,_,_,_,_,rfl,HE.out,htb,HC0.out _ _ R1 F1⟩
   subst h4
   by_cases hz : t2.ok.k = 0
   rotate_left
   · have HK:=Lib.hid (show (t2.ok.k == 0) = false by rw [beq_eq_false_iff_ne];exact hz)
     have HE:=Lib.hid (show s.all = Rs.allC noStrm 4 t2.ok by rw [HE2.out,Rs.allB,Rs.at_bad hz];simp)
     clear hz
     go_wp2_with (go_at_call 37;refine (ok_any _ p cp q t2 _ R1).mono ?_;rw [HK.out];rintro e w2 ⟨rfl,R2,F2⟩)
     go_meet
     case rel => exact ⟨4,noStrm,t2.ok,_,_,_,_,_,_,rfl,HE.out,htb,HC0.out _ _ R2 (F1.tr2 F2.two1)⟩
   have HK:=Lib.hid (show (t2.ok.k == 0) = true by rw [hz];rfl)
   have HO:=Lib.hid (Rs.ok_of_zero hz)
   have HE:=Lib.hid (show s.all = Rs.allC t2.streams.1 t2.streams.2.byte.1 t2.streams.2.byte.2 by rw [HE2.out,Rs.allB,Rs.at_ok hz];simp)
   have HP:=Lib.hid (fun wy (R : RdAt wy p cp q t2 (dz pk)) => streams_ok wy p cp q t2 (dz pk) R htb ⟨rfl,rfl,rfl,rfl,rfl⟩)
   have HPB:=Lib.hid (show t2.streams.2.c.b.length ≤ 4000000 by rw [streams_b];exact htb)
   have HPB2:=Lib.hid (show t2.streams.2.byte.2.c.b.length ≤ 4000000 by rw [byte_b];exact HPB.out)
   have HBY2:=Lib.hid (fun wy d' (R : RdAt wy p cp q t2.streams.2 d') => byte_any wy p cp q _ d' R (by have:=HPB.out;omega))
   clear hz
   generalize t2.streams.2.byte.2 = u2 at *
   generalize t2.streams.2.byte.1 = id2 at *
   generalize t2.streams = r at *
   obtain ⟨D,u1⟩:=r
   dsimp only at HE HP HPB HBY2
   go_wp2_with (first
     | (have hq:=S3;go_at_call 34;refine (HBY2.out _ _ S3.rd).mono ?_;rintro e w4 ⟨rfl,R4,F4⟩;have S4:=S3.on2 (by have:=HLT.out;have:=F1.size;have:=F2.size;omega) F4.two2 R4)
     | (have hq:=R2;go_at_call 36;refine (HP.out _ R2).mono ?_;rintro e w3 ⟨rfl,psv,csv,fv,sv,rows,svs,S3⟩)
     | (go_at_call 37;refine (ok_any _ p cp q t2 _ R1).mono ?_;rw [HK.out,HO.out];rintro e w2 ⟨rfl,R2,F2⟩))
   have FB:=F1.tr2 F2.two1
   go_meet
   case rel => exact ⟨id2,D,u2,psv,csv,fv,sv,rows,svs,rfl,HE.out,HPB2.out,S4.lower FB⟩
 case rest =>
 clear R1 F1 HE2 htb
 obtain ⟨id3,D,t3,psv,csv,fv,sv,rows,svs,rfl,hE,htb,S1⟩:=hcut
 have HE3:=Lib.hid hE
 clear hE
 (refine hK3 _ _ ?_;clear hK3;refine wp_seq_k fun K4 hK4 => ?_)
 go_cut [2] (fun v2 wx => ∃ (id4 : Nat) (F : List Fil) (t4 : Rs) (es : Value),v2 = .int .i64 (id4 : Int) ∧ s.all = ((D,F),t4.end_ id4) ∧ StM w p cp q ⟨pk,.int .u64 0,.slice none 0 0,.slice none 0 0,.slice none 0 0,.slice none 0 0,es⟩ psv csv fv sv rows svs D t4 wx ∧ wx.ownsRow w.heap.size 54 7 es F.length (fiV F))
 case first =>
   clear hK4
   by_cases h5 : id3 = 5
   rotate_left
   · have t0 : ((id3 : Int) == 5) = false:=by rw [beq_eq_false_iff_ne];omega
     have HE:=Lib.hid (show s.all = ((D,[]),t3.end_ id3) by rw [HE3.out,Rs.allC,Rs.at_ne h5];simp)
     clear h5
     go_wp2_with fail
     go_meet
     case rel => exact ⟨id3,[],t3,_,rfl,HE.out,S1,World.ownsRow_nil _ _ _ _⟩
   subst h5
   by_cases hz : t3.ok.k = 0
   rotate_left
   · have HK:=Lib.hid (show (t3.ok.k == 0) = false by rw [beq_eq_false_iff_ne];exact hz)
     have HE:=Lib.hid (show s.all = ((D,[]),t3.ok.end_ 5) by rw [HE3.out,Rs.allC,Rs.at_bad hz];simp)
     clear hz
     go_wp2_with (go_at_call 37;refine (ok_any _ p cp q t3 _ S1.rd).mono ?_;rw [HK.out];rintro e w2 ⟨rfl,R2,F2⟩;have S2:=S1.on2 HLT.out F2.two1 R2)
     go_meet
     case rel => exact ⟨5,[],t3.ok,_,rfl,HE.out,S2,World.ownsRow_nil _ _ _ _⟩
   have HK:=Lib.hid (show (t3.ok.k == 0) = true by rw [hz];rfl)
   have HO:=Lib.hid (Rs.ok_of_zero hz)
   have HE:=Lib.hid (show s.all = ((D,t3.files.1),t3.files.2.byte.2.end_ t3.files.2.byte.1) by rw [HE3.out,Rs.allC,Rs.at_ok hz];simp)
   have HP:=Lib.hid (fun wy d' (R : RdAt wy p cp q t3 d') => files_ok wy p cp q t3 d' R htb)
   have HPB:=Lib.hid (show t3.files.2.c.b.length ≤ 4000000 by rw [files_b2];exact htb)
   have HBY2:=Lib.hid (fun wy d' (R : RdAt wy p cp q t3.files.2 d') => byte_any wy p cp q _ d' R (by have:=HPB.out;omega))
   clear hz
   generalize t3.files.2.byte.2 = u2 at *
   generalize t3.files.2.byte.1 = id2 at *
   generalize t3.files = r at *
   obtain ⟨Fi,u1⟩:=r
   dsimp only at HE HP HPB HBY2
   go_wp2_with (first
     | (have hq:=S3;go_at_call 34;refine (HBY2.out _ _ S3.rd).mono ?_;rintro e w4 ⟨rfl,R4,F4⟩;have S4:=S3.on2 HLT.out F4.two2 R4;have E4:=own_frB E3 F4.two2 (two_lt HLT.out))
     | (have hq:=S2;go_at_call 71;refine (HP.out _ _ S2.rd).mono ?_;rintro e w3 ⟨rfl,es,R3,own3,F3⟩;have S3:=S2.es HLT.out F3 R3;have E3:=own_monoM own3 S2.fr.size)
     | (go_at_call 37;refine (ok_any _ p cp q t3 _ S1.rd).mono ?_;rw [HK.out,HO.out];rintro e w2 ⟨rfl,R2,F2⟩;have S2:=S1.on2 HLT.out F2.two1 R2))
   go_meet
   case rel => exact ⟨id2,Fi,u2,es,rfl,HE.out,S4,E4⟩
 case rest =>
 clear S1 HE3 htb
 obtain ⟨id4,Fi,t4,es,rfl,hE,S1,E1⟩:=hcut
 have HE4:=Lib.hid hE
 clear hE
 go_wp2_with (go_at_call 72;refine (end_any _ p cp q t4 _ id4 S1.rd).mono ?_;rintro e w7 ⟨rfl,R7,F7⟩;have S2:=S1.on2 HLT.out F7 R7;have E2:=own_frB E1 F7 (two_lt HLT.out))
 go_end0
 rw [HE4.out]
 exact ⟨rfl,⟨psv,csv,fv,sv,es,rows,svs,S2,E2⟩⟩
end Go.Proofs.YtkodindajfdagaaGreatDoor
/- Contract: the reader's count; bounds of what is read. No condition but that lengths fit. -/
namespace Go.Proofs.YtkodindajfdagaaGreatDoor
open Go.RowKit Go.Maps
def totL (L : List (List Sub)) : Nat:=(L.map List.length).sum
def strN (F : List Fil) : Nat:=(F.filter fun x => x.stream).length
def Rs.count (s : Rs) (L : List (List Sub)) (F : List Fil) : Rs:=if totL L = strN F then s else s.fail 14
theorem totL_take {L : List (List Sub)} {k : Nat} {l : List Sub} (h : L[k]? = some l) : totL (L.take (k + 1)) = totL (L.take k) + l.length:=by
 unfold totL
 rw [List.take_add_one,h]
 simp
theorem strN_take {F : List Fil} {k : Nat} {x : Fil} (h : F[k]? = some x) : strN (F.take (k + 1)) = strN (F.take k) + (if x.stream then 1 else 0):=by
 unfold strN
 rw [List.take_add_one,h,List.filter_append,List.length_append]
 cases hx : x.stream <;> simp [hx]
theorem totL_le {B : Nat} : ∀ (L : List (List Sub)),(∀ l ∈ L,l.length ≤ B) → totL L ≤ L.length * B
 | [],_ => by simp [totL]
 | x :: t,h => by
   have ih:=totL_le t (fun l hl => h l (List.mem_cons_of_mem _ hl))
   have:=h x (by simp)
   unfold totL at ih ⊢
   rw [List.map_cons,List.sum_cons,List.length_cons,Nat.succ_mul]
   omega
theorem strN_le (F : List Fil) : strN F ≤ F.length:=List.length_filter_le _ _
set_option maxRecDepth 100000 in
set_option maxHeartbeats 4000000 in
theorem count_any (w wx : World) (p cp : Nat) (q : Option Nat) (t : Rs) (pk psv csv fv sv es : Value) (rows : List FoRow) (svs : List Value) (D : Strm) (Fi : List Fil)
   (S : StM w p cp q ⟨pk,.int .u64 0,.slice none 0 0,.slice none 0 0,.slice none 0 0,.slice none 0 0,es⟩ psv csv fv sv rows svs D t wx) (E : wx.ownsRow w.heap.size 54 7 es Fi.length (fiV Fi)) (hl : p < w.heap.size ∧ cp < w.heap.size)
   (hn : D.ss.length ≤ 4000000) (hr : ∀ l ∈ D.ss,l.length ≤ 4000000) (hF : Fi.length ≤ 4000000) :
   Calls Tryz.prog 40 #[.pointer (some ⟨p,0,none⟩)] wx fun e w' => e = .returned (.tuple #[]) ∧
     StM w p cp q ⟨pk,.int .u64 0,.slice none 0 0,.slice none 0 0,.slice none 0 0,.slice none 0 0,es⟩ psv csv fv sv rows svs D (t.count D.ss Fi) w' ∧ w'.ownsRow w.heap.size 54 7 es Fi.length (fiV Fi):=by
 have HLT:=Lib.hid hl
 have HS:=Lib.hid S
 have HE:=Lib.hid E
 have HR:=Lib.hid hr
 have hsl:=S.sm.len
 obtain ⟨N,hN⟩ : ∃ N,D.ss.length = N:=⟨_,rfl⟩
 obtain ⟨M,hM⟩ : ∃ M,Fi.length = M:=⟨_,rfl⟩
 obtain ⟨sao,scap,rfl,-⟩:=own_outS S.ss
 obtain ⟨eao,ecap,rfl,-⟩:=own_outS E
 have e7 : wx.cell? ⟨p,7,none⟩ = some (.slice sao svs.length scap):=(cells9 S.rd.blk).2.2.2.2.2.2.2.1
 have e8 : wx.cell? ⟨p,8,none⟩ = some (.slice eao Fi.length ecap):=(cells9 S.rd.blk).2.2.2.2.2.2.2.2.1
 rw [hsl,hN] at e7
 rw [hM] at e8
 have HN:=Lib.hid hN
 have HNS:=Lib.hid (hsl.trans hN)
 have HM:=Lib.hid hM
 have hNI : (N : Int) ≤ 4000000:=by omega
 have hMI : (M : Int) ≤ 4000000:=by omega
 have HTot:=Lib.hid (show ∀ k,totL (D.ss.take k) ≤ 16000000000000 from fun k => by
   have h1:=totL_le (B:=4000000) (D.ss.take k) (fun l hl => hr l (List.mem_of_mem_take hl))
   have h2 : (D.ss.take k).length ≤ 4000000:=by simp;omega
   have h3 : (D.ss.take k).length * 4000000 ≤ 4000000 * 4000000:=Nat.mul_le_mul_right _ h2
   omega)
 clear S E hl hn hr hF hsl hN hM
 go_enter Tryz.func40,Tryz.ntmps40
 go_wp2_with fail
 go_loopw [2,13] (fun nv iv wr => ∃ (k : Nat),k ≤ N ∧ iv = .int .i64 (k : Int) ∧ nv = .int .i64 (totL (D.ss.take k) : Int) ∧ wr = wx) (fun _ iv _ => N - (intOf iv).toNat)
 case atStart => exact ⟨0,Nat.zero_le _,rfl,rfl,rfl⟩
 case round =>
   obtain ⟨k,hk,rfl,rfl,rfl⟩:=hrel
   by_cases hlt : k < N
   · have hltI : (k : Int) < (N : Int):=by omega
     obtain ⟨l,hli⟩:=some_get D.ss k (by rw [HN.out];exact hlt)
     obtain ⟨v,hv⟩:=some_get svs k (by rw [HNS.out];exact hlt)
     obtain ⟨vo,vc,rfl,-,-⟩:=own_outS (HS.out.sm.row k v l hv hli)
     obtain ⟨gs,hgs⟩ : ∃ g,sao = some ⟨g,0,none⟩:=by
       rcases HS.out.ss.2 with ⟨h1,h2⟩ | ⟨g',cap',cur,h1,-⟩
       · have:=HNS.out;omega
       · injection h1 with h1 _ _;exact ⟨g',h1⟩
     subst hgs
     have cs : wr.cell? ⟨gs,k,none⟩ = some (.slice vo l.length vc):=by
       rw [HS.out.ss.cellAt k (by have:=HNS.out;omega)];exact hv
     have HTk:=Lib.hid (totL_take hli)
     have hll : (l.length : Int) ≤ 4000000:=by have:=HR.out l (List.mem_of_getElem? hli);omega
     have hT:=HTot.out k
     clear hli hv
     generalize totL (D.ss.take k) = T at *
     have hTI : (T : Int) ≤ 16000000000000:=by omega
     go_wp2_with fail
     go_roundw
     case rel => exact ⟨k + 1,by omega,by go_num,by rw [HTk.out];go_num,trivial⟩
     case measure => simp [intOf];omega
   have hltI : ¬ (k : Int) < (N : Int):=by omega
   obtain rfl : k = N:=by omega
   have HTE:=Lib.hid (show D.ss.take k = D.ss by rw [List.take_of_length_le];have:=HN.out;omega)
   have hT:=HTot.out k
   rw [HTE.out] at hT
   rw [HTE.out]
   generalize hTT : totL D.ss = T at *
   have HTT:=Lib.hid hTT
   have hTI : (T : Int) ≤ 16000000000000:=by omega
   clear hTT
   go_wp2_with fail
   clear e7 e8
   go_loopw [2,28] (fun nv iv wq => ∃ (j : Nat),j ≤ M ∧ iv = .int .i64 (j : Int) ∧ nv = .int .i64 ((T : Int) - (strN (Fi.take j) : Int)) ∧ Fr [] wr wq) (fun _ iv _ => M - (intOf iv).toNat)
   case atStart => exact ⟨0,Nat.zero_le _,rfl,by simp [strN],Fr.refl _ _⟩
   case round =>
     obtain ⟨j,hj,rfl,rfl,F⟩:=hrel
     by_cases hlj : j < M
     rotate_left
     · have hljI : ¬ (j : Int) < (M : Int):=by omega
       obtain rfl : j = M:=by omega
       have HFE:=Lib.hid (show Fi.take j = Fi by rw [List.take_of_length_le];have:=HM.out;omega)
       rw [HFE.out]
       have S2 : StM _ _ _ _ _ _ _ _ _ _ _ _ _ _:=HS.out.on2 HLT.out (F.mono (by simp)) (HS.out.rd.fr0 F)
       have E2:=own_frB (S:=[]) HE.out F (by simp)
       have HE2:=Lib.hid E2
       by_cases heq : T = strN Fi
       · have HC:=Lib.hid (show t.count D.ss Fi = t by unfold Rs.count;rw [HTT.out,if_pos heq])
         have h0 : ((T : Int) - (strN Fi : Int)) = 0:=by omega
         rw [h0]
         clear heq h0
         go_wp2_with fail
         go_end0
         exact ⟨rfl,by rw [HC.out];exact S2,HE2.out⟩
       · have HC:=Lib.hid (show t.count D.ss Fi = t.fail 14 by unfold Rs.count;rw [HTT.out,if_neg heq])
         have h0 : (((T : Int) - (strN Fi : Int)) == 0) = false:=by rw [beq_eq_false_iff_ne];omega
         have h1 : (((T : Int) - (strN Fi : Int)) != 0) = true:=by simp;omega
         generalize ((T : Int) - (strN Fi : Int)) = z at *
         clear heq
         go_wp2_with (go_at_call 38;refine (rfail_any _ p cp q t _ 14 S2.rd).mono ?_;rintro e w3 ⟨rfl,R3,F3⟩;have S3:=S2.on2 HLT.out F3.two1 R3;have E3:=own_frB HE2.out F3.two1 (two_lt HLT.out))
         go_end0
         exact ⟨rfl,by rw [HC.out];exact S3,E3⟩
     have hljI : (j : Int) < (M : Int):=by omega
     obtain ⟨x,hx⟩:=some_get Fi j (by rw [HM.out];exact hlj)
     have HSx:=Lib.hid (strN_take hx)
     have hsn:=strN_le (Fi.take j)
     have hsj : strN (Fi.take j) ≤ 4000000:=by simp at hsn;omega
     obtain ⟨ge,hge⟩ : ∃ g,eao = some ⟨g,0,none⟩:=by
       rcases HE.out.2 with ⟨h1,h2⟩ | ⟨g',cap',cur,h1,-⟩
       · have:=HM.out;omega
       · injection h1 with h1 _ _;exact ⟨g',h1⟩
     subst hge
     have E2:=own_frB (S:=[]) HE.out F (by simp)
     have hg7 : ∀ i,i < 7 → wr.cell? ⟨ge,j * 7 + i,none⟩ = x.cells[i]?:=fun i hi => by
       rw [E2.cellAt (j * 7 + i) (by have:=HM.out;omega),fiV_get Fi j x hx i hi]
     have f0 : wr.cell? ⟨ge,j * 7,none⟩ = some (.string ⟨x.name.toArray⟩):=hg7 0 (by omega)
     have f1 : wr.cell? ⟨ge,j * 7 + 1,none⟩ = some (.bool x.stream):=hg7 1 (by omega)
     have f2 : wr.cell? ⟨ge,j * 7 + 2,none⟩ = some (.bool x.dir):=hg7 2 (by omega)
     have f3 : wr.cell? ⟨ge,j * 7 + 3,none⟩ = some (.bool x.hasAttr):=hg7 3 (by omega)
     have f4 : wr.cell? ⟨ge,j * 7 + 4,none⟩ = some (.int .u32 x.attr.toNat):=hg7 4 (by omega)
     have f5 : wr.cell? ⟨ge,j * 7 + 5,none⟩ = some (.bool x.hasTime):=hg7 5 (by omega)
     have f6 : wr.cell? ⟨ge,j * 7 + 6,none⟩ = some (.int .u64 x.time.toNat):=hg7 6 (by omega)
     clear hg7 E2 hx
     generalize x.name = a0 at *
     generalize x.dir = a2 at *
     generalize x.hasAttr = a3 at *
     generalize x.attr = a4 at *
     generalize x.hasTime = a5 at *
     generalize x.time = a6 at *
     have FA:=F.alloc (.cells #[.string ⟨a0.toArray⟩,.bool x.stream,.bool a2,.bool a3,.int .u32 a4.toNat,.bool a5,.int .u64 a6.toNat] 54)
     generalize strN (Fi.take j) = z at *
     cases hb : x.stream with
     | false =>
       rw [hb] at HSx f1 FA
       simp only [Bool.false_eq_true,if_false] at HSx
       clear hb
       go_wp2_with fail
       go_roundw
       case rel => exact ⟨j + 1,by omega,by go_num,by rw [HSx.out];rfl,FA⟩
       case measure => simp [intOf];omega
     | true =>
       rw [hb] at HSx f1 FA
       simp only [if_true] at HSx
       have hzI : (z : Int) ≤ 4000000:=by omega
       have h0I : ((T : Int) - (z : Int)) - 1 = (T : Int) - ((z + 1 : Nat) : Int):=by omega
       have HW:=Lib.hid h0I
       clear hb h0I
       go_wp2_with fail
       go_roundw
       case rel => exact ⟨j + 1,by omega,by go_num,by rw [HSx.out];first | rw [HW.out] | go_num,FA⟩
       case measure => simp [intOf];omega
end Go.Proofs.YtkodindajfdagaaGreatDoor
/- The plain reader of a header, whole; bounds of what is read. No condition. -/
namespace Go.Proofs.YtkodindajfdagaaGreatDoor
open Go.RowKit Go.Maps
def oneSub (D : Strm) (s : Rs) : Rs:=if s.ok.k = 0 ∧ ¬ (D.fo.length = 1 ∧ (D.ss.getD 0 []).length = 1) then s.ok.fail 5 else s.ok
def parseBody (s : Rs) : (Bool × Strm × List Fil) × Rs :=
 if s.byte.1 = 1 then ((false,s.byte.2.all.1.1,s.byte.2.all.1.2),s.byte.2.all.2)
 else if s.byte.1 = 23 then ((true,s.byte.2.streams.1,[]),oneSub s.byte.2.streams.1 s.byte.2.streams.2)
 else ((false,noStrm,[]),s.byte.2.fail 5)
def parseTail (r : (Bool × Strm × List Fil) × Rs) : Rs:=if r.2.partEnd.ok.k = 0 ∧ r.1.1 = false then r.2.partEnd.ok.count r.1.2.1.ss r.1.2.2 else r.2.partEnd.ok
def noDesc : Bool × Strm × List Fil:=(false,noStrm,[])
def parseL (b : List UInt8) : (Bool × Strm × List Fil) × Nat :=
 if b = [] then (noDesc,0) else if (parseTail (parseBody (newRs b))).k = 0 then ((parseBody (newRs b)).1,0) else (noDesc,(parseTail (parseBody (newRs b))).k)
theorem namesGo_len : ∀ (m i : Nat) (s : Rs) (F : List Fil),(namesGo m i s F).1.length = F.length
 | 0,i,s,F => rfl
 | m + 1,i,s,F => by
   by_cases h : s.ok.k = 0
   · by_cases h2 : s.units.2.ok.k = 0
     · rw [namesGo_ok h h2,namesGo_len m,name_len]
     · rw [namesGo_cut h h2]
   · rw [namesGo_bad h]
theorem numsGo_len (id : Nat) : ∀ (l : List Bool) (k : Nat) (s : Rs) (F : List Fil),(numsGo id l k s F).1.length = F.length
 | [],k,s,F => rfl
 | false :: t,k,s,F => by rw [numsGo_no,numsGo_len id t]
 | true :: t,k,s,F => by
   by_cases h : (s.num (numSz id)).2.ok.k = 0
   · rw [numsGo_ok h,numsGo_len id t,numAt_len]
   · rw [numsGo_bad h]
theorem partBody_len (n id : Nat) (L : Lst) (s : Rs) : (partBody n id L s).1.files.length = L.files.length:=by
 unfold partBody
 split
 · exact withEmpty_len _ _
 split
 · show (amongL id L.empty L.files s).1.length = _
   unfold amongL
   rw [fold_len]
 split
 · exact namesGo_len _ _ _ _
 split
 · exact numsGo_len _ _ _ _ _
 split
 · rfl
 · rfl
theorem filesGo_len (n : Nat) : ∀ (m : Nat) (L : Lst) (s : Rs),(filesGo n m L s).1.files.length = L.files.length
 | 0,L,s => rfl
 | m + 1,L,s => by
   by_cases hz : s.ok.k = 0
   rotate_left
   · rw [filesGo_bad hz]
   by_cases hzy : s.byte.2.ok.k = 0
   rotate_left
   · rw [filesGo_end hz (.inl hzy)]
   by_cases hv : s.byte.1 = 0
   · rw [filesGo_end hz (.inr hv)]
   cases hm : mayL L.said s.byte.1 with
   | false => rw [filesGo_not hz hzy hv hm]
   | true =>
     by_cases hzz : s.byte.2.chunk.2.ok.k = 0
     · rw [filesGo_ok hz hzy hv hm hzz,filesGo_len n m]
       exact partBody_len n _ _ _
     · rw [filesGo_cut hz hzy hv hm hzz,filesGo_len n m]
       rfl
theorem files_len (s : Rs) : s.files.1.length = s.things.1:=by
 unfold Rs.files Rs.filesEnd Rs.filesN
 dsimp only
 rw [filesGo_len]
 simp
theorem giveCks_len (F : List Fol) (L : List (List Sub)) (cs : List Ck) : (giveCks F L cs).length = L.length:=by
 unfold giveCks
 generalize (unkIx F L).zip cs = z
 induction z generalizing L with
 | nil => rfl
 | cons a t ih => rw [List.foldl_cons,ih,putCk_len]
theorem giveCks_rows {B : Nat} {F : List Fol} {L : List (List Sub)} {cs : List Ck} (h : RowsIn B L) : RowsIn B (giveCks F L cs):=by
 intro l hl
 obtain ⟨i,hi⟩:=List.mem_iff_getElem?.1 hl
 have h1:=giveCks_row F L cs i
 rw [hi] at h1
 cases hL : L[i]? with
 | none => rw [hL] at h1;simp at h1
 | some l' =>
   rw [hL] at h1
   simp at h1
   rw [h1]
   exact h l' (List.mem_of_getElem? hL)
theorem plainL_rows (F : List Fol) : RowsIn 1 (plainL F):=fun l hl => by
 unfold plainL at hl
 rw [List.mem_map] at hl
 obtain ⟨x,-,rfl⟩:=hl
 simp
theorem plainL_len (F : List Fol) : (plainL F).length = F.length:=by simp [plainL]
theorem RowsIn.mono {B C : Nat} {L : List (List Sub)} (h : RowsIn B L) (hBC : B ≤ C) : RowsIn C L:=fun l hl => ⟨(h l hl).1,Nat.le_trans (h l hl).2 hBC⟩
theorem RowsIn.nil (B : Nat) : RowsIn B []:=fun l hl => by cases hl
theorem subs_rows (F : List Fol) (L : List (List Sub)) (s : Rs) (B : Nat) (h : RowsIn B L) (hb : s.c.b.length ≤ B) : RowsIn B (Rs.subs F L s).1 ∧ (Rs.subs F L s).1.length = L.length:=by
 have hC : ∀ (L : List (List Sub)) (id : Nat) (s : Rs),RowsIn B L → RowsIn B (Rs.subsC F L id s).1 ∧ (Rs.subsC F L id s).1.length = L.length:=fun L id s h => by
   unfold Rs.subsC
   split
   · exact ⟨giveCks_rows h,giveCks_len _ _ _⟩
   · exact ⟨h,rfl⟩
 have hB : ∀ (L : List (List Sub)) (id : Nat) (s : Rs),RowsIn B L → RowsIn B (Rs.subsB F L id s).1 ∧ (Rs.subsB F L id s).1.length = L.length:=fun L id s h => by
   unfold Rs.subsB
   split
   · have:=hC _ (cutsGo F L (s.at (id == 9)).2 []).2.byte.1 (cutsGo F L (s.at (id == 9)).2 []).2.byte.2 (cutsGo_rows B F L (s.at (id == 9)).2 [] h (RowsIn.nil B))
     refine ⟨this.1,this.2.trans ?_⟩
     rw [cutsGo_len];simp
   · exact hC _ _ _ h
 unfold Rs.subs Rs.subsA
 split
 · have hr:=countsGo_rows B L (s.byte.2.at (s.byte.1 == 13)).2 [] h (RowsIn.nil B) (by rw [Rs.at_c,byte_b];exact hb)
   have:=hB _ (countsGo L (s.byte.2.at (s.byte.1 == 13)).2 []).2.byte.1 (countsGo L (s.byte.2.at (s.byte.1 == 13)).2 []).2.byte.2 hr
   refine ⟨this.1,this.2.trans ?_⟩
   rw [countsGo_len];simp
 · exact hB _ _ _ h
theorem streamsC_fo (D : Strm) (id : Nat) (t : Rs) : (Rs.streamsC D id t).1.fo = D.fo:=by
 unfold Rs.streamsC
 split <;> rfl
theorem streamsC_rows (B : Nat) (D : Strm) (id : Nat) (t : Rs) (h1 : 1 ≤ B) (ht : t.c.b.length ≤ B) : (Rs.streamsC D id t).1.ss.length = D.fo.length ∧ RowsIn B (Rs.streamsC D id t).1.ss:=by
 unfold Rs.streamsC
 split
 · have hs:=subs_rows D.fo (plainL D.fo) (t.at (id == 8)).2 B ((plainL_rows D.fo).mono h1) (by rw [Rs.at_c];exact ht)
   exact ⟨hs.2.trans (plainL_len _),hs.1⟩
 · exact ⟨plainL_len _,(plainL_rows D.fo).mono h1⟩
theorem streamsB_rows (B : Nat) (D : Strm) (id : Nat) (t : Rs) (h1 : 1 ≤ B) (ht : t.c.b.length ≤ B) (hD : D.fo.length ≤ t.c.b.length) : (Rs.streamsB D id t).1.ss.length = (Rs.streamsB D id t).1.fo.length ∧ RowsIn B (Rs.streamsB D id t).1.ss ∧ (Rs.streamsB D id t).1.fo.length ≤ t.c.b.length:=by
 unfold Rs.streamsB
 split
 · have hf:=(folders_small (t.at (id == 7)).2).2
   rw [Rs.at_c] at hf
   generalize hD2 : ({ D with fo:=(t.at (id == 7)).2.folders.1 } : Strm) = D2
   have hD3 : D2.fo = (t.at (id == 7)).2.folders.1:=by rw [← hD2]
   rw [streamsC_fo,hD3]
   have:=streamsC_rows B D2 (t.at (id == 7)).2.folders.2.byte.1 (t.at (id == 7)).2.folders.2.byte.2 h1 (by rw [byte_b,folders_b,Rs.at_c];exact ht)
   rw [hD3] at this
   exact ⟨this.1,this.2,hf⟩
 · rw [streamsC_fo]
   have:=streamsC_rows B D id (t.at (id == 7)).2 h1 (by rw [Rs.at_c];exact ht)
   exact ⟨this.1,this.2,hD⟩
theorem streams_rows (s : Rs) (B : Nat) (h1 : 1 ≤ B) (hb : s.c.b.length ≤ B) : s.streams.1.ss.length = s.streams.1.fo.length ∧ RowsIn B s.streams.1.ss ∧ s.streams.1.fo.length ≤ s.c.b.length:=by
 unfold Rs.streams Rs.streamsA
 split
 · generalize hD : (⟨(s.byte.2.at (s.byte.1 == 6)).2.packs.1.1,(s.byte.2.at (s.byte.1 == 6)).2.packs.1.2.1,(s.byte.2.at (s.byte.1 == 6)).2.packs.1.2.2,[],[]⟩ : Strm) = D
   have hD0 : D.fo = []:=by rw [← hD]
   have hbb : (s.byte.2.at (s.byte.1 == 6)).2.packs.2.byte.2.c.b = s.c.b:=by rw [byte_b,packs_b,Rs.at_c,byte_b]
   have:=streamsB_rows B D (s.byte.2.at (s.byte.1 == 6)).2.packs.2.byte.1 (s.byte.2.at (s.byte.1 == 6)).2.packs.2.byte.2 h1 (by rw [hbb];exact hb) (by rw [hD0];simp)
   rw [hbb] at this
   exact this
 · have hbb : (s.byte.2.at (s.byte.1 == 6)).2.c.b = s.c.b:=by rw [Rs.at_c,byte_b]
   have:=streamsB_rows B ⟨0,[],[],[],[]⟩ s.byte.1 (s.byte.2.at (s.byte.1 == 6)).2 h1 (by rw [hbb];exact hb) (by simp)
   rw [hbb] at this
   exact this
theorem allC_small (D : Strm) (id : Nat) (s : Rs) : (Rs.allC D id s).1.1 = D ∧ (Rs.allC D id s).1.2.length ≤ s.c.b.length:=by
 unfold Rs.allC
 split
 · refine ⟨rfl,?_⟩
   dsimp only
   rw [files_len]
   have:=things_le (s.at (id == 5)).2
   rw [Rs.at_c] at this
   exact this
 · exact ⟨rfl,by simp⟩
theorem allB_small (B : Nat) (id : Nat) (t : Rs) (h1 : 1 ≤ B) (ht : t.c.b.length ≤ B) : (Rs.allB id t).1.1.ss.length = (Rs.allB id t).1.1.fo.length ∧ RowsIn B (Rs.allB id t).1.1.ss ∧ (Rs.allB id t).1.1.fo.length ≤ t.c.b.length ∧ (Rs.allB id t).1.2.length ≤ t.c.b.length:=by
 unfold Rs.allB
 split
 · obtain ⟨q1,q2⟩:=allC_small (t.at (id == 4)).2.streams.1 (t.at (id == 4)).2.streams.2.byte.1 (t.at (id == 4)).2.streams.2.byte.2
   rw [q1]
   rw [byte_b,streams_b,Rs.at_c] at q2
   have h3:=streams_rows (t.at (id == 4)).2 B h1 (by rw [Rs.at_c];exact ht)
   rw [Rs.at_c] at h3
   exact ⟨h3.1,h3.2.1,h3.2.2,q2⟩
 · obtain ⟨q1,q2⟩:=allC_small noStrm id (t.at (id == 4)).2
   rw [q1]
   rw [Rs.at_c] at q2
   exact ⟨rfl,RowsIn.nil _,Nat.zero_le _,q2⟩
theorem allA_small (B : Nat) (id : Nat) (t : Rs) (h1 : 1 ≤ B) (ht : t.c.b.length ≤ B) : (Rs.allA id t).1.1.ss.length = (Rs.allA id t).1.1.fo.length ∧ RowsIn B (Rs.allA id t).1.1.ss ∧ (Rs.allA id t).1.1.fo.length ≤ t.c.b.length ∧ (Rs.allA id t).1.2.length ≤ t.c.b.length:=by
 unfold Rs.allA
 generalize hu : (if (t.at (id == 3)).1 then (t.at (id == 3)).2.fail 6 else (t.at (id == 3)).2) = u
 have hub : u.c.b = t.c.b:=by
   rw [← hu]
   split
   · rw [Rs.fail_c,Rs.at_c]
   · rw [Rs.at_c]
 have:=allB_small B id u h1 (by rw [hub];exact ht)
 rw [hub] at this
 exact this
theorem all_small (s : Rs) (B : Nat) (h1 : 1 ≤ B) (hb : s.c.b.length ≤ B) : s.all.1.1.ss.length = s.all.1.1.fo.length ∧ RowsIn B s.all.1.1.ss ∧ s.all.1.1.fo.length ≤ s.c.b.length ∧ s.all.1.2.length ≤ s.c.b.length:=by
 unfold Rs.all
 split
 · have hbb : (s.byte.2.at (s.byte.1 == 2)).2.props.byte.2.c.b = s.c.b:=by rw [byte_b,props_b,Rs.at_c,byte_b]
   have:=allA_small B (s.byte.2.at (s.byte.1 == 2)).2.props.byte.1 (s.byte.2.at (s.byte.1 == 2)).2.props.byte.2 h1 (by rw [hbb];exact hb)
   rw [hbb] at this
   exact this
 · have hbb : (s.byte.2.at (s.byte.1 == 2)).2.c.b = s.c.b:=by rw [Rs.at_c,byte_b]
   have:=allA_small B s.byte.1 (s.byte.2.at (s.byte.1 == 2)).2 h1 (by rw [hbb];exact hb)
   rw [hbb] at this
   exact this
theorem allC_b (D : Strm) (id : Nat) (s : Rs) : (Rs.allC D id s).2.c.b = s.c.b:=by
 unfold Rs.allC
 split
 · rw [end_b,byte_b,files_b2,Rs.at_c]
 · rw [end_b,Rs.at_c]
theorem allB_b (id : Nat) (s : Rs) : (Rs.allB id s).2.c.b = s.c.b:=by
 unfold Rs.allB
 split
 · rw [allC_b,byte_b,streams_b,Rs.at_c]
 · rw [allC_b,Rs.at_c]
theorem all_b2 (s : Rs) : s.all.2.c.b = s.c.b:=by
 unfold Rs.all Rs.allA
 split
 · rw [allB_b]
   split
   · rw [Rs.fail_c,Rs.at_c,byte_b,props_b,Rs.at_c,byte_b]
   · rw [Rs.at_c,byte_b,props_b,Rs.at_c,byte_b]
 · rw [allB_b]
   split
   · rw [Rs.fail_c,Rs.at_c,Rs.at_c,byte_b]
   · rw [Rs.at_c,Rs.at_c,byte_b]
theorem parseBody_b (s : Rs) : (parseBody s).2.c.b = s.c.b:=by
 unfold parseBody
 split
 · rw [all_b2,byte_b]
 · split
   · show (oneSub _ _).c.b = _
     unfold oneSub
     split
     · rw [Rs.fail_c,Rs.ok_c,streams_b,byte_b]
     · rw [Rs.ok_c,streams_b,byte_b]
   · rw [Rs.fail_c,byte_b]
theorem parseBody_small (s : Rs) (hb : s.c.b.length ≤ 4000000) : (parseBody s).1.2.1.ss.length ≤ 4000000 ∧ (∀ l ∈ (parseBody s).1.2.1.ss,l.length ≤ 4000000) ∧ (parseBody s).1.2.2.length ≤ 4000000:=by
 unfold parseBody
 split
 · obtain ⟨h1,h2,h3,h4⟩:=all_small s.byte.2 4000000 (by omega) (by rw [byte_b];exact hb)
   rw [byte_b] at h3 h4
   exact ⟨by dsimp only;omega,fun l hl => (h2 l hl).2,by dsimp only;omega⟩
 · split
   · obtain ⟨h1,h2,h3⟩:=streams_rows s.byte.2 4000000 (by omega) (by rw [byte_b];exact hb)
     rw [byte_b] at h3
     exact ⟨by dsimp only;omega,fun l hl => (h2 l hl).2,by simp⟩
   · refine ⟨Nat.zero_le _,?_,Nat.zero_le _⟩
     intro l hl
     exact absurd hl (by simp [noStrm])
end Go.Proofs.YtkodindajfdagaaGreatDoor
