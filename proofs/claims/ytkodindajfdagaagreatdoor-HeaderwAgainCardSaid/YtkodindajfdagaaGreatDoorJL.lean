/- Contract: the reader's plain: each folder has one sub. No condition but that lengths fit. -/
import Derived.Test.YtkodindajfdagaaGreatDoorJK
import Derived.Test.YtkodindajfdagaaGreatDoorJJ
namespace Go.Proofs.YtkodindajfdagaaGreatDoor
open Go.RowKit Go.Maps
theorem coV_get : ∀ (l : List (Coder × Value)) (i : Nat) (c : Coder × Value),l[i]? = some c → (coV l)[i * 2]? = some (.int .i64 c.1.method) ∧ (coV l)[i * 2 + 1]? = some c.2
 | [],i,c,h => by simp at h
 | x :: t,0,c,h => by simp at h;subst h;exact ⟨rfl,rfl⟩
 | x :: t,i + 1,c,h => by
   have:=coV_get t i c (by simpa using h)
   rw [show (i + 1) * 2 = i * 2 + 1 + 1 by omega]
   exact this
theorem biV_get : ∀ (l : List (Int × Int)) (i : Nat) (c : Int × Int),l[i]? = some c → (biV l)[i * 2]? = some (.int .i64 c.1) ∧ (biV l)[i * 2 + 1]? = some (.int .i64 c.2)
 | [],i,c,h => by simp at h
 | x :: t,0,c,h => by simp at h;subst h;exact ⟨rfl,rfl⟩
 | x :: t,i + 1,c,h => by
   have:=biV_get t i c (by simpa using h)
   rw [show (i + 1) * 2 = i * 2 + 1 + 1 by omega]
   exact this
theorem RowM.fo {w : World} {lo : Nat} {r : FoRow} {x : Fol} (h : RowM w lo r x) : Fo w (.agg #[r.cv,r.bv,r.pv,r.sv,.bool r.has,.int .u32 r.sum.toNat]) x.f:=by
 refine ⟨_,_,_,_,_,_,rfl,?_,?_,h.pa.sl,h.si.sl⟩
 · obtain ⟨LP,h1,h2,h3⟩:=h.co
   obtain ⟨ao,cap,e,g1,g2,g3⟩:=h2.out
   refine ⟨ao,cap,e,g1,g2,fun j c hc => ?_⟩
   have hj:=(List.getElem?_eq_some_iff.1 hc).1
   obtain ⟨b,o,rfl,-,hb,hcell⟩:=g3 j hj
   rw [← h1,List.getElem?_map] at hc
   obtain ⟨y,hy,rfl⟩:=Option.map_eq_some_iff.1 hc
   obtain ⟨q1,q2⟩:=coV_get LP j y hy
   exact ⟨b,o,y.2,rfl,hb,by rw [hcell (j * 2) (by omega)];exact q1,by rw [Nat.add_assoc,hcell (j * 2 + 1) (by omega)];exact q2,(h3 y (List.mem_of_getElem? hy)).sl⟩
 · obtain ⟨ao,cap,e,g1,g2,g3⟩:=h.bi.out
   refine ⟨ao,cap,e,g1,g2,fun j c hc => ?_⟩
   have hj:=(List.getElem?_eq_some_iff.1 hc).1
   obtain ⟨b,o,rfl,-,hb,hcell⟩:=g3 j hj
   obtain ⟨q1,q2⟩:=biV_get _ j c hc
   exact ⟨b,o,rfl,hb,by rw [hcell (j * 2) (by omega)];exact q1,by rw [Nat.add_assoc,hcell (j * 2 + 1) (by omega)];exact q2⟩
def FolOK (f : Folder) : Prop:=f.coders.length ≤ 100000 ∧ f.binds.length ≤ 100000 ∧ f.sizes.length ≤ 100000000 ∧ ∀ b ∈ f.binds,(Lit.int .i64 b.2).wf = true
structure FolsAt (w : World) (lo : Nat) (fv : Value) (rows : List FoRow) (L : List Fol) : Prop where
 own : w.ownsRow lo 70 6 fv rows.length (foV rows)
 rw : RowsM w lo rows L
theorem FolsAt.fr {w w' : World} {lo : Nat} {fv : Value} {rows : List FoRow} {L : List Fol} {S : List Nat} (h : FolsAt w lo fv rows L) (F : Fr S w w') (hS : ∀ i ∈ S,i < lo) : FolsAt w' lo fv rows L :=
 ⟨own_frB h.own F hS,h.rw.frT F (fun i hi => .inl (hS i hi))⟩
structure SuM (w : World) (p cp : Nat) (q : Option Nat) (d : DV) (svs : List Value) (SL : List (List Sub)) (sv : Value) (t : Rs) (wx : World) : Prop where
 own : wx.ownsRow w.heap.size 73 1 sv svs.length svs
 sm : SubsM wx w.heap.size svs SL
 rd : RdAt wx p cp q t { d with ss:=sv }
 fr : Fr [p,cp] w wx
theorem SuM.on2 {w : World} {p cp : Nat} {q : Option Nat} {d : DV} {svs : List Value} {SL : List (List Sub)} {sv : Value} {t t' : Rs} {wx wy : World} (h : SuM w p cp q d svs SL sv t wx) (hl : p < w.heap.size ∧ cp < w.heap.size) (F : Fr [p,cp] wx wy) (R : RdAt wy p cp q t' { d with ss:=sv }) : SuM w p cp q d svs SL sv t' wy :=
 ⟨own_frB h.own F (two_lt hl),h.sm.frT F (fun i hi => .inl (two_lt hl i hi)),R,h.fr.tr2 F⟩
theorem SuM.fr0 {w : World} {p cp : Nat} {q : Option Nat} {d : DV} {svs : List Value} {SL : List (List Sub)} {sv : Value} {t : Rs} {wx wy : World} (h : SuM w p cp q d svs SL sv t wx) (F : Fr [] wx wy) : SuM w p cp q d svs SL sv t wy :=
 ⟨own_frB h.own F (by simp),h.sm.frT F (by simp),h.rd.fr0 F,h.fr.trans0 F⟩
theorem SuM.snoc {w : World} {p cp : Nat} {q : Option Nat} {d : DV} {svs : List Value} {SL : List (List Sub)} {sv sv2 : Value} {t : Rs} {wx w7 : World} (h : SuM w p cp q d svs SL sv t wx) (hl : p < w.heap.size ∧ cp < w.heap.size) (hq : ∀ k,q = some k → k < w.heap.size) (x : Sub)
   (g7 : ((wx.alloc (.cells #[.int .u64 x.size.toNat,.bool x.ck.has,.int .u32 x.ck.sum.toNat] 89)).alloc (.cells #[.slice (some ⟨wx.heap.size,0,none⟩) 1 1] 73)).grownBy w7 sv.ownBlock)
   (own7 : w7.ownsRow w.heap.size 73 1 sv2 (svs.length + 1) (svs ++ [.slice (some ⟨wx.heap.size,0,none⟩) 1 1])) :
   RdAt w7 p cp q t { d with ss:=sv } ∧ SuM w p cp q d (svs ++ [.slice (some ⟨wx.heap.size,0,none⟩) 1 1]) (SL ++ [[x]]) sv2 t (w7.setCell ⟨p,7,none⟩ sv2):=by
 have FA1 : Fr [] wx (wx.alloc (.cells #[.int .u64 x.size.toNat,.bool x.ck.has,.int .u32 x.ck.sum.toNat] 89)):=(Fr.refl _ _).alloc _
 have FA2 : Fr [] (wx.alloc (.cells #[.int .u64 x.size.toNat,.bool x.ck.has,.int .u32 x.ck.sum.toNat] 89)) ((wx.alloc (.cells #[.int .u64 x.size.toNat,.bool x.ck.has,.int .u32 x.ck.sum.toNat] 89)).alloc (.cells #[.slice (some ⟨wx.heap.size,0,none⟩) 1 1] 73)):=(Fr.refl _ _).alloc _
 have sm1:=(h.sm.snoc FA1 (own_litM wx 89 3 1 [.int .u64 x.size.toNat,.bool x.ck.has,.int .u32 x.ck.sum.toNat] rfl (by decide) : _) h.fr.size (l:=[x])).frT FA2 (by simp)
 have FA:=FA1.trans0 FA2
 have own6:=own_frB h.own FA (by simp)
 have R7:=(h.rd.fr0 FA).grownB g7 own6 hl.1 hl.2 hq
 have F7 : Fr sv.ownBlock.toList _ w7:=(Fr.refl _ _).grown g7 (fun k hk => .inl (by rw [hk];simp))
 have F8 : Fr [p] w7 (w7.setCell ⟨p,7,none⟩ sv2):=(Fr.refl _ _).setCell (by simp) _
 have hp1 : ∀ i ∈ [p],i < w.heap.size:=by simp;exact hl.1
 have sm2:=sm1.frT F7 (fun i hi => .inr ((own_typed own6 i hi).ne (by decide)))
 refine ⟨R7,by rw [List.length_append];exact own_frB own7 F8 hp1,sm2.frT F8 (fun i hi => .inl (hp1 i hi)),R7.put7 sv2,?_⟩
 exact ((h.fr.trans0 FA).grown g7 (fun k hk => .inr (own_ltS own6 k hk).1)).setCell (by simp) _
theorem info_ss : (Tryz.prog.info? 73).map (fun i => (i.zero,i.size,i.bytes)) = some (some (.slice none 0 0),1,24):=by kernel_rfl
theorem sty_ss : SlTyM Tryz.prog 35 73 (.slice none 0 0) 1 24:=⟨Tryz.underlying35,by obtain ⟨i,h⟩:=info_parts info_ss;exact ⟨i,h⟩,rfl,by decide⟩
def PlainR (w : World) (p cp : Nat) (q : Option Nat) (d : DV) (L : List Fol) (t : Rs) (e : Ending) (w' : World) : Prop :=
 e = .returned (.tuple #[]) ∧ ∃ svs sv,SuM w p cp q d svs (plainL L) sv t w'
set_option maxRecDepth 100000 in
set_option maxHeartbeats 4000000 in
theorem plain_any (w : World) (p cp : Nat) (q : Option Nat) (s : Rs) (d : DV) (h : RdAt w p cp q s d) (hss : d.ss = .slice none 0 0) (lo : Nat) (rows : List FoRow) (L : List Fol) (hlo : p < lo ∧ cp < lo) (hF : FolsAt w lo d.fs rows L) (hn : L.length ≤ 10000000) (hok : ∀ x ∈ L,FolOK x.f) :
   Calls Tryz.prog 75 #[.pointer (some ⟨p,0,none⟩)] w (PlainR w p cp q d L s):=by
 have HLT:=Lib.hid (And.intro h.lt h.cur.lt)
 have HLQ:=Lib.hid h.ql
 have hrl:=hF.rw.len
 have HF:=Lib.hid hF
 have HOK:=Lib.hid hok
 have hd : ({ d with ss:=.slice none 0 0 } : DV) = d:=by rw [← hss]
 have C0 : SuM w p cp q d [] [] (.slice none 0 0) s w:=⟨World.ownsRow_nil _ _ _ _,SubsM.nil _ _,by rw [hd];exact h,Fr.refl _ _⟩
 obtain ⟨fao,fcap,hfv,hfn,hfc⟩:=own_outS hF.own
 rw [hfv] at HF
 have e0:=(cells9 h.blk).2.2.2.2.2.2.1
 rw [hfv] at e0
 have HFV:=Lib.hid hfv
 clear h hss hF hok hd hfv
 rw [hrl] at HF e0 HFV
 obtain ⟨n,hN⟩ : ∃ n,L.length = n:=⟨_,rfl⟩
 have HN:=Lib.hid hN
 rw [hN] at HF e0 HFV hn hrl
 have HRL:=Lib.hid hrl
 have hnI : (n : Int) ≤ 10000000:=by omega
 clear hN hn hrl
 go_enter Tryz.func75,Tryz.ntmps75
 go_wp2_with fail
 go_loopw [10] (fun i wr => ∃ (k : Nat) (svs : List Value) (sv : Value),k ≤ n ∧ i = .int .i64 (k : Int) ∧ svs.length = k ∧ SuM w p cp q d svs (plainL (L.take k)) sv s wr) (fun i _ => n - (intOf i).toNat)
 case atStart => exact ⟨0,[],.slice none 0 0,Nat.zero_le _,rfl,rfl,C0⟩
 case round =>
   obtain ⟨k,svs,sv,hk,rfl,hsl,C⟩:=hrel
   clear C0 e0
   have HSL:=Lib.hid hsl
   clear hsl
   by_cases hlt : k < n
   · have hltI : (k : Int) < (n : Int):=by omega
     obtain ⟨x,hx⟩:=some_get L k (by rw [HN.out];exact hlt)
     obtain ⟨r,hr⟩:=some_get rows k (by rw [HRL.out];exact hlt)
     have HFx:=HF.out.fr C.fr (two_lt hlo)
     have hrow:=HFx.rw.row k r x hr hx
     have hown:=HFx.own
     rw [HRL.out] at hown
     obtain ⟨g,hg⟩ : ∃ g,fao = some ⟨g,0,none⟩:=by
       rcases hown.2 with ⟨h1,h2⟩ | ⟨g',cap',cur,h1,-⟩
       · omega
       · injection h1 with h1 _ _;exact ⟨g',h1⟩
     subst hg
     have hg6 : ∀ j,j < 6 → wr.cell? ⟨g,k * 6 + j,none⟩ = r.cells[j]?:=fun j hj => by
       rw [hown.cellAt (k * 6 + j) (by omega),foV_get rows k r hr j hj]
     obtain ⟨r1,r2,r3,r4,r5,r6⟩:=r
     obtain ⟨LP,-,hs1,-⟩:=hrow.co
     obtain ⟨ca,cc,e1,-⟩:=hs1.out
     obtain ⟨ba,bc,e2,-⟩:=hrow.bi.out
     obtain ⟨pa,pc,e3,-⟩:=hrow.pa.out
     obtain ⟨sa,sc,e4,-⟩:=hrow.si.out
     dsimp only at e1 e2 e3 e4
     subst e1 e2 e3 e4
     have f0 : wr.cell? ⟨g,k * 6,none⟩ = some (.slice ca x.f.coders.length cc):=hg6 0 (by omega)
     have f1 : wr.cell? ⟨g,k * 6 + 1,none⟩ = some (.slice ba x.f.binds.length bc):=hg6 1 (by omega)
     have f2 : wr.cell? ⟨g,k * 6 + 2,none⟩ = some (.slice pa x.f.packs.length pc):=hg6 2 (by omega)
     have f3 : wr.cell? ⟨g,k * 6 + 3,none⟩ = some (.slice sa x.f.sizes.length sc):=hg6 3 (by omega)
     have f4 : wr.cell? ⟨g,k * 6 + 4,none⟩ = some (.bool r5):=hg6 4 (by omega)
     have f5 : wr.cell? ⟨g,k * 6 + 5,none⟩ = some (.int .u32 r6.toNat):=hg6 5 (by omega)
     have HRow:=Lib.hid hrow.fo
     have HCK:=Lib.hid (show x.ck = ⟨r5,r6⟩ by have h1:=hrow.has;have h2:=hrow.sum;dsimp only at h1 h2;rw [h1,h2])
     clear hg6 hown HFx hs1 hrow hr
     obtain ⟨sao,scap,rfl,-⟩:=own_outS C.own
     go_upto_region 3 with fail
     obtain ⟨wB,hwB⟩ : ∃ wB,wB = wr.alloc (Obj.cells #[.slice ca x.f.coders.length cc,.slice ba x.f.binds.length bc,.slice pa x.f.packs.length pc,.slice sa x.f.sizes.length sc,.bool r5,.int .u32 r6.toNat] 70):=⟨_,rfl⟩
     have FB : Fr [] wr wB:=hwB ▸ (Fr.refl _ _).alloc _
     have HBX:=Lib.hid (fun wx (F : Fr [] wB wx) => box6 (hwB ▸ F : Fr [] (wr.alloc (Obj.cells #[.slice ca x.f.coders.length cc,.slice ba x.f.binds.length bc,.slice pa x.f.packs.length pc,.slice sa x.f.sizes.length sc,.bool r5,.int .u32 r6.toNat] 70)) wx))
     rw [← hwB]
     obtain ⟨gb,hgb⟩ : ∃ gb,wr.heap.size = gb:=⟨_,rfl⟩
     rw [hgb] at HBX ⊢
     clear hwB f0 f1 f2 f3 f4 f5
     have C1 : SuM w p cp q d svs (plainL (L.take k)) (.slice sao svs.length scap) s wB.drew:=C.fr0 (FB.drew)
     have FB1 : Fr [] wr wB.drew:=FB.drew
     obtain ⟨b0,b1,b2,b3,b4,b5⟩:=HBX.out _ ((Fr.refl [] wB).drew)
     have e7:=(cells9 C1.rd.blk).2.2.2.2.2.2.2.1
     obtain ⟨hk1,hk2,hk3,hk4⟩:=HOK.out x (List.mem_of_getElem? hx)
     have HW:=Lib.hid (whole_any wB.drew _ x.f (HRow.out.fr FB1) hk1 hk2 hk3 hk4)
     clear hk1 hk2 hk3 hk4 C
     have HPL:=Lib.hid (show plainL (L.take (k + 1)) = plainL (L.take k) ++ [[⟨wholeOf x.f,⟨r5,r6⟩⟩]] by
       rw [List.take_add_one,hx]
       simp [plainL,HCK.out])
     clear hx
     generalize wholeOf x.f = z at *
     go_region_law (first
       | (have hq:=C3;refine step_append_struct sty_ss rfl _ _ (by rfl) w.heap.size _ _ _ (by rfl) (own_frB C3.own (((Fr.refl [] w3).alloc (.cells #[.int .u64 z.toNat,.bool r5,.int .u32 r6.toNat] 89)).alloc (.cells #[.slice (some ⟨w3.heap.size,0,none⟩) 1 1] 73)) (by simp)) (w3.heap.size + 1) [.slice (some ⟨w3.heap.size,0,none⟩) 1 1] (by rfl) (by have:=heap_alloc_new (w3.alloc (.cells #[.int .u64 z.toNat,.bool r5,.int .u32 r6.toNat] 89)) (.cells #[.slice (some ⟨w3.heap.size,0,none⟩) 1 1] 73);rw [World.size_alloc] at this;exact this) rfl rfl (by have:=HSL.out;omega) (by decide) (by rw [World.size_alloc,World.size_alloc];have:=C3.fr.size;omega) ?_;intro v2 w7 own7 g7;obtain ⟨vao2,vcap2,rfl,-⟩:=own_outS own7;obtain ⟨R7,C7⟩:=C3.snoc HLT.out HLQ.out ⟨z,⟨r5,r6⟩⟩ g7 own7;obtain ⟨-,-,-,-,-,-,-,k7,-,kz⟩:=cells9 R7.blk)
       | (go_simp;go_at_call 108;refine HW.out.mono ?_;rintro e w3 ⟨rfl,F3⟩;have C3:=C1.fr0 F3;have m7:=(cells9 C3.rd.blk).2.2.2.2.2.2.2.1;obtain ⟨n0,n1,n2,n3,n4,n5⟩:=HBX.out _ ((Fr.refl [] wB).drew.trans0 F3);have m7a:=(cells9 (C3.fr0 ((Fr.refl [] w3).alloc (.cells #[.int .u64 z.toNat,.bool r5,.int .u32 r6.toNat] 89))).rd.blk).2.2.2.2.2.2.2.1;have m7b:=(cells9 (C3.fr0 (((Fr.refl [] w3).alloc (.cells #[.int .u64 z.toNat,.bool r5,.int .u32 r6.toNat] 89)).alloc (.cells #[.slice (some ⟨w3.heap.size,0,none⟩) 1 1] 73))).rd.blk).2.2.2.2.2.2.2.1))
     all_goals
       go_wp2_with fail
       go_roundw
       case rel => exact ⟨k + 1,svs ++ [.slice (some ⟨w3.heap.size,0,none⟩) 1 1],_,by omega,by go_num,by rw [List.length_append,HSL.out];rfl,by rw [HPL.out];exact C7⟩
       case measure => simp [intOf];omega
   · have hltI : ¬ (k : Int) < (n : Int):=by omega
     have HLn:=Lib.hid (show L.take k = L by rw [List.take_of_length_le];have:=HN.out;omega)
     rw [HLn.out] at C
     have HC:=Lib.hid C
     clear C
     go_wp2_with fail
     go_end0
     exact ⟨rfl,_,_,HC.out⟩
end Go.Proofs.YtkodindajfdagaaGreatDoor
/- Contract: the reader's cut. No condition but that lengths fit. -/
namespace Go.Proofs.YtkodindajfdagaaGreatDoor
open Go.RowKit Go.Maps
theorem withSizes_nil (l : List Sub) : withSizes l [] = l:=by
 unfold withSizes
 refine List.ext_getElem? fun i => ?_
 simp [List.getElem?_mapIdx]
theorem withSizes_len (l : List Sub) (Z : List Nat) : (withSizes l Z).length = l.length:=by simp [withSizes]
theorem withSizes_get (l : List Sub) (Z : List Nat) (k : Nat) (hk : Z.length ≤ k) : (withSizes l Z)[k]? = l[k]?:=by
 unfold withSizes
 rw [List.getElem?_mapIdx]
 rw [List.getElem?_eq_none hk]
 simp
theorem withSizes_snoc (l : List Sub) (Z : List Nat) (z : Nat) (y : Sub) (hy : l[Z.length]? = some y) : withSizes l (Z ++ [z]) = (withSizes l Z).set Z.length { y with size:=UInt64.ofNat z }:=by
 refine List.ext_getElem? fun i => ?_
 have hk:=(List.getElem?_eq_some_iff.1 hy).1
 rw [List.getElem?_set]
 by_cases e : Z.length = i
 · subst e
   rw [if_pos rfl,if_pos (by rw [withSizes_len];exact hk)]
   unfold withSizes
   rw [List.getElem?_mapIdx,hy]
   simp
 · rw [if_neg e]
   unfold withSizes
   rw [List.getElem?_mapIdx,List.getElem?_mapIdx]
   by_cases h : i < Z.length
   · rw [List.getElem?_append_left h]
   · rw [List.getElem?_eq_none (l:=Z) (by omega),List.getElem?_eq_none (l:=Z ++ [z]) (by simp;omega)]
theorem sbV_get : ∀ (l : List Sub) (i : Nat) (y : Sub),l[i]? = some y → (sbV l)[i * 3]? = some (.int .u64 y.size.toNat) ∧ (sbV l)[i * 3 + 1]? = some (.bool y.ck.has) ∧ (sbV l)[i * 3 + 2]? = some (.int .u32 y.ck.sum.toNat)
 | [],i,c,h => by simp at h
 | x :: t,0,c,h => by simp at h;subst h;exact ⟨rfl,rfl,rfl⟩
 | x :: t,i + 1,c,h => by
   have:=sbV_get t i c (by simpa using h)
   rw [show (i + 1) * 3 = i * 3 + 1 + 1 + 1 by omega]
   exact this
theorem sbV_size : ∀ (l : List Sub) (i : Nat) (y : Sub) (z : UInt64),l[i]? = some y → (sbV l).set (i * 3) (.int .u64 z.toNat) = sbV (l.set i { y with size:=z })
 | [],i,c,z,h => by simp at h
 | x :: t,0,c,z,h => by simp at h;subst h;rfl
 | x :: t,i + 1,c,z,h => by
   have ih:=sbV_size t i c z (by simpa using h)
   rw [show (i + 1) * 3 = i * 3 + 1 + 1 + 1 by omega]
   show Value.int .u64 x.size.toNat :: Value.bool x.ck.has :: Value.int .u32 x.ck.sum.toNat :: (sbV t).set (i * 3) (.int .u64 z.toNat) = _
   rw [ih]
   rfl
theorem SubsM.inner {w w' : World} {lo : Nat} {svs : List Value} {L : List (List Sub)} {b : Nat} (h : SubsM w lo svs L) (i : Nat) (v : Value) (l : List Sub) (hv : svs[i]? = some v) (hb : v.ownBlock = some b) (F : Fr [b] w w') (hr : w'.ownsRow lo 89 3 v l.length (sbV l)) : SubsM w' lo svs (L.set i l):=by
 refine ⟨by rw [List.length_set,h.len],fun j u x h1 h2 => ?_,h.dis⟩
 rw [List.getElem?_set] at h2
 by_cases e : i = j
 · subst e
   rw [if_pos rfl] at h2
   rw [hv] at h1
   split at h2
   · simp at h1 h2;subst h1 h2;exact hr
   · cases h2
 · rw [if_neg e] at h2
   exact own_frS (h.row j u x h1 h2) F (fun k hk hm => by
     rw [List.mem_singleton.1 hm] at hk
     exact h.dis i j v u b e hv h1 hb hk)
theorem SuM.size {w : World} {p cp : Nat} {q : Option Nat} {d : DV} {svs : List Value} {SL : List (List Sub)} {sv : Value} {t : Rs} {wx : World} {b m cap : Nat} (h : SuM w p cp q d svs SL sv t wx) (hl : p < w.heap.size ∧ cp < w.heap.size) (hq : ∀ j,q = some j → j < w.heap.size)
   (i : Nat) (l : List Sub) (hv : svs[i]? = some (.slice (some ⟨b,0,none⟩) m cap)) (hli : SL[i]? = some l) (k : Nat) (y : Sub) (hy : l[k]? = some y) (z : UInt64) :
   (∃ u,wx.cell? ⟨b,k * 3,none⟩ = some u) ∧ wx.frozen? ⟨b,k * 3,none⟩ = false ∧ SuM w p cp q d svs (SL.set i (l.set k { y with size:=z })) sv t (wx.setCell ⟨b,k * 3,none⟩ (.int .u64 z.toNat)):=by
 have hr:=h.sm.row i _ l hv hli
 have hk:=(List.getElem?_eq_some_iff.1 hy).1
 have hbt : Typed wx b 89:=own_typed hr b (by simp [Value.ownBlock])
 have hbw : w.heap.size ≤ b:=(own_ltS hr b rfl).1
 have hm : m = l.length:=by
   rcases hr.2 with ⟨h1,-⟩ | ⟨g',cap',cur,h1,-⟩
   · cases h1
   · injection h1 with _ h2 _
 subst hm
 have hst:=(hr.stored (k * 3) (.int .u64 z.toNat)).1
 rw [sbV_size l k y z hy] at hst
 have F : Fr [b] wx (wx.setCell ⟨b,k * 3,none⟩ (.int .u64 z.toNat)):=(Fr.refl _ _).setCell (by simp) _
 refine ⟨⟨_,(hr.cellAt (k * 3) (by omega)).trans (sbV_get l k y hy).1⟩,hr.frozenAt _,own_frT h.own F (fun j hj => .inr (by rw [List.mem_singleton.1 hj];exact hbt.ne (by decide))),h.sm.inner i _ _ hv rfl F (by rw [List.length_set];exact hst),h.rd.fr F (by simp;omega) (by simp;omega) (fun j hj => by have:=hq j hj;simp;omega),h.fr.setCell (.inr hbw) _⟩
theorem cutGo_bad {m left : Nat} {s : Rs} {Z : List Nat} (h : (s.size.2.check (decide (left < s.size.1)) 13).ok.k ≠ 0) : cutGo (m + 1) left s Z = (true,Z,(s.size.2.check (decide (left < s.size.1)) 13).ok):=by
 show (if _ then _ else _) = _
 rw [if_pos h]
theorem cutGo_ok {m left : Nat} {s : Rs} {Z : List Nat} (h : ¬ (s.size.2.check (decide (left < s.size.1)) 13).ok.k ≠ 0) : cutGo (m + 1) left s Z = cutGo m (left - s.size.1) (s.size.2.check (decide (left < s.size.1)) 13).ok (Z ++ [s.size.1]):=by
 show (if _ then _ else _) = _
 rw [if_neg h]
def CutR (w : World) (p cp : Nat) (q : Option Nat) (d : DV) (svs : List Value) (SL : List (List Sub)) (sv : Value) (i : Nat) (r : List Sub × Rs) (e : Ending) (w' : World) : Prop :=
 e = .returned (.tuple #[]) ∧ SuM w p cp q d svs (SL.set i r.1) sv r.2 w'
set_option maxRecDepth 100000 in
set_option maxHeartbeats 4000000 in
theorem cut_any (w wx : World) (p cp : Nat) (q : Option Nat) (s : Rs) (d : DV) (svs : List Value) (SL : List (List Sub)) (sv : Value) (C : SuM w p cp q d svs SL sv s wx) (hl : p < w.heap.size ∧ cp < w.heap.size) (hq : ∀ j,q = some j → j < w.heap.size) (hb : s.c.b.length ≤ 10000000) (hn : SL.length ≤ 10000000)
   (lo : Nat) (rows : List FoRow) (L : List Fol) (hlo : p < lo ∧ cp < lo) (hF : FolsAt w lo d.fs rows L) (i : Nat) (x : Fol) (hx : L[i]? = some x) (hok : FolOK x.f) (l : List Sub) (hli : SL[i]? = some l) (hl1 : 1 ≤ l.length) (hl2 : l.length ≤ 10000000) :
   Calls Tryz.prog 110 #[.pointer (some ⟨p,0,none⟩),.int .i64 (i : Int)] wx (CutR w p cp q d svs SL sv i (cutL x.f l s)):=by
 have HLT:=Lib.hid hl
 have HLQ:=Lib.hid hq
 have HB:=Lib.hid hb
 have HFx:=hF.fr C.fr (two_lt hlo)
 have hiL:=(List.getElem?_eq_some_iff.1 hx).1
 have hiS:=(List.getElem?_eq_some_iff.1 hli).1
 obtain ⟨r,hr⟩:=some_get rows i (by rw [hF.rw.len];exact hiL)
 have hrow:=HFx.rw.row i r x hr hx
 have hown:=HFx.own
 rw [hF.rw.len] at hown
 obtain ⟨nL,hNL⟩ : ∃ nL,L.length = nL:=⟨_,rfl⟩
 rw [hNL] at hown hiL
 obtain ⟨g,fcap,hfv⟩ : ∃ g fcap,d.fs = .slice (some ⟨g,0,none⟩) nL fcap:=by
   rcases hown.2 with ⟨h1,h2⟩ | ⟨g',cap',cur,h1,-⟩
   · omega
   · exact ⟨g',cap',h1⟩
 rw [hfv] at hown
 have e6 : wx.cell? ⟨p,6,none⟩ = some d.fs:=(cells9 C.rd.blk).2.2.2.2.2.2.1
 rw [hfv] at e6
 have hg6 : ∀ j,j < 6 → wx.cell? ⟨g,i * 6 + j,none⟩ = r.cells[j]?:=fun j hj => by
   rw [hown.cellAt (i * 6 + j) (by omega),foV_get rows i r hr j hj]
 obtain ⟨r1,r2,r3,r4,r5,r6⟩:=r
 obtain ⟨LP,-,hs1,-⟩:=hrow.co
 obtain ⟨ca,cc,e1,-⟩:=hs1.out
 obtain ⟨ba,bc,e2,-⟩:=hrow.bi.out
 obtain ⟨pa,pc,e3,-⟩:=hrow.pa.out
 obtain ⟨sa,sc,e4,-⟩:=hrow.si.out
 dsimp only at e1 e2 e3 e4
 subst e1 e2 e3 e4
 have f0 : wx.cell? ⟨g,i * 6,none⟩ = some (.slice ca x.f.coders.length cc):=hg6 0 (by omega)
 have f1 : wx.cell? ⟨g,i * 6 + 1,none⟩ = some (.slice ba x.f.binds.length bc):=hg6 1 (by omega)
 have f2 : wx.cell? ⟨g,i * 6 + 2,none⟩ = some (.slice pa x.f.packs.length pc):=hg6 2 (by omega)
 have f3 : wx.cell? ⟨g,i * 6 + 3,none⟩ = some (.slice sa x.f.sizes.length sc):=hg6 3 (by omega)
 have f4 : wx.cell? ⟨g,i * 6 + 4,none⟩ = some (.bool r5):=hg6 4 (by omega)
 have f5 : wx.cell? ⟨g,i * 6 + 5,none⟩ = some (.int .u32 r6.toNat):=hg6 5 (by omega)
 obtain ⟨k1,k2,k3,k4⟩:=hok
 have HW:=Lib.hid (whole_any wx _ x.f hrow.fo k1 k2 k3 k4)
 have HC:=Lib.hid C
 have hsl:=C.sm.len
 obtain ⟨sao,scap,rfl,-⟩:=own_outS C.own
 obtain ⟨v,hv⟩:=some_get svs i (by omega)
 have hri:=C.sm.row i v l hv hli
 obtain ⟨b,vcap,hvf,hvc⟩ : ∃ b vcap,v = .slice (some ⟨b,0,none⟩) l.length vcap ∧ l.length ≤ vcap:=by
   obtain ⟨va,vc,hve,hvl,-⟩:=own_outS hri
   rcases hri.2 with ⟨h1,h2⟩ | ⟨g',cap',cur,h1,-⟩
   · omega
   · rw [h1] at hve ⊢
     injection hve with _ _ h4
     subst h4
     exact ⟨g',cap',rfl,hvl⟩
 subst hvf
 obtain ⟨gs,hgs⟩ : ∃ gs,sao = some ⟨gs,0,none⟩:=by
   rcases C.own.2 with ⟨h1,h2⟩ | ⟨g',cap',cur,h1,-⟩
   · omega
   · injection h1 with h1 _ _;exact ⟨g',h1⟩
 subst hgs
 have HV:=Lib.hid hv
 have hci : ∀ wy,SuM w p cp q d svs SL (.slice (some ⟨gs,0,none⟩) svs.length scap) s wy → wy.cell? ⟨gs,i,none⟩ = some (.slice (some ⟨b,0,none⟩) l.length vcap) ∧ wy.cell? ⟨p,7,none⟩ = some (.slice (some ⟨gs,0,none⟩) svs.length scap):=fun wy Cy =>
   ⟨by rw [Cy.own.cellAt i (by omega)];exact hv,(cells9 Cy.rd.blk).2.2.2.2.2.2.2.1⟩
 have HCI:=Lib.hid hci
 have hiI : (i : Int) < (nL : Int):=by omega
 have hiI2 : (i : Int) < (svs.length : Int):=by omega
 have HSL:=Lib.hid hsl
 clear hsl
 have HLI:=Lib.hid hli
 clear hci hv hri hrow hs1 hg6 hown HFx hF hr hx hfv hlo k1 k2 k3 k4 C hli
 go_enter Tryz.func110,Tryz.ntmps110
 go_upto_region 2 with (go_at_call 108;refine HW.out.mono ?_;rintro e w1 ⟨rfl,F1⟩;have C1:=HC.out.fr0 F1;obtain ⟨q1,q7⟩:=HCI.out _ C1)
 obtain ⟨M,hM⟩ : ∃ M,l.length = M + 1:=⟨l.length - 1,by omega⟩
 rw [hM]
 have HM:=Lib.hid hM
 have hMI : (M : Int) ≤ 10000000:=by omega
 have hMc : (M : Int) + 1 ≤ (vcap : Int):=by omega
 have hMc2 : (1 : Int) ≤ (vcap : Int):=by omega
 clear f0 f1 f2 f3 f4 f5 e6 q1 q7 hM hl1 hl2 hvc HW
 go_wp2_with fail
 all_goals
   go_loopw [4,28] (fun lv iv wr => ∃ (k : Nat) (Z : List Nat) (t : Rs) (left : Nat),k ≤ M ∧ iv = .int .i64 (k : Int) ∧ lv = .int .u64 (left : Int) ∧ left < 18446744073709551616 ∧ Z.length = k ∧ cutGo M (wholeOf x.f).toNat s [] = cutGo (M - k) left t Z ∧ t.c.b.length ≤ 10000000 ∧ SuM w p cp q d svs (SL.set i (withSizes l Z)) (.slice (some ⟨gs,0,none⟩) svs.length scap) t wr) (fun _ iv _ => M - (intOf iv).toNat)
   case atStart => exact ⟨0,[],s,(wholeOf x.f).toNat,Nat.zero_le _,rfl,rfl,(wholeOf x.f).toNat_lt,rfl,rfl,HB.out,by rw [withSizes_nil,set_self HLI.out];exact C1⟩
   case round =>
     obtain ⟨k,Z,t,left,hk,rfl,rfl,hleft,hZk,hgo,htb,CU⟩:=hrel
     have HGo:=Lib.hid hgo
     have HZk:=Lib.hid hZk
     have HCU:=Lib.hid CU
     have HEq:=Lib.hid (show cutL x.f l s = (withSizes l (cutGo M (wholeOf x.f).toNat s []).2.1,(cutGo M (wholeOf x.f).toNat s []).2.2) by
       unfold cutL
       rw [show l.length - 1 = M by have:=HM.out;omega])
     clear hgo hZk CU C1 HC
     by_cases hlt : k < M
     rotate_left
     · have hltI : ¬ (k : Int) < (M : Int):=by omega
       obtain rfl : k = M:=by omega
       have HE:=Lib.hid (show cutGo k (wholeOf x.f).toNat s [] = (false,Z ++ [left],t) by rw [HGo.out,Nat.sub_self];rfl)
       obtain ⟨y,hy⟩:=some_get l k (by have:=HM.out;omega)
       have hlw : i < SL.length:=(List.getElem?_eq_some_iff.1 HLI.out).1
       obtain ⟨⟨u0,hu0⟩,huz,C9⟩:=HCU.out.size HLT.out HLQ.out i (withSizes l Z) HV.out (by rw [List.getElem?_set,if_pos rfl,if_pos hlw]) k y (by rw [withSizes_get l Z k (by rw [HZk.out];exact Nat.le_refl _)];exact hy) (UInt64.ofNat left)
       have hval : ((UInt64.ofNat left).toNat : Int) = (left : Int):=by simp;omega
       rw [hval,List.set_set,← HZk.out,← withSizes_snoc l Z left y (by rw [HZk.out];exact hy),HZk.out] at C9
       have hMI2 : ((k : Int) + 1) - 1 = (k : Int):=by omega
       have hMw : IntKind.i64.wrap (((k + 1 : Nat) : Int) - 1) = (k : Int):=by rw [show (((k + 1 : Nat) : Int) - 1) = (k : Int) by omega];exact IntWalk.i64_in _ (by omega)
       have hMlt : (k : Int) < (k : Int) + 1:=by omega
       have HC9:=Lib.hid C9
       clear C9 hy hval
       go_wp2_with fail
       go_end0
       exact ⟨rfl,by rw [HEq.out,HE.out];exact HC9.out⟩
     clear h hMc hMc2
     have hltI : (k : Int) < (M : Int):=by omega
     have HS:=Lib.hid (fun wy d' (R : RdAt wy p cp q t d') => size_ok wy p cp q t d' R htb)
     have HSB:=Lib.hid (show t.size.2.c.b.length ≤ 10000000 by rw [size_b];exact htb)
     have hzl:=size_le t
     have HBad:=Lib.hid (cutGo_bad (m:=M - k - 1) (left:=left) (s:=t) (Z:=Z))
     have HOk:=Lib.hid (cutGo_ok (m:=M - k - 1) (left:=left) (s:=t) (Z:=Z))
     rw [show M - k - 1 + 1 = M - k by omega,← HGo.out] at HBad HOk
     clear htb
     generalize t.size.2 = s1 at *
     generalize t.size.1 = z at *
     by_cases hz : s1.ok.k = 0
     rotate_left
     · have HK:=Lib.hid (show (s1.ok.k == 0) = false by rw [beq_eq_false_iff_ne];exact hz)
       have HCk:=Lib.hid (show s1.check (decide (left < z)) 13 = s1.ok by unfold Rs.check;rw [if_neg (fun h => hz h.1)])
       have HE:=Lib.hid (show cutGo M (wholeOf x.f).toNat s [] = (true,Z,s1.ok) by
         rw [HBad.out (by rw [HCk.out,Rs.ok_ok];exact hz),HCk.out,Rs.ok_ok])
       have HOO:=Lib.hid (Rs.ok_ok s1)
       clear hz
       go_wp2_with (first
         | (have hq:=C3;go_at_call 37;refine (ok_any _ p cp q _ _ C3.rd).mono ?_;rw [HOO.out,HK.out];rintro e w4 ⟨rfl,R4,F4⟩;have C4:=C3.on2 HLT.out F4.two1 R4)
         | (have hq:=C2;go_at_call 37;refine (ok_any _ p cp q _ _ C2.rd).mono ?_;rw [HK.out];rintro e w3 ⟨rfl,R3,F3⟩;have C3:=C2.on2 HLT.out F3.two1 R3)
         | (go_at_call 103;refine (HS.out _ _ HCU.out.rd).mono ?_;rintro e w2 ⟨rfl,R2,F2⟩;have C2:=HCU.out.on2 HLT.out F2 R2))
       go_end0
       exact ⟨rfl,by rw [HEq.out,HE.out];exact C4⟩
     have HK:=Lib.hid (show (s1.ok.k == 0) = true by rw [hz];rfl)
     by_cases hlz : left < z
     · have t0 : (left : Int) < (z : Int):=by omega
       have HCk:=Lib.hid (show s1.check (decide (left < z)) 13 = s1.ok.fail 13 by unfold Rs.check;rw [if_pos ⟨hz,by simp [hlz]⟩])
       have HFK:=Lib.hid (show ((s1.ok.fail 13).k == 0) = false by rw [Rs.fail_k hz];rfl)
       have HFO:=Lib.hid (Rs.fail_ok (s:=s1.ok) (e:=13) (by decide))
       have HE:=Lib.hid (show cutGo M (wholeOf x.f).toNat s [] = (true,Z,s1.ok.fail 13) by
         rw [HBad.out (by rw [HCk.out,HFO.out,Rs.fail_k hz];decide),HCk.out,HFO.out])
       clear hz hlz
       go_wp2_with (first
         | (have hq:=C4;go_at_call 37;refine (ok_any _ p cp q _ _ C4.rd).mono ?_;rw [HFO.out,HFK.out];rintro e w5 ⟨rfl,R5,F5⟩;have C5:=C4.on2 HLT.out F5.two1 R5)
         | (have hq:=C3;go_at_call 38;refine (rfail_any _ p cp q _ _ 13 C3.rd).mono ?_;rintro e w4 ⟨rfl,R4,F4⟩;have C4:=C3.on2 HLT.out F4.two1 R4)
         | (have hq:=C2;go_at_call 37;refine (ok_any _ p cp q _ _ C2.rd).mono ?_;rw [HK.out];rintro e w3 ⟨rfl,R3,F3⟩;have C3:=C2.on2 HLT.out F3.two1 R3)
         | (go_at_call 103;refine (HS.out _ _ HCU.out.rd).mono ?_;rintro e w2 ⟨rfl,R2,F2⟩;have C2:=HCU.out.on2 HLT.out F2 R2))
       go_end0
       exact ⟨rfl,by rw [HEq.out,HE.out];exact C5⟩
     have t0 : ¬ (left : Int) < (z : Int):=by omega
     have HCk:=Lib.hid (show s1.check (decide (left < z)) 13 = s1.ok by unfold Rs.check;rw [if_neg (by simp [hlz])])
     have HOO:=Lib.hid (Rs.ok_ok s1)
     have HGO2:=Lib.hid (show cutGo M (wholeOf x.f).toNat s [] = cutGo (M - (k + 1)) (left - z) s1.ok (Z ++ [z]) by
       rw [HOk.out (by rw [HCk.out,Rs.ok_ok];simp [hz]),HCk.out,Rs.ok_ok];rfl)
     obtain ⟨y,hy⟩:=some_get l k (by have:=HM.out;omega)
     have HY:=Lib.hid hy
     have HLW:=Lib.hid (show i < SL.length from (List.getElem?_eq_some_iff.1 HLI.out).1)
     have HVZ:=Lib.hid (show ((UInt64.ofNat z).toNat : Int) = (z : Int) by simp;omega)
     have HPut:=Lib.hid (fun wy (Cy : SuM w p cp q d svs (SL.set i (withSizes l Z)) (.slice (some ⟨gs,0,none⟩) svs.length scap) s1.ok wy) => Cy.size HLT.out HLQ.out i (withSizes l Z) HV.out (by rw [List.getElem?_set,if_pos rfl,if_pos HLW.out]) k y (by rw [withSizes_get l Z k (by rw [HZk.out];exact Nat.le_refl _)];exact HY.out) (UInt64.ofNat z))
     have HZS:=Lib.hid (show (withSizes l Z).set k { y with size:=UInt64.ofNat z } = withSizes l (Z ++ [z]) by
       have:=HZk.out;subst this;exact (withSizes_snoc l Z z y HY.out).symm)
     rw [HVZ.out,List.set_set,HZS.out] at HPut
     have hkM : (k : Int) < (M : Int) + 1:=by omega
     have hsub : ((left : Int) - (z : Int)) = ((left - z : Nat) : Int):=by omega
     have hsw : IntKind.u64.wrap ((left : Int) - (z : Int)) = ((left - z : Nat) : Int):=by simp [IntKind.wrap,IntKind.bits,IntKind.signed];omega
     have HSUB:=Lib.hid hsub
     clear hz hlz hy hsub
     go_wp2_with (first
       | (have hq:=C3;go_at_call 37;refine (ok_any _ p cp q _ _ C3.rd).mono ?_;rw [HOO.out,HK.out];rintro e w4 ⟨rfl,R4,F4⟩;have C4:=C3.on2 HLT.out F4.two1 R4;obtain ⟨⟨u0,hu0⟩,huz,C9⟩:=HPut.out _ C4)
       | (have hq:=C2;go_at_call 37;refine (ok_any _ p cp q _ _ C2.rd).mono ?_;rw [HK.out];rintro e w3 ⟨rfl,R3,F3⟩;have C3:=C2.on2 HLT.out F3.two1 R3)
       | (go_at_call 103;refine (HS.out _ _ HCU.out.rd).mono ?_;rintro e w2 ⟨rfl,R2,F2⟩;have C2:=HCU.out.on2 HLT.out F2 R2))
     go_roundw
     case rel => exact ⟨k + 1,Z ++ [z],s1.ok,left - z,by omega,by go_num,by first | rfl | rw [hsw] | rw [HSUB.out],by omega,by rw [List.length_append,HZk.out];rfl,HGO2.out,HSB.out,C9⟩
     case measure => simp [intOf];omega
end Go.Proofs.YtkodindajfdagaaGreatDoor
/- Contract: the reader's unknown. No condition but that lengths fit. -/
namespace Go.Proofs.YtkodindajfdagaaGreatDoor
open Go.RowKit Go.Maps
theorem unkIxN_succ {F : List Fol} {L : List (List Sub)} {n : Nat} {x : Fol} {l : List Sub} (hx : F[n]? = some x) (hl : L[n]? = some l) : unkIxN F L (n + 1) = unkIxN F L n ++ rowIx x l n:=by
 unfold unkIxN
 rw [List.range_succ,List.flatMap_append]
 simp [hx,hl]
theorem unkIxN_mono {F : List Fol} {L : List (List Sub)} : ∀ (m n : Nat),(unkIxN F L n).length ≤ (unkIxN F L (n + m)).length
 | 0,n => Nat.le_refl _
 | m + 1,n => by
   refine Nat.le_trans (unkIxN_mono m n) ?_
   rw [show n + (m + 1) = n + m + 1 by omega]
   unfold unkIxN
   rw [List.range_succ,List.flatMap_append,List.length_append]
   omega
theorem unkIxN_le {F : List Fol} {L : List (List Sub)} {n : Nat} (h : n ≤ L.length) : (unkIxN F L n).length ≤ unknownN F L:=by
 have:=unkIxN_mono (F:=F) (L:=L) (L.length - n) n
 rwa [show n + (L.length - n) = L.length by omega] at this
def unkV (svs : List Value) (ix : List (Nat × Nat)) : List Value:=ix.map fun p => .pointer (some ⟨((svs.getD p.1 (.slice none 0 0)).ownBlock).getD 0,p.2 * 3 + 1,none⟩)
theorem unkV_append (svs : List Value) (a b : List (Nat × Nat)) : unkV svs (a ++ b) = unkV svs a ++ unkV svs b:=by simp [unkV]
theorem info_pc : (Tryz.prog.info? 160).map (fun i => (i.zero,i.size,i.bytes)) = some (some (.pointer none),1,8):=by kernel_rfl
theorem sty_pc : SlTyM Tryz.prog 158 160 (.pointer none) 1 8:=⟨Tryz.underlying158,by obtain ⟨i,h⟩:=info_parts info_pc;exact ⟨i,h⟩,rfl,by decide⟩
set_option maxRecDepth 100000 in
set_option maxHeartbeats 4000000 in
theorem unknown_any (w wx : World) (p cp : Nat) (q : Option Nat) (s : Rs) (d : DV) (svs : List Value) (SL : List (List Sub)) (sv : Value) (C : SuM w p cp q d svs SL sv s wx) (hl : p < w.heap.size ∧ cp < w.heap.size) (hn : SL.length ≤ 10000000)
   (lo : Nat) (rows : List FoRow) (L : List Fol) (hlo : p < lo ∧ cp < lo) (hF : FolsAt w lo d.fs rows L) (hLS : L.length = SL.length) (hrl : ∀ l ∈ SL,l.length ≤ 10000000) (hT : unknownN L SL ≤ 16500000000000) :
   Calls Tryz.prog 111 #[.pointer (some ⟨p,0,none⟩)] wx fun e w' => (∃ v,e = .returned v ∧ w'.ownsRow wx.heap.size 160 1 v (unknownN L SL) (unkV svs (unkIx L SL))) ∧ Fr [] wx w':=by
 have HLT:=Lib.hid hl
 have HC:=Lib.hid C
 have HFx:=hF.fr C.fr (two_lt hlo)
 have hsl:=C.sm.len
 obtain ⟨sao,scap,rfl,-⟩:=own_outS C.own
 have hfl:=hF.rw.len
 obtain ⟨fao,fcap,hfv,hfn,-⟩:=own_outS hF.own
 have HFV:=Lib.hid hfv
 rw [hfv] at HFx
 obtain ⟨n,hN⟩ : ∃ n,SL.length = n:=⟨_,rfl⟩
 have hfl2 : rows.length = n:=by omega
 have hsl2 : svs.length = n:=by omega
 have HN:=Lib.hid hN
 have HNL:=Lib.hid (hLS.trans hN)
 have HNR:=Lib.hid hfl2
 have HSL:=Lib.hid hsl2
 rw [hfl2] at HFx HFV
 rw [hsl2] at HC
 have HFX:=Lib.hid HFx
 have HTT:=Lib.hid hT
 have HRL:=Lib.hid hrl
 have hnI : (n : Int) ≤ 10000000:=by omega
 have HCE:=Lib.hid (show ∀ wy,Fr [] wx wy → wy.cell? ⟨p,7,none⟩ = some (.slice sao n scap) ∧ wy.cell? ⟨p,6,none⟩ = some (.slice fao n fcap) from fun wy F => by
   have h9:=cells9 (HC.out.fr0 F).rd.blk
   exact ⟨h9.2.2.2.2.2.2.2.1,h9.2.2.2.2.2.2.1.trans (congrArg some HFV.out)⟩)
 obtain ⟨e7,-⟩:=HCE.out wx (Fr.refl _ _)
 clear C hl hn hlo hF hLS hfl hfv hN hfl2 hsl2 HFx hsl hT hrl
 go_enter Tryz.func111,Tryz.ntmps111
 go_wp2_with fail
 clear e7
 go_loopw [3,13] (fun ov iv wr => ∃ (k : Nat),k ≤ n ∧ iv = .int .i64 (k : Int) ∧ wr.ownsRow wx.heap.size 160 1 ov (unkIxN L SL k).length (unkV svs (unkIxN L SL k)) ∧ Fr [] wx wr) (fun _ iv _ => n - (intOf iv).toNat)
 case atStart => exact ⟨0,Nat.zero_le _,rfl,World.ownsRow_nil _ _ _ _,Fr.refl _ _⟩
 case round =>
   obtain ⟨k,hk,rfl,own,F⟩:=hrel
   obtain ⟨oao,ocap,rfl,-⟩:=own_outS own
   have HOwn:=Lib.hid own
   clear own
   by_cases hlt : k < n
   rotate_left
   · have hltI : ¬ (k : Int) < (n : Int):=by omega
     obtain rfl : k = n:=by omega
     have HE:=Lib.hid (show unkIxN L SL k = unkIx L SL by unfold unkIx;rw [HN.out])
     go_wp2_with fail
     go_ret
     exact ⟨⟨_,rfl,by show wr.ownsRow _ _ 1 (.slice oao (unkIxN L SL k).length ocap) (unkIx L SL).length _;rw [← HE.out];exact HOwn.out⟩,F⟩
   have hltI : (k : Int) < (n : Int):=by omega
   obtain ⟨x,hx⟩:=some_get L k (by rw [HNL.out];exact hlt)
   obtain ⟨l,hli⟩:=some_get SL k (by rw [HN.out];exact hlt)
   obtain ⟨r,hr⟩:=some_get rows k (by rw [HNR.out];exact hlt)
   obtain ⟨v,hv⟩:=some_get svs k (by rw [HSL.out];exact hlt)
   have hC:=HC.out.fr0 F
   have hrow:=(HFX.out.fr F (by simp)).rw.row k r x hr hx
   have hown:=(HFX.out.fr F (by simp)).own
   rw [HNR.out] at hown
   have hri:=hC.sm.row k v l hv hli
   have HRow:=Lib.hid hri
   obtain ⟨vo,vc,rfl,hvl,-⟩:=own_outS hri
   obtain ⟨gf,hgf⟩ : ∃ g,fao = some ⟨g,0,none⟩:=by
     rcases hown.2 with ⟨h1,h2⟩ | ⟨g',cap',cur,h1,-⟩
     · omega
     · injection h1 with h1 _ _;exact ⟨g',h1⟩
   obtain ⟨gs,hgs⟩ : ∃ g,sao = some ⟨g,0,none⟩:=by
     rcases hC.own.2 with ⟨h1,h2⟩ | ⟨g',cap',cur,h1,-⟩
     · have:=HSL.out;omega
     · injection h1 with h1 _ _;exact ⟨g',h1⟩
   subst hgf hgs
   obtain ⟨e7,e6⟩:=HCE.out wr F
   have c4 : wr.cell? ⟨gf,k * 6 + 4,none⟩ = some (.bool x.ck.has):=by
     rw [hown.cellAt (k * 6 + 4) (by omega),foV_get rows k r hr 4 (by decide),← hrow.has];rfl
   have cs : wr.cell? ⟨gs,k,none⟩ = some (.slice vo l.length vc):=by
     have hown2:=hC.own
     rw [HSL.out] at hown2
     rw [hown2.cellAt k (by omega)];exact hv
   have HSu:=Lib.hid (unkIxN_succ hx hli)
   have hll:=HRL.out l (List.mem_of_getElem? hli)
   have HLL:=Lib.hid hll
   have hlI : (l.length : Int) ≤ 10000000:=by omega
   have HV:=Lib.hid hv
   clear hx hli hr hv hrow hown hri hC
   by_cases h1 : l.length = 1 ∧ x.ck.has = true
   · have t0 : ((l.length : Int) == 1) = true:=by rw [beq_iff_eq];omega
     have HR0:=Lib.hid (show rowIx x l k = [] by unfold rowIx;rw [if_pos h1])
     have hh:=h1.2
     rw [hh] at c4
     clear h1 hh hll
     go_wp2_with fail
     go_roundw
     case rel => exact ⟨k + 1,by omega,by go_num,by rw [HSu.out,HR0.out,List.append_nil];exact HOwn.out,F⟩
     case measure => simp [intOf];omega
   have HR1:=Lib.hid (show rowIx x l k = (List.range l.length).map fun j => (k,j) by unfold rowIx;rw [if_neg h1])
   have hcase : ((l.length : Int) == 1) = false ∨ (((l.length : Int) == 1) = true ∧ x.ck.has = false):=by
     by_cases h2 : l.length = 1
     · right
       refine ⟨by rw [beq_iff_eq];omega,?_⟩
       cases h3 : x.ck.has with
       | false => rfl
       | true => exact absurd ⟨h2,h3⟩ h1
     · left
       rw [beq_eq_false_iff_ne];omega
   clear h1 hll
   rcases hcase with t0 | ⟨t0,t1⟩
   all_goals
     (try rw [t1] at c4)
     go_wp2_with fail
     go_loopw [3,35] (fun ov jv wq => ∃ (j : Nat),j ≤ l.length ∧ jv = .int .i64 (j : Int) ∧ wq.ownsRow wx.heap.size 160 1 ov ((unkIxN L SL k).length + j) (unkV svs (unkIxN L SL k ++ (List.range j).map fun j => (k,j))) ∧ Fr [] wx wq) (fun _ jv _ => l.length - (intOf jv).toNat)
     case atStart => exact ⟨0,Nat.zero_le _,rfl,by rw [List.range_zero,List.map_nil,List.append_nil];exact HOwn.out,F⟩
     case round =>
       obtain ⟨j,hj,rfl,own2,F2⟩:=hrel
       obtain ⟨o2,oc2,rfl,-⟩:=own_outS own2
       have HOwn2:=Lib.hid own2
       clear own2 F
       by_cases hlj : j < l.length
       rotate_left
       · have hljI : ¬ (j : Int) < (l.length : Int):=by omega
         obtain rfl : j = l.length:=by omega
         go_wp2_with fail
         go_roundw
         case rel => exact ⟨k + 1,by omega,by go_num,by rw [HSu.out,HR1.out,List.length_append,List.length_map,List.length_range];exact HOwn2.out,F2⟩
         case measure => simp [intOf];omega
       have hljI : (j : Int) < (l.length : Int):=by omega
       obtain ⟨b,hb⟩ : ∃ b,vo = some ⟨b,0,none⟩:=by
         rcases HRow.out.2 with ⟨h1,h2⟩ | ⟨g',cap',cur,h1,-⟩
         · omega
         · injection h1 with h1 _ _;exact ⟨g',h1⟩
       subst hb
       have hbnd : (unkIxN L SL k).length + j + 1 ≤ 17000000000000:=by
         have h2:=unkIxN_le (F:=L) (L:=SL) (n:=k + 1) (by rw [HN.out];omega)
         rw [HSu.out,HR1.out,List.length_append,List.length_map,List.length_range] at h2
         have:=HTT.out
         omega
       have HE2:=Lib.hid (show unkV svs (unkIxN L SL k ++ (List.range (j + 1)).map fun j => (k,j)) = unkV svs (unkIxN L SL k ++ (List.range j).map fun j => (k,j)) ++ [.pointer (some ⟨b,j * 3 + 1,none⟩)] by
         rw [List.range_succ,List.map_append,← List.append_assoc,unkV_append]
         simp [unkV,HV.out,List.getD_eq_getElem?_getD,Value.ownBlock])
       have hws : wx.heap.size ≤ wr.heap.size:=F2.size
       go_wp2_with (at_builtin;refine wpList_append_small sty_pc rfl _ _ rfl wx.heap.size _ _ _ (by rfl) (own_frB HOwn2.out ((Fr.refl [] wr).alloc (.cells #[.pointer (some ⟨b,j * 3 + 1,none⟩)] 160)) (by simp)) wr.heap.size [.pointer (some ⟨b,j * 3 + 1,none⟩)] (by rfl) (heap_alloc_new wr _) rfl rfl hbnd (by decide) (by rw [World.size_alloc];omega) ?_;intro v3 w3 own3 g3)
       go_roundw
       case rel => exact ⟨j + 1,by omega,by go_num,by rw [HE2.out,← Nat.add_assoc];exact own3,(F2.alloc _).grown g3 (fun i hi => .inr (own_ltS HOwn2.out i hi).1)⟩
       case measure => simp [intOf];omega
end Go.Proofs.YtkodindajfdagaaGreatDoor
/- Contract: the reader's counts. No condition but that lengths fit. -/
namespace Go.Proofs.YtkodindajfdagaaGreatDoor
open Go.RowKit Go.Maps
theorem made_sub (n : Nat) : (madeCells (Value.cells (.agg #[.int .u64 0,.bool false,.int .u32 0])) (n * 3)).toList = sbV (List.replicate n noSub):=by
 rw [made_list _ 3 rfl n]
 induction n with
 | zero => rfl
 | succ n ih =>
   rw [List.replicate_succ,List.flatten_cons,ih,List.replicate_succ]
   rfl
theorem info_sub : (Tryz.prog.info? 89).map (fun i => (i.zero,i.size,i.bytes)) = some (some (.agg #[.int .u64 0,.bool false,.int .u32 0]),3,16):=by kernel_rfl
theorem SubsM.put {w w' : World} {lo : Nat} {svs : List Value} {L : List (List Sub)} {v : Value} {l : List Sub} (h : SubsM w lo svs L) (F : Fr [] w w') (hv : w'.ownsRow w.heap.size 89 3 v l.length (sbV l)) (hlo : lo ≤ w.heap.size) (k : Nat) : SubsM w' lo (svs.set k v) (L.set k l):=by
 have h':=h.frT F (by simp)
 have hold : ∀ (i : Nat) u b,svs[i]? = some u → u.ownBlock = some b → b < w.heap.size:=fun i u b hu hb => by
   have hi:=(List.getElem?_eq_some_iff.1 hu).1
   obtain ⟨x,hx⟩:=some_get L i (by rw [← h.len];exact hi)
   exact (own_ltS (h.row i u x hu hx) b hb).2
 have hv' : w'.ownsRow lo 89 3 v l.length (sbV l):=by
   refine ⟨hv.1,?_⟩
   rcases hv.2 with h1 | ⟨g,cap,cur,rfl,hb,rest⟩
   · exact .inl h1
   · exact .inr ⟨g,cap,cur,rfl,by omega,rest⟩
 refine ⟨by rw [List.length_set,List.length_set,h.len],fun i u x h1 h2 => ?_,fun i j u x b hij h1 h2 hb => ?_⟩
 · rw [List.getElem?_set] at h1 h2
   by_cases e : k = i
   · subst e
     rw [if_pos rfl] at h1 h2
     split at h1
     · split at h2
       · simp at h1 h2;subst h1 h2;exact hv'
       · cases h2
     · cases h1
   · rw [if_neg e] at h1 h2
     exact h'.row i u x h1 h2
 · rw [List.getElem?_set] at h1 h2
   intro hx
   by_cases e : k = i
   · subst e
     rw [if_pos rfl] at h1
     rw [if_neg hij] at h2
     split at h1
     · simp at h1;subst h1
       have:=hold j x b h2 hx
       have:=(own_ltS hv b hb).1
       omega
     · cases h1
   · rw [if_neg e] at h1
     by_cases e2 : k = j
     · subst e2
       rw [if_pos rfl] at h2
       split at h2
       · simp at h2;subst h2
         have:=hold i u b h1 hb
         have:=(own_ltS hv b hx).1
         omega
       · cases h2
     · rw [if_neg e2] at h2
       exact h.dis i j u x b hij h1 h2 hb hx
theorem SuM.put {w : World} {p cp : Nat} {q : Option Nat} {d : DV} {svs : List Value} {SL : List (List Sub)} {g n cap : Nat} {t : Rs} {wx w6 : World} (h : SuM w p cp q d svs SL (.slice (some ⟨g,0,none⟩) n cap) t wx) (hl : p < w.heap.size ∧ cp < w.heap.size) (hq : ∀ j,q = some j → j < w.heap.size) (k : Nat) (hk : k < svs.length) (v : Value) (l : List Sub)
   (own6 : w6.ownsRow wx.heap.size 89 3 v l.length (sbV l)) (g6 : wx.grownBy w6 none) :
   RdAt w6 p cp q t { d with ss:=.slice (some ⟨g,0,none⟩) n cap } ∧ w6.cell? ⟨g,k,none⟩ = svs[k]? ∧ w6.frozen? ⟨g,k,none⟩ = false ∧ SuM w p cp q d (svs.set k v) (SL.set k l) (.slice (some ⟨g,0,none⟩) n cap) t (w6.setCell ⟨g,k,none⟩ v):=by
 have F6 : Fr [] wx w6:=(Fr.refl [] wx).grown g6 (by simp)
 have C6:=h.fr0 F6
 have sm6:=h.sm.put F6 own6 h.fr.size k
 have hgt : Typed w6 g 73:=own_typed C6.own g (by simp [Value.ownBlock])
 have hg : w.heap.size ≤ g:=(own_ltS C6.own g rfl).1
 have hn : n = svs.length:=by
   rcases h.own.2 with ⟨h1,-⟩ | ⟨g',cap',cur,h1,-⟩
   · cases h1
   · injection h1 with _ h2 _
 subst hn
 have hst:=(C6.own.stored k v).1
 have F8 : Fr [g] w6 (w6.setCell ⟨g,k,none⟩ v):=(Fr.refl _ _).setCell (by simp) _
 refine ⟨C6.rd,C6.own.cellAt k (by omega),C6.own.frozenAt _,by rw [List.length_set];exact hst,sm6.frT F8 (fun i hi => .inr (by rw [List.mem_singleton.1 hi];exact hgt.ne (by decide))),?_,C6.fr.setCell (.inr hg) _⟩
 exact C6.rd.fr F8 (by simp;omega) (by simp;omega) (fun j hj => by have:=hq j hj;simp;omega)
theorem countsGo_bad {x : List Sub} {t : List (List Sub)} {s : Rs} {D : List (List Sub)} (h : (s.things.2.check (decide (s.things.1 = 0)) 14).ok.k ≠ 0) : countsGo (x :: t) s D = (D ++ x :: t,(s.things.2.check (decide (s.things.1 = 0)) 14).ok):=by
 show (if _ then _ else _) = _
 rw [if_pos h]
theorem countsGo_ok {x : List Sub} {t : List (List Sub)} {s : Rs} {D : List (List Sub)} (h : ¬ (s.things.2.check (decide (s.things.1 = 0)) 14).ok.k ≠ 0) : countsGo (x :: t) s D = countsGo t (s.things.2.check (decide (s.things.1 = 0)) 14).ok (D ++ [if 1 < s.things.1 then List.replicate s.things.1 noSub else x]):=by
 show (if _ then _ else _) = _
 rw [if_neg h]
theorem set_mid {α : Type} {D : List α} {x y : α} {t : List α} : (D ++ x :: t).set D.length y = D ++ y :: t:=by
 rw [List.set_append_right _ _ (Nat.le_refl _)]
 simp
def CountsR (w : World) (p cp : Nat) (q : Option Nat) (d : DV) (sv : Value) (r : List (List Sub) × Rs) (e : Ending) (w' : World) : Prop :=
 e = .returned (.tuple #[]) ∧ ∃ svs,SuM w p cp q d svs r.1 sv r.2 w'
set_option maxRecDepth 100000 in
set_option maxHeartbeats 4000000 in
theorem counts_any (w wx : World) (p cp : Nat) (q : Option Nat) (s : Rs) (d : DV) (svs : List Value) (SL : List (List Sub)) (sv : Value) (C : SuM w p cp q d svs SL sv s wx) (hl : p < w.heap.size ∧ cp < w.heap.size) (hq : ∀ j,q = some j → j < w.heap.size) (hb : s.c.b.length ≤ 10000000) (hn : SL.length ≤ 10000000) :
   Calls Tryz.prog 109 #[.pointer (some ⟨p,0,none⟩)] wx (CountsR w p cp q d sv (countsGo SL s [])):=by
 have HLT:=Lib.hid hl
 have HLQ:=Lib.hid hq
 obtain ⟨sao,scap,rfl,-⟩:=own_outS C.own
 have hsl:=C.sm.len
 have e7 : wx.cell? ⟨p,7,none⟩ = some (.slice sao svs.length scap):=(cells9 C.rd.blk).2.2.2.2.2.2.2.1
 obtain ⟨n,hN⟩ : ∃ n,SL.length = n:=⟨_,rfl⟩
 rw [hsl,hN] at e7
 rw [hsl,hN] at C ⊢
 have HN:=Lib.hid hN
 have HSL:=Lib.hid (hsl.trans hN)
 rw [hN] at hn
 have HC:=Lib.hid C
 have HB:=Lib.hid hb
 obtain ⟨i0,hi0,hz0,hs0,hb0⟩:=info_parts info_sub
 have hnI : (n : Int) ≤ 10000000:=by omega
 clear C hl hq hsl hN hb hn
 go_enter Tryz.func109,Tryz.ntmps109
 go_wp2_with fail
 clear e7
 go_loopw [10] (fun i wr => ∃ (k : Nat) (svs' : List Value) (D : List (List Sub)) (u : Rs),k ≤ n ∧ i = .int .i64 (k : Int) ∧ D.length = k ∧ countsGo SL s [] = countsGo (SL.drop k) u D ∧ u.c.b.length ≤ 10000000 ∧ SuM w p cp q d svs' (D ++ SL.drop k) (.slice sao n scap) u wr) (fun i _ => n - (intOf i).toNat)
 case atStart => exact ⟨0,svs,[],s,Nat.zero_le _,rfl,rfl,rfl,HB.out,HC.out⟩
 case round =>
   obtain ⟨k,svs',D,u,hk,rfl,hDk,hgo,hub,CU⟩:=hrel
   have HGo:=Lib.hid hgo
   have HDk:=Lib.hid hDk
   have HCU:=Lib.hid CU
   clear hgo hDk CU
   by_cases hlt : k < n
   rotate_left
   · have hltI : ¬ (k : Int) < (n : Int):=by omega
     have HE:=Lib.hid (show countsGo SL s [] = (D ++ SL.drop k,u) by
       rw [HGo.out,show SL.drop k = [] from List.drop_of_length_le (by have:=HN.out;omega)]
       show (D,u) = (D ++ [],u)
       rw [List.append_nil])
     go_wp2_with fail
     go_end0
     exact ⟨rfl,svs',by rw [HE.out];exact HCU.out⟩
   have hltI : (k : Int) < (n : Int):=by omega
   obtain ⟨x,hx⟩:=some_get SL k (by rw [HN.out];exact hlt)
   have HDr:=Lib.hid (show SL.drop k = x :: SL.drop (k + 1) by
     obtain ⟨h1,h2⟩:=List.getElem?_eq_some_iff.1 hx
     rw [List.drop_eq_getElem_cons h1,h2])
   have HT:=Lib.hid (fun wy (R : RdAt wy p cp q u { d with ss:=.slice sao n scap }) => things_ok wy p cp q u _ R hub)
   have HTB:=Lib.hid (show u.things.2.c.b.length ≤ 10000000 by rw [things_b];exact hub)
   have HTL:=Lib.hid (Nat.le_trans (things_le u) hub)
   have HBad:=Lib.hid (countsGo_bad (x:=x) (t:=SL.drop (k + 1)) (s:=u) (D:=D))
   have HOk:=Lib.hid (countsGo_ok (x:=x) (t:=SL.drop (k + 1)) (s:=u) (D:=D))
   clear hx hub
   generalize u.things.2 = s1 at *
   generalize u.things.1 = m at *
   by_cases hz : s1.ok.k = 0
   rotate_left
   · have HK:=Lib.hid (show (s1.ok.k == 0) = false by rw [beq_eq_false_iff_ne];exact hz)
     have HCk:=Lib.hid (show s1.check (decide (m = 0)) 14 = s1.ok by unfold Rs.check;rw [if_neg (fun h => hz h.1)])
     have HE:=Lib.hid (show countsGo SL s [] = (D ++ SL.drop k,s1.ok) by
       rw [HGo.out,HDr.out,HBad.out (by rw [HCk.out,Rs.ok_ok];exact hz),HCk.out,Rs.ok_ok])
     have HOO:=Lib.hid (Rs.ok_ok s1)
     clear hz
     go_wp2_with (first
       | (have hq:=C3;go_at_call 37;refine (ok_any _ p cp q _ _ C3.rd).mono ?_;rw [HOO.out,HK.out];rintro e w4 ⟨rfl,R4,F4⟩;have C4:=C3.on2 HLT.out F4.two1 R4)
       | (have hq:=C2;go_at_call 37;refine (ok_any _ p cp q _ _ C2.rd).mono ?_;rw [HK.out];rintro e w3 ⟨rfl,R3,F3⟩;have C3:=C2.on2 HLT.out F3.two1 R3)
       | (go_at_call 100;refine (HT.out _ HCU.out.rd).mono ?_;rintro e w2 ⟨rfl,R2,F2⟩;have C2:=HCU.out.on2 HLT.out F2 R2))
     go_end0
     exact ⟨rfl,svs',by rw [HE.out];exact C4⟩
   have HK:=Lib.hid (show (s1.ok.k == 0) = true by rw [hz];rfl)
   by_cases hm : m = 0
   · have t0 : ((m : Int) == 0) = true:=by rw [beq_iff_eq];omega
     have HCk:=Lib.hid (show s1.check (decide (m = 0)) 14 = s1.ok.fail 14 by unfold Rs.check;rw [if_pos ⟨hz,by simp [hm]⟩])
     have HFK:=Lib.hid (show ((s1.ok.fail 14).k == 0) = false by rw [Rs.fail_k hz];rfl)
     have HFO:=Lib.hid (Rs.fail_ok (s:=s1.ok) (e:=14) (by decide))
     have HE:=Lib.hid (show countsGo SL s [] = (D ++ SL.drop k,s1.ok.fail 14) by
       rw [HGo.out,HDr.out,HBad.out (by rw [HCk.out,HFO.out,Rs.fail_k hz];decide),HCk.out,HFO.out])
     have HOO:=Lib.hid (Rs.ok_of_zero hz)
     clear hz hm
     go_wp2_with (first
       | (have hq:=C4;go_at_call 37;refine (ok_any _ p cp q _ _ C4.rd).mono ?_;rw [HFO.out,HFK.out];rintro e w5 ⟨rfl,R5,F5⟩;have C5:=C4.on2 HLT.out F5.two1 R5)
       | (have hq:=C3;go_at_call 38;refine (rfail_any _ p cp q _ _ 14 C3.rd).mono ?_;rintro e w4 ⟨rfl,R4,F4⟩;have C4:=C3.on2 HLT.out F4.two1 R4)
       | (have hq:=C2;go_at_call 37;refine (ok_any _ p cp q _ _ C2.rd).mono ?_;rw [HK.out];rintro e w3 ⟨rfl,R3,F3⟩;have C3:=C2.on2 HLT.out F3.two1 R3)
       | (go_at_call 100;refine (HT.out _ HCU.out.rd).mono ?_;rintro e w2 ⟨rfl,R2,F2⟩;have C2:=HCU.out.on2 HLT.out F2 R2))
     go_end0
     exact ⟨rfl,svs',by rw [HE.out];exact C5⟩
   have t0 : ((m : Int) == 0) = false:=by rw [beq_eq_false_iff_ne];omega
   have HCk:=Lib.hid (show s1.check (decide (m = 0)) 14 = s1.ok by unfold Rs.check;rw [if_neg (by simp [hm])])
   have HOO:=Lib.hid (Rs.ok_ok s1)
   have HGO2:=Lib.hid (show countsGo SL s [] = countsGo (SL.drop (k + 1)) s1.ok (D ++ [if 1 < m then List.replicate m noSub else x]) by
     rw [HGo.out,HDr.out,HOk.out (by rw [HCk.out,Rs.ok_ok];simp [hz]),HCk.out,Rs.ok_ok])
   clear hz
   by_cases h1 : 1 < m
   rotate_left
   · have t1 : ¬ (1 : Int) < (m : Int):=by omega
     rw [if_neg h1] at HGO2
     clear hm h1
     go_wp2_with (first
       | (have hq:=C3;go_at_call 37;refine (ok_any _ p cp q _ _ C3.rd).mono ?_;rw [HOO.out,HK.out];rintro e w4 ⟨rfl,R4,F4⟩;have C4:=C3.on2 HLT.out F4.two1 R4)
       | (have hq:=C2;go_at_call 37;refine (ok_any _ p cp q _ _ C2.rd).mono ?_;rw [HK.out];rintro e w3 ⟨rfl,R3,F3⟩;have C3:=C2.on2 HLT.out F3.two1 R3)
       | (go_at_call 100;refine (HT.out _ HCU.out.rd).mono ?_;rintro e w2 ⟨rfl,R2,F2⟩;have C2:=HCU.out.on2 HLT.out F2 R2))
     go_roundw
     case rel => exact ⟨k + 1,svs',D ++ [x],s1.ok,by omega,by go_num,by rw [List.length_append,HDk.out];rfl,HGO2.out,HTB.out,by have:=C4;rw [HDr.out] at this;rw [List.append_assoc];exact this⟩
     case measure => simp [intOf];omega
   have t1 : (1 : Int) < (m : Int):=by omega
   rw [if_pos h1] at HGO2
   clear hm h1
   go_upto_region 8 with (first
     | (have hq:=C3;go_at_call 37;refine (ok_any _ p cp q _ _ C3.rd).mono ?_;rw [HOO.out,HK.out];rintro e w4 ⟨rfl,R4,F4⟩;have C4:=C3.on2 HLT.out F4.two1 R4)
     | (have hq:=C2;go_at_call 37;refine (ok_any _ p cp q _ _ C2.rd).mono ?_;rw [HK.out];rintro e w3 ⟨rfl,R3,F3⟩;have C3:=C2.on2 HLT.out F3.two1 R3)
     | (go_at_call 100;refine (HT.out _ HCU.out.rd).mono ?_;rintro e w2 ⟨rfl,R2,F2⟩;have C2:=HCU.out.on2 HLT.out F2 R2))
   have C4d : SuM w p cp q d svs' (D ++ SL.drop k) (.slice sao n scap) s1.ok w4.drew:=C4.fr0 ((Fr.refl _ _).drew)
   have hsl : svs'.length = n:=by
     have h1:=C4.sm.len
     rw [List.length_append,List.length_drop,HN.out,HDk.out] at h1
     omega
   obtain ⟨g,hg⟩ : ∃ g,sao = some ⟨g,0,none⟩:=by
     rcases C4.own.2 with ⟨h1,h2⟩ | ⟨g',cap',cur,h1,-⟩
     · omega
     · injection h1 with h1 _ _;exact ⟨g',h1⟩
   subst hg
   obtain ⟨y,hy⟩:=some_get svs' k (by omega)
   have e7 : w4.drew.cell? ⟨p,7,none⟩ = some (.slice (some ⟨g,0,none⟩) n scap):=(cells9 C4d.rd.blk).2.2.2.2.2.2.2.1
   have hb' : i0.bytes * m ≤ 281474976710656:=by have:=HTL.out;rw [hb0];omega
   have HKL:=Lib.hid (show k < svs'.length by omega)
   have HY:=Lib.hid hy
   have HSt:=Lib.hid (show (D ++ SL.drop k).set k (List.replicate m noSub) = (D ++ [List.replicate m noSub]) ++ SL.drop (k + 1) by
     have:=HDk.out
     subst this
     rw [HDr.out,set_mid,List.append_assoc];rfl)
   clear C2 C3 C4 R2 R3 R4 F2 F3 F4 hq hsl hy HBad HOk HT HCU HGo HDr
   obtain ⟨w6,hrun,own6,g6⟩:=run_make_full (P:=Tryz.prog) w4.drew w4.drew.heap.size 73 89 i0 _ 3 Tryz.underlying73 hi0 hz0 hs0 .i64 .i64 m hb' (by have:=HTL.out;unfold maxLen;omega) (Nat.le_refl _)
   rw [made_sub] at own6
   obtain ⟨R6,k6,kz,C7⟩:=C4d.put HLT.out HLQ.out k HKL.out _ (List.replicate m noSub) (by rw [List.length_replicate];exact own6) g6
   rw [HY.out] at k6
   have e7b : w6.cell? ⟨p,7,none⟩ = some (.slice (some ⟨g,0,none⟩) n scap):=(cells9 R6.blk).2.2.2.2.2.2.2.1
   have HC7:=Lib.hid C7
   clear own6 g6 R6 C4d C7 hi0 hz0 hs0 hb0 hb'
   go_region
   all_goals
     go_wp2_with fail
     go_roundw
     case rel => exact ⟨k + 1,_,D ++ [List.replicate m noSub],s1.ok,by omega,by go_num,by rw [List.length_append,HDk.out];rfl,HGO2.out,HTB.out,by have:=HC7.out;rw [HSt.out] at this;exact this⟩
     case measure => simp [intOf];omega
end Go.Proofs.YtkodindajfdagaaGreatDoor
/- The reader's subs: sums handed out: plain and in memory. No condition. -/
namespace Go.Proofs.YtkodindajfdagaaGreatDoor
open Go.RowKit Go.Maps
theorem sbV_ck : ∀ (l : List Sub) (i : Nat) (y : Sub) (c : Ck),l[i]? = some y → ((sbV l).set (i * 3 + 1) (.bool c.has)).set (i * 3 + 2) (.int .u32 c.sum.toNat) = sbV (l.set i { y with ck:=c })
 | [],i,y,c,h => by simp at h
 | x :: t,0,y,c,h => by simp at h;subst h;rfl
 | x :: t,i + 1,y,c,h => by
   have ih:=sbV_ck t i y c (by simpa using h)
   rw [show (i + 1) * 3 = i * 3 + 1 + 1 + 1 by omega]
   show Value.int .u64 x.size.toNat :: Value.bool x.ck.has :: Value.int .u32 x.ck.sum.toNat :: ((sbV t).set (i * 3 + 1) (.bool c.has)).set (i * 3 + 2) (.int .u32 c.sum.toNat) = _
   rw [ih]
   rfl
theorem putCk_at {L : List (List Sub)} {i k : Nat} {l : List Sub} {y : Sub} (c : Ck) (hl : L[i]? = some l) (hy : l[k]? = some y) : putCk L (i,k) c = L.set i (l.set k { y with ck:=c }):=by
 unfold putCk
 refine List.ext_getElem? fun j => ?_
 rw [List.getElem?_modify,List.getElem?_set]
 have hi:=(List.getElem?_eq_some_iff.1 hl).1
 have hk:=(List.getElem?_eq_some_iff.1 hy).1
 by_cases e : i = j
 · subst e
   rw [if_pos rfl,if_pos hi,hl]
   simp
   refine List.ext_getElem? fun m => ?_
   rw [List.getElem?_modify,List.getElem?_set]
   by_cases e2 : k = m
   · subst e2
     rw [if_pos rfl,if_pos hk,hy]
     simp
   · rw [if_neg e2]
     simp [e2]
 · rw [if_neg e]
   simp [e]
theorem putCk_len (L : List (List Sub)) (p : Nat × Nat) (c : Ck) : (putCk L p c).length = L.length:=by simp [putCk]
theorem putCk_row (L : List (List Sub)) (p : Nat × Nat) (c : Ck) (i : Nat) : (putCk L p c)[i]?.map List.length = L[i]?.map List.length:=by
 unfold putCk
 rw [List.getElem?_modify]
 cases L[i]? with
 | none => simp
 | some l => by_cases e : p.1 = i <;> simp [e]
theorem foldCk_row : ∀ (z : List ((Nat × Nat) × Ck)) (L : List (List Sub)) (i : Nat),(z.foldl (fun M q => putCk M q.1 q.2) L)[i]?.map List.length = L[i]?.map List.length
 | [],L,i => rfl
 | a :: t,L,i => by rw [List.foldl_cons,foldCk_row t,putCk_row]
theorem giveCks_row (F : List Fol) (L : List (List Sub)) (cs : List Ck) (i : Nat) : (giveCks F L cs)[i]?.map List.length = L[i]?.map List.length:=foldCk_row _ _ _
theorem zip_take {α β : Type} : ∀ (a : List α) (b : List β) (m : Nat),a.zip (b.take m) = (a.zip b).take m
 | [],b,m => by simp
 | x :: t,[],m => by simp
 | x :: t,y :: u,0 => by simp
 | x :: t,y :: u,m + 1 => by simp [zip_take t u m]
theorem giveCks_step {F : List Fol} {L : List (List Sub)} {cs : List Ck} {j : Nat} {p : Nat × Nat} {c : Ck} (hp : (unkIx F L)[j]? = some p) (hc : cs[j]? = some c) : giveCks F L (cs.take (j + 1)) = putCk (giveCks F L (cs.take j)) p c:=by
 unfold giveCks
 rw [zip_take,zip_take]
 have hz : ((unkIx F L).zip cs)[j]? = some (p,c):=by rw [List.getElem?_zip_eq_some];exact ⟨hp,hc⟩
 rw [List.take_add_one,hz,List.foldl_append]
 rfl
theorem giveCks_nil (F : List Fol) (L : List (List Sub)) : giveCks F L [] = L:=by simp [giveCks]
theorem unkIx_at {F : List Fol} {L : List (List Sub)} {j i k : Nat} (h : (unkIx F L)[j]? = some (i,k)) : ∃ l,L[i]? = some l ∧ k < l.length:=by
 have hm:=List.mem_of_getElem? h
 unfold unkIx unkIxN at hm
 rw [List.mem_flatMap] at hm
 obtain ⟨a,-,hm⟩:=hm
 cases hF : F[a]? with
 | none => rw [hF] at hm;simp at hm
 | some x =>
   cases hL : L[a]? with
   | none => rw [hF,hL] at hm;simp at hm
   | some l =>
     rw [hF,hL] at hm
     simp only [rowIx] at hm
     split at hm
     · simp at hm
     · simp at hm
       obtain ⟨h1,h2⟩:=hm
       subst h2
       exact ⟨l,hL,h1⟩
theorem unkIxN_bound {F : List Fol} {L : List (List Sub)} {B : Nat} (h : ∀ l ∈ L,l.length ≤ B) : ∀ n,(unkIxN F L n).length ≤ n * B
 | 0 => by simp [unkIxN]
 | n + 1 => by
   have ih:=unkIxN_bound (F:=F) h n
   unfold unkIxN at ih ⊢
   rw [List.range_succ,List.flatMap_append,List.length_append]
   rw [Nat.succ_mul]
   refine Nat.add_le_add ih ?_
   simp only [List.flatMap_cons,List.flatMap_nil,List.append_nil]
   cases hF : F[n]? with
   | none => simp
   | some x =>
     cases hL : L[n]? with
     | none => simp
     | some l =>
       have:=h l (List.mem_of_getElem? hL)
       simp only [rowIx]
       split
       · simp
       · simp;exact this
theorem SuM.ck {w : World} {p cp : Nat} {q : Option Nat} {d : DV} {svs : List Value} {SL : List (List Sub)} {sv : Value} {t : Rs} {wx : World} {b m cap : Nat} (h : SuM w p cp q d svs SL sv t wx) (hl : p < w.heap.size ∧ cp < w.heap.size) (hq : ∀ j,q = some j → j < w.heap.size)
   (i : Nat) (l : List Sub) (hv : svs[i]? = some (.slice (some ⟨b,0,none⟩) m cap)) (hli : SL[i]? = some l) (k : Nat) (y : Sub) (hy : l[k]? = some y) (c : Ck) :
   (∃ u,wx.cell? ⟨b,k * 3 + 1,none⟩ = some u) ∧ (∃ u,wx.cell? ⟨b,k * 3 + 2,none⟩ = some u) ∧ (∀ j,wx.frozen? ⟨b,j,none⟩ = false) ∧ Typed wx b 89 ∧ w.heap.size ≤ b ∧ SuM w p cp q d svs (putCk SL (i,k) c) sv t ((wx.setCell ⟨b,k * 3 + 1,none⟩ (.bool c.has)).setCell ⟨b,k * 3 + 2,none⟩ (.int .u32 c.sum.toNat)):=by
 have hr:=h.sm.row i _ l hv hli
 have hk:=(List.getElem?_eq_some_iff.1 hy).1
 have hbt : Typed wx b 89:=own_typed hr b (by simp [Value.ownBlock])
 have hbw : w.heap.size ≤ b:=(own_ltS hr b rfl).1
 have hm : m = l.length:=by
   rcases hr.2 with ⟨h1,-⟩ | ⟨g',cap',cur,h1,-⟩
   · cases h1
   · injection h1 with _ h2 _
 subst hm
 have hst:=((hr.stored (k * 3 + 1) (.bool c.has)).1.stored (k * 3 + 2) (.int .u32 c.sum.toNat)).1
 rw [sbV_ck l k y c hy] at hst
 have F : Fr [b] wx ((wx.setCell ⟨b,k * 3 + 1,none⟩ (.bool c.has)).setCell ⟨b,k * 3 + 2,none⟩ (.int .u32 c.sum.toNat)):=((Fr.refl _ _).setCell (by simp) _).setCell (by simp) _
 obtain ⟨q1,q2,q3⟩:=sbV_get l k y hy
 refine ⟨⟨_,(hr.cellAt (k * 3 + 1) (by omega)).trans q2⟩,⟨_,(hr.cellAt (k * 3 + 2) (by omega)).trans q3⟩,fun j => hr.frozenAt _,hbt,hbw,own_frT h.own F (fun j hj => .inr (by rw [List.mem_singleton.1 hj];exact hbt.ne (by decide))),?_,h.rd.fr F (by simp;omega) (by simp;omega) (fun j hj => by have:=hq j hj;simp;omega),(h.fr.setCell (.inr hbw) _).setCell (.inr hbw) _⟩
 rw [putCk_at c hli hy]
 exact h.sm.inner i _ _ hv rfl F (by rw [List.length_set];exact hst)
end Go.Proofs.YtkodindajfdagaaGreatDoor
/- Contract: the reader's subs. No condition but that lengths fit. -/
namespace Go.Proofs.YtkodindajfdagaaGreatDoor
open Go.RowKit Go.Maps
def RowsIn (B : Nat) (L : List (List Sub)) : Prop:=∀ l ∈ L,1 ≤ l.length ∧ l.length ≤ B
theorem countsGo_b : ∀ (SL : List (List Sub)) (s : Rs) (D : List (List Sub)),(countsGo SL s D).2.c.b = s.c.b
 | [],s,D => rfl
 | x :: t,s,D => by
   have hs : (s.things.2.check (decide (s.things.1 = 0)) 14).ok.c.b = s.c.b:=by rw [Rs.ok_c,check_b,things_b]
   by_cases h : (s.things.2.check (decide (s.things.1 = 0)) 14).ok.k ≠ 0
   · rw [countsGo_bad h];exact hs
   · rw [countsGo_ok h,countsGo_b t];exact hs
theorem countsGo_len : ∀ (SL : List (List Sub)) (s : Rs) (D : List (List Sub)),(countsGo SL s D).1.length = D.length + SL.length
 | [],s,D => rfl
 | x :: t,s,D => by
   by_cases h : (s.things.2.check (decide (s.things.1 = 0)) 14).ok.k ≠ 0
   · rw [countsGo_bad h];simp
   · rw [countsGo_ok h,countsGo_len t];simp;omega
theorem countsGo_rows (B : Nat) : ∀ (SL : List (List Sub)) (s : Rs) (D : List (List Sub)),RowsIn B SL → RowsIn B D → s.c.b.length ≤ B → RowsIn B (countsGo SL s D).1
 | [],s,D,_,h2,_ => h2
 | x :: t,s,D,h1,h2,h3 => by
   by_cases h : (s.things.2.check (decide (s.things.1 = 0)) 14).ok.k ≠ 0
   · rw [countsGo_bad h]
     intro l hl
     rcases List.mem_append.1 hl with hl | hl
     · exact h2 l hl
     · exact h1 l hl
   · rw [countsGo_ok h]
     refine countsGo_rows B t _ _ (fun l hl => h1 l (List.mem_cons_of_mem _ hl)) (fun l hl => ?_) (by rw [Rs.ok_c,check_b,things_b];exact h3)
     rcases List.mem_append.1 hl with hl | hl
     · exact h2 l hl
     · simp at hl
       subst hl
       have:=things_le s
       split
       · simp;omega
       · exact h1 x (by simp)
theorem cutGo_b : ∀ (m left : Nat) (s : Rs) (Z : List Nat),(cutGo m left s Z).2.2.c.b = s.c.b
 | 0,left,s,Z => rfl
 | m + 1,left,s,Z => by
   have hs : (s.size.2.check (decide (left < s.size.1)) 13).ok.c.b = s.c.b:=by rw [Rs.ok_c,check_b,size_b]
   by_cases h : (s.size.2.check (decide (left < s.size.1)) 13).ok.k ≠ 0
   · rw [cutGo_bad h];exact hs
   · rw [cutGo_ok h,cutGo_b m];exact hs
theorem cutL_b (f : Folder) (l : List Sub) (s : Rs) : (cutL f l s).2.c.b = s.c.b:=cutGo_b _ _ _ _
theorem cutL_len (f : Folder) (l : List Sub) (s : Rs) : (cutL f l s).1.length = l.length:=withSizes_len _ _
theorem cutsGo_bad {x : Fol} {t : List Fol} {l : List Sub} {u D : List (List Sub)} {s : Rs} (h : s.ok.k ≠ 0) : cutsGo (x :: t) (l :: u) s D = (D ++ l :: u,s.ok):=by
 show (if _ then _ else _) = _
 rw [if_pos h]
theorem cutsGo_ok {x : Fol} {t : List Fol} {l : List Sub} {u D : List (List Sub)} {s : Rs} (h : s.ok.k = 0) : cutsGo (x :: t) (l :: u) s D = cutsGo t u (cutL x.f l s.ok).2 (D ++ [(cutL x.f l s.ok).1]):=by
 show (if _ then _ else _) = _
 rw [if_neg (by simp [h])]
theorem cutsGo_len : ∀ (F : List Fol) (L : List (List Sub)) (s : Rs) (D : List (List Sub)),(cutsGo F L s D).1.length = D.length + L.length
 | x :: t,l :: u,s,D => by
   by_cases h : s.ok.k ≠ 0
   · rw [cutsGo_bad h];simp
   · rw [cutsGo_ok (by simpa using h),cutsGo_len t u];simp;omega
 | [],L,s,D => by show (D ++ L).length = _;simp
 | x :: t,[],s,D => by show (D ++ []).length = _;simp
theorem cutsGo_b : ∀ (F : List Fol) (L : List (List Sub)) (s : Rs) (D : List (List Sub)),(cutsGo F L s D).2.c.b = s.c.b
 | x :: t,l :: u,s,D => by
   by_cases h : s.ok.k ≠ 0
   · rw [cutsGo_bad h];rfl
   · rw [cutsGo_ok (by simpa using h),cutsGo_b t u,cutL_b];rfl
 | [],L,s,D => rfl
 | x :: t,[],s,D => rfl
theorem cutsGo_rows (B : Nat) : ∀ (F : List Fol) (L : List (List Sub)) (s : Rs) (D : List (List Sub)),RowsIn B L → RowsIn B D → RowsIn B (cutsGo F L s D).1
 | x :: t,l :: u,s,D,h1,h2 => by
   by_cases h : s.ok.k ≠ 0
   · rw [cutsGo_bad h]
     intro m hm
     rcases List.mem_append.1 hm with hm | hm
     · exact h2 m hm
     · exact h1 m hm
   · rw [cutsGo_ok (by simpa using h)]
     refine cutsGo_rows B t u _ _ (fun m hm => h1 m (List.mem_cons_of_mem _ hm)) (fun m hm => ?_)
     rcases List.mem_append.1 hm with hm | hm
     · exact h2 m hm
     · simp at hm
       subst hm
       rw [cutL_len]
       exact h1 l (by simp)
 | [],L,s,D,h1,h2 => by
   intro m hm
   rcases List.mem_append.1 hm with hm | hm
   · exact h2 m hm
   · exact h1 m hm
 | x :: t,[],s,D,h1,h2 => by
   intro m hm
   rcases List.mem_append.1 hm with hm | hm
   · exact h2 m hm
   · cases hm
theorem cutGo_okk : ∀ (m left : Nat) (s : Rs) (Z : List Nat),s.ok = s → (cutGo m left s Z).2.2.ok = (cutGo m left s Z).2.2
 | 0,left,s,Z,h => h
 | m + 1,left,s,Z,h => by
   by_cases h1 : (s.size.2.check (decide (left < s.size.1)) 13).ok.k ≠ 0
   · rw [cutGo_bad h1];exact Rs.ok_ok _
   · rw [cutGo_ok h1];exact cutGo_okk m _ _ _ (Rs.ok_ok _)
theorem cutL_okk (f : Folder) (l : List Sub) (s : Rs) (h : s.ok = s) : (cutL f l s).2.ok = (cutL f l s).2:=cutGo_okk _ _ _ _ h
theorem cutsGo_stop {F : List Fol} {L D : List (List Sub)} {s : Rs} (h : s.k ≠ 0) : cutsGo F L s D = (D ++ L,s):=by
 have hs:=Rs.ok_of_bad h
 cases F with
 | nil => simp [cutsGo,hs]
 | cons x t =>
   cases L with
   | nil => simp [cutsGo,hs]
   | cons l u => rw [cutsGo_bad (by rw [hs];exact h),hs]
theorem sums_ok7 (w : World) (p cp : Nat) (q : Option Nat) (s : Rs) (d : DV) (n : Nat) (h : RdAt w p cp q s d) (hb : s.c.b.length ≤ 10000000) (hn : n ≤ 16500000000000) :
   Calls Tryz.prog 104 #[.pointer (some ⟨p,0,none⟩),.int .i64 (n : Int)] w fun e w' => (∃ v,e = .returned v ∧ Sm w' w.heap.size 68 2 v (s.sums n).1.length (ckV (s.sums n).1)) ∧ RdAt w' p cp q (s.sums n).2 d ∧ Fr [p,cp] w w':=sums_big w p cp q s d n h hb hn
def SubsR (w : World) (p cp : Nat) (q : Option Nat) (d : DV) (sv : Value) (r : List (List Sub) × Rs) (e : Ending) (w' : World) : Prop :=
 e = .returned (.tuple #[]) ∧ ∃ svs,SuM w p cp q d svs r.1 sv r.2 w'
set_option maxRecDepth 100000 in
set_option maxHeartbeats 8000000 in
theorem subs_any (w wx : World) (p cp : Nat) (q : Option Nat) (s : Rs) (d : DV) (svs : List Value) (SL : List (List Sub)) (sv : Value) (C : SuM w p cp q d svs SL sv s wx) (hl : p < w.heap.size ∧ cp < w.heap.size) (hq : ∀ j,q = some j → j < w.heap.size) (hb : s.c.b.length ≤ 4000000) (hn : SL.length ≤ 4000000)
   (lo : Nat) (rows : List FoRow) (F : List Fol) (hlo : p < lo ∧ cp < lo) (hF : FolsAt w lo d.fs rows F) (hFS : F.length = SL.length) (hok : ∀ x ∈ F,FolOK x.f) (hrow : RowsIn 4000000 SL) :
   Calls Tryz.prog 76 #[.pointer (some ⟨p,0,none⟩)] wx (SubsR w p cp q d sv (Rs.subs F SL s)):=by
 have HLT:=Lib.hid hl
 have HLQ:=Lib.hid hq
 have HLO:=Lib.hid hlo
 have HF:=Lib.hid hF
 have HOK:=Lib.hid hok
 have HBY:=Lib.hid (byte_any wx p cp q s _ C.rd (by omega))
 have HS:=Lib.hid (show Rs.subs F SL s = Rs.subsA F SL s.byte.1 s.byte.2 from rfl)
 have hb1 : s.byte.2.c.b.length ≤ 4000000:=by rw [byte_b];exact hb
 have HC:=Lib.hid C
 clear C hl hq hlo hF hok hb
 generalize s.byte.2 = s1 at *
 generalize s.byte.1 = id0 at *
 go_enter Tryz.func76,Tryz.ntmps76
 go_upto_region 0 with fail
 rename_i K0 hK0
 go_cut [2] (fun v2 wx => v2 = .int .i64 (id0 : Int) ∧ SuM w p cp q d svs SL sv s1 wx)
 case first =>
   clear hK0
   go_wp2_with (go_at_call 34;refine HBY.out.mono ?_;rintro e w1 ⟨rfl,R1,F1⟩;have C1:=HC.out.on2 HLT.out F1.two2 R1)
   go_meet
   case rel => exact ⟨rfl,C1⟩
 case rest =>
 obtain ⟨rfl,C1⟩:=hcut
 (refine hK0 _ _ ?_;clear hK0;refine wp_seq_k fun K1 hK1 => ?_)
 go_cut [2] (fun v2 wx => ∃ (svs1 : List Value) (SL1 : List (List Sub)) (id1 : Nat) (t1 : Rs),v2 = .int .i64 (id1 : Int) ∧ Rs.subs F SL s = Rs.subsB F SL1 id1 t1 ∧ SuM w p cp q d svs1 SL1 sv t1 wx ∧ F.length = SL1.length ∧ SL1.length ≤ 4000000 ∧ RowsIn 4000000 SL1 ∧ t1.c.b.length ≤ 4000000)
 case first =>
   clear hK1
   by_cases h13 : id0 = 13
   · subst h13
     by_cases hz : s1.ok.k = 0
     · have HK:=Lib.hid (show (s1.ok.k == 0) = true by rw [hz];rfl)
       have HO:=Lib.hid (Rs.ok_of_zero hz)
       have HE:=Lib.hid (show Rs.subs F SL s = Rs.subsB F (countsGo SL s1 []).1 (countsGo SL s1 []).2.byte.1 (countsGo SL s1 []).2.byte.2 by
         rw [HS.out,Rs.subsA,show s1.at (13 == 13) = (true,s1) by show ((s1.ok.k == 0),s1.ok) = _;rw [hz,Rs.ok_of_zero hz];rfl]
         simp only [if_true])
       have HCn:=Lib.hid (fun wy (Cy : SuM w p cp q d svs SL sv s1 wy) => counts_any w wy p cp q s1 d svs SL sv Cy HLT.out HLQ.out (by omega) (by omega))
       have HB1:=Lib.hid (show (countsGo SL s1 []).2.c.b.length ≤ 4000000 by rw [countsGo_b];exact hb1)
       have HB2:=Lib.hid (show (countsGo SL s1 []).2.byte.2.c.b.length ≤ 4000000 by rw [byte_b];exact HB1.out)
       have HLn:=Lib.hid (show (countsGo SL s1 []).1.length = SL.length by rw [countsGo_len];simp)
       have HRw:=Lib.hid (countsGo_rows 4000000 SL s1 [] hrow (fun l hl => by cases hl) hb1)
       have HBY2:=Lib.hid (fun wy d' (R : RdAt wy p cp q (countsGo SL s1 []).2 d') => byte_any wy p cp q _ d' R (by have:=HB1.out;omega))
       clear hz
       generalize (countsGo SL s1 []).2.byte.2 = u2 at *
       generalize (countsGo SL s1 []).2.byte.1 = id2 at *
       generalize countsGo SL s1 [] = cg at *
       obtain ⟨SL2,u1⟩:=cg
       dsimp only at HE HB1 HB2 HLn HRw HBY2
       go_wp2_with (first
         | (have hq:=C4;go_at_call 34;refine (HBY2.out _ _ C4.rd).mono ?_;rintro e w4 ⟨rfl,R4,F4⟩;have C5:=C4.on2 HLT.out F4.two2 R4)
         | (have hq:=C3;go_at_call 109;refine (HCn.out _ C3).mono ?_;rintro e w3 ⟨rfl,svs2,C4⟩)
         | (go_at_call 37;refine (ok_any _ p cp q s1 _ C1.rd).mono ?_;rw [HK.out,HO.out];rintro e w2 ⟨rfl,R2,F2⟩;have C3:=C1.on2 HLT.out F2.two1 R2))
       go_meet
       case rel => exact ⟨svs2,SL2,id2,u2,rfl,HE.out,C5,by rw [HLn.out];exact hFS,by rw [HLn.out];exact hn,HRw.out,HB2.out⟩
     · have HK:=Lib.hid (show (s1.ok.k == 0) = false by rw [beq_eq_false_iff_ne];exact hz)
       have HE:=Lib.hid (show Rs.subs F SL s = Rs.subsB F SL 13 s1.ok by
         rw [HS.out,Rs.subsA,show s1.at (13 == 13) = (false,s1.ok) by show ((s1.ok.k == 0),s1.ok) = _;rw [HK.out]]
         simp)
       clear hz
       go_wp2_with (go_at_call 37;refine (ok_any _ p cp q s1 _ C1.rd).mono ?_;rw [HK.out];rintro e w2 ⟨rfl,R2,F2⟩;have C3:=C1.on2 HLT.out F2.two1 R2)
       go_meet
       case rel => exact ⟨svs,SL,13,s1.ok,rfl,HE.out,C3,hFS,hn,hrow,hb1⟩
   · have t0 : ((id0 : Int) == 13) = false:=by rw [beq_eq_false_iff_ne];omega
     have HE:=Lib.hid (show Rs.subs F SL s = Rs.subsB F SL id0 s1 by
       rw [HS.out,Rs.subsA,show (id0 == 13) = false by rw [beq_eq_false_iff_ne];exact h13]
       simp [Rs.at_false])
     clear h13
     go_wp2_with fail
     go_meet
     case rel => exact ⟨svs,SL,id0,s1,rfl,HE.out,C1,hFS,hn,hrow,hb1⟩
 case rest =>
 clear C1 HS HC HBY hn hFS hrow hb1
 obtain ⟨svs1,SL1,id1,t1,rfl,hE,C2,hFS,hn,hrow,hb1⟩:=hcut
 have HE1:=Lib.hid hE
 clear hE
 (refine hK1 _ _ ?_;clear hK1;refine wp_seq_k fun K2 hK2 => ?_)
 go_cut [3] (fun v3 wx => v3 = .bool false ∧ SuM w p cp q d svs1 SL1 sv t1 wx)
 case first =>
   clear hK2
   go_wp2_with fail
   go_meet
   case rel => exact ⟨rfl,C2⟩
 case rest =>
 clear C2
 obtain ⟨rfl,C3⟩:=hcut
 (refine hK2 _ _ ?_;clear hK2;refine wp_seq_k fun K3 hK3 => ?_)
 have HLn1:=Lib.hid C3.sm.len
 go_cut [3,5] (fun v3 _ wx => v3 = .bool (SL1.any fun l => decide (1 < l.length)) ∧ SuM w p cp q d svs1 SL1 sv t1 wx)
 case first =>
   clear hK3
   obtain ⟨sao,scap,rfl,-⟩:=own_outS C3.own
   have e7 : wc.cell? ⟨p,7,none⟩ = some (.slice sao svs1.length scap):=(cells9 C3.rd.blk).2.2.2.2.2.2.2.1
   obtain ⟨n,hN⟩ : ∃ n,SL1.length = n:=⟨_,rfl⟩
   rw [HLn1.out,hN] at e7
   have hnI : (n : Int) ≤ 4000000:=by omega
   have HC3:=Lib.hid C3
   have HN:=Lib.hid hN
   have HN2:=Lib.hid (HLn1.out.trans hN)
   clear C3 hN
   go_wp2_with fail
   clear e7
   go_loopw [3,28] (fun v3 iv wr => ∃ (k : Nat),k ≤ n ∧ iv = .int .i64 (k : Int) ∧ v3 = .bool ((SL1.take k).any fun l => decide (1 < l.length)) ∧ wr = wc) (fun _ iv _ => n - (intOf iv).toNat)
   case atStart => exact ⟨0,Nat.zero_le _,rfl,rfl,rfl⟩
   case round =>
     obtain ⟨k,hk,rfl,rfl,rfl⟩:=hrel
     by_cases hlt : k < n
     rotate_left
     · have hltI : ¬ (k : Int) < (n : Int):=by omega
       have HE:=Lib.hid (show SL1.take k = SL1 by rw [List.take_of_length_le];have:=HN.out;omega)
       rw [HE.out]
       go_wp2_with fail
       go_meet
       case rel => exact ⟨rfl,HC3.out⟩
     have hltI : (k : Int) < (n : Int):=by omega
     obtain ⟨l,hli⟩:=some_get SL1 k (by rw [HN.out];exact hlt)
     obtain ⟨v,hv⟩:=some_get svs1 k (by rw [HN2.out];exact hlt)
     obtain ⟨vo,vc,rfl,-,-⟩:=own_outS (HC3.out.sm.row k v l hv hli)
     obtain ⟨gs,hgs⟩ : ∃ g,sao = some ⟨g,0,none⟩:=by
       rcases HC3.out.own.2 with ⟨h1,h2⟩ | ⟨g',cap',cur,h1,-⟩
       · have:=HN2.out;omega
       · injection h1 with h1 _ _;exact ⟨g',h1⟩
     subst hgs
     have cs : wr.cell? ⟨gs,k,none⟩ = some (.slice vo l.length vc):=by
       rw [HC3.out.own.cellAt k (by have:=HN2.out;omega)];exact hv
     have HTk:=Lib.hid (show ((SL1.take (k + 1)).any fun l => decide (1 < l.length)) = (((SL1.take k).any fun l => decide (1 < l.length)) || decide (1 < l.length)) by
       rw [List.take_add_one,hli,List.any_append];simp)
     clear hli hv
     cases hany : (SL1.take k).any fun l => decide (1 < l.length) with
     | true =>
       rw [hany] at HTk
       clear hany
       go_wp2_with fail
       go_roundw
       case rel => exact ⟨k + 1,by omega,by go_num,by rw [HTk.out];rfl,trivial⟩
       case measure => simp [intOf];omega
     | false =>
       rw [hany] at HTk
       clear hany
       have HTD : (decide ((1 : Int) < (l.length : Int))) = decide (1 < l.length):=by rw [decide_eq_decide];omega
       go_wp2_with fail
       go_roundw
       case rel => exact ⟨k + 1,by omega,by go_num,by rw [HTk.out,Bool.false_or,← HTD],trivial⟩
       case measure => simp [intOf];omega
 case rest =>
 clear C3
 obtain ⟨rfl,C4⟩:=hcut
 (refine hK3 _ _ ?_;clear hK3;refine wp_seq_k fun K4 hK4 => ?_)
 have HE1b:=HE1
 obtain ⟨mny,hmny⟩ : ∃ b,(SL1.any fun l => decide (1 < l.length)) = b:=⟨_,rfl⟩
 rw [Rs.subsB,hmny] at HE1
 rw [hmny]
 go_cut [2,6] (fun v2 _ wx => ∃ (SL2 : List (List Sub)) (id2 : Nat) (t2 : Rs),v2 = .int .i64 (id2 : Int) ∧ Rs.subs F SL s = Rs.subsC F SL2 id2 t2 ∧ SuM w p cp q d svs1 SL2 sv t2 wx ∧ F.length = SL2.length ∧ SL2.length ≤ 4000000 ∧ RowsIn 4000000 SL2 ∧ t2.c.b.length ≤ 4000000)
 case first =>
   clear hK4 hmny
   by_cases h9 : id1 = 9
   rotate_left
   · have t0 : ((id1 : Int) == 9) = false:=by rw [beq_eq_false_iff_ne];omega
     have hat : t1.at (id1 == 9) = (false,t1):=by rw [show (id1 == 9) = false by rw [beq_eq_false_iff_ne];exact h9];rfl
     rw [hat] at HE1
     simp only [Bool.false_eq_true,if_false] at HE1
     clear h9 hat
     cases mny with
     | false =>
       simp only [Rs.at_false,Bool.false_eq_true,if_false] at HE1
       go_wp2_with fail
       go_meet
       case rel => exact ⟨SL1,id1,t1,rfl,HE1.out,C4,hFS,hn,hrow,hb1⟩
     | true =>
       simp only [Rs.at_true] at HE1
       by_cases hz : t1.ok.k = 0
       · have HK:=Lib.hid (show (t1.ok.k == 0) = true by rw [hz];rfl)
         simp only [HK.out,if_true] at HE1
         clear hz
         go_wp2_with (first
           | (have hq:=C5;go_at_call 38;refine (rfail_any _ p cp q _ _ 5 C5.rd).mono ?_;rintro e w3 ⟨rfl,R3,F3⟩;have C6:=C5.on2 HLT.out F3.two1 R3)
           | (go_at_call 37;refine (ok_any _ p cp q t1 _ C4.rd).mono ?_;rw [HK.out];rintro e w2 ⟨rfl,R2,F2⟩;have C5:=C4.on2 HLT.out F2.two1 R2))
         go_meet
         case rel => exact ⟨SL1,id1,t1.ok.fail 5,rfl,HE1.out,C6,hFS,hn,hrow,hb1⟩
       · have HK:=Lib.hid (show (t1.ok.k == 0) = false by rw [beq_eq_false_iff_ne];exact hz)
         simp only [HK.out,Bool.false_eq_true,if_false] at HE1
         clear hz
         go_wp2_with (go_at_call 37;refine (ok_any _ p cp q t1 _ C4.rd).mono ?_;rw [HK.out];rintro e w2 ⟨rfl,R2,F2⟩;have C5:=C4.on2 HLT.out F2.two1 R2)
         go_meet
         case rel => exact ⟨SL1,id1,t1.ok,rfl,HE1.out,C5,hFS,hn,hrow,hb1⟩
   subst h9
   by_cases hz : t1.ok.k = 0
   rotate_left
   · have HK:=Lib.hid (show (t1.ok.k == 0) = false by rw [beq_eq_false_iff_ne];exact hz)
     have HOO:=Lib.hid (Rs.ok_ok t1)
     have hat : t1.at (9 == 9) = (false,t1.ok):=by show (t1.ok.k == 0,t1.ok) = _;rw [HK.out]
     rw [hat] at HE1
     simp only [Bool.false_eq_true,if_false] at HE1
     clear hz hat
     cases mny with
     | false =>
       simp only [Rs.at_false,Bool.false_eq_true,if_false] at HE1
       go_wp2_with (go_at_call 37;refine (ok_any _ p cp q t1 _ C4.rd).mono ?_;rw [HK.out];rintro e w2 ⟨rfl,R2,F2⟩;have C5:=C4.on2 HLT.out F2.two1 R2)
       go_meet
       case rel => exact ⟨SL1,9,t1.ok,rfl,HE1.out,C5,hFS,hn,hrow,hb1⟩
     | true =>
       simp only [Rs.at_true,Rs.ok_ok,HK.out,Bool.false_eq_true,if_false] at HE1
       go_wp2_with (first
         | (have hq:=C5;go_at_call 37;refine (ok_any _ p cp q _ _ C5.rd).mono ?_;rw [HOO.out,HK.out];rintro e w3 ⟨rfl,R3,F3⟩;have C6:=C5.on2 HLT.out F3.two1 R3)
         | (go_at_call 37;refine (ok_any _ p cp q t1 _ C4.rd).mono ?_;rw [HK.out];rintro e w2 ⟨rfl,R2,F2⟩;have C5:=C4.on2 HLT.out F2.two1 R2))
       go_meet
       case rel => exact ⟨SL1,9,t1.ok,rfl,HE1.out,C6,hFS,hn,hrow,hb1⟩
   have HK:=Lib.hid (show (t1.ok.k == 0) = true by rw [hz];rfl)
   have HO:=Lib.hid (Rs.ok_of_zero hz)
   have hat : t1.at (9 == 9) = (true,t1):=by show (t1.ok.k == 0,t1.ok) = _;rw [HK.out,HO.out]
   rw [hat] at HE1
   simp only [if_true] at HE1
   clear hat hz HE1b
   obtain ⟨n,hN⟩ : ∃ n,SL1.length = n:=⟨_,rfl⟩
   have HN:=Lib.hid hN
   have HNF:=Lib.hid (hFS.trans hN)
   have HNS:=Lib.hid (HLn1.out.trans hN)
   have HRow:=Lib.hid hrow
   have hnI : (n : Int) ≤ 4000000:=by omega
   have HGE:=Lib.hid (cutsGo_rows 4000000 F SL1 t1 [] hrow (fun l hl => by cases hl))
   have HGL:=Lib.hid (cutsGo_len F SL1 t1 [])
   have HGB:=Lib.hid (show (cutsGo F SL1 t1 []).2.c.b.length ≤ 4000000 by rw [cutsGo_b];exact hb1)
   clear hN hFS hn hrow
   obtain ⟨sao,scap,rfl,-⟩:=own_outS C4.own
   rw [HNS.out] at C4
   go_wp2_with (go_at_call 37;refine (ok_any _ p cp q t1 _ C4.rd).mono ?_;rw [HK.out,HO.out];rintro e w2 ⟨rfl,R2,F2⟩;have C5:=C4.on2 HLT.out F2.two1 R2)
   go_loopw [6] (fun iv wr => ∃ (k : Nat) (D : List (List Sub)) (u : Rs),k ≤ n ∧ iv = .int .i64 (k : Int) ∧ D.length = k ∧ cutsGo F SL1 t1 [] = cutsGo (F.drop k) (SL1.drop k) u D ∧ u.ok = u ∧ u.c.b.length ≤ 4000000 ∧ SuM w p cp q d svs1 (D ++ SL1.drop k) (.slice sao n scap) u wr) (fun iv _ => n - (intOf iv).toNat)
   case atStart => exact ⟨0,[],t1,Nat.zero_le _,rfl,rfl,rfl,HO.out,hb1,C5⟩
   case round =>
     obtain ⟨k,D,u,hk,rfl,hDk,hgo,huo,hub,CU⟩:=hrel
     have HGo:=Lib.hid hgo
     have HDk:=Lib.hid hDk
     have HUO:=Lib.hid huo
     have HCU:=Lib.hid CU
     clear hgo hDk huo CU C4 C5
     by_cases hz : u.k = 0
     rotate_left
     · have HK2:=Lib.hid (show (u.k == 0) = false by rw [beq_eq_false_iff_ne];exact hz)
       have HE:=Lib.hid (show cutsGo F SL1 t1 [] = (D ++ SL1.drop k,u) by rw [HGo.out,cutsGo_stop hz])
       have HBY:=Lib.hid (fun wy d' (R : RdAt wy p cp q u d') => byte_any wy p cp q _ d' R (by omega))
       rw [HE.out] at HE1 HGE HGL HGB
       clear hz
       go_wp2_with (first
         | (have hq:=C6;go_at_call 34;refine (HBY.out _ _ C6.rd).mono ?_;rintro e w4 ⟨rfl,R4,F4⟩;have C7:=C6.on2 HLT.out F4.two2 R4)
         | (go_at_call 37;refine (ok_any _ p cp q u _ HCU.out.rd).mono ?_;rw [HUO.out,HK2.out];rintro e w3 ⟨rfl,R3,F3⟩;have C6:=HCU.out.on2 HLT.out F3.two1 R3))
       go_meet
       case rel => exact ⟨D ++ SL1.drop k,_,_,rfl,HE1.out,by rw [HNS.out];exact C7,by have h1:=HGL.out;rw [h1];simp;have h2:=HNF.out;have h3:=HN.out;omega,by have h1:=HGL.out;rw [h1];simp;have h3:=HN.out;omega,HGE.out,by rw [byte_b];exact HGB.out⟩
     have HK2:=Lib.hid (show (u.k == 0) = true by rw [hz];rfl)
     have h7 : ∀ wy,SuM w p cp q d svs1 (D ++ SL1.drop k) (.slice sao n scap) u wy → wy.cell? ⟨p,7,none⟩ = some (.slice sao n scap):=fun wy Cy => (cells9 Cy.rd.blk).2.2.2.2.2.2.2.1
     have H7:=Lib.hid h7
     clear h7
     by_cases hlt : k < n
     rotate_left
     · have hltI : ¬ (k : Int) < (n : Int):=by omega
       have HE:=Lib.hid (show cutsGo F SL1 t1 [] = (D ++ SL1.drop k,u) by rw [HGo.out,show F.drop k = [] from List.drop_of_length_le (by have:=HNF.out;omega)];simp [cutsGo,HUO.out])
       have HBY:=Lib.hid (fun wy d' (R : RdAt wy p cp q u d') => byte_any wy p cp q _ d' R (by omega))
       rw [HE.out] at HE1 HGE HGL HGB
       clear hz
       go_wp2_with (first
         | (have hq:=C6;go_at_call 34;refine (HBY.out _ _ C6.rd).mono ?_;rintro e w4 ⟨rfl,R4,F4⟩;have C7:=C6.on2 HLT.out F4.two2 R4)
         | (go_at_call 37;refine (ok_any _ p cp q u _ HCU.out.rd).mono ?_;rw [HUO.out,HK2.out];rintro e w3 ⟨rfl,R3,F3⟩;have C6:=HCU.out.on2 HLT.out F3.two1 R3;have e7:=H7.out _ C6))
       go_meet
       case rel => exact ⟨D ++ SL1.drop k,_,_,rfl,HE1.out,by rw [HNS.out];exact C7,by have h1:=HGL.out;rw [h1];simp;have h2:=HNF.out;have h3:=HN.out;omega,by have h1:=HGL.out;rw [h1];simp;have h3:=HN.out;omega,HGE.out,by rw [byte_b];exact HGB.out⟩
     have hltI : (k : Int) < (n : Int):=by omega
     obtain ⟨x,hx⟩:=some_get F k (by rw [HNF.out];exact hlt)
     obtain ⟨l,hli⟩:=some_get SL1 k (by rw [HN.out];exact hlt)
     have HFd:=Lib.hid (show F.drop k = x :: F.drop (k + 1) by obtain ⟨h1,h2⟩:=List.getElem?_eq_some_iff.1 hx;rw [List.drop_eq_getElem_cons h1,h2])
     have HSd:=Lib.hid (show SL1.drop k = l :: SL1.drop (k + 1) by obtain ⟨h1,h2⟩:=List.getElem?_eq_some_iff.1 hli;rw [List.drop_eq_getElem_cons h1,h2])
     have HG2:=Lib.hid (show cutsGo F SL1 t1 [] = cutsGo (F.drop (k + 1)) (SL1.drop (k + 1)) (cutL x.f l u).2 (D ++ [(cutL x.f l u).1]) by
       rw [HGo.out,HFd.out,HSd.out,cutsGo_ok (by rw [HUO.out];exact hz),HUO.out])
     have HSe:=Lib.hid (show (D ++ SL1.drop k).set k (cutL x.f l u).1 = (D ++ [(cutL x.f l u).1]) ++ SL1.drop (k + 1) by
       have:=HDk.out
       subst this
       rw [HSd.out,set_mid,List.append_assoc];rfl)
     have hll:=HRow.out l (List.mem_of_getElem? hli)
     have HCT:=Lib.hid (fun wy (Cy : SuM w p cp q d svs1 (D ++ SL1.drop k) (.slice sao n scap) u wy) => cut_any w wy p cp q u d svs1 (D ++ SL1.drop k) (.slice sao n scap) Cy HLT.out HLQ.out (by omega) (by rw [List.length_append,List.length_drop,HDk.out,HN.out];omega) lo rows F HLO.out HF.out k x hx (HOK.out x (List.mem_of_getElem? hx)) l (by rw [HSd.out,List.getElem?_append_right (by rw [HDk.out];exact Nat.le_refl _),HDk.out,Nat.sub_self];rfl) hll.1 (by omega))
     have HUB2:=Lib.hid (show (cutL x.f l u).2.c.b.length ≤ 4000000 by rw [cutL_b];exact hub)
     have HOK2:=Lib.hid (cutL_okk x.f l u HUO.out)
     clear hx hli hll hz hub
     generalize cutL x.f l u = r at *
     obtain ⟨l2,u2⟩:=r
     dsimp only at HG2 HSe HUB2 HOK2 HCT
     go_wp2_with (first
       | (have hq:=C6;go_at_call 110;refine (HCT.out _ C6).mono ?_;rintro e w4 ⟨rfl,C7⟩)
       | (go_at_call 37;refine (ok_any _ p cp q u _ HCU.out.rd).mono ?_;rw [HUO.out,HK2.out];rintro e w3 ⟨rfl,R3,F3⟩;have C6:=HCU.out.on2 HLT.out F3.two1 R3;have e7:=H7.out _ C6))
     go_roundw
     case rel => exact ⟨k + 1,D ++ [l2],u2,by omega,by go_num,by rw [List.length_append,HDk.out];rfl,HG2.out,HOK2.out,HUB2.out,by rw [← HSe.out];exact C7⟩
     case measure => simp [intOf];omega
 case rest =>
 clear C4 hb1 hFS hn hrow HE1 HE1b hmny
 obtain ⟨SL2,id2,t2,rfl,hE,C5,hFS,hn,hrow,hb1⟩:=hcut
 have HE2:=Lib.hid hE
 clear hE
 (refine hK4 _ _ ?_;clear hK4;refine wp_seq_k fun K5 hK5 => ?_)
 go_cut [2,7,8,9] (fun v2 _ _ _ wx => ∃ (SL3 : List (List Sub)) (id3 : Nat) (t3 : Rs),v2 = .int .i64 (id3 : Int) ∧ Rs.subs F SL s = (SL3,t3.end_ id3) ∧ SuM w p cp q d svs1 SL3 sv t3 wx)
 case first =>
   clear hK5
   rw [Rs.subsC] at HE2
   by_cases h10 : id2 = 10
   rotate_left
   · have t0 : ((id2 : Int) == 10) = false:=by rw [beq_eq_false_iff_ne];omega
     have hat : t2.at (id2 == 10) = (false,t2):=by rw [show (id2 == 10) = false by rw [beq_eq_false_iff_ne];exact h10];rfl
     rw [hat] at HE2
     simp only [Bool.false_eq_true,if_false] at HE2
     clear h10 hat
     go_wp2_with fail
     go_meet
     case rel => exact ⟨SL2,id2,t2,rfl,HE2.out,C5⟩
   subst h10
   by_cases hz : t2.ok.k = 0
   rotate_left
   · have HK:=Lib.hid (show (t2.ok.k == 0) = false by rw [beq_eq_false_iff_ne];exact hz)
     have hat : t2.at (10 == 10) = (false,t2.ok):=by show (t2.ok.k == 0,t2.ok) = _;rw [HK.out]
     rw [hat] at HE2
     simp only [Bool.false_eq_true,if_false] at HE2
     clear hz hat
     go_wp2_with (go_at_call 37;refine (ok_any _ p cp q t2 _ C5.rd).mono ?_;rw [HK.out];rintro e w2 ⟨rfl,R2,F2⟩;have C6:=C5.on2 HLT.out F2.two1 R2)
     go_meet
     case rel => exact ⟨SL2,10,t2.ok,rfl,HE2.out,C6⟩
   have HK:=Lib.hid (show (t2.ok.k == 0) = true by rw [hz];rfl)
   have HO:=Lib.hid (Rs.ok_of_zero hz)
   have hat : t2.at (10 == 10) = (true,t2):=by show (t2.ok.k == 0,t2.ok) = _;rw [HK.out,HO.out]
   rw [hat] at HE2
   simp only [if_true] at HE2
   clear hat hz
   have hU : unknownN F SL2 ≤ 16500000000000:=by
     have h1:=unkIxN_bound (F:=F) (L:=SL2) (B:=4000000) (fun l hl => (hrow l hl).2) SL2.length
     have h2 : SL2.length * 4000000 ≤ 4000000 * 4000000:=Nat.mul_le_mul_right _ hn
     unfold unknownN unkIx
     omega
   have HUL:=Lib.hid (show (unkIx F SL2).length = unknownN F SL2 from rfl)
   have HUn:=Lib.hid (fun wy (Cy : SuM w p cp q d svs1 SL2 sv t2 wy) => unknown_any w wy p cp q t2 d svs1 SL2 sv Cy HLT.out (by omega) lo rows F HLO.out HF.out hFS (fun l hl => by have:=(hrow l hl).2;omega) hU)
   have HSm:=Lib.hid (fun wy d' (R : RdAt wy p cp q t2 d') => sums_ok7 wy p cp q t2 d' (unknownN F SL2) R (by omega) hU)
   have HCL:=Lib.hid (sums_len t2 (unknownN F SL2))
   have HSB:=Lib.hid (show (t2.sums (unknownN F SL2)).2.c.b.length ≤ 4000000 by rw [sums_b];exact hb1)
   have hUI : (unknownN F SL2 : Int) ≤ 16500000000000:=by omega
   have HIX:=Lib.hid (fun j i k (h : (unkIx F SL2)[j]? = some (i,k)) => unkIx_at h)
   have HLS2:=Lib.hid C5.sm.len
   clear hU hb1 hn hFS
   generalize unknownN F SL2 = U at *
   generalize (t2.sums U).2 = u1 at *
   generalize (t2.sums U).1 = cs at *
   have HCLI:=Lib.hid (show (cs.length : Int) ≤ 16500000000000 by have:=HCL.out;omega)
   go_wp2_with (first
     | (have hq:=C7;go_at_call 104;refine (HSm.out _ _ C7.rd).mono ?_;rintro e w4 ⟨⟨v,rfl,hv⟩,R4,F4⟩;have C8:=C7.on2 HLT.out F4 R4;have own4:=own_frB own3 F4 (two_lt (by have:=C6.fr.size;have:=HLT.out;omega));obtain ⟨vao,vcap,rfl,-⟩:=hv.out)
     | (have hq:=C6;go_at_call 111;refine (HUn.out _ C6).mono ?_;rintro e w3 ⟨⟨lv,rfl,own3⟩,F3⟩;have C7:=C6.fr0 F3;obtain ⟨lao,lcap,rfl,-⟩:=own_outS own3)
     | (go_at_call 37;refine (ok_any _ p cp q t2 _ C5.rd).mono ?_;rw [HK.out,HO.out];rintro e w2 ⟨rfl,R2,F2⟩;have C6:=C5.on2 HLT.out F2.two1 R2))
   have hvw : w2.heap.size ≤ w3.heap.size:=F3.size
   have hv:=hv.mono hvw
   have hw2 : w.heap.size ≤ w2.heap.size:=C6.fr.size
   clear C5 C6 C7 R2 R4 F2 F3 F4 own3 hq hvw
   go_loopw [84] (fun iv wr => ∃ (k : Nat),k ≤ cs.length ∧ iv = .int .i64 (k : Int) ∧ Sm wr w2.heap.size 68 2 (.slice vao cs.length vcap) cs.length (ckV cs) ∧ wr.ownsRow w2.heap.size 160 1 (.slice lao U lcap) U (unkV svs1 (unkIx F SL2)) ∧ SuM w p cp q d svs1 (giveCks F SL2 (cs.take k)) sv u1 wr) (fun iv _ => cs.length - (intOf iv).toNat)
   case atStart => exact ⟨0,Nat.zero_le _,rfl,hv,own4,by rw [List.take_zero,giveCks_nil];exact C8⟩
   case round =>
     obtain ⟨k,hk,rfl,hv3,ownL,CU⟩:=hrel
     have HV3:=Lib.hid hv3
     have HOwnL:=Lib.hid ownL
     have HCU:=Lib.hid CU
     clear hv own4 C8 CU
     by_cases hlt : k < cs.length
     rotate_left
     · have hltI : ¬ (k : Int) < (cs.length : Int):=by omega
       have hke : k = cs.length:=by omega
       have CE:=HCU.out
       rw [hke,List.take_length] at CE
       have HBY:=Lib.hid (byte_any wr p cp q u1 _ CE.rd (by have:=HSB.out;omega))
       go_wp2_with (go_at_call 34;refine HBY.out.mono ?_;rintro e w9 ⟨rfl,R9,F9⟩)
       go_meet
       case rel => exact ⟨_,_,_,rfl,HE2.out,CE.on2 HLT.out F9.two2 R9⟩
     have hltI : (k : Int) < (cs.length : Int):=by omega
     obtain ⟨c,hc⟩:=some_get cs k hlt
     obtain ⟨⟨i,m⟩,hix⟩:=some_get (unkIx F SL2) k (by rw [HUL.out];have:=HCL.out;omega)
     obtain ⟨l,hli,hml⟩:=HIX.out k i m hix
     have hrw:=giveCks_row F SL2 (cs.take k) i
     rw [hli] at hrw
     obtain ⟨l',hl',hll⟩:=Option.map_eq_some_iff.1 (show (giveCks F SL2 (cs.take k))[i]?.map List.length = some l.length from hrw)
     obtain ⟨y,hy⟩:=some_get l' m (by omega)
     obtain ⟨v,hvi⟩:=some_get svs1 i (by rw [HLS2.out];exact (List.getElem?_eq_some_iff.1 hli).1)
     have hri:=HCU.out.sm.row i v l' hvi hl'
     obtain ⟨b,bc,hvb⟩ : ∃ b bc,v = .slice (some ⟨b,0,none⟩) l'.length bc:=by
       rcases hri.2 with ⟨h1,h2⟩ | ⟨g',cap',cur,h1,-⟩
       · omega
       · exact ⟨g',cap',h1⟩
     subst hvb
     have CA:=HCU.out.fr0 ((Fr.refl [] wr).alloc (.cells #[.bool c.has,.int .u32 c.sum.toNat] 68))
     obtain ⟨⟨x1,n1⟩,⟨x2,n2⟩,nz,hbt,hbw,CN⟩:=CA.ck HLT.out HLQ.out i l' hvi hl' m y hy c
     have hgs:=giveCks_step (F:=F) (L:=SL2) hix hc
     rw [← hgs] at CN
     obtain ⟨x3,x4,he,-,-,ho⟩:=hv3.out
     obtain ⟨bs,os,rfl,hblo,hb,hcell⟩:=ho k hlt
     injection he with e1 e2 e3
     subst e1
     have c0 : wr.cell? ⟨bs,os + k * 2,none⟩ = some (.bool c.has):=(hcell (k * 2) (by omega)).trans (ckV_get cs k c hc).1
     have c1 : wr.cell? ⟨bs,os + k * 2 + 1,none⟩ = some (.int .u32 c.sum.toNat):=by
       have:=(hcell (k * 2 + 1) (by omega)).trans (ckV_get cs k c hc).2
       rwa [← Nat.add_assoc] at this
     have ownLA:=own_frB ownL ((Fr.refl [] wr).alloc (.cells #[.bool c.has,.int .u32 c.sum.toNat] 68)) (by simp)
     obtain ⟨gl,hgl⟩ : ∃ g,lao = some ⟨g,0,none⟩:=by
       rcases ownL.2 with ⟨h1,h2⟩ | ⟨g',cap',cur,h1,-⟩
       · have:=HCL.out;omega
       · injection h1 with h1 _ _;exact ⟨g',h1⟩
     subst hgl
     have hkU : k < U:=by have:=HCL.out;omega
     have hkUI : (k : Int) < (U : Int):=by omega
     have cl : (wr.alloc (.cells #[.bool c.has,.int .u32 c.sum.toNat] 68)).cell? ⟨gl,k,none⟩ = some (.pointer (some ⟨b,m * 3 + 1,none⟩)):=by
       rw [ownLA.cellAt k (by omega)]
       unfold unkV
       rw [List.getElem?_map,hix]
       simp [List.getD_eq_getElem?_getD,hvi,Value.ownBlock]
     have HCN:=Lib.hid CN
     have HBT:=Lib.hid hbt
     have HBW:=Lib.hid hbw
     have HLA:=Lib.hid ownLA
     clear hcell ho e2 e3 hc hix hli hml hrw hl' hll hy hvi hri CA CN hgs hv3 ownL ownLA hbt hbw
     go_wp2_with fail
     go_region
     go_wp2_with fail
     have FB : Fr [b] (wr.alloc (.cells #[.bool c.has,.int .u32 c.sum.toNat] 68)) (((wr.alloc (.cells #[.bool c.has,.int .u32 c.sum.toNat] 68)).setCell ⟨b,m * 3 + 1,none⟩ (.bool c.has)).setCell ⟨b,m * 3 + 2,none⟩ (.int .u32 c.sum.toNat)).drew:=(((Fr.refl _ _).setCell (by simp) _).setCell (by simp) _).drew
     have VF:=(HV3.out.fr0 ((Fr.refl [] wr).alloc (.cells #[.bool c.has,.int .u32 c.sum.toNat] 68))).frT FB (fun j hj => .inr (by rw [List.mem_singleton.1 hj];exact HBT.out.ne (by decide)))
     have LF:=own_frT HLA.out FB (fun j hj => .inr (by rw [List.mem_singleton.1 hj];exact HBT.out.ne (by decide)))
     have CF:=HCN.out.fr0 ((Fr.refl _ _).drew)
     go_roundw
     case rel => exact ⟨k + 1,by omega,by go_num,VF,LF,CF⟩
     case measure => simp [intOf];omega
 case rest =>
 clear C5 HE2 hFS hn hrow hb1
 obtain ⟨SL3,id3,t3,rfl,hE,C6⟩:=hcut
 have HE3:=Lib.hid hE
 clear hE
 go_wp2_with (go_at_call 72;refine (end_any _ p cp q t3 _ id3 C6.rd).mono ?_;rintro e w7 ⟨rfl,R7,F7⟩)
 go_end0
 exact ⟨rfl,svs1,by rw [HE3.out];exact C6.on2 HLT.out F7 R7⟩
end Go.Proofs.YtkodindajfdagaaGreatDoor
/- The plain reader of streams; bounds of what is read. No condition. -/
namespace Go.Proofs.YtkodindajfdagaaGreatDoor
open Go.RowKit Go.Maps
structure Strm where
 pl : Nat
 ps : List UInt64
 cs : List Ck
 fo : List Fol
 ss : List (List Sub)
def Rs.streamsC (D : Strm) (id : Nat) (s : Rs) : Strm × Rs :=
 if (s.at (id == 8)).1 then ({ D with ss:=(Rs.subs D.fo (plainL D.fo) (s.at (id == 8)).2).1 },(Rs.subs D.fo (plainL D.fo) (s.at (id == 8)).2).2.byte.2.end_ (Rs.subs D.fo (plainL D.fo) (s.at (id == 8)).2).2.byte.1)
 else ({ D with ss:=plainL D.fo },(s.at (id == 8)).2.end_ id)
def Rs.streamsB (D : Strm) (id : Nat) (s : Rs) : Strm × Rs :=
 if (s.at (id == 7)).1 then Rs.streamsC { D with fo:=(s.at (id == 7)).2.folders.1 } (s.at (id == 7)).2.folders.2.byte.1 (s.at (id == 7)).2.folders.2.byte.2
 else Rs.streamsC D id (s.at (id == 7)).2
def Rs.streamsA (id : Nat) (s : Rs) : Strm × Rs :=
 if (s.at (id == 6)).1 then Rs.streamsB ⟨(s.at (id == 6)).2.packs.1.1,(s.at (id == 6)).2.packs.1.2.1,(s.at (id == 6)).2.packs.1.2.2,[],[]⟩ (s.at (id == 6)).2.packs.2.byte.1 (s.at (id == 6)).2.packs.2.byte.2
 else Rs.streamsB ⟨0,[],[],[],[]⟩ id (s.at (id == 6)).2
def Rs.streams (s : Rs) : Strm × Rs:=Rs.streamsA s.byte.1 s.byte.2
theorem Rs.at_ne {s : Rs} {a b : Nat} (h : a ≠ b) : s.at (a == b) = (false,s):=by
 rw [show (a == b) = false by rw [beq_eq_false_iff_ne];exact h];rfl
theorem Rs.at_bad {s : Rs} {a : Nat} (h : s.ok.k ≠ 0) : s.at (a == a) = (false,s.ok):=by
 rw [show (a == a) = true by simp,Rs.at_true,beq_eq_false_iff_ne.2 h]
theorem Rs.at_ok {s : Rs} {a : Nat} (h : s.ok.k = 0) : s.at (a == a) = (true,s):=by
 rw [show (a == a) = true by simp,Rs.at_true,h,Rs.ok_of_zero h];rfl
theorem bindsGo_small : ∀ (m i n : Nat) (s : Rs) (B : List (Int × Int)),(∀ b ∈ B,0 ≤ b.2 ∧ b.2 ≤ n) → (∀ b ∈ (bindsGo m i n s B).1,0 ≤ b.2 ∧ b.2 ≤ n) ∧ (bindsGo m i n s B).1.length ≤ B.length + m
 | 0,i,n,s,B,h => ⟨h,by show B.length ≤ _;omega⟩
 | m + 1,i,n,s,B,h => by
   by_cases hz : s.ok.k = 0
   · rw [bindsGo_ok hz]
     have ih:=bindsGo_small m i n ((s.below i).2.below n).2 (B ++ [(((s.below i).1 : Int),(((s.below i).2.below n).1 : Int))]) (fun b hb => by
       rcases List.mem_append.1 hb with hb | hb
       · exact h b hb
       · simp at hb
         subst hb
         have:=below_le (s.below i).2 n
         dsimp only
         omega)
     refine ⟨ih.1,?_⟩
     have:=ih.2
     simp at this
     omega
   · rw [bindsGo_bad hz]
     exact ⟨h,by dsimp only;omega⟩
theorem folderD_binds (C : List Coder) (B : List (Int × Int)) (s : Rs) : (Rs.folderD C B s).1.binds = B:=by
 unfold Rs.folderD
 split
 · rfl
 · split <;> rfl
theorem codersGo_keep : ∀ (m : Nat) (s : Rs) (L : List Coder),s.ok.k ≠ 0 → (codersGo m s L).2.ok.k ≠ 0
 | 0,s,L,h => by show s.ok.ok.k ≠ 0;rw [Rs.ok_ok];exact h
 | m + 1,s,L,h => by
   show (if s.ok.k ≠ 0 then (L,s.ok) else _).2.ok.k ≠ 0
   rw [if_pos h]
   dsimp only
   rw [Rs.ok_ok];exact h
theorem folder_small (s : Rs) : FolOK s.folder.1:=by
 have hl:=folder_len s
 have hb : s.folder.1.binds.length ≤ 100000 ∧ ∀ b ∈ s.folder.1.binds,(Lit.int .i64 b.2).wf = true:=by
   unfold Rs.folder Rs.folderC
   rw [folderD_binds]
   by_cases h0 : (s.number.2.check (decide (s.number.1 < 1) || decide (8 < s.number.1)) 10).ok.k = 0
   · have h8 : s.number.1 ≤ 8:=by
       unfold Rs.check at h0
       split at h0
       · rename_i hc
         rw [Rs.fail_ok (by decide),Rs.fail_k hc.1] at h0
         cases h0
       · rename_i hc
         rw [Rs.ok_ok] at h0
         have h2:=fun hh => hc ⟨h0,hh⟩
         simp at h2
         omega
     obtain ⟨q1,q2⟩:=bindsGo_small (s.number.1 - 1) (insL (codersGo s.number.1 (s.number.2.check (decide (s.number.1 < 1) || decide (8 < s.number.1)) 10) []).1) s.number.1 (codersGo s.number.1 (s.number.2.check (decide (s.number.1 < 1) || decide (8 < s.number.1)) 10) []).2 [] (by simp)
     refine ⟨by rw [List.length_nil] at q2;omega,fun b hb => ?_⟩
     obtain ⟨h1,h2⟩:=q1 b hb
     exact WalkArith.wf_i64 (by omega)
   · rw [bindsGo_bad (codersGo_keep _ _ _ h0)]
     simp
 refine ⟨by omega,hb.1,?_,hb.2⟩
 rw [folder_sizes]
 simp
theorem foldersGo_small (P : Folder → Prop) (hP : ∀ s : Rs,P s.folder.1) : ∀ (m : Nat) (s : Rs) (L : List Folder),(∀ f ∈ L,P f) → ∀ f ∈ (foldersGo m s L).1,P f
 | 0,s,L,h => h
 | m + 1,s,L,h => by
   by_cases hz : s.ok.k = 0
   · rw [foldersGo_ok hz]
     refine foldersGo_small P hP m _ _ (fun f hf => ?_)
     rcases List.mem_append.1 hf with hf | hf
     · exact h f hf
     · simp at hf;subst hf;exact hP s
   · rw [foldersGo_bad hz]
     exact h
theorem foldersGo_len : ∀ (m : Nat) (s : Rs) (L : List Folder),(foldersGo m s L).1.length ≤ L.length + m
 | 0,s,L => by show L.length ≤ _;omega
 | m + 1,s,L => by
   by_cases hz : s.ok.k = 0
   · rw [foldersGo_ok hz]
     have:=foldersGo_len m s.folder.2 (L ++ [s.folder.1])
     simp at this
     omega
   · rw [foldersGo_bad hz]
     dsimp only;omega
theorem sizesFor_len : ∀ (m : Nat) (s : Rs) (S : List UInt64),(sizesFor m s S).1.length = S.length + m
 | 0,s,S => by show S.length = _;omega
 | m + 1,s,S => by
   show (sizesFor m s.size.2 (S ++ [UInt64.ofNat s.size.1])).1.length = _
   rw [sizesFor_len m]
   simp
   omega
theorem sizesGo_small (P : Folder → Prop) (hP : ∀ f S,P f → S.length = f.coders.length → P { f with sizes:=S }) : ∀ (L : List Folder) (s : Rs) (D : List Folder),(∀ f ∈ L,P f) → (∀ f ∈ D,P f) → ∀ f ∈ (sizesGo L s D).1,P f
 | [],s,D,_,h => h
 | x :: t,s,D,h1,h2 => by
   by_cases hz : s.ok.k = 0
   · rw [sizesGo_ok hz]
     refine sizesGo_small P hP t _ _ (fun f hf => h1 f (List.mem_cons_of_mem _ hf)) (fun f hf => ?_)
     rcases List.mem_append.1 hf with hf | hf
     · exact h2 f hf
     · simp at hf
       subst hf
       exact hP x _ (h1 x (by simp)) (by rw [sizesFor_len];simp)
   · rw [sizesGo_bad hz]
     intro f hf
     rcases List.mem_append.1 hf with hf | hf
     · exact h2 f hf
     · exact h1 f hf
theorem sizesGo_len : ∀ (L : List Folder) (s : Rs) (D : List Folder),(sizesGo L s D).1.length = D.length + L.length
 | [],s,D => by show D.length = _;simp
 | x :: t,s,D => by
   by_cases hz : s.ok.k = 0
   · rw [sizesGo_ok hz,sizesGo_len t]
     simp
     omega
   · rw [sizesGo_bad hz]
     simp
theorem withCks_len (L : List Folder) (cs : List Ck) : (withCks L cs).length = L.length:=by simp [withCks]
theorem withCks_mem {L : List Folder} {cs : List Ck} {x : Fol} (h : x ∈ withCks L cs) : x.f ∈ L:=by
 unfold withCks at h
 rw [List.mem_mapIdx] at h
 obtain ⟨i,hi,rfl⟩:=h
 exact List.getElem_mem hi
theorem foldersB_fst (L : List Folder) (n id : Nat) (s : Rs) : ∃ cs,(Rs.foldersB L n id s).1 = withCks L cs:=by
 unfold Rs.foldersB
 split
 · exact ⟨_,rfl⟩
 · exact ⟨_,rfl⟩
theorem folders_small (s : Rs) : (∀ x ∈ s.folders.1,FolOK x.f) ∧ s.folders.1.length ≤ s.c.b.length:=by
 unfold Rs.folders Rs.foldersA
 obtain ⟨cs,hcs⟩:=foldersB_fst (sizesGo (foldersGo (s.must 11).things.1 (s.must 11).things.2.inside []).1 ((foldersGo (s.must 11).things.1 (s.must 11).things.2.inside []).2.must 12) []).1 (s.must 11).things.1 (sizesGo (foldersGo (s.must 11).things.1 (s.must 11).things.2.inside []).1 ((foldersGo (s.must 11).things.1 (s.must 11).things.2.inside []).2.must 12) []).2.byte.1 (sizesGo (foldersGo (s.must 11).things.1 (s.must 11).things.2.inside []).1 ((foldersGo (s.must 11).things.1 (s.must 11).things.2.inside []).2.must 12) []).2.byte.2
 rw [hcs]
 refine ⟨fun x hx => ?_,?_⟩
 · exact sizesGo_small FolOK (fun f S h hS => ⟨h.1,h.2.1,by show S.length ≤ _;have:=h.1;omega,h.2.2.2⟩) _ _ _ (foldersGo_small FolOK folder_small _ _ _ (by simp)) (by simp) x.f (withCks_mem hx)
 · rw [withCks_len,sizesGo_len]
   have h1:=foldersGo_len (s.must 11).things.1 (s.must 11).things.2.inside []
   have h2:=things_le (s.must 11)
   rw [must_b] at h2
   simp at h1 ⊢
   omega
theorem subsC_b (F : List Fol) (L : List (List Sub)) (id : Nat) (s : Rs) : (Rs.subsC F L id s).2.c.b = s.c.b:=by
 unfold Rs.subsC
 split
 · rw [end_b,byte_b,sums_b,Rs.at_c]
 · rw [end_b,Rs.at_c]
theorem subsB_b (F : List Fol) (L : List (List Sub)) (id : Nat) (s : Rs) : (Rs.subsB F L id s).2.c.b = s.c.b:=by
 unfold Rs.subsB
 split
 · rw [subsC_b,byte_b,cutsGo_b,Rs.at_c]
 · rw [subsC_b]
   split
   · rw [Rs.fail_c,Rs.at_c,Rs.at_c]
   · rw [Rs.at_c,Rs.at_c]
theorem subs_b (F : List Fol) (L : List (List Sub)) (s : Rs) : (Rs.subs F L s).2.c.b = s.c.b:=by
 unfold Rs.subs Rs.subsA
 split
 · rw [subsB_b,byte_b,countsGo_b,Rs.at_c,byte_b]
 · rw [subsB_b,Rs.at_c,byte_b]
def Rs.sumOf (s : Rs) (sum : Nat) : Rs:=if s.size.2.k = 0 ∧ 1099511627776 < sum + s.size.1 then s.size.2.fail 7 else s.size.2
theorem sumOf_b (s : Rs) (sum : Nat) : (s.sumOf sum).c.b = s.c.b:=by
 unfold Rs.sumOf
 split
 · rw [Rs.fail_c,size_b]
 · rw [size_b]
theorem packsGo_bad {s : Rs} {sum m : Nat} {P : List UInt64} (h : (s.sumOf sum).k ≠ 0) : packsGo (m + 1) sum s P = (true,P,s.sumOf sum):=by
 show (if (s.sumOf sum).k ≠ 0 then (true,P,s.sumOf sum) else _) = _
 rw [if_pos h]
theorem packsGo_ok {s : Rs} {sum m : Nat} {P : List UInt64} (h : ¬ (s.sumOf sum).k ≠ 0) : packsGo (m + 1) sum s P = packsGo m (sum + s.size.1) s.size.2 (P ++ [UInt64.ofNat s.size.1]):=by
 show (if (s.sumOf sum).k ≠ 0 then (true,P,s.sumOf sum) else _) = _
 rw [if_neg h]
theorem packsGo_b : ∀ (n m : Nat) (s : Rs) (P : List UInt64),(packsGo n m s P).2.2.c.b = s.c.b
 | 0,m,s,P => rfl
 | n + 1,m,s,P => by
   by_cases h : (s.sumOf m).k ≠ 0
   · rw [packsGo_bad h];exact sumOf_b s m
   · rw [packsGo_ok h,packsGo_b n,size_b]
theorem packsEnd_b (P : List UInt64) (n id : Nat) (s : Rs) : (Rs.packsEnd P n id s).2.c.b = s.c.b:=by
 unfold Rs.packsEnd
 split
 · rw [end_b,byte_b,sums_b,Rs.at_c]
 · rw [end_b,Rs.at_c]
theorem packsA_b (n id pl : Nat) (s : Rs) : (Rs.packsA n id pl s).2.c.b = s.c.b:=by
 unfold Rs.packsA
 split
 · split
   · rw [packsGo_b,Rs.at_c]
   · rw [packsEnd_b,byte_b,packsGo_b,Rs.at_c]
 · rw [packsEnd_b]
   split
   · rw [Rs.fail_c,Rs.at_c,Rs.at_c]
   · rw [Rs.at_c,Rs.at_c]
theorem packs_b (s : Rs) : s.packs.2.c.b = s.c.b:=by
 unfold Rs.packs
 rw [packsA_b,byte_b,things_b,size_b]
theorem folders_b (s : Rs) : s.folders.2.c.b = s.c.b:=by
 have hf : ∀ (m : Nat) (s : Rs) (L : List Folder),(foldersGo m s L).2.c.b = s.c.b:=fun m => by
   induction m with
   | zero => intro s L;rfl
   | succ m ih =>
     intro s L
     by_cases hz : s.ok.k = 0
     · rw [foldersGo_ok hz,ih,folder_b]
     · rw [foldersGo_bad hz];rfl
 have hs : ∀ (L : List Folder) (s : Rs) (D : List Folder),(sizesGo L s D).2.c.b = s.c.b:=fun L => by
   induction L with
   | nil => intro s D;rfl
   | cons x t ih =>
     intro s D
     by_cases hz : s.ok.k = 0
     · rw [sizesGo_ok hz,ih,sizesFor_b]
     · rw [sizesGo_bad hz];rfl
 unfold Rs.folders Rs.foldersA Rs.foldersB
 split
 · rw [end_b,byte_b,sums_b,Rs.at_c,byte_b,hs,must_b,hf,inside_b,things_b,must_b]
 · rw [end_b,Rs.at_c,byte_b,hs,must_b,hf,inside_b,things_b,must_b]
theorem streamsC_b (D : Strm) (id : Nat) (s : Rs) : (Rs.streamsC D id s).2.c.b = s.c.b:=by
 unfold Rs.streamsC
 split
 · rw [end_b,byte_b,subs_b,Rs.at_c]
 · rw [end_b,Rs.at_c]
theorem streamsB_b (D : Strm) (id : Nat) (s : Rs) : (Rs.streamsB D id s).2.c.b = s.c.b:=by
 unfold Rs.streamsB
 split
 · rw [streamsC_b,byte_b,folders_b,Rs.at_c]
 · rw [streamsC_b,Rs.at_c]
theorem streams_b (s : Rs) : s.streams.2.c.b = s.c.b:=by
 unfold Rs.streams Rs.streamsA
 split
 · rw [streamsB_b,byte_b,packs_b,Rs.at_c,byte_b]
 · rw [streamsB_b,Rs.at_c,byte_b]
theorem own_monoM {w : World} {base base' e m : Nat} {v : Value} {n : Nat} {xs : List Value} (h : w.ownsRow base e m v n xs) (hb : base' ≤ base) : w.ownsRow base' e m v n xs:=by
 refine ⟨h.1,?_⟩
 rcases h.2 with hn | ⟨g,cap,cur,rfl,hb',rest⟩
 · exact .inl hn
 · exact .inr ⟨g,cap,cur,rfl,by omega,rest⟩
theorem RowM.mono {w : World} {lo lo' : Nat} {r : FoRow} {x : Fol} (h : RowM w lo r x) (hl : lo' ≤ lo) : RowM w lo' r x:=by
 obtain ⟨LP,h1,h2,h3⟩:=h.co
 exact ⟨⟨LP,h1,h2.mono hl,fun c hc => (h3 c hc).mono hl⟩,h.bi.mono hl,h.pa.mono hl,h.si.mono hl,h.has,h.sum⟩
theorem FolsAt.mono {w : World} {lo lo' : Nat} {fv : Value} {rows : List FoRow} {L : List Fol} (h : FolsAt w lo fv rows L) (hl : lo' ≤ lo) : FolsAt w lo' fv rows L :=
 ⟨own_monoM h.own hl,⟨h.rw.len,fun i r x h1 h2 => (h.rw.row i r x h1 h2).mono hl⟩⟩
theorem SubsM.mono {w : World} {lo lo' : Nat} {svs : List Value} {L : List (List Sub)} (h : SubsM w lo svs L) (hl : lo' ≤ lo) : SubsM w lo' svs L :=
 ⟨h.len,fun i v l h1 h2 => own_monoM (h.row i v l h1 h2) hl,h.dis⟩
structure StM (w : World) (p cp : Nat) (q : Option Nat) (d : DV) (psv csv fv sv : Value) (rows : List FoRow) (svs : List Value) (D : Strm) (t : Rs) (wx : World) : Prop where
 rd : RdAt wx p cp q t { d with pl:=.int .u64 (D.pl : Int),ps:=psv,cs:=csv,fs:=fv,ss:=sv }
 ps : Sm wx w.heap.size 31 1 psv D.ps.length (u64v D.ps)
 cs : Sm wx w.heap.size 68 2 csv D.cs.length (ckV D.cs)
 fo : FolsAt wx w.heap.size fv rows D.fo
 ss : wx.ownsRow w.heap.size 73 1 sv svs.length svs
 sm : SubsM wx w.heap.size svs D.ss
 fr : Fr [p,cp] w wx
theorem StM.on2 {w : World} {p cp : Nat} {q : Option Nat} {d : DV} {psv csv fv sv : Value} {rows : List FoRow} {svs : List Value} {D : Strm} {t t' : Rs} {wx wy : World} (h : StM w p cp q d psv csv fv sv rows svs D t wx) (hl : p < w.heap.size ∧ cp < w.heap.size) (F : Fr [p,cp] wx wy) (R : RdAt wy p cp q t' { d with pl:=.int .u64 (D.pl : Int),ps:=psv,cs:=csv,fs:=fv,ss:=sv }) : StM w p cp q d psv csv fv sv rows svs D t' wy :=
 ⟨R,h.ps.two F hl.1 hl.2,h.cs.two F hl.1 hl.2,h.fo.fr F (two_lt hl),own_frB h.ss F (two_lt hl),h.sm.frT F (fun i hi => .inl (two_lt hl i hi)),h.fr.tr2 F⟩
end Go.Proofs.YtkodindajfdagaaGreatDoor
/- Contract: the reader's streams. No condition but that lengths fit. -/
namespace Go.Proofs.YtkodindajfdagaaGreatDoor
open Go.RowKit Go.Maps
def StreamsR (w : World) (p cp : Nat) (q : Option Nat) (d : DV) (r : Strm × Rs) (e : Ending) (w' : World) : Prop :=
 e = .returned (.tuple #[]) ∧ ∃ psv csv fv sv rows svs,StM w p cp q d psv csv fv sv rows svs r.1 r.2 w'
theorem packs_ok (w : World) (p cp : Nat) (q : Option Nat) (s : Rs) (d : DV) (h : RdAt w p cp q s d) (hb : s.c.b.length ≤ 10000000) (hps : d.ps = .slice none 0 0) (hcs : d.cs = .slice none 0 0) :
   Calls Tryz.prog 73 #[.pointer (some ⟨p,0,none⟩)] w fun e w' => e = .returned (.tuple #[]) ∧ (∃ ps cs,RdAt w' p cp q s.packs.2 { d with pl:=.int .u64 (s.packs.1.1 : Int),ps:=ps,cs:=cs } ∧ Sm w' w.heap.size 31 1 ps s.packs.1.2.1.length (u64v s.packs.1.2.1) ∧ Sm w' w.heap.size 68 2 cs s.packs.1.2.2.length (ckV s.packs.1.2.2)) ∧ Fr [p,cp] w w':=packs_any w p cp q s d h hb hps hcs
theorem folders_ok (w : World) (p cp : Nat) (q : Option Nat) (s : Rs) (d : DV) (h : RdAt w p cp q s d) (hb : s.c.b.length ≤ 10000000) (hfs : d.fs = .slice none 0 0) :
   Calls Tryz.prog 74 #[.pointer (some ⟨p,0,none⟩)] w fun e w' => e = .returned (.tuple #[]) ∧ ∃ rows fv,FsM w p cp q d rows s.folders.1 fv s.folders.2 w':=folders_any w p cp q s d h hb hfs
theorem subs_ok (w wx : World) (p cp : Nat) (q : Option Nat) (s : Rs) (d : DV) (svs : List Value) (SL : List (List Sub)) (sv : Value) (C : SuM w p cp q d svs SL sv s wx) (hl : p < w.heap.size ∧ cp < w.heap.size) (hq : ∀ j,q = some j → j < w.heap.size) (hb : s.c.b.length ≤ 4000000) (hn : SL.length ≤ 4000000)
   (lo : Nat) (rows : List FoRow) (F : List Fol) (hlo : p < lo ∧ cp < lo) (hF : FolsAt w lo d.fs rows F) (hFS : F.length = SL.length) (hok : ∀ x ∈ F,FolOK x.f) (hrow : RowsIn 4000000 SL) :
   Calls Tryz.prog 76 #[.pointer (some ⟨p,0,none⟩)] wx fun e w' => e = .returned (.tuple #[]) ∧ ∃ svs,SuM w p cp q d svs (Rs.subs F SL s).1 sv (Rs.subs F SL s).2 w':=subs_any w wx p cp q s d svs SL sv C hl hq hb hn lo rows F hlo hF hFS hok hrow
theorem FolsAt.nil (w : World) (lo : Nat) : FolsAt w lo (.slice none 0 0) [] []:=⟨World.ownsRow_nil _ _ _ _,RowsM.nil _ _⟩
set_option maxRecDepth 100000 in
set_option maxHeartbeats 8000000 in
theorem streams_any (w : World) (p cp : Nat) (q : Option Nat) (s : Rs) (d : DV) (h : RdAt w p cp q s d) (hb : s.c.b.length ≤ 4000000)
   (h0 : d.pl = .int .u64 0 ∧ d.ps = .slice none 0 0 ∧ d.cs = .slice none 0 0 ∧ d.fs = .slice none 0 0 ∧ d.ss = .slice none 0 0) :
   Calls Tryz.prog 36 #[.pointer (some ⟨p,0,none⟩)] w (StreamsR w p cp q d s.streams):=by
 obtain ⟨pk,pl0,ps0,cs0,fs0,ss0,es⟩:=d
 obtain ⟨rfl,rfl,rfl,rfl,rfl⟩:=h0
 obtain ⟨d,hd⟩ : ∃ d : DV,d = ⟨pk,.int .u64 0,.slice none 0 0,.slice none 0 0,.slice none 0 0,.slice none 0 0,es⟩:=⟨_,rfl⟩
 rw [← hd] at h ⊢
 have HDE:=Lib.hid hd
 have HLT:=Lib.hid (And.intro h.lt h.cur.lt)
 have HLQ:=Lib.hid h.ql
 have HR0:=Lib.hid h
 have HB:=Lib.hid hb
 have HBY:=Lib.hid (byte_any w p cp q s d h (by omega))
 have HS:=Lib.hid (show s.streams = Rs.streamsA s.byte.1 s.byte.2 from rfl)
 have HB1:=Lib.hid (show s.byte.2.c.b.length ≤ 4000000 by rw [byte_b];exact hb)
 have HD0:=Lib.hid (show d.pl = .int .u64 0 ∧ d.ps = .slice none 0 0 ∧ d.cs = .slice none 0 0 ∧ d.fs = .slice none 0 0 ∧ d.ss = .slice none 0 0 by rw [hd];exact ⟨rfl,rfl,rfl,rfl,rfl⟩)
 clear h hb hd
 generalize s.byte.2 = s1 at *
 generalize s.byte.1 = id0 at *
 go_enter Tryz.func36,Tryz.ntmps36
 go_upto_region 0 with fail
 rename_i K0 hK0
 go_cut [2] (fun v2 wx => v2 = .int .i64 (id0 : Int) ∧ RdAt wx p cp q s1 d ∧ Fr [p,cp] w wx)
 case first =>
   clear hK0
   go_wp2_with (go_at_call 34;refine HBY.out.mono ?_;rintro e w1 ⟨rfl,R1,F1⟩)
   go_meet
   case rel => exact ⟨rfl,R1,F1.two2⟩
 case rest =>
 obtain ⟨rfl,R1,F1⟩:=hcut
 (refine hK0 _ _ ?_;clear hK0;refine wp_seq_k fun K1 hK1 => ?_)
 go_cut [2] (fun v2 wx => ∃ (psv csv : Value) (D : Strm) (id1 : Nat) (t1 : Rs),v2 = .int .i64 (id1 : Int) ∧ D.fo = [] ∧ D.ss = [] ∧ s.streams = Rs.streamsB D id1 t1 ∧ t1.c.b.length ≤ 4000000 ∧ StM w p cp q d psv csv (.slice none 0 0) (.slice none 0 0) [] [] D t1 wx)
 case first =>
   clear hK1
   have C0 : ∀ wx t,RdAt wx p cp q t d → Fr [p,cp] w wx → StM w p cp q d (.slice none 0 0) (.slice none 0 0) (.slice none 0 0) (.slice none 0 0) [] [] ⟨0,[],[],[],[]⟩ t wx:=fun wx t R F =>
     ⟨by have:=HDE.out;subst this;exact R,Sm.nil _ _ _ _,Sm.nil _ _ _ _,FolsAt.nil _ _,World.ownsRow_nil _ _ _ _,SubsM.nil _ _,F⟩
   have HC0:=Lib.hid C0
   clear C0
   by_cases h6 : id0 = 6
   rotate_left
   · have t0 : ((id0 : Int) == 6) = false:=by rw [beq_eq_false_iff_ne];omega
     have HE:=Lib.hid (show s.streams = Rs.streamsB ⟨0,[],[],[],[]⟩ id0 s1 by
       rw [HS.out,Rs.streamsA,Rs.at_ne h6];simp)
     clear h6
     go_wp2_with fail
     go_meet
     case rel => exact ⟨_,_,_,id0,s1,rfl,rfl,rfl,HE.out,HB1.out,HC0.out _ _ R1 F1⟩
   subst h6
   by_cases hz : s1.ok.k = 0
   rotate_left
   · have HK:=Lib.hid (show (s1.ok.k == 0) = false by rw [beq_eq_false_iff_ne];exact hz)
     have HE:=Lib.hid (show s.streams = Rs.streamsB ⟨0,[],[],[],[]⟩ 6 s1.ok by
       rw [HS.out,Rs.streamsA,Rs.at_bad hz];simp)
     clear hz
     go_wp2_with (go_at_call 37;refine (ok_any _ p cp q s1 _ R1).mono ?_;rw [HK.out];rintro e w2 ⟨rfl,R2,F2⟩)
     go_meet
     case rel => exact ⟨_,_,_,6,s1.ok,rfl,rfl,rfl,HE.out,HB1.out,HC0.out _ _ R2 (F1.tr2 F2.two1)⟩
   have HK:=Lib.hid (show (s1.ok.k == 0) = true by rw [hz];rfl)
   have HO:=Lib.hid (Rs.ok_of_zero hz)
   have HE:=Lib.hid (show s.streams = Rs.streamsB ⟨s1.packs.1.1,s1.packs.1.2.1,s1.packs.1.2.2,[],[]⟩ s1.packs.2.byte.1 s1.packs.2.byte.2 by
     rw [HS.out,Rs.streamsA,Rs.at_ok hz];simp)
   have HP:=Lib.hid (fun wy (R : RdAt wy p cp q s1 d) => packs_ok wy p cp q s1 d R (by have:=HB1.out;omega) HD0.out.2.1 HD0.out.2.2.1)
   have HPB:=Lib.hid (show s1.packs.2.c.b.length ≤ 4000000 by rw [packs_b];exact HB1.out)
   have HPB2:=Lib.hid (show s1.packs.2.byte.2.c.b.length ≤ 4000000 by rw [byte_b];exact HPB.out)
   have HBY2:=Lib.hid (fun wy d' (R : RdAt wy p cp q s1.packs.2 d') => byte_any wy p cp q _ d' R (by have:=HPB.out;omega))
   clear hz
   generalize s1.packs.2.byte.2 = u2 at *
   generalize s1.packs.2.byte.1 = id2 at *
   generalize s1.packs = r at *
   obtain ⟨⟨pl,P,Cs⟩,u1⟩:=r
   dsimp only at HE HP HPB HBY2
   go_wp2_with (first
     | (have hq:=R3;go_at_call 34;refine (HBY2.out _ _ R3).mono ?_;rintro e w4 ⟨rfl,R4,F4⟩)
     | (have hq:=R2;go_at_call 73;refine (HP.out _ R2).mono ?_;rintro e w3 ⟨rfl,⟨ps,cs,R3,hps,hcs⟩,F3⟩)
     | (go_at_call 37;refine (ok_any _ p cp q s1 _ R1).mono ?_;rw [HK.out,HO.out];rintro e w2 ⟨rfl,R2,F2⟩))
   have FA:=F1.tr2 F2.two1
   have hsz : w.heap.size ≤ w2.heap.size:=FA.size
   have hps':=hps.mono hsz
   have hcs':=hcs.mono hsz
   go_meet
   case rel => exact ⟨ps,cs,⟨pl,P,Cs,[],[]⟩,id2,u2,rfl,rfl,rfl,HE.out,HPB2.out,
     ⟨by have:=HDE.out;subst this;exact R4,hps'.two F4.two2 HLT.out.1 HLT.out.2,hcs'.two F4.two2 HLT.out.1 HLT.out.2,FolsAt.nil _ _,World.ownsRow_nil _ _ _ _,SubsM.nil _ _,(FA.tr2 F3).tr2 F4.two2⟩⟩
 case rest =>
 clear R1 F1 HS
 obtain ⟨psv,csv,D,id1,t1,rfl,hDf,hDs,hE,htb,C1⟩:=hcut
 have HE1:=Lib.hid hE
 clear hE
 (refine hK1 _ _ ?_;clear hK1;refine wp_seq_k fun K2 hK2 => ?_)
 go_cut [2] (fun v2 wx => ∃ (fv : Value) (rows : List FoRow) (D2 : Strm) (id2 : Nat) (t2 : Rs),v2 = .int .i64 (id2 : Int) ∧ D2.ss = [] ∧ (∀ x ∈ D2.fo,FolOK x.f) ∧ D2.fo.length ≤ 4000000 ∧ s.streams = Rs.streamsC D2 id2 t2 ∧ t2.c.b.length ≤ 4000000 ∧ StM w p cp q d psv csv fv (.slice none 0 0) rows [] D2 t2 wx)
 case first =>
   clear hK2
   by_cases h7 : id1 = 7
   rotate_left
   · have t0 : ((id1 : Int) == 7) = false:=by rw [beq_eq_false_iff_ne];omega
     have HE:=Lib.hid (show s.streams = Rs.streamsC D id1 t1 by
       rw [HE1.out,Rs.streamsB,Rs.at_ne h7];simp)
     clear h7
     go_wp2_with fail
     go_meet
     case rel => exact ⟨_,_,D,id1,t1,rfl,hDs,by rw [hDf];simp,by rw [hDf];simp,HE.out,htb,C1⟩
   subst h7
   by_cases hz : t1.ok.k = 0
   rotate_left
   · have HK:=Lib.hid (show (t1.ok.k == 0) = false by rw [beq_eq_false_iff_ne];exact hz)
     have HE:=Lib.hid (show s.streams = Rs.streamsC D 7 t1.ok by
       rw [HE1.out,Rs.streamsB,Rs.at_bad hz];simp)
     clear hz
     go_wp2_with (go_at_call 37;refine (ok_any _ p cp q t1 _ C1.rd).mono ?_;rw [HK.out];rintro e w2 ⟨rfl,R2,F2⟩;have C2:=C1.on2 HLT.out F2.two1 R2)
     go_meet
     case rel => exact ⟨_,_,D,7,t1.ok,rfl,hDs,by rw [hDf];simp,by rw [hDf];simp,HE.out,htb,C2⟩
   have HK:=Lib.hid (show (t1.ok.k == 0) = true by rw [hz];rfl)
   have HO:=Lib.hid (Rs.ok_of_zero hz)
   have HE:=Lib.hid (show s.streams = Rs.streamsC { D with fo:=t1.folders.1 } t1.folders.2.byte.1 t1.folders.2.byte.2 by
     rw [HE1.out,Rs.streamsB,Rs.at_ok hz];simp)
   have HP:=Lib.hid (fun wy d' (R : RdAt wy p cp q t1 d') => folders_ok wy p cp q t1 d' R (by omega))
   have HPB:=Lib.hid (show t1.folders.2.c.b.length ≤ 4000000 by rw [folders_b];exact htb)
   have HPB2:=Lib.hid (show t1.folders.2.byte.2.c.b.length ≤ 4000000 by rw [byte_b];exact HPB.out)
   have HBY2:=Lib.hid (fun wy d' (R : RdAt wy p cp q t1.folders.2 d') => byte_any wy p cp q _ d' R (by have:=HPB.out;omega))
   have HFS:=Lib.hid (folders_small t1)
   have HTB:=Lib.hid htb
   clear hz htb
   generalize t1.folders.2.byte.2 = u2 at *
   generalize t1.folders.2.byte.1 = id2 at *
   generalize t1.folders = r at *
   obtain ⟨L,u1⟩:=r
   dsimp only at HE HP HPB HBY2 HFS
   go_wp2_with (first
     | (have hq:=C3;go_at_call 34;refine (HBY2.out _ _ C3.rd).mono ?_;rintro e w4 ⟨rfl,R4,F4⟩)
     | (have hq:=C2;go_at_call 74;refine (HP.out _ _ C2.rd rfl).mono ?_;rintro e w3 ⟨rfl,rows,fv,C3⟩)
     | (go_at_call 37;refine (ok_any _ p cp q t1 _ C1.rd).mono ?_;rw [HK.out,HO.out];rintro e w2 ⟨rfl,R2,F2⟩;have C2:=C1.on2 HLT.out F2.two1 R2))
   have hsz : w.heap.size ≤ w2.heap.size:=C2.fr.size
   have FA:=C3.fr.tr2 F4.two2
   have hFo : FolsAt w4 w.heap.size fv rows L:=((FolsAt.mk C3.own C3.rw).mono hsz).fr F4.two2 (two_lt HLT.out)
   go_meet
   case rel => exact ⟨fv,rows,{ D with fo:=L },id2,u2,rfl,hDs,HFS.out.1,Nat.le_trans HFS.out.2 HTB.out,HE.out,HPB2.out,
     ⟨R4,C2.ps.two FA HLT.out.1 HLT.out.2,C2.cs.two FA HLT.out.1 HLT.out.2,hFo,World.ownsRow_nil _ _ _ _,by rw [show ({ D with fo:=L } : Strm).ss = [] from hDs];exact SubsM.nil _ _,C2.fr.tr2 FA⟩⟩
 case rest =>
 clear C1 HE1
 obtain ⟨fv,rows,D2,id2,t2,rfl,hDs2,hok,hfl,hE,htb,C2⟩:=hcut
 have HE2:=Lib.hid hE
 have HOK:=Lib.hid hok
 clear hE hDs hDf
 (refine hK2 _ _ ?_;clear hK2;refine wp_seq_k fun K3 hK3 => ?_)
 have hszc : w.heap.size ≤ wc.heap.size:=C2.fr.size
 have HLT2:=Lib.hid (show p < wc.heap.size ∧ cp < wc.heap.size by have:=HLT.out;omega)
 have HLQ2:=Lib.hid (show ∀ j,q = some j → j < wc.heap.size from fun j hj => by have:=HLQ.out j hj;omega)
 have HC2:=Lib.hid C2
 have HPl:=Lib.hid (plain_any wc p cp q t2 _ C2.rd rfl w.heap.size rows D2.fo HLT.out C2.fo (by omega) hok)
 clear C2 hok
 obtain ⟨w0,hw0⟩ : ∃ w0,w0 = wc:=⟨_,rfl⟩
 rw [← hw0] at HLT2 HLQ2 HC2 HPl hszc ⊢
 clear hw0
 obtain ⟨D',hD'⟩ : ∃ D' : DV,D' = { d with pl:=.int .u64 (D2.pl : Int),ps:=psv,cs:=csv,fs:=fv,ss:=.slice none 0 0 }:=⟨_,rfl⟩
 have HDD:=Lib.hid hD'
 rw [← hD'] at HPl
 clear hD'
 go_cut [] (fun wx => ∃ svs sv,SuM w0 p cp q D' svs (plainL D2.fo) sv t2 wx)
 case first =>
   clear hK3
   go_wp2_with (go_at_call 75;refine HPl.out.mono ?_;rintro e w4 ⟨rfl,svs,sv,C3⟩)
   go_meet
   case rel => exact ⟨svs,sv,C3⟩
 case rest =>
 obtain ⟨svs,sv,C3⟩:=hcut
 (refine hK3 _ _ ?_;clear hK3;refine wp_seq_k fun K4 hK4 => ?_)
 go_cut [2] (fun v2 wx => ∃ (svs3 : List Value) (SL : List (List Sub)) (id3 : Nat) (t3 : Rs),v2 = .int .i64 (id3 : Int) ∧ s.streams = ({ D2 with ss:=SL },t3.end_ id3) ∧ SuM w0 p cp q D' svs3 SL sv t3 wx)
 case first =>
   clear hK4
   by_cases h8 : id2 = 8
   rotate_left
   · have t0 : ((id2 : Int) == 8) = false:=by rw [beq_eq_false_iff_ne];omega
     have HE:=Lib.hid (show s.streams = ({ D2 with ss:=plainL D2.fo },t2.end_ id2) by
       rw [HE2.out,Rs.streamsC,Rs.at_ne h8];simp)
     clear h8
     go_wp2_with fail
     go_meet
     case rel => exact ⟨svs,_,id2,t2,rfl,HE.out,C3⟩
   subst h8
   by_cases hz : t2.ok.k = 0
   rotate_left
   · have HK:=Lib.hid (show (t2.ok.k == 0) = false by rw [beq_eq_false_iff_ne];exact hz)
     have HE:=Lib.hid (show s.streams = ({ D2 with ss:=plainL D2.fo },t2.ok.end_ 8) by
       rw [HE2.out,Rs.streamsC,Rs.at_bad hz];simp)
     clear hz
     go_wp2_with (go_at_call 37;refine (ok_any _ p cp q t2 _ C3.rd).mono ?_;rw [HK.out];rintro e w2 ⟨rfl,R2,F2⟩;have C4:=C3.on2 HLT2.out F2.two1 R2)
     go_meet
     case rel => exact ⟨svs,_,8,t2.ok,rfl,HE.out,C4⟩
   have HK:=Lib.hid (show (t2.ok.k == 0) = true by rw [hz];rfl)
   have HO:=Lib.hid (Rs.ok_of_zero hz)
   have HE:=Lib.hid (show s.streams = ({ D2 with ss:=(Rs.subs D2.fo (plainL D2.fo) t2).1 },(Rs.subs D2.fo (plainL D2.fo) t2).2.byte.2.end_ (Rs.subs D2.fo (plainL D2.fo) t2).2.byte.1) by
     rw [HE2.out,Rs.streamsC,Rs.at_ok hz];simp)
   have hpl : (plainL D2.fo).length = D2.fo.length:=by simp [plainL]
   have hDF : FolsAt w0 w.heap.size D'.fs rows D2.fo:=by have:=HDD.out;subst this;exact HC2.out.fo
   have hrow : RowsIn 4000000 (plainL D2.fo):=fun l hl => by
     unfold plainL at hl
     rw [List.mem_map] at hl
     obtain ⟨x,-,rfl⟩:=hl
     simp
   have HSu:=Lib.hid (fun wy (Cy : SuM w0 p cp q D' svs (plainL D2.fo) sv t2 wy) => subs_ok w0 wy p cp q t2 D' svs (plainL D2.fo) sv Cy HLT2.out HLQ2.out htb (by omega) w.heap.size rows D2.fo HLT.out hDF hpl.symm HOK.out hrow)
   have HSB:=Lib.hid (show (Rs.subs D2.fo (plainL D2.fo) t2).2.c.b.length ≤ 4000000 by rw [subs_b];exact htb)
   have HBY2:=Lib.hid (fun wy d' (R : RdAt wy p cp q (Rs.subs D2.fo (plainL D2.fo) t2).2 d') => byte_any wy p cp q _ d' R (by have:=HSB.out;omega))
   clear hz hpl hDF hrow htb hfl
   generalize (Rs.subs D2.fo (plainL D2.fo) t2).2.byte.2 = u2 at *
   generalize (Rs.subs D2.fo (plainL D2.fo) t2).2.byte.1 = id3 at *
   generalize Rs.subs D2.fo (plainL D2.fo) t2 = r at *
   obtain ⟨SL,u1⟩:=r
   dsimp only at HE HSu HSB HBY2
   go_wp2_with (first
     | (have hq:=C5;go_at_call 34;refine (HBY2.out _ _ C5.rd).mono ?_;rintro e w4 ⟨rfl,R4,F4⟩;have C6:=C5.on2 HLT2.out F4.two2 R4)
     | (have hq:=C4;go_at_call 76;refine (HSu.out _ C4).mono ?_;rintro e w3 ⟨rfl,svs2,C5⟩)
     | (go_at_call 37;refine (ok_any _ p cp q t2 _ C3.rd).mono ?_;rw [HK.out,HO.out];rintro e w2 ⟨rfl,R2,F2⟩;have C4:=C3.on2 HLT2.out F2.two1 R2))
   go_meet
   case rel => exact ⟨svs2,SL,id3,u2,rfl,HE.out,C6⟩
 case rest =>
 clear C3 HE2
 obtain ⟨svs3,SL,id3,t3,rfl,hE,C4⟩:=hcut
 have HE3:=Lib.hid hE
 clear hE
 go_wp2_with (go_at_call 72;refine (end_any _ p cp q t3 _ id3 C4.rd).mono ?_;rintro e w7 ⟨rfl,R7,F7⟩;have C5:=C4.on2 HLT2.out F7 R7)
 go_end0
 have hdd:=HDD.out
 subst hdd
 have C2:=HC2.out
 refine ⟨rfl,psv,csv,fv,sv,rows,svs3,?_⟩
 rw [HE3.out]
 exact ⟨C5.rd,C2.ps.two C5.fr HLT.out.1 HLT.out.2,C2.cs.two C5.fr HLT.out.1 HLT.out.2,C2.fo.fr C5.fr (two_lt HLT.out),own_monoM C5.own hszc,C5.sm.mono hszc,C2.fr.tr2 C5.fr⟩
end Go.Proofs.YtkodindajfdagaaGreatDoor
