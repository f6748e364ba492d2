/- Contracts: Parse of two headers that the document fixes. No condition. -/
import Derived.Test.YtkodindajfdagaaGreatDoorJM
import Derived.Test.YtkodindajfdagaaGreatDoorJN
namespace Go.Proofs.YtkodindajfdagaaGreatDoor
open Go.RowKit
def D0 : DV:=⟨.bool false,.int .u64 0,.slice none 0 0,.slice none 0 0,.slice none 0 0,.slice none 0 0,.slice none 0 0⟩
theorem cells7 {w : World} {g : Nat} {t : TypeId} {a0 a1 a2 a3 a4 a5 a6 : Value} (h : w.heap[g]? = some (.cells #[a0,a1,a2,a3,a4,a5,a6] t (0,0))) :
   w.cell? ⟨g,0,none⟩ = some a0 ∧ w.cell? ⟨g,1,none⟩ = some a1 ∧ w.cell? ⟨g,2,none⟩ = some a2 ∧ w.cell? ⟨g,3,none⟩ = some a3 ∧ w.cell? ⟨g,4,none⟩ = some a4 ∧ w.cell? ⟨g,5,none⟩ = some a5 ∧ w.cell? ⟨g,6,none⟩ = some a6 ∧ (∀ j,w.frozen? ⟨g,j,none⟩ = false) :=
 ⟨by simp [Go.Joins.cell_of_block h],by simp [Go.Joins.cell_of_block h],by simp [Go.Joins.cell_of_block h],by simp [Go.Joins.cell_of_block h],by simp [Go.Joins.cell_of_block h],by simp [Go.Joins.cell_of_block h],by simp [Go.Joins.cell_of_block h],fun j => Go.Joins.unfrozen_of_block h j⟩
def zF (w : World) (g : Nat) : World:=((((((w.setCell ⟨g,0,none⟩ (.bool false)).setCell ⟨g,1,none⟩ (.int .u64 0)).setCell ⟨g,2,none⟩ (.slice none 0 0)).setCell ⟨g,3,none⟩ (.slice none 0 0)).setCell ⟨g,4,none⟩ (.slice none 0 0)).setCell ⟨g,5,none⟩ (.slice none 0 0)).setCell ⟨g,6,none⟩ (.slice none 0 0)
set_option maxRecDepth 100000 in
set_option maxHeartbeats 2000000 in
theorem zF_cells {w : World} {g : Nat} {t : TypeId} {a0 a1 a2 a3 a4 a5 a6 : Value} (h : w.heap[g]? = some (.cells #[a0,a1,a2,a3,a4,a5,a6] t (0,0))) :
   (zF w g).cell? ⟨g,0,none⟩ = some (.bool false) ∧ (zF w g).cell? ⟨g,1,none⟩ = some (.int .u64 0) ∧ (zF w g).cell? ⟨g,2,none⟩ = some (.slice none 0 0) ∧ (zF w g).cell? ⟨g,3,none⟩ = some (.slice none 0 0) ∧ (zF w g).cell? ⟨g,4,none⟩ = some (.slice none 0 0) ∧ (zF w g).cell? ⟨g,5,none⟩ = some (.slice none 0 0) ∧ (zF w g).cell? ⟨g,6,none⟩ = some (.slice none 0 0) ∧ Fr [g] w (zF w g):=by
 have hb : (zF w g).heap[g]? = some (.cells #[.bool false,.int .u64 0,.slice none 0 0,.slice none 0 0,.slice none 0 0,.slice none 0 0,.slice none 0 0] t (0,0)) :=
   Go.Joins.block_setCell (Go.Joins.block_setCell (Go.Joins.block_setCell (Go.Joins.block_setCell (Go.Joins.block_setCell (Go.Joins.block_setCell (Go.Joins.block_setCell h _) _) _) _) _) _) _
 obtain ⟨r0,r1,r2,r3,r4,r5,r6,-⟩:=cells7 hb
 exact ⟨r0,r1,r2,r3,r4,r5,r6,(((((((Fr.refl _ _).setCell (by simp) _).setCell (by simp) _).setCell (by simp) _).setCell (by simp) _).setCell (by simp) _).setCell (by simp) _).setCell (by simp) _⟩
end Go.Proofs.YtkodindajfdagaaGreatDoor
/- Contract: header.Parse. No condition but that lengths fit. -/
namespace Go.Proofs.YtkodindajfdagaaGreatDoor
open Go.RowKit Go.Maps
structure DescM (w : World) (lo : Nat) (v : Value) (r : Bool × Strm × List Fil) : Prop where
 ex : ∃ psv csv fv sv es rows svs,v = .agg #[.bool r.1,.int .u64 (r.2.1.pl : Int),psv,csv,fv,sv,es] ∧ Sm w lo 31 1 psv r.2.1.ps.length (u64v r.2.1.ps) ∧ Sm w lo 68 2 csv r.2.1.cs.length (ckV r.2.1.cs) ∧
   FolsAt w lo fv rows r.2.1.fo ∧ w.ownsRow lo 73 1 sv svs.length svs ∧ SubsM w lo svs r.2.1.ss ∧ w.ownsRow lo 54 7 es r.2.2.length (fiV r.2.2)
theorem DescM.none (w : World) (lo : Nat) : DescM w lo (.agg #[.bool false,.int .u64 0,.slice none 0 0,.slice none 0 0,.slice none 0 0,.slice none 0 0,.slice none 0 0]) noDesc :=
 ⟨_,_,_,_,_,[],[],rfl,Sm.nil _ _ _ _,Sm.nil _ _ _ _,FolsAt.nil _ _,World.ownsRow_nil _ _ _ _,SubsM.nil _ _,World.ownsRow_nil _ _ _ _⟩
theorem DescM.fr {w w' : World} {lo : Nat} {v : Value} {r : Bool × Strm × List Fil} {S : List Nat} (h : DescM w lo v r) (F : Fr S w w') (hS : ∀ i ∈ S,i < lo) : DescM w' lo v r:=by
 obtain ⟨a,b,c,d,e,rows,svs,h0,h1,h2,h3,h4,h5,h6⟩:=h.ex
 exact ⟨a,b,c,d,e,rows,svs,h0,h1.fr F hS,h2.fr F hS,h3.fr F hS,own_frB h4 F hS,h5.frT F (fun i hi => .inl (hS i hi)),own_frB h6 F hS⟩
def ParseR (b : List UInt8) (w : World) (e : Ending) (w' : World) : Prop :=
 ∃ v,e = .returned (.tuple #[v,.int .i64 ((parseL b).2 : Int)]) ∧ DescM w' (w.heap.size + 1) v (parseL b).1 ∧ Fr [] w w'
theorem AlM.lower {w w0 : World} {p cp : Nat} {q : Option Nat} {pk : Value} {D : Strm} {F : List Fil} {t : Rs} {wx : World} (h : AlM w p cp q pk D F t wx) (Fw : Fr [p,cp] w0 w) : AlM w0 p cp q pk D F t wx:=by
 obtain ⟨psv,csv,fv,sv,es,rows,svs,S,E⟩:=h.ex
 exact ⟨psv,csv,fv,sv,es,rows,svs,S.lower Fw,own_monoM E Fw.size⟩
theorem al_ok (w wx : World) (p cp : Nat) (q : Option Nat) (pk : Value) (D : Strm) (F : List Fil) (t : Rs) (h : AlM w p cp q pk D F t wx) (hl : p < w.heap.size ∧ cp < w.heap.size) :
   Calls Tryz.prog 37 #[.pointer (some ⟨p,0,none⟩)] wx fun r w' => r = .returned (.bool (t.ok.k == 0)) ∧ AlM w p cp q pk D F t.ok w':=by
 obtain ⟨psv,csv,fv,sv,es,rows,svs,S,E⟩:=h.ex
 refine (ok_any wx p cp q t _ S.rd).mono ?_
 rintro r w' ⟨rfl,R,F1⟩
 exact ⟨rfl,⟨psv,csv,fv,sv,es,rows,svs,S.on2 hl F1.two1 R,own_frB E F1.two1 (two_lt hl)⟩⟩
theorem al_fail (w wx : World) (p cp : Nat) (q : Option Nat) (pk : Value) (D : Strm) (F : List Fil) (t : Rs) (e : Nat) (h : AlM w p cp q pk D F t wx) (hl : p < w.heap.size ∧ cp < w.heap.size) :
   Calls Tryz.prog 38 #[.pointer (some ⟨p,0,none⟩),.int .i64 (e : Int)] wx fun r w' => r = .returned (.tuple #[]) ∧ AlM w p cp q pk D F (t.fail e) w':=by
 obtain ⟨psv,csv,fv,sv,es,rows,svs,S,E⟩:=h.ex
 refine (rfail_any wx p cp q t _ e S.rd).mono ?_
 rintro r w' ⟨rfl,R,F1⟩
 exact ⟨rfl,⟨psv,csv,fv,sv,es,rows,svs,S.on2 hl F1.two1 R,own_frB E F1.two1 (two_lt hl)⟩⟩
theorem al_left (w wx : World) (p cp : Nat) (q : Option Nat) (pk : Value) (D : Strm) (F : List Fil) (t : Rs) (h : AlM w p cp q pk D F t wx) (hl : p < w.heap.size ∧ cp < w.heap.size) :
   Calls Tryz.prog 39 #[.pointer (some ⟨cp,0,none⟩)] wx fun r w' => r = .returned (.int .i64 (t.c.left : Int)) ∧ AlM w p cp q pk D F t w':=by
 obtain ⟨psv,csv,fv,sv,es,rows,svs,S,E⟩:=h.ex
 refine (left_any wx cp q t.c S.rd.cur).mono ?_
 rintro r w' ⟨rfl,F1⟩
 exact ⟨rfl,⟨psv,csv,fv,sv,es,rows,svs,S.on2 hl F1.fr (S.rd.same F1),own_frB E (F1.fr (S:=[p,cp])) (two_lt hl)⟩⟩
theorem al_count (w wx : World) (p cp : Nat) (q : Option Nat) (pk : Value) (D : Strm) (F : List Fil) (t : Rs) (h : AlM w p cp q pk D F t wx) (hl : p < w.heap.size ∧ cp < w.heap.size) (hn : D.ss.length ≤ 4000000) (hr : ∀ l ∈ D.ss,l.length ≤ 4000000) (hF : F.length ≤ 4000000) :
   Calls Tryz.prog 40 #[.pointer (some ⟨p,0,none⟩)] wx fun r w' => r = .returned (.tuple #[]) ∧ AlM w p cp q pk D F (t.count D.ss F) w':=by
 obtain ⟨psv,csv,fv,sv,es,rows,svs,S,E⟩:=h.ex
 refine (count_any w wx p cp q t pk psv csv fv sv es rows svs D F S E hl hn hr hF).mono ?_
 rintro r w' ⟨rfl,S2,E2⟩
 exact ⟨rfl,⟨psv,csv,fv,sv,es,rows,svs,S2,E2⟩⟩
theorem all_ok (w : World) (p cp : Nat) (q : Option Nat) (s : Rs) (pk : Value) (h : RdAt w p cp q s (dz pk)) (hb : s.c.b.length ≤ 4000000) :
   Calls Tryz.prog 35 #[.pointer (some ⟨p,0,none⟩)] w fun e w' => e = .returned (.tuple #[]) ∧ AlM w p cp q pk s.all.1.1 s.all.1.2 s.all.2 w':=all_any w p cp q s pk h hb
theorem AlM.cells {w : World} {p cp : Nat} {q : Option Nat} {pk : Value} {D : Strm} {F : List Fil} {t : Rs} {wx : World} (h : AlM w p cp q pk D F t wx) : wx.cell? ⟨p,0,none⟩ = some (.pointer (some ⟨cp,0,none⟩)) ∧ wx.cell? ⟨p,1,none⟩ = some (.int .i64 t.k) ∧ wx.cell? ⟨p,2,none⟩ = some pk:=by
 obtain ⟨psv,csv,fv,sv,es,rows,svs,S,E⟩:=h.ex
 obtain ⟨c0,c1,c2,-⟩:=cells9 S.rd.blk
 exact ⟨c0,c1,c2⟩
theorem AlM.fr' {w : World} {p cp : Nat} {q : Option Nat} {pk : Value} {D : Strm} {F : List Fil} {t : Rs} {wx : World} (h : AlM w p cp q pk D F t wx) : Fr [p,cp] w wx:=by
 obtain ⟨psv,csv,fv,sv,es,rows,svs,S,E⟩:=h.ex
 exact S.fr
def dF (w : World) (g : Nat) (a0 a1 a2 a3 a4 a5 a6 : Value) : World:=((((((w.setCell ⟨g,0,none⟩ a0).setCell ⟨g,1,none⟩ a1).setCell ⟨g,2,none⟩ a2).setCell ⟨g,3,none⟩ a3).setCell ⟨g,4,none⟩ a4).setCell ⟨g,5,none⟩ a5).setCell ⟨g,6,none⟩ a6
set_option maxRecDepth 100000 in
set_option maxHeartbeats 2000000 in
theorem dF_cells {w : World} {g : Nat} {t : TypeId} {b0 b1 b2 b3 b4 b5 b6 : Value} (h : w.heap[g]? = some (.cells #[b0,b1,b2,b3,b4,b5,b6] t (0,0))) (a0 a1 a2 a3 a4 a5 a6 : Value) :
   (dF w g a0 a1 a2 a3 a4 a5 a6).cell? ⟨g,0,none⟩ = some a0 ∧ (dF w g a0 a1 a2 a3 a4 a5 a6).cell? ⟨g,1,none⟩ = some a1 ∧ (dF w g a0 a1 a2 a3 a4 a5 a6).cell? ⟨g,2,none⟩ = some a2 ∧ (dF w g a0 a1 a2 a3 a4 a5 a6).cell? ⟨g,3,none⟩ = some a3 ∧ (dF w g a0 a1 a2 a3 a4 a5 a6).cell? ⟨g,4,none⟩ = some a4 ∧ (dF w g a0 a1 a2 a3 a4 a5 a6).cell? ⟨g,5,none⟩ = some a5 ∧ (dF w g a0 a1 a2 a3 a4 a5 a6).cell? ⟨g,6,none⟩ = some a6 ∧ Fr [g] w (dF w g a0 a1 a2 a3 a4 a5 a6):=by
 have hb : (dF w g a0 a1 a2 a3 a4 a5 a6).heap[g]? = some (.cells #[a0,a1,a2,a3,a4,a5,a6] t (0,0)) :=
   Go.Joins.block_setCell (Go.Joins.block_setCell (Go.Joins.block_setCell (Go.Joins.block_setCell (Go.Joins.block_setCell (Go.Joins.block_setCell (Go.Joins.block_setCell h _) _) _) _) _) _) _
 obtain ⟨r0,r1,r2,r3,r4,r5,r6,-⟩:=cells7 hb
 exact ⟨r0,r1,r2,r3,r4,r5,r6,(((((((Fr.refl _ _).setCell (by simp) _).setCell (by simp) _).setCell (by simp) _).setCell (by simp) _).setCell (by simp) _).setCell (by simp) _).setCell (by simp) _⟩
set_option maxRecDepth 100000 in
set_option maxHeartbeats 8000000 in
theorem parse_any (w : World) (v : Value) (b : List UInt8) (h : Sl w v (bv b)) (hb : b.length ≤ 4000000) :
   Calls Tryz.prog 15 #[v] w (ParseR b w):=by
 have HV:=Lib.hid h
 obtain ⟨ao,cap,rfl,-⟩:=h.out
 clear h
 have hbl : (bv b).length = b.length:=bv_length b
 rw [hbl] at HV ⊢
 have hbI : (b.length : Int) ≤ 4000000:=by omega
 by_cases hb0 : b = []
 · have HL:=Lib.hid (show parseL b = (noDesc,0) by unfold parseL;rw [if_pos hb0])
   have h0 : ((b.length : Int) == 0) = true:=by rw [hb0];rfl
   clear hbl
   go_enter Tryz.func15,Tryz.ntmps15
   refine wp_seq_k fun K0 hK0 => ?_
   go_cut [2,3] (fun v2 v3 wx => v2 = .pointer (some ⟨w.heap.size,0,none⟩) ∧ v3 = .int .i64 0 ∧ wx.heap[w.heap.size]? = some (.cells #[.bool false,.int .u64 0,.slice none 0 0,.slice none 0 0,.slice none 0 0,.slice none 0 0,.slice none 0 0] 38 (0,0)) ∧ Fr [] w wx)
   case first =>
     clear hK0
     go_wp2_with fail
     go_meet
     case rel => exact ⟨rfl,rfl,heap_alloc_new w _,(Fr.refl _ _).alloc _⟩
   case rest =>
   obtain ⟨rfl,rfl,B1,F1⟩:=hcut
   obtain ⟨i0,i1,i2,i3,i4,i5,i6,iz⟩:=cells7 B1
   go_wp2_with fail
   obtain ⟨r0,r1,r2,r3,r4,r5,r6,FF⟩:=zF_cells B1
   obtain ⟨wF,hwF⟩ : ∃ wF,wF = zF wc w.heap.size:=⟨_,rfl⟩
   rw [← hwF] at r0 r1 r2 r3 r4 r5 r6 FF
   rw [zF] at hwF
   rw [← hwF]
   refine bodyPost_ret (v:=.tuple #[.agg #[.bool false,.int .u64 0,.slice none 0 0,.slice none 0 0,.slice none 0 0,.slice none 0 0,.slice none 0 0],.int .i64 0]) (by simp [results,Tryz.results15,go_sem,r0,r1,r2,r3,r4,r5,r6]) rfl ?_
   exact ⟨_,by rw [HL.out];rfl,by rw [HL.out];exact DescM.none _ _,F1.trans FF (by simp)⟩
 have h0 : ((b.length : Int) == 0) = false:=by
   rw [beq_eq_false_iff_ne]
   have : b.length ≠ 0:=fun e => hb0 (List.eq_nil_of_length_eq_zero e)
   omega
 have HL:=Lib.hid (show parseL b = if (parseTail (parseBody (newRs b))).k = 0 then ((parseBody (newRs b)).1,0) else (noDesc,(parseTail (parseBody (newRs b))).k) by unfold parseL;rw [if_neg hb0])
 have HB:=Lib.hid hb
 clear hbl hb0 hb
 go_enter Tryz.func15,Tryz.ntmps15
 refine wp_seq_k fun K0 hK0 => ?_
 go_cut [2,3] (fun v2 v3 wx => v2 = .pointer (some ⟨w.heap.size,0,none⟩) ∧ v3 = .int .i64 0 ∧ wx.heap[w.heap.size]? = some (.cells #[.bool false,.int .u64 0,.slice none 0 0,.slice none 0 0,.slice none 0 0,.slice none 0 0,.slice none 0 0] 38 (0,0)) ∧ Fr [] w wx)
 case first =>
   clear hK0
   go_wp2_with fail
   go_meet
   case rel => exact ⟨rfl,rfl,heap_alloc_new w _,(Fr.refl _ _).alloc _⟩
 case rest =>
 obtain ⟨rfl,rfl,B1,F1⟩:=hcut
 (refine hK0 _ _ ?_;clear hK0;refine wp_seq_k fun K1 hK1 => ?_)
 go_cut [] (fun wx => wx.heap[w.heap.size]? = some (.cells #[.bool false,.int .u64 0,.slice none 0 0,.slice none 0 0,.slice none 0 0,.slice none 0 0,.slice none 0 0] 38 (0,0)) ∧ Fr [] w wx)
 case first =>
   clear hK1
   go_wp2_with fail
   go_meet
   case rel => exact ⟨B1,F1⟩
 case rest =>
 clear B1 F1
 obtain ⟨B1,F1⟩:=hcut
 (refine hK1 _ _ ?_;clear hK1;refine wp_seq_k fun K2 hK2 => ?_)
 have HNw:=Lib.hid (new_any wc _ b (HV.out.fr0 F1) (by have:=HB.out;omega))
 go_cut [4] (fun v4 wx => ∃ (p cp : Nat) (q : Option Nat),v4 = .pointer (some ⟨p,0,none⟩) ∧ w.heap.size < p ∧ w.heap.size < cp ∧ wx.heap[w.heap.size]? = some (.cells #[.bool false,.int .u64 0,.slice none 0 0,.slice none 0 0,.slice none 0 0,.slice none 0 0,.slice none 0 0] 38 (0,0)) ∧ Fr [] w wx ∧ RdAt wx p cp q (newRs b) (dz (.bool false)))
 case first =>
   clear hK2
   have hw1 : w.heap.size < wc.heap.size:=(Array.getElem?_eq_some_iff.1 B1).1
   go_wp2_with (go_at_call 26;refine HNw.out.mono ?_;rintro e w2 ⟨cp,q,rfl,hcp,hq,hC,F2⟩)
   have hcl:=hC.lt
   have F3 : Fr [] w2 (w2.alloc (.cells #[.pointer (some ⟨cp,0,none⟩),.int .i64 0,.bool false,.int .u64 0,.slice none 0 0,.slice none 0 0,.slice none 0 0,.slice none 0 0,.slice none 0 0] 82)):=(Fr.refl _ _).alloc _
   have R3 : RdAt (w2.alloc (.cells #[.pointer (some ⟨cp,0,none⟩),.int .i64 0,.bool false,.int .u64 0,.slice none 0 0,.slice none 0 0,.slice none 0 0,.slice none 0 0,.slice none 0 0] 82)) w2.heap.size cp q (newRs b) (dz (.bool false)) :=
     ⟨heap_alloc_new w2 _,hC.fr F3 (by simp) (by simp),by omega,fun e => by have:=(hq _ e).2;omega,fun k hk => by have:=(hq k hk).2;rw [World.size_alloc];omega⟩
   go_meet
   case rel => exact ⟨_,cp,q,rfl,by have:=F2.size;omega,by omega,(F3.block _ (by have:=F2.size;omega) (by simp)).trans ((F2.block _ hw1 (by simp)).trans B1),(F1.trans0 F2).trans0 F3,R3⟩
 case rest =>
 clear B1 F1 HNw
 obtain ⟨p,cp,q,rfl,hgp,hgc,B3,F3,R3⟩:=hcut
 obtain ⟨w3,hw3⟩ : ∃ w3,w3 = wc:=⟨_,rfl⟩
 rw [← hw3] at B3 F3 R3 ⊢
 clear hw3
 have HLT:=Lib.hid (And.intro R3.lt R3.cur.lt)
 have HF3:=Lib.hid F3
 have HB3:=Lib.hid B3
 have HGP:=Lib.hid (And.intro hgp hgc)
 clear F3 B3 hgp hgc
 (refine hK2 _ _ ?_;clear hK2;refine wp_seq_k fun K3 hK3 => ?_)
 have HPS:=Lib.hid (parseBody_small (newRs b) HB.out)
 have HPB:=Lib.hid (show (parseBody (newRs b)).2.c.b.length ≤ 4000000 by rw [parseBody_b];exact HB.out)
 go_cut [] (fun wx => AlM w3 p cp q (.bool (parseBody (newRs b)).1.1) (parseBody (newRs b)).1.2.1 (parseBody (newRs b)).1.2.2 (parseBody (newRs b)).2 wx)
 case first =>
   clear hK3
   have HBY:=Lib.hid (byte_any w3 p cp q (newRs b) _ R3 (by have:=HB.out;show b.length ≤ 10000000;omega))
   have HPE:=Lib.hid (show parseBody (newRs b) = if (newRs b).byte.1 = 1 then ((false,(newRs b).byte.2.all.1.1,(newRs b).byte.2.all.1.2),(newRs b).byte.2.all.2) else if (newRs b).byte.1 = 23 then ((true,(newRs b).byte.2.streams.1,[]),oneSub (newRs b).byte.2.streams.1 (newRs b).byte.2.streams.2) else ((false,noStrm,[]),(newRs b).byte.2.fail 5) from rfl)
   have hb1 : (newRs b).byte.2.c.b.length ≤ 4000000:=by rw [byte_b];exact HB.out
   generalize (newRs b).byte.2 = s1 at *
   generalize (newRs b).byte.1 = id at *
   by_cases h1 : id = 1
   · have HE:=Lib.hid (show parseBody (newRs b) = ((false,s1.all.1.1,s1.all.1.2),s1.all.2) by rw [HPE.out,if_pos h1])
     have t0 : ((id : Int) == 1) = true:=by rw [h1];rfl
     clear h1
     go_wp2_with (first
       | (have hq:=R4;go_at_call 35;refine (all_ok _ p cp q s1 _ R4 hb1).mono ?_;rintro e w5 ⟨rfl,A5⟩;have A6:=A5.lower F4.two2)
       | (go_at_call 34;refine HBY.out.mono ?_;rintro e w4 ⟨rfl,R4,F4⟩))
     go_meet
     case rel => rw [HE.out];exact A6
   have t0 : ((id : Int) == 1) = false:=by rw [beq_eq_false_iff_ne];omega
   by_cases h23 : id = 23
   rotate_left
   · have HE:=Lib.hid (show parseBody (newRs b) = ((false,noStrm,[]),s1.fail 5) by rw [HPE.out,if_neg h1,if_neg h23])
     have t1 : ((id : Int) == 23) = false:=by rw [beq_eq_false_iff_ne];omega
     clear h1 h23
     go_wp2_with (first
       | (have hq:=R4;go_at_call 38;refine (rfail_any _ p cp q s1 _ 5 R4).mono ?_;rintro e w5 ⟨rfl,R5,F5⟩)
       | (go_at_call 34;refine HBY.out.mono ?_;rintro e w4 ⟨rfl,R4,F4⟩))
     go_meet
     case rel => rw [HE.out];exact ⟨_,_,_,_,_,[],[],⟨R5,Sm.nil _ _ _ _,Sm.nil _ _ _ _,FolsAt.nil _ _,World.ownsRow_nil _ _ _ _,SubsM.nil _ _,F4.two2.tr2 F5.two1⟩,World.ownsRow_nil _ _ _ _⟩
   have HE:=Lib.hid (show parseBody (newRs b) = ((true,s1.streams.1,[]),oneSub s1.streams.1 s1.streams.2) by rw [HPE.out,if_neg h1,if_pos h23])
   have t1 : ((id : Int) == 23) = true:=by rw [h23];rfl
   have HSR:=Lib.hid (streams_rows s1 4000000 (by omega) hb1)
   have HSt:=Lib.hid (fun wy (R : RdAt wy p cp q s1 (dz (.bool true))) => streams_ok wy p cp q s1 (dz (.bool true)) R hb1 ⟨rfl,rfl,rfl,rfl,rfl⟩)
   clear h1 h23 HPE
   generalize s1.streams = r at *
   obtain ⟨D,u⟩:=r
   dsimp only at HSR HSt HE
   obtain ⟨hsf,hrows,hfl⟩:=HSR.out
   have HRows:=Lib.hid hrows
   have HSF:=Lib.hid hsf
   have HC6 : ∀ w0 wy (t : Rs) psv csv fv sv rows svs,StM w0 p cp q (dz (.bool true)) psv csv fv sv rows svs D t wy → ∃ fao fcap sao scap,fv = .slice fao D.fo.length fcap ∧ sv = .slice sao D.ss.length scap ∧ wy.cell? ⟨p,6,none⟩ = some (.slice fao D.fo.length fcap) ∧ wy.cell? ⟨p,7,none⟩ = some (.slice sao D.ss.length scap) ∧ wy.cell? ⟨p,1,none⟩ = some (.int .i64 t.k):=fun w0 wy t psv csv fv sv rows svs S => by
     obtain ⟨fao,fcap,hf,-,-⟩:=own_outS S.fo.own
     obtain ⟨sao,scap,hs,-,-⟩:=own_outS S.ss
     obtain ⟨-,c1,-,-,-,-,c6,c7,-⟩:=cells9 S.rd.blk
     rw [S.fo.rw.len] at hf
     rw [S.sm.len] at hs
     exact ⟨fao,fcap,sao,scap,hf,hs,by rw [← hf];exact c6,by rw [← hs];exact c7,c1⟩
   have HC6:=Lib.hid HC6
   clear hrows
   by_cases hz : u.ok.k = 0
   rotate_left
   · have HK:=Lib.hid (show (u.ok.k == 0) = false by rw [beq_eq_false_iff_ne];exact hz)
     have HO1:=Lib.hid (show oneSub D u = u.ok by unfold oneSub;rw [if_neg (fun h => hz h.1)])
     clear hz
     go_wp2_with (first
       | (have hq:=S5;go_at_call 37;refine (ok_any _ p cp q u _ S5.rd).mono ?_;rw [HK.out];rintro e w6 ⟨rfl,R6,F6⟩;have S6:=S5.on2 hlt4 F6.two1 R6)
       | (have hq:=R4;go_at_call 36;refine (HSt.out _ (R4.put2 _)).mono ?_;rintro e w5 ⟨rfl,psv,csv,fv,sv,rows,svs,S5⟩)
       | (go_at_call 34;refine HBY.out.mono ?_;rintro e w4 ⟨rfl,R4,F4⟩;obtain ⟨-,-,c2,-,-,-,-,-,-,cz⟩:=cells9 R4.blk;have FP : Fr [p,cp] w3 (w4.setCell ⟨p,2,none⟩ (.bool true)):=F4.two2.setCell (.inl (by simp)) _;have hlt4 : p < (w4.setCell ⟨p,2,none⟩ (.bool true)).heap.size ∧ cp < (w4.setCell ⟨p,2,none⟩ (.bool true)).heap.size:=by have h1:=HLT.out;have h2:=FP.size;omega))
     go_meet
     case rel => rw [HE.out];dsimp only;rw [HO1.out];exact ⟨_,_,_,_,_,_,_,S6.lower FP,World.ownsRow_nil _ _ _ _⟩
   have HK:=Lib.hid (show (u.ok.k == 0) = true by rw [hz];rfl)
   have HO:=Lib.hid (Rs.ok_of_zero hz)
   by_cases h1 : D.fo.length = 1
   rotate_left
   · have HO1:=Lib.hid (show oneSub D u = u.fail 5 by unfold oneSub;rw [if_pos ⟨hz,fun h => h1 h.1⟩,Rs.ok_of_zero hz])
     have hfI : (D.fo.length : Int) ≤ 4000000:=by omega
     have t2 : ((D.fo.length : Int) == 1) = false:=by rw [beq_eq_false_iff_ne];omega
     have t3 : ((D.fo.length : Int) != 1) = true:=by simp;omega
     generalize D.fo.length = fl at *
     clear hz h1
     go_wp2_with (first
       | (have hq:=S6;go_at_call 38;refine (rfail_any _ p cp q u _ 5 S6.rd).mono ?_;rintro e w7 ⟨rfl,R7,F7⟩;have S7:=S6.on2 hlt4 F7.two1 R7)
       | (have hq:=S5;go_at_call 37;refine (ok_any _ p cp q u _ S5.rd).mono ?_;rw [HK.out,HO.out];rintro e w6 ⟨rfl,R6,F6⟩;have S6:=S5.on2 hlt4 F6.two1 R6;obtain ⟨fao,fcap,sao,scap,-,-,c6,c7,-⟩:=HC6.out _ _ _ _ _ _ _ _ _ S6)
       | (have hq:=R4;go_at_call 36;refine (HSt.out _ (R4.put2 _)).mono ?_;rintro e w5 ⟨rfl,psv,csv,fv,sv,rows,svs,S5⟩)
       | (go_at_call 34;refine HBY.out.mono ?_;rintro e w4 ⟨rfl,R4,F4⟩;obtain ⟨-,-,c2,-,-,-,-,-,-,cz⟩:=cells9 R4.blk;have FP : Fr [p,cp] w3 (w4.setCell ⟨p,2,none⟩ (.bool true)):=F4.two2.setCell (.inl (by simp)) _;have hlt4 : p < (w4.setCell ⟨p,2,none⟩ (.bool true)).heap.size ∧ cp < (w4.setCell ⟨p,2,none⟩ (.bool true)).heap.size:=by have h1:=HLT.out;have h2:=FP.size;omega))
     go_meet
     case rel => rw [HE.out];dsimp only;rw [HO1.out];exact ⟨_,_,_,_,_,_,_,S7.lower FP,World.ownsRow_nil _ _ _ _⟩
   obtain ⟨l,hl⟩ : ∃ l,D.ss = [l]:=by
     rw [h1] at hsf
     match hss : D.ss,hsf with
     | [l],_ => exact ⟨l,rfl⟩
   have hll:=(HRows.out l (by rw [hl];simp)).2
   have hlI : (l.length : Int) ≤ 4000000:=by omega
   have HG0:=Lib.hid (show D.ss.getD 0 [] = l by rw [hl];rfl)
   have HL1:=Lib.hid hl
   have HL2:=Lib.hid (show D.ss.length = 1 by rw [hl];rfl)
   have HC0 : ∀ w0 wy (t : Rs) psv csv fv sv rows svs,StM w0 p cp q (dz (.bool true)) psv csv fv sv rows svs D t wy → ∃ fao fcap gs scap vo vc,wy.cell? ⟨p,6,none⟩ = some (.slice fao 1 fcap) ∧ wy.cell? ⟨p,7,none⟩ = some (.slice (some ⟨gs,0,none⟩) 1 scap) ∧ wy.cell? ⟨gs,0,none⟩ = some (.slice vo l.length vc):=fun w0 wy t psv csv fv sv rows svs S => by
     obtain ⟨fao,fcap,sao,scap,-,hs,c6,c7,-⟩:=HC6.out _ _ _ _ _ _ _ _ _ S
     rw [h1] at c6
     rw [HL2.out] at c7 hs
     subst hs
     have hsl : svs.length = 1:=S.sm.len.trans HL2.out
     obtain ⟨v0,hv0⟩:=some_get svs 0 (by omega)
     obtain ⟨vo,vc,rfl,-,-⟩:=own_outS (S.sm.row 0 v0 l hv0 (by rw [HL1.out];rfl))
     have hown:=S.ss
     rw [hsl] at hown
     rcases hown.2 with ⟨h1,h2⟩ | ⟨g',cap',cur,h1,-⟩
     · omega
     · injection h1 with h1 _ _
       subst h1
       exact ⟨fao,fcap,g',scap,vo,vc,c6,c7,(hown.cellAt 0 (by omega)).trans hv0⟩
   have HC0:=Lib.hid HC0
   by_cases hl1 : l.length = 1
   rotate_left
   · have HO1:=Lib.hid (show oneSub D u = u.fail 5 by unfold oneSub;rw [if_pos ⟨hz,fun h => hl1 (by rw [← HG0.out];exact h.2)⟩,Rs.ok_of_zero hz])
     have t2 : ((l.length : Int) == 1) = false:=by rw [beq_eq_false_iff_ne];omega
     have t3 : ((l.length : Int) != 1) = true:=by simp;omega
     clear hz h1 hl1 hl hsf hfl hll
     generalize l.length = ll at *
     go_wp2_with (first
       | (have hq:=S6;go_at_call 38;refine (rfail_any _ p cp q u _ 5 S6.rd).mono ?_;rintro e w7 ⟨rfl,R7,F7⟩;have S7:=S6.on2 hlt4 F7.two1 R7)
       | (have hq:=S5;go_at_call 37;refine (ok_any _ p cp q u _ S5.rd).mono ?_;rw [HK.out,HO.out];rintro e w6 ⟨rfl,R6,F6⟩;have S6:=S5.on2 hlt4 F6.two1 R6;obtain ⟨fao,fcap,gs,scap,vo,vc,c6,c7,c8⟩:=HC0.out _ _ _ _ _ _ _ _ _ S6)
       | (have hq:=R4;go_at_call 36;refine (HSt.out _ (R4.put2 _)).mono ?_;rintro e w5 ⟨rfl,psv,csv,fv,sv,rows,svs,S5⟩)
       | (go_at_call 34;refine HBY.out.mono ?_;rintro e w4 ⟨rfl,R4,F4⟩;obtain ⟨-,-,c2,-,-,-,-,-,-,cz⟩:=cells9 R4.blk;have FP : Fr [p,cp] w3 (w4.setCell ⟨p,2,none⟩ (.bool true)):=F4.two2.setCell (.inl (by simp)) _;have hlt4 : p < (w4.setCell ⟨p,2,none⟩ (.bool true)).heap.size ∧ cp < (w4.setCell ⟨p,2,none⟩ (.bool true)).heap.size:=by have h1:=HLT.out;have h2:=FP.size;omega))
     go_meet
     case rel => rw [HE.out];dsimp only;rw [HO1.out];exact ⟨_,_,_,_,_,_,_,S7.lower FP,World.ownsRow_nil _ _ _ _⟩
   have HO1:=Lib.hid (show oneSub D u = u by unfold oneSub;rw [if_neg (fun h => h.2 ⟨h1,by rw [HG0.out];exact hl1⟩),Rs.ok_of_zero hz])
   rw [hl1] at HC0
   clear hz h1 hl1 hl hsf hfl hll
   go_wp2_with (first
     | (have hq:=S5;go_at_call 37;refine (ok_any _ p cp q u _ S5.rd).mono ?_;rw [HK.out,HO.out];rintro e w6 ⟨rfl,R6,F6⟩;have S6:=S5.on2 hlt4 F6.two1 R6;obtain ⟨fao,fcap,gs,scap,vo,vc,c6,c7,c8⟩:=HC0.out _ _ _ _ _ _ _ _ _ S6)
     | (have hq:=R4;go_at_call 36;refine (HSt.out _ (R4.put2 _)).mono ?_;rintro e w5 ⟨rfl,psv,csv,fv,sv,rows,svs,S5⟩)
     | (go_at_call 34;refine HBY.out.mono ?_;rintro e w4 ⟨rfl,R4,F4⟩;obtain ⟨-,-,c2,-,-,-,-,-,-,cz⟩:=cells9 R4.blk;have FP : Fr [p,cp] w3 (w4.setCell ⟨p,2,none⟩ (.bool true)):=F4.two2.setCell (.inl (by simp)) _;have hlt4 : p < (w4.setCell ⟨p,2,none⟩ (.bool true)).heap.size ∧ cp < (w4.setCell ⟨p,2,none⟩ (.bool true)).heap.size:=by have h1:=HLT.out;have h2:=FP.size;omega))
   go_meet
   case rel => rw [HE.out];dsimp only;rw [HO1.out];exact ⟨_,_,_,_,_,_,_,S6.lower FP,World.ownsRow_nil _ _ _ _⟩
 case rest =>
 have A1:=hcut
 clear hcut R3
 generalize hr : parseBody (newRs b) = r at *
 clear hr
 obtain ⟨⟨pk,D,Fi⟩,t⟩:=r
 dsimp only at A1 HPS HPB
 (refine hK3 _ _ ?_;clear hK3;refine wp_seq_k fun K4 hK4 => ?_)
 go_cut [] (fun wx => AlM w3 p cp q (.bool pk) D Fi t.partEnd wx)
 case first =>
   clear hK4
   have hll:=left_le t.c
   by_cases hz : t.ok.k = 0
   rotate_left
   · have HK:=Lib.hid (show (t.ok.k == 0) = false by rw [beq_eq_false_iff_ne];exact hz)
     have HE:=Lib.hid (show t.partEnd = t.ok by unfold Rs.partEnd;rw [if_neg (fun h => hz h.1)])
     clear hz
     go_wp2_with (go_at_call 37;refine (al_ok _ _ p cp q _ D Fi t A1 HLT.out).mono ?_;rw [HK.out];rintro e w4 ⟨rfl,A2⟩)
     go_meet
     case rel => rw [HE.out];exact A2
   have HK:=Lib.hid (show (t.ok.k == 0) = true by rw [hz];rfl)
   have HO:=Lib.hid (Rs.ok_of_zero hz)
   have HLf:=Lib.hid (fun wy (A : AlM w3 p cp q (.bool pk) D Fi t wy) => al_left w3 wy p cp q _ D Fi t A HLT.out)
   by_cases hl : t.c.left = 0
   · have HE:=Lib.hid (show t.partEnd = t by unfold Rs.partEnd;rw [if_neg (by rw [hl];simp),Rs.ok_of_zero hz])
     rw [hl] at HLf
     clear hz hll hl
     go_wp2_with (first
       | (have hq:=A2;go_at_call 39;refine (HLf.out _ A2).mono ?_;rintro e w5 ⟨rfl,A3⟩)
       | (go_at_call 37;refine (al_ok _ _ p cp q _ D Fi t A1 HLT.out).mono ?_;rw [HK.out,HO.out];rintro e w4 ⟨rfl,A2⟩;have c0:=A2.cells.1))
     go_meet
     case rel => rw [HE.out];exact A3
   · have hlI : (0 : Int) < (t.c.left : Int):=by omega
     have hlI2 : (t.c.left : Int) ≤ 4000000:=by have:=HPB.out;omega
     have HE:=Lib.hid (show t.partEnd = t.fail 5 by unfold Rs.partEnd;rw [if_pos ⟨hz,by omega⟩,Rs.ok_of_zero hz])
     clear hz hll hl
     generalize t.c.left = lf at *
     go_wp2_with (first
       | (have hq:=A3;go_at_call 38;refine (al_fail _ _ p cp q _ D Fi t 5 A3 HLT.out).mono ?_;rintro e w6 ⟨rfl,A4⟩)
       | (have hq:=A2;go_at_call 39;refine (HLf.out _ A2).mono ?_;rintro e w5 ⟨rfl,A3⟩)
       | (go_at_call 37;refine (al_ok _ _ p cp q _ D Fi t A1 HLT.out).mono ?_;rw [HK.out,HO.out];rintro e w4 ⟨rfl,A2⟩;have c0:=A2.cells.1))
     go_meet
     case rel => rw [HE.out];exact A4
 case rest =>
 clear A1
 have A1:=hcut
 clear hcut
 have HPT:=Lib.hid (show parseTail ((pk,D,Fi),t) = if t.partEnd.ok.k = 0 ∧ pk = false then t.partEnd.ok.count D.ss Fi else t.partEnd.ok from rfl)
 generalize t.partEnd = u at *
 generalize parseTail ((pk,D,Fi),t) = z at *
 (refine hK4 _ _ ?_;clear hK4;refine wp_seq_k fun K5 hK5 => ?_)
 go_cut [] (fun wx => AlM w3 p cp q (.bool pk) D Fi z wx)
 case first =>
   clear hK5
   by_cases hz : u.ok.k = 0
   rotate_left
   · have HK:=Lib.hid (show (u.ok.k == 0) = false by rw [beq_eq_false_iff_ne];exact hz)
     have HE:=Lib.hid (show z = u.ok by rw [HPT.out,if_neg (fun h => hz h.1)])
     clear hz
     go_wp2_with (go_at_call 37;refine (al_ok _ _ p cp q _ D Fi u A1 HLT.out).mono ?_;rw [HK.out];rintro e w4 ⟨rfl,A2⟩)
     go_meet
     case rel => rw [HE.out];exact A2
   have HK:=Lib.hid (show (u.ok.k == 0) = true by rw [hz];rfl)
   have HO:=Lib.hid (Rs.ok_of_zero hz)
   cases pk with
   | true =>
     have HE:=Lib.hid (show z = u by rw [HPT.out,if_neg (fun h => by cases h.2),Rs.ok_of_zero hz])
     clear hz
     go_wp2_with (go_at_call 37;refine (al_ok _ _ p cp q _ D Fi u A1 HLT.out).mono ?_;rw [HK.out,HO.out];rintro e w4 ⟨rfl,A2⟩;have c2:=A2.cells.2.2)
     go_meet
     case rel => rw [HE.out];exact A2
   | false =>
     have HE:=Lib.hid (show z = u.count D.ss Fi by rw [HPT.out,if_pos ⟨hz,rfl⟩,Rs.ok_of_zero hz])
     clear hz
     go_wp2_with (first
       | (have hq:=A2;go_at_call 40;refine (al_count _ _ p cp q _ D Fi u A2 HLT.out HPS.out.1 HPS.out.2.1 HPS.out.2.2).mono ?_;rintro e w6 ⟨rfl,A3⟩)
       | (go_at_call 37;refine (al_ok _ _ p cp q _ D Fi u A1 HLT.out).mono ?_;rw [HK.out,HO.out];rintro e w4 ⟨rfl,A2⟩;have c2:=A2.cells.2.2))
     go_meet
     case rel => rw [HE.out];exact A3
 case rest =>
 clear A1 HPT
 have A1:=hcut
 clear hcut
 obtain ⟨psv,csv,fv,sv,es,rows,svs,S,E⟩:=A1.ex
 obtain ⟨-,k1,k2,k3,k4,k5,k6,k7,k8,kf⟩:=cells9 S.rd.blk
 have F4:=A1.fr'
 have B4:=(F4.block _ (Array.getElem?_eq_some_iff.1 HB3.out).1 (by have:=HGP.out;simp;omega)).trans HB3.out
 obtain ⟨i0,i1,i2,i3,i4,i5,i6,iz⟩:=cells7 B4
 have HS:=Lib.hid S
 have HEs:=Lib.hid E
 have HF4:=Lib.hid F4
 have HB4:=Lib.hid B4
 have hne : ¬ p = w.heap.size:=by have:=HGP.out;omega
 have hne2 : ¬ w.heap.size = p:=by have:=HGP.out;omega
 clear S E F4 B4 A1
 by_cases hz : z.k = 0
 rotate_left
 · have hzI : ((z.k : Int) == 0) = false:=by rw [beq_eq_false_iff_ne];omega
   have hzI2 : ((z.k : Int) != 0) = true:=by simp;omega
   have HE:=Lib.hid (show parseL b = (noDesc,z.k) by rw [HL.out,if_neg hz])
   clear hz
   go_wp2_with fail
   go_region
   all_goals
     go_wp2_with fail
     obtain ⟨r0,r1,r2,r3,r4,r5,r6,FF⟩:=zF_cells HB4.out
     obtain ⟨wF,hwF⟩ : ∃ wF,wF = (zF wc w.heap.size).drew:=⟨_,rfl⟩
     rw [← World.cell?_drew,← hwF] at r0 r1 r2 r3 r4 r5 r6
     replace FF : Fr [w.heap.size] wc wF:=hwF ▸ FF.drew
     rw [zF] at hwF
     rw [← hwF]
     refine bodyPost_ret (v:=.tuple #[.agg #[.bool false,.int .u64 0,.slice none 0 0,.slice none 0 0,.slice none 0 0,.slice none 0 0,.slice none 0 0],.int .i64 z.k]) (by simp [results,Tryz.results15,go_sem,r0,r1,r2,r3,r4,r5,r6]) rfl ?_
     exact ⟨_,by rw [HE.out],by rw [HE.out];exact DescM.none _ _,(HF3.out.trans HF4.out (by have:=HGP.out;simp;omega)).trans FF (by simp)⟩
 · have hzI : ((z.k : Int) == 0) = true:=by rw [hz];rfl
   have hzI2 : ((z.k : Int) != 0) = false:=by rw [hz];rfl
   have HE:=Lib.hid (show parseL b = ((pk,D,Fi),0) by rw [HL.out,if_pos hz])
   clear hz
   obtain ⟨pao,pcap,rfl,-,-,-⟩:=HS.out.ps.out
   obtain ⟨cao,ccap,rfl,-,-,-⟩:=HS.out.cs.out
   obtain ⟨fao,fcap,rfl,-,-⟩:=own_outS HS.out.fo.own
   obtain ⟨sao,scap,rfl,-,-⟩:=own_outS HS.out.ss
   obtain ⟨eao,ecap,rfl,-,-⟩:=own_outS HEs.out
   dsimp only at k1 k2 k3 k4 k5 k6 k7 k8
   go_wp2_with fail
   obtain ⟨r0,r1,r2,r3,r4,r5,r6,FF⟩:=dF_cells HB4.out (.bool pk) (.int .u64 (D.pl : Int)) (.slice pao D.ps.length pcap) (.slice cao D.cs.length ccap) (.slice fao rows.length fcap) (.slice sao svs.length scap) (.slice eao Fi.length ecap)
   obtain ⟨wF,hwF⟩ : ∃ wF,wF = dF wc w.heap.size (.bool pk) (.int .u64 (D.pl : Int)) (.slice pao D.ps.length pcap) (.slice cao D.cs.length ccap) (.slice fao rows.length fcap) (.slice sao svs.length scap) (.slice eao Fi.length ecap):=⟨_,rfl⟩
   rw [← hwF] at r0 r1 r2 r3 r4 r5 r6 FF
   rw [dF] at hwF
   rw [← hwF]
   refine bodyPost_ret (v:=.tuple #[.agg #[.bool pk,.int .u64 (D.pl : Int),.slice pao D.ps.length pcap,.slice cao D.cs.length ccap,.slice fao rows.length fcap,.slice sao svs.length scap,.slice eao Fi.length ecap],.int .i64 0]) (by simp [results,Tryz.results15,go_sem,r0,r1,r2,r3,r4,r5,r6]) rfl ?_
   have hlo : w.heap.size + 1 ≤ w3.heap.size:=(Array.getElem?_eq_some_iff.1 HB3.out).1
   have hDM : DescM wc (w.heap.size + 1) (.agg #[.bool pk,.int .u64 (D.pl : Int),.slice pao D.ps.length pcap,.slice cao D.cs.length ccap,.slice fao rows.length fcap,.slice sao svs.length scap,.slice eao Fi.length ecap]) (pk,D,Fi) :=
     ⟨_,_,_,_,_,rows,svs,rfl,HS.out.ps.mono hlo,HS.out.cs.mono hlo,HS.out.fo.mono hlo,own_monoM HS.out.ss hlo,HS.out.sm.mono hlo,own_monoM HEs.out hlo⟩
   refine ⟨_,by rw [HE.out];rfl,?_,(HF3.out.trans HF4.out (by have:=HGP.out;simp;omega)).trans FF (by simp)⟩
   rw [HE.out]
   exact hDM.fr FF (by simp)
end Go.Proofs.YtkodindajfdagaaGreatDoor
