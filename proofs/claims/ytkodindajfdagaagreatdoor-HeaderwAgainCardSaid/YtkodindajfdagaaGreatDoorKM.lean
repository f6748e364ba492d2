/- What Parse hands back, as a description in memory. No condition. -/
import Derived.Test.YtkodindajfdagaaGreatDoorJO
import Derived.Test.YtkodindajfdagaaGreatDoorKI
import Derived.Test.YtkodindajfdagaaGreatDoorKH
import Derived.Test.YtkodindajfdagaaGreatDoorWAwakeM
import Derived.Test.YtkodindajfdagaaGreatDoorJQ
import Derived.Test.YtkodindajfdagaaGreatDoorKJ
namespace Go.Proofs.YtkodindajfdagaaGreatDoor
open Go.RowKit Go.Maps
theorem RowAt.of_sm {w : World} {lo e m n : Nat} {v : Value} {xs : List Value} (h : Sm w lo e m v n xs) : RowAt w w.heap.size m v n xs:=by
 obtain ⟨ao,cap,e,h1,h2,h3⟩:=h.out
 refine ⟨ao,cap,e,h1,h2,fun j hj => ?_⟩
 obtain ⟨b,o,q1,-,q2,q3⟩:=h3 j hj
 refine ⟨b,o,q1,q2,q2,fun k hk => ?_⟩
 rw [Nat.add_assoc]
 refine q3 (j * m + k) ?_
 have : (j + 1) * m ≤ n * m:=Nat.mul_le_mul_right m hj
 rw [Nat.succ_mul] at this
 omega
theorem FolR.of_fols {w : World} {lo : Nat} {fv : Value} {rows : List FoRow} {L : List Fol} (h : FolsAt w lo fv rows L) : FolR w fv L:=by
 obtain ⟨ao,cap,e,h1,h2⟩:=own_outS h.own
 have hl:=h.rw.len
 refine ⟨ao,cap,by rw [e,hl],by omega,h2,fun j x hx => ?_⟩
 have hj : j < L.length:=(List.getElem?_eq_some_iff.1 hx).1
 obtain ⟨r,hr⟩:=some_get rows j (by omega)
 have hrow:=h.rw.row j r x hr hx
 have hown:=h.own
 rcases hown.2 with ⟨-,h0⟩ | ⟨g,cap',cur,h3,-,hg,-⟩
 · omega
 · rw [e] at h3
   injection h3 with h3 _ _
   have hc : ∀ k,k < 6 → w.cell? ⟨g,j * 6 + k,none⟩ = r.cells[k]?:=fun k hk => by
     have e2 : fv = .slice (some ⟨g,0,none⟩) rows.length cap:=by rw [e,h3]
     rw [e2] at hown
     rw [hown.cellAt (j * 6 + k) (by omega),foV_get rows j r hr k hk]
   obtain ⟨c,b,p,s,hh,kk,e4,hV⟩:=hrow.fo
   injection e4 with e4
   have e5 : [r.cv,r.bv,r.pv,r.sv,.bool r.has,.int .u32 r.sum.toNat] = [c,b,p,s,hh,kk]:=by
     have:=congrArg Array.toList e4
     simpa using this
   simp only [List.cons.injEq] at e5
   obtain ⟨e6,e7,e8,e9,-,-,-⟩:=e5
   refine ⟨g,0,c,b,p,s,h3,(Array.getElem?_eq_some_iff.1 hg).1,?_,?_,?_,?_,?_,?_,hV⟩
   · rw [Nat.zero_add,← e6];exact hc 0 (by decide)
   · rw [Nat.zero_add,← e7];exact hc 1 (by decide)
   · rw [Nat.zero_add,← e8];exact hc 2 (by decide)
   · rw [Nat.zero_add,← e9];exact hc 3 (by decide)
   · rw [Nat.zero_add,← hrow.has];exact hc 4 (by decide)
   · rw [Nat.zero_add,← hrow.sum];exact hc 5 (by decide)
theorem WSubsR.of_subs {w : World} {lo : Nat} {sv : Value} {svs : List Value} {S : List (List Sub)} (ho : w.ownsRow lo 73 1 sv svs.length svs) (hs : SubsM w lo svs S) : WSubsR w sv S:=by
 obtain ⟨ao,cap,e,h1,h2⟩:=own_outS ho
 have hl:=hs.len
 refine ⟨ao,cap,by rw [e,hl],by omega,h2,fun j l hl2 => ?_⟩
 have hj : j < S.length:=(List.getElem?_eq_some_iff.1 hl2).1
 obtain ⟨v,hv⟩:=some_get svs j (by omega)
 rcases ho.2 with ⟨-,h0⟩ | ⟨g,cap',cur,h3,-,hg,-⟩
 · omega
 · rw [e] at h3
   injection h3 with h3 _ _
   have e2 : sv = .slice (some ⟨g,0,none⟩) svs.length cap:=by rw [e,h3]
   rw [e2] at ho
   have hc:=ho.cellAt j (by omega)
   exact ⟨g,0,v,h3,(Array.getElem?_eq_some_iff.1 hg).1,by rw [Nat.zero_add];exact hc.trans hv,RowAt.of_own (hs.row j v l hv hl2) _ (Nat.le_refl _)⟩
theorem DescM.de {w : World} {lo : Nat} {v : Value} {pk : Bool} {D : StD} {F : List Fil} (h : DescM w lo v (pk,sD D,F)) : DeR w v pk D F:=by
 obtain ⟨psv,csv,fv,sv,es,rows,svs,e,s1,s2,s3,s4,s5,s6⟩:=h.ex
 exact ⟨⟨.bool pk,.int .u64 D.pl.toNat,psv,csv,fv,sv,es⟩,e,rfl,⟨rfl,RowAt.of_sm s1,RowAt.of_sm s2,FolR.of_fols s3,WSubsR.of_subs s4 s5⟩,RowAt.of_own s6 _ (Nat.le_refl _)⟩
end Go.Proofs.YtkodindajfdagaaGreatDoor
/- The law HeaderwBack: the walk. No condition but that lengths are those of what a memory can hold, and what the library's tables hold. -/
namespace Go.Proofs.YtkodindajfdagaaGreatDoor
open Go.RowKit Go.Maps
theorem sl_outC {w : World} {v : Value} {l : List UInt8} (h : Sl w v (bv l)) : ∃ ao cap,v = .slice ao l.length cap ∧ l.length ≤ cap ∧ cap ≤ 9223372036854775807:=by
 obtain ⟨ao,cap,e,h1,h2,-⟩:=h.out
 rw [bv_length] at e h1
 exact ⟨ao,cap,e,h1,h2⟩
theorem parse_desc (w : World) (v : Value) (B : List UInt8) (pk : Bool) (D : StD) (F : List Fil) (hv : Sl w v (bv B)) (hB : B.length ≤ 4000000) (hp : parseL B = ((pk,sD D,F),0)) :
   Calls Tryz.prog 15 #[v] w fun e w' => ∃ a1 a2 a3 a4 a5 c1 c2 c3 c4 c5,e = .returned (.tuple #[.agg #[.bool pk,.int .u64 D.pl.toNat,.slice a1 D.ps.length c1,.slice a2 D.cs.length c2,.slice a3 D.L.length c3,.slice a4 D.S.length c4,.slice a5 F.length c5],.int .i64 0]) ∧
     DeR w' (.agg #[.bool pk,.int .u64 D.pl.toNat,.slice a1 D.ps.length c1,.slice a2 D.cs.length c2,.slice a3 D.L.length c3,.slice a4 D.S.length c4,.slice a5 F.length c5]) pk D F ∧ Fr [] w w':=by
 refine (parse_any w v B hv hB).mono ?_
 rintro e w' ⟨v',rfl,hd,F1⟩
 rw [hp] at hd ⊢
 have hde:=hd.de
 obtain ⟨psv,csv,fv,sv,es,rows,svs,rfl,s1,s2,s3,s4,s5,s6⟩:=hd.ex
 obtain ⟨a1,c1,rfl,-⟩:=s1.out
 obtain ⟨a2,c2,rfl,-⟩:=s2.out
 obtain ⟨a3,c3,rfl,-⟩:=own_outS s3.own
 obtain ⟨a4,c4,rfl,-⟩:=own_outS s4
 obtain ⟨a5,c5,rfl,-⟩:=own_outS s6
 have e3 : rows.length = D.L.length:=s3.rw.len
 have e5 : svs.length = D.S.length:=s5.len
 rw [e3,e5] at hde ⊢
 exact ⟨a1,a2,a3,a4,a5,c1,c2,c3,c4,c5,rfl,hde,F1⟩
end Go.Proofs.YtkodindajfdagaaGreatDoor
