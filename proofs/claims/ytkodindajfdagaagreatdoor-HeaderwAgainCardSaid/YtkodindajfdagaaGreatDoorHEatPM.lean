/- What a header says, read without a fault, is short when it is written: the plain law. No condition. -/
import Derived.Test.YtkodindajfdagaaGreatDoorKN
import Derived.Test.YtkodindajfdagaaGreatDoorKH
import Derived.Test.YtkodindajfdagaaGreatDoorKI
namespace Go.Proofs.YtkodindajfdagaaGreatDoor
open Go.RowKit Go.Maps
theorem streamsB_fw (D : Strm) (hD : D.fo = []) (id : Nat) (t : Rs) (h : (Rs.streamsB D id t).2.ok.k = 0) (ha : t.c.at_ ≤ t.c.b.length) : fw (Rs.streamsB D id t).1.fo ≤ t.c.b.length:=by
 unfold Rs.streamsB at h ⊢
 split
 · rename_i hc
   rw [if_pos hc] at h
   rw [streamsC_fo]
   have h1:=(streamsC_st _ _ _).keep h
   have h2:=(byte_st _).keep h1
   have hs:=at_st t (id == 7)
   have:=folders_fw h2 (by rw [hs.b];exact hs.at_ ha)
   rw [hs.b] at this
   dsimp only
   exact this
 · rw [streamsC_fo,hD]
   exact Nat.zero_le _
theorem streams_fw {s : Rs} (h : s.streams.2.ok.k = 0) (ha : s.c.at_ ≤ s.c.b.length) : fw s.streams.1.fo ≤ s.c.b.length:=by
 have h0:=byte_st s
 have ha0 : s.byte.2.c.at_ ≤ s.byte.2.c.b.length:=by rw [h0.b];exact h0.at_ ha
 unfold Rs.streams at h ⊢
 unfold Rs.streamsA at h ⊢
 have hs:=at_st s.byte.2 (s.byte.1 == 6)
 have ha1 : (s.byte.2.at (s.byte.1 == 6)).2.c.at_ ≤ (s.byte.2.at (s.byte.1 == 6)).2.c.b.length:=by rw [hs.b];exact hs.at_ ha0
 split
 · rename_i hc
   rw [if_pos hc] at h
   have hp:=(packs_st (s.byte.2.at (s.byte.1 == 6)).2).trans (byte_st _)
   have:=streamsB_fw _ rfl _ _ h (by rw [hp.b];exact hp.at_ ha1)
   rw [hp.b,hs.b,h0.b] at this
   exact this
 · rename_i hc
   rw [if_neg hc] at h
   have:=streamsB_fw _ rfl _ _ h ha1
   rw [hs.b,h0.b] at this
   exact this
theorem allC_fst (D : Strm) (id : Nat) (s : Rs) : (Rs.allC D id s).1.1 = D:=by
 unfold Rs.allC
 split <;> rfl
theorem allC_names (D : Strm) (id : Nat) (s : Rs) : 2 * nameN (Rs.allC D id s).1.2 ≤ 3 * s.c.b.length:=by
 unfold Rs.allC
 split
 · have:=files_nameN (s.at (id == 5)).2
   rw [(at_st s (id == 5)).b] at this
   exact this
 · exact Nat.zero_le _
theorem allB_fw (id : Nat) (s : Rs) (h : (Rs.allB id s).2.ok.k = 0) (ha : s.c.at_ ≤ s.c.b.length) : fw (Rs.allB id s).1.1.fo ≤ s.c.b.length ∧ 2 * nameN (Rs.allB id s).1.2 ≤ 3 * s.c.b.length:=by
 unfold Rs.allB at h ⊢
 have hs:=at_st s (id == 4)
 split
 · rename_i hc
   rw [if_pos hc] at h
   rw [allC_fst]
   have h1:=(allC_st _ _ _).keep h
   have h2:=(byte_st _).keep h1
   refine ⟨?_,?_⟩
   · have:=streams_fw h2 (by rw [hs.b];exact hs.at_ ha)
     rw [hs.b] at this
     exact this
   · have:=allC_names (s.at (id == 4)).2.streams.1 (s.at (id == 4)).2.streams.2.byte.1 (s.at (id == 4)).2.streams.2.byte.2
     rw [byte_b,streams_b,hs.b] at this
     exact this
 · rw [allC_fst]
   refine ⟨Nat.zero_le _,?_⟩
   have:=allC_names noStrm id (s.at (id == 4)).2
   rw [hs.b] at this
   exact this
theorem allA_fw (id : Nat) (s : Rs) (h : (Rs.allA id s).2.ok.k = 0) (ha : s.c.at_ ≤ s.c.b.length) : fw (Rs.allA id s).1.1.fo ≤ s.c.b.length ∧ 2 * nameN (Rs.allA id s).1.2 ≤ 3 * s.c.b.length:=by
 unfold Rs.allA at h ⊢
 have hs:=at_st s (id == 3)
 have hst : St s (if (s.at (id == 3)).1 then (s.at (id == 3)).2.fail 6 else (s.at (id == 3)).2):=by
   split
   · exact hs.trans (St.fail _ 6 (by omega))
   · exact hs
 have:=allB_fw id _ h (by rw [hst.b];exact hst.at_ ha)
 rw [hst.b] at this
 exact this
theorem all_fw {s : Rs} (h : s.all.2.ok.k = 0) (ha : s.c.at_ ≤ s.c.b.length) : fw s.all.1.1.fo ≤ s.c.b.length ∧ 2 * nameN s.all.1.2 ≤ 3 * s.c.b.length:=by
 unfold Rs.all at h ⊢
 have h0:=byte_st s
 have hs:=h0.trans (at_st s.byte.2 (s.byte.1 == 2))
 split
 · rename_i hc
   rw [if_pos hc] at h
   have hp : St s (s.byte.2.at (s.byte.1 == 2)).2.props.byte.2:=(hs.trans (propsGo_st _ _)).trans (byte_st _)
   have:=allA_fw _ _ h (by rw [hp.b];exact hp.at_ ha)
   rw [hp.b] at this
   exact this
 · rename_i hc
   rw [if_neg hc] at h
   have:=allA_fw _ _ h (by rw [hs.b];exact hs.at_ ha)
   rw [hs.b] at this
   exact this
theorem parse_fw (b : List UInt8) (h : (parseL b).2 = 0) : fw (parseL b).1.2.1.fo ≤ b.length ∧ 2 * nameN (parseL b).1.2.2 ≤ 3 * b.length:=by
 unfold parseL at h ⊢
 by_cases hb : b = []
 · rw [if_pos hb]
   exact ⟨Nat.zero_le _,Nat.zero_le _⟩
 rw [if_neg hb] at h ⊢
 by_cases hk : (parseTail (parseBody (newRs b))).k = 0
 rotate_left
 · rw [if_neg hk] at h
   exact absurd h hk
 rw [if_pos hk]
 dsimp only
 have hb0 : (parseBody (newRs b)).2.ok.k = 0:=by
   by_cases hz : (parseBody (newRs b)).2.ok.k = 0
   · exact hz
   · exfalso
     have e1 : (parseBody (newRs b)).2.partEnd = (parseBody (newRs b)).2.ok:=by unfold Rs.partEnd;rw [if_neg (fun hh => hz hh.1)]
     unfold parseTail at hk
     rw [e1,Rs.ok_ok,if_neg (fun hh => hz hh.1)] at hk
     exact hz hk
 have h0:=byte_st (newRs b)
 have ha0 : (newRs b).byte.2.c.at_ ≤ (newRs b).byte.2.c.b.length:=by rw [h0.b];exact h0.at_ (Nat.zero_le _)
 have e0 : (newRs b).byte.2.c.b.length = b.length:=by rw [h0.b];rfl
 unfold parseBody at hb0 ⊢
 split
 · rename_i hc
   rw [if_pos hc] at hb0
   have:=all_fw hb0 ha0
   rw [e0] at this
   exact this
 · rename_i hc
   rw [if_neg hc] at hb0
   split
   · rename_i hc2
     rw [if_pos hc2] at hb0
     have:=streams_fw ((oneSub_st _ _).keep hb0) ha0
     rw [e0] at this
     exact ⟨this,Nat.zero_le _⟩
   · exact ⟨Nat.zero_le _,Nat.zero_le _⟩
def toD (M : Strm) : StD:=⟨UInt64.ofNat M.pl,M.ps,M.cs,M.fo,M.ss⟩
theorem sD_toD {M : Strm} (h : M.pl ≤ 1099511627776) : sD (toD M) = M:=by
 obtain ⟨pl,ps,cs,fo,ss⟩:=M
 unfold sD toD
 dsimp only at h ⊢
 congr 1
 simp
 omega
theorem pw_parts (C : List Coder) : (C.map fun c => c.props.length).sum + C.length = pw C:=by
 unfold pw
 induction C with
 | nil => rfl
 | cons c t ih =>
   simp only [List.map_cons,List.sum_cons,List.length_cons] at ih ⊢
   omega
theorem fol_cost {x : Fol} (h : FolSz x.f) : folN x.f + 9 * x.f.sizes.length ≤ 10 + 80 * pw x.f.coders:=by
 have h1:=pw_parts x.f.coders
 have h2:=insL_le x.f.coders
 have h3:=h.1.pl
 have h4:=h.1.bl
 have h5:=h.2.1
 unfold folN propN
 omega
theorem fols_cost : ∀ (L : List Fol),(∀ x ∈ L,FolSz x.f) → folSN L ≤ 80 * fw L
 | [],_ => Nat.zero_le _
 | x :: t,h => by
   have h1:=fol_cost (h x (by simp))
   have h2:=fols_cost t (fun y hy => h y (List.mem_cons_of_mem _ hy))
   unfold folSN fw at h2 ⊢
   simp only [List.map_cons,List.sum_cons]
   omega
theorem again_len {b : List UInt8} (hb : b.length ≤ 8192) (h : (parseL b).2 = 0) {pk : Bool} {M : Strm} {F : List Fil} (e : (parseL b).1 = (pk,M,F)) (hm : mayAll pk (toD M) F = true) :
   (strmW (toD M)).length + (filesW F).length ≤ 3999000 ∧ manyOf M.ss ≤ 8192:=by
 have hn:=parse_nice b h
 obtain ⟨w1,w2⟩:=parse_fw b h
 rw [e] at hn w1 w2
 have h1:=strmW_le (toD M)
 have h2:=filesW_le F
 have h3:=fols_cost M.fo hn.st.fo
 have h4:=hn.st.ps
 have h5:=hn.st.cs
 have h6:=hn.fl
 have h7:=hn.fo
 have h8:=hn.ss
 dsimp only at h3 h4 h5 h6 h7 h8 w1 w2
 have hmany : manyOf M.ss ≤ 8192:=by
   unfold mayAll mayR at hm
   cases hs : mayStr (toD M) with
   | false => rw [hs] at hm;simp at hm
   | true =>
     rw [hs,if_pos rfl] at hm
     cases pk with
     | true =>
       simp only [Bool.not_true,Bool.false_or,if_true,Bool.true_and,Bool.and_eq_true,decide_eq_true_eq] at hm
       have : manyOf M.ss = 1:=hm.1.2
       omega
     | false =>
       rw [if_neg (by simp)] at hm
       simp only [Bool.and_eq_true,decide_eq_true_eq] at hm
       have e1 : manyOf M.ss = streamN F:=hm.2
       have e2 : streamN F ≤ F.length:=List.countP_le_length
       omega
 refine ⟨?_,hmany⟩
 have g1 : (toD M).ps = M.ps:=rfl
 have g2 : (toD M).cs = M.cs:=rfl
 have g3 : (toD M).L = M.fo:=rfl
 have g4 : (toD M).S = M.ss:=rfl
 rw [g1,g2,g3,g4] at h1
 omega
theorem again_fit {b : List UInt8} (hb : b.length ≤ 8192) (h : (parseL b).2 = 0) {pk : Bool} {M : Strm} {F : List Fil} (e : (parseL b).1 = (pk,M,F)) :
   StFit (toD M) ∧ DeFit (toD M) F ∧ F.length ≤ 8192 ∧ M.ss.length ≤ 8192 ∧ (∀ x ∈ F,x.name.length ≤ 100000) ∧ sD (toD M) = M:=by
 have hn:=parse_nice b h
 obtain ⟨w1,w2⟩:=parse_fw b h
 rw [e] at hn w1 w2
 have h4:=hn.st.ps
 have h5:=hn.st.cs
 have h6:=hn.fl
 have h7:=hn.fo
 have h8:=hn.ss
 have h9:=hn.st.pl
 dsimp only at h4 h5 h6 h7 h8 h9 w1 w2
 have hfo : ∀ x ∈ M.fo,x.f.coders.length ≤ 8 ∧ x.f.binds.length ≤ 8 ∧ x.f.packs.length ≤ 32 ∧ x.f.sizes.length ≤ 8:=fun x hx => by
   have q:=hn.st.fo x hx
   have c8:=q.1.c8
   have bl:=q.1.bl
   have pl:=q.1.pl
   have il:=insL_le x.f.coders
   have sl:=q.2.1
   omega
 have hsu : ∀ l ∈ M.ss,l.length ≤ 8192:=fun l hl => by
   have:=(hn.rw l hl).2
   omega
 refine ⟨⟨by show M.ps.length ≤ _;omega,by show M.cs.length ≤ _;omega,by show M.ss.length ≤ _;omega,by show M.fo.length ≤ _;omega,fun x hx => by have:=hfo x hx;omega,fun l hl => by have:=hsu l hl;omega⟩,
   ⟨by show M.ps.length ≤ _;omega,by show M.cs.length ≤ _;omega,by show M.fo.length ≤ _;omega,by show M.ss.length ≤ _;omega,by omega,fun x hx => by have:=hfo x hx;omega,fun l hl => by have:=hsu l hl;omega⟩,by omega,by omega,fun x hx => ?_,sD_toD h9⟩
 have : x.name.length ≤ nameN F:=by
   obtain ⟨A,B,rfl⟩:=List.append_of_mem hx
   unfold nameN
   rw [List.map_append,List.map_cons,List.sum_append,List.sum_cons]
   omega
 omega
end Go.Proofs.YtkodindajfdagaaGreatDoor
