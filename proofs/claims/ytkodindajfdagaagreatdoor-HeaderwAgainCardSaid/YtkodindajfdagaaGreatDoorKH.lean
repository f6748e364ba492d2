/- Sums and packs, written and read: the plain laws. No condition. -/
import Derived.Test.YtkodindajfdagaaGreatDoorJP
import Derived.Test.YtkodindajfdagaaGreatDoorKC
import Derived.Test.YtkodindajfdagaaGreatDoorKE
import Derived.Test.YtkodindajfdagaaGreatDoorKJ
namespace Go.Proofs.YtkodindajfdagaaGreatDoor
open Go.RowKit Go.Maps
theorem sumsL_back {b post : List UInt8} : ∀ (cs : List Ck) (p : Nat) (out : List Ck),b.drop p = cs.flatMap ckB ++ post → cs.all ckOk = true →
   sumsL (cs.map (·.has)) (st b p) out = (out ++ cs,st b (p + (cs.flatMap ckB).length)):=by
 intro cs
 induction cs with
 | nil => intro p out _ _;rw [List.append_nil];rfl
 | cons c t ih =>
   intro p out h hf
   rw [List.all_cons,Bool.and_eq_true] at hf
   obtain ⟨hs,sm⟩:=c
   rw [List.flatMap_cons] at h ⊢
   rw [List.map_cons]
   cases hs with
   | false =>
     have h0 : sm = 0:=by
       have:=hf.1
       unfold ckOk at this
       simpa using this
     subst h0
     rw [sumsL,if_neg (by simp [st_ok,st_k])]
     show sumsL (t.map (·.has)) (st b p) (out ++ [⟨false,UInt32.ofNat 0⟩]) = _
     rw [ih p _ (by simpa [ckB] using h) hf.2]
     simp [ckB]
   | true =>
     have h1 : b.drop p = leBytes 4 sm.toNat ++ (t.flatMap ckB ++ post):=by rw [h];simp [ckB]
     have hn:=st_num h1 (by omega) (by have:=sm.toNat_lt;omega)
     rw [show ((4 : Nat) : Int) = 4 from rfl] at hn
     have h2:=drop_next h1
     rw [leBytes_length] at h2
     rw [sumsL,if_pos rfl,hn]
     dsimp only
     rw [st_ok,if_neg (by rw [st_k];simp),if_pos rfl,ih (p + 4) _ h2 hf.2]
     simp only [List.append_assoc,List.singleton_append,List.length_append]
     rw [show (ckB ⟨true,sm⟩).length = 4 by simp [ckB,leBytes_length],show UInt32.ofNat sm.toNat = sm by simp,Nat.add_assoc]
theorem sums_back {b post : List UInt8} {p : Nat} {cs : List Ck} (h : b.drop p = toldN (cs.map (·.has)) ++ (cs.flatMap ckB ++ post)) (hf : cs.all ckOk = true) :
   (st b p).sums cs.length = (cs,st b (p + ((toldN (cs.map (·.has))).length + (cs.flatMap ckB).length))):=by
 have ht:=st_toldR h toldN_pos
 rw [List.length_map] at ht
 have h1:=drop_next h
 unfold Rs.sums
 rw [ht]
 dsimp only
 rw [sumsL_back cs _ [] h1 hf,List.nil_append,Nat.add_assoc]
theorem fair_rep : ∀ {cs : List Ck},cs.all ckOk = true → true ∉ cs.map (·.has) → cs = List.replicate cs.length ⟨false,0⟩
 | [],_,_ => rfl
 | c :: t,hf,hn => by
   rw [List.all_cons,Bool.and_eq_true] at hf
   rw [List.map_cons,List.mem_cons,not_or] at hn
   have ih:=fair_rep hf.2 hn.2
   obtain ⟨hs,sm⟩:=c
   have hs2 : hs = false:=by cases hs with | false => rfl | true => exact (hn.1 rfl).elim
   subst hs2
   have h0 : sm = 0:=by
     have:=hf.1
     unfold ckOk at this
     simpa using this
   subst h0
   rw [List.length_cons,List.replicate_succ,← ih]
theorem packsEnd_back {b post : List UInt8} {p : Nat} {P : List UInt64} {cs : List Ck} (h : b.drop p = sumsW cs ++ (0 :: post)) (hf : cs.all ckOk = true) (hl : cs.length = P.length) :
   Rs.packsEnd P P.length (st b p).byte.1 (st b p).byte.2 = (cs,st b (p + (sumsW cs).length + 1)):=by
 by_cases ht : true ∈ cs.map (·.has)
 · have hw : sumsW cs = 10 :: (toldN (cs.map (·.has)) ++ cs.flatMap ckB):=if_pos ht
   have h1 : b.drop p = 10 :: (toldN (cs.map (·.has)) ++ (cs.flatMap ckB ++ (0 :: post))):=by rw [h,hw];simp
   have h2 : b.drop (p + 1) = toldN (cs.map (·.has)) ++ (cs.flatMap ckB ++ (0 :: post)):=by
     have:=drop_next (x:=[10]) (b:=b) (n:=p) (post:=toldN (cs.map (·.has)) ++ (cs.flatMap ckB ++ (0 :: post))) (by simpa using h1)
     simpa using this
   have hs:=sums_back h2 hf
   rw [hl] at hs
   have h3 : b.drop (p + 1 + ((toldN (cs.map (·.has))).length + (cs.flatMap ckB).length)) = 0 :: post:=by
     rw [← Nat.add_assoc]
     exact drop_next (drop_next h2)
   rw [st_byte h1]
   unfold Rs.packsEnd
   dsimp only
   rw [show ((10 : UInt8).toNat == 10) = true from rfl,at_back]
   dsimp only
   rw [if_pos rfl,hs]
   dsimp only
   rw [st_byte h3]
   show (cs,(st b (p + 1 + ((toldN (cs.map (·.has))).length + (cs.flatMap ckB).length) + 1)).end_ 0) = _
   rw [st_end_,hw,List.length_cons,List.length_append]
   congr 2
   omega
 · have hw : sumsW cs = []:=if_neg ht
   rw [hw,List.nil_append] at h
   rw [st_byte h,hw]
   unfold Rs.packsEnd
   dsimp only
   rw [show ((0 : UInt8).toNat == 10) = false from rfl,at_no]
   dsimp only
   rw [if_neg (by simp),← hl,← fair_rep hf ht]
   show (cs,(st b (p + 1)).end_ 0) = _
   rw [st_end_]
   rfl
theorem packsGo_back {b post : List UInt8} : ∀ (ps : List UInt64) (a p : Nat) (P : List UInt64),b.drop p = numsB ps ++ post → sizesUp a ps = true →
   packsGo ps.length a (st b p) P = (false,P ++ ps,st b (p + (numsB ps).length)):=by
 intro ps
 induction ps with
 | nil => intro a p P _ _;rw [List.append_nil];rfl
 | cons x t ih =>
   intro a p P h hz
   unfold sizesUp at hz
   by_cases hgt : 1099511627776 < a + x.toNat
   · rw [if_pos hgt] at hz;cases hz
   rw [if_neg hgt] at hz
   have hw : numsB (x :: t) = shortN x.toNat ++ numsB t:=rfl
   rw [hw,List.append_assoc] at h
   have hs:=st_size h (by omega)
   have h2:=drop_next h
   have hc : (if (st b (p + (shortN x.toNat).length)).k = 0 ∧ 1099511627776 < a + x.toNat then (st b (p + (shortN x.toNat).length)).fail 7 else st b (p + (shortN x.toNat).length)) = st b (p + (shortN x.toNat).length):=if_neg (fun h => hgt h.2)
   rw [List.length_cons,packsGo,hs]
   dsimp only
   rw [hc,if_neg (by rw [st_k];simp),ih _ _ _ h2 hz,hw,List.length_append,List.append_assoc,Nat.add_assoc,show UInt64.ofNat x.toNat = x by simp]
   rfl
theorem packs_back {b post : List UInt8} {p : Nat} {pl : UInt64} {ps : List UInt64} {cs : List Ck} (hw : ¬ (ps = [] ∧ pl = 0)) (h : b.drop p = packsW pl ps cs ++ post) (hb : b.length < 18446744073709551616) (hpl : pl.toNat ≤ 1099511627776) (hz : sizesUp 0 ps = true) (hf : cs.all ckOk = true) (hl : cs.length = ps.length) :
   (st b p).byte.1 = 6 ∧ (st b (p + 1)).packs = ((pl.toNat,ps,cs),st b (p + (packsW pl ps cs).length)) ∧ (st b p).byte.2 = st b (p + 1):=by
 have hpw : packsW pl ps cs = 6 :: (shortN pl.toNat ++ (shortN ps.length ++ ((if ps = [] then [] else [9]) ++ (numsB ps ++ (sumsW cs ++ [0]))))):=if_neg hw
 have h0 : b.drop p = 6 :: (shortN pl.toNat ++ (shortN ps.length ++ ((if ps = [] then [] else [9]) ++ (numsB ps ++ (sumsW cs ++ (0 :: post)))))):=by rw [h,hpw];simp
 have hby:=st_byte h0
 have h1 : b.drop (p + 1) = shortN pl.toNat ++ (shortN ps.length ++ ((if ps = [] then [] else [9]) ++ (numsB ps ++ (sumsW cs ++ (0 :: post))))):=by
   have:=drop_next (x:=[6]) (b:=b) (n:=p) (post:=shortN pl.toNat ++ (shortN ps.length ++ ((if ps = [] then [] else [9]) ++ (numsB ps ++ (sumsW cs ++ (0 :: post)))))) (by simpa using h0)
   simpa using this
 have hs:=st_size h1 hpl
 have h2:=drop_next h1
 have hle : ps.length ≤ (numsB ps).length:=by
   clear h h0 h1 h2 hz hl hpw hw
   induction ps with
   | nil => exact Nat.zero_le _
   | cons x t ih =>
     rw [show numsB (x :: t) = shortN x.toNat ++ numsB t from rfl,List.length_append,List.length_cons]
     have : 0 < (shortN x.toNat).length:=by simp [shortN]
     omega
 have ht:=st_things h2 (by simp only [List.length_append];omega) hb
 have h3:=drop_next h2
 refine ⟨by rw [hby];rfl,?_,by rw [hby]⟩
 unfold Rs.packs
 rw [hs]
 dsimp only
 rw [ht]
 dsimp only
 by_cases hp0 : ps = []
 · subst hp0
   rw [if_pos rfl,List.nil_append] at h3
   have h3' : b.drop (p + 1 + (shortN pl.toNat).length + (shortN ([] : List UInt64).length).length) = sumsW cs ++ (0 :: post):=by rw [h3];rfl
   have hcs : cs = []:=List.eq_nil_of_length_eq_zero (by rw [hl];rfl)
   subst hcs
   have h4 : b.drop (p + 1 + (shortN pl.toNat).length + (shortN ([] : List UInt64).length).length) = 0 :: post:=by rw [h3'];rfl
   rw [st_byte h4]
   unfold Rs.packsA
   dsimp only
   rw [show ((0 : UInt8).toNat == 9) = false from rfl,at_no]
   dsimp only
   rw [if_neg (by simp),show (decide (0 < ([] : List UInt64).length)) = false from rfl,at_no]
   dsimp only
   rw [if_neg (by simp)]
   unfold Rs.packsEnd
   rw [show ((0 : UInt8).toNat == 10) = false from rfl,at_no]
   dsimp only
   rw [if_neg (by simp)]
   show ((pl.toNat,[],[]),(st b _).end_ 0) = _
   rw [st_end_,hpw]
   have e1 : (sumsW []).length = 0:=rfl
   have e2 : (numsB []).length = 0:=rfl
   rw [if_pos rfl]
   simp only [List.length_cons,List.length_append,List.length_nil,e1,e2]
   congr 2
   omega
 · rw [if_neg hp0] at h3
   have h3' : b.drop (p + 1 + (shortN pl.toNat).length + (shortN ps.length).length) = 9 :: (numsB ps ++ (sumsW cs ++ (0 :: post))):=by rw [h3];rfl
   have h4 : b.drop (p + 1 + (shortN pl.toNat).length + (shortN ps.length).length + 1) = numsB ps ++ (sumsW cs ++ (0 :: post)):=by
     have:=drop_next (x:=[9]) (b:=b) (n:=p + 1 + (shortN pl.toNat).length + (shortN ps.length).length) (post:=numsB ps ++ (sumsW cs ++ (0 :: post))) (by simpa using h3')
     simpa using this
   have hg:=packsGo_back ps 0 _ [] h4 hz
   have h5:=drop_next h4
   have he:=packsEnd_back (P:=ps) h5 hf hl
   rw [st_byte h3']
   unfold Rs.packsA
   dsimp only
   rw [show ((9 : UInt8).toNat == 9) = true from rfl,at_back]
   dsimp only
   rw [if_pos rfl,hg]
   dsimp only
   rw [if_neg (by simp),List.nil_append,he]
   rw [hpw,if_neg hp0]
   simp only [List.length_cons,List.length_append,List.length_nil]
   congr 2
   omega
theorem st_check {b : List UInt8} {n e : Nat} : (st b n).check false e = st b n:=by
 unfold Rs.check
 rw [if_neg (by simp)]
 rfl
theorem method_back {m : Int} (h1 : 1 ≤ m) (h7 : m ≤ 7) : (methodOf (methN m) : Int) = m ∧ methodOf (methN m) ≠ 0:=by
 have hm : m = 1 ∨ m = 2 ∨ m = 3 ∨ m = 4 ∨ m = 5 ∨ m = 6 ∨ m = 7:=by omega
 rcases hm with rfl | rfl | rfl | rfl | rfl | rfl | rfl <;> exact ⟨rfl,by decide⟩
theorem coder_back {b post : List UInt8} {p : Nat} {c : Coder} (h : b.drop p = coderW c ++ post) (hb : b.length < 18446744073709551616) (h1 : 1 ≤ c.method) (h7 : c.method ≤ 7) : (st b p).coder = (c,st b (p + (coderW c).length)):=by
 obtain ⟨m,props⟩:=c
 dsimp only at h1 h7
 obtain ⟨hmo,hm0⟩:=method_back h1 h7
 have hL:=meth_len m
 obtain ⟨f,hf⟩ : ∃ f,f = flagsN ⟨m,props⟩:=⟨_,rfl⟩
 have hfe : f = (methN m).length + (if m = 6 then 16 else 0) + (if props = [] then 0 else 32):=hf
 have hf16 : f % 16 = (methN m).length:=by rw [hfe];split <;> split <;> omega
 have hf64 : f / 64 = 0:=by rw [hfe];split <;> split <;> omega
 have hfs : (f / 16 % 2 == 1) = decide (m = 6):=by
   by_cases e : m = 6
   · rw [decide_eq_true e,beq_iff_eq,hfe,if_pos e];split <;> omega
   · rw [decide_eq_false e,beq_eq_false_iff_ne,hfe,if_neg e];split <;> omega
 have hfp : (f / 32 % 2 == 1) = !(decide (props = [])):=by
   by_cases e : props = []
   · rw [decide_eq_true e,hfe,if_pos e];split <;> simp <;> omega
   · rw [decide_eq_false e,hfe,if_neg e];split <;> simp <;> omega
 have hf256 : f < 256:=by omega
 have hw : coderW ⟨m,props⟩ = UInt8.ofNat f :: (methN m ++ ((if m = 6 then [4,1] else []) ++ (if props = [] then [] else shortN props.length ++ props))):=by rw [hf];rfl
 have h0 : b.drop p = UInt8.ofNat f :: (methN m ++ ((if m = 6 then [4,1] else []) ++ ((if props = [] then [] else shortN props.length ++ props) ++ post))):=by rw [h,hw];simp
 have hby:=st_byte h0
 rw [show (UInt8.ofNat f).toNat = f by simp;omega] at hby
 have h2 : b.drop (p + 1) = methN m ++ ((if m = 6 then [4,1] else []) ++ ((if props = [] then [] else shortN props.length ++ props) ++ post)):=by
   have:=drop_next (x:=[UInt8.ofNat f]) (b:=b) (n:=p) (post:=methN m ++ ((if m = 6 then [4,1] else []) ++ ((if props = [] then [] else shortN props.length ++ props) ++ post))) (by simpa using h0)
   simpa using this
 have htk:=st_takeR h2
 have h3:=drop_next h2
 unfold Rs.coder
 rw [hby]
 dsimp only
 rw [show decide (f / 64 ≠ 0) = false by simp [hf64],st_check,hf16,htk]
 dsimp only
 unfold Rs.coderA
 rw [st_ok,if_neg (by rw [st_k];simp)]
 unfold Rs.method
 rw [if_pos hm0]
 dsimp only
 unfold Rs.coderB
 rw [hfs,hfp,hmo]
 -- the streams
 obtain ⟨q,hq⟩ : ∃ q,q = p + 1 + (methN m).length:=⟨_,rfl⟩
 rw [← hq] at h3 ⊢
 have htwo : ((st b q).two (decide (m = 6))).1 = (ins m,1) ∧ ((st b q).two (decide (m = 6))).2 = st b (q + (if m = 6 then [4,1] else ([] : List UInt8)).length) ∧ b.drop (q + (if m = 6 then [4,1] else ([] : List UInt8)).length) = (if props = [] then [] else shortN props.length ++ props) ++ post:=by
   by_cases e : m = 6
   · rw [if_pos e] at h3 ⊢
     have h4 : b.drop q = shortN 4 ++ (shortN 1 ++ ((if props = [] then [] else shortN props.length ++ props) ++ post)):=by rw [h3];rfl
     have n4:=st_number h4 (by decide)
     have h5:=drop_next h4
     have n1:=st_number h5 (by decide)
     have h6:=drop_next h5
     unfold Rs.two
     rw [decide_eq_true e,at_back]
     dsimp only
     rw [if_pos rfl,n4]
     dsimp only
     rw [n1]
     refine ⟨by rw [e];rfl,rfl,h6⟩
   · rw [if_neg e] at h3 ⊢
     unfold Rs.two
     rw [decide_eq_false e,at_no]
     dsimp only
     rw [if_neg (by simp)]
     refine ⟨?_,rfl,h3⟩
     have : ins m = 1:=by unfold ins;rw [if_neg e,if_pos ⟨h1,h7⟩]
     rw [this]
 obtain ⟨t1,t2,h5⟩:=htwo
 rw [t1,t2]
 have hck : ((ins m,1).1 != ins m || (ins m,1).2 != (1 : Nat)) = false:=by simp
 rw [hck,st_check]
 obtain ⟨r,hr⟩ : ∃ r,r = q + (if m = 6 then [4,1] else ([] : List UInt8)).length:=⟨_,rfl⟩
 rw [← hr] at h5 ⊢
 have hpr : (st b r).propsOf (!(decide (props = []))) = (props,st b (r + (if props = [] then [] else shortN props.length ++ props).length)):=by
   unfold Rs.propsOf
   by_cases e : props = []
   · rw [decide_eq_true e,Bool.not_true,at_no,if_pos e]
     dsimp only
     rw [if_neg (by simp),e]
     rfl
   · rw [decide_eq_false e,Bool.not_false,at_back,if_neg e]
     rw [if_neg e,List.append_assoc] at h5
     have ht:=st_things h5 (by rw [List.length_append];omega) hb
     have h6:=drop_next h5
     have hk:=st_takeR h6
     dsimp only
     rw [if_pos rfl,ht]
     dsimp only
     rw [hk,List.length_append,Nat.add_assoc]
 rw [hpr]
 have hlen : p + (coderW ⟨m,props⟩).length = r + (if props = [] then [] else shortN props.length ++ props).length:=by
   rw [hw,hr,hq]
   simp only [List.length_cons,List.length_append]
   omega
 rw [hlen]
theorem coders_back {b post : List UInt8} (hb : b.length < 18446744073709551616) : ∀ (C : List Coder) (p : Nat) (L : List Coder),b.drop p = C.flatMap coderW ++ post → (∀ c ∈ C,1 ≤ c.method ∧ c.method ≤ 7) →
   codersGo C.length (st b p) L = (L ++ C,st b (p + (C.flatMap coderW).length)):=by
 intro C
 induction C with
 | nil => intro p L _ _;rw [List.append_nil];rfl
 | cons c t ih =>
   intro p L h hC
   rw [List.flatMap_cons,List.append_assoc] at h
   have hc:=coder_back h hb (hC c (by simp)).1 (hC c (by simp)).2
   have h2:=drop_next h
   rw [List.length_cons,codersGo,st_ok,if_neg (by rw [st_k];simp),hc]
   dsimp only
   rw [ih _ _ h2 (fun x hx => hC x (by simp [hx])),List.append_assoc,List.singleton_append,List.flatMap_cons,List.length_append,Nat.add_assoc]
theorem binds_back {b post : List UInt8} {i n : Nat} (hi : i ≤ 1000000000) (hn : n ≤ 1000000000) : ∀ (B : List (Int × Int)) (p : Nat) (L : List (Int × Int)),b.drop p = B.flatMap bindW ++ post → (∀ x ∈ B,0 ≤ x.1 ∧ x.1 < i ∧ 0 ≤ x.2 ∧ x.2 < n) →
   bindsGo B.length i n (st b p) L = (L ++ B,st b (p + (B.flatMap bindW).length)):=by
 intro B
 induction B with
 | nil => intro p L _ _;rw [List.append_nil];rfl
 | cons x t ih =>
   intro p L h hB
   obtain ⟨x1,x2⟩:=x
   have hx:=hB (x1,x2) (by simp)
   dsimp only at hx
   rw [List.flatMap_cons,show bindW (x1,x2) = shortN x1.toNat ++ shortN x2.toNat from rfl,List.append_assoc,List.append_assoc] at h
   have n1:=st_below (m:=i) h (by omega) hi
   have h2:=drop_next h
   have n2:=st_below (m:=n) h2 (by omega) hn
   have h3:=drop_next h2
   rw [List.length_cons,bindsGo,st_ok,if_neg (by rw [st_k];simp),n1]
   dsimp only
   rw [n2]
   dsimp only
   rw [ih _ _ h3 (fun y hy => hB y (by simp [hy])),List.append_assoc,List.singleton_append,List.flatMap_cons,show bindW (x1,x2) = shortN x1.toNat ++ shortN x2.toNat from rfl]
   simp only [List.length_append]
   rw [show ((x1.toNat : Nat) : Int) = x1 by omega,show ((x2.toNat : Nat) : Int) = x2 by omega]
   congr 2
   omega
theorem below_back {b post : List UInt8} {i : Nat} (hi : i ≤ 1000000000) : ∀ (P : List Int) (p : Nat) (L : List Int),b.drop p = packsI P ++ post → (∀ x ∈ P,0 ≤ x ∧ x < i) →
   belowGo P.length i (st b p) L = (L ++ P,st b (p + (packsI P).length)):=by
 intro P
 induction P with
 | nil => intro p L _ _;rw [List.append_nil];rfl
 | cons x t ih =>
   intro p L h hP
   have hx:=hP x (by simp)
   have hw : packsI (x :: t) = shortN x.toNat ++ packsI t:=rfl
   rw [hw,List.append_assoc] at h
   have n1:=st_below (m:=i) h (by omega) hi
   have h2:=drop_next h
   rw [List.length_cons,belowGo,n1]
   dsimp only
   rw [ih _ _ h2 (fun y hy => hP y (by simp [hy])),hw,List.length_append,List.append_assoc,List.singleton_append,show ((x.toNat : Nat) : Int) = x by omega,Nat.add_assoc]
theorem insL_all (f : Folder) : insL f.coders = allOf f:=by
 unfold insL allOf Folder.first
 rw [List.take_of_length_le (Nat.le_refl _)]
theorem free_lone {f : Folder} {i : Nat} (h : f.binds.length < i) : freeAt f.binds i = loneN f:=by
 have key : ∀ m,f.binds.length < m → ∃ k,((List.range m).find? fun (k : Nat) => !decide ((k : Int) ∈ f.binds.map (·.1))) = some k ∧ loneN f = k:=by
   intro m hm
   cases e : ((List.range m).find? fun (k : Nat) => !decide ((k : Int) ∈ f.binds.map (·.1))) with
   | none =>
     rw [List.find?_eq_none] at e
     have:=few_of m (f.binds.map (·.1)) (fun j hj => by
       have:=e j (List.mem_range.2 hj)
       simpa using this)
     rw [List.length_map] at this
     omega
   | some k =>
     refine ⟨k,rfl,?_⟩
     rw [List.find?_range_eq_some] at e
     refine lone_at (fun j hj => ?_) ?_
     · have:=e.2.2 j hj
       simpa using this
     · have:=e.1
       simpa using this
 obtain ⟨k,h1,h2⟩:=key i h
 unfold freeAt
 rw [h1,h2]
 rfl
theorem folder_back {b post : List UInt8} {p : Nat} {x : Fol} (h : b.drop p = folderW x.f ++ post) (hb : b.length < 18446744073709551616) (hm : mayFol x = true) : (st b p).folder = ({ x.f with sizes:=[] },st b (p + (folderW x.f).length)):=by
 obtain ⟨f,ck⟩:=x
 dsimp only at h ⊢
 have hco : ∀ c ∈ f.coders,1 ≤ c.method ∧ c.method ≤ 7:=(mayFol_ok hm).m
 unfold mayFol foHead paHead at hm
 simp only [Bool.and_eq_true,decide_eq_true_eq] at hm
 obtain ⟨⟨⟨⟨⟨⟨⟨⟨a1,a2⟩,a3⟩,a4⟩,-⟩,-⟩,hbi⟩,⟨hpl,hpa⟩⟩,hlo⟩:=hm
 have hall:=allOf_le f
 have hbi2 : ∀ y ∈ f.binds,0 ≤ y.1 ∧ y.1 < allOf f ∧ 0 ≤ y.2 ∧ y.2 < f.coders.length:=fun y hy => by
   have:=List.all_eq_true.1 hbi y hy
   unfold biOk at this
   simp only [Bool.and_eq_true,decide_eq_true_eq] at this
   omega
 have hpa2 : ∀ y ∈ f.packs,0 ≤ y ∧ y < allOf f:=fun y hy => by
   have:=List.all_eq_true.1 hpa y hy
   unfold paOk at this
   simp only [Bool.and_eq_true,decide_eq_true_eq] at this
   exact this
 have hge : f.coders.length ≤ allOf f:=all_ge (fun c hc => by
   have:=hco c hc
   rw [Ne,ins_zero]
   omega) f.coders.length (Nat.le_refl _)
 have h0 : b.drop p = shortN f.coders.length ++ (f.coders.flatMap coderW ++ (f.binds.flatMap bindW ++ ((if 1 < f.packs.length then packsI f.packs else []) ++ post))):=by rw [h];unfold folderW;simp only [List.append_assoc]
 have hn:=st_number h0 (by omega)
 have h1:=drop_next h0
 have hC:=coders_back hb f.coders _ [] h1 hco
 have h2:=drop_next h1
 have hB:=binds_back (i:=allOf f) (n:=f.coders.length) (by omega) (by omega) f.binds _ [] h2 hbi2
 have h3:=drop_next h2
 unfold Rs.folder
 rw [hn]
 dsimp only
 rw [show (decide (f.coders.length < 1) || decide (8 < f.coders.length)) = false by rw [decide_eq_false (by omega),decide_eq_false (by omega)];rfl,st_check]
 unfold Rs.folderC
 rw [hC]
 dsimp only
 rw [List.nil_append,insL_all,show f.coders.length - 1 = f.binds.length by omega,hB]
 dsimp only
 rw [List.nil_append]
 unfold Rs.folderD
 rw [st_ok,if_neg (by rw [st_k];simp),insL_all]
 obtain ⟨q,hq⟩ : ∃ q,q = p + (shortN f.coders.length).length + (f.coders.flatMap coderW).length + (f.binds.flatMap bindW).length:=⟨_,rfl⟩
 rw [← hq] at h3 ⊢
 have hlen : p + (folderW f).length = q + (if 1 < f.packs.length then packsI f.packs else []).length:=by
   rw [hq]
   unfold folderW
   simp only [List.length_append]
   omega
 rw [hlen]
 by_cases h1p : 1 < f.packs.length
 · rw [if_neg (by omega),if_pos h1p]
   rw [if_pos h1p] at h3
   have hP:=below_back (i:=allOf f) (by omega) f.packs q [] h3 hpa2
   rw [show allOf f - f.binds.length = f.packs.length by omega,hP,List.nil_append]
 · rw [if_pos (by omega),if_neg h1p,free_lone (by omega)]
   have hlone:=lone_le f
   have hpk : f.packs = [(loneN f : Int)]:=by
     unfold lonely at hlo
     rw [decide_eq_false h1p,Bool.false_or,decide_eq_true_eq] at hlo
     cases hp : f.packs with
     | nil => rw [hp] at hlo;simp at hlo
     | cons y t =>
       rw [hp] at hlo h1p
       have ht : t = []:=by
         cases t with
         | nil => rfl
         | cons z u => exact (h1p (by simp)).elim
       subst ht
       simp at hlo
       rw [hlo]
   rw [if_neg (by omega),← hpk]
   rfl
theorem st_must {b post : List UInt8} {n : Nat} {x : UInt8} (h : b.drop n = x :: post) : (st b n).must x.toNat = st b (n + 1):=by
 unfold Rs.must
 rw [st_byte h]
 dsimp only
 rw [st_ok,if_neg (by simp)]
theorem foldersGo_back {b post : List UInt8} (hb : b.length < 18446744073709551616) : ∀ (L : List Fol) (p : Nat) (A : List Folder),b.drop p = foB L ++ post → (∀ x ∈ L,mayFol x = true) →
   foldersGo L.length (st b p) A = (A ++ L.map fun x => { x.f with sizes:=[] },st b (p + (foB L).length)):=by
 intro L
 induction L with
 | nil => intro p A _ _;rw [List.map_nil,List.append_nil];rfl
 | cons x t ih =>
   intro p A h hL
   have hw : foB (x :: t) = folderW x.f ++ foB t:=rfl
   rw [hw,List.append_assoc] at h
   have hf:=folder_back h hb (hL x (by simp))
   have h2:=drop_next h
   rw [List.length_cons,foldersGo,st_ok,if_neg (by rw [st_k];simp),hf]
   dsimp only
   rw [ih _ _ h2 (fun y hy => hL y (by simp [hy])),hw,List.length_append,List.map_cons,List.append_assoc,List.singleton_append,Nat.add_assoc]
theorem sizesFor_back {b post : List UInt8} : ∀ (zs : List UInt64) (p : Nat) (S : List UInt64),b.drop p = numsB zs ++ post → (∀ z ∈ zs,z.toNat ≤ 1099511627776) →
   sizesFor zs.length (st b p) S = (S ++ zs,st b (p + (numsB zs).length)):=by
 intro zs
 induction zs with
 | nil => intro p S _ _;rw [List.append_nil];rfl
 | cons z t ih =>
   intro p S h hz
   have hw : numsB (z :: t) = shortN z.toNat ++ numsB t:=rfl
   rw [hw,List.append_assoc] at h
   have hs:=st_size h (hz z (by simp))
   have h2:=drop_next h
   rw [List.length_cons,sizesFor,hs]
   dsimp only
   rw [ih _ _ h2 (fun y hy => hz y (by simp [hy])),hw,List.length_append,List.append_assoc,List.singleton_append,show UInt64.ofNat z.toNat = z by simp,Nat.add_assoc]
theorem mayFol_sizes {x : Fol} (h : mayFol x = true) : x.f.sizes.length = x.f.coders.length ∧ (∀ z ∈ x.f.sizes,z.toNat ≤ 1099511627776) ∧ ckOk x.ck = true:=by
 unfold mayFol foHead at h
 simp only [Bool.and_eq_true,decide_eq_true_eq] at h
 obtain ⟨⟨⟨⟨⟨⟨⟨⟨-,-⟩,-⟩,a4⟩,a5⟩,hco⟩,-⟩,-⟩,-⟩:=h
 refine ⟨a4,fun z hz => ?_,a5⟩
 obtain ⟨j,hj⟩:=List.mem_iff_getElem?.1 hz
 have hjl:=(List.getElem?_eq_some_iff.1 hj).1
 obtain ⟨c,hc⟩:=some_get x.f.coders j (by omega)
 have:=zip_all hco hc hj
 unfold coOk at this
 simp only [Bool.and_eq_true,decide_eq_true_eq] at this
 exact this.2
theorem sizesGo_back {b post : List UInt8} : ∀ (L : List Fol) (p : Nat) (D : List Folder),b.drop p = szB L ++ post → (∀ x ∈ L,mayFol x = true) →
   sizesGo (L.map fun x => { x.f with sizes:=[] }) (st b p) D = (D ++ L.map (·.f),st b (p + (szB L).length)):=by
 intro L
 induction L with
 | nil => intro p D _ _;rw [List.map_nil,List.map_nil,List.append_nil];rfl
 | cons x t ih =>
   intro p D h hL
   have hw : szB (x :: t) = numsB x.f.sizes ++ szB t:=rfl
   rw [hw,List.append_assoc] at h
   obtain ⟨hl,hz,-⟩:=mayFol_sizes (hL x (by simp))
   have hs:=sizesFor_back x.f.sizes p [] h hz
   rw [hl,List.nil_append] at hs
   have h2:=drop_next h
   rw [List.map_cons,sizesGo,st_ok,if_neg (by rw [st_k];simp)]
   dsimp only
   rw [hs]
   dsimp only
   rw [ih _ _ h2 (fun y hy => hL y (by simp [hy])),hw,List.length_append,List.map_cons,List.append_assoc,List.singleton_append,Nat.add_assoc]
theorem withCks_back (L : List Fol) : withCks (L.map (·.f)) (cksL L) = L:=by
 unfold withCks cksL
 refine List.ext_getElem? fun i => ?_
 rw [List.getElem?_mapIdx,List.getElem?_map]
 cases h : L[i]? with
 | none => rfl
 | some x => simp [List.getD_eq_getElem?_getD,h]
theorem withCks_fair (L : List Fol) (h : ∀ x ∈ L,x.ck = ⟨false,0⟩) : withCks (L.map (·.f)) [] = L:=by
 unfold withCks
 refine List.ext_getElem? fun i => ?_
 rw [List.getElem?_mapIdx,List.getElem?_map]
 cases hx : L[i]? with
 | none => rfl
 | some x =>
   have:=h x (List.mem_of_getElem? hx)
   obtain ⟨f,ck⟩:=x
   dsimp only at this
   subst this
   simp
theorem folders_back {b post : List UInt8} {p : Nat} {L : List Fol} (h0 : L ≠ []) (h : b.drop p = foldersW L ++ post) (hb : b.length < 18446744073709551616) (hL : ∀ x ∈ L,mayFol x = true) :
   (st b p).byte = (7,st b (p + 1)) ∧ (st b (p + 1)).folders = (L,st b (p + (foldersW L).length)):=by
 have hw : foldersW L = [7,11] ++ (shortN L.length ++ (0 :: (foB L ++ (12 :: (szB L ++ (sumsW (cksL L) ++ [0])))))):=if_neg h0
 have hck : (cksL L).all ckOk = true:=by
   rw [List.all_eq_true]
   intro c hc
   unfold cksL at hc
   obtain ⟨x,hx,rfl⟩:=List.mem_map.1 hc
   exact (mayFol_sizes (hL x hx)).2.2
 have e0 : b.drop p = [7] ++ (11 :: (shortN L.length ++ (0 :: (foB L ++ (12 :: (szB L ++ (sumsW (cksL L) ++ (0 :: post)))))))):=by rw [h,hw];simp
 have e1:=drop_next e0
 have e1' : b.drop (p + 1) = [11] ++ (shortN L.length ++ (0 :: (foB L ++ (12 :: (szB L ++ (sumsW (cksL L) ++ (0 :: post))))))):=e1
 have e2 : b.drop (p + 1 + 1) = shortN L.length ++ (0 :: (foB L ++ (12 :: (szB L ++ (sumsW (cksL L) ++ (0 :: post)))))):=drop_next e1'
 have hle : L.length ≤ (foB L).length:=by
   clear h hw e0 e1 e1' e2 h0 hck hL
   induction L with
   | nil => exact Nat.zero_le _
   | cons x t ih =>
     rw [show foB (x :: t) = folderW x.f ++ foB t from rfl,List.length_append,List.length_cons]
     have : 0 < (folderW x.f).length:=by simp [folderW,shortN]
     omega
 have ht:=st_things e2 (by simp only [List.length_append,List.length_cons];omega) hb
 have e3 : b.drop (p + 1 + 1 + (shortN L.length).length) = [0] ++ (foB L ++ (12 :: (szB L ++ (sumsW (cksL L) ++ (0 :: post))))):=drop_next e2
 have e4 : b.drop (p + 1 + 1 + (shortN L.length).length + 1) = foB L ++ (12 :: (szB L ++ (sumsW (cksL L) ++ (0 :: post)))):=drop_next e3
 have e5 : b.drop (p + 1 + 1 + (shortN L.length).length + 1 + (foB L).length) = [12] ++ (szB L ++ (sumsW (cksL L) ++ (0 :: post))):=drop_next e4
 have e6 : b.drop (p + 1 + 1 + (shortN L.length).length + 1 + (foB L).length + 1) = szB L ++ (sumsW (cksL L) ++ (0 :: post)):=drop_next e5
 have e7:=drop_next e6
 refine ⟨st_byte e0,?_⟩
 have hm:=st_must (x:=11) e1'
 have hm2:=st_must (x:=12) e5
 have hi:=st_inside e3
 have hF:=foldersGo_back hb L _ [] e4 hL
 have hS:=sizesGo_back L _ [] e6 hL
 rw [List.nil_append] at hF hS
 unfold Rs.folders
 rw [show (11 : Nat) = (11 : UInt8).toNat from rfl,hm,ht]
 dsimp only
 rw [hi]
 unfold Rs.foldersA
 rw [hF]
 dsimp only
 rw [show (12 : Nat) = (12 : UInt8).toNat from rfl,hm2,hS]
 dsimp only
 obtain ⟨r,hr⟩ : ∃ r,r = p + 1 + 1 + (shortN L.length).length + 1 + (foB L).length + 1 + (szB L).length:=⟨_,rfl⟩
 rw [← hr] at e7 ⊢
 have hlen : p + (foldersW L).length = r + (sumsW (cksL L)).length + 1:=by
   rw [hw,hr]
   simp only [List.length_append,List.length_cons,List.length_nil]
   omega
 rw [hlen]
 by_cases hs : true ∈ (cksL L).map (·.has)
 · have hw2 : sumsW (cksL L) = 10 :: (toldN ((cksL L).map (·.has)) ++ (cksL L).flatMap ckB):=if_pos hs
   have g1 : b.drop r = [10] ++ (toldN ((cksL L).map (·.has)) ++ ((cksL L).flatMap ckB ++ (0 :: post))):=by rw [e7,hw2];simp
   have g2 : b.drop (r + 1) = toldN ((cksL L).map (·.has)) ++ ((cksL L).flatMap ckB ++ (0 :: post)):=drop_next g1
   have hq:=sums_back g2 hck
   rw [show (cksL L).length = L.length by simp [cksL]] at hq
   have g3 : b.drop (r + 1 + ((toldN ((cksL L).map (·.has))).length + ((cksL L).flatMap ckB).length)) = 0 :: post:=by
     rw [← Nat.add_assoc]
     exact drop_next (drop_next g2)
   rw [st_byte (x:=10) g1]
   unfold Rs.foldersB
   dsimp only
   rw [show ((10 : UInt8).toNat == 10) = true from rfl,at_back]
   dsimp only
   rw [if_pos rfl,hq]
   dsimp only
   rw [withCks_back,st_byte g3]
   show (L,(st b _).end_ 0) = _
   rw [st_end_,hw2,List.length_cons,List.length_append]
   congr 2
   omega
 · have hw2 : sumsW (cksL L) = []:=if_neg hs
   rw [hw2,List.nil_append] at e7
   have hrep:=fair_rep hck hs
   rw [st_byte e7,hw2]
   unfold Rs.foldersB
   dsimp only
   rw [show ((0 : UInt8).toNat == 10) = false from rfl,at_no]
   dsimp only
   rw [if_neg (by simp),withCks_fair L (fun x hx => by
     have : x.ck ∈ cksL L:=by unfold cksL;exact List.mem_map_of_mem hx
     rw [hrep] at this
     exact (List.mem_replicate.1 this).2)]
   show (L,(st b _).end_ 0) = _
   rw [st_end_]
   rfl
end Go.Proofs.YtkodindajfdagaaGreatDoor
/- A folder's subs, written and read: the plain law. No condition. -/
namespace Go.Proofs.YtkodindajfdagaaGreatDoor
open Go.RowKit Go.Maps
def rowC (x : Fol) (l : List Sub) : List Sub:=if 1 < l.length then List.replicate l.length noSub else [⟨wholeOf x.f,x.ck⟩]
def rowsC (L : List Fol) (S : List (List Sub)) : List (List Sub):=List.zipWith rowC L S
def rowZ (x : Fol) (l : List Sub) : List Sub:=l.map fun s => ⟨s.size,if l.length = 1 then x.ck else ⟨false,0⟩⟩
def rowsZ (L : List Fol) (S : List (List Sub)) : List (List Sub):=List.zipWith rowZ L S
def RowMay (x : Fol) (l : List Sub) : Prop:=mayFol x = true ∧ maySub x l = true
theorem rowC_len {x : Fol} {l : List Sub} (h : l ≠ []) : (rowC x l).length = l.length:=by
 unfold rowC
 have:=List.length_pos_iff.2 h
 split
 · simp
 · simp;omega
theorem may_row {x : Fol} {l : List Sub} (h : maySub x l = true) : l ≠ [] ∧ subsGo (wholeOf x.f).toNat l = some 0 ∧ subsEnd x l = true:=by
 unfold maySub at h
 simp only [Bool.and_eq_true,Bool.not_eq_true',decide_eq_true_eq,decide_eq_false_iff_not] at h
 exact ⟨h.1.1,h.1.2,h.2⟩
theorem whole_lim {x : Fol} (h : mayFol x = true) : (wholeOf x.f).toNat ≤ 1099511627776:=by
 have hs:=(mayFol_sizes h).2.1
 unfold wholeOf
 split
 · rename_i i _
   rw [List.getD_eq_getElem?_getD]
   cases hz : x.f.sizes[i]? with
   | none => simp
   | some z => exact hs z (List.mem_of_getElem? hz)
 · decide
theorem counts_back {b post : List UInt8} (hb : b.length < 18446744073709551616) : ∀ (L : List Fol) (S : List (List Sub)) (p : Nat) (D : List (List Sub)),L.length = S.length → b.drop p = cntB S ++ post → (∀ l ∈ S,l ≠ []) → (∀ l ∈ S,l.length ≤ post.length) →
   countsGo (plainL L) (st b p) D = (D ++ rowsC L S,st b (p + (cntB S).length))
 | [],[],p,D,_,_,_,_ => by
   show (D,st b p) = _
   simp [rowsC,cntB]
 | [],_ :: _,_,_,h,_,_,_ => by simp at h
 | _ :: _,[],_,_,h,_,_,_ => by simp at h
 | x :: t,l :: u,p,D,hl,h,hne,hlen => by
   have h1 : b.drop p = shortN l.length ++ (cntB u ++ post):=by rw [h];simp [cntB]
   have ht:=st_things h1 (by rw [List.length_append];have:=hlen l (by simp);omega) hb
   have h2:=drop_next h1
   have hl0 : l.length ≠ 0:=fun e => hne l (by simp) (List.eq_nil_of_length_eq_zero e)
   have ih:=counts_back hb t u _ (D ++ [rowC x l]) (by simpa using hl) h2 (fun y hy => hne y (List.mem_cons_of_mem _ hy)) (fun y hy => hlen y (List.mem_cons_of_mem _ hy))
   show (if ((st b p).things.2.check (decide ((st b p).things.1 = 0)) 14).ok.k ≠ 0 then _ else countsGo (plainL t) ((st b p).things.2.check (decide ((st b p).things.1 = 0)) 14).ok (D ++ [if 1 < (st b p).things.1 then List.replicate (st b p).things.1 noSub else [⟨wholeOf x.f,x.ck⟩]])) = _
   rw [ht]
   dsimp only
   rw [decide_eq_false hl0,st_check,st_ok,if_neg (by rw [st_k];simp)]
   rw [show (if 1 < l.length then List.replicate l.length noSub else [⟨wholeOf x.f,x.ck⟩]) = rowC x l from rfl,ih]
   simp [rowsC,cntB,Nat.add_assoc]
theorem subsGo_cons {n : Nat} {s : Sub} {t : List Sub} (h : subsGo n (s :: t) = some 0) : s.size.toNat ≤ n ∧ ckOk s.ck = true ∧ subsGo (n - s.size.toNat) t = some 0:=by
 have h2 : (if n < s.size.toNat ∨ ckOk s.ck = false then none else subsGo (n - s.size.toNat) t) = some 0:=h
 by_cases e : n < s.size.toNat ∨ ckOk s.ck = false
 · rw [if_pos e] at h2;cases h2
 · rw [if_neg e] at h2
   refine ⟨?_,?_,h2⟩
   · omega
   · cases hc : ckOk s.ck with
     | true => rfl
     | false => exact absurd (.inr hc) e
theorem cutGo_back {b post : List UInt8} : ∀ (l : List Sub) (left p : Nat) (Z : List Nat),l ≠ [] → left ≤ 1099511627776 → subsGo left l = some 0 → b.drop p = cutOf l ++ post →
   cutGo (l.length - 1) left (st b p) Z = (false,Z ++ l.map (fun s => s.size.toNat),st b (p + (cutOf l).length))
 | [],_,_,_,h,_,_,_ => absurd rfl h
 | [s],left,p,Z,_,_,hs,_ => by
   obtain ⟨h1,-,h3⟩:=subsGo_cons hs
   have h4 : left - s.size.toNat = 0:=Option.some.inj h3
   show (false,Z ++ [left],st b p) = _
   rw [show left = s.size.toNat by omega]
   simp [cutOf]
 | s :: y :: t,left,p,Z,_,hle,hs,h => by
   obtain ⟨h1,-,h3⟩:=subsGo_cons hs
   have e1 : b.drop p = shortN s.size.toNat ++ (cutOf (y :: t) ++ post):=by rw [h];simp [cutOf]
   have hz:=st_size e1 (by omega)
   have ih:=cutGo_back (y :: t) (left - s.size.toNat) _ (Z ++ [s.size.toNat]) (by simp) (by omega) h3 (drop_next e1)
   show (if ((st b p).size.2.check (decide (left < (st b p).size.1)) 13).ok.k ≠ 0 then _ else cutGo ((y :: t).length - 1) (left - (st b p).size.1) ((st b p).size.2.check (decide (left < (st b p).size.1)) 13).ok (Z ++ [(st b p).size.1])) = _
   rw [hz]
   dsimp only
   rw [decide_eq_false (by omega),st_check,st_ok,if_neg (by rw [st_k];simp),ih]
   simp [cutOf,Nat.add_assoc]
theorem withSizes_row {x : Fol} {l : List Sub} (h : l ≠ []) : withSizes (rowC x l) (l.map fun s => s.size.toNat) = rowZ x l:=by
 refine List.ext_getElem? fun i => ?_
 unfold withSizes rowZ
 rw [List.getElem?_mapIdx,List.getElem?_map,List.getElem?_map]
 have hlen:=rowC_len (x:=x) h
 cases hx : l[i]? with
 | none =>
   have : (rowC x l)[i]? = none:=by rw [List.getElem?_eq_none_iff] at hx ⊢;omega
   rw [this]
   rfl
 | some s =>
   have hi : i < l.length:=(List.getElem?_eq_some_iff.1 hx).1
   unfold rowC
   by_cases h1 : 1 < l.length
   · rw [if_pos h1,List.getElem?_replicate,if_pos hi]
     have : l.length ≠ 1:=by omega
     simp [this,noSub]
   · have h2 : l.length = 1:=by omega
     obtain rfl : i = 0:=by omega
     rw [if_neg h1]
     simp [h2]
theorem cuts_back {b post : List UInt8} : ∀ (L : List Fol) (S : List (List Sub)) (p : Nat) (D : List (List Sub)),L.length = S.length → (∀ q ∈ L.zip S,RowMay q.1 q.2) → b.drop p = cutB S ++ post →
   cutsGo L (rowsC L S) (st b p) D = (D ++ rowsZ L S,st b (p + (cutB S).length))
 | [],[],p,D,_,_,_ => by
   show (D ++ [],(st b p).ok) = _
   simp [rowsZ,cutB,st_ok]
 | [],_ :: _,_,_,h,_,_ => by simp at h
 | _ :: _,[],_,_,h,_,_ => by simp at h
 | x :: t,l :: u,p,D,hl,hm,h => by
   have h1 : b.drop p = cutOf l ++ (cutB u ++ post):=by rw [h];simp [cutB]
   obtain ⟨m1,m2⟩:=hm (x,l) (by simp)
   obtain ⟨r1,r2,-⟩:=may_row m2
   have hc:=cutGo_back l _ p [] r1 (whole_lim m1) r2 h1
   have ih:=cuts_back t u _ (D ++ [rowZ x l]) (by simpa using hl) (fun q hq => hm q (by simp at hq ⊢;exact .inr hq)) (drop_next h1)
   show cutsGo (x :: t) (rowC x l :: rowsC t u) (st b p) D = _
   rw [cutsGo_ok (by rfl),st_ok]
   unfold cutL
   rw [rowC_len r1,hc]
   dsimp only
   rw [List.nil_append,withSizes_row r1,ih]
   simp [rowsZ,cutB,Nat.add_assoc]
theorem give_row (x : Fol) (l : List Sub) (A B : List (List Sub)) (hw : RowMay x l) :
   ((rowIx x (rowZ x l) A.length).zip (unkOf l x)).foldl (fun M q => putCk M q.1 q.2) (A ++ rowZ x l :: B) = A ++ l :: B:=by
 obtain ⟨r1,r2,r3⟩:=may_row hw.2
 have hzl : (rowZ x l).length = l.length:=by simp [rowZ]
 unfold rowIx unkOf
 rw [hzl]
 by_cases h : l.length = 1 ∧ x.ck.has = true
 · rw [if_pos h,if_pos h]
   show A ++ rowZ x l :: B = _
   congr 2
   obtain ⟨s,rfl⟩ : ∃ s,l = [s]:=by
     match l,h.1 with
     | [s],_ => exact ⟨s,rfl⟩
   have h3 : s.ck = x.ck:=by
     unfold subsEnd at r3
     simpa [h.2] using r3
   show [⟨s.size,x.ck⟩] = [s]
   rw [← h3]
 · rw [if_neg h,if_neg h]
   have key : ∀ k,k ≤ l.length → (((List.range k).map fun j => (A.length,j)).zip ((l.take k).map (·.ck))).foldl (fun M q => putCk M q.1 q.2) (A ++ rowZ x l :: B) = A ++ (l.take k ++ (rowZ x l).drop k) :: B:=by
     intro k
     induction k with
     | zero => intro _;simp
     | succ k ih =>
       intro hk
       obtain ⟨s,hs⟩:=some_get l k (by omega)
       have ih:=ih (by omega)
       rw [List.range_succ,List.map_append,List.take_add_one,hs,List.map_append,List.zip_append (by simp;omega),List.foldl_append,ih]
       show putCk (A ++ (l.take k ++ (rowZ x l).drop k) :: B) (A.length,k) s.ck = _
       have hrow : (rowZ x l)[k]? = some ⟨s.size,if l.length = 1 then x.ck else ⟨false,0⟩⟩:=by unfold rowZ;rw [List.getElem?_map,hs];rfl
       have htk : (l.take k).length = k:=by rw [List.length_take];omega
       rw [putCk_at (l:=l.take k ++ (rowZ x l).drop k) (y:=⟨s.size,if l.length = 1 then x.ck else ⟨false,0⟩⟩) s.ck (by simp) (by rw [List.getElem?_append_right (by omega),htk,Nat.sub_self,List.getElem?_drop];exact hrow)]
       rw [List.set_append_right _ _ (Nat.le_refl _),Nat.sub_self,List.set_cons_zero]
       congr 2
       rw [List.set_append_right _ _ (by omega),htk,Nat.sub_self,List.drop_eq_getElem_cons (by omega : k < (rowZ x l).length),List.set_cons_zero]
       simp
   have:=key l.length (Nat.le_refl _)
   rw [List.take_length,List.drop_of_length_le (by omega),List.append_nil] at this
   exact this
theorem rowsZ_get {L : List Fol} {S : List (List Sub)} {i : Nat} {x : Fol} {l : List Sub} (hx : L[i]? = some x) (hl : S[i]? = some l) : (rowsZ L S)[i]? = some (rowZ x l):=by
 unfold rowsZ
 rw [List.getElem?_zipWith,hx,hl]
theorem rowsZ_len {L : List Fol} {S : List (List Sub)} (h : L.length = S.length) : (rowsZ L S).length = S.length:=by simp [rowsZ,h]
theorem ix_len {x : Fol} {l : List Sub} {i : Nat} : (rowIx x (rowZ x l) i).length = (unkOf l x).length:=by
 unfold rowIx unkOf
 rw [show (rowZ x l).length = l.length by simp [rowZ]]
 split <;> simp
theorem give_take {L : List Fol} {S : List (List Sub)} (hl : L.length = S.length) (hm : ∀ q ∈ L.zip S,RowMay q.1 q.2) : ∀ n,n ≤ S.length →
   (unkIxN L (rowsZ L S) n).length = (unkW (S.take n) (L.take n)).length ∧ ((unkIxN L (rowsZ L S) n).zip (unkW (S.take n) (L.take n))).foldl (fun M q => putCk M q.1 q.2) (rowsZ L S) = S.take n ++ (rowsZ L S).drop n:=by
 intro n
 induction n with
 | zero => intro _;simp [unkIxN,unkW]
 | succ n ih =>
   intro hn
   obtain ⟨i1,i2⟩:=ih (by omega)
   obtain ⟨l,hs⟩:=some_get S n (by omega)
   obtain ⟨x,hx⟩:=some_get L n (by omega)
   have hz:=rowsZ_get hx hs
   rw [unkIxN_succ hx hz,unkW_take hs hx]
   refine ⟨by rw [List.length_append,List.length_append,i1,ix_len],?_⟩
   rw [List.zip_append i1,List.foldl_append,i2]
   have hln : (S.take n).length = n:=by rw [List.length_take];omega
   have hg:=give_row x l (S.take n) ((rowsZ L S).drop (n + 1)) (hm (x,l) (List.mem_of_getElem? (by rw [List.getElem?_zip_eq_some];exact ⟨hx,hs⟩)))
   rw [hln] at hg
   have hd : (rowsZ L S).drop n = rowZ x l :: (rowsZ L S).drop (n + 1):=by
     have hlt : n < (rowsZ L S).length:=(List.getElem?_eq_some_iff.1 hz).1
     rw [List.drop_eq_getElem_cons hlt]
     congr 1
     exact (List.getElem?_eq_some_iff.1 hz).2
   rw [hd,hg,List.take_add_one,hs]
   simp
theorem give_all {L : List Fol} {S : List (List Sub)} (hl : L.length = S.length) (hm : ∀ q ∈ L.zip S,RowMay q.1 q.2) : unknownN L (rowsZ L S) = (unkW S L).length ∧ giveCks L (rowsZ L S) (unkW S L) = S:=by
 obtain ⟨h1,h2⟩:=give_take hl hm S.length (Nat.le_refl _)
 have hr:=rowsZ_len hl
 rw [List.take_length,List.take_of_length_le (by omega)] at h1 h2
 rw [List.drop_of_length_le (by omega),List.append_nil] at h2
 refine ⟨?_,?_⟩
 · unfold unknownN unkIx;rw [hr];exact h1
 · unfold giveCks unkIx;rw [hr];exact h2
theorem ck_none {c : Ck} (h : ckOk c = true) (h2 : c.has = false) : c = ⟨false,0⟩:=by
 obtain ⟨a,s⟩:=c
 dsimp only at h2
 subst h2
 unfold ckOk at h
 simp at h
 rw [h]
theorem subsGo_ck : ∀ (l : List Sub) (n : Nat),subsGo n l = some 0 → ∀ s ∈ l,ckOk s.ck = true
 | [],_,_,_,h => by simp at h
 | s :: t,n,h,y,hy => by
   obtain ⟨-,h2,h3⟩:=subsGo_cons h
   rcases List.mem_cons.1 hy with rfl | hy
   · exact h2
   · exact subsGo_ck t _ h3 y hy
theorem rows_none {L : List Fol} {S : List (List Sub)} (hl : L.length = S.length) (hm : ∀ q ∈ L.zip S,RowMay q.1 q.2) (hn : (unkW S L).any (·.has) = false) : rowsZ L S = S:=by
 refine List.ext_getElem? fun i => ?_
 cases hs : S[i]? with
 | none => rw [List.getElem?_eq_none_iff] at hs ⊢;rw [rowsZ_len hl];exact hs
 | some l =>
   have hi : i < S.length:=(List.getElem?_eq_some_iff.1 hs).1
   obtain ⟨x,hx⟩:=some_get L i (by omega)
   rw [rowsZ_get hx hs]
   have hmem:=List.mem_of_getElem? (by rw [List.getElem?_zip_eq_some];exact ⟨hx,hs⟩ : (L.zip S)[i]? = some (x,l))
   have hmm:=hm (x,l) hmem
   obtain ⟨r1,r2,r3⟩:=may_row hmm.2
   have hmem2 : (l,x) ∈ S.zip L:=List.mem_of_getElem? (by rw [List.getElem?_zip_eq_some];exact ⟨hs,hx⟩ : (S.zip L)[i]? = some (l,x))
   have hno : ∀ c ∈ unkOf l x,c.has = false:=fun c hc => by
     rw [List.any_eq_false] at hn
     have:=hn c (by unfold unkW;rw [List.mem_flatMap];exact ⟨_,hmem2,hc⟩)
     simpa using this
   congr 1
   unfold rowZ
   have hid : ∀ s ∈ l,(⟨s.size,if l.length = 1 then x.ck else ⟨false,0⟩⟩ : Sub) = s:=fun s hsm => by
     have hck:=subsGo_ck l _ r2 s hsm
     by_cases h : l.length = 1 ∧ x.ck.has = true
     · rw [if_pos h.1]
       obtain ⟨y,rfl⟩ : ∃ y,l = [y]:=by
         match l,h.1 with
         | [y],_ => exact ⟨y,rfl⟩
       have h3 : y.ck = x.ck:=by
         unfold subsEnd at r3
         simpa [h.2] using r3
       obtain rfl : s = y:=by simpa using hsm
       rw [← h3]
     · have hsn : s.ck.has = false:=hno s.ck (by unfold unkOf;rw [if_neg h];exact List.mem_map_of_mem hsm)
       have e1:=ck_none hck hsn
       by_cases h1 : l.length = 1
       · rw [if_pos h1]
         have hxf : x.ck.has = false:=by
           cases hc : x.ck.has with
           | false => rfl
           | true => exact absurd ⟨h1,hc⟩ h
         have e2:=ck_none (mayFol_sizes hmm.1).2.2 hxf
         rw [e2,← e1]
       · rw [if_neg h1,← e1]
   have : l.map (fun s => (⟨s.size,if l.length = 1 then x.ck else ⟨false,0⟩⟩ : Sub)) = l.map id:=List.map_congr_left fun s hsm => hid s hsm
   rw [this,List.map_id]
theorem rows_one {L : List Fol} {S : List (List Sub)} (hl : L.length = S.length) (hm : ∀ q ∈ L.zip S,RowMay q.1 q.2) (ho : S.any oddS = false) : plainL L = rowsZ L S:=by
 refine List.ext_getElem? fun i => ?_
 cases hs : S[i]? with
 | none =>
   have h1 : (rowsZ L S)[i]? = none:=by rw [List.getElem?_eq_none_iff] at hs ⊢;rw [rowsZ_len hl];exact hs
   have h2 : (plainL L)[i]? = none:=by rw [List.getElem?_eq_none_iff] at hs ⊢;simp [plainL];omega
   rw [h1,h2]
 | some l =>
   have hi : i < S.length:=(List.getElem?_eq_some_iff.1 hs).1
   obtain ⟨x,hx⟩:=some_get L i (by omega)
   rw [rowsZ_get hx hs]
   have hmm:=hm (x,l) (List.mem_of_getElem? (by rw [List.getElem?_zip_eq_some];exact ⟨hx,hs⟩ : (L.zip S)[i]? = some (x,l)))
   obtain ⟨r1,r2,r3⟩:=may_row hmm.2
   have h1 : l.length = 1:=by
     rw [List.any_eq_false] at ho
     have:=ho l (List.mem_of_getElem? hs)
     simpa [oddS] using this
   obtain ⟨y,rfl⟩ : ∃ y,l = [y]:=by
     match l,h1 with
     | [y],_ => exact ⟨y,rfl⟩
   obtain ⟨g1,-,g3⟩:=subsGo_cons r2
   have g4 : (wholeOf x.f).toNat - y.size.toNat = 0:=Option.some.inj g3
   have g1' : y.size.toNat ≤ (wholeOf x.f).toNat:=g1
   have g5 : wholeOf x.f = y.size:=UInt64.toNat_inj.1 (by omega)
   show (L.map fun x => [(⟨wholeOf x.f,x.ck⟩ : Sub)])[i]? = _
   rw [List.getElem?_map,hx]
   simp [rowZ,g5]
theorem cut_len {S : List (List Sub)} {l : List Sub} (h : l ∈ S) : l.length ≤ (cutB S).length + 1:=by
 have h1 : ∀ m : List Sub,m.length ≤ (m.flatMap fun s => shortN s.size.toNat).length:=fun m => by
   induction m with
   | nil => exact Nat.le_refl _
   | cons s t ih =>
     rw [List.flatMap_cons,List.length_append,List.length_cons]
     have : 0 < (shortN s.size.toNat).length:=by simp [shortN]
     omega
 have h2:=h1 (l.take (l.length - 1))
 rw [List.length_take] at h2
 have h3 : (cutOf l).length ≤ (cutB S).length:=by
   obtain ⟨A,B,rfl⟩:=List.append_of_mem h
   unfold cutB
   rw [List.flatMap_append,List.flatMap_cons,List.length_append,List.length_append]
   omega
 unfold cutOf at h3
 omega
theorem any_has {cs : List Ck} : cs.any (·.has) = true ↔ true ∈ cs.map (·.has):=by
 rw [List.any_eq_true,List.mem_map]
theorem subsC_back {b post : List UInt8} {p : Nat} {L : List Fol} {S : List (List Sub)} (hl : L.length = S.length) (hm : ∀ q ∈ L.zip S,RowMay q.1 q.2) (h : b.drop p = sumsW (unkW S L) ++ (0 :: post)) :
   Rs.subsC L (rowsZ L S) (st b p).byte.1 (st b p).byte.2 = (S,st b (p + (sumsW (unkW S L)).length + 1)):=by
 obtain ⟨g1,g2⟩:=give_all hl hm
 have hck : (unkW S L).all ckOk = true:=by
   rw [List.all_eq_true]
   intro c hc
   unfold unkW at hc
   obtain ⟨q,hq,hcq⟩:=List.mem_flatMap.1 hc
   obtain ⟨i,hi⟩:=List.mem_iff_getElem?.1 hq
   rw [List.getElem?_zip_eq_some] at hi
   have hmm:=hm (q.2,q.1) (List.mem_of_getElem? (by rw [List.getElem?_zip_eq_some];exact ⟨hi.2,hi.1⟩ : (L.zip S)[i]? = some (q.2,q.1)))
   obtain ⟨r1,r2,r3⟩:=may_row hmm.2
   unfold unkOf at hcq
   split at hcq
   · simp at hcq
   · obtain ⟨s,hs,rfl⟩:=List.mem_map.1 hcq
     exact subsGo_ck _ _ r2 s hs
 by_cases hs : true ∈ (unkW S L).map (·.has)
 · have hw2 : sumsW (unkW S L) = 10 :: (toldN ((unkW S L).map (·.has)) ++ (unkW S L).flatMap ckB):=if_pos hs
   have e1 : b.drop p = [10] ++ (toldN ((unkW S L).map (·.has)) ++ ((unkW S L).flatMap ckB ++ (0 :: post))):=by rw [h,hw2];simp
   have e2 : b.drop (p + 1) = toldN ((unkW S L).map (·.has)) ++ ((unkW S L).flatMap ckB ++ (0 :: post)):=drop_next e1
   have hq:=sums_back e2 hck
   have e3 : b.drop (p + 1 + ((toldN ((unkW S L).map (·.has))).length + ((unkW S L).flatMap ckB).length)) = 0 :: post:=by
     rw [← Nat.add_assoc]
     exact drop_next (drop_next e2)
   rw [st_byte (x:=10) e1]
   unfold Rs.subsC
   dsimp only
   rw [show ((10 : UInt8).toNat == 10) = true from rfl,at_back]
   dsimp only
   rw [if_pos rfl,g1,hq]
   dsimp only
   rw [g2,st_byte e3]
   show (S,(st b _).end_ 0) = _
   rw [st_end_,hw2,List.length_cons,List.length_append]
   congr 2
   omega
 · have hw2 : sumsW (unkW S L) = []:=if_neg hs
   rw [hw2,List.nil_append] at h
   rw [st_byte h,hw2]
   unfold Rs.subsC
   dsimp only
   rw [show ((0 : UInt8).toNat == 10) = false from rfl,at_no]
   dsimp only
   have hno : (unkW S L).any (·.has) = false:=by
     cases hc : (unkW S L).any (·.has) with
     | false => rfl
     | true => exact absurd (any_has.1 hc) hs
   rw [if_neg (by simp),rows_none hl hm hno]
   show (S,(st b _).end_ 0) = _
   rw [st_end_]
   rfl
theorem subs_back {b post : List UInt8} {p : Nat} {L : List Fol} {S : List (List Sub)} (hw : ¬ (S.any oddS = false ∧ (unkW S L).any (·.has) = false)) (hl : L.length = S.length) (hm : ∀ q ∈ L.zip S,RowMay q.1 q.2)
   (h : b.drop p = subsW S L ++ post) (hb : b.length < 18446744073709551616) : (st b p).byte = (8,st b (p + 1)) ∧ Rs.subs L (plainL L) (st b (p + 1)) = (S,st b (p + (subsW S L).length)):=by
 have hw0 : subsW S L = 8 :: ((if S.any oddS then 13 :: (cntB S ++ (9 :: cutB S)) else []) ++ (sumsW (unkW S L) ++ [0])):=if_neg hw
 have hne : ∀ l ∈ S,l ≠ []:=fun l hlm => by
   obtain ⟨i,hi⟩:=List.mem_iff_getElem?.1 hlm
   have hi2 : i < S.length:=(List.getElem?_eq_some_iff.1 hi).1
   obtain ⟨x,hx⟩:=some_get L i (by omega)
   exact (may_row (hm (x,l) (List.mem_of_getElem? (by rw [List.getElem?_zip_eq_some];exact ⟨hx,hi⟩ : (L.zip S)[i]? = some (x,l)))).2).1
 cases ho : S.any oddS with
 | true =>
   have hw1 : subsW S L = 8 :: (13 :: (cntB S ++ (9 :: (cutB S ++ (sumsW (unkW S L) ++ [0]))))):=by rw [hw0,ho,if_pos rfl];simp
   have e0 : b.drop p = [8] ++ ([13] ++ (cntB S ++ ([9] ++ (cutB S ++ (sumsW (unkW S L) ++ (0 :: post)))))):=by rw [h,hw1];simp
   have e1 : b.drop (p + 1) = [13] ++ (cntB S ++ ([9] ++ (cutB S ++ (sumsW (unkW S L) ++ (0 :: post))))):=drop_next e0
   have e2 : b.drop (p + 1 + 1) = cntB S ++ ([9] ++ (cutB S ++ (sumsW (unkW S L) ++ (0 :: post)))):=drop_next e1
   have e3:=drop_next e2
   have e4 : b.drop (p + 1 + 1 + (cntB S).length + 1) = cutB S ++ (sumsW (unkW S L) ++ (0 :: post)):=drop_next e3
   have e5:=drop_next e4
   refine ⟨st_byte e0,?_⟩
   have hcn:=counts_back hb L S _ [] hl e2 hne (fun l hlm => by have:=cut_len hlm;simp only [List.length_append,List.length_cons,List.length_nil];omega)
   have hcu:=cuts_back L S _ [] hl hm e4
   rw [List.nil_append] at hcn hcu
   unfold Rs.subs
   rw [st_byte (x:=13) e1]
   dsimp only
   unfold Rs.subsA
   rw [show ((13 : UInt8).toNat == 13) = true from rfl,at_back]
   dsimp only
   rw [if_pos rfl,hcn]
   dsimp only
   rw [st_byte (x:=9) e3]
   dsimp only
   unfold Rs.subsB
   rw [show ((9 : UInt8).toNat == 9) = true from rfl,at_back]
   dsimp only
   rw [if_pos rfl,hcu]
   dsimp only
   rw [subsC_back hl hm e5,hw1]
   simp only [List.length_append,List.length_cons,List.length_nil]
   congr 2
   omega
 | false =>
   have hu : true ∈ (unkW S L).map (·.has):=by
     rw [← any_has]
     cases hc : (unkW S L).any (·.has) with
     | true => rfl
     | false => exact absurd ⟨ho,hc⟩ hw
   have hw1 : subsW S L = 8 :: (sumsW (unkW S L) ++ [0]):=by rw [hw0,ho];rfl
   have e0 : b.drop p = [8] ++ (sumsW (unkW S L) ++ (0 :: post)):=by rw [h,hw1];simp
   have e1 : b.drop (p + 1) = sumsW (unkW S L) ++ (0 :: post):=drop_next e0
   refine ⟨st_byte e0,?_⟩
   have hC:=subsC_back hl hm e1
   have hby : (st b (p + 1)).byte.1 = 10:=by
     have hw2 : sumsW (unkW S L) = 10 :: (toldN ((unkW S L).map (·.has)) ++ (unkW S L).flatMap ckB):=if_pos hu
     rw [hw2] at e1
     rw [st_byte (x:=10) e1]
     rfl
   have hby2 : (st b (p + 1)).byte.2 = st b (p + 1 + 1):=by
     have hw2 : sumsW (unkW S L) = 10 :: (toldN ((unkW S L).map (·.has)) ++ (unkW S L).flatMap ckB):=if_pos hu
     rw [hw2] at e1
     rw [st_byte (x:=10) e1]
   rw [hby,hby2] at hC
   unfold Rs.subs
   rw [hby,hby2]
   unfold Rs.subsA
   rw [show ((10 : Nat) == 13) = false from rfl,at_no]
   dsimp only
   rw [if_neg (by simp)]
   unfold Rs.subsB
   rw [show ((10 : Nat) == 9) = false from rfl,at_no]
   dsimp only
   have hp1 : ((plainL L).any fun l => decide (1 < l.length)) = false:=by
     rw [List.any_eq_false]
     intro l hlm
     unfold plainL at hlm
     obtain ⟨x,-,rfl⟩:=List.mem_map.1 hlm
     simp
   rw [if_neg (by simp),hp1,at_no]
   dsimp only
   rw [if_neg (by simp),rows_one hl hm ho,hC,hw1]
   simp only [List.length_append,List.length_cons,List.length_nil]
   congr 2
   omega
end Go.Proofs.YtkodindajfdagaaGreatDoor
/- A description, written and read: the plain law. No condition but that lengths fit. -/
namespace Go.Proofs.YtkodindajfdagaaGreatDoor
open Go.RowKit Go.Maps
def sD (D : StD) : Strm:=⟨D.pl.toNat,D.ps,D.cs,D.L,D.S⟩
theorem mayStr_out {D : StD} (h : mayStr D = true) : D.pl.toNat ≤ 1099511627776 ∧ sizesUp 0 D.ps = true ∧ D.cs.length = D.ps.length ∧ D.S.length = D.L.length ∧ D.cs.all ckOk = true ∧ ∀ q ∈ D.L.zip D.S,RowMay q.1 q.2:=by
 unfold mayStr at h
 simp only [Bool.and_eq_true,decide_eq_true_eq] at h
 obtain ⟨⟨⟨⟨⟨h1,h2⟩,h3⟩,h4⟩,h5⟩,h6⟩:=h
 refine ⟨h1,h2,h3,h4,h5,fun q hq => ?_⟩
 unfold mayRows at h6
 have:=List.all_eq_true.1 h6 q hq
 simp only [Bool.and_eq_true] at this
 exact this
theorem rows_fol {L : List Fol} {S : List (List Sub)} (hl : S.length = L.length) (h : ∀ q ∈ L.zip S,RowMay q.1 q.2) : ∀ x ∈ L,mayFol x = true:=fun x hx => by
 obtain ⟨i,hi⟩:=List.mem_iff_getElem?.1 hx
 have hi2 : i < L.length:=(List.getElem?_eq_some_iff.1 hi).1
 obtain ⟨l,hl2⟩:=some_get S i (by omega)
 exact (h (x,l) (List.mem_of_getElem? (by rw [List.getElem?_zip_eq_some];exact ⟨hi,hl2⟩ : (L.zip S)[i]? = some (x,l)))).1
theorem head_byte {b A : List UInt8} {x : UInt8} {t : List UInt8} {p : Nat} (h : b.drop p = A) (e : A = x :: t) : (st b p).byte = (x.toNat,st b (p + 1)):=st_byte (by rw [h];exact e)
theorem streamsC_back {b post : List UInt8} {p : Nat} {D0 : Strm} {S : List (List Sub)} (hl : S.length = D0.fo.length) (hm : ∀ q ∈ D0.fo.zip S,RowMay q.1 q.2) (h : b.drop p = subsW S D0.fo ++ (0 :: post)) (hb : b.length < 18446744073709551616) :
   Rs.streamsC D0 (st b p).byte.1 (st b p).byte.2 = ({ D0 with ss:=S },st b (p + (subsW S D0.fo).length + 1)):=by
 by_cases hw : S.any oddS = false ∧ (unkW S D0.fo).any (·.has) = false
 · have hw0 : subsW S D0.fo = []:=if_pos hw
   rw [hw0,List.nil_append] at h
   rw [st_byte h,hw0]
   unfold Rs.streamsC
   dsimp only
   rw [show ((0 : UInt8).toNat == 8) = false from rfl,at_no]
   dsimp only
   rw [if_neg (by simp),rows_one hl.symm hm hw.1,rows_none hl.symm hm hw.2]
   show (_,(st b _).end_ 0) = _
   rw [st_end_]
   rfl
 · obtain ⟨e1,e2⟩:=subs_back hw hl.symm hm h hb
   have e3:=drop_next h
   rw [e1]
   unfold Rs.streamsC
   dsimp only
   rw [show ((8 : Nat) == 8) = true from rfl,at_back]
   dsimp only
   rw [if_pos rfl,e2]
   dsimp only
   rw [st_byte e3]
   show (_,(st b _).end_ 0) = _
   rw [st_end_]
theorem subs_head (S : List (List Sub)) (L : List Fol) (post : List UInt8) : ∃ x t,subsW S L ++ (0 :: post) = x :: t ∧ (x = 8 ∨ x = 0):=by
 unfold subsW
 split
 · exact ⟨0,post,rfl,.inr rfl⟩
 · exact ⟨8,_,rfl,.inl rfl⟩
theorem fold_head (S : List (List Sub)) (L : List Fol) (post : List UInt8) : ∃ x t,foldersW L ++ (subsW S L ++ (0 :: post)) = x :: t ∧ (x = 7 ∨ x = 8 ∨ x = 0):=by
 unfold foldersW
 split
 · obtain ⟨x,t,h,h2⟩:=subs_head S L post
   exact ⟨x,t,h,.inr h2⟩
 · exact ⟨7,_,rfl,.inl rfl⟩
theorem streamsB_back {b post : List UInt8} {p : Nat} {D0 : Strm} {L : List Fol} {S : List (List Sub)} (h0 : D0.fo = []) (hl : S.length = L.length) (hm : ∀ q ∈ L.zip S,RowMay q.1 q.2) (h : b.drop p = foldersW L ++ (subsW S L ++ (0 :: post))) (hb : b.length < 18446744073709551616) :
   Rs.streamsB D0 (st b p).byte.1 (st b p).byte.2 = ({ D0 with fo:=L,ss:=S },st b (p + (foldersW L).length + (subsW S L).length + 1)):=by
 by_cases hL : L = []
 · subst hL
   have hw0 : foldersW [] = []:=if_pos rfl
   rw [hw0,List.nil_append] at h
   obtain ⟨x,t,hx,hx2⟩:=subs_head S [] post
   have hby:=head_byte h hx
   have hc:=streamsC_back (D0:=D0) (S:=S) (b:=b) (post:=post) (p:=p) (by rw [h0];exact hl) (by rw [h0];exact hm) (by rw [h0];exact h) hb
   unfold Rs.streamsB
   have hne : ((st b p).byte.1 == 7) = false:=by rw [hby];rcases hx2 with rfl | rfl <;> rfl
   rw [hne,at_no]
   dsimp only
   rw [if_neg (by simp),hc,hw0,h0]
   congr 1
 · obtain ⟨e1,e2⟩:=folders_back hL h hb (rows_fol hl hm)
   have e3:=drop_next h
   have hc:=streamsC_back (D0:={ D0 with fo:=L }) hl hm e3 hb
   rw [e1]
   unfold Rs.streamsB
   dsimp only
   rw [show ((7 : Nat) == 7) = true from rfl,at_back]
   dsimp only
   rw [if_pos rfl,e2]
   dsimp only
   exact hc
theorem streams_back {b post : List UInt8} {p : Nat} {D : StD} (hd : mayStr D = true) (h : b.drop p = strmW D ++ post) (hb : b.length < 18446744073709551616) : (st b p).streams = (sD D,st b (p + (strmW D).length)):=by
 obtain ⟨h1,h2,h3,h4,h5,h6⟩:=mayStr_out hd
 have h' : b.drop p = packsW D.pl D.ps D.cs ++ (foldersW D.L ++ (subsW D.S D.L ++ (0 :: post))):=by rw [h];unfold strmW;simp
 have hlen : p + (strmW D).length = p + (packsW D.pl D.ps D.cs).length + (foldersW D.L).length + (subsW D.S D.L).length + 1:=by unfold strmW;simp only [List.length_append,List.length_cons,List.length_nil];omega
 rw [hlen]
 unfold Rs.streams
 by_cases hw : D.ps = [] ∧ D.pl = 0
 · have hw0 : packsW D.pl D.ps D.cs = []:=if_pos hw
   rw [hw0,List.nil_append] at h'
   obtain ⟨x,t,hx,hx2⟩:=fold_head D.S D.L post
   have hby:=head_byte h' hx
   have hB:=streamsB_back (D0:=⟨0,[],[],[],[]⟩) rfl h4 h6 h' hb
   unfold Rs.streamsA
   have hne : ((st b p).byte.1 == 6) = false:=by rw [hby];rcases hx2 with rfl | rfl | rfl <;> rfl
   rw [hne,at_no]
   dsimp only
   rw [if_neg (by simp),hB,hw0]
   have hcs : D.cs = []:=List.eq_nil_of_length_eq_zero (by rw [h3,hw.1];rfl)
   unfold sD
   rw [hw.1,hw.2,hcs]
   rfl
 · obtain ⟨e1,e2,e3⟩:=packs_back hw h' hb h1 h2 h5 h3
   have e4:=drop_next h'
   have hB:=streamsB_back (D0:=⟨D.pl.toNat,D.ps,D.cs,[],[]⟩) rfl h4 h6 e4 hb
   rw [e1,e3]
   unfold Rs.streamsA
   rw [show ((6 : Nat) == 6) = true from rfl,at_back]
   dsimp only
   rw [if_pos rfl,e2]
   dsimp only
   exact hB
theorem strm_none {D : StD} (hd : mayStr D = true) (h : D.some = false) : sD D = noStrm ∧ D.S = []:=by
 obtain ⟨-,-,h3,h4,-,-⟩:=mayStr_out hd
 unfold StD.some StD.p1 StD.p2 at h
 simp only [Bool.or_eq_false_iff,Bool.not_eq_false',decide_eq_true_eq,Bool.and_eq_true] at h
 obtain ⟨-,hL,hps,hpl⟩:=h
 have hpl2 : D.pl = 0:=by simpa using hpl
 have hS : D.S = []:=List.eq_nil_of_length_eq_zero (by rw [h4,hL];rfl)
 have hcs : D.cs = []:=List.eq_nil_of_length_eq_zero (by rw [h3,hps];rfl)
 refine ⟨?_,hS⟩
 unfold sD noStrm
 rw [hL,hps,hpl2,hS,hcs]
 rfl
theorem many_tot (S : List (List Sub)) : manyOf S = totL S:=rfl
theorem strN_stream (F : List Fil) : strN F = streamN F:=by unfold strN streamN;rw [List.countP_eq_length_filter]
theorem parse_write {pk : Bool} {D : StD} {F : List Fil} (hm : mayAll pk D F = true) (hb : (writeW pk D F).length < 18446744073709551616) : parseL (writeW pk D F) = ((pk,sD D,F),0):=by
 unfold mayAll at hm
 have hd : mayStr D = true:=by
   unfold mayR at hm
   cases h : mayStr D with
   | true => rfl
   | false => rw [h] at hm;simp at hm
 rw [hd,if_pos rfl] at hm
 unfold mayR at hm
 cases pk with
 | true =>
   simp only [Bool.not_true,Bool.false_or,if_true,Bool.true_and,Bool.and_eq_true,decide_eq_true_eq] at hm
   obtain ⟨⟨m1,m2⟩,m3⟩:=hm
   obtain rfl : F = []:=List.eq_nil_of_length_eq_zero m3
   have hw : writeW true D [] = 23 :: strmW D:=if_pos rfl
   rw [hw] at hb ⊢
   obtain ⟨b,hbe⟩ : ∃ b,b = 23 :: strmW D:=⟨_,rfl⟩
   rw [← hbe] at hb ⊢
   have h0 : b.drop 0 = 23 :: strmW D:=hbe
   have h1 : b.drop 1 = strmW D ++ []:=by rw [hbe];simp
   have hby:=st_byte h0
   have hs:=streams_back hd h1 hb
   obtain ⟨-,-,-,h4,-,-⟩:=mayStr_out hd
   obtain ⟨l,hl⟩ : ∃ l,D.S = [l]:=by
     match hS : D.S,h4 with
     | [l],_ => exact ⟨l,rfl⟩
     | [],h4 => rw [m1] at h4;simp at h4
     | _ :: _ :: _,h4 => rw [m1] at h4;simp at h4
   have hll : l.length = 1:=by rw [hl] at m2;simpa [manyOf] using m2
   have hbl : b.length = 1 + (strmW D).length:=by rw [hbe];simp;omega
   have hone : oneSub (sD D) (st b (1 + (strmW D).length)) = st b (1 + (strmW D).length):=by
     unfold oneSub
     rw [if_neg,st_ok]
     rintro ⟨-,hx⟩
     refine hx ⟨m1,?_⟩
     show (D.S.getD 0 []).length = 1
     rw [hl]
     exact hll
   have hbody : parseBody (newRs b) = ((true,sD D,[]),st b (1 + (strmW D).length)):=by
     unfold parseBody
     rw [newRs_st,hby]
     dsimp only
     rw [if_neg (by decide),if_pos (by decide),show (0 : Nat) + 1 = 1 from rfl,hs]
     dsimp only
     rw [hone]
   have htail : parseTail (parseBody (newRs b)) = st b (1 + (strmW D).length):=by
     unfold parseTail
     rw [hbody]
     dsimp only
     rw [st_end _ _ (by omega),st_ok,if_neg (by simp)]
   unfold parseL
   rw [if_neg (by rw [hbe];simp),htail,if_pos (st_k _ _),hbody]
 | false =>
   rw [if_neg (by simp)] at hm
   simp only [Bool.and_eq_true,decide_eq_true_eq] at hm
   obtain ⟨m1,m2⟩:=hm
   have hmf : ∀ x ∈ F,mayFil x = true:=fun x hx => List.all_eq_true.1 m1 x hx
   cases hso : D.some with
   | false =>
     obtain ⟨e1,e2⟩:=strm_none hd hso
     have hw : writeW false D F = 1 :: (filesW F ++ [0]):=by unfold writeW;rw [if_neg (by simp),hso];rfl
     rw [hw] at hb ⊢
     rw [parse_files hb hmf (by rw [← m2,e2];rfl),e1]
   | true =>
     have hw : writeW false D F = [1,4] ++ (strmW D ++ (filesW F ++ [0])):=by unfold writeW;rw [if_neg (by simp),hso];rfl
     rw [hw] at hb ⊢
     obtain ⟨b,hbe⟩ : ∃ b,b = [1,4] ++ (strmW D ++ (filesW F ++ [0])):=⟨_,rfl⟩
     rw [← hbe] at hb ⊢
     have h0 : b.drop 0 = [1] ++ ([4] ++ (strmW D ++ (filesW F ++ [0]))):=hbe
     have h1 : b.drop 1 = [4] ++ (strmW D ++ (filesW F ++ [0])):=by rw [hbe];rfl
     have h2 : b.drop 2 = strmW D ++ (filesW F ++ [0]):=by rw [hbe];rfl
     have hby:=st_byte (x:=1) h0
     have hby1:=st_byte (x:=4) h1
     have hs:=streams_back hd h2 hb
     have h3 : b.drop (2 + (strmW D).length) = filesW F ++ (0 :: []):=drop_next h2
     have hsl : 1 ≤ (strmW D).length:=by unfold strmW;simp only [List.length_append,List.length_cons,List.length_nil];omega
     have hbl : b.length = 2 + (strmW D).length + (filesW F).length + 1:=by rw [hbe];simp only [List.length_append,List.length_cons,List.length_nil];omega
     have hfl : F = [] ∨ 1 ≤ (filesW F).length:=by
       by_cases hF : F = []
       · exact .inl hF
       · right
         rw [show filesW F = 5 :: (shortN F.length ++ (rowsW F ++ (partW 17 (namesW F) ++ (numsW 20 8 timeOf F ++ (numsW 21 4 attrOf F ++ [0]))))) from if_neg hF]
         simp
     have hsl2 : 2 ≤ (strmW D).length:=by
       unfold StD.some StD.p1 StD.p2 StD.p3 at hso
       unfold strmW packsW foldersW subsW
       simp only [Bool.or_eq_true,Bool.not_eq_true',Bool.and_eq_false_iff,decide_eq_false_iff_not] at hso
       rcases hso with (h | h) | h | h
       · rw [if_neg (c:=D.S.any oddS = false ∧ _) (by rintro ⟨h1,-⟩;rw [h] at h1;cases h1)]
         simp only [List.length_append,List.length_cons,List.length_nil];omega
       · rw [if_neg (c:=D.S.any oddS = false ∧ _) (by rintro ⟨-,h1⟩;rw [h] at h1;cases h1)]
         simp only [List.length_append,List.length_cons,List.length_nil];omega
       · rw [if_neg (c:=D.L = []) h]
         simp only [List.length_append,List.length_cons,List.length_nil];omega
       · have hn : ¬ (D.ps = [] ∧ D.pl = 0):=by
           rintro ⟨h1,h2⟩
           rcases h with h | h
           · exact h h1
           · rw [h2] at h;simp at h
         rw [if_neg hn]
         simp only [List.length_append,List.length_cons,List.length_nil];omega
     have hb5 : 5 ≤ b.length:=by omega
     have hc:=allC_back (D:=sD D) h3 hb hb5 hmf
     have hall : (st b 1).all = ((sD D,F),st b (2 + (strmW D).length + (filesW F).length + 1)):=by
       unfold Rs.all
       rw [hby1]
       dsimp only
       rw [show ((4 : UInt8).toNat == 2) = false from rfl,at_no]
       dsimp only
       rw [if_neg (by simp)]
       unfold Rs.allA
       rw [show ((4 : UInt8).toNat == 3) = false from rfl,at_no]
       dsimp only
       rw [if_neg (by simp)]
       unfold Rs.allB
       rw [show ((4 : UInt8).toNat == 4) = true from rfl,at_back]
       dsimp only
       rw [if_pos rfl,show (1 : Nat) + 1 = 2 from rfl,hs]
       dsimp only
       exact hc
     have hbody : parseBody (newRs b) = ((false,sD D,F),st b (2 + (strmW D).length + (filesW F).length + 1)):=by
       unfold parseBody
       rw [newRs_st,hby]
       dsimp only
       rw [if_pos (show (1 : UInt8).toNat = 1 from rfl),show (0 : Nat) + 1 = 1 from rfl,hall]
     have hcnt : (st b (2 + (strmW D).length + (filesW F).length + 1)).count D.S F = st b (2 + (strmW D).length + (filesW F).length + 1):=by
       unfold Rs.count
       rw [if_pos]
       rw [← many_tot,m2,strN_stream]
     have htail : parseTail (parseBody (newRs b)) = st b (2 + (strmW D).length + (filesW F).length + 1):=by
       unfold parseTail
       rw [hbody]
       dsimp only
       rw [st_end _ _ (by omega),st_ok,if_pos ⟨rfl,rfl⟩]
       exact hcnt
     unfold parseL
     rw [if_neg (by rw [hbe];simp),htail,if_pos (st_k _ _),hbody]
end Go.Proofs.YtkodindajfdagaaGreatDoor
