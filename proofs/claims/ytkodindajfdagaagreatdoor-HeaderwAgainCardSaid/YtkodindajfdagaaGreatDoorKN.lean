/- The reader of headers, plain: what each step keeps. No condition. -/
import Derived.Test.YtkodindajfdagaaGreatDoorJO
import Derived.Test.YtkodindajfdagaaGreatDoorJQ
namespace Go.Proofs.YtkodindajfdagaaGreatDoor
def codeR (k : Nat) : Prop:=k = 0 ∨ (3 ≤ k ∧ k ≤ 18)
def Rs.rng (s : Rs) : Prop:=codeR s.k ∧ codeR s.c.code
structure St (s s' : Rs) : Prop where
 b : s'.c.b = s.c.b
 at_ : s.c.at_ ≤ s.c.b.length → s'.c.at_ ≤ s.c.b.length
 r : s.rng → s'.rng
 keep : s'.ok.k = 0 → s.ok.k = 0
theorem St.refl (s : Rs) : St s s:=⟨rfl,id,id,id⟩
theorem St.trans {a b c : Rs} (h : St a b) (k : St b c) : St a c :=
 ⟨k.b.trans h.b,fun hh => by have:=k.at_ (by rw [h.b];exact h.at_ hh);rw [h.b] at this;exact this,fun hh => k.r (h.r hh),fun hh => h.keep (k.keep hh)⟩
theorem ok_k (s : Rs) : s.ok.k = 0 ↔ s.k = 0 ∧ s.c.code = 0:=by
 constructor
 · exact Rs.ok_zero
 · rintro ⟨h1,h2⟩
   unfold Rs.ok
   rw [if_pos h1]
   exact h2
theorem St.ok (s : Rs) : St s s.ok:=by
 refine ⟨rfl,id,fun h => ⟨?_,h.2⟩,fun h => by rw [Rs.ok_ok] at h;exact h⟩
 unfold Rs.ok
 dsimp only
 split
 · exact h.2
 · exact h.1
theorem St.fail (s : Rs) (e : Nat) (he : 3 ≤ e ∧ e ≤ 18) : St s (s.fail e):=by
 refine ⟨rfl,id,fun h => ⟨?_,h.2⟩,fun h => ?_⟩
 · unfold Rs.fail
   dsimp only
   split
   · exact .inr he
   · exact h.1
 · have h1:=((ok_k _).1 h).1
   unfold Rs.fail at h1
   dsimp only at h1
   split at h1
   · omega
   · contradiction
theorem St.cur (s : Rs) (c : Cur) (hb : c.b = s.c.b) (ha : s.c.at_ ≤ s.c.b.length → c.at_ ≤ s.c.b.length) (hr : codeR s.c.code → codeR c.code) (hk : c.code = 0 → s.c.code = 0) : St s { s with c:=c } :=
 ⟨hb,ha,fun h => ⟨h.1,hr h.2⟩,fun h => (ok_k _).2 ⟨((ok_k _).1 h).1,hk ((ok_k _).1 h).2⟩⟩
theorem cfail_r (c : Cur) (e : Nat) (he : 3 ≤ e ∧ e ≤ 18) (h : codeR c.code) : codeR (c.fail e).code:=by
 unfold Cur.fail
 dsimp only
 split
 · exact .inr he
 · exact h
theorem cfail_k (c : Cur) (e : Nat) (_ : 3 ≤ e) (h : (c.fail e).code = 0) : c.code = 0:=by
 unfold Cur.fail at h
 dsimp only at h
 split at h
 · assumption
 · exact h
theorem left_lt {c : Cur} {n : Nat} (h : ¬ c.left < n) (hn : 0 < n) : c.code = 0 ∧ c.at_ + n ≤ c.b.length:=by
 unfold Cur.left at h
 split at h
 · rename_i hc;exact ⟨hc,by omega⟩
 · omega
theorem take_st (s : Rs) (n : Nat) : St s (s.take n).2:=by
 refine St.cur s _ (Cur.take_b _ _) ?_ ?_ ?_
 · unfold Cur.take
   split
   · exact id
   · rename_i h
     intro hh
     by_cases h0 : n = 0
     · subst h0;exact hh
     · exact (left_lt (fun hl => h (.inr hl)) (by omega)).2
 · unfold Cur.take
   split
   · exact cfail_r _ 3 (by omega)
   · exact id
 · unfold Cur.take
   split
   · exact cfail_k _ 3 (by omega)
   · exact id
theorem num_st (s : Rs) (n : Int) : St s (s.num n).2:=by
 by_cases h : Cur.sized n = true
 · have e : (s.num n).2 = (s.take n.toNat).2:=by
     show ({ s with c:=(s.c.num n).2 } : Rs) = { s with c:=(s.c.take n.toNat).2 }
     unfold Cur.num
     rw [if_pos h]
   rw [e]
   exact take_st s _
 · have e : (s.num n).2 = { s with c:=s.c.fail 3 }:=by
     show ({ s with c:=(s.c.num n).2 } : Rs) = _
     unfold Cur.num
     rw [if_neg h]
   rw [e]
   exact St.cur s _ rfl id (cfail_r _ 3 (by omega)) (cfail_k _ 3 (by omega))
theorem byte_st (s : Rs) : St s s.byte.2:=num_st s 1
theorem number_st (s : Rs) : St s s.number.2:=by
 refine St.cur s _ (number_b _) ?_ ?_ ?_
 · unfold Cur.number
   split
   · exact id
   · rename_i h
     intro _
     have:=(left_lt h (by omega)).2
     dsimp only
     omega
 · unfold Cur.number
   split
   · exact cfail_r _ 3 (by omega)
   · exact id
 · unfold Cur.number
   split
   · exact cfail_k _ 3 (by omega)
   · exact id
theorem cbits_st (c : Cur) (n : Int) : (c.at_ ≤ c.b.length → (c.bits n).2.at_ ≤ c.b.length) ∧ (codeR c.code → codeR (c.bits n).2.code) ∧ ((c.bits n).2.code = 0 → c.code = 0):=by
 unfold Cur.bits
 split
 · exact ⟨id,cfail_r _ 3 (by omega),cfail_k _ 3 (by omega)⟩
 · rename_i h
   split
   · exact ⟨id,cfail_r _ 5 (by omega),cfail_k _ 5 (by omega)⟩
   · refine ⟨fun hh => ?_,id,id⟩
     by_cases h0 : (n.toNat + 7) / 8 = 0
     · dsimp only;omega
     · exact (left_lt (fun hl => h (.inr (.inr hl))) (by omega)).2
theorem rbits_st (s : Rs) (n : Int) : St s (s.bits n).2:=St.cur s _ (cbits_b _ _) (cbits_st s.c n).1 (cbits_st s.c n).2.1 (cbits_st s.c n).2.2
theorem told_st (s : Rs) (n : Int) : St s (s.told n).2:=by
 refine St.cur s _ (told_b _ _) ?_ ?_ ?_
 · unfold Cur.told
   split
   · exact id
   · rename_i h
     have hl:=(left_lt (fun hl => h (.inl hl)) (by omega)).2
     split
     · intro _;exact hl
     · split
       · have:=(cbits_st { s.c with at_:=s.c.at_ + 1 } n).1 hl
         split
         · exact id
         · intro _;exact this
       · exact id
 · unfold Cur.told
   split
   · exact cfail_r _ 3 (by omega)
   · split
     · exact id
     · split
       · have:=(cbits_st { s.c with at_:=s.c.at_ + 1 } n).2.1
         split
         · exact this
         · exact this
       · exact cfail_r _ 5 (by omega)
 · unfold Cur.told
   split
   · exact cfail_k _ 3 (by omega)
   · split
     · exact id
     · split
       · have:=(cbits_st { s.c with at_:=s.c.at_ + 1 } n).2.2
         split
         · exact this
         · exact this
       · exact cfail_k _ 5 (by omega)
theorem lim_st (s : Rs) (bad : Nat → Rs → Bool) (e : Nat) (he : 3 ≤ e ∧ e ≤ 18) : St s (s.lim bad e).2:=by
 have h:=(number_st s).trans (St.ok _)
 unfold Rs.lim
 split
 · exact h
 · split
   · exact h.trans (St.fail _ e he)
   · exact h
theorem things_st (s : Rs) : St s s.things.2:=lim_st s _ 3 (by omega)
theorem size_st (s : Rs) : St s s.size.2:=lim_st s _ 7 (by omega)
theorem below_st (s : Rs) (m : Nat) : St s (s.below m).2:=lim_st s _ 10 (by omega)
theorem at_st (s : Rs) (c : Bool) : St s (s.at c).2:=by
 cases c
 · exact St.refl s
 · exact St.ok s
theorem check_st (s : Rs) (bad : Bool) (e : Nat) (he : 3 ≤ e ∧ e ≤ 18) : St s (s.check bad e):=by
 unfold Rs.check
 split
 · exact (St.ok s).trans (St.fail _ e he)
 · exact St.ok s
theorem end_st (s : Rs) (id : Nat) : St s (s.end_ id):=by
 unfold Rs.end_
 split
 · exact (St.ok s).trans (St.fail _ 5 (by omega))
 · exact St.ok s
theorem must_st (s : Rs) (id : Nat) : St s.byte.2 (s.must id):=by
 unfold Rs.must
 split
 · exact (St.ok _).trans (St.fail _ 5 (by omega))
 · exact St.ok _
theorem inside_st (s : Rs) : St s.byte.2 s.inside:=by
 unfold Rs.inside
 split
 · exact St.ok _
 · split
   · exact (St.ok _).trans (St.fail _ 6 (by omega))
   · exact (St.ok _).trans (St.fail _ 5 (by omega))
theorem sumsL_st : ∀ (hs : List Bool) (s : Rs) (out : List Ck),St s (sumsL hs s out).2
 | [],s,out => St.ok s
 | false :: t,s,out => by
   rw [sumsL_false]
   split
   · exact St.ok s
   · exact (St.ok s).trans (sumsL_st t _ _)
 | true :: t,s,out => by
   rw [sumsL_true]
   split
   · exact (num_st s 4).trans (St.ok _)
   · exact ((num_st s 4).trans (St.ok _)).trans (sumsL_st t _ _)
theorem sums_st (s : Rs) (n : Nat) : St s (s.sums n).2:=(told_st s n).trans (sumsL_st _ _ _)
theorem method_st (s : Rs) (l : List UInt8) : St s (s.method l).2:=by
 unfold Rs.method
 split
 · exact St.refl s
 · split
   · exact St.fail s 9 (by omega)
   · exact St.fail s 8 (by omega)
theorem two_st (s : Rs) (c : Bool) : St s (s.two c).2:=by
 unfold Rs.two
 split
 · exact ((at_st s c).trans (number_st _)).trans (number_st _)
 · exact at_st s c
theorem propsOf_st (s : Rs) (c : Bool) : St s (s.propsOf c).2:=by
 unfold Rs.propsOf
 split
 · exact ((at_st s c).trans (things_st _)).trans (take_st _ _)
 · exact at_st s c
theorem coderB_st (f m : Nat) (s : Rs) : St s (Rs.coderB f m s).2:=((two_st s _).trans (check_st _ _ 10 (by omega))).trans (propsOf_st _ _)
theorem coderA_st (f : Nat) (l : List UInt8) (s : Rs) : St s (Rs.coderA f l s).2:=by
 unfold Rs.coderA
 split
 · exact St.ok s
 · exact ((St.ok s).trans (method_st _ l)).trans (coderB_st _ _ _)
theorem coder_st (s : Rs) : St s s.coder.2:=(((byte_st s).trans (check_st _ _ 5 (by omega))).trans (take_st _ _)).trans (coderA_st _ _ _)
theorem codersGo_st : ∀ (m : Nat) (s : Rs) (L : List Coder),St s (codersGo m s L).2
 | 0,s,L => St.ok s
 | m + 1,s,L => by
   by_cases h : s.ok.k = 0
   · rw [codersGo_ok h];exact (coder_st s).trans (codersGo_st m _ _)
   · rw [codersGo_bad h];exact St.ok s
theorem bindsGo_st : ∀ (m i n : Nat) (s : Rs) (B : List (Int × Int)),St s (bindsGo m i n s B).2
 | 0,i,n,s,B => St.ok s
 | m + 1,i,n,s,B => by
   by_cases h : s.ok.k = 0
   · rw [bindsGo_ok h];exact ((below_st s i).trans (below_st _ n)).trans (bindsGo_st m i n _ _)
   · rw [bindsGo_bad h];exact St.ok s
theorem belowGo_st : ∀ (m i : Nat) (s : Rs) (P : List Int),St s (belowGo m i s P).2
 | 0,_,s,_ => St.refl s
 | m + 1,i,s,_ => (below_st s i).trans (belowGo_st m i _ _)
theorem folderD_st (C : List Coder) (B : List (Int × Int)) (s : Rs) : St s (Rs.folderD C B s).2:=by
 unfold Rs.folderD
 split
 · exact St.ok s
 · split
   · dsimp only
     split
     · exact (St.ok s).trans (St.fail _ 10 (by omega))
     · exact St.ok s
   · exact (St.ok s).trans (belowGo_st _ _ _ _)
theorem folderC_st (n : Nat) (s : Rs) : St s (Rs.folderC n s).2:=((codersGo_st n s []).trans (bindsGo_st _ _ _ _ _)).trans (folderD_st _ _ _)
theorem folder_st (s : Rs) : St s s.folder.2:=((number_st s).trans (check_st _ _ 10 (by omega))).trans (folderC_st _ _)
theorem foldersGo_st : ∀ (m : Nat) (s : Rs) (L : List Folder),St s (foldersGo m s L).2
 | 0,s,L => St.ok s
 | m + 1,s,L => by
   by_cases h : s.ok.k = 0
   · rw [foldersGo_ok h];exact (folder_st s).trans (foldersGo_st m _ _)
   · rw [foldersGo_bad h];exact St.ok s
theorem sizesFor_st : ∀ (m : Nat) (s : Rs) (S : List UInt64),St s (sizesFor m s S).2
 | 0,s,_ => St.refl s
 | m + 1,s,_ => (size_st s).trans (sizesFor_st m _ _)
theorem sizesGo_st : ∀ (L : List Folder) (s : Rs) (D : List Folder),St s (sizesGo L s D).2
 | [],s,D => St.ok s
 | f :: t,s,D => by
   by_cases h : s.ok.k = 0
   · rw [sizesGo_ok h];exact (sizesFor_st _ s _).trans (sizesGo_st t _ _)
   · rw [sizesGo_bad h];exact St.ok s
theorem foldersB_st (L : List Folder) (n id : Nat) (s : Rs) : St s (Rs.foldersB L n id s).2:=by
 unfold Rs.foldersB
 split
 · exact (((at_st s _).trans (sums_st _ n)).trans (byte_st _)).trans (end_st _ _)
 · exact (at_st s _).trans (end_st _ _)
theorem foldersA_st (n : Nat) (s : Rs) : St s (Rs.foldersA n s).2 :=
 (((((foldersGo_st n s []).trans (byte_st _)).trans (must_st _ 12)).trans (sizesGo_st _ _ _)).trans (byte_st _)).trans (foldersB_st _ _ _ _)
theorem folders_st (s : Rs) : St s s.folders.2:=(((((byte_st s).trans (must_st s 11)).trans (things_st _)).trans (byte_st _)).trans (inside_st _)).trans (foldersA_st _ _)
theorem sumOf_st (s : Rs) (sum : Nat) : St s (s.sumOf sum):=by
 unfold Rs.sumOf
 split
 · exact (size_st s).trans (St.fail _ 7 (by omega))
 · exact size_st s
theorem packsGo_st : ∀ (n m : Nat) (s : Rs) (P : List UInt64),St s (packsGo n m s P).2.2
 | 0,m,s,P => St.refl s
 | n + 1,m,s,P => by
   by_cases h : (s.sumOf m).k ≠ 0
   · rw [packsGo_bad h];exact sumOf_st s m
   · rw [packsGo_ok h];exact (size_st s).trans (packsGo_st n _ _ _)
theorem packsEnd_st (P : List UInt64) (n id : Nat) (s : Rs) : St s (Rs.packsEnd P n id s).2:=by
 unfold Rs.packsEnd
 split
 · exact (((at_st s _).trans (sums_st _ n)).trans (byte_st _)).trans (end_st _ _)
 · exact (at_st s _).trans (end_st _ _)
theorem packsA_st (n id pl : Nat) (s : Rs) : St s (Rs.packsA n id pl s).2:=by
 unfold Rs.packsA
 split
 · split
   · exact (at_st s _).trans (packsGo_st _ _ _ _)
   · exact (((at_st s _).trans (packsGo_st _ _ _ _)).trans (byte_st _)).trans (packsEnd_st _ _ _ _)
 · refine St.trans ?_ (packsEnd_st _ _ _ _)
   split
   · exact ((at_st s _).trans (at_st _ _)).trans (St.fail _ 5 (by omega))
   · exact (at_st s _).trans (at_st _ _)
theorem packs_st (s : Rs) : St s s.packs.2:=(((size_st s).trans (things_st _)).trans (byte_st _)).trans (packsA_st _ _ _ _)
theorem countsGo_st : ∀ (SL : List (List Sub)) (s : Rs) (D : List (List Sub)),St s (countsGo SL s D).2
 | [],s,D => St.refl s
 | x :: t,s,D => by
   have h0:=((things_st s).trans (check_st _ (decide (s.things.1 = 0)) 14 (by omega))).trans (St.ok _)
   by_cases h : (s.things.2.check (decide (s.things.1 = 0)) 14).ok.k ≠ 0
   · rw [countsGo_bad h];exact h0
   · rw [countsGo_ok h];exact h0.trans (countsGo_st t _ _)
theorem cutGo_st : ∀ (m left : Nat) (s : Rs) (Z : List Nat),St s (cutGo m left s Z).2.2
 | 0,left,s,Z => St.refl s
 | m + 1,left,s,Z => by
   have h0:=((size_st s).trans (check_st _ (decide (left < s.size.1)) 13 (by omega))).trans (St.ok _)
   by_cases h : (s.size.2.check (decide (left < s.size.1)) 13).ok.k ≠ 0
   · rw [cutGo_bad h];exact h0
   · rw [cutGo_ok h];exact h0.trans (cutGo_st m _ _ _)
theorem cutL_st (f : Folder) (l : List Sub) (s : Rs) : St s (cutL f l s).2:=cutGo_st _ _ _ _
theorem cutsGo_st : ∀ (F : List Fol) (L : List (List Sub)) (s : Rs) (D : List (List Sub)),St s (cutsGo F L s D).2
 | x :: t,l :: u,s,D => by
   by_cases h : s.ok.k ≠ 0
   · rw [cutsGo_bad h];exact St.ok s
   · rw [cutsGo_ok (by simpa using h)];exact ((St.ok s).trans (cutL_st _ _ _)).trans (cutsGo_st t u _ _)
 | [],L,s,D => by simp only [cutsGo];exact St.ok s
 | x :: t,[],s,D => by simp only [cutsGo];exact St.ok s
theorem subsC_st (F : List Fol) (L : List (List Sub)) (id : Nat) (s : Rs) : St s (Rs.subsC F L id s).2:=by
 unfold Rs.subsC
 split
 · exact (((at_st s _).trans (sums_st _ _)).trans (byte_st _)).trans (end_st _ _)
 · exact (at_st s _).trans (end_st _ _)
theorem subsB_st (F : List Fol) (L : List (List Sub)) (id : Nat) (s : Rs) : St s (Rs.subsB F L id s).2:=by
 unfold Rs.subsB
 split
 · exact (((at_st s _).trans (cutsGo_st _ _ _ _)).trans (byte_st _)).trans (subsC_st _ _ _ _)
 · refine St.trans ?_ (subsC_st _ _ _ _)
   split
   · exact ((at_st s _).trans (at_st _ _)).trans (St.fail _ 5 (by omega))
   · exact (at_st s _).trans (at_st _ _)
theorem subsA_st (F : List Fol) (L : List (List Sub)) (id : Nat) (s : Rs) : St s (Rs.subsA F L id s).2:=by
 unfold Rs.subsA
 split
 · exact (((at_st s _).trans (countsGo_st _ _ _)).trans (byte_st _)).trans (subsB_st _ _ _ _)
 · exact (at_st s _).trans (subsB_st _ _ _ _)
theorem subs_st (F : List Fol) (L : List (List Sub)) (s : Rs) : St s (Rs.subs F L s).2:=(byte_st s).trans (subsA_st _ _ _ _)
theorem streamsC_st (D : Strm) (id : Nat) (s : Rs) : St s (Rs.streamsC D id s).2:=by
 unfold Rs.streamsC
 split
 · exact (((at_st s _).trans (subs_st _ _ _)).trans (byte_st _)).trans (end_st _ _)
 · exact (at_st s _).trans (end_st _ _)
theorem streamsB_st (D : Strm) (id : Nat) (s : Rs) : St s (Rs.streamsB D id s).2:=by
 unfold Rs.streamsB
 split
 · exact (((at_st s _).trans (folders_st _)).trans (byte_st _)).trans (streamsC_st _ _ _)
 · exact (at_st s _).trans (streamsC_st _ _ _)
theorem chunk_st (s : Rs) : St s s.chunk.2:=(things_st s).trans (take_st _ _)
theorem propsGo_st : ∀ (m : Nat) (s : Rs),St s (propsGo m s)
 | 0,s => St.refl s
 | m + 1,s => by
   by_cases h : s.byte.1 = 0 ∨ s.byte.2.ok.k ≠ 0
   · rw [propsGo_end h];exact (byte_st s).trans (St.ok _)
   · have h1 : s.byte.1 ≠ 0:=fun e => h (.inl e)
     have h2 : s.byte.2.ok.k = 0:=by
       by_cases e : s.byte.2.ok.k = 0
       · exact e
       · exact absurd (.inr e) h
     rw [propsGo_ok h1 h2]
     exact ((byte_st s).trans (chunk_st _)).trans (propsGo_st m _)
theorem unitsGo_st : ∀ (m : Nat) (s : Rs) (U : List Nat),St s (unitsGo m s U).2
 | 0,s,U => St.refl s
 | m + 1,s,U => by
   by_cases h : s.ok.k = 0
   · by_cases h0 : (s.num 2).1 = 0
     · rw [unitsGo_end h h0];exact num_st s 2
     · rw [unitsGo_ok h h0];exact (num_st s 2).trans (unitsGo_st m _ _)
   · rw [unitsGo_bad h];exact St.ok s
theorem nameOk_st (s : Rs) : St s (nameOk s):=by
 unfold nameOk
 have h:=(unitsGo_st (s.c.b.length + 1) s []).trans (St.ok _)
 split
 · exact h.trans (St.fail _ 15 (by omega))
 · exact h
theorem namesGo_st : ∀ (m i : Nat) (s : Rs) (F : List Fil),St s (namesGo m i s F).2
 | 0,i,s,F => St.ok s
 | m + 1,i,s,F => by
   by_cases h : s.ok.k = 0
   · by_cases h2 : s.units.2.ok.k = 0
     · rw [namesGo_ok h h2];exact (nameOk_st s).trans (namesGo_st m _ _ _)
     · rw [namesGo_cut h h2];exact (unitsGo_st _ s []).trans (St.ok _)
   · rw [namesGo_bad h];exact St.ok s
theorem numsGo_st (id : Nat) : ∀ (l : List Bool) (k : Nat) (s : Rs) (F : List Fil),St s (numsGo id l k s F).2
 | [],k,s,F => St.refl s
 | false :: t,k,s,F => by rw [numsGo_no];exact numsGo_st id t _ _ _
 | true :: t,k,s,F => by
   by_cases h : (s.num (numSz id)).2.ok.k = 0
   · rw [numsGo_ok h];exact (num_st s _).trans (numsGo_st id t _ _ _)
   · rw [numsGo_bad h];exact (num_st s _).trans (St.ok _)
theorem amongFold_st (id : Nat) : ∀ (z : List (Nat × Bool)) (r : List Fil × Rs),St r.2 (z.foldl (amongStep id) r).2
 | [],r => St.refl _
 | a :: t,r => by
   rw [List.foldl_cons]
   refine St.trans ?_ (amongFold_st id t _)
   unfold amongStep
   split
   · exact St.refl _
   · dsimp only
     split
     · exact St.fail _ 18 (by omega)
     · exact St.refl _
theorem dummyGo_st : ∀ (m : Nat) (s : Rs),St s (dummyGo m s)
 | 0,s => St.refl s
 | m + 1,s => by
   by_cases h : s.c.left = 0
   · rw [dummyGo_end h];exact St.refl s
   · by_cases h2 : s.ok.k = 0
     · rw [dummyGo_ok h h2]
       refine St.trans ?_ (dummyGo_st m _)
       split
       · exact (byte_st s).trans (St.fail _ 5 (by omega))
       · exact byte_st s
     · rw [dummyGo_bad h h2];exact St.ok s
theorem partBody_st (n id : Nat) (L : Lst) (s : Rs) : St s (partBody n id L s).2:=by
 unfold partBody
 split
 · exact rbits_st _ _
 split
 · show St s (amongL id L.empty L.files s).2
   unfold amongL
   exact (rbits_st s _).trans (amongFold_st id ((posL L.empty).zip (s.bits (posL L.empty).length).1) (L.files,(s.bits (posL L.empty).length).2))
 split
 · exact ((byte_st s).trans (inside_st s)).trans (namesGo_st _ _ _ _)
 split
 · exact (((told_st s n).trans (byte_st _)).trans (inside_st _)).trans (numsGo_st _ _ _ _ _)
 split
 · exact dummyGo_st _ _
 · exact St.refl s
theorem partEnd_st (s : Rs) : St s s.partEnd:=by
 unfold Rs.partEnd
 split
 · exact (St.ok s).trans (St.fail _ 5 (by omega))
 · exact St.ok s
theorem partL_code (n id : Nat) (L : Lst) (b : List UInt8) : codeR (partL n id L b).2 :=
 (((partBody_st n id L (newRs b)).trans (partEnd_st _)).r ⟨.inl rfl,.inl rfl⟩).1
theorem told'_st (s : Rs) (e : Nat) (he : codeR e) : St s (s.told' e):=by
 unfold Rs.told'
 split
 · exact St.refl s
 · rcases he with h | h
   · contradiction
   · exact St.fail s e h
theorem filesGo_st (n : Nat) : ∀ (m : Nat) (L : Lst) (s : Rs),St s (filesGo n m L s).2
 | 0,L,s => St.refl s
 | m + 1,L,s => by
   by_cases hz : s.ok.k = 0
   rotate_left
   · rw [filesGo_bad hz];exact St.ok s
   by_cases hzy : s.byte.2.ok.k = 0
   rotate_left
   · rw [filesGo_end hz (.inl hzy)];exact (byte_st s).trans (St.ok _)
   by_cases hv : s.byte.1 = 0
   · rw [filesGo_end hz (.inr hv)];exact (byte_st s).trans (St.ok _)
   cases hm : mayL L.said s.byte.1 with
   | false => rw [filesGo_not hz hzy hv hm];exact (byte_st s).trans (St.fail _ 5 (by omega))
   | true =>
     by_cases hzz : s.byte.2.chunk.2.ok.k = 0
     · rw [filesGo_ok hz hzy hv hm hzz]
       exact (((byte_st s).trans (chunk_st _)).trans (told'_st _ _ (partL_code _ _ _ _))).trans (filesGo_st n m _ _)
     · rw [filesGo_cut hz hzy hv hm hzz]
       exact (((byte_st s).trans (chunk_st _)).trans (St.ok _)).trans (filesGo_st n m _ _)
theorem filesEnd_st (r : Lst × Rs) (n : Nat) : St r.2 (Rs.filesEnd r n).2:=by
 unfold Rs.filesEnd
 dsimp only
 split
 · exact (St.ok _).trans (St.fail _ 5 (by omega))
 · exact St.ok _
theorem files_st (s : Rs) : St s s.files.2:=((things_st s).trans (filesGo_st _ _ _ _)).trans (filesEnd_st _ _)
theorem allC_st (D : Strm) (id : Nat) (s : Rs) : St s (Rs.allC D id s).2:=by
 unfold Rs.allC
 split
 · have h1:=(at_st s (id == 5)).trans (files_st (s.at (id == 5)).2)
   generalize (s.at (id == 5)).2.files = r at h1 ⊢
   exact (h1.trans (byte_st r.2)).trans (end_st _ _)
 · exact (at_st s _).trans (end_st _ _)
theorem oneSub_st (D : Strm) (s : Rs) : St s (oneSub D s):=by
 unfold oneSub
 split
 · exact (St.ok s).trans (St.fail _ 5 (by omega))
 · exact St.ok s
end Go.Proofs.YtkodindajfdagaaGreatDoor
/- The plain reader: what is read takes bytes, so folders, properties and names aren't more than the bytes. No condition. -/
namespace Go.Proofs.YtkodindajfdagaaGreatDoor
open Go.RowKit Go.Maps
def Eat (s s' : Rs) (a b : Nat) : Prop:=s'.ok.k = 0 → s.ok.k = 0 ∧ s.c.at_ + b ≤ s'.c.at_ + a
theorem Eat.trans {s t u : Rs} {a b c : Nat} (h : Eat s t a b) (k : Eat t u b c) : Eat s u a c:=fun hu => by
 obtain ⟨k1,k2⟩:=k hu
 obtain ⟨h1,h2⟩:=h k1
 exact ⟨h1,by omega⟩
theorem Eat.add {s t : Rs} {a b : Nat} (h : Eat s t a b) (k : Nat) : Eat s t (a + k) (b + k):=fun hu => ⟨(h hu).1,by have:=(h hu).2;omega⟩
theorem Eat.less {s t : Rs} {a b b' : Nat} (h : Eat s t a b) (hb : b' ≤ b) : Eat s t a b':=fun hu => ⟨(h hu).1,by have:=(h hu).2;omega⟩
theorem Eat.of_st {s t : Rs} (h : St s t) (hc : s.c.at_ ≤ t.c.at_) (a : Nat) : Eat s t a a:=fun hu => ⟨h.keep hu,by omega⟩
theorem ok_eat (s : Rs) (a : Nat) : Eat s s.ok a a:=Eat.of_st (St.ok s) (Nat.le_refl _) a
theorem fail_eat (s : Rs) (e : Nat) (he : 3 ≤ e ∧ e ≤ 18) (a : Nat) : Eat s (s.fail e) a a:=Eat.of_st (St.fail s e he) (Nat.le_refl _) a
theorem code_zero {s : Rs} (h : s.ok.k = 0) : s.c.code = 0:=((ok_k s).1 h).2
theorem take_eat (s : Rs) (n a : Nat) : Eat s (s.take n).2 a (a + n):=fun hu => by
 refine ⟨(take_st s n).keep hu,?_⟩
 have h1:=code_zero hu
 unfold Rs.take Cur.take at h1 ⊢
 dsimp only at h1 ⊢
 split at h1
 · rename_i hb
   exfalso
   have h2:=cfail_k _ 3 (by omega) h1
   unfold Cur.fail at h1
   dsimp only at h1
   rw [if_pos h2] at h1
   omega
 · rename_i hb
   rw [if_neg hb]
   dsimp only
   omega
theorem take_short (s : Rs) (n : Nat) : (s.take n).1.length ≤ n:=by
 unfold Rs.take Cur.take
 dsimp only
 split
 · exact Nat.zero_le _
 · rw [List.length_take];omega
theorem take_within (s : Rs) (n : Nat) : (s.take n).1.length ≤ s.c.b.length:=by
 unfold Rs.take Cur.take
 dsimp only
 split
 · exact Nat.zero_le _
 · rw [List.length_take,List.length_drop];omega
theorem num_take (s : Rs) (n : Int) (h : Cur.sized n = true) : (s.num n).2 = (s.take n.toNat).2:=by
 show ({ s with c:=(s.c.num n).2 } : Rs) = { s with c:=(s.c.take n.toNat).2 }
 unfold Cur.num
 rw [if_pos h]
theorem byte_eat (s : Rs) (a : Nat) : Eat s s.byte.2 a (a + 1):=by
 have e : s.byte.2 = (s.take 1).2:=num_take s 1 rfl
 rw [e]
 exact take_eat s 1 a
theorem number_eat (s : Rs) (a : Nat) : Eat s s.number.2 a (a + 1):=fun hu => by
 refine ⟨(number_st s).keep hu,?_⟩
 have h1:=code_zero hu
 unfold Rs.number Cur.number at h1 ⊢
 dsimp only at h1 ⊢
 split at h1
 · exfalso
   have h2:=cfail_k _ 3 (by omega) h1
   unfold Cur.fail at h1
   dsimp only at h1
   rw [if_pos h2] at h1
   omega
 · rename_i hb
   rw [if_neg hb]
   dsimp only
   omega
theorem lim_eat (s : Rs) (bad : Nat → Rs → Bool) (e : Nat) (he : 3 ≤ e ∧ e ≤ 18) (a : Nat) : Eat s (s.lim bad e).2 a (a + 1):=by
 have h:=(number_eat s a).trans (ok_eat _ _)
 unfold Rs.lim
 split
 · exact h
 · split
   · exact h.trans (fail_eat _ e he _)
   · exact h
theorem things_eat (s : Rs) (a : Nat) : Eat s s.things.2 a (a + 1):=lim_eat s _ 3 (by omega) a
theorem below_eat (s : Rs) (m a : Nat) : Eat s (s.below m).2 a (a + 1):=lim_eat s _ 10 (by omega) a
theorem at_eat (s : Rs) (c : Bool) (a : Nat) : Eat s (s.at c).2 a a:=by
 cases c
 · exact fun h => ⟨h,Nat.le_refl _⟩
 · exact ok_eat s a
theorem check_eat (s : Rs) (bad : Bool) (e : Nat) (he : 3 ≤ e ∧ e ≤ 18) (a : Nat) : Eat s (s.check bad e) a a:=by
 unfold Rs.check
 split
 · exact (ok_eat s a).trans (fail_eat _ e he _)
 · exact ok_eat s a
theorem method_eat (s : Rs) (l : List UInt8) (a : Nat) : Eat s (s.method l).2 a a:=by
 unfold Rs.method
 split
 · exact fun h => ⟨h,Nat.le_refl _⟩
 · split
   · exact fail_eat s 9 (by omega) a
   · exact fail_eat s 8 (by omega) a
theorem two_eat (s : Rs) (c : Bool) (a : Nat) : Eat s (s.two c).2 a a:=by
 unfold Rs.two
 split
 · exact (((at_eat s c a).trans (number_eat _ _)).trans (number_eat _ _)).less (by omega)
 · exact at_eat s c a
theorem propsOf_eat (s : Rs) (c : Bool) (a : Nat) : Eat s (s.propsOf c).2 a (a + (s.propsOf c).1.length):=by
 unfold Rs.propsOf
 split
 · have h:=((at_eat s c a).trans (things_eat _ _)).trans (take_eat _ (s.at c).2.things.1 _)
   refine h.less ?_
   have:=take_short (s.at c).2.things.2 (s.at c).2.things.1
   omega
 · exact at_eat s c a
theorem coder_eat (s : Rs) (a : Nat) : Eat s s.coder.2 a (a + (1 + s.coder.1.props.length)):=by
 have h1:=((byte_eat s a).trans (check_eat _ (decide (s.byte.1 / 64 ≠ 0)) 5 (by omega) _)).trans (take_eat _ (s.byte.1 % 16) _)
 unfold Rs.coder
 generalize ((s.byte.2.check (decide (s.byte.1 / 64 ≠ 0)) 5).take (s.byte.1 % 16)).2 = t at h1 ⊢
 generalize ((s.byte.2.check (decide (s.byte.1 / 64 ≠ 0)) 5).take (s.byte.1 % 16)).1 = l
 generalize s.byte.1 = f at h1 ⊢
 unfold Rs.coderA
 split
 · exact (h1.trans (ok_eat _ _)).less (by first | (simp;done) | (simp;omega))
 · unfold Rs.coderB
   dsimp only
   have h2:=(ok_eat t (a + 1 + f % 16)).trans (method_eat _ l _)
   generalize (t.ok.method l).2 = u at h2 ⊢
   generalize (t.ok.method l).1 = m
   have h3:=((h1.trans h2).trans (two_eat u (f / 16 % 2 == 1) _)).trans (check_eat _ (((u.two (f / 16 % 2 == 1)).1.1 != ins m) || ((u.two (f / 16 % 2 == 1)).1.2 != 1)) 10 (by omega) _)
   exact (h3.trans (propsOf_eat _ (f / 32 % 2 == 1) _)).less (by omega)
def pw (C : List Coder) : Nat:=(C.map fun c => 1 + c.props.length).sum
theorem pw_snoc (C : List Coder) (c : Coder) : pw (C ++ [c]) = pw C + (1 + c.props.length):=by simp [pw]
theorem codersGo_eat : ∀ (m : Nat) (s : Rs) (L : List Coder),Eat s (codersGo m s L).2 (pw L) (pw (codersGo m s L).1)
 | 0,s,L => ok_eat s _
 | m + 1,s,L => by
   by_cases h : s.ok.k ≠ 0
   · have e : codersGo (m + 1) s L = (L,s.ok):=by show (if _ then _ else _) = _;rw [if_pos h]
     rw [e]
     exact ok_eat s _
   · have e : codersGo (m + 1) s L = codersGo m s.ok.coder.2 (L ++ [s.ok.coder.1]):=by show (if _ then _ else _) = _;rw [if_neg h]
     rw [e]
     have h1:=(ok_eat s (pw L)).trans (coder_eat s.ok (pw L))
     rw [← pw_snoc] at h1
     exact h1.trans (codersGo_eat m _ _)
theorem bindsGo_eat (a : Nat) : ∀ (m i n : Nat) (s : Rs) (B : List (Int × Int)),Eat s (bindsGo m i n s B).2 a a
 | 0,i,n,s,B => ok_eat s _
 | m + 1,i,n,s,B => by
   by_cases h : s.ok.k ≠ 0
   · have e : bindsGo (m + 1) i n s B = (B,s.ok):=by show (if _ then _ else _) = _;rw [if_pos h]
     rw [e]
     exact ok_eat s _
   · have e : bindsGo (m + 1) i n s B = bindsGo m i n ((s.ok.below i).2.below n).2 (B ++ [(((s.ok.below i).1 : Int),(((s.ok.below i).2.below n).1 : Int))]):=by show (if _ then _ else _) = _;rw [if_neg h]
     rw [e]
     have h1:=(((ok_eat s a).trans (below_eat _ i _)).trans (below_eat _ n _)).less (b':=a) (by omega)
     exact h1.trans (bindsGo_eat a m i n _ _)
theorem belowGo_eat (a : Nat) : ∀ (m i : Nat) (s : Rs) (P : List Int),Eat s (belowGo m i s P).2 a a
 | 0,i,s,P => fun h => ⟨h,Nat.le_refl _⟩
 | m + 1,i,s,P => ((below_eat s i a).less (b':=a) (by omega)).trans (belowGo_eat a m i _ _)
theorem folderD_eat (C : List Coder) (B : List (Int × Int)) (s : Rs) (a : Nat) : Eat s (Rs.folderD C B s).2 a a:=by
 unfold Rs.folderD
 split
 · exact ok_eat s a
 · split
   · dsimp only
     split
     · exact (ok_eat s a).trans (fail_eat _ 10 (by omega) _)
     · exact ok_eat s a
   · exact (ok_eat s a).trans (belowGo_eat a _ _ _ _)
theorem folderD_coders (C : List Coder) (B : List (Int × Int)) (s : Rs) : (Rs.folderD C B s).1.coders = C:=by
 unfold Rs.folderD
 split
 · rfl
 · split <;> rfl
theorem folder_eat (s : Rs) (a : Nat) : Eat s s.folder.2 a (a + (1 + pw s.folder.1.coders)):=by
 unfold Rs.folder Rs.folderC
 rw [folderD_coders]
 have h1:=(number_eat s a).trans (check_eat _ (decide (s.number.1 < 1) || decide (8 < s.number.1)) 10 (by omega) _)
 have h2:=(codersGo_eat s.number.1 (s.number.2.check (decide (s.number.1 < 1) || decide (8 < s.number.1)) 10) []).add (a + 1)
 have e0 : pw [] + (a + 1) = a + 1:=by simp [pw]
 rw [e0] at h2
 exact (((h1.trans h2).trans (bindsGo_eat _ _ _ _ _ _)).trans (folderD_eat _ _ _ _)).less (by omega)
def fpw (L : List Folder) : Nat:=(L.map fun f => 1 + pw f.coders).sum
theorem fpw_snoc (L : List Folder) (f : Folder) : fpw (L ++ [f]) = fpw L + (1 + pw f.coders):=by simp [fpw]
theorem foldersGo_eat : ∀ (m : Nat) (s : Rs) (L : List Folder),Eat s (foldersGo m s L).2 (fpw L) (fpw (foldersGo m s L).1)
 | 0,s,L => ok_eat s _
 | m + 1,s,L => by
   by_cases h : s.ok.k ≠ 0
   · have e : foldersGo (m + 1) s L = (L,s.ok):=by show (if _ then _ else _) = _;rw [if_pos h]
     rw [e]
     exact ok_eat s _
   · have e : foldersGo (m + 1) s L = foldersGo m s.ok.folder.2 (L ++ [s.ok.folder.1]):=by show (if _ then _ else _) = _;rw [if_neg h]
     rw [e]
     have h1:=(ok_eat s (fpw L)).trans (folder_eat s.ok (fpw L))
     rw [← fpw_snoc] at h1
     exact h1.trans (foldersGo_eat m _ _)
theorem sizesGo_coders : ∀ (L : List Folder) (s : Rs) (D : List Folder),(sizesGo L s D).1.map (·.coders) = D.map (·.coders) ++ L.map (·.coders)
 | [],s,D => by show D.map _ = _;simp
 | f :: t,s,D => by
   by_cases h : s.ok.k ≠ 0
   · have e : sizesGo (f :: t) s D = (D ++ f :: t,s.ok):=by show (if _ then _ else _) = _;rw [if_pos h]
     rw [e]
     simp
   · have e : sizesGo (f :: t) s D = sizesGo t (sizesFor f.coders.length s.ok []).2 (D ++ [{ f with sizes:=(sizesFor f.coders.length s.ok []).1 }]):=by show (if _ then _ else _) = _;rw [if_neg h]
     rw [e,sizesGo_coders t]
     simp
theorem withCks_coders (L : List Folder) (cs : List Ck) : (withCks L cs).map (·.f.coders) = L.map (·.coders):=by
 refine List.ext_getElem? fun i => ?_
 unfold withCks
 rw [List.getElem?_map,List.getElem?_mapIdx,List.getElem?_map]
 cases L[i]? <;> rfl
theorem foldersB_coders (L : List Folder) (n id : Nat) (s : Rs) : (Rs.foldersB L n id s).1.map (·.f.coders) = L.map (·.coders):=by
 unfold Rs.foldersB
 split
 · exact withCks_coders _ _
 · exact withCks_coders _ _
def fw (L : List Fol) : Nat:=(L.map fun x => 1 + pw x.f.coders).sum
theorem sum_coders (A : List (List Coder)) : ∀ (L : List Fol),L.map (·.f.coders) = A → fw L = (A.map fun C => 1 + pw C).sum:=fun L h => by
 subst h
 unfold fw
 rw [List.map_map]
 rfl
theorem folders_fw {s : Rs} (h : s.folders.2.ok.k = 0) (ha : s.c.at_ ≤ s.c.b.length) : fw s.folders.1 ≤ s.c.b.length:=by
 unfold Rs.folders Rs.foldersA at h ⊢
 have hst : St s (s.must 11).things.2.inside:=(((byte_st s).trans (must_st s 11)).trans (things_st _)).trans ((byte_st _).trans (inside_st _))
 generalize (s.must 11).things.1 = n at h ⊢
 generalize (s.must 11).things.2.inside = t at h hst ⊢
 have hk : (foldersGo n t []).2.ok.k = 0:=by
   have h1:=(foldersB_st _ _ _ _).keep h
   have h2:=((byte_st _).keep h1)
   have h3:=(sizesGo_st _ _ _).keep h2
   exact ((byte_st _).trans (must_st _ 12)).keep h3
 have he:=(foldersGo_eat n t [] hk).2
 have e0 : fpw [] = 0:=rfl
 rw [e0] at he
 have hb : (foldersGo n t []).2.c.at_ ≤ s.c.b.length:=(hst.trans (foldersGo_st n t [])).at_ ha
 have e1:=foldersB_coders (sizesGo (foldersGo n t []).1 ((foldersGo n t []).2.must 12) []).1 n (sizesGo (foldersGo n t []).1 ((foldersGo n t []).2.must 12) []).2.byte.1 (sizesGo (foldersGo n t []).1 ((foldersGo n t []).2.must 12) []).2.byte.2
 rw [sizesGo_coders] at e1
 rw [sum_coders _ _ e1]
 have e2 : ((([] : List Folder).map (·.coders) ++ (foldersGo n t []).1.map (·.coders)).map fun C => 1 + pw C).sum = fpw (foldersGo n t []).1:=by
   unfold fpw
   rw [List.map_nil,List.nil_append,List.map_map]
   rfl
 rw [e2]
 omega
theorem units_eat : ∀ (m : Nat) (s : Rs) (U : List Nat),(∀ u ∈ U,u < 65536) → (∀ u ∈ (unitsGo m s U).1,u < 65536) ∧ s.c.at_ + 2 * (unitsGo m s U).1.length ≤ (unitsGo m s U).2.c.at_ + 2 * U.length
 | 0,s,U,hU => ⟨hU,by show s.c.at_ + 2 * U.length ≤ _;exact Nat.le_refl _⟩
 | m + 1,s,U,hU => by
   by_cases h : s.ok.k ≠ 0
   · have e : unitsGo (m + 1) s U = (U,s.ok):=by show (if _ then _ else _) = _;rw [if_pos h]
     rw [e]
     exact ⟨hU,Nat.le_refl _⟩
   · by_cases h0 : (s.ok.num 2).1 = 0
     · have e : unitsGo (m + 1) s U = (U,(s.ok.num 2).2):=by show (if _ then _ else if _ then _ else _) = _;rw [if_neg h,if_pos h0]
       rw [e]
       refine ⟨hU,?_⟩
       have h1 : s.ok.c.at_ ≤ (s.ok.num 2).2.c.at_:=by
         rw [num_take _ 2 rfl]
         unfold Rs.take Cur.take
         dsimp only
         split
         · exact Nat.le_refl _
         · dsimp only;omega
       have h2 : s.ok.c.at_ = s.c.at_:=rfl
       dsimp only
       omega
     · have e : unitsGo (m + 1) s U = unitsGo m (s.ok.num 2).2 (U ++ [(s.ok.num 2).1]):=by show (if _ then _ else if _ then _ else _) = _;rw [if_neg h,if_neg h0]
       rw [e]
       obtain ⟨n1,n2⟩:=num2 s.ok
       obtain ⟨i1,i2⟩:=units_eat m (s.ok.num 2).2 (U ++ [(s.ok.num 2).1]) (fun u hu => by
         rcases List.mem_append.1 hu with hu | hu
         · exact hU u hu
         · rw [List.mem_singleton.1 hu];exact n1)
       refine ⟨i1,?_⟩
       rw [List.length_append,List.length_singleton] at i2
       have h2 : s.ok.c.at_ = s.c.at_:=rfl
       rcases n2 with n2 | ⟨n2,-⟩
       · exact absurd n2 h0
       · omega
theorem nameN_at (F : List Fil) (i : Nat) (l : List UInt8) : nameN (nameAt F i l) ≤ nameN F + l.length:=by
 unfold nameAt
 cases h : F[i]? with
 | none =>
   have : F.modify i (fun x => { x with name:=l }) = F:=by
     refine List.ext_getElem? fun j => ?_
     rw [List.getElem?_modify]
     by_cases e : i = j
     · subst e;rw [h];rfl
     · simp [e]
   rw [this]
   omega
 | some x =>
   rw [modify_at _ h]
   have hi:=(List.getElem?_eq_some_iff.1 h).1
   unfold nameN
   have e1 : F = F.take i ++ x :: F.drop (i + 1):=by
     have:=List.drop_eq_getElem_cons hi
     rw [(List.getElem?_eq_some_iff.1 h).2] at this
     rw [← this,List.take_append_drop]
   have e2 : F.set i { x with name:=l } = F.take i ++ { x with name:=l } :: F.drop (i + 1):=by
     rw [List.set_eq_take_append_cons_drop,if_pos hi]
   have s1 : (F.map fun f => f.name.length).sum = ((F.take i ++ x :: F.drop (i + 1)).map fun f => f.name.length).sum:=by rw [← e1]
   rw [e2,s1]
   simp only [List.map_append,List.map_cons,List.sum_append,List.sum_cons]
   omega
theorem names_eat : ∀ (m i : Nat) (s : Rs) (F : List Fil),2 * nameN (namesGo m i s F).1 + 3 * s.c.at_ ≤ 2 * nameN F + 3 * (namesGo m i s F).2.c.at_
 | 0,i,s,F => by show 2 * nameN F + _ ≤ 2 * nameN F + 3 * s.c.at_;exact Nat.le_refl _
 | m + 1,i,s,F => by
   obtain ⟨u1,u2⟩:=units_eat (s.ok.c.b.length + 1) s.ok [] (fun u hu => by simp at hu)
   have hu1 : ∀ u ∈ s.ok.units.1,u < 65536:=u1
   have hu2 : s.c.at_ + 2 * s.ok.units.1.length ≤ s.ok.units.2.c.at_:=by have : s.ok.c.at_ + 2 * s.ok.units.1.length ≤ s.ok.units.2.c.at_ + 2 * 0:=u2;have e : s.ok.c.at_ = s.c.at_:=rfl;omega
   by_cases h : s.ok.k ≠ 0
   · have e : namesGo (m + 1) i s F = (F,s.ok):=by show (if _ then _ else _) = _;rw [if_pos h]
     rw [e]
     exact Nat.le_refl _
   · by_cases h0 : s.ok.units.2.ok.k ≠ 0
     · have e : namesGo (m + 1) i s F = (F,s.ok.units.2.ok):=by show (if _ then _ else if _ then _ else _) = _;rw [if_neg h,if_pos h0]
       rw [e]
       have e2 : s.ok.units.2.ok.c.at_ = s.ok.units.2.c.at_:=rfl
       dsimp only
       omega
     · have e : namesGo (m + 1) i s F = namesGo m (i + 1) (if (textL s.ok.units.1).isNone then s.ok.units.2.ok.fail 15 else s.ok.units.2.ok) (nameAt F i ((textL s.ok.units.1).getD [])):=by show (if _ then _ else if _ then _ else _) = _;rw [if_neg h,if_neg h0]
       rw [e]
       have ih:=names_eat m (i + 1) (if (textL s.ok.units.1).isNone then s.ok.units.2.ok.fail 15 else s.ok.units.2.ok) (nameAt F i ((textL s.ok.units.1).getD []))
       have e3 : (if (textL s.ok.units.1).isNone then s.ok.units.2.ok.fail 15 else s.ok.units.2.ok).c.at_ = s.ok.units.2.c.at_:=by split <;> rfl
       rw [e3] at ih
       have h1:=nameN_at F i ((textL s.ok.units.1).getD [])
       have h2 : ((textL s.ok.units.1).getD []).length ≤ 3 * s.ok.units.1.length:=by
         cases ht : textL s.ok.units.1 with
         | none => exact Nat.zero_le _
         | some c => exact text_len _ _ c (Nat.le_refl _) hu1 ht
       omega
theorem nameN_map (F G : List Fil) (h : F.map (·.name) = G.map (·.name)) : nameN F = nameN G:=by
 have e : ∀ X : List Fil,nameN X = ((X.map (·.name)).map List.length).sum:=fun X => by unfold nameN;rw [List.map_map];rfl
 rw [e,e,h]
theorem modify_names (F : List Fil) (i : Nat) (g : Fil → Fil) (hg : ∀ x,(g x).name = x.name) : (F.modify i g).map (·.name) = F.map (·.name):=by
 refine List.ext_getElem? fun j => ?_
 rw [List.getElem?_map,List.getElem?_modify,List.getElem?_map]
 cases F[j]? with
 | none => simp
 | some x => by_cases e : i = j <;> simp [e,hg]
theorem withEmpty_names (F : List Fil) (E : List Bool) : (withEmpty F E).map (·.name) = F.map (·.name):=by
 unfold withEmpty
 refine List.ext_getElem? fun j => ?_
 rw [List.getElem?_map,List.getElem?_mapIdx,List.getElem?_map]
 cases F[j]? with
 | none => rfl
 | some x => cases E[j]? <;> rfl
theorem among_names (id : Nat) : ∀ (z : List (Nat × Bool)) (r : List Fil × Rs),(z.foldl (amongStep id) r).1.map (·.name) = r.1.map (·.name)
 | [],r => rfl
 | p :: t,r => by
   rw [List.foldl_cons,among_names id t]
   unfold amongStep
   split
   · exact modify_names _ _ _ (fun _ => rfl)
   · rfl
theorem nums_names (id : Nat) : ∀ (l : List Bool) (i : Nat) (s : Rs) (F : List Fil),(numsGo id l i s F).1.map (·.name) = F.map (·.name)
 | [],i,s,F => rfl
 | b :: t,i,s,F => by
   by_cases hb : b = false
   · have e : numsGo id (b :: t) i s F = numsGo id t (i + 1) s F:=by show (if _ then _ else _) = _;rw [if_pos hb]
     rw [e,nums_names id t]
   · by_cases hk : (s.num (numSz id)).2.ok.k ≠ 0
     · have e : numsGo id (b :: t) i s F = (F,(s.num (numSz id)).2.ok):=by show (if _ then _ else if _ then _ else _) = _;rw [if_neg hb,if_pos hk]
       rw [e]
     · have e : numsGo id (b :: t) i s F = numsGo id t (i + 1) (s.num (numSz id)).2.ok (numAt id F i (s.num (numSz id)).1):=by show (if _ then _ else if _ then _ else _) = _;rw [if_neg hb,if_neg hk]
       rw [e,nums_names id t]
       unfold numAt
       split
       · exact modify_names _ _ _ (fun _ => rfl)
       · split
         · exact modify_names _ _ _ (fun _ => rfl)
         · rfl
def NmInv (B : Nat) (L : Lst) : Prop:=2 * nameN L.files ≤ 3 * B ∧ (L.said 17 = false → nameN L.files = 0)
theorem part_names {n id B : Nat} {L : Lst} {x : List UInt8} (hx : x.length ≤ B) (h : NmInv B L) (hm : mayL L.said id = true) : NmInv B (partL n id (L.say id) x).1:=by
 have same : ∀ L' : Lst,L'.said = (L.say id).said → L'.files.map (·.name) = L.files.map (·.name) → NmInv B L':=fun L' h1 h2 => by
   refine ⟨by rw [nameN_map _ _ h2];exact h.1,fun hs => by
     rw [nameN_map _ _ h2]
     refine h.2 ?_
     rw [h1] at hs
     show L.said 17 = false
     have : (L.say id).said 17 = (decide ((17 : Int) = (id : Int)) || L.said 17):=rfl
     rw [this,Bool.or_eq_false_iff] at hs
     exact hs.2⟩
 show NmInv B (partBody n id (L.say id) (newRs x)).1
 unfold partBody
 split
 · exact same _ rfl (withEmpty_names _ _)
 split
 · exact same _ rfl (by show (amongL id (L.say id).empty (L.say id).files (newRs x)).1.map (·.name) = _;unfold amongL;rw [among_names];rfl)
 split
 · rename_i h17
   have hns : L.said 17 = false:=by
     rw [h17] at hm
     unfold mayL at hm
     simpa using hm
   have h0:=h.2 hns
   have he:=names_eat n 0 (newRs x).inside (L.say id).files
   have hst : St (newRs x) (namesGo n 0 (newRs x).inside (L.say id).files).2:=((byte_st _).trans (inside_st _)).trans (namesGo_st _ _ _ _)
   have hb:=hst.at_ (Nat.zero_le _)
   have e0 : nameN (L.say id).files = 0:=h0
   have e1 : (newRs x).c.b.length = x.length:=rfl
   rw [e1] at hb
   refine ⟨?_,fun hs => ?_⟩
   · show 2 * nameN (namesGo n 0 (newRs x).inside (L.say id).files).1 ≤ _
     omega
   · exfalso
     have : (L.say id).said 17 = (decide ((17 : Int) = (id : Int)) || L.said 17):=rfl
     have hs' : (L.say id).said 17 = false:=hs
     rw [this,h17] at hs'
     simp at hs'
 split
 · exact same _ rfl (nums_names _ _ _ _ _)
 split
 · exact same _ rfl rfl
 · exact same _ rfl rfl
theorem say_inv {B id : Nat} {L : Lst} (h : NmInv B L) : NmInv B (L.say id):=⟨h.1,fun hs => h.2 (by
 have : (L.say id).said 17 = (decide ((17 : Int) = (id : Int)) || L.said 17):=rfl
 rw [this,Bool.or_eq_false_iff] at hs
 exact hs.2)⟩
theorem filesGo_names (n B : Nat) : ∀ (m : Nat) (L : Lst) (s : Rs),s.c.b.length ≤ B → NmInv B L → NmInv B (filesGo n m L s).1
 | 0,L,s,_,h => h
 | m + 1,L,s,hB,h => by
   by_cases hz : s.ok.k = 0
   rotate_left
   · rw [filesGo_bad hz];exact h
   by_cases hzy : s.byte.2.ok.k = 0
   rotate_left
   · rw [filesGo_end hz (.inl hzy)];exact h
   by_cases hv : s.byte.1 = 0
   · rw [filesGo_end hz (.inr hv)];exact h
   cases hm : mayL L.said s.byte.1 with
   | false => rw [filesGo_not hz hzy hv hm];exact h
   | true =>
     have hcb : s.byte.2.chunk.2.c.b = s.c.b:=by rw [chunk_b,byte_b]
     by_cases hzz : s.byte.2.chunk.2.ok.k = 0
     · rw [filesGo_ok hz hzy hv hm hzz]
       refine filesGo_names n B m _ _ ?_ (part_names (L:=L) ?_ h hm)
       · have : ∀ (t : Rs) (e : Nat),(t.told' e).c.b = t.c.b:=fun t e => by unfold Rs.told';split <;> rfl
         rw [this,hcb]
         exact hB
       · have h1:=take_within s.byte.2.things.2 s.byte.2.things.1
         have h2 : s.byte.2.things.2.c.b = s.c.b:=by rw [things_b,byte_b]
         rw [h2] at h1
         exact Nat.le_trans h1 hB
     · rw [filesGo_cut hz hzy hv hm hzz]
       exact filesGo_names n B m _ _ (by show s.byte.2.chunk.2.c.b.length ≤ B;rw [hcb];exact hB) (say_inv h)
theorem files_nameN (s : Rs) : 2 * nameN s.files.1 ≤ 3 * s.c.b.length:=by
 have h:=filesGo_names s.things.1 s.c.b.length (s.things.2.c.b.length + 1) ⟨fun _ => false,[],List.replicate s.things.1 noFil⟩ s.things.2 (by rw [things_b];exact Nat.le_refl _) (by
   have e : nameN (List.replicate s.things.1 noFil) = 0:=by
     unfold nameN
     rw [List.map_replicate]
     simp [noFil]
   exact ⟨by show 2 * nameN (List.replicate s.things.1 noFil) ≤ _;omega,fun _ => e⟩)
 exact h.1
end Go.Proofs.YtkodindajfdagaaGreatDoor
/- The reader of headers, plain: the bounds of what is read without a fault. No condition. -/
namespace Go.Proofs.YtkodindajfdagaaGreatDoor
structure FolNice (f : Folder) : Prop where
 c1 : 1 ≤ f.coders.length
 c8 : f.coders.length ≤ 8
 bl : f.binds.length + 1 = f.coders.length
 pl : f.packs.length + f.binds.length = insL f.coders
 pr : ∀ p ∈ f.packs,0 ≤ p ∧ p < (insL f.coders : Int)
 br : ∀ b ∈ f.binds,0 ≤ b.1 ∧ b.1 < (insL f.coders : Int) ∧ 0 ≤ b.2 ∧ b.2 < (f.coders.length : Int)
theorem fail_no {s : Rs} {e : Nat} (he : e ≠ 0) (h : (s.fail e).ok.k = 0) : False:=by
 have h1:=((ok_k _).1 h).1
 unfold Rs.fail at h1
 dsimp only at h1
 split at h1
 · exact he h1
 · contradiction
theorem check_no {s : Rs} {b : Bool} {e : Nat} (he : e ≠ 0) (h : (s.check b e).ok.k = 0) : b = false:=by
 cases hb : b with
 | false => rfl
 | true =>
   exfalso
   unfold Rs.check at h
   rw [hb] at h
   by_cases hz : s.ok.k = 0
   · rw [if_pos ⟨hz,rfl⟩] at h
     exact fail_no he h
   · rw [if_neg (fun hh => hz hh.1),Rs.ok_ok] at h
     exact hz h
theorem ins_method (l : List UInt8) (h : methodOf l ≠ 0) : 1 ≤ ins (methodOf l : Int):=by
 unfold methodOf at h ⊢
 repeat' split
 all_goals first | decide | (exfalso;simp_all)
theorem coder_ins {s : Rs} (h : s.coder.2.ok.k = 0) : 1 ≤ ins s.coder.1.method:=by
 unfold Rs.coder Rs.coderA at h ⊢
 generalize ((s.byte.2.check (decide (s.byte.1 / 64 ≠ 0)) 5).take (s.byte.1 % 16)).2 = u at *
 generalize ((s.byte.2.check (decide (s.byte.1 / 64 ≠ 0)) 5).take (s.byte.1 % 16)).1 = l at *
 by_cases hk : u.ok.k ≠ 0
 · rw [if_pos hk] at h
   dsimp only at h
   rw [Rs.ok_ok] at h
   exact absurd h hk
 rw [if_neg hk] at h
 rw [if_neg hk]
 have h1:=(coderB_st _ _ _).keep h
 show 1 ≤ ins ((u.ok.method l).1 : Int)
 unfold Rs.method at h1 ⊢
 by_cases hm : methodOf l ≠ 0
 · rw [if_pos hm]
   exact ins_method l hm
 · rw [if_neg hm] at h1
   exfalso
   by_cases ha : l = [6,241,7,1]
   · rw [if_pos ha] at h1
     exact fail_no (by omega) h1
   · rw [if_neg ha] at h1
     exact fail_no (by omega) h1
theorem codersGo_nice : ∀ (m : Nat) (s : Rs) (L : List Coder),(codersGo m s L).2.ok.k = 0 → (∀ c ∈ L,1 ≤ ins c.method) → (codersGo m s L).1.length = L.length + m ∧ ∀ c ∈ (codersGo m s L).1,1 ≤ ins c.method
 | 0,s,L,_,hL => ⟨rfl,hL⟩
 | m + 1,s,L,h,hL => by
   by_cases hk : s.ok.k = 0
   · rw [codersGo_ok hk] at h ⊢
     have h1:=(codersGo_st m _ _).keep h
     have ih:=codersGo_nice m _ _ h (fun c hc => by
       rcases List.mem_append.1 hc with hc | hc
       · exact hL c hc
       · simp at hc;subst hc;exact coder_ins h1)
     refine ⟨by rw [ih.1];simp;omega,ih.2⟩
   · rw [codersGo_bad hk] at h
     dsimp only at h
     rw [Rs.ok_ok] at h
     exact absurd h hk
theorem insL_ge : ∀ (L : List Coder),(∀ c ∈ L,1 ≤ ins c.method) → L.length ≤ insL L
 | [],_ => Nat.zero_le _
 | c :: t,h => by
   have ih:=insL_ge t (fun c hc => h c (List.mem_cons_of_mem _ hc))
   have h1:=h c (by simp)
   unfold insL at ih ⊢
   rw [List.map_cons,List.sum_cons,List.length_cons]
   omega
theorem below_ok_lt {s : Rs} {m : Nat} (h : (s.below m).2.ok.k = 0) : (s.below m).1 < m:=by
 unfold Rs.below Rs.lim at h ⊢
 by_cases h1 : s.number.2.ok.k ≠ 0
 · rw [if_pos h1] at h
   dsimp only at h
   rw [Rs.ok_ok] at h
   exact absurd h h1
 rw [if_neg h1] at h
 rw [if_neg h1]
 by_cases h2 : decide (m ≤ s.number.1) = true
 · rw [if_pos h2] at h
   exact (fail_no (by omega) h).elim
 · rw [if_neg h2]
   simpa using h2
theorem bindsGo_nice : ∀ (m i n : Nat) (s : Rs) (B : List (Int × Int)),(bindsGo m i n s B).2.ok.k = 0 → (∀ b ∈ B,0 ≤ b.1 ∧ b.1 < (i : Int) ∧ 0 ≤ b.2 ∧ b.2 < (n : Int)) → (bindsGo m i n s B).1.length = B.length + m ∧ ∀ b ∈ (bindsGo m i n s B).1,0 ≤ b.1 ∧ b.1 < (i : Int) ∧ 0 ≤ b.2 ∧ b.2 < (n : Int)
 | 0,i,n,s,B,_,hB => ⟨rfl,hB⟩
 | m + 1,i,n,s,B,h,hB => by
   by_cases hk : s.ok.k = 0
   · rw [bindsGo_ok hk] at h ⊢
     have h2:=(bindsGo_st m i n _ _).keep h
     have h1:=(below_st _ n).keep h2
     have ih:=bindsGo_nice m i n _ _ h (fun b hb => by
       rcases List.mem_append.1 hb with hb | hb
       · exact hB b hb
       · simp at hb
         subst hb
         have:=below_ok_lt h1
         have:=below_ok_lt h2
         dsimp only
         omega)
     refine ⟨by rw [ih.1];simp;omega,ih.2⟩
   · rw [bindsGo_bad hk] at h
     dsimp only at h
     rw [Rs.ok_ok] at h
     exact absurd h hk
theorem belowGo_nice : ∀ (m i : Nat) (s : Rs) (P : List Int),(belowGo m i s P).2.ok.k = 0 → (∀ p ∈ P,0 ≤ p ∧ p < (i : Int)) → (belowGo m i s P).1.length = P.length + m ∧ ∀ p ∈ (belowGo m i s P).1,0 ≤ p ∧ p < (i : Int)
 | 0,i,s,P,_,hP => ⟨rfl,hP⟩
 | m + 1,i,s,P,h,hP => by
   have h1 : (s.below i).2.ok.k = 0:=(belowGo_st m i _ _).keep h
   have ih:=belowGo_nice m i (s.below i).2 (P ++ [((s.below i).1 : Int)]) h (fun p hp => by
     rcases List.mem_append.1 hp with hp | hp
     · exact hP p hp
     · simp at hp
       subst hp
       have:=below_ok_lt h1
       omega)
   refine ⟨?_,ih.2⟩
   show (belowGo m i (s.below i).2 (P ++ [((s.below i).1 : Int)])).1.length = _
   rw [ih.1];simp;omega
theorem freeAt_le (B : List (Int × Int)) (i : Nat) : freeAt B i ≤ i:=by
 unfold freeAt
 cases h : (List.range i).find? fun (k : Nat) => !decide ((k : Int) ∈ B.map (·.1)) with
 | none => simp
 | some k =>
   have:=List.mem_of_find?_eq_some h
   simp at this
   simp
   omega
theorem folder_nice {s : Rs} (h : s.folder.2.ok.k = 0) : FolNice s.folder.1:=by
 unfold Rs.folder at h ⊢
 have hc:=(folderC_st _ _).keep h
 have hn:=check_no (by omega) hc
 have hn1 : 1 ≤ s.number.1 ∧ s.number.1 ≤ 8:=by simp at hn;omega
 generalize s.number.2.check (decide (s.number.1 < 1) || decide (8 < s.number.1)) 10 = u at *
 generalize s.number.1 = n at *
 unfold Rs.folderC at h ⊢
 have h2:=(folderD_st _ _ _).keep h
 have h1:=(bindsGo_st _ _ _ _ _).keep h2
 obtain ⟨q1,q2⟩:=codersGo_nice n u [] h1 (by simp)
 obtain ⟨q3,q4⟩:=bindsGo_nice _ _ n _ [] h2 (by simp)
 generalize (codersGo n u []).2 = v at *
 generalize (codersGo n u []).1 = C at *
 generalize (bindsGo (n - 1) (insL C) n v []).2 = z at *
 generalize (bindsGo (n - 1) (insL C) n v []).1 = B at *
 rw [List.length_nil,Nat.zero_add] at q1 q3
 have hi:=insL_ge C q2
 unfold Rs.folderD at h ⊢
 rw [if_neg (by simp [h2])] at h
 rw [if_neg (by simp [h2])]
 by_cases he : insL C = B.length + 1
 · rw [if_pos he] at h
   rw [if_pos he]
   dsimp only at h ⊢
   by_cases hf : freeAt B (insL C) = insL C
   · rw [if_pos hf] at h
     exact (fail_no (by omega) h).elim
   · have hle:=freeAt_le B (insL C)
     refine ⟨by dsimp only;omega,by dsimp only;omega,by dsimp only;omega,by dsimp only;simp;omega,fun p hp => ?_,fun b hb => ?_⟩
     · simp at hp
       subst hp
       dsimp only
       omega
     · have:=q4 b hb
       dsimp only at this ⊢
       rw [q1]
       exact this
 · rw [if_neg he] at h
   rw [if_neg he]
   dsimp only at h ⊢
   obtain ⟨q5,q6⟩:=belowGo_nice _ _ _ [] h (by simp)
   rw [List.length_nil,Nat.zero_add] at q5
   refine ⟨by dsimp only;omega,by dsimp only;omega,by dsimp only;omega,by dsimp only;omega,q6,fun b hb => ?_⟩
   have:=q4 b hb
   dsimp only at this ⊢
   rw [q1]
   exact this
theorem foldersGo_nice : ∀ (m : Nat) (s : Rs) (L : List Folder),(foldersGo m s L).2.ok.k = 0 → (∀ f ∈ L,FolNice f) → ∀ f ∈ (foldersGo m s L).1,FolNice f
 | 0,s,L,_,hL => hL
 | m + 1,s,L,h,hL => by
   by_cases hk : s.ok.k = 0
   · rw [foldersGo_ok hk] at h ⊢
     have h1:=(foldersGo_st m _ _).keep h
     exact foldersGo_nice m _ _ h (fun f hf => by
       rcases List.mem_append.1 hf with hf | hf
       · exact hL f hf
       · simp at hf;subst hf;exact folder_nice h1)
   · rw [foldersGo_bad hk]
     exact hL
def FolSz (f : Folder) : Prop:=FolNice f ∧ f.sizes.length = f.coders.length ∧ ∀ z ∈ f.sizes,z.toNat ≤ 1099511627776
theorem sizesFor_le : ∀ (m : Nat) (s : Rs) (S : List UInt64),(∀ z ∈ S,z.toNat ≤ 1099511627776) → ∀ z ∈ (sizesFor m s S).1,z.toNat ≤ 1099511627776
 | 0,s,S,h => h
 | m + 1,s,S,h => sizesFor_le m s.size.2 (S ++ [UInt64.ofNat s.size.1]) (fun z hz => by
     rcases List.mem_append.1 hz with hz | hz
     · exact h z hz
     · simp at hz
       subst hz
       have:=size_le s
       simp
       omega)
theorem sizesGo_nice : ∀ (L : List Folder) (s : Rs) (D : List Folder),(sizesGo L s D).2.ok.k = 0 → (∀ f ∈ L,FolNice f) → (∀ f ∈ D,FolSz f) → ∀ f ∈ (sizesGo L s D).1,FolSz f
 | [],s,D,_,_,hD => hD
 | x :: t,s,D,h,hL,hD => by
   by_cases hk : s.ok.k = 0
   · rw [sizesGo_ok hk] at h ⊢
     refine sizesGo_nice t _ _ h (fun f hf => hL f (List.mem_cons_of_mem _ hf)) (fun f hf => ?_)
     rcases List.mem_append.1 hf with hf | hf
     · exact hD f hf
     · simp at hf
       subst hf
       have hx:=hL x (by simp)
       refine ⟨⟨hx.c1,hx.c8,hx.bl,hx.pl,hx.pr,hx.br⟩,?_,sizesFor_le _ _ _ (by simp)⟩
       show (sizesFor x.coders.length s []).1.length = _
       rw [sizesFor_len]
       simp
   · rw [sizesGo_bad hk] at h
     dsimp only at h
     rw [Rs.ok_ok] at h
     exact absurd h hk
theorem folders_nice {s : Rs} (h : s.folders.2.ok.k = 0) : ∀ x ∈ s.folders.1,FolSz x.f:=by
 unfold Rs.folders Rs.foldersA at h ⊢
 have h5:=(foldersB_st _ _ _ _).keep h
 have h4:=(byte_st _).keep h5
 have h3:=(sizesGo_st _ _ _).keep h4
 have h2:=(must_st _ 12).keep h3
 have h1:=(byte_st _).keep h2
 intro x hx
 obtain ⟨cs,hcs⟩:=foldersB_fst (sizesGo (foldersGo (s.must 11).things.1 (s.must 11).things.2.inside []).1 ((foldersGo (s.must 11).things.1 (s.must 11).things.2.inside []).2.must 12) []).1 (s.must 11).things.1 (sizesGo (foldersGo (s.must 11).things.1 (s.must 11).things.2.inside []).1 ((foldersGo (s.must 11).things.1 (s.must 11).things.2.inside []).2.must 12) []).2.byte.1 (sizesGo (foldersGo (s.must 11).things.1 (s.must 11).things.2.inside []).1 ((foldersGo (s.must 11).things.1 (s.must 11).things.2.inside []).2.must 12) []).2.byte.2
 rw [hcs] at hx
 exact sizesGo_nice _ _ _ h4 (foldersGo_nice _ _ _ h1 (by simp)) (by simp) x.f (withCks_mem hx)
theorem whole_le {f : Folder} (h : FolSz f) : (wholeOf f).toNat ≤ 1099511627776:=by
 unfold wholeOf
 split
 · rename_i i _
   rw [List.getD_eq_getElem?_getD]
   cases hz : f.sizes[i]? with
   | none => simp
   | some z => simpa using h.2.2 z (List.mem_of_getElem? hz)
 · simp
structure RowOK (x : Fol) (l : List Sub) : Prop where
 le : ∀ y ∈ l,y.size.toNat ≤ 1099511627776
 sum : (l.map fun y => y.size.toNat).sum = (wholeOf x.f).toNat
def RowsOK (F : List Fol) (L : List (List Sub)) : Prop:=∀ (i : Nat) x l,F[i]? = some x → L[i]? = some l → RowOK x l
theorem RowOK.of_sizes {x : Fol} {l l' : List Sub} (h : RowOK x l) (e : l'.map (fun y => y.size) = l.map fun y => y.size) : RowOK x l':=by
 have e2 : l'.map (fun y => y.size.toNat) = l.map fun y => y.size.toNat:=by
   have:=congrArg (List.map UInt64.toNat) e
   rw [List.map_map,List.map_map] at this
   exact this
 refine ⟨fun y hy => ?_,by rw [e2];exact h.sum⟩
 have h1 : y.size ∈ l'.map fun y => y.size:=List.mem_map.2 ⟨y,hy,rfl⟩
 rw [e] at h1
 obtain ⟨z,hz,e3⟩:=List.mem_map.1 h1
 rw [← e3]
 exact h.le z hz
theorem plain_row {x : Fol} (h : FolSz x.f) : RowOK x [⟨wholeOf x.f,x.ck⟩] :=
 ⟨fun y hy => by simp at hy;subst hy;exact whole_le h,by simp⟩
theorem plainL_get (F : List Fol) (i : Nat) : (plainL F)[i]? = F[i]?.map fun x => [⟨wholeOf x.f,x.ck⟩]:=by simp [plainL]
theorem cutGo_sum : ∀ (m left : Nat) (s : Rs) (Z : List Nat),(cutGo m left s Z).2.2.ok.k = 0 → left ≤ 1099511627776 → (∀ z ∈ Z,z ≤ 1099511627776) →
   (cutGo m left s Z).2.1.length = Z.length + m + 1 ∧ (cutGo m left s Z).2.1.sum = Z.sum + left ∧ ∀ z ∈ (cutGo m left s Z).2.1,z ≤ 1099511627776
 | 0,left,s,Z,_,hl,hZ => ⟨by show (Z ++ [left]).length = _;simp,by show (Z ++ [left]).sum = _;simp,fun z hz => by
     rcases List.mem_append.1 (show z ∈ Z ++ [left] from hz) with hz | hz
     · exact hZ z hz
     · simp at hz;omega⟩
 | m + 1,left,s,Z,h,hl,hZ => by
   by_cases hc : (s.size.2.check (decide (left < s.size.1)) 13).ok.k ≠ 0
   · rw [cutGo_bad hc] at h
     dsimp only at h
     rw [Rs.ok_ok] at h
     exact absurd h hc
   · have hb:=check_no (s:=s.size.2) (b:=decide (left < s.size.1)) (e:=13) (by omega) (by simpa using hc)
     simp at hb
     rw [cutGo_ok hc] at h ⊢
     have hs:=size_le s
     obtain ⟨q1,q2,q3⟩:=cutGo_sum m _ _ _ h (by omega) (fun z hz => by
       rcases List.mem_append.1 hz with hz | hz
       · exact hZ z hz
       · simp at hz;omega)
     refine ⟨by rw [q1];simp;omega,by rw [q2];simp;omega,q3⟩
theorem withSizes_map : ∀ (l : List Sub) (Z : List Nat),Z.length = l.length → (∀ z ∈ Z,z ≤ 1099511627776) → (withSizes l Z).map (fun y => y.size.toNat) = Z:=by
 intro l Z hl hZ
 refine List.ext_getElem? fun i => ?_
 rw [List.getElem?_map]
 unfold withSizes
 rw [List.getElem?_mapIdx]
 by_cases hi : i < l.length
 · have h1 : l[i]? = some l[i]:=by simp [hi]
   have h2 : Z[i]? = some Z[i]:=by simp [hl,hi]
   rw [h1,h2]
   simp
   have:=hZ (Z[i]) (List.getElem_mem _)
   omega
 · rw [List.getElem?_eq_none (l:=l) (by omega),List.getElem?_eq_none (l:=Z) (by omega)]
   rfl
theorem cutL_ok {x : Fol} {l : List Sub} {s : Rs} (hx : FolSz x.f) (hl : 1 ≤ l.length) (h : (cutL x.f l s).2.ok.k = 0) : RowOK x (cutL x.f l s).1:=by
 unfold cutL at h ⊢
 obtain ⟨q1,q2,q3⟩:=cutGo_sum (l.length - 1) (wholeOf x.f).toNat s [] h (whole_le hx) (by simp)
 have hlen : (cutGo (l.length - 1) (wholeOf x.f).toNat s []).2.1.length = l.length:=by rw [q1];simp;omega
 have hm:=withSizes_map l _ hlen q3
 refine ⟨fun y hy => ?_,by dsimp only;rw [hm,q2];simp⟩
 have : y.size.toNat ∈ (withSizes l (cutGo (l.length - 1) (wholeOf x.f).toNat s []).2.1).map (fun y => y.size.toNat):=List.mem_map.2 ⟨y,hy,rfl⟩
 rw [hm] at this
 exact q3 _ this
theorem cutsGo_sum : ∀ (F : List Fol) (L : List (List Sub)) (s : Rs) (D : List (List Sub)),(cutsGo F L s D).2.ok.k = 0 → (∀ x ∈ F,FolSz x.f) → (∀ l ∈ L,1 ≤ l.length) → F.length = L.length →
   ∃ M,(cutsGo F L s D).1 = D ++ M ∧ RowsOK F M
 | x :: f,l :: u,s,D,h,hF,hL,hlen => by
   by_cases hk : s.ok.k = 0
   · rw [cutsGo_ok hk] at h ⊢
     have h1:=(cutsGo_st f u _ _).keep h
     obtain ⟨M,hM,hR⟩:=cutsGo_sum f u _ _ h (fun y hy => hF y (List.mem_cons_of_mem _ hy)) (fun y hy => hL y (List.mem_cons_of_mem _ hy)) (by simpa using hlen)
     refine ⟨(cutL x.f l s.ok).1 :: M,by rw [hM];simp,fun i y r hy hr => ?_⟩
     cases i with
     | zero =>
       simp at hy hr
       subst hy hr
       exact cutL_ok (hF x (by simp)) (hL l (by simp)) h1
     | succ i => exact hR i y r (by simpa using hy) (by simpa using hr)
   · rw [cutsGo_bad hk] at h
     dsimp only at h
     rw [Rs.ok_ok] at h
     exact absurd h hk
 | [],L,s,D,_,_,_,hlen => by
   have : L = []:=List.eq_nil_of_length_eq_zero (by simpa using hlen.symm)
   subst this
   exact ⟨[],by simp [cutsGo],fun i x l hx _ => by simp at hx⟩
 | x :: f,[],s,D,_,_,_,hlen => by simp at hlen
theorem giveCks_sizes (F : List Fol) (L : List (List Sub)) (cs : List Ck) (i : Nat) : (giveCks F L cs)[i]?.map (List.map fun y => y.size) = L[i]?.map (List.map fun y => y.size):=by
 unfold giveCks
 generalize (unkIx F L).zip cs = z
 induction z generalizing L with
 | nil => rfl
 | cons a t ih =>
   rw [List.foldl_cons,ih]
   unfold putCk
   rw [List.getElem?_modify]
   cases L[i]? with
   | none => rfl
   | some l =>
     by_cases e : a.1.1 = i
     · simp [e]
       refine List.ext_getElem? fun j => ?_
       rw [List.getElem?_map,List.getElem?_map,List.getElem?_modify]
       cases l[j]? with
       | none => rfl
       | some y => by_cases e2 : a.1.2 = j <;> simp [e2]
     · simp [e]
theorem subsC_sum {F : List Fol} {L : List (List Sub)} {id : Nat} {s : Rs} (h : RowsOK F L) : RowsOK F (Rs.subsC F L id s).1:=by
 unfold Rs.subsC
 split
 · intro i x l hx hl
   dsimp only at hl
   have:=giveCks_sizes F L ((s.at (id == 10)).2.sums (unknownN F L)).1 i
   rw [hl] at this
   cases hL : L[i]? with
   | none => rw [hL] at this;simp at this
   | some l0 =>
     rw [hL] at this
     simp at this
     exact (h i x l0 hx hL).of_sizes this
 · exact h
theorem countsGo_row : ∀ (SL : List (List Sub)) (s : Rs) (D : List (List Sub)),∃ M,(countsGo SL s D).1 = D ++ M ∧ M.length = SL.length ∧ ∀ (i : Nat) l,M[i]? = some l → SL[i]? = some l ∨ 1 < l.length
 | [],s,D => ⟨[],by show D = _;simp,rfl,fun i l h => by simp at h⟩
 | x :: t,s,D => by
   by_cases hc : (s.things.2.check (decide (s.things.1 = 0)) 14).ok.k ≠ 0
   · rw [countsGo_bad hc]
     exact ⟨x :: t,rfl,rfl,fun i l h => .inl h⟩
   · rw [countsGo_ok hc]
     obtain ⟨M,hM,hl,hR⟩:=countsGo_row t (s.things.2.check (decide (s.things.1 = 0)) 14).ok (D ++ [if 1 < s.things.1 then List.replicate s.things.1 noSub else x])
     refine ⟨(if 1 < s.things.1 then List.replicate s.things.1 noSub else x) :: M,by rw [hM];simp,by simp [hl],fun i l h => ?_⟩
     cases i with
     | zero =>
       simp at h
       subst h
       split
       · right;simpa
       · left;simp
     | succ i =>
       rcases hR i l (by simpa using h) with h1 | h1
       · left;simpa using h1
       · right;exact h1
theorem subs_sum {F : List Fol} {s : Rs} (hF : ∀ x ∈ F,FolSz x.f) (h : (Rs.subs F (plainL F) s).2.ok.k = 0) : RowsOK F (Rs.subs F (plainL F) s).1:=by
 have hB : ∀ (L : List (List Sub)) (id : Nat) (s : Rs),(Rs.subsB F L id s).2.ok.k = 0 → L.length = F.length → (∀ l ∈ L,1 ≤ l.length) → (∀ (i : Nat) l,L[i]? = some l → (plainL F)[i]? = some l ∨ 1 < l.length) → RowsOK F (Rs.subsB F L id s).1:=fun L id s h hlen h1 hrow => by
   unfold Rs.subsB at h ⊢
   by_cases hc : (s.at (id == 9)).1 = true
   · rw [if_pos hc] at h
     rw [if_pos hc]
     have h2:=(subsC_st _ _ _ _).keep h
     have h3:=(byte_st _).keep h2
     obtain ⟨M,hM,hR⟩:=cutsGo_sum F L (s.at (id == 9)).2 [] h3 hF h1 hlen.symm
     refine subsC_sum ?_
     rw [hM]
     exact hR
   · rw [if_neg hc] at h
     rw [if_neg hc]
     have h2:=(subsC_st _ _ _ _).keep h
     refine subsC_sum fun i x l hx hl => ?_
     have hmany : (L.any fun l => decide (1 < l.length)) = false:=by
       cases hm : (L.any fun l => decide (1 < l.length)) with
       | false => rfl
       | true =>
         exfalso
         rw [hm,Rs.at_true] at h2
         dsimp only at h2
         by_cases hz : (s.at (id == 9)).2.ok.k = 0
         · rw [hz] at h2
           exact fail_no (by omega) h2
         · rw [beq_eq_false_iff_ne.2 hz] at h2
           simp only [Bool.false_eq_true,if_false] at h2
           rw [Rs.ok_ok] at h2
           exact hz h2
     rcases hrow i l hl with hp | hp
     · rw [plainL_get,hx] at hp
       simp at hp
       subst hp
       exact plain_row (hF x (List.mem_of_getElem? hx))
     · exfalso
       rw [List.any_eq_false] at hmany
       have:=hmany l (List.mem_of_getElem? hl)
       simp at this
       omega
 unfold Rs.subs Rs.subsA at h ⊢
 by_cases hc : (s.byte.2.at (s.byte.1 == 13)).1 = true
 · rw [if_pos hc] at h
   rw [if_pos hc]
   obtain ⟨M,hM,hMl,hMr⟩:=countsGo_row (plainL F) (s.byte.2.at (s.byte.1 == 13)).2 []
   have hr:=countsGo_rows (max 1 (s.byte.2.at (s.byte.1 == 13)).2.c.b.length) (plainL F) (s.byte.2.at (s.byte.1 == 13)).2 [] ((plainL_rows F).mono (by omega)) (RowsIn.nil _) (by omega)
   rw [List.nil_append] at hM
   refine hB _ _ _ h (by rw [hM,hMl,plainL_len]) (fun l hl => (hr l hl).1) ?_
   rw [hM]
   exact hMr
 · rw [if_neg hc] at h
   rw [if_neg hc]
   exact hB _ _ _ h (plainL_len F) (fun l hl => ((plainL_rows F) l hl).1) (fun i l hl => .inl hl)
end Go.Proofs.YtkodindajfdagaaGreatDoor
/- The reader of headers, plain: the bounds of a header that is read without a fault. No condition. -/
namespace Go.Proofs.YtkodindajfdagaaGreatDoor
theorem told_ok_len {s : Rs} {n : Nat} (h : (s.told (n : Int)).2.ok.k = 0) : (s.told (n : Int)).1.length = n:=by
 have hc0 : (s.c.told (n : Int)).2.code = 0:=((ok_k _).1 h).2
 have fails : ∀ (c : Cur) k,k ≠ 0 → (c.fail k).code ≠ 0:=fun c k hk e => by
   unfold Cur.fail at e
   dsimp only at e
   split at e
   · exact hk e
   · contradiction
 have bl : ∀ c : Cur,(c.bits (n : Int)).2.code = 0 → (c.bits (n : Int)).1.length = n:=fun c h => by
   unfold Cur.bits at h ⊢
   by_cases h1 : c.code ≠ 0 ∨ (n : Int) < 0 ∨ c.left < ((n : Int).toNat + 7) / 8
   · rw [if_pos h1] at h;exact absurd h (fails _ 3 (by omega))
   · rw [if_neg h1] at h
     rw [if_neg h1]
     by_cases h2 : padded (c.row (n : Int).toNat) (n : Int).toNat = true
     · rw [if_pos h2] at h;exact absurd h (fails _ 5 (by omega))
     · rw [if_neg h2,unpack_length];simp
 show (s.c.told (n : Int)).1.length = n
 unfold Cur.told at hc0 ⊢
 by_cases h1 : s.c.left < 1 ∨ (n : Int) < 0
 · rw [if_pos h1] at hc0;exact absurd hc0 (fails _ 3 (by omega))
 rw [if_neg h1] at hc0
 rw [if_neg h1]
 by_cases h2 : s.c.head = 1
 · rw [if_pos h2];simp
 rw [if_neg h2] at hc0
 rw [if_neg h2]
 by_cases h3 : s.c.head = 0
 · rw [if_pos h3] at hc0
   rw [if_pos h3]
   by_cases h4 : (Cur.bits { s.c with at_:=s.c.at_ + 1 } (n : Int)).2.code ≠ 0
   · rw [if_pos h4] at hc0
     exact absurd hc0 h4
   · rw [if_neg h4]
     exact bl _ (by simpa using h4)
 · rw [if_neg h3] at hc0
   exact absurd hc0 (fails _ 5 (by omega))
theorem sumsL_ok_len : ∀ (hs : List Bool) (s : Rs) (out : List Ck),(sumsL hs s out).2.ok.k = 0 → (sumsL hs s out).1.length = out.length + hs.length
 | [],s,out,_ => rfl
 | false :: t,s,out,h => by
   rw [sumsL_false] at h ⊢
   by_cases hk : s.ok.k ≠ 0
   · rw [if_pos hk] at h
     dsimp only at h
     rw [Rs.ok_ok] at h
     exact absurd h hk
   · rw [if_neg hk] at h
     rw [if_neg hk,sumsL_ok_len t _ _ h]
     simp
     omega
 | true :: t,s,out,h => by
   rw [sumsL_true] at h ⊢
   by_cases hk : (s.num 4).2.ok.k ≠ 0
   · rw [if_pos hk] at h
     dsimp only at h
     rw [Rs.ok_ok] at h
     exact absurd h hk
   · rw [if_neg hk] at h
     rw [if_neg hk,sumsL_ok_len t _ _ h]
     simp
     omega
theorem sums_ok_len {s : Rs} {n : Nat} (h : (s.sums n).2.ok.k = 0) : (s.sums n).1.length = n:=by
 have h1 : (s.told n).2.ok.k = 0:=(sumsL_st _ _ _).keep h
 have h2:=sumsL_ok_len (s.told n).1 (s.told n).2 [] h
 rw [told_ok_len h1,List.length_nil,Nat.zero_add] at h2
 exact h2
theorem packsGo_ok_len : ∀ (n m : Nat) (s : Rs) (P : List UInt64),(packsGo n m s P).2.2.ok.k = 0 → (packsGo n m s P).2.1.length = P.length + n
 | 0,m,s,P,_ => rfl
 | n + 1,m,s,P,h => by
   have hl : (s.sumOf m).ok = s.sumOf m:=by
     have hl : s.size.2.ok = s.size.2:=lim_ok s _ 7 (by omega)
     unfold Rs.sumOf
     split
     · exact Rs.fail_ok (by omega)
     · exact hl
   by_cases hc : (s.sumOf m).k ≠ 0
   · rw [packsGo_bad hc] at h
     dsimp only at h
     rw [hl] at h
     exact absurd h hc
   · rw [packsGo_ok hc] at h
     rw [packsGo_ok hc,packsGo_ok_len n _ _ _ h]
     simp
     omega
theorem packsEnd_len {P : List UInt64} {n id : Nat} {s : Rs} (hn : P.length = n) (h : (Rs.packsEnd P n id s).2.ok.k = 0) : (Rs.packsEnd P n id s).1.length = P.length:=by
 unfold Rs.packsEnd at h ⊢
 by_cases hc : (s.at (id == 10)).1 = true
 · rw [if_pos hc] at h
   rw [if_pos hc]
   dsimp only at h ⊢
   have h2:=(end_st _ _).keep h
   have h1:=(byte_st _).keep h2
   rw [sums_ok_len h1,hn]
 · rw [if_neg hc]
   simp
theorem packs_nice {s : Rs} (h : s.packs.2.ok.k = 0) : s.packs.1.1 ≤ 1099511627776 ∧ s.packs.1.2.1.length ≤ s.c.b.length ∧ s.packs.1.2.2.length = s.packs.1.2.1.length:=by
 unfold Rs.packs at h ⊢
 have hpl:=size_le s
 have htl:=things_le s.size.2
 rw [size_b] at htl
 generalize s.size.2.things.2.byte.2 = u at *
 generalize s.size.2.things.2.byte.1 = id at *
 generalize s.size.2.things.1 = n at *
 generalize s.size.1 = pl at *
 cases hat : u.at (id == 9) with
 | mk c v =>
 cases c with
 | true =>
   rw [packsA_true hat] at h
   rw [packsA_true hat]
   by_cases he : (packsGo n 0 v []).1 = true
   · exfalso
     -- it ended early, so something was wrong
     have early : ∀ (n m : Nat) (s : Rs) (P : List UInt64),(packsGo n m s P).1 = true → (packsGo n m s P).2.2.ok.k ≠ 0:=fun n => by
       induction n with
       | zero => intro m s P h;cases h
       | succ n ih =>
         intro m s P h
         have hl : (s.sumOf m).ok = s.sumOf m:=by
           have hl : s.size.2.ok = s.size.2:=lim_ok s _ 7 (by omega)
           unfold Rs.sumOf
           split
           · exact Rs.fail_ok (by omega)
           · exact hl
         by_cases hc : (s.sumOf m).k ≠ 0
         · rw [packsGo_bad hc]
           dsimp only
           rw [hl]
           exact hc
         · rw [packsGo_ok hc] at h ⊢
           exact ih _ _ _ h
     rw [if_pos he] at h
     exact early _ _ _ _ he h
   · rw [if_neg he] at h
     rw [if_neg he]
     dsimp only at h ⊢
     have h2:=(packsEnd_st _ _ _ _).keep h
     have h1:=(byte_st _).keep h2
     have hl:=packsGo_ok_len n 0 v [] h1
     simp at hl
     exact ⟨hpl,by omega,packsEnd_len hl h⟩
 | false =>
   rw [packsA_false hat] at h
   rw [packsA_false hat]
   dsimp only at h ⊢
   have h2:=(packsEnd_st _ _ _ _).keep h
   have hn : n = 0:=by
     by_cases hn : 0 < n
     · exfalso
       rw [decide_eq_true hn,Rs.at_true] at h2
       dsimp only at h2
       by_cases hz : v.ok.k = 0
       · rw [hz] at h2
         exact fail_no (by omega) h2
       · rw [beq_eq_false_iff_ne.2 hz] at h2
         simp only [Bool.false_eq_true,if_false] at h2
         rw [Rs.ok_ok] at h2
         exact hz h2
     · omega
   exact ⟨hpl,by simp,packsEnd_len (by rw [hn];rfl) h⟩
structure StrNice (B : Nat) (D : Strm) : Prop where
 pl : D.pl ≤ 1099511627776
 ps : D.ps.length ≤ B
 cs : D.cs.length = D.ps.length
 fo : ∀ x ∈ D.fo,FolSz x.f
 ss : RowsOK D.fo D.ss
theorem streamsC_nice {B : Nat} {D : Strm} {id : Nat} {s : Rs} (hD : D.pl ≤ 1099511627776 ∧ D.ps.length ≤ B ∧ D.cs.length = D.ps.length) (hF : ∀ x ∈ D.fo,FolSz x.f) (h : (Rs.streamsC D id s).2.ok.k = 0) : StrNice B (Rs.streamsC D id s).1:=by
 have hp : RowsOK D.fo (plainL D.fo):=fun i x l hx hl => by
   rw [plainL_get,hx] at hl
   simp at hl
   subst hl
   exact plain_row (hF x (List.mem_of_getElem? hx))
 unfold Rs.streamsC at h ⊢
 by_cases hc : (s.at (id == 8)).1 = true
 · rw [if_pos hc] at h
   rw [if_pos hc]
   dsimp only at h
   have h2:=(end_st _ _).keep h
   have h1:=(byte_st _).keep h2
   exact ⟨hD.1,hD.2.1,hD.2.2,hF,subs_sum hF h1⟩
 · rw [if_neg hc]
   exact ⟨hD.1,hD.2.1,hD.2.2,hF,hp⟩
theorem streamsB_nice {B : Nat} {D : Strm} {id : Nat} {s : Rs} (hD : D.pl ≤ 1099511627776 ∧ D.ps.length ≤ B ∧ D.cs.length = D.ps.length) (hF : D.fo = []) (h : (Rs.streamsB D id s).2.ok.k = 0) : StrNice B (Rs.streamsB D id s).1:=by
 unfold Rs.streamsB at h ⊢
 generalize hu : (s.at (id == 7)).2 = u at *
 by_cases hc : (s.at (id == 7)).1 = true
 · rw [if_pos hc] at h
   rw [if_pos hc]
   have h2:=(streamsC_st _ _ _).keep h
   have h1:=(byte_st _).keep h2
   have hn:=folders_nice h1
   generalize u.folders = r at *
   generalize hD2 : ({ D with fo:=r.1 } : Strm) = D2 at *
   refine streamsC_nice ?_ ?_ h
   · rw [← hD2];exact hD
   · rw [← hD2];exact hn
 · rw [if_neg hc] at h
   rw [if_neg hc]
   exact streamsC_nice hD (by rw [hF];simp) h
theorem streams_nice {s : Rs} (h : s.streams.2.ok.k = 0) : StrNice s.c.b.length s.streams.1:=by
 unfold Rs.streams Rs.streamsA at h ⊢
 have hb : (s.byte.2.at (s.byte.1 == 6)).2.c.b = s.c.b:=by rw [Rs.at_c,byte_b]
 generalize hu : (s.byte.2.at (s.byte.1 == 6)).2 = u at *
 by_cases hc : (s.byte.2.at (s.byte.1 == 6)).1 = true
 · rw [if_pos hc] at h
   rw [if_pos hc]
   have h2:=(streamsB_st _ _ _).keep h
   have h1:=(byte_st _).keep h2
   have hn:=packs_nice h1
   rw [hb] at hn
   generalize u.packs = r at *
   generalize hD2 : (⟨r.1.1,r.1.2.1,r.1.2.2,[],[]⟩ : Strm) = D2 at *
   refine streamsB_nice ?_ ?_ h
   · rw [← hD2];exact hn
   · rw [← hD2]
 · rw [if_neg hc] at h
   rw [if_neg hc]
   exact streamsB_nice ⟨by simp,by simp,rfl⟩ rfl h
structure LsNice (L : Lst) : Prop where
 sd : ∀ (i : Nat) x,L.files[i]? = some x → x.stream = true → x.dir = false
 em : ∀ (i : Nat) x,L.files[i]? = some x → L.empty[i]? = some true → x.stream = false
theorem withEmpty_nice {L : Lst} {E : List Bool} (h : LsNice L) : LsNice { L with empty:=E,files:=withEmpty L.files E }:=by
 have key : ∀ (i : Nat) x,(withEmpty L.files E)[i]? = some x → ∃ y,L.files[i]? = some y ∧ x = (match E[i]? with | some b => { y with stream:=!b,dir:=b } | none => y):=fun i x hx => by
   unfold withEmpty at hx
   rw [List.getElem?_mapIdx] at hx
   obtain ⟨y,hy,e⟩:=Option.map_eq_some_iff.1 hx
   exact ⟨y,hy,e.symm⟩
 refine ⟨fun i x hx hs => ?_,fun i x hx he => ?_⟩
 · obtain ⟨y,hy,e⟩:=key i x hx
   cases hE : E[i]? with
   | none => rw [hE] at e;subst e;exact h.sd i _ hy hs
   | some b =>
     rw [hE] at e
     subst e
     cases b with
     | true => cases hs
     | false => rfl
 · obtain ⟨y,hy,e⟩:=key i x hx
   have he' : E[i]? = some true:=he
   rw [he'] at e
   subst e
   rfl
theorem keep_nice {L : Lst} {F : List Fil} (h : LsNice L) (hF : ∀ (i : Nat) x,F[i]? = some x → ∃ y,L.files[i]? = some y ∧ x.stream = y.stream ∧ x.dir = y.dir) : LsNice { L with files:=F }:=by
 refine ⟨fun i x hx hs => ?_,fun i x hx he => ?_⟩
 · obtain ⟨y,hy,e1,e2⟩:=hF i x hx
   rw [e2]
   exact h.sd i y hy (by rw [← e1];exact hs)
 · obtain ⟨y,hy,e1,e2⟩:=hF i x hx
   rw [e1]
   exact h.em i y hy he
def SameSD (F G : List Fil) : Prop:=∀ (i : Nat) x,F[i]? = some x → ∃ y,G[i]? = some y ∧ x.stream = y.stream ∧ x.dir = y.dir
theorem SameSD.refl (F : List Fil) : SameSD F F:=fun _ x h => ⟨x,h,rfl,rfl⟩
theorem SameSD.trans {F G H : List Fil} (h : SameSD F G) (k : SameSD G H) : SameSD F H:=fun i x hx => by
 obtain ⟨y,hy,e1,e2⟩:=h i x hx
 obtain ⟨z,hz,e3,e4⟩:=k i y hy
 exact ⟨z,hz,e1.trans e3,e2.trans e4⟩
theorem SameSD.modify (F : List Fil) (i : Nat) (f : Fil → Fil) (hf : ∀ x,(f x).stream = x.stream ∧ (f x).dir = x.dir) : SameSD (F.modify i f) F:=fun j x hx => by
 rw [List.getElem?_modify] at hx
 cases hF : F[j]? with
 | none => rw [hF] at hx;simp at hx
 | some y =>
   rw [hF] at hx
   by_cases e : i = j
   · simp [e] at hx
     subst hx
     exact ⟨y,rfl,(hf y).1,(hf y).2⟩
   · simp [e] at hx
     subst hx
     exact ⟨y,rfl,rfl,rfl⟩
theorem namesGo_sd : ∀ (m i : Nat) (s : Rs) (F : List Fil),SameSD (namesGo m i s F).1 F
 | 0,_,s,F => SameSD.refl F
 | m + 1,i,s,F => by
   by_cases h : s.ok.k = 0
   · by_cases h2 : s.units.2.ok.k = 0
     · rw [namesGo_ok h h2]
       exact (namesGo_sd m _ _ _).trans (SameSD.modify F i _ (fun x => ⟨rfl,rfl⟩))
     · rw [namesGo_cut h h2];exact SameSD.refl F
   · rw [namesGo_bad h];exact SameSD.refl F
theorem numsGo_sd (id : Nat) : ∀ (l : List Bool) (k : Nat) (s : Rs) (F : List Fil),SameSD (numsGo id l k s F).1 F
 | [],k,s,F => SameSD.refl F
 | false :: t,k,s,F => by rw [numsGo_no];exact numsGo_sd id t _ _ _
 | true :: t,k,s,F => by
   by_cases h : (s.num (numSz id)).2.ok.k = 0
   · rw [numsGo_ok h]
     refine (numsGo_sd id t _ _ _).trans ?_
     unfold numAt
     split
     · exact SameSD.modify F k _ (fun x => ⟨rfl,rfl⟩)
     · split
       · exact SameSD.modify F k _ (fun x => ⟨rfl,rfl⟩)
       · exact SameSD.refl F
   · rw [numsGo_bad h];exact SameSD.refl F
theorem among_nice (id : Nat) : ∀ (z : List (Nat × Bool)) (L : Lst) (s : Rs),LsNice L → (∀ p ∈ z,L.empty[p.1]? = some true) → LsNice { L with files:=(z.foldl (amongStep id) (L.files,s)).1 }
 | [],L,s,h,_ => h
 | a :: t,L,s,h,hz => by
   rw [List.foldl_cons]
   have ha:=hz a (by simp)
   have step : LsNice { L with files:=(amongStep id (L.files,s) a).1 }:=by
     unfold amongStep
     split
     · refine ⟨fun i x hx hs => ?_,fun i x hx he => ?_⟩
       · dsimp only at hx
         unfold dirAt at hx
         rw [List.getElem?_modify] at hx
         cases hF : L.files[i]? with
         | none => rw [hF] at hx;simp at hx
         | some y =>
           rw [hF] at hx
           by_cases e : a.1 = i
           · simp [e] at hx
             subst hx
             have:=h.em i y hF (by rw [← e];exact ha)
             have hs' : y.stream = true:=hs
             rw [this] at hs'
             cases hs'
           · simp [e] at hx
             subst hx
             exact h.sd i _ hF hs
       · dsimp only at hx he
         unfold dirAt at hx
         rw [List.getElem?_modify] at hx
         cases hF : L.files[i]? with
         | none => rw [hF] at hx;simp at hx
         | some y =>
           rw [hF] at hx
           by_cases e : a.1 = i
           · simp [e] at hx
             subst hx
             exact h.em i y hF he
           · simp [e] at hx
             subst hx
             exact h.em i _ hF he
     · exact h
   exact among_nice id t { L with files:=(amongStep id (L.files,s) a).1 } _ step (fun p hp => hz p (List.mem_cons_of_mem _ hp))
theorem posL_true {E : List Bool} {x : Nat} (h : x ∈ posL E) : E[x]? = some true:=by
 unfold posL posN at h
 rw [List.mem_filter] at h
 obtain ⟨h1,h2⟩:=h
 rw [List.getD_eq_getElem?_getD] at h2
 cases hE : E[x]? with
 | none => rw [hE] at h2;simp at h2
 | some b => rw [hE] at h2;simp at h2;rw [h2]
theorem partBody_nice (n id : Nat) (L : Lst) (s : Rs) (h : LsNice L) : LsNice (partBody n id L s).1:=by
 unfold partBody
 split
 · exact withEmpty_nice h
 split
 · show LsNice { L with files:=(amongL id L.empty L.files s).1 }
   unfold amongL
   refine among_nice id _ L _ h fun p hp => ?_
   exact posL_true (List.of_mem_zip hp).1
 split
 · exact keep_nice h (namesGo_sd _ _ _ _)
 split
 · exact keep_nice h (numsGo_sd _ _ _ _ _)
 split
 · exact h
 · exact h
theorem filesGo_nice (n : Nat) : ∀ (m : Nat) (L : Lst) (s : Rs),LsNice L → LsNice (filesGo n m L s).1
 | 0,L,s,h => h
 | m + 1,L,s,h => by
   by_cases hz : s.ok.k = 0
   rotate_left
   · rw [filesGo_bad hz];exact h
   by_cases hzy : s.byte.2.ok.k = 0
   rotate_left
   · rw [filesGo_end hz (.inl hzy)];exact h
   by_cases hv : s.byte.1 = 0
   · rw [filesGo_end hz (.inr hv)];exact h
   have hs : LsNice (L.say s.byte.1):=⟨h.sd,h.em⟩
   cases hm : mayL L.said s.byte.1 with
   | false => rw [filesGo_not hz hzy hv hm];exact h
   | true =>
     by_cases hzz : s.byte.2.chunk.2.ok.k = 0
     · rw [filesGo_ok hz hzy hv hm hzz]
       exact filesGo_nice n m _ _ (partBody_nice _ _ _ _ hs)
     · rw [filesGo_cut hz hzy hv hm hzz]
       exact filesGo_nice n m _ _ hs
theorem files_nice (s : Rs) : ∀ x ∈ s.files.1,x.stream = true → x.dir = false:=by
 intro x hx
 obtain ⟨i,hi⟩:=List.mem_iff_getElem?.1 hx
 have h0 : LsNice ⟨fun _ => false,[],List.replicate s.things.1 noFil⟩:=⟨fun i x hx _ => by
   have:=List.mem_of_getElem? hx
   rw [List.mem_replicate] at this
   rw [this.2]
   rfl,fun i x _ he => by simp at he⟩
 exact (filesGo_nice s.things.1 (s.things.2.c.b.length + 1) _ s.things.2 h0).sd i x hi
structure DscNice (B : Nat) (r : Bool × Strm × List Fil) : Prop where
 st : StrNice B r.2.1
 fi : ∀ x ∈ r.2.2,x.stream = true → x.dir = false
 fl : r.2.2.length ≤ B
 fo : r.2.1.fo.length ≤ B
 ss : r.2.1.ss.length = r.2.1.fo.length
 rw : RowsIn B r.2.1.ss
 ct : r.1 = true ∨ totL r.2.1.ss = strN r.2.2
theorem noStrm_nice (B : Nat) : StrNice B noStrm:=⟨by simp [noStrm],by simp [noStrm],rfl,(by simp [noStrm]),(fun i x l hx _ => by simp [noStrm] at hx)⟩
theorem all_nice {s : Rs} (h : s.all.2.ok.k = 0) : StrNice s.c.b.length s.all.1.1 ∧ ∀ x ∈ s.all.1.2,x.stream = true → x.dir = false:=by
 have hC : ∀ (D : Strm) (id : Nat) (u : Rs),(Rs.allC D id u).1.1 = D ∧ ∀ x ∈ (Rs.allC D id u).1.2,x.stream = true → x.dir = false:=fun D id u => by
   unfold Rs.allC
   split
   · exact ⟨rfl,files_nice _⟩
   · exact ⟨rfl,fun x hx => by cases hx⟩
 have hB : ∀ (id : Nat) (u : Rs),u.c.b = s.c.b → (Rs.allB id u).2.ok.k = 0 → StrNice s.c.b.length (Rs.allB id u).1.1 ∧ ∀ x ∈ (Rs.allB id u).1.2,x.stream = true → x.dir = false:=fun id u hub hk => by
   unfold Rs.allB at hk ⊢
   generalize hv : (u.at (id == 4)).2 = v at *
   have hvb : v.c.b = s.c.b:=by rw [← hv,Rs.at_c,hub]
   by_cases hc : (u.at (id == 4)).1 = true
   · rw [if_pos hc] at hk
     rw [if_pos hc]
     have h2:=(allC_st _ _ _).keep hk
     have h1:=(byte_st _).keep h2
     have hn:=streams_nice h1
     rw [hvb] at hn
     generalize v.streams = r at *
     have:=hC r.1 r.2.byte.1 r.2.byte.2
     rw [this.1]
     exact ⟨hn,this.2⟩
   · rw [if_neg hc]
     have:=hC noStrm id v
     rw [this.1]
     exact ⟨noStrm_nice _,this.2⟩
 have hA : ∀ (id : Nat) (u : Rs),u.c.b = s.c.b → (Rs.allA id u).2.ok.k = 0 → StrNice s.c.b.length (Rs.allA id u).1.1 ∧ ∀ x ∈ (Rs.allA id u).1.2,x.stream = true → x.dir = false:=fun id u hub hk => by
   unfold Rs.allA at hk ⊢
   refine hB id _ ?_ hk
   split
   · rw [Rs.fail_c,Rs.at_c,hub]
   · rw [Rs.at_c,hub]
 unfold Rs.all at h ⊢
 by_cases hc : (s.byte.2.at (s.byte.1 == 2)).1 = true
 · rw [if_pos hc] at h
   rw [if_pos hc]
   exact hA _ _ (by rw [byte_b,props_b,Rs.at_c,byte_b]) h
 · rw [if_neg hc] at h
   rw [if_neg hc]
   exact hA _ _ (by rw [Rs.at_c,byte_b]) h
theorem parse_nice (b : List UInt8) (h : (parseL b).2 = 0) : DscNice b.length (parseL b).1:=by
 by_cases hb : b = []
 · subst hb
   have e : (parseL []).1 = noDesc:=rfl
   rw [e]
   exact ⟨noStrm_nice _,(by simp [noDesc]),Nat.zero_le _,Nat.zero_le _,rfl,RowsIn.nil _,.inr rfl⟩
 have hb1 : 1 ≤ b.length:=by
   cases b with
   | nil => exact absurd rfl hb
   | cons x t => simp
 unfold parseL at h ⊢
 rw [if_neg hb] at h
 rw [if_neg hb]
 by_cases hz : (parseTail (parseBody (newRs b))).k = 0
 rotate_left
 · rw [if_neg hz] at h
   exact absurd h hz
 rw [if_pos hz]
 have hcnt : (parseBody (newRs b)).1.1 = true ∨ totL (parseBody (newRs b)).1.2.1.ss = strN (parseBody (newRs b)).1.2.2:=by
   cases hp : (parseBody (newRs b)).1.1 with
   | true => exact .inl rfl
   | false =>
     right
     unfold parseTail at hz
     by_cases hc : (parseBody (newRs b)).2.partEnd.ok.k = 0 ∧ (parseBody (newRs b)).1.1 = false
     · rw [if_pos hc] at hz
       unfold Rs.count at hz
       split at hz
       · assumption
       · rw [Rs.fail_k (by rw [hc.1])] at hz
         cases hz
     · rw [if_neg hc] at hz
       exact absurd ⟨hz,hp⟩ hc
 have hB : (parseBody (newRs b)).2.ok.k = 0:=by
   have h1 : (parseBody (newRs b)).2.partEnd.ok.k = 0:=by
     unfold parseTail at hz
     split at hz
     · rename_i hc;exact hc.1
     · exact hz
   exact (partEnd_st _).keep h1
 dsimp only
 refine ⟨?_,?_,?_,?_,?_,?_,hcnt⟩
 all_goals
   clear hcnt hz h
   unfold parseBody at hB ⊢
   have hbb : (newRs b).byte.2.c.b = b:=byte_b (newRs b)
   generalize (newRs b).byte.2 = s at *
   generalize (newRs b).byte.1 = id at *
   by_cases h1 : id = 1
   · rw [if_pos h1] at hB
     rw [if_pos h1]
     have hn:=all_nice hB
     have hs:=all_small s b.length hb1 (by rw [hbb];exact Nat.le_refl _)
     rw [hbb] at hn hs
     first | exact hn.1 | exact hn.2 | exact hs.2.2.2 | exact hs.2.2.1 | exact hs.1 | exact hs.2.1
   rw [if_neg h1] at hB
   rw [if_neg h1]
   by_cases h2 : id = 23
   · rw [if_pos h2] at hB
     rw [if_pos h2]
     have h3:=(oneSub_st _ _).keep hB
     have hn:=streams_nice h3
     have hs:=streams_rows s b.length hb1 (by rw [hbb];exact Nat.le_refl _)
     rw [hbb] at hn hs
     first | exact hn | exact (fun x hx => by cases hx) | exact Nat.zero_le _ | exact hs.2.2 | exact hs.1 | exact hs.2.1
   · rw [if_neg h2] at hB
     exact (fail_no (by omega) hB).elim
end Go.Proofs.YtkodindajfdagaaGreatDoor
