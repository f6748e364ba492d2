/- What is put is read as it was: the plain law. No condition. -/
import Derived.Test.YtkodindajfdagaaGreatDoorJA
import Derived.Test.YtkodindajfdagaaGreatDoorJR
import Derived.Test.YtkodindajfdagaaGreatDoorJN
import Derived.Test.YtkodindajfdagaaGreatDoorKG
import Derived.Test.YtkodindajfdagaaGreatDoorJW
namespace Go.Proofs.YtkodindajfdagaaGreatDoor
open Go.RowKit
def enc1 (x : UInt64) : List UInt8:=putNumber [] x.toNat ++ leBytes 4 x.toNat
def enc (l : List UInt64) : List UInt8:=l.flatMap enc1
theorem ones_first (v : Nat) (_hv : v < 18446744073709551616) : Cur.ones (firstByte v).toNat = extra v ∧ (extra v < 7 → (firstByte v).toNat % 2 ^ (7 - extra v) = v / 256 ^ extra v):=by
 have h8:=extra_le v
 unfold firstByte
 obtain ⟨k,hk⟩ : ∃ k,k = extra v:=⟨_,rfl⟩
 rw [← hk] at h8 ⊢
 by_cases h7 : k < 7
 · rw [if_pos h7]
   have h0:=extra_at v (by omega)
   rw [← hk] at h0
   have hlt : v / 256 ^ k < 2 ^ (7 - k):=by
     have h1 : v < 2 ^ (7 * k + 7):=(Nat.div_eq_zero_iff_lt (Nat.pow_pos (by decide))).1 h0
     rw [pow256,Nat.div_lt_iff_lt_mul (Nat.pow_pos (by decide)),← Nat.pow_add,show 7 - k + 8 * k = 7 * k + 7 from by omega]
     exact h1
   have h7' : 2 ^ (7 - k) ≤ 2 ^ 7:=Nat.pow_le_pow_right (by decide) (by omega)
   generalize v / 256 ^ k = q at *
   have hs:=first_small k q h7 hlt
   have key : ∀ (j : Fin 7) (z : Fin 128),z.val < 2 ^ (7 - j.val) → Cur.ones (65280 / 2 ^ j.val % 256 + z.val) = j.val ∧ (65280 / 2 ^ j.val % 256 + z.val) % 2 ^ (7 - j.val) = z.val:=by decide +kernel
   have:=key ⟨k,h7⟩ ⟨q,by omega⟩ hlt
   have e : (UInt8.ofNat (65280 / 2 ^ k % 256 + q)).toNat = 65280 / 2 ^ k % 256 + q:=by simp;omega
   rw [e]
   exact ⟨this.1,fun _ => this.2⟩
 · rw [if_neg h7]
   have hk' : k = 7 ∨ k = 8:=by omega
   rcases hk' with rfl | rfl <;> exact ⟨by decide,by omega⟩
theorem number_back (pre post : List UInt8) (v : Nat) (hv : v < 18446744073709551616) :
   Cur.number ⟨pre ++ putNumber [] v ++ post,pre.length,0⟩ = (v,⟨pre ++ putNumber [] v ++ post,pre.length + (putNumber [] v).length,0⟩):=by
 have hx8:=extra_le v
 obtain ⟨h1,h2⟩:=ones_first v hv
 have hlen : (putNumber [] v).length = 1 + extra v:=by rw [putNumber_length];simp
 have hg : (pre ++ putNumber [] v ++ post).getD pre.length 0 = firstByte v:=by
   unfold putNumber;simp
 have hh : Cur.head ⟨pre ++ putNumber [] v ++ post,pre.length,0⟩ = (firstByte v).toNat:=by
   unfold Cur.head;dsimp only;rw [hg]
 unfold Cur.number
 rw [hh,h1,if_neg (by unfold Cur.left;simp only [if_true,List.length_append,hlen];omega)]
 have hd : ((pre ++ putNumber [] v ++ post).drop (pre.length + 1)).take (extra v) = leBytes (extra v) v:=by
   unfold putNumber
   rw [List.nil_append,List.append_assoc,← List.drop_drop,List.drop_left]
   rw [List.cons_append,List.drop_succ_cons,List.drop_zero,List.take_left' (leBytes_length _ _)]
 have hval : leNat (leBytes (extra v) v) + 256 ^ extra v * (if extra v < 7 then (firstByte v).toNat % 2 ^ (7 - extra v) else 0) = v:=by
   rw [leNat_leBytes_mod]
   by_cases h7 : extra v < 7
   · rw [if_pos h7,h2 h7];exact Nat.mod_add_div _ _
   · rw [if_neg h7]
     have hb : v < 256 ^ extra v:=by
       have hk' : extra v = 7 ∨ extra v = 8:=by omega
       rcases hk' with h | h
       · have:=extra_at v (by omega)
         rw [h] at this ⊢
         simp only [Nat.reduceMul,Nat.reduceAdd,Nat.reducePow] at this ⊢
         omega
       · rw [h];simp only [Nat.reducePow];omega
     rw [Nat.mod_eq_of_lt hb];omega
 dsimp only
 rw [hd,hval,hlen,Nat.add_assoc]
theorem bitOf_pack (row : List Bool) (i : Nat) (hi : i < 8 * ((row.length + 7) / 8)) : bitOf (packBits row) i = bitAt row i:=by
 have hg : (packBits row).getD (i / 8) 0 = UInt8.ofNat (byteOf (bitAt row) (i / 8)):=by
   rw [List.getD_eq_getElem?_getD,packBits,packF_get _ _ _ (by omega)];rfl
 unfold bitOf
 have hb:=byteOf_lt (bitAt row) (i / 8)
 have e : (UInt8.ofNat (byteOf (bitAt row) (i / 8))).toNat = byteOf (bitAt row) (i / 8):=by simp;omega
 rw [hg,e,byteOf_bit _ _ _ (by omega),show 8 * (i / 8) + i % 8 = i from by omega]
 cases bitAt row i <;> rfl
theorem unpack_pack (row : List Bool) : unpack (packBits row) row.length = row:=by
 apply List.ext_getElem
 · simp [unpack_length]
 · intro i h1 h2
   simp only [unpack,List.getElem_map,List.getElem_range]
   rw [bitOf_pack row i (by omega)]
   unfold bitAt
   simp [h2]
theorem not_padded (row : List Bool) : padded (packBits row) row.length = false:=by
 rw [padded_false]
 intro i h1 h2
 rw [bitOf_pack row i h2]
 unfold bitAt
 rw [List.getD_eq_getElem?_getD,List.getElem?_eq_none h1];rfl
theorem packBits_length (row : List Bool) : (packBits row).length = (row.length + 7) / 8:=by simp [packBits,packF_length]
theorem bits_back (pre post : List UInt8) (row : List Bool) :
   Cur.bits ⟨pre ++ packBits row ++ post,pre.length,0⟩ row.length = (row,⟨pre ++ packBits row ++ post,pre.length + (packBits row).length,0⟩):=by
 have hr : Cur.row ⟨pre ++ packBits row ++ post,pre.length,0⟩ row.length = packBits row:=by
   unfold Cur.row
   dsimp only
   rw [List.append_assoc,List.drop_left,List.take_left' (packBits_length row)]
 unfold Cur.bits
 rw [Int.toNat_natCast,if_neg (by unfold Cur.left;simp [packBits_length]),hr,not_padded,unpack_pack,packBits_length]
 rfl
end Go.Proofs.YtkodindajfdagaaGreatDoor
/- A reader at pieces that were put: the plain laws. No condition. -/
namespace Go.Proofs.YtkodindajfdagaaGreatDoor
def st (b : List UInt8) (n : Nat) : Rs:=⟨⟨b,n,0⟩,0⟩
theorem st_ok (b : List UInt8) (n : Nat) : (st b n).ok = st b n:=rfl
theorem st_k (b : List UInt8) (n : Nat) : (st b n).k = 0:=rfl
theorem st_left (b : List UInt8) (n : Nat) : (st b n).c.left = b.length - n:=rfl
theorem drop_next {b x post : List UInt8} {n : Nat} (h : b.drop n = x ++ post) : b.drop (n + x.length) = post:=by
 rw [← List.drop_drop,h,List.drop_left]
theorem drop_split {b x post : List UInt8} {n : Nat} (h : b.drop n = x ++ post) (hx : 0 < x.length) : n ≤ b.length ∧ b = b.take n ++ x ++ post ∧ (b.take n).length = n ∧ n + x.length ≤ b.length:=by
 have hl:=congrArg List.length h
 rw [List.length_drop,List.length_append] at hl
 have hn : n ≤ b.length:=by omega
 refine ⟨hn,?_,by rw [List.length_take];omega,by omega⟩
 rw [List.append_assoc,← h,List.take_append_drop]
theorem st_number {b post : List UInt8} {n v : Nat} (h : b.drop n = shortN v ++ post) (hv : v < 18446744073709551616) : (st b n).number = (v,st b (n + (shortN v).length)):=by
 obtain ⟨-,hb,hl,-⟩:=drop_split h (by simp [shortN])
 have:=number_back (b.take n) post v hv
 rw [putNumber_short,List.nil_append,← hb,hl] at this
 unfold Rs.number st
 rw [this]
theorem leBytes_one (v : Nat) : leBytes 1 v = [UInt8.ofNat v]:=by simp [leBytes]
theorem st_take {b x post : List UInt8} {n : Nat} (h : b.drop n = x ++ post) : (st b n).c.take x.length = (x,(st b (n + x.length)).c):=by
 have hl:=congrArg List.length h
 rw [List.length_drop,List.length_append] at hl
 unfold Cur.take st
 dsimp only
 rw [if_neg (by rw [Cur.left];simp;omega),h,List.take_left]
theorem st_num {b post : List UInt8} {n v k : Nat} (h : b.drop n = leBytes k v ++ post) (hk : k = 1 ∨ k = 2 ∨ k = 4 ∨ k = 8) (hv : v < 256 ^ k) : (st b n).num (k : Int) = (v,st b (n + k)):=by
 obtain ⟨hn,-,-,-⟩:=drop_split h (by rw [leBytes_length];omega)
 have ht:=st_take h
 rw [leBytes_length] at ht
 have hs : Cur.sized (k : Int) = true:=by rcases hk with rfl | rfl | rfl | rfl <;> rfl
 unfold Rs.num Cur.num
 rw [if_pos hs,Int.toNat_natCast,ht,leNat_leBytes k v hv]
 rfl
theorem st_byte {b post : List UInt8} {n : Nat} {x : UInt8} (h : b.drop n = x :: post) : (st b n).byte = (x.toNat,st b (n + 1)):=by
 have h1 : b.drop n = leBytes 1 x.toNat ++ post:=by rw [leBytes_one];simpa using h
 exact st_num h1 (.inl rfl) (by have:=x.toNat_lt;omega)
theorem st_bits {b post : List UInt8} {n : Nat} {row : List Bool} (h : b.drop n = packBits row ++ post) (hn : n ≤ b.length) : (st b n).c.bits row.length = (row,(st b (n + (packBits row).length)).c):=by
 have hb : b = b.take n ++ packBits row ++ post:=by rw [List.append_assoc,← h,List.take_append_drop]
 have hl : (b.take n).length = n:=by rw [List.length_take];omega
 have:=bits_back (b.take n) post row
 rw [← hb,hl] at this
 exact this
theorem st_told {b post : List UInt8} {n : Nat} {row : List Bool} (h : b.drop n = toldN row ++ post) (hp : 0 < (toldN row).length) : (st b n).c.told row.length = (row,(st b (n + (toldN row).length)).c):=by
 obtain ⟨hn,hb,hl,hle⟩:=drop_split h hp
 by_cases hall : row.all id = true
 · have e : toldN row = [1]:=if_pos hall
   rw [e] at h ⊢
   have hrep : List.replicate row.length true = row:=by
     apply List.ext_getElem
     · simp
     · intro i h1 h2
       have:=List.all_eq_true.1 hall row[i] (List.getElem_mem h2)
       simp at this
       simp [this]
   have hhd : (b.getD n 0) = 1:=by
     have : b[n]? = some 1:=by
       have h0 : (b.drop n)[0]? = some 1:=by rw [h];rfl
       simpa using h0
     rw [List.getD_eq_getElem?_getD,this]
     rfl
   unfold Cur.told
   rw [if_neg (by rw [st_left];rw [e] at hle;simp at hle;omega),if_pos (by unfold Cur.head st;dsimp only;rw [hhd];rfl),Int.toNat_natCast,hrep]
   rfl
 · have e : toldN row = 0 :: packBits row:=if_neg hall
   rw [e] at h ⊢
   have h2 : b.drop (n + 1) = packBits row ++ post:=by
     have:=drop_next (x:=[0]) (post:=packBits row ++ post) (b:=b) (n:=n) (by simpa using h)
     simpa using this
   have hn1 : n + 1 ≤ b.length:=by rw [e] at hle;simp at hle;omega
   have hB:=st_bits h2 hn1
   have hhd : (b.getD n 0) = 0:=by
     have : b[n]? = some 0:=by
       have h0 : (b.drop n)[0]? = some 0:=by rw [h];rfl
       simpa using h0
     rw [List.getD_eq_getElem?_getD,this]
     rfl
   have hc : ({ (st b n).c with at_:=(st b n).c.at_ + 1 } : Cur) = (st b (n + 1)).c:=rfl
   unfold Cur.told
   rw [if_neg (by rw [st_left];omega),if_neg (by unfold Cur.head st;dsimp only;rw [hhd];decide),if_pos (by unfold Cur.head st;dsimp only;rw [hhd];rfl),hc,hB]
   rw [if_neg (by unfold st;simp)]
   rw [List.length_cons,show n + ((packBits row).length + 1) = n + 1 + (packBits row).length by omega]
theorem st_things {b post : List UInt8} {n v : Nat} (h : b.drop n = shortN v ++ post) (hv : v ≤ post.length) (hb : b.length < 18446744073709551616) : (st b n).things = (v,st b (n + (shortN v).length)):=by
 obtain ⟨hn,hbe,hl,hle⟩:=drop_split h (by simp [shortN])
 have hlen:=congrArg List.length h
 rw [List.length_drop,List.length_append] at hlen
 have hnum:=st_number h (by omega)
 unfold Rs.things Rs.lim
 rw [hnum]
 dsimp only
 rw [st_ok,if_neg (by rw [st_k];simp),if_neg (by rw [st_left];simp;omega)]
theorem st_size {b post : List UInt8} {n v : Nat} (h : b.drop n = shortN v ++ post) (hv : v ≤ 1099511627776) : (st b n).size = (v,st b (n + (shortN v).length)):=by
 have hnum:=st_number h (by omega)
 unfold Rs.size Rs.lim
 rw [hnum]
 dsimp only
 rw [st_ok,if_neg (by rw [st_k];simp),if_neg (by simp;omega)]
theorem st_below {b post : List UInt8} {n v m : Nat} (h : b.drop n = shortN v ++ post) (hv : v < m) (hm : m ≤ 1000000000) : (st b n).below m = (v,st b (n + (shortN v).length)):=by
 have hnum:=st_number h (by omega)
 unfold Rs.below Rs.lim
 rw [hnum]
 dsimp only
 rw [st_ok,if_neg (by rw [st_k];simp),if_neg (by simp;omega)]
end Go.Proofs.YtkodindajfdagaaGreatDoor
/- What is said of files, written and read: the plain law. No condition. -/
namespace Go.Proofs.YtkodindajfdagaaGreatDoor
open Go.RowKit Go.Maps
theorem newRs_st (b : List UInt8) : newRs b = st b 0:=rfl
theorem st_end (b : List UInt8) (n : Nat) (h : b.length ≤ n) : (st b n).partEnd = st b n:=by
 unfold Rs.partEnd
 rw [st_ok,if_neg]
 rintro ⟨-,h2⟩
 rw [st_left] at h2
 omega
theorem st_inside {b post : List UInt8} {n : Nat} (h : b.drop n = 0 :: post) : (st b n).inside = st b (n + 1):=by
 unfold Rs.inside
 rw [st_byte h]
 dsimp only
 rw [st_ok,if_pos (.inr rfl)]
theorem st_toldR {b post : List UInt8} {n : Nat} {row : List Bool} (h : b.drop n = toldN row ++ post) (hp : 0 < (toldN row).length) : (st b n).told row.length = (row,st b (n + (toldN row).length)):=by
 unfold Rs.told
 rw [st_told h hp]
 rfl
theorem st_bitsR {b post : List UInt8} {n : Nat} {row : List Bool} (h : b.drop n = packBits row ++ post) (hn : n ≤ b.length) : (st b n).bits row.length = (row,st b (n + (packBits row).length)):=by
 unfold Rs.bits
 rw [st_bits h hn]
 rfl
theorem st_takeR {b x post : List UInt8} {n : Nat} (h : b.drop n = x ++ post) : (st b n).take x.length = (x,st b (n + x.length)):=by
 unfold Rs.take
 rw [st_take h]
 rfl
theorem part_step {n m : Nat} {L L' : Lst} {b post x : List UInt8} {p : Nat} {id : UInt8} (h : b.drop p = partW id x ++ post) (hb : b.length < 18446744073709551616) (h0 : id.toNat ≠ 0) (hm : mayL L.said id.toNat = true) (hp : partL n id.toNat (L.say id.toNat) x = (L',0)) :
   filesGo n (m + 1) L (st b p) = filesGo n m L' (st b (p + (partW id x).length)):=by
 have h1 : b.drop p = id :: (shortN x.length ++ (x ++ post)):=by rw [h];unfold partW;simp
 have hby:=st_byte h1
 have h2 : b.drop (p + 1) = shortN x.length ++ (x ++ post):=by
   have:=drop_next (x:=[id]) (b:=b) (n:=p) (post:=shortN x.length ++ (x ++ post)) (by simpa using h1)
   simpa using this
 have hth:=st_things h2 (by rw [List.length_append];omega) hb
 have h3:=drop_next h2
 have htk:=st_takeR h3
 have hlen : p + (partW id x).length = p + 1 + (shortN x.length).length + x.length:=by unfold partW;simp;omega
 rw [hlen]
 rw [filesGo]
 rw [st_ok,if_neg (by rw [st_k];simp),hby]
 dsimp only
 rw [st_ok,if_neg (by rw [st_k];simp [h0]),hm,if_neg (by simp),hth]
 dsimp only
 rw [htk]
 dsimp only
 rw [st_ok,if_neg (by rw [st_k];simp),hp]
 rfl
theorem files_end {n m : Nat} {L : Lst} {b post : List UInt8} {p : Nat} (h : b.drop p = 0 :: post) : filesGo n (m + 1) L (st b p) = (L,st b (p + 1)):=by
 rw [filesGo,st_ok,if_neg (by rw [st_k];simp),st_byte h]
 dsimp only
 rw [st_ok,if_pos (.inr rfl)]
theorem part14 {n : Nat} {L : Lst} (E : List Bool) (hE : E.length = n) : partL n 14 L (packBits E) = ({ L with empty:=E,files:=withEmpty L.files E },0):=by
 have h:=st_bitsR (b:=packBits E) (post:=[]) (n:=0) (row:=E) (by simp) (Nat.zero_le _)
 rw [hE,Nat.zero_add] at h
 have hb : partBody n 14 L (newRs (packBits E)) = ({ L with empty:=E,files:=withEmpty L.files E },st (packBits E) (packBits E).length):=by
   unfold partBody
   rw [if_pos rfl,newRs_st,h]
 unfold partL
 rw [hb]
 dsimp only
 rw [st_end _ _ (Nat.le_refl _)]
 rfl
def dirsF (E P : List Bool) (F : List Fil) : List Fil:=((posL E).zip P).foldl (fun F p => dirAt F p.1 (!p.2)) F
theorem among_fold (l : List (Nat × Bool)) (F : List Fil) (s : Rs) : l.foldl (amongStep 15) (F,s) = (l.foldl (fun F p => dirAt F p.1 (!p.2)) F,s):=by
 induction l generalizing F with
 | nil => rfl
 | cons x t ih =>
   rw [List.foldl_cons,List.foldl_cons,show amongStep 15 (F,s) x = (dirAt F x.1 (!x.2),s) from rfl]
   exact ih _
theorem part15 {n : Nat} {L : Lst} (P : List Bool) (hP : P.length = (posL L.empty).length) : partL n 15 L (packBits P) = ({ L with files:=dirsF L.empty P L.files },0):=by
 have h:=st_bitsR (b:=packBits P) (post:=[]) (n:=0) (row:=P) (by simp) (Nat.zero_le _)
 rw [hP,Nat.zero_add] at h
 have hb : partBody n 15 L (newRs (packBits P)) = ({ L with files:=dirsF L.empty P L.files },st (packBits P) (packBits P).length):=by
   unfold partBody
   rw [if_neg (by decide),if_pos (.inl rfl),newRs_st]
   unfold amongL
   rw [h]
   dsimp only
   rw [among_fold]
   rfl
 unfold partL
 rw [hb]
 dsimp only
 rw [st_end _ _ (Nat.le_refl _)]
 rfl
theorem unitsB_cons (u : Nat) (t : List Nat) : unitsB (u :: t) = leBytes 2 u ++ unitsB t:=rfl
theorem units_back {b post : List UInt8} : ∀ (U : List Nat) (p fuel : Nat) (acc : List Nat),b.drop p = unitsB (U ++ [0]) ++ post → (∀ u ∈ U,u ≠ 0 ∧ u < 65536) → U.length < fuel →
   unitsGo fuel (st b p) acc = (acc ++ U,st b (p + (unitsB (U ++ [0])).length)):=by
 intro U
 induction U with
 | nil =>
   intro p fuel acc h _ hf
   obtain ⟨m,rfl⟩ : ∃ m,fuel = m + 1:=⟨fuel - 1,by simp at hf;omega⟩
   have h1 : b.drop p = leBytes 2 0 ++ post:=by rw [h];rfl
   have hn:=st_num h1 (.inr (.inl rfl)) (by decide)
   rw [unitsGo,st_ok,if_neg (by rw [st_k];simp)]
   rw [show ((2 : Nat) : Int) = 2 from rfl] at hn
   rw [hn]
   dsimp only
   rw [if_pos rfl,List.append_nil]
   rfl
 | cons u t ih =>
   intro p fuel acc h hU hf
   obtain ⟨m,rfl⟩ : ∃ m,fuel = m + 1:=⟨fuel - 1,by simp at hf;omega⟩
   have h1 : b.drop p = leBytes 2 u ++ (unitsB (t ++ [0]) ++ post):=by rw [h,List.cons_append,unitsB_cons,List.append_assoc]
   have hu:=hU u (by simp)
   have hn:=st_num h1 (.inr (.inl rfl)) (by omega)
   have h2:=drop_next h1
   rw [leBytes_length] at h2
   rw [unitsGo,st_ok,if_neg (by rw [st_k];simp)]
   rw [show ((2 : Nat) : Int) = 2 from rfl] at hn
   rw [hn]
   dsimp only
   rw [if_neg hu.1,ih (p + 2) m (acc ++ [u]) h2 (fun x hx => hU x (by simp [hx])) (by simp at hf;omega)]
   rw [List.append_assoc,List.singleton_append,List.cons_append,unitsB_cons,List.length_append,leBytes_length]
   rw [show p + 2 + (unitsB (t ++ [0])).length = p + (2 + (unitsB (t ++ [0])).length) by omega]
def NameOk (l : List UInt8) : Prop:=textL (nameU l) = some l ∧ ∀ u ∈ nameU l,u ≠ 0 ∧ u < 65536
theorem nameU_lt (l : List UInt8) : (nameU l).length < (unitsB (nameU l ++ [0])).length:=by
 have : ∀ us : List Nat,(unitsB us).length = 2 * us.length:=by
   intro us
   induction us with
   | nil => rfl
   | cons u t ih => rw [unitsB_cons,List.length_append,leBytes_length,ih,List.length_cons];omega
 rw [this,List.length_append]
 simp
 omega
theorem names_back {b post : List UInt8} : ∀ (G : List Fil) (i p : Nat) (F : List Fil),b.drop p = G.flatMap (fun f => nameB f.name) ++ post → (∀ x ∈ G,NameOk x.name) →
   namesGo G.length i (st b p) F = ((G.zipIdx i).foldl (fun F x => nameAt F x.2 x.1.name) F,st b (p + (G.flatMap (fun f => nameB f.name)).length)):=by
 intro G
 induction G with
 | nil => intro i p F h _;rfl
 | cons x t ih =>
   intro i p F h hG
   have hx:=hG x (by simp)
   have h1 : b.drop p = unitsB (nameU x.name ++ [0]) ++ (t.flatMap (fun f => nameB f.name) ++ post):=by
     rw [h,List.flatMap_cons,List.append_assoc]
     rfl
   have hd:=drop_split h1 (by have:=nameU_lt x.name;omega)
   have hlt:=nameU_lt x.name
   have hu : (st b p).units = (nameU x.name,st b (p + (unitsB (nameU x.name ++ [0])).length)):=by
     unfold Rs.units
     have:=units_back (nameU x.name) p (b.length + 1) [] h1 hx.2 (by omega)
     rw [List.nil_append] at this
     exact this
   have h2:=drop_next h1
   rw [List.length_cons,namesGo,st_ok,if_neg (by rw [st_k];simp),hu]
   dsimp only
   rw [st_ok,if_neg (by rw [st_k];simp),hx.1,if_neg (by simp),ih (i + 1) _ _ h2 (fun y hy => hG y (by simp [hy]))]
   rw [List.zipIdx_cons,List.foldl_cons,List.flatMap_cons,List.length_append]
   dsimp only [Option.getD_some]
   rw [show p + (unitsB (nameU x.name ++ [0])).length + (List.flatMap (fun f => nameB f.name) t).length = p + ((nameB x.name).length + (List.flatMap (fun f => nameB f.name) t).length) by rw [show nameB x.name = unitsB (nameU x.name ++ [0]) from rfl];omega]
def namesF (G F : List Fil) : List Fil:=(G.zipIdx 0).foldl (fun F x => nameAt F x.2 x.1.name) F
theorem part17 {n : Nat} {L : Lst} (G : List Fil) (hn : G.length = n) (hG : ∀ x ∈ G,NameOk x.name) : partL n 17 L (namesW G) = ({ L with files:=namesF G L.files },0):=by
 have h0 : (namesW G).drop 0 = 0 :: (G.flatMap (fun f => nameB f.name)):=rfl
 have hi:=st_inside h0
 have h1 : (namesW G).drop (0 + 1) = G.flatMap (fun f => nameB f.name) ++ []:=by rw [List.append_nil];rfl
 have hb:=names_back G 0 (0 + 1) L.files h1 hG
 rw [hn] at hb
 have hp : partBody n 17 L (newRs (namesW G)) = ({ L with files:=namesF G L.files },st (namesW G) (0 + 1 + (G.flatMap (fun f => nameB f.name)).length)):=by
   unfold partBody
   rw [if_neg (by decide),if_neg (by decide),if_pos rfl,newRs_st,hi,hb]
   rfl
 unfold partL
 rw [hp]
 dsimp only
 rw [st_end _ _ (by unfold namesW;simp;omega)]
 rfl
def numsF (id : Nat) (of : Fil → Nat × Bool) (G F : List Fil) (i : Nat) : List Fil:=(G.zipIdx i).foldl (fun F x => if (of x.1).2 then numAt id F x.2 (of x.1).1 else F) F
theorem nums_back {b post : List UInt8} {id k : Nat} {of : Fil → Nat × Bool} (hk : numSz id = (k : Int)) (hk2 : k = 4 ∨ k = 8) : ∀ (G : List Fil) (i p : Nat) (F : List Fil),b.drop p = valsV of k G ++ post → (∀ x ∈ G,(of x).1 < 256 ^ k) →
   numsGo id (hasV of G) i (st b p) F = (numsF id of G F i,st b (p + (valsV of k G).length)):=by
 intro G
 induction G with
 | nil => intro i p F _ _;rfl
 | cons x t ih =>
   intro i p F h hG
   have hv : valsV of k (x :: t) = (if (of x).2 then leBytes k (of x).1 else []) ++ valsV of k t:=rfl
   have hh : hasV of (x :: t) = (of x).2 :: hasV of t:=rfl
   have hf : numsF id of (x :: t) F i = numsF id of t (if (of x).2 then numAt id F i (of x).1 else F) (i + 1):=by
     unfold numsF
     rw [List.zipIdx_cons,List.foldl_cons]
   rw [hv] at h ⊢
   rw [hh,hf,numsGo]
   cases hc : (of x).2 with
   | false =>
     rw [hc] at h
     rw [if_pos rfl,ih (i + 1) p F (by simpa using h) (fun y hy => hG y (by simp [hy]))]
     simp
   | true =>
     rw [hc,if_pos rfl,List.append_assoc] at h
     have hn:=st_num h (by omega) (hG x (by simp))
     have h2:=drop_next h
     rw [leBytes_length] at h2
     rw [if_neg (by simp),hk,hn]
     dsimp only
     rw [st_ok,if_neg (by rw [st_k];simp),ih (i + 1) (p + k) _ h2 (fun y hy => hG y (by simp [hy])),if_pos rfl,if_pos rfl,List.length_append,leBytes_length,Nat.add_assoc]
theorem toldN_pos {row : List Bool} : 0 < (toldN row).length:=by
 unfold toldN
 split <;> simp
theorem partNum {n : Nat} {L : Lst} {id k : Nat} {of : Fil → Nat × Bool} (G : List Fil) (hid : id = 20 ∨ id = 21) (hk : numSz id = (k : Int)) (hk2 : k = 4 ∨ k = 8) (hn : G.length = n) (hG : ∀ x ∈ G,(of x).1 < 256 ^ k) :
   partL n id L ((toldN (hasV of G) ++ [0]) ++ valsV of k G) = ({ L with files:=numsF id of G L.files 0 },0):=by
 generalize hb : (toldN (hasV of G) ++ [0]) ++ valsV of k G = b
 have h0 : b.drop 0 = toldN (hasV of G) ++ (0 :: valsV of k G):=by rw [← hb];simp
 have hl : (hasV of G).length = n:=by unfold hasV;rw [List.length_map,hn]
 have ht:=st_toldR h0 toldN_pos
 rw [hl] at ht
 have h1:=drop_next h0
 have hi:=st_inside h1
 have h2 : b.drop (0 + (toldN (hasV of G)).length + 1) = valsV of k G ++ []:=by
   have:=drop_next (x:=[0]) (b:=b) (n:=0 + (toldN (hasV of G)).length) (post:=valsV of k G) (by simpa using h1)
   rw [List.append_nil]
   simpa using this
 have hb2:=nums_back (id:=id) hk hk2 G 0 _ L.files h2 hG
 have hp : partBody n id L (newRs b) = ({ L with files:=numsF id of G L.files 0 },st b (0 + (toldN (hasV of G)).length + 1 + (valsV of k G).length)):=by
   unfold partBody
   rw [if_neg (by omega),if_neg (by omega),if_neg (by omega),if_pos (by omega),newRs_st,ht]
   dsimp only
   rw [hi,hb2]
 unfold partL
 rw [hp]
 dsimp only
 rw [st_end _ _ (by rw [← hb];simp;omega)]
 rfl
theorem fold_modify (g : Fil → Fil → Fil) : ∀ (G : List Fil) (i : Nat) (pre rest : List Fil),pre.length = i → rest.length = G.length →
   (G.zipIdx i).foldl (fun F x => F.modify x.2 (g x.1)) (pre ++ rest) = pre ++ List.zipWith g G rest:=by
 intro G
 induction G with
 | nil =>
   intro i pre rest _ hr
   obtain rfl : rest = []:=List.eq_nil_of_length_eq_zero (by simpa using hr)
   rfl
 | cons x t ih =>
   intro i pre rest hp hr
   cases rest with
   | nil => simp at hr
   | cons y u =>
     rw [List.zipIdx_cons,List.foldl_cons]
     dsimp only
     have e : (pre ++ y :: u).modify i (g x) = (pre ++ [g x y]) ++ u:=by
       rw [← hp,modify_at (x:=y) (g x) (by simp)]
       simp
     rw [e,ih (i + 1) (pre ++ [g x y]) u (by simp [hp]) (by simpa using hr)]
     simp
theorem fold_map (g h : Fil → Fil → Fil) (k : Fil → Fil) (G : List Fil) (F : List Fil) (hF : F = G.map k) (step : List Fil → Fil × Nat → List Fil) (hs : ∀ F x,step F x = F.modify x.2 (g x.1)) (hh : ∀ x,g x (k x) = h x (k x)) :
   (G.zipIdx 0).foldl step F = G.map fun x => h x (k x):=by
 have e : step = fun F x => F.modify x.2 (g x.1):=by funext F x;exact hs F x
 rw [e,hF]
 have:=fold_modify g G 0 [] (G.map k) rfl (by simp)
 rw [List.nil_append,List.nil_append] at this
 rw [this]
 clear this hF hs e
 induction G with
 | nil => rfl
 | cons x t ih => rw [List.map_cons,List.zipWith_cons_cons,ih,List.map_cons,hh]
theorem modify_id (F : List Fil) (i : Nat) : F.modify i (fun x => x) = F:=by
 refine List.ext_getElem? fun j => ?_
 rw [List.getElem?_modify]
 cases F[j]? <;> simp
def f0 (x : Fil) : Fil:={ noFil with stream:=x.stream,dir:=!x.stream }
def f1 (x : Fil) : Fil:={ f0 x with dir:=if x.stream then false else x.dir }
def f2 (x : Fil) : Fil:={ f1 x with name:=x.name }
def f3 (x : Fil) : Fil:=if x.hasTime then { f2 x with hasTime:=true,time:=x.time } else f2 x
def f4 (x : Fil) : Fil:=if x.hasAttr then { f3 x with hasAttr:=true,attr:=x.attr } else f3 x
theorem f4_eq {x : Fil} (h : mayFil x = true) : f4 x = x:=by
 obtain ⟨nm,st,dir,ha,attr,ht,tm⟩:=x
 unfold mayFil at h
 simp only [Bool.and_eq_true,Bool.not_eq_true',Bool.or_eq_true,beq_iff_eq] at h
 obtain ⟨⟨⟨⟨-,-⟩,h1⟩,h2⟩,h3⟩:=h
 cases st <;> cases ha <;> cases ht <;> simp_all [f4,f3,f2,f1,f0,noFil]
theorem withEmpty_map (F : List Fil) : withEmpty (List.replicate F.length noFil) (emptyB F) = F.map f0:=by
 unfold withEmpty emptyB
 refine List.ext_getElem? fun i => ?_
 rw [List.getElem?_mapIdx,List.getElem?_map,List.getElem?_map,List.getElem?_replicate]
 cases h : F[i]? with
 | none =>
   have : ¬ i < F.length:=by
     intro hl
     rw [List.getElem?_eq_getElem hl] at h
     cases h
   rw [if_neg this]
   rfl
 | some x =>
   rw [if_pos (List.getElem?_eq_some_iff.1 h).1]
   simp [f0]
theorem rep_map {F : List Fil} (h : plainB F = []) : List.replicate F.length noFil = F.map f0:=by
 refine List.ext_getElem? fun i => ?_
 rw [List.getElem?_map,List.getElem?_replicate]
 cases hx : F[i]? with
 | none =>
   have : ¬ i < F.length:=by
     intro hl
     rw [List.getElem?_eq_getElem hl] at hx
     cases hx
   rw [if_neg this]
   rfl
 | some x =>
   rw [if_pos (List.getElem?_eq_some_iff.1 hx).1]
   have hm:=List.mem_of_getElem? hx
   have hs : x.stream = true:=by
     cases hs : x.stream with
     | true => rfl
     | false =>
       unfold plainB at h
       rw [List.map_eq_nil_iff,List.filter_eq_nil_iff] at h
       exact absurd (by simp [hs]) (h x hm)
   simp [f0,hs,noFil]
theorem posL_snoc (E : List Bool) (e : Bool) : posL (E ++ [e]) = posL E ++ (if e then [E.length] else []):=by
 unfold posL posN
 rw [List.length_append,List.length_singleton,List.range_succ,List.filter_append]
 congr 1
 · refine List.filter_congr fun i hi => ?_
   rw [List.mem_range] at hi
   rw [List.getD_eq_getElem?_getD,List.getD_eq_getElem?_getD,List.getElem?_append_left hi]
 · rw [List.filter_cons,List.getD_eq_getElem?_getD,List.getElem?_append_right (Nat.le_refl _)]
   cases e <;> simp
theorem plainB_snoc (G : List Fil) (g : Fil) : plainB (G ++ [g]) = plainB G ++ (if g.stream then [] else [!g.dir]):=by
 unfold plainB
 rw [List.filter_append,List.map_append]
 cases hs : g.stream <;> simp [hs]
theorem snoc_ind {P : List Fil → Prop} (h0 : P []) (h1 : ∀ G g,P G → P (G ++ [g])) (G : List Fil) : P G:=by
 have key : ∀ R : List Fil,P R.reverse:=by
   intro R
   induction R with
   | nil => exact h0
   | cons x t ih => rw [List.reverse_cons];exact h1 _ _ ih
 have:=key G.reverse
 rwa [List.reverse_reverse] at this
theorem posL_plain (G : List Fil) : (plainB G).length = (posL (emptyB G)).length:=by
 refine snoc_ind (P:=fun G => (plainB G).length = (posL (emptyB G)).length) rfl (fun G g ih => ?_) G
 rw [plainB_snoc,show emptyB (G ++ [g]) = emptyB G ++ [!g.stream] by simp [emptyB],posL_snoc,List.length_append,List.length_append,ih]
 cases g.stream <;> simp
theorem dirs_fold (G F : List Fil) : dirsF (emptyB G) (plainB G) F = (G.zipIdx 0).foldl (fun F x => if x.1.stream then F else F.modify x.2 fun y => { y with dir:=x.1.dir }) F:=by
 refine snoc_ind (P:=fun G => ∀ F,dirsF (emptyB G) (plainB G) F = (G.zipIdx 0).foldl (fun F x => if x.1.stream then F else F.modify x.2 fun y => { y with dir:=x.1.dir }) F) (fun F => rfl) (fun G g ih F => ?_) G F
 unfold dirsF at ih ⊢
 have hl:=posL_plain G
 rw [plainB_snoc,show emptyB (G ++ [g]) = emptyB G ++ [!g.stream] by simp [emptyB],posL_snoc,List.zip_append hl.symm,List.foldl_append,ih,List.zipIdx_append,List.foldl_append]
 have he : (emptyB G).length = G.length:=by simp [emptyB]
 cases hs : g.stream with
 | true => simp [hs]
 | false => simp [hs,he,dirAt]
theorem say_said (L : Lst) (id j : Nat) : (L.say id).said (j : Int) = (decide (j = id) || L.said (j : Int)):=by
 unfold Lst.say addI
 dsimp only
 congr 1
 by_cases h : j = id
 · simp [h]
 · rw [decide_eq_false h,decide_eq_false];omega
structure Ah (F : List Fil) (L : Lst) (id : Nat) (k : Fil → Fil) : Prop where
 files : L.files = F.map k
 said : ∀ j : Nat,id ≤ j → L.said (j : Int) = false
def Goes (n : Nat) (L : Lst) (s : Rs) (u : Nat) (L' : Lst) (s' : Rs) : Prop:=∀ m,filesGo n (m + u) L s = filesGo n m L' s'
theorem Goes.trans {n u v : Nat} {L L' L'' : Lst} {s s' s'' : Rs} (h : Goes n L s u L' s') (k : Goes n L' s' v L'' s'') : Goes n L s (v + u) L'' s'':=fun m => by rw [← Nat.add_assoc,h,k]
theorem Goes.one {n : Nat} {L L' : Lst} {b post x : List UInt8} {p : Nat} {id : UInt8} (h : b.drop p = partW id x ++ post) (hb : b.length < 18446744073709551616) (h0 : id.toNat ≠ 0) (hm : mayL L.said id.toNat = true) (hp : partL n id.toNat (L.say id.toNat) x = (L',0)) :
   Goes n L (st b p) 1 L' (st b (p + (partW id x).length)):=fun _ => part_step h hb h0 hm hp
theorem f1_dir {F : List Fil} (h : true ∉ plainB F) : ∀ x ∈ F,f1 x = f0 x:=fun x hx => by
 cases hs : x.stream with
 | true => simp [f1,f0,hs]
 | false =>
   have : x.dir = true:=by
     cases hd : x.dir with
     | true => rfl
     | false =>
       refine (h ?_).elim
       unfold plainB
       rw [List.mem_map]
       exact ⟨x,by rw [List.mem_filter];exact ⟨hx,by simp [hs]⟩,by simp [hd]⟩
   simp [f1,f0,hs,this]
theorem none_has {of : Fil → Nat × Bool} {F : List Fil} (h : true ∉ hasV of F) : ∀ x ∈ F,(of x).2 = false:=fun x hx => by
 cases hc : (of x).2 with
 | false => rfl
 | true => exact (h (by unfold hasV;rw [List.mem_map];exact ⟨x,hx,hc⟩)).elim
theorem rows_back {b post : List UInt8} {p : Nat} {F : List Fil} (h : b.drop p = rowsW F ++ post) (hb : b.length < 18446744073709551616) :
   ∃ u L,u ≤ 2 ∧ Goes F.length ⟨fun _ => false,[],List.replicate F.length noFil⟩ (st b p) u L (st b (p + (rowsW F).length)) ∧ Ah F L 17 f1:=by
 by_cases hp : plainB F = []
 · have hn : true ∉ plainB F:=by rw [hp];simp
   have hr : rowsW F = []:=by unfold rowsW;rw [if_pos hp,if_neg hn];rfl
   refine ⟨0,⟨fun _ => false,[],List.replicate F.length noFil⟩,by omega,?_,?_,fun _ _ => rfl⟩
   · rw [hr];exact fun _ => rfl
   · rw [rep_map hp]
     exact List.map_congr_left fun x hx => (f1_dir hn x hx).symm
 have hr : rowsW F = partW 14 (packBits (emptyB F)) ++ (if true ∈ plainB F then partW 15 (packBits (plainB F)) else []):=by unfold rowsW;rw [if_neg hp]
 rw [hr,List.append_assoc] at h
 obtain ⟨L0,hL0⟩ : ∃ L0 : Lst,L0 = ⟨fun _ => false,[],List.replicate F.length noFil⟩:=⟨_,rfl⟩
 have hA0 : ∀ j : Nat,14 ≤ j → L0.said (j : Int) = false:=fun j _ => by rw [hL0]
 have g1:=Goes.one (n:=F.length) (L:=L0) h hb (by decide) (by rw [hL0];rfl) (part14 (emptyB F) (by simp [emptyB]))
 have hw : withEmpty (L0.say 14).files (emptyB F) = F.map f0:=by rw [hL0];exact withEmpty_map F
 rw [show ((14 : UInt8).toNat) = 14 from rfl,hw] at g1
 have s1 : ∀ j : Nat,15 ≤ j → (L0.say 14).said (j : Int) = false:=fun j hj => by rw [say_said,decide_eq_false (by omega),hA0 j (by omega)];rfl
 have s14 : (L0.say 14).said ((14 : Nat) : Int) = true:=by rw [say_said];simp
 have h2:=drop_next h
 rw [← hL0,hr,List.length_append,← Nat.add_assoc]
 by_cases ht : true ∈ plainB F
 · rw [if_pos ht] at h2 ⊢
   have hm : mayL (L0.say 14).said ((15 : UInt8).toNat) = true:=by
     have e1 : (L0.say 14).said ((15 : Nat) : Int) = false:=s1 15 (Nat.le_refl _)
     have e2 : (L0.say 14).said (14 : Int) = true:=s14
     unfold mayL
     rw [show ((15 : UInt8).toNat) = 15 from rfl,if_neg (by decide),if_pos (.inl rfl),e1,e2]
     rfl
   have hd : dirsF (emptyB F) (plainB F) (F.map f0) = F.map f1:=by
     rw [dirs_fold]
     have:=fold_map (fun x y => if x.stream then y else { y with dir:=x.dir }) (fun x y => { y with dir:=if x.stream then false else x.dir }) f0 F (F.map f0) rfl (fun F x => if x.1.stream then F else F.modify x.2 fun y => { y with dir:=x.1.dir }) (fun F x => by
       cases hs : x.1.stream with
       | true => simp [modify_id]
       | false => simp) (fun x => by cases hs : x.stream <;> simp [f0,hs,noFil])
     exact this
   have g2:=Goes.one (n:=F.length) (L:=⟨(L0.say 14).said,emptyB F,F.map f0⟩) h2 hb (by decide) hm (part15 (plainB F) (posL_plain F))
   rw [show ((15 : UInt8).toNat) = 15 from rfl] at g2
   refine ⟨_,_,?_,g1.trans g2,?_,fun j hj => ?_⟩
   · decide
   · exact hd
   · show ((⟨(L0.say 14).said,emptyB F,F.map f0⟩ : Lst).say 15).said (j : Int) = false
     rw [say_said,decide_eq_false (by omega)]
     exact s1 j (by omega)
 · rw [if_neg ht,List.length_nil,Nat.add_zero]
   exact ⟨1,_,by omega,g1,List.map_congr_left fun x hx => (f1_dir ht x hx).symm,fun j hj => s1 j (by omega)⟩
theorem num_part {b post : List UInt8} {p k : Nat} {F : List Fil} {L : Lst} {id : UInt8} {of : Fil → Nat × Bool} {kf kg : Fil → Fil} (hid : id = 20 ∨ id = 21) (hk : numSz id.toNat = (k : Int)) (hk2 : k = 4 ∨ k = 8) (A : Ah F L id.toNat kf) (h17 : L.said 17 = true)
   (h : b.drop p = numsW id k of F ++ post) (hb : b.length < 18446744073709551616) (hv : ∀ x ∈ F,(of x).1 < 256 ^ k)
   (hf : numsF id.toNat of F (F.map kf) 0 = F.map kg) (hno : ∀ x ∈ F,(of x).2 = false → kg x = kf x) :
   ∃ u L',u ≤ 1 ∧ Goes F.length L (st b p) u L' (st b (p + (numsW id k of F).length)) ∧ Ah F L' (id.toNat + 1) kg ∧ L'.said 17 = true:=by
 by_cases ht : true ∈ hasV of F
 · have hr : numsW id k of F = partW id ((toldN (hasV of F) ++ [0]) ++ valsV of k F):=if_pos ht
   rw [hr] at h ⊢
   have hidn : id.toNat = 20 ∨ id.toNat = 21:=by rcases hid with rfl | rfl;exact .inl rfl;exact .inr rfl
   have hs:=A.said id.toNat (Nat.le_refl _)
   have hm : mayL L.said id.toNat = true:=by
     rcases hidn with e | e
     · rw [e] at hs ⊢
       have hs2 : L.said (20 : Int) = false:=hs
       simp [mayL,hs2]
     · rw [e] at hs ⊢
       have hs2 : L.said (21 : Int) = false:=hs
       simp [mayL,hs2]
   have hp:=partNum (n:=F.length) (L:=L.say id.toNat) F hidn hk hk2 rfl hv
   have g:=Goes.one (n:=F.length) h hb (by omega) hm hp
   have hfs : numsF id.toNat of F (L.say id.toNat).files 0 = F.map kg:=by
     show numsF id.toNat of F L.files 0 = _
     rw [A.files]
     exact hf
   rw [hfs] at g
   refine ⟨1,_,Nat.le_refl _,g,⟨rfl,fun j hj => ?_⟩,?_⟩
   · show (L.say id.toNat).said (j : Int) = false
     rw [say_said,decide_eq_false (by omega),A.said j (by omega)]
     rfl
   · show (L.say id.toNat).said ((17 : Nat) : Int) = true
     rw [say_said]
     rw [show L.said ((17 : Nat) : Int) = true from h17]
     simp
 · have hr : numsW id k of F = []:=if_neg ht
   rw [hr]
   exact ⟨0,L,by omega,fun _ => rfl,⟨by rw [A.files];exact List.map_congr_left fun x hx => (hno x hx (none_has ht x hx)).symm,fun j hj => A.said j (by omega)⟩,h17⟩
theorem files_back {b post : List UInt8} {p : Nat} {F : List Fil} (h : b.drop p = rowsW F ++ (partW 17 (namesW F) ++ (numsW 20 8 timeOf F ++ (numsW 21 4 attrOf F ++ (0 :: post))))) (hb : b.length < 18446744073709551616) (hb5 : 5 ≤ b.length) (hm : ∀ x ∈ F,mayFil x = true) (hn : ∀ x ∈ F,NameOk x.name) :
   ∃ L,filesGo F.length (b.length + 1) ⟨fun _ => false,[],List.replicate F.length noFil⟩ (st b p) = (L,st b (p + ((rowsW F).length + (partW 17 (namesW F)).length + (numsW 20 8 timeOf F).length + (numsW 21 4 attrOf F).length + 1))) ∧ L.files = F ∧ L.said 17 = true:=by
 obtain ⟨u1,L1,hu1,g1,A1⟩:=rows_back h hb
 have h2:=drop_next h
 have hm17 : mayL L1.said ((17 : UInt8).toNat) = true:=by
   have hs2 : L1.said (17 : Int) = false:=A1.said 17 (Nat.le_refl _)
   rw [show ((17 : UInt8).toNat) = 17 from rfl]
   simp [mayL,hs2]
 have g2:=Goes.one (n:=F.length) h2 hb (by decide) hm17 (part17 F rfl hn)
 have hnm : namesF F (L1.say 17).files = F.map f2:=by
   show namesF F L1.files = _
   rw [A1.files]
   unfold namesF
   exact fold_map (fun x y => { y with name:=x.name }) (fun x y => { y with name:=x.name }) f1 F (F.map f1) rfl (fun F x => nameAt F x.2 x.1.name) (fun F x => rfl) (fun x => rfl)
 rw [show ((17 : UInt8).toNat) = 17 from rfl,hnm] at g2
 obtain ⟨L2,hL2⟩ : ∃ L2 : Lst,L2 = ⟨(L1.say 17).said,(L1.say 17).empty,F.map f2⟩:=⟨_,rfl⟩
 have g2' : Goes F.length L1 (st b (p + (rowsW F).length)) 1 L2 (st b (p + (rowsW F).length + (partW 17 (namesW F)).length)):=hL2 ▸ g2
 have A2 : Ah F L2 20 f2:=⟨by rw [hL2],fun j hj => by
   rw [hL2]
   show (L1.say 17).said (j : Int) = false
   rw [say_said,decide_eq_false (by omega),A1.said j (by omega)]
   rfl⟩
 have S2 : L2.said 17 = true:=by
   rw [hL2]
   show (L1.say 17).said ((17 : Nat) : Int) = true
   rw [say_said]
   simp
 have h3:=drop_next h2
 obtain ⟨u3,L3,hu3,g3,A3,S3⟩:=num_part (kg:=f3) (.inl rfl) rfl (.inr rfl) A2 S2 h3 hb (fun x _ => by
   have:=x.time.toNat_lt
   unfold timeOf
   dsimp only
   omega) (by
   unfold numsF
   exact fold_map (fun x y => if x.hasTime then { y with hasTime:=true,time:=x.time } else y) (fun x y => if x.hasTime then { y with hasTime:=true,time:=x.time } else y) f2 F (F.map f2) rfl (fun F x => if (timeOf x.1).2 then numAt 20 F x.2 (timeOf x.1).1 else F) (fun F x => by
     unfold timeOf
     cases hs : x.1.hasTime with
     | true => simp [numAt]
     | false => simp [modify_id]) (fun x => rfl)) (fun x _ hx => by
   unfold timeOf at hx
   dsimp only at hx
   simp [f3,hx])
 have h4:=drop_next h3
 obtain ⟨u4,L4,hu4,g4,A4,S4⟩:=num_part (kg:=f4) (.inr rfl) rfl (.inl rfl) A3 S3 h4 hb (fun x _ => by
   have:=x.attr.toNat_lt
   unfold attrOf
   dsimp only
   omega) (by
   unfold numsF
   exact fold_map (fun x y => if x.hasAttr then { y with hasAttr:=true,attr:=x.attr } else y) (fun x y => if x.hasAttr then { y with hasAttr:=true,attr:=x.attr } else y) f3 F (F.map f3) rfl (fun F x => if (attrOf x.1).2 then numAt 21 F x.2 (attrOf x.1).1 else F) (fun F x => by
     unfold attrOf
     cases hs : x.1.hasAttr with
     | true => simp [numAt]
     | false => simp [modify_id]) (fun x => rfl)) (fun x _ hx => by
   unfold attrOf at hx
   dsimp only at hx
   simp [f4,hx])
 have h5:=drop_next h4
 obtain ⟨m,hmm⟩ : ∃ m,b.length + 1 = (m + 1) + (u4 + (u3 + (1 + u1))):=⟨b.length - (u4 + (u3 + (1 + u1))),by omega⟩
 refine ⟨L4,?_,?_,S4⟩
 · rw [hmm,((g1.trans g2').trans g3).trans g4 (m + 1),files_end h5]
   congr 2
   omega
 · rw [A4.files]
   exact (List.map_congr_left fun x hx => f4_eq (hm x hx)).trans (List.map_id' F)
theorem name_ok {l : List UInt8} (h1 : (runesL l).isSome = true) (h2 : (0 : UInt8) ∉ l) : NameOk l:=by
 obtain ⟨rs,hr⟩:=Option.isSome_iff_exists.1 h1
 have hu : nameU l = unitsR rs:=by unfold nameU;rw [hr];rfl
 have hs:=(wrunes_scal _ l rs (Nat.le_refl _) hr).1
 refine ⟨by rw [hu];exact text_of_runes _ l rs (Nat.le_refl _) hr,fun u hm => ⟨fun e => ?_,unitsR_lt hs u (hu ▸ hm)⟩⟩
 rw [hu] at hm
 exact h2 ((zero_text _ l rs (Nat.le_refl _) hr).2 (e ▸ hm))
theorem may_name {x : Fil} (h : mayFil x = true) : NameOk x.name:=by
 unfold mayFil at h
 simp only [Bool.and_eq_true,Bool.not_eq_true',decide_eq_false_iff_not] at h
 exact name_ok h.1.1.1.1 h.1.1.1.2
end Go.Proofs.YtkodindajfdagaaGreatDoor
/- A header of files alone, written and read: the plain law. No condition. -/
namespace Go.Proofs.YtkodindajfdagaaGreatDoor
open Go.RowKit Go.Maps
theorem at_no (s : Rs) : s.at false = (false,s):=rfl
theorem at_back (b : List UInt8) (n : Nat) : (st b n).at true = (true,st b n):=rfl
theorem st_end_ {b : List UInt8} {n : Nat} : (st b n).end_ 0 = st b n:=by
 unfold Rs.end_
 rw [st_ok,if_neg (by simp)]
theorem rfiles_back {b post : List UInt8} {p : Nat} {F : List Fil} (h : b.drop p = shortN F.length ++ (rowsW F ++ (partW 17 (namesW F) ++ (numsW 20 8 timeOf F ++ (numsW 21 4 attrOf F ++ (0 :: post)))))) (hb : b.length < 18446744073709551616) (hb5 : 5 ≤ b.length) (hl : F.length ≤ (rowsW F ++ (partW 17 (namesW F) ++ (numsW 20 8 timeOf F ++ (numsW 21 4 attrOf F ++ (0 :: post))))).length) (hm : ∀ x ∈ F,mayFil x = true) :
   (st b p).files = (F,st b (p + (shortN F.length).length + ((rowsW F).length + (partW 17 (namesW F)).length + (numsW 20 8 timeOf F).length + (numsW 21 4 attrOf F).length + 1))):=by
 have ht:=st_things h hl hb
 have h1:=drop_next h
 obtain ⟨L,hg,hf,h17⟩:=files_back h1 hb hb5 hm (fun x hx => may_name (hm x hx))
 unfold Rs.files
 rw [ht]
 dsimp only
 unfold Rs.filesN
 rw [show (st b (p + (shortN F.length).length)).c.b.length + 1 = b.length + 1 from rfl,hg]
 unfold Rs.filesEnd
 dsimp only
 rw [hf,st_ok,if_neg (by rw [h17];simp)]
theorem allC_back {b post : List UInt8} {p : Nat} {F : List Fil} {D : Strm} (h : b.drop p = filesW F ++ (0 :: post)) (hb : b.length < 18446744073709551616) (hb5 : 5 ≤ b.length) (hm : ∀ x ∈ F,mayFil x = true) :
   Rs.allC D (st b p).byte.1 (st b p).byte.2 = ((D,F),st b (p + (filesW F).length + 1)):=by
 by_cases h0 : F = []
 · subst h0
   have h1 : b.drop p = 0 :: post:=by rw [h];rfl
   rw [st_byte h1]
   unfold Rs.allC
   dsimp only
   rw [show ((0 : UInt8).toNat == 5) = false from rfl,at_no]
   dsimp only
   rw [if_neg (by simp)]
   show ((D,[]),(st b (p + 1)).end_ 0) = _
   rw [st_end_]
   rfl
 have hw : filesW F = 5 :: (shortN F.length ++ (rowsW F ++ (partW 17 (namesW F) ++ (numsW 20 8 timeOf F ++ (numsW 21 4 attrOf F ++ [0]))))):=if_neg h0
 have h1 : b.drop p = 5 :: (shortN F.length ++ (rowsW F ++ (partW 17 (namesW F) ++ (numsW 20 8 timeOf F ++ (numsW 21 4 attrOf F ++ (0 :: (0 :: post))))))):=by
   rw [h,hw]
   simp only [List.append_assoc,List.cons_append,List.nil_append]
 have hby:=st_byte h1
 have h2 : b.drop (p + 1) = shortN F.length ++ (rowsW F ++ (partW 17 (namesW F) ++ (numsW 20 8 timeOf F ++ (numsW 21 4 attrOf F ++ (0 :: (0 :: post)))))):=by
   have:=drop_next (x:=[5]) (b:=b) (n:=p) (post:=shortN F.length ++ (rowsW F ++ (partW 17 (namesW F) ++ (numsW 20 8 timeOf F ++ (numsW 21 4 attrOf F ++ (0 :: (0 :: post))))))) (by simpa using h1)
   simpa using this
 have hnames : F.length ≤ (namesW F).length:=by
   unfold namesW
   rw [List.length_cons]
   have : ∀ G : List Fil,G.length ≤ (G.flatMap fun f => nameB f.name).length:=by
     intro G
     induction G with
     | nil => exact Nat.le_refl _
     | cons x t ih =>
       rw [List.flatMap_cons,List.length_append,List.length_cons]
       have:=nameU_lt x.name
       have e : (nameB x.name).length = (unitsB (nameU x.name ++ [0])).length:=rfl
       omega
   have:=this F
   omega
 have hp17 : (namesW F).length ≤ (partW 17 (namesW F)).length:=by unfold partW;simp;omega
 have hf:=rfiles_back h2 hb hb5 (by simp only [List.length_append];omega) hm
 have hlen : p + 1 + (shortN F.length).length + ((rowsW F).length + (partW 17 (namesW F)).length + (numsW 20 8 timeOf F).length + (numsW 21 4 attrOf F).length + 1) = p + (filesW F).length:=by
   rw [hw]
   simp only [List.length_cons,List.length_append,List.length_nil]
   omega
 rw [hlen] at hf
 have h3 : b.drop (p + (filesW F).length) = 0 :: post:=drop_next h
 rw [hby]
 unfold Rs.allC
 dsimp only
 rw [if_pos (by rfl)]
 show ((D,(st b (p + 1)).files.1),(st b (p + 1)).files.2.byte.2.end_ (st b (p + 1)).files.2.byte.1) = _
 rw [hf]
 dsimp only
 rw [st_byte h3]
 show ((D,F),(st b (p + (filesW F).length + 1)).end_ 0) = _
 rw [st_end_]
theorem filesW_head (F : List Fil) : ∃ x t,filesW F ++ [0] = x :: t ∧ (x = 5 ∨ x = 0):=by
 unfold filesW
 split
 · exact ⟨0,[],rfl,.inr rfl⟩
 · exact ⟨5,_,rfl,.inl rfl⟩
theorem parse_files {F : List Fil} (hb : (1 :: (filesW F ++ [0])).length < 18446744073709551616) (hm : ∀ x ∈ F,mayFil x = true) (hs : streamN F = 0) : parseL (1 :: (filesW F ++ [0])) = ((false,noStrm,F),0):=by
 obtain ⟨b,hbe⟩ : ∃ b,b = 1 :: (filesW F ++ [0]):=⟨_,rfl⟩
 rw [← hbe] at hb ⊢
 have h0 : b.drop 0 = 1 :: (filesW F ++ [0]):=hbe
 have h1 : b.drop 1 = filesW F ++ (0 :: []):=by rw [hbe];rfl
 have hby:=st_byte h0
 obtain ⟨x,t,hx,hx5⟩:=filesW_head F
 have h1' : b.drop 1 = x :: t:=by rw [h1];exact hx
 by_cases hb5 : 5 ≤ b.length
 · have hc:=allC_back (D:=noStrm) h1 hb hb5 hm
   have hall : (st b 1).all = ((noStrm,F),st b (1 + (filesW F).length + 1)):=by
     unfold Rs.all
     have hx2 : ((st b 1).byte.1 == 2) = false:=by rw [st_byte h1'];rcases hx5 with rfl | rfl <;> rfl
     have hx3 : ((st b 1).byte.1 == 3) = false:=by rw [st_byte h1'];rcases hx5 with rfl | rfl <;> rfl
     have hx4 : ((st b 1).byte.1 == 4) = false:=by rw [st_byte h1'];rcases hx5 with rfl | rfl <;> rfl
     rw [hx2,at_no]
     dsimp only
     rw [if_neg (by simp)]
     unfold Rs.allA
     rw [hx3,at_no]
     dsimp only
     rw [if_neg (by simp)]
     unfold Rs.allB
     rw [hx4,at_no]
     dsimp only
     rw [if_neg (by simp)]
     exact hc
   have hbl : b.length = 1 + (filesW F).length + 1:=by rw [hbe];simp;omega
   have hbody : parseBody (newRs b) = ((false,noStrm,F),st b (1 + (filesW F).length + 1)):=by
     unfold parseBody
     rw [newRs_st,hby]
     dsimp only
     rw [if_pos (show (1 : UInt8).toNat = 1 from rfl),show (0 : Nat) + 1 = 1 from rfl,hall]
   have hcnt : (st b (1 + (filesW F).length + 1)).count [] F = st b (1 + (filesW F).length + 1):=by
     unfold Rs.count
     rw [if_pos]
     have e : strN F = streamN F:=by unfold strN streamN;rw [List.countP_eq_length_filter]
     rw [e,hs]
     rfl
   have htail : parseTail (parseBody (newRs b)) = st b (1 + (filesW F).length + 1):=by
     unfold parseTail
     rw [hbody]
     dsimp only
     rw [st_end _ _ (by omega),st_ok,if_pos ⟨rfl,rfl⟩]
     exact hcnt
   unfold parseL
   rw [if_neg (by rw [hbe];simp),htail,if_pos (st_k _ _),hbody]
 · have hF : F = []:=by
     cases F with
     | nil => rfl
     | cons y u =>
       exfalso
       apply hb5
       rw [hbe,show filesW (y :: u) = 5 :: (shortN (y :: u).length ++ (rowsW (y :: u) ++ (partW 17 (namesW (y :: u)) ++ (numsW 20 8 timeOf (y :: u) ++ (numsW 21 4 attrOf (y :: u) ++ [0]))))) from if_neg (by simp)]
       unfold shortN partW
       simp only [List.length_cons,List.length_append,List.length_nil]
       omega
   subst hF
   rw [hbe]
   rfl
end Go.Proofs.YtkodindajfdagaaGreatDoor
