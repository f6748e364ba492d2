/- Contracts: Bits. No condition but that lengths fit. -/
import Derived.Test.YtkodindajfdagaaGreatDoorSrcCM
import Derived.Test.YtkodindajfdagaaGreatDoorJA
namespace Go.Proofs.YtkodindajfdagaaGreatDoor
open Go.RowKit
theorem info_bool : (Tryz.prog.info? 4).map (fun i => (i.zero,i.size,i.bytes)) = some (some (.bool false),1,1):=by kernel_rfl
theorem sty_bool : SlTy Tryz.prog 144 4 (.bool false) 1:=⟨Tryz.underlying144,by obtain ⟨i,h⟩:=info_parts info_bool;exact ⟨i,h⟩,rfl⟩
theorem CurAt.setAt {w : World} {p : Nat} {q : Option Nat} {c : Cur} (h : CurAt w p q c) (n : Nat) (hz : c.code = 0) (hn : n ≤ c.b.length) :
   CurAt (w.setCell ⟨p,1,none⟩ (.int .i64 n)) p q { c with at_:=n } ∧ Fr [p] w (w.setCell ⟨p,1,none⟩ (.int .i64 n)):=by
 have F : Fr [p] w (w.setCell ⟨p,1,none⟩ (.int .i64 n)):=(Fr.refl _ _).setCell (by simp) _
 obtain ⟨ao,m,cap,h1,h2,h3⟩:=h.ok
 refine ⟨CurAt.of_fr (c:={ c with at_:=n }) (n:=m) F (Go.Joins.block_setCell h1 _) ?_ h3 h.ne hn,F⟩
 have : ({ c with at_:=n } : Cur).live = c.live:=by unfold Cur.live;simp [hz]
 rw [this];exact h2
def TakeBits (p : Nat) (q : Option Nat) (r : List Bool × Cur) (w : World) (e : Ending) (w' : World) : Prop :=
 ∃ v,e = .returned v ∧ w'.ownsRow w.heap.size 4 1 v r.1.length (tv r.1) ∧ CurAt w' p q r.2 ∧ Fr [p] w w'
set_option maxHeartbeats 1000000 in
theorem bits_fail (w : World) (p : Nat) (q : Option Nat) (c : Cur) (n : Int) (hn : -9223372036854775808 ≤ n ∧ n ≤ 9223372036854775807) (h : CurAt w p q c) (hf : c.code ≠ 0 ∨ n < 0 ∨ c.left < (n.toNat + 7) / 8) :
   Calls Tryz.prog 127 #[.pointer (some ⟨p,0,none⟩),.int .i64 n] w (TakeBits p q ([],c.fail 3) w):=by
 have hcap : c.at_ + c.left ≤ 9223372036854775807:=by
   obtain ⟨_,cap,_,_,_,_,_,_,_,h1,h2⟩:=h.out
   omega
 by_cases h0 : n < 0
 · go_enter Tryz.func127,Tryz.ntmps127
   go_wp2_with fail
   refine (fail_any _ p q c 3 _ rfl (by decide) h).mono ?_
   rintro e w2 ⟨rfl,hc2,hf2⟩
   go_wp2_with fail
   go_ret
   exact ⟨_,rfl,World.ownsRow_nil _ _ _ _,hc2,hf2⟩
 · obtain ⟨n,rfl⟩:=Int.eq_ofNat_of_zero_le (show 0 ≤ n by omega)
   rw [Int.toNat_natCast] at hf
   by_cases h1 : c.left < n / 8
   · have h1' : (c.left : Int) < (n : Int) / 8:=by omega
     clear hf
     go_enter Tryz.func127,Tryz.ntmps127
     go_wp2_with fail
     refine (left_any w p q c h).mono ?_
     rintro e w1 ⟨rfl,s1⟩
     have hc1:=h.same s1
     go_wp2_with fail
     refine (fail_any _ p q c 3 _ rfl (by decide) hc1).mono ?_
     rintro e w2 ⟨rfl,hc2,hf2⟩
     clear h hc1
     go_wp2_with fail
     go_ret
     exact ⟨_,rfl,World.ownsRow_nil _ _ _ _,hc2,s1.fr.trans hf2 (by simp)⟩
   · have h1' : (n : Int) / 8 ≤ (c.left : Int):=by omega
     by_cases h2 : c.left < (n + 7) / 8
     · have h2' : (c.left : Int) < ((n : Int) - (n : Int) / 8 * 8 + 7) / 8 + (n : Int) / 8:=by omega
       clear hf
       go_enter Tryz.func127,Tryz.ntmps127
       go_wp2_with fail
       refine (left_any w p q c h).mono ?_
       rintro e w1 ⟨rfl,s1⟩
       have hc1:=h.same s1
       go_wp2_with fail
       refine (left_any w1 p q c hc1).mono ?_
       rintro e w2 ⟨rfl,s2⟩
       have hc2:=hc1.same s2
       go_wp2_with fail
       refine (fail_any _ p q c 3 _ rfl (by decide) hc2).mono ?_
       rintro e w3 ⟨rfl,hc3,hf3⟩
       clear h hc1 hc2
       go_wp2_with fail
       go_ret
       exact ⟨_,rfl,World.ownsRow_nil _ _ _ _,hc3,(s1.trans s2).fr.trans hf3 (by simp)⟩
     · have h2' : ((n : Int) - (n : Int) / 8 * 8 + 7) / 8 + (n : Int) / 8 ≤ (c.left : Int):=by omega
       have hz : ((c.code : Int) != 0) = true:=by rw [bne_iff_ne];omega
       clear hf
       go_enter Tryz.func127,Tryz.ntmps127
       go_wp2_with fail
       refine (left_any w p q c h).mono ?_
       rintro e w1 ⟨rfl,s1⟩
       have hc1:=h.same s1
       go_wp2_with fail
       refine (left_any w1 p q c hc1).mono ?_
       rintro e w2 ⟨rfl,s2⟩
       have hc2:=hc1.same s2
       obtain ⟨ao,cap,hh,d0,d1,d2,hfz,hs,hq,hl,hm⟩:=hc2.out
       clear hh hs hq hl hm
       go_wp2_with fail
       refine (fail_any _ p q c 3 _ rfl (by decide) hc2).mono ?_
       rintro e w3 ⟨rfl,hc3,hf3⟩
       clear h hc1 hc2 d0 d1 d2 hfz
       go_wp2_with fail
       go_ret
       exact ⟨_,rfl,World.ownsRow_nil _ _ _ _,hc3,(s1.trans s2).fr.trans hf3 (by simp)⟩
end Go.Proofs.YtkodindajfdagaaGreatDoor
/- Contract: Bits. No condition but that lengths fit. -/
namespace Go.Proofs.YtkodindajfdagaaGreatDoor
open Go.RowKit
theorem cut_block (ao : Option Addr) (cap l a b a' b' : Nat) : (Value.slice (if cap = l then ao else Option.map (fun x => x.add l) ao) a b).ownBlock = (Value.slice ao a' b').ownBlock:=by
 by_cases h : cap = l
 · rw [if_pos h];cases ao <;> rfl
 · rw [if_neg h]
   cases ao with
   | none => rfl
   | some x => simp only [Option.map_some,Value.ownBlock,Addr.add];split <;> rfl
set_option maxHeartbeats 1000000 in
theorem bits_ok (w : World) (p : Nat) (q : Option Nat) (c : Cur) (n : Nat) (h : CurAt w p q c) (hz : c.code = 0) (hl : (n + 7) / 8 ≤ c.left) (hb : c.b.length ≤ 140737488355328 / 16) :
   Calls Tryz.prog 127 #[.pointer (some ⟨p,0,none⟩),.int .i64 n] w (TakeBits p q (c.bits n) w):=by
 have hle:=h.le
 have hlv : c.live = c.b:=by simp [Cur.live,hz]
 have hll : c.at_ + c.left = c.b.length:=by rw [← c.live_left hle,hlv]
 have hnb : n ≤ 70368744177664:=by omega
 have h1' : (n : Int) / 8 ≤ (c.left : Int):=by omega
 have h2' : ((n : Int) - (n : Int) / 8 * 8 + 7) / 8 + (n : Int) / 8 ≤ (c.left : Int):=by omega
 have hz' : ((c.code : Int) != 0) = false:=by simp [hz]
 have HZ:=Lib.hid hz
 have HLV:=Lib.hid hlv
 have HLL:=Lib.hid hll
 obtain ⟨N,hN⟩ : ∃ N,N = (n + 7) / 8:=⟨_,rfl⟩
 have hNl : N ≤ c.left:=by omega
 have HN:=Lib.hid hN
 have hab : c.at_ + N ≤ 8796093022208:=by omega
 have eN : (n : Int) / 8 + ((n : Int) % 8 + 7) / 8 = (N : Int):=by omega
 clear hz hlv hll hN
 go_enter Tryz.func127,Tryz.ntmps127
 go_wp2_with fail
 refine (left_any w p q c h).mono ?_
 rintro e w1 ⟨rfl,s1⟩
 have hc1:=h.same s1
 go_wp2_with fail
 refine (left_any w1 p q c hc1).mono ?_
 rintro e w2 ⟨rfl,s2⟩
 have hc2:=hc1.same s2
 obtain ⟨ao,cap,hh,d0,d1,d2,hfz,hs,hq,hl2,hm⟩:=hc2.out
 clear hh h hc1
 go_wp2_with fail
 have e1 : IntKind.i64.wrap ((n : Int) / 8) = (n : Int) / 8:=IntWalk.i64_in _ (by omega)
 have e2 : IntKind.i64.wrap ((c.at_ : Int) + (n : Int) / 8) = (c.at_ : Int) + (n : Int) / 8:=IntWalk.i64_in _ (by omega)
 have e3 : (n : Int).tmod 8 = (n : Int) % 8:=Int.tmod_eq_emod_of_nonneg (by omega)
 have e4 : IntKind.i64.wrap ((n : Int) % 8 + 7) = (n : Int) % 8 + 7:=IntWalk.i64_in _ (by omega)
 have e5 : ((n : Int) % 8 + 7).tdiv 8 = ((n : Int) % 8 + 7) / 8:=Int.tdiv_eq_ediv_of_nonneg (by omega)
 have e6 : IntKind.i64.wrap (((n : Int) % 8 + 7) / 8) = ((n : Int) % 8 + 7) / 8:=IntWalk.i64_in _ (by omega)
 have e7 : IntKind.i64.wrap ((c.at_ : Int) + (n : Int) / 8 + ((n : Int) % 8 + 7) / 8) = (c.at_ : Int) + (N : Int):=by rw [IntWalk.i64_in _ (by omega)];omega
 have e8 : (0 : Int) ≤ (c.at_ : Int) + (N : Int):=by omega
 have e9 : (c.at_ : Int) + (N : Int) ≤ (cap : Int):=by omega
 have e10 : ((c.at_ : Int) + (N : Int)).toNat = c.at_ + N:=by omega
 have e11 : c.at_ + N - c.at_ = N:=by omega
 have E:=Lib.hid eN
 clear eN
 go_quiet (fail)
 have hs2:=hs.cut c.at_ (c.at_ + N) (by omega) (by omega)
 rw [e11,← bv_drop,← bv_take,HLV.out] at hs2
 have hrow : (c.b.drop c.at_).take N = c.row n:=by unfold Cur.row;rw [← HN.out]
 rw [hrow] at hs2
 have hqb : (Value.slice (if cap = c.at_ then ao else Option.map (fun x => x.add c.at_) ao) N (cap - c.at_)).ownBlock = q:=by
   rw [← hq,cut_block]
 have hrl : (c.row n).length = N:=by rw [← hrow];have:=HLL.out;simp;omega
 clear e1 e2 e3 e4 e5 e6 e7 e8 e9 e10 e11 d0 d1 d2 hfz hs hrow hq
 generalize (if cap = c.at_ then ao else Option.map (fun x => x.add c.at_) ao) = ad at hs2 hqb ⊢
 obtain ⟨wA,hwA⟩ : ∃ wA,wA = w2.drewN nq:=⟨_,rfl⟩
 rw [← hwA]
 have sA : Same w wA:=(s1.trans s2).trans ⟨_,hwA⟩
 have hcA : CurAt wA p q c:=hc2.same ⟨_,hwA⟩
 have hsA : Sl wA (.slice ad N (cap - c.at_)) (bv (c.row n)):=hs2.fr0 (Same.fr ⟨_,hwA⟩)
 obtain ⟨R,hR⟩ : ∃ R,R = c.row n:=⟨_,rfl⟩
 rw [← hR] at hsA hrl
 have HR:=Lib.hid hR
 clear hwA s1 s2 hc2 hs2 hR
 obtain ⟨d0,hh,d1⟩ : ∃ x,wA.heap[p]? = some x ∧ wA.cell? ⟨p,1,none⟩ = some (.int .i64 c.at_):=by
   obtain ⟨_,_,g0,_,g1,_⟩:=hcA.out;exact ⟨_,g0,g1⟩
 have hfz : ∀ j,wA.frozen? ⟨p,j,none⟩ = false:=by
   obtain ⟨_,_,_,_,_,_,g,_⟩:=hcA.out;exact g
 obtain ⟨hset,F1⟩:=hcA.setAt (c.at_ + N) HZ.out (by have:=HLL.out;omega)
 rw [Int.natCast_add] at hset F1
 have hne:=hcA.ne
 have hsB:=hsA.fr F1 (fun k hk => by rintro h;simp at h;subst h;exact hne (hqb ▸ hk))
 obtain ⟨wB,hwB⟩ : ∃ wB,wB = wA.setCell ⟨p,1,none⟩ (.int .i64 ((c.at_ : Int) + (N : Int))):=⟨_,rfl⟩
 rw [← hwB] at hset F1 hsB
 have HWB:=Lib.hid hwB
 have hgA:=hsA.out
 have hgB:=hsB.out
 have F2 : Fr [p] w wB:=sA.fr.trans F1 (by simp)
 obtain ⟨ao',cap',e0,-,-,o⟩:=hsA.out
 rw [bv_length,hrl] at o
 injection e0 with e1 e2 e3
 subst e1
 have HO:=Lib.hid o
 obtain ⟨ao',cap'',e0,-,-,o2⟩:=hsB.out
 rw [bv_length,hrl] at o2
 injection e0 with e1 e4 e5
 subst e1
 have HOB:=Lib.hid o2
 have HRL:=Lib.hid hrl
 clear e2 e3 e4 e5 o o2 hwB hgA hgB F1 hsA hsB hh hne hqb hrl
 have t8 : (0 : Int) ≤ (n : Int) % 8:=by omega
 have t9 : (n : Int) % 8 ≤ 7:=by omega
 by_cases h8 : n % 8 = 0
 · have h8' : ((n : Int) % 8 != 0) = false:=by simp;omega
   have hp : padded R n = false:=by simp [padded,h8]
   have HP:=Lib.hid hp
   clear hp h8
   go_wp2_with fail
   rw [← HWB.out]
   clear d1 hfz
   go_loopw [6,89] (fun out i wr => ∃ k : Nat,k ≤ n ∧ i = .int .i64 k ∧ wr.ownsRow wB.heap.size 4 1 out k (tv (unpack R k)) ∧ Fr [] wB wr) (fun _ i _ => n - (intOf i).toNat)
   case atStart => exact ⟨0,Nat.zero_le _,rfl,World.ownsRow_nil _ _ _ _,Fr.refl _ _⟩
   case round =>
     obtain ⟨k,hk,rfl,hown,hF⟩:=hrel
     by_cases hlt : k < n
     · have hlt' : (k : Int) < (n : Int):=by omega
       have hkN : k / 8 < N:=by have:=HN.out;omega
       obtain ⟨b1,of1,rfl,hbl,cc⟩:=HOB.out (k / 8) hkN
       obtain ⟨y,hy⟩:=some_get R (k / 8) (by rw [HRL.out];omega)
       have d1 : wr.cell? ⟨b1,of1 + k / 8,none⟩ = some (.int .u8 y.toNat):=by rw [hF.cell (p:=⟨b1,of1 + k / 8,none⟩) hbl (by simp),cc _ hkN,bv_get _ _ _ hy]
       have hkN' : (k : Int) / 8 < (N : Int):=by omega
       have HB:=Lib.hid (bit_read R k y hy)
       clear cc hy
       go_wp2_with (at_builtin;refine wpList_append_one sty_bool rfl _ _ rfl hF _ _ _ (by rfl) hown _ (by rfl) (by rfl) ?_ ?_ ?_)
       · omega
       · omega
       intro v3 w3 hown3 hF3
       rw [HB.out] at hown3
       clear hown hF HB
       go_wp2_with fail
       go_roundw
       case rel => exact ⟨k + 1,by omega,by go_num,by rw [unpack_succ,tv_append];exact hown3,hF3⟩
       case measure => simp [intOf];omega
     · have hlt' : (n : Int) ≤ (k : Int):=by omega
       have hkn : k = n:=by omega
       have HK:=Lib.hid hkn
       clear hkn
       go_wp2_with fail
       go_ret
       rw [HK.out] at hown
       have e : c.bits n = (unpack R n,{ c with at_:=c.at_ + N }):=by
         unfold Cur.bits
         rw [if_neg (by have:=HZ.out;rw [Int.toNat_natCast];omega),Int.toNat_natCast,← HR.out,HP.out]
         simp [HN.out]
       rw [e]
       refine ⟨_,rfl,?_,hset.fr hF (by simp) (by simp),F2.trans0 hF⟩
       rw [unpack_length]
       exact own_mono hown F2.size
 · have h8' : ((n : Int) % 8 != 0) = true:=by rw [bne_iff_ne];omega
   have hlt : n / 8 < N:=by have:=HN.out;omega
   have hlt' : (n : Int) / 8 < (N : Int):=by omega
   obtain ⟨b1,of1,rfl,-,cc⟩:=HO.out (n / 8) hlt
   obtain ⟨y,hy⟩:=some_get R (n / 8) (by rw [HRL.out];omega)
   have d2 : wA.cell? ⟨b1,of1 + n / 8,none⟩ = some (.int .u8 y.toNat):=by rw [cc _ hlt,bv_get _ _ _ hy]
   have hps:=pad_shl R n y hy h8
   clear cc hy h8
   by_cases hp : padded R n = true
   · rw [hp] at hps
     have HP:=Lib.hid hp
     clear hp
     go_wp2_with fail
     refine (fail_any _ p q c 5 _ rfl (by decide) hcA).mono ?_
     rintro e w3 ⟨rfl,hc3,hf3⟩
     clear d1 d2 hfz hcA
     go_wp2_with fail
     go_ret
     have e : c.bits n = ([],c.fail 5):=by
       unfold Cur.bits
       rw [if_neg (by have:=HZ.out;rw [Int.toNat_natCast];omega),Int.toNat_natCast,← HR.out,HP.out]
       rfl
     rw [e]
     exact ⟨_,rfl,World.ownsRow_nil _ _ _ _,hc3,sA.fr.trans hf3 (by simp)⟩
   · have hp' : padded R n = false:=by simpa using hp
     rw [hp'] at hps
     have HP:=Lib.hid hp'
     clear hp hp'
     go_wp2_with fail
     rw [← HWB.out]
     clear d1 hfz
     go_loopw [6,89] (fun out i wr => ∃ k : Nat,k ≤ n ∧ i = .int .i64 k ∧ wr.ownsRow wB.heap.size 4 1 out k (tv (unpack R k)) ∧ Fr [] wB wr) (fun _ i _ => n - (intOf i).toNat)
     case atStart => exact ⟨0,Nat.zero_le _,rfl,World.ownsRow_nil _ _ _ _,Fr.refl _ _⟩
     case round =>
       obtain ⟨k,hk,rfl,hown,hF⟩:=hrel
       by_cases hlt : k < n
       · have hlt' : (k : Int) < (n : Int):=by omega
         have hkN : k / 8 < N:=by have:=HN.out;omega
         obtain ⟨b3,of3,he,hbl,cc⟩:=HOB.out (k / 8) hkN
         cases he
         obtain ⟨y,hy⟩:=some_get R (k / 8) (by rw [HRL.out];omega)
         have d1 : wr.cell? ⟨b1,of1 + k / 8,none⟩ = some (.int .u8 y.toNat):=by rw [hF.cell (p:=⟨b1,of1 + k / 8,none⟩) hbl (by simp),cc _ hkN,bv_get _ _ _ hy]
         have hkN' : (k : Int) / 8 < (N : Int):=by omega
         have HB:=Lib.hid (bit_read R k y hy)
         clear cc hy
         go_wp2_with (at_builtin;refine wpList_append_one sty_bool rfl _ _ rfl hF _ _ _ (by rfl) hown _ (by rfl) (by rfl) ?_ ?_ ?_)
         · omega
         · omega
         intro v3 w3 hown3 hF3
         rw [HB.out] at hown3
         clear hown hF HB
         go_wp2_with fail
         go_roundw
         case rel => exact ⟨k + 1,by omega,by go_num,by rw [unpack_succ,tv_append];exact hown3,hF3⟩
         case measure => simp [intOf];omega
       · have hlt' : (n : Int) ≤ (k : Int):=by omega
         have hkn : k = n:=by omega
         have HK:=Lib.hid hkn
         clear hkn
         go_wp2_with fail
         go_ret
         rw [HK.out] at hown
         have e : c.bits n = (unpack R n,{ c with at_:=c.at_ + N }):=by
           unfold Cur.bits
           rw [if_neg (by have:=HZ.out;rw [Int.toNat_natCast];omega),Int.toNat_natCast,← HR.out,HP.out]
           simp [HN.out]
         rw [e]
         refine ⟨_,rfl,?_,hset.fr hF (by simp) (by simp),F2.trans0 hF⟩
         rw [unpack_length]
         exact own_mono hown F2.size
theorem bits_any (w : World) (p : Nat) (q : Option Nat) (c : Cur) (n : Int) (hn : -9223372036854775808 ≤ n ∧ n ≤ 9223372036854775807) (h : CurAt w p q c) (hb : c.b.length ≤ 140737488355328 / 16) :
   Calls Tryz.prog 127 #[.pointer (some ⟨p,0,none⟩),.int .i64 n] w (TakeBits p q (c.bits n) w):=by
 by_cases hf : c.code ≠ 0 ∨ n < 0 ∨ c.left < (n.toNat + 7) / 8
 · have e : c.bits n = ([],c.fail 3):=by unfold Cur.bits;rw [if_pos hf]
   rw [e]
   exact bits_fail w p q c n hn h hf
 · obtain ⟨m,rfl⟩:=Int.eq_ofNat_of_zero_le (show 0 ≤ n by omega)
   rw [Int.toNat_natCast] at hf
   exact bits_ok w p q c m h (by omega) (by omega) hb
end Go.Proofs.YtkodindajfdagaaGreatDoor
/- Contract: Told. No condition but that lengths fit. -/
namespace Go.Proofs.YtkodindajfdagaaGreatDoor
open Go.RowKit
theorem set_true (k n : Nat) (h : k < n) : (tv (List.replicate k true ++ List.replicate (n - k) false)).set k (.bool true) = tv (List.replicate (k + 1) true ++ List.replicate (n - (k + 1)) false):=by
 obtain ⟨m,rfl⟩ : ∃ m,n = k + 1 + m:=⟨n - k - 1,by omega⟩
 rw [show k + 1 + m - k = m + 1 from by omega,show k + 1 + m - (k + 1) = m from by omega,tv_append,List.set_append_right _ _ (by simp [tv_length])]
 rw [show List.replicate (k + 1) true = List.replicate k true ++ [true] from List.replicate_succ' ..]
 simp [tv,List.replicate_succ (n:=m)]
set_option maxRecDepth 100000 in
set_option maxHeartbeats 1000000 in
theorem told_any (w : World) (p : Nat) (q : Option Nat) (c : Cur) (n : Int) (hn : -9223372036854775808 ≤ n ∧ n ≤ 17000000000000) (h : CurAt w p q c) (hb : c.b.length ≤ 140737488355328 / 16) :
   Calls Tryz.prog 131 #[.pointer (some ⟨p,0,none⟩),.int .i64 n] w (TakeBits p q (c.told n) w):=by
 obtain ⟨_,_,_,_,d1,_⟩:=h.out
 by_cases hl : c.left < 1
 · have e : c.num 1 = (0,c.fail 3):=by
     unfold Cur.num Cur.take Cur.sized
     simp only [BEq.rfl,Bool.true_or,if_true]
     rw [if_pos (.inr (by simpa using hl))];rfl
   have e2 : c.told n = ([],c.fail 3):=by unfold Cur.told;rw [if_pos (.inl hl)]
   have hz : (((c.fail 3).code : Int) != 0) = true:=by
     rw [bne_iff_ne];unfold Cur.fail;dsimp only;split <;> omega
   have E:=Lib.hid e
   have E2:=Lib.hid e2
   clear e e2
   go_enter Tryz.func131,Tryz.ntmps131
   go_wp2_with fail
   refine (num_any w p q c 1 h (by omega)).mono ?_
   rintro e w1 ⟨rfl,hc1,hf1⟩
   rw [E.out] at hc1 ⊢
   obtain ⟨_,_,_,_,_,d2,_⟩:=hc1.out
   clear d1 h
   go_wp2_with fail
   go_ret
   rw [E2.out]
   exact ⟨_,rfl,World.ownsRow_nil _ _ _ _,hc1,hf1⟩
 · have hcz : c.code = 0:=by unfold Cur.left at hl;split at hl <;> simp_all
   have hle:=h.le
   have hll : c.at_ + c.left = c.b.length:=by rw [← c.live_left hle];simp [Cur.live,hcz]
   obtain ⟨y,hy⟩:=some_get c.b c.at_ (by omega)
   have hhead : c.head = y.toNat:=by unfold Cur.head;simp [hy]
   have hy8:=y.toNat_lt
   have e : c.num 1 = (y.toNat,{ c with at_:=c.at_ + 1 }):=by
     unfold Cur.num Cur.take Cur.sized
     simp only [BEq.rfl,Bool.true_or,if_true]
     rw [if_neg (by simp [hcz];omega)]
     have h1 : (c.b.drop c.at_).take (Int.toNat 1) = [y]:=by
       show (c.b.drop c.at_).take 1 = [y]
       rw [List.take_one,List.head?_drop,hy];rfl
     rw [h1]
     simp [leNat]
   have E:=Lib.hid e
   have HZ:=Lib.hid hcz
   have HH:=Lib.hid hhead
   have HLL:=Lib.hid hll
   have hz1 : ((c.code : Int) != 0) = false:=by simp [hcz]
   clear e hcz hy hhead hll
   go_enter Tryz.func131,Tryz.ntmps131
   go_wp2_with fail
   refine (num_any w p q c 1 h (by omega)).mono ?_
   rintro e w1 ⟨rfl,hc1,hf1⟩
   rw [E.out] at hc1 ⊢
   obtain ⟨ao,cap,hh,d0,d1',d2,hfz,_⟩:=hc1.out
   clear d1 h hh d0
   obtain ⟨hset,F1⟩:=hc1.setAt c.at_ HZ.out hle
   by_cases hneg : n < 0
   · have e2 : c.told n = ([],c.fail 3):=by unfold Cur.told;rw [if_pos (.inr hneg)]
     have E2:=Lib.hid e2
     clear e2
     go_wp2_with fail
     refine (fail_any _ p q c 3 _ rfl (by decide) hset).mono ?_
     rintro e w2 ⟨rfl,hc2,hf2⟩
     clear d1' d2 hfz
     go_wp2_with fail
     go_ret
     rw [E2.out]
     exact ⟨_,rfl,World.ownsRow_nil _ _ _ _,hc2,(hf1.trans F1 (by simp)).trans hf2 (by simp)⟩
   · obtain ⟨m,rfl⟩:=Int.eq_ofNat_of_zero_le (show 0 ≤ n by omega)
     have hcond : ¬ (c.left < 1 ∨ (m : Int) < 0):=by omega
     by_cases h1 : y.toNat = 1
     · have t1 : ((y.toNat : Int) == 1) = true:=by simp [h1]
       have e2 : c.told m = (List.replicate m true,{ c with at_:=c.at_ + 1 }):=by
         unfold Cur.told;rw [if_neg hcond,if_pos (by rw [HH.out,h1])];rfl
       have E2:=Lib.hid e2
       obtain ⟨i0,hi0,hz0,hs0,hb0⟩:=info_parts info_bool
       have hb0' : i0.bytes * m ≤ 281474976710656:=by rw [hb0];omega
       clear e2 hcond h1 hset F1
       have HC1:=Lib.hid hc1
       clear hc1
       go_wp2_with (at_make;refine wpList_make_full _ rfl _ _ _ rfl w1.heap.size _ i0 _ _ Tryz.underlying144 hi0 hz0 hs0 _ _ _ _ m (by rfl) (by rfl) rfl rfl hb0' ?_ ?_ ?_)
       · unfold maxLen;omega
       · omega
       intro w2 hown2 hg2
       have hf2 : Fr [] w1 w2:=(Fr.refl _ _).grown hg2 (by simp)
       have e3 : List.replicate m (Value.bool false) = tv (List.replicate m false):=by simp [tv]
       rw [toList_madeCells_one,e3] at hown2
       clear hg2 e3 hi0 hz0 hs0 hb0 hb0' d1' d2 hfz
       go_wp2_with fail
       go_loopw [8,38] (fun j i wr => ∃ k : Nat,k ≤ m ∧ i = .int .i64 k ∧ wr.ownsRow w1.heap.size 4 1 (.slice (some ⟨w1.heap.size,0,none⟩) m m) m (tv (List.replicate k true ++ List.replicate (m - k) false)) ∧ Fr [] w1 wr) (fun _ i _ => m - (intOf i).toNat)
       case atStart => exact ⟨0,Nat.zero_le _,rfl,by simpa using hown2,hf2⟩
       case round =>
         obtain ⟨k,hk,rfl,hown,hF⟩:=hrel
         clear hown2 hf2
         by_cases hlt : k < m
         · have hlt' : (k : Int) < (m : Int):=by omega
           have hcell:=hown.cellAt k (by omega)
           obtain ⟨x,hx⟩:=some_get (tv (List.replicate k true ++ List.replicate (m - k) false)) k (by rw [tv_length];simp;omega)
           rw [hx] at hcell
           have hfz:=hown.frozenAt k
           have hst:=(hown.stored k (.bool true)).1
           rw [set_true k m hlt] at hst
           have hF' : Fr [] w1 (wr.setCell ⟨w1.heap.size,k,none⟩ (.bool true)):=hF.setCell (by simp) _
           clear hx hown hF
           go_wp2_with fail
           go_roundw
           case rel => exact ⟨k + 1,by omega,by go_num,hst,hF'⟩
           case measure => simp [intOf];omega
         · have hlt' : (m : Int) ≤ (k : Int):=by omega
           have hkm : k = m:=by omega
           have HK:=Lib.hid hkm
           clear hkm
           go_wp2_with fail
           go_ret
           rw [E2.out]
           rw [HK.out,Nat.sub_self] at hown
           refine ⟨_,rfl,?_,HC1.out.fr hF (by simp) (by simp),hf1.trans0 hF⟩
           rw [List.length_replicate]
           exact own_mono (by simpa using hown) hf1.size
     · by_cases h0 : y.toNat = 0
       · have t1 : ((y.toNat : Int) == 1) = false:=by simp;omega
         have t0 : ((y.toNat : Int) == 0) = true:=by simp [h0]
         obtain ⟨c1,hc1e⟩ : ∃ c1 : Cur,c1 = { c with at_:=c.at_ + 1 }:=⟨_,rfl⟩
         obtain ⟨B,hB⟩ : ∃ B,B = c1.bits m:=⟨_,rfl⟩
         have hbits:=bits_any w1 p q c1 m (by omega) (hc1e ▸ hc1) (by rw [hc1e];exact hb)
         rw [← hB] at hbits
         have HB:=Lib.hid hbits
         have e2 : c.told m = if B.2.code ≠ 0 then ([],{ B.2 with at_:=c.at_ }) else B:=by
           unfold Cur.told;rw [if_neg hcond,if_neg (by rw [HH.out];exact h1),if_pos (by rw [HH.out];exact h0),hB,hc1e]
         have hB2 : B.2.code = 0 ∨ B.1 = [] ∧ ∃ kk,kk ≠ 0 ∧ B.2 = c1.fail kk:=by
           rw [hB];unfold Cur.bits;split
           · exact .inr ⟨rfl,3,by decide,rfl⟩
           · split
             · exact .inr ⟨rfl,5,by decide,rfl⟩
             · left;rw [hc1e];exact HZ.out
         have E2:=Lib.hid e2
         have HC1E:=Lib.hid hc1e
         clear e2 hcond h1 h0 hc1e hB hbits hset F1
         go_wp2_with (go_at_call 127;refine HB.out.mono ?_)
         rintro e w2 ⟨r,rfl,hown2,hc2,hf2⟩
         have hc1lt : p < w1.heap.size:=hc1.lt
         clear d1' d2 hfz hc1
         obtain ⟨ao2,cap2,hh2,g0,g1,g2,gfz,gs,gq,gl,gm⟩:=hc2.out
         have hne2:=hc2.ne
         rcases hB2 with hz | ⟨hb1,kk,hkk,hz⟩
         · have t2 : ((B.2.code : Int) != 0) = false:=by simp [hz]
           have HZ2:=Lib.hid hz
           clear hz hh2 gs gq
           go_wp2_with fail
           go_ret
           rw [E2.out,if_neg (by rw [HZ2.out];simp)]
           exact ⟨_,rfl,own_mono hown2 hf1.size,hc2,hf1.trans hf2 (by simp)⟩
         · have hcode : B.2.code = kk:=by rw [hz,HC1E.out];unfold Cur.fail;simp [HZ.out]
           have t2 : ((B.2.code : Int) != 0) = true:=by rw [bne_iff_ne,hcode];omega
           have hat : B.2.at_ = c.at_ + 1:=by rw [hz,HC1E.out];rfl
           have hBb : B.2.b = c.b:=by rw [hz,HC1E.out];rfl
           have hle3 : (c.at_ : Int) ≤ (cap2 : Int):=by omega
           have hgs:=gs.first c.at_ (by omega)
           have hlive : ({ B.2 with at_:=c.at_ } : Cur).live = B.2.live.take c.at_:=by
             unfold Cur.live
             simp only [hcode,hkk,if_false,hat,hBb,List.take_take]
             congr 1;omega
           rw [← bv_take,← hlive] at hgs
           have HB1:=Lib.hid hb1
           have HCD:=Lib.hid hcode
           have HKK:=Lib.hid hkk
           have HBB:=Lib.hid hBb
           clear hb1 hz hcode hat hBb hlive hkk gs
           go_wp2_with fail
           go_ret
           rw [E2.out,if_pos (by rw [HCD.out];exact HKK.out)]
           have F : Fr [p] w2 ((w2.setCell ⟨p,1,none⟩ (.int .i64 c.at_)).setCell ⟨p,0,none⟩ (.slice ao2 c.at_ cap2)):=((Fr.refl _ _).setCell (by simp) _).setCell (by simp) _
           refine ⟨_,rfl,?_,CurAt.of_fr (c:={ B.2 with at_:=c.at_ }) F (Go.Joins.block_setCell (Go.Joins.block_setCell hh2 _) _) hgs (by rw [← gq];cases ao2 <;> rfl) hne2 (by rw [HBB.out];omega),(hf1.trans hf2 (by simp)).trans F (by simp)⟩
           rw [HB1.out] at hown2
           refine own_mono (own_fr hown2 F ?_) hf1.size
           intro k hk
           have:=hown2.lt k hk
           have:=hc1lt
           simp
           omega
       · have t1 : ((y.toNat : Int) == 1) = false:=by simp;omega
         have t0 : ((y.toNat : Int) == 0) = false:=by simp;omega
         have e2 : c.told m = ([],c.fail 5):=by
           unfold Cur.told;rw [if_neg hcond,if_neg (by rw [HH.out];exact h1),if_neg (by rw [HH.out];exact h0)]
         have E2:=Lib.hid e2
         clear e2 hcond h1 h0
         go_wp2_with fail
         refine (fail_any _ p q c 5 _ rfl (by decide) hset).mono ?_
         rintro e w2 ⟨rfl,hc2,hf2⟩
         clear d1' d2 hfz
         go_wp2_with fail
         go_ret
         rw [E2.out]
         exact ⟨_,rfl,World.ownsRow_nil _ _ _ _,hc2,(hf1.trans F1 (by simp)).trans hf2 (by simp)⟩
end Go.Proofs.YtkodindajfdagaaGreatDoor
