/- Contract: names.Text. No condition but that lengths fit. -/
import Derived.Test.YtkodindajfdagaaGreatDoorJV
import Derived.Test.YtkodindajfdagaaGreatDoorHConvM
namespace Go.Proofs.YtkodindajfdagaaGreatDoor
open Go.RowKit
def TextR (u : List Nat) (w : World) (e : Ending) (w' : World) : Prop :=
 (∃ c,textL u = some c ∧ e = .returned (.tuple #[.string ⟨c.toArray⟩,.int .i64 0]) ∧ Fr [] w w') ∨
   (textL u = none ∧ e = .returned (.tuple #[.string ⟨#[]⟩,.int .i64 15]) ∧ Fr [] w w')
theorem cells_enc (v : Nat) (h : scal v) : Lib.runeCells (v : Int) = bv (encL v):=by
 unfold scal at h
 unfold Lib.runeCells bv encL encN
 by_cases h1 : v < 128
 · rw [if_pos h1,Lib.encodeRuneZ_one (by omega) (by omega)]
   simp
   omega
 rw [if_neg h1]
 by_cases h2 : v < 2048
 · rw [if_pos h2,Lib.encodeRuneZ_two (by omega) (by omega)]
   simp only [List.map_cons,List.map_nil,UInt8.toNat_ofNat',List.cons.injEq,Value.int.injEq,true_and,and_true]
   omega
 rw [if_neg h2]
 by_cases h3 : v < 65536
 · rw [if_pos h3,Lib.encodeRuneZ_three (by omega)]
   simp only [List.map_cons,List.map_nil,UInt8.toNat_ofNat',List.cons.injEq,Value.int.injEq,true_and,and_true]
   omega
 rw [if_neg h3,Lib.encodeRuneZ_four (by omega) (by omega)]
 simp only [List.map_cons,List.map_nil,UInt8.toNat_ofNat',List.cons.injEq,Value.int.injEq,true_and,and_true]
 omega
theorem map_app2 (o : Option (List UInt8)) (x y : List UInt8) : (o.map (y ++ ·)).map (x ++ ·) = o.map ((x ++ y) ++ ·):=by
 cases o <;> simp
theorem append_rune (w : World) (B : Nat) (v : Value) (l : List UInt8) (r : Nat) (hr : scal r) (hown : w.ownsRow B 5 1 v l.length (bv l)) (hl : l.length ≤ 100000000) (hB : B ≤ w.heap.size) :
   Calls Tryz.prog 150 #[v,.int .i32 (r : Int)] w fun e w' => ∃ v',e = .returned v' ∧ w'.ownsRow B 5 1 v' (l ++ encL r).length (bv (l ++ encL r)) ∧ ∃ o,(w.alloc o).grownBy w' v.ownBlock:=by
 refine (Tryz.utf8_AppendRune_plain B v l.length (bv l) (r : Int) (by omega) (by unfold scal at hr;omega) w hown (by omega) hB).mono ?_
 rintro e w' ⟨v',rfl,h1,h2⟩
 rw [cells_enc r hr,bv_length] at h1
 exact ⟨v',rfl,by rw [List.length_append,bv_append];exact h1,h2⟩
theorem conv_own (w : World) (base : Nat) (ao : Option Addr) (n cap : Nat) (l : List UInt8) (hn : n = l.length) (h : w.ownsRow base 5 1 (.slice ao n cap) n (bv l)) :
   (convert 22 9 (.slice ao n cap)).run Tryz.prog w = .ok (.string ⟨l.toArray⟩) w:=by
 rw [hn] at h
 rw [hn]
 have hs:=Sl.of_own h
 exact conv_sl w ao _ cap l rfl hs
theorem w32 (n : Nat) (h : n < 2147483648) : wrap32 (n : Int) = (n : Int):=by
 unfold wrap32
 omega
theorem pair_nums (a c : Nat) (h1 : 55296 ≤ a) (h2 : a < 56320) (h3 : 56320 ≤ c) (h4 : c < 57344) :
   ∃ x p q m r : Nat,r = 65536 + (a - 55296) * 1024 + (c - 56320) ∧ (57344 ≤ r ∧ r ≤ 1114111) ∧ wrap32 ((a : Int) - 55296) = (x : Int) ∧ wrap32 ((x : Int) * 1024) = (p : Int) ∧
     wrap32 (65536 + (p : Int)) = (q : Int) ∧ wrap32 ((q : Int) + (c : Int)) = (m : Int) ∧ wrap32 ((m : Int) - 56320) = (r : Int):=by
 obtain ⟨x,rfl⟩ : ∃ x,a = 55296 + x:=⟨a - 55296,by omega⟩
 obtain ⟨y,rfl⟩ : ∃ y,c = 56320 + y:=⟨c - 56320,by omega⟩
 refine ⟨x,x * 1024,65536 + x * 1024,65536 + x * 1024 + (56320 + y),65536 + x * 1024 + y,by omega,by omega,?_,?_,?_,?_,?_⟩
 · rw [← w32 x (by omega)];congr 1;omega
 · rw [← w32 (x * 1024) (by omega)];congr 1
 · rw [← w32 (65536 + x * 1024) (by omega)];congr 1
 · rw [← w32 (65536 + x * 1024 + (56320 + y)) (by omega)];congr 1
 · rw [← w32 (65536 + x * 1024 + y) (by omega)];congr 1;omega
set_option maxRecDepth 100000 in
set_option maxHeartbeats 1000000 in
theorem text_any (w : World) (v : Value) (u : List Nat) (hv0 : Sl w v (hv u)) (hu : ∀ x ∈ u,x < 65536) (hl : u.length ≤ 4000000) : Calls Tryz.prog 142 #[v] w (TextR u w):=by
 obtain ⟨ao,cap,rfl,-,-,oc⟩:=hv0.out
 simp only [hv_len] at *
 have HO:=Lib.hid oc
 have HU:=Lib.hid hu
 have HL:=Lib.hid hl
 clear hv0 oc hu hl
 go_enter Tryz.func142,Tryz.ntmps142
 go_wp2_with fail
 go_loopw [4,5] (fun v i wr => ∃ (k : Nat) (out : List UInt8),k ≤ u.length ∧ i = .int .i64 k ∧ textL u = (textL (u.drop k)).map (out ++ ·) ∧ out.length ≤ 4 * k ∧ wr.ownsRow w.heap.size 5 1 v out.length (bv out) ∧ Fr [] w wr) (fun _ i _ => u.length - (intOf i).toNat)
 case atStart => exact ⟨0,[],Nat.zero_le _,rfl,by simp,by simp,World.ownsRow_nil _ _ _ _,Fr.refl _ _⟩
 case round =>
   obtain ⟨k,out,hk,rfl,htx,hol,own,F⟩:=hrel
   obtain ⟨vao,vcap,rfl,-⟩:=own_out own
   have HTX:=Lib.hid htx
   have HOL:=Lib.hid hol
   have HOwn:=Lib.hid own
   by_cases hlt : k < u.length
   · obtain ⟨b,of,rfl,hb,hcl⟩:=HO.out k hlt
     obtain ⟨a,ha0⟩:=some_get u k hlt
     have c0 : wr.cell? ⟨b,of + k,none⟩ = some (.int .u16 (a : Int)):=(F.cell (p:=⟨b,of + k,none⟩) hb (by simp)).trans ((hcl k hlt).trans (hv_get ha0))
     have ha2:=HU.out a (List.mem_of_getElem? ha0)
     have hdr : u.drop k = a :: u.drop (k + 1):=by
       rw [List.drop_eq_getElem_cons hlt]
       have:=(List.getElem?_eq_some_iff.1 ha0).2
       rw [this]
     have HD:=Lib.hid hdr
     have HLT:=Lib.hid hlt
     have hlt' : (k : Int) < (u.length : Int):=by omega
     have hkI : (k : Int) ≤ 4000000:=by have:=HL.out;omega
     have e0 : IntKind.i32.wrap (a : Int) = (a : Int):=IntWalk.i32_in _ (by omega)
     clear htx hol own hdr hk hlt
     by_cases h1 : a < 55296
     · have t1 : decide ((a : Int) < 55296) = true:=decide_eq_true (by omega)
       have HS:=Lib.hid (show scal a from .inl h1)
       have HT2:=Lib.hid (show textL u = (textL (u.drop (k + 1))).map ((out ++ encL a) ++ ·) by rw [HTX.out,HD.out,textL_plain a _ (.inl h1),map_app2])
       clear h1 ha2
       go_wp2_with (go_at_call 150;refine (append_rune _ w.heap.size _ out a HS.out HOwn.out (by have:=HOL.out;have:=HL.out;have:=HLT.out;omega) F.size).mono ?_;rintro e w2 ⟨v2,rfl,own2,o2,g2⟩;obtain ⟨vao2,vcap2,rfl,-⟩:=own_out own2;have F2 : Fr [] w w2:=(F.alloc _).grown g2 (fun t ht => .inr (HOwn.out.lt t ht).1))
       go_roundw
       case rel => exact ⟨k + 1,out ++ encL a,by have:=HLT.out;omega,by go_num,HT2.out,by have:=HOL.out;have:=(encL_len a).2.1;simp;omega,by simp only [List.length_append] at own2 ⊢;exact own2,F2⟩
       case measure => have:=HLT.out;simp [intOf];omega
     · have t1 : decide ((a : Int) < 55296) = false:=decide_eq_false (by omega)
       by_cases h2 : 57344 ≤ a
       · have t2 : decide ((57344 : Int) ≤ (a : Int)) = true:=decide_eq_true (by omega)
         have HS:=Lib.hid (show scal a from .inr ⟨h2,by omega⟩)
         have HT2:=Lib.hid (show textL u = (textL (u.drop (k + 1))).map ((out ++ encL a) ++ ·) by rw [HTX.out,HD.out,textL_plain a _ (.inr h2),map_app2])
         clear h1 h2 ha2
         go_wp2_with (go_at_call 150;refine (append_rune _ w.heap.size _ out a HS.out HOwn.out (by have:=HOL.out;have:=HL.out;have:=HLT.out;omega) F.size).mono ?_;rintro e w2 ⟨v2,rfl,own2,o2,g2⟩;obtain ⟨vao2,vcap2,rfl,-⟩:=own_out own2;have F2 : Fr [] w w2:=(F.alloc _).grown g2 (fun t ht => .inr (HOwn.out.lt t ht).1))
         go_roundw
         case rel => exact ⟨k + 1,out ++ encL a,by have:=HLT.out;omega,by go_num,HT2.out,by have:=HOL.out;have:=(encL_len a).2.1;simp;omega,by simp only [List.length_append] at own2 ⊢;exact own2,F2⟩
         case measure => have:=HLT.out;simp [intOf];omega
       have t2 : decide ((57344 : Int) ≤ (a : Int)) = false:=decide_eq_false (by omega)
       by_cases h3 : 56320 ≤ a
       · have t3 : decide ((a : Int) < 56320) = false:=decide_eq_false (by omega)
         have HTN:=Lib.hid (show textL u = none by rw [HTX.out,HD.out,textL_late a _ h3 (by omega)];rfl)
         clear h1 h2 h3 ha2
         go_wp2_with fail
         go_ret2
         exact .inr ⟨HTN.out,rfl,F⟩
       have t3 : decide ((a : Int) < 56320) = true:=decide_eq_true (by omega)
       by_cases h4 : k + 1 < u.length
       · obtain ⟨c,hc0⟩:=some_get u (k + 1) h4
         have c1 : wr.cell? ⟨b,of + (k + 1),none⟩ = some (.int .u16 (c : Int)):=(F.cell (p:=⟨b,of + (k + 1),none⟩) hb (by simp)).trans ((hcl (k + 1) h4).trans (hv_get hc0))
         have hc2:=HU.out c (List.mem_of_getElem? hc0)
         have hdr2 : u.drop k = a :: c :: u.drop (k + 2):=by
           rw [HD.out,List.drop_eq_getElem_cons h4,(List.getElem?_eq_some_iff.1 hc0).2]
         have k1 : (k : Int) + 1 < (u.length : Int):=by omega
         have e00 : IntKind.i32.wrap (c : Int) = (c : Int):=IntWalk.i32_in _ (by omega)
         by_cases h5 : c < 56320
         · have t4 : decide ((56320 : Int) ≤ (c : Int)) = false:=decide_eq_false (by omega)
           have HTN:=Lib.hid (show textL u = none by rw [HTX.out,hdr2,textL_odd a c _ (by omega) (by omega) (.inl h5)];rfl)
           clear h1 h2 h3 h4 h5 ha2 hc2 hdr2 hc0
           go_wp2_with fail
           go_ret2
           exact .inr ⟨HTN.out,rfl,F⟩
         have t4 : decide ((56320 : Int) ≤ (c : Int)) = true:=decide_eq_true (by omega)
         by_cases h6 : 57344 ≤ c
         · have t5 : decide ((c : Int) < 57344) = false:=decide_eq_false (by omega)
           have HTN:=Lib.hid (show textL u = none by rw [HTX.out,hdr2,textL_odd a c _ (by omega) (by omega) (.inr h6)];rfl)
           clear h1 h2 h3 h4 h5 h6 ha2 hc2 hdr2 hc0
           go_wp2_with fail
           go_ret2
           exact .inr ⟨HTN.out,rfl,F⟩
         have t5 : decide ((c : Int) < 57344) = true:=decide_eq_true (by omega)
         have H5:=Lib.hid (show (55296 ≤ a ∧ a < 56320) ∧ 56320 ≤ c ∧ c < 57344 by omega)
         have HD2:=Lib.hid hdr2
         have HK2:=Lib.hid h4
         obtain ⟨x,p,q,m,r,hr,hrs,e1,e2,e3,e4,e5⟩:=pair_nums a c (by omega) (by omega) (by omega) (by omega)
         have HS:=Lib.hid (show scal r from .inr hrs)
         have HT2:=Lib.hid (show textL u = (textL (u.drop (k + 2))).map ((out ++ encL r) ++ ·) by rw [HTX.out,HD2.out,textL_pair a c _ (by omega) (by omega) (by omega) (by omega),map_app2,hr])
         clear h1 h2 h3 h4 h5 h6 ha2 hc2 hdr2 hc0 hr hrs
         go_wp2_with (go_at_call 150;refine (append_rune _ w.heap.size _ out r HS.out HOwn.out (by have:=HOL.out;have:=HL.out;have:=HLT.out;omega) F.size).mono ?_;rintro e w2 ⟨v2,rfl,own2,o2,g2⟩;obtain ⟨vao2,vcap2,rfl,-⟩:=own_out own2;have F2 : Fr [] w w2:=(F.alloc _).grown g2 (fun t ht => .inr (HOwn.out.lt t ht).1))
         go_roundw
         case rel => exact ⟨k + 2,out ++ encL r,by have:=HK2.out;omega,by go_num,HT2.out,by have:=HOL.out;have:=(encL_len r).2.1;simp;omega,by simp only [List.length_append] at own2 ⊢;exact own2,F2⟩
         case measure => have:=HK2.out;simp [intOf];omega
       · have k1 : decide ((k : Int) + 1 < (u.length : Int)) = false:=decide_eq_false (by omega)
         have HTN:=Lib.hid (show textL u = none by rw [HTX.out,HD.out,List.drop_eq_nil_of_le (by omega),textL_end a (by omega) (by omega)];rfl)
         clear h1 h2 h3 h4 ha2
         go_wp2_with fail
         go_ret2
         exact .inr ⟨HTN.out,rfl,F⟩
   · have hke : k = u.length:=by omega
     subst hke
     rw [List.drop_length] at htx
     have HTE:=Lib.hid (show textL u = some out by rw [htx];simp [textL])
     have hcv:=conv_own wr w.heap.size vao out.length vcap out rfl own
     clear htx hol own
     go_wp2_with fail
     go_ret2
     exact .inl ⟨out,HTE.out,rfl,F⟩
end Go.Proofs.YtkodindajfdagaaGreatDoor
