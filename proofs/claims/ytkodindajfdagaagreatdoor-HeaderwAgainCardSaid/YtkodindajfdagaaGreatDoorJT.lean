/- Contracts: slices.Contains of a bool, PutTold. No condition but that lengths fit. -/
import Derived.Test.YtkodindajfdagaaGreatDoorRowAM
import Derived.Test.YtkodindajfdagaaGreatDoorJA
namespace Go.Proofs.YtkodindajfdagaaGreatDoor
open Go.RowKit
theorem not_all (row : List Bool) (k : Nat) (h : row[k]? = some false) : row.all id = false:=by
 rw [List.all_eq_false]
 exact ⟨false,List.mem_of_getElem? h,by simp⟩
def IdxPost (row : List Bool) (w : World) (e : Ending) (w' : World) : Prop :=
 ∃ n : Int,e = .returned (.int .i64 n) ∧ decide (0 ≤ n) = !row.all id ∧ w = w'
theorem index_any (w : World) (v : Value) (row : List Bool) (h : Sl w v (tv row)) :
   Calls Tryz.prog 125 #[v,.bool false] w (IdxPost row w):=by
 obtain ⟨ao,cap,rfl,hc1,hc2,hel⟩:=h.out
 rw [tv_length] at *
 have HEL:=Lib.hid hel
 clear hel h
 go_enter Tryz.func125,Tryz.ntmps125
 go_wp2
 go_loop [8] (fun i => ∃ k : Nat,k ≤ row.length ∧ i = .int .i64 k ∧ Hid ((row.take k).all id = true)) (fun i => row.length - (intOf i).toNat)
 case atStart => exact ⟨0,Nat.zero_le _,rfl,by show (row.take 0).all id = true;simp⟩
 case round =>
   obtain ⟨k,hk,rfl,hall⟩:=hrel
   by_cases hlt : k < row.length
   · have hlt' : (k : Int) < (row.length : Int):=by omega
     obtain ⟨b1,of1,rfl,hbl,cc⟩:=HEL.out k hlt
     obtain ⟨x,hx⟩:=some_get row k hlt
     have d1 : w.cell? ⟨b1,of1 + k,none⟩ = some (.bool x):=by rw [cc _ hlt,tv_get _ _ _ hx]
     have HX:=Lib.hid hx
     clear cc hx
     cases x
     · go_wp2
       go_ret
       exact ⟨k,rfl,by rw [not_all row k HX.out];simp,rfl⟩
     · go_wp2
       go_round
       case rel => exact ⟨k + 1,by omega,by go_num,by show (row.take (k + 1)).all id = true;rw [all_take row k true HX.out,hall.out];rfl⟩
       case measure => simp [intOf];omega
   · have hlt' : (row.length : Int) ≤ (k : Int):=by omega
     go_wp2
     go_ret
     have hall':=hall.out
     rw [List.take_of_length_le (by omega)] at hall'
     exact ⟨-1,rfl,by rw [hall'];rfl,rfl⟩
theorem contains_any (w : World) (v : Value) (row : List Bool) (h : Sl w v (tv row)) :
   Calls Tryz.prog 98 #[v,.bool false] w fun e w' => e = .returned (.bool (!row.all id)) ∧ w = w':=by
 go_enter Tryz.func98,Tryz.ntmps98
 go_wp2_with fail
 refine (index_any w v row h).mono ?_
 rintro e w1 ⟨n,rfl,hn,rfl⟩
 have HN:=Lib.hid hn
 clear hn
 go_wp2_with fail
 go_ret
 exact ⟨by rw [← HN.out];rfl,rfl⟩
theorem puttold_any (w : World) (v1 v2 : Value) (b : List UInt8) (row : List Bool) (h : Sl w v1 (bv b)) (h2 : Sl w v2 (tv row)) (hb : b.length ≤ 140737488354000 - row.length) (hr : row.length ≤ 140737488354000) :
   Calls Tryz.prog 99 #[v1,v2] w (NewBytes (putTold b row) w):=by
 by_cases ha : row.all id = true
 · have e : putTold b row = b ++ [1]:=by unfold putTold;rw [if_pos ha]
   rw [e]
   have HA:=Lib.hid ha
   clear ha e
   go_enter Tryz.func99,Tryz.ntmps99
   go_wp2_with fail
   refine (contains_any w v2 row h2).mono ?_
   rintro e w1 ⟨rfl,rfl⟩
   rw [HA.out]
   go_wp2_with fail
   refine (clone_any w v1 b h (by omega)).mono ?_
   rintro e w1 ⟨r,rfl,hown1,hf1⟩
   clear h h2
   go_wp2_with (at_builtin;refine wpList_append_one sty_u8 rfl _ _ rfl hf1 _ _ _ (by rfl) hown1 _ (by rfl) (by rfl) ?_ ?_ ?_)
   · omega
   · omega
   intro v4 w4 hown4 hF4
   clear hown1 hf1
   go_wp2_with fail
   go_ret
   refine ⟨_,rfl,?_,hF4⟩
   rw [bv_append,List.length_append]
   exact hown4
 · have ha' : row.all id = false:=by simpa using ha
   have e : putTold b row = (b ++ [0]) ++ packBits row:=by unfold putTold;rw [if_neg ha]
   rw [e]
   have HA:=Lib.hid ha'
   clear ha e ha'
   go_enter Tryz.func99,Tryz.ntmps99
   go_wp2_with fail
   refine (contains_any w v2 row h2).mono ?_
   rintro e w1 ⟨rfl,rfl⟩
   rw [HA.out]
   go_wp2_with fail
   refine (clone_any w v1 b h (by omega)).mono ?_
   rintro e w1 ⟨r,rfl,hown1,hf1⟩
   clear h
   go_wp2_with (at_builtin;refine wpList_append_one sty_u8 rfl _ _ rfl hf1 _ _ _ (by rfl) hown1 _ (by rfl) (by rfl) ?_ ?_ ?_)
   · omega
   · omega
   intro v4 w4 hown4 hF4
   have e1 : bv b ++ [Value.int .u8 0] = bv (b ++ [0]):=by rw [bv_append];rfl
   rw [e1] at hown4
   have h2':=h2.fr0 hF4
   have hz:=hF4.size
   clear hown1 hf1 h2 e1
   go_wp2_with fail
   refine (putbits_any w4 _ _ _ row (Sl.of_own hown4) h2' (by simp;omega) (by omega)).mono ?_
   rintro e w5 ⟨r5,rfl,hown5,hf5⟩
   clear hown4 h2'
   go_wp2_with fail
   go_ret
   exact ⟨_,rfl,own_mono hown5 hz,hF4.trans0 hf5⟩
end Go.Proofs.YtkodindajfdagaaGreatDoor
/- Contract: slices.Contains of a true. No condition. -/
namespace Go.Proofs.YtkodindajfdagaaGreatDoor
open Go.RowKit
def IdxTrue (row : List Bool) (w : World) (e : Ending) (w' : World) : Prop :=
 ∃ n : Int,e = .returned (.int .i64 n) ∧ decide (0 ≤ n) = decide (true ∈ row) ∧ w = w'
theorem indext_any (w : World) (v : Value) (row : List Bool) (h : Sl w v (tv row)) :
   Calls Tryz.prog 125 #[v,.bool true] w (IdxTrue row w):=by
 obtain ⟨ao,cap,rfl,hc1,hc2,hel⟩:=h.out
 rw [tv_length] at *
 have HEL:=Lib.hid hel
 clear hel h
 go_enter Tryz.func125,Tryz.ntmps125
 go_wp2
 go_loop [8] (fun i => ∃ k : Nat,k ≤ row.length ∧ i = .int .i64 k ∧ Hid (true ∉ row.take k)) (fun i => row.length - (intOf i).toNat)
 case atStart => exact ⟨0,Nat.zero_le _,rfl,by show true ∉ row.take 0;simp⟩
 case round =>
   obtain ⟨k,hk,rfl,hall⟩:=hrel
   by_cases hlt : k < row.length
   · have hlt' : (k : Int) < (row.length : Int):=by omega
     obtain ⟨b1,of1,rfl,hbl,cc⟩:=HEL.out k hlt
     obtain ⟨x,hx⟩:=some_get row k hlt
     have d1 : w.cell? ⟨b1,of1 + k,none⟩ = some (.bool x):=by rw [cc _ hlt,tv_get _ _ _ hx]
     have HX:=Lib.hid hx
     clear cc hx
     cases x
     · go_wp2
       go_round
       case rel => exact ⟨k + 1,by omega,by go_num,by show true ∉ row.take (k + 1);rw [List.take_add_one,HX.out];have:=hall.out;simp [this]⟩
       case measure => simp [intOf];omega
     · go_wp2
       go_ret
       exact ⟨k,rfl,by rw [decide_eq_true (List.mem_of_getElem? HX.out)];simp,rfl⟩
   · have hlt' : (row.length : Int) ≤ (k : Int):=by omega
     go_wp2
     go_ret
     have hall':=hall.out
     rw [List.take_of_length_le (by omega)] at hall'
     exact ⟨-1,rfl,by rw [decide_eq_false hall'];rfl,rfl⟩
theorem containst_any (w : World) (v : Value) (row : List Bool) (h : Sl w v (tv row)) :
   Calls Tryz.prog 98 #[v,.bool true] w fun e w' => e = .returned (.bool (decide (true ∈ row))) ∧ w = w':=by
 go_enter Tryz.func98,Tryz.ntmps98
 go_wp2_with fail
 refine (indext_any w v row h).mono ?_
 rintro e w1 ⟨n,rfl,hn,rfl⟩
 have HN:=Lib.hid hn
 clear hn
 go_wp2_with fail
 go_ret
 exact ⟨by rw [← HN.out];rfl,rfl⟩
end Go.Proofs.YtkodindajfdagaaGreatDoor
