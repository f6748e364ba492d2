/- Contract: the reader's method. No condition but that lengths fit. -/
import Derived.Test.YtkodindajfdagaaGreatDoorJH
import Derived.Test.YtkodindajfdagaaGreatDoorHConvM
import Derived.Deep.RegionHeld3
namespace Go.Proofs.YtkodindajfdagaaGreatDoor
open Go.RowKit
def methodOf (l : List UInt8) : Nat :=
 if l = [0] then 1 else if l = [3] then 2 else if l = [3,3,1,3] then 3 else if l = [3,1,1] then 4 else if l = [33] then 5 else if l = [3,3,1,27] then 6 else if l = [3,4,1] then 7 else 0
def Rs.method (s : Rs) (l : List UInt8) : Nat × Rs :=
 if methodOf l ≠ 0 then (methodOf l,s) else if l = [6,241,7,1] then (0,s.fail 9) else (0,s.fail 8)
set_option maxRecDepth 100000 in
set_option maxHeartbeats 4000000 in
theorem method_any (w : World) (p cp : Nat) (q : Option Nat) (s : Rs) (d : DV) (v : Value) (l : List UInt8) (h : RdAt w p cp q s d) (hv : Sl w v (bv l)) :
   Calls Tryz.prog 143 #[.pointer (some ⟨p,0,none⟩),v] w fun e w' => e = .returned (.int .i64 ((s.method l).1 : Int)) ∧ RdAt w' p cp q (s.method l).2 d ∧ Fr [p] w w':=by
 have HR:=Lib.hid h
 obtain ⟨ao,cap,rfl,-⟩:=hv.out
 rw [bv_length] at hv ⊢
 have hcv:=conv_sl w ao l.length cap l rfl hv
 clear h hv
 by_cases h0 : l = [0]
 · have HE:=Lib.hid (show s.method l = (1,s) by rw [h0];rfl)
   have t0 : (l == [0]) = true:=by rw [beq_iff_eq];exact h0
   clear h0
   go_enter Tryz.func143,Tryz.ntmps143
   go_wp2_with fail
   go_ret
   exact ⟨by rw [HE.out];rfl,by rw [HE.out];exact HR.out,Fr.refl _ _⟩
 have t0 : (l == [0]) = false:=by rw [beq_eq_false_iff_ne];exact h0
 by_cases h1 : l = [3]
 · have HE:=Lib.hid (show s.method l = (2,s) by rw [h1];rfl)
   have t1 : (l == [3]) = true:=by rw [beq_iff_eq];exact h1
   clear h0 h1
   go_enter Tryz.func143,Tryz.ntmps143
   go_wp2_with fail
   go_ret
   exact ⟨by rw [HE.out];rfl,by rw [HE.out];exact HR.out,Fr.refl _ _⟩
 have t1 : (l == [3]) = false:=by rw [beq_eq_false_iff_ne];exact h1
 by_cases h2 : l = [3,3,1,3]
 · have HE:=Lib.hid (show s.method l = (3,s) by rw [h2];rfl)
   have t2 : (l == [3,3,1,3]) = true:=by rw [beq_iff_eq];exact h2
   clear h0 h1 h2
   go_enter Tryz.func143,Tryz.ntmps143
   go_wp2_with fail
   go_ret
   exact ⟨by rw [HE.out];rfl,by rw [HE.out];exact HR.out,Fr.refl _ _⟩
 have t2 : (l == [3,3,1,3]) = false:=by rw [beq_eq_false_iff_ne];exact h2
 by_cases h3 : l = [3,1,1]
 · have HE:=Lib.hid (show s.method l = (4,s) by rw [h3];rfl)
   have t3 : (l == [3,1,1]) = true:=by rw [beq_iff_eq];exact h3
   clear h0 h1 h2 h3
   go_enter Tryz.func143,Tryz.ntmps143
   go_wp2_with fail
   go_ret
   exact ⟨by rw [HE.out];rfl,by rw [HE.out];exact HR.out,Fr.refl _ _⟩
 have t3 : (l == [3,1,1]) = false:=by rw [beq_eq_false_iff_ne];exact h3
 by_cases h4 : l = [33]
 · have HE:=Lib.hid (show s.method l = (5,s) by rw [h4];rfl)
   have t4 : (l == [33]) = true:=by rw [beq_iff_eq];exact h4
   clear h0 h1 h2 h3 h4
   go_enter Tryz.func143,Tryz.ntmps143
   go_wp2_with fail
   go_ret
   exact ⟨by rw [HE.out];rfl,by rw [HE.out];exact HR.out,Fr.refl _ _⟩
 have t4 : (l == [33]) = false:=by rw [beq_eq_false_iff_ne];exact h4
 by_cases h5 : l = [3,3,1,27]
 · have HE:=Lib.hid (show s.method l = (6,s) by rw [h5];rfl)
   have t5 : (l == [3,3,1,27]) = true:=by rw [beq_iff_eq];exact h5
   clear h0 h1 h2 h3 h4 h5
   go_enter Tryz.func143,Tryz.ntmps143
   go_wp2_with fail
   go_ret
   exact ⟨by rw [HE.out];rfl,by rw [HE.out];exact HR.out,Fr.refl _ _⟩
 have t5 : (l == [3,3,1,27]) = false:=by rw [beq_eq_false_iff_ne];exact h5
 by_cases h6 : l = [3,4,1]
 · have HE:=Lib.hid (show s.method l = (7,s) by rw [h6];rfl)
   have t6 : (l == [3,4,1]) = true:=by rw [beq_iff_eq];exact h6
   clear h0 h1 h2 h3 h4 h5 h6
   go_enter Tryz.func143,Tryz.ntmps143
   go_wp2_with fail
   go_ret
   exact ⟨by rw [HE.out];rfl,by rw [HE.out];exact HR.out,Fr.refl _ _⟩
 have t6 : (l == [3,4,1]) = false:=by rw [beq_eq_false_iff_ne];exact h6
 have HM:=Lib.hid (show methodOf l = 0 by unfold methodOf;rw [if_neg h0,if_neg h1,if_neg h2,if_neg h3,if_neg h4,if_neg h5,if_neg h6])
 by_cases h7 : l = [6,241,7,1]
 · have HE:=Lib.hid (show s.method l = (0,s.fail 9) by unfold Rs.method;rw [if_neg (by rw [HM.out];simp),if_pos h7])
   have t7 : (l == [6,241,7,1]) = true:=by rw [beq_iff_eq];exact h7
   clear h0 h1 h2 h3 h4 h5 h6 h7
   go_enter Tryz.func143,Tryz.ntmps143
   go_wp2_with (go_at_call 38;refine (rfail_any _ p cp q s d 9 HR.out).mono ?_;rintro e w4 ⟨rfl,R4,F4⟩)
   go_ret
   exact ⟨by rw [HE.out];rfl,by rw [HE.out];exact R4,F4⟩
 · have HE:=Lib.hid (show s.method l = (0,s.fail 8) by unfold Rs.method;rw [if_neg (by rw [HM.out];simp),if_neg h7])
   have t7 : (l == [6,241,7,1]) = false:=by rw [beq_eq_false_iff_ne];exact h7
   clear h0 h1 h2 h3 h4 h5 h6 h7
   go_enter Tryz.func143,Tryz.ntmps143
   go_wp2_with (go_at_call 38;refine (rfail_any _ p cp q s d 8 HR.out).mono ?_;rintro e w4 ⟨rfl,R4,F4⟩)
   go_ret
   exact ⟨by rw [HE.out];rfl,by rw [HE.out];exact R4,F4⟩
end Go.Proofs.YtkodindajfdagaaGreatDoor
/- Bits of a byte. No condition. -/
namespace Go.Proofs.YtkodindajfdagaaGreatDoor
open Go.RowKit
theorem and_bits (m : Nat) (k : Nat) (hm : m = 2 ^ k - 1) (f : Nat) (hf : f < 256) (hk : k ≤ 8) : Go.bits .and .i64 (f : Int) (m : Int) = ((f % 2 ^ k : Nat) : Int):=by
 show IntKind.i64.wrap ((BitVec.ofInt 64 (f : Int) &&& BitVec.ofInt 64 (m : Int)).toNat : Int) = _
 have hp : 2 ^ k ≤ 2 ^ 8:=Nat.pow_le_pow_right (by omega) hk
 have hp1 : 1 ≤ 2 ^ k:=Nat.one_le_two_pow
 have h1 : (BitVec.ofInt 64 (m : Int)).toNat = 2 ^ k - 1:=by simp;omega
 have h2 : (BitVec.ofInt 64 (f : Int)).toNat = f:=by simp;omega
 rw [BitVec.toNat_and,h1,h2,Nat.and_two_pow_sub_one_eq_mod]
 have : f % 2 ^ k < 2 ^ k:=Nat.mod_lt _ (by omega)
 exact IntWalk.i64_in _ (by omega)
theorem and15 (f : Nat) (hf : f < 256) : Go.bits .and .i64 (f : Int) 15 = ((f % 16 : Nat) : Int):=and_bits 15 4 rfl f hf (by omega)
theorem and192 : ∀ f : Fin 256,(Go.bits .and .i64 (f.val : Int) 192 == 0) = decide (f.val / 64 = 0):=by decide +kernel
theorem and16 : ∀ f : Fin 256,(Go.bits .and .i64 (f.val : Int) 16 == 0) = !(f.val / 16 % 2 == 1):=by decide +kernel
theorem and32 : ∀ f : Fin 256,(Go.bits .and .i64 (f.val : Int) 32 == 0) = !(f.val / 32 % 2 == 1):=by decide +kernel
end Go.Proofs.YtkodindajfdagaaGreatDoor
/- Contract: the reader's coder. No condition but that lengths fit. -/
namespace Go.Proofs.YtkodindajfdagaaGreatDoor
open Go.RowKit
def Rs.two (s : Rs) (c : Bool) : (Nat × Nat) × Rs:=if (s.at c).1 then (((s.at c).2.number.1,(s.at c).2.number.2.number.1),(s.at c).2.number.2.number.2) else ((1,1),(s.at c).2)
def Rs.check (s : Rs) (bad : Bool) (e : Nat) : Rs:=if s.ok.k = 0 ∧ bad = true then s.ok.fail e else s.ok
def Rs.take (s : Rs) (n : Nat) : List UInt8 × Rs:=((s.c.take n).1,{ s with c:=(s.c.take n).2 })
def Rs.propsOf (s : Rs) (c : Bool) : List UInt8 × Rs:=if (s.at c).1 then (s.at c).2.things.2.take (s.at c).2.things.1 else ([],(s.at c).2)
def Rs.coderB (f : Nat) (m : Nat) (s : Rs) : Coder × Rs :=
 (⟨m,(((s.two (f / 16 % 2 == 1)).2.check (((s.two (f / 16 % 2 == 1)).1.1 != ins m) || ((s.two (f / 16 % 2 == 1)).1.2 != 1)) 10).propsOf (f / 32 % 2 == 1)).1⟩,
   (((s.two (f / 16 % 2 == 1)).2.check (((s.two (f / 16 % 2 == 1)).1.1 != ins m) || ((s.two (f / 16 % 2 == 1)).1.2 != 1)) 10).propsOf (f / 32 % 2 == 1)).2)
def Rs.coderA (f : Nat) (l : List UInt8) (s : Rs) : Coder × Rs :=
 if s.ok.k ≠ 0 then (⟨0,[]⟩,s.ok) else Rs.coderB f (s.ok.method l).1 (s.ok.method l).2
def Rs.coder (s : Rs) : Coder × Rs:=Rs.coderA s.byte.1 ((s.byte.2.check (decide (s.byte.1 / 64 ≠ 0)) 5).take (s.byte.1 % 16)).1 ((s.byte.2.check (decide (s.byte.1 / 64 ≠ 0)) 5).take (s.byte.1 % 16)).2
def CoderR (w : World) (p cp : Nat) (q : Option Nat) (r : Coder × Rs) (d : DV) (e : Ending) (w' : World) : Prop :=
 (∃ v,e = .returned (.agg #[.int .i64 r.1.method,v]) ∧ Sm w' w.heap.size 5 1 v r.1.props.length (bv r.1.props)) ∧ RdAt w' p cp q r.2 d ∧ Fr [p,cp] w w'
structure CoSt (w : World) (p cp : Nat) (q : Option Nat) (s : Rs) (d : DV) (m : Int) (pv : Value) (wx : World) : Prop where
 rd : RdAt wx p cp q s d
 b0 : wx.heap[w.heap.size]? = some (.cells #[.int .i64 0,.slice none 0 0] 72 (0,0))
 b1 : wx.heap[w.heap.size + 1]? = some (.cells #[.int .i64 m,pv] 72 (0,0))
 fr : Fr [p,cp] w wx
theorem CoSt.on {w : World} {p cp : Nat} {q : Option Nat} {s s' : Rs} {d : DV} {m : Int} {pv : Value} {wx wy : World} (h : CoSt w p cp q s d m pv wx) (hp : p < w.heap.size) (hc : cp < w.heap.size) (F : Fr [p,cp] wx wy) (R : RdAt wy p cp q s' d) : CoSt w p cp q s' d m pv wy :=
 ⟨R,(F.block _ (Array.getElem?_eq_some_iff.1 h.b0).1 (by simp;omega)).trans h.b0,(F.block _ (Array.getElem?_eq_some_iff.1 h.b1).1 (by simp;omega)).trans h.b1,h.fr.tr2 F⟩
theorem CoSt.done {w : World} {p cp : Nat} {q : Option Nat} {s : Rs} {d : DV} {m : Int} {pv : Value} {wx : World} (h : CoSt w p cp q s d m pv wx) (hp : p < w.heap.size) (hc : cp < w.heap.size) (hq : ∀ k,q = some k → k < w.heap.size) (a b : Value) {wF : World} (hF : wF = (wx.setCell ⟨w.heap.size,0,none⟩ a).setCell ⟨w.heap.size,1,none⟩ b) :
   wF.heap[w.heap.size]? = some (.cells #[a,b] 72 (0,0)) ∧ RdAt wF p cp q s d ∧ Fr [p,cp] w wF ∧ Fr [w.heap.size] wx wF:=by
 have F1 : Fr [w.heap.size] wx wF:=hF ▸ ((Fr.refl _ _).setCell (by simp) _).setCell (by simp) _
 refine ⟨hF ▸ Go.Joins.block_setCell (Go.Joins.block_setCell h.b0 _) _,h.rd.fr F1 (by simp;omega) (by simp;omega) (fun k hk => by have:=hq k hk;simp;omega),?_,F1⟩
 rw [hF]
 exact (h.fr.setCell (.inr (Nat.le_refl _)) _).setCell (.inr (Nat.le_refl _)) _
theorem Rs.number_cb (s : Rs) : s.number.2.c.b = s.c.b:=number_b s.c
theorem cells2 {w : World} {g : Nat} {t : TypeId} {a0 a1 : Value} (h : w.heap[g]? = some (.cells #[a0,a1] t (0,0))) :
   w.cell? ⟨g,0,none⟩ = some a0 ∧ w.cell? ⟨g,1,none⟩ = some a1 ∧ (∀ j,w.frozen? ⟨g,j,none⟩ = false) :=
 ⟨by simp [Go.Joins.cell_of_block h],by simp [Go.Joins.cell_of_block h],fun j => Go.Joins.unfrozen_of_block h j⟩
set_option maxRecDepth 100000 in
set_option maxHeartbeats 4000000 in
theorem coder_any (w : World) (p cp : Nat) (q : Option Nat) (s : Rs) (d : DV) (h : RdAt w p cp q s d) (hb : s.c.b.length ≤ 10000000) :
   Calls Tryz.prog 132 #[.pointer (some ⟨p,0,none⟩)] w (CoderR w p cp q s.coder d):=by
 have HLT:=Lib.hid (And.intro h.lt h.cur.lt)
 have HLQ:=Lib.hid h.ql
 have HBY:=Lib.hid (fun w d (h : RdAt w p cp q s d) => byte_any w p cp q s d h hb)
 have HB1:=Lib.hid (show s.byte.2.c.b.length ≤ 10000000 by rw [byte_b];exact hb)
 have HF:=Lib.hid (num1_lt s)
 have HS:=Lib.hid (show s.coder = Rs.coderA s.byte.1 ((s.byte.2.check (decide (s.byte.1 / 64 ≠ 0)) 5).take (s.byte.1 % 16)).1 ((s.byte.2.check (decide (s.byte.1 / 64 ≠ 0)) 5).take (s.byte.1 % 16)).2 from rfl)
 obtain ⟨wB,hwB⟩ : ∃ wB,wB = (w.alloc (.cells #[.int .i64 0,.slice none 0 0] 72)).alloc (.cells #[.int .i64 0,.slice none 0 0] 72):=⟨_,rfl⟩
 have hsz : wB.heap.size = w.heap.size + 2:=by rw [hwB];simp
 have F0 : Fr [] w wB:=hwB ▸ ((Fr.refl _ _).alloc _).alloc _
 have C0 : CoSt w p cp q s d 0 (.slice none 0 0) wB:=by
   refine ⟨h.fr0 F0,?_,?_,F0.mono (by simp)⟩
   · rw [hwB,Below.heap_alloc _ _ _ (by simp)]
     exact heap_alloc_new w _
   · rw [hwB]
     have:=heap_alloc_new (w.alloc (.cells #[.int .i64 0,.slice none 0 0] 72)) (.cells #[.int .i64 0,.slice none 0 0] 72)
     simpa using this
 clear h hb hsz
 generalize s.byte.2 = t at *
 generalize s.byte.1 = f at *
 go_enter Tryz.func132,Tryz.ntmps132
 go_upto_region 2 with fail
 rename_i K0 hK0
 rw [← hwB]
 clear hwB
 go_cut [4] (fun v wx => v = .int .i64 (f : Int) ∧ CoSt w p cp q t d 0 (.slice none 0 0) wx)
 case first =>
   clear hK0
   go_wp2_with (go_at_call 34;refine (HBY.out _ _ C0.rd).mono ?_;rintro e w1 ⟨rfl,R1,F1⟩)
   go_meet
   case rel => exact ⟨rfl,C0.on HLT.out.1 HLT.out.2 F1.two2 R1⟩
 case rest =>
 obtain ⟨rfl,C1⟩:=hcut
 clear C0
 (refine hK0 _ _ ?_;clear hK0;refine wp_seq_k fun K1 hK1 => ?_)
 go_cut [] (fun wx => CoSt w p cp q (t.check (decide (f / 64 ≠ 0)) 5) d 0 (.slice none 0 0) wx)
 case first =>
   clear hK1
   by_cases hk : t.ok.k = 0
   · have HK:=Lib.hid (show (t.ok.k == 0) = true by rw [hk];rfl)
     have HO:=Lib.hid (Rs.ok_of_zero hk)
     have HA:=Lib.hid (and192 ⟨f,HF.out⟩)
     by_cases h64 : f / 64 = 0
     · have HE:=Lib.hid (show t.check (decide (f / 64 ≠ 0)) 5 = t by unfold Rs.check;rw [if_neg (by simp [h64]),Rs.ok_of_zero hk])
       have t0 : (Go.bits .and .i64 (f : Int) 192 == 0) = true:=by rw [HA.out];simpa using h64
       clear hk h64
       go_wp2_with (go_at_call 37;refine (ok_any _ p cp q t d C1.rd).mono ?_;rw [HK.out,HO.out];rintro e w2 ⟨rfl,R2,F2⟩)
       go_meet
       case rel => rw [HE.out];exact C1.on HLT.out.1 HLT.out.2 F2.two1 R2
     · have HE:=Lib.hid (show t.check (decide (f / 64 ≠ 0)) 5 = t.fail 5 by unfold Rs.check;rw [if_pos ⟨hk,by simpa using h64⟩,Rs.ok_of_zero hk])
       have t0 : (Go.bits .and .i64 (f : Int) 192 == 0) = false:=by rw [HA.out];simpa using h64
       clear hk h64
       go_wp2_with (first
         | (have hq:=R2;go_at_call 38;refine (rfail_any _ p cp q t d 5 R2).mono ?_;rintro e w3 ⟨rfl,R3,F3⟩)
         | (go_at_call 37;refine (ok_any _ p cp q t d C1.rd).mono ?_;rw [HK.out,HO.out];rintro e w2 ⟨rfl,R2,F2⟩))
       go_meet
       case rel => rw [HE.out];exact C1.on HLT.out.1 HLT.out.2 (F2.two1.tr2 F3.two1) R3
   · have HK:=Lib.hid (show (t.ok.k == 0) = false by rw [beq_eq_false_iff_ne];exact hk)
     have HE:=Lib.hid (show t.check (decide (f / 64 ≠ 0)) 5 = t.ok by unfold Rs.check;rw [if_neg (fun h => hk h.1)])
     clear hk
     go_wp2_with (go_at_call 37;refine (ok_any _ p cp q t d C1.rd).mono ?_;rw [HK.out];rintro e w2 ⟨rfl,R2,F2⟩)
     go_meet
     case rel => rw [HE.out];exact C1.on HLT.out.1 HLT.out.2 F2.two1 R2
 case rest =>
 have C2:=hcut
 clear C1 hcut
 have HB2:=Lib.hid (show (t.check (decide (f / 64 ≠ 0)) 5).c.b.length ≤ 10000000 by unfold Rs.check;split <;> exact HB1.out)
 generalize t.check (decide (f / 64 ≠ 0)) 5 = s1 at *
 (refine hK1 _ _ ?_;clear hK1;refine wp_seq_k fun K2 hK2 => ?_)
 have HT1:=Lib.hid (show (s1.c.take (f % 16)).1 = (s1.take (f % 16)).1 from rfl)
 have HT2:=Lib.hid (show ({ s1 with c:=(s1.c.take (f % 16)).2 } : Rs) = (s1.take (f % 16)).2 from rfl)
 have HB3:=Lib.hid (show (s1.take (f % 16)).2.c.b.length ≤ 10000000 by show (s1.c.take (f % 16)).2.b.length ≤ 10000000;rw [Cur.take_b];exact HB2.out)
 generalize (s1.take (f % 16)).2 = s2 at *
 generalize (s1.take (f % 16)).1 = nm at *
 go_cut [5] (fun v wx => Sl wx v (bv nm) ∧ (∀ k,v.ownBlock = some k → k ≠ p ∧ k ≠ cp) ∧ CoSt w p cp q s2 d 0 (.slice none 0 0) wx)
 case first =>
   clear hK2
   have h15:=and15 f HF.out
   have hm15 : ((f % 16 : Nat) : Int) < 16:=by omega
   obtain ⟨d0,-⟩:=cells9 C2.rd.blk
   have HB4:=Lib.hid (show s1.c.b.length ≤ 140737488355328 by have:=HB2.out;omega)
   obtain ⟨m,hm⟩ : ∃ m,f % 16 = m:=⟨_,rfl⟩
   rw [hm] at h15 hm15 HT1 HT2
   clear hm
   go_wp2_with (go_at_call 57;refine (take_any _ cp q s1.c m m rfl (by omega) C2.rd.cur HB4.out).mono ?_;intro e w3 h3;unfold TakeBytes at h3;rw [HT1.out] at h3;obtain ⟨nv,rfl,own3,hC,F3⟩:=h3;have R3:=C2.rd.cur' F3 hC;rw [HT2.out] at R3;obtain ⟨nao,ncap,rfl,-⟩:=own_outS own3)
   go_meet
   case rel => exact ⟨Sl.of_own own3,fun k hk => by have:=(own_ltS own3 k hk).1;have:=HLT.out;have:=C2.fr.size;omega,C2.on HLT.out.1 HLT.out.2 F3.two2 R3⟩
 case rest =>
 obtain ⟨hnv,hnb,C3⟩:=hcut
 obtain ⟨nao,ncap,rfl,-⟩:=hnv.out
 clear C2
 (refine hK2 _ _ ?_;clear hK2;refine wp_seq_k fun K3 hK3 => ?_)
 go_cut [] (fun wx => s2.ok.k = 0 ∧ Sl wx (.slice nao (bv nm).length ncap) (bv nm) ∧ CoSt w p cp q s2 d 0 (.slice none 0 0) wx)
 case first =>
   clear hK3
   by_cases hk : s2.ok.k = 0
   · have HK:=Lib.hid (show (s2.ok.k == 0) = true by rw [hk];rfl)
     have HO:=Lib.hid (Rs.ok_of_zero hk)
     have HKK:=Lib.hid hk
     clear hk
     go_wp2_with (go_at_call 37;refine (ok_any _ p cp q s2 d C3.rd).mono ?_;rw [HK.out,HO.out];rintro e w4 ⟨rfl,R4,F4⟩)
     go_meet
     case rel => exact ⟨HKK.out,hnv.fr F4 (fun k hk hm => (hnb k hk).1 (List.mem_singleton.1 hm)),C3.on HLT.out.1 HLT.out.2 F4.two1 R4⟩
   · have HK:=Lib.hid (show (s2.ok.k == 0) = false by rw [beq_eq_false_iff_ne];exact hk)
     have HE:=Lib.hid (show s.coder = (⟨0,[]⟩,s2.ok) by rw [HS.out,Rs.coderA,if_pos hk])
     clear hk
     go_wp2_with (go_at_call 37;refine (ok_any _ p cp q s2 d C3.rd).mono ?_;rw [HK.out];rintro e w4 ⟨rfl,R4,F4⟩;have C4:=C3.on HLT.out.1 HLT.out.2 F4.two1 R4;obtain ⟨i0,i1,iz⟩:=cells2 C4.b0;obtain ⟨j0,j1,jz⟩:=cells2 C4.b1)
     obtain ⟨wF,hwF⟩ : ∃ wF,wF = (w4.setCell ⟨w.heap.size,0,none⟩ (.int .i64 0)).setCell ⟨w.heap.size,1,none⟩ (.slice none 0 0):=⟨_,rfl⟩
     rw [← hwF]
     obtain ⟨hF1,hF2,hF3,-⟩:=C4.done HLT.out.1 HLT.out.2 HLQ.out _ _ hwF
     obtain ⟨r0,r1,-⟩:=cells2 hF1
     refine bodyPost_ret (v:=.agg #[.int .i64 0,.slice none 0 0]) (by simp [results,Tryz.results132,go_sem,r0,r1]) rfl ?_
     exact ⟨⟨.slice none 0 0,by rw [HE.out],by rw [HE.out];exact Sm.nil _ _ _ _⟩,by rw [HE.out];exact hF2,hF3⟩
 case rest =>
 clear hnv hnb
 obtain ⟨hk,hnv,C4⟩:=hcut
 have HSB:=Lib.hid (show s.coder = Rs.coderB f (s2.method nm).1 (s2.method nm).2 by rw [HS.out,Rs.coderA,if_neg (by simp [hk]),Rs.ok_of_zero hk])
 clear C3 hk
 have HB5:=Lib.hid (show (s2.method nm).2.c.b.length ≤ 10000000 by unfold Rs.method;split;exact HB3.out;split <;> exact HB3.out)
 have HMT:=Lib.hid (fun wy (R : RdAt wy p cp q s2 d) hv => method_any wy p cp q s2 d (.slice nao (bv nm).length ncap) nm R hv)
 have HNV:=Lib.hid hnv
 clear hnv
 generalize (s2.method nm).1 = m at *
 generalize (s2.method nm).2 = s3 at *
 (refine hK3 _ _ ?_;clear hK3;refine wp_seq_k fun K4 hK4 => ?_)
 go_cut [] (fun wx => CoSt w p cp q s3 d (m : Int) (.slice none 0 0) wx)
 case first =>
   clear hK4
   obtain ⟨j0,j1,jz⟩:=cells2 C4.b1
   go_wp2_with (go_at_call 143;refine (HMT.out _ C4.rd HNV.out).mono ?_;rintro e w5 ⟨rfl,R5,F5⟩;have C5:=C4.on HLT.out.1 HLT.out.2 F5.two1 R5;obtain ⟨k0,k1,kz⟩:=cells2 C5.b1)
   go_meet
   case rel =>
     have F6 : Fr [w.heap.size + 1] w5 (w5.setCell ⟨w.heap.size + 1,0,none⟩ (.int .i64 (m : Int))):=(Fr.refl _ _).setCell (by simp) _
     refine ⟨R5.fr F6 (by simp;have:=HLT.out;omega) (by simp;have:=HLT.out;omega) (fun k hk => by have:=HLQ.out k hk;simp;omega),(F6.block _ (Array.getElem?_eq_some_iff.1 C5.b0).1 (by simp)).trans C5.b0,Go.Joins.block_setCell C5.b1 _,C5.fr.setCell (.inr (by simp)) _⟩
 case rest =>
 have C5:=hcut
 clear C4 hcut HMT HNV
 (refine hK4 _ _ ?_;clear hK4;refine wp_seq_k fun K5 hK5 => ?_)
 go_cut [6,7] (fun v6 v7 wx => v6 = .int .u64 1 ∧ v7 = .int .u64 1 ∧ CoSt w p cp q s3 d (m : Int) (.slice none 0 0) wx)
 case first =>
   clear hK5
   go_wp2_with fail
   go_meet
   case rel => exact ⟨rfl,rfl,C5⟩
 case rest =>
 clear C5
 obtain ⟨rfl,rfl,C5⟩:=hcut
 (refine hK5 _ _ ?_;clear hK5;refine wp_seq_k fun K6 hK6 => ?_)
 go_cut [6,7] (fun v6 v7 wx => v6 = .int .u64 ((s3.two (f / 16 % 2 == 1)).1.1 : Int) ∧ v7 = .int .u64 ((s3.two (f / 16 % 2 == 1)).1.2 : Int) ∧ CoSt w p cp q (s3.two (f / 16 % 2 == 1)).2 d (m : Int) (.slice none 0 0) wx)
 case first =>
   clear hK6
   have HA:=and16 ⟨f,HF.out⟩
   dsimp only at HA
   generalize (f / 16 % 2 == 1) = c at *
   cases c with
   | false =>
     have t0 : (Go.bits .and .i64 (f : Int) 16 != 0) = false:=by rw [bne,HA];rfl
     have HE:=Lib.hid (show s3.two false = ((1,1),s3) from rfl)
     clear HA
     go_wp2_with fail
     go_meet
     case rel => rw [HE.out];exact ⟨rfl,rfl,C5⟩
   | true =>
     have t0 : (Go.bits .and .i64 (f : Int) 16 != 0) = true:=by rw [bne,HA];rfl
     clear HA
     by_cases hk : s3.ok.k = 0
     · have HK:=Lib.hid (show (s3.ok.k == 0) = true by rw [hk];rfl)
       have HO:=Lib.hid (Rs.ok_of_zero hk)
       have HE:=Lib.hid (show s3.two true = ((s3.number.1,s3.number.2.number.1),s3.number.2.number.2) by rw [Rs.two,Rs.at_true,hk,Rs.ok_of_zero hk];rfl)
       have HN1:=Lib.hid (show s3.c.b.length ≤ 140737488355328 by have:=HB5.out;omega)
       have HN2:=Lib.hid (show s3.number.2.c.b.length ≤ 140737488355328 by rw [show s3.number.2.c.b = s3.c.b from number_b s3.c];have:=HB5.out;omega)
       clear hk
       go_wp2_with (go_at_call 37;refine (ok_any _ p cp q s3 d C5.rd).mono ?_;rw [HK.out,HO.out];rintro e w6 ⟨rfl,R6,F6⟩)
       have R6d:=R6.same Same.drew
       go_region_held3 (fun w' => w'.cell? ⟨p,0,none⟩ = some (.pointer (some ⟨cp,0,none⟩)))
         (first | exact (cells9 R6.blk).1 | exact (cells9 R6d.blk).1 | exact (cells9 R7.blk).1 | exact (cells9 R8.blk).1 | go_keep)
         (first
           | (have hq:=R7;go_at_call 126;refine (number_any _ cp q s3.number.2.c R7.cur HN2.out).mono ?_;rintro e w8 ⟨rfl,hC8,F8⟩;have R8:=R7.cur' F8 hC8)
           | (go_at_call 126;refine (number_any _ cp q s3.c R6d.cur HN1.out).mono ?_;rintro e w7 ⟨rfl,hC7,F7⟩;have R7:=R6d.cur' F7 hC7))
       go_wp2_with fail
       go_meet
       case rel => rw [HE.out];exact ⟨rfl,rfl,C5.on HLT.out.1 HLT.out.2 (((F6.two1.drew).tr2 F7.two2).tr2 F8.two2) R8⟩
     · have HK:=Lib.hid (show (s3.ok.k == 0) = false by rw [beq_eq_false_iff_ne];exact hk)
       have HE:=Lib.hid (show s3.two true = ((1,1),s3.ok) by rw [Rs.two,Rs.at_true,beq_eq_false_iff_ne.2 hk];rfl)
       clear hk
       go_wp2_with (go_at_call 37;refine (ok_any _ p cp q s3 d C5.rd).mono ?_;rw [HK.out];rintro e w6 ⟨rfl,R6,F6⟩)
       go_meet
       case rel => rw [HE.out];exact ⟨rfl,rfl,C5.on HLT.out.1 HLT.out.2 F6.two1 R6⟩
 case rest =>
 clear C5
 obtain ⟨rfl,rfl,C6⟩:=hcut
 have HB6:=Lib.hid (show (s3.two (f / 16 % 2 == 1)).2.c.b.length ≤ 10000000 by
   unfold Rs.two
   split
   · rw [Rs.number_cb,Rs.number_cb,Rs.at_c]
     exact HB5.out
   · rw [Rs.at_c]
     exact HB5.out)
 have HSB2:=Lib.hid (show s.coder = (⟨m,(((s3.two (f / 16 % 2 == 1)).2.check (((s3.two (f / 16 % 2 == 1)).1.1 != ins m) || ((s3.two (f / 16 % 2 == 1)).1.2 != 1)) 10).propsOf (f / 32 % 2 == 1)).1⟩,
   (((s3.two (f / 16 % 2 == 1)).2.check (((s3.two (f / 16 % 2 == 1)).1.1 != ins m) || ((s3.two (f / 16 % 2 == 1)).1.2 != 1)) 10).propsOf (f / 32 % 2 == 1)).2) from HSB.out)
 generalize (s3.two (f / 16 % 2 == 1)).2 = s4 at *
 generalize (s3.two (f / 16 % 2 == 1)).1.1 = n1 at *
 generalize (s3.two (f / 16 % 2 == 1)).1.2 = n2 at *
 (refine hK6 _ _ ?_;clear hK6;refine wp_seq_k fun K7 hK7 => ?_)
 go_cut [6,7] (fun _ _ wx => CoSt w p cp q (s4.check ((n1 != ins m) || (n2 != 1)) 10) d (m : Int) (.slice none 0 0) wx)
 case first =>
   clear hK7
   by_cases hk : s4.ok.k = 0
   · have HK:=Lib.hid (show (s4.ok.k == 0) = true by rw [hk];rfl)
     have HO:=Lib.hid (Rs.ok_of_zero hk)
     have hin : (ins m : Int) ≤ 4:=by have:=ins_le m;omega
     by_cases e1 : n1 = ins m
     · have t1 : ((n1 : Int) != (ins m : Int)) = false:=by rw [bne_eq_false_iff_eq];omega
       by_cases e2 : n2 = 1
       · have t2 : ((n2 : Int) != 1) = false:=by rw [bne_eq_false_iff_eq];omega
         have HE:=Lib.hid (show s4.check ((n1 != ins m) || (n2 != 1)) 10 = s4 by unfold Rs.check;rw [if_neg (by simp [e1,e2]),Rs.ok_of_zero hk])
         clear hk e1 e2
         go_wp2_with (first
           | (have hq:=C7;go_at_call 112;refine (ins_any _ (m : Int) _).mono ?_;rintro e w8 ⟨rfl,F8⟩;have C8:=C7.on HLT.out.1 HLT.out.2 (F8.mono (by simp)) (R7.fr0 F8))
           | (go_at_call 37;refine (ok_any _ p cp q s4 d C6.rd).mono ?_;rw [HK.out,HO.out];rintro e w7 ⟨rfl,R7,F7⟩;have C7:=C6.on HLT.out.1 HLT.out.2 F7.two1 R7;obtain ⟨j0,j1,jz⟩:=cells2 C7.b1))
         go_meet
         case rel => rw [HE.out];exact C8
       · have t2 : ((n2 : Int) != 1) = true:=by rw [bne_iff_ne];omega
         have HE:=Lib.hid (show s4.check ((n1 != ins m) || (n2 != 1)) 10 = s4.fail 10 by unfold Rs.check;rw [if_pos ⟨hk,by simp [e2]⟩,Rs.ok_of_zero hk])
         clear hk e1 e2
         go_wp2_with (first
           | (have hq:=C8;go_at_call 38;refine (rfail_any _ p cp q s4 d 10 C8.rd).mono ?_;rintro e w9 ⟨rfl,R9,F9⟩)
           | (have hq:=C7;go_at_call 112;refine (ins_any _ (m : Int) _).mono ?_;rintro e w8 ⟨rfl,F8⟩;have C8:=C7.on HLT.out.1 HLT.out.2 (F8.mono (by simp)) (R7.fr0 F8))
           | (go_at_call 37;refine (ok_any _ p cp q s4 d C6.rd).mono ?_;rw [HK.out,HO.out];rintro e w7 ⟨rfl,R7,F7⟩;have C7:=C6.on HLT.out.1 HLT.out.2 F7.two1 R7;obtain ⟨j0,j1,jz⟩:=cells2 C7.b1))
         go_meet
         case rel => rw [HE.out];exact C8.on HLT.out.1 HLT.out.2 F9.two1 R9
     · have t1 : ((n1 : Int) != (ins m : Int)) = true:=by rw [bne_iff_ne];omega
       have HE:=Lib.hid (show s4.check ((n1 != ins m) || (n2 != 1)) 10 = s4.fail 10 by unfold Rs.check;rw [if_pos ⟨hk,by simp [e1]⟩,Rs.ok_of_zero hk])
       clear hk e1
       go_wp2_with (first
         | (have hq:=C8;go_at_call 38;refine (rfail_any _ p cp q s4 d 10 C8.rd).mono ?_;rintro e w9 ⟨rfl,R9,F9⟩)
         | (have hq:=C7;go_at_call 112;refine (ins_any _ (m : Int) _).mono ?_;rintro e w8 ⟨rfl,F8⟩;have C8:=C7.on HLT.out.1 HLT.out.2 (F8.mono (by simp)) (R7.fr0 F8))
         | (go_at_call 37;refine (ok_any _ p cp q s4 d C6.rd).mono ?_;rw [HK.out,HO.out];rintro e w7 ⟨rfl,R7,F7⟩;have C7:=C6.on HLT.out.1 HLT.out.2 F7.two1 R7;obtain ⟨j0,j1,jz⟩:=cells2 C7.b1))
       go_meet
       case rel => rw [HE.out];exact C8.on HLT.out.1 HLT.out.2 F9.two1 R9
   · have HK:=Lib.hid (show (s4.ok.k == 0) = false by rw [beq_eq_false_iff_ne];exact hk)
     have HE:=Lib.hid (show s4.check ((n1 != ins m) || (n2 != 1)) 10 = s4.ok by unfold Rs.check;rw [if_neg (fun h => hk h.1)])
     clear hk
     go_wp2_with (go_at_call 37;refine (ok_any _ p cp q s4 d C6.rd).mono ?_;rw [HK.out];rintro e w7 ⟨rfl,R7,F7⟩)
     go_meet
     case rel => rw [HE.out];exact C6.on HLT.out.1 HLT.out.2 F7.two1 R7
 case rest =>
 have C7:=hcut
 clear hcut C6
 have HB7:=Lib.hid (show (s4.check ((n1 != ins m) || (n2 != 1)) 10).c.b.length ≤ 10000000 by unfold Rs.check;split <;> exact HB6.out)
 generalize (s4.check ((n1 != ins m) || (n2 != 1)) 10) = s5 at *
 (refine hK7 _ _ ?_;clear hK7;refine wp_seq_k fun K8 hK8 => ?_)
 go_cut [] (fun wx => ∃ pv,Sm wx (w.heap.size + 2) 5 1 pv (s5.propsOf (f / 32 % 2 == 1)).1.length (bv (s5.propsOf (f / 32 % 2 == 1)).1) ∧ CoSt w p cp q (s5.propsOf (f / 32 % 2 == 1)).2 d (m : Int) pv wx)
 case first =>
   clear hK8
   have HA:=and32 ⟨f,HF.out⟩
   dsimp only at HA
   generalize (f / 32 % 2 == 1) = c at *
   cases c with
   | false =>
     have t0 : (Go.bits .and .i64 (f : Int) 32 != 0) = false:=by rw [bne,HA];rfl
     have HE:=Lib.hid (show s5.propsOf false = ([],s5) from rfl)
     clear HA
     go_wp2_with fail
     go_meet
     case rel => rw [HE.out];exact ⟨_,Sm.nil _ _ _ _,C7⟩
   | true =>
     have t0 : (Go.bits .and .i64 (f : Int) 32 != 0) = true:=by rw [bne,HA];rfl
     clear HA
     by_cases hk : s5.ok.k = 0
     · have HK:=Lib.hid (show (s5.ok.k == 0) = true by rw [hk];rfl)
       have HO:=Lib.hid (Rs.ok_of_zero hk)
       have HE:=Lib.hid (show s5.propsOf true = ((s5.things.2.c.take s5.things.1).1,{ s5.things.2 with c:=(s5.things.2.c.take s5.things.1).2 }) by rw [Rs.propsOf,Rs.at_true,hk,Rs.ok_of_zero hk];rfl)
       have HTH:=Lib.hid (fun wy (R : RdAt wy p cp q s5 d) => things_ok wy p cp q s5 d R HB7.out)
       have HNL:=Lib.hid (Nat.le_trans (things_le s5) HB7.out)
       have HTB:=Lib.hid (show s5.things.2.c.b.length ≤ 140737488355328 by rw [things_b];have:=HB7.out;omega)
       clear hk
       generalize s5.things.2 = s6 at *
       generalize s5.things.1 = n at *
       have hnI : (n : Int) ≤ 10000000:=by have:=HNL.out;omega
       go_wp2_with (go_at_call 37;refine (ok_any _ p cp q s5 d C7.rd).mono ?_;rw [HK.out,HO.out];rintro e w6 ⟨rfl,R6,F6⟩;have C8:=C7.on HLT.out.1 HLT.out.2 F6.two1 R6)
       have C8d:=C8.on HLT.out.1 HLT.out.2 ((Fr.refl _ _).drew) (C8.rd.same Same.drew)
       go_region_held3 (fun w' => w'.cell? ⟨p,0,none⟩ = some (.pointer (some ⟨cp,0,none⟩)))
         (first | exact (cells9 C8.rd.blk).1 | exact (cells9 C8d.rd.blk).1 | exact (cells9 C9.rd.blk).1 | exact (cells9 C10.rd.blk).1 | exact (cells9 R11.blk).1 | go_keep)
         (first
           | (have hq:=C9;go_at_call 57;rw [IntWalk.u64_in (n : Int) (by omega)];refine (take_any _ cp q s6.c n n rfl (by omega) C9.rd.cur HTB.out).mono ?_;rintro e w8 ⟨nv,rfl,own8,hC8,F8⟩;have C10:=C9.on HLT.out.1 HLT.out.2 F8.two2 (C9.rd.cur' F8 hC8);obtain ⟨vao,vcap,rfl,-⟩:=own_outS own8;obtain ⟨k0,k1,kz⟩:=cells2 C10.b1;have F11 : Fr [w.heap.size + 1] w8 (w8.setCell ⟨w.heap.size + 1,1,none⟩ (.slice vao (s6.c.take n).1.length vcap)):=(Fr.refl _ _).setCell (by simp) _;have R11:=C10.rd.fr F11 (by have:=HLT.out;simp;omega) (by have:=HLT.out;simp;omega) (fun k hk => by have:=HLQ.out k hk;simp;omega))
           | (go_at_call 100;refine (HTH.out _ C8d.rd).mono ?_;rintro e w7 ⟨rfl,R7,F7⟩;have C9:=C8d.on HLT.out.1 HLT.out.2 F7 R7))
       go_wp2_with fail
       go_meet
       case rel =>
         rw [HE.out]
         refine ⟨.slice vao (s6.c.take n).1.length vcap,(Sm.of_own (w.heap.size + 2) own8 ?_).fr F11 (by simp),R11,(F11.block _ (Array.getElem?_eq_some_iff.1 C10.b0).1 (by simp)).trans C10.b0,Go.Joins.block_setCell C10.b1 _,C10.fr.setCell (.inr (by simp)) _⟩
         have:=(Array.getElem?_eq_some_iff.1 C9.b1).1
         omega
     · have HK:=Lib.hid (show (s5.ok.k == 0) = false by rw [beq_eq_false_iff_ne];exact hk)
       have HE:=Lib.hid (show s5.propsOf true = ([],s5.ok) by rw [Rs.propsOf,Rs.at_true,beq_eq_false_iff_ne.2 hk];rfl)
       clear hk
       go_wp2_with (go_at_call 37;refine (ok_any _ p cp q s5 d C7.rd).mono ?_;rw [HK.out];rintro e w6 ⟨rfl,R6,F6⟩)
       go_meet
       case rel => rw [HE.out];exact ⟨_,Sm.nil _ _ _ _,C7.on HLT.out.1 HLT.out.2 F6.two1 R6⟩
 case rest =>
 obtain ⟨pv,hpv,C8⟩:=hcut
 obtain ⟨vao,vcap,rfl,-⟩:=hpv.out
 have HPV:=Lib.hid hpv
 have HRes:=Lib.hid (show s.coder = (⟨m,(s5.propsOf (f / 32 % 2 == 1)).1⟩,(s5.propsOf (f / 32 % 2 == 1)).2) from HSB2.out)
 generalize (s5.propsOf (f / 32 % 2 == 1)).1 = ps at *
 generalize (s5.propsOf (f / 32 % 2 == 1)).2 = s7 at *
 obtain ⟨i0,i1,iz⟩:=cells2 C8.b0
 obtain ⟨j0,j1,jz⟩:=cells2 C8.b1
 clear hpv C7
 go_wp2_with fail
 obtain ⟨wF,hwF⟩ : ∃ wF,wF = (wc.setCell ⟨w.heap.size,0,none⟩ (.int .i64 (m : Int))).setCell ⟨w.heap.size,1,none⟩ (.slice vao ps.length vcap):=⟨_,rfl⟩
 rw [← hwF]
 obtain ⟨hF1,hF2,hF3,hF4⟩:=C8.done HLT.out.1 HLT.out.2 HLQ.out _ _ hwF
 obtain ⟨r0,r1,-⟩:=cells2 hF1
 refine bodyPost_ret (v:=.agg #[.int .i64 (m : Int),.slice vao ps.length vcap]) (by simp [results,Tryz.results132,go_sem,r0,r1]) rfl ?_
 refine ⟨⟨.slice vao ps.length vcap,by rw [HRes.out],?_⟩,by rw [HRes.out];exact hF2,hF3⟩
 rw [HRes.out]
 exact (HPV.out.fr hF4 (by simp)).mono (by omega)
end Go.Proofs.YtkodindajfdagaaGreatDoor
