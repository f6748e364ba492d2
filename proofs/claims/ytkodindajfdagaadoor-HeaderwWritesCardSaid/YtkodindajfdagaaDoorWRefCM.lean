/- Contract: the reference's coder. No condition but that lengths fit. -/
import Derived.Test.YtkodindajfdagaaDoorGAU
import Derived.Test.YtkodindajfdagaaDoorWFolderM
import Derived.Deep.DeepCutAuto
import Derived.Deep.RegionHeld3
namespace Go.Proofs.YtkodindajfdagaaDoor
open Go.RowKit

theorem meth_get (k : Nat) (h : k < 7) : ([[0], [3], [3, 3, 1, 3], [3, 1, 1], [33], [3, 3, 1, 27], [3, 4, 1]] : List (List UInt8))[k]? = some (methN ((k : Int) + 1)) := by
  have : k = 0 ∨ k = 1 ∨ k = 2 ∨ k = 3 ∨ k = 4 ∨ k = 5 ∨ k = 6 := by omega
  rcases this with rfl | rfl | rfl | rfl | rfl | rfl | rfl <;> rfl
def methV : List Value := [.string ⟨#[0]⟩, .string ⟨#[3]⟩, .string ⟨#[3, 3, 1, 3]⟩, .string ⟨#[3, 1, 1]⟩, .string ⟨#[33]⟩, .string ⟨#[3, 3, 1, 27]⟩, .string ⟨#[3, 4, 1]⟩]
theorem methV_get (k : Nat) (h : k < 7) : methV[k]? = some (.string ⟨(methN ((k : Int) + 1)).toArray⟩) := by
  have : k = 0 ∨ k = 1 ∨ k = 2 ∨ k = 3 ∨ k = 4 ∨ k = 5 ∨ k = 6 := by omega
  rcases this with rfl | rfl | rfl | rfl | rfl | rfl | rfl <;> rfl

set_option maxRecDepth 100000 in
set_option maxHeartbeats 4000000 in
theorem rcoder_any (base : Nat) (w : World) (v pv : Value) (bs : List UInt8) (c : Coder) (own : w.ownsRow base 5 1 v bs.length (bv bs)) (hbase : base ≤ w.heap.size) (hP : ∀ w2, Fr v.ownBlock.toList w w2 → Sl w2 pv (bv c.props)) (hm : 1 ≤ c.method ∧ c.method ≤ 7) (hb : bs.length ≤ 60000000) (hp : c.props.length ≤ 10000000) :
    Calls Tryd.prog 32 #[v, .agg #[.int .i64 c.method, pv]] w (PutB base w v (bs ++ coderW c)) := by
  obtain ⟨vo, vc, rfl, -, -, -⟩ := own_out own
  have hp0 := (hP w (Fr.refl _ _)).out
  rw [bv_length] at hp0
  obtain ⟨pao, pcap, rfl, -, -, -⟩ := hp0
  obtain ⟨m, props⟩ := c
  dsimp only at hP hm hp ⊢
  obtain ⟨k, rfl⟩ : ∃ k : Nat, m = (k : Int) + 1 := ⟨(m - 1).toNat, by omega⟩
  have hk7 : k < 7 := by omega
  obtain ⟨nm, hnm⟩ : ∃ nm, nm = methN ((k : Int) + 1) := ⟨_, rfl⟩
  have hnl : nm.length ≤ 4 := hnm ▸ meth_len _
  have HE := Lib.hid (show bs ++ coderW ⟨(k : Int) + 1, props⟩ = (((bs ++ [UInt8.ofNat (nm.length + (if (k : Int) + 1 = 6 then 16 else 0) + (if props = [] then 0 else 32))]) ++ nm) ++ (if (k : Int) + 1 = 6 then [4, 1] else [])) ++ (if props = [] then [] else shortN props.length ++ props) by
    unfold coderW flagsN
    dsimp only
    rw [hnm]
    simp only [List.append_assoc, List.cons_append, List.nil_append])
  obtain ⟨fl, hfl⟩ : ∃ fl, fl = nm.length + (if (k : Int) + 1 = 6 then 16 else 0) + (if props = [] then 0 else 32) := ⟨_, rfl⟩
  rw [← hfl] at HE
  obtain ⟨wA, hwA⟩ : ∃ wA, wA = w.alloc (.cells #[.int .i64 ((k : Int) + 1), .slice pao props.length pcap] 48) := ⟨_, rfl⟩
  have FA : Fr [] w wA := hwA ▸ (Fr.refl _ _).alloc _
  obtain ⟨wB, hwB⟩ : ∃ wB, wB = wA.alloc (.cells methV.toArray 9) := ⟨_, rfl⟩
  have FB : Fr [] wA wB := hwB ▸ (Fr.refl _ _).alloc _
  have sA : wA.heap.size = w.heap.size + 1 := by rw [hwA]; simp
  have HBX := Lib.hid (fun (S : List Nat) wx (F2 : Fr S wA wx) (hS : w.heap.size ∉ S) => wbox2 (hwA ▸ F2 : Fr S (w.alloc (.cells #[.int .i64 ((k : Int) + 1), .slice pao props.length pcap] 48)) wx) hS)
  have hcell : wB.cell? ⟨w.heap.size + 1, k, none⟩ = some (.string ⟨nm.toArray⟩) := by
    rw [hwB, ← sA, Go.Joins.cell_of_block (heap_alloc_new wA _)]
    simp only [List.getElem?_toArray]
    rw [methV_get k hk7, hnm]
  have hsz : wB.heap.size = w.heap.size + 2 := by rw [hwB, World.size_alloc, sA]
  obtain ⟨k0, k1⟩ := HBX.out [] wB FB (by simp)
  have HSB := Lib.hid (StB.refl (own_frS own (FA.trans0 FB) (by simp)))
  have HBs := Lib.hid (show base ≤ wB.heap.size by omega)
  have HNM := Lib.hid hnm
  have HP := Lib.hid hP
  have HB := Lib.hid hb
  have HPl := Lib.hid hp
  have HFB := Lib.hid FB
  have hvlt := fun (g : Nat) (hg : (Value.slice vo bs.length vc).ownBlock = some g) => (own_ltS own g hg).2
  have HVL := Lib.hid hvlt
  have HPw := Lib.hid (fun (wx : World) (F : Fr (Value.slice vo bs.length vc).ownBlock.toList wB wx) => hP wx (((FA.trans0 FB).mono (by simp)).trans F (fun i hi => .inl hi)))
  have HBC := Lib.hid (fun (wx : World) (F : Fr (Value.slice vo bs.length vc).ownBlock.toList wB wx) => HBX.out _ wx ((FB.mono (by simp)).trans F (fun i hi => .inl hi)) (fun hm => by have := hvlt _ (by simpa using hm); omega))
  clear own hP hnm hvlt
  have hkI : (k : Int) < 7 := by omega
  go_enter Tryd.func32, Tryd.ntmps32
  go_upto_region 2 with fail
  have hwB2 : wB = wA.alloc (.cells #[.string ⟨#[0]⟩, .string ⟨#[3]⟩, .string ⟨#[3, 3, 1, 3]⟩, .string ⟨#[3, 1, 1]⟩, .string ⟨#[33]⟩, .string ⟨#[3, 3, 1, 27]⟩, .string ⟨#[3, 4, 1]⟩] 9) := hwB
  rw [← hwA, ← hwB2]
  clear hwA hwB hwB2
  by_cases h6 : k = 5
  · subst h6
    have t6 : (((5 : Nat) : Int) + 1 == 6) = true := rfl
    have HI6 := Lib.hid (show ((5 : Nat) : Int) + 1 = 6 from rfl)
    by_cases hpr : props = []
    · have t0 : decide ((0 : Int) < (props.length : Int)) = false := by rw [hpr]; rfl
      have t0' : decide (0 < props.length) = false := by rw [hpr]; rfl
      have HPR := Lib.hid hpr
      clear hpr
      have hfl2 : fl = nm.length + 16 + 0 := by rw [hfl, if_pos HI6.out, if_pos HPR.out]
      have HFV := Lib.hid (show bv [UInt8.ofNat fl] = [.int .u8 ((nm.length : Int) + 16)] by
        have h1 : (UInt8.ofNat fl).toNat = nm.length + 16 + 0 := by rw [hfl2]; simp; omega
        show [Value.int .u8 ((UInt8.ofNat fl).toNat : Int)] = _
        rw [h1]
        first | rfl | (congr 2; omega) | (simp <;> omega))
      have HS1 := Lib.hid (show Sl (wB.alloc (.cells #[.int .u8 ((nm.length : Int) + 16)] 5)) (.slice (some ⟨w.heap.size + 2, 0, none⟩) 1 1) (bv [UInt8.ofNat fl]) by rw [HFV.out, ← hsz]; exact sl_one wB 5 _)
      have H1l := Lib.hid (show (bv [UInt8.ofNat fl]).length = 1 from rfl)
      obtain ⟨b1, hb1⟩ : ∃ b1, b1 = bs ++ [UInt8.ofNat fl] := ⟨_, rfl⟩
      obtain ⟨b2, hb2⟩ : ∃ b2, b2 = b1 ++ nm := ⟨_, rfl⟩
      obtain ⟨b3, hb3⟩ : ∃ b3, b3 = b2 ++ [4, 1] := ⟨_, rfl⟩
      rw [if_pos HI6.out, if_pos HPR.out, ← hb1, ← hb2, ← hb3, List.append_nil] at HE
      have HL1 := Lib.hid (show b1.length = bs.length + 1 by rw [hb1]; simp)
      have HL2 := Lib.hid (show b2.length ≤ bs.length + 5 ∧ 0 < b2.length by rw [hb2, List.length_append]; have := HL1.out; omega)
      have HL3 := Lib.hid (show b3.length ≤ bs.length + 7 by rw [hb3, List.length_append]; have := HL2.out; simp only [List.length_cons, List.length_nil]; omega)
      have HB1 := Lib.hid hb1
      have HB2 := Lib.hid hb2
      have HB3 := Lib.hid hb3
      clear hb3
      clear hb1 hb2 hfl hfl2
      go_upto_region 13 with (first
        | (have hq := S9; at_builtin; go_loud (refine wpList_append_st sty_u8 rfl _ _ (by rfl) S9 ((Fr.refl _ _).alloc _) (by rfl) _ [4, 1] (by rfl) (sl_lit _ _ (bv [4, 1]) 2 rfl (by decide)) HBs.out (by have := HL2.out; simp only [List.length_cons, List.length_nil]; omega) ?_; intro v10 w10 S10; rw [← HB3.out] at S10; obtain ⟨vo10, vc10, rfl, -⟩ := own_out S10.own; obtain ⟨c0, c1⟩ := HBC.out _ S10.fr))
        | (have hq := S8; at_builtin; go_loud (refine wpList_append_tx sty_u8 Tryd.underlying9 rfl _ _ (by rfl) S8 (Fr.refl _ _) (by rfl) (by have := HL1.out; omega) nm (by rfl) HBs.out (by have := HL1.out; omega) ?_; intro v9 w9 S9; rw [← HB2.out] at S9; obtain ⟨vo9, vc9, rfl, -⟩ := own_out S9.own; obtain ⟨c0, c1⟩ := HBC.out _ S9.fr))
        | (at_builtin; go_loud (refine wpList_append_st sty_u8 rfl _ _ (by rfl) HSB.out ((Fr.refl _ _).alloc _) (by rfl) _ [UInt8.ofNat fl] (by rfl) HS1.out HBs.out (by simp only [List.length_cons, List.length_nil]; omega) ?_; intro v8 w8 S8; rw [← HB1.out] at S8; obtain ⟨vo8, vc8, rfl, -⟩ := own_out S8.own; obtain ⟨c0, c1⟩ := HBC.out _ S8.fr)))
      go_wp2_with fail
      go_ret
      rw [HE.out]
      exact S10.put.mono ((FA.trans0 HFB.out).mono (by simp)) (fun k hk => .inl hk)
    · have hpos := List.length_pos_iff.2 hpr
      have t0 : decide ((0 : Int) < (props.length : Int)) = true := decide_eq_true (by omega)
      have t0' : decide (0 < props.length) = true := decide_eq_true hpos
      have HPR := Lib.hid hpr
      clear hpr
      have hfl2 : fl = nm.length + 16 + 32 := by rw [hfl, if_pos HI6.out, if_neg HPR.out]
      have HFV := Lib.hid (show bv [UInt8.ofNat fl] = [.int .u8 ((nm.length : Int) + 16 + 32)] by
        have h1 : (UInt8.ofNat fl).toNat = nm.length + 16 + 32 := by rw [hfl2]; simp; omega
        show [Value.int .u8 ((UInt8.ofNat fl).toNat : Int)] = _
        rw [h1]
        first | rfl | (congr 2; omega) | (simp <;> omega))
      have HS1 := Lib.hid (show Sl (wB.alloc (.cells #[.int .u8 ((nm.length : Int) + 16 + 32)] 5)) (.slice (some ⟨w.heap.size + 2, 0, none⟩) 1 1) (bv [UInt8.ofNat fl]) by rw [HFV.out, ← hsz]; exact sl_one wB 5 _)
      have H1l := Lib.hid (show (bv [UInt8.ofNat fl]).length = 1 from rfl)
      obtain ⟨b1, hb1⟩ : ∃ b1, b1 = bs ++ [UInt8.ofNat fl] := ⟨_, rfl⟩
      obtain ⟨b2, hb2⟩ : ∃ b2, b2 = b1 ++ nm := ⟨_, rfl⟩
      obtain ⟨b3, hb3⟩ : ∃ b3, b3 = b2 ++ [4, 1] := ⟨_, rfl⟩
      obtain ⟨b4, hb4⟩ : ∃ b4, b4 = b3 ++ shortN props.length := ⟨_, rfl⟩
      obtain ⟨b5, hb5⟩ : ∃ b5, b5 = b4 ++ props := ⟨_, rfl⟩
      rw [if_pos HI6.out, if_neg HPR.out, ← hb1, ← hb2, ← hb3, ← List.append_assoc, ← hb4, ← hb5] at HE
      have HL1 := Lib.hid (show b1.length = bs.length + 1 by rw [hb1]; simp)
      have HL2 := Lib.hid (show b2.length ≤ bs.length + 5 ∧ 0 < b2.length by rw [hb2, List.length_append]; have := HL1.out; omega)
      have HL3 := Lib.hid (show b3.length ≤ bs.length + 7 by rw [hb3, List.length_append]; have := HL2.out; simp only [List.length_cons, List.length_nil]; omega)
      have HL4 := Lib.hid (show b4.length ≤ bs.length + 16 by rw [hb4, List.length_append]; have := HL3.out; have := shortN_le props.length; omega)
      have HL5 := Lib.hid (show b5.length = b4.length + (bv props).length by rw [hb5, List.length_append, bv_length])
      have HB1 := Lib.hid hb1
      have HB2 := Lib.hid hb2
      have HB3 := Lib.hid hb3
      clear hb3
      have HB4 := Lib.hid hb4
      have HB5 := Lib.hid hb5
      clear hb4 hb5
      clear hb1 hb2 hfl hfl2
      go_upto_region 12 with (first
        | (have hq := S9; at_builtin; go_loud (refine wpList_append_st sty_u8 rfl _ _ (by rfl) S9 ((Fr.refl _ _).alloc _) (by rfl) _ [4, 1] (by rfl) (sl_lit _ _ (bv [4, 1]) 2 rfl (by decide)) HBs.out (by have := HL2.out; simp only [List.length_cons, List.length_nil]; omega) ?_; intro v10 w10 S10; rw [← HB3.out] at S10; obtain ⟨vo10, vc10, rfl, -⟩ := own_out S10.own; obtain ⟨c0, c1⟩ := HBC.out _ S10.fr))
        | (have hq := S8; at_builtin; go_loud (refine wpList_append_tx sty_u8 Tryd.underlying9 rfl _ _ (by rfl) S8 (Fr.refl _ _) (by rfl) (by have := HL1.out; omega) nm (by rfl) HBs.out (by have := HL1.out; omega) ?_; intro v9 w9 S9; rw [← HB2.out] at S9; obtain ⟨vo9, vc9, rfl, -⟩ := own_out S9.own; obtain ⟨c0, c1⟩ := HBC.out _ S9.fr))
        | (at_builtin; go_loud (refine wpList_append_st sty_u8 rfl _ _ (by rfl) HSB.out ((Fr.refl _ _).alloc _) (by rfl) _ [UInt8.ofNat fl] (by rfl) HS1.out HBs.out (by simp only [List.length_cons, List.length_nil]; omega) ?_; intro v8 w8 S8; rw [← HB1.out] at S8; obtain ⟨vo8, vc8, rfl, -⟩ := own_out S8.own; obtain ⟨c0, c1⟩ := HBC.out _ S8.fr)))
      have G0 := Fr.refl [] w10
      have HSL := Lib.hid (fun (wz : World) (F : Fr [] w10 wz) => HPw.out _ (S10.fr.trans0 F))
      have HCL := Lib.hid (fun (wz : World) (F : Fr [] w10 wz) => HBC.out _ (S10.fr.trans0 F))
      have HSO := Lib.hid (Sl.of_own S10.own)
      have hpI : (props.length : Int) ≤ 10000000 := by omega
      have hwr : IntKind.u64.wrap (props.length : Int) = (props.length : Int) := by simp [IntKind.wrap, IntKind.bits, IntKind.signed]; omega
      have HN4 := Lib.hid (fun (wz : World) (F : Fr [] w10 wz) => (show Calls Tryd.prog 30 #[.slice vo10 b3.length vc10, .int .u64 props.length] wz (NewBytes b4 wz) from by
        have := rnum_any wz _ b3 props.length (HSO.out.fr0 F) (by have := HL3.out; omega) (by omega)
        rw [← HB4.out] at this
        exact this))
      go_region_held3 (fun wx => wx.cell? ⟨w.heap.size, 0, none⟩ = some (.int .i64 ((5 : Int) + 1)) ∧ wx.cell? ⟨w.heap.size, 1, none⟩ = some (.slice pao props.length pcap))
        (first
          | (have hq := G2; exact HCL.out _ G2)
          | (have hq := G1; exact HCL.out _ G1)
          | exact HCL.out _ G0
          | exact HCL.out _ G0.drew
          | go_keep)
        (first
          | (have hq := G1; refine step_append_sl sty_u8 rfl _ _ (by rfl) w10.heap.size _ _ _ (by rfl) own1 _ (bv props) (by rfl) (HSL.out _ G1) (bv_one _) (by have := HL4.out; rw [bv_length]; omega) (by have := HL4.out; rw [bv_length]; omega) (G1.size) ?_; intro v2 w2 own2 g2; rw [← bv_append, ← HB5.out, ← HL5.out] at own2; have G2 : Fr [] w10 w2 := G1.grown g2 (fun t ht => .inr (own_ltS own1 t ht).1); obtain ⟨vo2, vc2, rfl, -⟩ := own_out own2)
          | (go_at_call 30; refine (HN4.out _ G0.drew).mono ?_; rintro e w1 ⟨r1, rfl, own1, F1⟩; have G1 := G0.drew.trans0 F1; obtain ⟨ro1, rc1, rfl, -⟩ := own_out own1))
      all_goals
        go_wp2_with fail
        go_ret
        rw [HE.out]
        have own2' : w2.ownsRow w10.heap.size 5 1 (.slice vo2 b5.length vc2) b5.length (bv b5) := own2
        exact (S10.step (G2.mono (by simp)) (own_mono own2' (by have := S10.fr.size; have := HBs.out; omega)) (fun k hk => .inr (own_ltS own2' k hk).1)).put.mono ((FA.trans0 HFB.out).mono (by simp)) (fun k hk => .inl hk)
  · have t6 : ((k : Int) + 1 == 6) = false := by rw [beq_eq_false_iff_ne]; omega
    have HI6 := Lib.hid (show ¬ ((k : Int) + 1 = 6) by omega)
    clear h6
    by_cases hpr : props = []
    · have t0 : decide ((0 : Int) < (props.length : Int)) = false := by rw [hpr]; rfl
      have t0' : decide (0 < props.length) = false := by rw [hpr]; rfl
      have HPR := Lib.hid hpr
      clear hpr
      have hfl2 : fl = nm.length + 0 + 0 := by rw [hfl, if_neg HI6.out, if_pos HPR.out]
      have HFV := Lib.hid (show bv [UInt8.ofNat fl] = [.int .u8 (nm.length : Int)] by
        have h1 : (UInt8.ofNat fl).toNat = nm.length + 0 + 0 := by rw [hfl2]; simp; omega
        show [Value.int .u8 ((UInt8.ofNat fl).toNat : Int)] = _
        rw [h1]
        first | rfl | (congr 2; omega) | (simp <;> omega))
      have HS1 := Lib.hid (show Sl (wB.alloc (.cells #[.int .u8 (nm.length : Int)] 5)) (.slice (some ⟨w.heap.size + 2, 0, none⟩) 1 1) (bv [UInt8.ofNat fl]) by rw [HFV.out, ← hsz]; exact sl_one wB 5 _)
      have H1l := Lib.hid (show (bv [UInt8.ofNat fl]).length = 1 from rfl)
      obtain ⟨b1, hb1⟩ : ∃ b1, b1 = bs ++ [UInt8.ofNat fl] := ⟨_, rfl⟩
      obtain ⟨b2, hb2⟩ : ∃ b2, b2 = b1 ++ nm := ⟨_, rfl⟩
      rw [if_neg HI6.out, if_pos HPR.out, ← hb1, ← hb2, List.append_nil, List.append_nil] at HE
      have HL1 := Lib.hid (show b1.length = bs.length + 1 by rw [hb1]; simp)
      have HL2 := Lib.hid (show b2.length ≤ bs.length + 5 ∧ 0 < b2.length by rw [hb2, List.length_append]; have := HL1.out; omega)
      have HB1 := Lib.hid hb1
      have HB2 := Lib.hid hb2
      clear hb1 hb2 hfl hfl2
      go_upto_region 13 with (first
        | (have hq := S8; at_builtin; go_loud (refine wpList_append_tx sty_u8 Tryd.underlying9 rfl _ _ (by rfl) S8 (Fr.refl _ _) (by rfl) (by have := HL1.out; omega) nm (by rfl) HBs.out (by have := HL1.out; omega) ?_; intro v9 w9 S9; rw [← HB2.out] at S9; obtain ⟨vo9, vc9, rfl, -⟩ := own_out S9.own; obtain ⟨c0, c1⟩ := HBC.out _ S9.fr))
        | (at_builtin; go_loud (refine wpList_append_st sty_u8 rfl _ _ (by rfl) HSB.out ((Fr.refl _ _).alloc _) (by rfl) _ [UInt8.ofNat fl] (by rfl) HS1.out HBs.out (by simp only [List.length_cons, List.length_nil]; omega) ?_; intro v8 w8 S8; rw [← HB1.out] at S8; obtain ⟨vo8, vc8, rfl, -⟩ := own_out S8.own; obtain ⟨c0, c1⟩ := HBC.out _ S8.fr)))
      go_wp2_with fail
      go_ret
      rw [HE.out]
      exact S9.put.mono ((FA.trans0 HFB.out).mono (by simp)) (fun k hk => .inl hk)
    · have hpos := List.length_pos_iff.2 hpr
      have t0 : decide ((0 : Int) < (props.length : Int)) = true := decide_eq_true (by omega)
      have t0' : decide (0 < props.length) = true := decide_eq_true hpos
      have HPR := Lib.hid hpr
      clear hpr
      have hfl2 : fl = nm.length + 0 + 32 := by rw [hfl, if_neg HI6.out, if_neg HPR.out]
      have HFV := Lib.hid (show bv [UInt8.ofNat fl] = [.int .u8 ((nm.length : Int) + 32)] by
        have h1 : (UInt8.ofNat fl).toNat = nm.length + 0 + 32 := by rw [hfl2]; simp; omega
        show [Value.int .u8 ((UInt8.ofNat fl).toNat : Int)] = _
        rw [h1]
        first | rfl | (congr 2; omega) | (simp <;> omega))
      have HS1 := Lib.hid (show Sl (wB.alloc (.cells #[.int .u8 ((nm.length : Int) + 32)] 5)) (.slice (some ⟨w.heap.size + 2, 0, none⟩) 1 1) (bv [UInt8.ofNat fl]) by rw [HFV.out, ← hsz]; exact sl_one wB 5 _)
      have H1l := Lib.hid (show (bv [UInt8.ofNat fl]).length = 1 from rfl)
      obtain ⟨b1, hb1⟩ : ∃ b1, b1 = bs ++ [UInt8.ofNat fl] := ⟨_, rfl⟩
      obtain ⟨b2, hb2⟩ : ∃ b2, b2 = b1 ++ nm := ⟨_, rfl⟩
      obtain ⟨b4, hb4⟩ : ∃ b4, b4 = b2 ++ shortN props.length := ⟨_, rfl⟩
      obtain ⟨b5, hb5⟩ : ∃ b5, b5 = b4 ++ props := ⟨_, rfl⟩
      rw [if_neg HI6.out, if_neg HPR.out, ← hb1, ← hb2, List.append_nil, ← List.append_assoc, ← hb4, ← hb5] at HE
      have HL1 := Lib.hid (show b1.length = bs.length + 1 by rw [hb1]; simp)
      have HL2 := Lib.hid (show b2.length ≤ bs.length + 5 ∧ 0 < b2.length by rw [hb2, List.length_append]; have := HL1.out; omega)
      have HL4 := Lib.hid (show b4.length ≤ bs.length + 16 by rw [hb4, List.length_append]; have := HL2.out; have := shortN_le props.length; omega)
      have HL5 := Lib.hid (show b5.length = b4.length + (bv props).length by rw [hb5, List.length_append, bv_length])
      have HB1 := Lib.hid hb1
      have HB2 := Lib.hid hb2
      have HB4 := Lib.hid hb4
      have HB5 := Lib.hid hb5
      clear hb4 hb5
      clear hb1 hb2 hfl hfl2
      go_upto_region 12 with (first
        | (have hq := S8; at_builtin; go_loud (refine wpList_append_tx sty_u8 Tryd.underlying9 rfl _ _ (by rfl) S8 (Fr.refl _ _) (by rfl) (by have := HL1.out; omega) nm (by rfl) HBs.out (by have := HL1.out; omega) ?_; intro v9 w9 S9; rw [← HB2.out] at S9; obtain ⟨vo9, vc9, rfl, -⟩ := own_out S9.own; obtain ⟨c0, c1⟩ := HBC.out _ S9.fr))
        | (at_builtin; go_loud (refine wpList_append_st sty_u8 rfl _ _ (by rfl) HSB.out ((Fr.refl _ _).alloc _) (by rfl) _ [UInt8.ofNat fl] (by rfl) HS1.out HBs.out (by simp only [List.length_cons, List.length_nil]; omega) ?_; intro v8 w8 S8; rw [← HB1.out] at S8; obtain ⟨vo8, vc8, rfl, -⟩ := own_out S8.own; obtain ⟨c0, c1⟩ := HBC.out _ S8.fr)))
      have G0 := Fr.refl [] w9
      have HSL := Lib.hid (fun (wz : World) (F : Fr [] w9 wz) => HPw.out _ (S9.fr.trans0 F))
      have HCL := Lib.hid (fun (wz : World) (F : Fr [] w9 wz) => HBC.out _ (S9.fr.trans0 F))
      have HSO := Lib.hid (Sl.of_own S9.own)
      have hpI : (props.length : Int) ≤ 10000000 := by omega
      have hwr : IntKind.u64.wrap (props.length : Int) = (props.length : Int) := by simp [IntKind.wrap, IntKind.bits, IntKind.signed]; omega
      have HN4 := Lib.hid (fun (wz : World) (F : Fr [] w9 wz) => (show Calls Tryd.prog 30 #[.slice vo9 b2.length vc9, .int .u64 props.length] wz (NewBytes b4 wz) from by
        have := rnum_any wz _ b2 props.length (HSO.out.fr0 F) (by have := HL2.out; omega) (by omega)
        rw [← HB4.out] at this
        exact this))
      go_region_held3 (fun wx => wx.cell? ⟨w.heap.size, 0, none⟩ = some (.int .i64 ((k : Int) + 1)) ∧ wx.cell? ⟨w.heap.size, 1, none⟩ = some (.slice pao props.length pcap))
        (first
          | (have hq := G2; exact HCL.out _ G2)
          | (have hq := G1; exact HCL.out _ G1)
          | exact HCL.out _ G0
          | exact HCL.out _ G0.drew
          | go_keep)
        (first
          | (have hq := G1; refine step_append_sl sty_u8 rfl _ _ (by rfl) w9.heap.size _ _ _ (by rfl) own1 _ (bv props) (by rfl) (HSL.out _ G1) (bv_one _) (by have := HL4.out; rw [bv_length]; omega) (by have := HL4.out; rw [bv_length]; omega) (G1.size) ?_; intro v2 w2 own2 g2; rw [← bv_append, ← HB5.out, ← HL5.out] at own2; have G2 : Fr [] w9 w2 := G1.grown g2 (fun t ht => .inr (own_ltS own1 t ht).1); obtain ⟨vo2, vc2, rfl, -⟩ := own_out own2)
          | (go_at_call 30; refine (HN4.out _ G0.drew).mono ?_; rintro e w1 ⟨r1, rfl, own1, F1⟩; have G1 := G0.drew.trans0 F1; obtain ⟨ro1, rc1, rfl, -⟩ := own_out own1))
      all_goals
        go_wp2_with fail
        go_ret
        rw [HE.out]
        have own2' : w2.ownsRow w9.heap.size 5 1 (.slice vo2 b5.length vc2) b5.length (bv b5) := own2
        exact (S9.step (G2.mono (by simp)) (own_mono own2' (by have := S9.fr.size; have := HBs.out; omega)) (fun k hk => .inr (own_ltS own2' k hk).1)).put.mono ((FA.trans0 HFB.out).mono (by simp)) (fun k hk => .inl hk)
end Go.Proofs.YtkodindajfdagaaDoor
