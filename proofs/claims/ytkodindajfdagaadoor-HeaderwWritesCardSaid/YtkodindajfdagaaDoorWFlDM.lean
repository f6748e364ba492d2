/- Contract: the reference's files, joined. No condition but that lengths fit. -/
import Derived.Test.YtkodindajfdagaaDoorWFlCM
import Derived.Test.YtkodindajfdagaaDoorWSpEM
namespace Go.Proofs.YtkodindajfdagaaDoor
open Go.RowKit
set_option linter.unusedVariables false

/-- What was gathered is not too long. -/
structure FDs (D : FD) : Prop where
  e : D.e.length ≤ 30000000
  p : D.p.length ≤ 30000000
  tm : D.tm.length ≤ 30000000
  td : D.td.length ≤ 30000000
  tx : D.tx.length ≤ 30000000
  ts : D.ts.length ≤ 30000000
  at_ : D.at_.length ≤ 30000000
theorem packBits_le3 {l : List Bool} (h : l.length ≤ 100000000) : (packBits l).length ≤ 60000000 := by
  rw [packBits_len]
  omega
theorem rpart_n {base : Nat} {w : World} {v xv : Value} {bs x : List UInt8} (id : UInt8) (n : Int) (hn : (id.toNat : Int) = n) (own : w.ownsRow base 5 1 v bs.length (bv bs)) (hbase : base ≤ w.heap.size) (hX : ∀ w2, Fr v.ownBlock.toList w w2 → Sl w2 xv (bv x)) (hb : bs.length ≤ 60000000) (hx : x.length ≤ 60000000) :
    Calls Tryd.prog 34 #[v, .int .u8 n, xv] w (PutB base w v (bs ++ partW id x)) := by
  rw [← hn]
  exact rpart_any base w v xv bs x id own hbase hX hb hx

set_option maxRecDepth 100000 in
set_option maxHeartbeats 1000000 in
theorem ft_14 {w0 : World} {D : FD} (hD : FDs D) (hb : D.b.length ≤ 50000000) (a : Act) (w : World) (hS : FSl w0 D a w) :
    (fc [true, true, true, true, true, true, true, true, true, true, true, true, true, false, true, false]).wp Tryd.prog (Only (FSl w0 { D with b := D.b ++ partW 14 (packBits D.e) })) a w := by
  obtain ⟨A, V, rfl, hz, ⟨h3, h4, h5, h6, h7, h8, h9, h10, h11, h12, h13, -⟩, H, FA⟩ := hS
  have HDk := Lib.hid hD
  have HBL := Lib.hid hb
  clear hD hb
  have HH := Lib.hid H
  have HF := Lib.hid FA
  clear H FA
  have HB1 := Lib.hid (refputbits_any w (.slice none 0 0) V.v4 [] D.e (Sl.nil w) (Sl.of_own (HH.out.own 1 _ rfl)) (by have := HDk.out.e; simp only [List.length_nil]; omega) (by have := HDk.out.e; omega))
  have HPL := Lib.hid (show (packBits D.e).length ≤ 60000000 from packBits_le3 (by have := HDk.out.e; omega))
  conv => arg 2; whnf
  refine only_hide fun R HR => ?_
  go_wp2_with (first
    | (have hq := F6; go_at_call 34; refine (rpart_n (bs := D.b) (x := packBits D.e) 14 14 rfl (H6.own 0 _ rfl) (HF.out.trans0 F6).size (fun w2 F => H6.sl (i := 0) (j := 8) rfl rfl (by decide) F) (by have := HBL.out; omega) HPL.out).mono ?_; rintro e w7 hPB; obtain ⟨r7, rfl, H7, F7⟩ := H6.put_ (i := 0) rfl hPB; have G7 := H6.above (i := 0) rfl (HF.out.trans0 F6) F7)
    | (go_at_call 35; refine HB1.out.mono ?_; rintro e w6 hNB; rw [List.nil_append] at hNB; obtain ⟨r6, rfl, H6, F6⟩ := HH.out.snoc HF.out.size hNB))
  exact only_mk (HR.out _ _ ⟨_, { V with v3 := r7 }, rfl, by simp [hz], ⟨fun _ => by simp, fun _ => by simp [slot_set, h4], fun _ => by simp [slot_set, h5], fun _ => by simp [slot_set, h6], fun _ => by simp [slot_set, h7], fun _ => by simp [slot_set, h8], fun _ => by simp [slot_set, h9], fun _ => by simp [slot_set, h10], fun _ => by simp [slot_set, h11], fun _ => by simp [slot_set, h12], fun _ => by simp [slot_set, h13], trivial⟩, OwnL.left (M := [bR r6 (packBits D.e)]) H7, G7⟩)

set_option maxRecDepth 100000 in
set_option maxHeartbeats 1000000 in
theorem ft_15 {w0 : World} {D : FD} (hD : FDs D) (hb : D.b.length ≤ 50000000) (a : Act) (w : World) (hS : FSl w0 D a w) :
    (fc [true, true, true, true, true, true, true, true, true, true, true, true, true, true, false, true, false]).wp Tryd.prog (Only (FSl w0 { D with b := D.b ++ partW 15 (packBits D.p) })) a w := by
  obtain ⟨A, V, rfl, hz, ⟨h3, h4, h5, h6, h7, h8, h9, h10, h11, h12, h13, -⟩, H, FA⟩ := hS
  have HDk := Lib.hid hD
  have HBL := Lib.hid hb
  clear hD hb
  have HH := Lib.hid H
  have HF := Lib.hid FA
  clear H FA
  have HB1 := Lib.hid (refputbits_any w (.slice none 0 0) V.v5 [] D.p (Sl.nil w) (Sl.of_own (HH.out.own 2 _ rfl)) (by have := HDk.out.p; simp only [List.length_nil]; omega) (by have := HDk.out.p; omega))
  have HPL := Lib.hid (show (packBits D.p).length ≤ 60000000 from packBits_le3 (by have := HDk.out.p; omega))
  conv => arg 2; whnf
  refine only_hide fun R HR => ?_
  go_wp2_with (first
    | (have hq := F6; go_at_call 34; refine (rpart_n (bs := D.b) (x := packBits D.p) 15 15 rfl (H6.own 0 _ rfl) (HF.out.trans0 F6).size (fun w2 F => H6.sl (i := 0) (j := 8) rfl rfl (by decide) F) (by have := HBL.out; omega) HPL.out).mono ?_; rintro e w7 hPB; obtain ⟨r7, rfl, H7, F7⟩ := H6.put_ (i := 0) rfl hPB; have G7 := H6.above (i := 0) rfl (HF.out.trans0 F6) F7)
    | (go_at_call 35; refine HB1.out.mono ?_; rintro e w6 hNB; rw [List.nil_append] at hNB; obtain ⟨r6, rfl, H6, F6⟩ := HH.out.snoc HF.out.size hNB))
  exact only_mk (HR.out _ _ ⟨_, { V with v3 := r7 }, rfl, by simp [hz], ⟨fun _ => by simp, fun _ => by simp [slot_set, h4], fun _ => by simp [slot_set, h5], fun _ => by simp [slot_set, h6], fun _ => by simp [slot_set, h7], fun _ => by simp [slot_set, h8], fun _ => by simp [slot_set, h9], fun _ => by simp [slot_set, h10], fun _ => by simp [slot_set, h11], fun _ => by simp [slot_set, h12], fun _ => by simp [slot_set, h13], trivial⟩, OwnL.left (M := [bR r6 (packBits D.p)]) H7, G7⟩)

set_option maxRecDepth 100000 in
set_option maxHeartbeats 1000000 in
theorem ft_17 {w0 : World} {D : FD} (hD : FDs D) (hb : D.b.length ≤ 50000000) (a : Act) (w : World) (hS : FSl w0 D a w) :
    (fc [true, true, true, true, true, true, true, true, true, true, true, true, true, true, true, false]).wp Tryd.prog (Only (FSl w0 { D with b := D.b ++ partW 17 D.tx })) a w := by
  obtain ⟨A, V, rfl, hz, ⟨h3, h4, h5, h6, h7, h8, h9, h10, h11, h12, h13, -⟩, H, FA⟩ := hS
  have HDk := Lib.hid hD
  have HBL := Lib.hid hb
  clear hD hb
  have HH := Lib.hid H
  have HF := Lib.hid FA
  clear H FA
  conv => arg 2; whnf
  refine only_hide fun R HR => ?_
  go_wp2_with (go_at_call 34; refine (rpart_n (bs := D.b) (x := D.tx) 17 17 rfl (HH.out.own 0 _ rfl) HF.out.size (fun w2 F => HH.out.sl (i := 0) (j := 5) rfl rfl (by decide) F) (by have := HBL.out; omega) (by have := HDk.out.tx; omega)).mono ?_; rintro e w7 hPB; obtain ⟨r7, rfl, H7, F7⟩ := HH.out.put_ (i := 0) rfl hPB; have G7 := HH.out.above (i := 0) rfl HF.out F7)
  exact only_mk (HR.out _ _ ⟨_, { V with v3 := r7 }, rfl, by simp [hz], ⟨fun _ => by simp, fun _ => by simp [slot_set, h4], fun _ => by simp [slot_set, h5], fun _ => by simp [slot_set, h6], fun _ => by simp [slot_set, h7], fun _ => by simp [slot_set, h8], fun _ => by simp [slot_set, h9], fun _ => by simp [slot_set, h10], fun _ => by simp [slot_set, h11], fun _ => by simp [slot_set, h12], fun _ => by simp [slot_set, h13], trivial⟩, H7, G7⟩)
theorem toldN_le3 {l : List Bool} (h : l.length ≤ 30000000) : (toldN l).length ≤ 20000000 := by
  unfold toldN
  split
  · simp
  · rw [List.length_cons, packBits_len]
    omega

set_option maxRecDepth 100000 in
set_option maxHeartbeats 1000000 in
theorem ft_20 {w0 : World} {D : FD} (hD : FDs D) (hb : D.b.length ≤ 50000000) (a : Act) (w : World) (hS : FSl w0 D a w) :
    (fc [true, true, true, true, true, true, true, true, true, true, true, true, true, true, true, true, false, true, false]).wp Tryd.prog (Only (FSl w0 { D with b := D.b ++ partW 20 ((toldN D.tm ++ [0]) ++ D.ts) })) a w := by
  obtain ⟨A, V, rfl, hz, ⟨h3, h4, h5, h6, h7, h8, h9, h10, h11, h12, h13, -⟩, H, FA⟩ := hS
  have HDk := Lib.hid hD
  have HBL := Lib.hid hb
  clear hD hb
  have HH := Lib.hid H
  have HF := Lib.hid FA
  clear H FA
  have HB1 := Lib.hid (refputtold_any w (.slice none 0 0) V.v6 [] D.tm (Sl.nil w) (Sl.of_own (HH.out.own 3 _ rfl)) (by have := HDk.out.tm; simp only [List.length_nil]; omega) (by have := HDk.out.tm; omega))
  have HPT := Lib.hid (show putTold [] D.tm = toldN D.tm from by rw [putTold_told]; rfl)
  have HPL := Lib.hid (show (toldN D.tm).length ≤ 20000000 from toldN_le3 (by have := HDk.out.tm; omega))
  obtain ⟨X, hX⟩ : ∃ X, X = (toldN D.tm ++ [0]) ++ D.ts := ⟨_, rfl⟩
  have HX := Lib.hid hX
  have HXL := Lib.hid (show X.length ≤ 60000000 from by rw [hX]; have := HPL.out; have := HDk.out.ts; simp only [List.length_append, List.length_cons, List.length_nil]; omega)
  rw [← hX]
  clear hX
  conv => arg 2; whnf
  refine only_hide fun R HR => ?_
  go_wp2_with (first
    | (have hq := H9; go_at_call 34; refine (rpart_n (bs := D.b) (x := X) 20 20 rfl (H9.own 0 _ rfl) G9.size (fun w2 F => H9.sl (i := 0) (j := 8) rfl rfl (by decide) F) (by have := HBL.out; omega) HXL.out).mono ?_; rintro e w7 hPB; obtain ⟨r7, rfl, H7, F7⟩ := H9.put_ (i := 0) rfl hPB; have G7 := H9.above (i := 0) rfl G9 F7)
    | (have hq := H8; at_builtin; refine wpList_append_rb sty_u8 rfl (.tmp 121) (.tmp 122) (by rfl) H8 8 rfl (by go_simp) V.v9 D.ts (by go_simp) (Sl.of_own (H8.own 6 _ rfl)) G8.size (by have := HPL.out; have := HDk.out.ts; simp only [List.length_append, List.length_cons, List.length_nil]; omega) ?_; intro v9 w9 H9 F9; rw [← HX.out] at H9; have G9 := H8.above (i := 8) rfl G8 F9)
    | (have hq := H6; at_builtin; refine wpList_append_rb sty_u8 rfl (.tmp 119) (.tmp 120) (by rfl) (H6.fr ((Fr.refl _ _).alloc _)) 8 rfl (by go_simp) _ [0] (by go_simp) (sl_one _ _ _) (Nat.le_trans G6.size ((Fr.refl [] _).alloc _).size) (by have := HPL.out; simp only [List.length_cons, List.length_nil]; omega) ?_; intro v8 w8 H8 F8; have G8 := (H6.fr ((Fr.refl _ _).alloc _)).above (i := 8) rfl (G6.alloc _) F8)
    | (go_at_call 36; refine HB1.out.mono ?_; rintro e w6 hNB; rw [HPT.out] at hNB; obtain ⟨r6, rfl, H6, F6⟩ := HH.out.snoc HF.out.size hNB; have G6 := HF.out.trans0 F6))
  exact only_mk (HR.out _ _ ⟨_, { V with v3 := r7 }, rfl, by simp [hz], ⟨fun _ => by simp, fun _ => by simp [slot_set, h4], fun _ => by simp [slot_set, h5], fun _ => by simp [slot_set, h6], fun _ => by simp [slot_set, h7], fun _ => by simp [slot_set, h8], fun _ => by simp [slot_set, h9], fun _ => by simp [slot_set, h10], fun _ => by simp [slot_set, h11], fun _ => by simp [slot_set, h12], fun _ => by simp [slot_set, h13], trivial⟩, OwnL.left (M := [bR v9 X]) H7, G7⟩)

set_option maxRecDepth 100000 in
set_option maxHeartbeats 1000000 in
theorem ft_21 {w0 : World} {D : FD} (hD : FDs D) (hb : D.b.length ≤ 50000000) (a : Act) (w : World) (hS : FSl w0 D a w) :
    (fc [true, true, true, true, true, true, true, true, true, true, true, true, true, true, true, true, true, false, true, false]).wp Tryd.prog (Only (FSl w0 { D with b := D.b ++ partW 21 ((toldN D.td ++ [0]) ++ D.at_) })) a w := by
  obtain ⟨A, V, rfl, hz, ⟨h3, h4, h5, h6, h7, h8, h9, h10, h11, h12, h13, -⟩, H, FA⟩ := hS
  have HDk := Lib.hid hD
  have HBL := Lib.hid hb
  clear hD hb
  have HH := Lib.hid H
  have HF := Lib.hid FA
  clear H FA
  have HB1 := Lib.hid (refputtold_any w (.slice none 0 0) V.v7 [] D.td (Sl.nil w) (Sl.of_own (HH.out.own 4 _ rfl)) (by have := HDk.out.td; simp only [List.length_nil]; omega) (by have := HDk.out.td; omega))
  have HPT := Lib.hid (show putTold [] D.td = toldN D.td from by rw [putTold_told]; rfl)
  have HPL := Lib.hid (show (toldN D.td).length ≤ 20000000 from toldN_le3 (by have := HDk.out.td; omega))
  obtain ⟨X, hX⟩ : ∃ X, X = (toldN D.td ++ [0]) ++ D.at_ := ⟨_, rfl⟩
  have HX := Lib.hid hX
  have HXL := Lib.hid (show X.length ≤ 60000000 from by rw [hX]; have := HPL.out; have := HDk.out.at_; simp only [List.length_append, List.length_cons, List.length_nil]; omega)
  rw [← hX]
  clear hX
  conv => arg 2; whnf
  refine only_hide fun R HR => ?_
  go_wp2_with (first
    | (have hq := H9; go_at_call 34; refine (rpart_n (bs := D.b) (x := X) 21 21 rfl (H9.own 0 _ rfl) G9.size (fun w2 F => H9.sl (i := 0) (j := 8) rfl rfl (by decide) F) (by have := HBL.out; omega) HXL.out).mono ?_; rintro e w7 hPB; obtain ⟨r7, rfl, H7, F7⟩ := H9.put_ (i := 0) rfl hPB; have G7 := H9.above (i := 0) rfl G9 F7)
    | (have hq := H8; at_builtin; refine wpList_append_rb sty_u8 rfl (.tmp 130) (.tmp 131) (by rfl) H8 8 rfl (by go_simp) V.v10 D.at_ (by go_simp) (Sl.of_own (H8.own 7 _ rfl)) G8.size (by have := HPL.out; have := HDk.out.at_; simp only [List.length_append, List.length_cons, List.length_nil]; omega) ?_; intro v9 w9 H9 F9; rw [← HX.out] at H9; have G9 := H8.above (i := 8) rfl G8 F9)
    | (have hq := H6; at_builtin; refine wpList_append_rb sty_u8 rfl (.tmp 128) (.tmp 129) (by rfl) (H6.fr ((Fr.refl _ _).alloc _)) 8 rfl (by go_simp) _ [0] (by go_simp) (sl_one _ _ _) (Nat.le_trans G6.size ((Fr.refl [] _).alloc _).size) (by have := HPL.out; simp only [List.length_cons, List.length_nil]; omega) ?_; intro v8 w8 H8 F8; have G8 := (H6.fr ((Fr.refl _ _).alloc _)).above (i := 8) rfl (G6.alloc _) F8)
    | (go_at_call 36; refine HB1.out.mono ?_; rintro e w6 hNB; rw [HPT.out] at hNB; obtain ⟨r6, rfl, H6, F6⟩ := HH.out.snoc HF.out.size hNB; have G6 := HF.out.trans0 F6))
  exact only_mk (HR.out _ _ ⟨_, { V with v3 := r7 }, rfl, by simp [hz], ⟨fun _ => by simp, fun _ => by simp [slot_set, h4], fun _ => by simp [slot_set, h5], fun _ => by simp [slot_set, h6], fun _ => by simp [slot_set, h7], fun _ => by simp [slot_set, h8], fun _ => by simp [slot_set, h9], fun _ => by simp [slot_set, h10], fun _ => by simp [slot_set, h11], fun _ => by simp [slot_set, h12], fun _ => by simp [slot_set, h13], trivial⟩, OwnL.left (M := [bR v9 X]) H7, G7⟩)

set_option maxRecDepth 100000 in
set_option maxHeartbeats 1000000 in
theorem ft_if14 {w0 : World} {D : FD} (hD : FDs D) (hb : D.b.length ≤ 50000000) (a : Act) (w : World) (hS : FSl w0 D a w) :
    (fc [true, true, true, true, true, true, true, true, true, true, true, true, true, false]).wp Tryd.prog (Only (FSl w0 (if decide (0 < D.p.length) then { D with b := D.b ++ partW 14 (packBits D.e) } else D))) a w := by
  conv => arg 2; whnf
  refine only_seq (R := fun a' w' => a'.eval (.tmp 103) = .bool (decide (0 < D.p.length)) ∧ FSl w0 D a' w') ?_ ?_
  · obtain ⟨A, V, rfl, hz, ⟨h3, h4, h5, h6, h7, h8, h9, h10, h11, h12, h13, -⟩, H, FA⟩ := hS
    obtain ⟨v5o, v5c, hv5, -⟩ := own_out (H.own 2 _ rfl)
    have hv5' : V.v5 = .slice v5o D.p.length v5c := hv5
    have hNP := hD.p
    rw [hv5'] at h5
    have HV5 := Lib.hid hv5'
    clear hv5 hv5'
    generalize hNe : D.p.length = NP at *
    clear hNe
    have HH := Lib.hid H
    have HF := Lib.hid FA
    clear H FA
    clear hD hb
    refine only_hide fun R HR => ?_
    go_wp2_with fail
    exact only_mk (HR.out _ _ ⟨by simp [Act.eval, hz], _, V, rfl, by simp [hz], ⟨fun _ => by simp [slot_set, h3], fun _ => by simp [slot_set, h4], fun _ => by simp [slot_set, h5, HV5.out], fun _ => by simp [slot_set, h6], fun _ => by simp [slot_set, h7], fun _ => by simp [slot_set, h8], fun _ => by simp [slot_set, h9], fun _ => by simp [slot_set, h10], fun _ => by simp [slot_set, h11], fun _ => by simp [slot_set, h12], fun _ => by simp [slot_set, h13], trivial⟩, HH.out, HF.out⟩)
  clear hS a w
  rintro a w ⟨he, h⟩
  by_cases hc : (decide (0 < D.p.length)) = true
  · rw [hc] at he
    rw [if_pos hc]
    exact wp_cond_true he (ft_14 hD hb a w h)
  · have hc' : (decide (0 < D.p.length)) = false := Bool.eq_false_iff.2 hc
    rw [hc'] at he
    rw [if_neg hc]
    exact wp_cond_false he (wp_skip (only_mk h))

set_option maxRecDepth 100000 in
set_option maxHeartbeats 1000000 in
theorem ft_if15 {w0 : World} {D : FD} (hD : FDs D) (hb : D.b.length ≤ 50000000) (a : Act) (w : World) (hS : FSl w0 D a w) :
    (fc [true, true, true, true, true, true, true, true, true, true, true, true, true, true, false]).wp Tryd.prog (Only (FSl w0 (if D.ap then { D with b := D.b ++ partW 15 (packBits D.p) } else D))) a w := by
  conv => arg 2; whnf
  refine only_seq (R := fun a' w' => a'.eval (.tmp 108) = .bool (D.ap) ∧ FSl w0 D a' w') ?_ ?_
  · obtain ⟨A, V, rfl, hz, ⟨h3, h4, h5, h6, h7, h8, h9, h10, h11, h12, h13, -⟩, H, FA⟩ := hS
    have HH := Lib.hid H
    have HF := Lib.hid FA
    clear H FA
    clear hD hb
    refine only_hide fun R HR => ?_
    go_wp2_with fail
    exact only_mk (HR.out _ _ ⟨by simp [Act.eval, hz], _, V, rfl, by simp [hz], ⟨fun _ => by simp [slot_set, h3], fun _ => by simp [slot_set, h4], fun _ => by simp [slot_set, h5], fun _ => by simp [slot_set, h6], fun _ => by simp [slot_set, h7], fun _ => by simp [slot_set, h8], fun _ => by simp [slot_set, h9], fun _ => by simp [slot_set, h10], fun _ => by simp [slot_set, h11], fun _ => by simp [slot_set, h12], fun _ => by simp [slot_set, h13], trivial⟩, HH.out, HF.out⟩)
  clear hS a w
  rintro a w ⟨he, h⟩
  by_cases hc : (D.ap) = true
  · rw [hc] at he
    rw [if_pos hc]
    exact wp_cond_true he (ft_15 hD hb a w h)
  · have hc' : (D.ap) = false := Bool.eq_false_iff.2 hc
    rw [hc'] at he
    rw [if_neg hc]
    exact wp_cond_false he (wp_skip (only_mk h))

set_option maxRecDepth 100000 in
set_option maxHeartbeats 1000000 in
theorem ft_if20 {w0 : World} {D : FD} (hD : FDs D) (hb : D.b.length ≤ 50000000) (a : Act) (w : World) (hS : FSl w0 D a w) :
    (fc [true, true, true, true, true, true, true, true, true, true, true, true, true, true, true, true, false]).wp Tryd.prog (Only (FSl w0 (if D.atm then { D with b := D.b ++ partW 20 ((toldN D.tm ++ [0]) ++ D.ts) } else D))) a w := by
  conv => arg 2; whnf
  refine only_seq (R := fun a' w' => a'.eval (.tmp 116) = .bool (D.atm) ∧ FSl w0 D a' w') ?_ ?_
  · obtain ⟨A, V, rfl, hz, ⟨h3, h4, h5, h6, h7, h8, h9, h10, h11, h12, h13, -⟩, H, FA⟩ := hS
    have HH := Lib.hid H
    have HF := Lib.hid FA
    clear H FA
    clear hD hb
    refine only_hide fun R HR => ?_
    go_wp2_with fail
    exact only_mk (HR.out _ _ ⟨by simp [Act.eval, hz], _, V, rfl, by simp [hz], ⟨fun _ => by simp [slot_set, h3], fun _ => by simp [slot_set, h4], fun _ => by simp [slot_set, h5], fun _ => by simp [slot_set, h6], fun _ => by simp [slot_set, h7], fun _ => by simp [slot_set, h8], fun _ => by simp [slot_set, h9], fun _ => by simp [slot_set, h10], fun _ => by simp [slot_set, h11], fun _ => by simp [slot_set, h12], fun _ => by simp [slot_set, h13], trivial⟩, HH.out, HF.out⟩)
  clear hS a w
  rintro a w ⟨he, h⟩
  by_cases hc : (D.atm) = true
  · rw [hc] at he
    rw [if_pos hc]
    exact wp_cond_true he (ft_20 hD hb a w h)
  · have hc' : (D.atm) = false := Bool.eq_false_iff.2 hc
    rw [hc'] at he
    rw [if_neg hc]
    exact wp_cond_false he (wp_skip (only_mk h))

set_option maxRecDepth 100000 in
set_option maxHeartbeats 1000000 in
theorem ft_if21 {w0 : World} {D : FD} (hD : FDs D) (hb : D.b.length ≤ 50000000) (a : Act) (w : World) (hS : FSl w0 D a w) :
    (fc [true, true, true, true, true, true, true, true, true, true, true, true, true, true, true, true, true, false]).wp Tryd.prog (Only (FSl w0 (if D.aat then { D with b := D.b ++ partW 21 ((toldN D.td ++ [0]) ++ D.at_) } else D))) a w := by
  conv => arg 2; whnf
  refine only_seq (R := fun a' w' => a'.eval (.tmp 125) = .bool (D.aat) ∧ FSl w0 D a' w') ?_ ?_
  · obtain ⟨A, V, rfl, hz, ⟨h3, h4, h5, h6, h7, h8, h9, h10, h11, h12, h13, -⟩, H, FA⟩ := hS
    have HH := Lib.hid H
    have HF := Lib.hid FA
    clear H FA
    clear hD hb
    refine only_hide fun R HR => ?_
    go_wp2_with fail
    exact only_mk (HR.out _ _ ⟨by simp [Act.eval, hz], _, V, rfl, by simp [hz], ⟨fun _ => by simp [slot_set, h3], fun _ => by simp [slot_set, h4], fun _ => by simp [slot_set, h5], fun _ => by simp [slot_set, h6], fun _ => by simp [slot_set, h7], fun _ => by simp [slot_set, h8], fun _ => by simp [slot_set, h9], fun _ => by simp [slot_set, h10], fun _ => by simp [slot_set, h11], fun _ => by simp [slot_set, h12], fun _ => by simp [slot_set, h13], trivial⟩, HH.out, HF.out⟩)
  clear hS a w
  rintro a w ⟨he, h⟩
  by_cases hc : (D.aat) = true
  · rw [hc] at he
    rw [if_pos hc]
    exact wp_cond_true he (ft_21 hD hb a w h)
  · have hc' : (D.aat) = false := Bool.eq_false_iff.2 hc
    rw [hc'] at he
    rw [if_neg hc]
    exact wp_cond_false he (wp_skip (only_mk h))

theorem rows_begin {w w1 : World} {v3 : Value} {b : List UInt8} (F1 : Fr [] w w1) (own3 : w1.ownsRow w.heap.size 5 1 v3 b.length (bv b)) :
    OwnL w.heap.size (w1.alloc (.cells #[.int .u8 0] 5)) (R8 ⟨v3, .slice none 0 0, .slice none 0 0, .slice none 0 0, .slice none 0 0, .slice (some ⟨w1.heap.size, 0, none⟩) 1 1, .slice none 0 0, .slice none 0 0⟩ (FDof b [])) := by
  have o3 := own_frS own3 ((Fr.refl [] w1).alloc (.cells #[.int .u8 0] 5)) (by simp)
  have o8 : (w1.alloc (.cells #[.int .u8 0] 5)).ownsRow w.heap.size 5 1 (.slice (some ⟨w1.heap.size, 0, none⟩) 1 1) 1 (bv [0]) := wown_mono (own_litM w1 5 1 1 (bv [0]) rfl (by decide)) F1.size
  have l3 := fun k hk => (own_ltS own3 k hk).2
  refine ⟨fun i r hr => ?_, fun i j a c hij ha hc k hk hck => ?_⟩
  · match i, hr with
    | 0, hr => obtain rfl := Option.some.inj hr; exact o3
    | 1, hr => obtain rfl := Option.some.inj hr; exact World.ownsRow_nil _ _ _ _
    | 2, hr => obtain rfl := Option.some.inj hr; exact World.ownsRow_nil _ _ _ _
    | 3, hr => obtain rfl := Option.some.inj hr; exact World.ownsRow_nil _ _ _ _
    | 4, hr => obtain rfl := Option.some.inj hr; exact World.ownsRow_nil _ _ _ _
    | 5, hr => obtain rfl := Option.some.inj hr; exact o8
    | 6, hr => obtain rfl := Option.some.inj hr; exact World.ownsRow_nil _ _ _ _
    | 7, hr => obtain rfl := Option.some.inj hr; exact World.ownsRow_nil _ _ _ _
    | n + 8, hr => cases hr
  · have key : ∀ (i : Nat) (r : RowD), (R8 ⟨v3, .slice none 0 0, .slice none 0 0, .slice none 0 0, .slice none 0 0, .slice (some ⟨w1.heap.size, 0, none⟩) 1 1, .slice none 0 0, .slice none 0 0⟩ (FDof b []))[i]? = some r → ∀ k, r.v.ownBlock = some k → (i = 0 ∧ k < w1.heap.size) ∨ (i = 5 ∧ k = w1.heap.size) := fun i r hr k hk => by
      match i, hr with
      | 0, hr => obtain rfl := Option.some.inj hr; exact .inl ⟨rfl, l3 k hk⟩
      | 1, hr => obtain rfl := Option.some.inj hr; simp [tR, Value.ownBlock] at hk
      | 2, hr => obtain rfl := Option.some.inj hr; simp [tR, Value.ownBlock] at hk
      | 3, hr => obtain rfl := Option.some.inj hr; simp [tR, Value.ownBlock] at hk
      | 4, hr => obtain rfl := Option.some.inj hr; simp [tR, Value.ownBlock] at hk
      | 5, hr => obtain rfl := Option.some.inj hr; simp [bR, Value.ownBlock] at hk; exact .inr ⟨rfl, hk.symm⟩
      | 6, hr => obtain rfl := Option.some.inj hr; simp [bR, Value.ownBlock] at hk
      | 7, hr => obtain rfl := Option.some.inj hr; simp [bR, Value.ownBlock] at hk
      | n + 8, hr => cases hr
    rcases key i a ha k hk with ⟨e1, k1⟩ | ⟨e1, k1⟩ <;> rcases key j c hc k hck with ⟨e2, k2⟩ | ⟨e2, k2⟩ <;> omega

theorem filesW_cons {F : List Fil} (h : F ≠ []) : filesW F = ([5] ++ shortN F.length) ++ (rowsW F ++ (partW 17 (namesW F) ++ (numsW 20 8 timeOf F ++ (numsW 21 4 attrOf F ++ [0])))) := by
  unfold filesW
  rw [if_neg h]
  simp
theorem any_mem (l : List Bool) : (l.any id = true) ↔ true ∈ l := by simp

set_option maxRecDepth 100000 in
set_option maxHeartbeats 4000000 in
theorem rfiles_any (w : World) (hi : Nat) (fv : Value) (F : List Fil) (hF : RowAt w hi 7 fv F.length (fiV F)) (hne : F ≠ []) (hN : F.length ≤ 1000) (hnm : ∀ x ∈ F, x.name.length ≤ 100000 ∧ (runesL x.name).isSome = true ∧ (nameU x.name).length ≤ 10000 ∧ ∀ y ∈ nameU x.name, y < 65536) (hl : (filesW F).length ≤ 50000000) :
    Calls Tryd.prog 15 #[fv] w (NewBytes (filesW F) w) := by
  obtain ⟨ao, cap, rfl, -, -, -⟩ := hF.out
  obtain ⟨N, hNF⟩ : ∃ n, F.length = n := ⟨_, rfl⟩
  have HE := Lib.hid (filesW_cons hne)
  rw [hNF] at hF hN HE ⊢
  have hwr : IntKind.u64.wrap (N : Int) = (N : Int) := by simp [IntKind.wrap, IntKind.bits, IntKind.signed]; omega
  have hN64 : N < 18446744073709551616 := by omega
  have HNF := Lib.hid hNF
  have HNM := Lib.hid hnm
  have HHF := Lib.hid hF
  have HL := Lib.hid hl
  have hsn := shortN_le N
  clear hNF hnm hF hl hne
  go_enter Tryd.func15, Tryd.ntmps15
  refine only_seq (R := fun a' w' => ∃ A, a' = ⟨A, []⟩ ∧ A.size = 137 ∧ Slots A [(0, .slice ao N cap)] ∧ w' = w) ?_ ?_
  · refine only_hide fun R HR => ?_
    go_wp2_with fail
    exact only_mk (HR.out _ _ ⟨_, rfl, rfl, ⟨fun _ => rfl, trivial⟩, rfl⟩)
  rintro _ w' ⟨A, rfl, hz, ⟨h0, -⟩, hw⟩
  subst w'
  refine only_seq (R := fun a' w' => ∃ A v3, a' = ⟨A, []⟩ ∧ A.size = 137 ∧ Slots A [(0, .slice ao N cap), (3, v3)] ∧ w'.ownsRow w.heap.size 5 1 v3 ([5] ++ shortN N).length (bv ([5] ++ shortN N)) ∧ Fr [] w w') ?_ ?_
  · have HC := Lib.hid (fun w2 v (h : Sl w2 v (bv [5])) => rnum_any w2 v [5] N h (by decide) hN64)
    refine only_hide fun R HR => ?_
    go_wp2_with (go_at_call 30; refine (HC.out _ _ (sl_one w 5 (.int .u8 5))).mono ?_; rintro e w1 ⟨r1, rfl, own1, F1⟩)
    exact only_mk (HR.out _ _ ⟨_, _, rfl, by simp [hz], ⟨fun _ => by simp [slot_set, h0], fun _ => by simp, trivial⟩, own_mono own1 ((Fr.refl [] w).alloc _).size, ((Fr.refl [] w).alloc _).trans0 F1⟩)
  clear h0 hz A
  rintro _ w1 ⟨A, v3, rfl, hz, ⟨h0, h3, -⟩, own3, F1⟩
  refine only_seq (R := fun a' w' => ∃ A, a' = ⟨A, []⟩ ∧ A.size = 137 ∧ Slots A [(0, .slice ao N cap), (3, v3), (4, .slice none 0 0)] ∧ w' = w1) ?_ ?_
  · clear own3 F1
    refine only_hide fun R HR => ?_
    go_wp2_with fail
    exact only_mk (HR.out _ _ ⟨_, rfl, by simp [hz], ⟨fun _ => by simp [slot_set, h0], fun _ => by simp [slot_set, h3], fun _ => by simp, trivial⟩, rfl⟩)
  clear h0 h3 hz A
  rintro _ w' ⟨A, rfl, hz, ⟨h0, h3, h4, -⟩, hw⟩
  subst w'
  refine only_seq (R := fun a' w' => ∃ A, a' = ⟨A, []⟩ ∧ A.size = 137 ∧ Slots A [(0, .slice ao N cap), (3, v3), (4, .slice none 0 0), (5, .slice none 0 0)] ∧ w' = w1) ?_ ?_
  · clear own3 F1
    refine only_hide fun R HR => ?_
    go_wp2_with fail
    exact only_mk (HR.out _ _ ⟨_, rfl, by simp [hz], ⟨fun _ => by simp [slot_set, h0], fun _ => by simp [slot_set, h3], fun _ => by simp [slot_set, h4], fun _ => by simp, trivial⟩, rfl⟩)
  clear h0 h3 h4 hz A
  rintro _ w' ⟨A, rfl, hz, ⟨h0, h3, h4, h5, -⟩, hw⟩
  subst w'
  refine only_seq (R := fun a' w' => ∃ A, a' = ⟨A, []⟩ ∧ A.size = 137 ∧ Slots A [(0, .slice ao N cap), (3, v3), (4, .slice none 0 0), (5, .slice none 0 0), (6, .slice none 0 0)] ∧ w' = w1) ?_ ?_
  · clear own3 F1
    refine only_hide fun R HR => ?_
    go_wp2_with fail
    exact only_mk (HR.out _ _ ⟨_, rfl, by simp [hz], ⟨fun _ => by simp [slot_set, h0], fun _ => by simp [slot_set, h3], fun _ => by simp [slot_set, h4], fun _ => by simp [slot_set, h5], fun _ => by simp, trivial⟩, rfl⟩)
  clear h0 h3 h4 h5 hz A
  rintro _ w' ⟨A, rfl, hz, ⟨h0, h3, h4, h5, h6, -⟩, hw⟩
  subst w'
  refine only_seq (R := fun a' w' => ∃ A, a' = ⟨A, []⟩ ∧ A.size = 137 ∧ Slots A [(0, .slice ao N cap), (3, v3), (4, .slice none 0 0), (5, .slice none 0 0), (6, .slice none 0 0), (7, .slice none 0 0)] ∧ w' = w1) ?_ ?_
  · clear own3 F1
    refine only_hide fun R HR => ?_
    go_wp2_with fail
    exact only_mk (HR.out _ _ ⟨_, rfl, by simp [hz], ⟨fun _ => by simp [slot_set, h0], fun _ => by simp [slot_set, h3], fun _ => by simp [slot_set, h4], fun _ => by simp [slot_set, h5], fun _ => by simp [slot_set, h6], fun _ => by simp, trivial⟩, rfl⟩)
  clear h0 h3 h4 h5 h6 hz A
  rintro _ w' ⟨A, rfl, hz, ⟨h0, h3, h4, h5, h6, h7, -⟩, hw⟩
  subst w'
  refine only_seq (R := fun a' w' => ∃ A v8, a' = ⟨A, []⟩ ∧ A.size = 137 ∧ Slots A [(0, .slice ao N cap), (3, v3), (4, .slice none 0 0), (5, .slice none 0 0), (6, .slice none 0 0), (7, .slice none 0 0), (8, v8)] ∧ v8 = .slice (some ⟨w1.heap.size, 0, none⟩) 1 1 ∧ w' = w1.alloc (.cells #[.int .u8 0] 5)) ?_ ?_
  · clear own3 F1
    refine only_hide fun R HR => ?_
    go_wp2_with fail
    exact only_mk (HR.out _ _ ⟨_, _, rfl, by simp [hz], ⟨fun _ => by simp [slot_set, h0], fun _ => by simp [slot_set, h3], fun _ => by simp [slot_set, h4], fun _ => by simp [slot_set, h5], fun _ => by simp [slot_set, h6], fun _ => by simp [slot_set, h7], fun _ => by simp, trivial⟩, rfl, rfl⟩)
  clear h0 h3 h4 h5 h6 h7 hz A
  rintro _ w8 ⟨A, v8, rfl, hz, ⟨h0, h3, h4, h5, h6, h7, h8, -⟩, hv8, hw8⟩
  have HX8 : OwnL w.heap.size w8 (R8 ⟨v3, .slice none 0 0, .slice none 0 0, .slice none 0 0, .slice none 0 0, v8, .slice none 0 0, .slice none 0 0⟩ (FDof ([5] ++ shortN N) [])) := by
    subst hv8 hw8
    exact rows_begin F1 own3
  have FX8 : Fr [] w w8 := hw8 ▸ F1.alloc _
  clear hv8 hw8
  refine only_seq (R := fun a' w' => ∃ A, a' = ⟨A, []⟩ ∧ A.size = 137 ∧ Slots A [(0, .slice ao N cap), (3, v3), (4, .slice none 0 0), (5, .slice none 0 0), (6, .slice none 0 0), (7, .slice none 0 0), (8, v8), (9, .slice none 0 0)] ∧ w' = w8) ?_ ?_
  · clear own3 F1 HX8 FX8
    refine only_hide fun R HR => ?_
    go_wp2_with fail
    exact only_mk (HR.out _ _ ⟨_, rfl, by simp [hz], ⟨fun _ => by simp [slot_set, h0], fun _ => by simp [slot_set, h3], fun _ => by simp [slot_set, h4], fun _ => by simp [slot_set, h5], fun _ => by simp [slot_set, h6], fun _ => by simp [slot_set, h7], fun _ => by simp [slot_set, h8], fun _ => by simp, trivial⟩, rfl⟩)
  clear h0 h3 h4 h5 h6 h7 h8 hz A
  rintro _ w' ⟨A, rfl, hz, ⟨h0, h3, h4, h5, h6, h7, h8, h9, -⟩, hw⟩
  subst w'
  refine only_seq (R := fun a' w' => ∃ A, a' = ⟨A, []⟩ ∧ A.size = 137 ∧ Slots A [(0, .slice ao N cap), (3, v3), (4, .slice none 0 0), (5, .slice none 0 0), (6, .slice none 0 0), (7, .slice none 0 0), (8, v8), (9, .slice none 0 0), (10, .slice none 0 0)] ∧ w' = w8) ?_ ?_
  · clear own3 F1 HX8 FX8
    refine only_hide fun R HR => ?_
    go_wp2_with fail
    exact only_mk (HR.out _ _ ⟨_, rfl, by simp [hz], ⟨fun _ => by simp [slot_set, h0], fun _ => by simp [slot_set, h3], fun _ => by simp [slot_set, h4], fun _ => by simp [slot_set, h5], fun _ => by simp [slot_set, h6], fun _ => by simp [slot_set, h7], fun _ => by simp [slot_set, h8], fun _ => by simp [slot_set, h9], fun _ => by simp, trivial⟩, rfl⟩)
  clear h0 h3 h4 h5 h6 h7 h8 h9 hz A
  rintro _ w' ⟨A, rfl, hz, ⟨h0, h3, h4, h5, h6, h7, h8, h9, h10, -⟩, hw⟩
  subst w'
  refine only_seq (R := fun a' w' => ∃ A, a' = ⟨A, []⟩ ∧ A.size = 137 ∧ Slots A [(0, .slice ao N cap), (3, v3), (4, .slice none 0 0), (5, .slice none 0 0), (6, .slice none 0 0), (7, .slice none 0 0), (8, v8), (9, .slice none 0 0), (10, .slice none 0 0), (11, .bool false)] ∧ w' = w8) ?_ ?_
  · clear own3 F1 HX8 FX8
    refine only_hide fun R HR => ?_
    go_wp2_with fail
    exact only_mk (HR.out _ _ ⟨_, rfl, by simp [hz], ⟨fun _ => by simp [slot_set, h0], fun _ => by simp [slot_set, h3], fun _ => by simp [slot_set, h4], fun _ => by simp [slot_set, h5], fun _ => by simp [slot_set, h6], fun _ => by simp [slot_set, h7], fun _ => by simp [slot_set, h8], fun _ => by simp [slot_set, h9], fun _ => by simp [slot_set, h10], fun _ => by simp, trivial⟩, rfl⟩)
  clear h0 h3 h4 h5 h6 h7 h8 h9 h10 hz A
  rintro _ w' ⟨A, rfl, hz, ⟨h0, h3, h4, h5, h6, h7, h8, h9, h10, h11, -⟩, hw⟩
  subst w'
  refine only_seq (R := fun a' w' => ∃ A, a' = ⟨A, []⟩ ∧ A.size = 137 ∧ Slots A [(0, .slice ao N cap), (3, v3), (4, .slice none 0 0), (5, .slice none 0 0), (6, .slice none 0 0), (7, .slice none 0 0), (8, v8), (9, .slice none 0 0), (10, .slice none 0 0), (11, .bool false), (12, .bool false)] ∧ w' = w8) ?_ ?_
  · clear own3 F1 HX8 FX8
    refine only_hide fun R HR => ?_
    go_wp2_with fail
    exact only_mk (HR.out _ _ ⟨_, rfl, by simp [hz], ⟨fun _ => by simp [slot_set, h0], fun _ => by simp [slot_set, h3], fun _ => by simp [slot_set, h4], fun _ => by simp [slot_set, h5], fun _ => by simp [slot_set, h6], fun _ => by simp [slot_set, h7], fun _ => by simp [slot_set, h8], fun _ => by simp [slot_set, h9], fun _ => by simp [slot_set, h10], fun _ => by simp [slot_set, h11], fun _ => by simp, trivial⟩, rfl⟩)
  clear h0 h3 h4 h5 h6 h7 h8 h9 h10 h11 hz A
  rintro _ w' ⟨A, rfl, hz, ⟨h0, h3, h4, h5, h6, h7, h8, h9, h10, h11, h12, -⟩, hw⟩
  subst w'
  refine only_seq (R := fun a' w' => ∃ A, a' = ⟨A, []⟩ ∧ A.size = 137 ∧ Slots A [(0, .slice ao N cap), (3, v3), (4, .slice none 0 0), (5, .slice none 0 0), (6, .slice none 0 0), (7, .slice none 0 0), (8, v8), (9, .slice none 0 0), (10, .slice none 0 0), (11, .bool false), (12, .bool false), (13, .bool false)] ∧ w' = w8) ?_ ?_
  · clear own3 F1 HX8 FX8
    refine only_hide fun R HR => ?_
    go_wp2_with fail
    exact only_mk (HR.out _ _ ⟨_, rfl, by simp [hz], ⟨fun _ => by simp [slot_set, h0], fun _ => by simp [slot_set, h3], fun _ => by simp [slot_set, h4], fun _ => by simp [slot_set, h5], fun _ => by simp [slot_set, h6], fun _ => by simp [slot_set, h7], fun _ => by simp [slot_set, h8], fun _ => by simp [slot_set, h9], fun _ => by simp [slot_set, h10], fun _ => by simp [slot_set, h11], fun _ => by simp [slot_set, h12], fun _ => by simp, trivial⟩, rfl⟩)
  clear h0 h3 h4 h5 h6 h7 h8 h9 h10 h11 h12 hz A
  rintro _ w' ⟨A, rfl, hz, ⟨h0, h3, h4, h5, h6, h7, h8, h9, h10, h11, h12, h13, -⟩, hw⟩
  subst w'
  have hI : FS0 w (.slice ao N cap) (FDof ([5] ++ shortN N) []) ⟨A, []⟩ w8 := ⟨A, ⟨v3, .slice none 0 0, .slice none 0 0, .slice none 0 0, .slice none 0 0, v8, .slice none 0 0, .slice none 0 0⟩, rfl, hz, ⟨h0, h3, h4, h5, h6, h7, h8, h9, h10, h11, h12, h13, trivial⟩, HX8, FX8⟩
  clear h0 h3 h4 h5 h6 h7 h8 h9 h10 h11 h12 h13 hz HX8 FX8 own3 F1
  refine only_seq (fl_loop HNF.out HHF.out (by simp; omega) hN HNM.out _ _ hI) ?_
  clear hI A v3 v8 w8 w1
  intro a w2 h
  have hfit := FDof_fit ([5] ++ shortN N) F (by simp; omega) (by rw [HNF.out]; exact hN) (fun x hx => (HNM.out x hx).2.2.1)
  have hD : FDs (FDof ([5] ++ shortN N) F) := ⟨hfit.e, hfit.p, hfit.tm, hfit.td, hfit.tx, hfit.ts, hfit.at_⟩
  obtain ⟨A1, hA1⟩ : ∃ A1, A1 = if decide (0 < (plainB F).length) = true then partW 14 (packBits (emptyB F)) else [] := ⟨_, rfl⟩
  obtain ⟨A2, hA2⟩ : ∃ A2, A2 = if (plainB F).any id = true then partW 15 (packBits (plainB F)) else [] := ⟨_, rfl⟩
  obtain ⟨A3, hA3⟩ : ∃ A3, A3 = partW 17 (namesW F) := ⟨_, rfl⟩
  obtain ⟨A4, hA4⟩ : ∃ A4, A4 = if (hasV timeOf F).any id = true then partW 20 ((toldN (hasV timeOf F) ++ [0]) ++ valsV timeOf 8 F) else [] := ⟨_, rfl⟩
  obtain ⟨A5, hA5⟩ : ∃ A5, A5 = if (hasV attrOf F).any id = true then partW 21 ((toldN (hasV attrOf F) ++ [0]) ++ valsV attrOf 4 F) else [] := ⟨_, rfl⟩
  have HEQ := Lib.hid (show filesW F = ((((((([5] ++ shortN N) ++ A1) ++ A2) ++ A3) ++ A4) ++ A5) ++ [0]) from by
    have e1 : (if plainB F = [] then [] else partW 14 (packBits (emptyB F))) = A1 := by
      rw [hA1]
      by_cases h : plainB F = []
      · rw [if_pos h, if_neg (by rw [h]; simp)]
      · rw [if_neg h, if_pos (by simpa using List.length_pos_iff.2 h)]
    have e2 : (if true ∈ plainB F then partW 15 (packBits (plainB F)) else []) = A2 := by
      rw [hA2]
      by_cases h : true ∈ plainB F
      · rw [if_pos h, if_pos ((any_mem _).2 h)]
      · rw [if_neg h, if_neg (fun h2 => h ((any_mem _).1 h2))]
    have e4 : numsW 20 8 timeOf F = A4 := by
      rw [hA4]
      unfold numsW
      by_cases h : true ∈ hasV timeOf F
      · rw [if_pos h, if_pos ((any_mem _).2 h)]
      · rw [if_neg h, if_neg (fun h2 => h ((any_mem _).1 h2))]
    have e5 : numsW 21 4 attrOf F = A5 := by
      rw [hA5]
      unfold numsW
      by_cases h : true ∈ hasV attrOf F
      · rw [if_pos h, if_pos ((any_mem _).2 h)]
      · rw [if_neg h, if_neg (fun h2 => h ((any_mem _).1 h2))]
    rw [HE.out, ← e4, ← e5, hA3]
    unfold rowsW
    rw [e1, e2]
    simp only [List.append_assoc])
  have hlen := congrArg List.length HEQ.out
  rw [List.length_append, List.length_append, List.length_append, List.length_append, List.length_append, List.length_append] at hlen
  have hL := HL.out
  obtain ⟨b0, hb0⟩ : ∃ b0, b0 = [5] ++ shortN N := ⟨_, rfl⟩
  rw [← hb0] at hlen h hD
  have HB0 := Lib.hid hb0
  have k1 : ∀ (D : FD) (c : Bool) (X : List UInt8), (if c = true then ({ D with b := D.b ++ X } : FD) else D) = { D with b := D.b ++ (if c = true then X else []) } := fun D c X => by cases c <;> simp
  refine only_seq (ft_if14 hD (by show b0.length ≤ _; omega) a w2 h) (fun a wx h => ?_)
  rw [k1] at h
  obtain ⟨D1, hD1⟩ : ∃ D1 : FD, D1 = { FDof b0 F with b := b0 ++ A1 } := ⟨_, rfl⟩
  have h1 : FSl w D1 a wx := by rw [hD1, hA1]; exact h
  have d1 : FDs D1 := by rw [hD1]; exact ⟨hD.e, hD.p, hD.tm, hD.td, hD.tx, hD.ts, hD.at_⟩
  clear h
  refine only_seq (ft_if15 d1 (by rw [hD1]; show (b0 ++ A1).length ≤ _; rw [List.length_append]; omega) a wx h1) (fun a wx h => ?_)
  rw [k1] at h
  obtain ⟨D2, hD2⟩ : ∃ D2 : FD, D2 = { FDof b0 F with b := (b0 ++ A1) ++ A2 } := ⟨_, rfl⟩
  have h2 : FSl w D2 a wx := by rw [hD2, hA2]; rw [hD1] at h; exact h
  have d2 : FDs D2 := by rw [hD2]; exact ⟨hD.e, hD.p, hD.tm, hD.td, hD.tx, hD.ts, hD.at_⟩
  clear h h1
  refine only_seq (ft_17 d2 (by rw [hD2]; show ((b0 ++ A1) ++ A2).length ≤ _; rw [List.length_append, List.length_append]; omega) a wx h2) (fun a wx h => ?_)
  obtain ⟨D3, hD3⟩ : ∃ D3 : FD, D3 = { FDof b0 F with b := ((b0 ++ A1) ++ A2) ++ A3 } := ⟨_, rfl⟩
  have h3 : FSl w D3 a wx := by rw [hD3, hA3]; rw [hD2] at h; exact h
  have d3 : FDs D3 := by rw [hD3]; exact ⟨hD.e, hD.p, hD.tm, hD.td, hD.tx, hD.ts, hD.at_⟩
  clear h h2
  refine only_seq (ft_if20 d3 (by rw [hD3]; show (((b0 ++ A1) ++ A2) ++ A3).length ≤ _; rw [List.length_append, List.length_append, List.length_append]; omega) a wx h3) (fun a wx h => ?_)
  rw [k1] at h
  obtain ⟨D4, hD4⟩ : ∃ D4 : FD, D4 = { FDof b0 F with b := (((b0 ++ A1) ++ A2) ++ A3) ++ A4 } := ⟨_, rfl⟩
  have h4 : FSl w D4 a wx := by rw [hD4, hA4]; rw [hD3] at h; exact h
  have d4 : FDs D4 := by rw [hD4]; exact ⟨hD.e, hD.p, hD.tm, hD.td, hD.tx, hD.ts, hD.at_⟩
  clear h h3
  refine only_seq (ft_if21 d4 (by rw [hD4]; show ((((b0 ++ A1) ++ A2) ++ A3) ++ A4).length ≤ _; rw [List.length_append, List.length_append, List.length_append, List.length_append]; omega) a wx h4) (fun a wx h => ?_)
  rw [k1] at h
  obtain ⟨b5, hb5⟩ : ∃ b5, b5 = ((((b0 ++ A1) ++ A2) ++ A3) ++ A4) ++ A5 := ⟨_, rfl⟩
  obtain ⟨D5, hD5⟩ : ∃ D5 : FD, D5 = { FDof b0 F with b := b5 } := ⟨_, rfl⟩
  have h5 : FSl w D5 a wx := by rw [hD5, hb5, hA5]; rw [hD4] at h; exact h
  have HR0 := Lib.hid (show filesW F = b5 ++ [0] by rw [HEQ.out, hb5, hb0])
  have HBL := Lib.hid (show b5.length ≤ 50000000 by rw [hb5]; simp only [List.length_append]; omega)
  rw [HR0.out]
  clear h h4
  obtain ⟨A, V, rfl, hz, ⟨g3, h4, h5, h6, h7, h8, h9, h10, h11, h12, h13, -⟩, H, FA⟩ := h5
  have hb : D5.b = b5 := by rw [hD5]
  have o3 : OwnL w.heap.size wx (R8 V D5) := H
  have oo := own_outS (o3.own 0 _ rfl)
  have HO := Lib.hid (And.intro o3 FA)
  have HBD := Lib.hid hb
  clear HNF HNM HHF HL HE hsn hN hfit hD hA1 hA2 hA3 hA4 hA5 HEQ hlen hL hb0 HB0 k1 d1 d2 d3 d4 hD1 hD2 hD3 hD4 hD5 hb5 H FA o3 oo hb hwr hN64
  refine only_seq (R := fun a' w' => ∃ A v, a' = ⟨A, []⟩ ∧ A.size = 137 ∧ Slots A [(2, v)] ∧ NewBytes (b5 ++ [0]) w (.returned v) w') ?_ ?_
  · refine only_hide fun R HR => ?_
    go_wp2_with (at_builtin; refine wpList_append_rb sty_u8 rfl (.tmp 134) (.tmp 135) (by rfl) (HO.out.1.fr ((Fr.refl _ _).alloc _)) 0 rfl (by go_simp) _ [0] (by go_simp) (sl_one _ _ _) (Nat.le_trans HO.out.2.size ((Fr.refl [] _).alloc _).size) (by have := HBL.out; rw [HBD.out]; simp only [List.length_cons, List.length_nil]; omega) ?_; intro v9 w9 H9 F9; have G9 := (HO.out.1.fr ((Fr.refl _ _).alloc _)).above (i := 0) rfl (HO.out.2.alloc _) F9)
    refine only_mk (HR.out _ _ ⟨_, v9, rfl, by simp [hz], ⟨fun _ => by simp, trivial⟩, v9, rfl, ?_, G9⟩)
    rw [← HBD.out]
    exact H9.own 0 _ rfl
  clear g3 h4 h5 h6 h7 h8 h9 h10 h11 h12 h13 hz A HO HBD HBL HR0
  rintro _ w' ⟨A, v, rfl, hz, ⟨h2, -⟩, hN⟩
  have HN := Lib.hid hN
  clear hN
  go_wp2_with fail
  exact bodyPost_ret (v := v) (by simp [results, Tryd.results15, go_sem, hz, h2]) rfl HN.out
end Go.Proofs.YtkodindajfdagaaDoor
