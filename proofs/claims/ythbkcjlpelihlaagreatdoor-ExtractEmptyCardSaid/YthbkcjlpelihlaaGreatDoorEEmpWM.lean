/- ExtractEmpty: the walk. No condition. -/
import Derived.Test.YthbkcjlpelihlaaGreatDoorGAW
namespace Go.Proofs.YthbkcjlpelihlaaGreatDoor
open Go.RowKit Go.Maps

theorem arr_getE {α : Type} (l : List α) (i : Nat) (x : α) (h : l[i]? = some x) : l.toArray[i]? = some x := by simpa using h
theorem seal_lenE (area head : List UInt8) (ha : area.length ≤ 16000) (hh : head.length ≤ 16000) : (sealL area head).length ≤ 40000 := by
  have h1 := sealA_len area head
  unfold sealL
  rw [List.length_append, sealHead_len, List.length_append]
  omega
set_option maxRecDepth 100000 in
set_option maxHeartbeats 8000000 in
theorem walk_ExtractEmpty (W : World) (tv fv : Value) (L : List Th) (root : List UInt8) (av : Value) (area : List UInt8) (bare : Bool) (hG : Gl W) (hT : ThAt W W.heap.size tv L) (hA : Sl W av (bv area)) :
    Calls Tryz.prog 3 #[WoV tv fv root, av, .bool bare] W fun e w' => e = .returned (.bool true) ∧ Fr [] W w' := by
  obtain ⟨ao, cap, rfl, -, -⟩ := hT.out
  obtain ⟨aao, acap, rfl, -⟩ := hA.out
  rw [bv_length] at hA ⊢
  obtain ⟨wA, hwA⟩ : ∃ wA, wA = W.alloc (.cells #[.slice ao L.length cap, fv, .string ⟨root.toArray⟩] 25) := ⟨_, rfl⟩
  have FA : Fr [] W wA := hwA ▸ (Fr.refl _ _).alloc _
  have bA : wA.heap[W.heap.size]? = some (.cells #[.slice ao L.length cap, fv, .string ⟨root.toArray⟩] 25 (0, 0)) := hwA ▸ heap_alloc_new W _
  have HBX := Lib.hid (fun (wx : World) (F : Fr [] wA wx) => cells3b ((F.block _ (Array.getElem?_eq_some_iff.1 bA).1 (by simp)).trans bA))
  have HAW := Lib.hid (fun (wx : World) (F : Fr [] W wx) => awake26 wx (hG.fr F))
  have HSM := Lib.hid (fun (wx : World) (F : Fr [] W wx) => small26 (hT.fr0 F) fv root)
  have HRO := Lib.hid (fun (wx : World) (F : Fr [] W wx) (hs : SmL L) (hr : root.length < 600) => rroom_none (hT.fr0 F) (by have := hs.1; omega) root (by omega))
  have HFI := Lib.hid (fun (wx : World) (hr : root.length < 600) => rfits_none wx root (by omega))
  have hnot : ∀ (x : Bool) (w : World), (Op.unary .not (.bool x)).run Tryz.prog w = .ok (.bool (!x)) w := fun _ _ => rfl
  have HT := Lib.hid hT
  have HA := Lib.hid hA
  have HG := Lib.hid hG
  have HFA := Lib.hid FA
  have HBA := Lib.hid bA
  unfold WoV
  obtain ⟨AN, hAN⟩ : ∃ AN, area.length = AN := ⟨_, rfl⟩
  have HAN := Lib.hid hAN
  obtain ⟨LN, hLN⟩ : ∃ LN, L.length = LN := ⟨_, rfl⟩
  have HLN := Lib.hid hLN
  rw [hAN] at HA ⊢
  rw [hLN] at HT HBA HBX HSM HRO hwA ⊢
  clear hG hT hA FA bA hAN hLN
  by_cases hla : AN ≤ 4096
  · have hI : ¬ (4096 : Int) < (AN : Int) := by omega
    go_enter Tryz.func3, Tryz.ntmps3
    go_upto_region 5 with (first
      | (have hq := HRM; go_at_call 7; refine (HFI.out _ HSL.out.2.2).mono ?_; rintro e w4 ⟨rfl, F4⟩; cases hfb : fitsB root; rotate_left; have HFT := Lib.hid hfb; have G4 := G3.trans0 F4; obtain ⟨c0, c1, c2, cf⟩ := HBX.out w4 G4; have cf1 := cf 1; rotate_left)
      | (have hq := HSL; go_at_call 6; refine (HRO.out _ (HFA.out.trans0 G2) HSL.out.1 HSL.out.2.2).mono ?_; rintro e w3 ⟨rfl, F3⟩; cases hrb : roomB (lookL L) root; rotate_left; have HRM := Lib.hid hrb; have G3 := G2.trans0 F3; obtain ⟨c0, c1, c2, cf⟩ := HBX.out w3 G3; rotate_left)
      | (have hq := G1; go_at_call 5; refine (HSM.out _ (HFA.out.trans0 G1)).mono ?_; rintro e w2 ⟨r, rfl, hr, F2⟩; cases r; rotate_left; have HSL := Lib.hid (hr rfl); have G2 := G1.trans0 F2; obtain ⟨c0, c1, c2, cf⟩ := HBX.out w2 G2; rotate_left)
      | (go_at_call 4; rw [← hwA]; clear hwA; refine (HAW.out _ HFA.out).mono ?_; rintro e w1 ⟨rfl, G1⟩; obtain ⟨c0, c1, c2, cf⟩ := HBX.out w1 G1))
    · go_ret
      exact ⟨rfl, (HFA.out.trans0 G1).trans0 F2⟩
    · go_ret
      exact ⟨rfl, (HFA.out.trans0 G2).trans0 F3⟩
    · go_ret
      exact ⟨rfl, (HFA.out.trans0 G3).trans0 F4⟩
    obtain ⟨hk1, hex⟩ := room_ex HRM.out
    obtain ⟨hrc, hr9⟩ := fits_ex HFT.out
    have b4 := (G4.block _ (Array.getElem?_eq_some_iff.1 HBA.out).1 (by simp)).trans HBA.out
    have hM := HSL.out.2.1
    have hS := HSL.out.1
    have hrl := HSL.out.2.2
    have HBE := Lib.hid (fun (wx : World) (F : Fr [] W wx) => begin26 (HT.out.fr0 F) hM hS (HG.out.fr F) (fun _ _ _ => True) root)
    have HEX := Lib.hid (fun (wx : World) (lo p : Nat) (hlo : W.heap.size ≤ lo) (F : Fr [] W wx) (S : SandAt wx lo p L.length 0 ⟨[], fun _ _ _ => True⟩ (lookL L)) (v : Value) (head : List UInt8) (hhl : head.length ≤ 2) (hP : FilesP head 0 NilRow) (hv : Sl wx v (bv (sealL area head))) =>
      extract0_any S (HG.out.fr F) (by have := HG.out.sz; omega) v _ hv (seal_lenE area head (by have := HAN.out; omega) (by omega)) (seal_open area head (by have := HAN.out; omega) (by omega)).1 (seal_open area head (by have := HAN.out; omega) (by omega)).2.2 hP (by omega) hM.2 hk1 hrc (by omega) (fun i hi => stP_clean hrc hr9 hi) hex (by have := hS.1; omega) (by decide)
        ⟨rfl, trivial⟩ (fun _ _ _ => ⟨⟨rfl, trivial⟩, ⟨rfl, trivial⟩⟩) (fun _ _ _ => ⟨rfl, trivial⟩))
    rw [HLN.out] at HBE HEX
    clear hk1 hex hrc hr9 hM hS hrl
    go_upto_region 6 with fail
    obtain ⟨w5, hw5⟩ : ∃ w5, w5 = w4.setCell ⟨W.heap.size, 1, none⟩ (.slice none 0 0) := ⟨_, rfl⟩
    rw [← hw5]
    have b5 : w5.heap[W.heap.size]? = some (.cells #[.slice ao LN cap, .slice none 0 0, .string ⟨root.toArray⟩] 25 (0, 0)) := hw5 ▸ Go.Joins.block_setCell (i := 1) b4 _
    have FW5 := Lib.hid (show Fr [] W w5 from (HFA.out.trans0 G4).trans (hw5 ▸ (Fr.refl _ _).setCell (S := [W.heap.size]) (by simp) _ : Fr [W.heap.size] w4 w5) (by simp))
    clear hw5 b4 c0 c1 c2 cf
    cases bare with
    | true =>
      go_upto_region 9 with fail
      obtain ⟨w6, hw6⟩ : ∃ w6, w6 = w5.alloc (.cells #[.int .u8 1, .int .u8 0] 5) := ⟨_, rfl⟩
      rw [← hw6]
      have F6 : Fr [] w5 w6 := hw6 ▸ (Fr.refl _ _).alloc _
      have SH : Sl w6 (.slice none 0 0) (bv []) := Sl.nil w6
      have b6 := (F6.block _ (Array.getElem?_eq_some_iff.1 b5).1 (by simp)).trans b5
      clear hw6
      obtain ⟨c0, c1, c2, cf⟩ := cells3b b6
      have FW6 := Lib.hid (FW5.out.trans0 F6)
      go_upto_region 12 with (go_at_call 8; refine (HBE.out w6 FW6.out).mono ?_; rintro e w7 ⟨p, rfl, S7, F7⟩)
      have HS7 := Lib.hid S7
      have FW7 := Lib.hid (FW6.out.trans0 F7)
      have b7 := (F7.block _ (Array.getElem?_eq_some_iff.1 b6).1 (by simp)).trans b6
      obtain ⟨s0, s1, s2, sf⟩ := cells3b b7
      have SH7 := Lib.hid (SH.fr0 F7)
      have HB7 := Lib.hid b7
      have HLO := Lib.hid FW6.out.size
      clear S7 SH b6 b5 b7 c0 c1 c2 cf
      have HK3 := Lib.hid (fun (wx w' wy : World) (F : Fr [] w7 wx) (X : ExF (w6.heap.size + 1) [] wx w') (F2 : Fr [] w' wy) => (show wy.cell? ⟨W.heap.size, 2, none⟩ = some (.string ⟨root.toArray⟩) from by
        have g1 := (F.block _ (Array.getElem?_eq_some_iff.1 HB7.out).1 (by simp)).trans HB7.out
        have g2 := X.keep g1 (by simp) (by decide) (by decide)
        have g3 := (F2.block _ (Array.getElem?_eq_some_iff.1 g2).1 (by simp)).trans g2
        exact (cells3b g3).2.2.1))
      have HSE := Lib.hid (fun (wx : World) (F : Fr [] w7 wx) => seal_any wx _ _ area [] (HA.out.fr0 (FW7.out.trans0 F)) (SH7.out.fr0 F) (by have := HAN.out; omega) (by decide))
      have HEX2 := Lib.hid (fun (wx : World) (F : Fr [] w7 wx) (v : Value) (hv : Sl wx v (bv (sealL area []))) => HEX.out wx (w6.heap.size + 1) p (by have := HLO.out; omega) (FW7.out.trans0 F) (HS7.out.fr0 F) v [] (by decide) filesP_nil0 hv)
      have HKZ := Lib.hid (fun (wx : World) (g : Nat) (hx : wx.cell? ⟨W.heap.size, 2, none⟩ = some (.string ⟨root.toArray⟩)) (hg : W.heap.size ≠ g) (a0 a1 a2 a3 a4 a5 a6 : Value) => (show (z7 wx g a0 a1 a2 a3 a4 a5 a6).cell? ⟨W.heap.size, 2, none⟩ = some (.string ⟨root.toArray⟩) from z7_else hx hg a0 a1 a2 a3 a4 a5 a6))
      have hW7 : W.heap.size < w7.heap.size := (Array.getElem?_eq_some_iff.1 HB7.out).1
      clear s0 s1 sf
      rename_i K12 hK12
      go_cut [9] (fun v9 wx => ∃ g, v9 = .pointer (some ⟨g, 0, none⟩) ∧ g < wx.heap.size ∧ wx.cell? ⟨g, 0, none⟩ = some (.int .i64 0) ∧ wx.cell? ⟨g, 3, none⟩ = some (.int .i64 0) ∧ (∃ n' nc', n' ≤ LN + 1 ∧ SandAt wx (w6.heap.size + 1) p n' nc' ⟨[], fun _ _ _ => True⟩ (lookL L)) ∧ ExF (w6.heap.size + 1) [] w7 wx)
      case first =>
        clear hK12
        refine wp_region_held_drew (S := (fun wx => wx.cell? ⟨W.heap.size, 2, none⟩ = some (.string ⟨root.toArray⟩))) (by kernel_rfl) (HK3.out w7 w7 w7.drew (Fr.refl _ _) (ExF.of0 (Fr.refl _ _)) (Fr.refl _ _).drew) (fun _ => ?_)
        refine wpAnyH_take (i := 0) (v := ?_) (arr_getE _ 0 _ rfl) (by kernel_rfl) (by kernel_rfl) (by kernel_rfl) (fun _ _ _ h => h) (Or.inl ⟨by rfl, ?_⟩) (HK3.out w7 w7 w7.drew (Fr.refl _ _) (ExF.of0 (Fr.refl _ _)) (Fr.refl _ _).drew) ?_
        rotate_left
        · intro w hSw
          go_simp
          all_goals with_reducible rfl
        try simp only [Act.put, List.setIfInBounds_toArray, List.set_cons_zero, List.set_cons_succ]
        refine wpAnyH_take (i := 1) (v := ?_) (arr_getE _ 1 _ rfl) (by kernel_rfl) (by kernel_rfl) (by kernel_rfl) (fun _ _ _ h => h) (Or.inl ⟨by rfl, ?_⟩) (HK3.out w7 w7 w7.drew (Fr.refl _ _) (ExF.of0 (Fr.refl _ _)) (Fr.refl _ _).drew) ?_
        rotate_left
        · intro w hSw
          go_simp
          all_goals with_reducible rfl
        try simp only [Act.put, List.setIfInBounds_toArray, List.set_cons_zero, List.set_cons_succ]
        refine wpAnyH_take (i := 4) (v := ?_) (arr_getE _ 4 _ rfl) (by kernel_rfl) (by kernel_rfl) (by kernel_rfl) (fun _ _ _ h => h) (Or.inl ⟨by rfl, ?_⟩) (HK3.out w7 w7 w7.drew (Fr.refl _ _) (ExF.of0 (Fr.refl _ _)) (Fr.refl _ _).drew) ?_
        rotate_left
        · intro w hSw
          go_simp
          all_goals with_reducible rfl
        try simp only [Act.put, List.setIfInBounds_toArray, List.set_cons_zero, List.set_cons_succ]
        refine wpAnyH_take (i := 5) (v := ?_) (arr_getE _ 5 _ rfl) (by kernel_rfl) (by kernel_rfl) (by kernel_rfl) (fun _ _ _ h => h) (Or.inl ⟨by rfl, ?_⟩) (HK3.out w7 w7 w7.drew (Fr.refl _ _) (ExF.of0 (Fr.refl _ _)) (Fr.refl _ _).drew) ?_
        rotate_left
        · intro w hSw
          go_simp
          all_goals with_reducible rfl
        try simp only [Act.put, List.setIfInBounds_toArray, List.set_cons_zero, List.set_cons_succ]
        refine wpAnyH_take (i := 6) (v := ?_) (arr_getE _ 6 _ rfl) (by kernel_rfl) (by kernel_rfl) (by kernel_rfl) (fun _ _ _ h => h) (Or.inl ⟨by rfl, ?_⟩) (HK3.out w7 w7 w7.drew (Fr.refl _ _) (ExF.of0 (Fr.refl _ _)) (Fr.refl _ _).drew) ?_
        rotate_left
        · intro w hSw
          go_simp
          all_goals with_reducible rfl
        try simp only [Act.put, List.setIfInBounds_toArray, List.set_cons_zero, List.set_cons_succ]
        refine wpAnyH_ready (rs := [2, 8]) (by kernel_rfl) (by simp) ?_
        refine (AllReadyH.cons (arr_getE _ 2 _ rfl) (fun K hK => ?_) (AllReadyH.cons (arr_getE _ 8 _ rfl) (fun K hK => ?_) AllReadyH.nil))
        · go_simp
          (go_at_call 10; refine (HSE.out _ (Fr.refl [] w7).drew).mono ?_; rintro e w8 ⟨r, rfl, hr, F8⟩)
          have G8 : Fr [] w7 w8 := (Fr.refl [] w7).drew.trans0 F8
          refine hK.out _ _ (HK3.out w8 w8 w8 G8 (ExF.of0 (Fr.refl _ _)) (Fr.refl _ _)) (fun _ => ?_)
          clear hK K
          try simp only [Act.put, List.setIfInBounds_toArray, List.set_cons_zero, List.set_cons_succ]
          refine wpAnyH_ready (rs := [3, 8]) (by kernel_rfl) (by simp) ?_
          refine (AllReadyH.cons (arr_getE _ 3 _ rfl) (fun K hK => ?_) (AllReadyH.cons (arr_getE _ 8 _ rfl) (fun K hK => ?_) AllReadyH.nil))
          · go_simp
            (go_at_call 11; refine (much26 _).mono ?_; rintro e w9 ⟨rfl, F9⟩)
            have K9 : Fr [] w8 w9 := F9
            have G9 : Fr [] w7 w9 := G8.trans0 K9
            refine hK.out _ _ (HK3.out w9 w9 w9 G9 (ExF.of0 (Fr.refl _ _)) (Fr.refl _ _)) (fun _ => ?_)
            clear hK K
            try simp only [Act.put, List.setIfInBounds_toArray, List.set_cons_zero, List.set_cons_succ]
            refine wpAnyH_ready (rs := [7, 8]) (by kernel_rfl) (by simp) ?_
            refine (AllReadyH.cons (arr_getE _ 7 _ rfl) (fun K hK => ?_) (AllReadyH.cons (arr_getE _ 8 _ rfl) (fun K hK => ?_) AllReadyH.nil))
            · go_simp
              (go_at_call 9; refine (HEX2.out _ G9 _ (hr.fr0 K9)).mono ?_; rintro e w10 ⟨i, n', s', k', rfl, hi, hj, -, S10, hn', X10⟩)
              have HS10 := Lib.hid S10
              have Y10 : ExF (w6.heap.size + 1) [] w9 w10 := X10
              have s10 := HK3.out w9 w10 w10 G9 Y10 (Fr.refl _ _)
              refine hK.out _ _ (s10) (fun _ => ?_)
              clear hK K
              try simp only [Act.put, List.setIfInBounds_toArray, List.set_cons_zero, List.set_cons_succ]
              refine wpAnyH_ready (rs := [8]) (by kernel_rfl) (by simp) ?_
              refine (AllReadyH.cons (arr_getE _ 8 _ rfl) (fun K hK => ?_) AllReadyH.nil)
              go_simp
              refine hK.out _ _ (HK3.out w9 w10 _ G9 Y10 ((Fr.refl _ _).alloc _)) (fun _ => ?_)
              clear hK K
              try simp only [Act.put, List.setIfInBounds_toArray, List.set_cons_zero, List.set_cons_succ]
              refine wpAnyH_ready (rs := [9]) (by kernel_rfl) (by simp) ?_
              refine AllReadyH.cons (arr_getE _ 9 _ rfl) (fun K hK => ?_) AllReadyH.nil
              go_simp
              refine hK.out _ _ (HK3.out w9 w10 _ G9 Y10 ((Fr.refl _ _).alloc _)) (fun _ => ?_)
              clear hK K
              try simp only [Act.put, List.setIfInBounds_toArray, List.set_cons_zero, List.set_cons_succ]
              refine wpAnyH_done (by kernel_rfl) ?_ _
              go_simp
              try go_step
              go_meet
              case rel => exact ⟨w10.heap.size, rfl, by rw [World.size_alloc]; omega, (cells7 (heap_alloc_new w10 _)).1, (cells7 (heap_alloc_new w10 _)).2.2.2.1, ⟨n', _, hn', HS10.out.fr0 ((Fr.refl _ _).alloc _)⟩, ((ExF.of0 G9).trans Y10).trans (ExF.of0 ((Fr.refl _ _).alloc _))⟩
            · go_simp
              refine hK.out _ _ (HK3.out w9 w9 _ G9 (ExF.of0 (Fr.refl _ _)) ((Fr.refl _ _).alloc _)) (fun _ => ?_)
              clear hK K
              try simp only [Act.put, List.setIfInBounds_toArray, List.set_cons_zero, List.set_cons_succ]
              refine wpAnyH_ready (rs := [7]) (by kernel_rfl) (by simp) ?_
              refine (AllReadyH.cons (arr_getE _ 7 _ rfl) (fun K hK => ?_) AllReadyH.nil)
              go_simp
              (go_at_call 9; refine (HEX2.out _ (G9.alloc _) _ ((hr.fr0 K9).fr0 ((Fr.refl _ _).alloc _))).mono ?_; rintro e w10 ⟨i, n', s', k', rfl, hi, hj, -, S10, hn', X10⟩)
              have HS10 := Lib.hid S10
              have Y10 : ExF (w6.heap.size + 1) [] w9 w10 := (ExF.of0 ((Fr.refl _ _).alloc _)).trans X10
              have s10 := HK3.out w9 w10 w10 G9 Y10 (Fr.refl _ _)
              have HB10 := Lib.hid (X10.keep (heap_alloc_new w9 (.cells #[.int .i64 0, .int .i64 0, .int .i64 0, .int .i64 0, .int .i64 0, .int .i64 0, .int .i64 0] 37)) (by simp) (by decide) (by decide))
              obtain ⟨r0, r1, r2, r3, r4, r5, r6, rf⟩ := cells7 HB10.out
              refine hK.out _ _ (s10) (fun _ => ?_)
              clear hK K
              try simp only [Act.put, List.setIfInBounds_toArray, List.set_cons_zero, List.set_cons_succ]
              refine wpAnyH_ready (rs := [9]) (by kernel_rfl) (by simp) ?_
              refine AllReadyH.cons (arr_getE _ 9 _ rfl) (fun K hK => ?_) AllReadyH.nil
              go_simp
              refine hK.out _ _ (HKZ.out w10 w9.heap.size s10 (by have := G8.size; have := G9.size; omega) (.int .i64 0) (.int .i64 0) (.int .i64 k') (.int .i64 0) (.int .i64 0) (.int .i64 0) (.int .i64 s')) (fun _ => ?_)
              clear hK K
              try simp only [Act.put, List.setIfInBounds_toArray, List.set_cons_zero, List.set_cons_succ]
              refine wpAnyH_done (by kernel_rfl) ?_ _
              go_simp
              try go_step
              go_meet
              case rel =>
                obtain ⟨p0, -, -, p3, -, -, -, FF⟩ := z7_cells HB10.out (.int .i64 0) (.int .i64 0) (.int .i64 k') (.int .i64 0) (.int .i64 0) (.int .i64 0) (.int .i64 s')
                exact ⟨w9.heap.size, rfl, World.block_lt_of_cell? _ _ p0, p0, p3, ⟨n', _, hn', HS10.out.box HB10.out (by decide) (by decide) (by decide) (by decide) FF⟩, ((ExF.of0 G9).trans Y10).trw (ExF.mt FF) (fun i hi => .inr (by simp at hi; have := G8.size; have := G9.size; omega))⟩
          · go_simp
            refine hK.out _ _ (HK3.out w8 w8 _ G8 (ExF.of0 (Fr.refl _ _)) ((Fr.refl _ _).alloc _)) (fun _ => ?_)
            clear hK K
            try simp only [Act.put, List.setIfInBounds_toArray, List.set_cons_zero, List.set_cons_succ]
            refine wpAnyH_ready (rs := [3]) (by kernel_rfl) (by simp) ?_
            refine (AllReadyH.cons (arr_getE _ 3 _ rfl) (fun K hK => ?_) AllReadyH.nil)
            go_simp
            (go_at_call 11; refine (much26 _).mono ?_; rintro e w9 ⟨rfl, F9⟩)
            have K9 : Fr [] w8 w9 := ((Fr.refl [] w8).alloc _).trans0 F9
            have G9 : Fr [] w7 w9 := G8.trans0 K9
            have bg9 : w9.heap[w8.heap.size]? = some (.cells #[.int .i64 0, .int .i64 0, .int .i64 0, .int .i64 0, .int .i64 0, .int .i64 0, .int .i64 0] 37 (0, 0)) := (F9.block w8.heap.size (by rw [World.size_alloc]; omega) (by simp)).trans (heap_alloc_new w8 _)
            refine hK.out _ _ (HK3.out w9 w9 w9 G9 (ExF.of0 (Fr.refl _ _)) (Fr.refl _ _)) (fun _ => ?_)
            clear hK K
            try simp only [Act.put, List.setIfInBounds_toArray, List.set_cons_zero, List.set_cons_succ]
            refine wpAnyH_ready (rs := [7]) (by kernel_rfl) (by simp) ?_
            refine (AllReadyH.cons (arr_getE _ 7 _ rfl) (fun K hK => ?_) AllReadyH.nil)
            go_simp
            (go_at_call 9; refine (HEX2.out _ G9 _ (hr.fr0 K9)).mono ?_; rintro e w10 ⟨i, n', s', k', rfl, hi, hj, -, S10, hn', X10⟩)
            have HS10 := Lib.hid S10
            have Y10 : ExF (w6.heap.size + 1) [] w9 w10 := X10
            have s10 := HK3.out w9 w10 w10 G9 Y10 (Fr.refl _ _)
            have HB10 := Lib.hid (Y10.keep bg9 (by simp) (by decide) (by decide))
            obtain ⟨r0, r1, r2, r3, r4, r5, r6, rf⟩ := cells7 HB10.out
            refine hK.out _ _ (s10) (fun _ => ?_)
            clear hK K
            try simp only [Act.put, List.setIfInBounds_toArray, List.set_cons_zero, List.set_cons_succ]
            refine wpAnyH_ready (rs := [9]) (by kernel_rfl) (by simp) ?_
            refine AllReadyH.cons (arr_getE _ 9 _ rfl) (fun K hK => ?_) AllReadyH.nil
            go_simp
            refine hK.out _ _ (HKZ.out w10 w8.heap.size s10 (by have := G8.size; have := G9.size; omega) (.int .i64 0) (.int .i64 0) (.int .i64 k') (.int .i64 0) (.int .i64 0) (.int .i64 0) (.int .i64 s')) (fun _ => ?_)
            clear hK K
            try simp only [Act.put, List.setIfInBounds_toArray, List.set_cons_zero, List.set_cons_succ]
            refine wpAnyH_done (by kernel_rfl) ?_ _
            go_simp
            try go_step
            go_meet
            case rel =>
              obtain ⟨p0, -, -, p3, -, -, -, FF⟩ := z7_cells HB10.out (.int .i64 0) (.int .i64 0) (.int .i64 k') (.int .i64 0) (.int .i64 0) (.int .i64 0) (.int .i64 s')
              exact ⟨w8.heap.size, rfl, World.block_lt_of_cell? _ _ p0, p0, p3, ⟨n', _, hn', HS10.out.box HB10.out (by decide) (by decide) (by decide) (by decide) FF⟩, ((ExF.of0 G9).trans Y10).trw (ExF.mt FF) (fun i hi => .inr (by simp at hi; have := G8.size; have := G9.size; omega))⟩
        · go_simp
          refine hK.out _ _ (HK3.out w7 w7 _ (Fr.refl _ _) (ExF.of0 (Fr.refl _ _)) ((Fr.refl _ _).alloc _).drew) (fun _ => ?_)
          clear hK K
          try simp only [Act.put, List.setIfInBounds_toArray, List.set_cons_zero, List.set_cons_succ]
          refine wpAnyH_ready (rs := [2]) (by kernel_rfl) (by simp) ?_
          refine (AllReadyH.cons (arr_getE _ 2 _ rfl) (fun K hK => ?_) AllReadyH.nil)
          go_simp
          (go_at_call 10; refine (HSE.out _ ((Fr.refl [] w7).alloc _).drew).mono ?_; rintro e w8 ⟨r, rfl, hr, F8⟩)
          have G8 : Fr [] w7 w8 := ((Fr.refl [] w7).alloc _).drew.trans0 F8
          have bg8 : w8.heap[w7.heap.size]? = some (.cells #[.int .i64 0, .int .i64 0, .int .i64 0, .int .i64 0, .int .i64 0, .int .i64 0, .int .i64 0] 37 (0, 0)) := (F8.block w7.heap.size (by show _ < (World.alloc _ _).heap.size; rw [World.size_alloc]; omega) (by simp)).trans (heap_alloc_new w7 _)
          refine hK.out _ _ (HK3.out w8 w8 w8 G8 (ExF.of0 (Fr.refl _ _)) (Fr.refl _ _)) (fun _ => ?_)
          clear hK K
          try simp only [Act.put, List.setIfInBounds_toArray, List.set_cons_zero, List.set_cons_succ]
          refine wpAnyH_ready (rs := [3]) (by kernel_rfl) (by simp) ?_
          refine (AllReadyH.cons (arr_getE _ 3 _ rfl) (fun K hK => ?_) AllReadyH.nil)
          go_simp
          (go_at_call 11; refine (much26 _).mono ?_; rintro e w9 ⟨rfl, F9⟩)
          have K9 : Fr [] w8 w9 := F9
          have G9 : Fr [] w7 w9 := G8.trans0 K9
          have bg9 : w9.heap[w7.heap.size]? = some (.cells #[.int .i64 0, .int .i64 0, .int .i64 0, .int .i64 0, .int .i64 0, .int .i64 0, .int .i64 0] 37 (0, 0)) := (F9.block _ (Array.getElem?_eq_some_iff.1 bg8).1 (by simp)).trans bg8
          refine hK.out _ _ (HK3.out w9 w9 w9 G9 (ExF.of0 (Fr.refl _ _)) (Fr.refl _ _)) (fun _ => ?_)
          clear hK K
          try simp only [Act.put, List.setIfInBounds_toArray, List.set_cons_zero, List.set_cons_succ]
          refine wpAnyH_ready (rs := [7]) (by kernel_rfl) (by simp) ?_
          refine (AllReadyH.cons (arr_getE _ 7 _ rfl) (fun K hK => ?_) AllReadyH.nil)
          go_simp
          (go_at_call 9; refine (HEX2.out _ G9 _ (hr.fr0 K9)).mono ?_; rintro e w10 ⟨i, n', s', k', rfl, hi, hj, -, S10, hn', X10⟩)
          have HS10 := Lib.hid S10
          have Y10 : ExF (w6.heap.size + 1) [] w9 w10 := X10
          have s10 := HK3.out w9 w10 w10 G9 Y10 (Fr.refl _ _)
          have HB10 := Lib.hid (Y10.keep bg9 (by simp) (by decide) (by decide))
          obtain ⟨r0, r1, r2, r3, r4, r5, r6, rf⟩ := cells7 HB10.out
          refine hK.out _ _ (s10) (fun _ => ?_)
          clear hK K
          try simp only [Act.put, List.setIfInBounds_toArray, List.set_cons_zero, List.set_cons_succ]
          refine wpAnyH_ready (rs := [9]) (by kernel_rfl) (by simp) ?_
          refine AllReadyH.cons (arr_getE _ 9 _ rfl) (fun K hK => ?_) AllReadyH.nil
          go_simp
          refine hK.out _ _ (HKZ.out w10 w7.heap.size s10 (by have := G8.size; have := G9.size; omega) (.int .i64 0) (.int .i64 0) (.int .i64 k') (.int .i64 0) (.int .i64 0) (.int .i64 0) (.int .i64 s')) (fun _ => ?_)
          clear hK K
          try simp only [Act.put, List.setIfInBounds_toArray, List.set_cons_zero, List.set_cons_succ]
          refine wpAnyH_done (by kernel_rfl) ?_ _
          go_simp
          try go_step
          go_meet
          case rel =>
            obtain ⟨p0, -, -, p3, -, -, -, FF⟩ := z7_cells HB10.out (.int .i64 0) (.int .i64 0) (.int .i64 k') (.int .i64 0) (.int .i64 0) (.int .i64 0) (.int .i64 s')
            exact ⟨w7.heap.size, rfl, World.block_lt_of_cell? _ _ p0, p0, p3, ⟨n', _, hn', HS10.out.box HB10.out (by decide) (by decide) (by decide) (by decide) FF⟩, ((ExF.of0 G9).trans Y10).trw (ExF.mt FF) (fun i hi => .inr (by simp at hi; have := G8.size; have := G9.size; omega))⟩
      case rest =>
        obtain ⟨g, rfl, hgl, d0, d3, ⟨n', nc', hn', S12⟩, X12⟩ := hcut
        have FW12 := Lib.hid (ExF.below FW7.out X12 (by have := FW6.out.size; omega) (by simp))
        have b12 := X12.keep HB7.out (by simp) (by decide) (by decide)
        have e0 := (cells3b b12).1
        have HKC := Lib.hid (fun (wx : World) (F : Fr [] wc wx) => (show wx.cell? ⟨g, 0, none⟩ = some (.int .i64 0) ∧ wx.cell? ⟨g, 3, none⟩ = some (.int .i64 0) ∧ wx.cell? ⟨W.heap.size, 0, none⟩ = some (.slice ao LN cap) from ⟨(F.cell (World.block_lt_of_cell? _ _ d0) (by simp)).trans d0, (F.cell (World.block_lt_of_cell? _ _ d3) (by simp)).trans d3, (F.cell (World.block_lt_of_cell? _ _ e0) (by simp)).trans e0⟩))
        have HST := Lib.hid (fun (wx : World) (F : Fr [] wc wx) => state_same (S12.fr0 F) HSL.out.2.1 HSL.out.1 (by have := HSL.out.1.1; have := HLN.out; omega))
        have HSA := Lib.hid (fun (wx : World) (F : Fr [] wc wx) (xo : Option Addr) (xc : Nat) (ks : List (List UInt8)) (K : KeysAre (lookL L) ks) (X : ThAt wx wx.heap.size (.slice xo L.length xc) (listK (lookL L) ks)) (g2 : ThAt wx W.heap.size (.slice ao L.length cap) L) => same_same HSL.out.2.1 HSL.out.1 K X g2)
        rw [HLN.out] at HST HSA
        clear S12 X12 b12
        (refine hK12 _ _ ?_; clear hK12)
        go_wp2_with fail
        go_region_held3 (fun wx => wx.cell? ⟨g, 0, none⟩ = some (.int .i64 0) ∧ wx.cell? ⟨g, 3, none⟩ = some (.int .i64 0) ∧ wx.cell? ⟨W.heap.size, 0, none⟩ = some (.slice ao LN cap))
          (first | exact HKC.out _ (Fr.refl _ _) | exact HKC.out _ (Fr.refl _ _).drew | exact HKC.out _ G14 | exact HKC.out _ G15)
          (first
            | (have hq := G14; go_at_call 12; refine (HSA.out _ G14 xo xc ks hks hth (HT.out.fr0 (FW12.out.trans0 G14))).mono ?_; rintro e w15 ⟨rfl, F15⟩; have G15 := G14.trans0 F15.fr)
            | (go_at_call 13; refine (HST.out _ (Fr.refl [] _).drew).mono ?_; rintro e w14 ⟨xo, xc, ks, rfl, hks, hth, F14⟩; have G14 := (Fr.refl [] _).drew.trans0 F14))
        go_wp2_with fail
        go_ret
        exact ⟨rfl, FW12.out.trans0 G15⟩
    | false =>
      go_upto_region 9 with fail
      obtain ⟨w6, hw6⟩ : ∃ w6, w6 = w5.alloc (.cells #[.int .u8 1, .int .u8 0] 5) := ⟨_, rfl⟩
      rw [← hw6]
      have F6 : Fr [] w5 w6 := hw6 ▸ (Fr.refl _ _).alloc _
      have SH : Sl w6 (.slice (some ⟨w5.heap.size, 0, none⟩) 2 2) (bv [1, 0]) := hw6 ▸ sl_lit w5 5 (bv [1, 0]) 2 rfl (by decide)
      have b6 := (F6.block _ (Array.getElem?_eq_some_iff.1 b5).1 (by simp)).trans b5
      clear hw6
      obtain ⟨c0, c1, c2, cf⟩ := cells3b b6
      have FW6 := Lib.hid (FW5.out.trans0 F6)
      go_upto_region 12 with (go_at_call 8; refine (HBE.out w6 FW6.out).mono ?_; rintro e w7 ⟨p, rfl, S7, F7⟩)
      have HS7 := Lib.hid S7
      have FW7 := Lib.hid (FW6.out.trans0 F7)
      have b7 := (F7.block _ (Array.getElem?_eq_some_iff.1 b6).1 (by simp)).trans b6
      obtain ⟨s0, s1, s2, sf⟩ := cells3b b7
      have SH7 := Lib.hid (SH.fr0 F7)
      have HB7 := Lib.hid b7
      have HLO := Lib.hid FW6.out.size
      clear S7 SH b6 b5 b7 c0 c1 c2 cf
      have HK3 := Lib.hid (fun (wx w' wy : World) (F : Fr [] w7 wx) (X : ExF (w6.heap.size + 1) [] wx w') (F2 : Fr [] w' wy) => (show wy.cell? ⟨W.heap.size, 2, none⟩ = some (.string ⟨root.toArray⟩) from by
        have g1 := (F.block _ (Array.getElem?_eq_some_iff.1 HB7.out).1 (by simp)).trans HB7.out
        have g2 := X.keep g1 (by simp) (by decide) (by decide)
        have g3 := (F2.block _ (Array.getElem?_eq_some_iff.1 g2).1 (by simp)).trans g2
        exact (cells3b g3).2.2.1))
      have HSE := Lib.hid (fun (wx : World) (F : Fr [] w7 wx) => seal_any wx _ _ area [1, 0] (HA.out.fr0 (FW7.out.trans0 F)) (SH7.out.fr0 F) (by have := HAN.out; omega) (by decide))
      have HEX2 := Lib.hid (fun (wx : World) (F : Fr [] w7 wx) (v : Value) (hv : Sl wx v (bv (sealL area [1, 0]))) => HEX.out wx (w6.heap.size + 1) p (by have := HLO.out; omega) (FW7.out.trans0 F) (HS7.out.fr0 F) v [1, 0] (by decide) filesP_a0 hv)
      have HKZ := Lib.hid (fun (wx : World) (g : Nat) (hx : wx.cell? ⟨W.heap.size, 2, none⟩ = some (.string ⟨root.toArray⟩)) (hg : W.heap.size ≠ g) (a0 a1 a2 a3 a4 a5 a6 : Value) => (show (z7 wx g a0 a1 a2 a3 a4 a5 a6).cell? ⟨W.heap.size, 2, none⟩ = some (.string ⟨root.toArray⟩) from z7_else hx hg a0 a1 a2 a3 a4 a5 a6))
      have hW7 : W.heap.size < w7.heap.size := (Array.getElem?_eq_some_iff.1 HB7.out).1
      clear s0 s1 sf
      rename_i K12 hK12
      go_cut [9] (fun v9 wx => ∃ g, v9 = .pointer (some ⟨g, 0, none⟩) ∧ g < wx.heap.size ∧ wx.cell? ⟨g, 0, none⟩ = some (.int .i64 0) ∧ wx.cell? ⟨g, 3, none⟩ = some (.int .i64 0) ∧ (∃ n' nc', n' ≤ LN + 1 ∧ SandAt wx (w6.heap.size + 1) p n' nc' ⟨[], fun _ _ _ => True⟩ (lookL L)) ∧ ExF (w6.heap.size + 1) [] w7 wx)
      case first =>
        clear hK12
        refine wp_region_held_drew (S := (fun wx => wx.cell? ⟨W.heap.size, 2, none⟩ = some (.string ⟨root.toArray⟩))) (by kernel_rfl) (HK3.out w7 w7 w7.drew (Fr.refl _ _) (ExF.of0 (Fr.refl _ _)) (Fr.refl _ _).drew) (fun _ => ?_)
        refine wpAnyH_take (i := 0) (v := ?_) (arr_getE _ 0 _ rfl) (by kernel_rfl) (by kernel_rfl) (by kernel_rfl) (fun _ _ _ h => h) (Or.inl ⟨by rfl, ?_⟩) (HK3.out w7 w7 w7.drew (Fr.refl _ _) (ExF.of0 (Fr.refl _ _)) (Fr.refl _ _).drew) ?_
        rotate_left
        · intro w hSw
          go_simp
          all_goals with_reducible rfl
        try simp only [Act.put, List.setIfInBounds_toArray, List.set_cons_zero, List.set_cons_succ]
        refine wpAnyH_take (i := 1) (v := ?_) (arr_getE _ 1 _ rfl) (by kernel_rfl) (by kernel_rfl) (by kernel_rfl) (fun _ _ _ h => h) (Or.inl ⟨by rfl, ?_⟩) (HK3.out w7 w7 w7.drew (Fr.refl _ _) (ExF.of0 (Fr.refl _ _)) (Fr.refl _ _).drew) ?_
        rotate_left
        · intro w hSw
          go_simp
          all_goals with_reducible rfl
        try simp only [Act.put, List.setIfInBounds_toArray, List.set_cons_zero, List.set_cons_succ]
        refine wpAnyH_take (i := 4) (v := ?_) (arr_getE _ 4 _ rfl) (by kernel_rfl) (by kernel_rfl) (by kernel_rfl) (fun _ _ _ h => h) (Or.inl ⟨by rfl, ?_⟩) (HK3.out w7 w7 w7.drew (Fr.refl _ _) (ExF.of0 (Fr.refl _ _)) (Fr.refl _ _).drew) ?_
        rotate_left
        · intro w hSw
          go_simp
          all_goals with_reducible rfl
        try simp only [Act.put, List.setIfInBounds_toArray, List.set_cons_zero, List.set_cons_succ]
        refine wpAnyH_take (i := 5) (v := ?_) (arr_getE _ 5 _ rfl) (by kernel_rfl) (by kernel_rfl) (by kernel_rfl) (fun _ _ _ h => h) (Or.inl ⟨by rfl, ?_⟩) (HK3.out w7 w7 w7.drew (Fr.refl _ _) (ExF.of0 (Fr.refl _ _)) (Fr.refl _ _).drew) ?_
        rotate_left
        · intro w hSw
          go_simp
          all_goals with_reducible rfl
        try simp only [Act.put, List.setIfInBounds_toArray, List.set_cons_zero, List.set_cons_succ]
        refine wpAnyH_take (i := 6) (v := ?_) (arr_getE _ 6 _ rfl) (by kernel_rfl) (by kernel_rfl) (by kernel_rfl) (fun _ _ _ h => h) (Or.inl ⟨by rfl, ?_⟩) (HK3.out w7 w7 w7.drew (Fr.refl _ _) (ExF.of0 (Fr.refl _ _)) (Fr.refl _ _).drew) ?_
        rotate_left
        · intro w hSw
          go_simp
          all_goals with_reducible rfl
        try simp only [Act.put, List.setIfInBounds_toArray, List.set_cons_zero, List.set_cons_succ]
        refine wpAnyH_ready (rs := [2, 8]) (by kernel_rfl) (by simp) ?_
        refine (AllReadyH.cons (arr_getE _ 2 _ rfl) (fun K hK => ?_) (AllReadyH.cons (arr_getE _ 8 _ rfl) (fun K hK => ?_) AllReadyH.nil))
        · go_simp
          (go_at_call 10; refine (HSE.out _ (Fr.refl [] w7).drew).mono ?_; rintro e w8 ⟨r, rfl, hr, F8⟩)
          have G8 : Fr [] w7 w8 := (Fr.refl [] w7).drew.trans0 F8
          refine hK.out _ _ (HK3.out w8 w8 w8 G8 (ExF.of0 (Fr.refl _ _)) (Fr.refl _ _)) (fun _ => ?_)
          clear hK K
          try simp only [Act.put, List.setIfInBounds_toArray, List.set_cons_zero, List.set_cons_succ]
          refine wpAnyH_ready (rs := [3, 8]) (by kernel_rfl) (by simp) ?_
          refine (AllReadyH.cons (arr_getE _ 3 _ rfl) (fun K hK => ?_) (AllReadyH.cons (arr_getE _ 8 _ rfl) (fun K hK => ?_) AllReadyH.nil))
          · go_simp
            (go_at_call 11; refine (much26 _).mono ?_; rintro e w9 ⟨rfl, F9⟩)
            have K9 : Fr [] w8 w9 := F9
            have G9 : Fr [] w7 w9 := G8.trans0 K9
            refine hK.out _ _ (HK3.out w9 w9 w9 G9 (ExF.of0 (Fr.refl _ _)) (Fr.refl _ _)) (fun _ => ?_)
            clear hK K
            try simp only [Act.put, List.setIfInBounds_toArray, List.set_cons_zero, List.set_cons_succ]
            refine wpAnyH_ready (rs := [7, 8]) (by kernel_rfl) (by simp) ?_
            refine (AllReadyH.cons (arr_getE _ 7 _ rfl) (fun K hK => ?_) (AllReadyH.cons (arr_getE _ 8 _ rfl) (fun K hK => ?_) AllReadyH.nil))
            · go_simp
              (go_at_call 9; refine (HEX2.out _ G9 _ (hr.fr0 K9)).mono ?_; rintro e w10 ⟨i, n', s', k', rfl, hi, hj, -, S10, hn', X10⟩)
              have HS10 := Lib.hid S10
              have Y10 : ExF (w6.heap.size + 1) [] w9 w10 := X10
              have s10 := HK3.out w9 w10 w10 G9 Y10 (Fr.refl _ _)
              refine hK.out _ _ (s10) (fun _ => ?_)
              clear hK K
              try simp only [Act.put, List.setIfInBounds_toArray, List.set_cons_zero, List.set_cons_succ]
              refine wpAnyH_ready (rs := [8]) (by kernel_rfl) (by simp) ?_
              refine (AllReadyH.cons (arr_getE _ 8 _ rfl) (fun K hK => ?_) AllReadyH.nil)
              go_simp
              refine hK.out _ _ (HK3.out w9 w10 _ G9 Y10 ((Fr.refl _ _).alloc _)) (fun _ => ?_)
              clear hK K
              try simp only [Act.put, List.setIfInBounds_toArray, List.set_cons_zero, List.set_cons_succ]
              refine wpAnyH_ready (rs := [9]) (by kernel_rfl) (by simp) ?_
              refine AllReadyH.cons (arr_getE _ 9 _ rfl) (fun K hK => ?_) AllReadyH.nil
              go_simp
              refine hK.out _ _ (HK3.out w9 w10 _ G9 Y10 ((Fr.refl _ _).alloc _)) (fun _ => ?_)
              clear hK K
              try simp only [Act.put, List.setIfInBounds_toArray, List.set_cons_zero, List.set_cons_succ]
              refine wpAnyH_done (by kernel_rfl) ?_ _
              go_simp
              try go_step
              go_meet
              case rel => exact ⟨w10.heap.size, rfl, by rw [World.size_alloc]; omega, (cells7 (heap_alloc_new w10 _)).1, (cells7 (heap_alloc_new w10 _)).2.2.2.1, ⟨n', _, hn', HS10.out.fr0 ((Fr.refl _ _).alloc _)⟩, ((ExF.of0 G9).trans Y10).trans (ExF.of0 ((Fr.refl _ _).alloc _))⟩
            · go_simp
              refine hK.out _ _ (HK3.out w9 w9 _ G9 (ExF.of0 (Fr.refl _ _)) ((Fr.refl _ _).alloc _)) (fun _ => ?_)
              clear hK K
              try simp only [Act.put, List.setIfInBounds_toArray, List.set_cons_zero, List.set_cons_succ]
              refine wpAnyH_ready (rs := [7]) (by kernel_rfl) (by simp) ?_
              refine (AllReadyH.cons (arr_getE _ 7 _ rfl) (fun K hK => ?_) AllReadyH.nil)
              go_simp
              (go_at_call 9; refine (HEX2.out _ (G9.alloc _) _ ((hr.fr0 K9).fr0 ((Fr.refl _ _).alloc _))).mono ?_; rintro e w10 ⟨i, n', s', k', rfl, hi, hj, -, S10, hn', X10⟩)
              have HS10 := Lib.hid S10
              have Y10 : ExF (w6.heap.size + 1) [] w9 w10 := (ExF.of0 ((Fr.refl _ _).alloc _)).trans X10
              have s10 := HK3.out w9 w10 w10 G9 Y10 (Fr.refl _ _)
              have HB10 := Lib.hid (X10.keep (heap_alloc_new w9 (.cells #[.int .i64 0, .int .i64 0, .int .i64 0, .int .i64 0, .int .i64 0, .int .i64 0, .int .i64 0] 37)) (by simp) (by decide) (by decide))
              obtain ⟨r0, r1, r2, r3, r4, r5, r6, rf⟩ := cells7 HB10.out
              refine hK.out _ _ (s10) (fun _ => ?_)
              clear hK K
              try simp only [Act.put, List.setIfInBounds_toArray, List.set_cons_zero, List.set_cons_succ]
              refine wpAnyH_ready (rs := [9]) (by kernel_rfl) (by simp) ?_
              refine AllReadyH.cons (arr_getE _ 9 _ rfl) (fun K hK => ?_) AllReadyH.nil
              go_simp
              refine hK.out _ _ (HKZ.out w10 w9.heap.size s10 (by have := G8.size; have := G9.size; omega) (.int .i64 0) (.int .i64 0) (.int .i64 k') (.int .i64 0) (.int .i64 0) (.int .i64 0) (.int .i64 s')) (fun _ => ?_)
              clear hK K
              try simp only [Act.put, List.setIfInBounds_toArray, List.set_cons_zero, List.set_cons_succ]
              refine wpAnyH_done (by kernel_rfl) ?_ _
              go_simp
              try go_step
              go_meet
              case rel =>
                obtain ⟨p0, -, -, p3, -, -, -, FF⟩ := z7_cells HB10.out (.int .i64 0) (.int .i64 0) (.int .i64 k') (.int .i64 0) (.int .i64 0) (.int .i64 0) (.int .i64 s')
                exact ⟨w9.heap.size, rfl, World.block_lt_of_cell? _ _ p0, p0, p3, ⟨n', _, hn', HS10.out.box HB10.out (by decide) (by decide) (by decide) (by decide) FF⟩, ((ExF.of0 G9).trans Y10).trw (ExF.mt FF) (fun i hi => .inr (by simp at hi; have := G8.size; have := G9.size; omega))⟩
          · go_simp
            refine hK.out _ _ (HK3.out w8 w8 _ G8 (ExF.of0 (Fr.refl _ _)) ((Fr.refl _ _).alloc _)) (fun _ => ?_)
            clear hK K
            try simp only [Act.put, List.setIfInBounds_toArray, List.set_cons_zero, List.set_cons_succ]
            refine wpAnyH_ready (rs := [3]) (by kernel_rfl) (by simp) ?_
            refine (AllReadyH.cons (arr_getE _ 3 _ rfl) (fun K hK => ?_) AllReadyH.nil)
            go_simp
            (go_at_call 11; refine (much26 _).mono ?_; rintro e w9 ⟨rfl, F9⟩)
            have K9 : Fr [] w8 w9 := ((Fr.refl [] w8).alloc _).trans0 F9
            have G9 : Fr [] w7 w9 := G8.trans0 K9
            have bg9 : w9.heap[w8.heap.size]? = some (.cells #[.int .i64 0, .int .i64 0, .int .i64 0, .int .i64 0, .int .i64 0, .int .i64 0, .int .i64 0] 37 (0, 0)) := (F9.block w8.heap.size (by rw [World.size_alloc]; omega) (by simp)).trans (heap_alloc_new w8 _)
            refine hK.out _ _ (HK3.out w9 w9 w9 G9 (ExF.of0 (Fr.refl _ _)) (Fr.refl _ _)) (fun _ => ?_)
            clear hK K
            try simp only [Act.put, List.setIfInBounds_toArray, List.set_cons_zero, List.set_cons_succ]
            refine wpAnyH_ready (rs := [7]) (by kernel_rfl) (by simp) ?_
            refine (AllReadyH.cons (arr_getE _ 7 _ rfl) (fun K hK => ?_) AllReadyH.nil)
            go_simp
            (go_at_call 9; refine (HEX2.out _ G9 _ (hr.fr0 K9)).mono ?_; rintro e w10 ⟨i, n', s', k', rfl, hi, hj, -, S10, hn', X10⟩)
            have HS10 := Lib.hid S10
            have Y10 : ExF (w6.heap.size + 1) [] w9 w10 := X10
            have s10 := HK3.out w9 w10 w10 G9 Y10 (Fr.refl _ _)
            have HB10 := Lib.hid (Y10.keep bg9 (by simp) (by decide) (by decide))
            obtain ⟨r0, r1, r2, r3, r4, r5, r6, rf⟩ := cells7 HB10.out
            refine hK.out _ _ (s10) (fun _ => ?_)
            clear hK K
            try simp only [Act.put, List.setIfInBounds_toArray, List.set_cons_zero, List.set_cons_succ]
            refine wpAnyH_ready (rs := [9]) (by kernel_rfl) (by simp) ?_
            refine AllReadyH.cons (arr_getE _ 9 _ rfl) (fun K hK => ?_) AllReadyH.nil
            go_simp
            refine hK.out _ _ (HKZ.out w10 w8.heap.size s10 (by have := G8.size; have := G9.size; omega) (.int .i64 0) (.int .i64 0) (.int .i64 k') (.int .i64 0) (.int .i64 0) (.int .i64 0) (.int .i64 s')) (fun _ => ?_)
            clear hK K
            try simp only [Act.put, List.setIfInBounds_toArray, List.set_cons_zero, List.set_cons_succ]
            refine wpAnyH_done (by kernel_rfl) ?_ _
            go_simp
            try go_step
            go_meet
            case rel =>
              obtain ⟨p0, -, -, p3, -, -, -, FF⟩ := z7_cells HB10.out (.int .i64 0) (.int .i64 0) (.int .i64 k') (.int .i64 0) (.int .i64 0) (.int .i64 0) (.int .i64 s')
              exact ⟨w8.heap.size, rfl, World.block_lt_of_cell? _ _ p0, p0, p3, ⟨n', _, hn', HS10.out.box HB10.out (by decide) (by decide) (by decide) (by decide) FF⟩, ((ExF.of0 G9).trans Y10).trw (ExF.mt FF) (fun i hi => .inr (by simp at hi; have := G8.size; have := G9.size; omega))⟩
        · go_simp
          refine hK.out _ _ (HK3.out w7 w7 _ (Fr.refl _ _) (ExF.of0 (Fr.refl _ _)) ((Fr.refl _ _).alloc _).drew) (fun _ => ?_)
          clear hK K
          try simp only [Act.put, List.setIfInBounds_toArray, List.set_cons_zero, List.set_cons_succ]
          refine wpAnyH_ready (rs := [2]) (by kernel_rfl) (by simp) ?_
          refine (AllReadyH.cons (arr_getE _ 2 _ rfl) (fun K hK => ?_) AllReadyH.nil)
          go_simp
          (go_at_call 10; refine (HSE.out _ ((Fr.refl [] w7).alloc _).drew).mono ?_; rintro e w8 ⟨r, rfl, hr, F8⟩)
          have G8 : Fr [] w7 w8 := ((Fr.refl [] w7).alloc _).drew.trans0 F8
          have bg8 : w8.heap[w7.heap.size]? = some (.cells #[.int .i64 0, .int .i64 0, .int .i64 0, .int .i64 0, .int .i64 0, .int .i64 0, .int .i64 0] 37 (0, 0)) := (F8.block w7.heap.size (by show _ < (World.alloc _ _).heap.size; rw [World.size_alloc]; omega) (by simp)).trans (heap_alloc_new w7 _)
          refine hK.out _ _ (HK3.out w8 w8 w8 G8 (ExF.of0 (Fr.refl _ _)) (Fr.refl _ _)) (fun _ => ?_)
          clear hK K
          try simp only [Act.put, List.setIfInBounds_toArray, List.set_cons_zero, List.set_cons_succ]
          refine wpAnyH_ready (rs := [3]) (by kernel_rfl) (by simp) ?_
          refine (AllReadyH.cons (arr_getE _ 3 _ rfl) (fun K hK => ?_) AllReadyH.nil)
          go_simp
          (go_at_call 11; refine (much26 _).mono ?_; rintro e w9 ⟨rfl, F9⟩)
          have K9 : Fr [] w8 w9 := F9
          have G9 : Fr [] w7 w9 := G8.trans0 K9
          have bg9 : w9.heap[w7.heap.size]? = some (.cells #[.int .i64 0, .int .i64 0, .int .i64 0, .int .i64 0, .int .i64 0, .int .i64 0, .int .i64 0] 37 (0, 0)) := (F9.block _ (Array.getElem?_eq_some_iff.1 bg8).1 (by simp)).trans bg8
          refine hK.out _ _ (HK3.out w9 w9 w9 G9 (ExF.of0 (Fr.refl _ _)) (Fr.refl _ _)) (fun _ => ?_)
          clear hK K
          try simp only [Act.put, List.setIfInBounds_toArray, List.set_cons_zero, List.set_cons_succ]
          refine wpAnyH_ready (rs := [7]) (by kernel_rfl) (by simp) ?_
          refine (AllReadyH.cons (arr_getE _ 7 _ rfl) (fun K hK => ?_) AllReadyH.nil)
          go_simp
          (go_at_call 9; refine (HEX2.out _ G9 _ (hr.fr0 K9)).mono ?_; rintro e w10 ⟨i, n', s', k', rfl, hi, hj, -, S10, hn', X10⟩)
          have HS10 := Lib.hid S10
          have Y10 : ExF (w6.heap.size + 1) [] w9 w10 := X10
          have s10 := HK3.out w9 w10 w10 G9 Y10 (Fr.refl _ _)
          have HB10 := Lib.hid (Y10.keep bg9 (by simp) (by decide) (by decide))
          obtain ⟨r0, r1, r2, r3, r4, r5, r6, rf⟩ := cells7 HB10.out
          refine hK.out _ _ (s10) (fun _ => ?_)
          clear hK K
          try simp only [Act.put, List.setIfInBounds_toArray, List.set_cons_zero, List.set_cons_succ]
          refine wpAnyH_ready (rs := [9]) (by kernel_rfl) (by simp) ?_
          refine AllReadyH.cons (arr_getE _ 9 _ rfl) (fun K hK => ?_) AllReadyH.nil
          go_simp
          refine hK.out _ _ (HKZ.out w10 w7.heap.size s10 (by have := G8.size; have := G9.size; omega) (.int .i64 0) (.int .i64 0) (.int .i64 k') (.int .i64 0) (.int .i64 0) (.int .i64 0) (.int .i64 s')) (fun _ => ?_)
          clear hK K
          try simp only [Act.put, List.setIfInBounds_toArray, List.set_cons_zero, List.set_cons_succ]
          refine wpAnyH_done (by kernel_rfl) ?_ _
          go_simp
          try go_step
          go_meet
          case rel =>
            obtain ⟨p0, -, -, p3, -, -, -, FF⟩ := z7_cells HB10.out (.int .i64 0) (.int .i64 0) (.int .i64 k') (.int .i64 0) (.int .i64 0) (.int .i64 0) (.int .i64 s')
            exact ⟨w7.heap.size, rfl, World.block_lt_of_cell? _ _ p0, p0, p3, ⟨n', _, hn', HS10.out.box HB10.out (by decide) (by decide) (by decide) (by decide) FF⟩, ((ExF.of0 G9).trans Y10).trw (ExF.mt FF) (fun i hi => .inr (by simp at hi; have := G8.size; have := G9.size; omega))⟩
      case rest =>
        obtain ⟨g, rfl, hgl, d0, d3, ⟨n', nc', hn', S12⟩, X12⟩ := hcut
        have FW12 := Lib.hid (ExF.below FW7.out X12 (by have := FW6.out.size; omega) (by simp))
        have b12 := X12.keep HB7.out (by simp) (by decide) (by decide)
        have e0 := (cells3b b12).1
        have HKC := Lib.hid (fun (wx : World) (F : Fr [] wc wx) => (show wx.cell? ⟨g, 0, none⟩ = some (.int .i64 0) ∧ wx.cell? ⟨g, 3, none⟩ = some (.int .i64 0) ∧ wx.cell? ⟨W.heap.size, 0, none⟩ = some (.slice ao LN cap) from ⟨(F.cell (World.block_lt_of_cell? _ _ d0) (by simp)).trans d0, (F.cell (World.block_lt_of_cell? _ _ d3) (by simp)).trans d3, (F.cell (World.block_lt_of_cell? _ _ e0) (by simp)).trans e0⟩))
        have HST := Lib.hid (fun (wx : World) (F : Fr [] wc wx) => state_same (S12.fr0 F) HSL.out.2.1 HSL.out.1 (by have := HSL.out.1.1; have := HLN.out; omega))
        have HSA := Lib.hid (fun (wx : World) (F : Fr [] wc wx) (xo : Option Addr) (xc : Nat) (ks : List (List UInt8)) (K : KeysAre (lookL L) ks) (X : ThAt wx wx.heap.size (.slice xo L.length xc) (listK (lookL L) ks)) (g2 : ThAt wx W.heap.size (.slice ao L.length cap) L) => same_same HSL.out.2.1 HSL.out.1 K X g2)
        rw [HLN.out] at HST HSA
        clear S12 X12 b12
        (refine hK12 _ _ ?_; clear hK12)
        go_wp2_with fail
        go_region_held3 (fun wx => wx.cell? ⟨g, 0, none⟩ = some (.int .i64 0) ∧ wx.cell? ⟨g, 3, none⟩ = some (.int .i64 0) ∧ wx.cell? ⟨W.heap.size, 0, none⟩ = some (.slice ao LN cap))
          (first | exact HKC.out _ (Fr.refl _ _) | exact HKC.out _ (Fr.refl _ _).drew | exact HKC.out _ G14 | exact HKC.out _ G15)
          (first
            | (have hq := G14; go_at_call 12; refine (HSA.out _ G14 xo xc ks hks hth (HT.out.fr0 (FW12.out.trans0 G14))).mono ?_; rintro e w15 ⟨rfl, F15⟩; have G15 := G14.trans0 F15.fr)
            | (go_at_call 13; refine (HST.out _ (Fr.refl [] _).drew).mono ?_; rintro e w14 ⟨xo, xc, ks, rfl, hks, hth, F14⟩; have G14 := (Fr.refl [] _).drew.trans0 F14))
        go_wp2_with fail
        go_ret
        exact ⟨rfl, FW12.out.trans0 G15⟩
  · have hI : (4096 : Int) < (AN : Int) := by omega
    go_enter Tryz.func3, Tryz.ntmps3
    go_wp2_with (first
      | (have hq := G1; go_at_call 5; refine (HSM.out _ (HFA.out.trans0 G1)).mono ?_; rintro e w2 ⟨r, rfl, hr, F2⟩; cases r)
      | (go_at_call 4; rw [← hwA]; clear hwA; refine (HAW.out _ HFA.out).mono ?_; rintro e w1 ⟨rfl, G1⟩; obtain ⟨c0, c1, c2, cf⟩ := HBX.out w1 G1))
    · go_ret
      exact ⟨rfl, (HFA.out.trans0 G1).trans0 F2⟩
    · go_ret
      exact ⟨rfl, (HFA.out.trans0 G1).trans0 F2⟩
end Go.Proofs.YthbkcjlpelihlaaGreatDoor
