/- The reference's streams: a folder's coders, binds, packs. No condition but that lengths fit. -/
import Derived.Test.YtkodindajfdagaaDoorWSpAM
namespace Go.Proofs.YtkodindajfdagaaDoor
open Go.RowKit

theorem flat_take {α : Type} (f : α → List UInt8) {l : List α} {k : Nat} {x : α} (h : l[k]? = some x) : (l.take (k + 1)).flatMap f = (l.take k).flatMap f ++ f x := by
  rw [List.take_add_one, h, List.flatMap_append]
  congr 1
  simp only [Option.toList_some, List.flatMap_cons, List.flatMap_nil, List.append_nil]
theorem StB.on {base : Nat} {w : World} {v vx : Value} {cs : List UInt8} {wx wy : World} (S : StB base w v vx cs wx) (F : Fr vx.ownBlock.toList wx wy) : Fr v.ownBlock.toList w wy := S.fr.trans F (fun i hi => by
  rcases S.at_ i (by simpa using hi) with h | h
  · exact .inl (by simp [h])
  · exact .inr h)

/-- Inside a folder: slot 5 the checks so far, 6 the folder's number, 7 its box. -/
def SI (w2 : World) (base : Nat) (v : Value) (g g7 k : Nat) (u : Value) (c : List UInt8) (a : Act) (w' : World) : Prop :=
  ∃ A vx, a = ⟨A, []⟩ ∧ A.size = 335 ∧ Slots A [(1, .pointer (some ⟨g, 0, none⟩)), (3, vx), (5, u), (6, .int .i64 (k : Int)), (7, .pointer (some ⟨g7, 0, none⟩))] ∧ StB base w2 v vx c w'
/-- The same, with a counter. -/
def SIc (i : Nat) (w2 : World) (base : Nat) (v : Value) (g g7 k : Nat) (u : Value) (c : List UInt8) (j : Nat) (a : Act) (w' : World) : Prop :=
  ∃ A vx, a = ⟨A, []⟩ ∧ A.size = 335 ∧ Slots A [(1, .pointer (some ⟨g, 0, none⟩)), (3, vx), (5, u), (6, .int .i64 (k : Int)), (7, .pointer (some ⟨g7, 0, none⟩)), (i, .int .i64 (j : Int))] ∧ StB base w2 v vx c w'
/-- The folder's box, and the old memory. -/
def BoxF (w0 w2 : World) (v : Value) (g7 : Nat) (cv bv' pv : Value) : Prop :=
  ∀ wx, Fr v.ownBlock.toList w2 wx → (wx.cell? ⟨g7, 0, none⟩ = some cv ∧ wx.cell? ⟨g7, 1, none⟩ = some bv' ∧ wx.cell? ⟨g7, 2, none⟩ = some pv) ∧ Fr [] w0 wx

set_option maxRecDepth 100000 in
set_option maxHeartbeats 1000000 in
theorem sp_coders {w0 w2 : World} {base g g7 K : Nat} {u v : Value} {c0 : List UInt8} {f : Folder} {cv bv' pv sv : Value} (hb : base ≤ w2.heap.size) (HX : BoxF w0 w2 v g7 cv bv' pv) (hf : FoV w0 cv bv' pv sv f) (hok : FolOk f) (hpr : ∀ c ∈ f.coders, c.props.length ≤ 10000000) (hl : c0.length + (f.coders.flatMap coderW).length ≤ 40000000) (a : Act) (w : World) (hS : SI w2 base v g g7 K u c0 a w) :
    (sc [true, true, true, false, true, false, true, true, false, true, false, false, true, false, false, true, true, true, false]).wp Tryd.prog (Only (SI w2 base v g g7 K u (c0 ++ f.coders.flatMap coderW))) a w := by
  obtain ⟨A, vx, rfl, hz, ⟨h1, h3, h5, h6, h7, -⟩, S⟩ := hS
  have HB := Lib.hid hb
  have HOK := Lib.hid hok
  obtain ⟨cao, ccap, rfl, -, -, hco⟩ := hf.co.out
  have hcl := hok.cl
  obtain ⟨NC, hNC⟩ : ∃ n, f.coders.length = n := ⟨_, rfl⟩
  have HNC := Lib.hid hNC
  rw [hNC] at HX hcl
  clear hNC
  have HXH := Lib.hid HX
  clear HX hok hb
  conv => arg 2; whnf
  refine only_seq (R := SIc 8 w2 base v g g7 K u c0 0) ?_ ?_
  · have HS := Lib.hid S
    clear S
    refine only_hide fun R HR => ?_
    go_wp2_with fail
    exact only_mk (HR.out _ _ ⟨_, vx, rfl, by simp [hz], ⟨fun _ => by simp [slot_set, h1], fun _ => by simp [slot_set, h3], fun _ => by simp [slot_set, h5], fun _ => by simp [slot_set, h6], fun _ => by simp [slot_set, h7], fun _ => by simp, trivial⟩, HS.out⟩)
  clear h1 h3 h5 h6 h7 hz S A vx w
  intro a w hI
  refine for_count (N := NC) (fun j => SIc 8 w2 base v g g7 K u (c0 ++ (f.coders.take j).flatMap coderW)  j) (fun j => SIc 8 w2 base v g g7 K u (c0 ++ (f.coders.take (j + 1)).flatMap coderW)  j) (by rw [List.take_zero, List.flatMap_nil, List.append_nil]; exact hI) ?_ ?_ ?_ ?_
  · clear hI a w
    rintro j _ wr hj ⟨A, vx, rfl, hz, ⟨h1, h3, h5, h6, h7, h8, -⟩, SK⟩
    obtain ⟨⟨q0, q1, q2⟩, -⟩ := HXH.out wr SK.fr
    have HSK := Lib.hid SK
    clear SK
    refine only_hide fun R HR => ?_
    go_wp2_with fail
    exact only_mk (HR.out _ _ ⟨by simp [Act.eval, hz], _, vx, rfl, by simp [hz], ⟨fun _ => by simp [slot_set, h1], fun _ => by simp [slot_set, h3], fun _ => by simp [slot_set, h5], fun _ => by simp [slot_set, h6], fun _ => by simp [slot_set, h7], fun _ => by simp [slot_set, h8], trivial⟩, HSK.out⟩)
  · clear hI a w
    rintro j _ wr hj ⟨A, vx, rfl, hz, ⟨h1, h3, h5, h6, h7, h8, -⟩, SK⟩
    obtain ⟨⟨q0, q1, q2⟩, FW⟩ := HXH.out wr SK.fr
    obtain ⟨x, hx⟩ := some_get f.coders j (by rw [HNC.out]; exact hj)
    obtain ⟨b1, o1, pv1, hao, hb1, z0, z1, z2⟩ := hco j x hx
    subst hao
    have hmt := HOK.out.m x (List.mem_of_getElem? hx)
    have hpx := hpr x (List.mem_of_getElem? hx)
    have e0 := (FW.cell (p := ⟨b1, o1 + j * 2, none⟩) hb1 (by simp)).trans z0
    have e1 := (FW.cell (p := ⟨b1, o1 + j * 2 + 1, none⟩) hb1 (by simp)).trans z1
    have HPV := Lib.hid (fun w3 (F : Fr vx.ownBlock.toList wr w3) => z2.fr0 (HXH.out w3 (SK.on F)).2)
    have hb2 := Nat.lt_of_lt_of_le hb1 FW.size
    have HTK := Lib.hid (show c0 ++ (f.coders.take (j + 1)).flatMap coderW = (c0 ++ (f.coders.take j).flatMap coderW) ++ coderW x by rw [flat_take coderW hx, List.append_assoc])
    have hle := flat_le coderW hx
    have HYL := Lib.hid (show (c0 ++ (f.coders.take j).flatMap coderW).length ≤ 40000000 by rw [List.length_append]; omega)
    have HMT := Lib.hid (And.intro hmt hpx)
    have hjI : (j : Int) < (NC : Int) := by omega
    generalize c0 ++ (f.coders.take j).flatMap coderW = Y at *
    generalize c0 ++ (f.coders.take (j + 1)).flatMap coderW = Y' at *
    clear hx hle hl z0 z1 z2 hco hmt hpx hpr HOK HNC
    have HSK := Lib.hid SK
    obtain ⟨vo, vc, rfl, -⟩ := own_out SK.own
    have HBH := Lib.hid (fun wx (F : Fr v.ownBlock.toList w2 wx) => (HXH.out wx F).1)
    clear SK hf HXH
    refine only_hide fun R HR => ?_
    obtain ⟨xm, xp⟩ := x
    dsimp only at e0 e1 HPV HTK HMT
    go_wp2_with (go_at_call 32; refine (coder_sb HSK.out (Fr.refl _ _) HB.out pv1 ⟨xm, xp⟩ HPV.out HMT.out.1 (by have := HYL.out; omega) HMT.out.2).mono ?_; rintro e w7 ⟨r7, rfl, S7⟩; rw [← HTK.out] at S7; obtain ⟨ro7, rc7, rfl, -⟩ := own_out S7.own)
    exact only_mk (HR.out _ _ ⟨_, _, rfl, by simp [hz], ⟨fun _ => by simp [slot_set, h1], fun _ => by simp, fun _ => by simp [slot_set, h5], fun _ => by simp [slot_set, h6], fun _ => by simp [slot_set, h7], fun _ => by simp [slot_set, h8], trivial⟩, S7⟩)
  · clear hI a w
    rintro j _ wr hj ⟨A, vx, rfl, hz, ⟨h1, h3, h5, h6, h7, h8, -⟩, SK⟩
    have HSK := Lib.hid SK
    have hj2 : j ≤ 100000 := by first | omega | (split at hj <;> omega)
    clear SK hj
    refine only_hide fun R HR => ?_
    go_wp2_with fail
    exact only_mk (HR.out _ _ ⟨_, vx, rfl, by simp [hz], ⟨fun _ => by simp [slot_set, h1], fun _ => by simp [slot_set, h3], fun _ => by simp [slot_set, h5], fun _ => by simp [slot_set, h6], fun _ => by simp [slot_set, h7], fun _ => by simp, trivial⟩, HSK.out⟩)
  · rintro _ wr ⟨A, vx, rfl, hz, ⟨h1, h3, h5, h6, h7, -, -⟩, SK⟩
    rw [List.take_of_length_le (by rw [HNC.out]; exact Nat.le_refl _)] at SK
    exact ⟨A, vx, rfl, hz, ⟨h1, h3, h5, h6, h7, trivial⟩, SK⟩

set_option maxRecDepth 100000 in
set_option maxHeartbeats 1000000 in
theorem sp_binds {w0 w2 : World} {base g g7 K : Nat} {u v : Value} {c0 : List UInt8} {f : Folder} {cv bv' pv sv : Value} (hb : base ≤ w2.heap.size) (HX : BoxF w0 w2 v g7 cv bv' pv) (hf : FoV w0 cv bv' pv sv f) (hok : FolOk f) (hl : c0.length + (f.binds.flatMap bindW).length ≤ 40000000) (a : Act) (w : World) (hS : SI w2 base v g g7 K u c0 a w) :
    (sc [true, true, true, false, true, false, true, true, false, true, false, false, true, false, false, true, true, true, true, false]).wp Tryd.prog (Only (SI w2 base v g g7 K u (c0 ++ f.binds.flatMap bindW))) a w := by
  obtain ⟨A, vx, rfl, hz, ⟨h1, h3, h5, h6, h7, -⟩, S⟩ := hS
  have HB := Lib.hid hb
  have HOK := Lib.hid hok
  obtain ⟨bao, bcap, rfl, -, -, hbi⟩ := hf.bi.out
  have hcl := hok.bl
  obtain ⟨NC, hNC⟩ : ∃ n, f.binds.length = n := ⟨_, rfl⟩
  have HNC := Lib.hid hNC
  rw [hNC] at HX hcl
  clear hNC
  have HXH := Lib.hid HX
  clear HX hok hb
  conv => arg 2; whnf
  refine only_seq (R := SIc 9 w2 base v g g7 K u c0 0) ?_ ?_
  · have HS := Lib.hid S
    clear S
    refine only_hide fun R HR => ?_
    go_wp2_with fail
    exact only_mk (HR.out _ _ ⟨_, vx, rfl, by simp [hz], ⟨fun _ => by simp [slot_set, h1], fun _ => by simp [slot_set, h3], fun _ => by simp [slot_set, h5], fun _ => by simp [slot_set, h6], fun _ => by simp [slot_set, h7], fun _ => by simp, trivial⟩, HS.out⟩)
  clear h1 h3 h5 h6 h7 hz S A vx w
  intro a w hI
  refine for_count (N := NC) (fun j => SIc 9 w2 base v g g7 K u (c0 ++ (f.binds.take j).flatMap bindW)  j) (fun j => SIc 9 w2 base v g g7 K u (c0 ++ (f.binds.take (j + 1)).flatMap bindW)  j) (by rw [List.take_zero, List.flatMap_nil, List.append_nil]; exact hI) ?_ ?_ ?_ ?_
  · clear hI a w
    rintro j _ wr hj ⟨A, vx, rfl, hz, ⟨h1, h3, h5, h6, h7, h8, -⟩, SK⟩
    obtain ⟨⟨q0, q1, q2⟩, -⟩ := HXH.out wr SK.fr
    have HSK := Lib.hid SK
    clear SK
    refine only_hide fun R HR => ?_
    go_wp2_with fail
    exact only_mk (HR.out _ _ ⟨by simp [Act.eval, hz], _, vx, rfl, by simp [hz], ⟨fun _ => by simp [slot_set, h1], fun _ => by simp [slot_set, h3], fun _ => by simp [slot_set, h5], fun _ => by simp [slot_set, h6], fun _ => by simp [slot_set, h7], fun _ => by simp [slot_set, h8], trivial⟩, HSK.out⟩)
  · clear hI a w
    rintro j _ wr hj ⟨A, vx, rfl, hz, ⟨h1, h3, h5, h6, h7, h8, -⟩, SK⟩
    obtain ⟨⟨q0, q1, q2⟩, FW⟩ := HXH.out wr SK.fr
    obtain ⟨x, hx⟩ := some_get f.binds j (by rw [HNC.out]; exact hj)
    obtain ⟨b1, o1, hao, hb1, z0, z1⟩ := hbi j x hx
    subst hao
    obtain ⟨m1, m2, m3, m4⟩ := HOK.out.b x (List.mem_of_getElem? hx)
    have hb2 := Nat.lt_of_lt_of_le hb1 FW.size
    have HTK := Lib.hid (show c0 ++ (f.binds.take (j + 1)).flatMap bindW = ((c0 ++ (f.binds.take j).flatMap bindW) ++ shortN x.1.toNat) ++ shortN x.2.toNat by rw [flat_take bindW hx]; unfold bindW; simp only [List.append_assoc])
    have hle := flat_le bindW hx
    have hbw := congrArg List.length (show bindW x = shortN x.1.toNat ++ shortN x.2.toNat from rfl)
    rw [List.length_append] at hbw
    have HYL := Lib.hid (show (c0 ++ (f.binds.take j).flatMap bindW).length + (shortN x.1.toNat).length ≤ 40000000 by rw [List.length_append]; omega)
    have hjI : (j : Int) < (NC : Int) := by omega
    have HSS := Lib.hid (fun wx (F : Fr v.ownBlock.toList w2 wx) => show (wx.cell? ⟨g7, 1, none⟩ = some (.slice (some ⟨b1, o1, none⟩) NC bcap) ∧ wx.cell? ⟨b1, o1 + j * 2, none⟩ = some (.int .i64 x.1) ∧ wx.cell? ⟨b1, o1 + j * 2 + 1, none⟩ = some (.int .i64 x.2)) from
      ⟨(HXH.out wx F).1.2.1, ((HXH.out wx F).2.cell (p := ⟨b1, o1 + j * 2, none⟩) hb1 (by simp)).trans z0, ((HXH.out wx F).2.cell (p := ⟨b1, o1 + j * 2 + 1, none⟩) hb1 (by simp)).trans z1⟩)
    generalize c0 ++ (f.binds.take j).flatMap bindW = Y at *
    generalize c0 ++ (f.binds.take (j + 1)).flatMap bindW = Y' at *
    obtain ⟨x1, x2⟩ := x
    dsimp only at m1 m2 m3 m4 HSS HTK HYL
    obtain ⟨i1, rfl⟩ := Int.eq_ofNat_of_zero_le m1
    obtain ⟨i2, rfl⟩ := Int.eq_ofNat_of_zero_le m3
    simp only [Int.toNat_natCast] at HTK HYL
    have hw1 : IntKind.u64.wrap (i1 : Int) = (i1 : Int) := by simp [IntKind.wrap, IntKind.bits, IntKind.signed]; omega
    have hw2 : IntKind.u64.wrap (i2 : Int) = (i2 : Int) := by simp [IntKind.wrap, IntKind.bits, IntKind.signed]; omega
    have hn1 : i1 < 18446744073709551616 := by omega
    have hn2 : i2 < 18446744073709551616 := by omega
    obtain ⟨Y1, hY1⟩ : ∃ Y1, Y1 = Y ++ shortN i1 := ⟨_, rfl⟩
    have HY1 := Lib.hid hY1
    have HYL1 := Lib.hid (show Y1.length ≤ 40000000 by rw [hY1, List.length_append]; exact HYL.out)
    rw [← hY1] at HTK
    clear hx hle hl z0 z1 hbi HOK HNC hbw m1 m2 m3 m4 hY1 q0 q1 q2
    have HSK := Lib.hid SK
    obtain ⟨vo, vc, rfl, -⟩ := own_out SK.own
    have HBH := Lib.hid (fun wx (F : Fr v.ownBlock.toList w2 wx) => (HXH.out wx F).1)
    clear SK hf HXH
    refine only_hide fun R HR => ?_
    refine wp_block ?_
    refine wp_region_held_drew (S := fun wx => wx.cell? ⟨g7, 1, none⟩ = some (.slice (some ⟨b1, o1, none⟩) NC bcap) ∧ wx.cell? ⟨b1, o1 + j * 2, none⟩ = some (.int .i64 i1) ∧ wx.cell? ⟨b1, o1 + j * 2 + 1, none⟩ = some (.int .i64 i2)) (by kernel_rfl) (HSS.out _ (HSK.out.fr.trans0 (Fr.refl [] wr).drew)) (fun _ => ?_)
    refine wpAnyH_take (i := 0) (v := ?_) (arr_get _ 0 _ rfl) (by kernel_rfl) (by kernel_rfl) (by kernel_rfl) (fun _ _ _ h => by cases h.1) (Or.inl ⟨by rfl, ?_⟩) (HSS.out _ (HSK.out.fr.trans0 (Fr.refl [] wr).drew)) ?_
    rotate_left
    · rintro w ⟨f1, f2, f3⟩
      go_simp
      all_goals with_reducible rfl
    try simp only [Act.put]
    refine wpAnyH_take (i := 1) (v := ?_) (arr_get _ 1 _ rfl) (by kernel_rfl) (by kernel_rfl) (by kernel_rfl) (fun _ _ _ h => by cases h.1) (Or.inl ⟨by rfl, ?_⟩) (HSS.out _ (HSK.out.fr.trans0 (Fr.refl [] wr).drew)) ?_
    rotate_left
    · rintro w ⟨f1, f2, f3⟩
      go_simp
      all_goals with_reducible rfl
    try simp only [Act.put]
    refine wpAnyH_take (i := 2) (v := ?_) (arr_get _ 2 _ rfl) (by kernel_rfl) (by kernel_rfl) (by kernel_rfl) (fun _ _ _ h => by cases h.1) (Or.inl ⟨by rfl, ?_⟩) (HSS.out _ (HSK.out.fr.trans0 (Fr.refl [] wr).drew)) ?_
    rotate_left
    · rintro w ⟨f1, f2, f3⟩
      go_simp
      all_goals with_reducible rfl
    try simp only [Act.put]
    refine wpAnyH_take (i := 3) (v := ?_) (arr_get _ 3 _ rfl) (by kernel_rfl) (by kernel_rfl) (by kernel_rfl) (fun _ _ _ h => by cases h.1) (Or.inl ⟨by rfl, ?_⟩) (HSS.out _ (HSK.out.fr.trans0 (Fr.refl [] wr).drew)) ?_
    rotate_left
    · rintro w ⟨f1, f2, f3⟩
      go_simp
      all_goals with_reducible rfl
    try simp only [Act.put]
    refine wpAnyH_take (i := 4) (v := ?_) (arr_get _ 4 _ rfl) (by kernel_rfl) (by kernel_rfl) (by kernel_rfl) (fun _ _ _ h => by cases h.1) (Or.inl ⟨by rfl, ?_⟩) (HSS.out _ (HSK.out.fr.trans0 (Fr.refl [] wr).drew)) ?_
    rotate_left
    · rintro w ⟨f1, f2, f3⟩
      go_simp
      all_goals with_reducible rfl
    try simp only [Act.put]
    refine wpAnyH_take (i := 5) (v := ?_) (arr_get _ 5 _ rfl) (by kernel_rfl) (by kernel_rfl) (by kernel_rfl) (fun _ _ _ h => by cases h.1) (Or.inl ⟨by rfl, ?_⟩) (HSS.out _ (HSK.out.fr.trans0 (Fr.refl [] wr).drew)) ?_
    rotate_left
    · rintro w ⟨f1, f2, f3⟩
      go_simp
      all_goals with_reducible rfl
    try simp only [Act.put]
    refine wpAnyH_take (i := 6) (v := ?_) (arr_get _ 6 _ rfl) (by kernel_rfl) (by kernel_rfl) (by kernel_rfl) (fun _ _ _ h => by cases h.1) (Or.inl ⟨by rfl, ?_⟩) (HSS.out _ (HSK.out.fr.trans0 (Fr.refl [] wr).drew)) ?_
    rotate_left
    · rintro w ⟨f1, f2, f3⟩
      go_simp
      all_goals with_reducible rfl
    try simp only [Act.put]
    refine wpAnyH_take (i := 7) (v := ?_) (arr_get _ 7 _ rfl) (by kernel_rfl) (by kernel_rfl) (by kernel_rfl) (fun _ _ _ h => by cases h.1) (Or.inl ⟨by rfl, ?_⟩) (HSS.out _ (HSK.out.fr.trans0 (Fr.refl [] wr).drew)) ?_
    rotate_left
    · rintro w ⟨f1, f2, f3⟩
      go_simp
      all_goals with_reducible rfl
    try simp only [Act.put]
    refine wpAnyH_take (i := 9) (v := ?_) (arr_get _ 9 _ rfl) (by kernel_rfl) (by kernel_rfl) (by kernel_rfl) (fun _ _ _ h => by cases h.1) (Or.inl ⟨by rfl, ?_⟩) (HSS.out _ (HSK.out.fr.trans0 (Fr.refl [] wr).drew)) ?_
    rotate_left
    · rintro w ⟨f1, f2, f3⟩
      go_simp
      all_goals with_reducible rfl
    try simp only [Act.put]
    refine wpAnyH_take (i := 10) (v := ?_) (arr_get _ 10 _ rfl) (by kernel_rfl) (by kernel_rfl) (by kernel_rfl) (fun _ _ _ h => by cases h.1) (Or.inl ⟨by rfl, ?_⟩) (HSS.out _ (HSK.out.fr.trans0 (Fr.refl [] wr).drew)) ?_
    rotate_left
    · rintro w ⟨f1, f2, f3⟩
      go_simp
      all_goals with_reducible rfl
    try simp only [Act.put]
    refine wpAnyH_take (i := 11) (v := ?_) (arr_get _ 11 _ rfl) (by kernel_rfl) (by kernel_rfl) (by kernel_rfl) (fun _ _ _ h => by cases h.1) (Or.inl ⟨by rfl, ?_⟩) (HSS.out _ (HSK.out.fr.trans0 (Fr.refl [] wr).drew)) ?_
    rotate_left
    · rintro w ⟨f1, f2, f3⟩
      go_simp
      all_goals with_reducible rfl
    try simp only [Act.put]
    refine wpAnyH_take (i := 12) (v := ?_) (arr_get _ 12 _ rfl) (by kernel_rfl) (by kernel_rfl) (by kernel_rfl) (fun _ _ _ h => by cases h.1) (Or.inl ⟨by rfl, ?_⟩) (HSS.out _ (HSK.out.fr.trans0 (Fr.refl [] wr).drew)) ?_
    rotate_left
    · rintro w ⟨f1, f2, f3⟩
      go_simp
      all_goals with_reducible rfl
    try simp only [Act.put]
    refine wpAnyH_take (i := 13) (v := ?_) (arr_get _ 13 _ rfl) (by kernel_rfl) (by kernel_rfl) (by kernel_rfl) (fun _ _ _ h => by cases h.1) (Or.inl ⟨by rfl, ?_⟩) (HSS.out _ (HSK.out.fr.trans0 (Fr.refl [] wr).drew)) ?_
    rotate_left
    · rintro w ⟨f1, f2, f3⟩
      go_simp
      all_goals with_reducible rfl
    try simp only [Act.put]
    refine wpAnyH_take (i := 14) (v := ?_) (arr_get _ 14 _ rfl) (by kernel_rfl) (by kernel_rfl) (by kernel_rfl) (fun _ _ _ h => by cases h.1) (Or.inl ⟨by rfl, ?_⟩) (HSS.out _ (HSK.out.fr.trans0 (Fr.refl [] wr).drew)) ?_
    rotate_left
    · rintro w ⟨f1, f2, f3⟩
      go_simp
      all_goals with_reducible rfl
    try simp only [Act.put]
    refine wpAnyH_take (i := 15) (v := ?_) (arr_get _ 15 _ rfl) (by kernel_rfl) (by kernel_rfl) (by kernel_rfl) (fun _ _ _ h => by cases h.1) (Or.inl ⟨by rfl, ?_⟩) (HSS.out _ (HSK.out.fr.trans0 (Fr.refl [] wr).drew)) ?_
    rotate_left
    · rintro w ⟨f1, f2, f3⟩
      go_simp
      all_goals with_reducible rfl
    try simp only [Act.put]
    refine wpAnyH_ready (rs := [8]) (by kernel_rfl) (by simp) ?_
    refine AllReadyH.cons (arr_get _ 8 _ rfl) (fun K hK => ?_) AllReadyH.nil
    go_simp
    (go_at_call 30; refine (num_sb HSK.out (Fr.refl [] wr).drew HB.out i1 (by have := HYL.out; omega) hn1).mono ?_; rintro e w6 ⟨r6, rfl, S6⟩; rw [← HY1.out] at S6; obtain ⟨ro6, rc6, rfl, -⟩ := own_out S6.own)
    refine hK.out _ _ (HSS.out _ S6.fr) (fun _ => ?_)
    clear hK K
    try simp only [Act.put]
    refine wpAnyH_ready (rs := [16]) (by kernel_rfl) (by simp) ?_
    refine AllReadyH.cons (arr_get _ 16 _ rfl) (fun K hK => ?_) AllReadyH.nil
    go_simp
    (go_at_call 30; refine (num_sb S6 (Fr.refl _ _) HB.out i2 (by have := HYL1.out; omega) hn2).mono ?_; rintro e w7 ⟨r7, rfl, S7⟩; rw [← HTK.out] at S7; obtain ⟨ro7, rc7, rfl, -⟩ := own_out S7.own)
    refine hK.out _ _ (HSS.out _ S7.fr) (fun _ => ?_)
    clear hK K
    try simp only [Act.put]
    refine wpAnyH_ready (rs := [17]) (by kernel_rfl) (by simp) ?_
    refine AllReadyH.cons (arr_get _ 17 _ rfl) (fun K hK => ?_) AllReadyH.nil
    go_simp
    refine hK.out _ _ (HSS.out _ S7.fr) (fun _ => ?_)
    clear hK K
    try simp only [Act.put]
    refine wpAnyH_done (by kernel_rfl) ?_ _
    exact only_mk (HR.out _ _ ⟨_, _, rfl, by simp [hz], ⟨fun _ => by simp [slot_set, h1], fun _ => by simp, fun _ => by simp [slot_set, h5], fun _ => by simp [slot_set, h6], fun _ => by simp [slot_set, h7], fun _ => by simp [slot_set, h8], trivial⟩, S7⟩)
  · clear hI a w
    rintro j _ wr hj ⟨A, vx, rfl, hz, ⟨h1, h3, h5, h6, h7, h8, -⟩, SK⟩
    have HSK := Lib.hid SK
    have hj2 : j ≤ 100000 := by first | omega | (split at hj <;> omega)
    clear SK hj
    refine only_hide fun R HR => ?_
    go_wp2_with fail
    exact only_mk (HR.out _ _ ⟨_, vx, rfl, by simp [hz], ⟨fun _ => by simp [slot_set, h1], fun _ => by simp [slot_set, h3], fun _ => by simp [slot_set, h5], fun _ => by simp [slot_set, h6], fun _ => by simp [slot_set, h7], fun _ => by simp, trivial⟩, HSK.out⟩)
  · rintro _ wr ⟨A, vx, rfl, hz, ⟨h1, h3, h5, h6, h7, -, -⟩, SK⟩
    rw [List.take_of_length_le (by rw [HNC.out]; exact Nat.le_refl _)] at SK
    exact ⟨A, vx, rfl, hz, ⟨h1, h3, h5, h6, h7, trivial⟩, SK⟩

set_option maxRecDepth 100000 in
set_option maxHeartbeats 1000000 in
theorem sp_fpacks {w0 w2 : World} {base g g7 K : Nat} {u v : Value} {c0 : List UInt8} {f : Folder} {cv bv' pv sv : Value} (hb : base ≤ w2.heap.size) (HX : BoxF w0 w2 v g7 cv bv' pv) (hf : FoV w0 cv bv' pv sv f) (hok : FolOk f) (hl : c0.length + (if 1 < f.packs.length then packsI f.packs else []).length ≤ 40000000) (a : Act) (w : World) (hS : SI w2 base v g g7 K u c0 a w) :
    (sc [true, true, true, false, true, false, true, true, false, true, false, false, true, false, false, true, true, true, true, true]).wp Tryd.prog (Only (SI w2 base v g g7 K u (c0 ++ (if 1 < f.packs.length then packsI f.packs else [])))) a w := by
  obtain ⟨A, vx, rfl, hz, ⟨h1, h3, h5, h6, h7, -⟩, S⟩ := hS
  have HB := Lib.hid hb
  have HOK := Lib.hid hok
  obtain ⟨pao, pcap, rfl, -, -, hpa⟩ := hf.pa.out
  have hcl := hok.pl
  obtain ⟨NC, hNC⟩ : ∃ n, f.packs.length = n := ⟨_, rfl⟩
  have HNC := Lib.hid hNC
  have hiv : (iv f.packs).length = NC := by rw [← hNC]; simp [iv]
  rw [hiv] at HX
  rw [hNC] at hcl hl ⊢
  rw [hiv] at hpa
  clear hNC hiv
  have HXH := Lib.hid HX
  clear HX hok hb
  conv => arg 2; whnf
  refine only_seq (R := SIc 10 w2 base v g g7 K u c0 0) ?_ ?_
  · have HS := Lib.hid S
    clear S
    refine only_hide fun R HR => ?_
    go_wp2_with fail
    exact only_mk (HR.out _ _ ⟨_, vx, rfl, by simp [hz], ⟨fun _ => by simp [slot_set, h1], fun _ => by simp [slot_set, h3], fun _ => by simp [slot_set, h5], fun _ => by simp [slot_set, h6], fun _ => by simp [slot_set, h7], fun _ => by simp, trivial⟩, HS.out⟩)
  clear h1 h3 h5 h6 h7 hz S A vx w
  intro a w hI
  refine for_count (N := (if 1 < NC then NC else 0)) (fun j => SIc 10 w2 base v g g7 K u (c0 ++ (f.packs.take j).flatMap (fun p => shortN p.toNat))  j) (fun j => SIc 10 w2 base v g g7 K u (c0 ++ (f.packs.take (j + 1)).flatMap (fun p => shortN p.toNat))  j) (by rw [List.take_zero, List.flatMap_nil, List.append_nil]; exact hI) ?_ ?_ ?_ ?_
  · clear hI a w
    rintro j _ wr hj ⟨A, vx, rfl, hz, ⟨h1, h3, h5, h6, h7, h8, -⟩, SK⟩
    obtain ⟨⟨q0, q1, q2⟩, -⟩ := HXH.out wr SK.fr
    have HSK := Lib.hid SK
    clear SK
    clear hpa hf hl
    by_cases t1 : 1 < NC
    · by_cases t2 : j < NC
      · have htest : decide (j < if 1 < NC then NC else 0) = true := by rw [if_pos t1]; exact decide_eq_true t2
        have t1I : (1 : Int) < (NC : Int) := by omega
        have t2I : (j : Int) < (NC : Int) := by omega
        clear hj
        refine only_hide fun R HR => ?_
        go_wp2_with fail
        exact only_mk (HR.out _ _ ⟨by simp [Act.eval, hz, t1, t2], _, vx, rfl, by simp [hz], ⟨fun _ => by simp [slot_set, h1], fun _ => by simp [slot_set, h3], fun _ => by simp [slot_set, h5], fun _ => by simp [slot_set, h6], fun _ => by simp [slot_set, h7], fun _ => by simp [slot_set, h8], trivial⟩, HSK.out⟩)
      · have t1I : (1 : Int) < (NC : Int) := by omega
        have t2I : ¬ (j : Int) < (NC : Int) := by omega
        clear hj
        refine only_hide fun R HR => ?_
        go_wp2_with fail
        exact only_mk (HR.out _ _ ⟨by simp [Act.eval, hz, t1, t2], _, vx, rfl, by simp [hz], ⟨fun _ => by simp [slot_set, h1], fun _ => by simp [slot_set, h3], fun _ => by simp [slot_set, h5], fun _ => by simp [slot_set, h6], fun _ => by simp [slot_set, h7], fun _ => by simp [slot_set, h8], trivial⟩, HSK.out⟩)
    · have t1I : ¬ (1 : Int) < (NC : Int) := by omega
      by_cases t2 : j < NC
      · have t2I : (j : Int) < (NC : Int) := by omega
        clear hj
        refine only_hide fun R HR => ?_
        go_wp2_with fail
        exact only_mk (HR.out _ _ ⟨by simp [Act.eval, hz, t1], _, vx, rfl, by simp [hz], ⟨fun _ => by simp [slot_set, h1], fun _ => by simp [slot_set, h3], fun _ => by simp [slot_set, h5], fun _ => by simp [slot_set, h6], fun _ => by simp [slot_set, h7], fun _ => by simp [slot_set, h8], trivial⟩, HSK.out⟩)
      · have t2I : ¬ (j : Int) < (NC : Int) := by omega
        clear hj
        refine only_hide fun R HR => ?_
        go_wp2_with fail
        exact only_mk (HR.out _ _ ⟨by simp [Act.eval, hz, t1], _, vx, rfl, by simp [hz], ⟨fun _ => by simp [slot_set, h1], fun _ => by simp [slot_set, h3], fun _ => by simp [slot_set, h5], fun _ => by simp [slot_set, h6], fun _ => by simp [slot_set, h7], fun _ => by simp [slot_set, h8], trivial⟩, HSK.out⟩)
  · clear hI a w
    rintro j _ wr hj ⟨A, vx, rfl, hz, ⟨h1, h3, h5, h6, h7, h8, -⟩, SK⟩
    obtain ⟨⟨q0, q1, q2⟩, FW⟩ := HXH.out wr SK.fr
    have hj1 : 1 < NC := by
      by_cases h : 1 < NC
      · exact h
      · rw [if_neg h] at hj; omega
    rw [if_pos hj1] at hj hl
    obtain ⟨x, hx⟩ := some_get f.packs j (by rw [HNC.out]; exact hj)
    obtain ⟨b1, o1, hao, hb1, zz⟩ := hpa j hj
    have z0 := zz j hj
    subst hao
    obtain ⟨m1, m2⟩ := HOK.out.k x (List.mem_of_getElem? hx)
    have e0 := (FW.cell (p := ⟨b1, o1 + j, none⟩) hb1 (by simp)).trans (z0.trans (show (iv f.packs)[j]? = some (.int .i64 x) by simp [iv, hx]))
    have hb2 := Nat.lt_of_lt_of_le hb1 FW.size
    have HTK := Lib.hid (show c0 ++ (f.packs.take (j + 1)).flatMap (fun p => shortN p.toNat) = (c0 ++ (f.packs.take j).flatMap (fun p => shortN p.toNat)) ++ shortN x.toNat by rw [flat_take (fun p : Int => shortN p.toNat) hx, List.append_assoc])
    have hle := flat_le (fun p : Int => shortN p.toNat) hx
    have HYL := Lib.hid (show (c0 ++ (f.packs.take j).flatMap (fun p => shortN p.toNat)).length ≤ 40000000 by rw [List.length_append]; unfold packsI at hl; omega)
    have hjI : (j : Int) < (NC : Int) := by omega
    generalize c0 ++ (f.packs.take j).flatMap (fun p => shortN p.toNat) = Y at *
    generalize c0 ++ (f.packs.take (j + 1)).flatMap (fun p => shortN p.toNat) = Y' at *
    obtain ⟨i1, rfl⟩ := Int.eq_ofNat_of_zero_le m1
    simp only [Int.toNat_natCast] at HTK
    have hw1 : IntKind.u64.wrap (i1 : Int) = (i1 : Int) := by simp [IntKind.wrap, IntKind.bits, IntKind.signed]; omega
    have hn1 : i1 < 18446744073709551616 := by omega
    clear hx hle hl z0 zz hpa HOK HNC m1
    have HSK := Lib.hid SK
    obtain ⟨vo, vc, rfl, -⟩ := own_out SK.own
    have HBH := Lib.hid (fun wx (F : Fr v.ownBlock.toList w2 wx) => (HXH.out wx F).1)
    clear SK hf HXH
    refine only_hide fun R HR => ?_
    go_wp2_with (go_at_call 30; refine (num_sb HSK.out (Fr.refl [] wr) HB.out i1 (by have := HYL.out; omega) hn1).mono ?_; rintro e w7 ⟨r7, rfl, S7⟩; rw [← HTK.out] at S7; obtain ⟨ro7, rc7, rfl, -⟩ := own_out S7.own)
    exact only_mk (HR.out _ _ ⟨_, _, rfl, by simp [hz], ⟨fun _ => by simp [slot_set, h1], fun _ => by simp, fun _ => by simp [slot_set, h5], fun _ => by simp [slot_set, h6], fun _ => by simp [slot_set, h7], fun _ => by simp [slot_set, h8], trivial⟩, S7⟩)
  · clear hI a w
    rintro j _ wr hj ⟨A, vx, rfl, hz, ⟨h1, h3, h5, h6, h7, h8, -⟩, SK⟩
    have HSK := Lib.hid SK
    have hj2 : j ≤ 100000 := by first | omega | (split at hj <;> omega)
    clear SK hj
    refine only_hide fun R HR => ?_
    go_wp2_with fail
    exact only_mk (HR.out _ _ ⟨_, vx, rfl, by simp [hz], ⟨fun _ => by simp [slot_set, h1], fun _ => by simp [slot_set, h3], fun _ => by simp [slot_set, h5], fun _ => by simp [slot_set, h6], fun _ => by simp [slot_set, h7], fun _ => by simp, trivial⟩, HSK.out⟩)
  · rintro _ wr ⟨A, vx, rfl, hz, ⟨h1, h3, h5, h6, h7, -, -⟩, SK⟩
    by_cases h : 1 < NC
    · rw [if_pos h] at SK ⊢
      rw [List.take_of_length_le (by rw [HNC.out]; exact Nat.le_refl _)] at SK
      exact ⟨A, vx, rfl, hz, ⟨h1, h3, h5, h6, h7, trivial⟩, SK⟩
    · rw [if_neg h] at SK ⊢
      exact ⟨A, vx, rfl, hz, ⟨h1, h3, h5, h6, h7, trivial⟩, by simpa using SK⟩
end Go.Proofs.YtkodindajfdagaaDoor
