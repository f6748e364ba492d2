/- Contract: the writer's files. No condition but that lengths fit. -/
import Derived.Test.YtkodindajfdagaaDoorWNumsM
import Derived.Test.YtkodindajfdagaaDoorWNamesM
import Derived.Test.YtkodindajfdagaaDoorGAJ
import Derived.Test.YtkodindajfdagaaDoorGAH
import Derived.LoopN
import Derived.Test.YtkodindajfdagaaDoorGAG
namespace Go.Proofs.YtkodindajfdagaaDoor
open Go.RowKit

theorem WrTo.es {w wx : World} {lo p : Nat} {v : Value} {bs : List UInt8} {d : DW} (T : WrTo w lo p v bs d wx) : wx.cell? ⟨p, 7, none⟩ = some d.es := by
  obtain ⟨v1, W1, -, -⟩ := T
  exact (cells8 W1.blk).2.2.2.2.2.2.2.1
theorem wrows_any {w wx : World} {lo p hi : Nat} {v : Value} {bs : List UInt8} {d : DW} (T : WrTo w lo p v bs d wx) (F : List Fil) (hF : RowAt wx hi 7 d.es F.length (fiV F)) (hn : F.length ≤ 1000000) (hb : bs.length ≤ 80000000) :
    Calls Tryd.prog 25 #[.pointer (some ⟨p, 0, none⟩)] wx fun e w' => e = .returned (.tuple #[]) ∧ WrTo w lo p v (bs ++ rowsW F) d w' :=
  T.chain fun v1 W1 => rows1_any wx lo p hi v1 bs d F W1 hF hn hb

set_option maxRecDepth 100000 in
set_option maxHeartbeats 4000000 in
theorem files_one (w : World) (lo p hi : Nat) (v : Value) (bs : List UInt8) (d : DW) (F : List Fil) (h : WrAt w lo p v bs d) (hF : RowAt w hi 7 d.es F.length (fiV F)) (hp : hi ≤ p) (h3 : 2 ≤ p) (hG : Gl w) (hn : F.length ≤ 1000000) (hb : bs.length + (filesW F).length ≤ 60000000)
    (hv : ∀ x ∈ F, (runesL x.name).isSome = true ∧ x.name.length ≤ 100000) :
    Calls Tryd.prog 13 #[.pointer (some ⟨p, 0, none⟩)] w fun e w' => e = .returned (.tuple #[]) ∧ WrTo w lo p v (bs ++ filesW F) d w' := by
  have HW := Lib.hid h
  obtain ⟨eao, ecap, he, hec, hem, -⟩ := hF.out
  have HR := Lib.hid hF
  have HE := Lib.hid he
  obtain ⟨c0, c1, c2, c3, c4, c5, c6, c7, cz⟩ := cells8 h.blk
  rw [he] at c7
  clear hF he
  have T0 := WrTo.refl h
  have HRT := Lib.hid (fun (bs2 : List UInt8) (w2 : World) (T : WrTo w lo p v bs2 d w2) => HR.out.wr h hp T)
  have HGT := Lib.hid (fun (bs2 : List UInt8) (w2 : World) (T : WrTo w lo p v bs2 d w2) => hG.frS T.frm (h.above h3))
  have HET := Lib.hid (fun (bs2 : List UInt8) (w2 : World) (T : WrTo w lo p v bs2 d w2) => HE.out ▸ T.es)
  have HN := Lib.hid hn
  have HV := Lib.hid hv
  clear h hv hG
  by_cases h0 : F = []
  · have HX := Lib.hid (show filesW F = [] from if_pos h0)
    have t0 : ((F.length : Int) == 0) = true := by rw [h0]; rfl
    clear h0
    go_enter Tryd.func13, Tryd.ntmps13
    go_wp2_with fail
    first | go_end0 | (simp only [Exit.inBlock, Exit.then]; refine bodyPost_ret (results_none rfl _ _ _) rfl ?_) | refine bodyPost_ret (results_none rfl _ _ _) rfl ?_
    exact ⟨rfl, by rw [HX.out, List.append_nil]; exact T0⟩
  have HX := Lib.hid (show filesW F = 5 :: (shortN F.length ++ (rowsW F ++ (partW 17 (namesW F) ++ (numsW 20 8 timeOf F ++ (numsW 21 4 attrOf F ++ [0]))))) from if_neg h0)
  have HXE := Lib.hid (show bs ++ filesW F = ((((((bs ++ [5]) ++ shortN F.length) ++ rowsW F) ++ partW 17 (namesW F)) ++ numsW 20 8 timeOf F) ++ numsW 21 4 attrOf F) ++ [0] by rw [HX.out]; simp)
  have hl := congrArg List.length HXE.out
  simp only [List.length_append, List.length_singleton] at hl
  have hpl : (partW 17 (namesW F)).length = 1 + (shortN (namesW F).length).length + (namesW F).length := by simp [partW]; omega
  have HL := Lib.hid (show bs.length + 1 + (shortN F.length).length + (rowsW F).length + (partW 17 (namesW F)).length + (numsW 20 8 timeOf F).length + (numsW 21 4 attrOf F).length + 1 ≤ 60000000 ∧ (namesW F).length ≤ (partW 17 (namesW F)).length by omega)
  have t0 : ((F.length : Int) == 0) = false := by
    rw [beq_eq_false_iff_ne]
    have := List.length_pos_iff.2 h0
    omega
  have hwr : IntKind.u64.wrap (F.length : Int) = (F.length : Int) := by simp [IntKind.wrap, IntKind.bits, IntKind.signed]; omega
  have hFl : F.length < 18446744073709551616 := by omega
  clear h0 hl hpl hb HX
  go_enter Tryd.func13, Tryd.ntmps13
  go_wp2_with (first
    | (have hq := T6; go_at_call 11; refine (wput_any (T6.then0 ((Fr.refl _ _).alloc _)) _ [0] (sl_one _ _ _) (by have := HL.out.1; simp only [List.length_append, List.length_singleton]; omega)).mono ?_; rintro e w7 ⟨rfl, T7⟩)
    | (have hq := T5; go_at_call 27; refine (wattr_any T5 F (HRT.out _ _ T5) HN.out (by have := HL.out.1; simp only [List.length_append, List.length_singleton]; omega)).mono ?_; rintro e w6 ⟨rfl, T6⟩)
    | (have hq := T4; go_at_call 27; refine (wtime_any T4 F (HRT.out _ _ T4) HN.out (by have := HL.out.1; simp only [List.length_append, List.length_singleton]; omega)).mono ?_; rintro e w5 ⟨rfl, T5⟩)
    | (have hq := T3; go_at_call 26; refine (wnames_any T3 F (HRT.out _ _ T3) (HGT.out _ _ T3) HN.out (by have := HL.out.1; have := HL.out.2; simp only [List.length_append, List.length_singleton]; omega) HV.out).mono ?_; rintro e w4 ⟨rfl, T4⟩)
    | (have hq := T2; go_at_call 25; refine (wrows_any T2 F (HRT.out _ _ T2) HN.out (by have := HL.out.1; simp only [List.length_append, List.length_singleton]; omega)).mono ?_; rintro e w3 ⟨rfl, T3⟩)
    | (have hq := T1; go_at_call 24; refine (wnumber_any T1 F.length (by have := HL.out.1; simp only [List.length_append, List.length_singleton]; omega) hFl).mono ?_; rintro e w2 ⟨rfl, T2⟩)
    | (go_at_call 11; refine (wput_any (T0.then0 ((Fr.refl _ _).alloc _)) _ [5] (sl_one _ _ _) (by have := HL.out.1; simp only [List.length_singleton]; omega)).mono ?_; rintro e w1 ⟨rfl, T1⟩; have s7 := HET.out _ _ T1))
  go_end0
  exact ⟨rfl, by rw [HXE.out]; exact T7⟩
theorem wfiles_any {w wx : World} {lo p hi : Nat} {v : Value} {bs : List UInt8} {d : DW} (T : WrTo w lo p v bs d wx) (F : List Fil) (hF : RowAt wx hi 7 d.es F.length (fiV F)) (hp : hi ≤ p) (h3 : 2 ≤ p) (hG : Gl wx) (hn : F.length ≤ 1000000) (hb : bs.length + (filesW F).length ≤ 60000000)
    (hv : ∀ x ∈ F, (runesL x.name).isSome = true ∧ x.name.length ≤ 100000) :
    Calls Tryd.prog 13 #[.pointer (some ⟨p, 0, none⟩)] wx fun e w' => e = .returned (.tuple #[]) ∧ WrTo w lo p v (bs ++ filesW F) d w' :=
  T.chain fun v1 W1 => files_one wx lo p hi v1 bs d F W1 hF hp h3 hG hn hb hv
end Go.Proofs.YtkodindajfdagaaDoor
/- Contracts: the writer's streams where there are none. No condition. -/
namespace Go.Proofs.YtkodindajfdagaaDoor
open Go.RowKit

/-- A description without packs, folders, subs. -/
def d0 (pk cs es : Value) : DW := ⟨pk, .int .u64 0, .slice none 0 0, cs, .slice none 0 0, .slice none 0 0, es⟩

set_option maxRecDepth 100000 in
theorem packs0_any (wx : World) (lo p : Nat) (v : Value) (bs : List UInt8) (pk cs es : Value) (h : WrAt wx lo p v bs (d0 pk cs es)) :
    Calls Tryd.prog 21 #[.pointer (some ⟨p, 0, none⟩)] wx fun e w' => e = .returned (.bool false) ∧ wx = w' := by
  obtain ⟨c0, c1, c2, c3, c4, c5, c6, c7, cz⟩ := cells8 h.blk
  dsimp only [d0] at c1 c2 c3 c4 c5 c6 c7
  clear h
  go_enter Tryd.func21, Tryd.ntmps21
  go_wp2_with fail
  go_ret
  exact ⟨rfl, rfl⟩
set_option maxRecDepth 100000 in
theorem folders0_any (wx : World) (lo p : Nat) (v : Value) (bs : List UInt8) (pk cs es : Value) (h : WrAt wx lo p v bs (d0 pk cs es)) :
    Calls Tryd.prog 22 #[.pointer (some ⟨p, 0, none⟩)] wx fun e w' => e = .returned (.bool false) ∧ wx = w' := by
  obtain ⟨c0, c1, c2, c3, c4, c5, c6, c7, cz⟩ := cells8 h.blk
  dsimp only [d0] at c1 c2 c3 c4 c5 c6 c7
  clear h
  go_enter Tryd.func22, Tryd.ntmps22
  go_wp2_with fail
  go_ret
  exact ⟨rfl, rfl⟩
set_option maxRecDepth 100000 in
theorem cfs0_any (w : World) (fv : Value) : Calls Tryd.prog 49 #[.slice none 0 0, fv] w fun e w' => e = .returned (.bool false) ∧ w = w' := by
  go_enter Tryd.func49, Tryd.ntmps49
  go_wp2
  refine wp_loop_rounds 1 ?_
  rw [rounds_succ]
  go_wp2
  go_ret
  exact ⟨rfl, rfl⟩
set_option maxRecDepth 100000 in
theorem cfc0_any (w : World) (fv : Value) : Calls Tryd.prog 52 #[.slice none 0 0, fv] w fun e w' => e = .returned (.bool false) ∧ w = w' := by
  go_enter Tryd.func52, Tryd.ntmps52
  go_wp2
  refine wp_loop_rounds 1 ?_
  rw [rounds_succ]
  go_wp2
  go_ret
  exact ⟨rfl, rfl⟩
set_option maxRecDepth 100000 in
theorem unknown0_any (w : World) (pk cs es : Value) : Calls Tryd.prog 51 #[.agg #[pk, .int .u64 0, .slice none 0 0, cs, .slice none 0 0, .slice none 0 0, es]] w fun e w' => e = .returned (.slice none 0 0) ∧ Fr [] w w' := by
  go_enter Tryd.func51, Tryd.ntmps51
  go_wp2_with fail
  refine wp_loop_rounds 1 ?_
  rw [rounds_succ]
  go_wp2_with fail
  go_ret
  exact ⟨rfl, (Fr.refl _ _).alloc _⟩
set_option maxRecDepth 100000 in
theorem subs0_any (wx : World) (lo p : Nat) (v : Value) (bs : List UInt8) (pk cs es : Value) (h : WrAt wx lo p v bs (d0 pk cs es)) :
    Calls Tryd.prog 23 #[.pointer (some ⟨p, 0, none⟩)] wx fun e w' => e = .returned (.bool false) ∧ Fr [] wx w' := by
  obtain ⟨c0, c1, c2, c3, c4, c5, c6, c7, cz⟩ := cells8 h.blk
  dsimp only [d0] at c1 c2 c3 c4 c5 c6 c7
  clear h
  go_enter Tryd.func23, Tryd.ntmps23
  go_wp2_with (first
    | (go_at_call 49; refine (cfs0_any wx _).mono ?_; rintro e w1 ⟨rfl, rfl⟩)
    | (go_at_call 51; refine (unknown0_any wx _ _ _).mono ?_; rintro e w2 ⟨rfl, F2⟩)
    | (go_at_call 52; refine (cfc0_any w2 _).mono ?_; rintro e w3 ⟨rfl, rfl⟩))
  go_ret
  exact ⟨rfl, F2⟩

set_option maxRecDepth 100000 in
set_option maxHeartbeats 2000000 in
theorem streams0_any {w wx : World} {lo p : Nat} {v : Value} {bs : List UInt8} {pk cs es : Value} (T : WrTo w lo p v bs (d0 pk cs es) wx) (hb : bs.length ≤ 1000000) :
    Calls Tryd.prog 12 #[.pointer (some ⟨p, 0, none⟩)] wx fun e w' => e = .returned (.bool false) ∧ WrTo w lo p v (bs ++ [0]) (d0 pk cs es) w' := by
  have hmf : ∀ (fn : Fn) (first cap : Array Value) (w : World), (Instr.makeFunc fn first cap).run Tryd.prog w = .ok (.func fn first cap) w := fun _ _ _ _ => rfl
  obtain ⟨wA, hwA⟩ : ∃ wA, wA = wx.alloc (.cells #[.func (.func 21) #[.pointer (some ⟨p, 0, none⟩)] #[], .func (.func 22) #[.pointer (some ⟨p, 0, none⟩)] #[], .func (.func 23) #[.pointer (some ⟨p, 0, none⟩)] #[]] 30) := ⟨_, rfl⟩
  have FA : Fr [] wx wA := hwA ▸ (Fr.refl _ _).alloc _
  have T1 := T.then0 FA
  have HK := Lib.hid (fun w2 (F : Fr [] wA w2) => show w2.cell? ⟨wx.heap.size, 0, none⟩ = some (.func (.func 21) #[.pointer (some ⟨p, 0, none⟩)] #[]) ∧ w2.cell? ⟨wx.heap.size, 1, none⟩ = some (.func (.func 22) #[.pointer (some ⟨p, 0, none⟩)] #[]) ∧ w2.cell? ⟨wx.heap.size, 2, none⟩ = some (.func (.func 23) #[.pointer (some ⟨p, 0, none⟩)] #[]) from by
    have hs : wx.heap.size < wA.heap.size := by rw [hwA]; simp
    have key : ∀ i, w2.cell? ⟨wx.heap.size, i, none⟩ = _ := fun i => (F.cell (p := ⟨wx.heap.size, i, none⟩) hs (by simp)).trans (by rw [hwA, Go.Joins.cell_of_block (heap_alloc_new wx _)])
    exact ⟨by rw [key]; rfl, by rw [key]; rfl, by rw [key]; rfl⟩)
  obtain ⟨k0, k1, k2⟩ := HK.out wA (Fr.refl _ _)
  go_enter Tryd.func12, Tryd.ntmps12
  go_wp2_with fail
  rw [← hwA]
  clear hwA
  refine wp_loop_rounds 4 ?_
  rw [rounds_succ]
  obtain ⟨v1, W1, -, -⟩ := T1.out
  go_wp2_with (go_at_call 21; refine (packs0_any wA lo p v1 bs pk cs es W1).mono ?_; rintro e w2 ⟨rfl, rfl⟩)
  rw [rounds_succ]
  go_wp2_with (go_at_call 22; refine (folders0_any wA lo p v1 bs pk cs es W1).mono ?_; rintro e w2 ⟨rfl, rfl⟩)
  rw [rounds_succ]
  go_wp2_with (go_at_call 23; refine (subs0_any wA lo p v1 bs pk cs es W1).mono ?_; rintro e w2 ⟨rfl, F2⟩)
  have T2 := T1.then0 F2
  rw [rounds_succ]
  go_wp2_with (go_at_call 11; refine (wput_any (T2.then0 ((Fr.refl _ _).alloc _)) _ [0] (sl_one _ _ _) (by simp; omega)).mono ?_; rintro e w7 ⟨rfl, T7⟩)
  go_ret
  exact ⟨rfl, T7⟩
end Go.Proofs.YtkodindajfdagaaDoor
/- Contracts: headerw.Write of descriptions that have files alone. No condition but that lengths fit. -/
namespace Go.Proofs.YtkodindajfdagaaDoor
open Go.RowKit

set_option maxRecDepth 100000 in
theorem sizes0_any (w : World) : Calls Tryd.prog 37 #[.slice none 0 0] w fun e w' => e = .returned (.bool true) ∧ w = w' := by
  go_enter Tryd.func37, Tryd.ntmps37
  go_wp2_with fail
  refine wp_loop_rounds 1 ?_
  rw [rounds_succ]
  go_wp2_with fail
  go_ret
  exact ⟨rfl, rfl⟩
set_option maxRecDepth 100000 in
theorem mayStreams0_any (w : World) (es : Value) : Calls Tryd.prog 16 #[.agg #[.bool false, .int .u64 0, .slice none 0 0, .slice none 0 0, .slice none 0 0, .slice none 0 0, es]] w fun e w' => e = .returned (.tuple #[.int .i64 ((0 : Nat) : Int), .bool true]) ∧ Fr [] w w' := by
  obtain ⟨wA, hwA⟩ : ∃ wA, wA = w.alloc (.cells #[.bool false, .int .u64 0, .slice none 0 0, .slice none 0 0, .slice none 0 0, .slice none 0 0, es] 29) := ⟨_, rfl⟩
  have FA : Fr [] w wA := hwA ▸ (Fr.refl _ _).alloc _
  obtain ⟨k0, k1, k2, k3, k4, k5, k6⟩ := wbox7 (hwA ▸ Fr.refl [] wA : Fr [] (w.alloc (.cells #[.bool false, .int .u64 0, .slice none 0 0, .slice none 0 0, .slice none 0 0, .slice none 0 0, es] 29)) wA) (by simp)
  go_enter Tryd.func16, Tryd.ntmps16
  go_wp2_with (go_at_call 37; rw [← hwA]; refine (sizes0_any wA).mono ?_; rintro e w1 ⟨rfl, rfl⟩)
  clear hwA
  refine wp_loop_rounds 1 ?_
  rw [rounds_succ]
  go_wp2_with fail
  refine wp_loop_rounds 1 ?_
  rw [rounds_succ]
  go_wp2_with fail
  first | go_ret2 | (go_region; all_goals (try go_wp2); all_goals go_ret2)
  all_goals exact ⟨rfl, by first | exact FA | exact FA.drew | exact (Fr.refl _ _).alloc _ | exact ((Fr.refl _ _).alloc _).drew | exact ((Fr.refl _ _).alloc _).drewN _⟩
theorem own_cut {w : World} {base e n : Nat} {v : Value} {xs : List Value} (h : w.ownsRow base e 1 v n xs) (m : Nat) (hm : m ≤ n) (h0 : 0 < m) : ∃ g cap, v = .slice (some ⟨g, 0, none⟩) n cap ∧ n ≤ cap ∧ w.ownsRow base e 1 (.slice (some ⟨g, 0, none⟩) m cap) m (xs.take m) := by
  have hx := h.1
  rcases h.2 with ⟨rfl, hn⟩ | ⟨g, cap, cur, rfl, hb, hg, hnc, hcm, hcs, htake⟩
  · omega
  · refine ⟨g, cap, rfl, hnc, by simp; omega, .inr ⟨g, cap, cur, rfl, hb, hg, by omega, hcm, hcs, ?_⟩⟩
    rw [← htake, List.take_take]
    congr 1
    omega

def Writ0 (F : List Fil) (w : World) (e : Ending) (w' : World) : Prop := ∃ v, e = .returned (.tuple #[v, .int .i64 0]) ∧ Sl w' v (bv (1 :: (filesW F ++ [0]))) ∧ Fr [] w w'

set_option maxRecDepth 100000 in
set_option maxHeartbeats 4000000 in
theorem write0_any (w : World) (es : Value) (F : List Fil) (hF : RowAt w w.heap.size 7 es F.length (fiV F)) (hG : Gl w) (hn : F.length ≤ 1000000) (hb : (filesW F).length ≤ 50000000) (hv : ∀ x ∈ F, x.name.length ≤ 100000) (hm : F.all mayFil = true) (hs : streamN F = 0) :
    Calls Tryd.prog 6 #[.agg #[.bool false, .int .u64 0, .slice none 0 0, .slice none 0 0, .slice none 0 0, .slice none 0 0, es]] w (Writ0 F w) := by
  obtain ⟨wA, hwA⟩ : ∃ wA, wA = w.alloc (.cells #[.bool false, .int .u64 0, .slice none 0 0, .slice none 0 0, .slice none 0 0, .slice none 0 0, es] 29) := ⟨_, rfl⟩
  have FA : Fr [] w wA := hwA ▸ (Fr.refl _ _).alloc _
  have HBX := Lib.hid (fun wx (F2 : Fr [] wA wx) => wbox7 (hwA ▸ F2 : Fr [] (w.alloc (.cells #[.bool false, .int .u64 0, .slice none 0 0, .slice none 0 0, .slice none 0 0, .slice none 0 0, es] 29)) wx) (by simp))
  obtain ⟨k0, k1, k2, k3, k4, k5, k6⟩ := HBX.out wA (Fr.refl _ _)
  have HR := Lib.hid hF
  have HG := Lib.hid hG
  have HB := Lib.hid hb
  have HN := Lib.hid hn
  have HMY := Lib.hid (may_files wA w.heap.size (.int .u64 0) (.slice none 0 0) (.slice none 0 0) (.slice none 0 0) es none 0 0 0 F (hF.fr0 FA) (hG.fr FA) hn (by omega) hv (fun wx _ => mayStreams0_any wx es))
  have hmr : mayR true false 0 0 F = true := by simp [mayR, hm, hs]
  rw [hmr] at HMY
  have HV := Lib.hid (show ∀ x ∈ F, (runesL x.name).isSome = true ∧ x.name.length ≤ 100000 from fun x hx => by
    have h1 := List.all_eq_true.1 hm x hx
    refine ⟨?_, hv x hx⟩
    unfold mayFil at h1
    simp only [Bool.and_eq_true] at h1
    exact h1.1.1.1.1)
  clear hF hG hm hs hv hmr
  have hnot : ∀ (x : Bool) (w : World), (Op.unary .not (.bool x)).run Tryd.prog w = .ok (.bool (!x)) w := fun _ _ => rfl
  go_enter Tryd.func6, Tryd.ntmps6
  go_upto_region 3 with (go_at_call 8; rw [← hwA]; refine HMY.out.mono ?_; rintro e w1 ⟨rfl, F1⟩; obtain ⟨l0, l1, l2, l3, l4, l5, l6⟩ := HBX.out w1 F1)
  have hSZ : w.heap.size < w1.heap.size := by have := F1.size; rw [hwA] at this; simp at this; omega
  clear k0 k1 k2 k3 k4 k5 k6 hwA
  have F1w := FA.trans0 F1
  obtain ⟨wP, hwP⟩ : ∃ wP, wP = w1.alloc (.cells #[.slice none 0 0, .bool false, .int .u64 0, .slice none 0 0, .slice none 0 0, .slice none 0 0, .slice none 0 0, es] 52) := ⟨_, rfl⟩
  have FP : Fr [] w1 wP := hwP ▸ (Fr.refl _ _).alloc _
  have WP : WrAt wP (w1.heap.size + 1) w1.heap.size (.slice none 0 0) [] (d0 (.bool false) (.slice none 0 0) es) := ⟨hwP ▸ heap_alloc_new w1 _, World.ownsRow_nil _ _ _ _, by omega, by rw [hwP]; simp⟩
  obtain ⟨m0, m1, m2, m3, m4, m5, m6⟩ := HBX.out wP (F1.trans0 FP)
  have sP : wP.heap.size = w1.heap.size + 1 := by rw [hwP]; simp
  go_upto_region 4 with fail
  rw [← hwP]
  clear hwP l0 l1 l2 l3 l4 l5 l6
  have HSL := Lib.hid (show Sl (wP.alloc (.cells #[.int .u8 1, .int .u8 4] 5)) (.slice (some ⟨w1.heap.size + 1, 0, none⟩) 2 2) (bv [1, 4]) from sP ▸ sl_lit wP 5 (bv [1, 4]) 2 rfl (by decide))
  have HSL2 := Lib.hid (show Sl (wP.alloc (.cells #[.int .u8 1, .int .u8 4] 5)) (.slice (some ⟨wP.heap.size, 0, none⟩) 2 2) (bv [1, 4]) from sl_lit wP 5 (bv [1, 4]) 2 rfl (by decide))
  go_upto_region 10 with (first
    | (have hq := T1; go_at_call 12; refine (streams0_any T1 (by decide)).mono ?_; rintro e w3 ⟨rfl, T2⟩)
    | (go_at_call 11; refine (wput_any ((WrTo.refl WP).then0 ((Fr.refl _ _).alloc _)) _ [1, 4] (by first | exact HSL.out | exact HSL2.out) (by decide)).mono ?_; rintro e w2 ⟨rfl, T1⟩))
  obtain ⟨v3, W3, F3, hk3⟩ := T2.out
  obtain ⟨g, cap, rfl, hc3, own1⟩ := own_cut W3.own 1 (by decide) (by decide)
  obtain ⟨c0, -, -, -, -, -, -, -, cz⟩ := cells8 W3.blk
  have hcI : (3 : Int) ≤ (cap : Int) := by have : 3 ≤ cap := hc3; omega
  have hgs := W3.gs g rfl
  have hgp := W3.hp
  have F4 : Fr [w1.heap.size] w3 (w3.setCell ⟨w1.heap.size, 0, none⟩ (.slice (some ⟨g, 0, none⟩) 1 cap)) := (Fr.refl _ _).setCell (by simp) _
  have T3 : WrTo wP (w1.heap.size + 1) w1.heap.size (.slice none 0 0) [1] (d0 (.bool false) (.slice none 0 0) es) (w3.setCell ⟨w1.heap.size, 0, none⟩ (.slice (some ⟨g, 0, none⟩) 1 cap)) :=
    ⟨_, ⟨Go.Joins.block_setCell W3.blk _, own_frS own1 F4 (fun k hk hm => by cases hk; simp at hm; omega), W3.hp, Nat.le_trans W3.hl F4.size⟩, F3.trans F4 (by simp), fun k hk => hk3 k hk⟩
  go_upto_region 11 with fail
  have HRP := (HR.out.fr0 (F1w.trans0 FP)).wr WP (by omega) T3
  have HGP := ((HG.out.fr (F1w.trans0 FP))).frS T3.frm (WP.above (by have := HG.out.sz; omega))
  have HNP := Lib.hid (F1w.trans0 FP)
  obtain ⟨w4, hw4⟩ : ∃ w4, w4 = w3.setCell ⟨w1.heap.size, 0, none⟩ (.slice (some ⟨g, 0, none⟩) 1 cap) := ⟨_, rfl⟩
  rw [← hw4] at T3 HRP HGP ⊢
  clear hw4 F4 own1 c0 cz W3 F3 hk3 T2 T1 hq
  have h3 : 2 ≤ w1.heap.size := by have := HG.out.sz; omega
  have h4 : w.heap.size ≤ w1.heap.size := by omega
  go_wp2_with (first
    | (have hq := T5; go_at_call 11; refine (wput_any (T5.then0 ((Fr.refl _ _).alloc _)) _ [0] (sl_one _ _ _) (by have := HB.out; simp only [List.length_append, List.length_singleton]; omega)).mono ?_; rintro e w6 ⟨rfl, T6⟩; obtain ⟨v6, W6, F6, -⟩ := T6.out; obtain ⟨vo6, vc6, rfl, -⟩ := own_out W6.own; have c6 := (cells8 W6.blk).1)
    | (go_at_call 13; refine (wfiles_any T3 F HRP h4 h3 HGP HN.out (by have := HB.out; simp only [List.length_singleton]; omega) HV.out).mono ?_; rintro e w5 ⟨rfl, T5⟩))
  go_ret2
  refine ⟨_, rfl, ?_, HNP.out.trans F6 (fun i hi => ?_)⟩
  · have := Sl.of_own W6.own
    rw [show ([1] ++ filesW F ++ [0] : List UInt8).length = (filesW F).length + 1 + 1 by simp, List.append_assoc] at this
    exact this
  · simp only [List.mem_cons, Option.mem_toList] at hi
    rcases hi with rfl | hi
    · exact .inr h4
    · cases hi
end Go.Proofs.YtkodindajfdagaaDoor
/- Contract: law 21's awake: two headers that the document fixes. No condition but what the library's tables hold. -/
namespace Go.Proofs.YtkodindajfdagaaDoor
open Go.RowKit

def fileA : Fil := ⟨[97], false, false, false, 0, false, 0⟩
theorem filesA : 1 :: (filesW [fileA] ++ [0]) = [1, 5, 1, 14, 1, 128, 15, 1, 128, 17, 5, 0, 97, 0, 0, 0, 0, 0] := by kernel_rfl
theorem filesN : 1 :: (filesW [] ++ [0]) = [1, 0] := by kernel_rfl

set_option maxRecDepth 100000 in
set_option maxHeartbeats 4000000 in
theorem awake_any (w : World) (hG : Gl w) : Calls Tryd.prog 4 #[] w fun e w' => e = .returned (.bool true) ∧ Fr [] w w' := by
  have HG := Lib.hid hG
  have HW1 := Lib.hid (write0_any w (.slice none 0 0) [] (RowAt.nil w _ 7) hG (by decide) (by decide) (by simp) rfl rfl)
  have HW2 := Lib.hid (fun (w1 : World) (F1 : Fr [] w w1) => write0_any (w1.alloc (.cells #[.string ⟨#[97]⟩, .bool false, .bool false, .bool false, .int .u32 0, .bool false, .int .u64 0] 39)) (.slice (some ⟨w1.heap.size, 0, none⟩) 1 1) [fileA]
    ⟨_, 1, rfl, by decide, by decide, fun j hj => ⟨w1.heap.size, 0, rfl, by simp, by simp, fun k hk => by
      obtain rfl : j = 0 := by simp at hj; omega
      rw [Go.Joins.cell_of_block (heap_alloc_new w1 _)]
      simp [fiV, Fil.cells, fileA]⟩⟩ ((HG.out.fr F1).fr ((Fr.refl _ _).alloc _)) (by decide) (by decide) (by intro x hx; simp at hx; subst hx; decide) (by kernel_rfl) rfl)
  go_enter Tryd.func4, Tryd.ntmps4
  go_upto_region 3 with (first
    | (have hq := F1; go_at_call 6; refine (HW2.out w1 F1).mono ?_; rintro e w2 ⟨v2, rfl, hv2, F2⟩; rw [filesA] at hv2; have HV2 := Lib.hid hv2; obtain ⟨o2, c2, rfl, -⟩ := hv2.out; have HX2 := Lib.hid (show Sl w2 (.slice o2 18 c2) (bv [1, 5, 1, 14, 1, 128, 15, 1, 128, 17, 5, 0, 97, 0, 0, 0, 0, 0]) from hv2); clear hv2)
    | (go_at_call 6; refine HW1.out.mono ?_; rintro e w1 ⟨v1, rfl, hv1, F1⟩; rw [filesN] at hv1; have HV1 := Lib.hid hv1; obtain ⟨o1, c1, rfl, -⟩ := hv1.out; have HX1 := Lib.hid (show Sl w1 (.slice o1 2 c1) (bv [1, 0]) from hv1); clear hv1))
  have FW2 : Fr [] w1 w2 := ((Fr.refl [] w1).alloc _).trans0 F2
  go_wp2_with (first
    | (have hq := F4; go_at_call 10; refine (bytes_any _ _ _ [1, 5, 1, 14, 1, 128, 15, 1, 128, 17, 5, 0, 97, 0, 0, 0, 0, 0] [1, 5, 1, 14, 1, 128, 15, 1, 128, 17, 5, 0, 97, 0, 0, 0, 0, 0] (HX2.out.fr0 (F4.alloc _)) (sl_lit _ _ (bv [1, 5, 1, 14, 1, 128, 15, 1, 128, 17, 5, 0, 97, 0, 0, 0, 0, 0]) 18 rfl (by decide))).mono ?_; rw [decide_eq_true rfl]; rintro e w5 ⟨rfl, S5⟩)
    | (go_at_call 10; refine (bytes_any _ _ _ [1, 0] [1, 0] (HX1.out.fr0 (FW2.alloc _)) (sl_lit _ _ (bv [1, 0]) 2 rfl (by decide))).mono ?_; rw [decide_eq_true rfl]; rintro e w4 ⟨rfl, S4⟩; have F4 : Fr [] w2 w4 := ((Fr.refl [] w2).alloc _).trans0 S4.fr))
  go_ret
  exact ⟨rfl, (F1.trans0 FW2).trans0 ((F4.alloc _).trans0 S5.fr)⟩
end Go.Proofs.YtkodindajfdagaaDoor
