/- Contract: Drop. No condition but that lengths fit. -/
import Derived.Test.YthbkcjlpelihlaaGreatDoorGAM
import Derived.Deep.DeepCutAuto
namespace Go.Proofs.YthbkcjlpelihlaaGreatDoor
open Go.RowKit Go.Maps

/-- What Drop does. -/
def drpK (K : Tree) (q : List UInt8) : Int × Tree := if (K q).isSome then (0, dropK K q) else (202, K)
theorem KeysAre.lens {K : Tree} {ks : List (List UInt8)} (h : KeysAre K ks) (hK : MayK K) : ∀ x ∈ ks, x.length ≤ 1024 := by
  intro x hx
  have h1 := (h.mem x).1 hx
  obtain ⟨t, ht⟩ := Option.isSome_iff_exists.1 h1
  have := (hK x t ht).1
  unfold cleanL at this
  simp only [Bool.and_eq_true, decide_eq_true_eq] at this
  exact this.1.1.2
theorem clean_len {x : List UInt8} (h : cleanL foldL x = true) : x.length ≤ 1024 := by
  unfold cleanL at h
  simp only [Bool.and_eq_true, decide_eq_true_eq] at h
  exact h.1.1.2
/-- What a look-up finds, in later worlds too. -/
theorem SandIn.looks {w : World} {lo p b : Nat} {fv cv : Value} {n nc : Nat} {fl : Fl} {KV : List UInt8 → Option Value} {K : Tree} (h : SandIn w lo p b fv cv n nc fl KV K) (q : List UInt8) (hq : q.length ≤ 100000) :
    ∃ kd ao dn cap sv, (∀ wx, Fr [] w wx → (Instr.lookup 78 (.map (some b)) (.string ⟨q.toArray⟩) true).run Tryz.prog wx = .ok (.tuple #[.agg #[.int .i64 kd, .slice ao dn cap, .string sv], .bool (K q).isSome]) wx) ∧ kindK K q = kd := by
  have hrun := fun wx (F : Fr [] w wx) => (h.mp.fr F (by simp)).look q hq
  rw [h.rd.is] at hrun
  cases hk : K q with
  | none =>
    rw [(h.rd.no _).2 hk, hk] at hrun
    exact ⟨_, _, _, _, _, hrun, by unfold kindK; rw [hk]; rfl⟩
  | some t =>
    obtain ⟨v, hv, dv, rfl, ho⟩ := h.rd.get hk
    obtain ⟨ao, cap, rfl, -⟩ := own_outS ho
    rw [hv, hk] at hrun
    exact ⟨_, _, _, _, _, hrun, by unfold kindK; rw [hk]; rfl⟩
/-- Deleted, at the operation. -/
theorem wpList_sand_del {w : World} {lo p b : Nat} {fv cv : Value} {n nc : Nat} {fl : Fl} {KV : List UInt8 → Option Value} {K : Tree} {ops : Array Oper} {rest : List Oper} {o : Oper} {a : Act} {Q : Exit → Act → World → Prop} (hgd : o.guard = none) (m x : Operand)
    (ho : o.op = .call { callee := .builtin .delete, args := #[m, x], argTypes := #[78, 9] }) (h : SandIn w lo p b fv cv n nc fl KV K) (q : List UInt8) (hq : q.length ≤ 100000) (hm : a.eval m = .map (some b)) (hx : a.eval x = .string ⟨q.toArray⟩)
    (hK : ∀ w', SandIn w' lo p b fv cv n nc fl (fun y => if y = q then none else KV y) (delK K q) → Fr [b] w w' → wpList Tryz.prog ops Q rest (a.put o.dst (.tuple #[])) w') : wpList Tryz.prog ops Q (o :: rest) a w := by
  refine wpList_plain hgd fun K' hK' => ?_
  obtain ⟨w', hrun, h2, h3⟩ := h.mp.del q hq o.type
  have F := fr_turned h3
  unfold Oper.wp
  simp [execOp, ho, resolve, invoke, builtin, hm, hx, hrun, Result.andThen]
  exact hK' _ _ (hK w' (h.turn F h2 (h.rd.del q)) F)
theorem MTh.nobs {w : World} {b n : Nat} {KV : List UInt8 → Option Value} (h : MTh w b n KV) (lo e : Nat) : ∀ i ∈ [b], i < lo ∨ ∀ cs z, w.heap[i]? ≠ some (.cells cs e z) := by
  intro i hi
  simp at hi
  subst hi
  obtain ⟨D, ⟨es, clock, h1, -⟩, -⟩ := h
  exact .inr fun cs z hc => by rw [h1] at hc; cases hc
/-- A map is no cell. -/
theorem MTh.nocell {w : World} {b n : Nat} {KV : List UInt8 → Option Value} (h : MTh w b n KV) {B i : Nat} {x : Value} (hc : w.cell? ⟨B, i, none⟩ = some x) : B ≠ b := by
  rintro rfl
  obtain ⟨D, ⟨es, clock, h1, -⟩, -⟩ := h
  simp [World.cell?, h1] at hc
set_option maxRecDepth 100000 in
set_option maxHeartbeats 4000000 in
theorem drop_body {w : World} {lo p b : Nat} {fv cv : Value} {n nc : Nat} {fl : Fl} {KV : List UInt8 → Option Value} {K : Tree} (h : SandIn w lo p b fv cv n nc fl KV K) (hKM : MayK K) (q : List UInt8) (hq : q.length ≤ 1024) (hn : n ≤ 100000) (B0 B1 : Nat)
    (m0 : w.cell? ⟨B0, 0, none⟩ = some (.pointer (some ⟨p, 0, none⟩))) (m1 : w.cell? ⟨B1, 0, none⟩ = some (.string ⟨q.toArray⟩)) :
    Calls Tryz.prog 110 #[.pointer (some ⟨B0, 0, none⟩), .pointer (some ⟨B1, 0, none⟩)] w fun e w' => ∃ KV', e = .returned (.int .i64 (drpK K q).1) ∧ SandIn w' lo p b fv cv n nc fl KV' (drpK K q).2 ∧ Fr [b] w w' := by
  obtain ⟨c0, -, -⟩ := h.cells
  obtain ⟨ko, ao, dn, cap, sv, hrun0, -⟩ := h.looks q (by omega)
  have n0 : ∀ o : Obj, (w.alloc o).cell? ⟨B0, 0, none⟩ = some (.pointer (some ⟨p, 0, none⟩)) := fun o => (((Fr.refl [] w).alloc o).cell (World.block_lt_of_cell? _ _ m0) (by simp)).trans m0
  have n1 : ∀ o : Obj, (w.alloc o).cell? ⟨B1, 0, none⟩ = some (.string ⟨q.toArray⟩) := fun o => (((Fr.refl [] w).alloc o).cell (World.block_lt_of_cell? _ _ m1) (by simp)).trans m1
  have nc0 : ∀ o : Obj, (w.alloc o).cell? ⟨p, 0, none⟩ = some (.map (some b)) := fun o => (((Fr.refl [] w).alloc o).cell (World.block_lt_of_cell? _ _ c0) (by simp)).trans c0
  have FD : Fr [] w (w.alloc (.cells #[.int .i64 0, .slice none 0 0, .string ⟨#[]⟩] 80)).drew := ((Fr.refl _ w).alloc _).drew
  have hrun1 := hrun0 _ FD
  have hrun2 := hrun0 _ ((Fr.refl _ w).drew)
  have hnot : ∀ (x : Bool) (w : World), (Op.unary .not (.bool x)).run Tryz.prog w = .ok (.bool (!x)) w := fun _ _ => rfl
  have HA := Lib.hid (fun wx (F : Fr [] w wx) => h.fr0 F)
  have FF : Fr [] w (w.alloc (.cells #[.int .i64 ko, .slice ao dn cap, .string sv] 80)).drew := ((Fr.refl _ w).alloc _).drew
  unfold drpK
  cases hk : (K q).isSome with
  | false =>
    rw [hk] at hrun1 hrun2
    rw [if_neg (by simp)]
    clear h hrun0 hk
    go_enter Tryz.func110, Tryz.ntmps110
    go_upto_region 1 with fail
    go_region
    all_goals (try go_wp2_with fail)
    all_goals go_ret
    all_goals exact ⟨KV, rfl, HA.out _ FF, FF.mono (by simp)⟩
  | true =>
    rw [hk] at hrun1 hrun2
    rw [if_pos rfl]
    have HM := Lib.hid hKM
    clear h hrun0 hk hKM
    go_enter Tryz.func110, Tryz.ntmps110
    go_upto_region 1 with fail
    rename_i K9 hK9
    go_cut [3, 4, 7, 8, 9, 10, 11, 12, 13, 14, 15] (fun v3 v4 v7 v8 v9 v10 v11 v12 v13 v14 v15 wx => v4 = .bool true ∧ Fr [] w wx)
    case first =>
      clear hK9
      go_region
      all_goals
        go_simp
        try go_step
        go_meet
        case rel => exact ⟨rfl, FF⟩
    case rest =>
      rename World => w1
      obtain ⟨rfl, FF1⟩ := hcut
      have FF := FF1
      clear FF1 n0 n1 nc0 hrun1 hrun2 FD
      (refine hK9 _ _ ?_; clear hK9)
      have x0 := (FF.cell (World.block_lt_of_cell? _ _ m0) (by simp)).trans m0
      have x1 := (FF.cell (World.block_lt_of_cell? _ _ m1) (by simp)).trans m1
      have S1 := Lib.hid (HA.out w1 FF)
      have TR := Lib.hid (fun wx (F : Fr [] w1 wx) => tree_any (S1.out.fr0 F) q (by omega) hn)
      have YA : ∀ o : Obj, (w1.alloc o).cell? ⟨B1, 0, none⟩ = some (.string ⟨q.toArray⟩) := fun o => (((Fr.refl [] w1).alloc o).cell (World.block_lt_of_cell? _ _ x1) (by simp)).trans x1
      have YB : ∀ o : Obj, (w1.alloc o).cell? ⟨B0, 0, none⟩ = some (.pointer (some ⟨p, 0, none⟩)) := fun o => (((Fr.refl [] w1).alloc o).cell (World.block_lt_of_cell? _ _ x0) (by simp)).trans x0
      go_upto_region 4 with fail
      rename_i K0 hK0
      go_cut [18, 19, 20, 21, 22, 23, 24, 25] (fun v18 v19 v20 v21 v22 v23 v24 v25 wx => ∃ vo2 vc2 vo3 vc3 ks, v20 = .slice vo2 (treeL ks q).length vc2 ∧ v23 = .slice vo3 ((treeL ks q).length + 1) vc3 ∧ v24 = .int .i64 (((treeL ks q).length + 1 : Nat) : Int) ∧ v25 = .int .i64 0 ∧ Go.RowKit.Hid (KeysAre K ks) ∧ Go.RowKit.Hid ((treeL ks q).length ≤ n) ∧ wx.ownsRow w1.heap.size 9 1 (.slice vo3 ((treeL ks q).length + 1) vc3) ((treeL ks q).length + 1) (stv (treeL ks q) ++ [.string ⟨q.toArray⟩]) ∧ Fr [] w1 wx)
      case first =>
        clear hK0
        go_region_law (first
          | (have hq := OW; refine step_append_keep rfl _ _ (by rfl) w1.heap.size _ _ _ (by rfl) (own_frB OW.out ((Fr.refl [] _).alloc _) (by simp)) (.string ⟨q.toArray⟩) w2.heap.size 1 (by rfl) (by rw [Go.Joins.cell_of_block (heap_alloc_new w2 _)]; rfl) rfl (by have := HTL.out; omega) (by have := F2.size; simp; omega) ?_; intro v3 w3 own3 sl3 g3; have F3 : Fr [] w1 w3 := (F2.alloc _).grown g3 (fun j hj => .inr (own_ltS OW.out j hj).1); obtain ⟨vo3, vc3, rfl, -⟩ := own_outS own3)
          | (have hq := OW; refine step_append_keep rfl _ _ (by rfl) w1.heap.size _ _ _ (by rfl) OW.out (.string ⟨q.toArray⟩) w1.heap.size 1 (by rfl) HLIT.out rfl (by have := HTL.out; omega) F2.size ?_; intro v3 w3 own3 sl3 g3; have F3 : Fr [] w1 w3 := F2.grown g3 (fun j hj => .inr (own_ltS OW.out j hj).1); obtain ⟨vo3, vc3, rfl, -⟩ := own_outS own3)
          | (go_simp; go_at_call 111; refine (TR.out _ ((Fr.refl _ w1).drew)).mono ?_; rintro e w2 ⟨v, ks, rfl, hks, hkl, own2, FX⟩; have OW := Lib.hid own2; have F2 : Fr [] w1 w2 := ((Fr.refl _ w1).drew).trans0 FX; have HTL := Lib.hid (show (treeL ks q).length ≤ n from Nat.le_trans (List.length_filter_le _ _) hkl); have HKS := Lib.hid hks; obtain ⟨vo2, vc2, rfl, -⟩ := own_outS own2; have z1 := (F2.cell (World.block_lt_of_cell? _ _ x1) (by simp)).trans x1; have z1d : ∀ o : Obj, (w2.alloc o).cell? ⟨B1, 0, none⟩ = some (.string ⟨q.toArray⟩) := fun o => (((Fr.refl [] w2).alloc o).cell (World.block_lt_of_cell? _ _ z1) (by simp)).trans z1; clear own2 hks)
          | (go_simp; go_at_call 111; refine (TR.out _ (((Fr.refl _ w1).alloc (.cells #[.string ⟨q.toArray⟩] 9)).drew)).mono ?_; rintro e w2 ⟨v, ks, rfl, hks, hkl, own2, FX⟩; have OW := Lib.hid (own_mono own2 (show w1.heap.size ≤ _ by simp)); have F2 : Fr [] w1 w2 := (((Fr.refl _ w1).alloc (.cells #[.string ⟨q.toArray⟩] 9)).drew).trans0 FX; have HLIT := Lib.hid ((FX.cell (p := ⟨w1.heap.size, 0, none⟩) (by simp) (by simp)).trans (show (w1.alloc (.cells #[.string ⟨q.toArray⟩] 9)).drew.cell? ⟨w1.heap.size, 0, none⟩ = some (.string ⟨q.toArray⟩) by simp)); have HTL := Lib.hid (show (treeL ks q).length ≤ n from Nat.le_trans (List.length_filter_le _ _) hkl); have HKS := Lib.hid hks; obtain ⟨vo2, vc2, rfl, -⟩ := own_outS own2; have z1 := (F2.cell (World.block_lt_of_cell? _ _ x1) (by simp)).trans x1; clear own2 hks))
        all_goals
          go_simp
          try go_step
          go_meet
          case rel => exact ⟨_, _, _, _, _, rfl, rfl, by first | rfl | (simp), rfl, HKS, HTL, own3, F3⟩
      case rest =>
        rename World => w3
        obtain ⟨vo2, vc2, vo3, vc3, ks, rfl, rfl, rfl, rfl, HKS, HTL, own3, F3⟩ := hcut
        have hlens := HKS.out.lens HM.out
        obtain ⟨ps, hps⟩ : ∃ ps, treeL ks q ++ [q] = ps := ⟨_, rfl⟩
        obtain ⟨M, hM⟩ : ∃ M, (treeL ks q).length + 1 = M := ⟨_, rfl⟩
        have HPL := Lib.hid (show ∀ x ∈ ps, x.length ≤ 100000 from fun x hx => by
          rw [← hps] at hx
          rcases List.mem_append.1 hx with hx | hx
          · exact Nat.le_trans (hlens x (List.mem_filter.1 hx).1) (by omega)
          · simp at hx; rw [hx]; omega)
        have HDR := Lib.hid (show delsK K ps = dropK K q from by rw [← hps]; exact dels_drop HKS.out.mem q)
        have HPN := Lib.hid (show ps.length = M by rw [← hps, ← hM]; simp)
        have OW3 := Lib.hid (show w3.ownsRow w1.heap.size 9 1 (.slice vo3 M vc3) M (stv ps) by rw [← hps, stv_snoc, ← hM]; exact own3)
        have hMb : M ≤ 100001 := by have := HTL.out; omega
        rw [hM]
        have S3 := Lib.hid (S1.out.fr0 F3)
        have y0 := (F3.cell (World.block_lt_of_cell? _ _ x0) (by simp)).trans x0
        have hB0 : B0 ≠ b := S3.out.mp.nocell y0
        have FW3 := Lib.hid (FF.trans0 F3)
        clear hlens hps own3 hM F3 YA YB
        (refine hK0 _ _ ?_; clear hK0)
        go_wp2_with fail
        go_loopw [25] (fun iv wr => ∃ k : Nat, k ≤ M ∧ iv = .int .i64 (k : Int) ∧ (∃ KVx, SandIn wr lo p b fv cv n nc fl KVx (delsK K (ps.take k))) ∧ Fr [b] w3 wr) (fun i _ => M - (intOf i).toNat)
        case atStart => exact ⟨0, Nat.zero_le _, rfl, ⟨KV, S3.out⟩, Fr.refl _ _⟩
        case round =>
          obtain ⟨k, hk, rfl, ⟨KVx, hS⟩, F4⟩ := hrel
          have y1 := (F4.cell (World.block_lt_of_cell? _ _ y0) (show B0 ∉ [b] by simpa using hB0)).trans y0
          have HS := Lib.hid hS
          obtain ⟨d0, -, -⟩ := hS.cells
          by_cases hlt : k < M
          · obtain ⟨x, hx⟩ := some_get ps k (by rw [HPN.out]; exact hlt)
            have hxl := HPL.out x (List.mem_of_getElem? hx)
            have OW4 := own_frT OW3.out F4 (S3.out.mp.nobs _ _)
            obtain ⟨ao', cap', e', -, -, hcl⟩ := (Sl.of_own OW4).out
            rw [stv_len] at e' hcl
            obtain ⟨bb, oo, rfl, hbb, hcell⟩ := hcl k (by rw [HPN.out]; exact hlt)
            injection e' with e1 e2 e3
            subst e1
            have cw : wr.cell? ⟨bb, oo + k, none⟩ = some (.string ⟨x.toArray⟩) := (hcell k (by rw [HPN.out]; exact hlt)).trans (stv_get hx)
            have hltI : (k : Int) < (M : Int) := by omega
            have HX := Lib.hid (show delsK K (ps.take (k + 1)) = delK (delsK K (ps.take k)) x by rw [List.take_add_one, hx]; exact dels_snoc _ _ _)
            clear e2 e3 hcl hcell hx hS
            go_wp2_with (at_delete; refine wpList_sand_del rfl _ _ (by rfl) HS.out x hxl (by rfl) (by rfl) ?_; intro wD SD FD)
            go_roundw
            case rel => exact ⟨k + 1, by omega, by go_num, ⟨_, by rw [HX.out]; exact SD⟩, F4.trans FD (fun i hi => .inl hi)⟩
            case measure => simp [intOf]; omega
          · obtain rfl : k = M := by omega
            have HSD := Lib.hid (show SandIn wr lo p b fv cv n nc fl KVx (dropK K q) by rw [← HDR.out, ← List.take_of_length_le (Nat.le_of_eq HPN.out)]; exact hS)
            have hltI : ¬ (k : Int) < (k : Int) := by omega
            clear hS
            go_wp2_with fail
            go_ret
            exact ⟨rfl, ⟨_, HSD.out⟩, (FW3.out.mono (by simp)).trans F4 (fun i hi => .inl hi)⟩
/-- What Drop answers, its path looked at too. -/
def dropA (K : Tree) (q : List UInt8) : Int × Tree := if cleanL foldL q = true then drpK K q else (301, K)
set_option maxRecDepth 100000 in
set_option maxHeartbeats 2000000 in
theorem drop_any {w : World} {lo p n nc : Nat} {fl : Fl} {K : Tree} (h : SandAt w lo p n nc fl K) (hKM : MayK K) (hG : Gl w) (q : List UInt8) (hq : q.length ≤ 100000) (hn : n ≤ 100000) (hnc : nc ≤ 100000) (hl : fl.ok nc q ⟨#[]⟩) :
    Calls Tryz.prog 74 #[.pointer (some ⟨p, 0, none⟩), .string ⟨q.toArray⟩] w fun e w' => e = .returned (.int .i64 (dropA K q).1) ∧ SandAt w' lo p n (nc + 1) fl (dropA K q).2 ∧ Lo lo w w' := by
  obtain ⟨b, fv, cv, KV, h⟩ := h
  obtain ⟨wA, hwA⟩ : ∃ wA, wA = (w.alloc (.cells #[.pointer (some ⟨p, 0, none⟩)] 31)).alloc (.cells #[.string ⟨q.toArray⟩] 9) := ⟨_, rfl⟩
  have FA : Fr [] w wA := hwA ▸ ((Fr.refl _ _).alloc _).alloc _
  have m0 : wA.cell? ⟨w.heap.size, 0, none⟩ = some (.pointer (some ⟨p, 0, none⟩)) := by rw [hwA]; simp
  have m1 : wA.cell? ⟨w.heap.size + 1, 0, none⟩ = some (.string ⟨q.toArray⟩) := by rw [hwA]; simp
  have l0 : w.heap.size + 1 < wA.heap.size := by rw [hwA]; simp
  have hA := h.fr0 FA
  have hlo := Nat.le_trans h.lp (Nat.le_of_lt h.ltp)
  obtain ⟨xs, hca⟩ := h.ca
  have hcv : ∀ i ∈ (p :: cv.ownBlock.toList), lo ≤ i := fun i hi => by
    rcases List.mem_cons.1 hi with rfl | hi
    · exact h.lp
    · exact (own_ltS hca i (by simpa using hi)).1
  have hlb := h.lb
  unfold dropA
  cases hc : cleanL foldL q with
  | false =>
    have HB := Lib.hid (call_bad hA (hG.fr FA) 6 q hq ⟨#[]⟩ (.func (.func 110) #[] #[.pointer (some ⟨w.heap.size, 0, none⟩), .pointer (some ⟨w.heap.size + 1, 0, none⟩)]) hc hnc hl.2)
    rw [if_neg (by simp)]
    clear h hA hG hq hn hnc hl hc m0 m1 l0 hca
    go_enter Tryz.func74, Tryz.ntmps74
    go_wp2_with (go_at_call 109; rw [← hwA]; refine HB.out.mono ?_; rintro e w1 ⟨rfl, ⟨cv', hS⟩, F1⟩)
    go_ret
    exact ⟨rfl, ⟨_, _, _, _, hS⟩, (Lo.of0 FA).trans F1⟩
  | true =>
    rw [if_pos rfl]
    have hq2 := clean_len hc
    have HD := Lib.hid (call_do hA (hG.fr FA) 6 (by decide) q hq ⟨#[]⟩ 110 #[.pointer (some ⟨w.heap.size, 0, none⟩), .pointer (some ⟨w.heap.size + 1, 0, none⟩)] (enters_of Tryz.func110 (by kernel_rfl) rfl) hc hl hnc
      (fun c n' K' w2 => c = (drpK K q).1 ∧ K' = (drpK K q).2 ∧ n' = n ∧ Lo lo w w2)
      (fun wx F => (drop_body (hA.fr0 F) hKM q hq2 hn w.heap.size (w.heap.size + 1) ((F.cell (p := ⟨w.heap.size, 0, none⟩) (by show w.heap.size < _; omega) (by simp)).trans m0) ((F.cell (p := ⟨w.heap.size + 1, 0, none⟩) l0 (by simp)).trans m1)).mono (fun e w2 hh => by
        obtain ⟨KV', h1, h2, h3⟩ := hh
        exact ⟨_, b, n, KV', _, h1, h2, rfl, rfl, rfl, ((Lo.of0 FA).trans (Lo.of0 F)).trans (SandIn.lob (hA.fr0 F) h3)⟩)))
    generalize drpK K q = DK at *
    clear h hA hG hq hn hnc hl hc m0 m1 l0 hca
    go_enter Tryz.func74, Tryz.ntmps74
    go_wp2_with (go_at_call 109; rw [← hwA]; refine HD.out.mono ?_; rintro e w1 ⟨c, b', n', KV', K', w2, cv', ⟨rfl, rfl, rfl, hfr⟩, rfl, hS, F1⟩)
    go_ret
    exact ⟨rfl, ⟨_, _, _, _, hS⟩, hfr.trans F1⟩
end Go.Proofs.YthbkcjlpelihlaaGreatDoor
/- What a tree laid over a directory comes to: it may be; how much it holds. No condition. -/
namespace Go.Proofs.YthbkcjlpelihlaaGreatDoor

theorem up_within {q top : List UInt8} (hd : deepL q = true) (h : parentL q = top ∨ withinB (parentL q) top = true) : withinB q top = true := by
  unfold deepL at hd
  obtain ⟨i, hi⟩ := Option.isSome_iff_exists.1 hd
  obtain ⟨e1, e2, e3⟩ := parentL_len hi
  have q1 := (lastS_some hi).1
  rcases h with h | h
  · refine within_iff.2 ⟨?_, ?_⟩
    · rw [← h, e1, ← e3]
    · rw [← h, e1]; exact q1
  · obtain ⟨h1, h2⟩ := within_iff.1 h
    have hl : top.length < i := by
      have := (List.getElem?_eq_some_iff.1 h2).1
      omega
    rw [e3] at h1 h2
    rw [List.take_take, Nat.min_eq_left (by omega)] at h1
    rw [List.getElem?_take_of_lt hl] at h2
    exact within_iff.2 ⟨h1, h2⟩
theorem within_no {top : List UInt8} : withinB top top = false := by
  cases h : withinB top top with
  | false => rfl
  | true =>
    have := (within_iff.1 h).2
    have := (List.getElem?_eq_some_iff.1 this).1
    omega
theorem kind_of {K : Tree} {p : List UInt8} {t : Tv} (h : K p = some t) : kindK K p = t.kind := by unfold kindK; rw [h]; rfl
theorem may_drop {K : Tree} (hK : MayK K) (top : List UInt8) : MayK (dropK K top) := by
  intro q t h
  unfold dropK at h
  by_cases hq : q = top ∨ withinB q top = true
  · rw [if_pos hq] at h; cases h
  · rw [if_neg hq] at h
    obtain ⟨h1, h2, h3⟩ := hK q t h
    refine ⟨h1, h2, ?_⟩
    unfold liesK at h3 ⊢
    cases hd : deepL q with
    | false => rfl
    | true =>
      rw [hd] at h3
      have hn : ¬ (parentL q = top ∨ withinB (parentL q) top = true) := fun hh => hq (.inr (up_within hd hh))
      have e : kindK (dropK K top) (parentL q) = kindK K (parentL q) := by
        unfold kindK dropK
        rw [if_neg hn]
      rw [e]
      exact h3
theorem may_upd {N : Tree} (hN : MayK N) {p : List UInt8} {t : Tv} (hc : cleanL foldL p = true) (ht : tvMay t = true) (hl : liesK N p = true) (hk : ∀ u, N p = some u → u.kind = t.kind) : MayK (updK N p t) := by
  have hlies : ∀ q, liesK N q = true → liesK (updK N p t) q = true := by
    intro q h
    unfold liesK at h ⊢
    cases hd : deepL q with
    | false => rfl
    | true =>
      rw [hd] at h
      have h' : kindK N (parentL q) = 1 := by simpa using h
      by_cases hp : parentL q = p
      · obtain ⟨u, hu, hu1⟩ := kindK_some h' (by decide)
        have : kindK (updK N p t) (parentL q) = t.kind := kind_of (by unfold updK; rw [if_pos hp])
        rw [hp] at hu
        rw [this, ← hk u hu, hu1]
        rfl
      · have : kindK (updK N p t) (parentL q) = kindK N (parentL q) := by unfold kindK updK; rw [if_neg hp]
        rw [this, h']
        rfl
  intro q u h
  unfold updK at h
  by_cases hq : q = p
  · rw [if_pos hq] at h
    injection h with h
    subst h
    subst hq
    exact ⟨hc, ht, hlies q hl⟩
  · rw [if_neg hq] at h
    obtain ⟨h1, h2, h3⟩ := hN q u h
    exact ⟨h1, h2, hlies q h3⟩
/-- What a step of laying does, where it does something. -/
theorem step_out {K : Tree} {fr to_ : List UInt8} {N N' : Tree} {p : List UInt8} (h : layStep K fr to_ N p = some N') :
    ∃ t, K p = some t ∧ cleanL foldL (placeL fr to_ p) = true ∧ (∀ u, N (placeL fr to_ p) = some u → u.kind = t.kind) ∧ (t.kind = 3 → N (placeL fr to_ p) = none) ∧ liesK N (placeL fr to_ p) = true ∧ (N' = updK N (placeL fr to_ p) t ∨ (N' = N ∧ (N (placeL fr to_ p)).isSome = true ∧ t.kind = 1)) := by
  unfold layStep at h
  cases hK : K p with
  | none => rw [hK] at h; cases h
  | some t =>
    rw [hK] at h
    dsimp only at h
    cases hb : layBad N t (placeL fr to_ p) with
    | true => rw [hb] at h; cases h
    | false =>
      rw [hb] at h
      unfold layBad at hb
      simp only [Bool.or_eq_false_iff] at hb
      obtain ⟨⟨⟨b1, b2⟩, b3⟩, b4⟩ := hb
      refine ⟨t, rfl, by simpa using b1, fun u hu => ?_, fun h3 => ?_, by simpa using b4, ?_⟩
      · rw [hu, kind_of hu] at b2
        simpa using b2
      · rw [h3] at b3
        cases hn : N (placeL fr to_ p) with
        | none => rfl
        | some u => rw [hn] at b3; simp at b3
      · simp only [Bool.false_eq_true, if_false] at h
        split at h
        · exact .inl (by injection h with h; exact h.symm)
        · rename_i hh
          simp at hh
          refine .inr ⟨by injection h with h; exact h.symm, ?_, hh.1⟩
          cases hn : N (placeL fr to_ p) with
          | none => rw [hn] at hh; simp at hh
          | some u => rfl
theorem may_go {K : Tree} (hK : MayK K) (fr to_ : List UInt8) : ∀ (ps : List (List UInt8)) (N N' : Tree), MayK N → layGo K fr to_ ps N = some N' → MayK N'
  | [], N, N', hN, h => by injection h with h; exact h ▸ hN
  | p :: r, N, N', hN, h => by
    have h' : (match layStep K fr to_ N p with | none => none | some M => layGo K fr to_ r M) = some N' := h
    cases hs : layStep K fr to_ N p with
    | none => rw [hs] at h'; cases h'
    | some M =>
      rw [hs] at h'
      obtain ⟨t, k1, k2, k3, k4, k5, k6⟩ := step_out hs
      refine may_go hK fr to_ r M N' ?_ h'
      rcases k6 with rfl | ⟨rfl, -⟩
      · exact may_upd hN k2 (hK p t k1).2.1 k5 k3
      · exact hN
theorem may_lay {K : Tree} (hK : MayK K) {fr to_ : List UInt8} {ks : List (List UInt8)} {N : Tree} (h : layK K fr to_ ks = some N) : MayK N := by
  unfold layK at h
  split at h
  · cases h
  · exact may_go hK fr to_ _ _ _ (may_drop hK fr) h
/-- How long files are. -/
def DatK (K : Tree) (D : Nat) : Prop := ∀ p t, K p = some t → t.data.length ≤ D ∧ t.ln.length ≤ D
theorem DatK.drop {K : Tree} {D : Nat} (h : DatK K D) (top : List UInt8) : DatK (dropK K top) D := by
  intro p t e
  unfold dropK at e
  split at e
  · cases e
  · exact h p t e
theorem DatK.upd {N : Tree} {D : Nat} (h : DatK N D) (p : List UInt8) {t : Tv} (ht : t.data.length ≤ D ∧ t.ln.length ≤ D) : DatK (updK N p t) D := by
  intro q u e
  unfold updK at e
  split at e
  · injection e with e
    exact e ▸ ht
  · exact h q u e
theorem dat_go {K : Tree} {D : Nat} (hK : DatK K D) (fr to_ : List UInt8) : ∀ (ps : List (List UInt8)) (N N' : Tree), DatK N D → layGo K fr to_ ps N = some N' → DatK N' D
  | [], N, N', hN, h => by injection h with h; exact h ▸ hN
  | p :: r, N, N', hN, h => by
    have h' : (match layStep K fr to_ N p with | none => none | some M => layGo K fr to_ r M) = some N' := h
    cases hs : layStep K fr to_ N p with
    | none => rw [hs] at h'; cases h'
    | some M =>
      rw [hs] at h'
      obtain ⟨t, k1, -, -, -, -, k6⟩ := step_out hs
      refine dat_go hK fr to_ r M N' ?_ h'
      rcases k6 with rfl | ⟨rfl, -⟩
      · exact hN.upd _ (hK p t k1)
      · exact hN
theorem DatK.lay {K : Tree} {D : Nat} (hK : DatK K D) {fr to_ : List UInt8} {ks : List (List UInt8)} {N : Tree} (h : layK K fr to_ ks = some N) : DatK N D := by
  unfold layK at h
  split at h
  · cases h
  · exact dat_go hK fr to_ _ _ _ (hK.drop fr) h
/-- A list that holds each path. -/
def In (K : Tree) (l : List (List UInt8)) : Prop := ∀ p, (K p).isSome = true → p ∈ l
theorem in_go {K : Tree} (fr to_ : List UInt8) : ∀ (ps : List (List UInt8)) (N N' : Tree) (l : List (List UInt8)), In N l → layGo K fr to_ ps N = some N' → In N' (l ++ ps.map (placeL fr to_))
  | [], N, N', l, hN, h => by
    injection h with h
    rw [List.map_nil, List.append_nil]
    exact h ▸ hN
  | p :: r, N, N', l, hN, h => by
    have h' : (match layStep K fr to_ N p with | none => none | some M => layGo K fr to_ r M) = some N' := h
    cases hs : layStep K fr to_ N p with
    | none => rw [hs] at h'; cases h'
    | some M =>
      rw [hs] at h'
      obtain ⟨t, k1, -, -, -, -, k6⟩ := step_out hs
      have hM : In M (l ++ [placeL fr to_ p]) := by
        intro q hq
        rcases k6 with rfl | ⟨rfl, -⟩
        · unfold updK at hq
          split at hq
          · rename_i e; simp [e]
          · exact List.mem_append_left _ (hN q hq)
        · exact List.mem_append_left _ (hN q hq)
      have := in_go fr to_ r M N' _ hM h'
      rw [List.append_assoc] at this
      exact this
theorem filter_two {α : Type} (f g : α → Bool) (h : ∀ x, f x = true → g x = false) : ∀ l : List α, (l.filter f).length + (l.filter g).length ≤ l.length
  | [] => by simp
  | a :: r => by
    have ih := filter_two f g h r
    by_cases h1 : f a = true
    · rw [List.filter_cons, if_pos h1, List.filter_cons, if_neg (by rw [h a h1]; simp)]
      simp only [List.length_cons]
      omega
    · rw [List.filter_cons, if_neg h1, List.filter_cons]
      split <;> simp only [List.length_cons] <;> omega
theorem lay_in {K : Tree} {fr to_ : List UInt8} {ks : List (List UInt8)} (hm : ∀ p, p ∈ ks ↔ (K p).isSome = true) {N : Tree} (h : layK K fr to_ ks = some N) : ∃ l, In N l ∧ l.length ≤ ks.length := by
  unfold layK at h
  split at h
  · cases h
  · refine ⟨_, in_go fr to_ _ _ _ (ks.filter fun p => !withinB p fr) ?_ h, ?_⟩
    · intro q hq
      unfold dropK at hq
      split at hq
      · cases hq
      · rename_i hn
        refine List.mem_filter.2 ⟨(hm q).2 hq, ?_⟩
        cases hw : withinB q fr with
        | false => rfl
        | true => exact absurd (.inr hw) hn
    · rw [List.length_append, List.length_map]
      exact filter_two _ _ (fun x hx => by cases hw : withinB x fr <;> simp_all) ks
/-- A place lies in the tree that is laid over. -/
theorem place_within {fr to_ p : List UInt8} (h : withinB p fr = true) : withinB (placeL fr to_ p) to_ = true := by
  obtain ⟨h1, h2⟩ := within_iff.1 h
  have hl : fr.length < p.length := (List.getElem?_eq_some_iff.1 h2).1
  refine within_iff.2 ⟨by unfold placeL; simp, ?_⟩
  unfold placeL
  rw [List.getElem?_append_right (Nat.le_refl _), Nat.sub_self, List.getElem?_drop, Nat.add_zero]
  exact h2
/-- Outside of both trees all is as it was. -/
theorem go_out {K : Tree} (fr to_ q : List UInt8) (hq : withinB q to_ = false) : ∀ (ps : List (List UInt8)) (N N' : Tree), (∀ p ∈ ps, withinB p fr = true) → layGo K fr to_ ps N = some N' → N' q = N q
  | [], N, N', _, h => by injection h with h; rw [h]
  | p :: r, N, N', hp, h => by
    have h' : (match layStep K fr to_ N p with | none => none | some M => layGo K fr to_ r M) = some N' := h
    cases hs : layStep K fr to_ N p with
    | none => rw [hs] at h'; cases h'
    | some M =>
      rw [hs] at h'
      obtain ⟨t, k1, -, -, -, -, k6⟩ := step_out hs
      rw [go_out fr to_ q hq r M N' (fun x hx => hp x (by simp [hx])) h']
      rcases k6 with rfl | ⟨rfl, -⟩
      · unfold updK
        rw [if_neg]
        intro e
        rw [e, place_within (hp p (by simp))] at hq
        cases hq
      · rfl
theorem lay_out {K : Tree} {fr to_ : List UInt8} {ks : List (List UInt8)} {N : Tree} (h : layK K fr to_ ks = some N) (q : List UInt8) (h1 : q ≠ fr) (h2 : withinB q fr = false) (h3 : withinB q to_ = false) : N q = K q := by
  unfold layK at h
  split at h
  · cases h
  · rw [go_out fr to_ q h3 _ _ _ (fun p hp => (List.mem_filter.1 hp).2) h]
    unfold dropK
    rw [if_neg]
    rintro (h | h)
    · exact h1 h
    · rw [h2] at h; cases h
/-- All links are in the list. -/
def LinkIn (N : Tree) (l : List (List UInt8)) : Prop := ∀ p, kindK N p = 3 → p ∈ l
def linksK (K : Tree) (ks : List (List UInt8)) : List (List UInt8) := ks.filter fun p => decide (kindK K p = 3)
theorem LinkIn.upd {N : Tree} {l : List (List UInt8)} (h : LinkIn N l) (p : List UInt8) (t : Tv) (ht : t.kind ≠ 3) : LinkIn (updK N p t) l := by
  intro q hq
  apply h
  unfold kindK updK at hq
  unfold kindK
  split at hq
  · exact absurd hq ht
  · exact hq
theorem LinkIn.drop {N : Tree} {l : List (List UInt8)} (h : LinkIn N l) (top : List UInt8) : LinkIn (dropK N top) l := by
  intro q hq
  apply h
  unfold kindK dropK at hq
  unfold kindK
  split at hq
  · exact absurd hq (by decide)
  · exact hq
theorem link_go {K : Tree} (fr to_ : List UInt8) : ∀ (ps : List (List UInt8)) (N N' : Tree) (l : List (List UInt8)), LinkIn N l → layGo K fr to_ ps N = some N' → LinkIn N' (l ++ (linksK K ps).map (placeL fr to_))
  | [], N, N', l, hN, h => by
    injection h with h
    show LinkIn N' (l ++ [])
    rw [List.append_nil]
    exact h ▸ hN
  | p :: r, N, N', l, hN, h => by
    have h' : (match layStep K fr to_ N p with | none => none | some M => layGo K fr to_ r M) = some N' := h
    cases hs : layStep K fr to_ N p with
    | none => rw [hs] at h'; cases h'
    | some M =>
      rw [hs] at h'
      obtain ⟨t, k1, -, -, -, -, k6⟩ := step_out hs
      have kk : kindK K p = t.kind := kind_of k1
      by_cases h3 : t.kind = 3
      · have e : linksK K (p :: r) = p :: linksK K r := by
          unfold linksK
          rw [List.filter_cons, if_pos (by rw [kk, h3]; rfl)]
        rw [e, List.map_cons]
        have hM : LinkIn M (l ++ [placeL fr to_ p]) := by
          intro q hq
          rcases k6 with rfl | ⟨rfl, -⟩
          · by_cases e : q = placeL fr to_ p
            · simp [e]
            · refine List.mem_append_left _ (hN q ?_)
              unfold kindK updK at hq
              rw [if_neg e] at hq
              exact hq
          · exact List.mem_append_left _ (hN q hq)
        have := link_go fr to_ r M N' _ hM h'
        rw [List.append_assoc] at this
        exact this
      · have e : linksK K (p :: r) = linksK K r := by
          unfold linksK
          rw [List.filter_cons, if_neg (by rw [kk]; simpa using h3)]
        rw [e]
        refine link_go fr to_ r M N' l ?_ h'
        rcases k6 with rfl | ⟨rfl, -⟩
        · exact hN.upd _ _ h3
        · exact hN
/-- No link is made. -/
theorem lay_links {K : Tree} {fr to_ : List UInt8} {ks : List (List UInt8)} (hm : ∀ p, p ∈ ks ↔ (K p).isSome = true) {N : Tree} (h : layK K fr to_ ks = some N) : ∃ l, LinkIn N l ∧ l.length ≤ (linksK K ks).length := by
  unfold layK at h
  split at h
  · cases h
  · refine ⟨_, link_go fr to_ _ _ _ ((linksK K ks).filter fun p => !withinB p fr) ?_ h, ?_⟩
    · intro q hq
      obtain ⟨t, ht, h3⟩ := kindK_some hq (by decide)
      unfold dropK at ht
      split at ht
      · cases ht
      · rename_i hn
        refine List.mem_filter.2 ⟨List.mem_filter.2 ⟨(hm q).2 (by rw [ht]; rfl), by rw [kind_of ht, h3]; rfl⟩, ?_⟩
        cases hw : withinB q fr with
        | false => rfl
        | true => exact absurd (.inr hw) hn
    · rw [List.length_append, List.length_map]
      have e : linksK K (treeL ks fr) = (linksK K ks).filter fun p => withinB p fr := by
        unfold linksK treeL
        rw [List.filter_filter, List.filter_filter]
        exact List.filter_congr fun x _ => Bool.and_comm _ _
      rw [e]
      exact filter_two _ _ (fun x hx => by cases hw : withinB x fr <;> simp_all) _
theorem link_count {N : Tree} {l ks : List (List UInt8)} (h : LinkIn N l) (hn : ks.Nodup) : (linksK N ks).length ≤ l.length := by
  refine nodup_le (hn.sublist List.filter_sublist) fun p hp => ?_
  have := (List.mem_filter.1 hp).2
  exact h p (by simpa using this)
where
  nodup_le : ∀ {a b : List (List UInt8)}, a.Nodup → (∀ p ∈ a, p ∈ b) → a.length ≤ b.length
  | [], b, _, _ => by simp
  | x :: r, b, ha, hb => by
    rw [List.nodup_cons] at ha
    have hx := hb x (by simp)
    have := nodup_le (a := r) (b := b.erase x) ha.2 (fun p hp => (List.mem_erase_of_ne (fun e : p = x => ha.1 (by rw [← e]; exact hp))).2 (hb p (by simp [hp])))
    rw [List.length_erase_of_mem hx] at this
    have h0 : 0 < b.length := List.length_pos_of_mem hx
    simp only [List.length_cons]
    omega
end Go.Proofs.YthbkcjlpelihlaaGreatDoor
