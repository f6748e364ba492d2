/- Contract: New of things that may be. No condition but that lengths fit. -/
import Derived.Test.YthbkcjlpelihlaaGreatDoorYStateM
import Derived.Maps.RangeWalk
import Derived.Carry
import Derived.Deep.RegionHeld3
import Derived.Test.YthbkcjlpelihlaaGreatDoorGAO
namespace Go.Proofs.YthbkcjlpelihlaaGreatDoor
open Go.RowKit Go.Maps Go.Sort Go.Shelf

theorem info_bo : (Tryz.prog.info? 4).map (fun i => (i.zero, i.size, i.bytes)) = some (some (.bool false), 1, 1) := by kernel_rfl
theorem sty_bo : SlTy Tryz.prog 23 4 (.bool false) 1 := ⟨Tryz.underlying23, by obtain ⟨i, h⟩ := info_parts info_bo; exact ⟨i, h⟩, rfl⟩
theorem fclone_any (w : World) (ao : Option Addr) (c : Nat) (l : List Bool) (h : Sl w (.slice ao l.length c) (tv l)) (hl : l.length ≤ 140737488355328) : Calls Tryz.prog 34 #[.slice ao l.length c] w fun e w' => ∃ r, e = .returned r ∧ w'.ownsRow w.heap.size 4 1 r l.length (tv l) ∧ Fr [] w w' := by
  cases ao with
  | none =>
    obtain ⟨ao', cap', e, h1, h2, h3, h4⟩ := h
    rw [tv_length] at e h1
    injection e with e1 e2 e3
    have hc := h3 e1.symm
    have : l = [] := List.eq_nil_of_length_eq_zero (by omega)
    subst this
    refine (Tryz.slices_Clone_nil _ _ w).mono ?_
    rintro e w' ⟨rfl, rfl⟩
    exact ⟨_, rfl, World.ownsRow_nil _ _ _ _, Fr.refl _ _⟩
  | some a =>
    have HS := Lib.hid h
    obtain ⟨LN, hLN⟩ : ∃ LN, l.length = LN := ⟨_, rfl⟩
    have HLN := Lib.hid hLN
    have HL := Lib.hid (show (tv l).length ≤ 140737488355328 by rw [tv_length]; exact hl)
    rw [hLN] at HS ⊢
    have hq := fun (w : World) (a : Option Addr) (n c n' c' : Nat) => Lib.run_eql_slice_nil (P := Tryz.prog) w 23 4 a n c n' c' Tryz.underlying23
    clear h hLN hl
    go_enter Tryz.func34, Tryz.ntmps34
    go_wp2_with (at_builtin; refine wpList_append_new sty_bo rfl _ _ (by rfl) (by rfl) _ (tv l) (by rfl) HS.out (fun u hu => by obtain ⟨x, -, rfl⟩ := List.mem_map.1 hu; rfl) (by have := HL.out; omega) (by have := HL.out; omega) ?_; intro v1 w1 own1 F1)
    go_ret
    refine ⟨_, rfl, ?_, F1⟩
    rw [tv_length, HLN.out] at own1
    exact own1
/-- One thing more. -/
theorem lookL_take {L : List Th} (hn : (L.map (·.path)).Nodup) {k : Nat} {t : Th} (h : L[k]? = some t) : lookL (L.take (k + 1)) = updK (lookL (L.take k)) t.path t.tv ∧ lookL (L.take k) t.path = none := by
  have hno : lookL (L.take k) t.path = none := by
    cases hh : lookL (L.take k) t.path with
    | none => rfl
    | some u =>
      have h1 : (lookL (L.take k) t.path).isSome = true := by rw [hh]; rfl
      rw [look_mem] at h1
      obtain ⟨s, hs, hp⟩ := List.mem_map.1 h1
      obtain ⟨j, hj⟩ := List.getElem?_of_mem hs
      have hjk : j < k := by have := (List.getElem?_eq_some_iff.1 hj).1; rw [List.length_take] at this; omega
      rw [List.getElem?_take_of_lt hjk] at hj
      have e1 : (L.map (·.path))[j]? = some t.path := by rw [List.getElem?_map, hj]; exact congrArg some hp
      have e2 : (L.map (·.path))[k]? = some t.path := by rw [List.getElem?_map, h]; rfl
      have := List.getElem_inj (i := j) (j := k) (h₀ := (List.getElem?_eq_some_iff.1 e1).1) (h₁ := (List.getElem?_eq_some_iff.1 e2).1) hn
      rw [(List.getElem?_eq_some_iff.1 e1).2, (List.getElem?_eq_some_iff.1 e2).2] at this
      have := this.1 rfl
      omega
  refine ⟨?_, hno⟩
  funext q
  unfold updK
  rw [List.take_add_one, h]
  show lookL (L.take k ++ [t]) q = _
  unfold lookL
  rw [List.find?_append]
  by_cases hq : q = t.path
  · subst hq
    rw [if_pos rfl]
    unfold lookL at hno
    rw [Option.map_eq_none_iff] at hno
    rw [hno]
    simp
  · rw [if_neg hq]
    cases (L.take k).find? (fun s => s.path == q) with
    | some s => simp
    | none =>
      have : (t.path == q) = false := by simpa using fun e => hq e.symm
      simp [this]
set_option maxRecDepth 100000 in
set_option maxHeartbeats 4000000 in
theorem ynew_any2 {w : World} {hi : Nat} {v : Value} {L : List Th} (h : ThAt w hi v L) (hM : MayT L) (hL : L.length ≤ 100000) {D : Nat} (hD : DatK (lookL L) D) (hDl : D ≤ 1000000) (hG : Gl w) (fo : Option Addr) (fc : Nat) (fl : Fl) (hf : Sl w (.slice fo fl.l.length fc) (tv fl.l)) (hfl : fl.l.length ≤ 140737488355328) :
    Calls Tryz.prog 14 #[v, .slice fo fl.l.length fc] w fun e w' => ∃ p, e = .returned (.tuple #[.pointer (some ⟨p, 0, none⟩), .int .i64 0]) ∧ SandAt w' w.heap.size p L.length 0 fl (lookL L) ∧ Fr [] w w' := by
  obtain ⟨ao, cap, rfl, -, -⟩ := h.out
  have HT := Lib.hid h
  have HMT := Lib.hid hM
  have HL := Lib.hid hL
  have HD := Lib.hid hD
  have HDl := Lib.hid hDl
  have HG := Lib.hid hG
  have hFC := fun wx (F : Fr [] w wx) => fclone_any wx fo fc fl.l (hf.fr0 F) hfl
  have hnot : ∀ (x : Bool) (w : World), (Op.unary .not (.bool x)).run Tryz.prog w = .ok (.bool (!x)) w := fun _ _ => rfl
  obtain ⟨N, hN⟩ : ∃ N, L.length = N := ⟨_, rfl⟩
  obtain ⟨FN, hFN⟩ : ∃ FN, fl.l.length = FN := ⟨_, rfl⟩
  have HN := Lib.hid hN
  have HFN := Lib.hid hFN
  rw [hFN] at hFC ⊢
  rw [hN] at HT ⊢
  have HFC := Lib.hid hFC
  clear h hM hL hD hDl hG hf hFC hfl hN hFN
  have hmm := @run_makeMap Tryz.prog
  go_enter Tryz.func14, Tryz.ntmps14
  go_upto_region 2 with (go_at_call 34; refine (HFC.out _ ((Fr.refl _ w).alloc _)).mono ?_; rintro e w1 ⟨r, rfl, ownf, F1⟩; obtain ⟨ro, rc, rfl, -⟩ := own_outS ownf)
  obtain ⟨w2, hw2⟩ : ∃ w2, w2 = w1.alloc (.cells #[.map (some w.heap.size), .slice ro FN rc, .slice none 0 0] 82) := ⟨_, rfl⟩
  have F2 : Fr [] w1 w2 := hw2 ▸ (Fr.refl _ _).alloc _
  have F01 : Fr [] w w1 := ((Fr.refl _ w).alloc _).trans0 F1
  have S2 := Lib.hid (show SandIn w2 w.heap.size w1.heap.size w.heap.size (.slice ro FN rc) (.slice none 0 0) 0 0 fl (fun _ => none) (lookL (L.take 0)) from
    ⟨by rw [hw2]; exact heap_alloc_new w1 _, ((MTh.made w).fr F1 (by simp)).fr F2 (by simp), ⟨fun q => by simp [lookL], fun q v t h => by cases h⟩, by rw [HFN.out]; exact own_frB (own_mono ownf (by simp)) F2 (by simp), ⟨[], World.ownsRow_nil _ _ _ _, CallsR.nil⟩, F01.size, Nat.le_refl _⟩)
  have FW2 := Lib.hid (F01.trans0 F2)
  rw [← hw2]
  clear hw2 ownf F1 F2 F01 hmm
  generalize w1.heap.size = p at *
  go_wp2_with fail
  go_loopw [19] (fun iv wr => ∃ k : Nat, k ≤ N ∧ iv = .int .i64 (k : Int) ∧ (∃ KV, SandIn wr w.heap.size p w.heap.size (.slice ro FN rc) (.slice none 0 0) k 0 fl KV (lookL (L.take k))) ∧ Fr [] w wr) (fun i _ => N - (intOf i).toNat)
  case atStart => exact ⟨0, Nat.zero_le _, rfl, ⟨_, S2.out⟩, FW2.out⟩
  case round =>
    obtain ⟨k, hk, rfl, ⟨KV, hS⟩, F1⟩ := hrel
    have hNb : N ≤ 100000 := by have := HL.out; rw [HN.out] at this; exact this
    by_cases hlt : k < N
    · obtain ⟨t, hx⟩ := some_get L k (by rw [HN.out]; exact hlt)
      obtain ⟨b, o, da, dc, rfl, hb, -, c0, c1, c2, c3, hsl, -⟩ := (HT.out.fr0 F1).get hx
      have hltI : (k : Int) < (N : Int) := by omega
      have HLT := Lib.hid (lookL_take HMT.out.1 hx)
      have hlook := look_at HMT.out.1 hx
      have HMY := Lib.hid (HMT.out.2 _ _ hlook)
      have hdl := (HD.out _ _ hlook).1
      have hpl := clean_len HMY.out.1
      have HS := Lib.hid hS
      obtain ⟨s0, -, -⟩ := hS.cells
      obtain ⟨q, tv⟩ := t
      obtain ⟨kd, dl, ln⟩ := tv
      dsimp only at c0 c1 c2 c3 hsl hdl hpl
      have HXX := Lib.hid hlook
      obtain ⟨wb, hwb⟩ : ∃ wb, wb = wr.alloc (.cells #[.string ⟨q.toArray⟩, .int .i64 kd, .slice da dl.length dc, .string ⟨ln.toArray⟩] 49) := ⟨_, rfl⟩
      have Fb : Fr [] wr wb := hwb ▸ (Fr.refl _ _).alloc _
      have gb : wb.heap[wr.heap.size]? = some (.cells #[.string ⟨q.toArray⟩, .int .i64 kd, .slice da dl.length dc, .string ⟨ln.toArray⟩] 49 (0, 0)) := by rw [hwb]; exact heap_alloc_new wr _
      have lb : wr.heap.size < wb.heap.size := (Array.getElem?_eq_some_iff.1 gb).1
      have HSb := Lib.hid (HS.out.fr0 Fb)
      obtain ⟨ko, ao2, dn, cap2, sv, hrun0, -⟩ := HSb.out.looks q (by omega)
      rw [show (lookL (L.take k) q).isSome = false by rw [HLT.out.2]; rfl] at hrun0
      have FDz : Fr [] wb (wb.alloc (.cells #[.int .i64 0, .slice none 0 0, .string ⟨#[]⟩] 80)).drew := ((Fr.refl _ wb).alloc _).drew
      have hrun1 := hrun0 _ FDz
      have hrun2 := hrun0 _ ((Fr.refl _ wb).drew)
      have FF : Fr [] wb (wb.alloc (.cells #[.int .i64 ko, .slice ao2 dn cap2, .string sv] 80)).drew := ((Fr.refl _ wb).alloc _).drew
      have hbw : w.heap.size < wr.heap.size := HS.out.mp.lt
      have hpw : p ≠ w.heap.size := HS.out.ne
      have cellB : ∀ wx, Fr [w.heap.size] wb wx → wx.cell? ⟨wr.heap.size, 0, none⟩ = some (.string ⟨q.toArray⟩) ∧ wx.cell? ⟨wr.heap.size, 1, none⟩ = some (.int .i64 kd) ∧ wx.cell? ⟨wr.heap.size, 2, none⟩ = some (.slice da dl.length dc) ∧ wx.cell? ⟨wr.heap.size, 3, none⟩ = some (.string ⟨ln.toArray⟩) ∧ wx.cell? ⟨p, 0, none⟩ = some (.map (some w.heap.size)) := fun wx F => by
        have g := (F.block _ lb (by simp; omega)).trans gb
        have gp := (F.block _ HSb.out.ltp (by simpa using hpw)).trans HSb.out.blk
        refine ⟨?_, ?_, ?_, ?_, ?_⟩
        · rw [Go.Joins.cell_of_block g]; rfl
        · rw [Go.Joins.cell_of_block g]; rfl
        · rw [Go.Joins.cell_of_block g]; rfl
        · rw [Go.Joins.cell_of_block g]; rfl
        · rw [Go.Joins.cell_of_block gp]; rfl
      obtain ⟨b0, b1, b2, b3, bp⟩ := cellB wb (Fr.refl _ _)
      have n0 : ∀ o : Obj, (wb.alloc o).cell? ⟨wr.heap.size, 0, none⟩ = some (.string ⟨q.toArray⟩) := fun o => (cellB _ ((Fr.refl _ _).alloc o)).1
      have np : ∀ o : Obj, (wb.alloc o).cell? ⟨p, 0, none⟩ = some (.map (some w.heap.size)) := fun o => (cellB _ ((Fr.refl _ _).alloc o)).2.2.2.2
      have HCB := Lib.hid cellB
      have HSM := Lib.hid (fun wx (F : Fr [] wb wx) => smay_any wx q ⟨kd, dl, ln⟩ da dc (HG.out.fr ((F1.trans0 Fb).trans0 F)) (by omega))
      have HCL := Lib.hid (fun wx (F : Fr [] wb wx) => ybclone_any wx da dc dl (hsl.fr0 (Fb.trans0 F)) (by have := HDl.out; omega))
      have HB := Lib.hid (show thMay q ⟨kd, dl, ln⟩ = true by unfold thMay; rw [HMY.out.1, HMY.out.2.1]; rfl)
      rw [HB.out] at HSM
      have hlt0 : wr.heap.size ≠ p := by have := HS.out.ltp; omega
      clear hlook hx cellB hrun0 hS hdl
      go_upto_region 5 with fail
      rw [← hwb]
      clear hwb c0 c1 c2 c3 s0
      rename_i K5 hK5
      go_cut [9, 10, 23, 24, 25, 26, 27, 28, 29, 30, 31, 32] (fun v9 v10 v23 v24 v25 v26 v27 v28 v29 v30 v31 v32 wx => v10 = .bool false ∧ Fr [] wb wx)
      case first =>
        clear hK5
        go_region
        all_goals
          go_simp
          try go_step
          go_meet
          case rel => exact ⟨rfl, FF⟩
      case rest =>
        rename World => w3
        obtain ⟨rfl, F3⟩ := hcut
        (refine hK5 _ _ ?_; clear hK5)
        clear FF FDz hrun1 hrun2 n0 np b0 b1 b2 b3 bp
        obtain ⟨b0, b1, b2, b3, bp⟩ := HCB.out w3 (F3.mono (by simp))
        have hnt : (false = true) = False := by simp
        go_upto_region 8 with (go_at_call 35; refine (HSM.out w3 F3).mono ?_; rintro e w4 ⟨rfl, FX⟩; have F4 : Fr [] wb w4 := F3.trans0 FX; clear b0 b1 b2 b3 bp; obtain ⟨b0, b1, b2, b3, bp⟩ := HCB.out w4 (F4.mono (by simp)))
        go_region_held3 (fun wx => wx.cell? ⟨wr.heap.size, 0, none⟩ = some (.string ⟨q.toArray⟩) ∧ wx.cell? ⟨wr.heap.size, 1, none⟩ = some (.int .i64 kd) ∧ wx.cell? ⟨wr.heap.size, 2, none⟩ = some (.slice da dl.length dc) ∧ wx.cell? ⟨wr.heap.size, 3, none⟩ = some (.string ⟨ln.toArray⟩) ∧ wx.cell? ⟨p, 0, none⟩ = some (.map (some w.heap.size)))
          (first | exact HCB.out _ (F4.mono (by simp)) | exact HCB.out _ (F4.drew.mono (by simp)) | exact HCB.out _ (F5.mono (by simp)) | exact HCB.out _ F56 | go_keep)
          (first
          | (go_at_call 33; refine (HCL.out _ (F4.drew)).mono ?_; rintro e w5 ⟨r5, rfl, own5, FX5⟩; have F5 : Fr [] wb w5 := F4.drew.trans0 FX5; obtain ⟨ro5, rc5, rfl, -⟩ := own_outS own5; obtain ⟨d0, d1, d2, d3, dp⟩ := HCB.out w5 (F5.mono (by simp)); have S5 := Lib.hid (HSb.out.fr0 F5); obtain ⟨w6, hupd, hM6, hg6⟩ := S5.out.mp.put (by omega) q (by omega) (.agg #[.int .i64 kd, .slice ro5 dl.length rc5, .string ⟨ln.toArray⟩]); have OW5 := Lib.hid (own_mono own5 (Nat.le_trans S5.out.lp (Nat.le_of_lt (Nat.lt_of_lt_of_le HSb.out.ltp F4.size)))); have S6 := Lib.hid (S5.out.turn (fr_turned hg6) hM6 (S5.out.rd.put q (t := ⟨kd, dl, ln⟩) ⟨_, rfl, OW5.out⟩)); have F6 := Lib.hid (fr_turned hg6); have F56 : Fr [w.heap.size] wb w6 := (F5.mono (by simp)).trans F6.out (fun i hi => .inl hi); clear own5 hM6 hg6))
        all_goals
          go_wp2_with fail
          go_roundw
          case rel => exact ⟨k + 1, by omega, by go_num, ⟨_, by rw [HLT.out.1]; exact S6.out⟩, ((F1.trans0 Fb).trans0 F5).trans1 F6.out (.inr (Nat.le_refl _))⟩
          case measure => simp [intOf]; omega
    · obtain rfl : k = N := by omega
      rw [List.take_of_length_le (Nat.le_of_eq HN.out)] at hS
      have hltI : ¬ (k : Int) < (k : Int) := by omega
      obtain ⟨D0, hown, hsay⟩ := hS.mp
      have HSY := Lib.hid hsay
      have HS := Lib.hid hS
      have HF1 := Lib.hid F1
      obtain ⟨s0, -, -⟩ := hS.cells
      clear hS hsay F1
      go_wp2_with (at_range; refine wpList_range_own _ rfl _ 78 rfl 9 80 law_str Tryz.underlying78 rawR w.heap.size k D0 rfl hown ?_; intro w3 hrg3 hg3 hs3)
      have F3 := Lib.hid ((Fr.refl [] wr).grown hg3 (fun j e => by cases e))
      clear hg3 hs3
      go_loopw [11] (fun _ wx => ∃ (left : Lit → Bool) (cnt : Nat), wx.ranges Tryz.prog 9 rawR w.heap.size wr.heap.size k D0 left cnt ∧ (∀ kl, left kl = true → Maps.has D0 kl = true) ∧ Fr [] wr wx) (fun _ wx => wx.rangeLeft w.heap.size wr.heap.size)
      case atStart => exact ⟨_, _, hrg3, fun kl h => h, F3.out⟩
      case round =>
        rename World => wx
        obtain ⟨left, cnt, hrg, hleft, F4⟩ := hrel
        have HLL := Lib.hid (fun x (hx : x.length ≤ 100000) wy (F : Fr [] wr wy) => lies_any (HS.out.fr0 F) x hx)
        go_wp2_with (at_next; refine wpList_next_ranges _ rfl _ rfl 9 law_str rawR encStr id (fun key kl hk => by obtain ⟨x, hx, _⟩ := Maps.keyOf_str Tryz.underlying9 hk; exact ⟨x, hx⟩) (fun v y hv => ⟨v, rfl⟩) w.heap.size wr.heap.size k D0 _ _ rfl hrg ?_ ?_)
        · intro hc0 hl0
          go_wp2_with fail
          go_ret2
          exact ⟨p, rfl, ⟨_, _, _, _, HS.out.fr0 F4⟩, HF1.out.trans0 F4⟩
        · intro x c kl yd yp w4 cnt4 hkey hlk hv hat hrg4 hlt4 hg4 hs4 hen
          obtain ⟨x', ex, rfl, hxl⟩ := Maps.keyOf_str Tryz.underlying9 hkey
          obtain rfl : x = x' := encStr_inj ex
          have hhas := hleft _ hlk
          have hKx : (KV x).isSome = true := by rw [← (HSY.out x).1]; exact hhas
          rw [HS.out.rd.is] at hKx
          obtain ⟨t, ht⟩ := Option.isSome_iff_exists.1 hKx
          have HMX := HMT.out.2 x t ht
          have F5 : Fr [] wr w4 := F4.grown hg4 (fun j e => by cases e; exact .inr (Nat.le_refl _))
          have HLX := Lib.hid (HLL.out x (Nat.le_trans (clean_len HMX.1) (by omega)) w4 F5)
          rw [HMX.2.2] at HLX
          have HR4 := Lib.hid hrg4
          have HLE := Lib.hid hleft
          have HLT4 := Lib.hid (And.intro hrg.left_eq hlt4)
          clear hs4 HMX hKx hhas hlk hat hrg4 hleft ht hg4 hkey hrg
          go_wp2_with (go_at_call 36; refine HLX.out.mono ?_; rintro e w5 ⟨rfl, rfl⟩)
          go_roundw
          case rel => exact ⟨_, cnt4, HR4.out, fun kl h => HLE.out kl (by simp at h; exact h.1), F5⟩
          case measure => rw [HR4.out.left_eq, HLT4.out.1]; exact HLT4.out.2
theorem ynew_any {w : World} {hi : Nat} {v : Value} {L : List Th} (h : ThAt w hi v L) (hM : MayT L) (hL : L.length ≤ 100000) {D : Nat} (hD : DatK (lookL L) D) (hDl : D ≤ 1000000) (hG : Gl w) (fo : Option Addr) (fc : Nat) (fl : Fl) (hf : Sl w (.slice fo fl.l.length fc) (tv fl.l)) (_hsp : ∀ a, fo = some a → a.spot = none) (hfl : fl.l.length ≤ 1000000) :
    Calls Tryz.prog 14 #[v, .slice fo fl.l.length fc] w fun e w' => ∃ p, e = .returned (.tuple #[.pointer (some ⟨p, 0, none⟩), .int .i64 0]) ∧ SandAt w' w.heap.size p L.length 0 fl (lookL L) ∧ Fr [] w w' := ynew_any2 h hM hL hD hDl hG fo fc fl hf (by omega)
end Go.Proofs.YthbkcjlpelihlaaGreatDoor
/- The sandbox's calls at 'SandAt': State, Calls, New; what they keep. No condition but that lengths fit. -/
namespace Go.Proofs.YthbkcjlpelihlaaGreatDoor
open Go.RowKit Go.Maps

theorem Gl.lo {lo : Nat} {w w' : World} (h : Gl w) (k : Lo lo w w') (hlo : 3 ≤ lo) : Gl w' := by
  obtain ⟨S, F, hS⟩ := k
  have hn : ∀ b, b < 3 → b ∉ S := fun b hb hm => by have := (hS b hm).1; omega
  refine ⟨?_, ?_, Nat.le_trans h.sz F.size⟩
  · refine ⟨fun c hc => (F.cell (p := ⟨0, c, none⟩) (by have := h.sz; dsimp only; omega) (hn 0 (by decide))).trans (h.tabs.1 c hc), fun i hi => ⟨(F.cell (p := ⟨1, 2 * i, none⟩) (by have := h.sz; dsimp only; omega) (hn 1 (by decide))).trans (h.tabs.2 i hi).1, (F.cell (p := ⟨1, 2 * i + 1, none⟩) (by have := h.sz; dsimp only; omega) (hn 1 (by decide))).trans (h.tabs.2 i hi).2⟩⟩
  · obtain ⟨m, hm⟩ := h.ml
    exact ⟨m, (F.cell (p := ⟨2, 0, none⟩) (by have := h.sz; dsimp only; omega) (hn 2 (by decide))).trans hm⟩
/-- What lies below lo stays: as a frame of a later world. -/
theorem ThAt.lo {lo hi : Nat} {w w' : World} {v : Value} {L : List Th} (h : ThAt w hi v L) (k : Lo lo w w') (hl : hi ≤ lo) : ThAt w' hi v L := by
  obtain ⟨S, F, hS⟩ := k
  exact h.fr F (fun i hi' => Nat.le_trans hl (hS i hi').1)
theorem state_at {w : World} {lo p n nc : Nat} {fl : Fl} {K : Tree} (h : SandAt w lo p n nc fl K) (hKM : MayK K) {D : Nat} (hD : DatK K D) (hDl : D ≤ 1000000) (hn : n ≤ 100000) :
    Calls Tryz.prog 13 #[.pointer (some ⟨p, 0, none⟩)] w fun e w' => ∃ ao cap ks, e = .returned (.slice ao ks.length cap) ∧ KeysAre K ks ∧ ks.length ≤ n ∧ ThAt w' w'.heap.size (.slice ao ks.length cap) (listK K ks) ∧ Fr [] w w' := by
  obtain ⟨b, fv, cv, KV, h⟩ := h
  refine (state_any h hKM hD hDl hn).mono ?_
  rintro e w' ⟨v, ks, rfl, h1, h2, h3, h4⟩
  obtain ⟨ao, cap, rfl, -, -⟩ := h3.out
  have e : (listK K ks).length = ks.length := by unfold listK; simp
  rw [e] at h3 ⊢
  exact ⟨ao, cap, ks, rfl, h1, h2, h3, h4⟩
theorem info_cl : (Tryz.prog.info? 53).map (fun i => (i.zero, i.size, i.bytes)) = some (some (.agg #[.int .i64 0, .string ⟨#[]⟩, .string ⟨#[]⟩, .int .i64 0]), 4, 48) := by kernel_rfl
theorem wpList_append_calls {w : World} {ops : Array Oper} {rest : List Oper} {o : Oper} {a : Act} {Q : Exit → Act → World → Prop} (hgd : o.guard = none) (s x : Operand)
    (ho : o.op = .call { callee := .builtin .append, args := #[s, x], argTypes := #[50, 50] })
    (g b n c : Nat) (news : List Value) (hs : a.eval s = .slice (some ⟨g, 0, none⟩) 0 0) (hx : a.eval x = .slice (some ⟨b, 0, none⟩) n c) (hl : news.length = n * 4) (hnews : ∀ j v, news[j]? = some v → w.cell? ⟨b, j, none⟩ = some v) (h0 : 0 < n) (hn : n ≤ 100000)
    (h : ∀ ao cap w', Fr [] w w' → (∃ g', ao = some ⟨g', 0, none⟩ ∧ ∀ j v, news[j]? = some v → w'.cell? ⟨g', j, none⟩ = some v) → wpList Tryz.prog ops Q rest (a.put o.dst (.slice ao n cap)) w') : wpList Tryz.prog ops Q (o :: rest) a w := by
  obtain ⟨i, hi, hz, hsz, hby⟩ := info_parts info_cl
  have hr := fun ty => run_append_grow (P := Tryz.prog) w 50 ty 53 i _ Tryz.underlying50 hi hz ⟨g, 0, none⟩ 0 0 [] (by simp) (fun j v hj => by simp at hj) ⟨b, 0, none⟩ n c news (by rw [hsz]; exact hl) (fun j v hj => by
    have hadd : (⟨b, 0, none⟩ : Addr).add j = ⟨b, j, none⟩ := by unfold Addr.add; split <;> simp_all
    rw [hadd]; exact hnews j v hj) (by omega) (by omega) (by rw [hby]; exact growslice_fits (by omega) (by omega))
  simp only [Nat.zero_add] at hr
  refine wpList_plain hgd fun K hK => ?_
  unfold Oper.wp execOp
  simp only [ho, resolve, invoke, builtin, Sem.run_bind, Sem.run_pure, Result.andThen_ok, List.map_toArray, List.map_cons, List.map_nil, hs, hx, hr]
  refine hK _ _ (h _ _ _ (((Fr.refl _ _).drew).alloc _) ⟨_, rfl, fun j v hj => ?_⟩)
  have hb := heap_alloc_new w.drew (.cells ((#[] : Array Value) ++ news.toArray ++ Builtin.zeroCells (Value.agg #[.int .i64 0, .string ⟨#[]⟩, .string ⟨#[]⟩, .int .i64 0]).cells (grownCap w n 0 53 - n)) 53)
  have hj2 := (List.getElem?_eq_some_iff.1 hj).1
  refine (Go.Joins.cell_of_block hb j).trans ?_
  rw [Array.getElem?_append_left (by simp; omega)]
  simpa using hj
/-- Cells that a row of calls shows. -/
def RowC (w : World) (ao : Option Addr) (xs : List Value) : Prop := ∀ j v, xs[j]? = some v → ∃ g, ao = some ⟨g, 0, none⟩ ∧ w.cell? ⟨g, j, none⟩ = some v
theorem RowC.nil {w : World} {ao : Option Addr} : RowC w ao [] := fun j v h => by simp at h
/-- What is said of the calls that are handed back. -/
def CallsV (w : World) (ao : Option Addr) (nc : Nat) (R : Nat → List UInt8 → ByteArray → Prop) : Prop := ∀ i, i < nc → ∃ q to_ g, ao = some ⟨g, 0, none⟩ ∧ w.cell? ⟨g, i * 4 + 1, none⟩ = some (.string ⟨q.toArray⟩) ∧ w.cell? ⟨g, i * 4 + 2, none⟩ = some (.string to_) ∧ R i q to_
theorem cclone_any (w : World) (lo : Nat) (v : Value) (n : Nat) (xs : List Value) (h : w.ownsRow lo 53 4 v n xs) (hn : n ≤ 100000) :
    Calls Tryz.prog 37 #[v] w fun e w' => (∃ ao cap, e = .returned (.slice ao n cap) ∧ RowC w' ao xs) ∧ Fr [] w w' := by
  obtain ⟨i0, hi, hz0, hz1, hz2⟩ := info_parts info_cl
  rcases h.2 with ⟨rfl, rfl⟩ | ⟨g, cap, cur, rfl, hb, hg, hnc, hcm, _⟩
  · have hx : xs = [] := List.eq_nil_of_length_eq_zero (by simpa using h.1)
    subst hx
    refine (Go.Proofs.AnyE.slices_Clone_nil Tryz.cloneC 0 0 w).mono ?_
    rintro e w' ⟨rfl, rfl⟩
    exact ⟨⟨_, _, rfl, RowC.nil⟩, Fr.refl _ _⟩
  · by_cases h0 : n = 0
    · subst h0
      obtain rfl : xs = [] := List.eq_nil_of_length_eq_zero (by have := h.1; omega)
      have hcon := Go.Proofs.AnyE.slices_Clone Tryz.cloneC i0 _ 4 48 hi hz0 hz1 hz2 rfl (by decide) (fun _ => by kernel_rfl) g 0 0 cap [] w rfl (by unfold maxLen; omega) (by omega) (fun j u hj => by simp at hj) (by simp)
      refine hcon.mono ?_
      rintro e w' ⟨v', rfl, own, -, hb⟩
      obtain ⟨ao, cp, rfl, -⟩ := own_outS own
      exact ⟨⟨_, _, rfl, RowC.nil⟩, Fr.of_below hb⟩
    · have hc : ∀ j v, xs[j]? = some v → w.cell? ⟨g, j, none⟩ = some v := fun j v hj => by rw [h.cellAt j (by have := (List.getElem?_eq_some_iff.1 hj).1; have := h.1; omega)]; exact hj
      have HC := Lib.hid hc
      have HL := Lib.hid h.1
      have hq := fun (w : World) (a : Option Addr) (n c n' c' : Nat) => Lib.run_eql_slice_nil (P := Tryz.prog) w 50 53 a n c n' c' Tryz.underlying50
      clear hc h hg hnc hcm
      go_enter Tryz.func37, Tryz.ntmps37
      go_wp2_with (at_builtin; refine wpList_append_calls rfl _ _ (by rfl) w.heap.size g n cap xs (by rfl) (by rfl) HL.out (fun j v hj => (((Fr.refl [] w).alloc _).cell (World.block_lt_of_cell? _ _ (HC.out j v hj)) (by simp)).trans (HC.out j v hj)) (by omega) hn ?_; intro ao cp w1 F1 hcl1; have HC1 := Lib.hid hcl1; clear hcl1)
      go_ret
      obtain ⟨g', rfl, hg'⟩ := HC1.out
      exact ⟨⟨_, _, rfl, fun j v hj => ⟨g', rfl, hg' j v hj⟩⟩, ((Fr.refl [] w).alloc _).trans0 F1⟩
theorem calls_at {w : World} {lo p n nc : Nat} {fl : Fl} {K : Tree} (h : SandAt w lo p n nc fl K) (hnc : nc ≤ 100000) :
    Calls Tryz.prog 15 #[.pointer (some ⟨p, 0, none⟩)] w fun e w' => (∃ ao cap, e = .returned (.slice ao nc cap) ∧ CallsV w' ao nc fl.R) ∧ Fr [] w w' := by
  obtain ⟨b, fv, cv, KV, h⟩ := h
  obtain ⟨xs, hca, hcr⟩ := h.cr
  have HCR := Lib.hid hcr
  obtain ⟨-, -, c2⟩ := h.cells
  have HC := Lib.hid (cclone_any w lo cv nc xs hca hnc)
  obtain ⟨co, cc, rfl, -⟩ := own_outS hca
  clear hca h hcr
  go_enter Tryz.func15, Tryz.ntmps15
  go_wp2_with (go_at_call 37; refine HC.out.mono ?_; rintro e w1 ⟨⟨ao, cap, rfl, hrc⟩, F1⟩; have HRC := Lib.hid hrc; clear hrc)
  go_ret
  refine ⟨⟨_, _, rfl, fun i hi => ?_⟩, F1⟩
  obtain ⟨q, to_, h1, h2, h3⟩ := HCR.out i hi
  obtain ⟨g1, rfl, k1⟩ := HRC.out _ _ h1
  obtain ⟨g2, e2, k2⟩ := HRC.out _ _ h2
  injection e2 with e2
  injection e2 with e3 _ _
  subst e3
  exact ⟨q, to_, _, rfl, k1, k2, h3⟩
end Go.Proofs.YthbkcjlpelihlaaGreatDoor
