/- Contract: Append. No condition but that lengths fit. -/
import Derived.Test.YtjeblccboeljnaaGreatDoorYConcat
namespace Go.Proofs.YtjeblccboeljnaaGreatDoor
open Go.RowKit Go.Maps

/-- What Append answers; what is there then. -/
def appK (K : Tree) (q : List UInt8) (bs : List UInt8) : Int × Tree := match K q with
  | some t => if t.kind = 2 then (0, updK K q ⟨2, t.data ++ bs, t.ln⟩) else (202, K)
  | none => (202, K)
/-- What a look-up finds, written out. -/
theorem SandIn.val {w : World} {lo p b : Nat} {fv cv : Value} {n nc : Nat} {fl : List Bool} {KV : List UInt8 → Option Value} {K : Tree} (h : SandIn w lo p b fv cv n nc fl KV K) (q : List UInt8) (hq : q.length ≤ 100000) :
    ∃ kd ao dn cap sv, (∀ wx, Fr [] w wx → (Instr.lookup 55 (.map (some b)) (.string ⟨q.toArray⟩) false).run Tryz.prog wx = .ok (.agg #[.int .i64 kd, .slice ao dn cap, .string sv]) wx) ∧
      ((∃ t, K q = some t ∧ kd = t.kind ∧ sv = ⟨t.ln.toArray⟩ ∧ w.ownsRow lo 5 1 (.slice ao dn cap) t.data.length (bv t.data) ∧ dn = t.data.length) ∨ (K q = none ∧ kd = 0)) := by
  have hrun := fun wx (F : Fr [] w wx) => (h.mp.fr F (by simp)).get q hq
  cases hk : K q with
  | none =>
    rw [(h.rd.no _).2 hk] at hrun
    exact ⟨0, none, 0, 0, _, hrun, .inr ⟨rfl, rfl⟩⟩
  | some t =>
    obtain ⟨v, hv, dv, rfl, ho⟩ := h.rd.get hk
    obtain ⟨ao, cap, rfl, -⟩ := own_outS ho
    rw [hv] at hrun
    exact ⟨_, _, _, _, _, hrun, .inl ⟨t, rfl, rfl, rfl, ho, rfl⟩⟩
set_option maxRecDepth 100000 in
set_option maxHeartbeats 2000000 in
theorem append_body {w : World} {lo p b : Nat} {fv cv : Value} {n nc : Nat} {fl : List Bool} {KV : List UInt8 → Option Value} {K : Tree} (h : SandIn w lo p b fv cv n nc fl KV K) (q : List UInt8) (hq : q.length ≤ 100000) (hn : n ≤ 100000) (B0 B1 B2 : Nat) (bo : Option Addr) (bc : Nat) (bs : List UInt8)
    (m0 : w.cell? ⟨B0, 0, none⟩ = some (.pointer (some ⟨p, 0, none⟩))) (m1 : w.cell? ⟨B1, 0, none⟩ = some (.string ⟨q.toArray⟩)) (m2 : w.cell? ⟨B2, 0, none⟩ = some (.slice bo bs.length bc)) (hb : Sl w (.slice bo bs.length bc) (bv bs)) (hbl : bs.length ≤ 1000000) (hd : ∀ t, K q = some t → t.data.length ≤ 1000000) :
    Calls Tryz.prog 39 #[.pointer (some ⟨B0, 0, none⟩), .pointer (some ⟨B1, 0, none⟩), .pointer (some ⟨B2, 0, none⟩)] w fun e w' => ∃ n' KV', e = .returned (.int .i64 (appK K q bs).1) ∧ SandIn w' lo p b fv cv n' nc fl KV' (appK K q bs).2 ∧ n' ≤ n + 1 ∧ Fr [b] w w' := by
  have FD : Fr [] w (w.alloc (.cells #[.int .i64 0, .slice none 0 0, .string ⟨#[]⟩] 60)).drew := ((Fr.refl _ w).alloc _).drew
  obtain ⟨kd, ao, dn, cap, sv, hrun0, hcase⟩ := h.val q hq
  have hrun1 := hrun0 _ FD
  have hrun2 := hrun0 _ ((Fr.refl _ w).drew)
  obtain ⟨c0, -, -⟩ := h.cells
  have n0 : ∀ o : Obj, (w.alloc o).cell? ⟨B0, 0, none⟩ = some (.pointer (some ⟨p, 0, none⟩)) := fun o => (((Fr.refl [] w).alloc o).cell (World.block_lt_of_cell? _ _ m0) (by simp)).trans m0
  have n1 : ∀ o : Obj, (w.alloc o).cell? ⟨B1, 0, none⟩ = some (.string ⟨q.toArray⟩) := fun o => (((Fr.refl [] w).alloc o).cell (World.block_lt_of_cell? _ _ m1) (by simp)).trans m1
  have n2 : ∀ o : Obj, (w.alloc o).cell? ⟨B2, 0, none⟩ = some (.slice bo bs.length bc) := fun o => (((Fr.refl [] w).alloc o).cell (World.block_lt_of_cell? _ _ m2) (by simp)).trans m2
  have nc0 : ∀ o : Obj, (w.alloc o).cell? ⟨p, 0, none⟩ = some (.map (some b)) := fun o => (((Fr.refl [] w).alloc o).cell (World.block_lt_of_cell? _ _ c0) (by simp)).trans c0
  by_cases hk : kd = 2
  rotate_left
  · have e : appK K q bs = (202, K) := by
      unfold appK
      rcases hcase with ⟨t, h1, rfl, -⟩ | ⟨h1, -⟩
      · rw [h1]; exact if_neg hk
      · rw [h1]
    rw [e]
    have HA := Lib.hid (fun wx (F : Fr [] w wx) => h.fr0 F)
    have FF : Fr [] w (w.alloc (.cells #[.int .i64 kd, .slice ao dn cap, .string sv] 60)).drew := ((Fr.refl _ w).alloc _).drew
    have hk2 : (kd != 2) = true := by simpa using hk
    clear hcase e h hb hd hk hrun0
    go_enter Tryz.func39, Tryz.ntmps39
    go_upto_region 1 with fail
    go_region
    all_goals (try go_wp2_with fail)
    all_goals go_ret
    all_goals exact ⟨n, KV, rfl, HA.out _ FF, Nat.le_succ _, FF.mono (by simp)⟩
  · subst hk
    rcases hcase with ⟨t, hKt, ht2, rfl, hown, rfl⟩ | ⟨-, h0⟩
    rotate_left
    · exact absurd h0 (by decide)
    have e : appK K q bs = (0, updK K q ⟨2, t.data ++ bs, t.ln⟩) := by
      unfold appK
      rw [hKt]
      exact if_pos ht2.symm
    rw [e]
    have HA := Lib.hid (fun wx (F : Fr [] w wx) => h.fr0 F)
    have HOW := Lib.hid (fun wx (F : Fr [] w wx) => Sl.of_own (own_frB hown F (by simp)))
    have HSB := Lib.hid (fun wx (F : Fr [] w wx) => hb.fr0 F)
    have HDL := Lib.hid (hd t hKt)
    have hkt := hd t hKt
    clear e h hb hd hown hrun0 ht2
    go_enter Tryz.func39, Tryz.ntmps39
    go_upto_region 1 with fail
    go_region
    all_goals
      obtain ⟨w1, hw1⟩ : ∃ w1, w1 = (w.alloc (.cells #[.int .i64 2, .slice ao t.data.length cap, .string ⟨t.ln.toArray⟩] 60)).drew := ⟨_, rfl⟩
      have F1 : Fr [] w w1 := hw1 ▸ ((Fr.refl _ w).alloc _).drew
      have g1 : w1.heap[w.heap.size]? = some (.cells #[.int .i64 2, .slice ao t.data.length cap, .string ⟨t.ln.toArray⟩] 60 (0, 0)) := by rw [hw1]; exact heap_alloc_new w _
      have l1 : w.heap.size < w1.heap.size := (Array.getElem?_eq_some_iff.1 g1).1
      rw [← hw1]
      clear hw1 n0 n1 n2 nc0 hrun1 hrun2
      have x2 := (F1.cell (World.block_lt_of_cell? _ _ m2) (by simp)).trans m2
      obtain ⟨b0, b1, b2, bz⟩ := cells3 g1
      obtain ⟨wC, hwC⟩ : ∃ wC, wC = w1.alloc (.cells #[.slice ao t.data.length cap, .slice bo bs.length bc] 24) := ⟨_, rfl⟩
      have FC : Fr [] w1 wC := hwC ▸ (Fr.refl _ _).alloc _
      have gC : wC.heap[w1.heap.size]? = some (.cells #[.slice ao t.data.length cap, .slice bo bs.length bc] 24 (0, 0)) := by rw [hwC]; exact heap_alloc_new w1 _
      have HCC := Lib.hid (concat_any wC w1.heap.size (Array.getElem?_eq_some_iff.1 gC).1 (.slice ao t.data.length cap) (.slice bo bs.length bc) t.data bs (by rw [Go.Joins.cell_of_block gC]; rfl) (by rw [Go.Joins.cell_of_block gC]; rfl) (HOW.out wC (F1.trans0 FC)) (HSB.out wC (F1.trans0 FC)) (by omega) (by omega))
      obtain ⟨NL, hNL⟩ : ∃ NL, (t.data ++ bs).length = NL := ⟨_, rfl⟩
      rw [hNL] at HCC
      have HNL := Lib.hid hNL
      clear hNL
      go_upto_region 5 with (go_at_call 40; rw [← hwC]; refine HCC.out.mono ?_; rintro e w2 ⟨r, rfl, ownr, F2⟩; have HOR := Lib.hid ownr; obtain ⟨ro, rc, rfl, -⟩ := own_outS ownr; have g2 := (F2.block _ (Nat.lt_of_lt_of_le l1 FC.size) (by simp)).trans ((FC.block _ l1 (by simp)).trans g1); obtain ⟨d0, d1, d2, dz⟩ := cells3 g2; have dz1 := dz 1; clear hwC ownr)
      obtain ⟨w3, hw3⟩ : ∃ w3, w3 = w2.setCell ⟨w.heap.size, 1, none⟩ (.slice ro NL rc) := ⟨_, rfl⟩
      have F3 : Fr [w.heap.size] w2 w3 := hw3 ▸ (Fr.refl _ _).setCell (by simp) _
      have g3 : w3.heap[w.heap.size]? = some (.cells #[.int .i64 2, .slice ro NL rc, .string ⟨t.ln.toArray⟩] 60 (0, 0)) := by rw [hw3]; exact Go.Joins.block_setCell g2 _
      rw [← hw3]
      clear hw3 d0 d1 d2 dz dz1 b0 b1 b2 bz x2
      have FW : Fr [] w w3 := (((F1.trans0 FC).trans0 F2)).trans1 F3 (.inr (Nat.le_refl _))
      obtain ⟨e0, e1, e2, -⟩ := cells3 g3
      have y0 := (FW.cell (World.block_lt_of_cell? _ _ m0) (by simp)).trans m0
      have y1 := (FW.cell (World.block_lt_of_cell? _ _ m1) (by simp)).trans m1
      have yc := (FW.cell (World.block_lt_of_cell? _ _ c0) (by simp)).trans c0
      have S3 := HA.out w3.drew FW.drew
      have hlo : lo ≤ w.heap.size := Nat.le_trans S3.lp (Nat.le_of_lt (World.block_lt_of_cell? _ _ c0))
      have own3 : w3.drew.ownsRow lo 5 1 (.slice ro NL rc) NL (bv (t.data ++ bs)) :=
        own_mono (own_frB HOR.out F3.drew (fun i hi => by simp at hi; subst hi; exact Nat.lt_of_lt_of_le l1 FC.size)) (Nat.le_trans hlo (Nat.le_trans F1.size FC.size))
      obtain ⟨w4, hupd, hM, hg⟩ := S3.mp.put (by omega) q hq (.agg #[.int .i64 2, .slice ro NL rc, .string ⟨t.ln.toArray⟩])
      have HF := Lib.hid (S3.turn (fr_turned hg) hM (S3.rd.put q (show ThV w3.drew lo (.agg #[.int .i64 2, .slice ro NL rc, .string ⟨t.ln.toArray⟩]) ⟨2, t.data ++ bs, t.ln⟩ from ⟨_, rfl, (show w3.drew.ownsRow lo 5 1 (.slice ro NL rc) (t.data ++ bs).length (bv (t.data ++ bs)) by rw [HNL.out]; exact own3)⟩)))
      have HR := Lib.hid (show Fr [b] w w4 from (FW.drew.mono (by simp)).trans (fr_turned hg) (fun i hi => .inl hi))
      clear S3 hM hg own3 F3 FC F1 F2 FW gC g1 g2 g3 m0 m1 m2 c0
      go_region
      all_goals (try go_wp2_with fail)
      all_goals go_ret
      all_goals exact ⟨n + 1, _, rfl, HF.out, Nat.le_refl _, HR.out⟩

/-- What Append answers, its path looked at too. -/
def appendK (K : Tree) (q : List UInt8) (bs : List UInt8) : Int × Tree := if cleanL foldL q = true then appK K q bs else (301, K)
set_option maxRecDepth 100000 in
set_option maxHeartbeats 2000000 in
theorem append_any {w : World} {lo p n nc : Nat} {fl : List Bool} {K : Tree} (h : SandAt w lo p n nc fl K) (hG : Gl w) (q : List UInt8) (hq : q.length ≤ 100000) (hn : n ≤ 100000) (hnc : nc ≤ 100000) (hl : fl.getD nc false = false) (bo : Option Addr) (bc : Nat) (bs : List UInt8)
    (hb : Sl w (.slice bo bs.length bc) (bv bs)) (hbl : bs.length ≤ 1000000) (hd : ∀ t, K q = some t → t.data.length ≤ 1000000) :
    Calls Tryz.prog 21 #[.pointer (some ⟨p, 0, none⟩), .string ⟨q.toArray⟩, .slice bo bs.length bc] w fun e w' =>
      ∃ n', e = .returned (.int .i64 (appendK K q bs).1) ∧ SandAt w' lo p n' (nc + 1) fl (appendK K q bs).2 ∧ n' ≤ n + 1 ∧ Lo lo w w' := by
  obtain ⟨b, fv, cv, KV, h⟩ := h
  obtain ⟨NB, hNB⟩ : ∃ NB, bs.length = NB := ⟨_, rfl⟩
  obtain ⟨wA, hwA⟩ : ∃ wA, wA = ((w.alloc (.cells #[.pointer (some ⟨p, 0, none⟩)] 31)).alloc (.cells #[.string ⟨q.toArray⟩] 9)).alloc (.cells #[.slice bo NB bc] 24) := ⟨_, rfl⟩
  have FA : Fr [] w wA := hwA ▸ (((Fr.refl _ _).alloc _).alloc _).alloc _
  have m0 : wA.cell? ⟨w.heap.size, 0, none⟩ = some (.pointer (some ⟨p, 0, none⟩)) := by
    have F : Fr [] (w.alloc (.cells #[.pointer (some ⟨p, 0, none⟩)] 31)) wA := hwA ▸ ((Fr.refl _ _).alloc _).alloc _
    rw [Go.Joins.cell_of_block ((F.block w.heap.size (by rw [World.size_alloc]; omega) (by simp)).trans (heap_alloc_new w _))]
    rfl
  have m1 : wA.cell? ⟨w.heap.size + 1, 0, none⟩ = some (.string ⟨q.toArray⟩) := by
    have F : Fr [] ((w.alloc (.cells #[.pointer (some ⟨p, 0, none⟩)] 31)).alloc (.cells #[.string ⟨q.toArray⟩] 9)) wA := hwA ▸ (Fr.refl _ _).alloc _
    have g := heap_alloc_new (w.alloc (.cells #[.pointer (some ⟨p, 0, none⟩)] 31)) (.cells #[.string ⟨q.toArray⟩] 9)
    rw [World.size_alloc] at g
    rw [Go.Joins.cell_of_block ((F.block (w.heap.size + 1) (by rw [World.size_alloc, World.size_alloc]; omega) (by simp)).trans g)]
    rfl
  have h2 : wA.heap[w.heap.size + 2]? = some (.cells #[.slice bo NB bc] 24 (0, 0)) := by
    have := heap_alloc_new ((w.alloc (.cells #[.pointer (some ⟨p, 0, none⟩)] 31)).alloc (.cells #[.string ⟨q.toArray⟩] 9)) (.cells #[.slice bo NB bc] 24)
    rw [World.size_alloc, World.size_alloc] at this
    rw [hwA]
    exact this
  have m2 : wA.cell? ⟨w.heap.size + 2, 0, none⟩ = some (.slice bo bs.length bc) := by rw [Go.Joins.cell_of_block h2, hNB]; rfl
  have l0 : w.heap.size + 2 < wA.heap.size := (Array.getElem?_eq_some_iff.1 h2).1
  have hA := h.fr0 FA
  obtain ⟨xs, hca⟩ := h.ca
  have hcv : ∀ i ∈ (p :: cv.ownBlock.toList), lo ≤ i := fun i hi => by
    rcases List.mem_cons.1 hi with rfl | hi
    · exact h.lp
    · exact (own_ltS hca i (by simpa using hi)).1
  have hlb := h.lb
  unfold appendK
  cases hc : cleanL foldL q with
  | false =>
    have HB := Lib.hid (call_bad hA (hG.fr FA) 4 q hq ⟨#[]⟩ (.func (.func 39) #[] #[.pointer (some ⟨w.heap.size, 0, none⟩), .pointer (some ⟨w.heap.size + 1, 0, none⟩), .pointer (some ⟨w.heap.size + 2, 0, none⟩)]) hc hnc)
    rw [if_neg (by simp)]
    rw [hNB]
    clear h hA hG hq hn hnc hl hc m0 m1 m2 hca hb hd hbl hNB
    go_enter Tryz.func21, Tryz.ntmps21
    go_wp2_with (go_at_call 34; rw [← hwA]; refine HB.out.mono ?_; rintro e w1 ⟨rfl, ⟨cv', hS⟩, F1⟩)
    go_ret
    exact ⟨n, rfl, ⟨_, _, _, _, hS⟩, Nat.le_succ _, (Lo.of0 FA).trans ⟨_, F1, hcv⟩⟩
  | true =>
    rw [if_pos rfl]
    have HD := Lib.hid (call_do hA (hG.fr FA) 4 (by decide) q hq ⟨#[]⟩ 39 #[.pointer (some ⟨w.heap.size, 0, none⟩), .pointer (some ⟨w.heap.size + 1, 0, none⟩), .pointer (some ⟨w.heap.size + 2, 0, none⟩)] (enters_of Tryz.func39 (by kernel_rfl) rfl) hc hl hnc
      (fun c n' K' w2 => c = (appK K q bs).1 ∧ K' = (appK K q bs).2 ∧ n' ≤ n + 1 ∧ Lo lo w w2)
      (fun wx F => (append_body (hA.fr0 F) q hq hn w.heap.size (w.heap.size + 1) (w.heap.size + 2) bo bc bs ((F.cell (p := ⟨w.heap.size, 0, none⟩) (by show w.heap.size < _; omega) (by simp)).trans m0) ((F.cell (p := ⟨w.heap.size + 1, 0, none⟩) (by show w.heap.size + 1 < _; omega) (by simp)).trans m1) ((F.cell (p := ⟨w.heap.size + 2, 0, none⟩) l0 (by simp)).trans m2) (hb.fr0 (FA.trans0 F)) hbl hd).mono (fun e w2 hh => by
        obtain ⟨n', KV', q1, q2, q3, q4⟩ := hh
        exact ⟨_, b, n', KV', _, q1, q2, rfl, rfl, q3, ((Lo.of0 FA).trans (Lo.of0 F)).trans ⟨_, q4, by simpa using hlb⟩⟩)))
    rw [hNB]
    generalize appK K q bs = AK at *
    clear h hA hG hq hn hnc hl hc m0 m1 m2 hca hb hd hbl hNB
    go_enter Tryz.func21, Tryz.ntmps21
    go_wp2_with (go_at_call 34; rw [← hwA]; refine HD.out.mono ?_; rintro e w1 ⟨c, b', n', KV', K', w2, cv', ⟨rfl, rfl, hn', hfr⟩, rfl, hS, F1⟩)
    go_ret
    exact ⟨n', rfl, ⟨_, _, _, _, hS⟩, hn', hfr.trans ⟨_, F1, hcv⟩⟩
end Go.Proofs.YtjeblccboeljnaaGreatDoor
