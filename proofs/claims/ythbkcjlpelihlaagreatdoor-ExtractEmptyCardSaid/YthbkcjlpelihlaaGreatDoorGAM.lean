/- Contract: Append. No condition but that lengths fit. -/
import Derived.Test.YthbkcjlpelihlaaGreatDoorGAL
import Derived.Test.YthbkcjlpelihlaaGreatDoorGAI
namespace Go.Proofs.YthbkcjlpelihlaaGreatDoor
open Go.RowKit Go.Maps

/-- What Append answers; what is there then. -/
def appK (K : Tree) (q : List UInt8) (bs : List UInt8) : Int × Tree := match K q with
  | some t => if t.kind = 2 then (0, updK K q ⟨2, t.data ++ bs, t.ln⟩) else (202, K)
  | none => (202, K)
/-- What a look-up finds, written out. -/
theorem SandIn.val {w : World} {lo p b : Nat} {fv cv : Value} {n nc : Nat} {fl : Fl} {KV : List UInt8 → Option Value} {K : Tree} (h : SandIn w lo p b fv cv n nc fl KV K) (q : List UInt8) (hq : q.length ≤ 100000) :
    ∃ kd ao dn cap sv, (∀ wx, Fr [] w wx → (Instr.lookup 78 (.map (some b)) (.string ⟨q.toArray⟩) false).run Tryz.prog wx = .ok (.agg #[.int .i64 kd, .slice ao dn cap, .string sv]) wx) ∧
      ((∃ t, K q = some t ∧ kd = t.kind ∧ sv = ⟨t.ln.toArray⟩ ∧ w.ownsRow lo 5 1 (.slice ao dn cap) t.data.length (bv t.data) ∧ dn = t.data.length) ∨ (K q = none ∧ kd = 0)) := by
  have hrun := fun wx (F : Fr [] w wx) => (h.mp.fr F (by simp)).get q hq
  cases hk : K q with
  | none =>
    rw [(h.rd.no _).2 hk] at hrun
    exact ⟨0, none, 0, 0, _, hrun, .inr ⟨rfl, rfl⟩⟩
  | some t =>
    obtain ⟨v, hv, dv, rfl, ho⟩ := h.rd.get hk
    obtain ⟨ao, cap, rfl, -⟩ := own_outS ho
    rw [hv] at hrun
    exact ⟨_, _, _, _, _, hrun, .inl ⟨t, rfl, rfl, rfl, ho, rfl⟩⟩
set_option maxRecDepth 100000 in
set_option maxHeartbeats 2000000 in
theorem append_body {w : World} {lo p b : Nat} {fv cv : Value} {n nc : Nat} {fl : Fl} {KV : List UInt8 → Option Value} {K : Tree} (h : SandIn w lo p b fv cv n nc fl KV K) (q : List UInt8) (hq : q.length ≤ 100000) (hn : n ≤ 100000) (B0 B1 B2 : Nat) (bo : Option Addr) (bc : Nat) (bs : List UInt8)
    (m0 : w.cell? ⟨B0, 0, none⟩ = some (.pointer (some ⟨p, 0, none⟩))) (m1 : w.cell? ⟨B1, 0, none⟩ = some (.string ⟨q.toArray⟩)) (m2 : w.cell? ⟨B2, 0, none⟩ = some (.slice bo bs.length bc)) (hb : Sl w (.slice bo bs.length bc) (bv bs)) (hbl : bs.length ≤ 1000000) (hd : ∀ t, K q = some t → t.data.length ≤ 1000000) :
    Calls Tryz.prog 206 #[.pointer (some ⟨B0, 0, none⟩), .pointer (some ⟨B1, 0, none⟩), .pointer (some ⟨B2, 0, none⟩)] w fun e w' => ∃ n' KV', e = .returned (.int .i64 (appK K q bs).1) ∧ SandIn w' lo p b fv cv n' nc fl KV' (appK K q bs).2 ∧ n' ≤ n + 1 ∧ Fr [b] w w' := by
  have FD : Fr [] w (w.alloc (.cells #[.int .i64 0, .slice none 0 0, .string ⟨#[]⟩] 80)).drew := ((Fr.refl _ w).alloc _).drew
  obtain ⟨kd, ao, dn, cap, sv, hrun0, hcase⟩ := h.val q hq
  have hrun1 := hrun0 _ FD
  have hrun2 := hrun0 _ ((Fr.refl _ w).drew)
  obtain ⟨c0, -, -⟩ := h.cells
  have n0 : ∀ o : Obj, (w.alloc o).cell? ⟨B0, 0, none⟩ = some (.pointer (some ⟨p, 0, none⟩)) := fun o => (((Fr.refl [] w).alloc o).cell (World.block_lt_of_cell? _ _ m0) (by simp)).trans m0
  have n1 : ∀ o : Obj, (w.alloc o).cell? ⟨B1, 0, none⟩ = some (.string ⟨q.toArray⟩) := fun o => (((Fr.refl [] w).alloc o).cell (World.block_lt_of_cell? _ _ m1) (by simp)).trans m1
  have n2 : ∀ o : Obj, (w.alloc o).cell? ⟨B2, 0, none⟩ = some (.slice bo bs.length bc) := fun o => (((Fr.refl [] w).alloc o).cell (World.block_lt_of_cell? _ _ m2) (by simp)).trans m2
  have nc0 : ∀ o : Obj, (w.alloc o).cell? ⟨p, 0, none⟩ = some (.map (some b)) := fun o => (((Fr.refl [] w).alloc o).cell (World.block_lt_of_cell? _ _ c0) (by simp)).trans c0
  by_cases hk : kd = 2
  rotate_left
  · have e : appK K q bs = (202, K) := by
      unfold appK
      rcases hcase with ⟨t, h1, rfl, -⟩ | ⟨h1, -⟩
      · rw [h1]; exact if_neg hk
      · rw [h1]
    rw [e]
    have HA := Lib.hid (fun wx (F : Fr [] w wx) => h.fr0 F)
    have FF : Fr [] w (w.alloc (.cells #[.int .i64 kd, .slice ao dn cap, .string sv] 80)).drew := ((Fr.refl _ w).alloc _).drew
    have hk2 : (kd != 2) = true := by simpa using hk
    clear hcase e h hb hd hk hrun0
    go_enter Tryz.func206, Tryz.ntmps206
    go_upto_region 1 with fail
    go_region
    all_goals (try go_wp2_with fail)
    all_goals go_ret
    all_goals exact ⟨n, KV, rfl, HA.out _ FF, Nat.le_succ _, FF.mono (by simp)⟩
  · subst hk
    rcases hcase with ⟨t, hKt, ht2, rfl, hown, rfl⟩ | ⟨-, h0⟩
    rotate_left
    · exact absurd h0 (by decide)
    have e : appK K q bs = (0, updK K q ⟨2, t.data ++ bs, t.ln⟩) := by
      unfold appK
      rw [hKt]
      exact if_pos ht2.symm
    rw [e]
    have HA := Lib.hid (fun wx (F : Fr [] w wx) => h.fr0 F)
    have HOW := Lib.hid (fun wx (F : Fr [] w wx) => Sl.of_own (own_frB hown F (by simp)))
    have HSB := Lib.hid (fun wx (F : Fr [] w wx) => hb.fr0 F)
    have HDL := Lib.hid (hd t hKt)
    have hkt := hd t hKt
    clear e h hb hd hown hrun0 ht2
    go_enter Tryz.func206, Tryz.ntmps206
    go_upto_region 1 with fail
    go_region
    all_goals
      obtain ⟨w1, hw1⟩ : ∃ w1, w1 = (w.alloc (.cells #[.int .i64 2, .slice ao t.data.length cap, .string ⟨t.ln.toArray⟩] 80)).drew := ⟨_, rfl⟩
      have F1 : Fr [] w w1 := hw1 ▸ ((Fr.refl _ w).alloc _).drew
      have g1 : w1.heap[w.heap.size]? = some (.cells #[.int .i64 2, .slice ao t.data.length cap, .string ⟨t.ln.toArray⟩] 80 (0, 0)) := by rw [hw1]; exact heap_alloc_new w _
      have l1 : w.heap.size < w1.heap.size := (Array.getElem?_eq_some_iff.1 g1).1
      rw [← hw1]
      clear hw1 n0 n1 n2 nc0 hrun1 hrun2
      have x2 := (F1.cell (World.block_lt_of_cell? _ _ m2) (by simp)).trans m2
      obtain ⟨b0, b1, b2, bz⟩ := cells3 g1
      obtain ⟨wC, hwC⟩ : ∃ wC, wC = w1.alloc (.cells #[.slice ao t.data.length cap, .slice bo bs.length bc] 26) := ⟨_, rfl⟩
      have FC : Fr [] w1 wC := hwC ▸ (Fr.refl _ _).alloc _
      have gC : wC.heap[w1.heap.size]? = some (.cells #[.slice ao t.data.length cap, .slice bo bs.length bc] 26 (0, 0)) := by rw [hwC]; exact heap_alloc_new w1 _
      have HCC := Lib.hid (concat_any wC w1.heap.size (Array.getElem?_eq_some_iff.1 gC).1 (.slice ao t.data.length cap) (.slice bo bs.length bc) t.data bs (by rw [Go.Joins.cell_of_block gC]; rfl) (by rw [Go.Joins.cell_of_block gC]; rfl) (HOW.out wC (F1.trans0 FC)) (HSB.out wC (F1.trans0 FC)) (by omega) (by omega))
      obtain ⟨NL, hNL⟩ : ∃ NL, (t.data ++ bs).length = NL := ⟨_, rfl⟩
      rw [hNL] at HCC
      have HNL := Lib.hid hNL
      clear hNL
      go_upto_region 5 with (go_at_call 29; rw [← hwC]; refine HCC.out.mono ?_; rintro e w2 ⟨r, rfl, ownr, F2⟩; have HOR := Lib.hid ownr; obtain ⟨ro, rc, rfl, -⟩ := own_outS ownr; have g2 := (F2.block _ (Nat.lt_of_lt_of_le l1 FC.size) (by simp)).trans ((FC.block _ l1 (by simp)).trans g1); obtain ⟨d0, d1, d2, dz⟩ := cells3 g2; have dz1 := dz 1; clear hwC ownr)
      obtain ⟨w3, hw3⟩ : ∃ w3, w3 = w2.setCell ⟨w.heap.size, 1, none⟩ (.slice ro NL rc) := ⟨_, rfl⟩
      have F3 : Fr [w.heap.size] w2 w3 := hw3 ▸ (Fr.refl _ _).setCell (by simp) _
      have g3 : w3.heap[w.heap.size]? = some (.cells #[.int .i64 2, .slice ro NL rc, .string ⟨t.ln.toArray⟩] 80 (0, 0)) := by rw [hw3]; exact Go.Joins.block_setCell g2 _
      rw [← hw3]
      clear hw3 d0 d1 d2 dz dz1 b0 b1 b2 bz x2
      have FW : Fr [] w w3 := (((F1.trans0 FC).trans0 F2)).trans1 F3 (.inr (Nat.le_refl _))
      obtain ⟨e0, e1, e2, -⟩ := cells3 g3
      have y0 := (FW.cell (World.block_lt_of_cell? _ _ m0) (by simp)).trans m0
      have y1 := (FW.cell (World.block_lt_of_cell? _ _ m1) (by simp)).trans m1
      have yc := (FW.cell (World.block_lt_of_cell? _ _ c0) (by simp)).trans c0
      have S3 := HA.out w3.drew FW.drew
      have hlo : lo ≤ w.heap.size := Nat.le_trans S3.lp (Nat.le_of_lt (World.block_lt_of_cell? _ _ c0))
      have own3 : w3.drew.ownsRow lo 5 1 (.slice ro NL rc) NL (bv (t.data ++ bs)) :=
        own_mono (own_frB HOR.out F3.drew (fun i hi => by simp at hi; subst hi; exact Nat.lt_of_lt_of_le l1 FC.size)) (Nat.le_trans hlo (Nat.le_trans F1.size FC.size))
      obtain ⟨w4, hupd, hM, hg⟩ := S3.mp.put (by omega) q hq (.agg #[.int .i64 2, .slice ro NL rc, .string ⟨t.ln.toArray⟩])
      have HF := Lib.hid (S3.turn (fr_turned hg) hM (S3.rd.put q (show ThV w3.drew lo (.agg #[.int .i64 2, .slice ro NL rc, .string ⟨t.ln.toArray⟩]) ⟨2, t.data ++ bs, t.ln⟩ from ⟨_, rfl, (show w3.drew.ownsRow lo 5 1 (.slice ro NL rc) (t.data ++ bs).length (bv (t.data ++ bs)) by rw [HNL.out]; exact own3)⟩)))
      have HR := Lib.hid (show Fr [b] w w4 from (FW.drew.mono (by simp)).trans (fr_turned hg) (fun i hi => .inl hi))
      clear S3 hM hg own3 F3 FC F1 F2 FW gC g1 g2 g3 m0 m1 m2 c0
      go_region
      all_goals (try go_wp2_with fail)
      all_goals go_ret
      all_goals exact ⟨n + 1, _, rfl, HF.out, Nat.le_refl _, HR.out⟩

/-- What Append answers, its path looked at too. -/
def appendK (K : Tree) (q : List UInt8) (bs : List UInt8) : Int × Tree := if cleanL foldL q = true then appK K q bs else (301, K)
set_option maxRecDepth 100000 in
set_option maxHeartbeats 2000000 in
theorem append_any {w : World} {lo p n nc : Nat} {fl : Fl} {K : Tree} (h : SandAt w lo p n nc fl K) (hG : Gl w) (q : List UInt8) (hq : q.length ≤ 100000) (hn : n ≤ 100000) (hnc : nc ≤ 100000) (hl : fl.ok nc q ⟨#[]⟩) (bo : Option Addr) (bc : Nat) (bs : List UInt8)
    (hb : Sl w (.slice bo bs.length bc) (bv bs)) (hbl : bs.length ≤ 1000000) (hd : ∀ t, K q = some t → t.data.length ≤ 1000000) :
    Calls Tryz.prog 158 #[.pointer (some ⟨p, 0, none⟩), .string ⟨q.toArray⟩, .slice bo bs.length bc] w fun e w' =>
      ∃ n', e = .returned (.int .i64 (appendK K q bs).1) ∧ SandAt w' lo p n' (nc + 1) fl (appendK K q bs).2 ∧ n' ≤ n + 1 ∧ Lo lo w w' := by
  obtain ⟨b, fv, cv, KV, h⟩ := h
  obtain ⟨NB, hNB⟩ : ∃ NB, bs.length = NB := ⟨_, rfl⟩
  obtain ⟨wA, hwA⟩ : ∃ wA, wA = ((w.alloc (.cells #[.pointer (some ⟨p, 0, none⟩)] 31)).alloc (.cells #[.string ⟨q.toArray⟩] 9)).alloc (.cells #[.slice bo NB bc] 26) := ⟨_, rfl⟩
  have FA : Fr [] w wA := hwA ▸ (((Fr.refl _ _).alloc _).alloc _).alloc _
  have m0 : wA.cell? ⟨w.heap.size, 0, none⟩ = some (.pointer (some ⟨p, 0, none⟩)) := by
    have F : Fr [] (w.alloc (.cells #[.pointer (some ⟨p, 0, none⟩)] 31)) wA := hwA ▸ ((Fr.refl _ _).alloc _).alloc _
    rw [Go.Joins.cell_of_block ((F.block w.heap.size (by rw [World.size_alloc]; omega) (by simp)).trans (heap_alloc_new w _))]
    rfl
  have m1 : wA.cell? ⟨w.heap.size + 1, 0, none⟩ = some (.string ⟨q.toArray⟩) := by
    have F : Fr [] ((w.alloc (.cells #[.pointer (some ⟨p, 0, none⟩)] 31)).alloc (.cells #[.string ⟨q.toArray⟩] 9)) wA := hwA ▸ (Fr.refl _ _).alloc _
    have g := heap_alloc_new (w.alloc (.cells #[.pointer (some ⟨p, 0, none⟩)] 31)) (.cells #[.string ⟨q.toArray⟩] 9)
    rw [World.size_alloc] at g
    rw [Go.Joins.cell_of_block ((F.block (w.heap.size + 1) (by rw [World.size_alloc, World.size_alloc]; omega) (by simp)).trans g)]
    rfl
  have h2 : wA.heap[w.heap.size + 2]? = some (.cells #[.slice bo NB bc] 26 (0, 0)) := by
    have := heap_alloc_new ((w.alloc (.cells #[.pointer (some ⟨p, 0, none⟩)] 31)).alloc (.cells #[.string ⟨q.toArray⟩] 9)) (.cells #[.slice bo NB bc] 26)
    rw [World.size_alloc, World.size_alloc] at this
    rw [hwA]
    exact this
  have m2 : wA.cell? ⟨w.heap.size + 2, 0, none⟩ = some (.slice bo bs.length bc) := by rw [Go.Joins.cell_of_block h2, hNB]; rfl
  have l0 : w.heap.size + 2 < wA.heap.size := (Array.getElem?_eq_some_iff.1 h2).1
  have hA := h.fr0 FA
  obtain ⟨xs, hca⟩ := h.ca
  have hcv : ∀ i ∈ (p :: cv.ownBlock.toList), lo ≤ i := fun i hi => by
    rcases List.mem_cons.1 hi with rfl | hi
    · exact h.lp
    · exact (own_ltS hca i (by simpa using hi)).1
  have hlb := h.lb
  unfold appendK
  cases hc : cleanL foldL q with
  | false =>
    have HB := Lib.hid (call_bad hA (hG.fr FA) 4 q hq ⟨#[]⟩ (.func (.func 206) #[] #[.pointer (some ⟨w.heap.size, 0, none⟩), .pointer (some ⟨w.heap.size + 1, 0, none⟩), .pointer (some ⟨w.heap.size + 2, 0, none⟩)]) hc hnc hl.2)
    rw [if_neg (by simp)]
    rw [hNB]
    clear h hA hG hq hn hnc hl hc m0 m1 m2 hca hb hd hbl hNB
    go_enter Tryz.func158, Tryz.ntmps158
    go_wp2_with (go_at_call 109; rw [← hwA]; refine HB.out.mono ?_; rintro e w1 ⟨rfl, ⟨cv', hS⟩, F1⟩)
    go_ret
    exact ⟨n, rfl, ⟨_, _, _, _, hS⟩, Nat.le_succ _, (Lo.of0 FA).trans F1⟩
  | true =>
    rw [if_pos rfl]
    have HD := Lib.hid (call_do hA (hG.fr FA) 4 (by decide) q hq ⟨#[]⟩ 206 #[.pointer (some ⟨w.heap.size, 0, none⟩), .pointer (some ⟨w.heap.size + 1, 0, none⟩), .pointer (some ⟨w.heap.size + 2, 0, none⟩)] (enters_of Tryz.func206 (by kernel_rfl) rfl) hc hl hnc
      (fun c n' K' w2 => c = (appK K q bs).1 ∧ K' = (appK K q bs).2 ∧ n' ≤ n + 1 ∧ Lo lo w w2)
      (fun wx F => (append_body (hA.fr0 F) q hq hn w.heap.size (w.heap.size + 1) (w.heap.size + 2) bo bc bs ((F.cell (p := ⟨w.heap.size, 0, none⟩) (by show w.heap.size < _; omega) (by simp)).trans m0) ((F.cell (p := ⟨w.heap.size + 1, 0, none⟩) (by show w.heap.size + 1 < _; omega) (by simp)).trans m1) ((F.cell (p := ⟨w.heap.size + 2, 0, none⟩) l0 (by simp)).trans m2) (hb.fr0 (FA.trans0 F)) hbl hd).mono (fun e w2 hh => by
        obtain ⟨n', KV', q1, q2, q3, q4⟩ := hh
        exact ⟨_, b, n', KV', _, q1, q2, rfl, rfl, q3, ((Lo.of0 FA).trans (Lo.of0 F)).trans (SandIn.lob (hA.fr0 F) q4)⟩)))
    rw [hNB]
    generalize appK K q bs = AK at *
    clear h hA hG hq hn hnc hl hc m0 m1 m2 hca hb hd hbl hNB
    go_enter Tryz.func158, Tryz.ntmps158
    go_wp2_with (go_at_call 109; rw [← hwA]; refine HD.out.mono ?_; rintro e w1 ⟨c, b', n', KV', K', w2, cv', ⟨rfl, rfl, hn', hfr⟩, rfl, hS, F1⟩)
    go_ret
    exact ⟨n', rfl, ⟨_, _, _, _, hS⟩, hn', hfr.trans F1⟩
end Go.Proofs.YthbkcjlpelihlaaGreatDoor
/- A tree laid over a directory, and dropped: the plain law. No condition. -/
namespace Go.Proofs.YthbkcjlpelihlaaGreatDoor

def treeL (ks : List (List UInt8)) (top : List UInt8) : List (List UInt8) := ks.filter fun p => withinB p top
theorem treeL_snoc {ks : List (List UInt8)} {k : Nat} {x top : List UInt8} (h : ks[k]? = some x) : treeL (ks.take (k + 1)) top = treeL (ks.take k) top ++ (if withinB x top then [x] else []) := by
  unfold treeL
  rw [List.take_add_one, h, List.filter_append]
  simp [List.filter_cons]
/-- Where a path of a tree is laid. -/
def placeL (fr to_ p : List UInt8) : List UInt8 := to_ ++ p.drop fr.length
/-- May a thing be laid there? -/
def layBad (N : Tree) (t : Tv) (pl : List UInt8) : Bool := !cleanL foldL pl || ((N pl).isSome && decide (kindK N pl ≠ t.kind)) || (decide (t.kind = 3) && (N pl).isSome) || !liesK N pl
def layStep (K : Tree) (fr to_ : List UInt8) (N : Tree) (p : List UInt8) : Option Tree := match K p with
  | none => none
  | some t => if layBad N t (placeL fr to_ p) then none else some (if decide (t.kind ≠ 1) || !(N (placeL fr to_ p)).isSome then updK N (placeL fr to_ p) t else N)
def layGo (K : Tree) (fr to_ : List UInt8) : List (List UInt8) → Tree → Option Tree
  | [], N => some N
  | p :: r, N => match layStep K fr to_ N p with
    | none => none
    | some N' => layGo K fr to_ r N'
def layNo (K : Tree) (fr to_ : List UInt8) : Bool := decide (kindK K fr ≠ 1) || decide (kindK K to_ ≠ 1) || (fr == to_) || withinB to_ fr
def layK (K : Tree) (fr to_ : List UInt8) (ks : List (List UInt8)) : Option Tree := if layNo K fr to_ then none else layGo K fr to_ (treeL ks fr) (dropK K fr)

theorem layGo_snoc (K : Tree) (fr to_ : List UInt8) (p : List UInt8) : ∀ (r : List (List UInt8)) (N : Tree), layGo K fr to_ (r ++ [p]) N = (layGo K fr to_ r N).bind fun N' => layStep K fr to_ N' p
  | [], N => by
    show (match layStep K fr to_ N p with | none => none | some N' => some N') = layStep K fr to_ N p
    cases layStep K fr to_ N p <;> rfl
  | a :: r, N => by
    show (match layStep K fr to_ N a with | none => none | some N' => layGo K fr to_ (r ++ [p]) N') = (match layStep K fr to_ N a with | none => none | some N' => layGo K fr to_ r N').bind _
    cases layStep K fr to_ N a with
    | none => rfl
    | some N' => exact layGo_snoc K fr to_ p r N'
theorem layGo_none {K : Tree} {fr to_ : List UInt8} {p : List UInt8} {ks : List (List UInt8)} {k : Nat} {N N' : Tree} (hk : ks[k]? = some p) (h : layGo K fr to_ (ks.take k) N = some N') (hs : layStep K fr to_ N' p = none) : layGo K fr to_ ks N = none := by
  have h1 : layGo K fr to_ (ks.take (k + 1)) N = none := by
    rw [List.take_add_one, hk]
    show layGo K fr to_ (_ ++ [p]) N = none
    rw [layGo_snoc, h]
    exact hs
  have key : ∀ (a r : List (List UInt8)) (M : Tree), layGo K fr to_ a M = none → layGo K fr to_ (a ++ r) M = none := by
    intro a
    induction a with
    | nil => intro r M h; cases h
    | cons x a ih =>
      intro r M h
      show (match layStep K fr to_ M x with | none => none | some N' => layGo K fr to_ (a ++ r) N') = none
      have h' : (match layStep K fr to_ M x with | none => none | some N' => layGo K fr to_ a N') = none := h
      cases hx : layStep K fr to_ M x with
      | none => rfl
      | some M' =>
        rw [hx] at h'
        exact ih r M' h'
  have := key _ (ks.drop (k + 1)) N h1
  rwa [List.take_append_drop] at this
/-- Dropped path by path. -/
def delsK (N : Tree) (ps : List (List UInt8)) : Tree := ps.foldl delK N
theorem dels_at (ps : List (List UInt8)) : ∀ (N : Tree) (q : List UInt8), delsK N ps q = if q ∈ ps then none else N q := by
  induction ps with
  | nil => intro N q; simp [delsK]
  | cons p r ih =>
    intro N q
    show delsK (delK N p) r q = _
    rw [ih]
    unfold delK
    by_cases h1 : q ∈ r
    · simp [h1]
    · by_cases h2 : q = p
      · simp [h2]
      · simp [h1, h2]
theorem dels_snoc (N : Tree) (ps : List (List UInt8)) (p : List UInt8) : delsK N (ps ++ [p]) = delK (delsK N ps) p := by simp [delsK, List.foldl_append]
/-- All paths of the tree, and its top: the tree is dropped. -/
theorem dels_drop {K : Tree} {ks : List (List UInt8)} (hm : ∀ p, p ∈ ks ↔ (K p).isSome = true) (top : List UInt8) : delsK K (treeL ks top ++ [top]) = dropK K top := by
  funext q
  rw [dels_at]
  unfold dropK treeL
  by_cases h1 : q = top
  · simp [h1]
  · by_cases h2 : withinB q top = true
    · simp only [List.mem_append, List.mem_filter, List.mem_singleton, h1, h2, and_true, or_false]
      split
      · rfl
      · rename_i hn
        rw [hm] at hn
        cases hq : K q with
        | none => rfl
        | some t => rw [hq] at hn; exact absurd rfl hn
    · simp [h1, h2]
/-- Rising lists without twins that hold the same are the same. -/
theorem sorted_eq : ∀ {a b : List (List UInt8)}, a.Nodup → b.Nodup → a.Pairwise (fun x y => x ≤ y) → b.Pairwise (fun x y => x ≤ y) → (∀ p, p ∈ a ↔ p ∈ b) → a = b := by
  intro a b ha hb sa sb hm
  have hp : a.Perm b := (List.perm_ext_iff_of_nodup ha hb).2 hm
  exact hp.eq_of_pairwise (le := fun x y => x ≤ y) (fun x y _ _ h1 h2 => List.le_antisymm h1 h2) sa sb
end Go.Proofs.YthbkcjlpelihlaaGreatDoor
/- 'append(v, x)' of one text: the old slice still reads as it did. No condition. -/
namespace Go.Proofs.YthbkcjlpelihlaaGreatDoor
open Go.RowKit Go.Maps

theorem run_append_keep (w : World) (base : Nat) (ty : TypeId) (v : Value) (n : Nat) (xs : List Value) (hown : w.ownsRow base 9 1 v n xs) (u : Value) (g c : Nat) (hc : w.cell? ⟨g, 0, none⟩ = some u) (h1 : u.oneCell' = true) (hn : n ≤ 1000000) (hbase : base ≤ w.heap.size) :
    ∃ v' w', (Builtin.append_ #[57, 57] ty #[v, .slice (some ⟨g, 0, none⟩) 1 c]).run Tryz.prog w = .ok v' w' ∧ w'.ownsRow base 9 1 v' (n + 1) (xs ++ [u]) ∧ Sl w' v xs ∧ w.grownBy w' v.ownBlock := by
  obtain ⟨i, hi, hz, hsz, hby⟩ := (sty_string).info
  have hT := (sty_string).under
  have hz1 := (sty_string).one
  have hnews : ∀ j x, [u][j]? = some x → w.cell? ((⟨g, 0, none⟩ : Addr).add j) = some x := by
    intro j x hj
    match j, hj with
    | 0, hj =>
      simp at hj
      subst hj
      have e0 : (⟨g, 0, none⟩ : Addr).add 0 = ⟨g, 0, none⟩ := rfl
      rw [e0]
      exact hc
  have hones : ∀ x ∈ [u], x.oneCell' = true := by
    intro x hx
    simp at hx
    subst hx
    exact h1
  obtain ⟨v', w', hr, own, gr, -⟩ := run_append_own (P := Tryz.prog) w base 57 ty 9 i (.string ⟨#[]⟩) 1 16 hT hi hz hsz hby hz1 (by decide) v n xs hown ⟨g, 0, none⟩ 1 c [u] (by simp) hnews hones (by unfold maxLen; omega) (by omega) hbase
  refine ⟨v', w', hr, own, ?_, gr⟩
  have hxl : xs.length = n := by have := hown.1; omega
  rcases hown.2 with ⟨rfl, rfl⟩ | ⟨gb, cap, cur, rfl, hbg, hg, hnc, hcm, hcs, htake⟩
  · have hx : xs = [] := List.eq_nil_of_length_eq_zero hxl
    subst hx
    exact Sl.nil _
  · by_cases hroom : n + 1 ≤ cap
    · have hr2 := run_append_room (P := Tryz.prog) w 57 ty 9 i hT hi gb n cap cur hg ⟨g, 0, none⟩ 1 c [u] (by rw [hsz]; rfl) hnews hones hroom (by rw [hsz, hcs]; simp; omega)
      rw [hr] at hr2
      injection hr2 with e1 e2
      have hS := Sl.of_own own
      rw [e1] at hS
      have := Sl.first hS n (by omega)
      rw [List.take_left' hxl] at this
      exact this
    · have holds : ∀ j x, xs[j]? = some x → w.cell? ((⟨gb, 0, none⟩ : Addr).add j) = some x := hown.cells (g := gb) rfl
      have hr2 := run_append_grow (P := Tryz.prog) w 57 ty 9 i (.string ⟨#[]⟩) hT hi hz ⟨gb, 0, none⟩ n cap xs (by rw [hsz]; omega) holds ⟨g, 0, none⟩ 1 c [u] (by rw [hsz]; rfl) hnews (by omega) (by omega) (growslice_fits (by omega) (by rw [hby]; omega))
      rw [hr] at hr2
      injection hr2 with e1 e2
      have F : Fr [] w w' := by rw [e2]; exact ((Fr.refl _ _).drew).alloc _
      exact (Sl.of_own hown).fr0 F
/-- At the operation. -/
theorem wpList_append_keep {w : World} {ops : Array Oper} {rest : List Oper} {o : Oper} {a : Act} {Q : Exit → Act → World → Prop} (hgd : o.guard = none) (s x : Operand)
    (ho : o.op = .call { callee := .builtin .append, args := #[s, x], argTypes := #[57, 57] })
    (base : Nat) (v : Value) (n : Nat) (xs : List Value) (hs : a.eval s = v) (hown : w.ownsRow base 9 1 v n xs) (u : Value) (g c : Nat) (hx : a.eval x = .slice (some ⟨g, 0, none⟩) 1 c) (hc : w.cell? ⟨g, 0, none⟩ = some u) (h1 : u.oneCell' = true) (hn : n ≤ 1000000) (hbase : base ≤ w.heap.size)
    (h : ∀ v' w', w'.ownsRow base 9 1 v' (n + 1) (xs ++ [u]) → Sl w' v xs → w.grownBy w' v.ownBlock → wpList Tryz.prog ops Q rest (a.put o.dst v') w') : wpList Tryz.prog ops Q (o :: rest) a w := by
  refine wpList_plain hgd fun K hK => ?_
  obtain ⟨v', w', hr, h2, h3, h4⟩ := run_append_keep w base o.type v n xs hown u g c hc h1 hn hbase
  unfold Oper.wp execOp
  simp only [ho, resolve, invoke, builtin, Sem.run_bind, Sem.run_pure, Result.andThen_ok, List.map_toArray, List.map_cons, List.map_nil, hs, hx, hr]
  exact hK _ _ (h v' w' h2 h3 h4)
/-- As one step of a region that draws its order. -/
theorem step_append_keep {w : World} {ops : Array Oper} {o : Oper} {a : Act} {K : Act → World → Prop} {Q : Exit → Act → World → Prop} {E : Prop} (hgd : o.guard = none) (s x : Operand)
    (ho : o.op = .call { callee := .builtin .append, args := #[s, x], argTypes := #[57, 57] })
    (base : Nat) (v : Value) (n : Nat) (xs : List Value) (hs : a.eval s = v) (hown : w.ownsRow base 9 1 v n xs) (u : Value) (g c : Nat) (hx : a.eval x = .slice (some ⟨g, 0, none⟩) 1 c) (hc : w.cell? ⟨g, 0, none⟩ = some u) (h1 : u.oneCell' = true) (hn : n ≤ 1000000) (hbase : base ≤ w.heap.size)
    (h : ∀ v' w', w'.ownsRow base 9 1 v' (n + 1) (xs ++ [u]) → Sl w' v xs → w.grownBy w' v.ownBlock → K (a.put o.dst v') w') :
    if Region.wanted o (yielded ops a.tmps) = true then Oper.wp Tryz.prog o a w K Q else E := by
  have hw : Region.wanted o (yielded ops a.tmps) = true := by simp [Region.wanted, hgd]
  rw [if_pos hw]
  obtain ⟨v', w', hr, h2, h3, h4⟩ := run_append_keep w base o.type v n xs hown u g c hc h1 hn hbase
  unfold Oper.wp execOp
  simp only [ho, resolve, invoke, builtin, Sem.run_bind, Sem.run_pure, Result.andThen_ok, List.map_toArray, List.map_cons, List.map_nil, hs, hx, hr]
  exact h v' w' h2 h3 h4
end Go.Proofs.YthbkcjlpelihlaaGreatDoor
/- Contract: tree. No condition but that lengths fit. -/
namespace Go.Proofs.YthbkcjlpelihlaaGreatDoor
open Go.RowKit Go.Maps

theorem KeysAre.tree {w : World} {lo : Nat} {KV : List UInt8 → Option Value} {K : Tree} {ks : List (List UInt8)} (h : KeysAre KV ks) (r : Reads w lo KV K) : KeysAre K ks := ⟨h.nd, fun p => by rw [h.mem, r.is], h.so⟩
set_option maxRecDepth 100000 in
set_option maxHeartbeats 2000000 in
theorem tree_any {w : World} {lo p b : Nat} {fv cv : Value} {n nc : Nat} {fl : Fl} {KV : List UInt8 → Option Value} {K : Tree} (h : SandIn w lo p b fv cv n nc fl KV K) (top : List UInt8) (ht : top.length ≤ 100000) (hn : n ≤ 100000) :
    Calls Tryz.prog 111 #[.pointer (some ⟨p, 0, none⟩), .string ⟨top.toArray⟩] w fun e w' => ∃ v ks, e = .returned v ∧ KeysAre K ks ∧ ks.length ≤ n ∧ w'.ownsRow w.heap.size 9 1 v (treeL ks top).length (stv (treeL ks top)) ∧ Fr [] w w' := by
  obtain ⟨c0, -, -⟩ := h.cells
  have HK := Lib.hid (keys_any w b)
  have F0 : Fr [] w (w.alloc (.cells #[.map (some b)] 78)) := (Fr.refl _ _).alloc _
  have HS := Lib.hid (sorted_any (w.alloc (.cells #[.map (some b)] 78)) w.heap.size b n KV (by rw [World.size_alloc]; omega) (by rw [Go.Joins.cell_of_block (heap_alloc_new w _)]; rfl) (h.mp.fr F0 (by simp)) (by omega))
  have HRD := Lib.hid h.rd
  clear h
  go_enter Tryz.func111, Tryz.ntmps111
  go_wp2_with (first
    | (go_at_call 31; refine HS.out.mono ?_; rintro e w1 ⟨v, ks, rfl, own, hks, hln, F1⟩; obtain ⟨ao, cap, rfl, -⟩ := own_outS own)
    | (go_at_call 32; refine HK.out.mono ?_; rintro e w' ⟨rfl, rfl⟩))
  have HSl := Lib.hid (Sl.of_own own)
  have HKA := Lib.hid (hks.tree HRD.out)
  have HLN := Lib.hid hln
  have F01 : Fr [] w w1 := F0.trans0 F1
  clear own hks hln F0 F1
  go_loopw [5, 15] (fun v iv wr => ∃ k : Nat, k ≤ ks.length ∧ iv = .int .i64 (k : Int) ∧ wr.ownsRow w1.heap.size 9 1 v (treeL (ks.take k) top).length (stv (treeL (ks.take k) top)) ∧ Fr [] w1 wr) (fun _ i _ => ks.length - (intOf i).toNat)
  case atStart => exact ⟨0, Nat.zero_le _, rfl, World.ownsRow_nil _ _ _ _, Fr.refl _ _⟩
  case round =>
    obtain ⟨k, hk, rfl, own, F1⟩ := hrel
    have hkb : ks.length ≤ 100000 := Nat.le_trans HLN.out hn
    by_cases hlt : k < ks.length
    · obtain ⟨x, hx⟩ := some_get ks k hlt
      obtain ⟨ao', cap', e', -, -, hcl⟩ := HSl.out.out
      rw [stv_len] at e' hcl
      obtain ⟨bb, oo, rfl, hbb, hcell⟩ := hcl k hlt
      injection e' with e1 e2 e3
      subst e1
      clear e2 e3 hcl
      have cw : wr.cell? ⟨bb, oo + k, none⟩ = some (.string ⟨x.toArray⟩) := ((F1.cell (p := ⟨bb, oo + k, none⟩) hbb (by simp)).trans (hcell k hlt)).trans (stv_get hx)
      have hltI : (k : Int) < (ks.length : Int) := by omega
      obtain ⟨vo, vc, rfl, -⟩ := own_outS own
      have HW := Lib.hid (within_any wr x top ht)
      have HSN := Lib.hid (treeL_snoc (top := top) hx)
      cases hb : withinB x top with
      | false =>
        rw [hb] at HW HSN
        go_wp2_with (go_at_call 161; refine HW.out.mono ?_; rintro e w2 ⟨rfl, rfl⟩)
        go_roundw
        case rel =>
          exact ⟨k + 1, by omega, by go_num, by rw [HSN.out]; simpa using own, F1⟩
        case measure => simp [intOf]; omega
      | true =>
        rw [hb] at HW HSN
        have HOW := Lib.hid own
        have hlen : (treeL (ks.take k) top).length ≤ 100000 := Nat.le_trans (List.length_filter_le _ _) (by rw [List.length_take]; have := HLN.out; omega)
        have HLE := Lib.hid hlen
        clear own hlen
        go_wp2_with (first
          | (at_builtin; refine wpList_append_sl sty_string rfl _ _ (by rfl) w1.heap.size _ _ _ (by rfl) (own_frB HOW.out ((Fr.refl [] _).alloc _) (by simp)) _ [.string ⟨x.toArray⟩] (by rfl) (sl_one _ _ _) (by intro u hu; simp at hu; subst hu; rfl) (by have := HLE.out; simp; omega) (by have := HLE.out; simp; omega) (by have := F1.size; simp; omega) ?_; intro v2 w3 own3 g3; have G3 : Fr [] w1 w3 := (F1.alloc _).grown g3 (fun j hj => .inr (own_ltS HOW.out j hj).1); obtain ⟨vo2, vc2, rfl, -⟩ := own_outS own3)
          | (go_at_call 161; refine HW.out.mono ?_; rintro e w2 ⟨rfl, rfl⟩))
        go_roundw
        case rel => exact ⟨k + 1, by omega, by go_num, by rw [HSN.out, if_pos trivial, stv_snoc, List.length_append]; exact own3, G3⟩
        case measure => simp [intOf]; omega
    · have hke : k = ks.length := by omega
      subst hke
      rw [List.take_length] at own
      have hltI : ¬ (ks.length : Int) < (ks.length : Int) := by omega
      go_wp2_with fail
      go_ret
      exact ⟨_, rfl, ks, HKA.out, HLN.out, own_mono own F01.size, F01.trans0 F1⟩
end Go.Proofs.YthbkcjlpelihlaaGreatDoor
