/- SandStays: the walk. No condition. -/
import Derived.Test.YtjeblccboeljnaaGreatDoorYFail
import Derived.Test.YtjeblccboeljnaaGreatDoorYUndW
import Derived.Deep.DeepCutAuto
import Derived.Deep.RegionHeld3
import Derived.Deep.RegionHeld
namespace Go.Proofs.YtjeblccboeljnaaGreatDoor
open Go.RowKit Go.Maps

/-- Where a call's second tree stands. -/
def toD (d : Dv) : List UInt8 := if d.kind = 5 then d.to_ else d.path
theorem DoRel.still {K K' : Tree} {d : Dv} {a c : Int} (h : DoRel K d a c K') (hc : ¬ c = 0) : K' = K := by
  rcases h with ⟨-, -, -, rfl⟩ | ⟨-, -, rfl, rfl⟩ | ⟨-, -, rfl, rfl⟩ | ⟨-, -, rfl, rfl⟩ | ⟨-, -, ks, -, rfl, rfl⟩ | ⟨-, -, -, -, -, -, rfl, rfl⟩
  · rfl
  · exact mk_else hc
  · exact mk_else hc
  · unfold appendK at hc ⊢
    split
    · rename_i h1
      rw [if_pos h1] at hc
      unfold appK at hc ⊢
      split
      · rename_i t ht
        rw [ht] at hc
        dsimp only at hc
        split
        · rename_i h2
          rw [if_pos h2] at hc
          exact absurd rfl hc
        · rfl
      · rfl
    · rfl
  · unfold publishK at hc ⊢
    split
    · rename_i h1
      rw [if_pos h1] at hc
      unfold pubK at hc ⊢
      split
      · rename_i N hN
        rw [hN] at hc
        exact absurd rfl hc
      · rfl
    · rfl
  · unfold dropA at hc ⊢
    split
    · rename_i h1
      rw [if_pos h1] at hc
      unfold drpK at hc ⊢
      split
      · rename_i h2
        rw [if_pos h2] at hc
        exact absurd rfl hc
      · rfl
    · rfl
theorem upd_stay {K : Tree} {p q : List UInt8} {t : Tv} (h : q ≠ p) : updK K p t q = K q := by unfold updK; rw [if_neg h]
theorem DoRel.stays {K K' : Tree} {d : Dv} {a c : Int} (h : DoRel K d a c K') {q : List UInt8} (h1 : q ≠ d.path) (h3 : withinB q d.path = false) (h4 : withinB q (toD d) = false) : K' q = K q := by
  rcases h with ⟨-, -, -, rfl⟩ | ⟨-, -, rfl, rfl⟩ | ⟨-, -, rfl, rfl⟩ | ⟨-, -, rfl, rfl⟩ | ⟨hk, -, ks, -, rfl, rfl⟩ | ⟨-, -, -, -, -, -, rfl, rfl⟩
  · rfl
  · unfold mkK
    split
    · rfl
    · split
      · rfl
      · exact upd_stay h1
  · unfold mkK
    split
    · rfl
    · split
      · rfl
      · exact upd_stay h1
  · unfold appendK
    split
    · unfold appK
      split
      · split
        · exact upd_stay h1
        · rfl
      · rfl
    · rfl
  · unfold toD at h4
    rw [if_pos hk] at h4
    unfold publishK
    split
    · unfold pubK
      split
      · rename_i N hN
        exact lay_out hN q h1 h3 h4
      · rfl
    · rfl
  · unfold dropA
    split
    · unfold drpK
      split
      · show dropK K d.path q = K q
        unfold dropK
        rw [if_neg]
        rintro (h | h)
        · exact h1 h
        · rw [h3] at h; cases h
      · rfl
    · rfl
theorem links_self {K : Tree} {ks : List (List UInt8)} (hm : ∀ p, p ∈ ks ↔ (K p).isSome = true) : LinkIn K (linksK K ks) := fun p hp => by
  obtain ⟨t, ht, -⟩ := kindK_some hp (by decide)
  exact List.mem_filter.2 ⟨(hm p).2 (by rw [ht]; rfl), by rw [hp]; rfl⟩
theorem DoRel.links {K K' : Tree} {d : Dv} {a c : Int} (h : DoRel K d a c K') {ks : List (List UInt8)} (hm : ∀ p, p ∈ ks ↔ (K p).isSome = true) : ∃ l, LinkIn K' l ∧ l.length ≤ (linksK K ks).length := by
  have hs := links_self hm
  rcases h with ⟨-, -, -, rfl⟩ | ⟨-, -, rfl, rfl⟩ | ⟨-, -, rfl, rfl⟩ | ⟨-, -, rfl, rfl⟩ | ⟨hk, -, ks0, hk0, rfl, rfl⟩ | ⟨-, -, -, -, -, -, rfl, rfl⟩
  · exact ⟨_, hs, Nat.le_refl _⟩
  · refine ⟨_, ?_, Nat.le_refl (linksK K ks).length⟩
    unfold mkK
    split
    · exact hs
    · split
      · exact hs
      · exact hs.upd _ _ (by decide)
  · refine ⟨_, ?_, Nat.le_refl (linksK K ks).length⟩
    unfold mkK
    split
    · exact hs
    · split
      · exact hs
      · exact hs.upd _ _ (by decide)
  · refine ⟨_, ?_, Nat.le_refl (linksK K ks).length⟩
    unfold appendK
    split
    · unfold appK
      split
      · split
        · exact hs.upd _ _ (fun h => absurd h (show ¬ (2 : Int) = 3 by decide))
        · exact hs
      · exact hs
    · exact hs
  · unfold publishK
    split
    · unfold pubK
      split
      · rename_i N hN
        obtain ⟨l, h1, h2⟩ := lay_links hk0.mem hN
        exact ⟨l, h1, Nat.le_trans h2 (link_count hs hk0.nd)⟩
      · exact ⟨_, hs, Nat.le_refl _⟩
    · exact ⟨_, hs, Nat.le_refl _⟩
  · refine ⟨_, ?_, Nat.le_refl (linksK K ks).length⟩
    unfold dropA
    split
    · unfold drpK
      split
      · exact hs.drop _
      · exact hs
    · exact hs
/-- How many links a list holds. -/
def linkN (L : List Th) : Nat := (L.filter fun t => decide (t.tv.kind = 3)).length
theorem linkN_snoc {L : List Th} {k : Nat} {t : Th} (h : L[k]? = some t) : linkN (L.take (k + 1)) = linkN (L.take k) + (if t.tv.kind = 3 then 1 else 0) := by
  unfold linkN
  rw [List.take_add_one, h, List.filter_append, List.length_append]
  congr 1
  show ((List.filter (fun t => decide (t.tv.kind = 3)) [t])).length = _
  rw [List.filter_cons]
  by_cases h3 : t.tv.kind = 3 <;> simp [h3]
theorem linkN_paths {L : List Th} (hn : (L.map (·.path)).Nodup) : linkN L = (linksK (lookL L) (L.map (·.path))).length := by
  unfold linkN linksK
  rw [List.filter_map, List.length_map]
  congr 1
  apply List.filter_congr
  intro t ht
  obtain ⟨i, hi⟩ := List.getElem?_of_mem ht
  have := look_at hn hi
  show _ = decide (kindK (lookL L) t.path = 3)
  rw [kind_of this]
theorem linkN_le {L X : List Th} {K' : Tree} {d : Dv} {a c : Int} (hL : (L.map (·.path)).Nodup) (hX : (X.map (·.path)).Nodup) (hK : lookL X = K') (h : DoRel (lookL L) d a c K') : linkN X ≤ linkN L := by
  obtain ⟨l, h1, h2⟩ := h.links (ks := L.map (·.path)) (fun p => look_mem.symm)
  rw [linkN_paths hX, linkN_paths hL, hK]
  exact Nat.le_trans (link_count h1 hX) h2
theorem arr_get {α : Type} (l : List α) (i : Nat) (x : α) (h : l[i]? = some x) : l.toArray[i]? = some x := by simpa using h
/-- One thing, in a block of its own. -/
theorem ThAt.one {w : World} {b : Nat} {t : Th} {da : Option Addr} {dc : Nat} (hb : w.heap[b]? = some (.cells #[.string ⟨t.path.toArray⟩, .int .i64 t.tv.kind, .slice da t.tv.data.length dc, .string ⟨t.tv.ln.toArray⟩] 41 (0, 0))) (hs : Sl w (.slice da t.tv.data.length dc) (bv t.tv.data)) :
    ThAt w w.heap.size (.slice (some ⟨b, 0, none⟩) 1 1) [t] := by
  have lb := (Array.getElem?_eq_some_iff.1 hb).1
  refine ⟨_, 1, rfl, by simp, by simp, fun j s hj => ?_⟩
  match j, hj with
  | 0, hj =>
    obtain rfl : t = s := by simpa using hj
    have key : ∀ k, w.cell? ⟨b, k, none⟩ = (#[.string ⟨t.path.toArray⟩, .int .i64 t.tv.kind, .slice da t.tv.data.length dc, .string ⟨t.tv.ln.toArray⟩] : Array Value)[k]? := Go.Joins.cell_of_block hb
    exact ⟨b, 0, da, dc, rfl, lb, lb, key 0, key 1, key 2, key 3, hs, hs.room⟩
theorem DosAt.one {w : World} {b : Nat} {t : Dv} {da : Option Addr} {dc : Nat} (hb : w.heap[b]? = some (.cells #[.int .i64 t.kind, .string ⟨t.path.toArray⟩, .string ⟨t.to_.toArray⟩, .slice da t.by_.length dc] 26 (0, 0))) (hs : Sl w (.slice da t.by_.length dc) (bv t.by_)) :
    DosAt w w.heap.size (.slice (some ⟨b, 0, none⟩) 1 1) [t] := by
  have lb := (Array.getElem?_eq_some_iff.1 hb).1
  refine ⟨_, 1, rfl, by simp, by simp, fun j s hj => ?_⟩
  match j, hj with
  | 0, hj =>
    obtain rfl : t = s := by simpa using hj
    have key : ∀ k, w.cell? ⟨b, k, none⟩ = (#[.int .i64 t.kind, .string ⟨t.path.toArray⟩, .string ⟨t.to_.toArray⟩, .slice da t.by_.length dc] : Array Value)[k]? := Go.Joins.cell_of_block hb
    exact ⟨b, 0, da, dc, rfl, lb, lb, key 0, key 1, key 2, key 3, hs, hs.room⟩
/-- A call, whether it fails or not. -/
theorem do_tot {w : World} {lo p n : Nat} {fl : List Bool} {K : Tree} (h : SandAt w lo p n 0 fl K) (hKM : MayK K) (hD : DatK K 5000) (hG : Gl w) (hn : n ≤ 60) (d : Dv) (bo : Option Addr) (bc : Nat) (hb : Sl w (.slice bo d.by_.length bc) (bv d.by_))
    (h1 : d.path.length ≤ 1500) (h2 : d.to_.length ≤ 1500) (h3 : d.by_.length ≤ 2000) :
    Calls Tryz.prog 11 #[.pointer (some ⟨p, 0, none⟩), .agg #[.int .i64 d.kind, .string ⟨d.path.toArray⟩, .string ⟨d.to_.toArray⟩, .slice bo d.by_.length bc]] w fun e w' =>
      ∃ a c K', e = .returned (.tuple #[.int .i64 a, .int .i64 c]) ∧ (¬ c = 0 → K' = K) ∧ (c = 0 → DoRel K d a c K') ∧ SandAt w' lo p (n + 1) 1 fl K' ∧ MayK K' ∧ DatK K' 7000 ∧ Lo lo w w' := by
  cases hf : fl.getD 0 false with
  | true =>
    refine (do_fail h hG (by decide) hf d bo bc (by omega) (by omega)).mono ?_
    rintro e w' ⟨c, hc, rfl, hS, hL⟩
    exact ⟨0, c, K, rfl, fun _ => rfl, fun h0 => absurd h0 hc, hS.mono (by omega), hKM, hD.mono (by decide), hL⟩
  | false =>
    refine (do_any h hKM hD (by decide) hG (by omega) (by decide) hf d bo bc hb (by omega) (by omega) (by omega)).mono ?_
    rintro e w' ⟨a, c, K', rfl, hR, hS, hL⟩
    exact ⟨a, c, K', rfl, fun hc => hR.still hc, fun _ => hR, hS, hR.may hKM, hR.dat hD h3, hL⟩
set_option maxRecDepth 100000 in
set_option maxHeartbeats 4000000 in
theorem kind_any (w : World) (d : Dv) (bo : Option Addr) (n bc : Nat) : Calls Tryz.prog 14 #[.agg #[.int .i64 d.kind, .string ⟨d.path.toArray⟩, .string ⟨d.to_.toArray⟩, .slice bo n bc]] w fun e w' => e = .returned (.int .i64 (if d.kind < 1 ∨ 5 < d.kind then 6 else d.kind)) ∧ Fr [] w w' := by
  obtain ⟨kd, q, to_, bs⟩ := d
  dsimp only
  have FA : Fr [] w (w.alloc (.cells #[.int .i64 kd, .string ⟨q.toArray⟩, .string ⟨to_.toArray⟩, .slice bo n bc] 26)) := (Fr.refl _ _).alloc _
  by_cases h1 : kd < 1
  · rw [if_pos (.inl h1)]
    go_enter Tryz.func14, Tryz.ntmps14
    go_wp2_with fail
    go_ret
    exact ⟨rfl, FA⟩
  · by_cases h2 : 5 < kd
    · rw [if_pos (.inr h2)]
      go_enter Tryz.func14, Tryz.ntmps14
      go_wp2_with fail
      go_ret
      exact ⟨rfl, FA⟩
    · rw [if_neg (by omega)]
      go_enter Tryz.func14, Tryz.ntmps14
      go_wp2_with fail
      go_ret
      exact ⟨rfl, FA⟩
set_option maxRecDepth 100000 in
set_option maxHeartbeats 40000000 in
theorem walk_SandStays (W : World) (v : Value) (L : List Th) (u : Value) (fl : List Bool) (d : Dv) (bo : Option Addr) (bc : Nat) (hG : Gl W) (h : ThAt W W.heap.size v L) (g : Sl W u (tv fl)) (hfl : fl.length ≤ 140737488355328) (hb : Sl W (.slice bo d.by_.length bc) (bv d.by_)) :
    Calls Tryz.prog 3 #[v, u, .agg #[.int .i64 d.kind, .string ⟨d.path.toArray⟩, .string ⟨d.to_.toArray⟩, .slice bo d.by_.length bc]] W fun e w' => e = .returned (.bool true) ∧ Fr [] W w' := by
  obtain ⟨ao, cap, rfl, -, -⟩ := h.out
  obtain ⟨fo, fc, rfl, -, -⟩ := g.out
  rw [tv_length] at g ⊢
  obtain ⟨NB, hNB⟩ : ∃ NB, d.by_.length = NB := ⟨_, rfl⟩
  obtain ⟨FN, hFN⟩ : ∃ FN, fl.length = FN := ⟨_, rfl⟩
  obtain ⟨N, hN⟩ : ∃ N, L.length = N := ⟨_, rfl⟩
  have HT := Lib.hid h
  have HF := Lib.hid g
  have HFL := Lib.hid hfl
  have HB := Lib.hid hb
  have HG := Lib.hid hG
  have HN := Lib.hid hN
  have HFN := Lib.hid hFN
  have HNB := Lib.hid hNB
  have hnot : ∀ (x : Bool) (w : World), (Op.unary .not (.bool x)).run Tryz.prog w = .ok (.bool (!x)) w := fun _ _ => rfl
  rw [hN] at HT ⊢
  rw [hFN] at HF ⊢
  rw [hNB] at HB ⊢
  obtain ⟨w0, hw0⟩ : ∃ w0, w0 = W.alloc (.cells #[.int .i64 d.kind, .string ⟨d.path.toArray⟩, .string ⟨d.to_.toArray⟩, .slice bo NB bc] 26) := ⟨_, rfl⟩
  have F0 : Fr [] W w0 := hw0 ▸ (Fr.refl _ _).alloc _
  have gd : w0.heap[W.heap.size]? = some (.cells #[.int .i64 d.kind, .string ⟨d.path.toArray⟩, .string ⟨d.to_.toArray⟩, .slice bo NB bc] 26 (0, 0)) := by rw [hw0]; exact heap_alloc_new W _
  have ld : W.heap.size < w0.heap.size := (Array.getElem?_eq_some_iff.1 gd).1
  have hbox : ∀ wx S, Fr S w0 wx → W.heap.size ∉ S → wx.cell? ⟨W.heap.size, 0, none⟩ = some (.int .i64 d.kind) ∧ wx.cell? ⟨W.heap.size, 1, none⟩ = some (.string ⟨d.path.toArray⟩) ∧ wx.cell? ⟨W.heap.size, 2, none⟩ = some (.string ⟨d.to_.toArray⟩) ∧ wx.cell? ⟨W.heap.size, 3, none⟩ = some (.slice bo NB bc) := fun wx S F hS => by
    have g1 := (F.block _ ld hS).trans gd
    refine ⟨?_, ?_, ?_, ?_⟩ <;> · rw [Go.Joins.cell_of_block g1]; rfl
  have HBX := Lib.hid hbox
  have HF0 := Lib.hid F0
  have HLD := Lib.hid ld
  have HAW := Lib.hid (awake_any w0 (hG.fr F0))
  clear h g hG hfl hb hN hFN hNB gd hbox
  go_enter Tryz.func3, Tryz.ntmps3
  go_upto_region 1 with fail
  rw [← hw0]
  clear hw0 F0 ld
  go_upto_region 3 with (go_at_call 6; refine HAW.out.mono ?_; rintro e w1 ⟨rfl, F1⟩)
  obtain ⟨b0, b1, b2, b3⟩ := HBX.out w1 [] F1 (by simp)
  have HSMD := Lib.hid (show Calls Tryz.prog 8 #[.slice (some ⟨w1.heap.size, 0, none⟩) 1 1] (w1.alloc (.cells #[.int .i64 d.kind, .string ⟨d.path.toArray⟩, .string ⟨d.to_.toArray⟩, .slice bo NB bc] 26)) fun e w' => ∃ r, e = .returned (.bool r) ∧ (r = true → SmD [d]) ∧ w' = w1.alloc (.cells #[.int .i64 d.kind, .string ⟨d.path.toArray⟩, .string ⟨d.to_.toArray⟩, .slice bo NB bc] 26) from by
    refine dsmall_any (DosAt.one (t := d) (da := bo) (dc := bc) ?_ ?_)
    · rw [HNB.out]; exact heap_alloc_new w1 _
    · rw [HNB.out]; exact HB.out.fr0 ((HF0.out.trans0 F1).alloc _))
  go_upto_region 5 with (first
    | (have hq := HSD; go_at_call 9; refine (rmay_any (HT.out.fr0 (HF0.out.trans0 G1)) (by have := HSL.out.1; omega) (fun t ht => Nat.le_trans (HSL.out.2 t ht).1 (by decide))).mono ?_; rintro e w3 ⟨r, rfl, hr, F3⟩; cases r)
    | (have hq := HSL; go_at_call 8; refine HSMD.out.mono ?_; rintro e w2 ⟨r, rfl, hr, hw2⟩; have G1 : Fr [] w0 w2 := hw2 ▸ F1.alloc _; clear hw2; cases r; rotate_left; have HSD := Lib.hid (hr rfl); rotate_left)
    | (go_at_call 7; refine (rsmall_any (HT.out.fr0 (HF0.out.trans0 F1))).mono ?_; rintro e w1 ⟨r, rfl, hr, rfl⟩; cases r; rotate_left; have HSL := Lib.hid (hr rfl); rotate_left))
  · go_ret
    exact ⟨rfl, HF0.out.trans0 F1⟩
  · go_ret
    exact ⟨rfl, HF0.out.trans0 G1⟩
  · go_ret
    exact ⟨rfl, (HF0.out.trans0 G1).trans0 F3⟩
  have HMT := Lib.hid (hr (by trivial))
  have FW := Lib.hid ((HF0.out.trans0 G1).trans0 F3)
  have F03 := Lib.hid (G1.trans0 F3)
  have HG3 := Lib.hid (HG.out.fr FW.out)
  have HLO := Lib.hid HG3.out.sz
  have HLEN := Lib.hid (HSD.out 0 d (by decide) rfl)
  have HN60 := Lib.hid (show N ≤ 60 by have := HSL.out.1; rw [HN.out] at this; exact this)
  have HNEW := new_any2 (HT.out.fr0 FW.out) HMT.out (by have := HSL.out.1; omega) (dat_of HSL.out) (by decide) HG3.out fo fc fl (by rw [HFN.out]; exact HF.out.fr0 FW.out) HFL.out
  rw [HN.out, HFN.out] at HNEW
  have HNW := Lib.hid HNEW
  have HBL := Lib.hid (fun wx (l : Lo w3.heap.size w3 wx) => (show wx.cell? ⟨W.heap.size, 0, none⟩ = some (.int .i64 d.kind) ∧ wx.cell? ⟨W.heap.size, 1, none⟩ = some (.string ⟨d.path.toArray⟩) ∧ wx.cell? ⟨W.heap.size, 2, none⟩ = some (.string ⟨d.to_.toArray⟩) ∧ wx.cell? ⟨W.heap.size, 3, none⟩ = some (.slice bo NB bc) from by
    obtain ⟨S, F, hS⟩ := l
    refine HBX.out wx S ((F03.out.mono (by simp)).trans F (fun i hi => .inl hi)) (fun hm => ?_)
    have := hS _ hm
    have := F03.out.size
    have := HLD.out
    omega))
  have HDO := Lib.hid (fun (w4 : World) (p : Nat) (S4 : SandAt w4 w3.heap.size p N 0 fl (lookL L)) (F4 : Fr [] w3 w4) => (show Calls Tryz.prog 11 #[.pointer (some ⟨p, 0, none⟩), .agg #[.int .i64 d.kind, .string ⟨d.path.toArray⟩, .string ⟨d.to_.toArray⟩, .slice bo NB bc]] w4 fun e w' =>
      ∃ a c K', e = .returned (.tuple #[.int .i64 a, .int .i64 c]) ∧ (¬ c = 0 → K' = lookL L) ∧ (c = 0 → DoRel (lookL L) d a c K') ∧ SandAt w' w3.heap.size p (N + 1) 1 fl K' ∧ MayK K' ∧ DatK K' 7000 ∧ Lo w3.heap.size w4 w' from by
    have := do_tot S4 HMT.out.2 (dat_of HSL.out) (HG3.out.fr F4) HN60.out d bo bc (by rw [HNB.out]; exact HB.out.fr0 (FW.out.trans0 F4)) HLEN.out.1 HLEN.out.2.1 HLEN.out.2.2
    rw [HNB.out] at this
    exact this))
  clear hr G1 F3 HNEW b0 b1 b2 b3 F1
  go_upto_region 10 with (first
    | (have hq := S5; go_at_call 12; refine (state_at S5.out M5.out D5.out (by decide) (by have := HN60.out; omega)).mono ?_; rintro e w6 ⟨xo, xc, ks, rfl, hks, hkl, hth, F6⟩; have X6 := Lib.hid hth; have KS := Lib.hid hks; have KL := Lib.hid hkl; have L6 := Lib.hid (L5.out.trans (Lo.of0 F6)); clear hks hkl hth F6)
    | (have hq := S4; go_at_call 11; refine (HDO.out w4 p S4.out F4).mono ?_; rintro e w5 ⟨a, c, K', rfl, hr1, hr2, hS5, hM5, hD5, hL5⟩; have R1 := Lib.hid hr1; have R2 := Lib.hid hr2; have S5 := Lib.hid hS5; have M5 := Lib.hid hM5; have D5 := Lib.hid hD5; have L5 := Lib.hid ((Lo.of0 F4).trans hL5); clear hr1 hr2 hS5 hM5 hD5 hL5)
    | (go_at_call 10; refine HNW.out.mono ?_; rintro e w4 ⟨p, rfl, hS4, F4⟩; have S4 := Lib.hid hS4; obtain ⟨b0, b1, b2, b3⟩ := HBL.out w4 (Lo.of0 F4); clear hS4))
  obtain ⟨XN, hXN⟩ : ∃ XN, ks.length = XN := ⟨_, rfl⟩
  have HXN := Lib.hid hXN
  rw [hXN] at X6 KL ⊢
  clear hXN b0 b1 b2 b3
  obtain ⟨b0, b1, b2, b3⟩ := HBL.out w6 L6.out
  have HTL := Lib.hid (fun (wx : World) (l : Lo w3.heap.size w3 wx) => (HT.out.fr0 FW.out).lo l FW.out.size)
  have HLL := Lib.hid (show L.length ≤ 1000000 by have := HSL.out.1; omega)
  by_cases hc : c = 0
  rotate_left
  · have hK' := R1.out hc
    subst hK'
    have t1 : (c != 0) = true := by simpa using hc
    have HSA := Lib.hid (show Calls Tryz.prog 13 #[.slice xo XN xc, .slice ao N cap] w6 fun e w' => e = .returned (.bool true) ∧ Same w6 w' from by
      obtain ⟨h1, h2⟩ := same_list HMT.out.1 KS.out
      exact rsame_any X6.out (HTL.out w6 L6.out) HLL.out (by unfold listK; rw [List.length_map]; exact h1) h2)
    clear hc
    go_wp2_with (go_at_call 13; refine HSA.out.mono ?_; rintro e w7 ⟨rfl, F7⟩)
    go_ret
    exact ⟨rfl, (Lo.fr FW.out L6.out).trans0 F7.fr⟩
  have HR := Lib.hid (R2.out hc)
  subst hc
  clear R1 R2
  go_upto_region 12 with fail
  rename_i K0 hK0
  go_cut [12, 56, 57] (fun v12 v56 v57 wx => v12 = .string ⟨d.path.toArray⟩ ∧ wx = w6)
  case first =>
    clear hK0
    go_wp2_with fail
    go_meet
    case rel => exact ⟨rfl, rfl⟩
  case rest =>
  obtain ⟨rfl, hw⟩ := hcut
  have hw' := hw.symm
  clear hw
  subst hw'
  (refine hK0 _ _ ?_; clear hK0; refine wp_seq_k fun K1 hK1 => ?_)
  have HKD := Lib.hid (kind_any w6 d bo NB bc)
  go_cut [12, 58, 59, 60, 61, 62] (fun v12 v58 v59 v60 v61 v62 wx => v12 = .string ⟨(toD d).toArray⟩ ∧ Fr [] w6 wx)
  case first =>
    clear hK1
    by_cases k5 : d.kind = 5
    · have e1 : (if d.kind < 1 ∨ 5 < d.kind then 6 else d.kind) = 5 := by rw [k5]; rfl
      have e2 : toD d = d.to_ := by unfold toD; rw [if_pos k5]
      rw [e1] at HKD
      have E2 := Lib.hid e2
      clear e1 e2 k5
      go_wp2_with (go_at_call 14; refine HKD.out.mono ?_; rintro e w7 ⟨rfl, F7⟩; obtain ⟨b0, b1, b2, b3⟩ := HBL.out w7 (L6.out.trans (Lo.of0 F7)))
      go_meet
      case rel => exact ⟨by rw [E2.out], F7⟩
    · have e2 : toD d = d.path := by unfold toD; rw [if_neg k5]
      obtain ⟨kk, hkk⟩ : ∃ kk, (if d.kind < 1 ∨ 5 < d.kind then (6 : Int) else d.kind) = kk := ⟨_, rfl⟩
      have e1 : (kk == 5) = false := by
        rw [beq_eq_false_iff_ne, ← hkk]
        split
        · decide
        · exact k5
      rw [hkk] at HKD
      have E2 := Lib.hid e2
      clear hkk e2 k5
      go_wp2_with (go_at_call 14; refine HKD.out.mono ?_; rintro e w7 ⟨rfl, F7⟩)
      go_meet
      case rel => exact ⟨by rw [E2.out], F7⟩
  case rest =>
  rename World => w7
  obtain ⟨rfl, F7⟩ := hcut
  (refine hK1 _ _ ?_; clear hK1)
  have L7 := Lib.hid (L6.out.trans (Lo.of0 F7))
  have X7 := Lib.hid (X6.out.fr0 F7)
  clear b0 b1 b2 b3 X6 F7 HKD
  obtain ⟨T2, hT2⟩ : ∃ T2, toD d = T2 := ⟨_, rfl⟩
  have HT2 := Lib.hid hT2
  rw [hT2]
  have hl2 : T2.length ≤ 1500 := by rw [← hT2]; unfold toD; split; exact HLEN.out.2.1; exact HLEN.out.1
  have HQ := Lib.hid (show d.path.length ≤ 100000 ∧ T2.length ≤ 100000 from ⟨by have := HLEN.out.1; omega, by omega⟩)
  clear hT2 hl2
  obtain ⟨XL, hXL⟩ : ∃ XL, listK K' ks = XL := ⟨_, rfl⟩
  have HXP := Lib.hid (show (XL.map (·.path)).Nodup by rw [← hXL, listK_paths]; exact KS.out.nd)
  have HXK := Lib.hid (show lookL XL = K' by rw [← hXL]; exact listK_look KS.out)
  have HXLN := Lib.hid (show XL.length = XN by rw [← hXL, ← HXN.out]; unfold listK; rw [List.length_map])
  have HXB := Lib.hid (show XN ≤ 61 by have := KL.out; have := HN60.out; omega)
  have HXM := Lib.hid (fun t (ht : t ∈ XL) => M5.out t.path t.tv (by rw [← HXK.out]; obtain ⟨i, hi⟩ := List.getElem?_of_mem ht; exact look_at HXP.out hi))
  rw [hXL] at X7
  clear hXL
  go_wp2_with fail
  go_loopw [13, 14] (fun v13 v14 wr => ∃ k : Nat, k ≤ XN ∧ v14 = .int .i64 (k : Int) ∧ v13 = .int .i64 ((linkN (XL.take k) : Nat) : Int) ∧ Lo w3.heap.size w3 wr ∧ Fr [] w7 wr) (fun _ i _ => XN - (intOf i).toNat)
  case atStart => exact ⟨0, Nat.zero_le _, rfl, rfl, L7.out, Fr.refl _ _⟩
  case round =>
    rename World => wA
    obtain ⟨k, hk, rfl, rfl, hL, hF⟩ := hrel
    have LA := Lib.hid hL
    have FA := Lib.hid hF
    have hxb := HXB.out
    obtain ⟨b0, b1, b2, b3⟩ := HBL.out wA hL
    clear hL hF
    by_cases hlt : k < XN
    · obtain ⟨t, hx⟩ := some_get XL k (by rw [HXLN.out]; exact hlt)
      obtain ⟨xb, xof, da, dc, rfl, hxbl, -, c0, c1, c2, c3, sl, -⟩ := (X7.out.fr0 FA.out).get hx
      have hltI : (k : Int) < (XN : Int) := by omega
      have HX := Lib.hid hx
      have HLK := Lib.hid (linkN_snoc hx)
      have htm := HXM.out t (List.mem_of_getElem? hx)
      have HTK := Lib.hid (show lookL XL t.path = some t.tv from look_at HXP.out hx)
      have hql := clean_len htm.1
      have HLB := Lib.hid (show linkN (XL.take k) ≤ 61 from by
        unfold linkN
        refine Nat.le_trans (List.length_filter_le _ _) ?_
        rw [List.length_take]
        omega)
      have hlb := HLB.out
      obtain ⟨lk, hlk⟩ : ∃ lk, linkN (XL.take k) = lk := ⟨_, rfl⟩
      rw [hlk] at HLK hlb ⊢
      obtain ⟨q, kd, dl, ln⟩ := t
      dsimp only at c0 c1 c2 c3 sl hql
      have HAT := Lib.hid (rat_any (HTL.out wA LA.out) HLL.out q)
      have HW1 := Lib.hid (rwithin_any wA q d.path HQ.out.1)
      have HW2 := Lib.hid (rwithin_any wA q T2 HQ.out.2)
      have HSL := Lib.hid sl
      obtain ⟨ik, hik⟩ : ∃ ik, atL L q = ik := ⟨_, rfl⟩
      have HIK := Lib.hid hik
      rw [hik] at HAT
      have HSTAY := Lib.hid (fun (e1 : q ≠ d.path) (e3 : withinB q d.path = false) (e4 : withinB q T2 = false) => (show ∃ (i0 : Nat) (s : Th), ik = (i0 : Int) ∧ L[i0]? = some s ∧ s.path = q ∧ s.tv = ⟨kd, dl, ln⟩ from by
        have h1 : K' q = lookL L q := HR.out.stays e1 e3 (by rw [HT2.out]; exact e4)
        rw [← HXK.out, HTK.out] at h1
        rcases atL_cases L q with ⟨i0, s, g1, g2, g3, g4⟩ | ⟨-, g4⟩
        · rw [g4] at h1
          exact ⟨i0, s, by rw [← HIK.out]; exact g3, g1, g2, (Option.some.inj h1).symm⟩
        · rw [g4] at h1
          cases h1))
      clear hx htm sl hik hlk
      generalize hw1 : withinB q d.path = wi1 at *
      generalize hw2 : withinB q T2 = wi2 at *
      have HWI := Lib.hid (And.intro hw1 hw2)
      clear hw1 hw2
      by_cases k3 : kd = 3
      · have t3 : (kd == 3) = true := by rw [k3]; rfl
        have HLX := Lib.hid (show Value.int .i64 ((lk : Int) + 1) = .int .i64 ((linkN (XL.take (k + 1)) : Nat) : Int) by rw [HLK.out, if_pos k3]; rfl)
        clear k3
        cases q1 : q == d.path with
        | true =>
          go_wp2_with (first
            | (have hq := hW1; go_at_call 16; refine HW2.out.mono ?_; rintro e wA ⟨rfl, rfl⟩)
            | (go_at_call 16; refine HW1.out.mono ?_; rintro e wA ⟨rfl, rfl⟩; have hW1 := Lib.hid trivial)
            | (go_at_call 15; refine HAT.out.mono ?_; rintro e wA ⟨rfl, rfl⟩))
          go_roundw
          case rel => exact ⟨k + 1, by omega, by go_num, HLX.out, LA.out, FA.out⟩
          case measure => simp [intOf]; omega
        | false =>
          cases q2 : q == T2 with
          | true =>
            go_wp2_with (first
              | (have hq := hW1; go_at_call 16; refine HW2.out.mono ?_; rintro e wA ⟨rfl, rfl⟩)
              | (go_at_call 16; refine HW1.out.mono ?_; rintro e wA ⟨rfl, rfl⟩; have hW1 := Lib.hid trivial)
              | (go_at_call 15; refine HAT.out.mono ?_; rintro e wA ⟨rfl, rfl⟩))
            go_roundw
            case rel => exact ⟨k + 1, by omega, by go_num, HLX.out, LA.out, FA.out⟩
            case measure => simp [intOf]; omega
          | false =>
            cases wi1 with
            | true =>
              go_wp2_with (first
                | (have hq := hW1; go_at_call 16; refine HW2.out.mono ?_; rintro e wA ⟨rfl, rfl⟩)
                | (go_at_call 16; refine HW1.out.mono ?_; rintro e wA ⟨rfl, rfl⟩; have hW1 := Lib.hid trivial)
                | (go_at_call 15; refine HAT.out.mono ?_; rintro e wA ⟨rfl, rfl⟩))
              go_roundw
              case rel => exact ⟨k + 1, by omega, by go_num, HLX.out, LA.out, FA.out⟩
              case measure => simp [intOf]; omega
            | false =>
              cases wi2 with
              | true =>
                go_wp2_with (first
                  | (have hq := hW1; go_at_call 16; refine HW2.out.mono ?_; rintro e wA ⟨rfl, rfl⟩)
                  | (go_at_call 16; refine HW1.out.mono ?_; rintro e wA ⟨rfl, rfl⟩; have hW1 := Lib.hid trivial)
                  | (go_at_call 15; refine HAT.out.mono ?_; rintro e wA ⟨rfl, rfl⟩))
                go_roundw
                case rel => exact ⟨k + 1, by omega, by go_num, HLX.out, LA.out, FA.out⟩
                case measure => simp [intOf]; omega
              | false =>
                obtain ⟨i0, s, hi0, hs, hsp, hst⟩ := HSTAY.out (by simpa using q1) rfl rfl
                subst hi0
                obtain ⟨sp, st⟩ := s
                dsimp only at hsp hst
                subst hsp hst
                obtain ⟨lb, lof, da', dc', rfl, hlbl, -, d0, d1, d2, d3, sl', -⟩ := (HTL.out wA LA.out).get hs
                have HS2 := Lib.hid sl'
                have i1 : ¬ (i0 : Int) < 0 := by omega
                have i1b : decide ((i0 : Int) < 0) = false := by simp
                have hi0N : i0 < N := by have := (List.getElem?_eq_some_iff.1 hs).1; rw [HN.out] at this; exact this
                have i2 : (i0 : Int) < (N : Int) := by omega
                have HSM := fun (wx : World) (B1 B2 : Nat) (F : Fr [] wA wx) (h1 : wx.heap[B1]? = some (.cells #[.string ⟨sp.toArray⟩, .int .i64 kd, .slice da dl.length dc, .string ⟨ln.toArray⟩] 41 (0, 0))) (h2 : wx.heap[B2]? = some (.cells #[.string ⟨sp.toArray⟩, .int .i64 kd, .slice da' dl.length dc', .string ⟨ln.toArray⟩] 41 (0, 0))) =>
                  (show Calls Tryz.prog 13 #[.slice (some ⟨B1, 0, none⟩) 1 1, .slice (some ⟨B2, 0, none⟩) 1 1] wx fun e w' => e = .returned (.bool true) ∧ Same wx w' from
                    rsame_any (ThAt.one (t := ⟨sp, kd, dl, ln⟩) h1 (HSL.out.fr0 F)) (ThAt.one (t := ⟨sp, kd, dl, ln⟩) h2 (HS2.out.fr0 F)) (show 1 ≤ 1000000 by decide) rfl (fun y hy => by
                      obtain rfl : y = ⟨sp, kd, dl, ln⟩ := by simpa using hy
                      simp [lookL]))
                clear sl' hs
                obtain ⟨DL, hDL⟩ : ∃ DL, dl.length = DL := ⟨_, rfl⟩
                rw [hDL] at c2 d2 HSM
                have F12 : Fr [] wA ((wA.alloc (.cells #[.string ⟨sp.toArray⟩, .int .i64 kd, .slice da DL dc, .string ⟨ln.toArray⟩] 41)).alloc (.cells #[.string ⟨sp.toArray⟩, .int .i64 kd, .slice da' DL dc', .string ⟨ln.toArray⟩] 41)).drew := (((Fr.refl [] wA).alloc _).alloc _).drew
                have F21 : Fr [] wA ((wA.alloc (.cells #[.string ⟨sp.toArray⟩, .int .i64 kd, .slice da' DL dc', .string ⟨ln.toArray⟩] 41)).alloc (.cells #[.string ⟨sp.toArray⟩, .int .i64 kd, .slice da DL dc, .string ⟨ln.toArray⟩] 41)).drew := (((Fr.refl [] wA).alloc _).alloc _).drew
                have hsec : ∀ O1 O2 : Obj, ((wA.alloc O1).alloc O2).drew.heap[wA.heap.size]? = (wA.alloc O1).heap[wA.heap.size]? ∧ ((wA.alloc O1).alloc O2).drew.heap[wA.heap.size + 1]? = some O2 := fun O1 O2 => by
                  refine ⟨Below.heap_alloc (wA.alloc O1) O2 _ (by rw [World.size_alloc]; omega), ?_⟩
                  have := heap_alloc_new (wA.alloc O1) O2
                  rw [World.size_alloc] at this
                  exact this
                have S12 := Lib.hid (HSM _ wA.heap.size (wA.heap.size + 1) F12 ((hsec _ _).1.trans (heap_alloc_new wA _)) (hsec _ _).2)
                have S21 := Lib.hid (HSM _ (wA.heap.size + 1) wA.heap.size F21 (hsec _ _).2 ((hsec _ _).1.trans (heap_alloc_new wA _)))
                have FF12 := Lib.hid F12
                have FF21 := Lib.hid F21
                clear hDL HSM F12 F21 hsec
                go_upto_region 24 with (first
                  | (have hq := hW1; go_at_call 16; refine HW2.out.mono ?_; rintro e wA ⟨rfl, rfl⟩)
                  | (go_at_call 16; refine HW1.out.mono ?_; rintro e wA ⟨rfl, rfl⟩; have hW1 := Lib.hid trivial)
                  | (go_at_call 15; refine HAT.out.mono ?_; rintro e wA ⟨rfl, rfl⟩))
                rename_i K24 hK24
                go_cut [105, 106, 107, 108, 109, 110, 111, 112, 113, 114, 115, 116, 117, 118, 119, 120] (fun v105 v106 v107 v108 v109 v110 v111 v112 v113 v114 v115 v116 v117 v118 v119 v120 wx => v120 = .bool false ∧ Fr [] wA wx)
                case first =>
                  clear hK24
                  have HKEEP := Lib.hid (fun wx (F : Fr [] wA wx) => (show wx.cell? ⟨xb, xof + k * 4, none⟩ = some (.string ⟨sp.toArray⟩) ∧ wx.cell? ⟨xb, xof + k * 4 + 1, none⟩ = some (.int .i64 kd) ∧ wx.cell? ⟨xb, xof + k * 4 + 2, none⟩ = some (.slice da DL dc) ∧ wx.cell? ⟨xb, xof + k * 4 + 3, none⟩ = some (.string ⟨ln.toArray⟩) ∧ wx.cell? ⟨lb, lof + i0 * 4, none⟩ = some (.string ⟨sp.toArray⟩) ∧ wx.cell? ⟨lb, lof + i0 * 4 + 1, none⟩ = some (.int .i64 kd) ∧ wx.cell? ⟨lb, lof + i0 * 4 + 2, none⟩ = some (.slice da' DL dc') ∧ wx.cell? ⟨lb, lof + i0 * 4 + 3, none⟩ = some (.string ⟨ln.toArray⟩) from
                    ⟨(F.cell (p := ⟨xb, _, none⟩) (World.block_lt_of_cell? _ _ c0) (by simp)).trans c0, (F.cell (p := ⟨xb, _, none⟩) (World.block_lt_of_cell? _ _ c1) (by simp)).trans c1, (F.cell (p := ⟨xb, _, none⟩) (World.block_lt_of_cell? _ _ c2) (by simp)).trans c2, (F.cell (p := ⟨xb, _, none⟩) (World.block_lt_of_cell? _ _ c3) (by simp)).trans c3, (F.cell (p := ⟨lb, _, none⟩) (World.block_lt_of_cell? _ _ d0) (by simp)).trans d0, (F.cell (p := ⟨lb, _, none⟩) (World.block_lt_of_cell? _ _ d1) (by simp)).trans d1, (F.cell (p := ⟨lb, _, none⟩) (World.block_lt_of_cell? _ _ d2) (by simp)).trans d2, (F.cell (p := ⟨lb, _, none⟩) (World.block_lt_of_cell? _ _ d3) (by simp)).trans d3⟩))
                  refine wp_region_held_drew (S := (fun wx => wx.cell? ⟨xb, xof + k * 4, none⟩ = some (.string ⟨sp.toArray⟩) ∧ wx.cell? ⟨xb, xof + k * 4 + 1, none⟩ = some (.int .i64 kd) ∧ wx.cell? ⟨xb, xof + k * 4 + 2, none⟩ = some (.slice da DL dc) ∧ wx.cell? ⟨xb, xof + k * 4 + 3, none⟩ = some (.string ⟨ln.toArray⟩) ∧ wx.cell? ⟨lb, lof + i0 * 4, none⟩ = some (.string ⟨sp.toArray⟩) ∧ wx.cell? ⟨lb, lof + i0 * 4 + 1, none⟩ = some (.int .i64 kd) ∧ wx.cell? ⟨lb, lof + i0 * 4 + 2, none⟩ = some (.slice da' DL dc') ∧ wx.cell? ⟨lb, lof + i0 * 4 + 3, none⟩ = some (.string ⟨ln.toArray⟩))) (by kernel_rfl) (HKEEP.out _ (Fr.refl _ _).drew) (fun _ => ?_)
                  refine wpAnyH_take (i := 0) (v := ?_) (arr_get _ 0 _ rfl) (by kernel_rfl) (by kernel_rfl) (by kernel_rfl) (fun _ _ _ h => h) (Or.inl ⟨by rfl, ?_⟩) (by first | exact HKEEP.out _ (Fr.refl _ _) | exact HKEEP.out _ ((Fr.refl _ _).drew) | exact HKEEP.out _ ((Fr.refl _ _).alloc _).drew | exact HKEEP.out _ (((Fr.refl _ _).alloc _).alloc _).drew | exact HKEEP.out _ FZ) ?_
                  rotate_left
                  · intro w hSw
                    obtain ⟨e0, e1, e2, e3, e4, e5, e6, e7⟩ := hSw
                    go_simp
                    all_goals with_reducible rfl
                  try simp only [Act.put, List.setIfInBounds_toArray, List.set_cons_zero, List.set_cons_succ]
                  refine wpAnyH_take (i := 1) (v := ?_) (arr_get _ 1 _ rfl) (by kernel_rfl) (by kernel_rfl) (by kernel_rfl) (fun _ _ _ h => h) (Or.inl ⟨by rfl, ?_⟩) (by first | exact HKEEP.out _ (Fr.refl _ _) | exact HKEEP.out _ ((Fr.refl _ _).drew) | exact HKEEP.out _ ((Fr.refl _ _).alloc _).drew | exact HKEEP.out _ (((Fr.refl _ _).alloc _).alloc _).drew | exact HKEEP.out _ FZ) ?_
                  rotate_left
                  · intro w hSw
                    obtain ⟨e0, e1, e2, e3, e4, e5, e6, e7⟩ := hSw
                    go_simp
                    all_goals with_reducible rfl
                  try simp only [Act.put, List.setIfInBounds_toArray, List.set_cons_zero, List.set_cons_succ]
                  refine wpAnyH_take (i := 2) (v := ?_) (arr_get _ 2 _ rfl) (by kernel_rfl) (by kernel_rfl) (by kernel_rfl) (fun _ _ _ h => h) (Or.inl ⟨by rfl, ?_⟩) (by first | exact HKEEP.out _ (Fr.refl _ _) | exact HKEEP.out _ ((Fr.refl _ _).drew) | exact HKEEP.out _ ((Fr.refl _ _).alloc _).drew | exact HKEEP.out _ (((Fr.refl _ _).alloc _).alloc _).drew | exact HKEEP.out _ FZ) ?_
                  rotate_left
                  · intro w hSw
                    obtain ⟨e0, e1, e2, e3, e4, e5, e6, e7⟩ := hSw
                    go_simp
                    all_goals with_reducible rfl
                  try simp only [Act.put, List.setIfInBounds_toArray, List.set_cons_zero, List.set_cons_succ]
                  refine wpAnyH_take (i := 3) (v := ?_) (arr_get _ 3 _ rfl) (by kernel_rfl) (by kernel_rfl) (by kernel_rfl) (fun _ _ _ h => h) (Or.inl ⟨by rfl, ?_⟩) (by first | exact HKEEP.out _ (Fr.refl _ _) | exact HKEEP.out _ ((Fr.refl _ _).drew) | exact HKEEP.out _ ((Fr.refl _ _).alloc _).drew | exact HKEEP.out _ (((Fr.refl _ _).alloc _).alloc _).drew | exact HKEEP.out _ FZ) ?_
                  rotate_left
                  · intro w hSw
                    obtain ⟨e0, e1, e2, e3, e4, e5, e6, e7⟩ := hSw
                    go_simp
                    all_goals with_reducible rfl
                  try simp only [Act.put, List.setIfInBounds_toArray, List.set_cons_zero, List.set_cons_succ]
                  refine wpAnyH_take (i := 4) (v := ?_) (arr_get _ 4 _ rfl) (by kernel_rfl) (by kernel_rfl) (by kernel_rfl) (fun _ _ _ h => h) (Or.inl ⟨by rfl, ?_⟩) (by first | exact HKEEP.out _ (Fr.refl _ _) | exact HKEEP.out _ ((Fr.refl _ _).drew) | exact HKEEP.out _ ((Fr.refl _ _).alloc _).drew | exact HKEEP.out _ (((Fr.refl _ _).alloc _).alloc _).drew | exact HKEEP.out _ FZ) ?_
                  rotate_left
                  · intro w hSw
                    obtain ⟨e0, e1, e2, e3, e4, e5, e6, e7⟩ := hSw
                    go_simp
                    all_goals with_reducible rfl
                  try simp only [Act.put, List.setIfInBounds_toArray, List.set_cons_zero, List.set_cons_succ]
                  refine wpAnyH_take (i := 8) (v := ?_) (arr_get _ 8 _ rfl) (by kernel_rfl) (by kernel_rfl) (by kernel_rfl) (fun _ _ _ h => h) (Or.inl ⟨by rfl, ?_⟩) (by first | exact HKEEP.out _ (Fr.refl _ _) | exact HKEEP.out _ ((Fr.refl _ _).drew) | exact HKEEP.out _ ((Fr.refl _ _).alloc _).drew | exact HKEEP.out _ (((Fr.refl _ _).alloc _).alloc _).drew | exact HKEEP.out _ FZ) ?_
                  rotate_left
                  · intro w hSw
                    obtain ⟨e0, e1, e2, e3, e4, e5, e6, e7⟩ := hSw
                    go_simp
                    all_goals with_reducible rfl
                  try simp only [Act.put, List.setIfInBounds_toArray, List.set_cons_zero, List.set_cons_succ]
                  refine wpAnyH_take (i := 9) (v := ?_) (arr_get _ 9 _ rfl) (by kernel_rfl) (by kernel_rfl) (by kernel_rfl) (fun _ _ _ h => h) (Or.inl ⟨by rfl, ?_⟩) (by first | exact HKEEP.out _ (Fr.refl _ _) | exact HKEEP.out _ ((Fr.refl _ _).drew) | exact HKEEP.out _ ((Fr.refl _ _).alloc _).drew | exact HKEEP.out _ (((Fr.refl _ _).alloc _).alloc _).drew | exact HKEEP.out _ FZ) ?_
                  rotate_left
                  · intro w hSw
                    obtain ⟨e0, e1, e2, e3, e4, e5, e6, e7⟩ := hSw
                    go_simp
                    all_goals with_reducible rfl
                  try simp only [Act.put, List.setIfInBounds_toArray, List.set_cons_zero, List.set_cons_succ]
                  refine wpAnyH_take (i := 5) (v := ?_) (arr_get _ 5 _ rfl) (by kernel_rfl) (by kernel_rfl) (by kernel_rfl) (fun _ _ _ h => h) (Or.inl ⟨by rfl, ?_⟩) (by first | exact HKEEP.out _ (Fr.refl _ _) | exact HKEEP.out _ ((Fr.refl _ _).drew) | exact HKEEP.out _ ((Fr.refl _ _).alloc _).drew | exact HKEEP.out _ (((Fr.refl _ _).alloc _).alloc _).drew | exact HKEEP.out _ FZ) ?_
                  rotate_left
                  · intro w hSw
                    obtain ⟨e0, e1, e2, e3, e4, e5, e6, e7⟩ := hSw
                    go_simp
                    all_goals with_reducible rfl
                  try simp only [Act.put, List.setIfInBounds_toArray, List.set_cons_zero, List.set_cons_succ]
                  refine wpAnyH_take (i := 10) (v := ?_) (arr_get _ 10 _ rfl) (by kernel_rfl) (by kernel_rfl) (by kernel_rfl) (fun _ _ _ h => h) (Or.inl ⟨by rfl, ?_⟩) (by first | exact HKEEP.out _ (Fr.refl _ _) | exact HKEEP.out _ ((Fr.refl _ _).drew) | exact HKEEP.out _ ((Fr.refl _ _).alloc _).drew | exact HKEEP.out _ (((Fr.refl _ _).alloc _).alloc _).drew | exact HKEEP.out _ FZ) ?_
                  rotate_left
                  · intro w hSw
                    obtain ⟨e0, e1, e2, e3, e4, e5, e6, e7⟩ := hSw
                    go_simp
                    all_goals with_reducible rfl
                  try simp only [Act.put, List.setIfInBounds_toArray, List.set_cons_zero, List.set_cons_succ]
                  refine wpAnyH_take (i := 6) (v := ?_) (arr_get _ 6 _ rfl) (by kernel_rfl) (by kernel_rfl) (by kernel_rfl) (fun _ _ _ h => h) (Or.inl ⟨by rfl, ?_⟩) (by first | exact HKEEP.out _ (Fr.refl _ _) | exact HKEEP.out _ ((Fr.refl _ _).drew) | exact HKEEP.out _ ((Fr.refl _ _).alloc _).drew | exact HKEEP.out _ (((Fr.refl _ _).alloc _).alloc _).drew | exact HKEEP.out _ FZ) ?_
                  rotate_left
                  · intro w hSw
                    obtain ⟨e0, e1, e2, e3, e4, e5, e6, e7⟩ := hSw
                    go_simp
                    all_goals with_reducible rfl
                  try simp only [Act.put, List.setIfInBounds_toArray, List.set_cons_zero, List.set_cons_succ]
                  refine wpAnyH_take (i := 11) (v := ?_) (arr_get _ 11 _ rfl) (by kernel_rfl) (by kernel_rfl) (by kernel_rfl) (fun _ _ _ h => h) (Or.inl ⟨by rfl, ?_⟩) (by first | exact HKEEP.out _ (Fr.refl _ _) | exact HKEEP.out _ ((Fr.refl _ _).drew) | exact HKEEP.out _ ((Fr.refl _ _).alloc _).drew | exact HKEEP.out _ (((Fr.refl _ _).alloc _).alloc _).drew | exact HKEEP.out _ FZ) ?_
                  rotate_left
                  · intro w hSw
                    obtain ⟨e0, e1, e2, e3, e4, e5, e6, e7⟩ := hSw
                    go_simp
                    all_goals with_reducible rfl
                  try simp only [Act.put, List.setIfInBounds_toArray, List.set_cons_zero, List.set_cons_succ]
                  refine wpAnyH_ready (rs := [7, 12]) (by kernel_rfl) (by simp) ?_
                  refine AllReadyH.cons (arr_get _ 7 _ rfl) (fun K hK => ?_) (AllReadyH.cons (arr_get _ 12 _ rfl) (fun K hK => ?_) AllReadyH.nil)
                  · go_simp
                    refine hK.out _ _ (by first | exact HKEEP.out _ (Fr.refl _ _) | exact HKEEP.out _ ((Fr.refl _ _).drew) | exact HKEEP.out _ ((Fr.refl _ _).alloc _).drew | exact HKEEP.out _ (((Fr.refl _ _).alloc _).alloc _).drew | exact HKEEP.out _ FZ) (fun _ => ?_)
                    clear hK K
                    try simp only [Act.put, List.setIfInBounds_toArray, List.set_cons_zero, List.set_cons_succ]
                    refine wpAnyH_ready (rs := [12]) (by kernel_rfl) (by simp) ?_
                    refine AllReadyH.cons (arr_get _ 12 _ rfl) (fun K hK => ?_) AllReadyH.nil
                    go_simp
                    refine hK.out _ _ (by first | exact HKEEP.out _ (Fr.refl _ _) | exact HKEEP.out _ ((Fr.refl _ _).drew) | exact HKEEP.out _ ((Fr.refl _ _).alloc _).drew | exact HKEEP.out _ (((Fr.refl _ _).alloc _).alloc _).drew | exact HKEEP.out _ FZ) (fun _ => ?_)
                    clear hK K
                    try simp only [Act.put, List.setIfInBounds_toArray, List.set_cons_zero, List.set_cons_succ]
                    refine wpAnyH_ready (rs := [13]) (by kernel_rfl) (by simp) ?_
                    refine AllReadyH.cons (arr_get _ 13 _ rfl) (fun K hK => ?_) AllReadyH.nil
                    go_simp
                    (go_at_call 13; refine S12.out.mono ?_; rintro e wz ⟨rfl, Fz⟩; have FZ := FF12.out.trans0 Fz.fr)
                    refine hK.out _ _ (by first | exact HKEEP.out _ (Fr.refl _ _) | exact HKEEP.out _ ((Fr.refl _ _).drew) | exact HKEEP.out _ ((Fr.refl _ _).alloc _).drew | exact HKEEP.out _ (((Fr.refl _ _).alloc _).alloc _).drew | exact HKEEP.out _ FZ) (fun _ => ?_)
                    clear hK K
                    try simp only [Act.put, List.setIfInBounds_toArray, List.set_cons_zero, List.set_cons_succ]
                    refine wpAnyH_take (i := 14) (v := ?_) (arr_get _ 14 _ rfl) (by kernel_rfl) (by kernel_rfl) (by kernel_rfl) (fun _ _ _ h => h) (Or.inl ⟨by rfl, ?_⟩) (by first | exact HKEEP.out _ (Fr.refl _ _) | exact HKEEP.out _ ((Fr.refl _ _).drew) | exact HKEEP.out _ ((Fr.refl _ _).alloc _).drew | exact HKEEP.out _ (((Fr.refl _ _).alloc _).alloc _).drew | exact HKEEP.out _ FZ) ?_
                    rotate_left
                    · intro w hSw
                      obtain ⟨e0, e1, e2, e3, e4, e5, e6, e7⟩ := hSw
                      go_simp
                      all_goals with_reducible rfl
                    try simp only [Act.put, List.setIfInBounds_toArray, List.set_cons_zero, List.set_cons_succ]
                    refine wpAnyH_take (i := 15) (v := ?_) (arr_get _ 15 _ rfl) (by kernel_rfl) (by kernel_rfl) (by kernel_rfl) (fun _ _ _ h => h) (Or.inl ⟨by rfl, ?_⟩) (by first | exact HKEEP.out _ (Fr.refl _ _) | exact HKEEP.out _ ((Fr.refl _ _).drew) | exact HKEEP.out _ ((Fr.refl _ _).alloc _).drew | exact HKEEP.out _ (((Fr.refl _ _).alloc _).alloc _).drew | exact HKEEP.out _ FZ) ?_
                    rotate_left
                    · intro w hSw
                      obtain ⟨e0, e1, e2, e3, e4, e5, e6, e7⟩ := hSw
                      go_simp
                      all_goals with_reducible rfl
                    try simp only [Act.put, List.setIfInBounds_toArray, List.set_cons_zero, List.set_cons_succ]
                    refine wpAnyH_done (by kernel_rfl) ?_ _
                    go_simp
                    try go_step
                    go_meet
                    case rel => exact ⟨rfl, FZ⟩
                  · go_simp
                    refine hK.out _ _ (by first | exact HKEEP.out _ (Fr.refl _ _) | exact HKEEP.out _ ((Fr.refl _ _).drew) | exact HKEEP.out _ ((Fr.refl _ _).alloc _).drew | exact HKEEP.out _ (((Fr.refl _ _).alloc _).alloc _).drew | exact HKEEP.out _ FZ) (fun _ => ?_)
                    clear hK K
                    try simp only [Act.put, List.setIfInBounds_toArray, List.set_cons_zero, List.set_cons_succ]
                    refine wpAnyH_ready (rs := [7]) (by kernel_rfl) (by simp) ?_
                    refine AllReadyH.cons (arr_get _ 7 _ rfl) (fun K hK => ?_) AllReadyH.nil
                    go_simp
                    refine hK.out _ _ (by first | exact HKEEP.out _ (Fr.refl _ _) | exact HKEEP.out _ ((Fr.refl _ _).drew) | exact HKEEP.out _ ((Fr.refl _ _).alloc _).drew | exact HKEEP.out _ (((Fr.refl _ _).alloc _).alloc _).drew | exact HKEEP.out _ FZ) (fun _ => ?_)
                    clear hK K
                    try simp only [Act.put, List.setIfInBounds_toArray, List.set_cons_zero, List.set_cons_succ]
                    refine wpAnyH_ready (rs := [13]) (by kernel_rfl) (by simp) ?_
                    refine AllReadyH.cons (arr_get _ 13 _ rfl) (fun K hK => ?_) AllReadyH.nil
                    go_simp
                    (go_at_call 13; refine S21.out.mono ?_; rintro e wz ⟨rfl, Fz⟩; have FZ := FF21.out.trans0 Fz.fr)
                    refine hK.out _ _ (by first | exact HKEEP.out _ (Fr.refl _ _) | exact HKEEP.out _ ((Fr.refl _ _).drew) | exact HKEEP.out _ ((Fr.refl _ _).alloc _).drew | exact HKEEP.out _ (((Fr.refl _ _).alloc _).alloc _).drew | exact HKEEP.out _ FZ) (fun _ => ?_)
                    clear hK K
                    try simp only [Act.put, List.setIfInBounds_toArray, List.set_cons_zero, List.set_cons_succ]
                    refine wpAnyH_take (i := 14) (v := ?_) (arr_get _ 14 _ rfl) (by kernel_rfl) (by kernel_rfl) (by kernel_rfl) (fun _ _ _ h => h) (Or.inl ⟨by rfl, ?_⟩) (by first | exact HKEEP.out _ (Fr.refl _ _) | exact HKEEP.out _ ((Fr.refl _ _).drew) | exact HKEEP.out _ ((Fr.refl _ _).alloc _).drew | exact HKEEP.out _ (((Fr.refl _ _).alloc _).alloc _).drew | exact HKEEP.out _ FZ) ?_
                    rotate_left
                    · intro w hSw
                      obtain ⟨e0, e1, e2, e3, e4, e5, e6, e7⟩ := hSw
                      go_simp
                      all_goals with_reducible rfl
                    try simp only [Act.put, List.setIfInBounds_toArray, List.set_cons_zero, List.set_cons_succ]
                    refine wpAnyH_take (i := 15) (v := ?_) (arr_get _ 15 _ rfl) (by kernel_rfl) (by kernel_rfl) (by kernel_rfl) (fun _ _ _ h => h) (Or.inl ⟨by rfl, ?_⟩) (by first | exact HKEEP.out _ (Fr.refl _ _) | exact HKEEP.out _ ((Fr.refl _ _).drew) | exact HKEEP.out _ ((Fr.refl _ _).alloc _).drew | exact HKEEP.out _ (((Fr.refl _ _).alloc _).alloc _).drew | exact HKEEP.out _ FZ) ?_
                    rotate_left
                    · intro w hSw
                      obtain ⟨e0, e1, e2, e3, e4, e5, e6, e7⟩ := hSw
                      go_simp
                      all_goals with_reducible rfl
                    try simp only [Act.put, List.setIfInBounds_toArray, List.set_cons_zero, List.set_cons_succ]
                    refine wpAnyH_done (by kernel_rfl) ?_ _
                    go_simp
                    try go_step
                    go_meet
                    case rel => exact ⟨rfl, FZ⟩
                case rest =>
                rename World => wB
                obtain ⟨rfl, FB⟩ := hcut
                (refine hK24 _ _ ?_; clear hK24)
                go_wp2_with fail
                go_roundw
                case rel => exact ⟨k + 1, by omega, by go_num, HLX.out, LA.out.trans (Lo.of0 FB), FA.out.trans0 FB⟩
                case measure => simp [intOf]; omega
      · have t3 : (kd == 3) = false := by simpa using k3
        have HLX := Lib.hid (show Value.int .i64 (lk : Int) = .int .i64 ((linkN (XL.take (k + 1)) : Nat) : Int) by rw [HLK.out, if_neg k3]; rfl)
        clear k3
        cases q1 : q == d.path with
        | true =>
          go_wp2_with (first
            | (have hq := hW1; go_at_call 16; refine HW2.out.mono ?_; rintro e wA ⟨rfl, rfl⟩)
            | (go_at_call 16; refine HW1.out.mono ?_; rintro e wA ⟨rfl, rfl⟩; have hW1 := Lib.hid trivial)
            | (go_at_call 15; refine HAT.out.mono ?_; rintro e wA ⟨rfl, rfl⟩))
          go_roundw
          case rel => exact ⟨k + 1, by omega, by go_num, HLX.out, LA.out, FA.out⟩
          case measure => simp [intOf]; omega
        | false =>
          cases q2 : q == T2 with
          | true =>
            go_wp2_with (first
              | (have hq := hW1; go_at_call 16; refine HW2.out.mono ?_; rintro e wA ⟨rfl, rfl⟩)
              | (go_at_call 16; refine HW1.out.mono ?_; rintro e wA ⟨rfl, rfl⟩; have hW1 := Lib.hid trivial)
              | (go_at_call 15; refine HAT.out.mono ?_; rintro e wA ⟨rfl, rfl⟩))
            go_roundw
            case rel => exact ⟨k + 1, by omega, by go_num, HLX.out, LA.out, FA.out⟩
            case measure => simp [intOf]; omega
          | false =>
            cases wi1 with
            | true =>
              go_wp2_with (first
                | (have hq := hW1; go_at_call 16; refine HW2.out.mono ?_; rintro e wA ⟨rfl, rfl⟩)
                | (go_at_call 16; refine HW1.out.mono ?_; rintro e wA ⟨rfl, rfl⟩; have hW1 := Lib.hid trivial)
                | (go_at_call 15; refine HAT.out.mono ?_; rintro e wA ⟨rfl, rfl⟩))
              go_roundw
              case rel => exact ⟨k + 1, by omega, by go_num, HLX.out, LA.out, FA.out⟩
              case measure => simp [intOf]; omega
            | false =>
              cases wi2 with
              | true =>
                go_wp2_with (first
                  | (have hq := hW1; go_at_call 16; refine HW2.out.mono ?_; rintro e wA ⟨rfl, rfl⟩)
                  | (go_at_call 16; refine HW1.out.mono ?_; rintro e wA ⟨rfl, rfl⟩; have hW1 := Lib.hid trivial)
                  | (go_at_call 15; refine HAT.out.mono ?_; rintro e wA ⟨rfl, rfl⟩))
                go_roundw
                case rel => exact ⟨k + 1, by omega, by go_num, HLX.out, LA.out, FA.out⟩
                case measure => simp [intOf]; omega
              | false =>
                obtain ⟨i0, s, hi0, hs, hsp, hst⟩ := HSTAY.out (by simpa using q1) rfl rfl
                subst hi0
                obtain ⟨sp, st⟩ := s
                dsimp only at hsp hst
                subst hsp hst
                obtain ⟨lb, lof, da', dc', rfl, hlbl, -, d0, d1, d2, d3, sl', -⟩ := (HTL.out wA LA.out).get hs
                have HS2 := Lib.hid sl'
                have i1 : ¬ (i0 : Int) < 0 := by omega
                have i1b : decide ((i0 : Int) < 0) = false := by simp
                have hi0N : i0 < N := by have := (List.getElem?_eq_some_iff.1 hs).1; rw [HN.out] at this; exact this
                have i2 : (i0 : Int) < (N : Int) := by omega
                have HSM := fun (wx : World) (B1 B2 : Nat) (F : Fr [] wA wx) (h1 : wx.heap[B1]? = some (.cells #[.string ⟨sp.toArray⟩, .int .i64 kd, .slice da dl.length dc, .string ⟨ln.toArray⟩] 41 (0, 0))) (h2 : wx.heap[B2]? = some (.cells #[.string ⟨sp.toArray⟩, .int .i64 kd, .slice da' dl.length dc', .string ⟨ln.toArray⟩] 41 (0, 0))) =>
                  (show Calls Tryz.prog 13 #[.slice (some ⟨B1, 0, none⟩) 1 1, .slice (some ⟨B2, 0, none⟩) 1 1] wx fun e w' => e = .returned (.bool true) ∧ Same wx w' from
                    rsame_any (ThAt.one (t := ⟨sp, kd, dl, ln⟩) h1 (HSL.out.fr0 F)) (ThAt.one (t := ⟨sp, kd, dl, ln⟩) h2 (HS2.out.fr0 F)) (show 1 ≤ 1000000 by decide) rfl (fun y hy => by
                      obtain rfl : y = ⟨sp, kd, dl, ln⟩ := by simpa using hy
                      simp [lookL]))
                clear sl' hs
                obtain ⟨DL, hDL⟩ : ∃ DL, dl.length = DL := ⟨_, rfl⟩
                rw [hDL] at c2 d2 HSM
                have F12 : Fr [] wA ((wA.alloc (.cells #[.string ⟨sp.toArray⟩, .int .i64 kd, .slice da DL dc, .string ⟨ln.toArray⟩] 41)).alloc (.cells #[.string ⟨sp.toArray⟩, .int .i64 kd, .slice da' DL dc', .string ⟨ln.toArray⟩] 41)).drew := (((Fr.refl [] wA).alloc _).alloc _).drew
                have F21 : Fr [] wA ((wA.alloc (.cells #[.string ⟨sp.toArray⟩, .int .i64 kd, .slice da' DL dc', .string ⟨ln.toArray⟩] 41)).alloc (.cells #[.string ⟨sp.toArray⟩, .int .i64 kd, .slice da DL dc, .string ⟨ln.toArray⟩] 41)).drew := (((Fr.refl [] wA).alloc _).alloc _).drew
                have hsec : ∀ O1 O2 : Obj, ((wA.alloc O1).alloc O2).drew.heap[wA.heap.size]? = (wA.alloc O1).heap[wA.heap.size]? ∧ ((wA.alloc O1).alloc O2).drew.heap[wA.heap.size + 1]? = some O2 := fun O1 O2 => by
                  refine ⟨Below.heap_alloc (wA.alloc O1) O2 _ (by rw [World.size_alloc]; omega), ?_⟩
                  have := heap_alloc_new (wA.alloc O1) O2
                  rw [World.size_alloc] at this
                  exact this
                have S12 := Lib.hid (HSM _ wA.heap.size (wA.heap.size + 1) F12 ((hsec _ _).1.trans (heap_alloc_new wA _)) (hsec _ _).2)
                have S21 := Lib.hid (HSM _ (wA.heap.size + 1) wA.heap.size F21 (hsec _ _).2 ((hsec _ _).1.trans (heap_alloc_new wA _)))
                have FF12 := Lib.hid F12
                have FF21 := Lib.hid F21
                clear hDL HSM F12 F21 hsec
                go_upto_region 24 with (first
                  | (have hq := hW1; go_at_call 16; refine HW2.out.mono ?_; rintro e wA ⟨rfl, rfl⟩)
                  | (go_at_call 16; refine HW1.out.mono ?_; rintro e wA ⟨rfl, rfl⟩; have hW1 := Lib.hid trivial)
                  | (go_at_call 15; refine HAT.out.mono ?_; rintro e wA ⟨rfl, rfl⟩))
                rename_i K24 hK24
                go_cut [105, 106, 107, 108, 109, 110, 111, 112, 113, 114, 115, 116, 117, 118, 119, 120] (fun v105 v106 v107 v108 v109 v110 v111 v112 v113 v114 v115 v116 v117 v118 v119 v120 wx => v120 = .bool false ∧ Fr [] wA wx)
                case first =>
                  clear hK24
                  have HKEEP := Lib.hid (fun wx (F : Fr [] wA wx) => (show wx.cell? ⟨xb, xof + k * 4, none⟩ = some (.string ⟨sp.toArray⟩) ∧ wx.cell? ⟨xb, xof + k * 4 + 1, none⟩ = some (.int .i64 kd) ∧ wx.cell? ⟨xb, xof + k * 4 + 2, none⟩ = some (.slice da DL dc) ∧ wx.cell? ⟨xb, xof + k * 4 + 3, none⟩ = some (.string ⟨ln.toArray⟩) ∧ wx.cell? ⟨lb, lof + i0 * 4, none⟩ = some (.string ⟨sp.toArray⟩) ∧ wx.cell? ⟨lb, lof + i0 * 4 + 1, none⟩ = some (.int .i64 kd) ∧ wx.cell? ⟨lb, lof + i0 * 4 + 2, none⟩ = some (.slice da' DL dc') ∧ wx.cell? ⟨lb, lof + i0 * 4 + 3, none⟩ = some (.string ⟨ln.toArray⟩) from
                    ⟨(F.cell (p := ⟨xb, _, none⟩) (World.block_lt_of_cell? _ _ c0) (by simp)).trans c0, (F.cell (p := ⟨xb, _, none⟩) (World.block_lt_of_cell? _ _ c1) (by simp)).trans c1, (F.cell (p := ⟨xb, _, none⟩) (World.block_lt_of_cell? _ _ c2) (by simp)).trans c2, (F.cell (p := ⟨xb, _, none⟩) (World.block_lt_of_cell? _ _ c3) (by simp)).trans c3, (F.cell (p := ⟨lb, _, none⟩) (World.block_lt_of_cell? _ _ d0) (by simp)).trans d0, (F.cell (p := ⟨lb, _, none⟩) (World.block_lt_of_cell? _ _ d1) (by simp)).trans d1, (F.cell (p := ⟨lb, _, none⟩) (World.block_lt_of_cell? _ _ d2) (by simp)).trans d2, (F.cell (p := ⟨lb, _, none⟩) (World.block_lt_of_cell? _ _ d3) (by simp)).trans d3⟩))
                  refine wp_region_held_drew (S := (fun wx => wx.cell? ⟨xb, xof + k * 4, none⟩ = some (.string ⟨sp.toArray⟩) ∧ wx.cell? ⟨xb, xof + k * 4 + 1, none⟩ = some (.int .i64 kd) ∧ wx.cell? ⟨xb, xof + k * 4 + 2, none⟩ = some (.slice da DL dc) ∧ wx.cell? ⟨xb, xof + k * 4 + 3, none⟩ = some (.string ⟨ln.toArray⟩) ∧ wx.cell? ⟨lb, lof + i0 * 4, none⟩ = some (.string ⟨sp.toArray⟩) ∧ wx.cell? ⟨lb, lof + i0 * 4 + 1, none⟩ = some (.int .i64 kd) ∧ wx.cell? ⟨lb, lof + i0 * 4 + 2, none⟩ = some (.slice da' DL dc') ∧ wx.cell? ⟨lb, lof + i0 * 4 + 3, none⟩ = some (.string ⟨ln.toArray⟩))) (by kernel_rfl) (HKEEP.out _ (Fr.refl _ _).drew) (fun _ => ?_)
                  refine wpAnyH_take (i := 0) (v := ?_) (arr_get _ 0 _ rfl) (by kernel_rfl) (by kernel_rfl) (by kernel_rfl) (fun _ _ _ h => h) (Or.inl ⟨by rfl, ?_⟩) (by first | exact HKEEP.out _ (Fr.refl _ _) | exact HKEEP.out _ ((Fr.refl _ _).drew) | exact HKEEP.out _ ((Fr.refl _ _).alloc _).drew | exact HKEEP.out _ (((Fr.refl _ _).alloc _).alloc _).drew | exact HKEEP.out _ FZ) ?_
                  rotate_left
                  · intro w hSw
                    obtain ⟨e0, e1, e2, e3, e4, e5, e6, e7⟩ := hSw
                    go_simp
                    all_goals with_reducible rfl
                  try simp only [Act.put, List.setIfInBounds_toArray, List.set_cons_zero, List.set_cons_succ]
                  refine wpAnyH_take (i := 1) (v := ?_) (arr_get _ 1 _ rfl) (by kernel_rfl) (by kernel_rfl) (by kernel_rfl) (fun _ _ _ h => h) (Or.inl ⟨by rfl, ?_⟩) (by first | exact HKEEP.out _ (Fr.refl _ _) | exact HKEEP.out _ ((Fr.refl _ _).drew) | exact HKEEP.out _ ((Fr.refl _ _).alloc _).drew | exact HKEEP.out _ (((Fr.refl _ _).alloc _).alloc _).drew | exact HKEEP.out _ FZ) ?_
                  rotate_left
                  · intro w hSw
                    obtain ⟨e0, e1, e2, e3, e4, e5, e6, e7⟩ := hSw
                    go_simp
                    all_goals with_reducible rfl
                  try simp only [Act.put, List.setIfInBounds_toArray, List.set_cons_zero, List.set_cons_succ]
                  refine wpAnyH_take (i := 2) (v := ?_) (arr_get _ 2 _ rfl) (by kernel_rfl) (by kernel_rfl) (by kernel_rfl) (fun _ _ _ h => h) (Or.inl ⟨by rfl, ?_⟩) (by first | exact HKEEP.out _ (Fr.refl _ _) | exact HKEEP.out _ ((Fr.refl _ _).drew) | exact HKEEP.out _ ((Fr.refl _ _).alloc _).drew | exact HKEEP.out _ (((Fr.refl _ _).alloc _).alloc _).drew | exact HKEEP.out _ FZ) ?_
                  rotate_left
                  · intro w hSw
                    obtain ⟨e0, e1, e2, e3, e4, e5, e6, e7⟩ := hSw
                    go_simp
                    all_goals with_reducible rfl
                  try simp only [Act.put, List.setIfInBounds_toArray, List.set_cons_zero, List.set_cons_succ]
                  refine wpAnyH_take (i := 3) (v := ?_) (arr_get _ 3 _ rfl) (by kernel_rfl) (by kernel_rfl) (by kernel_rfl) (fun _ _ _ h => h) (Or.inl ⟨by rfl, ?_⟩) (by first | exact HKEEP.out _ (Fr.refl _ _) | exact HKEEP.out _ ((Fr.refl _ _).drew) | exact HKEEP.out _ ((Fr.refl _ _).alloc _).drew | exact HKEEP.out _ (((Fr.refl _ _).alloc _).alloc _).drew | exact HKEEP.out _ FZ) ?_
                  rotate_left
                  · intro w hSw
                    obtain ⟨e0, e1, e2, e3, e4, e5, e6, e7⟩ := hSw
                    go_simp
                    all_goals with_reducible rfl
                  try simp only [Act.put, List.setIfInBounds_toArray, List.set_cons_zero, List.set_cons_succ]
                  refine wpAnyH_take (i := 4) (v := ?_) (arr_get _ 4 _ rfl) (by kernel_rfl) (by kernel_rfl) (by kernel_rfl) (fun _ _ _ h => h) (Or.inl ⟨by rfl, ?_⟩) (by first | exact HKEEP.out _ (Fr.refl _ _) | exact HKEEP.out _ ((Fr.refl _ _).drew) | exact HKEEP.out _ ((Fr.refl _ _).alloc _).drew | exact HKEEP.out _ (((Fr.refl _ _).alloc _).alloc _).drew | exact HKEEP.out _ FZ) ?_
                  rotate_left
                  · intro w hSw
                    obtain ⟨e0, e1, e2, e3, e4, e5, e6, e7⟩ := hSw
                    go_simp
                    all_goals with_reducible rfl
                  try simp only [Act.put, List.setIfInBounds_toArray, List.set_cons_zero, List.set_cons_succ]
                  refine wpAnyH_take (i := 8) (v := ?_) (arr_get _ 8 _ rfl) (by kernel_rfl) (by kernel_rfl) (by kernel_rfl) (fun _ _ _ h => h) (Or.inl ⟨by rfl, ?_⟩) (by first | exact HKEEP.out _ (Fr.refl _ _) | exact HKEEP.out _ ((Fr.refl _ _).drew) | exact HKEEP.out _ ((Fr.refl _ _).alloc _).drew | exact HKEEP.out _ (((Fr.refl _ _).alloc _).alloc _).drew | exact HKEEP.out _ FZ) ?_
                  rotate_left
                  · intro w hSw
                    obtain ⟨e0, e1, e2, e3, e4, e5, e6, e7⟩ := hSw
                    go_simp
                    all_goals with_reducible rfl
                  try simp only [Act.put, List.setIfInBounds_toArray, List.set_cons_zero, List.set_cons_succ]
                  refine wpAnyH_take (i := 9) (v := ?_) (arr_get _ 9 _ rfl) (by kernel_rfl) (by kernel_rfl) (by kernel_rfl) (fun _ _ _ h => h) (Or.inl ⟨by rfl, ?_⟩) (by first | exact HKEEP.out _ (Fr.refl _ _) | exact HKEEP.out _ ((Fr.refl _ _).drew) | exact HKEEP.out _ ((Fr.refl _ _).alloc _).drew | exact HKEEP.out _ (((Fr.refl _ _).alloc _).alloc _).drew | exact HKEEP.out _ FZ) ?_
                  rotate_left
                  · intro w hSw
                    obtain ⟨e0, e1, e2, e3, e4, e5, e6, e7⟩ := hSw
                    go_simp
                    all_goals with_reducible rfl
                  try simp only [Act.put, List.setIfInBounds_toArray, List.set_cons_zero, List.set_cons_succ]
                  refine wpAnyH_take (i := 5) (v := ?_) (arr_get _ 5 _ rfl) (by kernel_rfl) (by kernel_rfl) (by kernel_rfl) (fun _ _ _ h => h) (Or.inl ⟨by rfl, ?_⟩) (by first | exact HKEEP.out _ (Fr.refl _ _) | exact HKEEP.out _ ((Fr.refl _ _).drew) | exact HKEEP.out _ ((Fr.refl _ _).alloc _).drew | exact HKEEP.out _ (((Fr.refl _ _).alloc _).alloc _).drew | exact HKEEP.out _ FZ) ?_
                  rotate_left
                  · intro w hSw
                    obtain ⟨e0, e1, e2, e3, e4, e5, e6, e7⟩ := hSw
                    go_simp
                    all_goals with_reducible rfl
                  try simp only [Act.put, List.setIfInBounds_toArray, List.set_cons_zero, List.set_cons_succ]
                  refine wpAnyH_take (i := 10) (v := ?_) (arr_get _ 10 _ rfl) (by kernel_rfl) (by kernel_rfl) (by kernel_rfl) (fun _ _ _ h => h) (Or.inl ⟨by rfl, ?_⟩) (by first | exact HKEEP.out _ (Fr.refl _ _) | exact HKEEP.out _ ((Fr.refl _ _).drew) | exact HKEEP.out _ ((Fr.refl _ _).alloc _).drew | exact HKEEP.out _ (((Fr.refl _ _).alloc _).alloc _).drew | exact HKEEP.out _ FZ) ?_
                  rotate_left
                  · intro w hSw
                    obtain ⟨e0, e1, e2, e3, e4, e5, e6, e7⟩ := hSw
                    go_simp
                    all_goals with_reducible rfl
                  try simp only [Act.put, List.setIfInBounds_toArray, List.set_cons_zero, List.set_cons_succ]
                  refine wpAnyH_take (i := 6) (v := ?_) (arr_get _ 6 _ rfl) (by kernel_rfl) (by kernel_rfl) (by kernel_rfl) (fun _ _ _ h => h) (Or.inl ⟨by rfl, ?_⟩) (by first | exact HKEEP.out _ (Fr.refl _ _) | exact HKEEP.out _ ((Fr.refl _ _).drew) | exact HKEEP.out _ ((Fr.refl _ _).alloc _).drew | exact HKEEP.out _ (((Fr.refl _ _).alloc _).alloc _).drew | exact HKEEP.out _ FZ) ?_
                  rotate_left
                  · intro w hSw
                    obtain ⟨e0, e1, e2, e3, e4, e5, e6, e7⟩ := hSw
                    go_simp
                    all_goals with_reducible rfl
                  try simp only [Act.put, List.setIfInBounds_toArray, List.set_cons_zero, List.set_cons_succ]
                  refine wpAnyH_take (i := 11) (v := ?_) (arr_get _ 11 _ rfl) (by kernel_rfl) (by kernel_rfl) (by kernel_rfl) (fun _ _ _ h => h) (Or.inl ⟨by rfl, ?_⟩) (by first | exact HKEEP.out _ (Fr.refl _ _) | exact HKEEP.out _ ((Fr.refl _ _).drew) | exact HKEEP.out _ ((Fr.refl _ _).alloc _).drew | exact HKEEP.out _ (((Fr.refl _ _).alloc _).alloc _).drew | exact HKEEP.out _ FZ) ?_
                  rotate_left
                  · intro w hSw
                    obtain ⟨e0, e1, e2, e3, e4, e5, e6, e7⟩ := hSw
                    go_simp
                    all_goals with_reducible rfl
                  try simp only [Act.put, List.setIfInBounds_toArray, List.set_cons_zero, List.set_cons_succ]
                  refine wpAnyH_ready (rs := [7, 12]) (by kernel_rfl) (by simp) ?_
                  refine AllReadyH.cons (arr_get _ 7 _ rfl) (fun K hK => ?_) (AllReadyH.cons (arr_get _ 12 _ rfl) (fun K hK => ?_) AllReadyH.nil)
                  · go_simp
                    refine hK.out _ _ (by first | exact HKEEP.out _ (Fr.refl _ _) | exact HKEEP.out _ ((Fr.refl _ _).drew) | exact HKEEP.out _ ((Fr.refl _ _).alloc _).drew | exact HKEEP.out _ (((Fr.refl _ _).alloc _).alloc _).drew | exact HKEEP.out _ FZ) (fun _ => ?_)
                    clear hK K
                    try simp only [Act.put, List.setIfInBounds_toArray, List.set_cons_zero, List.set_cons_succ]
                    refine wpAnyH_ready (rs := [12]) (by kernel_rfl) (by simp) ?_
                    refine AllReadyH.cons (arr_get _ 12 _ rfl) (fun K hK => ?_) AllReadyH.nil
                    go_simp
                    refine hK.out _ _ (by first | exact HKEEP.out _ (Fr.refl _ _) | exact HKEEP.out _ ((Fr.refl _ _).drew) | exact HKEEP.out _ ((Fr.refl _ _).alloc _).drew | exact HKEEP.out _ (((Fr.refl _ _).alloc _).alloc _).drew | exact HKEEP.out _ FZ) (fun _ => ?_)
                    clear hK K
                    try simp only [Act.put, List.setIfInBounds_toArray, List.set_cons_zero, List.set_cons_succ]
                    refine wpAnyH_ready (rs := [13]) (by kernel_rfl) (by simp) ?_
                    refine AllReadyH.cons (arr_get _ 13 _ rfl) (fun K hK => ?_) AllReadyH.nil
                    go_simp
                    (go_at_call 13; refine S12.out.mono ?_; rintro e wz ⟨rfl, Fz⟩; have FZ := FF12.out.trans0 Fz.fr)
                    refine hK.out _ _ (by first | exact HKEEP.out _ (Fr.refl _ _) | exact HKEEP.out _ ((Fr.refl _ _).drew) | exact HKEEP.out _ ((Fr.refl _ _).alloc _).drew | exact HKEEP.out _ (((Fr.refl _ _).alloc _).alloc _).drew | exact HKEEP.out _ FZ) (fun _ => ?_)
                    clear hK K
                    try simp only [Act.put, List.setIfInBounds_toArray, List.set_cons_zero, List.set_cons_succ]
                    refine wpAnyH_take (i := 14) (v := ?_) (arr_get _ 14 _ rfl) (by kernel_rfl) (by kernel_rfl) (by kernel_rfl) (fun _ _ _ h => h) (Or.inl ⟨by rfl, ?_⟩) (by first | exact HKEEP.out _ (Fr.refl _ _) | exact HKEEP.out _ ((Fr.refl _ _).drew) | exact HKEEP.out _ ((Fr.refl _ _).alloc _).drew | exact HKEEP.out _ (((Fr.refl _ _).alloc _).alloc _).drew | exact HKEEP.out _ FZ) ?_
                    rotate_left
                    · intro w hSw
                      obtain ⟨e0, e1, e2, e3, e4, e5, e6, e7⟩ := hSw
                      go_simp
                      all_goals with_reducible rfl
                    try simp only [Act.put, List.setIfInBounds_toArray, List.set_cons_zero, List.set_cons_succ]
                    refine wpAnyH_take (i := 15) (v := ?_) (arr_get _ 15 _ rfl) (by kernel_rfl) (by kernel_rfl) (by kernel_rfl) (fun _ _ _ h => h) (Or.inl ⟨by rfl, ?_⟩) (by first | exact HKEEP.out _ (Fr.refl _ _) | exact HKEEP.out _ ((Fr.refl _ _).drew) | exact HKEEP.out _ ((Fr.refl _ _).alloc _).drew | exact HKEEP.out _ (((Fr.refl _ _).alloc _).alloc _).drew | exact HKEEP.out _ FZ) ?_
                    rotate_left
                    · intro w hSw
                      obtain ⟨e0, e1, e2, e3, e4, e5, e6, e7⟩ := hSw
                      go_simp
                      all_goals with_reducible rfl
                    try simp only [Act.put, List.setIfInBounds_toArray, List.set_cons_zero, List.set_cons_succ]
                    refine wpAnyH_done (by kernel_rfl) ?_ _
                    go_simp
                    try go_step
                    go_meet
                    case rel => exact ⟨rfl, FZ⟩
                  · go_simp
                    refine hK.out _ _ (by first | exact HKEEP.out _ (Fr.refl _ _) | exact HKEEP.out _ ((Fr.refl _ _).drew) | exact HKEEP.out _ ((Fr.refl _ _).alloc _).drew | exact HKEEP.out _ (((Fr.refl _ _).alloc _).alloc _).drew | exact HKEEP.out _ FZ) (fun _ => ?_)
                    clear hK K
                    try simp only [Act.put, List.setIfInBounds_toArray, List.set_cons_zero, List.set_cons_succ]
                    refine wpAnyH_ready (rs := [7]) (by kernel_rfl) (by simp) ?_
                    refine AllReadyH.cons (arr_get _ 7 _ rfl) (fun K hK => ?_) AllReadyH.nil
                    go_simp
                    refine hK.out _ _ (by first | exact HKEEP.out _ (Fr.refl _ _) | exact HKEEP.out _ ((Fr.refl _ _).drew) | exact HKEEP.out _ ((Fr.refl _ _).alloc _).drew | exact HKEEP.out _ (((Fr.refl _ _).alloc _).alloc _).drew | exact HKEEP.out _ FZ) (fun _ => ?_)
                    clear hK K
                    try simp only [Act.put, List.setIfInBounds_toArray, List.set_cons_zero, List.set_cons_succ]
                    refine wpAnyH_ready (rs := [13]) (by kernel_rfl) (by simp) ?_
                    refine AllReadyH.cons (arr_get _ 13 _ rfl) (fun K hK => ?_) AllReadyH.nil
                    go_simp
                    (go_at_call 13; refine S21.out.mono ?_; rintro e wz ⟨rfl, Fz⟩; have FZ := FF21.out.trans0 Fz.fr)
                    refine hK.out _ _ (by first | exact HKEEP.out _ (Fr.refl _ _) | exact HKEEP.out _ ((Fr.refl _ _).drew) | exact HKEEP.out _ ((Fr.refl _ _).alloc _).drew | exact HKEEP.out _ (((Fr.refl _ _).alloc _).alloc _).drew | exact HKEEP.out _ FZ) (fun _ => ?_)
                    clear hK K
                    try simp only [Act.put, List.setIfInBounds_toArray, List.set_cons_zero, List.set_cons_succ]
                    refine wpAnyH_take (i := 14) (v := ?_) (arr_get _ 14 _ rfl) (by kernel_rfl) (by kernel_rfl) (by kernel_rfl) (fun _ _ _ h => h) (Or.inl ⟨by rfl, ?_⟩) (by first | exact HKEEP.out _ (Fr.refl _ _) | exact HKEEP.out _ ((Fr.refl _ _).drew) | exact HKEEP.out _ ((Fr.refl _ _).alloc _).drew | exact HKEEP.out _ (((Fr.refl _ _).alloc _).alloc _).drew | exact HKEEP.out _ FZ) ?_
                    rotate_left
                    · intro w hSw
                      obtain ⟨e0, e1, e2, e3, e4, e5, e6, e7⟩ := hSw
                      go_simp
                      all_goals with_reducible rfl
                    try simp only [Act.put, List.setIfInBounds_toArray, List.set_cons_zero, List.set_cons_succ]
                    refine wpAnyH_take (i := 15) (v := ?_) (arr_get _ 15 _ rfl) (by kernel_rfl) (by kernel_rfl) (by kernel_rfl) (fun _ _ _ h => h) (Or.inl ⟨by rfl, ?_⟩) (by first | exact HKEEP.out _ (Fr.refl _ _) | exact HKEEP.out _ ((Fr.refl _ _).drew) | exact HKEEP.out _ ((Fr.refl _ _).alloc _).drew | exact HKEEP.out _ (((Fr.refl _ _).alloc _).alloc _).drew | exact HKEEP.out _ FZ) ?_
                    rotate_left
                    · intro w hSw
                      obtain ⟨e0, e1, e2, e3, e4, e5, e6, e7⟩ := hSw
                      go_simp
                      all_goals with_reducible rfl
                    try simp only [Act.put, List.setIfInBounds_toArray, List.set_cons_zero, List.set_cons_succ]
                    refine wpAnyH_done (by kernel_rfl) ?_ _
                    go_simp
                    try go_step
                    go_meet
                    case rel => exact ⟨rfl, FZ⟩
                case rest =>
                rename World => wB
                obtain ⟨rfl, FB⟩ := hcut
                (refine hK24 _ _ ?_; clear hK24)
                go_wp2_with fail
                go_roundw
                case rel => exact ⟨k + 1, by omega, by go_num, HLX.out, LA.out.trans (Lo.of0 FB), FA.out.trans0 FB⟩
                case measure => simp [intOf]; omega
    · obtain rfl : k = XN := by omega
      have hltI : ¬ (k : Int) < (k : Int) := by omega
      rw [List.take_of_length_le (Nat.le_of_eq HXLN.out)]
      obtain ⟨LX, hLX⟩ : ∃ LX, linkN XL = LX := ⟨_, rfl⟩
      have HLX0 := Lib.hid (show LX ≤ 61 from by rw [← hLX]; unfold linkN; exact Nat.le_trans (List.length_filter_le _ _) (by rw [HXLN.out]; exact HXB.out))
      have HLE := Lib.hid (show LX ≤ linkN L from by rw [← hLX]; exact linkN_le HMT.out.1 HXP.out HXK.out HR.out)
      rw [hLX]
      clear hLX
      go_wp2_with fail
      go_loopw [13, 17] (fun v13 v17 wr => ∃ j : Nat, j ≤ N ∧ v17 = .int .i64 (j : Int) ∧ v13 = .int .i64 ((LX : Int) - ((linkN (L.take j) : Nat) : Int)) ∧ Lo w3.heap.size w3 wr ∧ Fr [] w7 wr) (fun _ i _ => N - (intOf i).toNat)
      case atStart => exact ⟨0, Nat.zero_le _, rfl, by show Value.int .i64 (LX : Int) = .int .i64 ((LX : Int) - ((0 : Nat) : Int)); simp, LA.out, FA.out⟩
      case round =>
        rename World => wB
        obtain ⟨j, hj, rfl, rfl, hL, hF⟩ := hrel
        have LB := Lib.hid hL
        have FB := Lib.hid hF
        have hn60 := HN60.out
        have hlx := HLX0.out
        clear b0 b1 b2 b3
        obtain ⟨b0, b1, b2, b3⟩ := HBL.out wB hL
        clear hL hF
        by_cases hlt2 : j < N
        · obtain ⟨t, hx⟩ := some_get L j (by rw [HN.out]; exact hlt2)
          obtain ⟨lb, lof, da, dc, rfl, hlbl, -, c0, c1, c2, c3, -, -⟩ := (HTL.out wB LB.out).get hx
          have hltJ : (j : Int) < (N : Int) := by omega
          have HLK := Lib.hid (linkN_snoc hx)
          have HTK := Lib.hid (look_at HMT.out.1 hx)
          have hql := (HSL.out.2 t (List.mem_of_getElem? hx)).1
          have HLB := Lib.hid (show linkN (L.take j) ≤ 61 from by
            unfold linkN
            refine Nat.le_trans (List.length_filter_le _ _) ?_
            rw [List.length_take]
            omega)
          have hlb := HLB.out
          obtain ⟨lk, hlk⟩ : ∃ lk, linkN (L.take j) = lk := ⟨_, rfl⟩
          rw [hlk] at HLK hlb ⊢
          obtain ⟨q, kd, dl, ln⟩ := t
          dsimp only at c0 c1 c2 c3 hql
          have HAT := Lib.hid (rat_any (X7.out.fr0 FB.out) (by rw [HXLN.out]; have := HXB.out; omega) q)
          have HW1 := Lib.hid (rwithin_any wB q d.path HQ.out.1)
          have HW2 := Lib.hid (rwithin_any wB q T2 HQ.out.2)
          obtain ⟨ik, hik⟩ : ∃ ik, atL XL q = ik := ⟨_, rfl⟩
          have HIK := Lib.hid hik
          rw [hik] at HAT
          have HSTAY := Lib.hid (fun (e1 : q ≠ d.path) (e3 : withinB q d.path = false) (e4 : withinB q T2 = false) => (show ¬ ik < 0 from by
            have h1 : K' q = lookL L q := HR.out.stays e1 e3 (by rw [HT2.out]; exact e4)
            rw [← HXK.out, HTK.out] at h1
            rcases atL_cases XL q with ⟨i0, s, -, -, g3, -⟩ | ⟨-, g4⟩
            · rw [← HIK.out, g3]; omega
            · rw [g4] at h1
              cases h1))
          clear hx hik hlk
          generalize hw1 : withinB q d.path = wi1 at *
          generalize hw2 : withinB q T2 = wi2 at *
          clear hw1 hw2
          by_cases k3 : kd = 3
          · have t3 : (kd == 3) = true := by rw [k3]; rfl
            have HLX2 := Lib.hid (show Value.int .i64 ((LX : Int) - (lk : Int) - 1) = .int .i64 ((LX : Int) - ((linkN (L.take (j + 1)) : Nat) : Int)) by rw [HLK.out, if_pos k3]; congr 1; omega)
            clear k3
            cases q1 : q == d.path with
            | true =>
              go_wp2_with (first
                | (have hq := hW1; go_at_call 16; refine HW2.out.mono ?_; rintro e wB ⟨rfl, rfl⟩)
                | (go_at_call 16; refine HW1.out.mono ?_; rintro e wB ⟨rfl, rfl⟩; have hW1 := Lib.hid trivial)
                | (go_at_call 15; refine HAT.out.mono ?_; rintro e wB ⟨rfl, rfl⟩))
              go_roundw
              case rel => exact ⟨j + 1, by omega, by go_num, HLX2.out, LB.out, FB.out⟩
              case measure => simp [intOf]; omega
            | false =>
              cases q2 : q == T2 with
              | true =>
                go_wp2_with (first
                  | (have hq := hW1; go_at_call 16; refine HW2.out.mono ?_; rintro e wB ⟨rfl, rfl⟩)
                  | (go_at_call 16; refine HW1.out.mono ?_; rintro e wB ⟨rfl, rfl⟩; have hW1 := Lib.hid trivial)
                  | (go_at_call 15; refine HAT.out.mono ?_; rintro e wB ⟨rfl, rfl⟩))
                go_roundw
                case rel => exact ⟨j + 1, by omega, by go_num, HLX2.out, LB.out, FB.out⟩
                case measure => simp [intOf]; omega
              | false =>
                cases wi1 with
                | true =>
                  go_wp2_with (first
                    | (have hq := hW1; go_at_call 16; refine HW2.out.mono ?_; rintro e wB ⟨rfl, rfl⟩)
                    | (go_at_call 16; refine HW1.out.mono ?_; rintro e wB ⟨rfl, rfl⟩; have hW1 := Lib.hid trivial)
                    | (go_at_call 15; refine HAT.out.mono ?_; rintro e wB ⟨rfl, rfl⟩))
                  go_roundw
                  case rel => exact ⟨j + 1, by omega, by go_num, HLX2.out, LB.out, FB.out⟩
                  case measure => simp [intOf]; omega
                | false =>
                  cases wi2 with
                  | true =>
                    go_wp2_with (first
                      | (have hq := hW1; go_at_call 16; refine HW2.out.mono ?_; rintro e wB ⟨rfl, rfl⟩)
                      | (go_at_call 16; refine HW1.out.mono ?_; rintro e wB ⟨rfl, rfl⟩; have hW1 := Lib.hid trivial)
                      | (go_at_call 15; refine HAT.out.mono ?_; rintro e wB ⟨rfl, rfl⟩))
                    go_roundw
                    case rel => exact ⟨j + 1, by omega, by go_num, HLX2.out, LB.out, FB.out⟩
                    case measure => simp [intOf]; omega
                  | false =>
                    have i1 : ¬ ik < 0 := HSTAY.out (by simpa using q1) rfl rfl
                    have i1b : decide (ik < 0) = false := decide_eq_false i1
                    go_wp2_with (first
                      | (have hq := hW1; go_at_call 16; refine HW2.out.mono ?_; rintro e wB ⟨rfl, rfl⟩)
                      | (go_at_call 16; refine HW1.out.mono ?_; rintro e wB ⟨rfl, rfl⟩; have hW1 := Lib.hid trivial)
                      | (go_at_call 15; refine HAT.out.mono ?_; rintro e wB ⟨rfl, rfl⟩))
                    go_roundw
                    case rel => exact ⟨j + 1, by omega, by go_num, HLX2.out, LB.out, FB.out⟩
                    case measure => simp [intOf]; omega
          · have t3 : (kd == 3) = false := by simpa using k3
            have HLX2 := Lib.hid (show Value.int .i64 ((LX : Int) - (lk : Int)) = .int .i64 ((LX : Int) - ((linkN (L.take (j + 1)) : Nat) : Int)) by rw [HLK.out, if_neg k3]; rfl)
            clear k3
            cases q1 : q == d.path with
            | true =>
              go_wp2_with (first
                | (have hq := hW1; go_at_call 16; refine HW2.out.mono ?_; rintro e wB ⟨rfl, rfl⟩)
                | (go_at_call 16; refine HW1.out.mono ?_; rintro e wB ⟨rfl, rfl⟩; have hW1 := Lib.hid trivial)
                | (go_at_call 15; refine HAT.out.mono ?_; rintro e wB ⟨rfl, rfl⟩))
              go_roundw
              case rel => exact ⟨j + 1, by omega, by go_num, HLX2.out, LB.out, FB.out⟩
              case measure => simp [intOf]; omega
            | false =>
              cases q2 : q == T2 with
              | true =>
                go_wp2_with (first
                  | (have hq := hW1; go_at_call 16; refine HW2.out.mono ?_; rintro e wB ⟨rfl, rfl⟩)
                  | (go_at_call 16; refine HW1.out.mono ?_; rintro e wB ⟨rfl, rfl⟩; have hW1 := Lib.hid trivial)
                  | (go_at_call 15; refine HAT.out.mono ?_; rintro e wB ⟨rfl, rfl⟩))
                go_roundw
                case rel => exact ⟨j + 1, by omega, by go_num, HLX2.out, LB.out, FB.out⟩
                case measure => simp [intOf]; omega
              | false =>
                cases wi1 with
                | true =>
                  go_wp2_with (first
                    | (have hq := hW1; go_at_call 16; refine HW2.out.mono ?_; rintro e wB ⟨rfl, rfl⟩)
                    | (go_at_call 16; refine HW1.out.mono ?_; rintro e wB ⟨rfl, rfl⟩; have hW1 := Lib.hid trivial)
                    | (go_at_call 15; refine HAT.out.mono ?_; rintro e wB ⟨rfl, rfl⟩))
                  go_roundw
                  case rel => exact ⟨j + 1, by omega, by go_num, HLX2.out, LB.out, FB.out⟩
                  case measure => simp [intOf]; omega
                | false =>
                  cases wi2 with
                  | true =>
                    go_wp2_with (first
                      | (have hq := hW1; go_at_call 16; refine HW2.out.mono ?_; rintro e wB ⟨rfl, rfl⟩)
                      | (go_at_call 16; refine HW1.out.mono ?_; rintro e wB ⟨rfl, rfl⟩; have hW1 := Lib.hid trivial)
                      | (go_at_call 15; refine HAT.out.mono ?_; rintro e wB ⟨rfl, rfl⟩))
                    go_roundw
                    case rel => exact ⟨j + 1, by omega, by go_num, HLX2.out, LB.out, FB.out⟩
                    case measure => simp [intOf]; omega
                  | false =>
                    have i1 : ¬ ik < 0 := HSTAY.out (by simpa using q1) rfl rfl
                    have i1b : decide (ik < 0) = false := decide_eq_false i1
                    go_wp2_with (first
                      | (have hq := hW1; go_at_call 16; refine HW2.out.mono ?_; rintro e wB ⟨rfl, rfl⟩)
                      | (go_at_call 16; refine HW1.out.mono ?_; rintro e wB ⟨rfl, rfl⟩; have hW1 := Lib.hid trivial)
                      | (go_at_call 15; refine HAT.out.mono ?_; rintro e wB ⟨rfl, rfl⟩))
                    go_roundw
                    case rel => exact ⟨j + 1, by omega, by go_num, HLX2.out, LB.out, FB.out⟩
                    case measure => simp [intOf]; omega
        · obtain rfl : j = N := by omega
          have hltJ : ¬ (j : Int) < (j : Int) := by omega
          have HDEC := Lib.hid (show decide ((LX : Int) - ((linkN (L.take j) : Nat) : Int) ≤ 0) = true from by
            rw [List.take_of_length_le (Nat.le_of_eq HN.out)]
            exact decide_eq_true (by have := HLE.out; omega))
          obtain ⟨LL, hLL⟩ : ∃ LL, linkN (L.take j) = LL := ⟨_, rfl⟩
          rw [hLL] at HDEC ⊢
          clear hLL
          have hdec := HDEC.out
          go_wp2_with fail
          go_ret
          exact ⟨by first | rfl | rw [HDEC.out] | simp [hdec], Lo.fr FW.out LB.out⟩
end Go.Proofs.YtjeblccboeljnaaGreatDoor
