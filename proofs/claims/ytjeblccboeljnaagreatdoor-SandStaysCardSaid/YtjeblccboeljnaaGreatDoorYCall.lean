/- Contract: a sandbox's call. No condition but that lengths fit. -/
import Derived.Test.YtjeblccboeljnaaGreatDoorYFresh
namespace Go.Proofs.YtjeblccboeljnaaGreatDoor
open Go.RowKit Go.Maps

theorem info_call : (Tryz.prog.info? 72).map (fun i => (i.zero, i.size, i.bytes)) = some (some (.agg #[.int .i64 0, .string ⟨#[]⟩, .string ⟨#[]⟩, .int .i64 0]), 4, 48) := by kernel_rfl
theorem sty_call : SlTyM Tryz.prog 45 72 (.agg #[.int .i64 0, .string ⟨#[]⟩, .string ⟨#[]⟩, .int .i64 0]) 4 48 := ⟨Tryz.underlying45, by obtain ⟨i, h⟩ := info_parts info_call; exact ⟨i, h⟩, rfl, by decide⟩

/-- A call is put down: the calls' row grows by one. -/
theorem SandIn.put {w w3 : World} {lo p b : Nat} {fv cv : Value} {n nc : Nat} {fl : List Bool} {KV : List UInt8 → Option Value} {K : Tree} (h : SandIn w lo p b fv cv n nc fl KV K) (cv' : Value) (us xs : List Value)
    (hca : w.ownsRow lo 72 4 cv nc xs) (hc : w3.ownsRow lo 72 4 cv' (nc + 1) (xs ++ us)) (g : (w.alloc (.cells us.toArray 72)).grownBy w3 cv.ownBlock) :
    SandIn (w3.setCell ⟨p, 2, none⟩ cv') lo p b fv cv' n (nc + 1) fl KV K ∧ Fr (p :: cv.ownBlock.toList) w (w3.setCell ⟨p, 2, none⟩ cv') ∧
      w3.heap[p]? = some (.cells #[.map (some b), fv, cv] 58 (0, 0)) := by
  have F3 : Fr cv.ownBlock.toList w w3 := ((Fr.refl _ w).alloc (.cells us.toArray 72)).grown g (fun k e => .inl (by rw [e]; simp))
  have hty : ∀ k, cv.ownBlock = some k → ∀ e', e' ≠ 72 → ∀ cs z, w.heap[k]? ≠ some (.cells cs e' z) := fun k hk e' he => own_type hca k hk e' he
  have hpn : p ∉ cv.ownBlock.toList := fun hm => hty p (by simpa using hm) 58 (by decide) _ _ h.blk
  have hbn : b ∉ cv.ownBlock.toList := fun hm => by
    obtain ⟨D, ⟨es, clock, h1, -⟩, -⟩ := h.mp
    rcases hca.2 with ⟨rfl, -⟩ | ⟨g, cap, cur, rfl, -, hg, -⟩
    · simp [Value.ownBlock] at hm
    · simp [Value.ownBlock] at hm
      subst hm
      rw [h1] at hg
      cases hg
  have b3 : w3.heap[p]? = some (.cells #[.map (some b), fv, cv] 58 (0, 0)) := (F3.block p h.ltp hpn).trans h.blk
  have Fs : Fr [p] w3 (w3.setCell ⟨p, 2, none⟩ cv') := (Fr.refl _ _).setCell (by simp) _
  have F4 : Fr (p :: cv.ownBlock.toList) w (w3.setCell ⟨p, 2, none⟩ cv') := (F3.mono (fun i hi => by simp at hi; simp [hi])).setCell (by simp) _
  have hS : ∀ e, e ≠ 72 → e ≠ 58 → ∀ i ∈ (p :: cv.ownBlock.toList), i < lo ∨ ∀ cs z, w.heap[i]? ≠ some (.cells cs e z) := fun e h1 h2 i hi => by
    refine .inr fun cs z hh => ?_
    rcases List.mem_cons.1 hi with rfl | hi
    · rw [h.blk] at hh
      injection hh with hh
      injection hh with _ h3 _
      exact h2 h3.symm
    · exact hty i (by simpa using hi) e h1 cs z hh
  have hb4 : b ∉ (p :: cv.ownBlock.toList) := fun hm => by
    rcases List.mem_cons.1 hm with e | hm
    · exact h.ne e.symm
    · exact hbn hm
  refine ⟨⟨Go.Joins.block_setCell b3 _, h.mp.fr F4 hb4, h.rd.fr F4 (hS _ (by decide) (by decide)), own_frT h.fa F4 (hS _ (by decide) (by decide)), ⟨_, own_frT hc Fs (fun i hi => .inr fun cs z hh => ?_)⟩, h.lp, h.lb⟩, F4, b3⟩
  simp at hi
  subst hi
  rw [b3] at hh
  injection hh with hh
  injection hh with _ h3 _
  exact absurd h3 (by decide)
theorem cells3 {w : World} {p : Nat} {a0 a1 a2 : Value} {t : TypeId} (h : w.heap[p]? = some (.cells #[a0, a1, a2] t (0, 0))) : w.cell? ⟨p, 0, none⟩ = some a0 ∧ w.cell? ⟨p, 1, none⟩ = some a1 ∧ w.cell? ⟨p, 2, none⟩ = some a2 ∧ (∀ j, w.frozen? ⟨p, j, none⟩ = false) := by
  have key : ∀ i : Nat, w.cell? ⟨p, i, none⟩ = (#[a0, a1, a2] : Array Value)[i]? := Go.Joins.cell_of_block h
  exact ⟨by rw [key]; rfl, by rw [key]; rfl, by rw [key]; rfl, fun j => by simp [World.frozen?, h]⟩

set_option maxRecDepth 100000 in
set_option maxHeartbeats 4000000 in
theorem call_bad {w : World} {lo p b : Nat} {fv cv : Value} {n nc : Nat} {fl : List Bool} {KV : List UInt8 → Option Value} {K : Tree} (h : SandIn w lo p b fv cv n nc fl KV K) (hG : Gl w) (kd : Int) (q : List UInt8) (hq : q.length ≤ 100000) (to_ : ByteArray) (fv2 : Value)
    (hcl : cleanL foldL q = false) (hnc : nc ≤ 100000) :
    Calls Tryz.prog 34 #[.pointer (some ⟨p, 0, none⟩), .int .i64 kd, .string ⟨q.toArray⟩, .string to_, fv2] w fun e w' =>
      e = .returned (.int .i64 301) ∧ (∃ cv', SandIn w' lo p b fv cv' n (nc + 1) fl KV K) ∧ Fr (p :: cv.ownBlock.toList) w w' := by
  have HCL := Lib.hid (sclean_any w q hG hq)
  obtain ⟨c0, c1, c2⟩ := h.cells
  obtain ⟨xs, hca⟩ := h.ca
  obtain ⟨co, cc, rfl, -⟩ := own_outS hca
  have hnot : ∀ (x : Bool) (w : World), (Op.unary .not (.bool x)).run Tryz.prog w = .ok (.bool (!x)) w := fun _ _ => rfl
  rw [hcl] at HCL
  have HNC := Lib.hid hnc
  have HH := Lib.hid h
  clear hca hG hcl h
  go_enter Tryz.func34, Tryz.ntmps34
  go_upto_region 8 with (go_at_call 48; refine HCL.out.mono ?_; rintro e w2 ⟨rfl, F1⟩; have HS := Lib.hid (HH.out.fr0 F1); obtain ⟨d0, d1, d2⟩ := HS.out.cells)
  obtain ⟨xs2, hca2⟩ := HS.out.ca
  have hsz := Nat.le_trans HS.out.lp (Nat.le_of_lt HS.out.ltp)
  have HP0 := Lib.hid (fun w3 cv' g hc => HS.out.put (w3 := w3) cv' [.int .i64 kd, .string ⟨q.toArray⟩, .string to_, .int .i64 301] xs2 hca2 hc g)
  have own0 := Lib.hid (own_frB hca2 ((Fr.refl [] w2).alloc (.cells #[.int .i64 kd, .string ⟨q.toArray⟩, .string to_, .int .i64 301] 72)) (by simp))
  clear hca2
  go_wp2_with (at_builtin; refine wpList_append_struct sty_call rfl _ _ rfl lo _ nc xs2 rfl own0.out w2.heap.size [.int .i64 kd, .string ⟨q.toArray⟩, .string to_, .int .i64 301] rfl (heap_alloc_new w2 _) rfl rfl (by have := HNC.out; omega) (by decide) (by rw [World.size_alloc]; omega) ?_; intro cv' w3 own3 g3; obtain ⟨nao, ncap, rfl, -⟩ := own_outS own3; obtain ⟨q1, q2, q3⟩ := HP0.out w3 _ g3 own3; have HQ1 := Lib.hid q1; have HQ2 := Lib.hid q2; obtain ⟨e0, e1, e2, ez⟩ := cells3 q3; have ez2 := ez 2; clear q1 q2 own3 g3)
  go_ret
  refine ⟨rfl, ⟨_, HQ1.out⟩, ?_⟩
  exact (F1.mono (by simp)).trans HQ2.out (fun i hi => .inl hi)
set_option maxRecDepth 100000 in
set_option maxHeartbeats 4000000 in
theorem call_do {w : World} {lo p b : Nat} {fv cv : Value} {n nc : Nat} {fl : List Bool} {KV : List UInt8 → Option Value} {K : Tree} (h : SandIn w lo p b fv cv n nc fl KV K) (hG : Gl w) (kd : Int) (hkd : ¬ kd = 5) (q : List UInt8) (hq : q.length ≤ 100000) (to_ : ByteArray) (g : Nat) (lb : Array Value)
    (eg : ∀ args w, (callFunc g args).run Tryz.prog w = .ok (.enter g args) w) (hcl : cleanL foldL q = true) (hl : fl.getD nc false = false) (hnc : nc ≤ 100000)
    (P : Int → Nat → Tree → World → Prop) (hdo : ∀ wx, Fr [] w wx → Calls Tryz.prog g lb wx fun e w2 => ∃ c b' n' KV' K', e = .returned (.int .i64 c) ∧ SandIn w2 lo p b' fv cv n' nc fl KV' K' ∧ P c n' K' w2) :
    Calls Tryz.prog 34 #[.pointer (some ⟨p, 0, none⟩), .int .i64 kd, .string ⟨q.toArray⟩, .string to_, .func (.func g) #[] lb] w fun e w' =>
      ∃ c b' n' KV' K' w2 cv', P c n' K' w2 ∧ e = .returned (.int .i64 c) ∧ SandIn w' lo p b' fv cv' n' (nc + 1) fl KV' K' ∧ Fr (p :: cv.ownBlock.toList) w2 w' := by
  have HCL := Lib.hid (sclean_any w q hG hq)
  obtain ⟨c0, c1, c2⟩ := h.cells
  obtain ⟨xs, hca⟩ := h.ca
  obtain ⟨co, cc, rfl, -⟩ := own_outS hca
  obtain ⟨fo, fc, rfl, -⟩ := own_outS h.fa
  have hnot : ∀ (x : Bool) (w : World), (Op.unary .not (.bool x)).run Tryz.prog w = .ok (.bool (!x)) w := fun _ _ => rfl
  rw [hcl] at HCL
  have HDO := Lib.hid hdo
  have HNC := Lib.hid hnc
  have HH := Lib.hid h
  have HCA := Lib.hid hca
  clear hdo hca hG hcl
  by_cases s0 : nc < fl.length
  rotate_left
  · have s1 : ¬ (nc : Int) < (fl.length : Int) := by omega
    clear hl h s0
    go_enter Tryz.func34, Tryz.ntmps34
    go_upto_region 8 with (first
      | (refine (HDO.out w1 F1).mono ?_; rintro e w2 ⟨c, b', n', KV', K', rfl, hS, hP⟩; have HS := Lib.hid hS; have HP := Lib.hid hP; obtain ⟨f0, f1, f2⟩ := hS.cells; clear hS hP)
      | (go_at_call 48; refine HCL.out.mono ?_; rintro e w1 ⟨rfl, F1⟩; obtain ⟨d0, d1, d2⟩ := (HH.out.fr0 F1).cells))
    obtain ⟨xs2, hca2⟩ := HS.out.ca
    have HC2 := Lib.hid hca2
    have hsz := Nat.le_trans HS.out.lp (Nat.le_of_lt HS.out.ltp)
    have HP0 := Lib.hid (fun w3 cv' g hc => HS.out.put (w3 := w3) cv' [.int .i64 kd, .string ⟨q.toArray⟩, .string to_, .int .i64 c] xs2 hca2 hc g)
    have own0 := Lib.hid (own_frB hca2 ((Fr.refl [] w2).alloc (.cells #[.int .i64 kd, .string ⟨q.toArray⟩, .string to_, .int .i64 c] 72)) (by simp))
    clear hca2
    go_wp2_with (at_builtin; refine wpList_append_struct sty_call rfl _ _ rfl lo _ nc xs2 rfl own0.out w2.heap.size [.int .i64 kd, .string ⟨q.toArray⟩, .string to_, .int .i64 c] rfl (heap_alloc_new w2 _) rfl rfl (by have := HNC.out; omega) (by decide) (by rw [World.size_alloc]; omega) ?_; intro cv' w3 own3 g3; obtain ⟨nao, ncap, rfl, -⟩ := own_outS own3; obtain ⟨q1, q2, q3⟩ := HP0.out w3 _ g3 own3; have HQ1 := Lib.hid q1; have HQ2 := Lib.hid q2; obtain ⟨e0, e1, e2, ez⟩ := cells3 q3; have ez2 := ez 2; clear q1 q2 own3 g3)
    go_ret
    exact ⟨c, b', n', KV', K', w2, _, HP.out, rfl, HQ1.out, HQ2.out⟩
  · have s1 : (nc : Int) < (fl.length : Int) := by omega
    obtain ⟨ao', cap', e', -, -, hcl2⟩ := (Sl.of_own h.fa).out
    rw [tv_length] at e' hcl2
    obtain ⟨bb, oo, rfl, hbb, hcell⟩ := hcl2 nc s0
    injection e' with e1 _ _
    subst e1
    have hcc : w.cell? ⟨bb, oo + nc, none⟩ = some (.bool false) := by
      rw [hcell nc s0]
      obtain ⟨x, hx⟩ := some_get fl nc s0
      rw [tv_get _ _ _ hx]
      rw [List.getD_eq_getElem?_getD, hx] at hl
      simp at hl
      rw [hl]
    clear hl h hcl2 hcell s0
    go_enter Tryz.func34, Tryz.ntmps34
    go_upto_region 8 with (first
      | (refine (HDO.out w1 F1).mono ?_; rintro e w2 ⟨c, b', n', KV', K', rfl, hS, hP⟩; have HS := Lib.hid hS; have HP := Lib.hid hP; obtain ⟨f0, f1, f2⟩ := hS.cells; clear hS hP)
      | (go_at_call 48; refine HCL.out.mono ?_; rintro e w1 ⟨rfl, F1⟩; obtain ⟨d0, d1, d2⟩ := (HH.out.fr0 F1).cells; have dc := (F1.cell (p := ⟨bb, oo + nc, none⟩) hbb (by simp)).trans hcc))
    obtain ⟨xs2, hca2⟩ := HS.out.ca
    have HC2 := Lib.hid hca2
    have hsz := Nat.le_trans HS.out.lp (Nat.le_of_lt HS.out.ltp)
    have HP0 := Lib.hid (fun w3 cv' g hc => HS.out.put (w3 := w3) cv' [.int .i64 kd, .string ⟨q.toArray⟩, .string to_, .int .i64 c] xs2 hca2 hc g)
    have own0 := Lib.hid (own_frB hca2 ((Fr.refl [] w2).alloc (.cells #[.int .i64 kd, .string ⟨q.toArray⟩, .string to_, .int .i64 c] 72)) (by simp))
    clear hca2
    go_wp2_with (at_builtin; refine wpList_append_struct sty_call rfl _ _ rfl lo _ nc xs2 rfl own0.out w2.heap.size [.int .i64 kd, .string ⟨q.toArray⟩, .string to_, .int .i64 c] rfl (heap_alloc_new w2 _) rfl rfl (by have := HNC.out; omega) (by decide) (by rw [World.size_alloc]; omega) ?_; intro cv' w3 own3 g3; obtain ⟨nao, ncap, rfl, -⟩ := own_outS own3; obtain ⟨q1, q2, q3⟩ := HP0.out w3 _ g3 own3; have HQ1 := Lib.hid q1; have HQ2 := Lib.hid q2; obtain ⟨e0, e1, e2, ez⟩ := cells3 q3; have ez2 := ez 2; clear q1 q2 own3 g3)
    go_ret
    exact ⟨c, b', n', KV', K', w2, _, HP.out, rfl, HQ1.out, HQ2.out⟩
end Go.Proofs.YtjeblccboeljnaaGreatDoor
