/- Contracts: a call of Publish; calls that fail (printed by ycallp_gen.py). No condition but that lengths fit. -/
import Derived.Test.YthbkcjlpelihlaaGreatDoorGAK
namespace Go.Proofs.YthbkcjlpelihlaaGreatDoor
open Go.RowKit Go.Maps

set_option maxRecDepth 100000 in
set_option maxHeartbeats 4000000 in
theorem call_pub {w : World} {lo p b : Nat} {fv cv : Value} {n nc : Nat} {fl : Fl} {KV : List UInt8 → Option Value} {K : Tree} (h : SandIn w lo p b fv cv n nc fl KV K) (hG : Gl w) (q : List UInt8) (hq : q.length ≤ 100000) (to_ : List UInt8) (hto : to_.length ≤ 100000) (g : Nat) (lb : Array Value)
    (eg : ∀ args w, (callFunc g args).run Tryz.prog w = .ok (.enter g args) w) (hcl : cleanL foldL q = true) (hclt : cleanL foldL to_ = true) (hlo_ : fl.ok nc q ⟨to_.toArray⟩) (hnc : nc ≤ 100000)
    (P : Int → Nat → Tree → World → Prop) (hdo : ∀ wx, Fr [] w wx → Calls Tryz.prog g lb wx fun e w2 => ∃ c b' n' KV' K', e = .returned (.int .i64 c) ∧ SandIn w2 lo p b' fv cv n' nc fl KV' K' ∧ P c n' K' w2) :
    Calls Tryz.prog 109 #[.pointer (some ⟨p, 0, none⟩), .int .i64 5, .string ⟨q.toArray⟩, .string ⟨to_.toArray⟩, .func (.func g) #[] lb] w fun e w' =>
      ∃ c b' n' KV' K' w2 cv', P c n' K' w2 ∧ e = .returned (.int .i64 c) ∧ SandIn w' lo p b' fv cv' n' (nc + 1) fl KV' K' ∧ Lo lo w2 w' := by
  have hl := hlo_.1
  have HR := Lib.hid hlo_.2
  clear hlo_
  have HCL := Lib.hid (sclean_any w q hG hq)
  have HCT := Lib.hid (fun wx (F : Fr [] w wx) => sclean_any wx to_ (hG.fr F) hto)
  rw [hclt] at HCT
  obtain ⟨c0, c1, c2⟩ := h.cells
  obtain ⟨xs, hca⟩ := h.ca
  obtain ⟨co, cc, rfl, -⟩ := own_outS hca
  obtain ⟨fo, fc, rfl, -⟩ := own_outS h.fa
  have hnot : ∀ (x : Bool) (w : World), (Op.unary .not (.bool x)).run Tryz.prog w = .ok (.bool (!x)) w := fun _ _ => rfl
  rw [hcl] at HCL
  have HDO := Lib.hid hdo
  have HNC := Lib.hid hnc
  have HH := Lib.hid h
  have HCA := Lib.hid hca
  clear hdo hca hG hcl hclt
  by_cases s0 : nc < fl.l.length
  rotate_left
  · have s1 : ¬ (nc : Int) < (fl.l.length : Int) := by omega
    clear hl h s0
    go_enter Tryz.func109, Tryz.ntmps109
    go_upto_region 8 with (first
      | (refine (HDO.out w1 F1).mono ?_; rintro e w2 ⟨c, b', n', KV', K', rfl, hS, hP⟩; have HS := Lib.hid hS; have HP := Lib.hid hP; obtain ⟨f0, f1, f2⟩ := hS.cells; clear hS hP)
      | (have hq := Fq; go_at_call 56; refine (HCT.out wq Fq).mono ?_; rintro e w1 ⟨rfl, FX⟩; have F1 : Fr [] w w1 := Fq.trans0 FX; obtain ⟨d0, d1, d2⟩ := (HH.out.fr0 F1).cells)
      | (go_at_call 56; refine HCL.out.mono ?_; rintro e wq ⟨rfl, Fq⟩))
    obtain ⟨xs2, hca2, hcr2⟩ := HS.out.cr
    have HC2 := Lib.hid hca2
    have hsz := Nat.le_trans HS.out.lp (Nat.le_of_lt HS.out.ltp)
    have HP0 := Lib.hid (fun w3 cv' g hc => HS.out.put (w3 := w3) cv' [.int .i64 5, .string ⟨q.toArray⟩, .string ⟨to_.toArray⟩, .int .i64 c] xs2 hca2 (hcr2.put hca2.1 HR.out _ _) hc g)
    have own0 := Lib.hid (own_frB hca2 ((Fr.refl [] w2).alloc (.cells #[.int .i64 5, .string ⟨q.toArray⟩, .string ⟨to_.toArray⟩, .int .i64 c] 53)) (by simp))
    clear hca2 hcr2
    go_wp2_with (at_builtin; refine wpList_append_struct sty_call rfl _ _ rfl lo _ nc xs2 rfl own0.out w2.heap.size [.int .i64 5, .string ⟨q.toArray⟩, .string ⟨to_.toArray⟩, .int .i64 c] rfl (heap_alloc_new w2 _) rfl rfl (by have := HNC.out; omega) (by decide) (by rw [World.size_alloc]; omega) ?_; intro cv' w3 own3 g3; obtain ⟨nao, ncap, rfl, -⟩ := own_outS own3; obtain ⟨q1, q2, q3⟩ := HP0.out w3 _ g3 own3; have HQ1 := Lib.hid q1; have HQ2 := Lib.hid q2; obtain ⟨e0, e1, e2, ez⟩ := cells3 q3; have ez2 := ez 2; clear q1 q2 own3 g3)
    go_ret
    exact ⟨c, b', n', KV', K', w2, _, HP.out, rfl, HQ1.out, HS.out.loc HQ2.out⟩
  · have s1 : (nc : Int) < (fl.l.length : Int) := by omega
    obtain ⟨ao', cap', e', -, -, hcl2⟩ := (Sl.of_own h.fa).out
    rw [tv_length] at e' hcl2
    obtain ⟨bb, oo, rfl, hbb, hcell⟩ := hcl2 nc s0
    injection e' with e1 _ _
    subst e1
    have hcc : w.cell? ⟨bb, oo + nc, none⟩ = some (.bool false) := by
      rw [hcell nc s0]
      obtain ⟨x, hx⟩ := some_get fl.l nc s0
      rw [tv_get _ _ _ hx]
      rw [List.getD_eq_getElem?_getD, hx] at hl
      simp at hl
      rw [hl]
    clear hl h hcl2 hcell s0
    go_enter Tryz.func109, Tryz.ntmps109
    go_upto_region 8 with (first
      | (refine (HDO.out w1 F1).mono ?_; rintro e w2 ⟨c, b', n', KV', K', rfl, hS, hP⟩; have HS := Lib.hid hS; have HP := Lib.hid hP; obtain ⟨f0, f1, f2⟩ := hS.cells; clear hS hP)
      | (have hq := Fq; go_at_call 56; refine (HCT.out wq Fq).mono ?_; rintro e w1 ⟨rfl, FX⟩; have F1 : Fr [] w w1 := Fq.trans0 FX; obtain ⟨d0, d1, d2⟩ := (HH.out.fr0 F1).cells; have dc := (F1.cell (p := ⟨bb, oo + nc, none⟩) hbb (by simp)).trans hcc)
      | (go_at_call 56; refine HCL.out.mono ?_; rintro e wq ⟨rfl, Fq⟩))
    obtain ⟨xs2, hca2, hcr2⟩ := HS.out.cr
    have HC2 := Lib.hid hca2
    have hsz := Nat.le_trans HS.out.lp (Nat.le_of_lt HS.out.ltp)
    have HP0 := Lib.hid (fun w3 cv' g hc => HS.out.put (w3 := w3) cv' [.int .i64 5, .string ⟨q.toArray⟩, .string ⟨to_.toArray⟩, .int .i64 c] xs2 hca2 (hcr2.put hca2.1 HR.out _ _) hc g)
    have own0 := Lib.hid (own_frB hca2 ((Fr.refl [] w2).alloc (.cells #[.int .i64 5, .string ⟨q.toArray⟩, .string ⟨to_.toArray⟩, .int .i64 c] 53)) (by simp))
    clear hca2 hcr2
    go_wp2_with (at_builtin; refine wpList_append_struct sty_call rfl _ _ rfl lo _ nc xs2 rfl own0.out w2.heap.size [.int .i64 5, .string ⟨q.toArray⟩, .string ⟨to_.toArray⟩, .int .i64 c] rfl (heap_alloc_new w2 _) rfl rfl (by have := HNC.out; omega) (by decide) (by rw [World.size_alloc]; omega) ?_; intro cv' w3 own3 g3; obtain ⟨nao, ncap, rfl, -⟩ := own_outS own3; obtain ⟨q1, q2, q3⟩ := HP0.out w3 _ g3 own3; have HQ1 := Lib.hid q1; have HQ2 := Lib.hid q2; obtain ⟨e0, e1, e2, ez⟩ := cells3 q3; have ez2 := ez 2; clear q1 q2 own3 g3)
    go_ret
    exact ⟨c, b', n', KV', K', w2, _, HP.out, rfl, HQ1.out, HS.out.loc HQ2.out⟩
set_option maxRecDepth 100000 in
set_option maxHeartbeats 4000000 in
theorem call_pubbad {w : World} {lo p b : Nat} {fv cv : Value} {n nc : Nat} {fl : Fl} {KV : List UInt8 → Option Value} {K : Tree} (h : SandIn w lo p b fv cv n nc fl KV K) (hG : Gl w) (q : List UInt8) (hq : q.length ≤ 100000) (to_ : List UInt8) (hto : to_.length ≤ 100000) (fv2 : Value)
    (hcl : cleanL foldL q = true) (hclt : cleanL foldL to_ = false) (hnc : nc ≤ 100000) (hR : fl.R nc q ⟨to_.toArray⟩) :
    Calls Tryz.prog 109 #[.pointer (some ⟨p, 0, none⟩), .int .i64 5, .string ⟨q.toArray⟩, .string ⟨to_.toArray⟩, fv2] w fun e w' =>
      e = .returned (.int .i64 301) ∧ (∃ cv', SandIn w' lo p b fv cv' n (nc + 1) fl KV K) ∧ Lo lo w w' := by
  have HR := Lib.hid hR
  clear hR
  have HCL := Lib.hid (sclean_any w q hG hq)
  have HCT := Lib.hid (fun wx (F : Fr [] w wx) => sclean_any wx to_ (hG.fr F) hto)
  rw [hclt] at HCT
  obtain ⟨c0, c1, c2⟩ := h.cells
  obtain ⟨xs, hca⟩ := h.ca
  obtain ⟨co, cc, rfl, -⟩ := own_outS hca
  have hnot : ∀ (x : Bool) (w : World), (Op.unary .not (.bool x)).run Tryz.prog w = .ok (.bool (!x)) w := fun _ _ => rfl
  rw [hcl] at HCL
  have HNC := Lib.hid hnc
  have HH := Lib.hid h
  clear hca hG hcl h hclt
  go_enter Tryz.func109, Tryz.ntmps109
  go_upto_region 8 with (first
    | (have hq := Fq; go_at_call 56; refine (HCT.out wq Fq).mono ?_; rintro e w2 ⟨rfl, FX⟩; have F1 : Fr [] w w2 := Fq.trans0 FX; have HS := Lib.hid (HH.out.fr0 F1); obtain ⟨d0, d1, d2⟩ := HS.out.cells)
    | (go_at_call 56; refine HCL.out.mono ?_; rintro e wq ⟨rfl, Fq⟩))
  obtain ⟨xs2, hca2, hcr2⟩ := HS.out.cr
  have hsz := Nat.le_trans HS.out.lp (Nat.le_of_lt HS.out.ltp)
  have HP0 := Lib.hid (fun w3 cv' g hc => HS.out.put (w3 := w3) cv' [.int .i64 5, .string ⟨q.toArray⟩, .string ⟨to_.toArray⟩, .int .i64 301] xs2 hca2 (hcr2.put hca2.1 HR.out _ _) hc g)
  have own0 := Lib.hid (own_frB hca2 ((Fr.refl [] w2).alloc (.cells #[.int .i64 5, .string ⟨q.toArray⟩, .string ⟨to_.toArray⟩, .int .i64 301] 53)) (by simp))
  clear hca2 hcr2
  go_wp2_with (at_builtin; refine wpList_append_struct sty_call rfl _ _ rfl lo _ nc xs2 rfl own0.out w2.heap.size [.int .i64 5, .string ⟨q.toArray⟩, .string ⟨to_.toArray⟩, .int .i64 301] rfl (heap_alloc_new w2 _) rfl rfl (by have := HNC.out; omega) (by decide) (by rw [World.size_alloc]; omega) ?_; intro cv' w3 own3 g3; obtain ⟨nao, ncap, rfl, -⟩ := own_outS own3; obtain ⟨q1, q2, q3⟩ := HP0.out w3 _ g3 own3; have HQ1 := Lib.hid q1; have HQ2 := Lib.hid q2; obtain ⟨e0, e1, e2, ez⟩ := cells3 q3; have ez2 := ez 2; clear q1 q2 own3 g3)
  go_ret
  refine ⟨rfl, ⟨_, HQ1.out⟩, ?_⟩
  exact HH.out.loc ((F1.mono (by simp)).trans HQ2.out (fun i hi => .inl hi))
set_option maxRecDepth 100000 in
set_option maxHeartbeats 4000000 in
theorem call_fail {w : World} {lo p b : Nat} {fv cv : Value} {n nc : Nat} {fl : Fl} {KV : List UInt8 → Option Value} {K : Tree} (h : SandIn w lo p b fv cv n nc fl KV K) (hG : Gl w) (kd : Int) (hkd : ¬ kd = 5) (q : List UInt8) (hq : q.length ≤ 100000) (to_ : ByteArray) (fv2 : Value)
    (hcl : cleanL foldL q = true) (hl : fl.l.getD nc false = true) (hnc : nc ≤ 100000) (hR : fl.R nc q to_) :
    Calls Tryz.prog 109 #[.pointer (some ⟨p, 0, none⟩), .int .i64 kd, .string ⟨q.toArray⟩, .string to_, fv2] w fun e w' =>
      e = .returned (.int .i64 201) ∧ (∃ cv', SandIn w' lo p b fv cv' n (nc + 1) fl KV K) ∧ Lo lo w w' := by
  have HR := Lib.hid hR
  clear hR
  have HCL := Lib.hid (sclean_any w q hG hq)
  obtain ⟨c0, c1, c2⟩ := h.cells
  obtain ⟨xs, hca⟩ := h.ca
  obtain ⟨co, cc, rfl, -⟩ := own_outS hca
  have hnot : ∀ (x : Bool) (w : World), (Op.unary .not (.bool x)).run Tryz.prog w = .ok (.bool (!x)) w := fun _ _ => rfl
  have hlf : nc < fl.l.length := by
    apply Classical.byContradiction
    intro hn
    rw [List.getD_eq_getElem?_getD, List.getElem?_eq_none (by omega)] at hl
    cases hl
  obtain ⟨fo, fc, rfl, -⟩ := own_outS h.fa
  obtain ⟨ao', cap', e', -, -, hcl2⟩ := (Sl.of_own h.fa).out
  rw [tv_length] at e' hcl2
  obtain ⟨bb, oo, rfl, hbb, hcell⟩ := hcl2 nc hlf
  injection e' with e1 e2 e3
  subst e1
  have hcc : w.cell? ⟨bb, oo + nc, none⟩ = some (.bool true) := by
    rw [hcell nc hlf]
    obtain ⟨x, hx⟩ := some_get fl.l nc hlf
    rw [tv_get _ _ _ hx]
    rw [List.getD_eq_getElem?_getD, hx] at hl
    simp at hl
    rw [hl]
  have s1 : (nc : Int) < (fl.l.length : Int) := by omega
  clear e2 e3 hl hcl2 hcell hlf
  rw [hcl] at HCL
  have HNC := Lib.hid hnc
  have HH := Lib.hid h
  clear hca hG hcl h
  go_enter Tryz.func109, Tryz.ntmps109
  go_upto_region 8 with (go_at_call 56; refine HCL.out.mono ?_; rintro e w2 ⟨rfl, F1⟩; have HS := Lib.hid (HH.out.fr0 F1); obtain ⟨d0, d1, d2⟩ := HS.out.cells; have dc := (F1.cell (p := ⟨bb, oo + nc, none⟩) hbb (by simp)).trans hcc)
  obtain ⟨xs2, hca2, hcr2⟩ := HS.out.cr
  have hsz := Nat.le_trans HS.out.lp (Nat.le_of_lt HS.out.ltp)
  have HP0 := Lib.hid (fun w3 cv' g hc => HS.out.put (w3 := w3) cv' [.int .i64 kd, .string ⟨q.toArray⟩, .string to_, .int .i64 201] xs2 hca2 (hcr2.put hca2.1 HR.out _ _) hc g)
  have own0 := Lib.hid (own_frB hca2 ((Fr.refl [] w2).alloc (.cells #[.int .i64 kd, .string ⟨q.toArray⟩, .string to_, .int .i64 201] 53)) (by simp))
  clear hca2 hcr2
  go_wp2_with (at_builtin; refine wpList_append_struct sty_call rfl _ _ rfl lo _ nc xs2 rfl own0.out w2.heap.size [.int .i64 kd, .string ⟨q.toArray⟩, .string to_, .int .i64 201] rfl (heap_alloc_new w2 _) rfl rfl (by have := HNC.out; omega) (by decide) (by rw [World.size_alloc]; omega) ?_; intro cv' w3 own3 g3; obtain ⟨nao, ncap, rfl, -⟩ := own_outS own3; obtain ⟨q1, q2, q3⟩ := HP0.out w3 _ g3 own3; have HQ1 := Lib.hid q1; have HQ2 := Lib.hid q2; obtain ⟨e0, e1, e2, ez⟩ := cells3 q3; have ez2 := ez 2; clear q1 q2 own3 g3)
  go_ret
  refine ⟨rfl, ⟨_, HQ1.out⟩, ?_⟩
  exact HH.out.loc ((F1.mono (by simp)).trans HQ2.out (fun i hi => .inl hi))
set_option maxRecDepth 100000 in
set_option maxHeartbeats 4000000 in
theorem call_pubfail {w : World} {lo p b : Nat} {fv cv : Value} {n nc : Nat} {fl : Fl} {KV : List UInt8 → Option Value} {K : Tree} (h : SandIn w lo p b fv cv n nc fl KV K) (hG : Gl w) (q : List UInt8) (hq : q.length ≤ 100000) (to_ : List UInt8) (hto : to_.length ≤ 100000) (fv2 : Value)
    (hcl : cleanL foldL q = true) (hclt : cleanL foldL to_ = true) (hl : fl.l.getD nc false = true) (hnc : nc ≤ 100000) (hR : fl.R nc q ⟨to_.toArray⟩) :
    Calls Tryz.prog 109 #[.pointer (some ⟨p, 0, none⟩), .int .i64 5, .string ⟨q.toArray⟩, .string ⟨to_.toArray⟩, fv2] w fun e w' =>
      e = .returned (.int .i64 201) ∧ (∃ cv', SandIn w' lo p b fv cv' n (nc + 1) fl KV K) ∧ Lo lo w w' := by
  have HR := Lib.hid hR
  clear hR
  have HCL := Lib.hid (sclean_any w q hG hq)
  have HCT := Lib.hid (fun wx (F : Fr [] w wx) => sclean_any wx to_ (hG.fr F) hto)
  rw [hclt] at HCT
  obtain ⟨c0, c1, c2⟩ := h.cells
  obtain ⟨xs, hca⟩ := h.ca
  obtain ⟨co, cc, rfl, -⟩ := own_outS hca
  have hnot : ∀ (x : Bool) (w : World), (Op.unary .not (.bool x)).run Tryz.prog w = .ok (.bool (!x)) w := fun _ _ => rfl
  have hlf : nc < fl.l.length := by
    apply Classical.byContradiction
    intro hn
    rw [List.getD_eq_getElem?_getD, List.getElem?_eq_none (by omega)] at hl
    cases hl
  obtain ⟨fo, fc, rfl, -⟩ := own_outS h.fa
  obtain ⟨ao', cap', e', -, -, hcl2⟩ := (Sl.of_own h.fa).out
  rw [tv_length] at e' hcl2
  obtain ⟨bb, oo, rfl, hbb, hcell⟩ := hcl2 nc hlf
  injection e' with e1 e2 e3
  subst e1
  have hcc : w.cell? ⟨bb, oo + nc, none⟩ = some (.bool true) := by
    rw [hcell nc hlf]
    obtain ⟨x, hx⟩ := some_get fl.l nc hlf
    rw [tv_get _ _ _ hx]
    rw [List.getD_eq_getElem?_getD, hx] at hl
    simp at hl
    rw [hl]
  have s1 : (nc : Int) < (fl.l.length : Int) := by omega
  clear e2 e3 hl hcl2 hcell hlf
  rw [hcl] at HCL
  have HNC := Lib.hid hnc
  have HH := Lib.hid h
  clear hca hG hcl h hclt
  go_enter Tryz.func109, Tryz.ntmps109
  go_upto_region 8 with (first
    | (have hq := Fq; go_at_call 56; refine (HCT.out wq Fq).mono ?_; rintro e w2 ⟨rfl, FX⟩; have F1 : Fr [] w w2 := Fq.trans0 FX; have HS := Lib.hid (HH.out.fr0 F1); obtain ⟨d0, d1, d2⟩ := HS.out.cells; have dc := (F1.cell (p := ⟨bb, oo + nc, none⟩) hbb (by simp)).trans hcc)
    | (go_at_call 56; refine HCL.out.mono ?_; rintro e wq ⟨rfl, Fq⟩))
  obtain ⟨xs2, hca2, hcr2⟩ := HS.out.cr
  have hsz := Nat.le_trans HS.out.lp (Nat.le_of_lt HS.out.ltp)
  have HP0 := Lib.hid (fun w3 cv' g hc => HS.out.put (w3 := w3) cv' [.int .i64 5, .string ⟨q.toArray⟩, .string ⟨to_.toArray⟩, .int .i64 201] xs2 hca2 (hcr2.put hca2.1 HR.out _ _) hc g)
  have own0 := Lib.hid (own_frB hca2 ((Fr.refl [] w2).alloc (.cells #[.int .i64 5, .string ⟨q.toArray⟩, .string ⟨to_.toArray⟩, .int .i64 201] 53)) (by simp))
  clear hca2 hcr2
  go_wp2_with (at_builtin; refine wpList_append_struct sty_call rfl _ _ rfl lo _ nc xs2 rfl own0.out w2.heap.size [.int .i64 5, .string ⟨q.toArray⟩, .string ⟨to_.toArray⟩, .int .i64 201] rfl (heap_alloc_new w2 _) rfl rfl (by have := HNC.out; omega) (by decide) (by rw [World.size_alloc]; omega) ?_; intro cv' w3 own3 g3; obtain ⟨nao, ncap, rfl, -⟩ := own_outS own3; obtain ⟨q1, q2, q3⟩ := HP0.out w3 _ g3 own3; have HQ1 := Lib.hid q1; have HQ2 := Lib.hid q2; obtain ⟨e0, e1, e2, ez⟩ := cells3 q3; have ez2 := ez 2; clear q1 q2 own3 g3)
  go_ret
  refine ⟨rfl, ⟨_, HQ1.out⟩, ?_⟩
  exact HH.out.loc ((F1.mono (by simp)).trans HQ2.out (fun i hi => .inl hi))
end Go.Proofs.YthbkcjlpelihlaaGreatDoor
