/- Contracts: Mkdir, Create (printed by ymk_gen.py). No condition but that lengths fit. -/
import Derived.Test.YthbkcjlpelihlaaGreatDoorGAK
import Derived.Lib.AppendZerosOnto
import Derived.LoopN
namespace Go.Proofs.YthbkcjlpelihlaaGreatDoor
open Go.RowKit Go.Maps

/-- What a call that makes something new answers; what is there then. -/
def mkK (K : Tree) (q : List UInt8) (kd : Int) : Int × Tree := if cleanL foldL q = false then (301, K) else if (K q).isSome || !liesK K q then (202, K) else (0, updK K q ⟨kd, [], []⟩)
def SandAt (w : World) (lo p n nc : Nat) (fl : Fl) (K : Tree) : Prop := ∃ b fv cv KV, SandIn w lo p b fv cv n nc fl KV K
theorem SandAt.fr0 {w w' : World} {lo p n nc : Nat} {fl : Fl} {K : Tree} (h : SandAt w lo p n nc fl K) (F : Fr [] w w') : SandAt w' lo p n nc fl K := by
  obtain ⟨b, fv, cv, KV, h⟩ := h
  exact ⟨b, fv, cv, KV, h.fr0 F⟩
def MkR (w : World) (lo p n nc : Nat) (fl : Fl) (K : Tree) (q : List UInt8) (kd : Int) (e : Ending) (w' : World) : Prop :=
  ∃ n', e = .returned (.int .i64 (mkK K q kd).1) ∧ SandAt w' lo p n' (nc + 1) fl (mkK K q kd).2 ∧ n' ≤ n + 1 ∧ Lo lo w w'
theorem FreshR.out {w : World} {lo p b : Nat} {fv cv : Value} {n nc : Nat} {fl : Fl} {KV : List UInt8 → Option Value} {K : Tree} {q : List UInt8} {kd : Int} {e : Ending} {w' : World} (hcl : cleanL foldL q = true) (h : FreshR w lo p b fv cv n nc fl KV K q kd e w') :
    ∃ n' KV', e = .returned (.int .i64 (mkK K q kd).1) ∧ SandIn w' lo p b fv cv n' nc fl KV' (mkK K q kd).2 ∧ n' ≤ n + 1 ∧ Fr [b] w w' := by
  unfold mkK
  rw [if_neg (by rw [hcl]; simp)]
  rcases h with ⟨h1, h2, rfl, ⟨KV', h4⟩, h5⟩ | ⟨h1, rfl, h4, h5⟩
  · rw [if_neg (by rw [h1, h2]; simp)]
    exact ⟨_, _, rfl, h4, Nat.le_refl _, h5⟩
  · rw [if_pos (by rcases h1 with h1 | h1 <;> rw [h1] <;> simp)]
    exact ⟨_, _, rfl, h4, Nat.le_succ _, h5.mono (by simp)⟩

set_option maxRecDepth 100000 in
set_option maxHeartbeats 2000000 in
theorem mkdir_body {w : World} {lo p b : Nat} {fv cv : Value} {n nc : Nat} {fl : Fl} {KV : List UInt8 → Option Value} {K : Tree} (h : SandIn w lo p b fv cv n nc fl KV K) (q : List UInt8) (hq : q.length ≤ 100000) (hn : n ≤ 100000) (B0 B1 : Nat)
    (m0 : w.cell? ⟨B0, 0, none⟩ = some (.pointer (some ⟨p, 0, none⟩))) (m1 : w.cell? ⟨B1, 0, none⟩ = some (.string ⟨q.toArray⟩)) :
    Calls Tryz.prog 145 #[.pointer (some ⟨B0, 0, none⟩), .pointer (some ⟨B1, 0, none⟩)] w (FreshR w lo p b fv cv n nc fl KV K q 1) := by
  have HF := Lib.hid (fresh_any h q hq 1 hn)
  clear h hq hn
  go_enter Tryz.func145, Tryz.ntmps145
  go_wp2_with (go_at_call 146; refine HF.out.mono ?_; rintro e w1 (⟨h1, h2, rfl, h4, h5⟩ | ⟨h1, rfl, h4, h5⟩))
  all_goals go_ret
  · exact .inl ⟨h1, h2, rfl, h4, h5⟩
  · exact .inr ⟨h1, rfl, h4, h5⟩
set_option maxRecDepth 100000 in
set_option maxHeartbeats 2000000 in
theorem mkdir_any {w : World} {lo p n nc : Nat} {fl : Fl} {K : Tree} (h : SandAt w lo p n nc fl K) (hG : Gl w) (q : List UInt8) (hq : q.length ≤ 100000) (hn : n ≤ 100000) (hnc : nc ≤ 100000) (hl : fl.ok nc q ⟨#[]⟩) :
    Calls Tryz.prog 101 #[.pointer (some ⟨p, 0, none⟩), .string ⟨q.toArray⟩] w (MkR w lo p n nc fl K q 1) := by
  obtain ⟨b, fv, cv, KV, h⟩ := h
  obtain ⟨wA, hwA⟩ : ∃ wA, wA = (w.alloc (.cells #[.pointer (some ⟨p, 0, none⟩)] 31)).alloc (.cells #[.string ⟨q.toArray⟩] 9) := ⟨_, rfl⟩
  have FA : Fr [] w wA := hwA ▸ ((Fr.refl _ _).alloc _).alloc _
  have m0 : wA.cell? ⟨w.heap.size, 0, none⟩ = some (.pointer (some ⟨p, 0, none⟩)) := by rw [hwA]; simp
  have m1 : wA.cell? ⟨w.heap.size + 1, 0, none⟩ = some (.string ⟨q.toArray⟩) := by rw [hwA]; simp
  have l0 : w.heap.size + 1 < wA.heap.size := by rw [hwA]; simp
  have hA := h.fr0 FA
  have hlo := Nat.le_trans h.lp (Nat.le_of_lt h.ltp)
  obtain ⟨xs, hca⟩ := h.ca
  have hcv : ∀ i ∈ (p :: cv.ownBlock.toList), lo ≤ i := fun i hi => by
    rcases List.mem_cons.1 hi with rfl | hi
    · exact h.lp
    · exact (own_ltS hca i (by simpa using hi)).1
  have hlb := h.lb
  cases hc : cleanL foldL q with
  | false =>
    have HB := Lib.hid (call_bad hA (hG.fr FA) 2 q hq ⟨#[]⟩ (.func (.func 145) #[] #[.pointer (some ⟨w.heap.size, 0, none⟩), .pointer (some ⟨w.heap.size + 1, 0, none⟩)]) hc hnc hl.2)
    have e : mkK K q 1 = (301, K) := by unfold mkK; rw [if_pos hc]
    unfold MkR
    rw [e]
    clear h hA hG hq hn hnc hl hc e m0 m1 l0 hca
    go_enter Tryz.func101, Tryz.ntmps101
    go_wp2_with (go_at_call 109; rw [← hwA]; refine HB.out.mono ?_; rintro e w1 ⟨rfl, ⟨cv', hS⟩, F1⟩)
    go_ret
    exact ⟨n, rfl, ⟨_, _, _, _, hS⟩, Nat.le_succ _, (Lo.of0 FA).trans F1⟩
  | true =>
    have HD := Lib.hid (call_do hA (hG.fr FA) 2 (by decide) q hq ⟨#[]⟩ 145 #[.pointer (some ⟨w.heap.size, 0, none⟩), .pointer (some ⟨w.heap.size + 1, 0, none⟩)] (enters_of Tryz.func145 (by kernel_rfl) rfl) hc hl hnc
      (fun c n' K' w2 => c = (mkK K q 1).1 ∧ K' = (mkK K q 1).2 ∧ n' ≤ n + 1 ∧ Lo lo w w2)
      (fun wx F => (mkdir_body (hA.fr0 F) q hq hn w.heap.size (w.heap.size + 1) ((F.cell (p := ⟨w.heap.size, 0, none⟩) (by show w.heap.size < _; omega) (by simp)).trans m0) ((F.cell (p := ⟨w.heap.size + 1, 0, none⟩) l0 (by simp)).trans m1)).mono (fun e w2 hh => by
        obtain ⟨n', KV', h1, h2, h3, h4⟩ := FreshR.out hc hh
        exact ⟨_, b, n', KV', _, h1, h2, rfl, rfl, h3, ((Lo.of0 FA).trans (Lo.of0 F)).trans (SandIn.lob (hA.fr0 F) h4)⟩)))
    unfold MkR
    clear h hA hG hq hn hnc hl hc m0 m1 l0 hca
    go_enter Tryz.func101, Tryz.ntmps101
    go_wp2_with (go_at_call 109; rw [← hwA]; refine HD.out.mono ?_; rintro e w1 ⟨c, b', n', KV', K', w2, cv', ⟨rfl, rfl, hn', hfr⟩, rfl, hS, F1⟩)
    go_ret
    exact ⟨n', rfl, ⟨_, _, _, _, hS⟩, hn', hfr.trans F1⟩

set_option maxRecDepth 100000 in
set_option maxHeartbeats 2000000 in
theorem create_body {w : World} {lo p b : Nat} {fv cv : Value} {n nc : Nat} {fl : Fl} {KV : List UInt8 → Option Value} {K : Tree} (h : SandIn w lo p b fv cv n nc fl KV K) (q : List UInt8) (hq : q.length ≤ 100000) (hn : n ≤ 100000) (B0 B1 : Nat)
    (m0 : w.cell? ⟨B0, 0, none⟩ = some (.pointer (some ⟨p, 0, none⟩))) (m1 : w.cell? ⟨B1, 0, none⟩ = some (.string ⟨q.toArray⟩)) :
    Calls Tryz.prog 194 #[.pointer (some ⟨B0, 0, none⟩), .pointer (some ⟨B1, 0, none⟩)] w (FreshR w lo p b fv cv n nc fl KV K q 2) := by
  have HF := Lib.hid (fresh_any h q hq 2 hn)
  clear h hq hn
  go_enter Tryz.func194, Tryz.ntmps194
  go_wp2_with (go_at_call 146; refine HF.out.mono ?_; rintro e w1 (⟨h1, h2, rfl, h4, h5⟩ | ⟨h1, rfl, h4, h5⟩))
  all_goals go_ret
  · exact .inl ⟨h1, h2, rfl, h4, h5⟩
  · exact .inr ⟨h1, rfl, h4, h5⟩
set_option maxRecDepth 100000 in
set_option maxHeartbeats 2000000 in
theorem create_any {w : World} {lo p n nc : Nat} {fl : Fl} {K : Tree} (h : SandAt w lo p n nc fl K) (hG : Gl w) (q : List UInt8) (hq : q.length ≤ 100000) (hn : n ≤ 100000) (hnc : nc ≤ 100000) (hl : fl.ok nc q ⟨#[]⟩) :
    Calls Tryz.prog 149 #[.pointer (some ⟨p, 0, none⟩), .string ⟨q.toArray⟩] w (MkR w lo p n nc fl K q 2) := by
  obtain ⟨b, fv, cv, KV, h⟩ := h
  obtain ⟨wA, hwA⟩ : ∃ wA, wA = (w.alloc (.cells #[.pointer (some ⟨p, 0, none⟩)] 31)).alloc (.cells #[.string ⟨q.toArray⟩] 9) := ⟨_, rfl⟩
  have FA : Fr [] w wA := hwA ▸ ((Fr.refl _ _).alloc _).alloc _
  have m0 : wA.cell? ⟨w.heap.size, 0, none⟩ = some (.pointer (some ⟨p, 0, none⟩)) := by rw [hwA]; simp
  have m1 : wA.cell? ⟨w.heap.size + 1, 0, none⟩ = some (.string ⟨q.toArray⟩) := by rw [hwA]; simp
  have l0 : w.heap.size + 1 < wA.heap.size := by rw [hwA]; simp
  have hA := h.fr0 FA
  have hlo := Nat.le_trans h.lp (Nat.le_of_lt h.ltp)
  obtain ⟨xs, hca⟩ := h.ca
  have hcv : ∀ i ∈ (p :: cv.ownBlock.toList), lo ≤ i := fun i hi => by
    rcases List.mem_cons.1 hi with rfl | hi
    · exact h.lp
    · exact (own_ltS hca i (by simpa using hi)).1
  have hlb := h.lb
  cases hc : cleanL foldL q with
  | false =>
    have HB := Lib.hid (call_bad hA (hG.fr FA) 3 q hq ⟨#[]⟩ (.func (.func 194) #[] #[.pointer (some ⟨w.heap.size, 0, none⟩), .pointer (some ⟨w.heap.size + 1, 0, none⟩)]) hc hnc hl.2)
    have e : mkK K q 2 = (301, K) := by unfold mkK; rw [if_pos hc]
    unfold MkR
    rw [e]
    clear h hA hG hq hn hnc hl hc e m0 m1 l0 hca
    go_enter Tryz.func149, Tryz.ntmps149
    go_wp2_with (go_at_call 109; rw [← hwA]; refine HB.out.mono ?_; rintro e w1 ⟨rfl, ⟨cv', hS⟩, F1⟩)
    go_ret
    exact ⟨n, rfl, ⟨_, _, _, _, hS⟩, Nat.le_succ _, (Lo.of0 FA).trans F1⟩
  | true =>
    have HD := Lib.hid (call_do hA (hG.fr FA) 3 (by decide) q hq ⟨#[]⟩ 194 #[.pointer (some ⟨w.heap.size, 0, none⟩), .pointer (some ⟨w.heap.size + 1, 0, none⟩)] (enters_of Tryz.func194 (by kernel_rfl) rfl) hc hl hnc
      (fun c n' K' w2 => c = (mkK K q 2).1 ∧ K' = (mkK K q 2).2 ∧ n' ≤ n + 1 ∧ Lo lo w w2)
      (fun wx F => (create_body (hA.fr0 F) q hq hn w.heap.size (w.heap.size + 1) ((F.cell (p := ⟨w.heap.size, 0, none⟩) (by show w.heap.size < _; omega) (by simp)).trans m0) ((F.cell (p := ⟨w.heap.size + 1, 0, none⟩) l0 (by simp)).trans m1)).mono (fun e w2 hh => by
        obtain ⟨n', KV', h1, h2, h3, h4⟩ := FreshR.out hc hh
        exact ⟨_, b, n', KV', _, h1, h2, rfl, rfl, h3, ((Lo.of0 FA).trans (Lo.of0 F)).trans (SandIn.lob (hA.fr0 F) h4)⟩)))
    unfold MkR
    clear h hA hG hq hn hnc hl hc m0 m1 l0 hca
    go_enter Tryz.func149, Tryz.ntmps149
    go_wp2_with (go_at_call 109; rw [← hwA]; refine HD.out.mono ?_; rintro e w1 ⟨c, b', n', KV', K', w2, cv', ⟨rfl, rfl, hn', hfr⟩, rfl, hS, F1⟩)
    go_ret
    exact ⟨n', rfl, ⟨_, _, _, _, hS⟩, hn', hfr.trans F1⟩
end Go.Proofs.YthbkcjlpelihlaaGreatDoor
/- Contract: Look. No condition but that lengths fit. -/
namespace Go.Proofs.YthbkcjlpelihlaaGreatDoor
open Go.RowKit Go.Maps

set_option maxRecDepth 100000 in
set_option maxHeartbeats 2000000 in
theorem look_body {w : World} {lo p b : Nat} {fv cv : Value} {n nc : Nat} {fl : Fl} {KV : List UInt8 → Option Value} {K : Tree} (h : SandIn w lo p b fv cv n nc fl KV K) (q : List UInt8) (hq : q.length ≤ 100000) (B0 B1 B2 : Nat)
    (m0 : w.cell? ⟨B0, 0, none⟩ = some (.pointer (some ⟨p, 0, none⟩))) (m1 : w.cell? ⟨B1, 0, none⟩ = some (.string ⟨q.toArray⟩)) (m2 : w.cell? ⟨B2, 0, none⟩ = some (.int .i64 0)) (z2 : w.frozen? ⟨B2, 0, none⟩ = false) :
    Calls Tryz.prog 188 #[.pointer (some ⟨B0, 0, none⟩), .pointer (some ⟨B1, 0, none⟩), .pointer (some ⟨B2, 0, none⟩)] w fun e w' => e = .returned (.int .i64 0) ∧ w' = (w.setCell ⟨B2, 0, none⟩ (.int .i64 (kindK K q))).drew := by
  obtain ⟨kd, dv, sv, hrun, ek⟩ := (h.fr0 ((Fr.refl _ w).drew)).kind q hq
  have hfd : ∀ w : World, (Instr.field 80 (.agg #[.int .i64 kd, dv, .string sv]) 0).run Tryz.prog w = .ok (.int .i64 kd) w := fun _ => by kernel_rfl
  obtain ⟨c0, -, -⟩ := h.cells
  rw [ek]
  clear ek h
  go_enter Tryz.func188, Tryz.ntmps188
  go_upto_region 1 with fail
  go_region
  go_wp2_with fail
  go_ret
  exact ⟨rfl, rfl⟩
/-- A box of another type may change. -/
theorem SandIn.box {w w' : World} {lo p b B t : Nat} {c : Array Value} {fv cv : Value} {n nc : Nat} {fl : Fl} {KV : List UInt8 → Option Value} {K : Tree} (h : SandIn w lo p b fv cv n nc fl KV K) (hB : w.heap[B]? = some (.cells c t (0, 0))) (h1 : t ≠ 5) (h2 : t ≠ 4) (h3 : t ≠ 53) (h4 : t ≠ 82)
    (F : Fr [B] w w') : SandIn w' lo p b fv cv n nc fl KV K := by
  have hS : ∀ e, t ≠ e → ∀ i ∈ [B], i < lo ∨ ∀ cs z, w.heap[i]? ≠ some (.cells cs e z) := fun e he i hi => by
    simp at hi
    subst hi
    refine .inr fun cs z hh => ?_
    rw [hB] at hh
    injection hh with hh
    injection hh with _ h5 _
    exact he h5
  have hp : p ∉ [B] := fun hm => by
    simp at hm
    subst hm
    rw [h.blk] at hB
    injection hB with hB
    injection hB with _ h5 _
    exact h4 h5.symm
  have hb : b ∉ [B] := fun hm => by
    simp at hm
    subst hm
    obtain ⟨D, ⟨es, clock, q1, -⟩, -⟩ := h.mp
    rw [q1] at hB
    cases hB
  obtain ⟨xs, hc, hcr⟩ := h.cr
  exact ⟨(F.block p h.ltp hp).trans h.blk, h.mp.fr F hb, h.rd.fr F (hS _ h1), own_frT h.fa F (hS _ h2), ⟨xs, own_frT hc F (hS _ h3), hcr⟩, h.lp, h.lb⟩
/-- What Look answers. -/
def lookK (K : Tree) (q : List UInt8) : Int × Int := if cleanL foldL q = true then (kindK K q, 0) else (0, 301)
set_option maxRecDepth 100000 in
set_option maxHeartbeats 2000000 in
theorem look_any {w : World} {lo p n nc : Nat} {fl : Fl} {K : Tree} (h : SandAt w lo p n nc fl K) (hG : Gl w) (q : List UInt8) (hq : q.length ≤ 100000) (hnc : nc ≤ 100000) (hl : fl.ok nc q ⟨#[]⟩) :
    Calls Tryz.prog 140 #[.pointer (some ⟨p, 0, none⟩), .string ⟨q.toArray⟩] w fun e w' => e = .returned (.tuple #[.int .i64 (lookK K q).1, .int .i64 (lookK K q).2]) ∧ SandAt w' lo p n (nc + 1) fl K ∧ Lo lo w w' := by
  obtain ⟨b, fv, cv, KV, h⟩ := h
  obtain ⟨wA, hwA⟩ : ∃ wA, wA = ((w.alloc (.cells #[.pointer (some ⟨p, 0, none⟩)] 31)).alloc (.cells #[.string ⟨q.toArray⟩] 9)).alloc (.cells #[.int .i64 0] 3) := ⟨_, rfl⟩
  have FA : Fr [] w wA := hwA ▸ (((Fr.refl _ _).alloc _).alloc _).alloc _
  have m0 : wA.cell? ⟨w.heap.size, 0, none⟩ = some (.pointer (some ⟨p, 0, none⟩)) := by
    have F : Fr [] (w.alloc (.cells #[.pointer (some ⟨p, 0, none⟩)] 31)) wA := hwA ▸ ((Fr.refl _ _).alloc _).alloc _
    rw [Go.Joins.cell_of_block ((F.block w.heap.size (by rw [World.size_alloc]; omega) (by simp)).trans (heap_alloc_new w _))]
    rfl
  have m1 : wA.cell? ⟨w.heap.size + 1, 0, none⟩ = some (.string ⟨q.toArray⟩) := by
    have F : Fr [] ((w.alloc (.cells #[.pointer (some ⟨p, 0, none⟩)] 31)).alloc (.cells #[.string ⟨q.toArray⟩] 9)) wA := hwA ▸ (Fr.refl _ _).alloc _
    have g := heap_alloc_new (w.alloc (.cells #[.pointer (some ⟨p, 0, none⟩)] 31)) (.cells #[.string ⟨q.toArray⟩] 9)
    rw [World.size_alloc] at g
    rw [Go.Joins.cell_of_block ((F.block (w.heap.size + 1) (by rw [World.size_alloc, World.size_alloc]; omega) (by simp)).trans g)]
    rfl
  have h2 : wA.heap[w.heap.size + 2]? = some (.cells #[.int .i64 0] 3 (0, 0)) := by
    have := heap_alloc_new ((w.alloc (.cells #[.pointer (some ⟨p, 0, none⟩)] 31)).alloc (.cells #[.string ⟨q.toArray⟩] 9)) (.cells #[.int .i64 0] 3)
    rw [World.size_alloc, World.size_alloc] at this
    rw [hwA]
    exact this
  have l0 : w.heap.size + 2 < wA.heap.size := (Array.getElem?_eq_some_iff.1 h2).1
  have hA := h.fr0 FA
  obtain ⟨xs, hca⟩ := h.ca
  have hcv : ∀ i ∈ (p :: cv.ownBlock.toList), lo ≤ i ∧ i < w.heap.size := fun i hi => by
    rcases List.mem_cons.1 hi with rfl | hi
    · exact ⟨h.lp, h.ltp⟩
    · exact own_ltS hca i (by simpa using hi)
  have hlo := Nat.le_trans h.lp (Nat.le_of_lt h.ltp)
  unfold lookK
  cases hc : cleanL foldL q with
  | false =>
    have HB := Lib.hid (call_bad hA (hG.fr FA) 1 q hq ⟨#[]⟩ (.func (.func 188) #[] #[.pointer (some ⟨w.heap.size, 0, none⟩), .pointer (some ⟨w.heap.size + 1, 0, none⟩), .pointer (some ⟨w.heap.size + 2, 0, none⟩)]) hc hnc hl.2)
    rw [if_neg (by simp)]
    clear h hA hG hq hnc hl hc m0 m1 hca
    go_enter Tryz.func140, Tryz.ntmps140
    go_wp2_with (go_at_call 109; rw [← hwA]; refine HB.out.mono ?_; rintro e w1 ⟨rfl, ⟨cv', hS⟩, F1⟩; have k2 : w1.cell? ⟨w.heap.size + 2, 0, none⟩ = some (.int .i64 0) := (by rw [Go.Joins.cell_of_block (F1.keep h2 (by decide) (by decide))]; rfl))
    go_ret2
    exact ⟨rfl, ⟨_, _, _, _, hS⟩, (Lo.of0 FA).trans F1⟩
  | true =>
    rw [if_pos rfl]
    have HD := Lib.hid (call_do hA (hG.fr FA) 1 (by decide) q hq ⟨#[]⟩ 188 #[.pointer (some ⟨w.heap.size, 0, none⟩), .pointer (some ⟨w.heap.size + 1, 0, none⟩), .pointer (some ⟨w.heap.size + 2, 0, none⟩)] (enters_of Tryz.func188 (by kernel_rfl) rfl) hc hl hnc
      (fun c n' K' w2 => c = 0 ∧ K' = K ∧ n' = n ∧ Lo lo w w2 ∧ w2.heap[w.heap.size + 2]? = some (.cells #[.int .i64 (kindK K q)] 3 (0, 0)))
      (fun wx F => by
        have x2 := (F.block (w.heap.size + 2) l0 (by simp)).trans h2
        have lx : w.heap.size + 2 < wx.heap.size := (Array.getElem?_eq_some_iff.1 x2).1
        refine (look_body (hA.fr0 F) q hq w.heap.size (w.heap.size + 1) (w.heap.size + 2) ((F.cell (p := ⟨w.heap.size, 0, none⟩) (by show w.heap.size < _; omega) (by simp)).trans m0) ((F.cell (p := ⟨w.heap.size + 1, 0, none⟩) (by show w.heap.size + 1 < _; omega) (by simp)).trans m1) (by rw [Go.Joins.cell_of_block x2]; rfl) (Go.Joins.unfrozen_of_block x2 0)).mono ?_
        rintro e w2 ⟨rfl, hw2⟩
        have F2 : Fr [w.heap.size + 2] wx w2 := hw2 ▸ ((Fr.refl _ _).setCell (.inl (by simp)) _).drew
        have b2 : w2.heap[w.heap.size + 2]? = some (.cells #[.int .i64 (kindK K q)] 3 (0, 0)) := by rw [hw2]; exact Go.Joins.block_setCell x2 _
        exact ⟨0, b, n, KV, K, rfl, (hA.fr0 F).box x2 (by decide) (by decide) (by decide) (by decide) F2, rfl, rfl, rfl, ((Lo.of0 FA).trans (Lo.of0 F)).trn F2 (by simp), b2⟩))
    clear h hA hG hq hnc hl hc m0 m1 hca
    go_enter Tryz.func140, Tryz.ntmps140
    go_wp2_with (go_at_call 109; rw [← hwA]; refine HD.out.mono ?_; rintro e w1 ⟨c, b', n', KV', K', w2, cv', ⟨rfl, rfl, rfl, hfr, hk⟩, rfl, hS, F1⟩; have k2 : w1.cell? ⟨w.heap.size + 2, 0, none⟩ = some (.int .i64 (kindK K' q)) := (by rw [Go.Joins.cell_of_block (F1.keep hk (by decide) (by decide))]; rfl))
    go_ret2
    exact ⟨rfl, ⟨_, _, _, _, hS⟩, hfr.trans F1⟩
end Go.Proofs.YthbkcjlpelihlaaGreatDoor
/- Contracts: slices.Grow of nil, slices.Concat of two rows of bytes (XGConcat, turned). No condition but that lengths fit. -/
namespace Go.Proofs.YthbkcjlpelihlaaGreatDoor
open Go.RowKit Go.Lib

theorem info_by : (Tryz.prog.info? 5).map (fun i => (i.zero, i.size, i.bytes)) = some (some (.int .u8 0), 1, 1) := by kernel_rfl
theorem sty_by : SlTy Tryz.prog 26 5 (.int .u8 0) 1 := ⟨Tryz.underlying26, by obtain ⟨i, h⟩ := info_parts info_by; exact ⟨i, h⟩, rfl⟩

/-- 'append(nil, make([]uint8, n)...)'. -/
theorem wpList_zeros {w : World} {ops : Array Oper} {rest : List Oper} {o : Oper} {a : Act} {Q : Exit → Act → World → Prop} (hgd : o.guard = none) (s x : Operand)
    (ho : o.op = .call { callee := .builtin .append, args := #[s, x], argTypes := #[26, 3] }) (n : Nat) (hs : a.eval s = .slice none 0 0) (hx : a.eval x = .int .i64 n) (h0 : 0 < n) (hn : n ≤ 1000000000)
    (h : ∀ G w', n ≤ G → G ≤ 9223372036854775807 → w'.ownsRow w.heap.size 5 1 (.slice (some ⟨w.heap.size, 0, none⟩) 0 G) 0 [] → Fr [] w w' → wpList Tryz.prog ops Q rest (a.put o.dst (.slice (some ⟨w.heap.size, 0, none⟩) n G)) w') :
    wpList Tryz.prog ops Q (o :: rest) a w := by
  obtain ⟨i0, hi, hz0, hz1, hz2⟩ := info_parts info_by
  have hrun := fun ty => run_append_grow_zeros (P := Tryz.prog) w 26 3 ty 5 i0 (.int .u8 0) .i64 .i64 Tryz.underlying26 Tryz.underlying3 hi hz0 none 0 0 [] (run_firstCells_none w.drew _ 0 0 0) n (by omega) (by omega) (by omega) (by omega) (by rw [hz2]; omega) (by rw [hz2]; have := nextslicecap_le (need := 0 + n) (old := 0) (by omega); omega)
  simp only [Nat.zero_add] at hrun
  have hge := grownCap_ge w n 0 5
  have hle := grownCap_le_maxLen w n 0 5 (by unfold maxLen; omega)
  generalize grownCap w n 0 5 = G at hrun hge hle
  refine wpList_plain hgd fun K hK => ?_
  unfold Oper.wp
  simp [execOp, ho, resolve, invoke, builtin, hs, hx, hrun, Result.andThen]
  refine hK _ _ (h G _ hge (by unfold maxLen at hle; omega) ?_ ?_)
  · refine ⟨rfl, .inr ⟨w.heap.size, G, _, rfl, Nat.le_refl _, heap_alloc_new w.drew _, Nat.zero_le _, hle, ?_, by simp⟩⟩
    simp [Builtin.zeroCells, Value.cells]
    omega
  · exact ((Fr.refl _ _).drew).alloc _

theorem grow_any (w : World) (n : Nat) (hn : n ≤ 1000000000) :
    Calls Tryz.prog 52 #[.slice none 0 0, .int .i64 n] w fun e w' => ∃ r, e = .returned r ∧ w'.ownsRow w.heap.size 5 1 r 0 [] ∧ Fr [] w w' := by
  by_cases h0 : n = 0
  · subst h0
    go_enter Tryz.func52, Tryz.ntmps52
    go_wp2
    go_ret
    exact ⟨_, rfl, World.ownsRow_nil _ _ _ _, Fr.refl _ _⟩
  · have hpos : (0 : Int) < n := by omega
    go_enter Tryz.func52, Tryz.ntmps52
    go_wp2_with (at_builtin; refine wpList_zeros rfl _ _ (by rfl) n (by rfl) (by rfl) (by omega) hn ?_; intro G w1 hge hle hown F1)
    go_ret
    exact ⟨_, rfl, hown, F1⟩

/-- 'slices.Concat(a, b)'. -/
theorem concat_any (w : World) (g : Nat) (hg : g < w.heap.size) (av bv' : Value) (a b : List UInt8) (c0 : w.cell? ⟨g, 0, none⟩ = some av) (c1 : w.cell? ⟨g, 1, none⟩ = some bv') (ha : Sl w av (bv a)) (hb : Sl w bv' (bv b)) (la : a.length ≤ 10000000) (lb : b.length ≤ 10000000) :
    Calls Tryz.prog 29 #[.slice (some ⟨g, 0, none⟩) 2 2] w fun e w' => ∃ r, e = .returned r ∧ w'.ownsRow w.heap.size 5 1 r (a ++ b).length (bv (a ++ b)) ∧ Fr [] w w' := by
  have HA := Lib.hid ha
  have HB := Lib.hid hb
  obtain ⟨aoa, capa, rfl, ga, ma, -⟩ := ha.out
  obtain ⟨aob, capb, rfl, gb, mb, -⟩ := hb.out
  clear ha hb
  simp only [bv_length] at *
  go_enter Tryz.func29, Tryz.ntmps29
  go_wp2_with fail
  refine wp_loop_rounds 3 ?_
  rw [rounds_succ]
  go_wp2_with fail
  rw [rounds_succ]
  go_wp2_with fail
  rw [rounds_succ]
  go_wp2_with fail
  rw [show ((a.length : Int) + (b.length : Int)) = ((a.length + b.length : Nat) : Int) from (Int.natCast_add _ _).symm]
  refine (grow_any w _ (by omega)).mono ?_
  rintro e w1 ⟨r, rfl, own1, F1⟩
  have d0 := (F1.cell (p := ⟨g, 0, none⟩) hg (by simp)).trans c0
  have d1 := (F1.cell (p := ⟨g, 1, none⟩) hg (by simp)).trans c1
  go_wp2_with fail
  refine wp_loop_rounds 3 ?_
  rw [rounds_succ]
  go_wp2_with (at_builtin; refine wpList_append_sl sty_by rfl _ _ (by rfl) w.heap.size _ _ _ (by rfl) own1 _ _ (by rfl) (HA.out.fr0 F1) (bv_one _) (by simp [bv_length]; omega) (by simp [bv_length]; omega) F1.size ?_)
  intro v2 w2 own2 g2
  have F2 : Fr [] w w2 := F1.grown g2 (fun k hk => .inr (own1.lt k hk).1)
  have q0 := (F2.cell (p := ⟨g, 0, none⟩) hg (by simp)).trans c0
  have q1 := (F2.cell (p := ⟨g, 1, none⟩) hg (by simp)).trans c1
  clear d0 d1 g2
  go_wp2_with fail
  rw [rounds_succ]
  go_wp2_with (at_builtin; refine wpList_append_sl sty_by rfl _ _ (by rfl) w.heap.size _ _ _ (by rfl) own2 _ _ (by rfl) (HB.out.fr0 F2) (bv_one _) (by simp [bv_length]; omega) (by simp [bv_length]; omega) F2.size ?_)
  intro v3 w3 own3 g3
  have F3 : Fr [] w w3 := F2.grown g3 (fun k hk => .inr (own2.lt k hk).1)
  clear q0 q1 g3
  go_wp2_with fail
  rw [rounds_succ]
  go_wp2_with fail
  go_ret
  refine ⟨_, rfl, ?_, F3⟩
  simpa [bv, Nat.add_comm] using own3
end Go.Proofs.YthbkcjlpelihlaaGreatDoor
