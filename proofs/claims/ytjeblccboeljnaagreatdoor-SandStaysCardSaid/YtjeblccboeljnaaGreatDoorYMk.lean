/- Contracts: Mkdir, Create (printed by ymk_gen.py). No condition but that lengths fit. -/
import Derived.Test.YtjeblccboeljnaaGreatDoorYCall
namespace Go.Proofs.YtjeblccboeljnaaGreatDoor
open Go.RowKit Go.Maps

/-- What lies below lo stays. -/
def Lo (lo : Nat) (w w' : World) : Prop := ∃ S, Fr S w w' ∧ ∀ i ∈ S, lo ≤ i
theorem Lo.of0 {lo : Nat} {w w' : World} (F : Fr [] w w') : Lo lo w w' := ⟨[], F, by simp⟩
theorem Lo.trans {lo : Nat} {a b c : World} (h : Lo lo a b) (k : Lo lo b c) : Lo lo a c := by
  obtain ⟨S, F, hS⟩ := h
  obtain ⟨T, G, hT⟩ := k
  refine ⟨S ++ T, (F.mono (fun i hi => by simp [hi])).trans G (fun i hi => .inl (by simp [hi])), fun i hi => ?_⟩
  rcases List.mem_append.1 hi with hi | hi
  · exact hS i hi
  · exact hT i hi
/-- What a call that makes something new answers; what is there then. -/
def mkK (K : Tree) (q : List UInt8) (kd : Int) : Int × Tree := if cleanL foldL q = false then (301, K) else if (K q).isSome || !liesK K q then (202, K) else (0, updK K q ⟨kd, [], []⟩)
def SandAt (w : World) (lo p n nc : Nat) (fl : List Bool) (K : Tree) : Prop := ∃ b fv cv KV, SandIn w lo p b fv cv n nc fl KV K
theorem SandAt.fr0 {w w' : World} {lo p n nc : Nat} {fl : List Bool} {K : Tree} (h : SandAt w lo p n nc fl K) (F : Fr [] w w') : SandAt w' lo p n nc fl K := by
  obtain ⟨b, fv, cv, KV, h⟩ := h
  exact ⟨b, fv, cv, KV, h.fr0 F⟩
def MkR (w : World) (lo p n nc : Nat) (fl : List Bool) (K : Tree) (q : List UInt8) (kd : Int) (e : Ending) (w' : World) : Prop :=
  ∃ n', e = .returned (.int .i64 (mkK K q kd).1) ∧ SandAt w' lo p n' (nc + 1) fl (mkK K q kd).2 ∧ n' ≤ n + 1 ∧ Lo lo w w'
theorem FreshR.out {w : World} {lo p b : Nat} {fv cv : Value} {n nc : Nat} {fl : List Bool} {KV : List UInt8 → Option Value} {K : Tree} {q : List UInt8} {kd : Int} {e : Ending} {w' : World} (hcl : cleanL foldL q = true) (h : FreshR w lo p b fv cv n nc fl KV K q kd e w') :
    ∃ n' KV', e = .returned (.int .i64 (mkK K q kd).1) ∧ SandIn w' lo p b fv cv n' nc fl KV' (mkK K q kd).2 ∧ n' ≤ n + 1 ∧ Fr [b] w w' := by
  unfold mkK
  rw [if_neg (by rw [hcl]; simp)]
  rcases h with ⟨h1, h2, rfl, ⟨KV', h4⟩, h5⟩ | ⟨h1, rfl, h4, h5⟩
  · rw [if_neg (by rw [h1, h2]; simp)]
    exact ⟨_, _, rfl, h4, Nat.le_refl _, h5⟩
  · rw [if_pos (by rcases h1 with h1 | h1 <;> rw [h1] <;> simp)]
    exact ⟨_, _, rfl, h4, Nat.le_succ _, h5.mono (by simp)⟩

set_option maxRecDepth 100000 in
set_option maxHeartbeats 2000000 in
theorem mkdir_body {w : World} {lo p b : Nat} {fv cv : Value} {n nc : Nat} {fl : List Bool} {KV : List UInt8 → Option Value} {K : Tree} (h : SandIn w lo p b fv cv n nc fl KV K) (q : List UInt8) (hq : q.length ≤ 100000) (hn : n ≤ 100000) (B0 B1 : Nat)
    (m0 : w.cell? ⟨B0, 0, none⟩ = some (.pointer (some ⟨p, 0, none⟩))) (m1 : w.cell? ⟨B1, 0, none⟩ = some (.string ⟨q.toArray⟩)) :
    Calls Tryz.prog 37 #[.pointer (some ⟨B0, 0, none⟩), .pointer (some ⟨B1, 0, none⟩)] w (FreshR w lo p b fv cv n nc fl KV K q 1) := by
  have HF := Lib.hid (fresh_any h q hq 1 hn)
  clear h hq hn
  go_enter Tryz.func37, Tryz.ntmps37
  go_wp2_with (go_at_call 36; refine HF.out.mono ?_; rintro e w1 (⟨h1, h2, rfl, h4, h5⟩ | ⟨h1, rfl, h4, h5⟩))
  all_goals go_ret
  · exact .inl ⟨h1, h2, rfl, h4, h5⟩
  · exact .inr ⟨h1, rfl, h4, h5⟩
set_option maxRecDepth 100000 in
set_option maxHeartbeats 2000000 in
theorem mkdir_any {w : World} {lo p n nc : Nat} {fl : List Bool} {K : Tree} (h : SandAt w lo p n nc fl K) (hG : Gl w) (q : List UInt8) (hq : q.length ≤ 100000) (hn : n ≤ 100000) (hnc : nc ≤ 100000) (hl : fl.getD nc false = false) :
    Calls Tryz.prog 19 #[.pointer (some ⟨p, 0, none⟩), .string ⟨q.toArray⟩] w (MkR w lo p n nc fl K q 1) := by
  obtain ⟨b, fv, cv, KV, h⟩ := h
  obtain ⟨wA, hwA⟩ : ∃ wA, wA = (w.alloc (.cells #[.pointer (some ⟨p, 0, none⟩)] 31)).alloc (.cells #[.string ⟨q.toArray⟩] 9) := ⟨_, rfl⟩
  have FA : Fr [] w wA := hwA ▸ ((Fr.refl _ _).alloc _).alloc _
  have m0 : wA.cell? ⟨w.heap.size, 0, none⟩ = some (.pointer (some ⟨p, 0, none⟩)) := by rw [hwA]; simp
  have m1 : wA.cell? ⟨w.heap.size + 1, 0, none⟩ = some (.string ⟨q.toArray⟩) := by rw [hwA]; simp
  have l0 : w.heap.size + 1 < wA.heap.size := by rw [hwA]; simp
  have hA := h.fr0 FA
  have hlo := Nat.le_trans h.lp (Nat.le_of_lt h.ltp)
  obtain ⟨xs, hca⟩ := h.ca
  have hcv : ∀ i ∈ (p :: cv.ownBlock.toList), lo ≤ i := fun i hi => by
    rcases List.mem_cons.1 hi with rfl | hi
    · exact h.lp
    · exact (own_ltS hca i (by simpa using hi)).1
  have hlb := h.lb
  cases hc : cleanL foldL q with
  | false =>
    have HB := Lib.hid (call_bad hA (hG.fr FA) 2 q hq ⟨#[]⟩ (.func (.func 37) #[] #[.pointer (some ⟨w.heap.size, 0, none⟩), .pointer (some ⟨w.heap.size + 1, 0, none⟩)]) hc hnc)
    have e : mkK K q 1 = (301, K) := by unfold mkK; rw [if_pos hc]
    unfold MkR
    rw [e]
    clear h hA hG hq hn hnc hl hc e m0 m1 l0 hca
    go_enter Tryz.func19, Tryz.ntmps19
    go_wp2_with (go_at_call 34; rw [← hwA]; refine HB.out.mono ?_; rintro e w1 ⟨rfl, ⟨cv', hS⟩, F1⟩)
    go_ret
    exact ⟨n, rfl, ⟨_, _, _, _, hS⟩, Nat.le_succ _, (Lo.of0 FA).trans ⟨_, F1, hcv⟩⟩
  | true =>
    have HD := Lib.hid (call_do hA (hG.fr FA) 2 (by decide) q hq ⟨#[]⟩ 37 #[.pointer (some ⟨w.heap.size, 0, none⟩), .pointer (some ⟨w.heap.size + 1, 0, none⟩)] (enters_of Tryz.func37 (by kernel_rfl) rfl) hc hl hnc
      (fun c n' K' w2 => c = (mkK K q 1).1 ∧ K' = (mkK K q 1).2 ∧ n' ≤ n + 1 ∧ Lo lo w w2)
      (fun wx F => (mkdir_body (hA.fr0 F) q hq hn w.heap.size (w.heap.size + 1) ((F.cell (p := ⟨w.heap.size, 0, none⟩) (by show w.heap.size < _; omega) (by simp)).trans m0) ((F.cell (p := ⟨w.heap.size + 1, 0, none⟩) l0 (by simp)).trans m1)).mono (fun e w2 hh => by
        obtain ⟨n', KV', h1, h2, h3, h4⟩ := FreshR.out hc hh
        exact ⟨_, b, n', KV', _, h1, h2, rfl, rfl, h3, ((Lo.of0 FA).trans (Lo.of0 F)).trans ⟨_, h4, by simpa using hlb⟩⟩)))
    unfold MkR
    clear h hA hG hq hn hnc hl hc m0 m1 l0 hca
    go_enter Tryz.func19, Tryz.ntmps19
    go_wp2_with (go_at_call 34; rw [← hwA]; refine HD.out.mono ?_; rintro e w1 ⟨c, b', n', KV', K', w2, cv', ⟨rfl, rfl, hn', hfr⟩, rfl, hS, F1⟩)
    go_ret
    exact ⟨n', rfl, ⟨_, _, _, _, hS⟩, hn', hfr.trans ⟨_, F1, hcv⟩⟩

set_option maxRecDepth 100000 in
set_option maxHeartbeats 2000000 in
theorem create_body {w : World} {lo p b : Nat} {fv cv : Value} {n nc : Nat} {fl : List Bool} {KV : List UInt8 → Option Value} {K : Tree} (h : SandIn w lo p b fv cv n nc fl KV K) (q : List UInt8) (hq : q.length ≤ 100000) (hn : n ≤ 100000) (B0 B1 : Nat)
    (m0 : w.cell? ⟨B0, 0, none⟩ = some (.pointer (some ⟨p, 0, none⟩))) (m1 : w.cell? ⟨B1, 0, none⟩ = some (.string ⟨q.toArray⟩)) :
    Calls Tryz.prog 35 #[.pointer (some ⟨B0, 0, none⟩), .pointer (some ⟨B1, 0, none⟩)] w (FreshR w lo p b fv cv n nc fl KV K q 2) := by
  have HF := Lib.hid (fresh_any h q hq 2 hn)
  clear h hq hn
  go_enter Tryz.func35, Tryz.ntmps35
  go_wp2_with (go_at_call 36; refine HF.out.mono ?_; rintro e w1 (⟨h1, h2, rfl, h4, h5⟩ | ⟨h1, rfl, h4, h5⟩))
  all_goals go_ret
  · exact .inl ⟨h1, h2, rfl, h4, h5⟩
  · exact .inr ⟨h1, rfl, h4, h5⟩
set_option maxRecDepth 100000 in
set_option maxHeartbeats 2000000 in
theorem create_any {w : World} {lo p n nc : Nat} {fl : List Bool} {K : Tree} (h : SandAt w lo p n nc fl K) (hG : Gl w) (q : List UInt8) (hq : q.length ≤ 100000) (hn : n ≤ 100000) (hnc : nc ≤ 100000) (hl : fl.getD nc false = false) :
    Calls Tryz.prog 18 #[.pointer (some ⟨p, 0, none⟩), .string ⟨q.toArray⟩] w (MkR w lo p n nc fl K q 2) := by
  obtain ⟨b, fv, cv, KV, h⟩ := h
  obtain ⟨wA, hwA⟩ : ∃ wA, wA = (w.alloc (.cells #[.pointer (some ⟨p, 0, none⟩)] 31)).alloc (.cells #[.string ⟨q.toArray⟩] 9) := ⟨_, rfl⟩
  have FA : Fr [] w wA := hwA ▸ ((Fr.refl _ _).alloc _).alloc _
  have m0 : wA.cell? ⟨w.heap.size, 0, none⟩ = some (.pointer (some ⟨p, 0, none⟩)) := by rw [hwA]; simp
  have m1 : wA.cell? ⟨w.heap.size + 1, 0, none⟩ = some (.string ⟨q.toArray⟩) := by rw [hwA]; simp
  have l0 : w.heap.size + 1 < wA.heap.size := by rw [hwA]; simp
  have hA := h.fr0 FA
  have hlo := Nat.le_trans h.lp (Nat.le_of_lt h.ltp)
  obtain ⟨xs, hca⟩ := h.ca
  have hcv : ∀ i ∈ (p :: cv.ownBlock.toList), lo ≤ i := fun i hi => by
    rcases List.mem_cons.1 hi with rfl | hi
    · exact h.lp
    · exact (own_ltS hca i (by simpa using hi)).1
  have hlb := h.lb
  cases hc : cleanL foldL q with
  | false =>
    have HB := Lib.hid (call_bad hA (hG.fr FA) 3 q hq ⟨#[]⟩ (.func (.func 35) #[] #[.pointer (some ⟨w.heap.size, 0, none⟩), .pointer (some ⟨w.heap.size + 1, 0, none⟩)]) hc hnc)
    have e : mkK K q 2 = (301, K) := by unfold mkK; rw [if_pos hc]
    unfold MkR
    rw [e]
    clear h hA hG hq hn hnc hl hc e m0 m1 l0 hca
    go_enter Tryz.func18, Tryz.ntmps18
    go_wp2_with (go_at_call 34; rw [← hwA]; refine HB.out.mono ?_; rintro e w1 ⟨rfl, ⟨cv', hS⟩, F1⟩)
    go_ret
    exact ⟨n, rfl, ⟨_, _, _, _, hS⟩, Nat.le_succ _, (Lo.of0 FA).trans ⟨_, F1, hcv⟩⟩
  | true =>
    have HD := Lib.hid (call_do hA (hG.fr FA) 3 (by decide) q hq ⟨#[]⟩ 35 #[.pointer (some ⟨w.heap.size, 0, none⟩), .pointer (some ⟨w.heap.size + 1, 0, none⟩)] (enters_of Tryz.func35 (by kernel_rfl) rfl) hc hl hnc
      (fun c n' K' w2 => c = (mkK K q 2).1 ∧ K' = (mkK K q 2).2 ∧ n' ≤ n + 1 ∧ Lo lo w w2)
      (fun wx F => (create_body (hA.fr0 F) q hq hn w.heap.size (w.heap.size + 1) ((F.cell (p := ⟨w.heap.size, 0, none⟩) (by show w.heap.size < _; omega) (by simp)).trans m0) ((F.cell (p := ⟨w.heap.size + 1, 0, none⟩) l0 (by simp)).trans m1)).mono (fun e w2 hh => by
        obtain ⟨n', KV', h1, h2, h3, h4⟩ := FreshR.out hc hh
        exact ⟨_, b, n', KV', _, h1, h2, rfl, rfl, h3, ((Lo.of0 FA).trans (Lo.of0 F)).trans ⟨_, h4, by simpa using hlb⟩⟩)))
    unfold MkR
    clear h hA hG hq hn hnc hl hc m0 m1 l0 hca
    go_enter Tryz.func18, Tryz.ntmps18
    go_wp2_with (go_at_call 34; rw [← hwA]; refine HD.out.mono ?_; rintro e w1 ⟨c, b', n', KV', K', w2, cv', ⟨rfl, rfl, hn', hfr⟩, rfl, hS, F1⟩)
    go_ret
    exact ⟨n', rfl, ⟨_, _, _, _, hS⟩, hn', hfr.trans ⟨_, F1, hcv⟩⟩
end Go.Proofs.YtjeblccboeljnaaGreatDoor
