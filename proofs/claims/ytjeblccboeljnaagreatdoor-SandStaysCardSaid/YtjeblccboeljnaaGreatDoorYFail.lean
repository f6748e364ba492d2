/- The sandbox's calls where the call fails (printed by yfail_gen.py). No condition but that lengths fit. -/
import Derived.Test.YtjeblccboeljnaaGreatDoorYDo
namespace Go.Proofs.YtjeblccboeljnaaGreatDoor
open Go.RowKit Go.Maps

set_option maxRecDepth 100000 in
set_option maxHeartbeats 2000000 in
theorem look_fail {w : World} {lo p n nc : Nat} {fl : List Bool} {K : Tree} (h : SandAt w lo p n nc fl K) (hG : Gl w) (q : List UInt8) (hq : q.length ≤ 100000) (hnc : nc ≤ 100000) (hl : fl.getD nc false = true) :
    Calls Tryz.prog 20 #[.pointer (some ⟨p, 0, none⟩), .string ⟨q.toArray⟩] w fun e w' => ∃ c, ¬ c = 0 ∧ e = .returned (.tuple #[.int .i64 0, .int .i64 c]) ∧ SandAt w' lo p n (nc + 1) fl K ∧ Lo lo w w' := by
  obtain ⟨b, fv, cv, KV, h⟩ := h
  obtain ⟨wA, hwA⟩ : ∃ wA, wA = ((w.alloc (.cells #[.pointer (some ⟨p, 0, none⟩)] 31)).alloc (.cells #[.string ⟨q.toArray⟩] 9)).alloc (.cells #[.int .i64 0] 3) := ⟨_, rfl⟩
  have FA : Fr [] w wA := hwA ▸ ((((Fr.refl _ _).alloc _).alloc _).alloc _)
  have h2 : wA.heap[w.heap.size + 2]? = some (.cells #[.int .i64 0] 3 (0, 0)) := by
    have := heap_alloc_new ((w.alloc (.cells #[.pointer (some ⟨p, 0, none⟩)] 31)).alloc (.cells #[.string ⟨q.toArray⟩] 9)) (.cells #[.int .i64 0] 3)
    rw [World.size_alloc, World.size_alloc] at this
    rw [hwA]
    exact this
  have l0 : w.heap.size + 2 < wA.heap.size := (Array.getElem?_eq_some_iff.1 h2).1
  have hA := h.fr0 FA
  obtain ⟨xs, hca⟩ := h.ca
  have hcv : ∀ i ∈ (p :: cv.ownBlock.toList), lo ≤ i ∧ i < w.heap.size := fun i hi => by
    rcases List.mem_cons.1 hi with rfl | hi
    · exact ⟨h.lp, h.ltp⟩
    · exact own_ltS hca i (by simpa using hi)
  cases hc : cleanL foldL q with
  | false =>
    have HB := Lib.hid (call_bad hA (hG.fr FA) 1 q hq ⟨#[]⟩ (.func (.func 38) #[] #[.pointer (some ⟨w.heap.size, 0, none⟩), .pointer (some ⟨w.heap.size + 1, 0, none⟩), .pointer (some ⟨w.heap.size + 2, 0, none⟩)]) hc hnc)
    clear h hA hG hq hnc hl hca hc
    go_enter Tryz.func20, Tryz.ntmps20
    go_wp2_with (go_at_call 34; rw [← hwA]; refine HB.out.mono ?_; rintro e w1 ⟨rfl, ⟨cv', hS⟩, F1⟩; have k2 := (F1.cell (p := ⟨w.heap.size + 2, 0, none⟩) l0 (fun hm => by have := (hcv _ hm).2; dsimp only at this; omega)).trans (show wA.cell? ⟨w.heap.size + 2, 0, none⟩ = some (.int .i64 0) by rw [Go.Joins.cell_of_block h2]; rfl))
    go_ret2
    exact ⟨301, by decide, rfl, ⟨_, _, _, _, hS⟩, (Lo.of0 FA).trans ⟨_, F1, fun i hi => (hcv i hi).1⟩⟩
  | true =>
    have HB := Lib.hid (call_fail hA (hG.fr FA) 1 (by decide) q hq ⟨#[]⟩ (.func (.func 38) #[] #[.pointer (some ⟨w.heap.size, 0, none⟩), .pointer (some ⟨w.heap.size + 1, 0, none⟩), .pointer (some ⟨w.heap.size + 2, 0, none⟩)]) hc hl hnc)
    clear h hA hG hq hnc hl hca hc
    go_enter Tryz.func20, Tryz.ntmps20
    go_wp2_with (go_at_call 34; rw [← hwA]; refine HB.out.mono ?_; rintro e w1 ⟨rfl, ⟨cv', hS⟩, F1⟩; have k2 := (F1.cell (p := ⟨w.heap.size + 2, 0, none⟩) l0 (fun hm => by have := (hcv _ hm).2; dsimp only at this; omega)).trans (show wA.cell? ⟨w.heap.size + 2, 0, none⟩ = some (.int .i64 0) by rw [Go.Joins.cell_of_block h2]; rfl))
    go_ret2
    exact ⟨201, by decide, rfl, ⟨_, _, _, _, hS⟩, (Lo.of0 FA).trans ⟨_, F1, fun i hi => (hcv i hi).1⟩⟩
set_option maxRecDepth 100000 in
set_option maxHeartbeats 2000000 in
theorem mkdir_fail {w : World} {lo p n nc : Nat} {fl : List Bool} {K : Tree} (h : SandAt w lo p n nc fl K) (hG : Gl w) (q : List UInt8) (hq : q.length ≤ 100000) (hnc : nc ≤ 100000) (hl : fl.getD nc false = true) :
    Calls Tryz.prog 19 #[.pointer (some ⟨p, 0, none⟩), .string ⟨q.toArray⟩] w fun e w' => ∃ c, ¬ c = 0 ∧ e = .returned (.int .i64 c) ∧ SandAt w' lo p n (nc + 1) fl K ∧ Lo lo w w' := by
  obtain ⟨b, fv, cv, KV, h⟩ := h
  obtain ⟨wA, hwA⟩ : ∃ wA, wA = (w.alloc (.cells #[.pointer (some ⟨p, 0, none⟩)] 31)).alloc (.cells #[.string ⟨q.toArray⟩] 9) := ⟨_, rfl⟩
  have FA : Fr [] w wA := hwA ▸ (((Fr.refl _ _).alloc _).alloc _)
  have hA := h.fr0 FA
  obtain ⟨xs, hca⟩ := h.ca
  have hcv : ∀ i ∈ (p :: cv.ownBlock.toList), lo ≤ i ∧ i < w.heap.size := fun i hi => by
    rcases List.mem_cons.1 hi with rfl | hi
    · exact ⟨h.lp, h.ltp⟩
    · exact own_ltS hca i (by simpa using hi)
  cases hc : cleanL foldL q with
  | false =>
    have HB := Lib.hid (call_bad hA (hG.fr FA) 2 q hq ⟨#[]⟩ (.func (.func 37) #[] #[.pointer (some ⟨w.heap.size, 0, none⟩), .pointer (some ⟨w.heap.size + 1, 0, none⟩)]) hc hnc)
    clear h hA hG hq hnc hl hca hc
    go_enter Tryz.func19, Tryz.ntmps19
    go_wp2_with (go_at_call 34; rw [← hwA]; refine HB.out.mono ?_; rintro e w1 ⟨rfl, ⟨cv', hS⟩, F1⟩)
    go_ret
    exact ⟨301, by decide, rfl, ⟨_, _, _, _, hS⟩, (Lo.of0 FA).trans ⟨_, F1, fun i hi => (hcv i hi).1⟩⟩
  | true =>
    have HB := Lib.hid (call_fail hA (hG.fr FA) 2 (by decide) q hq ⟨#[]⟩ (.func (.func 37) #[] #[.pointer (some ⟨w.heap.size, 0, none⟩), .pointer (some ⟨w.heap.size + 1, 0, none⟩)]) hc hl hnc)
    clear h hA hG hq hnc hl hca hc
    go_enter Tryz.func19, Tryz.ntmps19
    go_wp2_with (go_at_call 34; rw [← hwA]; refine HB.out.mono ?_; rintro e w1 ⟨rfl, ⟨cv', hS⟩, F1⟩)
    go_ret
    exact ⟨201, by decide, rfl, ⟨_, _, _, _, hS⟩, (Lo.of0 FA).trans ⟨_, F1, fun i hi => (hcv i hi).1⟩⟩
set_option maxRecDepth 100000 in
set_option maxHeartbeats 2000000 in
theorem create_fail {w : World} {lo p n nc : Nat} {fl : List Bool} {K : Tree} (h : SandAt w lo p n nc fl K) (hG : Gl w) (q : List UInt8) (hq : q.length ≤ 100000) (hnc : nc ≤ 100000) (hl : fl.getD nc false = true) :
    Calls Tryz.prog 18 #[.pointer (some ⟨p, 0, none⟩), .string ⟨q.toArray⟩] w fun e w' => ∃ c, ¬ c = 0 ∧ e = .returned (.int .i64 c) ∧ SandAt w' lo p n (nc + 1) fl K ∧ Lo lo w w' := by
  obtain ⟨b, fv, cv, KV, h⟩ := h
  obtain ⟨wA, hwA⟩ : ∃ wA, wA = (w.alloc (.cells #[.pointer (some ⟨p, 0, none⟩)] 31)).alloc (.cells #[.string ⟨q.toArray⟩] 9) := ⟨_, rfl⟩
  have FA : Fr [] w wA := hwA ▸ (((Fr.refl _ _).alloc _).alloc _)
  have hA := h.fr0 FA
  obtain ⟨xs, hca⟩ := h.ca
  have hcv : ∀ i ∈ (p :: cv.ownBlock.toList), lo ≤ i ∧ i < w.heap.size := fun i hi => by
    rcases List.mem_cons.1 hi with rfl | hi
    · exact ⟨h.lp, h.ltp⟩
    · exact own_ltS hca i (by simpa using hi)
  cases hc : cleanL foldL q with
  | false =>
    have HB := Lib.hid (call_bad hA (hG.fr FA) 3 q hq ⟨#[]⟩ (.func (.func 35) #[] #[.pointer (some ⟨w.heap.size, 0, none⟩), .pointer (some ⟨w.heap.size + 1, 0, none⟩)]) hc hnc)
    clear h hA hG hq hnc hl hca hc
    go_enter Tryz.func18, Tryz.ntmps18
    go_wp2_with (go_at_call 34; rw [← hwA]; refine HB.out.mono ?_; rintro e w1 ⟨rfl, ⟨cv', hS⟩, F1⟩)
    go_ret
    exact ⟨301, by decide, rfl, ⟨_, _, _, _, hS⟩, (Lo.of0 FA).trans ⟨_, F1, fun i hi => (hcv i hi).1⟩⟩
  | true =>
    have HB := Lib.hid (call_fail hA (hG.fr FA) 3 (by decide) q hq ⟨#[]⟩ (.func (.func 35) #[] #[.pointer (some ⟨w.heap.size, 0, none⟩), .pointer (some ⟨w.heap.size + 1, 0, none⟩)]) hc hl hnc)
    clear h hA hG hq hnc hl hca hc
    go_enter Tryz.func18, Tryz.ntmps18
    go_wp2_with (go_at_call 34; rw [← hwA]; refine HB.out.mono ?_; rintro e w1 ⟨rfl, ⟨cv', hS⟩, F1⟩)
    go_ret
    exact ⟨201, by decide, rfl, ⟨_, _, _, _, hS⟩, (Lo.of0 FA).trans ⟨_, F1, fun i hi => (hcv i hi).1⟩⟩
set_option maxRecDepth 100000 in
set_option maxHeartbeats 2000000 in
theorem append_fail {w : World} {lo p n nc : Nat} {fl : List Bool} {K : Tree} (h : SandAt w lo p n nc fl K) (hG : Gl w) (q : List UInt8) (hq : q.length ≤ 100000) (bo : Option Addr) (NB bc : Nat) (hnc : nc ≤ 100000) (hl : fl.getD nc false = true) :
    Calls Tryz.prog 21 #[.pointer (some ⟨p, 0, none⟩), .string ⟨q.toArray⟩, .slice bo NB bc] w fun e w' => ∃ c, ¬ c = 0 ∧ e = .returned (.int .i64 c) ∧ SandAt w' lo p n (nc + 1) fl K ∧ Lo lo w w' := by
  obtain ⟨b, fv, cv, KV, h⟩ := h
  obtain ⟨wA, hwA⟩ : ∃ wA, wA = ((w.alloc (.cells #[.pointer (some ⟨p, 0, none⟩)] 31)).alloc (.cells #[.string ⟨q.toArray⟩] 9)).alloc (.cells #[.slice bo NB bc] 24) := ⟨_, rfl⟩
  have FA : Fr [] w wA := hwA ▸ ((((Fr.refl _ _).alloc _).alloc _).alloc _)
  have hA := h.fr0 FA
  obtain ⟨xs, hca⟩ := h.ca
  have hcv : ∀ i ∈ (p :: cv.ownBlock.toList), lo ≤ i ∧ i < w.heap.size := fun i hi => by
    rcases List.mem_cons.1 hi with rfl | hi
    · exact ⟨h.lp, h.ltp⟩
    · exact own_ltS hca i (by simpa using hi)
  cases hc : cleanL foldL q with
  | false =>
    have HB := Lib.hid (call_bad hA (hG.fr FA) 4 q hq ⟨#[]⟩ (.func (.func 39) #[] #[.pointer (some ⟨w.heap.size, 0, none⟩), .pointer (some ⟨w.heap.size + 1, 0, none⟩), .pointer (some ⟨w.heap.size + 2, 0, none⟩)]) hc hnc)
    clear h hA hG hq hnc hl hca hc
    go_enter Tryz.func21, Tryz.ntmps21
    go_wp2_with (go_at_call 34; rw [← hwA]; refine HB.out.mono ?_; rintro e w1 ⟨rfl, ⟨cv', hS⟩, F1⟩)
    go_ret
    exact ⟨301, by decide, rfl, ⟨_, _, _, _, hS⟩, (Lo.of0 FA).trans ⟨_, F1, fun i hi => (hcv i hi).1⟩⟩
  | true =>
    have HB := Lib.hid (call_fail hA (hG.fr FA) 4 (by decide) q hq ⟨#[]⟩ (.func (.func 39) #[] #[.pointer (some ⟨w.heap.size, 0, none⟩), .pointer (some ⟨w.heap.size + 1, 0, none⟩), .pointer (some ⟨w.heap.size + 2, 0, none⟩)]) hc hl hnc)
    clear h hA hG hq hnc hl hca hc
    go_enter Tryz.func21, Tryz.ntmps21
    go_wp2_with (go_at_call 34; rw [← hwA]; refine HB.out.mono ?_; rintro e w1 ⟨rfl, ⟨cv', hS⟩, F1⟩)
    go_ret
    exact ⟨201, by decide, rfl, ⟨_, _, _, _, hS⟩, (Lo.of0 FA).trans ⟨_, F1, fun i hi => (hcv i hi).1⟩⟩
set_option maxRecDepth 100000 in
set_option maxHeartbeats 2000000 in
theorem drop_fail {w : World} {lo p n nc : Nat} {fl : List Bool} {K : Tree} (h : SandAt w lo p n nc fl K) (hG : Gl w) (q : List UInt8) (hq : q.length ≤ 100000) (hnc : nc ≤ 100000) (hl : fl.getD nc false = true) :
    Calls Tryz.prog 22 #[.pointer (some ⟨p, 0, none⟩), .string ⟨q.toArray⟩] w fun e w' => ∃ c, ¬ c = 0 ∧ e = .returned (.int .i64 c) ∧ SandAt w' lo p n (nc + 1) fl K ∧ Lo lo w w' := by
  obtain ⟨b, fv, cv, KV, h⟩ := h
  obtain ⟨wA, hwA⟩ : ∃ wA, wA = (w.alloc (.cells #[.pointer (some ⟨p, 0, none⟩)] 31)).alloc (.cells #[.string ⟨q.toArray⟩] 9) := ⟨_, rfl⟩
  have FA : Fr [] w wA := hwA ▸ (((Fr.refl _ _).alloc _).alloc _)
  have hA := h.fr0 FA
  obtain ⟨xs, hca⟩ := h.ca
  have hcv : ∀ i ∈ (p :: cv.ownBlock.toList), lo ≤ i ∧ i < w.heap.size := fun i hi => by
    rcases List.mem_cons.1 hi with rfl | hi
    · exact ⟨h.lp, h.ltp⟩
    · exact own_ltS hca i (by simpa using hi)
  cases hc : cleanL foldL q with
  | false =>
    have HB := Lib.hid (call_bad hA (hG.fr FA) 6 q hq ⟨#[]⟩ (.func (.func 41) #[] #[.pointer (some ⟨w.heap.size, 0, none⟩), .pointer (some ⟨w.heap.size + 1, 0, none⟩)]) hc hnc)
    clear h hA hG hq hnc hl hca hc
    go_enter Tryz.func22, Tryz.ntmps22
    go_wp2_with (go_at_call 34; rw [← hwA]; refine HB.out.mono ?_; rintro e w1 ⟨rfl, ⟨cv', hS⟩, F1⟩)
    go_ret
    exact ⟨301, by decide, rfl, ⟨_, _, _, _, hS⟩, (Lo.of0 FA).trans ⟨_, F1, fun i hi => (hcv i hi).1⟩⟩
  | true =>
    have HB := Lib.hid (call_fail hA (hG.fr FA) 6 (by decide) q hq ⟨#[]⟩ (.func (.func 41) #[] #[.pointer (some ⟨w.heap.size, 0, none⟩), .pointer (some ⟨w.heap.size + 1, 0, none⟩)]) hc hl hnc)
    clear h hA hG hq hnc hl hca hc
    go_enter Tryz.func22, Tryz.ntmps22
    go_wp2_with (go_at_call 34; rw [← hwA]; refine HB.out.mono ?_; rintro e w1 ⟨rfl, ⟨cv', hS⟩, F1⟩)
    go_ret
    exact ⟨201, by decide, rfl, ⟨_, _, _, _, hS⟩, (Lo.of0 FA).trans ⟨_, F1, fun i hi => (hcv i hi).1⟩⟩
set_option maxRecDepth 100000 in
set_option maxHeartbeats 2000000 in
theorem publish_fail {w : World} {lo p n nc : Nat} {fl : List Bool} {K : Tree} (h : SandAt w lo p n nc fl K) (hG : Gl w) (q : List UInt8) (hq : q.length ≤ 100000) (to_ : List UInt8) (hto : to_.length ≤ 100000) (hnc : nc ≤ 100000) (hl : fl.getD nc false = true) :
    Calls Tryz.prog 23 #[.pointer (some ⟨p, 0, none⟩), .string ⟨q.toArray⟩, .string ⟨to_.toArray⟩] w fun e w' => ∃ c, ¬ c = 0 ∧ e = .returned (.int .i64 c) ∧ SandAt w' lo p n (nc + 1) fl K ∧ Lo lo w w' := by
  obtain ⟨b, fv, cv, KV, h⟩ := h
  obtain ⟨wA, hwA⟩ : ∃ wA, wA = ((w.alloc (.cells #[.pointer (some ⟨p, 0, none⟩)] 31)).alloc (.cells #[.string ⟨q.toArray⟩] 9)).alloc (.cells #[.string ⟨to_.toArray⟩] 9) := ⟨_, rfl⟩
  have FA : Fr [] w wA := hwA ▸ ((((Fr.refl _ _).alloc _).alloc _).alloc _)
  have hA := h.fr0 FA
  obtain ⟨xs, hca⟩ := h.ca
  have hcv : ∀ i ∈ (p :: cv.ownBlock.toList), lo ≤ i ∧ i < w.heap.size := fun i hi => by
    rcases List.mem_cons.1 hi with rfl | hi
    · exact ⟨h.lp, h.ltp⟩
    · exact own_ltS hca i (by simpa using hi)
  cases hc : cleanL foldL q with
  | false =>
    have HB := Lib.hid (call_bad hA (hG.fr FA) 5 q hq ⟨to_.toArray⟩ (.func (.func 43) #[] #[.pointer (some ⟨w.heap.size, 0, none⟩), .pointer (some ⟨w.heap.size + 1, 0, none⟩), .pointer (some ⟨w.heap.size + 2, 0, none⟩)]) hc hnc)
    clear h hA hG hq hnc hl hca hc hto
    go_enter Tryz.func23, Tryz.ntmps23
    go_wp2_with (go_at_call 34; rw [← hwA]; refine HB.out.mono ?_; rintro e w1 ⟨rfl, ⟨cv', hS⟩, F1⟩)
    go_ret
    exact ⟨301, by decide, rfl, ⟨_, _, _, _, hS⟩, (Lo.of0 FA).trans ⟨_, F1, fun i hi => (hcv i hi).1⟩⟩
  | true =>
    cases hct : cleanL foldL to_ with
    | false =>
      have HB := Lib.hid (call_pubbad hA (hG.fr FA) q hq to_ hto (.func (.func 43) #[] #[.pointer (some ⟨w.heap.size, 0, none⟩), .pointer (some ⟨w.heap.size + 1, 0, none⟩), .pointer (some ⟨w.heap.size + 2, 0, none⟩)]) hc hct hnc)
      clear h hA hG hq hnc hl hca hc hct hto
      go_enter Tryz.func23, Tryz.ntmps23
      go_wp2_with (go_at_call 34; rw [← hwA]; refine HB.out.mono ?_; rintro e w1 ⟨rfl, ⟨cv', hS⟩, F1⟩)
      go_ret
      exact ⟨301, by decide, rfl, ⟨_, _, _, _, hS⟩, (Lo.of0 FA).trans ⟨_, F1, fun i hi => (hcv i hi).1⟩⟩
    | true =>
      have HB := Lib.hid (call_pubfail hA (hG.fr FA) q hq to_ hto (.func (.func 43) #[] #[.pointer (some ⟨w.heap.size, 0, none⟩), .pointer (some ⟨w.heap.size + 1, 0, none⟩), .pointer (some ⟨w.heap.size + 2, 0, none⟩)]) hc hct hl hnc)
      clear h hA hG hq hnc hl hca hc hct hto
      go_enter Tryz.func23, Tryz.ntmps23
      go_wp2_with (go_at_call 34; rw [← hwA]; refine HB.out.mono ?_; rintro e w1 ⟨rfl, ⟨cv', hS⟩, F1⟩)
      go_ret
      exact ⟨201, by decide, rfl, ⟨_, _, _, _, hS⟩, (Lo.of0 FA).trans ⟨_, F1, fun i hi => (hcv i hi).1⟩⟩
set_option maxRecDepth 100000 in
set_option maxHeartbeats 8000000 in
theorem do_fail {w : World} {lo p n nc : Nat} {fl : List Bool} {K : Tree} (h : SandAt w lo p n nc fl K) (hG : Gl w) (hnc : nc ≤ 90000) (hl : fl.getD nc false = true) (d : Dv) (bo : Option Addr) (bc : Nat) (h1 : d.path.length ≤ 90000) (h2 : d.to_.length ≤ 90000) :
    Calls Tryz.prog 11 #[.pointer (some ⟨p, 0, none⟩), .agg #[.int .i64 d.kind, .string ⟨d.path.toArray⟩, .string ⟨d.to_.toArray⟩, .slice bo d.by_.length bc]] w fun e w' => ∃ c, ¬ c = 0 ∧ e = .returned (.tuple #[.int .i64 0, .int .i64 c]) ∧ SandAt w' lo p n (nc + 1) fl K ∧ Lo lo w w' := by
  obtain ⟨kd, q, to_, bs⟩ := d
  dsimp only at h1 h2 ⊢
  obtain ⟨NB, hNB⟩ : ∃ NB, bs.length = NB := ⟨_, rfl⟩
  rw [hNB]
  obtain ⟨wA, hwA⟩ : ∃ wA, wA = w.alloc (.cells #[.int .i64 kd, .string ⟨q.toArray⟩, .string ⟨to_.toArray⟩, .slice bo NB bc] 26) := ⟨_, rfl⟩
  have FA : Fr [] w wA := hwA ▸ (Fr.refl _ _).alloc _
  obtain ⟨b0, b1, b2, b3⟩ := box4 (hwA ▸ Fr.refl [] wA : Fr [] (w.alloc (.cells #[.int .i64 kd, .string ⟨q.toArray⟩, .string ⟨to_.toArray⟩, .slice bo NB bc] 26)) wA) (by simp)
  have hA := h.fr0 FA
  have HFA := Lib.hid FA
  have HLook := Lib.hid (look_fail hA (hG.fr FA) q (by omega) (by omega) hl)
  have HMkdir := Lib.hid (mkdir_fail hA (hG.fr FA) q (by omega) (by omega) hl)
  have HCreate := Lib.hid (create_fail hA (hG.fr FA) q (by omega) (by omega) hl)
  have HAppend := Lib.hid (append_fail hA (hG.fr FA) q (by omega) bo NB bc (by omega) hl)
  have HPublish := Lib.hid (publish_fail hA (hG.fr FA) q (by omega) to_ (by omega) (by omega) hl)
  have HDrop := Lib.hid (drop_fail hA (hG.fr FA) q (by omega) (by omega) hl)
  clear h hA hG hnc hl h1 h2 hNB
  by_cases k1 : kd = 1
  · subst k1
    go_enter Tryz.func11, Tryz.ntmps11
    go_wp2_with (go_at_call 20; rw [← hwA]; refine HLook.out.mono ?_; rintro e w1 ⟨c, hc, rfl, hS, hL⟩)
    go_ret2
    exact ⟨c, hc, rfl, hS, (Lo.of0 HFA.out).trans hL⟩
  by_cases k2 : kd = 2
  · subst k2
    clear k1
    go_enter Tryz.func11, Tryz.ntmps11
    go_wp2_with (go_at_call 19; rw [← hwA]; refine HMkdir.out.mono ?_; rintro e w1 ⟨c, hc, rfl, hS, hL⟩)
    go_ret2
    exact ⟨c, hc, rfl, hS, (Lo.of0 HFA.out).trans hL⟩
  by_cases k3 : kd = 3
  · subst k3
    clear k1 k2
    go_enter Tryz.func11, Tryz.ntmps11
    go_wp2_with (go_at_call 18; rw [← hwA]; refine HCreate.out.mono ?_; rintro e w1 ⟨c, hc, rfl, hS, hL⟩)
    go_ret2
    exact ⟨c, hc, rfl, hS, (Lo.of0 HFA.out).trans hL⟩
  by_cases k4 : kd = 4
  · subst k4
    clear k1 k2 k3
    go_enter Tryz.func11, Tryz.ntmps11
    go_wp2_with (go_at_call 21; rw [← hwA]; refine HAppend.out.mono ?_; rintro e w1 ⟨c, hc, rfl, hS, hL⟩)
    go_ret2
    exact ⟨c, hc, rfl, hS, (Lo.of0 HFA.out).trans hL⟩
  by_cases k5 : kd = 5
  · subst k5
    clear k1 k2 k3 k4
    go_enter Tryz.func11, Tryz.ntmps11
    go_wp2_with (go_at_call 23; rw [← hwA]; refine HPublish.out.mono ?_; rintro e w1 ⟨c, hc, rfl, hS, hL⟩)
    go_ret2
    exact ⟨c, hc, rfl, hS, (Lo.of0 HFA.out).trans hL⟩
  have t1 : (kd == 1) = false := by simpa using k1
  have t2 : (kd == 2) = false := by simpa using k2
  have t3 : (kd == 3) = false := by simpa using k3
  have t4 : (kd == 4) = false := by simpa using k4
  have t5 : (kd == 5) = false := by simpa using k5
  clear k1 k2 k3 k4 k5
  go_enter Tryz.func11, Tryz.ntmps11
  go_wp2_with (go_at_call 22; rw [← hwA]; refine HDrop.out.mono ?_; rintro e w1 ⟨c, hc, rfl, hS, hL⟩)
  go_ret2
  exact ⟨c, hc, rfl, hS, (Lo.of0 HFA.out).trans hL⟩
end Go.Proofs.YtjeblccboeljnaaGreatDoor
