/- Contract: what is used of quotas. No condition. -/
import Derived.Test.YtfnblemlcjdnhaaGreatEMet
namespace Go.Proofs.YtfnblemlcjdnhaaGreat
open Go.RowKit

set_option maxRecDepth 100000 in
theorem used_m {w : World} {p : Nat} {a o f d s k : Int} (h : MtN w p a o f d s k) :
    Calls Tryz.prog 8 #[.pointer (some ⟨p, 0, none⟩)] w fun e w' => e = .returned (.agg #[.int .i64 a, .int .i64 k, .int .i64 o, .int .i64 f, .int .i64 d, .int .i64 s]) ∧ Fr [] w w' := by
  have H0 := Lib.hid (fun (wr : World) (F : Fr [] w wr) => iload_any ⟨p, 1, none⟩ a wr ((h.fr F (by simp)).cell rfl))
  have H1 := Lib.hid (fun (wr : World) (F : Fr [] w wr) => iload_any ⟨p, 10, none⟩ k wr ((h.fr F (by simp)).cell rfl))
  have H2 := Lib.hid (fun (wr : World) (F : Fr [] w wr) => iload_any ⟨p, 3, none⟩ o wr ((h.fr F (by simp)).cell rfl))
  have H3 := Lib.hid (fun (wr : World) (F : Fr [] w wr) => iload_any ⟨p, 5, none⟩ f wr ((h.fr F (by simp)).cell rfl))
  have H4 := Lib.hid (fun (wr : World) (F : Fr [] w wr) => iload_any ⟨p, 7, none⟩ d wr ((h.fr F (by simp)).cell rfl))
  have H5 := Lib.hid (fun (wr : World) (F : Fr [] w wr) => iload_any ⟨p, 9, none⟩ s wr ((h.fr F (by simp)).cell rfl))
  have S0 := Same.drew (w := w)
  clear h
  go_enter Tryz.func8, Tryz.ntmps8
  go_wp2_with fail
  go_region_held3 (fun _ => True) (trivial) (first
    | (have hq := G5; go_at_call 15; refine (H5.out _ (by first | exact ((Fr.refl [] w).alloc _).drew | exact (Fr.refl [] w).drew)).mono ?_; rintro e w7 ⟨rfl, rfl⟩; have G6 := True.intro)
    | (have hq := G4; go_at_call 15; refine (H4.out _ (by first | exact ((Fr.refl [] w).alloc _).drew | exact (Fr.refl [] w).drew)).mono ?_; rintro e w6 ⟨rfl, rfl⟩; have G5 := True.intro)
    | (have hq := G3; go_at_call 15; refine (H3.out _ (by first | exact ((Fr.refl [] w).alloc _).drew | exact (Fr.refl [] w).drew)).mono ?_; rintro e w5 ⟨rfl, rfl⟩; have G4 := True.intro)
    | (have hq := G2; go_at_call 15; refine (H2.out _ (by first | exact ((Fr.refl [] w).alloc _).drew | exact (Fr.refl [] w).drew)).mono ?_; rintro e w4 ⟨rfl, rfl⟩; have G3 := True.intro)
    | (have hq := G1; go_at_call 15; refine (H1.out _ (by first | exact ((Fr.refl [] w).alloc _).drew | exact (Fr.refl [] w).drew)).mono ?_; rintro e w3 ⟨rfl, rfl⟩; have G2 := True.intro)
    | (go_at_call 15; refine (H0.out _ (by first | exact ((Fr.refl [] w).alloc _).drew | exact (Fr.refl [] w).drew)).mono ?_; rintro e w2 ⟨rfl, rfl⟩; have G1 := True.intro))
  obtain ⟨wU, hwU⟩ : ∃ wU, wU = (w.alloc (.cells #[.int .i64 a, .int .i64 k, .int .i64 o, .int .i64 f, .int .i64 d, .int .i64 s] 42)).drew := ⟨_, rfl⟩
  rw [← hwU]
  have FU : Fr [] w wU := hwU ▸ ((Fr.refl _ _).alloc _).drew
  have BU : wU.heap[w.heap.size]? = some (.cells #[.int .i64 a, .int .i64 k, .int .i64 o, .int .i64 f, .int .i64 d, .int .i64 s] 42 (0, 0)) := hwU ▸ heap_alloc_new w _
  have key : ∀ i : Nat, wU.cell? ⟨w.heap.size, i, none⟩ = (#[.int .i64 a, .int .i64 k, .int .i64 o, .int .i64 f, .int .i64 d, .int .i64 s] : Array Value)[i]? := Go.Joins.cell_of_block BU
  have j0 := key 0
  have j1 := key 1
  have j2 := key 2
  have j3 := key 3
  have j4 := key 4
  have j5 := key 5
  simp only [List.getElem?_toArray, List.getElem?_cons_zero, List.getElem?_cons_succ] at j0 j1 j2 j3 j4 j5
  clear key BU hwU
  go_wp2_with fail
  refine bodyPost_ret (v := .agg #[.int .i64 a, .int .i64 k, .int .i64 o, .int .i64 f, .int .i64 d, .int .i64 s]) (by simp [results, Tryz.results8, go_sem, j0, j1, j2, j3, j4, j5]) rfl ?_
  exact ⟨rfl, FU⟩
end Go.Proofs.YtfnblemlcjdnhaaGreat
