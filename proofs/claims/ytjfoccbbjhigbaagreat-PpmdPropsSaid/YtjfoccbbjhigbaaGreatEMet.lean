/- Contracts: quotas (layer 3), as long as none is spent. -/
import Derived.Test.YtjfoccbbjhigbaaGreatBase
import Derived.Defers
import Derived.Laws.Pointers
import Derived.Laws.LoneSync
import Derived.Deep.DeepCutAuto
import Derived.Deep.RegionHeld3
namespace Go.Proofs.YtjfoccbbjhigbaaGreat
open Go.RowKit

/-- A meter's twelve numbers: what there may be and what is used, of memory, bytes out, files, depth, steps; the peak; the code. -/
def mtC (l : List Int) : Array Value := (l.map (Value.int .i64)).toArray
structure MtAt (w : World) (p : Nat) (l : List Int) : Prop where
  blk : w.heap[p]? = some (.cells (mtC l) 94 (0, 0))
  len : l.length = 12
theorem MtAt.lt {w : World} {p : Nat} {l : List Int} (h : MtAt w p l) : p < w.heap.size := (Array.getElem?_eq_some_iff.1 h.blk).1
theorem MtAt.fr {w w' : World} {p : Nat} {l : List Int} {S : List Nat} (h : MtAt w p l) (F : Fr S w w') (hp : p ∉ S) : MtAt w' p l := ⟨(F.block p h.lt hp).trans h.blk, h.len⟩
theorem MtAt.cell {w : World} {p : Nat} {l : List Int} (h : MtAt w p l) {i : Nat} {x : Int} (hx : l[i]? = some x) : w.cell? ⟨p, i, none⟩ = some (.int .i64 x) := by
  have key : ∀ i : Nat, w.cell? ⟨p, i, none⟩ = (mtC l)[i]? := Go.Joins.cell_of_block h.blk
  rw [key]
  simp [mtC, hx]
theorem MtAt.free {w : World} {p : Nat} {l : List Int} (h : MtAt w p l) (i : Nat) : w.frozen? ⟨p, i, none⟩ = false := by
  unfold World.frozen?
  simp [h.blk]
theorem MtAt.put {w : World} {p : Nat} {l : List Int} (h : MtAt w p l) (i : Nat) (x : Int) : MtAt (w.setCell ⟨p, i, none⟩ (.int .i64 x)) p (l.set i x) := by
  refine ⟨?_, by rw [List.length_set, h.len]⟩
  have h1 := Go.Joins.block_setCell h.blk (i := i) (.int .i64 x)
  rw [h1]
  congr 2
  simp [mtC, List.map_set]
theorem MtAt.same {w w' : World} {p : Nat} {l : List Int} (h : MtAt w p l) (s : Same w w') : MtAt w' p l := h.fr (s.fr (S := [])) (by simp)

theorem iload_any (a : Addr) (x : Int) (w : World) (h0 : w.cell? a = some (.int .i64 x)) :
    Calls Tryz.prog 39 #[.pointer (some a)] w fun e w' => e = .returned (.int .i64 x) ∧ w' = w := by
  have hl := run_call_load (P := Tryz.prog) Tryz.func69 (by kernel_rfl) (by kernel_rfl) (by kernel_rfl) .i64 (by kernel_rfl) h0
  go_enter Tryz.func39, Tryz.ntmps39
  go_wp2_with fail
  go_ret
  exact ⟨rfl, rfl⟩
theorem icas_any (a : Addr) (x y : Int) (w : World) (h0 : w.cell? a = some (.int .i64 x)) (hz : w.frozen? a = false) :
    Calls Tryz.prog 90 #[.pointer (some a), .int .i64 x, .int .i64 y] w fun e w' => e = .returned (.bool true) ∧ w' = w.setCell a (.int .i64 y) := by
  have hl := run_call_cas_hit (P := Tryz.prog) Tryz.func133 (by kernel_rfl) (by kernel_rfl) (by kernel_rfl) .i64 (by kernel_rfl) (y := y) h0 hz
  go_enter Tryz.func90, Tryz.ntmps90
  go_wp2_with fail
  go_ret
  exact ⟨rfl, rfl⟩

set_option maxRecDepth 100000 in
theorem ask_any (w : World) (p o : Nat) (l : List Int) (h : MtAt w p l) (most now n : Int) (h0 : l[o]? = some most) (h1 : l[o + 1]? = some now) (hn : 0 ≤ n) (hw : 0 ≤ now) (hm : now + n ≤ most) (hm2 : most ≤ 1099511627776) :
    Calls Tryz.prog 132 #[.pointer (some ⟨p, o, none⟩), .int .i64 n] w fun e w' => e = .returned (.bool true) ∧ MtAt w' p (l.set (o + 1) (now + n)) ∧ Fr [p] w w' := by
  have HH := Lib.hid h
  have HL := Lib.hid (fun (wr : World) (H : MtAt wr p l) => iload_any ⟨p, o + 1, none⟩ now wr (H.cell h1))
  have HC := Lib.hid (fun (wr : World) (H : MtAt wr p l) => icas_any ⟨p, o + 1, none⟩ now (now + n) wr (H.cell h1) (H.free _))
  have HC0 := Lib.hid (fun (wr : World) (H : MtAt wr p l) => H.cell h0)
  clear h h0 h1
  go_enter Tryz.func132, Tryz.ntmps132
  go_wp2_with fail
  go_loopw [] (fun wr => MtAt wr p l ∧ Fr [p] w wr) (fun _ => 0)
  case atStart => exact ⟨HH.out, Fr.refl _ _⟩
  case round =>
    obtain ⟨M, F⟩ := hrel
    have c0 := HC0.out wr M
    go_wp2_with (first
      | (have hq := M2; go_at_call 90; refine (HC.out _ M2).mono ?_; rintro e w3 ⟨rfl, rfl⟩)
      | (go_at_call 39; refine (HL.out _ M).mono ?_; rintro e w2 ⟨rfl, rfl⟩; have M2 := M))
    go_ret
    exact ⟨rfl, M.put _ _, F.setCell (.inl (by simp)) _⟩

set_option maxRecDepth 100000 in
theorem use_any (w : World) (p o : Nat) (l : List Int) (h : MtAt w p l) (most now n code : Int) (hc : l[11]? = some 0) (h0 : l[o]? = some most) (h1 : l[o + 1]? = some now) (hn : 0 ≤ n) (hw : 0 ≤ now) (hm : now + n ≤ most) (hm2 : most ≤ 1099511627776) :
    Calls Tryz.prog 89 #[.pointer (some ⟨p, 0, none⟩), .pointer (some ⟨p, o, none⟩), .int .i64 n, .int .i64 code] w fun e w' => e = .returned (.bool true) ∧ MtAt w' p (l.set (o + 1) (now + n)) ∧ Fr [p] w w' := by
  have HL := Lib.hid (iload_any ⟨p, 11, none⟩ 0 w (h.cell hc))
  have HA := Lib.hid (ask_any w p o l h most now n h0 h1 hn hw hm hm2)
  have hmx : max n 0 = n := by omega
  clear h h0 h1 hc hm
  go_enter Tryz.func89, Tryz.ntmps89
  go_wp2_with (first
    | (go_at_call 132; refine HA.out.mono ?_; rintro e w2 ⟨rfl, M2, F2⟩)
    | (go_at_call 39; refine HL.out.mono ?_; rintro e w1 ⟨rfl, rfl⟩))
  go_ret
  exact ⟨rfl, M2, F2⟩

/-- A meter of which there may be 2^40 of everything. -/
def mtL (a o f d s k : Int) : List Int := [1099511627776, a, 1099511627776, o, 1099511627776, f, 1099511627776, d, 1099511627776, s, k, 0]
abbrev MtN (w : World) (p : Nat) (a o f d s k : Int) : Prop := MtAt w p (mtL a o f d s k)

theorem code_m {w : World} {p : Nat} {a o f d s k : Int} (h : MtN w p a o f d s k) :
    Calls Tryz.prog 51 #[.pointer (some ⟨p, 0, none⟩)] w fun e w' => e = .returned (.int .i64 0) ∧ w' = w := by
  have HL := Lib.hid (iload_any ⟨p, 11, none⟩ 0 w (h.cell rfl))
  clear h
  go_enter Tryz.func51, Tryz.ntmps51
  go_wp2_with (go_at_call 39; refine HL.out.mono ?_; rintro e w1 ⟨rfl, rfl⟩)
  go_ret
  exact ⟨rfl, rfl⟩

set_option maxRecDepth 100000 in
theorem mem_m {w : World} {p : Nat} {a o f d s k : Int} (h : MtN w p a o f d s k) (n : Int) (hn : 0 ≤ n) (ha : 0 ≤ a) (hm : a + n ≤ 1099511627776) :
    Calls Tryz.prog 50 #[.pointer (some ⟨p, 0, none⟩), .int .i64 n] w fun e w' => e = .returned (.bool true) ∧ MtN w' p (a + n) o f d s (if a + n ≤ k then k else a + n) ∧ Fr [p] w w' := by
  have HU := Lib.hid (use_any w p 0 _ h 1099511627776 a n 101 rfl rfl rfl hn ha hm (by omega))
  obtain ⟨b, hb⟩ : ∃ b, a + n = b := ⟨_, rfl⟩
  rw [hb] at HU ⊢
  have HP := Lib.hid (fun (wr : World) (H : MtN wr p b o f d s k) => iload_any ⟨p, 10, none⟩ k wr (H.cell rfl))
  have HM := Lib.hid (fun (wr : World) (H : MtN wr p b o f d s k) => iload_any ⟨p, 1, none⟩ b wr (H.cell rfl))
  have HC := Lib.hid (fun (wr : World) (H : MtN wr p b o f d s k) => icas_any ⟨p, 10, none⟩ k b wr (H.cell rfl) (H.free _))
  have hk0 := hb
  clear h hb hm hk0
  obtain ⟨k2, hk2⟩ : ∃ k2, (if b ≤ k then k else b) = k2 := ⟨_, rfl⟩
  rw [hk2]
  have HK := Lib.hid hk2
  clear hk2
  go_enter Tryz.func50, Tryz.ntmps50
  go_wp2_with (go_at_call 89; refine HU.out.mono ?_; rintro e w1 ⟨rfl, M1, F1⟩)
  go_loopw [] (fun wr => MtN wr p b o f d s k ∧ Fr [p] w wr) (fun _ => 0)
  case atStart => exact ⟨M1, F1⟩
  case round =>
    obtain ⟨M, F⟩ := hrel
    by_cases hk : b ≤ k
    · have hk3 := HK.out
      rw [if_pos hk] at hk3
      subst hk3
      go_wp2_with fail
      go_region_held3 (fun _ => True) (trivial) (first
        | (have hq := M3; go_at_call 39; refine (HM.out _ M3).mono ?_; rintro e w3 ⟨rfl, rfl⟩)
        | (go_at_call 39; refine (HP.out _ (M.same Same.drew)).mono ?_; rintro e w2 ⟨rfl, rfl⟩; have M3 := M.same Same.drew))
      go_wp2_with fail
      go_ret
      exact ⟨rfl, M.same Same.drew, F.drew⟩
    · have hk3 := HK.out
      rw [if_neg hk] at hk3
      subst hk3
      go_wp2_with fail
      go_region_held3 (fun _ => True) (trivial) (first
        | (have hq := M3; go_at_call 39; refine (HM.out _ M3).mono ?_; rintro e w3 ⟨rfl, rfl⟩)
        | (go_at_call 39; refine (HP.out _ (M.same Same.drew)).mono ?_; rintro e w2 ⟨rfl, rfl⟩; have M3 := M.same Same.drew))
      go_wp2_with (go_at_call 90; refine (HC.out _ M3).mono ?_; rintro e w4 ⟨rfl, rfl⟩)
      go_ret
      exact ⟨rfl, MtAt.put (M.same Same.drew) 10 b, F.drew.setCell (.inl (by simp)) _⟩
set_option maxRecDepth 100000 in
theorem give_m {w : World} {p : Nat} {a o f d s k : Int} (h : MtN w p a o f d s k) (n : Int) (hn : 0 ≤ n) (hm : n ≤ a) (ha : a ≤ 1099511627776) :
    Calls Tryz.prog 92 #[.pointer (some ⟨p, 0, none⟩), .int .i64 n] w fun e w' => e = .returned (.tuple #[]) ∧ MtN w' p (a - n) o f d s k ∧ Fr [p] w w' := by
  have HM := Lib.hid (fun (wr : World) (H : MtN wr p a o f d s k) => iload_any ⟨p, 1, none⟩ a wr (H.cell rfl))
  have HC := Lib.hid (fun (wr : World) (H : MtN wr p a o f d s k) => icas_any ⟨p, 1, none⟩ a (a - n) wr (H.cell rfl) (H.free _))
  have hmi : min n a = n := by omega
  have HH := Lib.hid h
  clear h
  go_enter Tryz.func92, Tryz.ntmps92
  go_wp2_with fail
  go_loopw [] (fun wr => MtN wr p a o f d s k ∧ Fr [p] w wr) (fun _ => 0)
  case atStart => exact ⟨HH.out, Fr.refl _ _⟩
  case round =>
    obtain ⟨M, F⟩ := hrel
    go_wp2_with (first
      | (have hq := M3; go_at_call 90; refine (HC.out _ M3).mono ?_; rintro e w3 ⟨rfl, rfl⟩)
      | (go_at_call 39; refine (HM.out _ M).mono ?_; rintro e w2 ⟨rfl, rfl⟩; have M3 := M))
    refine bodyPost_ret (results_none rfl _ _ _) rfl ?_
    exact ⟨rfl, M.put 1 (a - n), F.setCell (.inl (by simp)) _⟩
theorem free_m {w : World} {p : Nat} {a o f d s k : Int} (h : MtN w p a o f d s k) (n : Int) (hn : 0 ≤ n) (hm : n ≤ a) (ha : a ≤ 1099511627776) :
    Calls Tryz.prog 53 #[.pointer (some ⟨p, 0, none⟩), .int .i64 n] w fun e w' => e = .returned (.tuple #[]) ∧ MtN w' p (a - n) o f d s k ∧ Fr [p] w w' := by
  have HG := Lib.hid (give_m h n hn hm ha)
  have hmx : max n 0 = n := by omega
  clear h hm
  go_enter Tryz.func53, Tryz.ntmps53
  go_wp2_with (go_at_call 92; refine HG.out.mono ?_; rintro e w1 ⟨rfl, M1, F1⟩)
  go_end0
  exact ⟨rfl, M1, F1⟩
set_option maxRecDepth 100000 in
theorem mnew_any (w : World) : Calls Tryz.prog 18 #[.agg #[.int .i64 1099511627776, .int .i64 1099511627776, .int .i64 1099511627776, .int .i64 1099511627776, .int .i64 1099511627776]] w fun e w' => e = .returned (.pointer (some ⟨w.heap.size + 1, 0, none⟩)) ∧ MtN w' (w.heap.size + 1) 0 0 0 0 0 0 ∧ Fr [] w w' := by
  have hmx : max (1099511627776 : Int) 0 = 1099511627776 := by decide
  go_enter Tryz.func18, Tryz.ntmps18
  go_upto_region 2 with fail
  go_region
  go_upto_region 3 with fail
  go_region
  go_wp2_with fail
  go_ret
  refine ⟨rfl, MtAt.same (w := (w.alloc (.cells #[.int .i64 1099511627776, .int .i64 1099511627776, .int .i64 1099511627776, .int .i64 1099511627776, .int .i64 1099511627776] 45)).alloc (.cells (mtC (mtL 0 0 0 0 0 0)) 94)) ⟨?_, rfl⟩ (Same.drew.trans Same.drew), (((Fr.refl _ _).alloc _).alloc _).drew.drew⟩
  rw [← World.size_alloc w (.cells #[.int .i64 1099511627776, .int .i64 1099511627776, .int .i64 1099511627776, .int .i64 1099511627776, .int .i64 1099511627776] 45)]
  exact heap_alloc_new _ _
end Go.Proofs.YtjfoccbbjhigbaaGreat
