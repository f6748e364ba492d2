/- Contracts: quotas (layer 3), as long as none is spent. -/
import Derived.Test.YthbkcjlpelihlaaGreatDoorBaseM
import Derived.Defers
import Derived.Laws.Pointers
import Derived.Laws.LoneSync
import Derived.Deep.DeepCutAuto
import Derived.Deep.RegionHeld3
import Derived.Laws.BytesString
namespace Go.Proofs.YthbkcjlpelihlaaGreatDoor
open Go.RowKit

/-- A meter's twelve numbers: what there may be and what is used, of memory, bytes out, files, depth, steps; the peak; the code. -/
def mtC (l : List Int) : Array Value := (l.map (Value.int .i64)).toArray
structure MtAt (w : World) (p : Nat) (l : List Int) : Prop where
  blk : w.heap[p]? = some (.cells (mtC l) 99 (0, 0))
  len : l.length = 12
theorem MtAt.lt {w : World} {p : Nat} {l : List Int} (h : MtAt w p l) : p < w.heap.size := (Array.getElem?_eq_some_iff.1 h.blk).1
theorem MtAt.fr {w w' : World} {p : Nat} {l : List Int} {S : List Nat} (h : MtAt w p l) (F : Fr S w w') (hp : p ∉ S) : MtAt w' p l := ⟨(F.block p h.lt hp).trans h.blk, h.len⟩
theorem MtAt.cell {w : World} {p : Nat} {l : List Int} (h : MtAt w p l) {i : Nat} {x : Int} (hx : l[i]? = some x) : w.cell? ⟨p, i, none⟩ = some (.int .i64 x) := by
  have key : ∀ i : Nat, w.cell? ⟨p, i, none⟩ = (mtC l)[i]? := Go.Joins.cell_of_block h.blk
  rw [key]
  simp [mtC, hx]
theorem MtAt.free {w : World} {p : Nat} {l : List Int} (h : MtAt w p l) (i : Nat) : w.frozen? ⟨p, i, none⟩ = false := by
  unfold World.frozen?
  simp [h.blk]
theorem MtAt.put {w : World} {p : Nat} {l : List Int} (h : MtAt w p l) (i : Nat) (x : Int) : MtAt (w.setCell ⟨p, i, none⟩ (.int .i64 x)) p (l.set i x) := by
  refine ⟨?_, by rw [List.length_set, h.len]⟩
  have h1 := Go.Joins.block_setCell h.blk (i := i) (.int .i64 x)
  rw [h1]
  congr 2
  simp [mtC, List.map_set]
theorem MtAt.same {w w' : World} {p : Nat} {l : List Int} (h : MtAt w p l) (s : Same w w') : MtAt w' p l := h.fr (s.fr (S := [])) (by simp)

theorem iload_any (a : Addr) (x : Int) (w : World) (h0 : w.cell? a = some (.int .i64 x)) :
    Calls Tryz.prog 46 #[.pointer (some a)] w fun e w' => e = .returned (.int .i64 x) ∧ w' = w := by
  have hl := run_call_load (P := Tryz.prog) Tryz.func75 (by kernel_rfl) (by kernel_rfl) (by kernel_rfl) .i64 (by kernel_rfl) h0
  go_enter Tryz.func46, Tryz.ntmps46
  go_wp2_with fail
  go_ret
  exact ⟨rfl, rfl⟩
theorem icas_any (a : Addr) (x y : Int) (w : World) (h0 : w.cell? a = some (.int .i64 x)) (hz : w.frozen? a = false) :
    Calls Tryz.prog 67 #[.pointer (some a), .int .i64 x, .int .i64 y] w fun e w' => e = .returned (.bool true) ∧ w' = w.setCell a (.int .i64 y) := by
  have hl := run_call_cas_hit (P := Tryz.prog) Tryz.func95 (by kernel_rfl) (by kernel_rfl) (by kernel_rfl) .i64 (by kernel_rfl) (y := y) h0 hz
  go_enter Tryz.func67, Tryz.ntmps67
  go_wp2_with fail
  go_ret
  exact ⟨rfl, rfl⟩

set_option maxRecDepth 100000 in
theorem ask_any (w : World) (p o : Nat) (l : List Int) (h : MtAt w p l) (most now n : Int) (h0 : l[o]? = some most) (h1 : l[o + 1]? = some now) (hn : 0 ≤ n) (hw : 0 ≤ now) (hm : now + n ≤ most) (hm2 : most ≤ 1099511627776) :
    Calls Tryz.prog 94 #[.pointer (some ⟨p, o, none⟩), .int .i64 n] w fun e w' => e = .returned (.bool true) ∧ MtAt w' p (l.set (o + 1) (now + n)) ∧ Fr [p] w w' := by
  have HH := Lib.hid h
  have HL := Lib.hid (fun (wr : World) (H : MtAt wr p l) => iload_any ⟨p, o + 1, none⟩ now wr (H.cell h1))
  have HC := Lib.hid (fun (wr : World) (H : MtAt wr p l) => icas_any ⟨p, o + 1, none⟩ now (now + n) wr (H.cell h1) (H.free _))
  have HC0 := Lib.hid (fun (wr : World) (H : MtAt wr p l) => H.cell h0)
  clear h h0 h1
  go_enter Tryz.func94, Tryz.ntmps94
  go_wp2_with fail
  go_loopw [] (fun wr => MtAt wr p l ∧ Fr [p] w wr) (fun _ => 0)
  case atStart => exact ⟨HH.out, Fr.refl _ _⟩
  case round =>
    obtain ⟨M, F⟩ := hrel
    have c0 := HC0.out wr M
    go_wp2_with (first
      | (have hq := M2; go_at_call 67; refine (HC.out _ M2).mono ?_; rintro e w3 ⟨rfl, rfl⟩)
      | (go_at_call 46; refine (HL.out _ M).mono ?_; rintro e w2 ⟨rfl, rfl⟩; have M2 := M))
    go_ret
    exact ⟨rfl, M.put _ _, F.setCell (.inl (by simp)) _⟩

set_option maxRecDepth 100000 in
theorem use_any (w : World) (p o : Nat) (l : List Int) (h : MtAt w p l) (most now n code : Int) (hc : l[11]? = some 0) (h0 : l[o]? = some most) (h1 : l[o + 1]? = some now) (hn : 0 ≤ n) (hw : 0 ≤ now) (hm : now + n ≤ most) (hm2 : most ≤ 1099511627776) :
    Calls Tryz.prog 66 #[.pointer (some ⟨p, 0, none⟩), .pointer (some ⟨p, o, none⟩), .int .i64 n, .int .i64 code] w fun e w' => e = .returned (.bool true) ∧ MtAt w' p (l.set (o + 1) (now + n)) ∧ Fr [p] w w' := by
  have HL := Lib.hid (iload_any ⟨p, 11, none⟩ 0 w (h.cell hc))
  have HA := Lib.hid (ask_any w p o l h most now n h0 h1 hn hw hm hm2)
  have hmx : max n 0 = n := by omega
  clear h h0 h1 hc hm
  go_enter Tryz.func66, Tryz.ntmps66
  go_wp2_with (first
    | (go_at_call 94; refine HA.out.mono ?_; rintro e w2 ⟨rfl, M2, F2⟩)
    | (go_at_call 46; refine HL.out.mono ?_; rintro e w1 ⟨rfl, rfl⟩))
  go_ret
  exact ⟨rfl, M2, F2⟩

/-- A meter of which there may be 2^40 of everything. -/
def mtL (a o f d s k : Int) : List Int := [1099511627776, a, 1099511627776, o, 1099511627776, f, 1099511627776, d, 1099511627776, s, k, 0]
abbrev MtN (w : World) (p : Nat) (a o f d s k : Int) : Prop := MtAt w p (mtL a o f d s k)

theorem step_m {w : World} {p : Nat} {a o f d s k : Int} (h : MtN w p a o f d s k) (n : Int) (hn : 0 ≤ n) (hs : 0 ≤ s) (hm : s + n ≤ 1099511627776) :
    Calls Tryz.prog 61 #[.pointer (some ⟨p, 0, none⟩), .int .i64 n] w fun e w' => e = .returned (.bool true) ∧ MtN w' p a o f d (s + n) k ∧ Fr [p] w w' := by
  have HU := Lib.hid (use_any w p 8 _ h 1099511627776 s n 105 rfl rfl rfl hn hs hm (by omega))
  clear h
  go_enter Tryz.func61, Tryz.ntmps61
  go_wp2_with (go_at_call 66; refine HU.out.mono ?_; rintro e w1 ⟨rfl, M1, F1⟩)
  go_ret
  exact ⟨rfl, M1, F1⟩
theorem file_m {w : World} {p : Nat} {a o f d s k : Int} (h : MtN w p a o f d s k) (hf : 0 ≤ f) (hm : f + 1 ≤ 1099511627776) :
    Calls Tryz.prog 91 #[.pointer (some ⟨p, 0, none⟩)] w fun e w' => e = .returned (.bool true) ∧ MtN w' p a o (f + 1) d s k ∧ Fr [p] w w' := by
  have HU := Lib.hid (use_any w p 4 _ h 1099511627776 f 1 103 rfl rfl rfl (by omega) hf hm (by omega))
  clear h
  go_enter Tryz.func91, Tryz.ntmps91
  go_wp2_with (go_at_call 66; refine HU.out.mono ?_; rintro e w1 ⟨rfl, M1, F1⟩)
  go_ret
  exact ⟨rfl, M1, F1⟩
theorem code_m {w : World} {p : Nat} {a o f d s k : Int} (h : MtN w p a o f d s k) :
    Calls Tryz.prog 42 #[.pointer (some ⟨p, 0, none⟩)] w fun e w' => e = .returned (.int .i64 0) ∧ w' = w := by
  have HL := Lib.hid (iload_any ⟨p, 11, none⟩ 0 w (h.cell rfl))
  clear h
  go_enter Tryz.func42, Tryz.ntmps42
  go_wp2_with (go_at_call 46; refine HL.out.mono ?_; rintro e w1 ⟨rfl, rfl⟩)
  go_ret
  exact ⟨rfl, rfl⟩

set_option maxRecDepth 100000 in
theorem mem_m {w : World} {p : Nat} {a o f d s k : Int} (h : MtN w p a o f d s k) (n : Int) (hn : 0 ≤ n) (ha : 0 ≤ a) (hm : a + n ≤ 1099511627776) :
    Calls Tryz.prog 41 #[.pointer (some ⟨p, 0, none⟩), .int .i64 n] w fun e w' => e = .returned (.bool true) ∧ MtN w' p (a + n) o f d s (if a + n ≤ k then k else a + n) ∧ Fr [p] w w' := by
  have HU := Lib.hid (use_any w p 0 _ h 1099511627776 a n 101 rfl rfl rfl hn ha hm (by omega))
  obtain ⟨b, hb⟩ : ∃ b, a + n = b := ⟨_, rfl⟩
  rw [hb] at HU ⊢
  have HP := Lib.hid (fun (wr : World) (H : MtN wr p b o f d s k) => iload_any ⟨p, 10, none⟩ k wr (H.cell rfl))
  have HM := Lib.hid (fun (wr : World) (H : MtN wr p b o f d s k) => iload_any ⟨p, 1, none⟩ b wr (H.cell rfl))
  have HC := Lib.hid (fun (wr : World) (H : MtN wr p b o f d s k) => icas_any ⟨p, 10, none⟩ k b wr (H.cell rfl) (H.free _))
  have hk0 := hb
  clear h hb hm hk0
  obtain ⟨k2, hk2⟩ : ∃ k2, (if b ≤ k then k else b) = k2 := ⟨_, rfl⟩
  rw [hk2]
  have HK := Lib.hid hk2
  clear hk2
  go_enter Tryz.func41, Tryz.ntmps41
  go_wp2_with (go_at_call 66; refine HU.out.mono ?_; rintro e w1 ⟨rfl, M1, F1⟩)
  go_loopw [] (fun wr => MtN wr p b o f d s k ∧ Fr [p] w wr) (fun _ => 0)
  case atStart => exact ⟨M1, F1⟩
  case round =>
    obtain ⟨M, F⟩ := hrel
    by_cases hk : b ≤ k
    · have hk3 := HK.out
      rw [if_pos hk] at hk3
      subst hk3
      go_wp2_with fail
      go_region_held3 (fun _ => True) (trivial) (first
        | (have hq := M3; go_at_call 46; refine (HM.out _ M3).mono ?_; rintro e w3 ⟨rfl, rfl⟩)
        | (go_at_call 46; refine (HP.out _ (M.same Same.drew)).mono ?_; rintro e w2 ⟨rfl, rfl⟩; have M3 := M.same Same.drew))
      go_wp2_with fail
      go_ret
      exact ⟨rfl, M.same Same.drew, F.drew⟩
    · have hk3 := HK.out
      rw [if_neg hk] at hk3
      subst hk3
      go_wp2_with fail
      go_region_held3 (fun _ => True) (trivial) (first
        | (have hq := M3; go_at_call 46; refine (HM.out _ M3).mono ?_; rintro e w3 ⟨rfl, rfl⟩)
        | (go_at_call 46; refine (HP.out _ (M.same Same.drew)).mono ?_; rintro e w2 ⟨rfl, rfl⟩; have M3 := M.same Same.drew))
      go_wp2_with (go_at_call 67; refine (HC.out _ M3).mono ?_; rintro e w4 ⟨rfl, rfl⟩)
      go_ret
      exact ⟨rfl, MtAt.put (M.same Same.drew) 10 b, F.drew.setCell (.inl (by simp)) _⟩
set_option maxRecDepth 100000 in
theorem give_m {w : World} {p : Nat} {a o f d s k : Int} (h : MtN w p a o f d s k) (n : Int) (hn : 0 ≤ n) (hm : n ≤ a) (ha : a ≤ 1099511627776) :
    Calls Tryz.prog 68 #[.pointer (some ⟨p, 0, none⟩), .int .i64 n] w fun e w' => e = .returned (.tuple #[]) ∧ MtN w' p (a - n) o f d s k ∧ Fr [p] w w' := by
  have HM := Lib.hid (fun (wr : World) (H : MtN wr p a o f d s k) => iload_any ⟨p, 1, none⟩ a wr (H.cell rfl))
  have HC := Lib.hid (fun (wr : World) (H : MtN wr p a o f d s k) => icas_any ⟨p, 1, none⟩ a (a - n) wr (H.cell rfl) (H.free _))
  have hmi : min n a = n := by omega
  have HH := Lib.hid h
  clear h
  go_enter Tryz.func68, Tryz.ntmps68
  go_wp2_with fail
  go_loopw [] (fun wr => MtN wr p a o f d s k ∧ Fr [p] w wr) (fun _ => 0)
  case atStart => exact ⟨HH.out, Fr.refl _ _⟩
  case round =>
    obtain ⟨M, F⟩ := hrel
    go_wp2_with (first
      | (have hq := M3; go_at_call 67; refine (HC.out _ M3).mono ?_; rintro e w3 ⟨rfl, rfl⟩)
      | (go_at_call 46; refine (HM.out _ M).mono ?_; rintro e w2 ⟨rfl, rfl⟩; have M3 := M))
    refine bodyPost_ret (results_none rfl _ _ _) rfl ?_
    exact ⟨rfl, M.put 1 (a - n), F.setCell (.inl (by simp)) _⟩
theorem free_m {w : World} {p : Nat} {a o f d s k : Int} (h : MtN w p a o f d s k) (n : Int) (hn : 0 ≤ n) (hm : n ≤ a) (ha : a ≤ 1099511627776) :
    Calls Tryz.prog 43 #[.pointer (some ⟨p, 0, none⟩), .int .i64 n] w fun e w' => e = .returned (.tuple #[]) ∧ MtN w' p (a - n) o f d s k ∧ Fr [p] w w' := by
  have HG := Lib.hid (give_m h n hn hm ha)
  have hmx : max n 0 = n := by omega
  clear h hm
  go_enter Tryz.func43, Tryz.ntmps43
  go_wp2_with (go_at_call 68; refine HG.out.mono ?_; rintro e w1 ⟨rfl, M1, F1⟩)
  go_end0
  exact ⟨rfl, M1, F1⟩
set_option maxRecDepth 100000 in
theorem mnew_any (w : World) : Calls Tryz.prog 24 #[.agg #[.int .i64 1099511627776, .int .i64 1099511627776, .int .i64 1099511627776, .int .i64 1099511627776, .int .i64 1099511627776]] w fun e w' => e = .returned (.pointer (some ⟨w.heap.size + 1, 0, none⟩)) ∧ MtN w' (w.heap.size + 1) 0 0 0 0 0 0 ∧ Fr [] w w' := by
  have hmx : max (1099511627776 : Int) 0 = 1099511627776 := by decide
  go_enter Tryz.func24, Tryz.ntmps24
  go_upto_region 2 with fail
  go_region
  go_upto_region 3 with fail
  go_region
  go_wp2_with fail
  go_ret
  refine ⟨rfl, MtAt.same (w := (w.alloc (.cells #[.int .i64 1099511627776, .int .i64 1099511627776, .int .i64 1099511627776, .int .i64 1099511627776, .int .i64 1099511627776] 41)).alloc (.cells (mtC (mtL 0 0 0 0 0 0)) 99)) ⟨?_, rfl⟩ (Same.drew.trans Same.drew), (((Fr.refl _ _).alloc _).alloc _).drew.drew⟩
  rw [← World.size_alloc w (.cells #[.int .i64 1099511627776, .int .i64 1099511627776, .int .i64 1099511627776, .int .i64 1099511627776, .int .i64 1099511627776] 41)]
  exact heap_alloc_new _ _
end Go.Proofs.YthbkcjlpelihlaaGreatDoor
/- Bytes as a text. No condition. -/
namespace Go.Proofs.YthbkcjlpelihlaaGreatDoor
open Go.RowKit

set_option maxRecDepth 100000 in
/-- 'string(b)'. -/
theorem conv_sl (w : World) (ao : Option Addr) (n cap : Nat) (l : List UInt8) (hn : n = l.length) (h : Sl w (.slice ao n cap) (bv l)) :
    (convert 26 9 (.slice ao n cap)).run Tryz.prog w = .ok (.string ⟨l.toArray⟩) w := by
  subst hn
  obtain ⟨ao', cap', he, h1, h2, h3, h4⟩ := h
  rw [bv_length] at he h1
  injection he with e1 e2 e3
  subst e1 e3
  cases ao with
  | none =>
    have hc := h3 rfl
    have : l = [] := List.eq_nil_of_length_eq_zero (by omega)
    subst this
    subst hc
    rfl
  | some a =>
    refine run_convert_bytes_back w 26 9 5 a cap l Tryz.underlying26 Tryz.underlying5 Tryz.underlying9 (fun j hj => ?_)
    obtain ⟨q1, q2, q3⟩ := h4 a rfl (by omega)
    obtain ⟨b, o, s⟩ := a
    dsimp only at q1 q2 q3
    subst q1
    have e : (⟨b, o, none⟩ : Addr).add j = ⟨b, o + j, none⟩ := by unfold Addr.add; split <;> simp_all
    rw [e, q3 j (by rw [bv_length]; exact hj)]
    exact bv_get _ _ _ (by simp)
end Go.Proofs.YthbkcjlpelihlaaGreatDoor
/- What a cursor over bytes comes to, in plain Lean. No condition. -/
namespace Go.Proofs.YthbkcjlpelihlaaGreatDoor

/-- A cursor: the bytes, how many were read, why it ended (0: it has not). -/
structure Cur where
  b : List UInt8
  at_ : Nat
  code : Nat
  deriving DecidableEq

/-- Bytes, the least first, as a number. -/
def leNat : List UInt8 → Nat
  | [] => 0
  | x :: l => x.toNat + 256 * leNat l

theorem leNat_snoc (l : List UInt8) (x : UInt8) : leNat (l ++ [x]) = leNat l + 256 ^ l.length * x.toNat := by
  induction l with
  | nil => simp [leNat]
  | cons y l ih =>
    simp only [List.cons_append, leNat, ih, List.length_cons, Nat.pow_succ]
    have : 256 * (256 ^ l.length * x.toNat) = 256 ^ l.length * 256 * x.toNat := by rw [Nat.mul_comm (256 ^ l.length) 256, Nat.mul_assoc]
    omega

theorem leNat_lt (l : List UInt8) : leNat l < 256 ^ l.length := by
  induction l with
  | nil => simp [leNat]
  | cons y l ih =>
    have := y.toNat_lt
    simp only [leNat, List.length_cons, Nat.pow_succ]
    omega

theorem take_succ' {α : Type} (l : List α) (k : Nat) (x : α) (h : l[k]? = some x) : l.take (k + 1) = l.take k ++ [x] := by
  rw [List.take_add_one, h]; rfl

theorem take_eq_step {α : Type} (a b : List α) (k : Nat) (x y : α) (hx : a[k]? = some x) (hy : b[k]? = some y) (h : a.take k = b.take k) (e : x = y) : a.take (k + 1) = b.take (k + 1) := by
  rw [take_succ' a k x hx, take_succ' b k y hy, h, e]

theorem ne_at {α : Type} (a b : List α) (k : Nat) (x y : α) (hx : a[k]? = some x) (hy : b[k]? = some y) (e : x ≠ y) : a ≠ b := by
  rintro rfl
  rw [hx] at hy
  exact e (Option.some.inj hy)

theorem leNat_take (l : List UInt8) (k : Nat) (x : UInt8) (h : l[k]? = some x) : leNat (l.take (k + 1)) = leNat (l.take k) + 256 ^ k * x.toNat := by
  rw [take_succ' l k x h, leNat_snoc]
  have : (l.take k).length = k := by
    have := (List.getElem?_eq_some_iff.1 h).1
    simp; omega
  rw [this]

namespace Cur
def live (c : Cur) : List UInt8 := if c.code = 0 then c.b else c.b.take c.at_
def left (c : Cur) : Nat := if c.code = 0 then c.b.length - c.at_ else 0
def fail (c : Cur) (k : Nat) : Cur := { c with code := if c.code = 0 then k else c.code }
def take (c : Cur) (n : Nat) : List UInt8 × Cur :=
  if c.code ≠ 0 ∨ c.left < n then ([], c.fail 3) else ((c.b.drop c.at_).take n, { c with at_ := c.at_ + n })
def sized (n : Int) : Bool := n == 1 || n == 2 || n == 4 || n == 8
def num (c : Cur) (n : Int) : Nat × Cur :=
  if sized n then (leNat (c.take n.toNat).1, (c.take n.toNat).2) else (0, c.fail 3)

/-- How many leading ones a byte has. -/
def ones (x : Nat) : Nat := if x < 128 then 0 else if x < 192 then 1 else if x < 224 then 2 else if x < 240 then 3 else if x < 248 then 4 else if x < 252 then 5 else if x < 254 then 6 else if x < 255 then 7 else 8
theorem ones_le (x : Nat) : ones x ≤ 8 := by unfold ones; repeat' split
                                             all_goals omega
def head (c : Cur) : Nat := (c.b.getD c.at_ 0).toNat
def number (c : Cur) : Nat × Cur :=
  if c.left < 1 + ones c.head then (0, c.fail 3)
  else (leNat ((c.b.drop (c.at_ + 1)).take (ones c.head)) + 256 ^ ones c.head * (if ones c.head < 7 then c.head % 2 ^ (7 - ones c.head) else 0), { c with at_ := c.at_ + 1 + ones c.head })

theorem live_left (c : Cur) (h : c.at_ ≤ c.b.length) : c.live.length = c.at_ + c.left := by
  unfold live left
  split
  · omega
  · simp; omega
end Cur

theorem Cur.take_length (c : Cur) (n : Nat) : (c.take n).1.length ≤ c.b.length := by
  unfold Cur.take; split <;> simp; omega

theorem Cur.take_b (c : Cur) (n : Nat) : (c.take n).2.b = c.b := by
  unfold Cur.take; split <;> rfl
end Go.Proofs.YthbkcjlpelihlaaGreatDoor
