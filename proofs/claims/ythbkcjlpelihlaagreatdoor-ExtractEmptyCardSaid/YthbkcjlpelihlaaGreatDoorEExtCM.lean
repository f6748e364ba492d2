/- Contracts: an extraction without entries (layer 26): taken, enter, entries, folders, publish, all. No condition but that nothing is spent and lengths fit. -/
import Derived.Test.YthbkcjlpelihlaaGreatDoorGAS
import Derived.Test.YthbkcjlpelihlaaGreatDoorShelfM
namespace Go.Proofs.YthbkcjlpelihlaaGreatDoor
open Go.RowKit Go.Maps

set_option maxRecDepth 100000 in
theorem taken_none {w : World} {g sp mp bp fc : Nat} {fo : Option Addr} {root stage : List UInt8} {mb : Option Nat} {fi : Int} {pv : Value} (W : WkAt w g sp mp bp (.slice fo 0 fc) root stage mb fi pv) (s : ByteArray) :
    Calls Tryz.prog 98 #[.pointer (some ⟨g, 0, none⟩), .string s] w fun e w' => e = .returned (.bool false) ∧ w' = w := by
  obtain ⟨c0, c1, c2, c3, c4, c5, c6, c7, c8, cf⟩ := cellsW W.blk
  clear W
  go_enter Tryz.func98, Tryz.ntmps98
  go_wp2_with fail
  go_loopw [15] (fun i wq => i = .int .i64 0 ∧ wq = w) (fun _ _ => 0)
  case atStart => exact ⟨rfl, rfl⟩
  case round =>
    obtain ⟨rfl, rfl⟩ := hrel
    go_wp2_with fail
    go_ret
    exact ⟨rfl, rfl⟩
set_option maxRecDepth 100000 in
theorem entries0_any {w : World} {g sp mp bp fc : Nat} {fo : Option Addr} {root stage : List UInt8} {mb : Option Nat} {fi : Int} {pv : Value} (W : WkAt w g sp mp bp (.slice fo 0 fc) root stage mb fi pv) :
    Calls Tryz.prog 71 #[.pointer (some ⟨g, 0, none⟩)] w fun e w' => e = .returned (.int .i64 0) ∧ w' = w := by
  obtain ⟨c0, c1, c2, c3, c4, c5, c6, c7, c8, cf⟩ := cellsW W.blk
  clear W
  go_enter Tryz.func71, Tryz.ntmps71
  go_wp2_with fail
  go_loopw [11] (fun i wq => i = .int .i64 0 ∧ wq = w) (fun _ _ => 0)
  case atStart => exact ⟨rfl, rfl⟩
  case round =>
    obtain ⟨rfl, rfl⟩ := hrel
    go_wp2_with fail
    go_ret
    exact ⟨rfl, rfl⟩
set_option maxRecDepth 100000 in
theorem folders0_any {w : World} {g sp mp bp fc : Nat} {fo : Option Addr} {fv : Value} {root stage : List UInt8} {mb : Option Nat} {fi : Int} {pv av pv2 cv sv ev x9 x10 : Value} (W : WkAt w g sp mp bp fv root stage mb fi pv) (B : BkAt w bp mp av pv2 cv (.slice fo 0 fc) sv ev x9 x10) :
    Calls Tryz.prog 72 #[.pointer (some ⟨g, 0, none⟩)] w fun e w' => e = .returned (.int .i64 0) ∧ w' = w := by
  obtain ⟨c0, c1, c2, c3, c4, c5, c6, c7, c8, cf⟩ := cellsW W.blk
  have HF := Lib.hid (folders_none B)
  clear W B
  go_enter Tryz.func72, Tryz.ntmps72
  go_wp2_with (go_at_call 103; refine HF.out.mono ?_; rintro e w8 ⟨rfl, rfl⟩)
  go_loopw [11] (fun i wq => i = .int .i64 0 ∧ wq = w8) (fun _ _ => 0)
  case atStart => exact ⟨rfl, rfl⟩
  case round =>
    obtain ⟨rfl, rfl⟩ := hrel
    go_wp2_with fail
    go_ret
    exact ⟨rfl, rfl⟩
set_option maxRecDepth 100000 in
set_option maxHeartbeats 2000000 in
theorem wpublish_any {w : World} {g sp mp bp lo n nc : Nat} {fv : Value} {root stage : List UInt8} {mb : Option Nat} {fi : Int} {pv : Value} {a o f d s k : Int} {fl : Fl} {K : Tree} (W : WkAt w g sp mp bp fv root stage mb fi pv) (M : MtN w mp a o f d s k) (hs : 0 ≤ s) (hs2 : s ≤ 1000000) (S : SandAt w lo sp n nc fl K) (hK : MayK K) (hG : Gl w) (hgm : g ≠ mp) (hm3 : 3 ≤ mp) (hq : root.length ≤ 100000) (hq2 : stage.length ≤ 100000) (hn : n ≤ 40000) (hnc : nc ≤ 100000) (hl : fl.ok nc stage ⟨root.toArray⟩) :
    Calls Tryz.prog 73 #[.pointer (some ⟨g, 0, none⟩)] w fun e w' => ∃ ks, KeysAre K ks ∧ ks.length ≤ n ∧ e = .returned (.int .i64 (toldC (publishK K stage root ks).1)) ∧ SandAt w' lo sp n (nc + 1) fl (publishK K stage root ks).2 ∧ MtN w' mp a o f d (s + 1) k ∧ ExF lo [mp] w w' := by
  obtain ⟨wA, hwA⟩ : ∃ wA, wA = w.alloc (.cells #[.pointer (some ⟨g, 0, none⟩)] 106) := ⟨_, rfl⟩
  have FA : Fr [] w wA := hwA ▸ (Fr.refl _ _).alloc _
  have h0 : wA.heap[w.heap.size]? = some (.cells #[.pointer (some ⟨g, 0, none⟩)] 106 (0, 0)) := hwA ▸ heap_alloc_new w _
  have l0 : w.heap.size < wA.heap.size := (Array.getElem?_eq_some_iff.1 h0).1
  have hml := M.lt
  have WA := W.fr FA (by simp)
  have MA := M.fr FA (by simp)
  have SA := S.fr0 FA
  have HC := Lib.hid (wcall_any WA MA hs hs2 107 #[.pointer (some ⟨w.heap.size, 0, none⟩)] (enters_of Tryz.func107 (by kernel_rfl) rfl)
    (fun c w2 => ∃ ks, KeysAre K ks ∧ ks.length ≤ n ∧ c = (publishK K stage root ks).1 ∧ SandAt w2 lo sp n (nc + 1) fl (publishK K stage root ks).2 ∧ MtN w2 mp a o f d (s + 1) k ∧ ExF lo [mp] w w2)
    (fun wx F MX => by
      refine (publish1_any (WA.fr F (by simpa using hgm)) (SA.mt MA F) hK (ExF.gl (hG.fr FA) (ExF.mt (lo := 3) F) (by decide) (by simpa using hm3)) hq hq2 hn hnc hl w.heap.size
        ((F.block w.heap.size l0 (by simp; omega)).trans h0)).mono ?_
      rintro e w2 ⟨ks, q1, q2, rfl, S1, w0, Q, L1⟩
      exact ⟨_, rfl, ks, q1, q2, rfl, S1, (MX.same Q).lo L1, (((ExF.of0 FA).trans (ExF.mt F)).trans (ExF.of0 Q.fr)).trans (ExF.lo L1)⟩))
  clear W M S hG hK h0 WA MA SA
  go_enter Tryz.func73, Tryz.ntmps73
  go_wp2_with (go_at_call 99; rw [← hwA]; refine HC.out.mono ?_; rintro e w1 ⟨c, rfl, ks, q1, q2, rfl, S1, M1, X1⟩)
  go_ret
  exact ⟨ks, q1, q2, rfl, S1, M1, X1⟩

/-- The name that is tried in the i-th round. -/
theorem stg_cat {i : Nat} (h0 : 0 < i) (hi : i < 10) : (⟨[46, 103, 97, 114, 98, 108, 101, 114].toArray⟩ : ByteArray) ++ ((⟨[45].toArray⟩ : ByteArray) ++ ⟨(Lib.decDigits i).toArray⟩) = ⟨(stg i).toArray⟩ := by
  have e : (⟨[46, 103, 97, 114, 98, 108, 101, 114].toArray⟩ : ByteArray) ++ ((⟨[45].toArray⟩ : ByteArray) ++ ⟨(Lib.decDigits i).toArray⟩) = ⟨([46, 103, 97, 114, 98, 108, 101, 114] ++ ([45] ++ Lib.decDigits i)).toArray⟩ := by rw [cat_ba [45], cat_ba]
  rw [e]
  match i, h0, hi with
  | 1, _, _ => exact congrArg (fun l : List UInt8 => (⟨l.toArray⟩ : ByteArray)) (show [46, 103, 97, 114, 98, 108, 101, 114] ++ ([45] ++ Lib.decDigits 1) = stg 1 by rw [Lib.decDigits]; rfl)
  | 2, _, _ => exact congrArg (fun l : List UInt8 => (⟨l.toArray⟩ : ByteArray)) (show [46, 103, 97, 114, 98, 108, 101, 114] ++ ([45] ++ Lib.decDigits 2) = stg 2 by rw [Lib.decDigits]; rfl)
  | 3, _, _ => exact congrArg (fun l : List UInt8 => (⟨l.toArray⟩ : ByteArray)) (show [46, 103, 97, 114, 98, 108, 101, 114] ++ ([45] ++ Lib.decDigits 3) = stg 3 by rw [Lib.decDigits]; rfl)
  | 4, _, _ => exact congrArg (fun l : List UInt8 => (⟨l.toArray⟩ : ByteArray)) (show [46, 103, 97, 114, 98, 108, 101, 114] ++ ([45] ++ Lib.decDigits 4) = stg 4 by rw [Lib.decDigits]; rfl)
  | 5, _, _ => exact congrArg (fun l : List UInt8 => (⟨l.toArray⟩ : ByteArray)) (show [46, 103, 97, 114, 98, 108, 101, 114] ++ ([45] ++ Lib.decDigits 5) = stg 5 by rw [Lib.decDigits]; rfl)
  | 6, _, _ => exact congrArg (fun l : List UInt8 => (⟨l.toArray⟩ : ByteArray)) (show [46, 103, 97, 114, 98, 108, 101, 114] ++ ([45] ++ Lib.decDigits 6) = stg 6 by rw [Lib.decDigits]; rfl)
  | 7, _, _ => exact congrArg (fun l : List UInt8 => (⟨l.toArray⟩ : ByteArray)) (show [46, 103, 97, 114, 98, 108, 101, 114] ++ ([45] ++ Lib.decDigits 7) = stg 7 by rw [Lib.decDigits]; rfl)
  | 8, _, _ => exact congrArg (fun l : List UInt8 => (⟨l.toArray⟩ : ByteArray)) (show [46, 103, 97, 114, 98, 108, 101, 114] ++ ([45] ++ Lib.decDigits 8) = stg 8 by rw [Lib.decDigits]; rfl)
  | 9, _, _ => exact congrArg (fun l : List UInt8 => (⟨l.toArray⟩ : ByteArray)) (show [46, 103, 97, 114, 98, 108, 101, 114] ++ ([45] ++ Lib.decDigits 9) = stg 9 by rw [Lib.decDigits]; rfl)
set_option maxRecDepth 100000 in
set_option maxHeartbeats 4000000 in
theorem mk1_any {w : World} {g sp mp bp lo n nc : Nat} {fv : Value} {root stage : List UInt8} {mb : Option Nat} {fi : Int} {pv : Value} {fl : Fl} {K : Tree} (W : WkAt w g sp mp bp fv root stage mb fi pv) (S : SandAt w lo sp n nc fl K) (hG : Gl w) (q : List UInt8) (hq : q.length ≤ 100000) (hn : n ≤ 100000) (hnc : nc ≤ 100000) (hl : fl.ok nc q ⟨#[]⟩) (B0 B1 : Nat)
    (h0 : w.heap[B0]? = some (.cells #[.pointer (some ⟨g, 0, none⟩)] 106 (0, 0))) (h1 : w.heap[B1]? = some (.cells #[.string ⟨q.toArray⟩] 9 (0, 0))) :
    Calls Tryz.prog 100 #[.pointer (some ⟨B0, 0, none⟩), .pointer (some ⟨B1, 0, none⟩)] w (MkR w lo sp n nc fl K q 1) := by
  obtain ⟨c0, -⟩ := cellsW W.blk
  have m0 : w.cell? ⟨B0, 0, none⟩ = some (.pointer (some ⟨g, 0, none⟩)) := by rw [Go.Joins.cell_of_block h0]; rfl
  have m1 : w.cell? ⟨B1, 0, none⟩ = some (.string ⟨q.toArray⟩) := by rw [Go.Joins.cell_of_block h1]; rfl
  have HK := Lib.hid (fun (w1 : World) (L : Lo lo w w1) => (show w1.cell? ⟨B0, 0, none⟩ = some (.pointer (some ⟨g, 0, none⟩)) ∧ w1.cell? ⟨g, 0, none⟩ = some (.pointer (some ⟨sp, 0, none⟩)) ∧ w1.cell? ⟨B1, 0, none⟩ = some (.string ⟨q.toArray⟩) from ⟨by rw [Go.Joins.cell_of_block (L.keep h0 (by decide) (by decide))]; rfl, by rw [Go.Joins.cell_of_block (L.keep W.blk (by decide) (by decide))]; rfl, by rw [Go.Joins.cell_of_block (L.keep h1 (by decide) (by decide))]; rfl⟩))
  have HM := Lib.hid (fun (wx : World) (Q : Same w wx) => mkdir_any (S.fr0 Q.fr) (hG.fr Q.fr) q hq hn hnc hl)
  clear W S hG h0 h1
  go_enter Tryz.func100, Tryz.ntmps100
  go_wp2_with fail
  go_region_held3 (fun w' => w'.cell? ⟨B0, 0, none⟩ = some (.pointer (some ⟨g, 0, none⟩)) ∧ w'.cell? ⟨g, 0, none⟩ = some (.pointer (some ⟨sp, 0, none⟩)) ∧ w'.cell? ⟨B1, 0, none⟩ = some (.string ⟨q.toArray⟩)) (first | exact ⟨m0, c0, m1⟩ | exact HK.out _ L1) (first | (go_at_call 101; refine (HM.out _ Same.drew).mono ?_; rintro e w1 ⟨n', rfl, S1, hn', L0⟩; have L1 := (Lo.of0 (lo := lo) (Same.drew (w := w)).fr).trans L0))
  go_wp2_with fail
  go_ret
  exact ⟨n', rfl, S1, hn', L1⟩
/-- What the rounds of enter keep. -/
structure EnR (w : World) (g sp mp bp lo n : Nat) (fv : Value) (root : List UInt8) (mb : Option Nat) (fi : Int) (pv : Value) (a o f d k : Int) (fl : Fl) (K : Tree) (nc : Nat) (s : Int) (i : Nat) (wr : World) : Prop where
  wk : WkAt wr g sp mp bp fv root [] mb fi pv
  mt : MtN wr mp a o f d (s + (i : Int)) k
  sd : SandAt wr lo sp n (nc + i) fl K
  gl : Gl wr
  ex : ExF lo [mp] w wr
  box : wr.heap[w.heap.size]? = some (.cells #[.pointer (some ⟨g, 0, none⟩)] 106 (0, 0))
theorem kind_ne {K : Tree} (hK : MayK K) {p : List UInt8} {t : Tv} (h : K p = some t) : (kindK K p != 0) = true := by
  have h2 := (hK p t h).2.1
  have e : kindK K p = t.kind := by unfold kindK; rw [h]; rfl
  rw [e]
  unfold tvMay at h2
  simp only [Bool.or_eq_true, Bool.and_eq_true, decide_eq_true_eq] at h2
  simp only [bne_iff_ne, ne_eq]
  intro h0
  rcases h2 with (h2 | h2) | h2
  · have := h2.1.1; omega
  · have := h2.1; omega
  · have := h2.1; omega
theorem EnR.next {w : World} {g sp mp bp lo n : Nat} {fv : Value} {root : List UInt8} {mb : Option Nat} {fi : Int} {pv : Value} {a o f d k : Int} {fl : Fl} {K : Tree} {nc : Nat} {s : Int} {i : Nat} {wr wp w3 : World} (E : EnR w g sp mp bp lo n fv root mb fi pv a o f d k fl K nc s i wr) (FP : Fr [] wr wp) (S3 : SandAt w3 lo sp n (nc + i + 1) fl K) (M3 : MtN w3 mp a o f d (s + (i : Int) + 1) k) (X3 : ExF lo [mp] wp w3) (hgm : g ≠ mp) (hm3 : 3 ≤ mp) (hlo : 3 ≤ lo) (hml : mp < w.heap.size) :
    EnR w g sp mp bp lo n fv root mb fi pv a o f d k fl K nc s (i + 1) w3 :=
  ⟨(E.wk.fr FP (by simp)).ex X3 (by simpa using hgm), by rw [show s + ((i + 1 : Nat) : Int) = s + (i : Int) + 1 by omega]; exact M3, S3, ExF.gl (E.gl.fr FP) X3 hlo (by simpa using hm3), (E.ex.trans (ExF.of0 FP)).trans X3,
   X3.keep ((FP.block _ (Array.getElem?_eq_some_iff.1 E.box).1 (by simp)).trans E.box) (by simp; omega) (by decide) (by decide)⟩
/-- The call that makes the stage. -/
theorem mkcall_any {w : World} {g sp mp bp lo n : Nat} {fv : Value} {root : List UInt8} {mb : Option Nat} {fi : Int} {pv : Value} {a o f d k : Int} {fl : Fl} {K K2 : Tree} {nc : Nat} {s : Int} {i : Nat} {w3 : World} (E : EnR w g sp mp bp lo n fv root mb fi pv a o f d k fl K nc s i w3) (q : List UInt8) (hq : q.length ≤ 100000) (B1 : Nat) (PB : w3.heap[B1]? = some (.cells #[.string ⟨q.toArray⟩] 9 (0, 0))) (hmk : mkK K q 1 = (0, K2))
    (hgm : g ≠ mp) (hm3 : 3 ≤ mp) (hml : mp < w.heap.size) (hB : w.heap.size ≤ B1) (hs : 0 ≤ s) (hs2 : s + (i : Int) ≤ 1000000) (hn : n ≤ 90000) (hnc : nc + i ≤ 100000) (hl : fl.ok (nc + i) q ⟨#[]⟩) :
    Calls Tryz.prog 99 #[.pointer (some ⟨g, 0, none⟩), .func (.func 100) #[] #[.pointer (some ⟨w.heap.size, 0, none⟩), .pointer (some ⟨B1, 0, none⟩)]] w3 fun e w4 =>
      e = .returned (.int .i64 0) ∧ ∃ n', n' ≤ n + 1 ∧ SandAt w4 lo sp n' (nc + i + 1) fl K2 ∧ MtN w4 mp a o f d (s + (i : Int) + 1) k ∧ ExF lo [mp] w3 w4 := by
  refine (wcall_any E.wk E.mt (by omega) hs2 100 #[.pointer (some ⟨w.heap.size, 0, none⟩), .pointer (some ⟨B1, 0, none⟩)] (enters_of Tryz.func100 (by kernel_rfl) rfl)
    (fun c w4 => c = 0 ∧ ∃ n', n' ≤ n + 1 ∧ SandAt w4 lo sp n' (nc + i + 1) fl K2 ∧ MtN w4 mp a o f d (s + (i : Int) + 1) k ∧ ExF lo [mp] w3 w4)
    (fun wx F MX => by
      have hb1 : B1 ∉ [mp] := by simp; omega
      have hb0 : w.heap.size ∉ [mp] := by simp; omega
      refine (mk1_any (E.wk.fr F (by simpa using hgm)) (E.sd.mt E.mt F) (ExF.gl E.gl (ExF.mt (lo := 3) F) (by decide) (by simpa using hm3)) q hq (by omega) (by omega) hl w.heap.size B1
        ((F.block _ (Array.getElem?_eq_some_iff.1 E.box).1 hb0).trans E.box) ((F.block _ (Array.getElem?_eq_some_iff.1 PB).1 hb1).trans PB)).mono ?_
      rintro e w4 ⟨n', rfl, S4, hn', L4⟩
      rw [hmk] at S4 ⊢
      exact ⟨_, rfl, rfl, n', hn', S4, MX.lo L4, (ExF.mt F).trans (ExF.lo L4)⟩)).mono ?_
  rintro e w4 ⟨c, rfl, rfl, h⟩
  exact ⟨rfl, h⟩
set_option maxRecDepth 100000 in
set_option maxHeartbeats 4000000 in
theorem enter0_any {w : World} {g sp mp bp fc lo n nc : Nat} {fo : Option Addr} {root : List UInt8} {mb : Option Nat} {fi : Int} {pv : Value} {a o f d s k : Int} {fl : Fl} {K : Tree} (W : WkAt w g sp mp bp (.slice fo 0 fc) root [] mb fi pv) (M : MtN w mp a o f d s k) (hs : 0 ≤ s) (hs2 : s ≤ 900000) (S : SandAt w lo sp n nc fl K) (hG : Gl w) (hgm : g ≠ mp) (hm3 : 3 ≤ mp) (hlo : 3 ≤ lo)
    (hK : MayK K) (hr : kindK K root = 1) (hrl : root.length ≤ 1000) (hcl : ∀ i, i < 10 → cleanL foldL (stP root i) = true) (hex : ∃ i, i < 10 ∧ K (stP root i) = none) (hn : n ≤ 90000) (hnc : nc ≤ 90000) (hl : ∀ i, i < 10 → (∀ j, j < i → K (stP root j) ≠ none) → fl.ok (nc + i) (stP root i) ⟨#[]⟩ ∧ fl.ok (nc + (i + 1)) (stP root i) ⟨#[]⟩) :
    Calls Tryz.prog 70 #[.pointer (some ⟨g, 0, none⟩)] w fun e w' => e = .returned (.int .i64 0) ∧ ∃ i n' s', i < 10 ∧ (∀ j, j < i → K (stP root j) ≠ none) ∧ K (stP root i) = none ∧ SandAt w' lo sp n' (nc + i + 2) fl (updK K (stP root i) ⟨1, [], []⟩) ∧ n' ≤ n + 1 ∧ MtN w' mp a o f d s' k ∧ 0 ≤ s' ∧ s' ≤ s + 20 ∧ WkAt w' g sp mp bp (.slice fo 0 fc) root (stP root i) mb fi pv ∧ ExF lo [mp, g] w w' := by
  obtain ⟨wA, hwA⟩ : ∃ wA, wA = w.alloc (.cells #[.pointer (some ⟨g, 0, none⟩)] 106) := ⟨_, rfl⟩
  have FA : Fr [] w wA := hwA ▸ (Fr.refl _ _).alloc _
  have h0 : wA.heap[w.heap.size]? = some (.cells #[.pointer (some ⟨g, 0, none⟩)] 106 (0, 0)) := hwA ▸ heap_alloc_new w _
  have E0 : EnR w g sp mp bp lo n (.slice fo 0 fc) root mb fi pv a o f d k fl K nc s 0 wA := ⟨W.fr FA (by simp), by have := M.fr FA (by simp); simpa using this, S.fr0 FA, hG.fr FA, ExF.of0 FA, h0⟩
  have hml := M.lt
  have hgl := W.lt
  have HK := Lib.hid hK
  have HEX := Lib.hid hex
  have HCL := Lib.hid hcl
  have HL := Lib.hid hl
  have HI := Lib.hid (fun (i : Nat) (hi : i < 100) (wx : World) => Tryz.strconv_Itoa_small i hi wx)
  clear W M S hG hK hex hcl hl h0 FA
  go_enter Tryz.func70, Tryz.ntmps70
  go_wp2_with fail
  obtain ⟨wB, hwB⟩ : ∃ wB, wB = wA := ⟨_, rfl⟩
  go_loopw [8] (fun iv wr => ∃ i : Nat, iv = .int .i64 (i : Int) ∧ i ≤ 10 ∧ (∀ j, j < i → K (stP root j) ≠ none) ∧ EnR w g sp mp bp lo n (.slice fo 0 fc) root mb fi pv a o f d k fl K nc s i wr) (fun iv _ => 10 - (intOf iv).toNat)
  case atStart => exact ⟨0, rfl, by omega, fun j hj => by omega, by rw [← hwA]; exact E0⟩
  case round =>
    obtain ⟨i, rfl, hi, hj, E⟩ := hrel
    have hi10 : i < 10 := by
      apply Classical.byContradiction
      intro hn10
      obtain ⟨j, hj10, hjn⟩ := HEX.out
      exact hj j (by omega) hjn
    have hiI : (i : Int) < 10 := by omega
    have HJ := Lib.hid hj
    have HE := Lib.hid E
    have hcp := HCL.out i hi10
    have HP : ((⟨root.toArray⟩ : ByteArray) ++ ⟨#[47]⟩) ++ ⟨(stg i).toArray⟩ = ⟨(stP root i).toArray⟩ := by
      rw [show (⟨#[47]⟩ : ByteArray) = ⟨[(47 : UInt8)].toArray⟩ from rfl, cat_ba root [47], cat_ba (root ++ [47]) (stg i)]
      unfold stP
      rw [List.append_assoc]
      rfl
    have z1 : (⟨root.toArray⟩ : ByteArray).size = root.length := by simp [ByteArray.size]
    have z2 : (⟨(stg i).toArray⟩ : ByteArray).size = (stg i).length := by simp [ByteArray.size]
    have hsl := (stg_fine i hi10).2.2.2.1
    have HSt0 := Lib.hid (fun (h : i = 0) => (show (⟨#[46, 103, 97, 114, 98, 108, 101, 114]⟩ : ByteArray) = ⟨(stg i).toArray⟩ by rw [h]; rfl))
    have HSt1 := Lib.hid (fun (h : 0 < i) => stg_cat h hi10)
    have HTk := Lib.hid (taken_none E.wk)
    obtain ⟨c0, c1, c2, c3, c4, c5, c6, c7, c8, cf⟩ := cellsW E.wk.blk
    have b0 : wr.cell? ⟨w.heap.size, 0, none⟩ = some (.pointer (some ⟨g, 0, none⟩)) := by rw [Go.Joins.cell_of_block E.box]; rfl
    have hws : w.heap.size < wr.heap.size := (Array.getElem?_eq_some_iff.1 E.box).1
    have q1 : ¬ w.heap.size = wr.heap.size := by omega
    have q2 : ¬ wr.heap.size = w.heap.size := by omega
    have HD : Lib.decDigits i = [UInt8.ofNat (48 + i)] := by rw [Lib.decDigits, dif_pos hi10]
    have s1 : ¬ 9223372036854775807 < (⟨#[45]⟩ : ByteArray).size + (⟨(Lib.decDigits i).toArray⟩ : ByteArray).size := by rw [HD]; simp [ByteArray.size]
    have s2 : ¬ 9223372036854775807 < (⟨#[46, 103, 97, 114, 98, 108, 101, 114]⟩ : ByteArray).size + ((⟨#[45]⟩ : ByteArray) ++ ⟨(Lib.decDigits i).toArray⟩).size := by rw [HD]; simp [ByteArray.size]
    have s3 : ¬ 9223372036854775807 < (⟨root.toArray⟩ : ByteArray).size + (⟨#[47]⟩ : ByteArray).size := by rw [z1]; have : (⟨#[47]⟩ : ByteArray).size = 1 := rfl; omega
    have s4 : ¬ 9223372036854775807 < ((⟨root.toArray⟩ : ByteArray) ++ ⟨#[47]⟩).size + (⟨(stg i).toArray⟩ : ByteArray).size := by rw [ByteArray.size_append, z1, z2]; have : (⟨#[47]⟩ : ByteArray).size = 1 := rfl; omega
    have hlk : lookK K (stP root i) = (kindK K (stP root i), 0) := by unfold lookK; rw [if_pos hcp]
    have hpl : (stP root i).length ≤ 100000 := by unfold stP; rw [List.length_append, List.length_cons]; omega
    have FP : Fr [] wr (wr.alloc (.cells #[.string ⟨(stP root i).toArray⟩] 9)) := (Fr.refl _ _).alloc _
    have HLk := Lib.hid (wlook_any (E.wk.fr FP (by simp)) (E.mt.fr FP (by simp)) (by omega) (by omega) (E.sd.fr0 FP) (E.gl.fr FP) hgm hm3 (stP root i) hpl (by omega) (HL.out i hi10 hj).1)
    rw [hlk] at HLk
    have HB := Lib.hid (heap_alloc_new wr (.cells #[.string ⟨(stP root i).toArray⟩] 9))
    clear hj E HD
    by_cases hz : i = 0
    · have e0 := HSt0.out hz
      subst hz
      cases hkn : K (stP root 0) with
      | some tv =>
        have hkd : (kindK K (stP root 0) != 0) = true := kind_ne HK.out hkn
        go_wp2_with (first
          | (go_at_call 96; refine HLk.out.mono ?_; rintro e w3 ⟨rfl, S3, M3, X3⟩)
          | (go_at_call 98; refine (HTk.out _).mono ?_; rintro e w2 ⟨rfl, rfl⟩))
        exact ⟨⟨0 + 1, by rfl, by omega, fun j hj => by
          obtain rfl : j = 0 := by omega
          rw [hkn]; simp, HE.out.next FP S3 M3 X3 hgm hm3 hlo hml⟩, by simp [intOf]⟩
      | none =>
        have hmk := stage_mk hi10 hr hcp hkn
        have hkd0 : kindK K (stP root 0) = 0 := by unfold kindK; rw [hkn]; rfl
        rw [hkd0] at HLk
        rw [show toldC ((0 : Int), (0 : Int)).2 = 0 from rfl] at HLk
        have HMk := Lib.hid hmk
        clear hmk
        go_wp2_with (first
          | (have hq := E3; go_at_call 99; refine (mkcall_any E3 (stP root 0) hpl _ PB3 HMk.out hgm hm3 hml (by omega) hs (by omega) hn (by omega) (HL.out 0 hi10 HJ.out).2).mono ?_; rintro e w4 ⟨rfl, n', hn', S4, M4, X4⟩; have W4 := E3.wk.ex X4 (by simpa using hgm); have b4 := X4.keep E3.box (by simp; omega) (by decide) (by decide); have p4 := X4.keep PB3 (by simp; omega) (by decide) (by decide); have d4 : w4.cell? ⟨w.heap.size, 0, none⟩ = some (.pointer (some ⟨g, 0, none⟩)) := (by rw [Go.Joins.cell_of_block b4]; rfl); have f4 := Go.Joins.cell_of_block p4 (i := 0); simp only [List.getElem?_toArray, List.getElem?_cons_zero] at f4; obtain ⟨k0, k1, k2, k3, k4, k5, k6, k7, k8, kf⟩ := cellsW W4.blk)
          | (go_at_call 96; refine HLk.out.mono ?_; rintro e w3 ⟨rfl, S3, M3, X3⟩; have E3 := HE.out.next FP S3 M3 X3 hgm hm3 hlo hml; have PB3 := X3.keep HB.out (by simp; omega) (by decide) (by decide); have d3 : w3.cell? ⟨w.heap.size, 0, none⟩ = some (.pointer (some ⟨g, 0, none⟩)) := (by rw [Go.Joins.cell_of_block E3.box]; rfl))
          | (go_at_call 98; refine (HTk.out _).mono ?_; rintro e w2 ⟨rfl, rfl⟩))
        go_ret
        have FS : Fr [g] w4 (w4.setCell ⟨g, 5, none⟩ (.string ⟨(stP root 0).toArray⟩)) := (Fr.refl _ _).setCell (by simp) _
        exact ⟨rfl, 0, n', _, by omega, HJ.out, hkn, S4.box W4.blk (by decide) (by decide) (by decide) (by decide) FS, hn', M4.fr FS (by simpa using fun e => hgm e.symm), by omega, by omega, ⟨Go.Joins.block_setCell (i := 5) W4.blk _⟩, ((E3.ex.mono (by simp)).trans (X4.mono (by simp))).trans ((ExF.mt FS).mono (by simp))⟩
    · have e1 := HSt1.out (by omega)
      have hzI : (0 : Int) < (i : Int) := by omega
      cases hkn : K (stP root i) with
      | some tv =>
        have hkd : (kindK K (stP root i) != 0) = true := kind_ne HK.out hkn
        go_wp2_with (first
          | (go_at_call 96; refine HLk.out.mono ?_; rintro e w3 ⟨rfl, S3, M3, X3⟩)
          | (go_at_call 98; refine (HTk.out _).mono ?_; rintro e w2 ⟨rfl, rfl⟩)
          | (go_at_call 97; refine (HI.out i (by omega) _).mono ?_; rintro e w2 ⟨rfl, rfl⟩))
        go_roundw
        case rel =>
          refine ⟨i + 1, by go_num, by omega, fun j hj => ?_, HE.out.next FP S3 M3 X3 hgm hm3 hlo hml⟩
          by_cases hji : j = i
          · rw [hji, hkn]; simp
          · exact HJ.out j (by omega)
        case measure => simp [intOf]; omega
      | none =>
        have hmk := stage_mk hi10 hr hcp hkn
        have hkd0 : kindK K (stP root i) = 0 := by unfold kindK; rw [hkn]; rfl
        rw [hkd0] at HLk
        rw [show toldC ((0 : Int), (0 : Int)).2 = 0 from rfl] at HLk
        have HMk := Lib.hid hmk
        clear hmk
        go_wp2_with (first
          | (have hq := E3; go_at_call 99; refine (mkcall_any E3 (stP root i) hpl _ PB3 HMk.out hgm hm3 hml (by omega) hs (by omega) hn (by omega) (HL.out i hi10 HJ.out).2).mono ?_; rintro e w4 ⟨rfl, n', hn', S4, M4, X4⟩; have W4 := E3.wk.ex X4 (by simpa using hgm); have b4 := X4.keep E3.box (by simp; omega) (by decide) (by decide); have p4 := X4.keep PB3 (by simp; omega) (by decide) (by decide); have d4 : w4.cell? ⟨w.heap.size, 0, none⟩ = some (.pointer (some ⟨g, 0, none⟩)) := (by rw [Go.Joins.cell_of_block b4]; rfl); have f4 := Go.Joins.cell_of_block p4 (i := 0); simp only [List.getElem?_toArray, List.getElem?_cons_zero] at f4; obtain ⟨k0, k1, k2, k3, k4, k5, k6, k7, k8, kf⟩ := cellsW W4.blk)
          | (go_at_call 96; refine HLk.out.mono ?_; rintro e w3 ⟨rfl, S3, M3, X3⟩; have E3 := HE.out.next FP S3 M3 X3 hgm hm3 hlo hml; have PB3 := X3.keep HB.out (by simp; omega) (by decide) (by decide); have d3 : w3.cell? ⟨w.heap.size, 0, none⟩ = some (.pointer (some ⟨g, 0, none⟩)) := (by rw [Go.Joins.cell_of_block E3.box]; rfl))
          | (go_at_call 98; refine (HTk.out _).mono ?_; rintro e w2 ⟨rfl, rfl⟩)
          | (go_at_call 97; refine (HI.out i (by omega) _).mono ?_; rintro e w2 ⟨rfl, rfl⟩))
        go_ret
        have FS : Fr [g] w4 (w4.setCell ⟨g, 5, none⟩ (.string ⟨(stP root i).toArray⟩)) := (Fr.refl _ _).setCell (by simp) _
        exact ⟨rfl, i, n', _, by omega, HJ.out, hkn, by rw [show nc + i + 2 = nc + (i + 1) + 1 by omega]; exact S4.box W4.blk (by decide) (by decide) (by decide) (by decide) FS, hn', M4.fr FS (by simpa using fun e => hgm e.symm), by omega, by omega, ⟨Go.Joins.block_setCell (i := 5) W4.blk _⟩, ((E3.ex.mono (by simp)).trans (X4.mono (by simp))).trans ((ExF.mt FS).mono (by simp))⟩
end Go.Proofs.YthbkcjlpelihlaaGreatDoor
