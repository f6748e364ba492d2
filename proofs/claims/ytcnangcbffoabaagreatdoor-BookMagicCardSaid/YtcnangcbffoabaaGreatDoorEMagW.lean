/- Law 24's awake, and its statement BookMagic: the walk. No condition. -/
import Derived.Test.YtcnangcbffoabaaGreatDoorEBookG
import Derived.Test.YtcnangcbffoabaaGreatDoorEMagP
import Derived.Test.YtcnangcbffoabaaGreatDoorWSeal
import Derived.Lib.SlBytesConst
namespace Go.Proofs.YtcnangcbffoabaaGreatDoor
open Go.RowKit

set_option maxRecDepth 100000 in
theorem much_any (w : World) : Calls Tryz.prog 6 #[] w fun e w' => ∃ p, e = .returned (.pointer (some ⟨p, 0, none⟩)) ∧ w.heap.size ≤ p ∧ MtN w' p 0 0 0 0 0 0 ∧ Fr [] w w' := by
  go_enter Tryz.func6, Tryz.ntmps6
  go_wp2_with (go_at_call 15; refine (mnew_any _).mono ?_; rintro e w1 ⟨rfl, M1, F1⟩)
  go_ret
  exact ⟨_, rfl, by omega, M1, F1⟩
theorem folders_none {w : World} {g mp fc : Nat} {fao : Option Addr} {av pv cv sv ev x9 x10 : Value} (h : BkAt w g mp av pv cv (.slice fao 0 fc) sv ev x9 x10) :
    Calls Tryz.prog 18 #[.pointer (some ⟨g, 0, none⟩)] w fun e w' => e = .returned (.int .i64 0) ∧ w' = w := by
  obtain ⟨c0, c1, c2, c3, c4, c5, c6, c7, c8, c9, c10, cf⟩ := cells11 h.blk
  clear h
  go_enter Tryz.func18, Tryz.ntmps18
  go_wp2_with fail
  go_ret
  exact ⟨rfl, rfl⟩
theorem info_en : (Tryz.prog.info? 59).map (fun i => (i.zero, i.size, i.bytes)) = some (some (.agg #[.string .empty, .bool false, .slice none 0 0]), 3, 48) := by kernel_rfl
set_option maxRecDepth 100000 in
/-- The deferred closure of Entries: no memory was taken. -/
theorem frees_none {w : World} {p : Nat} {a o f d s k : Int} (M : MtN w p a o f d s k) (ha : 0 ≤ a) (ha2 : a ≤ 1099511627776) (c b : Addr) (u : FrameMode) (h0 : w.cell? c = some (.pointer (some ⟨p, 0, none⟩))) (h1 : w.cell? b = some (.int .i64 0)) :
    CallsD Tryz.prog 16 #[.pointer (some c), .pointer (some b)] u w fun e u' w' => u' = u ∧ (e = .returned (.tuple #[]) ∧ Fr [p] w w') := by
  have HF := Lib.hid (free_m M 0 (by omega) ha ha2)
  clear M
  go_enter_d Tryz.func16, Tryz.ntmps16
  go_wp2_with (go_at_call 17; refine HF.out.mono ?_; rintro e w1 ⟨rfl, M1, F1⟩)
  go_end0
  exact ⟨rfl, F1⟩
set_option maxRecDepth 100000 in
set_option maxHeartbeats 2000000 in
theorem entries_none {w : World} {p : Nat} {R : World → Nat → Value → Prop} {a o f d s k : Int} (M : MtN w p a o f d s k) (ha : 0 ≤ a) (ha2 : a ≤ 1099511627776) (hs : 0 ≤ s) (hs2 : s ≤ 800000) (v : Value) (b : List UInt8) (h : Sl w v (bv b)) (hb : b.length ≤ 40000) (hc : opCode b = 0) {head : List UInt8} (hh : opHead b = head) (hP : FilesP head 0 R)
    (hRF : ∀ (wa wb : World) (lo : Nat) (v : Value) (S : List Nat), R wa lo v → Fr S wa wb → (∀ i ∈ S, i < lo) → R wb lo v) :
    Calls Tryz.prog 7 #[v, .pointer (some ⟨p, 0, none⟩)] w fun e w' => (∃ ao c, e = .returned (.tuple #[.slice ao 0 c, .int .i64 0])) ∧ Fr [p] w w' := by
  have HO := Lib.hid (fun (wx : World) (F : Fr [] w wx) => open_none (M.fr F (by simp)) hs (by omega) v b (h.fr0 F) hb hc hh hP hRF)
  obtain ⟨ao, cap, rfl, -⟩ := h.out
  have hpl := M.lt
  clear h M hb hc hh hP
  go_enter_defers Tryz.func7, Tryz.ntmps7
  obtain ⟨wA, hwA⟩ : ∃ wA, wA = w.alloc (.cells #[.pointer (some ⟨p, 0, none⟩)] 28) := ⟨_, rfl⟩
  have FA : Fr [] w wA := hwA ▸ (Fr.refl _ _).alloc _
  have m0 : wA.cell? ⟨w.heap.size, 0, none⟩ = some (.pointer (some ⟨p, 0, none⟩)) := by rw [hwA]; simp
  have lA : w.heap.size < wA.heap.size := by rw [hwA]; simp
  obtain ⟨i0, hi0, hz0, hs0, hb0⟩ := info_parts info_en
  have hb0' : i0.bytes * 0 ≤ 281474976710656 := by omega
  go_wp2_with (first
    | (at_make; refine wpList_make_full _ rfl _ _ _ rfl w1.heap.size _ i0 _ _ Tryz.underlying31 hi0 hz0 hs0 _ _ _ _ 0 (by rfl) (by rfl) rfl rfl hb0' (Nat.zero_le _) (Nat.le_refl _) ?_; intro w6 own6 g6; have F6 := (Fr.refl [] w1).grown g6 (by simp); have M6 := M1.fr F6 (by simp); have B6 := B1.fr F6 (by simp); obtain ⟨d0, d1, d2, d3, d4, d5, d6, d7, d8, d9, d10, df⟩ := cells11 B6.blk; have l6 := B6.lt; have q1 : ¬ g = w6.heap.size := (by omega); have q2 : ¬ w6.heap.size = g := (by omega))
    | (go_at_call 5; rw [← hwA]; refine (HO.out _ FA).mono ?_; rintro e w1 ⟨g, av, pao, pc, cao, cc, fao, fc, sao, sc, eao, ec, lo, rfl, B1, M1, R1, hg1, hm1, hgA, F1⟩; obtain ⟨c0, c1, c2, c3, c4, c5, c6, c7, c8, c9, c10, cf⟩ := cells11 B1.blk))
  obtain ⟨w7, hw7⟩ : ∃ w7, w7 = w6.alloc (.cells #[.slice (some ⟨w1.heap.size, 0, none⟩) 0 0] 31) := ⟨_, rfl⟩
  rw [← hw7]
  have F7 : Fr [] w6 w7 := hw7 ▸ (Fr.refl _ _).alloc _
  have M7 := M6.fr F7 (by simp)
  have B7 := B6.fr F7 (by simp)
  have n0 : w7.cell? ⟨w6.heap.size, 0, none⟩ = some (.slice (some ⟨w1.heap.size, 0, none⟩) 0 0) := by rw [hw7]; simp
  have FT : Fr [p] w w7 := (((FA.mono (by simp)).trans F1 (by simp)).trans0 F6).trans0 F7
  have n1 : w7.cell? ⟨w.heap.size, 0, none⟩ = some (.pointer (some ⟨p, 0, none⟩)) := ((F7.cell (p := ⟨w.heap.size, 0, none⟩) (by show w.heap.size < _; have := F6.size; have := F1.size; omega) (by simp)).trans (F6.cell (p := ⟨w.heap.size, 0, none⟩) (by show w.heap.size < _; have := F1.size; omega) (by simp))).trans ((F1.cell (p := ⟨w.heap.size, 0, none⟩) lA (by simp; omega)).trans m0)
  have l7 : w6.heap.size < w7.heap.size := by rw [hw7]; simp
  have l8 : w.heap.size < w7.heap.size := by have := FT.size; have := F1.size; have := F6.size; omega
  clear hw7 c0 c1 c2 c3 c4 c5 c6 c7 c8 c9 c10 cf d0 d1 d2 d3 d4 d5 d6 d7 d8 d9 d10 df
  go_loopw [36] (fun i wq => i = .int .i64 0 ∧ wq = w7) (fun _ _ => 0)
  case atStart => exact ⟨rfl, rfl⟩
  case round =>
    obtain ⟨rfl, hwq⟩ := hrel
    subst hwq
    obtain ⟨z, hz⟩ : ∃ z, wr.heap.size = z := ⟨_, rfl⟩
    have HF := Lib.hid (fun (wx : World) (F : Fr [] wr wx) => folders_none (B7.fr F (by simp)))
    have q3 : ¬ w.heap.size = wr.heap.size := by omega
    have q4 : ¬ w6.heap.size = wr.heap.size := by omega
    go_wp2_with (go_at_call 18; refine (HF.out _ ((Fr.refl [] _).alloc _)).mono ?_; rintro e w8 ⟨rfl, rfl⟩)
    obtain ⟨w9, hw9⟩ : ∃ w9, w9 = wr.alloc (.cells #[.int .i64 0] 3) := ⟨_, rfl⟩
    rw [← hw9]
    have F9 : Fr [] wr w9 := hw9 ▸ (Fr.refl _ _).alloc _
    have k0 : w9.cell? ⟨w6.heap.size, 0, none⟩ = some (.slice (some ⟨w1.heap.size, 0, none⟩) 0 0) := (F9.cell (p := ⟨w6.heap.size, 0, none⟩) l7 (by simp)).trans n0
    have k1 : w9.cell? ⟨w.heap.size, 0, none⟩ = some (.pointer (some ⟨p, 0, none⟩)) := (F9.cell (p := ⟨w.heap.size, 0, none⟩) l8 (by simp)).trans n1
    have k2 : w9.cell? ⟨wr.heap.size, 0, none⟩ = some (.int .i64 0) := by rw [hw9]; simp
    have M9 := M7.fr F9 (by simp)
    rw [hz] at k2
    clear hw9
    go_loopw [57] (fun i wq => i = .int .i64 0 ∧ wq = w9) (fun _ _ => 0)
    case atStart => exact ⟨rfl, rfl⟩
    case round =>
      obtain ⟨rfl, hwr9⟩ := hrel
      subst hwr9
      go_wp2_with fail
      unfold bodyPostD
      refine leaves_cons (f := 16) (args := #[.pointer (some ⟨w.heap.size, 0, none⟩), .pointer (some ⟨z, 0, none⟩)]) (by simp) (by simp [go_sem]) ?_
      refine (frees_none M9 ha ha2 _ _ .returning k1 k2).mono ?_
      rintro e u' w2 ⟨rfl, rfl, FF⟩
      simp [Leaves, settle, results, Tryz.results7]
      exact (FT.trans0 F9).trans FF (by simp)

/-- Open of bytes that are no archive, with much of everything. -/
theorem open_bad (w : World) (p : Nat) (M : MtN w p 0 0 0 0 0 0) (v : Value) (b : List UInt8) (h : Sl w v (bv b)) (hb : b.length ≤ 40000) (c : Nat) (hc : opCode b = c) (h0 : c ≠ 0) :
    Calls Tryz.prog 5 #[v, .pointer (some ⟨p, 0, none⟩)] w fun e w' => e = .returned (.tuple #[.pointer none, .int .i64 (c : Int)]) ∧ Fr [p] w w' := by
  refine (bopen_bad M (by decide) (by decide) v b h hb (by rw [hc]; exact h0)).mono ?_
  rintro e w' ⟨rfl, -, F⟩
  exact ⟨by rw [hc], F⟩
theorem sl_const (w : World) (l : List Value) (t : TypeId) (z : Nat × Nat) (hl : l.length ≤ 1000) : Sl (w.alloc (.cells l.toArray t z)) (.slice (some ⟨w.heap.size, 0, none⟩) l.length l.length) l := by
  refine ⟨some ⟨w.heap.size, 0, none⟩, l.length, rfl, Nat.le_refl _, by omega, by simp, fun a ha _ => ?_⟩
  injection ha with ha
  subst ha
  refine ⟨rfl, by simp, fun j hj => ?_⟩
  have key : ∀ i : Nat, (w.alloc (.cells l.toArray t z)).cell? ⟨w.heap.size, i, none⟩ = l.toArray[i]? := Go.Joins.cell_of_block (heap_alloc_new w _)
  show (w.alloc (.cells l.toArray t z)).cell? ⟨w.heap.size, 0 + j, none⟩ = l[j]?
  rw [key]
  simp
theorem Sl.takeB {w : World} {ao : Option Addr} {n cap : Nat} {b : List UInt8} (h : Sl w (.slice ao n cap) (bv b)) (k : Nat) (hk : k ≤ b.length) : Sl w (.slice ao k cap) (bv (b.take k)) := by
  obtain ⟨ao', cap', e, h1, h2, h3, h4⟩ := h
  injection e with e1 e2 e3
  subst e1 e3
  have hl : (bv (b.take k)).length = k := by rw [bv_length, List.length_take]; omega
  rw [bv_length] at h1 h4
  refine ⟨ao, cap, by rw [hl], by rw [hl]; omega, h2, h3, fun a ha hc => ?_⟩
  obtain ⟨q1, q2, q3⟩ := h4 a ha hc
  refine ⟨q1, q2, fun j hj => ?_⟩
  rw [hl] at hj
  rw [q3 j (by omega)]
  obtain ⟨x, hx⟩ := some_get b j (by omega)
  rw [bv_get _ _ _ hx, bv_get (b.take k) j x (by rw [List.getElem?_take, if_pos hj]; exact hx)]
theorem op_7z : opCode [55, 122] = 3 := opCode_s (by decide) (by decide)
theorem head_nil : opHead (sealL [] []) = [] ∧ opCode (sealL [] []) = 0 := by
  obtain ⟨h1, h2, h3⟩ := seal_open [] [] (by decide) (by decide)
  exact ⟨h3, h1⟩
set_option maxRecDepth 100000 in
set_option maxHeartbeats 2000000 in
theorem awake24 (w : World) : Calls Tryz.prog 4 #[] w fun e w' => e = .returned (.bool true) ∧ Fr [] w w' := by
  go_enter Tryz.func4, Tryz.ntmps4
  have hl0 : (sealL [] []).length ≤ 40000 := by decide
  have kc := fun (w : World) (C : Array Value) (n c : Nat) => Lib.run_convert_bytes_const (P := Tryz.prog) w 22 5 C n c Tryz.underlying22 Tryz.underlying5
  go_wp2_with (first
    | (have hq := M4; go_at_call 5; go_loud (refine (open_bad _ _ M4 _ [55, 122] (H7.out.fr0 F4) (by decide) 3 op_7z (by decide)).mono ?_; rintro e w5 ⟨rfl, F5⟩))
    | (have hq := F3; go_at_call 6; refine (much_any _).mono ?_; rintro e w4 ⟨p4, rfl, hp4, M4, F4⟩; have H7 := Lib.hid (show Sl (w3.alloc (.cells #[.int .u8 55, .int .u8 122] 5 (2, 3))) (.slice (some ⟨w3.heap.size, 0, none⟩) 2 2) (bv [55, 122]) from sl_const w3 (bv [55, 122]) _ _ (by decide)))
    | (have hq := M2; go_at_call 7; refine (entries_none M2 (by decide) (by decide) (by decide) (by decide) _ _ (hr.fr0 F2) hl0 head_nil.2 head_nil.1 filesP_nil (fun _ _ _ _ _ _ _ _ => trivial)).mono ?_; rintro e w3 ⟨⟨ao, c, rfl⟩, F3⟩)
    | (have hq := F1; go_at_call 6; refine (much_any _).mono ?_; rintro e w2 ⟨p, rfl, hp, M2, F2⟩)
    | (go_at_call 8; refine (seal_any w _ _ [] [] (Sl.nil w) (Sl.nil w) (by decide) (by decide)).mono ?_; rintro e w1 ⟨r, rfl, hr, F1⟩))
  go_ret
  have s1 := F1.size
  have s2 := F2.size
  have s3 := F3.size
  have s4 := F4.size
  rw [World.size_alloc] at hp4 s4
  have FA : Fr [] w3 (w3.alloc (.cells #[.int .u8 55, .int .u8 122] 5 (2, 3))) := (Fr.refl _ _).alloc _
  exact ⟨rfl, ((((F1.trans0 F2).trans F3 (by simp; omega)).trans0 FA).trans0 F4).trans F5 (by simp; omega)⟩
set_option maxRecDepth 100000 in
set_option maxHeartbeats 4000000 in
theorem walk_BookMagic (w : World) (v : Value) (b : List UInt8) (cut : UInt8) (hv : Sl w v (bv b)) :
    Calls Tryz.prog 3 #[v, .int .u8 (cut.toNat : Int)] w fun e w' => e = .returned (.bool true) ∧ Fr [] w w' := by
  have HV := Lib.hid hv
  obtain ⟨ao, cap, rfl, hcm, hcb, ho⟩ := hv.out
  rw [bv_length] at HV hcm ho ⊢
  have HO := Lib.hid ho
  have HAw := Lib.hid (awake24 w)
  have hC : (wrap64 (cut.toNat : Int)).tmod 32 = ((cut.toNat % 32 : Nat) : Int) := by
    have := cut.toNat_lt
    have e : wrap64 (cut.toNat : Int) = (cut.toNat : Int) := by unfold wrap64; omega
    rw [e]
    rfl
  have hC32 : cut.toNat % 32 < 32 := Nat.mod_lt _ (by decide)
  obtain ⟨c32, hc32⟩ : ∃ c32, cut.toNat % 32 = c32 := ⟨_, rfl⟩
  rw [hc32] at hC hC32
  clear hc32
  clear hv ho
  by_cases hbig : 16384 < b.length
  · have hI : (16384 : Int) < (b.length : Int) := by omega
    clear hbig
    go_enter Tryz.func3, Tryz.ntmps3
    go_wp2_with (go_at_call 4; refine HAw.out.mono ?_; rintro e w1 ⟨rfl, F1⟩)
    go_ret
    exact ⟨rfl, F1⟩
  have hI : ¬ (16384 : Int) < (b.length : Int) := by omega
  have HBL := Lib.hid hbig
  clear hbig
  go_enter Tryz.func3, Tryz.ntmps3
  go_wp2_with (go_at_call 4; refine HAw.out.mono ?_; rintro e w1 ⟨rfl, F1⟩)
  have m2 : (w1.alloc (.cells #[.int .u8 55, .int .u8 122, .int .u8 188, .int .u8 175, .int .u8 39, .int .u8 28] 5)).heap[w1.heap.size]? = some (.cells #[.int .u8 55, .int .u8 122, .int .u8 188, .int .u8 175, .int .u8 39, .int .u8 28] 5 (0, 0)) := heap_alloc_new w1 _
  obtain ⟨w2, hw2⟩ : ∃ w2, w2 = w1.alloc (.cells #[.int .u8 55, .int .u8 122, .int .u8 188, .int .u8 175, .int .u8 39, .int .u8 28] 5) := ⟨_, rfl⟩
  rw [← hw2] at m2 ⊢
  have F2 : Fr [] w w2 := F1.trans0 (hw2 ▸ (Fr.refl _ _).alloc _)
  obtain ⟨mg, hmg⟩ : ∃ mg, mg = w1.heap.size := ⟨_, rfl⟩
  rw [← hmg] at m2 ⊢
  have key : ∀ i : Nat, w2.cell? ⟨mg, i, none⟩ = (#[.int .u8 55, .int .u8 122, .int .u8 188, .int .u8 175, .int .u8 39, .int .u8 28] : Array Value)[i]? := Go.Joins.cell_of_block m2
  have MK := Lib.hid (show ∀ i, i < 6 → ∃ m : UInt8, magicL[i]? = some m ∧ w2.cell? ⟨mg, i, none⟩ = some (.int .u8 (m.toNat : Int)) from fun i hi => by
    match i, hi with
    | 0, _ => exact ⟨55, rfl, by rw [key]; rfl⟩
    | 1, _ => exact ⟨122, rfl, by rw [key]; rfl⟩
    | 2, _ => exact ⟨188, rfl, by rw [key]; rfl⟩
    | 3, _ => exact ⟨175, rfl, by rw [key]; rfl⟩
    | 4, _ => exact ⟨39, rfl, by rw [key]; rfl⟩
    | 5, _ => exact ⟨28, rfl, by rw [key]; rfl⟩)
  clear key m2 hw2 F1 hmg
  go_loopw [6] (fun i wr => ∃ k : Nat, i = .int .i64 (k : Int) ∧ k ≤ 6 ∧ k ≤ b.length ∧ (∀ j, j < k → b[j]? = magicL[j]?) ∧ Same w2 wr) (fun i _ => 6 - (intOf i).toNat)
  case atStart => exact ⟨0, rfl, by omega, by omega, fun j hj => by omega, Same.refl _⟩
  case round =>
    obtain ⟨k, rfl, hk6, hkb, hj, S⟩ := hrel
    have HJ := Lib.hid hj
    have FW : Fr [] w wr := F2.trans0 S.fr
    clear hj
    by_cases hin : k < 6 ∧ k < b.length
    · obtain ⟨h6, hlt⟩ := hin
      have hI6 : (k : Int) < 6 := by omega
      have hIb : (k : Int) < (b.length : Int) := by omega
      obtain ⟨b1, of1, rfl, hb1, c1⟩ := HO.out k hlt
      obtain ⟨x, hx⟩ := some_get b k hlt
      obtain ⟨m, hm, c2⟩ := MK.out k h6
      have d1 : wr.cell? ⟨b1, of1 + k, none⟩ = some (.int .u8 x.toNat) := by
        rw [FW.cell (p := ⟨b1, of1 + k, none⟩) hb1 (by simp), c1 k hlt, bv_get _ _ _ hx]
      have d2 : wr.cell? ⟨mg, k, none⟩ = some (.int .u8 m.toNat) := by
        obtain ⟨q, rfl⟩ := S
        exact c2
      have HX := Lib.hid hx
      have HM := Lib.hid hm
      clear c1 c2 hx hm
      by_cases he : x = m
      · have t1 : ((x.toNat : Int) != (m.toNat : Int)) = false := by rw [he]; simp
        go_wp2_with fail
        go_region
        go_wp2_with fail
        go_roundw
        case rel =>
          refine ⟨k + 1, by go_num, by omega, by omega, fun j hjk => ?_, S.trans Same.drew⟩
          by_cases e : j = k
          · rw [e, HX.out, HM.out, he]
          · exact HJ.out j (by omega)
        case measure => simp [intOf]; omega
      · have t1 : ((x.toNat : Int) != (m.toNat : Int)) = true := by
          simp only [bne_iff_ne, ne_eq, Int.natCast_inj]
          exact fun e => he (UInt8.toNat_inj.1 e)
        have HC := Lib.hid (show opCode b = 1 from magic_no h6 hlt (by rw [HX.out, HM.out]; simpa using he))
        go_wp2_with fail
        go_region
        go_wp2_with (first
          | (have hq := M4; go_at_call 5; refine (open_bad _ _ M4 _ b (HV.out.fr0 (FW.drew.trans0 F4)) (by have := HBL.out; omega) 1 HC.out (by decide)).mono ?_; rintro e w5 ⟨rfl, F5⟩)
          | (go_at_call 6; refine (much_any _).mono ?_; rintro e w4 ⟨p4, rfl, hp4, M4, F4⟩))
        go_ret
        exact ⟨rfl, (FW.drew.trans0 F4).trans F5 (by have := FW.size; simp; exact Nat.le_trans this hp4)⟩
    · have hfin : k = 6 ∨ k = b.length := by omega
      have HY := Lib.hid (show ∀ i, i < 6 → i < b.length → b[i]? = magicL[i]? from fun i h1 h2 => HJ.out i (by omega))
      have HV4 := Lib.hid (fun (wx : World) (F : Fr [] w wx) => HV.out.fr0 F)
      have hkI : ¬ ((k : Int) < 6 ∧ (k : Int) < (b.length : Int)) := by omega
      have hEnd : ∃ K : Nat, K ≤ b.length ∧ K < 32 ∧ ((c32 : Int) ≤ (b.length : Int) ∧ K = c32 ∨ (b.length : Int) < (c32 : Int) ∧ K = b.length) := by
        by_cases h : c32 ≤ b.length
        · exact ⟨c32, h, hC32, .inl ⟨by omega, rfl⟩⟩
        · exact ⟨b.length, by omega, by omega, .inr ⟨by omega, rfl⟩⟩
      obtain ⟨K, hK1, hK2, hK3⟩ := hEnd
      have hKc : (K : Int) ≤ (cap : Int) := by omega
      have hKc2 : K ≤ cap := by omega
      have HS := Lib.hid (show opCode (b.take K) = 3 from magic_yes HY.out hK1 hK2)
      have HT := Lib.hid (fun (wx : World) (F : Fr [] w wx) => (HV.out.fr0 F).takeB K hK1)
      have HL := Lib.hid (show (b.take K).length ≤ 40000 by rw [List.length_take]; omega)
      have HE : (k = 6 ∧ ¬ (k : Int) < 6) ∨ ((k : Int) < 6 ∧ ¬ (k : Int) < (b.length : Int)) := by omega
      clear hkI hfin hin hk6 hkb
      rcases HE with ⟨rfl, hI6⟩ | ⟨hI6, hIb⟩
      all_goals
        rcases hK3 with ⟨hle, rfl⟩ | ⟨hle, hKe⟩
        · go_wp2_with fail
          go_region_held3 (fun _ => True) (trivial) (first
            | (have hq := M4; go_at_call 5; refine (open_bad _ _ M4 _ _ (HT.out _ (FW.drew.trans0 F4)) HL.out 3 HS.out (by decide)).mono ?_; rintro e w5 ⟨rfl, F5⟩)
            | (go_at_call 6; refine (much_any _).mono ?_; rintro e w4 ⟨p4, rfl, hp4, M4, F4⟩))
          all_goals
            go_wp2_with fail
            go_ret
            exact ⟨rfl, (FW.drew.trans0 F4).trans F5 (by have := FW.size; simp; exact Nat.le_trans this hp4)⟩
        · rw [hKe] at HT HS HL
          clear hKe
          go_wp2_with fail
          go_region_held3 (fun _ => True) (trivial) (first
            | (have hq := M4; go_at_call 5; refine (open_bad _ _ M4 _ _ (HT.out _ (FW.drew.trans0 F4)) HL.out 3 HS.out (by decide)).mono ?_; rintro e w5 ⟨rfl, F5⟩)
            | (go_at_call 6; refine (much_any _).mono ?_; rintro e w4 ⟨p4, rfl, hp4, M4, F4⟩))
          all_goals
            go_wp2_with fail
            go_ret
            exact ⟨rfl, (FW.drew.trans0 F4).trans F5 (by have := FW.size; simp; exact Nat.le_trans this hp4)⟩
end Go.Proofs.YtcnangcbffoabaaGreatDoor
