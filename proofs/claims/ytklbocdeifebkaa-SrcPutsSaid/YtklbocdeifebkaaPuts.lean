/- The law SrcPuts: the walk. No condition. -/
import Derived.Test.YtklbocdeifebkaaRefPutN
import Derived.Test.YtklbocdeifebkaaRefPutB
namespace Go.Proofs.Ytklbocdeifebkaa
open Go.RowKit

set_option maxRecDepth 100000 in
set_option maxHeartbeats 1000000 in
theorem walk_SrcPuts (w : World) (v1 : Value) (b : List UInt8) (v : Int) (v2 : Value) (row : List Bool) (h : Sl w v1 (bv b)) (hv : 0 ≤ v ∧ v ≤ 18446744073709551615) (h2 : Sl w v2 (tv row)) :
    Calls Try.prog 8 #[v1, .int .u64 v, v2] w fun e w' => e = .returned (.bool true) ∧ Fr [] w w' := by
  obtain ⟨v, rfl⟩ := Int.eq_ofNat_of_zero_le hv.1
  have hv' : v < 18446744073709551616 := by omega
  clear hv
  obtain ⟨ao, cap, rfl, hc1, hc2, -⟩ := h.out
  obtain ⟨ao2, cap2, rfl, hd1, hd2, -⟩ := h2.out
  rw [bv_length, tv_length] at *
  by_cases hbig : 65536 < b.length
  · have hbig' : (65536 : Int) < (b.length : Int) := by omega
    go_enter Try.func8, Try.ntmps8
    go_wp2_with fail
    refine (awake_any w).mono ?_
    rintro e w1 ⟨rfl, hf1⟩
    go_wp2_with fail
    go_ret
    exact ⟨rfl, hf1⟩
  by_cases hbig2 : 65536 < row.length
  · have hbig' : (b.length : Int) ≤ 65536 := by omega
    have hbig2' : (65536 : Int) < (row.length : Int) := by omega
    go_enter Try.func8, Try.ntmps8
    go_wp2_with fail
    refine (awake_any w).mono ?_
    rintro e w1 ⟨rfl, hf1⟩
    go_wp2_with fail
    go_ret
    exact ⟨rfl, hf1⟩
  have hbig' : (b.length : Int) ≤ 65536 := by omega
  have hbig2' : (row.length : Int) ≤ 65536 := by omega
  go_enter Try.func8, Try.ntmps8
  go_wp2_with fail
  refine (awake_any w).mono ?_
  rintro e w1 ⟨rfl, F1⟩
  have h1 := h.fr0 F1
  go_wp2_with (at_builtin; refine wpList_append_new sty_u8 rfl _ _ rfl rfl _ (bv b) rfl h1 (bv_one _) ?_ ?_ ?_)
  · rw [bv_length]; omega
  · rw [bv_length]; omega
  intro v3 w3 hown3 hf3
  rw [bv_length] at hown3
  have F3 := F1.trans0 hf3
  have hz1 := F1.size
  clear h1 F1
  go_wp2_with (at_builtin; refine wpList_append_more sty_u8 rfl _ _ rfl (hf3.alloc _) _ _ _ (by rfl) (hown3.alloc _) _ (bv [1, 2, 3]) (by rfl) (sl_lit w3 _ (bv [1, 2, 3]) 3 rfl (by decide)) (bv_one _) ?_ ?_ ?_)
  · simp [bv_length]; omega
  · simp [bv_length]; omega
  intro v4 w4 hown4 hf4 hf34
  rw [← bv_append] at hown4
  have F4 : Fr [] w w4 := (F3.alloc _).trans hf34 (fun k hk => by have := hown3.lt k (by simpa using hk); omega)
  simp only [bv_length, List.length_cons, List.length_nil, Nat.zero_add, Nat.reduceAdd] at hown4
  obtain ⟨ao4, cap4, rfl, he1, he2, he3⟩ := own_out hown4
  obtain ⟨g, rfl, hg, hgl⟩ := he3 (by omega)
  have hs4 := (Sl.of_own hown4).first b.length (by omega)
  have ecut : (b ++ [(1 : UInt8), 2, 3]).take b.length = b := by simp
  rw [← bv_take, ecut] at hs4
  have hcell := fun j (hj : j < b.length + 3) => hown4.cellAt j (by omega)
  have k0 : w4.cell? ⟨g, b.length, none⟩ = some (.int .u8 1) := by rw [hcell _ (by omega), bv_append, List.getElem?_append_right (by simp [bv_length])]; simp [bv]
  have k1 : w4.cell? ⟨g, b.length + 1, none⟩ = some (.int .u8 2) := by rw [hcell _ (by omega), bv_append, List.getElem?_append_right (by simp [bv_length])]; simp [bv]
  have k2 : w4.cell? ⟨g, b.length + 2, none⟩ = some (.int .u8 3) := by rw [hcell _ (by omega), bv_append, List.getElem?_append_right (by simp [bv_length])]; simp [bv]
  have K0 := Lib.hid k0
  have K1 := Lib.hid k1
  have K2 := Lib.hid k2
  have G4 : Fr [] w4 w4 := Fr.refl _ _
  have hb4 : (b.length : Int) ≤ (cap4 : Int) := by omega
  clear hown3 hf3 F3 hf34 he3 hown4 hcell k0 k1 k2
  go_wp2_with fail
  refine (putnumber_any w4 _ b v (hs4.fr0 G4) (by omega) hv').mono ?_
  rintro e w5 ⟨r5, rfl, ho5, hf5⟩
  have F5 := F4.trans0 hf5
  have G5 := G4.trans0 hf5
  have hsl5 := Sl.of_own ho5
  clear ho5 hf5 F4 G4
  go_wp2_with fail
  refine (refputnumber_any w5 _ b v (h.fr0 F5) (by omega) hv').mono ?_
  rintro e w6 ⟨r6, rfl, ho6, hf6⟩
  have F6 := F5.trans0 hf6
  have G6 := G5.trans0 hf6
  have hsa := hsl5.fr0 hf6
  have hsb := Sl.of_own ho6
  clear ho6 hf6 F5 G5 hsl5
  go_wp2_with fail
  refine (bytes_any _ _ _ _ _ hsa hsb).mono ?_
  rintro e w7 ⟨rfl, s7⟩
  rw [decide_eq_true rfl]
  have F7 : Fr [] w w7 := F6.trans0 s7.fr
  have G7 : Fr [] w4 w7 := G6.trans0 s7.fr
  clear s7 F6 G6 hsa hsb
  go_wp2_with fail
  refine (putbits_any w7 _ _ b row (hs4.fr0 G7) (h2.fr0 F7) (by omega) (by omega)).mono ?_
  rintro e w8 ⟨r8, rfl, ho8, hf8⟩
  have F8 := F7.trans0 hf8
  have G8 := G7.trans0 hf8
  have hsl8 := Sl.of_own ho8
  clear ho8 hf8 F7 G7
  go_wp2_with fail
  refine (refputbits_any w8 _ _ b row (h.fr0 F8) (h2.fr0 F8) (by omega) (by omega)).mono ?_
  rintro e w9 ⟨r9, rfl, ho9, hf9⟩
  have F9 := F8.trans0 hf9
  have G9 := G8.trans0 hf9
  have hsa := hsl8.fr0 hf9
  have hsb := Sl.of_own ho9
  clear ho9 hf9 F8 G8 hsl8
  go_wp2_with fail
  refine (bytes_any _ _ _ _ _ hsa hsb).mono ?_
  rintro e w10 ⟨rfl, s10⟩
  rw [decide_eq_true rfl]
  have F10 : Fr [] w w10 := F9.trans0 s10.fr
  have G10 : Fr [] w4 w10 := G9.trans0 s10.fr
  clear s10 F9 G9 hsa hsb
  go_wp2_with fail
  refine (puttold_any w10 _ _ b row (hs4.fr0 G10) (h2.fr0 F10) (by omega) (by omega)).mono ?_
  rintro e w11 ⟨r11, rfl, ho11, hf11⟩
  have F11 := F10.trans0 hf11
  have G11 := G10.trans0 hf11
  have hsl11 := Sl.of_own ho11
  clear ho11 hf11 F10 G10
  go_wp2_with fail
  refine (refputtold_any w11 _ _ b row (h.fr0 F11) (h2.fr0 F11) (by omega) (by omega)).mono ?_
  rintro e w12 ⟨r12, rfl, ho12, hf12⟩
  have F12 := F11.trans0 hf12
  have G12 := G11.trans0 hf12
  have hsa := hsl11.fr0 hf12
  have hsb := Sl.of_own ho12
  clear ho12 hf12 F11 G11 hsl11
  go_wp2_with fail
  refine (bytes_any _ _ _ _ _ hsa hsb).mono ?_
  rintro e w13 ⟨rfl, s13⟩
  rw [decide_eq_true rfl]
  have F13 : Fr [] w w13 := F12.trans0 s13.fr
  have G13 : Fr [] w4 w13 := G12.trans0 s13.fr
  clear s13 F12 G12 hsa hsb
  go_wp2_with fail
  go_loopw [9, 10] (fun r i wr => ∃ k : Nat, k ≤ 10 ∧ i = .int .i64 k ∧ r = .bool true ∧ Fr [] w wr ∧ Fr [] w4 wr) (fun _ i _ => 10 - (intOf i).toNat)
  case atStart => exact ⟨0, by omega, rfl, rfl, F13, G13⟩
  case round =>
    obtain ⟨k, hk, rfl, rfl, FR, GR⟩ := hrel
    clear F13 G13
    by_cases hlt : k < 10
    · have hlt' : (k : Int) < 10 := by omega
      go_wp2_with fail
      refine (put_any wr _ b k v (hs4.fr0 GR) (by omega) hv').mono ?_
      rintro e wa ⟨ra, rfl, hoa, hfa⟩
      have FA := FR.trans0 hfa
      have GA := GR.trans0 hfa
      have hsla := Sl.of_own hoa
      clear hoa hfa FR GR
      go_wp2_with fail
      refine (refput_any wa _ b k v (h.fr0 FA) (by omega) hv').mono ?_
      rintro e wb ⟨rb, rfl, hob, hfb⟩
      have FB := FA.trans0 hfb
      have GB := GA.trans0 hfb
      have hsa := hsla.fr0 hfb
      have hsb := Sl.of_own hob
      clear hob hfb FA GA hsla
      go_wp2_with fail
      refine (bytes_any _ _ _ _ _ hsa hsb).mono ?_
      rintro e wc ⟨rfl, sc⟩
      rw [decide_eq_true rfl]
      have FC : Fr [] w wc := FB.trans0 sc.fr
      have GC : Fr [] w4 wc := GB.trans0 sc.fr
      clear sc FB GB hsa hsb
      go_wp2_with fail
      go_roundw
      case rel => exact ⟨k + 1, by omega, by go_num, rfl, FC, GC⟩
      case measure => simp [intOf]; omega
    · have hlt' : (10 : Int) ≤ (k : Int) := by omega
      have k0 : wr.cell? ⟨g, b.length, none⟩ = some (.int .u8 1) := by rw [GR.cell (p := ⟨g, b.length, none⟩) hgl (by simp)]; exact K0.out
      have k1 : wr.cell? ⟨g, b.length + 1, none⟩ = some (.int .u8 2) := by rw [GR.cell (p := ⟨g, b.length + 1, none⟩) hgl (by simp)]; exact K1.out
      have k2 : wr.cell? ⟨g, b.length + 2, none⟩ = some (.int .u8 3) := by rw [GR.cell (p := ⟨g, b.length + 2, none⟩) hgl (by simp)]; exact K2.out
      go_wp2_with fail
      go_ret
      exact ⟨rfl, FR⟩
end Go.Proofs.Ytklbocdeifebkaa
