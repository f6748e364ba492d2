/- SandBack: the walk. No condition. -/
import Derived.Test.YtjeblccboeljnaaGreatDoorYDo
import Derived.Test.YtjeblccboeljnaaGreatDoorYUndW
namespace Go.Proofs.YtjeblccboeljnaaGreatDoor
open Go.RowKit Go.Maps

set_option maxRecDepth 100000 in
set_option maxHeartbeats 8000000 in
theorem walk_SandBack (W : World) (v : Value) (L : List Th) (u : Value) (S : List Dv) (hG : Gl W) (h : ThAt W W.heap.size v L) (g : DosAt W W.heap.size u S) :
    Calls Tryz.prog 4 #[v, u] W fun e w' => e = .returned (.bool true) ∧ Fr [] W w' := by
  obtain ⟨ao, cap, rfl, -, -⟩ := h.out
  obtain ⟨bo, bap, rfl, -, -⟩ := g.out
  have HAW := Lib.hid (awake_any W hG)
  have HT := Lib.hid h
  have HU := Lib.hid g
  have HG := Lib.hid hG
  have hnot : ∀ (x : Bool) (w : World), (Op.unary .not (.bool x)).run Tryz.prog w = .ok (.bool (!x)) w := fun _ _ => rfl
  obtain ⟨N, hN⟩ : ∃ N, L.length = N := ⟨_, rfl⟩
  obtain ⟨M, hM⟩ : ∃ M, S.length = M := ⟨_, rfl⟩
  have HN := Lib.hid hN
  have HM := Lib.hid hM
  rw [hN] at HT ⊢
  rw [hM] at HU ⊢
  clear h g hG hN hM
  go_enter Tryz.func4, Tryz.ntmps4
  go_upto_region 3 with (go_at_call 6; refine HAW.out.mono ?_; rintro e w1 ⟨rfl, F1⟩)
  go_upto_region 5 with (first
    | (have hq := HSD; go_at_call 9; refine (rmay_any (HT.out.fr0 F1) (by have := HSL.out.1; omega) (fun t ht => Nat.le_trans (HSL.out.2 t ht).1 (by decide))).mono ?_; rintro e w2 ⟨r, rfl, hr, F2⟩; cases r)
    | (have hq := HSL; go_at_call 8; refine (dsmall_any (HU.out.fr0 F1)).mono ?_; rintro e w1 ⟨r, rfl, hr, rfl⟩; cases r; rotate_left; have HSD := Lib.hid (hr rfl); rotate_left)
    | (go_at_call 7; refine (rsmall_any (HT.out.fr0 F1)).mono ?_; rintro e w1 ⟨r, rfl, hr, rfl⟩; cases r; rotate_left; have HSL := Lib.hid (hr rfl); rotate_left))
  · go_ret
    exact ⟨rfl, F1⟩
  · go_ret
    exact ⟨rfl, F1⟩
  · go_ret
    exact ⟨rfl, F1.trans0 F2⟩
  have HMT := Lib.hid (hr (by trivial))
  have FW := Lib.hid (F1.trans0 F2)
  have HG2 := Lib.hid (HG.out.fr FW.out)
  have HLO := Lib.hid HG2.out.sz
  have HNEW := Lib.hid (new_any (HT.out.fr0 FW.out) HMT.out (by have := HSL.out.1; omega) (dat_of HSL.out) (by decide) HG2.out none 0 [] (Sl.nil w2) (fun a h => by cases h) (by decide))
  have HN60 := Lib.hid (show N ≤ 60 by have := HSL.out.1; rw [HN.out] at this; exact this)
  rw [HN.out] at HNEW
  clear hr F1 F2
  go_upto_region 9 with (go_at_call 10; refine HNEW.out.mono ?_; rintro e w3 ⟨p, rfl, hS3, F3⟩; have S3 := Lib.hid hS3; clear hS3)
  have L3 := Lib.hid (Lo.of0 F3 : Lo w2.heap.size w2 w3)
  clear F3
  go_loopw [7] (fun i wr => ∃ k : Nat, k ≤ M ∧ k ≤ 40 ∧ i = .int .i64 (k : Int) ∧ (∃ K, SandAt wr w2.heap.size p (N + k) k [] K ∧ MayK K ∧ DatK K (5000 + 2000 * k)) ∧ Lo w2.heap.size w2 wr) (fun i _ => M - (intOf i).toNat)
  case atStart => exact ⟨0, Nat.zero_le _, by decide, rfl, ⟨lookL L, S3.out, HMT.out.2, dat_of HSL.out⟩, L3.out⟩
  case round =>
    obtain ⟨k, hk, hk4, rfl, ⟨K, hS, hMK, hDK⟩, hL⟩ := hrel
    have hN6 := HN60.out
    by_cases hgo : k < M ∧ k < 40
    · obtain ⟨hlt, h40⟩ := hgo
      obtain ⟨d, hx⟩ := some_get S k (by rw [HM.out]; exact hlt)
      obtain ⟨b, o, da, dc, rfl, hb, -, c0, c1, c2, c3, sl, -⟩ := ((HU.out.fr0 FW.out).lo hL FW.out.size).get hx
      obtain ⟨g1, g2, g3⟩ := HSD.out k d h40 hx
      have hltI : (k : Int) < (M : Int) := by omega
      have h4I : (k : Int) < 40 := by omega
      have HDO := Lib.hid (do_any hS hMK hDK (by omega) (HG2.out.lo hL HLO.out) (by omega) (by omega) rfl d da dc sl (by omega) (by omega) (by omega))
      have HL := Lib.hid hL
      have HMK := Lib.hid hMK
      have HDK := Lib.hid hDK
      have HB3 := Lib.hid g3
      obtain ⟨DL, hDL⟩ : ∃ DL, d.by_.length = DL := ⟨_, rfl⟩
      rw [hDL] at c3 HDO
      clear hx hS hMK hDK hL sl g1 g2 g3 hDL
      go_wp2_with (go_at_call 11; refine HDO.out.mono ?_; rintro e w4 ⟨a, c, K', rfl, hrel, hS4, hL4⟩; have S4 := Lib.hid hS4; have L4 := Lib.hid hL4; have R4 := Lib.hid hrel; clear hS4 hL4 hrel)
      go_roundw
      case rel => exact ⟨k + 1, by omega, by omega, by go_num, ⟨K', S4.out, R4.out.may HMK.out, (R4.out.dat HDK.out HB3.out).mono (by omega)⟩, HL.out.trans L4.out⟩
      case measure => simp [intOf]; omega
    · have HS := Lib.hid hS
      have HMK := Lib.hid hMK
      have HDK := Lib.hid (hDK.mono (show 5000 + 2000 * k ≤ 100000 by omega))
      have HL := Lib.hid hL
      have HNK := Lib.hid (show N + k ≤ 100 by omega)
      have HST := Lib.hid (state_at hS hMK HDK.out (by decide) (by omega))
      clear hS hMK hDK hL
      have key : ∀ (w5 : World) (xo : Option Addr) (xc : Nat) (ks : List (List UInt8)), KeysAre K ks → ks.length ≤ N + k → ThAt w5 w5.heap.size (.slice xo ks.length xc) (listK K ks) → Gl w5 →
          Calls Tryz.prog 10 #[.slice xo ks.length xc, .slice none 0 0] w5 fun e w' => ∃ p, e = .returned (.tuple #[.pointer (some ⟨p, 0, none⟩), .int .i64 0]) ∧ SandAt w' w5.heap.size p ks.length 0 [] K ∧ Fr [] w5 w' := by
        intro w5 xo xc ks hks hkl hth hG5
        have e := listK_look hks
        have el : (listK K ks).length = ks.length := by unfold listK; simp
        have := new_any hth (listK_may hks HMK.out) (by rw [el]; omega) (by rw [e]; exact HDK.out) (by decide) hG5 none 0 [] (Sl.nil w5) (fun a h => by cases h) (by decide)
        rw [e, el] at this
        exact this
      have HKEY := Lib.hid key
      have same : ∀ (w7 : World) (xo yo : Option Addr) (xc yc hi : Nat) (ks : List (List UInt8)), KeysAre K ks → ks.length ≤ N + k → ThAt w7 w7.heap.size (.slice yo ks.length yc) (listK K ks) → ThAt w7 hi (.slice xo ks.length xc) (listK K ks) →
          Calls Tryz.prog 13 #[.slice yo ks.length yc, .slice xo ks.length xc] w7 fun e w' => e = .returned (.bool true) ∧ Same w7 w' := by
        intro w7 xo yo xc yc hi ks hks hkl h1 h2
        have el : (listK K ks).length = ks.length := by unfold listK; simp
        refine rsame_any h1 h2 (by rw [el]; omega) rfl (fun t ht => ?_)
        obtain ⟨i, hi⟩ := List.getElem?_of_mem ht
        exact look_at (by rw [listK_paths]; exact hks.nd) hi
      have HSAME := Lib.hid same
      clear key same
      have st : ∀ (w6 : World) (lo p2 n : Nat), SandAt w6 lo p2 n 0 [] K → n ≤ N + k → Calls Tryz.prog 12 #[.pointer (some ⟨p2, 0, none⟩)] w6 fun e w' => ∃ ao cap ks, e = .returned (.slice ao ks.length cap) ∧ KeysAre K ks ∧ ks.length ≤ n ∧ ThAt w' w'.heap.size (.slice ao ks.length cap) (listK K ks) ∧ Fr [] w6 w' :=
        fun w6 lo p2 n h hn => state_at h HMK.out HDK.out (by decide) (by omega)
      have HST2 := Lib.hid st
      clear st hN6
      have hor : ¬ (k : Int) < (M : Int) ∨ ((k : Int) < (M : Int) ∧ ¬ (k : Int) < 40) := by omega
      rcases hor with hltI | ⟨hltI, h4I⟩
      all_goals
        clear hgo
        go_wp2_with (first
          | (have hq := X7; go_at_call 17; refine (calls_at (S6.out.fr0 F78) (by decide)).mono ?_; rintro e w9 ⟨⟨co, cc, rfl⟩, F9⟩)
          | (have hq := X7; go_at_call 13; refine (HSAME.out w7 _ _ _ _ _ _ KS.out KL.out X7.out (X5.out.fr0 (F6.trans0 F7))).mono ?_; rintro e w8 ⟨rfl, G8⟩; have F78 : Fr [] w6 w8 := F7.trans0 G8.fr)
          | (have hq := S6; go_at_call 12; refine (HST2.out w6 _ _ _ S6.out KL.out).mono ?_; rintro e w7 ⟨yo, yc, ks2, rfl, hks2, -, hth2, F7⟩; obtain rfl := KS.out.eq hks2; have X7 := Lib.hid hth2; clear hth2 hks2)
          | (have hq := X5; go_at_call 10; refine (HKEY.out w5 _ _ _ KS.out KL.out X5.out G5.out).mono ?_; rintro e w6 ⟨p2, rfl, hS6, F6⟩; have S6 := Lib.hid hS6; clear hS6)
          | (go_at_call 12; refine HST.out.mono ?_; rintro e w5 ⟨xo, xc, ks, rfl, hks, hkl, hth, F5⟩; have X5 := Lib.hid hth; have KS := Lib.hid hks; have KL := Lib.hid hkl; have G5 := Lib.hid ((HG2.out.lo HL.out HLO.out).fr F5); have L5 := Lib.hid (HL.out.trans (Lo.of0 F5)); clear hth hks hkl))
        go_ret
        exact ⟨rfl, ((Lo.fr FW.out L5.out).trans0 (F6.trans0 F78)).trans0 F9⟩
end Go.Proofs.YtjeblccboeljnaaGreatDoor
