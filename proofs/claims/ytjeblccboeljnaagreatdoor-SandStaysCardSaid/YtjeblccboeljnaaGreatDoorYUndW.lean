/- SandUndone: the walk. No condition. -/
import Derived.Test.YtjeblccboeljnaaGreatDoorYAwake
namespace Go.Proofs.YtjeblccboeljnaaGreatDoor
open Go.RowKit Go.Maps

theorem same_list {L : List Th} {ks : List (List UInt8)} (hn : (L.map (·.path)).Nodup) (h : KeysAre (lookL L) ks) : ks.length = L.length ∧ ∀ t ∈ listK (lookL L) ks, lookL L t.path = some t.tv := by
  have e := listK_look h
  have hp : ((listK (lookL L) ks).map (·.path)).Nodup := by rw [listK_paths]; exact h.nd
  refine ⟨?_, fun t ht => ?_⟩
  · have := look_len hp hn e
    unfold listK at this
    simpa using this
  · obtain ⟨i, hi⟩ := List.getElem?_of_mem ht
    have := look_at hp hi
    rw [e] at this
    exact this
/-- The frame of what lies below. -/
theorem Lo.fr {w0 w w' : World} (F : Fr [] w0 w) (h : Lo w.heap.size w w') : Fr [] w0 w' := by
  obtain ⟨S, G, hS⟩ := h
  exact F.trans G (fun i hi => .inr (Nat.le_trans F.size (hS i hi)))
/-- State and the reference's Same: the same things. -/
theorem state_same {w : World} {lo p n nc : Nat} {fl : List Bool} {L : List Th} (h : SandAt w lo p n nc fl (lookL L)) (hM : MayT L) (hS : SmL L) (hn : n ≤ 100000) :
    Calls Tryz.prog 12 #[.pointer (some ⟨p, 0, none⟩)] w fun e w' => ∃ ao cap ks, e = .returned (.slice ao L.length cap) ∧ KeysAre (lookL L) ks ∧ ThAt w' w'.heap.size (.slice ao L.length cap) (listK (lookL L) ks) ∧ Fr [] w w' := by
  refine (state_at h hM.2 (dat_of hS) (by decide) hn).mono ?_
  rintro e w' ⟨ao, cap, ks, rfl, hk, -, ht, F⟩
  have e1 := (same_list hM.1 hk).1
  rw [e1] at ht ⊢
  exact ⟨ao, cap, ks, rfl, hk, ht, F⟩
theorem same_same {w : World} {hi hj : Nat} {ao bo : Option Addr} {cap bap : Nat} {L : List Th} {ks : List (List UInt8)} (hM : MayT L) (hS : SmL L) (hk : KeysAre (lookL L) ks) (h : ThAt w hi (.slice ao L.length cap) (listK (lookL L) ks)) (g : ThAt w hj (.slice bo L.length bap) L) :
    Calls Tryz.prog 13 #[.slice ao L.length cap, .slice bo L.length bap] w fun e w' => e = .returned (.bool true) ∧ Same w w' := by
  obtain ⟨h1, h2⟩ := same_list hM.1 hk
  exact rsame_any h g (by have := hS.1; omega) (by unfold listK; rw [List.length_map]; exact h1) h2

theorem mk_zero {K : Tree} {q : List UInt8} {kd : Int} (h : (mkK K q kd).1 = 0) : cleanL foldL q = true ∧ K q = none ∧ mkK K q kd = (0, updK K q ⟨kd, [], []⟩) := by
  unfold mkK at h ⊢
  split at h
  · cases h
  · split at h
    · cases h
    · rename_i h1 h2
      simp only [Bool.or_eq_true, Bool.not_eq_true', not_or, Bool.not_eq_true, Bool.not_eq_false] at h1 h2
      refine ⟨h1, ?_, ?_⟩
      · cases hk : K q with
        | none => rfl
        | some t => rw [hk] at h2; simp at h2
      · rw [if_neg (by rw [h1]; simp), if_neg (by rw [h2.1, h2.2]; simp)]
theorem mk_lies {K : Tree} {q : List UInt8} {kd : Int} (h : mkK K q kd = (0, updK K q ⟨kd, [], []⟩)) : liesK K q = true := by
  unfold mkK at h
  split at h
  · cases h
  · split at h
    · cases h
    · rename_i h1 h2
      simp only [Bool.or_eq_true, Bool.not_eq_true', not_or, Bool.not_eq_true, Bool.not_eq_false] at h2
      exact h2.2
theorem mk_else {K : Tree} {q : List UInt8} {kd : Int} (h : ¬ (mkK K q kd).1 = 0) : (mkK K q kd).2 = K := by
  unfold mkK at h ⊢
  split
  · rfl
  · split
    · rfl
    · rename_i h1 h2
      exact absurd (by rw [if_neg h1, if_neg h2]) h
theorem look_new {K : Tree} {q : List UInt8} (hc : cleanL foldL q = true) (t : Tv) : lookK (updK K q t) q = (t.kind, 0) := by
  unfold lookK
  rw [if_pos hc]
  unfold kindK updK
  simp
theorem app_new {K : Tree} {q : List UInt8} (hc : cleanL foldL q = true) (bs : List UInt8) : appendK (updK K q ⟨2, [], []⟩) q bs = (0, updK K q ⟨2, bs, []⟩) := by
  unfold appendK
  rw [if_pos hc]
  unfold appK
  have : updK K q ⟨2, [], []⟩ q = some ⟨2, [], []⟩ := by unfold updK; simp
  rw [this]
  dsimp only
  rw [if_pos rfl, upd_upd]
  rfl
theorem drop_new {K : Tree} (hK : MayK K) {q : List UInt8} (hc : cleanL foldL q = true) (hn : K q = none) (t : Tv) : dropA (updK K q t) q = (0, K) := by
  unfold dropA
  rw [if_pos hc]
  unfold drpK
  rw [if_pos (by unfold updK; simp), drop_upd hK hn]
set_option maxRecDepth 100000 in
set_option maxHeartbeats 8000000 in
theorem walk_SandUndone (W : World) (v : Value) (L : List Th) (q : List UInt8) (file : Bool) (hG : Gl W) (h : ThAt W W.heap.size v L) :
    Calls Tryz.prog 5 #[v, .string ⟨q.toArray⟩, .bool file] W fun e w' => e = .returned (.bool true) ∧ Fr [] W w' := by
  obtain ⟨ao, cap, rfl, -, -⟩ := h.out
  have HAW := Lib.hid (awake_any W hG)
  have HT := Lib.hid h
  have HG := Lib.hid hG
  have hnot : ∀ (x : Bool) (w : World), (Op.unary .not (.bool x)).run Tryz.prog w = .ok (.bool (!x)) w := fun _ _ => rfl
  have z1 : (⟨q.toArray⟩ : ByteArray).size = q.length := by simp [ByteArray.size]
  obtain ⟨N, hN⟩ : ∃ N, L.length = N := ⟨_, rfl⟩
  have HN := Lib.hid hN
  rw [hN] at HT ⊢
  clear h hG hN
  go_enter Tryz.func5, Tryz.ntmps5
  go_upto_region 3 with (go_at_call 6; refine HAW.out.mono ?_; rintro e w1 ⟨rfl, F1⟩)
  go_upto_region 5 with (first
    | (have hq := HSL; go_at_call 9; refine (rmay_any (HT.out.fr0 F1) (by have := HSL.out.1; omega) (fun t ht => Nat.le_trans (HSL.out.2 t ht).1 (by decide))).mono ?_; rintro e w2 ⟨r, rfl, hr, F2⟩; cases r)
    | (go_at_call 7; refine (rsmall_any (HT.out.fr0 F1)).mono ?_; rintro e w1 ⟨r, rfl, hr, rfl⟩; cases r; rotate_left; have HSL := Lib.hid (hr rfl); rotate_left))
  · go_ret
    exact ⟨rfl, F1⟩
  · go_ret
    exact ⟨rfl, F1.trans0 F2⟩
  · go_ret
    exact ⟨rfl, F1.trans0 F2⟩
  have HMT := Lib.hid (hr (by trivial))
  have hq15 : q.length ≤ 1500 := by omega
  have HQ := Lib.hid (show q.length ≤ 100000 ∧ q.length ≤ 1500 from ⟨by omega, hq15⟩)
  have FW := Lib.hid (F1.trans0 F2)
  have HG2 := Lib.hid (HG.out.fr FW.out)
  have HLO := Lib.hid HG2.out.sz
  have HNEW := Lib.hid (new_any (HT.out.fr0 FW.out) HMT.out (by have := HSL.out.1; omega) (dat_of HSL.out) (by decide) HG2.out none 0 [] (Sl.nil w2) (fun a h => by cases h) (by decide))
  have SAME := Lib.hid (fun (w8 : World) (xo : Option Addr) (xc : Nat) (ks : List (List UInt8)) (K8 : KeysAre (lookL L) ks) (X8 : ThAt w8 w8.heap.size (.slice xo N xc) (listK (lookL L) ks)) (L8 : Lo w2.heap.size w2 w8) => (show Calls Tryz.prog 13 #[.slice xo N xc, .slice ao N cap] w8 fun e w' => e = .returned (.bool true) ∧ Same w8 w' from by
    have g := (HT.out.fr0 FW.out).lo L8 FW.out.size
    rw [← HN.out] at X8 g ⊢
    exact same_same HMT.out HSL.out K8 X8 g))
  clear hr F1 F2 hq15
  cases file with
  | true =>
    have HMK := Lib.hid (fun (w3 : World) (p : Nat) (S3 : SandAt w3 w2.heap.size p L.length 0 [] (lookL L)) (F3 : Fr [] w2 w3) => create_any S3 (HG2.out.fr F3) q HQ.out.1 (by have := HSL.out.1; omega) (by decide) rfl)
    by_cases hz : (mkK (lookL L) q 2).1 = 0
    · have HZ := Lib.hid (mk_zero hz)
      clear hz
      have HLI := Lib.hid (mk_lies HZ.out.2.2)
      have MX := Lib.hid (show MayK (updK (lookL L) q ⟨2, [1], []⟩) from may_upd HMT.out.2 HZ.out.1 rfl HLI.out (fun u hu => by rw [HZ.out.2.1] at hu; cases hu))
      go_wp2_with (first
        | (have hq := X8; go_at_call 13; refine (SAME.out w8 xo xc ks K8.out X8.out L8.out).mono ?_; rintro e w9 ⟨rfl, F9⟩)
        | (have hq := S7; go_at_call 12; refine (state_same S7.out HMT.out HSL.out (by have := HN6.out; omega)).mono ?_; rintro e w8 ⟨xo, xc, ks, rfl, hks, hth, F8⟩; rw [HN.out] at hth ⊢; have X8 := Lib.hid hth; have K8 := Lib.hid hks; clear hth hks; have L8 := Lib.hid (L7.out.trans (Lo.of0 F8)))
        | (have hq := S6; go_at_call 22; refine (drop_any S6.out M6.out (HG2.out.lo L6.out HLO.out) q HQ.out.1 (by have := HN6.out; omega) (by decide) rfl).mono ?_; rw [drop_new HMT.out.2 HZ.out.1 HZ.out.2.1]; rintro e w7 ⟨rfl, hS7, hL7⟩; have S7 := Lib.hid hS7; have L7 := Lib.hid (L6.out.trans hL7); clear hS7 hL7)
        | (have hq := S5; go_at_call 21; refine (append_any (S5.out.fr0 ((Fr.refl [] w5).alloc (.cells #[.int .u8 1] 5))) ((HG2.out.lo L5.out HLO.out).fr ((Fr.refl [] w5).alloc _)) q HQ.out.1 (by have := HN4.out; omega) (by decide) rfl (some ⟨w5.heap.size, 0, none⟩) 1 [1] (sl_lit w5 5 (bv [1]) 1 rfl (by decide)) (by decide) (fun t ht => by unfold updK at ht; rw [if_pos rfl] at ht; injection ht with ht; subst ht; decide)).mono ?_; rw [app_new HZ.out.1]; rintro e w6 ⟨n6, rfl, hS6, hn6, hL6⟩; have S6 := Lib.hid hS6; have L6 := Lib.hid (L5.out.trans ((Lo.of0 ((Fr.refl [] w5).alloc _)).trans hL6)); have HN6 := Lib.hid (show n6 ≤ 80 by have := HN4.out; omega); have M6 := Lib.hid (MX.out); clear hS6 hn6 hL6)
        | (have hq := S4; go_at_call 20; refine (look_any S4.out (HG2.out.lo L4.out HLO.out) q HQ.out.1 (by decide) rfl).mono ?_; rw [look_new HZ.out.1]; rintro e w5 ⟨rfl, hS5, hL5⟩; have S5 := Lib.hid hS5; have L5 := Lib.hid (L4.out.trans hL5); clear hS5 hL5)
        | (have hq := S3; go_at_call 18; refine (HMK.out w3 p S3.out F3).mono ?_; rintro e w4 ⟨n4, rfl, hS4, hn4, hL4⟩; rw [HZ.out.2.2] at hS4 ⊢; have S4 := Lib.hid hS4; have L4 := Lib.hid ((Lo.of0 F3).trans hL4); have HN4 := Lib.hid (show n4 ≤ 61 by have := HSL.out.1; omega); clear hS4 hn4 hL4)
        | (go_at_call 10; refine HNEW.out.mono ?_; rintro e w3 ⟨p, rfl, hS3, F3⟩; have S3 := Lib.hid hS3; clear hS3))
      go_ret
      exact ⟨rfl, (Lo.fr FW.out L8.out).trans0 F9.fr⟩
    · have HE := Lib.hid (mk_else hz)
      obtain ⟨c, hc⟩ : ∃ c, (mkK (lookL L) q 2).1 = c := ⟨_, rfl⟩
      have t1 : (c != 0) = true := by rw [← hc]; simpa using hz
      have HC := Lib.hid hc
      clear hz hc
      go_wp2_with (first
        | (have hq := X8; go_at_call 13; refine (SAME.out w8 xo xc ks K8.out X8.out L8.out).mono ?_; rintro e w9 ⟨rfl, F9⟩)
        | (have hq := S4; go_at_call 12; refine (state_same S4.out HMT.out HSL.out (by have := HN6.out; omega)).mono ?_; rintro e w8 ⟨xo, xc, ks, rfl, hks, hth, F8⟩; rw [HN.out] at hth ⊢; have X8 := Lib.hid hth; have K8 := Lib.hid hks; clear hth hks; have L8 := Lib.hid (L4.out.trans (Lo.of0 F8)))
        | (have hq := S3; go_at_call 18; refine (HMK.out w3 p S3.out F3).mono ?_; rintro e w4 ⟨n4, he, hS4, hn4, hL4⟩; rw [HE.out] at hS4; rw [HC.out] at he; obtain rfl := he; have S4 := Lib.hid hS4; have L4 := Lib.hid ((Lo.of0 F3).trans hL4); have HN6 := Lib.hid (show n4 ≤ 61 by have := HSL.out.1; omega); clear hS4 hn4 hL4)
        | (go_at_call 10; refine HNEW.out.mono ?_; rintro e w3 ⟨p, rfl, hS3, F3⟩; have S3 := Lib.hid hS3; clear hS3))
      go_ret
      exact ⟨rfl, (Lo.fr FW.out L8.out).trans0 F9.fr⟩
  | false =>
    have HMK := Lib.hid (fun (w3 : World) (p : Nat) (S3 : SandAt w3 w2.heap.size p L.length 0 [] (lookL L)) (F3 : Fr [] w2 w3) => mkdir_any S3 (HG2.out.fr F3) q HQ.out.1 (by have := HSL.out.1; omega) (by decide) rfl)
    by_cases hz : (mkK (lookL L) q 1).1 = 0
    · have HZ := Lib.hid (mk_zero hz)
      clear hz
      have HLI := Lib.hid (mk_lies HZ.out.2.2)
      have MX := Lib.hid (show MayK (updK (lookL L) q ⟨1, [], []⟩) from may_upd HMT.out.2 HZ.out.1 rfl HLI.out (fun u hu => by rw [HZ.out.2.1] at hu; cases hu))
      go_wp2_with (first
        | (have hq := X8; go_at_call 13; refine (SAME.out w8 xo xc ks K8.out X8.out L8.out).mono ?_; rintro e w9 ⟨rfl, F9⟩)
        | (have hq := S7; go_at_call 12; refine (state_same S7.out HMT.out HSL.out (by have := HN6.out; omega)).mono ?_; rintro e w8 ⟨xo, xc, ks, rfl, hks, hth, F8⟩; rw [HN.out] at hth ⊢; have X8 := Lib.hid hth; have K8 := Lib.hid hks; clear hth hks; have L8 := Lib.hid (L7.out.trans (Lo.of0 F8)))
        | (have hq := S6; go_at_call 22; refine (drop_any S6.out M6.out (HG2.out.lo L6.out HLO.out) q HQ.out.1 (by have := HN6.out; omega) (by decide) rfl).mono ?_; rw [drop_new HMT.out.2 HZ.out.1 HZ.out.2.1]; rintro e w7 ⟨rfl, hS7, hL7⟩; have S7 := Lib.hid hS7; have L7 := Lib.hid (L6.out.trans hL7); clear hS7 hL7)
        | (have hq := S4; go_at_call 20; refine (look_any S4.out (HG2.out.lo L4.out HLO.out) q HQ.out.1 (by decide) rfl).mono ?_; rw [look_new HZ.out.1]; rintro e w5 ⟨rfl, hS5, hL5⟩; have S6 := Lib.hid hS5; have L6 := Lib.hid (L4.out.trans hL5); have HN6 := Lib.hid (show n4 ≤ 80 by have := HN4.out; omega); have M6 := Lib.hid MX.out; clear hS5 hL5)
        | (have hq := S3; go_at_call 19; refine (HMK.out w3 p S3.out F3).mono ?_; rintro e w4 ⟨n4, rfl, hS4, hn4, hL4⟩; rw [HZ.out.2.2] at hS4 ⊢; have S4 := Lib.hid hS4; have L4 := Lib.hid ((Lo.of0 F3).trans hL4); have HN4 := Lib.hid (show n4 ≤ 61 by have := HSL.out.1; omega); clear hS4 hn4 hL4)
        | (go_at_call 10; refine HNEW.out.mono ?_; rintro e w3 ⟨p, rfl, hS3, F3⟩; have S3 := Lib.hid hS3; clear hS3))
      go_ret
      exact ⟨rfl, (Lo.fr FW.out L8.out).trans0 F9.fr⟩
    · have HE := Lib.hid (mk_else hz)
      obtain ⟨c, hc⟩ : ∃ c, (mkK (lookL L) q 1).1 = c := ⟨_, rfl⟩
      have t1 : (c != 0) = true := by rw [← hc]; simpa using hz
      have HC := Lib.hid hc
      clear hz hc
      go_wp2_with (first
        | (have hq := X8; go_at_call 13; refine (SAME.out w8 xo xc ks K8.out X8.out L8.out).mono ?_; rintro e w9 ⟨rfl, F9⟩)
        | (have hq := S4; go_at_call 12; refine (state_same S4.out HMT.out HSL.out (by have := HN6.out; omega)).mono ?_; rintro e w8 ⟨xo, xc, ks, rfl, hks, hth, F8⟩; rw [HN.out] at hth ⊢; have X8 := Lib.hid hth; have K8 := Lib.hid hks; clear hth hks; have L8 := Lib.hid (L4.out.trans (Lo.of0 F8)))
        | (have hq := S3; go_at_call 19; refine (HMK.out w3 p S3.out F3).mono ?_; rintro e w4 ⟨n4, he, hS4, hn4, hL4⟩; rw [HE.out] at hS4; rw [HC.out] at he; obtain rfl := he; have S4 := Lib.hid hS4; have L4 := Lib.hid ((Lo.of0 F3).trans hL4); have HN6 := Lib.hid (show n4 ≤ 61 by have := HSL.out.1; omega); clear hS4 hn4 hL4)
        | (go_at_call 10; refine HNEW.out.mono ?_; rintro e w3 ⟨p, rfl, hS3, F3⟩; have S3 := Lib.hid hS3; clear hS3))
      go_ret
      exact ⟨rfl, (Lo.fr FW.out L8.out).trans0 F9.fr⟩
end Go.Proofs.YtjeblccboeljnaaGreatDoor
