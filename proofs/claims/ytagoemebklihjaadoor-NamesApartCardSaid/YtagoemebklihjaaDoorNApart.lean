/- Contract: names.Apart. No condition but that lengths fit. -/
import Derived.Test.YtagoemebklihjaaDoorNApP
import Derived.Deep.RegionHeld3
namespace Go.Proofs.YtagoemebklihjaaDoor
open Go.RowKit Go.Maps

/-- A slice of names. -/
def Nms (w : World) (v : Value) (l : List Nm) : Prop :=
  ∃ ao cap, v = .slice ao l.length cap ∧ l.length ≤ cap ∧
    ∀ j n, l[j]? = some n → ∃ b o, ao = some ⟨b, o, none⟩ ∧ b < w.heap.size ∧ w.cell? ⟨b, o + j * 2, none⟩ = some (.string ⟨n.path.toArray⟩) ∧ w.cell? ⟨b, o + j * 2 + 1, none⟩ = some (.bool n.dir)

theorem MSn.cell_ne {w : World} {b n : Nat} {K : List UInt8 → Option Sn} (h : MSn w b n K) {p o : Nat} {v : Value} (hc : w.cell? ⟨p, o, none⟩ = some v) : p ≠ b := by
  rintro rfl
  obtain ⟨D, ⟨es, clock, h1, _⟩, _⟩ := h
  simp [World.cell?, h1] at hc

theorem MSn.frS {w w' : World} {b n : Nat} {K : List UInt8 → Option Sn} {S : List Nat} (h : MSn w b n K) (F : Fr S w w') (hb : b ∉ S) : MSn w' b n K := by
  obtain ⟨D, ⟨es, clock, h1, h2⟩, h3⟩ := h
  exact ⟨D, ⟨es, clock, (F.block b (Array.getElem?_eq_some_iff.1 h1).1 hb).trans h1, h2⟩, h3⟩

theorem set3_0 {w : World} {g : Nat} {a b c : Value} {t : TypeId} (h : w.heap[g]? = some (.cells #[a, b, c] t)) (u : Value) : (w.setCell ⟨g, 0, none⟩ u).heap[g]? = some (.cells #[u, b, c] t) := by
  have hlt : g < w.heap.size := (Array.getElem?_eq_some_iff.1 h).1
  have h' : w.heap[g] = .cells #[a, b, c] t (0, 0) := by simpa [Array.getElem?_eq_getElem hlt] using h
  show (w.heap.modify g _)[g]? = _
  rw [Array.getElem?_eq_getElem (by simpa using hlt), Array.getElem_modify_self, h']
  rfl
theorem set3_1 {w : World} {g : Nat} {a b c : Value} {t : TypeId} (h : w.heap[g]? = some (.cells #[a, b, c] t)) (u : Value) : (w.setCell ⟨g, 1, none⟩ u).heap[g]? = some (.cells #[a, u, c] t) := by
  have hlt : g < w.heap.size := (Array.getElem?_eq_some_iff.1 h).1
  have h' : w.heap[g] = .cells #[a, b, c] t (0, 0) := by simpa [Array.getElem?_eq_getElem hlt] using h
  show (w.heap.modify g _)[g]? = _
  rw [Array.getElem?_eq_getElem (by simpa using hlt), Array.getElem_modify_self, h']
  rfl
theorem set3_2 {w : World} {g : Nat} {a b c : Value} {t : TypeId} (h : w.heap[g]? = some (.cells #[a, b, c] t)) (u : Value) : (w.setCell ⟨g, 2, none⟩ u).heap[g]? = some (.cells #[a, b, u] t) := by
  have hlt : g < w.heap.size := (Array.getElem?_eq_some_iff.1 h).1
  have h' : w.heap[g] = .cells #[a, b, c] t (0, 0) := by simpa [Array.getElem?_eq_getElem hlt] using h
  show (w.heap.modify g _)[g]? = _
  rw [Array.getElem?_eq_getElem (by simpa using hlt), Array.getElem_modify_self, h']
  rfl

theorem fold_l (w : World) (l : List UInt8) (hl : l.length ≤ 100000) : Calls Tryd.prog 28 #[.string ⟨l.toArray⟩] w fun e w' => e = .returned (.string ⟨(foldL l).toArray⟩) ∧ Fr [] w w' := by
  refine (fold_any w ⟨l.toArray⟩ (by simpa [ByteArray.size] using hl)).mono ?_
  rintro e w' ⟨rfl, F⟩
  exact ⟨by simp [ls, ba], F⟩

set_option maxRecDepth 100000 in
set_option maxHeartbeats 8000000 in
theorem apart_any (w : World) (v : Value) (l : List Nm) (hG : Gl w) (hv : Nms w v l) (hl : l.length ≤ 100) (hp : ∀ n ∈ l, n.path.length ≤ 100000) :
    Calls Tryd.prog 14 #[v] w fun e w' => e = .returned (.int .i64 (apartL l)) ∧ Fr [] w w' := by
  have HG := Lib.hid hG
  have HP := Lib.hid hp
  obtain ⟨ao, cap, rfl, hcap, hc⟩ := hv
  have HC := Lib.hid hc
  clear hG hp hc
  obtain ⟨n, hn⟩ : ∃ n, l.length = n := ⟨_, rfl⟩
  have HN := Lib.hid hn
  rw [hn] at hcap hl ⊢
  clear hn
  have hmm := @run_makeMap Tryd.prog
  have HMM := Lib.hid hmm
  clear hmm
  go_enter Tryd.func14, Tryd.ntmps14
  go_wp2_with fail
  go_loopw [19] (fun i wr => ∃ k : Nat, k ≤ n ∧ i = .int .i64 k ∧ (l.take k).any (fun n => !cleanL foldL n.path) = false ∧ Fr [] w wr) (fun i _ => n - (intOf i).toNat)
  case atStart => exact ⟨0, Nat.zero_le _, rfl, by simp, Fr.refl _ _⟩
  case round =>
    obtain ⟨k, hk, rfl, hall, F⟩ := hrel
    by_cases hlt : k < n
    · obtain ⟨m, hm⟩ := some_get l k (by rw [HN.out]; exact hlt)
      obtain ⟨b, o, rfl, hb, c0, c1⟩ := HC.out k m hm
      have d0 := (F.cell (p := ⟨b, o + k * 2, none⟩) hb (by simp)).trans c0
      have d1 := (F.cell (p := ⟨b, o + k * 2 + 1, none⟩) hb (by simp)).trans c1
      have hltI : (k : Int) < (n : Int) := by omega
      have HM := Lib.hid hm
      have HT := Lib.hid (show (l.take (k + 1)).any (fun n => !cleanL foldL n.path) = !cleanL foldL m.path by rw [List.take_add_one, hm, List.any_append, hall]; simp)
      have HMP := Lib.hid (HP.out m (List.mem_of_getElem? hm))
      clear hm hall c0 c1
      cases hcl : cleanL foldL m.path with
      | true =>
        have HCL := Lib.hid hcl
        clear hcl
        go_wp2_with (go_at_call 10; refine (clean_yes _ m.path (HG.out.fr (F.alloc _)) HMP.out HCL.out).mono ?_; rintro e w2 ⟨⟨v2, rfl⟩, F2⟩)
        go_roundw
        case rel => exact ⟨k + 1, by omega, by go_num, by rw [HT.out, HCL.out]; rfl, (F.alloc _).trans0 F2⟩
        case measure => simp [intOf]; omega
      | false =>
        have HCL := Lib.hid hcl
        have HA := Lib.hid (show apartL l = 15 by
          unfold apartL
          rw [show l.any (fun n => !cleanL foldL n.path) = true from List.any_eq_true.2 ⟨m, List.mem_of_getElem? HM.out, by rw [hcl]; rfl⟩]
          rfl)
        clear hcl
        go_wp2_with (go_at_call 10; refine (clean_no _ m.path (HG.out.fr (F.alloc _)) HMP.out HCL.out).mono ?_; rintro e w2 ⟨rfl, F2⟩)
        go_ret
        exact ⟨by rw [HA.out]; rfl, (F.alloc _).trans0 F2⟩
    · have hke : k = n := by omega
      subst hke
      rw [List.take_of_length_le (by rw [HN.out]; exact Nat.le_refl _)] at hall
      have HA := Lib.hid (show apartL l = if runS (fun _ => none) (l.flatMap evs) then 0 else 16 by unfold apartL; rw [hall]; rfl)
      have HCl := Lib.hid (show ∀ n ∈ l, cleanL foldL n.path = true from fun n hn => by
        rw [List.any_eq_false] at hall
        have := hall n hn
        simpa using this)
      clear hall
      have hmm := HMM.out
      go_wp2_with fail
      clear hmm
      obtain ⟨wM, hwM⟩ : ∃ wM, wM = wr.alloc (.map #[] 0) := ⟨_, rfl⟩
      have FM : Fr [] wr wM := hwM ▸ (Fr.refl _ _).alloc _
      have hMS : MSn wM wr.heap.size 0 (fun _ => none) := hwM ▸ MSn.made wr
      rw [← hwM]
      clear hwM
      generalize hb0 : wr.heap.size = mb at hMS ⊢
      have HMB := Lib.hid hb0
      have HMge := Lib.hid (show w.heap.size ≤ mb by rw [← hb0]; exact F.size)
      clear hb0
      go_loopw [36] (fun i wq => ∃ (j : Nat) (K : List UInt8 → Option Sn), j ≤ k ∧ i = .int .i64 j ∧ runS (fun _ => none) (l.flatMap evs) = runS K ((l.drop j).flatMap evs) ∧ MSn wq mb (j * 32) K ∧ Fr [mb] wM wq) (fun i _ => k - (intOf i).toNat)
      case atStart => exact ⟨0, _, Nat.zero_le _, rfl, rfl, hMS, Fr.refl _ _⟩
      case round =>
        obtain ⟨j, K, hj, rfl, hrun, hM, FQ⟩ := hrel
        have FT : Fr [] w wr := (F.trans0 FM).trans1 FQ (.inr (by rw [← HMB.out]; exact F.size))
        by_cases hjk : j < k
        · obtain ⟨m, hm⟩ := some_get l j (by rw [HN.out]; exact hjk)
          obtain ⟨b, o, rfl, hb, c0, c1⟩ := HC.out j m hm
          have d0 := (FT.cell (p := ⟨b, o + j * 2, none⟩) hb (by simp)).trans c0
          have d1 := (FT.cell (p := ⟨b, o + j * 2 + 1, none⟩) hb (by simp)).trans c1
          have hjI : (j : Int) < (k : Int) := by omega
          obtain ⟨hcb1, hcb2⟩ := clean_bounds (HCl.out m (List.mem_of_getElem? hm))
          have HRun := Lib.hid (show runS (fun _ => none) (l.flatMap evs) = runS K (evs m ++ (l.drop (j + 1)).flatMap evs) by
            rw [hrun, List.drop_eq_getElem_cons (by rw [HN.out]; exact hjk), List.flatMap_cons, (List.getElem?_eq_some_iff.1 hm).2])
          obtain ⟨path, dir⟩ := m
          dsimp only at *
          obtain ⟨ps, hps⟩ : ∃ ps, splitL path = ps := ⟨_, rfl⟩
          have HPS := Lib.hid hps
          have HPL := Lib.hid (show ∀ p ∈ ps, p.length ≤ 1024 from fun p hp => by rw [← hps] at hp; exact Nat.le_trans (splitL_part path p hp) hcb1)
          have HP0 := Lib.hid (show 1 ≤ ps.length by rw [← hps]; have := splitL_ne path; cases h : splitL path with | nil => exact absurd h this | cons a t => simp)
          rw [hps] at hcb2
          have HPath := Lib.hid hcb1
          have HMq := Lib.hid hM
          have HFT := Lib.hid FT
          have HMlt := Lib.hid hM.lt
          clear hps hrun hm c0 c1 hcb1 hM
          go_wp2_with (go_at_call 21; refine (split_any _ path (HG.out.fr (HFT.out.alloc _)) (Nat.le_trans HPath.out (by decide))).mono ?_; rw [HPS.out]; rintro e wS ⟨pao, rfl, hSl, FS⟩)
          have FWS : Fr [] wr wS := ((Fr.refl _ _).alloc _).trans0 FS
          have HMS := Lib.hid (HMq.out.fr FWS)
          have hn9 : wS.heap[wr.heap.size]? = some (.cells #[.string ⟨path.toArray⟩, .bool dir] 31) := (FS.block wr.heap.size (by simp) (by simp)).trans (heap_alloc_new wr _)
          obtain ⟨pao2, pcap2, hpe, -, -, po2⟩ := hSl.out
          injection hpe with e1 e2 e3
          subst e1
          simp only [stv_len] at po2
          obtain ⟨pb, po, rfl, hpb, hpc⟩ := po2 0 HP0.out
          have HPC := Lib.hid (show ∀ (t : Nat) p, ps[t]? = some p → wS.cell? ⟨pb, po + t, none⟩ = some (.string ⟨p.toArray⟩) from fun t p hp => (hpc t (List.getElem?_eq_some_iff.1 hp).1).trans (stv_get hp))
          have HPne := Lib.hid (show pb ≠ mb by
            obtain ⟨p0, hp0⟩ := some_get ps 0 HP0.out
            exact HMS.out.cell_ne (HPC.out 0 p0 hp0))
          have HFS := Lib.hid FWS
          have Hn9 := Lib.hid hn9
          have HSg := Lib.hid (show wr.heap.size < wS.heap.size by have := FS.size; simp at this; omega)
          have HFTS := Lib.hid (HFT.out.trans0 FWS)
          have HFQS := Lib.hid (FQ.trans0 FWS)
          clear hSl po2 hpc e2 e3 hn9 FS FWS FQ FT d0 d1 F FM hMS
          generalize hpl : ps.length = pn at *
          have HPN := Lib.hid hpl
          clear hpl
          generalize hg9 : wr.heap.size = g9 at *
          have HG9 := Lib.hid HMlt.out
          clear hg9
          go_loopw [45] (fun i wz => ∃ (q : Nat) (K2 : List UInt8 → Option Sn), q ≤ pn ∧ i = .int .i64 q ∧ runS (fun _ => none) (l.flatMap evs) = runS K2 ((evs ⟨path, dir⟩).drop q ++ (l.drop (j + 1)).flatMap evs) ∧ MSn wz mb (j * 32 + q) K2 ∧ Fr [mb] wS wz) (fun i _ => pn - (intOf i).toNat)
          case atStart => exact ⟨0, K, Nat.zero_le _, rfl, by rw [List.drop_zero]; exact HRun.out, HMS.out, Fr.refl _ _⟩
          case round =>
            obtain ⟨q, K2, hq, rfl, hrun, hM2, FZ⟩ := hrel
            by_cases hqp : q < pn
            · have FWZ : Fr [] w wr := HFTS.out.trans1 FZ (.inr HMge.out)
              obtain ⟨P, hP⟩ : ∃ P, joinL (ps.take (q + 1)) = P := ⟨_, rfl⟩
              have HP2 := Lib.hid hP
              have hPl : P.length ≤ 40000 := by
                have h1 := join_len 1024 (ps.take (q + 1)) (fun p hp => HPL.out p (List.mem_of_mem_take hp))
                have h2 : (ps.take (q + 1)).length ≤ 32 := by rw [List.length_take]; omega
                have h3 := Nat.mul_le_mul_right 1025 h2
                rw [hP] at h1
                omega
              have HPLn := Lib.hid hPl
              have HTL := Lib.hid (show (ps.take (q + 1)).length = q + 1 by rw [List.length_take, HPN.out]; omega)
              have HCells := Lib.hid (show ∀ (t : Nat) p, (ps.take (q + 1))[t]? = some p → wr.cell? ⟨pb, po + t, none⟩ = some (.string ⟨p.toArray⟩) from fun t p hp => by
                rw [List.getElem?_take] at hp
                split at hp
                · exact (FZ.cell (p := ⟨pb, po + t, none⟩) hpb (by simp; exact HPne.out)).trans (HPC.out t p hp)
                · cases hp)
              have HRun2 := Lib.hid (show runS (fun _ => none) (l.flatMap evs) = runS K2 (⟨P, decide (q + 1 = pn), decide (q + 1 = pn) && !dir⟩ :: ((evs ⟨path, dir⟩).drop (q + 1) ++ (l.drop (j + 1)).flatMap evs)) by
                rw [hrun, evs_drop ⟨path, dir⟩ q (by dsimp only; rw [HPS.out, HPN.out]; exact hqp), List.cons_append]
                dsimp only
                unfold nowS
                rw [HPS.out, hP, HPN.out])
              have HM2 := Lib.hid hM2
              have HFZ := Lib.hid FZ
              have HFWZ := Lib.hid FWZ
              have n9 := (FZ.block g9 HSg.out (by simp; have := HG9.out; omega)).trans Hn9.out
              have e1 : wr.cell? ⟨g9, 1, none⟩ = some (.bool dir) := by rw [Go.Joins.cell_of_block n9]; rfl
              have hpbz : pb < wr.heap.size := Nat.lt_of_lt_of_le hpb FZ.size
              have hg9z : g9 < wr.heap.size := Nat.lt_of_lt_of_le HSg.out FZ.size
              have hqI : (q : Int) < (pn : Int) := by omega
              have hqI2 : (q : Int) + 1 ≤ (pn : Int) := by omega
              clear hP hPl hrun hM2 FZ FWZ
              cases hK : K2 (foldL P) with
              | none =>
                have HK := Lib.hid hK
                clear hK
                by_cases hlast : q + 1 = pn
                · have t0 : ((q : Int) == (pn : Int) - 1) = true := by rw [beq_iff_eq]; omega
                  have HLast := Lib.hid hlast
                  clear hlast
                  have HRunE := Lib.hid (show runS (fun _ => none) (l.flatMap evs) = runS K2 (⟨P, true, !dir⟩ :: ((evs ⟨path, dir⟩).drop (q + 1) ++ (l.drop (j + 1)).flatMap evs)) by rw [HRun2.out]; simp [HLast.out])
                  go_wp2_with (first
                    | (go_at_call 27; rw [show q + 1 = (ps.take (q + 1)).length from HTL.out.symm]; refine (join_any _ pb po _ (ps.take (q + 1)) HCells.out hpbz (by rw [HTL.out]; omega) (by rw [HTL.out]; omega) (by rw [HP2.out]; exact Nat.le_trans HPLn.out (by decide))).mono ?_; rw [HP2.out]; rintro e w4 ⟨rfl, F4⟩; have e1' := (F4.cell (p := ⟨g9, 1, none⟩) hg9z (by simp)).trans e1)
                    | (go_at_call 28; refine (fold_l _ P (Nat.le_trans HPLn.out (by decide))).mono ?_; rintro e w5 ⟨rfl, F5⟩; have F5b := (F4.alloc _).trans0 F5; have hlook := (HM2.out.fr F5b).look (foldL P) (by rw [show (foldL P).length = P.length by simp [foldL]]; exact Nat.le_trans HPLn.out (by decide)); rw [HK.out] at hlook; dsimp only [Option.getD, Option.isSome] at hlook; unfold snv at hlook; dsimp only [Sn.zero] at hlook))
                  obtain ⟨w6, hw6⟩ : ∃ w6, w6 = w5.alloc (.cells #[.string ⟨#[]⟩, .bool false, .bool false] 52) := ⟨_, rfl⟩
                  have F6 : Fr [] w5 w6 := hw6 ▸ (Fr.refl _ _).alloc _
                  have h15 : w6.heap[w5.heap.size]? = some (.cells #[.string ⟨#[]⟩, .bool false, .bool false] 52) := hw6 ▸ heap_alloc_new w5 _
                  rw [← hw6]
                  clear hw6 hlook
                  have h14 : w6.heap[w4.heap.size]? = some (.cells #[.string ⟨P.toArray⟩, .bool true, .bool (!dir)] 52) := ((F5.trans0 F6).block w4.heap.size (by simp) (by simp)).trans (heap_alloc_new w4 _)
                  have h45 : w4.heap.size < w5.heap.size := by have := F5.size; simp at this; omega
                  have HGS := Lib.hid (show wS.heap.size ≤ w5.heap.size by have := HFZ.out.size; have := F5b.size; omega)
                  have HGM := Lib.hid (show w5.heap.size ≠ mb by have := HG9.out; have := F5b.size; omega)
                  have a0 : w6.cell? ⟨w5.heap.size, 0, none⟩ = some (.string ⟨#[]⟩) := by rw [Go.Joins.cell_of_block h15]; rfl
                  have a1 : w6.cell? ⟨w5.heap.size, 1, none⟩ = some (.bool false) := by rw [Go.Joins.cell_of_block h15]; rfl
                  have a2 : w6.cell? ⟨w5.heap.size, 2, none⟩ = some (.bool false) := by rw [Go.Joins.cell_of_block h15]; rfl
                  have b1 : w6.cell? ⟨w4.heap.size, 1, none⟩ = some (.bool true) := by rw [Go.Joins.cell_of_block h14]; rfl
                  have b2 : w6.cell? ⟨w4.heap.size, 2, none⟩ = some (.bool (!dir)) := by rw [Go.Joins.cell_of_block h14]; rfl
                  have z0 : w6.frozen? ⟨w5.heap.size, 0, none⟩ = false := frozen_of_row _ _ _ _ _ h15
                  have z1 : w6.frozen? ⟨w5.heap.size, 1, none⟩ = false := frozen_of_row _ _ _ _ _ h15
                  have z2 : w6.frozen? ⟨w5.heap.size, 2, none⟩ = false := frozen_of_row _ _ _ _ _ h15
                  have HF46 := Lib.hid (F5b.trans0 F6)
                  have H15 := Lib.hid h15
                  generalize hg5 : w5.heap.size = g15 at *
                  generalize hg4 : w4.heap.size = g14 at *
                  have hne : ¬ g14 = g15 := by omega
                  have hne2 : ¬ g15 = g14 := by omega
                  clear h45 F4 F5 F5b F6 h14 h15 e1 e1' n9 hg5 hg4
                  go_region
                  obtain ⟨w7, hw7⟩ : ∃ w7, w7 = (((w6.setCell ⟨g15, 1, none⟩ (.bool true)).setCell ⟨g15, 2, none⟩ (.bool (!dir))).setCell ⟨g15, 0, none⟩ (.string ⟨P.toArray⟩)).drew := ⟨_, rfl⟩
                  have F67 : Fr [g15] w6 w7 := hw7 ▸ ((((Fr.refl _ _).setCell (.inl (by simp)) _).setCell (.inl (by simp)) _).setCell (.inl (by simp)) _).drew
                  have h15b : w7.heap[g15]? = some (.cells #[.string ⟨P.toArray⟩, .bool true, .bool (!dir)] 52) := hw7 ▸ set3_0 (set3_2 (set3_1 H15.out _) _) _
                  rw [← hw7]
                  clear hw7 a0 a1 a2 b1 b2 z0 z1 z2
                  have r0 : w7.cell? ⟨g15, 0, none⟩ = some (.string ⟨P.toArray⟩) := by rw [Go.Joins.cell_of_block h15b]; rfl
                  have r1 : w7.cell? ⟨g15, 1, none⟩ = some (.bool true) := by rw [Go.Joins.cell_of_block h15b]; rfl
                  have r2 : w7.cell? ⟨g15, 2, none⟩ = some (.bool (!dir)) := by rw [Go.Joins.cell_of_block h15b]; rfl
                  have hgm : g15 ≠ mb := HGM.out
                  have HM7 := Lib.hid ((HM2.out.fr HF46.out).frS F67 (by simpa using hgm.symm))
                  have h15l : g15 < w7.heap.size := (Array.getElem?_eq_some_iff.1 h15b).1
                  have HF67 := Lib.hid F67
                  clear h15b F67
                  go_wp2_with fail
                  go_region_held3 (fun wx => wx.cell? ⟨g15, 0, none⟩ = some (.string ⟨P.toArray⟩) ∧ wx.cell? ⟨g15, 1, none⟩ = some (.bool true) ∧ wx.cell? ⟨g15, 2, none⟩ = some (.bool (!dir)))
                    (first | exact ⟨r0, r1, r2⟩ | exact ⟨s0, s1, s2⟩ | exact ⟨t0', t1', t2'⟩ | go_keep)
                    (first
                      | (go_at_call 28; refine (fold_l _ P (Nat.le_trans HPLn.out (by decide))).mono ?_; rintro e w8 ⟨rfl, F8⟩; have F78 : Fr [] w7 w8 := ((Fr.refl _ _).drew).trans0 F8; have s0 := (F78.cell (p := ⟨g15, 0, none⟩) h15l (by simp)).trans r0; have s1 := (F78.cell (p := ⟨g15, 1, none⟩) h15l (by simp)).trans r1; have s2 := (F78.cell (p := ⟨g15, 2, none⟩) h15l (by simp)).trans r2; obtain ⟨w9, hupd, hM9, hg9⟩ := (HM7.out.fr F78).put (by omega) (foldL P) (by rw [show (foldL P).length = P.length by simp [foldL]]; exact Nat.le_trans HPLn.out (by decide)) ⟨P, true, !dir⟩; unfold snv at hupd; dsimp only at hupd; have HF89 := Lib.hid ((Fr.refl [mb] w8).grown hg9 (fun k hk => .inl (by simp at hk; simp [hk]))); have HM9 := Lib.hid hM9; clear hM9 hg9; have h8 := Nat.lt_of_lt_of_le h15l F78.size; have t0' := (HF89.out.cell (p := ⟨g15, 0, none⟩) h8 (by simp; exact hgm)).trans s0; have t1' := (HF89.out.cell (p := ⟨g15, 1, none⟩) h8 (by simp; exact hgm)).trans s1; have t2' := (HF89.out.cell (p := ⟨g15, 2, none⟩) h8 (by simp; exact hgm)).trans s2))
                  have HFin := Lib.hid (show Fr [mb] wS w9 from (((HFZ.out.trans0 HF46.out).trans1 HF67.out (.inr HGS.out)).trans0 F78).trans HF89.out (by simp))
                  have HRE := Lib.hid (show runS (fun _ => none) (l.flatMap evs) = runS (upd K2 (foldL P) ⟨P, true, !dir⟩) ((evs ⟨path, dir⟩).drop (q + 1) ++ (l.drop (j + 1)).flatMap evs) by
                    rw [HRunE.out]
                    simp only [runS, HK.out]
                    rfl)
                  clear hupd s0 s1 s2 t0' t1' t2' r0 r1 r2
                  go_wp2_with fail
                  go_roundw
                  case rel => exact ⟨q + 1, _, by omega, by go_num, HRE.out, by rw [show j * 32 + (q + 1) = j * 32 + q + 1 from by omega]; exact HM9.out, HFin.out⟩
                  case measure => simp [intOf]; omega
                · have t0 : ((q : Int) == (pn : Int) - 1) = false := by rw [beq_eq_false_iff_ne]; omega
                  have HLast := Lib.hid hlast
                  clear hlast
                  have HRunE := Lib.hid (show runS (fun _ => none) (l.flatMap evs) = runS K2 (⟨P, false, false⟩ :: ((evs ⟨path, dir⟩).drop (q + 1) ++ (l.drop (j + 1)).flatMap evs)) by rw [HRun2.out]; simp [HLast.out])
                  go_wp2_with (first
                    | (go_at_call 27; rw [show q + 1 = (ps.take (q + 1)).length from HTL.out.symm]; refine (join_any _ pb po _ (ps.take (q + 1)) HCells.out hpbz (by rw [HTL.out]; omega) (by rw [HTL.out]; omega) (by rw [HP2.out]; exact Nat.le_trans HPLn.out (by decide))).mono ?_; rw [HP2.out]; rintro e w4 ⟨rfl, F4⟩; have e1' := (F4.cell (p := ⟨g9, 1, none⟩) hg9z (by simp)).trans e1)
                    | (go_at_call 28; refine (fold_l _ P (Nat.le_trans HPLn.out (by decide))).mono ?_; rintro e w5 ⟨rfl, F5⟩; have F5b := (F4.alloc _).trans0 F5; have hlook := (HM2.out.fr F5b).look (foldL P) (by rw [show (foldL P).length = P.length by simp [foldL]]; exact Nat.le_trans HPLn.out (by decide)); rw [HK.out] at hlook; dsimp only [Option.getD, Option.isSome] at hlook; unfold snv at hlook; dsimp only [Sn.zero] at hlook))
                  obtain ⟨w6, hw6⟩ : ∃ w6, w6 = w5.alloc (.cells #[.string ⟨#[]⟩, .bool false, .bool false] 52) := ⟨_, rfl⟩
                  have F6 : Fr [] w5 w6 := hw6 ▸ (Fr.refl _ _).alloc _
                  have h15 : w6.heap[w5.heap.size]? = some (.cells #[.string ⟨#[]⟩, .bool false, .bool false] 52) := hw6 ▸ heap_alloc_new w5 _
                  rw [← hw6]
                  clear hw6 hlook
                  have h14 : w6.heap[w4.heap.size]? = some (.cells #[.string ⟨P.toArray⟩, .bool false, .bool false] 52) := ((F5.trans0 F6).block w4.heap.size (by simp) (by simp)).trans (heap_alloc_new w4 _)
                  have h45 : w4.heap.size < w5.heap.size := by have := F5.size; simp at this; omega
                  have HGS := Lib.hid (show wS.heap.size ≤ w5.heap.size by have := HFZ.out.size; have := F5b.size; omega)
                  have HGM := Lib.hid (show w5.heap.size ≠ mb by have := HG9.out; have := F5b.size; omega)
                  have a0 : w6.cell? ⟨w5.heap.size, 0, none⟩ = some (.string ⟨#[]⟩) := by rw [Go.Joins.cell_of_block h15]; rfl
                  have a1 : w6.cell? ⟨w5.heap.size, 1, none⟩ = some (.bool false) := by rw [Go.Joins.cell_of_block h15]; rfl
                  have a2 : w6.cell? ⟨w5.heap.size, 2, none⟩ = some (.bool false) := by rw [Go.Joins.cell_of_block h15]; rfl
                  have b1 : w6.cell? ⟨w4.heap.size, 1, none⟩ = some (.bool false) := by rw [Go.Joins.cell_of_block h14]; rfl
                  have b2 : w6.cell? ⟨w4.heap.size, 2, none⟩ = some (.bool (false)) := by rw [Go.Joins.cell_of_block h14]; rfl
                  have z0 : w6.frozen? ⟨w5.heap.size, 0, none⟩ = false := frozen_of_row _ _ _ _ _ h15
                  have z1 : w6.frozen? ⟨w5.heap.size, 1, none⟩ = false := frozen_of_row _ _ _ _ _ h15
                  have z2 : w6.frozen? ⟨w5.heap.size, 2, none⟩ = false := frozen_of_row _ _ _ _ _ h15
                  have HF46 := Lib.hid (F5b.trans0 F6)
                  have H15 := Lib.hid h15
                  generalize hg5 : w5.heap.size = g15 at *
                  generalize hg4 : w4.heap.size = g14 at *
                  have hne : ¬ g14 = g15 := by omega
                  have hne2 : ¬ g15 = g14 := by omega
                  clear h45 F4 F5 F5b F6 h14 h15 e1 e1' n9 hg5 hg4
                  go_region
                  obtain ⟨w7, hw7⟩ : ∃ w7, w7 = (((w6.setCell ⟨g15, 1, none⟩ (.bool false)).setCell ⟨g15, 2, none⟩ (.bool (false))).setCell ⟨g15, 0, none⟩ (.string ⟨P.toArray⟩)).drew := ⟨_, rfl⟩
                  have F67 : Fr [g15] w6 w7 := hw7 ▸ ((((Fr.refl _ _).setCell (.inl (by simp)) _).setCell (.inl (by simp)) _).setCell (.inl (by simp)) _).drew
                  have h15b : w7.heap[g15]? = some (.cells #[.string ⟨P.toArray⟩, .bool false, .bool (false)] 52) := hw7 ▸ set3_0 (set3_2 (set3_1 H15.out _) _) _
                  rw [← hw7]
                  clear hw7 a0 a1 a2 b1 b2 z0 z1 z2
                  have r0 : w7.cell? ⟨g15, 0, none⟩ = some (.string ⟨P.toArray⟩) := by rw [Go.Joins.cell_of_block h15b]; rfl
                  have r1 : w7.cell? ⟨g15, 1, none⟩ = some (.bool false) := by rw [Go.Joins.cell_of_block h15b]; rfl
                  have r2 : w7.cell? ⟨g15, 2, none⟩ = some (.bool (false)) := by rw [Go.Joins.cell_of_block h15b]; rfl
                  have hgm : g15 ≠ mb := HGM.out
                  have HM7 := Lib.hid ((HM2.out.fr HF46.out).frS F67 (by simpa using hgm.symm))
                  have h15l : g15 < w7.heap.size := (Array.getElem?_eq_some_iff.1 h15b).1
                  have HF67 := Lib.hid F67
                  clear h15b F67
                  go_wp2_with fail
                  go_region_held3 (fun wx => wx.cell? ⟨g15, 0, none⟩ = some (.string ⟨P.toArray⟩) ∧ wx.cell? ⟨g15, 1, none⟩ = some (.bool false) ∧ wx.cell? ⟨g15, 2, none⟩ = some (.bool (false)))
                    (first | exact ⟨r0, r1, r2⟩ | exact ⟨s0, s1, s2⟩ | exact ⟨t0', t1', t2'⟩ | go_keep)
                    (first
                      | (go_at_call 28; refine (fold_l _ P (Nat.le_trans HPLn.out (by decide))).mono ?_; rintro e w8 ⟨rfl, F8⟩; have F78 : Fr [] w7 w8 := ((Fr.refl _ _).drew).trans0 F8; have s0 := (F78.cell (p := ⟨g15, 0, none⟩) h15l (by simp)).trans r0; have s1 := (F78.cell (p := ⟨g15, 1, none⟩) h15l (by simp)).trans r1; have s2 := (F78.cell (p := ⟨g15, 2, none⟩) h15l (by simp)).trans r2; obtain ⟨w9, hupd, hM9, hg9⟩ := (HM7.out.fr F78).put (by omega) (foldL P) (by rw [show (foldL P).length = P.length by simp [foldL]]; exact Nat.le_trans HPLn.out (by decide)) ⟨P, false, false⟩; unfold snv at hupd; dsimp only at hupd; have HF89 := Lib.hid ((Fr.refl [mb] w8).grown hg9 (fun k hk => .inl (by simp at hk; simp [hk]))); have HM9 := Lib.hid hM9; clear hM9 hg9; have h8 := Nat.lt_of_lt_of_le h15l F78.size; have t0' := (HF89.out.cell (p := ⟨g15, 0, none⟩) h8 (by simp; exact hgm)).trans s0; have t1' := (HF89.out.cell (p := ⟨g15, 1, none⟩) h8 (by simp; exact hgm)).trans s1; have t2' := (HF89.out.cell (p := ⟨g15, 2, none⟩) h8 (by simp; exact hgm)).trans s2))
                  have HFin := Lib.hid (show Fr [mb] wS w9 from (((HFZ.out.trans0 HF46.out).trans1 HF67.out (.inr HGS.out)).trans0 F78).trans HF89.out (by simp))
                  have HRE := Lib.hid (show runS (fun _ => none) (l.flatMap evs) = runS (upd K2 (foldL P) ⟨P, false, false⟩) ((evs ⟨path, dir⟩).drop (q + 1) ++ (l.drop (j + 1)).flatMap evs) by
                    rw [HRunE.out]
                    simp only [runS, HK.out]
                    rfl)
                  clear hupd s0 s1 s2 t0' t1' t2' r0 r1 r2
                  go_wp2_with fail
                  go_roundw
                  case rel => exact ⟨q + 1, _, by omega, by go_num, HRE.out, by rw [show j * 32 + (q + 1) = j * 32 + q + 1 from by omega]; exact HM9.out, HFin.out⟩
                  case measure => simp [intOf]; omega
              | some was =>
                have HK := Lib.hid hK
                clear hK
                obtain ⟨wp, we, wf⟩ := was
                by_cases hlast : q + 1 = pn
                · have t0 : ((q : Int) == (pn : Int) - 1) = true := by rw [beq_iff_eq]; omega
                  have HLast := Lib.hid hlast
                  clear hlast
                  cases hmt : meetS ⟨wp, we, wf⟩ ⟨P, true, !dir⟩ with
                  | true =>
                    have HMeet := Lib.hid hmt
                    clear hmt
                    have HRunE := Lib.hid (show runS (fun _ => none) (l.flatMap evs) = runS K2 (⟨P, true, !dir⟩ :: ((evs ⟨path, dir⟩).drop (q + 1) ++ (l.drop (j + 1)).flatMap evs)) by rw [HRun2.out]; simp [HLast.out])
                    go_wp2_with (first
                      | (go_at_call 27; rw [show q + 1 = (ps.take (q + 1)).length from HTL.out.symm]; refine (join_any _ pb po _ (ps.take (q + 1)) HCells.out hpbz (by rw [HTL.out]; omega) (by rw [HTL.out]; omega) (by rw [HP2.out]; exact Nat.le_trans HPLn.out (by decide))).mono ?_; rw [HP2.out]; rintro e w4 ⟨rfl, F4⟩; have e1' := (F4.cell (p := ⟨g9, 1, none⟩) hg9z (by simp)).trans e1)
                      | (go_at_call 28; refine (fold_l _ P (Nat.le_trans HPLn.out (by decide))).mono ?_; rintro e w5 ⟨rfl, F5⟩; have F5b := (F4.alloc _).trans0 F5; have hlook := (HM2.out.fr F5b).look (foldL P) (by rw [show (foldL P).length = P.length by simp [foldL]]; exact Nat.le_trans HPLn.out (by decide)); rw [HK.out] at hlook; dsimp only [Option.getD, Option.isSome] at hlook; unfold snv at hlook; dsimp only at hlook; have h14c := (F5.block w4.heap.size (by simp) (by simp)).trans (heap_alloc_new w4 _); have nw0 : (w5.alloc (.cells #[.string ⟨wp.toArray⟩, .bool we, .bool wf] 52)).cell? ⟨w4.heap.size, 0, none⟩ = some (.string ⟨P.toArray⟩) := (((Fr.refl [] w5).alloc _).cell (p := ⟨w4.heap.size, 0, none⟩) (Array.getElem?_eq_some_iff.1 h14c).1 (by simp)).trans (by rw [Go.Joins.cell_of_block h14c]; rfl); have nw1 : (w5.alloc (.cells #[.string ⟨wp.toArray⟩, .bool we, .bool wf] 52)).cell? ⟨w4.heap.size, 1, none⟩ = some (.bool true) := (((Fr.refl [] w5).alloc _).cell (p := ⟨w4.heap.size, 1, none⟩) (Array.getElem?_eq_some_iff.1 h14c).1 (by simp)).trans (by rw [Go.Joins.cell_of_block h14c]; rfl); have nw2 : (w5.alloc (.cells #[.string ⟨wp.toArray⟩, .bool we, .bool wf] 52)).cell? ⟨w4.heap.size, 2, none⟩ = some (.bool (!dir)) := (((Fr.refl [] w5).alloc _).cell (p := ⟨w4.heap.size, 2, none⟩) (Array.getElem?_eq_some_iff.1 h14c).1 (by simp)).trans (by rw [Go.Joins.cell_of_block h14c]; rfl))
                      | (go_at_call 29; refine (meet_any _ ⟨wp, we, wf⟩ ⟨P, true, !dir⟩).mono ?_; rw [HMeet.out]; rintro e w6 ⟨rfl, Fm⟩))
                    have HA16 := Lib.hid (show apartL l = 16 by
                      rw [HA.out, HRunE.out]
                      simp only [runS, HK.out]
                      rw [if_pos HMeet.out]
                      rfl)
                    go_ret
                    exact ⟨by rw [HA16.out]; rfl, (HFWZ.out.trans0 F5b).trans0 (((Fr.refl _ _).alloc _).trans0 Fm)⟩
                  | false =>
                    have h3 : we = false ∧ wf = false ∧ dir = true := by
                      unfold meetS at hmt
                      simp only [Bool.or_eq_false_iff, Bool.and_true, Bool.not_eq_false'] at hmt
                      exact ⟨hmt.1.1.2, hmt.1.2, hmt.2⟩
                    obtain ⟨rfl, rfl, rfl⟩ := h3
                    have HMeet := Lib.hid (show meetS ⟨wp, false, false⟩ ⟨P, true, false⟩ = false from hmt)
                    clear hmt
                    have HRunE := Lib.hid (show runS (fun _ => none) (l.flatMap evs) = runS K2 (⟨P, true, false⟩ :: ((evs ⟨path, true⟩).drop (q + 1) ++ (l.drop (j + 1)).flatMap evs)) by rw [HRun2.out]; simp [HLast.out])
                    go_wp2_with (first
                      | (go_at_call 27; rw [show q + 1 = (ps.take (q + 1)).length from HTL.out.symm]; refine (join_any _ pb po _ (ps.take (q + 1)) HCells.out hpbz (by rw [HTL.out]; omega) (by rw [HTL.out]; omega) (by rw [HP2.out]; exact Nat.le_trans HPLn.out (by decide))).mono ?_; rw [HP2.out]; rintro e w4 ⟨rfl, F4⟩; have e1' := (F4.cell (p := ⟨g9, 1, none⟩) hg9z (by simp)).trans e1)
                      | (go_at_call 28; refine (fold_l _ P (Nat.le_trans HPLn.out (by decide))).mono ?_; rintro e w5 ⟨rfl, F5⟩; have F5b := (F4.alloc _).trans0 F5; have hlook := (HM2.out.fr F5b).look (foldL P) (by rw [show (foldL P).length = P.length by simp [foldL]]; exact Nat.le_trans HPLn.out (by decide)); rw [HK.out] at hlook; dsimp only [Option.getD, Option.isSome] at hlook; unfold snv at hlook; dsimp only at hlook; have h14c := (F5.block w4.heap.size (by simp) (by simp)).trans (heap_alloc_new w4 _); have nw0 : (w5.alloc (.cells #[.string ⟨wp.toArray⟩, .bool false, .bool false] 52)).cell? ⟨w4.heap.size, 0, none⟩ = some (.string ⟨P.toArray⟩) := (((Fr.refl [] w5).alloc _).cell (p := ⟨w4.heap.size, 0, none⟩) (Array.getElem?_eq_some_iff.1 h14c).1 (by simp)).trans (by rw [Go.Joins.cell_of_block h14c]; rfl); have nw1 : (w5.alloc (.cells #[.string ⟨wp.toArray⟩, .bool false, .bool false] 52)).cell? ⟨w4.heap.size, 1, none⟩ = some (.bool true) := (((Fr.refl [] w5).alloc _).cell (p := ⟨w4.heap.size, 1, none⟩) (Array.getElem?_eq_some_iff.1 h14c).1 (by simp)).trans (by rw [Go.Joins.cell_of_block h14c]; rfl); have nw2 : (w5.alloc (.cells #[.string ⟨wp.toArray⟩, .bool false, .bool false] 52)).cell? ⟨w4.heap.size, 2, none⟩ = some (.bool (false)) := (((Fr.refl [] w5).alloc _).cell (p := ⟨w4.heap.size, 2, none⟩) (Array.getElem?_eq_some_iff.1 h14c).1 (by simp)).trans (by rw [Go.Joins.cell_of_block h14c]; rfl))
                      | (go_at_call 29; refine (meet_any _ ⟨wp, false, false⟩ ⟨P, true, false⟩).mono ?_; rw [HMeet.out]; rintro e w6 ⟨rfl, Fm⟩))
                    have F6 : Fr [] w5 w6 := ((Fr.refl _ _).alloc _).trans0 Fm
                    have h15 : w6.heap[w5.heap.size]? = some (.cells #[.string ⟨wp.toArray⟩, .bool false, .bool false] 52) := (Fm.block w5.heap.size (by simp) (by simp)).trans (heap_alloc_new w5 _)
                    clear hlook Fm h14c nw0 nw1 nw2
                    have h14 : w6.heap[w4.heap.size]? = some (.cells #[.string ⟨P.toArray⟩, .bool true, .bool false] 52) := ((F5.trans0 F6).block w4.heap.size (by simp) (by simp)).trans (heap_alloc_new w4 _)
                    have h45 : w4.heap.size < w5.heap.size := by have := F5.size; simp at this; omega
                    have HGS := Lib.hid (show wS.heap.size ≤ w5.heap.size by have := HFZ.out.size; have := F5b.size; omega)
                    have HGM := Lib.hid (show w5.heap.size ≠ mb by have := HG9.out; have := F5b.size; omega)
                    have a0 : w6.cell? ⟨w5.heap.size, 0, none⟩ = some (.string ⟨wp.toArray⟩) := by rw [Go.Joins.cell_of_block h15]; rfl
                    have a1 : w6.cell? ⟨w5.heap.size, 1, none⟩ = some (.bool false) := by rw [Go.Joins.cell_of_block h15]; rfl
                    have a2 : w6.cell? ⟨w5.heap.size, 2, none⟩ = some (.bool false) := by rw [Go.Joins.cell_of_block h15]; rfl
                    have b1 : w6.cell? ⟨w4.heap.size, 1, none⟩ = some (.bool true) := by rw [Go.Joins.cell_of_block h14]; rfl
                    have b2 : w6.cell? ⟨w4.heap.size, 2, none⟩ = some (.bool (false)) := by rw [Go.Joins.cell_of_block h14]; rfl
                    have z0 : w6.frozen? ⟨w5.heap.size, 0, none⟩ = false := frozen_of_row _ _ _ _ _ h15
                    have z1 : w6.frozen? ⟨w5.heap.size, 1, none⟩ = false := frozen_of_row _ _ _ _ _ h15
                    have z2 : w6.frozen? ⟨w5.heap.size, 2, none⟩ = false := frozen_of_row _ _ _ _ _ h15
                    have HF46 := Lib.hid (F5b.trans0 F6)
                    have H15 := Lib.hid h15
                    generalize hg5 : w5.heap.size = g15 at *
                    generalize hg4 : w4.heap.size = g14 at *
                    have hne : ¬ g14 = g15 := by omega
                    have hne2 : ¬ g15 = g14 := by omega
                    clear h45 F4 F5 F5b F6 h14 h15 e1 e1' n9 hg5 hg4
                    go_region
                    obtain ⟨w7, hw7⟩ : ∃ w7, w7 = (((w6.setCell ⟨g15, 1, none⟩ (.bool true)).setCell ⟨g15, 2, none⟩ (.bool (false))).setCell ⟨g15, 0, none⟩ (.string ⟨P.toArray⟩)).drew := ⟨_, rfl⟩
                    have F67 : Fr [g15] w6 w7 := hw7 ▸ ((((Fr.refl _ _).setCell (.inl (by simp)) _).setCell (.inl (by simp)) _).setCell (.inl (by simp)) _).drew
                    have h15b : w7.heap[g15]? = some (.cells #[.string ⟨P.toArray⟩, .bool true, .bool (false)] 52) := hw7 ▸ set3_0 (set3_2 (set3_1 H15.out _) _) _
                    rw [← hw7]
                    clear hw7 a0 a1 a2 b1 b2 z0 z1 z2
                    have r0 : w7.cell? ⟨g15, 0, none⟩ = some (.string ⟨P.toArray⟩) := by rw [Go.Joins.cell_of_block h15b]; rfl
                    have r1 : w7.cell? ⟨g15, 1, none⟩ = some (.bool true) := by rw [Go.Joins.cell_of_block h15b]; rfl
                    have r2 : w7.cell? ⟨g15, 2, none⟩ = some (.bool (false)) := by rw [Go.Joins.cell_of_block h15b]; rfl
                    have hgm : g15 ≠ mb := HGM.out
                    have HM7 := Lib.hid ((HM2.out.fr HF46.out).frS F67 (by simpa using hgm.symm))
                    have h15l : g15 < w7.heap.size := (Array.getElem?_eq_some_iff.1 h15b).1
                    have HF67 := Lib.hid F67
                    clear h15b F67
                    go_wp2_with fail
                    go_region_held3 (fun wx => wx.cell? ⟨g15, 0, none⟩ = some (.string ⟨P.toArray⟩) ∧ wx.cell? ⟨g15, 1, none⟩ = some (.bool true) ∧ wx.cell? ⟨g15, 2, none⟩ = some (.bool (false)))
                      (first | exact ⟨r0, r1, r2⟩ | exact ⟨s0, s1, s2⟩ | exact ⟨t0', t1', t2'⟩ | go_keep)
                      (first
                        | (go_at_call 28; refine (fold_l _ P (Nat.le_trans HPLn.out (by decide))).mono ?_; rintro e w8 ⟨rfl, F8⟩; have F78 : Fr [] w7 w8 := ((Fr.refl _ _).drew).trans0 F8; have s0 := (F78.cell (p := ⟨g15, 0, none⟩) h15l (by simp)).trans r0; have s1 := (F78.cell (p := ⟨g15, 1, none⟩) h15l (by simp)).trans r1; have s2 := (F78.cell (p := ⟨g15, 2, none⟩) h15l (by simp)).trans r2; obtain ⟨w9, hupd, hM9, hg9⟩ := (HM7.out.fr F78).put (by omega) (foldL P) (by rw [show (foldL P).length = P.length by simp [foldL]]; exact Nat.le_trans HPLn.out (by decide)) ⟨P, true, false⟩; unfold snv at hupd; dsimp only at hupd; have HF89 := Lib.hid ((Fr.refl [mb] w8).grown hg9 (fun k hk => .inl (by simp at hk; simp [hk]))); have HM9 := Lib.hid hM9; clear hM9 hg9; have h8 := Nat.lt_of_lt_of_le h15l F78.size; have t0' := (HF89.out.cell (p := ⟨g15, 0, none⟩) h8 (by simp; exact hgm)).trans s0; have t1' := (HF89.out.cell (p := ⟨g15, 1, none⟩) h8 (by simp; exact hgm)).trans s1; have t2' := (HF89.out.cell (p := ⟨g15, 2, none⟩) h8 (by simp; exact hgm)).trans s2))
                    have HFin := Lib.hid (show Fr [mb] wS w9 from (((HFZ.out.trans0 HF46.out).trans1 HF67.out (.inr HGS.out)).trans0 F78).trans HF89.out (by simp))
                    have HRE := Lib.hid (show runS (fun _ => none) (l.flatMap evs) = runS (upd K2 (foldL P) ⟨P, true, false⟩) ((evs ⟨path, true⟩).drop (q + 1) ++ (l.drop (j + 1)).flatMap evs) by
                      rw [HRunE.out]
                      simp only [runS, HK.out]
                      rw [if_neg (by rw [HMeet.out]; simp)]
                      rfl)
                    clear hupd s0 s1 s2 t0' t1' t2' r0 r1 r2
                    go_wp2_with fail
                    go_roundw
                    case rel => exact ⟨q + 1, _, by omega, by go_num, HRE.out, by rw [show j * 32 + (q + 1) = j * 32 + q + 1 from by omega]; exact HM9.out, HFin.out⟩
                    case measure => simp [intOf]; omega
                · have t0 : ((q : Int) == (pn : Int) - 1) = false := by rw [beq_eq_false_iff_ne]; omega
                  have HLast := Lib.hid hlast
                  clear hlast
                  cases hmt : meetS ⟨wp, we, wf⟩ ⟨P, false, false⟩ with
                  | true =>
                    have HMeet := Lib.hid hmt
                    clear hmt
                    have HRunE := Lib.hid (show runS (fun _ => none) (l.flatMap evs) = runS K2 (⟨P, false, false⟩ :: ((evs ⟨path, dir⟩).drop (q + 1) ++ (l.drop (j + 1)).flatMap evs)) by rw [HRun2.out]; simp [HLast.out])
                    go_wp2_with (first
                      | (go_at_call 27; rw [show q + 1 = (ps.take (q + 1)).length from HTL.out.symm]; refine (join_any _ pb po _ (ps.take (q + 1)) HCells.out hpbz (by rw [HTL.out]; omega) (by rw [HTL.out]; omega) (by rw [HP2.out]; exact Nat.le_trans HPLn.out (by decide))).mono ?_; rw [HP2.out]; rintro e w4 ⟨rfl, F4⟩; have e1' := (F4.cell (p := ⟨g9, 1, none⟩) hg9z (by simp)).trans e1)
                      | (go_at_call 28; refine (fold_l _ P (Nat.le_trans HPLn.out (by decide))).mono ?_; rintro e w5 ⟨rfl, F5⟩; have F5b := (F4.alloc _).trans0 F5; have hlook := (HM2.out.fr F5b).look (foldL P) (by rw [show (foldL P).length = P.length by simp [foldL]]; exact Nat.le_trans HPLn.out (by decide)); rw [HK.out] at hlook; dsimp only [Option.getD, Option.isSome] at hlook; unfold snv at hlook; dsimp only at hlook; have h14c := (F5.block w4.heap.size (by simp) (by simp)).trans (heap_alloc_new w4 _); have nw0 : (w5.alloc (.cells #[.string ⟨wp.toArray⟩, .bool we, .bool wf] 52)).cell? ⟨w4.heap.size, 0, none⟩ = some (.string ⟨P.toArray⟩) := (((Fr.refl [] w5).alloc _).cell (p := ⟨w4.heap.size, 0, none⟩) (Array.getElem?_eq_some_iff.1 h14c).1 (by simp)).trans (by rw [Go.Joins.cell_of_block h14c]; rfl); have nw1 : (w5.alloc (.cells #[.string ⟨wp.toArray⟩, .bool we, .bool wf] 52)).cell? ⟨w4.heap.size, 1, none⟩ = some (.bool false) := (((Fr.refl [] w5).alloc _).cell (p := ⟨w4.heap.size, 1, none⟩) (Array.getElem?_eq_some_iff.1 h14c).1 (by simp)).trans (by rw [Go.Joins.cell_of_block h14c]; rfl); have nw2 : (w5.alloc (.cells #[.string ⟨wp.toArray⟩, .bool we, .bool wf] 52)).cell? ⟨w4.heap.size, 2, none⟩ = some (.bool (false)) := (((Fr.refl [] w5).alloc _).cell (p := ⟨w4.heap.size, 2, none⟩) (Array.getElem?_eq_some_iff.1 h14c).1 (by simp)).trans (by rw [Go.Joins.cell_of_block h14c]; rfl))
                      | (go_at_call 29; refine (meet_any _ ⟨wp, we, wf⟩ ⟨P, false, false⟩).mono ?_; rw [HMeet.out]; rintro e w6 ⟨rfl, Fm⟩))
                    have HA16 := Lib.hid (show apartL l = 16 by
                      rw [HA.out, HRunE.out]
                      simp only [runS, HK.out]
                      rw [if_pos HMeet.out]
                      rfl)
                    go_ret
                    exact ⟨by rw [HA16.out]; rfl, (HFWZ.out.trans0 F5b).trans0 (((Fr.refl _ _).alloc _).trans0 Fm)⟩
                  | false =>
                    have h3 : wf = false := by
                      unfold meetS at hmt
                      simp only [Bool.or_eq_false_iff] at hmt
                      exact hmt.1.2
                    subst h3
                    have HMeet := Lib.hid hmt
                    clear hmt
                    cases we with
                    | false =>
                      have HRunE := Lib.hid (show runS (fun _ => none) (l.flatMap evs) = runS K2 (⟨P, false, false⟩ :: ((evs ⟨path, dir⟩).drop (q + 1) ++ (l.drop (j + 1)).flatMap evs)) by rw [HRun2.out]; simp [HLast.out])
                      go_wp2_with (first
                        | (go_at_call 27; rw [show q + 1 = (ps.take (q + 1)).length from HTL.out.symm]; refine (join_any _ pb po _ (ps.take (q + 1)) HCells.out hpbz (by rw [HTL.out]; omega) (by rw [HTL.out]; omega) (by rw [HP2.out]; exact Nat.le_trans HPLn.out (by decide))).mono ?_; rw [HP2.out]; rintro e w4 ⟨rfl, F4⟩; have e1' := (F4.cell (p := ⟨g9, 1, none⟩) hg9z (by simp)).trans e1)
                        | (go_at_call 28; refine (fold_l _ P (Nat.le_trans HPLn.out (by decide))).mono ?_; rintro e w5 ⟨rfl, F5⟩; have F5b := (F4.alloc _).trans0 F5; have hlook := (HM2.out.fr F5b).look (foldL P) (by rw [show (foldL P).length = P.length by simp [foldL]]; exact Nat.le_trans HPLn.out (by decide)); rw [HK.out] at hlook; dsimp only [Option.getD, Option.isSome] at hlook; unfold snv at hlook; dsimp only at hlook; have h14c := (F5.block w4.heap.size (by simp) (by simp)).trans (heap_alloc_new w4 _); have nw0 : (w5.alloc (.cells #[.string ⟨wp.toArray⟩, .bool false, .bool false] 52)).cell? ⟨w4.heap.size, 0, none⟩ = some (.string ⟨P.toArray⟩) := (((Fr.refl [] w5).alloc _).cell (p := ⟨w4.heap.size, 0, none⟩) (Array.getElem?_eq_some_iff.1 h14c).1 (by simp)).trans (by rw [Go.Joins.cell_of_block h14c]; rfl); have nw1 : (w5.alloc (.cells #[.string ⟨wp.toArray⟩, .bool false, .bool false] 52)).cell? ⟨w4.heap.size, 1, none⟩ = some (.bool false) := (((Fr.refl [] w5).alloc _).cell (p := ⟨w4.heap.size, 1, none⟩) (Array.getElem?_eq_some_iff.1 h14c).1 (by simp)).trans (by rw [Go.Joins.cell_of_block h14c]; rfl); have nw2 : (w5.alloc (.cells #[.string ⟨wp.toArray⟩, .bool false, .bool false] 52)).cell? ⟨w4.heap.size, 2, none⟩ = some (.bool (false)) := (((Fr.refl [] w5).alloc _).cell (p := ⟨w4.heap.size, 2, none⟩) (Array.getElem?_eq_some_iff.1 h14c).1 (by simp)).trans (by rw [Go.Joins.cell_of_block h14c]; rfl))
                        | (go_at_call 29; refine (meet_any _ ⟨wp, false, false⟩ ⟨P, false, false⟩).mono ?_; rw [HMeet.out]; rintro e w6 ⟨rfl, Fm⟩))
                      have F6 : Fr [] w5 w6 := ((Fr.refl _ _).alloc _).trans0 Fm
                      have h15 : w6.heap[w5.heap.size]? = some (.cells #[.string ⟨wp.toArray⟩, .bool false, .bool false] 52) := (Fm.block w5.heap.size (by simp) (by simp)).trans (heap_alloc_new w5 _)
                      clear hlook Fm h14c nw0 nw1 nw2
                      have h14 : w6.heap[w4.heap.size]? = some (.cells #[.string ⟨P.toArray⟩, .bool false, .bool false] 52) := ((F5.trans0 F6).block w4.heap.size (by simp) (by simp)).trans (heap_alloc_new w4 _)
                      have h45 : w4.heap.size < w5.heap.size := by have := F5.size; simp at this; omega
                      have HGS := Lib.hid (show wS.heap.size ≤ w5.heap.size by have := HFZ.out.size; have := F5b.size; omega)
                      have HGM := Lib.hid (show w5.heap.size ≠ mb by have := HG9.out; have := F5b.size; omega)
                      have a0 : w6.cell? ⟨w5.heap.size, 0, none⟩ = some (.string ⟨wp.toArray⟩) := by rw [Go.Joins.cell_of_block h15]; rfl
                      have a1 : w6.cell? ⟨w5.heap.size, 1, none⟩ = some (.bool false) := by rw [Go.Joins.cell_of_block h15]; rfl
                      have a2 : w6.cell? ⟨w5.heap.size, 2, none⟩ = some (.bool false) := by rw [Go.Joins.cell_of_block h15]; rfl
                      have b1 : w6.cell? ⟨w4.heap.size, 1, none⟩ = some (.bool false) := by rw [Go.Joins.cell_of_block h14]; rfl
                      have b2 : w6.cell? ⟨w4.heap.size, 2, none⟩ = some (.bool (false)) := by rw [Go.Joins.cell_of_block h14]; rfl
                      have z0 : w6.frozen? ⟨w5.heap.size, 0, none⟩ = false := frozen_of_row _ _ _ _ _ h15
                      have z1 : w6.frozen? ⟨w5.heap.size, 1, none⟩ = false := frozen_of_row _ _ _ _ _ h15
                      have z2 : w6.frozen? ⟨w5.heap.size, 2, none⟩ = false := frozen_of_row _ _ _ _ _ h15
                      have HF46 := Lib.hid (F5b.trans0 F6)
                      have H15 := Lib.hid h15
                      generalize hg5 : w5.heap.size = g15 at *
                      generalize hg4 : w4.heap.size = g14 at *
                      have hne : ¬ g14 = g15 := by omega
                      have hne2 : ¬ g15 = g14 := by omega
                      clear h45 F4 F5 F5b F6 h14 h15 e1 e1' n9 hg5 hg4
                      go_region
                      obtain ⟨w7, hw7⟩ : ∃ w7, w7 = (((w6.setCell ⟨g15, 1, none⟩ (.bool false)).setCell ⟨g15, 2, none⟩ (.bool (false))).setCell ⟨g15, 0, none⟩ (.string ⟨P.toArray⟩)).drew := ⟨_, rfl⟩
                      have F67 : Fr [g15] w6 w7 := hw7 ▸ ((((Fr.refl _ _).setCell (.inl (by simp)) _).setCell (.inl (by simp)) _).setCell (.inl (by simp)) _).drew
                      have h15b : w7.heap[g15]? = some (.cells #[.string ⟨P.toArray⟩, .bool false, .bool (false)] 52) := hw7 ▸ set3_0 (set3_2 (set3_1 H15.out _) _) _
                      rw [← hw7]
                      clear hw7 a0 a1 a2 b1 b2 z0 z1 z2
                      have r0 : w7.cell? ⟨g15, 0, none⟩ = some (.string ⟨P.toArray⟩) := by rw [Go.Joins.cell_of_block h15b]; rfl
                      have r1 : w7.cell? ⟨g15, 1, none⟩ = some (.bool false) := by rw [Go.Joins.cell_of_block h15b]; rfl
                      have r2 : w7.cell? ⟨g15, 2, none⟩ = some (.bool (false)) := by rw [Go.Joins.cell_of_block h15b]; rfl
                      have hgm : g15 ≠ mb := HGM.out
                      have HM7 := Lib.hid ((HM2.out.fr HF46.out).frS F67 (by simpa using hgm.symm))
                      have h15l : g15 < w7.heap.size := (Array.getElem?_eq_some_iff.1 h15b).1
                      have HF67 := Lib.hid F67
                      clear h15b F67
                      go_wp2_with fail
                      go_region_held3 (fun wx => wx.cell? ⟨g15, 0, none⟩ = some (.string ⟨P.toArray⟩) ∧ wx.cell? ⟨g15, 1, none⟩ = some (.bool false) ∧ wx.cell? ⟨g15, 2, none⟩ = some (.bool (false)))
                        (first | exact ⟨r0, r1, r2⟩ | exact ⟨s0, s1, s2⟩ | exact ⟨t0', t1', t2'⟩ | go_keep)
                        (first
                          | (go_at_call 28; refine (fold_l _ P (Nat.le_trans HPLn.out (by decide))).mono ?_; rintro e w8 ⟨rfl, F8⟩; have F78 : Fr [] w7 w8 := ((Fr.refl _ _).drew).trans0 F8; have s0 := (F78.cell (p := ⟨g15, 0, none⟩) h15l (by simp)).trans r0; have s1 := (F78.cell (p := ⟨g15, 1, none⟩) h15l (by simp)).trans r1; have s2 := (F78.cell (p := ⟨g15, 2, none⟩) h15l (by simp)).trans r2; obtain ⟨w9, hupd, hM9, hg9⟩ := (HM7.out.fr F78).put (by omega) (foldL P) (by rw [show (foldL P).length = P.length by simp [foldL]]; exact Nat.le_trans HPLn.out (by decide)) ⟨P, false, false⟩; unfold snv at hupd; dsimp only at hupd; have HF89 := Lib.hid ((Fr.refl [mb] w8).grown hg9 (fun k hk => .inl (by simp at hk; simp [hk]))); have HM9 := Lib.hid hM9; clear hM9 hg9; have h8 := Nat.lt_of_lt_of_le h15l F78.size; have t0' := (HF89.out.cell (p := ⟨g15, 0, none⟩) h8 (by simp; exact hgm)).trans s0; have t1' := (HF89.out.cell (p := ⟨g15, 1, none⟩) h8 (by simp; exact hgm)).trans s1; have t2' := (HF89.out.cell (p := ⟨g15, 2, none⟩) h8 (by simp; exact hgm)).trans s2))
                      have HFin := Lib.hid (show Fr [mb] wS w9 from (((HFZ.out.trans0 HF46.out).trans1 HF67.out (.inr HGS.out)).trans0 F78).trans HF89.out (by simp))
                      have HRE := Lib.hid (show runS (fun _ => none) (l.flatMap evs) = runS (upd K2 (foldL P) ⟨P, false, false⟩) ((evs ⟨path, dir⟩).drop (q + 1) ++ (l.drop (j + 1)).flatMap evs) by
                        rw [HRunE.out]
                        simp only [runS, HK.out]
                        rw [if_neg (by rw [HMeet.out]; simp)]
                        rfl)
                      clear hupd s0 s1 s2 t0' t1' t2' r0 r1 r2
                      go_wp2_with fail
                      go_roundw
                      case rel => exact ⟨q + 1, _, by omega, by go_num, HRE.out, by rw [show j * 32 + (q + 1) = j * 32 + q + 1 from by omega]; exact HM9.out, HFin.out⟩
                      case measure => simp [intOf]; omega
                    | true =>
                      have HRunE := Lib.hid (show runS (fun _ => none) (l.flatMap evs) = runS K2 (⟨P, false, false⟩ :: ((evs ⟨path, dir⟩).drop (q + 1) ++ (l.drop (j + 1)).flatMap evs)) by rw [HRun2.out]; simp [HLast.out])
                      go_wp2_with (first
                        | (go_at_call 27; rw [show q + 1 = (ps.take (q + 1)).length from HTL.out.symm]; refine (join_any _ pb po _ (ps.take (q + 1)) HCells.out hpbz (by rw [HTL.out]; omega) (by rw [HTL.out]; omega) (by rw [HP2.out]; exact Nat.le_trans HPLn.out (by decide))).mono ?_; rw [HP2.out]; rintro e w4 ⟨rfl, F4⟩; have e1' := (F4.cell (p := ⟨g9, 1, none⟩) hg9z (by simp)).trans e1)
                        | (go_at_call 28; refine (fold_l _ P (Nat.le_trans HPLn.out (by decide))).mono ?_; rintro e w5 ⟨rfl, F5⟩; have F5b := (F4.alloc _).trans0 F5; have hlook := (HM2.out.fr F5b).look (foldL P) (by rw [show (foldL P).length = P.length by simp [foldL]]; exact Nat.le_trans HPLn.out (by decide)); rw [HK.out] at hlook; dsimp only [Option.getD, Option.isSome] at hlook; unfold snv at hlook; dsimp only at hlook; have h14c := (F5.block w4.heap.size (by simp) (by simp)).trans (heap_alloc_new w4 _); have nw0 : (w5.alloc (.cells #[.string ⟨wp.toArray⟩, .bool true, .bool false] 52)).cell? ⟨w4.heap.size, 0, none⟩ = some (.string ⟨P.toArray⟩) := (((Fr.refl [] w5).alloc _).cell (p := ⟨w4.heap.size, 0, none⟩) (Array.getElem?_eq_some_iff.1 h14c).1 (by simp)).trans (by rw [Go.Joins.cell_of_block h14c]; rfl); have nw1 : (w5.alloc (.cells #[.string ⟨wp.toArray⟩, .bool true, .bool false] 52)).cell? ⟨w4.heap.size, 1, none⟩ = some (.bool false) := (((Fr.refl [] w5).alloc _).cell (p := ⟨w4.heap.size, 1, none⟩) (Array.getElem?_eq_some_iff.1 h14c).1 (by simp)).trans (by rw [Go.Joins.cell_of_block h14c]; rfl); have nw2 : (w5.alloc (.cells #[.string ⟨wp.toArray⟩, .bool true, .bool false] 52)).cell? ⟨w4.heap.size, 2, none⟩ = some (.bool (false)) := (((Fr.refl [] w5).alloc _).cell (p := ⟨w4.heap.size, 2, none⟩) (Array.getElem?_eq_some_iff.1 h14c).1 (by simp)).trans (by rw [Go.Joins.cell_of_block h14c]; rfl))
                        | (go_at_call 29; refine (meet_any _ ⟨wp, true, false⟩ ⟨P, false, false⟩).mono ?_; rw [HMeet.out]; rintro e w6 ⟨rfl, Fm⟩))
                      have F6 : Fr [] w5 w6 := ((Fr.refl _ _).alloc _).trans0 Fm
                      have h15 : w6.heap[w5.heap.size]? = some (.cells #[.string ⟨wp.toArray⟩, .bool true, .bool false] 52) := (Fm.block w5.heap.size (by simp) (by simp)).trans (heap_alloc_new w5 _)
                      clear hlook Fm h14c nw0 nw1 nw2
                      have h14 : w6.heap[w4.heap.size]? = some (.cells #[.string ⟨P.toArray⟩, .bool false, .bool false] 52) := ((F5.trans0 F6).block w4.heap.size (by simp) (by simp)).trans (heap_alloc_new w4 _)
                      have h45 : w4.heap.size < w5.heap.size := by have := F5.size; simp at this; omega
                      have HGS := Lib.hid (show wS.heap.size ≤ w5.heap.size by have := HFZ.out.size; have := F5b.size; omega)
                      have HGM := Lib.hid (show w5.heap.size ≠ mb by have := HG9.out; have := F5b.size; omega)
                      have a0 : w6.cell? ⟨w5.heap.size, 0, none⟩ = some (.string ⟨wp.toArray⟩) := by rw [Go.Joins.cell_of_block h15]; rfl
                      have a1 : w6.cell? ⟨w5.heap.size, 1, none⟩ = some (.bool true) := by rw [Go.Joins.cell_of_block h15]; rfl
                      have a2 : w6.cell? ⟨w5.heap.size, 2, none⟩ = some (.bool false) := by rw [Go.Joins.cell_of_block h15]; rfl
                      have b1 : w6.cell? ⟨w4.heap.size, 1, none⟩ = some (.bool false) := by rw [Go.Joins.cell_of_block h14]; rfl
                      have b2 : w6.cell? ⟨w4.heap.size, 2, none⟩ = some (.bool (false)) := by rw [Go.Joins.cell_of_block h14]; rfl
                      have z0 : w6.frozen? ⟨w5.heap.size, 0, none⟩ = false := frozen_of_row _ _ _ _ _ h15
                      have z1 : w6.frozen? ⟨w5.heap.size, 1, none⟩ = false := frozen_of_row _ _ _ _ _ h15
                      have z2 : w6.frozen? ⟨w5.heap.size, 2, none⟩ = false := frozen_of_row _ _ _ _ _ h15
                      have HF46 := Lib.hid (F5b.trans0 F6)
                      have H15 := Lib.hid h15
                      generalize hg5 : w5.heap.size = g15 at *
                      generalize hg4 : w4.heap.size = g14 at *
                      have hne : ¬ g14 = g15 := by omega
                      have hne2 : ¬ g15 = g14 := by omega
                      clear h45 F4 F5 F5b F6 h14 h15 e1 e1' n9 hg5 hg4
                      go_region
                      obtain ⟨w7, hw7⟩ : ∃ w7, w7 = (((w6.setCell ⟨g15, 1, none⟩ (.bool true)).setCell ⟨g15, 2, none⟩ (.bool (false))).setCell ⟨g15, 0, none⟩ (.string ⟨P.toArray⟩)).drew := ⟨_, rfl⟩
                      have F67 : Fr [g15] w6 w7 := hw7 ▸ ((((Fr.refl _ _).setCell (.inl (by simp)) _).setCell (.inl (by simp)) _).setCell (.inl (by simp)) _).drew
                      have h15b : w7.heap[g15]? = some (.cells #[.string ⟨P.toArray⟩, .bool true, .bool (false)] 52) := hw7 ▸ set3_0 (set3_2 (set3_1 H15.out _) _) _
                      rw [← hw7]
                      clear hw7 a0 a1 a2 b1 b2 z0 z1 z2
                      have r0 : w7.cell? ⟨g15, 0, none⟩ = some (.string ⟨P.toArray⟩) := by rw [Go.Joins.cell_of_block h15b]; rfl
                      have r1 : w7.cell? ⟨g15, 1, none⟩ = some (.bool true) := by rw [Go.Joins.cell_of_block h15b]; rfl
                      have r2 : w7.cell? ⟨g15, 2, none⟩ = some (.bool (false)) := by rw [Go.Joins.cell_of_block h15b]; rfl
                      have hgm : g15 ≠ mb := HGM.out
                      have HM7 := Lib.hid ((HM2.out.fr HF46.out).frS F67 (by simpa using hgm.symm))
                      have h15l : g15 < w7.heap.size := (Array.getElem?_eq_some_iff.1 h15b).1
                      have HF67 := Lib.hid F67
                      clear h15b F67
                      go_wp2_with fail
                      go_region_held3 (fun wx => wx.cell? ⟨g15, 0, none⟩ = some (.string ⟨P.toArray⟩) ∧ wx.cell? ⟨g15, 1, none⟩ = some (.bool true) ∧ wx.cell? ⟨g15, 2, none⟩ = some (.bool (false)))
                        (first | exact ⟨r0, r1, r2⟩ | exact ⟨s0, s1, s2⟩ | exact ⟨t0', t1', t2'⟩ | go_keep)
                        (first
                          | (go_at_call 28; refine (fold_l _ P (Nat.le_trans HPLn.out (by decide))).mono ?_; rintro e w8 ⟨rfl, F8⟩; have F78 : Fr [] w7 w8 := ((Fr.refl _ _).drew).trans0 F8; have s0 := (F78.cell (p := ⟨g15, 0, none⟩) h15l (by simp)).trans r0; have s1 := (F78.cell (p := ⟨g15, 1, none⟩) h15l (by simp)).trans r1; have s2 := (F78.cell (p := ⟨g15, 2, none⟩) h15l (by simp)).trans r2; obtain ⟨w9, hupd, hM9, hg9⟩ := (HM7.out.fr F78).put (by omega) (foldL P) (by rw [show (foldL P).length = P.length by simp [foldL]]; exact Nat.le_trans HPLn.out (by decide)) ⟨P, true, false⟩; unfold snv at hupd; dsimp only at hupd; have HF89 := Lib.hid ((Fr.refl [mb] w8).grown hg9 (fun k hk => .inl (by simp at hk; simp [hk]))); have HM9 := Lib.hid hM9; clear hM9 hg9; have h8 := Nat.lt_of_lt_of_le h15l F78.size; have t0' := (HF89.out.cell (p := ⟨g15, 0, none⟩) h8 (by simp; exact hgm)).trans s0; have t1' := (HF89.out.cell (p := ⟨g15, 1, none⟩) h8 (by simp; exact hgm)).trans s1; have t2' := (HF89.out.cell (p := ⟨g15, 2, none⟩) h8 (by simp; exact hgm)).trans s2))
                      have HFin := Lib.hid (show Fr [mb] wS w9 from (((HFZ.out.trans0 HF46.out).trans1 HF67.out (.inr HGS.out)).trans0 F78).trans HF89.out (by simp))
                      have HRE := Lib.hid (show runS (fun _ => none) (l.flatMap evs) = runS (upd K2 (foldL P) ⟨P, true, false⟩) ((evs ⟨path, dir⟩).drop (q + 1) ++ (l.drop (j + 1)).flatMap evs) by
                        rw [HRunE.out]
                        simp only [runS, HK.out]
                        rw [if_neg (by rw [HMeet.out]; simp)]
                        rfl)
                      clear hupd s0 s1 s2 t0' t1' t2' r0 r1 r2
                      go_wp2_with fail
                      go_roundw
                      case rel => exact ⟨q + 1, _, by omega, by go_num, HRE.out, by rw [show j * 32 + (q + 1) = j * 32 + q + 1 from by omega]; exact HM9.out, HFin.out⟩
                      case measure => simp [intOf]; omega
            · have hqe : q = pn := by omega
              subst hqe
              have HR2 := Lib.hid (show runS (fun _ => none) (l.flatMap evs) = runS K2 ((l.drop (j + 1)).flatMap evs) by
                rw [hrun, List.drop_of_length_le (by rw [evs_len]; dsimp only; rw [HPS.out, HPN.out]; exact Nat.le_refl _)]
                rfl)
              have HM3 := Lib.hid (show MSn wr mb ((j + 1) * 32) K2 by
                obtain ⟨D, h1, h2⟩ := hM2
                exact ⟨D, h1.mono (by omega), h2⟩)
              clear hrun hM2
              go_wp2_with fail
              go_roundw
              case rel => exact ⟨j + 1, K2, by omega, by go_num, HR2.out, HM3.out, HFQS.out.trans FZ (by simp)⟩
              case measure => simp [intOf]; omega
        · have hje : j = k := by omega
          subst hje
          rw [List.drop_of_length_le (by rw [HN.out]; exact Nat.le_refl _)] at hrun
          have HE := Lib.hid (show apartL l = 0 by rw [HA.out, hrun]; rfl)
          clear hrun
          go_wp2_with fail
          go_ret
          exact ⟨by rw [HE.out]; rfl, FT⟩
end Go.Proofs.YtagoemebklihjaaDoor
