/- Contract: the reference's May (printed by yrmay_gen.py). No condition but that lengths fit. -/
import Derived.Test.YtjeblccboeljnaaGreatDoorYRef
import Derived.Test.YtjeblccboeljnaaGreatDoorYLies
namespace Go.Proofs.YtjeblccboeljnaaGreatDoor
open Go.RowKit

/-- What the reference's May asks of a thing, at its place. -/
structure OkTh (L : List Th) (j : Nat) (t : Th) : Prop where
  cl : cleanL foldL t.path = true
  may : tvMay t.tv = true
  at_ : atL L t.path = (j : Int)
  li : rliesL L t.path = true
theorem clean_up {q : List UInt8} (h : cleanL foldL q = true) (hd : deepL q = true) : parentL q ≠ [] := by
  intro he
  unfold deepL at hd
  obtain ⟨i, hi⟩ := Option.isSome_iff_exists.1 hd
  obtain ⟨e1, e2, e3⟩ := parentL_len hi
  rw [he] at e1
  obtain rfl : 0 = i := e1
  have q1 := (lastS_some hi).1
  cases q with
  | nil => simp at q1
  | cons a r =>
    obtain rfl : a = 47 := by simpa using q1
    unfold cleanL at h
    simp only [Bool.and_eq_true, List.all_eq_true] at h
    have := h.2 [] (by unfold splitL; rw [if_pos rfl]; simp)
    unfold partL at this
    simp at this
theorem may_all {L : List Th} (h : ∀ (j : Nat) (t : Th), L[j]? = some t → OkTh L j t) : MayT L := by
  have hn : (L.map (·.path)).Nodup := by
    rw [List.nodup_iff_pairwise_ne, List.pairwise_iff_getElem]
    intro i j hi hj hij
    rw [List.length_map] at hi hj
    simp only [List.getElem_map]
    intro e
    have h1 := (h i L[i] (by simp)).at_
    have h2 := (h j L[j] (by simp)).at_
    rw [e, h2] at h1
    omega
  refine ⟨hn, fun p t hp => ?_⟩
  unfold lookL at hp
  obtain ⟨s, hs, rfl⟩ := Option.map_eq_some_iff.1 hp
  have hsp : s.path = p := by simpa using List.find?_some hs
  obtain ⟨j, hj⟩ := List.getElem?_of_mem (List.mem_of_find?_eq_some hs)
  have hk := h j s hj
  have hcl := hk.cl
  have hl := hk.li
  rw [hsp] at hcl hl
  refine ⟨hcl, hk.may, ?_⟩
  unfold rliesL at hl
  unfold liesK
  cases hd : deepL p with
  | false => rfl
  | true =>
    have := clean_up hcl hd
    rw [show (parentL p == []) = false by simpa using this] at hl
    exact hl

set_option maxRecDepth 100000 in
set_option maxHeartbeats 8000000 in
theorem rmay_any {w : World} {hi : Nat} {v : Value} {L : List Th} (h : ThAt w hi v L) (hL : L.length ≤ 1000000) (hP : ∀ t ∈ L, t.path.length ≤ 100000) :
    Calls Tryz.prog 9 #[v] w fun e w' => ∃ r, e = .returned (.bool r) ∧ (r = true → MayT L) ∧ Fr [] w w' := by
  obtain ⟨ao, cap, rfl, -, -⟩ := h.out
  have HT := Lib.hid h
  have HL := Lib.hid hL
  have HP := Lib.hid hP
  have hnot : ∀ (x : Bool) (w : World), (Op.unary .not (.bool x)).run Tryz.prog w = .ok (.bool (!x)) w := fun _ _ => rfl
  obtain ⟨N, hN⟩ : ∃ N, L.length = N := ⟨_, rfl⟩
  have HN := Lib.hid hN
  rw [hN] at HT ⊢
  clear h hL hN hP
  go_enter Tryz.func9, Tryz.ntmps9
  go_wp2_with fail
  go_loopw [3] (fun i wr => ∃ k : Nat, k ≤ N ∧ i = .int .i64 (k : Int) ∧ (∀ (j : Nat) (s : Th), j < k → L[j]? = some s → OkTh L j s) ∧ Fr [] w wr) (fun i _ => N - (intOf i).toNat)
  case atStart => exact ⟨0, Nat.zero_le _, rfl, fun j s hj => by omega, Fr.refl _ _⟩
  case round =>
    obtain ⟨k, hk, rfl, hok, F1⟩ := hrel
    have HOK := Lib.hid hok
    clear hok
    have hNb : N ≤ 1000000 := by have := HL.out; rw [HN.out] at this; exact this
    by_cases hlt : k < N
    · obtain ⟨t, hx⟩ := some_get L k (by rw [HN.out]; exact hlt)
      have HT1 := Lib.hid (HT.out.fr0 F1)
      obtain ⟨b, o, da, dc, rfl, hb, -, c0, c1, c2, c3, -, -⟩ := HT1.out.get hx
      have HX := Lib.hid hx
      have hltI : (k : Int) < (N : Int) := by omega
      have hql := HP.out t (List.mem_of_getElem? hx)
      obtain ⟨q, kd, dl, ln⟩ := t
      dsimp only at c0 c1 c2 c3 hql
      obtain ⟨DL, hDL⟩ : ∃ DL, dl.length = DL := ⟨_, rfl⟩
      have HDL := Lib.hid hDL
      rw [hDL] at c2
      obtain ⟨wb, hwb⟩ : ∃ wb, wb = wr.alloc (.cells #[.string ⟨q.toArray⟩, .int .i64 kd, .slice da DL dc, .string ⟨ln.toArray⟩] 41) := ⟨_, rfl⟩
      have Fb : Fr [] wr wb := hwb ▸ (Fr.refl _ _).alloc _
      have gb : wb.heap[wr.heap.size]? = some (.cells #[.string ⟨q.toArray⟩, .int .i64 kd, .slice da DL dc, .string ⟨ln.toArray⟩] 41 (0, 0)) := by rw [hwb]; exact heap_alloc_new wr _
      have lb : wr.heap.size < wb.heap.size := (Array.getElem?_eq_some_iff.1 gb).1
      have hcells : ∀ wx, Fr [] wb wx → wx.cell? ⟨wr.heap.size, 0, none⟩ = some (.string ⟨q.toArray⟩) ∧ wx.cell? ⟨wr.heap.size, 1, none⟩ = some (.int .i64 kd) ∧ wx.cell? ⟨wr.heap.size, 2, none⟩ = some (.slice da DL dc) ∧ wx.cell? ⟨wr.heap.size, 3, none⟩ = some (.string ⟨ln.toArray⟩) := fun wx F => by
        have g := (F.block _ lb (by simp)).trans gb
        refine ⟨?_, ?_, ?_, ?_⟩ <;> · rw [Go.Joins.cell_of_block g]; rfl
      have HCE := Lib.hid hcells
      obtain ⟨b0, b1, b2, b3⟩ := hcells wb (Fr.refl _ _)
      have HCL := Lib.hid (rc25_any wb q hql)
      have HAT := Lib.hid (fun wx (F : Fr [] wb wx) => rat_any (HT1.out.fr0 (Fb.trans0 F)) HL.out q)
      have HLI := Lib.hid (fun wx (F : Fr [] wb wx) => rlies_any (HT1.out.fr0 (Fb.trans0 F)) HL.out q hql)
      have HFb := Lib.hid (F1.trans0 Fb)
      have HOKT := Lib.hid (fun (h1 : cleanL foldL q = true) (h2 : tvMay ⟨kd, dl, ln⟩ = true) (h3 : atL L q = (k : Int)) (h4 : rliesL L q = true) => (show ∀ (j : Nat) (s : Th), j < k + 1 → L[j]? = some s → OkTh L j s from fun j s hj hs => by
        by_cases e : j = k
        · subst e
          have e1 := HX.out.symm.trans hs
          injection e1 with e1
          subst e1
          exact ⟨h1, h2, h3, h4⟩
        · exact HOK.out j s (by omega) hs))
      clear hcells hx hDL gb F1
      go_upto_region 5 with fail
      rw [← hwb]
      clear hwb c0 c1 c2 c3 Fb
      generalize hcg : cleanL foldL q = cl at *
      generalize hag : atL L q = aq at *
      generalize hlg : rliesL L q = li at *
      clear hcg hag hlg hb
      cases cl with
      | false =>
        go_wp2_with (first
          | (have hq := F5; go_at_call 25; refine (HLI.out w5 F5).mono ?_; rintro e w5 ⟨rfl, rfl⟩)
          | (have hq := F5; go_at_call 15; refine (HAT.out w5 F5).mono ?_; rintro e w5 ⟨rfl, rfl⟩)
          | (go_at_call 24; refine HCL.out.mono ?_; rintro e w5 ⟨rfl, F5⟩; clear b0 b1 b2 b3; obtain ⟨b0, b1, b2, b3⟩ := HCE.out w5 F5))
        go_ret
        exact ⟨false, rfl, by simp, HFb.out.trans0 F5⟩
      | true =>
        by_cases k1 : kd < 1
        · go_wp2_with (first
            | (have hq := F5; go_at_call 25; refine (HLI.out w5 F5).mono ?_; rintro e w5 ⟨rfl, rfl⟩)
            | (have hq := F5; go_at_call 15; refine (HAT.out w5 F5).mono ?_; rintro e w5 ⟨rfl, rfl⟩)
            | (go_at_call 24; refine HCL.out.mono ?_; rintro e w5 ⟨rfl, F5⟩; clear b0 b1 b2 b3; obtain ⟨b0, b1, b2, b3⟩ := HCE.out w5 F5))
          go_ret
          exact ⟨false, rfl, by simp, HFb.out.trans0 F5⟩
        by_cases k3 : 3 < kd
        · go_wp2_with (first
            | (have hq := F5; go_at_call 25; refine (HLI.out w5 F5).mono ?_; rintro e w5 ⟨rfl, rfl⟩)
            | (have hq := F5; go_at_call 15; refine (HAT.out w5 F5).mono ?_; rintro e w5 ⟨rfl, rfl⟩)
            | (go_at_call 24; refine HCL.out.mono ?_; rintro e w5 ⟨rfl, F5⟩; clear b0 b1 b2 b3; obtain ⟨b0, b1, b2, b3⟩ := HCE.out w5 F5))
          go_ret
          exact ⟨false, rfl, by simp, HFb.out.trans0 F5⟩
        have HDE := Lib.hid (show DL = 0 → dl = [] from fun e => List.eq_nil_of_length_eq_zero (HDL.out.trans e))
        rcases (show kd = 1 ∨ kd = 2 ∨ kd = 3 by omega) with hk | hk | hk
        · subst hk
          clear k1 k3
          by_cases hd : DL = 0
          rotate_left
          · have d1 : 0 < DL := by omega
            have d2 : (0 : Int) < (DL : Int) := by omega
            clear hd
            go_wp2_with (first
              | (have hq := F5; go_at_call 25; refine (HLI.out w5 F5).mono ?_; rintro e w5 ⟨rfl, rfl⟩)
              | (have hq := F5; go_at_call 15; refine (HAT.out w5 F5).mono ?_; rintro e w5 ⟨rfl, rfl⟩)
              | (go_at_call 24; refine HCL.out.mono ?_; rintro e w5 ⟨rfl, F5⟩; clear b0 b1 b2 b3; obtain ⟨b0, b1, b2, b3⟩ := HCE.out w5 F5))
            go_ret
            exact ⟨false, rfl, by simp, HFb.out.trans0 F5⟩
          · obtain rfl := HDE.out hd
            subst hd
            cases hl : ln == []
            · go_wp2_with (first
                | (have hq := F5; go_at_call 25; refine (HLI.out w5 F5).mono ?_; rintro e w5 ⟨rfl, rfl⟩)
                | (have hq := F5; go_at_call 15; refine (HAT.out w5 F5).mono ?_; rintro e w5 ⟨rfl, rfl⟩)
                | (go_at_call 24; refine HCL.out.mono ?_; rintro e w5 ⟨rfl, F5⟩; clear b0 b1 b2 b3; obtain ⟨b0, b1, b2, b3⟩ := HCE.out w5 F5))
              go_ret
              exact ⟨false, rfl, by simp, HFb.out.trans0 F5⟩
            · obtain rfl : ln = [] := by simpa using hl
              clear hl
              by_cases ha : aq = (k : Int)
              rotate_left
              · have t1 : (aq != (k : Int)) = true := by simpa using ha
                clear ha
                go_wp2_with (first
                  | (have hq := F5; go_at_call 25; refine (HLI.out w5 F5).mono ?_; rintro e w5 ⟨rfl, rfl⟩)
                  | (have hq := F5; go_at_call 15; refine (HAT.out w5 F5).mono ?_; rintro e w5 ⟨rfl, rfl⟩)
                  | (go_at_call 24; refine HCL.out.mono ?_; rintro e w5 ⟨rfl, F5⟩; clear b0 b1 b2 b3; obtain ⟨b0, b1, b2, b3⟩ := HCE.out w5 F5))
                go_ret
                exact ⟨false, rfl, by simp, HFb.out.trans0 F5⟩
              · subst ha
                cases li with
                | false =>
                  go_wp2_with (first
                    | (have hq := F5; go_at_call 25; refine (HLI.out w5 F5).mono ?_; rintro e w5 ⟨rfl, rfl⟩)
                    | (have hq := F5; go_at_call 15; refine (HAT.out w5 F5).mono ?_; rintro e w5 ⟨rfl, rfl⟩)
                    | (go_at_call 24; refine HCL.out.mono ?_; rintro e w5 ⟨rfl, F5⟩; clear b0 b1 b2 b3; obtain ⟨b0, b1, b2, b3⟩ := HCE.out w5 F5))
                  go_ret
                  exact ⟨false, rfl, by simp, HFb.out.trans0 F5⟩
                | true =>
                  have HOKX := Lib.hid (HOKT.out rfl (by rfl) rfl rfl)
                  go_wp2_with (first
                    | (have hq := F5; go_at_call 25; refine (HLI.out w5 F5).mono ?_; rintro e w5 ⟨rfl, rfl⟩)
                    | (have hq := F5; go_at_call 15; refine (HAT.out w5 F5).mono ?_; rintro e w5 ⟨rfl, rfl⟩)
                    | (go_at_call 24; refine HCL.out.mono ?_; rintro e w5 ⟨rfl, F5⟩; clear b0 b1 b2 b3; obtain ⟨b0, b1, b2, b3⟩ := HCE.out w5 F5))
                  go_roundw
                  case rel => exact ⟨k + 1, by omega, by go_num, HOKX.out, HFb.out.trans0 F5⟩
                  case measure => simp [intOf]; omega
        · subst hk
          clear k1 k3
          cases hl : ln == []
          · go_wp2_with (first
              | (have hq := F5; go_at_call 25; refine (HLI.out w5 F5).mono ?_; rintro e w5 ⟨rfl, rfl⟩)
              | (have hq := F5; go_at_call 15; refine (HAT.out w5 F5).mono ?_; rintro e w5 ⟨rfl, rfl⟩)
              | (go_at_call 24; refine HCL.out.mono ?_; rintro e w5 ⟨rfl, F5⟩; clear b0 b1 b2 b3; obtain ⟨b0, b1, b2, b3⟩ := HCE.out w5 F5))
            go_ret
            exact ⟨false, rfl, by simp, HFb.out.trans0 F5⟩
          · obtain rfl : ln = [] := by simpa using hl
            clear hl
            by_cases ha : aq = (k : Int)
            rotate_left
            · have t1 : (aq != (k : Int)) = true := by simpa using ha
              clear ha
              go_wp2_with (first
                | (have hq := F5; go_at_call 25; refine (HLI.out w5 F5).mono ?_; rintro e w5 ⟨rfl, rfl⟩)
                | (have hq := F5; go_at_call 15; refine (HAT.out w5 F5).mono ?_; rintro e w5 ⟨rfl, rfl⟩)
                | (go_at_call 24; refine HCL.out.mono ?_; rintro e w5 ⟨rfl, F5⟩; clear b0 b1 b2 b3; obtain ⟨b0, b1, b2, b3⟩ := HCE.out w5 F5))
              go_ret
              exact ⟨false, rfl, by simp, HFb.out.trans0 F5⟩
            · subst ha
              cases li with
              | false =>
                go_wp2_with (first
                  | (have hq := F5; go_at_call 25; refine (HLI.out w5 F5).mono ?_; rintro e w5 ⟨rfl, rfl⟩)
                  | (have hq := F5; go_at_call 15; refine (HAT.out w5 F5).mono ?_; rintro e w5 ⟨rfl, rfl⟩)
                  | (go_at_call 24; refine HCL.out.mono ?_; rintro e w5 ⟨rfl, F5⟩; clear b0 b1 b2 b3; obtain ⟨b0, b1, b2, b3⟩ := HCE.out w5 F5))
                go_ret
                exact ⟨false, rfl, by simp, HFb.out.trans0 F5⟩
              | true =>
                have HOKX := Lib.hid (HOKT.out rfl (by rfl) rfl rfl)
                go_wp2_with (first
                  | (have hq := F5; go_at_call 25; refine (HLI.out w5 F5).mono ?_; rintro e w5 ⟨rfl, rfl⟩)
                  | (have hq := F5; go_at_call 15; refine (HAT.out w5 F5).mono ?_; rintro e w5 ⟨rfl, rfl⟩)
                  | (go_at_call 24; refine HCL.out.mono ?_; rintro e w5 ⟨rfl, F5⟩; clear b0 b1 b2 b3; obtain ⟨b0, b1, b2, b3⟩ := HCE.out w5 F5))
                go_roundw
                case rel => exact ⟨k + 1, by omega, by go_num, HOKX.out, HFb.out.trans0 F5⟩
                case measure => simp [intOf]; omega
        · subst hk
          clear k1 k3
          by_cases hd : DL = 0
          rotate_left
          · have d1 : 0 < DL := by omega
            have d2 : (0 : Int) < (DL : Int) := by omega
            clear hd
            go_wp2_with (first
              | (have hq := F5; go_at_call 25; refine (HLI.out w5 F5).mono ?_; rintro e w5 ⟨rfl, rfl⟩)
              | (have hq := F5; go_at_call 15; refine (HAT.out w5 F5).mono ?_; rintro e w5 ⟨rfl, rfl⟩)
              | (go_at_call 24; refine HCL.out.mono ?_; rintro e w5 ⟨rfl, F5⟩; clear b0 b1 b2 b3; obtain ⟨b0, b1, b2, b3⟩ := HCE.out w5 F5))
            go_ret
            exact ⟨false, rfl, by simp, HFb.out.trans0 F5⟩
          · obtain rfl := HDE.out hd
            subst hd
            by_cases ha : aq = (k : Int)
            rotate_left
            · have t1 : (aq != (k : Int)) = true := by simpa using ha
              clear ha
              go_wp2_with (first
                | (have hq := F5; go_at_call 25; refine (HLI.out w5 F5).mono ?_; rintro e w5 ⟨rfl, rfl⟩)
                | (have hq := F5; go_at_call 15; refine (HAT.out w5 F5).mono ?_; rintro e w5 ⟨rfl, rfl⟩)
                | (go_at_call 24; refine HCL.out.mono ?_; rintro e w5 ⟨rfl, F5⟩; clear b0 b1 b2 b3; obtain ⟨b0, b1, b2, b3⟩ := HCE.out w5 F5))
              go_ret
              exact ⟨false, rfl, by simp, HFb.out.trans0 F5⟩
            · subst ha
              cases li with
              | false =>
                go_wp2_with (first
                  | (have hq := F5; go_at_call 25; refine (HLI.out w5 F5).mono ?_; rintro e w5 ⟨rfl, rfl⟩)
                  | (have hq := F5; go_at_call 15; refine (HAT.out w5 F5).mono ?_; rintro e w5 ⟨rfl, rfl⟩)
                  | (go_at_call 24; refine HCL.out.mono ?_; rintro e w5 ⟨rfl, F5⟩; clear b0 b1 b2 b3; obtain ⟨b0, b1, b2, b3⟩ := HCE.out w5 F5))
                go_ret
                exact ⟨false, rfl, by simp, HFb.out.trans0 F5⟩
              | true =>
                have HOKX := Lib.hid (HOKT.out rfl (by rfl) rfl rfl)
                go_wp2_with (first
                  | (have hq := F5; go_at_call 25; refine (HLI.out w5 F5).mono ?_; rintro e w5 ⟨rfl, rfl⟩)
                  | (have hq := F5; go_at_call 15; refine (HAT.out w5 F5).mono ?_; rintro e w5 ⟨rfl, rfl⟩)
                  | (go_at_call 24; refine HCL.out.mono ?_; rintro e w5 ⟨rfl, F5⟩; clear b0 b1 b2 b3; obtain ⟨b0, b1, b2, b3⟩ := HCE.out w5 F5))
                go_roundw
                case rel => exact ⟨k + 1, by omega, by go_num, HOKX.out, HFb.out.trans0 F5⟩
                case measure => simp [intOf]; omega
    · obtain rfl : k = N := by omega
      have HE := Lib.hid (may_all fun j s hs => HOK.out j s (by have := (List.getElem?_eq_some_iff.1 hs).1; rw [HN.out] at this; exact this) hs)
      have hltI : ¬ (k : Int) < (k : Int) := by omega
      go_wp2_with fail
      go_ret
      exact .inr ⟨rfl, HE.out, F1⟩
end Go.Proofs.YtjeblccboeljnaaGreatDoor
