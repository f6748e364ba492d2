/- Contract: the references' Bytes. No condition. -/
import Derived.Test.YthbkcjlpelihlaaGreatDoorGAA
import Derived.Test.YthbkcjlpelihlaaGreatDoorBaseM
import Derived.Test.YthbkcjlpelihlaaGreatDoorGAQ
import Derived.Test.YthbkcjlpelihlaaGreatDoorGAK
namespace Go.Proofs.YthbkcjlpelihlaaGreatDoor
open Go.RowKit

theorem bytes_any (w : World) (v1 v2 : Value) (a b : List UInt8) (h1 : Sl w v1 (bv a)) (h2 : Sl w v2 (bv b)) :
    Calls Tryz.prog 30 #[v1, v2] w fun e w' => e = .returned (.bool (decide (a = b))) ∧ Same w w' := by
  obtain ⟨ao1, cap1, rfl, g1, m1, o1⟩ := h1.out
  obtain ⟨ao2, cap2, rfl, g2, m2, o2⟩ := h2.out
  clear h1 h2
  simp only [bv_length] at *
  by_cases hl : a.length = b.length
  · have hb : ((a.length : Int) != (b.length : Int)) = false := by simp [hl]
    have HL := Lib.hid hl
    clear hl
    go_enter Tryz.func30, Tryz.ntmps30
    go_wp2
    go_loopw [5] (fun i wr => ∃ k : Nat, k ≤ a.length ∧ i = .int .i64 k ∧ a.take k = b.take k ∧ Same w wr) (fun i _ => a.length - (intOf i).toNat)
    case atStart => exact ⟨0, Nat.zero_le _, rfl, rfl, Same.refl w⟩
    case round =>
      obtain ⟨k, hk, rfl, htk, hsw⟩ := hrel
      by_cases hlt : k < a.length
      · obtain ⟨b1, of1, rfl, -, c1⟩ := o1 k hlt
        obtain ⟨b2, of2, rfl, -, c2⟩ := o2 k (by rw [← HL.out]; exact hlt)
        obtain ⟨x, hx⟩ := some_get a k hlt
        obtain ⟨y, hy⟩ := some_get b k (by rw [← HL.out]; exact hlt)
        have d1 : wr.cell? ⟨b1, of1 + k, none⟩ = some (.int .u8 x.toNat) := by rw [hsw.cell, c1 k hlt, bv_get _ _ _ hx]
        have d2 : wr.cell? ⟨b2, of2 + k, none⟩ = some (.int .u8 y.toNat) := by rw [hsw.cell, c2 k (by rw [← HL.out]; exact hlt), bv_get _ _ _ hy]
        have hlt2 : (k : Int) < (b.length : Int) := by have := HL.out; omega
        have hlt1 : (k : Int) < (a.length : Int) := by omega
        have HX := Lib.hid hx
        have HY := Lib.hid hy
        have HT := Lib.hid htk
        clear o1 o2 c1 c2 hx hy htk
        by_cases hxy : x = y
        · have hne : ((x.toNat : Int) != (y.toNat : Int)) = false := by simp [hxy]
          have HXY := Lib.hid hxy
          clear hxy
          go_wp2
          go_quiet (fail)
          go_wp2
          go_roundw
          case rel => exact ⟨k + 1, by omega, by go_num, take_eq_step _ _ _ _ _ HX.out HY.out HT.out HXY.out, hsw.trans (Same.drewN _)⟩
          case measure => simp [intOf]; omega
        · have hne : ((x.toNat : Int) != (y.toNat : Int)) = true := by
            rw [bne_iff_ne]; intro h; exact hxy (UInt8.toNat_inj.1 (by omega))
          have HXY := Lib.hid hxy
          clear hxy
          go_wp2
          go_quiet (fail)
          go_wp2
          go_ret
          exact ⟨by simp [ne_at _ _ _ _ _ HX.out HY.out HXY.out], hsw.trans (Same.drewN _)⟩
      · clear o1 o2
        have hk2 : k = a.length := by omega
        have HT := Lib.hid htk
        have HK := Lib.hid hk2
        clear htk hk2
        go_wp2
        go_ret
        refine ⟨?_, hsw⟩
        have e : a = b := by
          have := HT.out
          rw [HK.out, List.take_of_length_le (Nat.le_refl _), HL.out, List.take_of_length_le (Nat.le_refl _)] at this
          exact this
        simp [e]
  · have hb : ((a.length : Int) != (b.length : Int)) = true := by rw [bne_iff_ne]; omega
    have hne : a ≠ b := by rintro rfl; exact hl rfl
    have HN := Lib.hid hne
    clear hl hne o1 o2
    go_enter Tryz.func30, Tryz.ntmps30
    go_wp2
    go_ret
    exact ⟨by simp [HN.out], Same.refl w⟩
end Go.Proofs.YthbkcjlpelihlaaGreatDoor
/- Contracts: the reference's Same (of the same things), Small. No condition but that lengths fit. -/
namespace Go.Proofs.YthbkcjlpelihlaaGreatDoor
open Go.RowKit

theorem bytes_quiet (w : World) (n : Nat) (v1 v2 : Value) (a : List UInt8) (h1 : Sl w v1 (bv a)) (h2 : Sl w v2 (bv a)) :
    Calls Tryz.prog 30 #[v1, v2] (w.drewN n) fun e w' => e = .returned (.bool true) ∧ ∃ m, w' = w.drewN m := by
  have F : Fr [] w (w.drewN n) := (Fr.refl _ _).drewN n
  refine (bytes_any (w.drewN n) v1 v2 a a (h1.fr0 F) (h2.fr0 F)).mono ?_
  rintro e w' ⟨rfl, h⟩
  exact ⟨by rw [decide_eq_true rfl], (Same.drewN n : Same w (w.drewN n)).trans h⟩
set_option maxRecDepth 100000 in
set_option maxHeartbeats 4000000 in
theorem rsame_any {w : World} {hi hj : Nat} {v u : Value} {X L : List Th} (h : ThAt w hi v X) (g : ThAt w hj u L) (hL : L.length ≤ 1000000) (hlen : X.length = L.length) (hS : ∀ t ∈ X, lookL L t.path = some t.tv) :
    Calls Tryz.prog 12 #[v, u] w fun e w' => e = .returned (.bool true) ∧ Same w w' := by
  obtain ⟨ao, cap, rfl, -, -⟩ := h.out
  obtain ⟨bo, cap2, rfl, -, -⟩ := g.out
  have HT := Lib.hid h
  have HU := Lib.hid g
  have HL := Lib.hid hL
  have HS := Lib.hid hS
  have hnot : ∀ (x : Bool) (w : World), (Op.unary .not (.bool x)).run Tryz.prog w = .ok (.bool (!x)) w := fun _ _ => rfl
  obtain ⟨N, hN⟩ : ∃ N, L.length = N := ⟨_, rfl⟩
  rw [hN] at hlen HU ⊢
  rw [hlen] at HT ⊢
  have HN := Lib.hid hN
  have HX := Lib.hid hlen
  clear h g hL hS hN hlen
  have tt : ((N : Int) != (N : Int)) = false := by simp
  go_enter Tryz.func12, Tryz.ntmps12
  go_wp2_with fail
  go_loopw [5] (fun i wr => ∃ k : Nat, k ≤ N ∧ i = .int .i64 (k : Int) ∧ Same w wr) (fun i _ => N - (intOf i).toNat)
  case atStart => exact ⟨0, Nat.zero_le _, rfl, Same.refl _⟩
  case round =>
    obtain ⟨k, hk, rfl, F1⟩ := hrel
    have hNb : N ≤ 1000000 := by have := HL.out; rw [HN.out] at this; exact this
    by_cases hlt : k < N
    · obtain ⟨t, hx⟩ := some_get X k (by rw [HX.out]; exact hlt)
      obtain ⟨b, o, da, dc, rfl, hb, -, c0, c1, c2, c3, sl1, -⟩ := (HT.out.fr0 F1.fr).get hx
      have hlook := HS.out t (List.mem_of_getElem? hx)
      rcases atL_cases L t.path with ⟨i, s, hs, -, e1, e2⟩ | ⟨-, e2⟩
      rotate_left
      · rw [e2] at hlook; cases hlook
      have est : s.tv = t.tv := by rw [e2] at hlook; injection hlook
      obtain ⟨b', o', da', dc', rfl, hb', -, c0', c1', c2', c3', sl2, -⟩ := (HU.out.fr0 F1.fr).get hs
      rw [est] at c1' c2' c3' sl2
      have HAT := Lib.hid (rat_any (HU.out.fr0 F1.fr) HL.out t.path)
      rw [e1] at HAT
      have hiN : i < N := by have := (List.getElem?_eq_some_iff.1 hs).1; rw [HN.out] at this; exact this
      have i1 : ¬ (i : Int) < 0 := by omega
      have i1b : decide ((i : Int) < 0) = false := by simp
      have i2 : (i : Int) < (N : Int) := by omega
      have hltI : (k : Int) < (N : Int) := by omega
      obtain ⟨q, kd, dl, ln⟩ := t
      dsimp only at c0 c1 c2 c3 c1' c2' c3' sl1 sl2 HAT
      have HQ := Lib.hid (fun n => bytes_quiet wr n _ _ dl sl1 sl2)
      have k1 : (kd != kd) = false := by simp
      have k2 : (ln != ln) = false := by simp
      have k3 : (ln == ln) = true := by simp
      have HF1 := Lib.hid F1
      clear hx hs hlook e1 e2 est sl1 sl2 F1 c0'
      go_upto_region 7 with (go_at_call 20; refine HAT.out.mono ?_; rintro e wr ⟨rfl, rfl⟩)
      go_quiet ((go_at_call 30; exact HQ.out _))
      obtain ⟨w3, hw3⟩ : ∃ w3, w3 = wr.drewN nq := ⟨_, rfl⟩
      rw [← hw3]
      have F3 : Same w w3 := hw3 ▸ HF1.out.trans (Same.drewN nq)
      clear hw3
      go_wp2_with fail
      go_roundw
      case rel => exact ⟨k + 1, by omega, by go_num, F3⟩
      case measure => simp [intOf]; omega
    · have hltI : ¬ (k : Int) < (N : Int) := by omega
      go_wp2_with fail
      go_ret
      exact ⟨rfl, F1⟩
/-- Such as are gone through. -/
def SmL (L : List Th) : Prop := L.length ≤ 60 ∧ ∀ t ∈ L, t.path.length ≤ 1500 ∧ t.tv.data.length ≤ 5000 ∧ t.tv.ln.length ≤ 5000
set_option maxRecDepth 100000 in
set_option maxHeartbeats 4000000 in
theorem rsmall_any {w : World} {hi : Nat} {v : Value} {L : List Th} (h : ThAt w hi v L) :
    Calls Tryz.prog 16 #[v] w fun e w' => ∃ r, e = .returned (.bool r) ∧ (r = true → SmL L) ∧ w' = w := by
  obtain ⟨ao, cap, rfl, -, -⟩ := h.out
  have HT := Lib.hid h
  obtain ⟨N, hN⟩ : ∃ N, L.length = N := ⟨_, rfl⟩
  have HN := Lib.hid hN
  rw [hN] at HT ⊢
  clear h hN
  by_cases h60 : N ≤ 60
  rotate_left
  · have h1 : (60 : Int) < (N : Int) := by omega
    clear h60
    go_enter Tryz.func16, Tryz.ntmps16
    go_wp2_with fail
    go_ret
    first | exact ⟨false, rfl, by simp, rfl⟩ | exact .inl rfl | exact .inl ⟨rfl, rfl⟩
  have h1 : ¬ (60 : Int) < (N : Int) := by omega
  go_enter Tryz.func16, Tryz.ntmps16
  go_wp2_with fail
  go_loopw [3] (fun i wr => wr = w ∧ ∃ k : Nat, k ≤ N ∧ i = .int .i64 (k : Int) ∧ ∀ (j : Nat) (t : Th), j < k → L[j]? = some t → t.path.length ≤ 1500 ∧ t.tv.data.length ≤ 5000 ∧ t.tv.ln.length ≤ 5000) (fun i _ => N - (intOf i).toNat)
  case atStart => exact ⟨rfl, 0, Nat.zero_le _, rfl, fun j s hj => by omega⟩
  case round =>
    obtain ⟨rfl, k, hk, rfl, hno⟩ := hrel
    have HNO := Lib.hid hno
    clear hno
    by_cases hlt : k < N
    · obtain ⟨t, hx⟩ := some_get L k (by rw [HN.out]; exact hlt)
      obtain ⟨b, o, da, dc, rfl, hb, -, c0, c1, c2, c3, -, -⟩ := HT.out.get hx
      have HX := Lib.hid hx
      have hltI : (k : Int) < (N : Int) := by omega
      obtain ⟨q, kd, dl, ln⟩ := t
      dsimp only at c0 c1 c2 c3
      have z1 : (⟨q.toArray⟩ : ByteArray).size = q.length := by simp [ByteArray.size]
      have z2 : (⟨ln.toArray⟩ : ByteArray).size = ln.length := by simp [ByteArray.size]
      have HY := Lib.hid (fun (g1 : q.length ≤ 1500) (g2 : dl.length ≤ 5000) (g3 : ln.length ≤ 5000) => (show ∀ (j : Nat) (t : Th), j < k + 1 → L[j]? = some t → t.path.length ≤ 1500 ∧ t.tv.data.length ≤ 5000 ∧ t.tv.ln.length ≤ 5000 from fun j s hj hs => by
        by_cases e : j = k
        · subst e
          have e1 := HX.out.symm.trans hs
          injection e1 with e1
          subst e1
          exact ⟨g1, g2, g3⟩
        · exact HNO.out j s (by omega) hs))
      clear hx c1
      generalize q.length = n1 at *
      generalize dl.length = n2 at *
      generalize ln.length = n3 at *
      by_cases g1 : n1 ≤ 1500
      rotate_left
      · have t1 : (1500 : Int) < (n1 : Int) := by omega
        clear g1
        go_wp2_with fail
        go_ret
        first | exact ⟨false, rfl, by simp, rfl⟩ | exact .inl rfl | exact .inl ⟨rfl, rfl⟩
      by_cases g2 : n2 ≤ 5000
      rotate_left
      · have t1 : ¬ (1500 : Int) < (n1 : Int) := by omega
        have t2 : (5000 : Int) < (n2 : Int) := by omega
        clear g1 g2
        go_wp2_with fail
        go_ret
        first | exact ⟨false, rfl, by simp, rfl⟩ | exact .inl rfl | exact .inl ⟨rfl, rfl⟩
      by_cases g3 : n3 ≤ 5000
      rotate_left
      · have t1 : ¬ (1500 : Int) < (n1 : Int) := by omega
        have t2 : ¬ (5000 : Int) < (n2 : Int) := by omega
        have t3 : (5000 : Int) < (n3 : Int) := by omega
        clear g1 g2 g3
        go_wp2_with fail
        go_ret
        first | exact ⟨false, rfl, by simp, rfl⟩ | exact .inl rfl | exact .inl ⟨rfl, rfl⟩
      have t1 : ¬ (1500 : Int) < (n1 : Int) := by omega
      have t2 : ¬ (5000 : Int) < (n2 : Int) := by omega
      have t3 : ¬ (5000 : Int) < (n3 : Int) := by omega
      have HZ := Lib.hid (HY.out g1 g2 g3)
      go_wp2_with fail
      go_roundw
      case rel => exact ⟨trivial, k + 1, by omega, by go_num, HZ.out⟩
      case measure => simp [intOf]; omega
    · obtain rfl : k = N := by omega
      have HE := Lib.hid (show SmL L from ⟨by rw [HN.out]; exact h60, fun t ht => by
        obtain ⟨j, hj⟩ := List.getElem?_of_mem ht
        exact HNO.out j t (by have := (List.getElem?_eq_some_iff.1 hj).1; rw [HN.out] at this; exact this) hj⟩)
      have hltI : ¬ (k : Int) < (k : Int) := by omega
      go_wp2_with fail
      go_ret
      exact .inr ⟨rfl, HE.out, rfl⟩
end Go.Proofs.YthbkcjlpelihlaaGreatDoor
/- Contract: the reference's May (printed by yrmay_gen.py). No condition but that lengths fit. -/
namespace Go.Proofs.YthbkcjlpelihlaaGreatDoor
open Go.RowKit

/-- What the reference's May asks of a thing, at its place. -/
structure OkTh (L : List Th) (j : Nat) (t : Th) : Prop where
  cl : cleanL foldL t.path = true
  may : tvMay t.tv = true
  at_ : atL L t.path = (j : Int)
  li : rliesL L t.path = true
theorem clean_up {q : List UInt8} (h : cleanL foldL q = true) (hd : deepL q = true) : parentL q ≠ [] := by
  intro he
  unfold deepL at hd
  obtain ⟨i, hi⟩ := Option.isSome_iff_exists.1 hd
  obtain ⟨e1, e2, e3⟩ := parentL_len hi
  rw [he] at e1
  obtain rfl : 0 = i := e1
  have q1 := (lastS_some hi).1
  cases q with
  | nil => simp at q1
  | cons a r =>
    obtain rfl : a = 47 := by simpa using q1
    unfold cleanL at h
    simp only [Bool.and_eq_true, List.all_eq_true] at h
    have := h.2 [] (by unfold splitL; rw [if_pos rfl]; simp)
    unfold partL at this
    simp at this
theorem may_all {L : List Th} (h : ∀ (j : Nat) (t : Th), L[j]? = some t → OkTh L j t) : MayT L := by
  have hn : (L.map (·.path)).Nodup := by
    rw [List.nodup_iff_pairwise_ne, List.pairwise_iff_getElem]
    intro i j hi hj hij
    rw [List.length_map] at hi hj
    simp only [List.getElem_map]
    intro e
    have h1 := (h i L[i] (by simp)).at_
    have h2 := (h j L[j] (by simp)).at_
    rw [e, h2] at h1
    omega
  refine ⟨hn, fun p t hp => ?_⟩
  unfold lookL at hp
  obtain ⟨s, hs, rfl⟩ := Option.map_eq_some_iff.1 hp
  have hsp : s.path = p := by simpa using List.find?_some hs
  obtain ⟨j, hj⟩ := List.getElem?_of_mem (List.mem_of_find?_eq_some hs)
  have hk := h j s hj
  have hcl := hk.cl
  have hl := hk.li
  rw [hsp] at hcl hl
  refine ⟨hcl, hk.may, ?_⟩
  unfold rliesL at hl
  unfold liesK
  cases hd : deepL p with
  | false => rfl
  | true =>
    have := clean_up hcl hd
    rw [show (parentL p == []) = false by simpa using this] at hl
    exact hl

set_option maxRecDepth 100000 in
set_option maxHeartbeats 8000000 in
theorem rmay_any {w : World} {hi : Nat} {v : Value} {L : List Th} (h : ThAt w hi v L) (hL : L.length ≤ 1000000) (hP : ∀ t ∈ L, t.path.length ≤ 100000) :
    Calls Tryz.prog 17 #[v] w fun e w' => ∃ r, e = .returned (.bool r) ∧ (r = true → MayT L) ∧ Fr [] w w' := by
  obtain ⟨ao, cap, rfl, -, -⟩ := h.out
  have HT := Lib.hid h
  have HL := Lib.hid hL
  have HP := Lib.hid hP
  have hnot : ∀ (x : Bool) (w : World), (Op.unary .not (.bool x)).run Tryz.prog w = .ok (.bool (!x)) w := fun _ _ => rfl
  obtain ⟨N, hN⟩ : ∃ N, L.length = N := ⟨_, rfl⟩
  have HN := Lib.hid hN
  rw [hN] at HT ⊢
  clear h hL hN hP
  go_enter Tryz.func17, Tryz.ntmps17
  go_wp2_with fail
  go_loopw [3] (fun i wr => ∃ k : Nat, k ≤ N ∧ i = .int .i64 (k : Int) ∧ (∀ (j : Nat) (s : Th), j < k → L[j]? = some s → OkTh L j s) ∧ Fr [] w wr) (fun i _ => N - (intOf i).toNat)
  case atStart => exact ⟨0, Nat.zero_le _, rfl, fun j s hj => by omega, Fr.refl _ _⟩
  case round =>
    obtain ⟨k, hk, rfl, hok, F1⟩ := hrel
    have HOK := Lib.hid hok
    clear hok
    have hNb : N ≤ 1000000 := by have := HL.out; rw [HN.out] at this; exact this
    by_cases hlt : k < N
    · obtain ⟨t, hx⟩ := some_get L k (by rw [HN.out]; exact hlt)
      have HT1 := Lib.hid (HT.out.fr0 F1)
      obtain ⟨b, o, da, dc, rfl, hb, -, c0, c1, c2, c3, -, -⟩ := HT1.out.get hx
      have HX := Lib.hid hx
      have hltI : (k : Int) < (N : Int) := by omega
      have hql := HP.out t (List.mem_of_getElem? hx)
      obtain ⟨q, kd, dl, ln⟩ := t
      dsimp only at c0 c1 c2 c3 hql
      obtain ⟨DL, hDL⟩ : ∃ DL, dl.length = DL := ⟨_, rfl⟩
      have HDL := Lib.hid hDL
      rw [hDL] at c2
      obtain ⟨wb, hwb⟩ : ∃ wb, wb = wr.alloc (.cells #[.string ⟨q.toArray⟩, .int .i64 kd, .slice da DL dc, .string ⟨ln.toArray⟩] 49) := ⟨_, rfl⟩
      have Fb : Fr [] wr wb := hwb ▸ (Fr.refl _ _).alloc _
      have gb : wb.heap[wr.heap.size]? = some (.cells #[.string ⟨q.toArray⟩, .int .i64 kd, .slice da DL dc, .string ⟨ln.toArray⟩] 49 (0, 0)) := by rw [hwb]; exact heap_alloc_new wr _
      have lb : wr.heap.size < wb.heap.size := (Array.getElem?_eq_some_iff.1 gb).1
      have hcells : ∀ wx, Fr [] wb wx → wx.cell? ⟨wr.heap.size, 0, none⟩ = some (.string ⟨q.toArray⟩) ∧ wx.cell? ⟨wr.heap.size, 1, none⟩ = some (.int .i64 kd) ∧ wx.cell? ⟨wr.heap.size, 2, none⟩ = some (.slice da DL dc) ∧ wx.cell? ⟨wr.heap.size, 3, none⟩ = some (.string ⟨ln.toArray⟩) := fun wx F => by
        have g := (F.block _ lb (by simp)).trans gb
        refine ⟨?_, ?_, ?_, ?_⟩ <;> · rw [Go.Joins.cell_of_block g]; rfl
      have HCE := Lib.hid hcells
      obtain ⟨b0, b1, b2, b3⟩ := hcells wb (Fr.refl _ _)
      have HCL := Lib.hid (rc25_any wb q hql)
      have HAT := Lib.hid (fun wx (F : Fr [] wb wx) => rat_any (HT1.out.fr0 (Fb.trans0 F)) HL.out q)
      have HLI := Lib.hid (fun wx (F : Fr [] wb wx) => rlies_any (HT1.out.fr0 (Fb.trans0 F)) HL.out q hql)
      have HFb := Lib.hid (F1.trans0 Fb)
      have HOKT := Lib.hid (fun (h1 : cleanL foldL q = true) (h2 : tvMay ⟨kd, dl, ln⟩ = true) (h3 : atL L q = (k : Int)) (h4 : rliesL L q = true) => (show ∀ (j : Nat) (s : Th), j < k + 1 → L[j]? = some s → OkTh L j s from fun j s hj hs => by
        by_cases e : j = k
        · subst e
          have e1 := HX.out.symm.trans hs
          injection e1 with e1
          subst e1
          exact ⟨h1, h2, h3, h4⟩
        · exact HOK.out j s (by omega) hs))
      clear hcells hx hDL gb F1
      go_upto_region 5 with fail
      rw [← hwb]
      clear hwb c0 c1 c2 c3 Fb
      generalize hcg : cleanL foldL q = cl at *
      generalize hag : atL L q = aq at *
      generalize hlg : rliesL L q = li at *
      clear hcg hag hlg hb
      cases cl with
      | false =>
        go_wp2_with (first
          | (have hq := F5; go_at_call 38; refine (HLI.out w5 F5).mono ?_; rintro e w5 ⟨rfl, rfl⟩)
          | (have hq := F5; go_at_call 20; refine (HAT.out w5 F5).mono ?_; rintro e w5 ⟨rfl, rfl⟩)
          | (go_at_call 23; refine HCL.out.mono ?_; rintro e w5 ⟨rfl, F5⟩; clear b0 b1 b2 b3; obtain ⟨b0, b1, b2, b3⟩ := HCE.out w5 F5))
        go_ret
        exact ⟨false, rfl, by simp, HFb.out.trans0 F5⟩
      | true =>
        by_cases k1 : kd < 1
        · go_wp2_with (first
            | (have hq := F5; go_at_call 38; refine (HLI.out w5 F5).mono ?_; rintro e w5 ⟨rfl, rfl⟩)
            | (have hq := F5; go_at_call 20; refine (HAT.out w5 F5).mono ?_; rintro e w5 ⟨rfl, rfl⟩)
            | (go_at_call 23; refine HCL.out.mono ?_; rintro e w5 ⟨rfl, F5⟩; clear b0 b1 b2 b3; obtain ⟨b0, b1, b2, b3⟩ := HCE.out w5 F5))
          go_ret
          exact ⟨false, rfl, by simp, HFb.out.trans0 F5⟩
        by_cases k3 : 3 < kd
        · go_wp2_with (first
            | (have hq := F5; go_at_call 38; refine (HLI.out w5 F5).mono ?_; rintro e w5 ⟨rfl, rfl⟩)
            | (have hq := F5; go_at_call 20; refine (HAT.out w5 F5).mono ?_; rintro e w5 ⟨rfl, rfl⟩)
            | (go_at_call 23; refine HCL.out.mono ?_; rintro e w5 ⟨rfl, F5⟩; clear b0 b1 b2 b3; obtain ⟨b0, b1, b2, b3⟩ := HCE.out w5 F5))
          go_ret
          exact ⟨false, rfl, by simp, HFb.out.trans0 F5⟩
        have HDE := Lib.hid (show DL = 0 → dl = [] from fun e => List.eq_nil_of_length_eq_zero (HDL.out.trans e))
        rcases (show kd = 1 ∨ kd = 2 ∨ kd = 3 by omega) with hk | hk | hk
        · subst hk
          clear k1 k3
          by_cases hd : DL = 0
          rotate_left
          · have d1 : 0 < DL := by omega
            have d2 : (0 : Int) < (DL : Int) := by omega
            clear hd
            go_wp2_with (first
              | (have hq := F5; go_at_call 38; refine (HLI.out w5 F5).mono ?_; rintro e w5 ⟨rfl, rfl⟩)
              | (have hq := F5; go_at_call 20; refine (HAT.out w5 F5).mono ?_; rintro e w5 ⟨rfl, rfl⟩)
              | (go_at_call 23; refine HCL.out.mono ?_; rintro e w5 ⟨rfl, F5⟩; clear b0 b1 b2 b3; obtain ⟨b0, b1, b2, b3⟩ := HCE.out w5 F5))
            go_ret
            exact ⟨false, rfl, by simp, HFb.out.trans0 F5⟩
          · obtain rfl := HDE.out hd
            subst hd
            cases hl : ln == []
            · go_wp2_with (first
                | (have hq := F5; go_at_call 38; refine (HLI.out w5 F5).mono ?_; rintro e w5 ⟨rfl, rfl⟩)
                | (have hq := F5; go_at_call 20; refine (HAT.out w5 F5).mono ?_; rintro e w5 ⟨rfl, rfl⟩)
                | (go_at_call 23; refine HCL.out.mono ?_; rintro e w5 ⟨rfl, F5⟩; clear b0 b1 b2 b3; obtain ⟨b0, b1, b2, b3⟩ := HCE.out w5 F5))
              go_ret
              exact ⟨false, rfl, by simp, HFb.out.trans0 F5⟩
            · obtain rfl : ln = [] := by simpa using hl
              clear hl
              by_cases ha : aq = (k : Int)
              rotate_left
              · have t1 : (aq != (k : Int)) = true := by simpa using ha
                clear ha
                go_wp2_with (first
                  | (have hq := F5; go_at_call 38; refine (HLI.out w5 F5).mono ?_; rintro e w5 ⟨rfl, rfl⟩)
                  | (have hq := F5; go_at_call 20; refine (HAT.out w5 F5).mono ?_; rintro e w5 ⟨rfl, rfl⟩)
                  | (go_at_call 23; refine HCL.out.mono ?_; rintro e w5 ⟨rfl, F5⟩; clear b0 b1 b2 b3; obtain ⟨b0, b1, b2, b3⟩ := HCE.out w5 F5))
                go_ret
                exact ⟨false, rfl, by simp, HFb.out.trans0 F5⟩
              · subst ha
                cases li with
                | false =>
                  go_wp2_with (first
                    | (have hq := F5; go_at_call 38; refine (HLI.out w5 F5).mono ?_; rintro e w5 ⟨rfl, rfl⟩)
                    | (have hq := F5; go_at_call 20; refine (HAT.out w5 F5).mono ?_; rintro e w5 ⟨rfl, rfl⟩)
                    | (go_at_call 23; refine HCL.out.mono ?_; rintro e w5 ⟨rfl, F5⟩; clear b0 b1 b2 b3; obtain ⟨b0, b1, b2, b3⟩ := HCE.out w5 F5))
                  go_ret
                  exact ⟨false, rfl, by simp, HFb.out.trans0 F5⟩
                | true =>
                  have HOKX := Lib.hid (HOKT.out rfl (by rfl) rfl rfl)
                  go_wp2_with (first
                    | (have hq := F5; go_at_call 38; refine (HLI.out w5 F5).mono ?_; rintro e w5 ⟨rfl, rfl⟩)
                    | (have hq := F5; go_at_call 20; refine (HAT.out w5 F5).mono ?_; rintro e w5 ⟨rfl, rfl⟩)
                    | (go_at_call 23; refine HCL.out.mono ?_; rintro e w5 ⟨rfl, F5⟩; clear b0 b1 b2 b3; obtain ⟨b0, b1, b2, b3⟩ := HCE.out w5 F5))
                  go_roundw
                  case rel => exact ⟨k + 1, by omega, by go_num, HOKX.out, HFb.out.trans0 F5⟩
                  case measure => simp [intOf]; omega
        · subst hk
          clear k1 k3
          cases hl : ln == []
          · go_wp2_with (first
              | (have hq := F5; go_at_call 38; refine (HLI.out w5 F5).mono ?_; rintro e w5 ⟨rfl, rfl⟩)
              | (have hq := F5; go_at_call 20; refine (HAT.out w5 F5).mono ?_; rintro e w5 ⟨rfl, rfl⟩)
              | (go_at_call 23; refine HCL.out.mono ?_; rintro e w5 ⟨rfl, F5⟩; clear b0 b1 b2 b3; obtain ⟨b0, b1, b2, b3⟩ := HCE.out w5 F5))
            go_ret
            exact ⟨false, rfl, by simp, HFb.out.trans0 F5⟩
          · obtain rfl : ln = [] := by simpa using hl
            clear hl
            by_cases ha : aq = (k : Int)
            rotate_left
            · have t1 : (aq != (k : Int)) = true := by simpa using ha
              clear ha
              go_wp2_with (first
                | (have hq := F5; go_at_call 38; refine (HLI.out w5 F5).mono ?_; rintro e w5 ⟨rfl, rfl⟩)
                | (have hq := F5; go_at_call 20; refine (HAT.out w5 F5).mono ?_; rintro e w5 ⟨rfl, rfl⟩)
                | (go_at_call 23; refine HCL.out.mono ?_; rintro e w5 ⟨rfl, F5⟩; clear b0 b1 b2 b3; obtain ⟨b0, b1, b2, b3⟩ := HCE.out w5 F5))
              go_ret
              exact ⟨false, rfl, by simp, HFb.out.trans0 F5⟩
            · subst ha
              cases li with
              | false =>
                go_wp2_with (first
                  | (have hq := F5; go_at_call 38; refine (HLI.out w5 F5).mono ?_; rintro e w5 ⟨rfl, rfl⟩)
                  | (have hq := F5; go_at_call 20; refine (HAT.out w5 F5).mono ?_; rintro e w5 ⟨rfl, rfl⟩)
                  | (go_at_call 23; refine HCL.out.mono ?_; rintro e w5 ⟨rfl, F5⟩; clear b0 b1 b2 b3; obtain ⟨b0, b1, b2, b3⟩ := HCE.out w5 F5))
                go_ret
                exact ⟨false, rfl, by simp, HFb.out.trans0 F5⟩
              | true =>
                have HOKX := Lib.hid (HOKT.out rfl (by rfl) rfl rfl)
                go_wp2_with (first
                  | (have hq := F5; go_at_call 38; refine (HLI.out w5 F5).mono ?_; rintro e w5 ⟨rfl, rfl⟩)
                  | (have hq := F5; go_at_call 20; refine (HAT.out w5 F5).mono ?_; rintro e w5 ⟨rfl, rfl⟩)
                  | (go_at_call 23; refine HCL.out.mono ?_; rintro e w5 ⟨rfl, F5⟩; clear b0 b1 b2 b3; obtain ⟨b0, b1, b2, b3⟩ := HCE.out w5 F5))
                go_roundw
                case rel => exact ⟨k + 1, by omega, by go_num, HOKX.out, HFb.out.trans0 F5⟩
                case measure => simp [intOf]; omega
        · subst hk
          clear k1 k3
          by_cases hd : DL = 0
          rotate_left
          · have d1 : 0 < DL := by omega
            have d2 : (0 : Int) < (DL : Int) := by omega
            clear hd
            go_wp2_with (first
              | (have hq := F5; go_at_call 38; refine (HLI.out w5 F5).mono ?_; rintro e w5 ⟨rfl, rfl⟩)
              | (have hq := F5; go_at_call 20; refine (HAT.out w5 F5).mono ?_; rintro e w5 ⟨rfl, rfl⟩)
              | (go_at_call 23; refine HCL.out.mono ?_; rintro e w5 ⟨rfl, F5⟩; clear b0 b1 b2 b3; obtain ⟨b0, b1, b2, b3⟩ := HCE.out w5 F5))
            go_ret
            exact ⟨false, rfl, by simp, HFb.out.trans0 F5⟩
          · obtain rfl := HDE.out hd
            subst hd
            by_cases ha : aq = (k : Int)
            rotate_left
            · have t1 : (aq != (k : Int)) = true := by simpa using ha
              clear ha
              go_wp2_with (first
                | (have hq := F5; go_at_call 38; refine (HLI.out w5 F5).mono ?_; rintro e w5 ⟨rfl, rfl⟩)
                | (have hq := F5; go_at_call 20; refine (HAT.out w5 F5).mono ?_; rintro e w5 ⟨rfl, rfl⟩)
                | (go_at_call 23; refine HCL.out.mono ?_; rintro e w5 ⟨rfl, F5⟩; clear b0 b1 b2 b3; obtain ⟨b0, b1, b2, b3⟩ := HCE.out w5 F5))
              go_ret
              exact ⟨false, rfl, by simp, HFb.out.trans0 F5⟩
            · subst ha
              cases li with
              | false =>
                go_wp2_with (first
                  | (have hq := F5; go_at_call 38; refine (HLI.out w5 F5).mono ?_; rintro e w5 ⟨rfl, rfl⟩)
                  | (have hq := F5; go_at_call 20; refine (HAT.out w5 F5).mono ?_; rintro e w5 ⟨rfl, rfl⟩)
                  | (go_at_call 23; refine HCL.out.mono ?_; rintro e w5 ⟨rfl, F5⟩; clear b0 b1 b2 b3; obtain ⟨b0, b1, b2, b3⟩ := HCE.out w5 F5))
                go_ret
                exact ⟨false, rfl, by simp, HFb.out.trans0 F5⟩
              | true =>
                have HOKX := Lib.hid (HOKT.out rfl (by rfl) rfl rfl)
                go_wp2_with (first
                  | (have hq := F5; go_at_call 38; refine (HLI.out w5 F5).mono ?_; rintro e w5 ⟨rfl, rfl⟩)
                  | (have hq := F5; go_at_call 20; refine (HAT.out w5 F5).mono ?_; rintro e w5 ⟨rfl, rfl⟩)
                  | (go_at_call 23; refine HCL.out.mono ?_; rintro e w5 ⟨rfl, F5⟩; clear b0 b1 b2 b3; obtain ⟨b0, b1, b2, b3⟩ := HCE.out w5 F5))
                go_roundw
                case rel => exact ⟨k + 1, by omega, by go_num, HOKX.out, HFb.out.trans0 F5⟩
                case measure => simp [intOf]; omega
    · obtain rfl : k = N := by omega
      have HE := Lib.hid (may_all fun j s hs => HOK.out j s (by have := (List.getElem?_eq_some_iff.1 hs).1; rw [HN.out] at this; exact this) hs)
      have hltI : ¬ (k : Int) < (k : Int) := by omega
      go_wp2_with fail
      go_ret
      exact .inr ⟨rfl, HE.out, F1⟩
end Go.Proofs.YthbkcjlpelihlaaGreatDoor
