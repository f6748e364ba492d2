/- A call of a script: what is asked, in memory; the law's 'do'. No condition but that lengths fit. -/
import Derived.Test.YtjeblccboeljnaaGreatDoorYAwake
import Derived.Test.YtjeblccboeljnaaGreatDoorYOpen
namespace Go.Proofs.YtjeblccboeljnaaGreatDoor
open Go.RowKit Go.Maps

/-- A call that is asked. -/
structure Dv where
  kind : Int
  path : List UInt8
  to_ : List UInt8
  by_ : List UInt8
/-- A row of calls that are asked, whose blocks are below hi. -/
def DosAt (w : World) (hi : Nat) (v : Value) (L : List Dv) : Prop :=
  ∃ ao cap, v = .slice ao L.length cap ∧ L.length ≤ cap ∧ cap ≤ 9223372036854775807 ∧ ∀ j t, L[j]? = some t → ∃ b o dao dcap, ao = some ⟨b, o, none⟩ ∧ b < w.heap.size ∧ b < hi ∧
    w.cell? ⟨b, o + j * 4, none⟩ = some (.int .i64 t.kind) ∧ w.cell? ⟨b, o + j * 4 + 1, none⟩ = some (.string ⟨t.path.toArray⟩) ∧ w.cell? ⟨b, o + j * 4 + 2, none⟩ = some (.string ⟨t.to_.toArray⟩) ∧ w.cell? ⟨b, o + j * 4 + 3, none⟩ = some (.slice dao t.by_.length dcap) ∧
    Sl w (.slice dao t.by_.length dcap) (bv t.by_) ∧ (0 < dcap → ∀ k, (Value.slice dao t.by_.length dcap).ownBlock = some k → k < hi)
theorem DosAt.fr {w w' : World} {hi : Nat} {v : Value} {L : List Dv} {S : List Nat} (h : DosAt w hi v L) (F : Fr S w w') (hS : ∀ i ∈ S, hi ≤ i) : DosAt w' hi v L := by
  obtain ⟨ao, cap, e, h1, h2, h3⟩ := h
  refine ⟨ao, cap, e, h1, h2, fun j t hj => ?_⟩
  obtain ⟨b, o, da, dc, q1, q2, q3, c0, c1, c2, c3, hs, hk⟩ := h3 j t hj
  have hb : b ∉ S := fun hm => by have := hS b hm; omega
  exact ⟨b, o, da, dc, q1, Nat.lt_of_lt_of_le q2 F.size, q3, (F.cell (p := ⟨b, _, none⟩) q2 hb).trans c0, (F.cell (p := ⟨b, _, none⟩) q2 hb).trans c1, (F.cell (p := ⟨b, _, none⟩) q2 hb).trans c2, (F.cell (p := ⟨b, _, none⟩) q2 hb).trans c3, hs.frC F (fun h0 k e hm => by have := hk h0 k e; have := hS k hm; omega), hk⟩
theorem DosAt.fr0 {w w' : World} {hi : Nat} {v : Value} {L : List Dv} (h : DosAt w hi v L) (F : Fr [] w w') : DosAt w' hi v L := h.fr F (by simp)
theorem DosAt.lo {lo hi : Nat} {w w' : World} {v : Value} {L : List Dv} (h : DosAt w hi v L) (k : Lo lo w w') (hl : hi ≤ lo) : DosAt w' hi v L := by
  obtain ⟨S, F, hS⟩ := k
  exact h.fr F (fun i hi' => Nat.le_trans hl (hS i hi'))
theorem DosAt.get {w : World} {hi : Nat} {ao : Option Addr} {n cap : Nat} {L : List Dv} (h : DosAt w hi (.slice ao n cap) L) {j : Nat} {t : Dv} (hj : L[j]? = some t) : ∃ b o dao dcap, ao = some ⟨b, o, none⟩ ∧ b < w.heap.size ∧ b < hi ∧
    w.cell? ⟨b, o + j * 4, none⟩ = some (.int .i64 t.kind) ∧ w.cell? ⟨b, o + j * 4 + 1, none⟩ = some (.string ⟨t.path.toArray⟩) ∧ w.cell? ⟨b, o + j * 4 + 2, none⟩ = some (.string ⟨t.to_.toArray⟩) ∧ w.cell? ⟨b, o + j * 4 + 3, none⟩ = some (.slice dao t.by_.length dcap) ∧
    Sl w (.slice dao t.by_.length dcap) (bv t.by_) ∧ (0 < dcap → ∀ k, (Value.slice dao t.by_.length dcap).ownBlock = some k → k < hi) := by
  obtain ⟨ao', cap', e, h1, h2, h3⟩ := h
  injection e with e1 e2 e3
  subst e1
  exact h3 j t hj
theorem DosAt.out {w : World} {hi : Nat} {v : Value} {L : List Dv} (h : DosAt w hi v L) : ∃ ao cap, v = .slice ao L.length cap ∧ L.length ≤ cap ∧ cap ≤ 9223372036854775807 := by
  obtain ⟨ao, cap, e, h1, h2, -⟩ := h
  exact ⟨ao, cap, e, h1, h2⟩
/-- What a call answers, and what is there then. -/
def DoRel (K : Tree) (d : Dv) (a c : Int) (K' : Tree) : Prop :=
  (d.kind = 1 ∧ a = (lookK K d.path).1 ∧ c = (lookK K d.path).2 ∧ K' = K) ∨ (d.kind = 2 ∧ a = 0 ∧ c = (mkK K d.path 1).1 ∧ K' = (mkK K d.path 1).2) ∨ (d.kind = 3 ∧ a = 0 ∧ c = (mkK K d.path 2).1 ∧ K' = (mkK K d.path 2).2) ∨
  (d.kind = 4 ∧ a = 0 ∧ c = (appendK K d.path d.by_).1 ∧ K' = (appendK K d.path d.by_).2) ∨ (d.kind = 5 ∧ a = 0 ∧ ∃ ks, KeysAre K ks ∧ c = (publishK K d.path d.to_ ks).1 ∧ K' = (publishK K d.path d.to_ ks).2) ∨
  (d.kind ≠ 1 ∧ d.kind ≠ 2 ∧ d.kind ≠ 3 ∧ d.kind ≠ 4 ∧ d.kind ≠ 5 ∧ a = 0 ∧ c = (dropA K d.path).1 ∧ K' = (dropA K d.path).2)
theorem DoRel.may {K K' : Tree} {d : Dv} {a c : Int} (h : DoRel K d a c K') (hK : MayK K) : MayK K' := by
  rcases h with ⟨-, -, -, rfl⟩ | ⟨-, -, -, rfl⟩ | ⟨-, -, -, rfl⟩ | ⟨-, -, -, rfl⟩ | ⟨-, -, ks, -, -, rfl⟩ | ⟨-, -, -, -, -, -, -, rfl⟩
  · exact hK
  · exact mk_may hK _ (.inl rfl)
  · exact mk_may hK _ (.inr rfl)
  · exact app_may hK _ _
  · exact pub_may hK _ _ _
  · exact drop_mayA hK _
theorem DatK.mono {K : Tree} {D E : Nat} (h : DatK K D) (he : D ≤ E) : DatK K E := fun p t e => by have := h p t e; omega
theorem DoRel.dat {K K' : Tree} {d : Dv} {a c : Int} (h : DoRel K d a c K') {D E : Nat} (hK : DatK K D) (hE : d.by_.length ≤ E) : DatK K' (D + E) := by
  rcases h with ⟨-, -, -, rfl⟩ | ⟨-, -, -, rfl⟩ | ⟨-, -, -, rfl⟩ | ⟨-, -, -, rfl⟩ | ⟨-, -, ks, -, -, rfl⟩ | ⟨-, -, -, -, -, -, -, rfl⟩
  · exact hK.mono (by omega)
  · exact (hK.mk _ _).mono (by omega)
  · exact (hK.mk _ _).mono (by omega)
  · exact hK.app _ hE
  · exact (hK.pub _ _ _).mono (by omega)
  · exact (hK.dropA _).mono (by omega)
theorem SandAt.mono {w : World} {lo p n m nc : Nat} {fl : List Bool} {K : Tree} (h : SandAt w lo p n nc fl K) (hn : n ≤ m) : SandAt w lo p m nc fl K := by
  obtain ⟨b, fv, cv, KV, h⟩ := h
  exact ⟨b, fv, cv, KV, h.mono hn⟩
def DoR (w : World) (lo p n nc : Nat) (fl : List Bool) (K : Tree) (d : Dv) (e : Ending) (w' : World) : Prop :=
  ∃ a c K', e = .returned (.tuple #[.int .i64 a, .int .i64 c]) ∧ DoRel K d a c K' ∧ SandAt w' lo p (n + 1) (nc + 1) fl K' ∧ Lo lo w w'
set_option maxRecDepth 100000 in
set_option maxHeartbeats 8000000 in
theorem do_any {w : World} {lo p n nc : Nat} {fl : List Bool} {K : Tree} (h : SandAt w lo p n nc fl K) (hKM : MayK K) {D : Nat} (hD : DatK K D) (hDl : D ≤ 500000) (hG : Gl w) (hn : n ≤ 30000) (hnc : nc ≤ 90000) (hl : fl.getD nc false = false) (d : Dv) (bo : Option Addr) (bc : Nat) (hb : Sl w (.slice bo d.by_.length bc) (bv d.by_))
    (h1 : d.path.length ≤ 90000) (h2 : d.to_.length ≤ 90000) (h3 : d.by_.length ≤ 90000) :
    Calls Tryz.prog 11 #[.pointer (some ⟨p, 0, none⟩), .agg #[.int .i64 d.kind, .string ⟨d.path.toArray⟩, .string ⟨d.to_.toArray⟩, .slice bo d.by_.length bc]] w (DoR w lo p n nc fl K d) := by
  obtain ⟨kd, q, to_, bs⟩ := d
  dsimp only at hb h1 h2 h3 ⊢
  obtain ⟨NB, hNB⟩ : ∃ NB, bs.length = NB := ⟨_, rfl⟩
  rw [hNB]
  obtain ⟨wA, hwA⟩ : ∃ wA, wA = w.alloc (.cells #[.int .i64 kd, .string ⟨q.toArray⟩, .string ⟨to_.toArray⟩, .slice bo NB bc] 26) := ⟨_, rfl⟩
  have FA : Fr [] w wA := hwA ▸ (Fr.refl _ _).alloc _
  obtain ⟨b0, b1, b2, b3⟩ := box4 (hwA ▸ Fr.refl [] wA : Fr [] (w.alloc (.cells #[.int .i64 kd, .string ⟨q.toArray⟩, .string ⟨to_.toArray⟩, .slice bo NB bc] 26)) wA) (by simp)
  have hA := h.fr0 FA
  have HFA := Lib.hid FA
  have HLK := Lib.hid (look_any hA (hG.fr FA) q (by omega) (by omega) hl)
  have HM1 := Lib.hid (mkdir_any hA (hG.fr FA) q (by omega) (by omega) (by omega) hl)
  have HM2 := Lib.hid (create_any hA (hG.fr FA) q (by omega) (by omega) (by omega) hl)
  have HAP := append_any hA (hG.fr FA) q (by omega) (by omega) (by omega) hl bo bc bs (hb.fr0 FA) (by omega) (fun t ht => by have := (hD q t ht).1; omega)
  rw [hNB] at HAP
  have HAPP := Lib.hid HAP
  have HPB := Lib.hid (publish_any hA hKM (hG.fr FA) q to_ (by omega) (by omega) (by omega) (by omega) hl)
  have HDP := Lib.hid (drop_any hA hKM (hG.fr FA) q (by omega) (by omega) (by omega) hl)
  unfold DoR
  clear h hA hKM hD hDl hG hn hnc hl hb h1 h2 h3 HAP hNB
  by_cases k1 : kd = 1
  · subst k1
    go_enter Tryz.func11, Tryz.ntmps11
    go_wp2_with (go_at_call 20; rw [← hwA]; refine HLK.out.mono ?_; rintro e w1 ⟨rfl, hS, hL⟩)
    go_ret2
    exact ⟨_, _, K, rfl, .inl ⟨rfl, rfl, rfl, rfl⟩, hS.mono (by omega), (Lo.of0 HFA.out).trans hL⟩
  by_cases k2 : kd = 2
  · subst k2
    clear k1
    go_enter Tryz.func11, Tryz.ntmps11
    go_wp2_with (go_at_call 19; rw [← hwA]; refine HM1.out.mono ?_; rintro e w1 ⟨n', rfl, hS, hn', hL⟩)
    go_ret2
    exact ⟨_, _, _, rfl, .inr (.inl ⟨rfl, rfl, rfl, rfl⟩), hS.mono hn', (Lo.of0 HFA.out).trans hL⟩
  by_cases k3 : kd = 3
  · subst k3
    clear k1 k2
    go_enter Tryz.func11, Tryz.ntmps11
    go_wp2_with (go_at_call 18; rw [← hwA]; refine HM2.out.mono ?_; rintro e w1 ⟨n', rfl, hS, hn', hL⟩)
    go_ret2
    exact ⟨_, _, _, rfl, .inr (.inr (.inl ⟨rfl, rfl, rfl, rfl⟩)), hS.mono hn', (Lo.of0 HFA.out).trans hL⟩
  by_cases k4 : kd = 4
  · subst k4
    clear k1 k2 k3
    go_enter Tryz.func11, Tryz.ntmps11
    go_wp2_with (go_at_call 21; rw [← hwA]; refine HAPP.out.mono ?_; rintro e w1 ⟨n', rfl, hS, hn', hL⟩)
    go_ret2
    exact ⟨_, _, _, rfl, .inr (.inr (.inr (.inl ⟨rfl, rfl, rfl, rfl⟩))), hS.mono hn', (Lo.of0 HFA.out).trans hL⟩
  by_cases k5 : kd = 5
  · subst k5
    clear k1 k2 k3 k4
    go_enter Tryz.func11, Tryz.ntmps11
    go_wp2_with (go_at_call 23; rw [← hwA]; refine HPB.out.mono ?_; rintro e w1 ⟨ks, hks, -, rfl, hS, hL⟩)
    go_ret2
    exact ⟨_, _, _, rfl, .inr (.inr (.inr (.inr (.inl ⟨rfl, rfl, ks, hks, rfl, rfl⟩)))), hS.mono (by omega), (Lo.of0 HFA.out).trans hL⟩
  have t1 : (kd == 1) = false := by simpa using k1
  have t2 : (kd == 2) = false := by simpa using k2
  have t3 : (kd == 3) = false := by simpa using k3
  have t4 : (kd == 4) = false := by simpa using k4
  have t5 : (kd == 5) = false := by simpa using k5
  have HK := Lib.hid (And.intro k1 (And.intro k2 (And.intro k3 (And.intro k4 k5))))
  clear k1 k2 k3 k4 k5
  go_enter Tryz.func11, Tryz.ntmps11
  go_wp2_with (go_at_call 22; rw [← hwA]; refine HDP.out.mono ?_; rintro e w1 ⟨rfl, hS, hL⟩)
  go_ret2
  exact ⟨_, _, _, rfl, .inr (.inr (.inr (.inr (.inr ⟨HK.out.1, HK.out.2.1, HK.out.2.2.1, HK.out.2.2.2.1, HK.out.2.2.2.2, rfl, rfl, rfl⟩)))), hS.mono (by omega), (Lo.of0 HFA.out).trans hL⟩
/-- Calls such as are made. -/
def SmD (S : List Dv) : Prop := ∀ (j : Nat) (d : Dv), j < 40 → S[j]? = some d → d.path.length ≤ 1500 ∧ d.to_.length ≤ 1500 ∧ d.by_.length ≤ 2000
set_option maxRecDepth 100000 in
set_option maxHeartbeats 4000000 in
theorem dsmall_any {w : World} {hi : Nat} {v : Value} {L : List Dv} (h : DosAt w hi v L) :
    Calls Tryz.prog 8 #[v] w fun e w' => ∃ r, e = .returned (.bool r) ∧ (r = true → SmD L) ∧ w' = w := by
  obtain ⟨ao, cap, rfl, -, -⟩ := h.out
  have HT := Lib.hid h
  obtain ⟨N, hN⟩ : ∃ N, L.length = N := ⟨_, rfl⟩
  have HN := Lib.hid hN
  rw [hN] at HT ⊢
  clear h hN
  go_enter Tryz.func8, Tryz.ntmps8
  go_wp2_with fail
  go_loopw [3] (fun i wr => wr = w ∧ ∃ k : Nat, k ≤ N ∧ k ≤ 40 ∧ i = .int .i64 (k : Int) ∧ ∀ (j : Nat) (t : Dv), j < k → L[j]? = some t → t.path.length ≤ 1500 ∧ t.to_.length ≤ 1500 ∧ t.by_.length ≤ 2000) (fun i _ => N - (intOf i).toNat)
  case atStart => exact ⟨rfl, 0, Nat.zero_le _, by decide, rfl, fun j s hj => by omega⟩
  case round =>
    obtain ⟨rfl, k, hk, hk4, rfl, hno⟩ := hrel
    have HNO := Lib.hid hno
    clear hno
    by_cases hlt : k < N
    rotate_left
    · obtain rfl : k = N := by omega
      have HE := Lib.hid (show SmD L from fun j t _ hj => HNO.out j t (by have := (List.getElem?_eq_some_iff.1 hj).1; rw [HN.out] at this; exact this) hj)
      have hltI : ¬ (k : Int) < (k : Int) := by omega
      go_wp2_with fail
      go_ret
      first | exact ⟨true, rfl, fun _ => HE.out, rfl⟩ | exact .inr ⟨rfl, HE.out, rfl⟩ | exact .inr ⟨rfl, HE.out⟩
    have hltI : (k : Int) < (N : Int) := by omega
    by_cases h40 : k < 40
    rotate_left
    · have HE := Lib.hid (show SmD L from fun j t h4 hj => HNO.out j t (by omega) hj)
      have h4I : ¬ (k : Int) < 40 := by omega
      go_wp2_with fail
      go_ret
      first | exact ⟨true, rfl, fun _ => HE.out, rfl⟩ | exact .inr ⟨rfl, HE.out, rfl⟩ | exact .inr ⟨rfl, HE.out⟩
    have h4I : (k : Int) < 40 := by omega
    obtain ⟨t, hx⟩ := some_get L k (by rw [HN.out]; exact hlt)
    obtain ⟨b, o, da, dc, rfl, hb, -, c0, c1, c2, c3, -, -⟩ := HT.out.get hx
    have HX := Lib.hid hx
    obtain ⟨kd, q, to_, bs⟩ := t
    dsimp only at c0 c1 c2 c3
    have z1 : (⟨q.toArray⟩ : ByteArray).size = q.length := by simp [ByteArray.size]
    have z2 : (⟨to_.toArray⟩ : ByteArray).size = to_.length := by simp [ByteArray.size]
    have HY := Lib.hid (fun (g1 : q.length ≤ 1500) (g2 : to_.length ≤ 1500) (g3 : bs.length ≤ 2000) => (show ∀ (j : Nat) (t : Dv), j < k + 1 → L[j]? = some t → t.path.length ≤ 1500 ∧ t.to_.length ≤ 1500 ∧ t.by_.length ≤ 2000 from fun j s hj hs => by
      by_cases e : j = k
      · subst e
        have e1 := HX.out.symm.trans hs
        injection e1 with e1
        subst e1
        exact ⟨g1, g2, g3⟩
      · exact HNO.out j s (by omega) hs))
    clear hx c0
    generalize q.length = n1 at *
    generalize to_.length = n2 at *
    generalize bs.length = n3 at *
    by_cases g1 : n1 ≤ 1500
    rotate_left
    · have t1 : (1500 : Int) < (n1 : Int) := by omega
      clear g1
      go_wp2_with fail
      go_ret
      first | exact ⟨false, rfl, by simp, rfl⟩ | exact .inl rfl | exact .inl ⟨rfl, rfl⟩
    by_cases g2 : n2 ≤ 1500
    rotate_left
    · have t1 : ¬ (1500 : Int) < (n1 : Int) := by omega
      have t2 : (1500 : Int) < (n2 : Int) := by omega
      clear g1 g2
      go_wp2_with fail
      go_ret
      first | exact ⟨false, rfl, by simp, rfl⟩ | exact .inl rfl | exact .inl ⟨rfl, rfl⟩
    by_cases g3 : n3 ≤ 2000
    rotate_left
    · have t1 : ¬ (1500 : Int) < (n1 : Int) := by omega
      have t2 : ¬ (1500 : Int) < (n2 : Int) := by omega
      have t3 : (2000 : Int) < (n3 : Int) := by omega
      clear g1 g2 g3
      go_wp2_with fail
      go_ret
      first | exact ⟨false, rfl, by simp, rfl⟩ | exact .inl rfl | exact .inl ⟨rfl, rfl⟩
    have t1 : ¬ (1500 : Int) < (n1 : Int) := by omega
    have t2 : ¬ (1500 : Int) < (n2 : Int) := by omega
    have t3 : ¬ (2000 : Int) < (n3 : Int) := by omega
    have HZ := Lib.hid (HY.out g1 g2 g3)
    go_wp2_with fail
    go_roundw
    case rel => exact ⟨trivial, k + 1, by omega, by omega, by go_num, HZ.out⟩
    case measure => simp [intOf]; omega
section
open Go.Deep Go.ChangeShapes Go.WideShapes Go.ChangeAt
variable {H : Type} {enc : TypeId × Value → H} {w : World} {base : Nat} {held : Bool} {fuel : Nat} {cs : List Value} {x : DataW H × List MemPlace}
set_option maxRecDepth 100000 in
theorem do_of {n : Nat} {ys : List Value} {y : DataW H × List MemPlace} (h : DataW.trod enc Tryz.prog w base (fun _ => true) held n 26 ys = some y) :
    ∃ q : Dv × Value, ys = [.int .i64 q.1.kind, .string ⟨q.1.path.toArray⟩, .string ⟨q.1.to_.toArray⟩, q.2] ∧ Sl w q.2 (bv q.1.by_) := by
  obtain ⟨xs, n, _, hxy, hl, hlen, hf⟩ := DataW.trod_struct Tryz.underlying26 h
  have ce : Tryz.prog.cellsOf 26 = 4 := by kernel_rfl
  have c0 : Tryz.prog.cellsOf 9 = 1 := by kernel_rfl
  have c1 : Tryz.prog.cellsOf 3 = 1 := by kernel_rfl
  have c2 : Tryz.prog.cellsOf 24 = 1 := by kernel_rfl
  rw [ce] at hl
  match ys, hl, xs, hlen with
  | [a0, a1, a2, a3], _, [y0, y1, y2, y3], _ =>
    have g0 := hf 0 _ rfl
    have g1 := hf 1 _ rfl
    have g2 := hf 2 _ rfl
    have g3 := hf 3 _ rfl
    simp [c0, c1, c2] at g0 g1 g2 g3
    obtain ⟨k1, e0, _, wf1⟩ := DataW.trod_int Tryz.underlying3 g0
    obtain ⟨s1, e1, _⟩ := DataW.trod_string Tryz.underlying9 g1
    obtain ⟨s2, e2, _⟩ := DataW.trod_string Tryz.underlying9 g2
    obtain ⟨v3, bs, e3, h3⟩ := sl_u8_of g3
    injection e0 with e0
    injection e1 with e1
    injection e2 with e2
    injection e3 with e3
    refine ⟨(⟨k1, s1.data.toList, s2.data.toList, bs⟩, v3), ?_, h3⟩
    rw [e0, e1, e2, e3]
theorem dos_of (h : DataW.trod enc Tryz.prog w base (fun _ => true) held fuel 30 cs = some x) : ∃ v L, cs = [v] ∧ DosAt w w.heap.size v L := by
  obtain ⟨ao, len, cap, hcs, hl, hc, hel⟩ := open_row Tryz.underlying30 (m := 4) (by kernel_rfl) (by decide) h
  have each2 : ∀ i, i < len → ∃ q : Dv × Value, (∃ b o, ao = some ⟨b, o, none⟩ ∧ b < w.heap.size ∧ ∀ j, j < 4 → w.cell? ⟨b, o + i * 4 + j, none⟩ = [Value.int .i64 q.1.kind, .string ⟨q.1.path.toArray⟩, .string ⟨q.1.to_.toArray⟩, q.2][j]?) ∧ Sl w q.2 (bv q.1.by_) := fun i hi => by
    obtain ⟨b, o, ys, n, y, e1, e2, e3, e4, e5⟩ := hel i hi
    obtain ⟨q, rfl, hq⟩ := do_of e5
    exact ⟨q, ⟨b, o, e1, e2, e4⟩, hq⟩
  haveI : Inhabited (Dv × Value) := ⟨(⟨0, [], [], []⟩, .bool false)⟩
  obtain ⟨l, hll, hlp⟩ := rows_list each2
  refine ⟨_, l.map (·.1), hcs, ⟨ao, cap, by rw [List.length_map, hll], by rw [List.length_map]; omega, hc, fun j y hy => ?_⟩⟩
  rw [List.getElem?_map] at hy
  obtain ⟨q, hq, rfl⟩ := Option.map_eq_some_iff.1 hy
  obtain ⟨⟨b, o, e1, e2, e3⟩, e4⟩ := hlp j q hq
  obtain ⟨dao, dcap, ed, -, -⟩ := e4.out
  rw [bv_length] at ed
  obtain ⟨t, dv⟩ := q
  dsimp only at ed e3 e4
  subst ed
  exact ⟨b, o, dao, dcap, e1, e2, e2, e3 0 (by decide), e3 1 (by decide), e3 2 (by decide), e3 3 (by decide), e4, e4.room⟩
end
end Go.Proofs.YtjeblccboeljnaaGreatDoor
