/- Contract: what is packed by copies is unpacked (layer 23). Nothing is spent. -/
import Derived.Test.YtfnblemlcjdnhaaGreatPNew
import Derived.Test.YtfnblemlcjdnhaaGreatPClosD
namespace Go.Proofs.YtfnblemlcjdnhaaGreat
open Go.RowKit

def lenOf : Value → Nat
  | .slice _ n _ => n
  | _ => 0
/-- While the bytes come: k of them are there. -/
structure PU (w0 : World) (pp rp n rc g mp fp : Nat) (q : Option Nat) (bs : List UInt8) (l : List (Nat × Nat × Nat)) (k : Nat) (ov : Value) (wx : World) : Prop where
  out : wx.ownsRow w0.heap.size 5 1 ov k (bv (bs.take k))
  pa : PipeAt wx pp rp n rc g mp false
  ch : Chn wx mp fp (bs.length - k) l
  fd : FeedAt wx fp q bs k
  mt : MtN wx mp 0 k 0 0 ((k * n : Nat) : Int) 0
  fr : Fr (mp :: fp :: l.map (·.1)) w0 wx
set_option maxRecDepth 100000 in
set_option maxHeartbeats 20000000 in
theorem unpack_any (w : World) (v pv : Value) (n : Nat) (bs : List UInt8) (mp : Nat) (hn : 1 ≤ n) (hn8 : n ≤ 8) (hb : bs.length ≤ 65535) (hf : ∀ w', Fr [mp] w w' → Fo w' v (copF n (UInt64.ofNat bs.length))) (hco : CoOff mp v) (hp : ∀ w', Fr [mp] w w' → One1 w' pv bs) (M : MtN w mp 0 0 0 0 0 0) :
    Calls Tryz.prog 6 #[v, pv, .pointer (some ⟨mp, 0, none⟩)] w fun e w' => ∃ r, e = .returned (.tuple #[r, .int .i64 0]) ∧ Sl w' r (bv bs) ∧ MtN w' mp 0 bs.length 0 0 ((bs.length * n : Nat) : Int) 0 ∧ Fr [mp] w w' := by
  have HF := Lib.hid hf
  have HP := Lib.hid hp
  have HM := Lib.hid M
  have HCO := Lib.hid hco
  obtain ⟨cv, bv', p, s, h, k0, rfl, hV⟩ := hf w (Fr.refl _ _)
  obtain ⟨ao, cap, rfl, -, -, -⟩ := hV.co.out
  obtain ⟨aos, caps, rfl, -, -, -⟩ := hV.si.out
  obtain ⟨pb, pbv, rfl, -, -, -⟩ := hp w (Fr.refl _ _)
  have FB := Lib.hid ((Fr.refl [] w).alloc (.cells #[.slice ao (copF n (UInt64.ofNat bs.length)).coders.length cap, bv', p, .slice aos (u64v (copF n (UInt64.ofNat bs.length)).sizes).length caps, h, k0] 37))
  clear hV M hf hco hp
  go_enter_defers Tryz.func6, Tryz.ntmps6
  go_wp2_with (first
    | (go_at_call 11; refine (pnew_any _ _ _ n bs mp hn hn8 hb (fun w' F => HF.out w' ((FB.out.mono (by simp)).trans F (fun i hi => .inl hi))) HCO.out (fun w' F => HP.out w' ((FB.out.mono (by simp)).trans F (fun i hi => .inl hi))) (HM.out.fr FB.out (by simp))).mono ?_; rintro e w1 ⟨pp, rp, rc, g, bx, tk, r, fp, q, rfl, hR⟩; have HR := Lib.hid hR; clear hR))
  have HR1 := HR.out
  obtain ⟨hP, hln, hC, hFd, hM1, hA, hst, hrp, hpp, hppr, hq, hge, hFr⟩ := HR1
  obtain ⟨l, hl⟩ : ∃ l, l = (g, bx, tk) :: r := ⟨_, rfl⟩
  rw [← hl] at hln hC hA hst hrp hpp hge
  have hS : ∀ i ∈ (mp :: fp :: l.map (·.1)), i < w1.heap.size := fun i hi => by
    have h1 := HM.out.lt
    have h2 := hFr.size
    rw [World.size_alloc] at h2
    simp only [List.mem_cons] at hi
    rcases hi with rfl | rfl | hi
    · omega
    · exact hFd.lt
    · exact hC.lt i (mem_map_blks hi)
  have hst2 : ∀ i x, l.reverse[i]? = some x → rp < w1.heap.size := fun i x hx => World.block_lt_of_cell? _ _ (hst i x hx)
  have hppS : pp ∉ (mp :: fp :: l.map (·.1)) := by simp only [List.mem_cons, not_or]; exact ⟨hpp.1, hpp.2.1, not_map hpp.2.2⟩
  have hrpS : rp ∉ (mp :: fp :: l.map (·.1)) := by simp only [List.mem_cons, not_or]; exact ⟨hrp.1, hrp.2.1, not_map hrp.2.2⟩
  have hk9 : ∀ k, k ≤ bs.length → k * n ≤ 600000 := fun k hk => Nat.le_trans (Nat.mul_le_mul hk hn8) (by omega)
  have H0 : Hid (PU w1 pp rp n rc g mp fp q bs l 0 (.slice none 0 0) w1) := Lib.hid ⟨World.ownsRow_nil _ _ _ _, hP, by rw [Nat.sub_zero]; exact hC, hFd, by rw [Nat.zero_mul]; exact hM1, Fr.refl _ _⟩
  have HN : Hid (∀ k ov wx, k ≤ bs.length → PU w1 pp rp n rc g mp fp q bs l k ov wx → Calls Tryz.prog 13 #[.pointer (some ⟨pp, 0, none⟩)] wx (PipeR wx pp rp n rc g mp fp q bs k l 0 k 0 0 ((k * n : Nat) : Int) 0)) := Lib.hid (fun k ov wx hk H => by
    subst hl
    have := hk9 k hk
    exact ppnext_any (by omega) wx k 0 k 0 0 _ 0 H.pa H.ch H.fd H.mt hA hpp (by omega) (by rw [hln]; omega) (by omega) (by omega))
  have HNs : Hid (∀ k ov wx x, bs[k]? = some x → PU w1 pp rp n rc g mp fp q bs l k ov wx → Calls Tryz.prog 13 #[.pointer (some ⟨pp, 0, none⟩)] wx fun e w' => e = .returned (.tuple #[.int .u8 (x.toNat : Int), .bool true]) ∧ Hid (PipeAt w' pp rp n rc g mp false ∧ Chn w' mp fp (bs.length - (k + 1)) l ∧ FeedAt w' fp q bs (k + 1) ∧ MtN w' mp 0 ((k + 1 : Nat) : Int) 0 0 (((k + 1) * n : Nat) : Int) 0 ∧ w'.ownsRow w1.heap.size 5 1 ov k (bv (bs.take k)) ∧ Fr (mp :: fp :: l.map (·.1)) w1 w')) := Lib.hid (fun k ov wx x hx H => by
    refine (HN.out k ov wx (by have := (List.getElem?_eq_some_iff.1 hx).1; omega) H).mono ?_
    intro e w' h
    unfold PipeR at h
    rw [hx] at h
    obtain ⟨h1, h2, h3, h4, h5, h6⟩ := h
    refine ⟨h1, Lib.hid ⟨h2, h3, h4, ?_, own_frS H.out h6 (fun j hj hm => by have := hS j hm; have := (own_ltS H.out j hj).1; omega), H.fr.trans h6 (fun i hi => .inl hi)⟩⟩
    have e1 : ((k : Int) + 1) = ((k + 1 : Nat) : Int) := by omega
    have e2 : ((k * n : Nat) : Int) + (l.length : Int) = (((k + 1) * n : Nat) : Int) := by rw [hln, Nat.succ_mul]; omega
    rw [e1, e2] at h5
    exact h5)
  have HNn : Hid (∀ ov wx, PU w1 pp rp n rc g mp fp q bs l bs.length ov wx → Calls Tryz.prog 13 #[.pointer (some ⟨pp, 0, none⟩)] wx fun e w' => e = .returned (.tuple #[.int .u8 0, .bool false]) ∧ Hid (PU w1 pp rp n rc g mp fp q bs l bs.length ov w')) := Lib.hid (fun ov wx H => by
    refine (HN.out bs.length ov wx (Nat.le_refl _) H).mono ?_
    intro e w' h
    unfold PipeR at h
    rw [List.getElem?_eq_none (Nat.le_refl _)] at h
    obtain ⟨h1, h2, h3, h4, h5, h6⟩ := h
    exact ⟨h1, Lib.hid ⟨own_frS H.out h6 (fun j hj hm => by have := hS j hm; have := (own_ltS H.out j hj).1; omega), h2, h3, h4, h5, H.fr.trans h6 (fun i hi => .inl hi)⟩⟩)
  have HAp : Hid (∀ k ov ov2 w2 w4 x, bs[k]? = some x → Hid (PipeAt w2 pp rp n rc g mp false ∧ Chn w2 mp fp (bs.length - (k + 1)) l ∧ FeedAt w2 fp q bs (k + 1) ∧ MtN w2 mp 0 ((k + 1 : Nat) : Int) 0 0 (((k + 1) * n : Nat) : Int) 0 ∧ w2.ownsRow w1.heap.size 5 1 ov k (bv (bs.take k)) ∧ Fr (mp :: fp :: l.map (·.1)) w1 w2) →
      w4.ownsRow w1.heap.size 5 1 ov2 (k + 1) (bv (bs.take k) ++ [.int .u8 (x.toNat : Int)]) → (w2.alloc (.cells #[.int .u8 (x.toNat : Int)] 5)).grownBy w4 ov.ownBlock → Hid (PU w1 pp rp n rc g mp fp q bs l (k + 1) ov2 w4)) := Lib.hid (fun k ov ov2 w2 w4 x hx hh ho hg => by
    obtain ⟨h1, h2, h3, h4, h5, h6⟩ := hh.out
    have F : Fr ov.ownBlock.toList w2 w4 := ((Fr.refl _ _).alloc _).grown hg (fun j hj => .inl (by simp [hj]))
    have hno : ∀ i, i < w1.heap.size → i ∉ ov.ownBlock.toList := fun i hi hm => by
      have := (own_ltS h5 i (by simpa using hm)).1
      omega
    refine Lib.hid ⟨?_, h1.fr F (hno pp hP.lt), Chn.fr F h2 (fun i hi => hno i (hC.lt i hi)), h3.fr F (hno fp hFd.lt) (fun i hi => hno i (hq i hi).2), h4.fr F (hno mp hM1.lt), h6.trans F (fun i hi => .inr (own_ltS h5 i (by simpa using hi)).1)⟩
    have e : bv (bs.take (k + 1)) = bv (bs.take k) ++ [.int .u8 (x.toNat : Int)] := by rw [take_succ'' _ _ _ hx]; simp [bv]
    rw [e]
    exact ho)
  have HFin : Hid (∀ ov wx, Hid (PU w1 pp rp n rc g mp fp q bs l bs.length ov wx) → Calls Tryz.prog 14 #[.pointer (some ⟨pp, 0, none⟩)] wx fun e w' => e = .returned (.int .i64 0) ∧ Hid (FI wx pp rp n rc g mp fp q bs l 0 bs.length 0 0 ((bs.length * n : Nat) : Int) 0 w' ∧ PU w1 pp rp n rc g mp fp q bs l bs.length ov wx)) := Lib.hid (fun ov wx hh => by
    have H := hh.out
    have hC0 := H.ch
    rw [Nat.sub_self] at hC0
    have := hk9 bs.length (Nat.le_refl _)
    refine (pfin_any (by omega) wx 0 bs.length 0 0 _ 0 H.pa hC0 H.fd H.mt hA hln.symm (by omega) (by omega) (by omega) (fun i x hx => (H.fr.cell (p := ⟨rp, i, none⟩) (hst2 i x hx) hrpS).trans (hst i x hx)) hrp hpp hppr (fun i hi => (hq i hi).1)).mono ?_
    rintro e w' ⟨rfl, h⟩
    exact ⟨rfl, Lib.hid ⟨h, H⟩⟩)
  have HClo : Hid (∀ ov wx w', Hid (FI wx pp rp n rc g mp fp q bs l 0 bs.length 0 0 ((bs.length * n : Nat) : Int) 0 w' ∧ PU w1 pp rp n rc g mp fp q bs l bs.length ov wx) → CallsD Tryz.prog 12 #[.pointer (some ⟨pp, 0, none⟩)] .returning w' fun e u' w'' => u' = .returning ∧ (e = .returned (.tuple #[]) ∧ Hid (Sl w'' ov (bv bs) ∧ MtN w'' mp 0 bs.length 0 0 ((bs.length * n : Nat) : Int) 0 ∧ Fr [mp] w w''))) := Lib.hid (fun ov wx w' hh => by
    obtain ⟨⟨h1, h2, h3, h4, h5⟩, H⟩ := hh.out
    have F1 : Fr (pp :: mp :: fp :: l.map (·.1)) w1 w' := (H.fr.mono (fun i hi => List.mem_cons_of_mem _ hi)).trans h5 (fun i hi => .inl hi)
    refine (pclose_d w' 0 bs.length 0 0 _ 0 h1 h2 hln.symm (by omega) h4 hA.not_blks.1 (by omega) (by omega) (fun i x hx => (F1.cell (p := ⟨rp, i, none⟩) (hst2 i x hx) (by simp only [List.mem_cons, not_or]; exact ⟨Ne.symm hppr, hrp.1, hrp.2.1, not_map hrp.2.2⟩)).trans (hst i x hx)) ⟨hrp.1, hrp.2.2⟩ ⟨hpp.1, hpp.2.2⟩ .returning).mono ?_
    rintro e u' w'' ⟨rfl, rfl, m2, F2⟩
    have hno : ∀ j, w1.heap.size ≤ j → j ∉ (pp :: mp :: fp :: l.map (·.1)) ∧ j ∉ (pp :: mp :: blks l) := fun j hj => by
      have h9 := hP.lt
      refine ⟨fun hm => ?_, fun hm => ?_⟩
      · rcases List.mem_cons.1 hm with rfl | hm
        · omega
        · have := hS j hm; omega
      · simp only [List.mem_cons] at hm
        rcases hm with rfl | rfl | hm
        · omega
        · have := hM1.lt; omega
        · have := hC.lt j hm; omega
    have ho := own_frS (own_frS H.out h5 (fun j hj hm => (hno j (own_ltS H.out j hj).1).1 hm)) F2 (fun j hj hm => (hno j (own_ltS H.out j hj).1).2 hm)
    rw [List.take_length] at ho
    refine ⟨rfl, rfl, Lib.hid ⟨Sl.of_own ho, m2, ?_⟩⟩
    have hw : w.heap.size ≤ (w.alloc (.cells #[.slice ao (copF n (UInt64.ofNat bs.length)).coders.length cap, bv', p, .slice aos (u64v (copF n (UInt64.ofNat bs.length)).sizes).length caps, h, k0] 37)).heap.size := by simp
    have hge2 : ∀ i ∈ (pp :: mp :: fp :: l.map (·.1)) ++ (pp :: mp :: blks l), i ∈ [mp] ∨ w.heap.size ≤ i := fun i hi => by
      simp only [List.mem_append, List.mem_cons] at hi
      have hg := fun i hi => Nat.le_trans hw (hge i hi)
      rcases hi with (rfl | rfl | rfl | hi) | (rfl | rfl | hi)
      · exact .inr (hg _ (by simp))
      · exact .inl (by simp)
      · exact .inr (hg _ (by simp))
      · exact .inr (hg _ (by simp only [List.mem_cons]; exact .inr (.inr (.inr (mem_map_blks hi)))))
      · exact .inr (hg _ (by simp))
      · exact .inl (by simp)
      · exact .inr (hg _ (by simp only [List.mem_cons]; exact .inr (.inr (.inr hi))))
    have hF0 : Fr [mp] w w1 := (FB.out.mono (by simp)).trans hFr (fun i hi => .inl hi)
    exact (hF0.trans F1 (fun i hi => hge2 i (List.mem_append_left _ hi))).trans F2 (fun i hi => hge2 i (List.mem_append_right _ hi)))
  have HHL := Lib.hid hl
  clear hP hln hC hFd hM1 hA hst hrp hpp hppr hq hge hFr hl hS hst2 hppS hrpS HN
  go_loopw [10] (fun ov wx => ∃ k, k ≤ bs.length ∧ lenOf ov = k ∧ Hid (PU w1 pp rp n rc g mp fp q bs l k ov wx)) (fun ov _ => bs.length - lenOf ov)
  case atStart => exact ⟨0, Nat.zero_le _, rfl, H0⟩
  case round =>
    obtain ⟨k, hk, hlo, H⟩ := hrel
    rename World => wA
    obtain ⟨oa, oc, hov, -, -⟩ := own_outS H.out.out
    subst hov
    have HOW := H.out.out
    have HLO := Lib.hid hlo
    clear hlo
    by_cases hlt : k < bs.length
    · obtain ⟨x, hx⟩ := some_get bs k hlt
      have HX := Lib.hid hx
      have HC := Lib.hid (HNs.out k _ wA x hx H.out)
      clear hx HOW
      go_wp2_with (first
        | (have hq := G2; at_builtin; refine wpList_append_sl sty_u8 rfl _ _ (by rfl) w1.heap.size _ _ _ (by rfl) (own_frS G2.out.2.2.2.2.1 ((Fr.refl [] w2).alloc _) (by simp)) _ [.int .u8 (x.toNat : Int)] (by rfl) (sl_one w2 5 _) (by intro u hu; simp at hu; subst hu; rfl) (by simp; omega) (by simp; omega) (by rw [World.size_alloc]; exact Nat.le_succ_of_le G2.out.2.2.2.2.2.size) ?_)
        | (go_at_call 13; refine HC.out.mono ?_; rintro e w2 ⟨rfl, G2⟩))
      intro ov2 w4 own4 g4
      have HP4 := HAp.out k _ ov2 w2 w4 x HX.out G2 own4 g4
      obtain ⟨o2a, o2c, hov2, -, -⟩ := own_outS own4
      clear own4 g4 G2
      subst hov2
      go_wp2_with fail
      go_roundw
      case rel => exact ⟨k + 1, hlt, rfl, HP4⟩
      case measure => have := HLO.out; simp [lenOf] at this ⊢; omega
    · obtain rfl : k = bs.length := by omega
      have HC := Lib.hid (HNn.out _ wA H.out)
      clear HOW
      go_wp2_with (first
        | (have hq := G2; go_at_call 14; refine (HFin.out _ _ G2).mono ?_; rintro e w3 ⟨rfl, G3⟩)
        | (go_at_call 13; refine HC.out.mono ?_; rintro e w2 ⟨rfl, G2⟩))
      unfold bodyPostD
      refine leaves_cons (f := 12) (args := #[.pointer (some ⟨pp, 0, none⟩)]) (by simp) (by simp [go_sem]) ?_
      refine (HClo.out _ _ _ G3).mono ?_
      rintro e u' w4 ⟨rfl, rfl, G4⟩
      simp [Leaves, settle, results, Tryz.results6]
      have h4 := G4.out
      simp only [Int.natCast_mul] at h4
      exact h4
end Go.Proofs.YtfnblemlcjdnhaaGreat
