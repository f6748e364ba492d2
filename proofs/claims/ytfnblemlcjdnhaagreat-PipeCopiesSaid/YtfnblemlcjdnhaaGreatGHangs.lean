/- Contract: graph's hangs. No condition but that lengths fit. -/
import Derived.Test.YtfnblemlcjdnhaaGreatGRound
import Derived.Deep.RegionWith
namespace Go.Proofs.YtfnblemlcjdnhaaGreat
open Go.RowKit

/-- Lengths that are gone through. -/
structure Small (f : Folder) : Prop where
  co : f.coders.length ≤ 100
  bi : f.binds.length ≤ 100
  pa : f.packs.length ≤ 400
  si : f.sizes.length ≤ 100

/-- Coders hang together. -/
structure Hangs (f : Folder) (np : Nat) : Prop where
  least : 1 ≤ f.coders.length
  most : f.coders.length ≤ 8
  bi : f.binds.length + 1 = f.coders.length
  si : f.sizes.length = f.coders.length
  pa : np = f.packs.length
  ins : ∀ c ∈ f.coders, ins c.method ≠ 0
  named : Named f (f.first f.coders.length)
  round : ¬ Circle (fdOf f) f.coders.length

theorem from_out (f : Folder) (i : Int) (h : 0 ≤ (f.from_ i).1) : ∃ b ∈ f.binds, b.2 = (f.from_ i).1 ∧ b.1 = i := by
  unfold Folder.from_ Folder.fromB at *
  cases hf : f.binds.find? (fun b => b.1 == i) with
  | none => rw [hf] at h; simp at h
  | some b =>
    refine ⟨b, List.mem_of_find?_eq_some hf, rfl, ?_⟩
    have := List.find?_some hf
    simpa using this

theorem feeders_fit (f : Folder) (all : Nat) (N : Named f all) : ∀ c, c < f.coders.length → ∀ x ∈ f.feeders c, 0 ≤ x ∧ x < f.coders.length := by
  intro c _ x hx
  unfold Folder.feeders Folder.feedersTo at hx
  obtain ⟨hx1, hx2⟩ := List.mem_filter.1 hx
  obtain ⟨i, _, rfl⟩ := List.mem_map.1 hx1
  have h0 : 0 ≤ (f.from_ ((f.first c + i : Nat) : Int)).1 := by simpa using hx2
  obtain ⟨b, hb, e, _⟩ := from_out f _ h0
  have := (N.binds b hb).2
  rw [← e]
  exact this

/-- .. where the lengths do not fit. -/
theorem hangs_no (w : World) (v pv : Value) (f : Folder) (hf : Fo w v f) (hs : Small f) (np : Nat) (hpv : ∃ ao cap, pv = .slice ao np cap) (hnn : ¬ (1 ≤ f.coders.length ∧ f.coders.length ≤ 8 ∧ f.binds.length + 1 = f.coders.length ∧ f.sizes.length = f.coders.length ∧ np = f.packs.length)) :
    Calls Tryz.prog 30 #[v, pv] w (Tells (Hangs f np) w) := by
  have hf0 := hf
  obtain ⟨pao, pcap, rfl⟩ := hpv
  obtain ⟨cv, bv', p, s, h, k0, rfl, hV⟩ := hf
  obtain ⟨ao, cap, rfl, g, m, o⟩ := hV.co.out
  obtain ⟨aob, capb, rfl, gb, mb, -⟩ := hV.bi.out
  obtain ⟨aop, capp, rfl, gp, mp, -⟩ := hV.pa.out
  obtain ⟨aos, caps, rfl, gs, ms, -⟩ := hV.si.out
  have s1 := hs.co
  have s2 := hs.bi
  have s3 := hs.pa
  have s4 := hs.si
  have HS := Lib.hid hs
  have HV := Lib.hid hV
  simp only [iv_length, u64v_length] at *
  clear hs hV
  have F0 : Fr [] w (w.alloc (.cells #[.slice ao f.coders.length cap, .slice aob f.binds.length capb, .slice aop f.packs.length capp, .slice aos f.sizes.length caps, h, k0] 37)) := (Fr.refl _ _).alloc _
  have hne : ¬ (1 ≤ f.coders.length ∧ f.coders.length ≤ 8 ∧ f.binds.length + 1 = f.coders.length ∧ f.sizes.length = f.coders.length ∧ np = f.packs.length) → ¬ Hangs f np := fun hn H => hn ⟨H.least, H.most, H.bi, H.si, H.pa⟩
  by_cases q1 : f.coders.length < 1
  · have HN := Lib.hid (hne hnn)
    clear hne hnn o
    go_enter Tryz.func30, Tryz.ntmps30
    go_wp2_with fail
    go_ret
    exact ⟨false, rfl, by simp [HN.out], F0⟩
  by_cases q2 : 8 < f.coders.length
  · have HN := Lib.hid (hne hnn)
    clear hne hnn o
    go_enter Tryz.func30, Tryz.ntmps30
    go_wp2_with fail
    go_ret
    exact ⟨false, rfl, by simp [HN.out], F0⟩
  by_cases q3 : f.binds.length + 1 = f.coders.length
  rotate_left
  · have b3 : ((f.binds.length : Int) != (f.coders.length : Int) - 1) = true := by rw [bne_iff_ne]; omega
    have HN := Lib.hid (hne hnn)
    clear hne hnn o
    go_enter Tryz.func30, Tryz.ntmps30
    go_wp2_with fail
    go_ret
    exact ⟨false, rfl, by simp [HN.out], F0⟩
  have b3 : ((f.binds.length : Int) != (f.coders.length : Int) - 1) = false := by simp; omega
  by_cases q4 : f.sizes.length = f.coders.length
  rotate_left
  · have b4 : ((f.sizes.length : Int) != (f.coders.length : Int)) = true := by rw [bne_iff_ne]; omega
    have HN := Lib.hid (hne hnn)
    clear hne hnn o
    clear q3
    go_enter Tryz.func30, Tryz.ntmps30
    go_wp2_with fail
    go_ret
    exact ⟨false, rfl, by simp [HN.out], F0⟩
  have b4 : ((f.sizes.length : Int) != (f.coders.length : Int)) = false := by simp; omega
  by_cases q5 : np = f.packs.length
  rotate_left
  · have b5 : ((np : Int) != (f.packs.length : Int)) = true := by rw [bne_iff_ne]; omega
    have HN := Lib.hid (hne hnn)
    clear hne hnn o
    clear q3 q4
    go_enter Tryz.func30, Tryz.ntmps30
    go_wp2_with fail
    go_ret
    exact ⟨false, rfl, by simp [HN.out], F0⟩
  have b5 : ((np : Int) != (f.packs.length : Int)) = false := by simp; omega
  exact absurd ⟨by omega, by omega, q3, q4, q5⟩ hnn

set_option maxRecDepth 100000 in
set_option maxHeartbeats 2000000 in
theorem hangs_yes (w : World) (v pv : Value) (f : Folder) (hf : Fo w v f) (hs : Small f) (np : Nat) (hpv : ∃ ao cap, pv = .slice ao np cap) (q1 : ¬ f.coders.length < 1) (q2 : ¬ 8 < f.coders.length) (q3 : f.binds.length + 1 = f.coders.length) (q4 : f.sizes.length = f.coders.length) (q5 : np = f.packs.length) :
    Calls Tryz.prog 30 #[v, pv] w (Tells (Hangs f np) w) := by
  have hf0 := hf
  obtain ⟨pao, pcap, rfl⟩ := hpv
  obtain ⟨cv, bv', p, s, h, k0, rfl, hV⟩ := hf
  obtain ⟨ao, cap, rfl, g, m, o⟩ := hV.co.out
  obtain ⟨aob, capb, rfl, gb, mb, -⟩ := hV.bi.out
  obtain ⟨aop, capp, rfl, gp, mp, -⟩ := hV.pa.out
  obtain ⟨aos, caps, rfl, gs, ms, -⟩ := hV.si.out
  have s1 := hs.co
  have s2 := hs.bi
  have s3 := hs.pa
  have s4 := hs.si
  have HS := Lib.hid hs
  have HV := Lib.hid hV
  simp only [iv_length, u64v_length] at *
  clear hs hV
  have F0 : Fr [] w (w.alloc (.cells #[.slice ao f.coders.length cap, .slice aob f.binds.length capb, .slice aop f.packs.length capp, .slice aos f.sizes.length caps, h, k0] 37)) := (Fr.refl _ _).alloc _
  have b3 : ((f.binds.length : Int) != (f.coders.length : Int) - 1) = false := by simp; omega
  have b4 : ((f.sizes.length : Int) != (f.coders.length : Int)) = false := by simp; omega
  have b5 : ((np : Int) != (f.packs.length : Int)) = false := by simp; omega
  have HQ := Lib.hid (And.intro q3 (And.intro q4 q5))
  clear q3 q4 q5
  go_enter Tryz.func30, Tryz.ntmps30
  go_wp2_with fail
  go_loopw [43] (fun i wr => ∃ k : Nat, k ≤ f.coders.length ∧ i = .int .i64 k ∧ (∀ c ∈ f.coders.take k, ins c.method ≠ 0) ∧ Fr [] (w.alloc (.cells #[.slice ao f.coders.length cap, .slice aob f.binds.length capb, .slice aop f.packs.length capp, .slice aos f.sizes.length caps, h, k0] 37)) wr) (fun i _ => f.coders.length - (intOf i).toNat)
  case atStart => exact ⟨0, Nat.zero_le _, rfl, by simp, Fr.refl _ _⟩
  case round =>
    obtain ⟨k, hk, rfl, hI, F⟩ := hrel
    by_cases hlt : k < f.coders.length
    · obtain ⟨x, hx⟩ := some_get f.coders k hlt
      obtain ⟨b1, o1, pv, rfl, hb1, hC⟩ := o k x hx
      obtain ⟨pao2, pcap2, rfl, -⟩ := hC.2.2.out
      obtain ⟨c0, c1, -⟩ := hC.fr hb1 (F0.trans0 F)
      have HI := Lib.hid hI
      have HX := Lib.hid hx
      clear o hI hx hC
      by_cases qi : ins x.method = 0
      · have HN := Lib.hid (show ¬ Hangs f np from fun H => H.ins x (List.mem_of_getElem? HX.out) qi)
        have bi : ((ins x.method : Int) == 0) = true := by simp [qi]
        clear qi
        go_wp2_with (go_at_call 20; refine (ins_any _ _ _).mono ?_; rintro e w2 ⟨rfl, F2⟩)
        go_ret
        exact ⟨false, rfl, by simp [HN.out], ((F0.trans0 F).alloc _).trans0 F2⟩
      · have bi : ((ins x.method : Int) == 0) = false := by simp [qi]
        have HI2 := Lib.hid (show ∀ c ∈ f.coders.take (k + 1), ins c.method ≠ 0 from fun c hc => by
          rw [take_succ3 _ _ _ HX.out] at hc
          rcases List.mem_append.1 hc with hc | hc
          · exact HI.out c hc
          · rw [List.mem_singleton] at hc; subst hc; exact qi)
        clear qi
        go_wp2_with (go_at_call 20; refine (ins_any _ _ _).mono ?_; rintro e w2 ⟨rfl, F2⟩)
        go_roundw
        case rel => exact ⟨k + 1, by omega, by go_num, HI2.out, (F.alloc _).trans0 F2⟩
        case measure => simp [intOf]; omega
    · rw [List.take_of_length_le (by omega)] at hI
      have HI := Lib.hid hI
      have hfo : ∀ w', Fr [] w w' → Fo w' _ f := fun w' F' => hf0.fr F'
      have HH : (Named f (f.first f.coders.length) ∧ ¬ Circle (fdOf f) f.coders.length) ↔ Hangs f np := by
        obtain ⟨q3, q4, q5⟩ := HQ.out
        exact ⟨fun H => ⟨by omega, by omega, q3, q4, q5, HI.out, H.1, H.2⟩, fun H => ⟨H.named, H.round⟩⟩
      have HF := Lib.hid hf0
      have HH2 := Lib.hid HH
      have HS := HS
      have hle := f.first_le f.coders.length
      obtain ⟨d0, d1, d2, d3, d4, d5⟩ := box6 F
      clear o hI hfo hf0 HH b3 b4 b5
      go_wp2_with fail
      generalize (decide ((f.coders.length : Int) < 1) || decide (8 < (f.coders.length : Int))) = bb
      by_cases hN : Named f (f.first f.coders.length)
      · have HFit := Lib.hid (feeders_fit f _ hN)
        clear g m gb mb gp mp gs ms
        have HN := Lib.hid hN
        have HLE := Lib.hid (show f.first f.coders.length ≤ 1000 by omega)
        have H1 := Lib.hid s1
        have H2 := Lib.hid s2
        have H3 := Lib.hid s3
        have H0 := Lib.hid (show 1 ≤ f.coders.length by omega)
        clear hN hle hk hlt s1 s2 s3 s4
        go_region_held3 (fun w' => w'.cell? ⟨w.heap.size, 0, none⟩ = some (.slice ao f.coders.length cap) ∧ w'.cell? ⟨w.heap.size, 1, none⟩ = some (.slice aob f.binds.length capb) ∧ w'.cell? ⟨w.heap.size, 2, none⟩ = some (.slice aop f.packs.length capp) ∧ w'.cell? ⟨w.heap.size, 3, none⟩ = some (.slice aos f.sizes.length caps) ∧ w'.cell? ⟨w.heap.size, 4, none⟩ = some h ∧ w'.cell? ⟨w.heap.size, 5, none⟩ = some k0)
          (first | exact ⟨d0, d1, d2, d3, d4, d5⟩ | exact box6 F.drew | exact box6 G1 | exact box6 G2 | exact box6 G3 | go_keep)
          (first
            | (go_at_call 19; refine (first_any _ _ f (HF.out.fr (F0.trans0 F.drew)) H1.out _ (Nat.le_trans H1.out (by decide))).mono ?_; rintro e wx ⟨rfl, Fx⟩; have G1 := F.drew.trans0 Fx)
            | (go_at_call 53; refine (named_any _ _ f (HF.out.fr (F0.trans0 G1)) H2.out H3.out H1.out _ HLE.out).mono ?_; rintro e wy ⟨r, rfl, hr, Fy⟩; have G2 := G1.trans0 Fy; obtain rfl : r = true := hr.2 HN.out; clear hr)
            | (go_at_call 54; refine (round_any _ _ f (HF.out.fr (F0.trans0 G2)) H1.out H0.out HFit.out).mono ?_; rintro e wz ⟨r2, rfl, hr2, Fz⟩; have G3 := G2.trans0 Fz; have HR2 := Lib.hid hr2; clear hr2))
        go_wp2_with fail
        go_ret
        refine ⟨!r2, rfl, ?_, F0.trans0 G3⟩
        rw [← HH2.out]
        constructor
        · intro hh
          exact ⟨HN.out, fun hc => by rw [HR2.out.2 hc] at hh; cases hh⟩
        · rintro ⟨_, hc⟩
          cases r2 with
          | true => exact absurd (HR2.out.1 rfl) hc
          | false => rfl
      · clear g m gb mb gp mp gs ms
        have HN := Lib.hid hN
        have HLE := Lib.hid (show f.first f.coders.length ≤ 1000 by omega)
        have H1 := Lib.hid s1
        have H2 := Lib.hid s2
        have H3 := Lib.hid s3
        clear hN hle hk hlt s1 s2 s3 s4
        obtain ⟨a0, a1, a2, a3, a4, a5⟩ := box6 F.drew
        go_region_with (first
            | (go_at_call 19; refine (first_any _ _ f (HF.out.fr (F0.trans0 F.drew)) H1.out _ (Nat.le_trans H1.out (by decide))).mono ?_; rintro e wx ⟨rfl, Fx⟩; have G1 := F.drew.trans0 Fx; obtain ⟨b0, b1, b2, b3, b4, b5⟩ := box6 G1)
            | (go_at_call 53; refine (named_any _ _ f (HF.out.fr (F0.trans0 G1)) H2.out H3.out H1.out _ HLE.out).mono ?_; rintro e wy ⟨r, rfl, hr, Fy⟩; have G2 := G1.trans0 Fy; obtain rfl : r = false := Bool.eq_false_iff.2 (fun hh => HN.out (hr.1 hh)); clear hr))
        all_goals
          go_wp2_with fail
          go_ret
          exact ⟨false, rfl, by rw [← HH2.out]; simp [HN.out], F0.trans0 (by assumption)⟩

theorem hangs_any (w : World) (v pv : Value) (f : Folder) (hf : Fo w v f) (hs : Small f) (np : Nat) (hpv : ∃ ao cap, pv = .slice ao np cap) :
    Calls Tryz.prog 30 #[v, pv] w (Tells (Hangs f np) w) := by
  by_cases h : 1 ≤ f.coders.length ∧ f.coders.length ≤ 8 ∧ f.binds.length + 1 = f.coders.length ∧ f.sizes.length = f.coders.length ∧ np = f.packs.length
  · obtain ⟨q1, q2, q3, q4, q5⟩ := h
    exact hangs_yes w v pv f hf hs np hpv (by omega) (by omega) q3 q4 q5
  · exact hangs_no w v pv f hf hs np hpv h
end Go.Proofs.YtfnblemlcjdnhaaGreat
