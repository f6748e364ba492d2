/- Contracts: graph's props, even. No condition but that lengths fit. -/
import Derived.Test.YtfnblemlcjdnhaaGreatGProps
import Derived.Test.YtfnblemlcjdnhaaGreatGA
import Derived.Deep.RegionHeld3
namespace Go.Proofs.YtfnblemlcjdnhaaGreat
open Go.RowKit

theorem props_any (w : World) (m : Int) (pv : Value) (b : List UInt8) (hb : Sl w pv (bv b)) (hl : b.length ≤ 2000) :
    Calls Tryz.prog 32 #[.agg #[.int .i64 m, pv]] w fun e w' => e = .returned (.int .i64 (codeOf (propsOk m b))) ∧ Fr [] w w' := by
  have hS : ∀ w', Fr [] w w' → Sl w' pv (bv b) := fun w' F => hb.fr0 F
  obtain ⟨ao, cap, rfl, g, mm, o⟩ := hb.out
  simp only [bv_length] at *
  have F0 : Fr [] w (w.alloc (.cells #[.int .i64 m, .slice ao b.length cap] 56)) := (Fr.refl _ _).alloc _
  have HS := Lib.hid (hS _ F0)
  by_cases h2 : m = 2
  · subst h2
    have E := Lib.hid (show propsOk 2 b = (b.length == 1) by simp [propsOk])
    clear o hS hb g mm
    go_enter Tryz.func32, Tryz.ntmps32
    go_wp2_with (go_at_call 38; refine (delta_parse _ _ b HS.out).mono ?_; rintro e w1 ⟨x, rfl, F1⟩)
    go_ret
    exact ⟨by rw [E.out]; rfl, F0.trans0 F1⟩
  have q2 : (m == 2) = false := by simp [h2]
  by_cases h4 : m = 4
  · subst h4
    have E := Lib.hid (show propsOk 4 b = (b.length == 5 && decide ((b.getD 0 0).toNat < 225)) by simp [propsOk])
    clear o hS hb g mm q2
    go_enter Tryz.func32, Tryz.ntmps32
    go_wp2_with (go_at_call 56; refine (lzma_parse _ _ b HS.out).mono ?_; rintro e w1 ⟨x, rfl, F1⟩)
    go_ret
    exact ⟨by rw [E.out]; rfl, F0.trans0 F1⟩
  have q4 : (m == 4) = false := by simp [h4]
  by_cases h7 : m = 7
  · subst h7
    have E := Lib.hid (show propsOk 7 b = ppmdOk b by simp [propsOk])
    clear o hS hb g mm q2 q4
    go_enter Tryz.func32, Tryz.ntmps32
    go_wp2_with (go_at_call 57; refine (ppmd_parse _ _ b HS.out hl).mono ?_; rintro e w1 ⟨x, rfl, F1⟩)
    go_ret
    exact ⟨by rw [E.out]; rfl, F0.trans0 F1⟩
  have q7 : (m == 7) = false := by simp [h7]
  by_cases h5 : m = 5
  · subst h5
    clear q2 q4 q7
    by_cases hl1 : b.length = 1
    · obtain ⟨b1, o1, rfl, hb1, c1⟩ := o 0 (by omega)
      obtain ⟨x, hx⟩ := some_get b 0 (by omega)
      have d1 : w.cell? ⟨b1, o1, none⟩ = some (.int .u8 x.toNat) := by
        have := c1 0 (by omega)
        rw [bv_get _ _ _ hx] at this
        exact this
      have d2 := (F0.cell (p := ⟨b1, o1, none⟩) hb1 (by simp)).trans d1
      have hxd : b.getD 0 0 = x := by simp [List.getD_eq_getElem?_getD, hx]
      have E := Lib.hid (show propsOk 5 b = decide (x.toNat ≤ 40) by unfold propsOk; rw [hxd]; simp [hl1])
      have t1 : ((b.length : Int) == 1) = true := by simp [hl1]
      have t2 : (b.length : Int) = 1 := by omega
      clear o hS hb g mm hl1 c1 hx hxd d1
      go_enter Tryz.func32, Tryz.ntmps32
      go_wp2_with (go_at_call 58; refine (lzma2_dict _ x).mono ?_; rintro e w1 ⟨xx, rfl, F1⟩)
      go_ret
      exact ⟨by rw [E.out]; rfl, F0.trans0 F1⟩
    · have E := Lib.hid (show propsOk 5 b = false by simp [propsOk, hl1])
      have t1 : ((b.length : Int) == 1) = false := by simp; omega
      clear o hS hb g mm hl1
      go_enter Tryz.func32, Tryz.ntmps32
      go_wp2
      go_ret
      exact ⟨by rw [E.out]; rfl, F0⟩
  have q5 : (m == 5) = false := by simp [h5]
  have E := Lib.hid (show propsOk m b = (b.length == 0) by simp [propsOk, h2, h4, h5, h7])
  clear h2 h4 h5 h7
  by_cases hl0 : b.length = 0
  · have E2 := Lib.hid (show propsOk m b = true by rw [E.out]; simp [hl0])
    have t1 : (b.length : Int) = 0 := by omega
    clear o hS hb g mm hl0
    go_enter Tryz.func32, Tryz.ntmps32
    go_wp2
    go_ret
    exact ⟨by rw [E2.out]; rfl, F0⟩
  · have E2 := Lib.hid (show propsOk m b = false by rw [E.out]; simp [hl0])
    have t1 : (0 : Int) < b.length := by omega
    clear o hS hb g mm hl0
    go_enter Tryz.func32, Tryz.ntmps32
    go_wp2
    go_ret
    exact ⟨by rw [E2.out]; rfl, F0⟩

/-- What comes out of a coder is as long as what goes in, where it must be. -/
def Folder.evenAt (f : Folder) (np : List UInt64) (k : Nat) (m : Int) : Bool :=
  if m = 1 ∨ m = 2 ∨ m = 3 then
    (if 0 ≤ (f.from_ (f.first k : Int)).1 then f.sizes[(f.from_ (f.first k : Int)).1.toNat]? == f.sizes[k]? else np[(f.from_ (f.first k : Int)).2.toNat]? == f.sizes[k]?)
  else true

theorem eq_u64 (a b : UInt64) : ((a.toNat : Int) == (b.toNat : Int)) = (some a == some b) := by
  rw [Bool.eq_iff_iff]
  simp
  exact ⟨fun h => UInt64.toNat_inj.1 (by omega), fun h => by rw [h]⟩

theorem even_coder (w : World) (v pv : Value) (f : Folder) (hf : Fo w v f) (hn : f.coders.length ≤ 100) (np : List UInt64) (hp : Sl w pv (u64v np)) (k : Nat) (x : Coder) (hx : f.coders[k]? = some x) (hk : k < f.sizes.length) (h123 : x.method = 1 ∨ x.method = 2 ∨ x.method = 3)
    (c : Nat) (r2 : Int) (hfr : f.from_ (f.first k : Int) = ((c : Int), r2)) (hcl : c < f.sizes.length) :
    Calls Tryz.prog 33 #[v, .int .i64 k, pv] w fun e w' => e = .returned (.bool (f.evenAt np k x.method)) ∧ Fr [] w w' := by
  have hf0 := hf
  obtain ⟨pao, pcap, rfl, pg, pm, po⟩ := hp.out
  obtain ⟨cv, bv', p, s, h, k0, rfl, hV⟩ := hf
  obtain ⟨ao, cap, rfl, g, m, o⟩ := hV.co.out
  obtain ⟨aos, caps, rfl, gs, ms, os⟩ := hV.si.out
  simp only [u64v_length] at *
  obtain ⟨b1, o1, pv2, rfl, hb1, hC⟩ := o k x hx
  obtain ⟨b2, o2, rfl, hb2, cs⟩ := os k hk
  have hkl : k < f.coders.length := (List.getElem?_eq_some_iff.1 hx).1
  obtain ⟨y, hy⟩ := some_get f.sizes k hk
  have sk : w.cell? ⟨b2, o2 + k, none⟩ = some (.int .u64 y.toNat) := by rw [cs k hk, u64v_get _ _ _ hy]
  have F0 : Fr [] w (w.alloc (.cells #[.slice (some ⟨b1, o1, none⟩) f.coders.length cap, bv', p, .slice (some ⟨b2, o2, none⟩) f.sizes.length caps, h, k0] 37)) := (Fr.refl _ _).alloc _
  obtain ⟨c0, c1, -⟩ := hC.fr hb1 F0
  obtain ⟨mth, pb⟩ := x
  dsimp only at *
  obtain ⟨z, hz⟩ := some_get f.sizes c hcl
  have sc : w.cell? ⟨b2, o2 + c, none⟩ = some (.int .u64 z.toNat) := by rw [cs c hcl, u64v_get _ _ _ hz]
  have E := Lib.hid (show f.evenAt np k mth = ((z.toNat : Int) == (y.toNat : Int)) by simp [Folder.evenAt, h123, hfr, hz, hy, eq_u64])
  clear hz
  have HF := Lib.hid hf0
  have HN := Lib.hid hn
  have HFR := Lib.hid hfr
  clear o os hx hy hf0 hV hC cs hfr hp pg pm po hn g m gs ms
  rcases h123 with rfl | rfl | rfl
  all_goals
    go_enter Tryz.func33, Tryz.ntmps33
    go_wp2_with fail
    obtain ⟨wb, hwb⟩ : ∃ wb, wb = w.alloc (.cells #[.slice (some ⟨b1, o1, none⟩) f.coders.length cap, bv', p, .slice (some ⟨b2, o2, none⟩) f.sizes.length caps, h, k0] 37) := ⟨_, rfl⟩
    have FB : Fr [] w wb := hwb ▸ F0
    have GB : Fr [] (w.alloc (.cells #[.slice (some ⟨b1, o1, none⟩) f.coders.length cap, bv', p, .slice (some ⟨b2, o2, none⟩) f.sizes.length caps, h, k0] 37)) wb := hwb ▸ Fr.refl _ _
    rw [← hwb]
    clear hwb c0 c1
    obtain ⟨d0, d1, d2, d3, d4, d5⟩ := box6 GB
    go_region_held3 (fun w' => w'.cell? ⟨w.heap.size, 0, none⟩ = some (.slice (some ⟨b1, o1, none⟩) f.coders.length cap) ∧ w'.cell? ⟨w.heap.size, 1, none⟩ = some bv' ∧ w'.cell? ⟨w.heap.size, 2, none⟩ = some p ∧ w'.cell? ⟨w.heap.size, 3, none⟩ = some (.slice (some ⟨b2, o2, none⟩) f.sizes.length caps) ∧ w'.cell? ⟨w.heap.size, 4, none⟩ = some h ∧ w'.cell? ⟨w.heap.size, 5, none⟩ = some k0)
      (first | exact ⟨d0, d1, d2, d3, d4, d5⟩ | exact box6 GB.drew | exact box6 G1 | exact box6 G2 | go_keep)
      (first
        | (go_at_call 19; refine (first_any _ _ f (HF.out.fr FB.drew) HN.out k (by have := HN.out; omega)).mono ?_; rintro e wx ⟨rfl, Fx⟩; have G1 := GB.drew.trans0 Fx)
        | (go_at_call 21; refine (from_any _ _ f (HF.out.fr (F0.trans0 G1)) _).mono ?_; rw [HFR.out]; dsimp only; rintro e wy ⟨rfl, Fy⟩; have G2 := G1.trans0 Fy))
    have FT := F0.trans0 G2
    obtain ⟨a0, a1, a2, a3, a4, a5⟩ := box6 G2
    clear d0 d1 d2 d3 d4 d5
    have sk2 := (FT.cell (p := ⟨b2, o2 + k, none⟩) hb2 (by simp)).trans sk
    have sc2 := (FT.cell (p := ⟨b2, o2 + c, none⟩) hb2 (by simp)).trans sc
    go_wp2_with fail
    go_quiet (fail)
    go_wp2
    go_ret
    refine ⟨by rw [E.out]; rfl, FT.drewN _⟩

theorem even_pack (w : World) (v pv : Value) (f : Folder) (hf : Fo w v f) (hn : f.coders.length ≤ 100) (np : List UInt64) (hp : Sl w pv (u64v np)) (k : Nat) (x : Coder) (hx : f.coders[k]? = some x) (hk : k < f.sizes.length) (h123 : x.method = 1 ∨ x.method = 2 ∨ x.method = 3)
    (c : Nat) (hfr : f.from_ (f.first k : Int) = (-1, (c : Int))) (hcl : c < np.length) :
    Calls Tryz.prog 33 #[v, .int .i64 k, pv] w fun e w' => e = .returned (.bool (f.evenAt np k x.method)) ∧ Fr [] w w' := by
  have hf0 := hf
  obtain ⟨pao, pcap, rfl, pg, pm, po⟩ := hp.out
  obtain ⟨cv, bv', p, s, h, k0, rfl, hV⟩ := hf
  obtain ⟨ao, cap, rfl, g, m, o⟩ := hV.co.out
  obtain ⟨aos, caps, rfl, gs, ms, os⟩ := hV.si.out
  simp only [u64v_length] at *
  obtain ⟨b1, o1, pv2, rfl, hb1, hC⟩ := o k x hx
  obtain ⟨b2, o2, rfl, hb2, cs⟩ := os k hk
  have hkl : k < f.coders.length := (List.getElem?_eq_some_iff.1 hx).1
  obtain ⟨y, hy⟩ := some_get f.sizes k hk
  have sk : w.cell? ⟨b2, o2 + k, none⟩ = some (.int .u64 y.toNat) := by rw [cs k hk, u64v_get _ _ _ hy]
  have F0 : Fr [] w (w.alloc (.cells #[.slice (some ⟨b1, o1, none⟩) f.coders.length cap, bv', p, .slice (some ⟨b2, o2, none⟩) f.sizes.length caps, h, k0] 37)) := (Fr.refl _ _).alloc _
  obtain ⟨c0, c1, -⟩ := hC.fr hb1 F0
  obtain ⟨mth, pb⟩ := x
  dsimp only at *
  obtain ⟨b3, o3, rfl, hb3, cp⟩ := po c hcl
  obtain ⟨z, hz⟩ := some_get np c hcl
  have sc : w.cell? ⟨b3, o3 + c, none⟩ = some (.int .u64 z.toNat) := by rw [cp c hcl, u64v_get _ _ _ hz]
  have E := Lib.hid (show f.evenAt np k mth = ((z.toNat : Int) == (y.toNat : Int)) by simp [Folder.evenAt, h123, hfr, hz, hy, eq_u64])
  clear hz cp
  have HF := Lib.hid hf0
  have HN := Lib.hid hn
  have HFR := Lib.hid hfr
  clear o os hx hy hf0 hV hC cs hfr hp pg pm po hn g m gs ms
  rcases h123 with rfl | rfl | rfl
  all_goals
    go_enter Tryz.func33, Tryz.ntmps33
    go_wp2_with fail
    obtain ⟨wb, hwb⟩ : ∃ wb, wb = w.alloc (.cells #[.slice (some ⟨b1, o1, none⟩) f.coders.length cap, bv', p, .slice (some ⟨b2, o2, none⟩) f.sizes.length caps, h, k0] 37) := ⟨_, rfl⟩
    have FB : Fr [] w wb := hwb ▸ F0
    have GB : Fr [] (w.alloc (.cells #[.slice (some ⟨b1, o1, none⟩) f.coders.length cap, bv', p, .slice (some ⟨b2, o2, none⟩) f.sizes.length caps, h, k0] 37)) wb := hwb ▸ Fr.refl _ _
    rw [← hwb]
    clear hwb c0 c1
    obtain ⟨d0, d1, d2, d3, d4, d5⟩ := box6 GB
    go_region_held3 (fun w' => w'.cell? ⟨w.heap.size, 0, none⟩ = some (.slice (some ⟨b1, o1, none⟩) f.coders.length cap) ∧ w'.cell? ⟨w.heap.size, 1, none⟩ = some bv' ∧ w'.cell? ⟨w.heap.size, 2, none⟩ = some p ∧ w'.cell? ⟨w.heap.size, 3, none⟩ = some (.slice (some ⟨b2, o2, none⟩) f.sizes.length caps) ∧ w'.cell? ⟨w.heap.size, 4, none⟩ = some h ∧ w'.cell? ⟨w.heap.size, 5, none⟩ = some k0)
      (first | exact ⟨d0, d1, d2, d3, d4, d5⟩ | exact box6 GB.drew | exact box6 G1 | exact box6 G2 | go_keep)
      (first
        | (go_at_call 19; refine (first_any _ _ f (HF.out.fr FB.drew) HN.out k (by have := HN.out; omega)).mono ?_; rintro e wx ⟨rfl, Fx⟩; have G1 := GB.drew.trans0 Fx)
        | (go_at_call 21; refine (from_any _ _ f (HF.out.fr (F0.trans0 G1)) _).mono ?_; rw [HFR.out]; dsimp only; rintro e wy ⟨rfl, Fy⟩; have G2 := G1.trans0 Fy))
    have FT := F0.trans0 G2
    obtain ⟨a0, a1, a2, a3, a4, a5⟩ := box6 G2
    clear d0 d1 d2 d3 d4 d5
    have sk2 := (FT.cell (p := ⟨b2, o2 + k, none⟩) hb2 (by simp)).trans sk
    have sc2 := (FT.cell (p := ⟨b3, o3 + c, none⟩) hb3 (by simp)).trans sc
    go_wp2_with fail
    go_quiet (fail)
    go_wp2
    go_ret
    refine ⟨by rw [E.out]; rfl, FT.drewN _⟩


theorem even_other (w : World) (v pv : Value) (f : Folder) (hf : Fo w v f) (np : List UInt64) (k : Nat) (x : Coder) (hx : f.coders[k]? = some x)
    (h1 : x.method ≠ 1) (h2 : x.method ≠ 2) (h3 : x.method ≠ 3) :
    Calls Tryz.prog 33 #[v, .int .i64 k, pv] w fun e w' => e = .returned (.bool (f.evenAt np k x.method)) ∧ Fr [] w w' := by
  obtain ⟨cv, bv', p, s, h, k0, rfl, hV⟩ := hf
  obtain ⟨ao, cap, rfl, g, m, o⟩ := hV.co.out
  obtain ⟨b1, o1, pv2, rfl, hb1, hC⟩ := o k x hx
  have hkl : k < f.coders.length := (List.getElem?_eq_some_iff.1 hx).1
  have F0 : Fr [] w (w.alloc (.cells #[.slice (some ⟨b1, o1, none⟩) f.coders.length cap, bv', p, s, h, k0] 37)) := (Fr.refl _ _).alloc _
  obtain ⟨c0, c1, -⟩ := hC.fr hb1 F0
  obtain ⟨mth, pb⟩ := x
  dsimp only at *
  have E := Lib.hid (show f.evenAt np k mth = true by simp [Folder.evenAt, h1, h2, h3])
  have t1 : (mth == 1) = false := by simp [h1]
  have t2 : (mth == 2) = false := by simp [h2]
  have t3 : (mth == 3) = false := by simp [h3]
  clear o hx hC h1 h2 h3 hV
  go_enter Tryz.func33, Tryz.ntmps33
  go_wp2_with fail
  go_ret
  exact ⟨by rw [E.out]; rfl, F0⟩

/-- What feeds a coder's first stream can be had. -/
structure Fed (f : Folder) (np : Nat) (k : Nat) : Prop where
  sizes : k < f.sizes.length
  fed : (∃ c : Nat, ∃ r2, f.from_ (f.first k : Int) = ((c : Int), r2) ∧ c < f.sizes.length) ∨ ∃ c : Nat, f.from_ (f.first k : Int) = (-1, (c : Int)) ∧ c < np

theorem even_any (w : World) (v pv : Value) (f : Folder) (hf : Fo w v f) (hn : f.coders.length ≤ 100) (np : List UInt64) (hp : Sl w pv (u64v np)) (k : Nat) (x : Coder) (hx : f.coders[k]? = some x) (hk : Fed f np.length k) :
    Calls Tryz.prog 33 #[v, .int .i64 k, pv] w fun e w' => e = .returned (.bool (f.evenAt np k x.method)) ∧ Fr [] w w' := by
  by_cases h : x.method = 1 ∨ x.method = 2 ∨ x.method = 3
  · rcases hk.fed with ⟨c, r2, h1, h2⟩ | ⟨c, h1, h2⟩
    · exact even_coder w v pv f hf hn np hp k x hx hk.sizes h c r2 h1 h2
    · exact even_pack w v pv f hf hn np hp k x hx hk.sizes h c h1 h2
  · simp only [not_or] at h
    exact even_other w v pv f hf np k x hx h.1 h.2.1 h.2.2
end Go.Proofs.YtfnblemlcjdnhaaGreat
