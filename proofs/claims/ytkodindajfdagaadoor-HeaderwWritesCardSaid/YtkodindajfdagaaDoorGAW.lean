/- The law HeaderwWrites: the walk. No condition but that lengths are those of what a memory can hold, and what the library's tables hold. -/
import Derived.Test.YtkodindajfdagaaDoorGAL
import Derived.Test.YtkodindajfdagaaDoorGAR
import Derived.Test.YtkodindajfdagaaDoorWSmallM
import Derived.Test.YtkodindajfdagaaDoorWRWrM
import Derived.Deep.RegionHeld3
import Derived.Test.YtkodindajfdagaaDoorBaseM
import Derived.ProofKit
import Derived.OpenShut
import Derived.ShutString
import Derived.ChangeOld
import Derived.Deep.Grids
import Derived.Test.YtkodindajfdagaaDoorGAA
import Derived.Deep.SlicePairs
namespace Go.Proofs.YtkodindajfdagaaDoor
open Go.RowKit Go.Maps

theorem sl_outC {w : World} {v : Value} {l : List UInt8} (h : Sl w v (bv l)) : ∃ ao cap, v = .slice ao l.length cap ∧ l.length ≤ cap ∧ cap ≤ 9223372036854775807 := by
  obtain ⟨ao, cap, e, h1, h2, -⟩ := h.out
  rw [bv_length] at e h1
  exact ⟨ao, cap, e, h1, h2⟩
/-- What is small fits. -/
theorem SmOk.each {D : StD} {F : List Fil} (h : SmOk D F) {x : Fol} (hx : x ∈ D.L) : fCost x ≤ 3000 := by
  have h1 := h.d
  have h2 : fCost x ≤ fCosts D.L := by
    obtain ⟨A, B, hAB⟩ := List.append_of_mem hx
    unfold fCosts
    rw [hAB, List.map_append, List.map_cons, List.sum_append, List.sum_cons]
    omega
  omega
theorem many_mem {S : List (List Sub)} {l : List Sub} (h : l ∈ S) : l.length ≤ manyOf S := by
  obtain ⟨A, B, rfl⟩ := List.append_of_mem h
  unfold manyOf
  rw [List.map_append, List.map_cons, List.sum_append, List.sum_cons]
  omega
theorem SmOk.fit {D : StD} {F : List Fil} (h : SmOk D F) : StFit D := by
  have ha := h.a
  have hb := h.b
  have hc := h.c
  have hd := h.d
  refine ⟨by omega, by omega, by omega, by omega, fun x hx => ?_, fun l hl => ?_⟩
  · have := h.each hx
    unfold fCost at this
    omega
  · have := many_mem hl
    omega
theorem prop_le (f : Folder) : propN f ≤ 64 * pr64 f + 63 * f.coders.length := by
  unfold propN pr64
  induction f.coders with
  | nil => exact Nat.zero_le _
  | cons c t ih =>
    simp only [List.map_cons, List.sum_cons, List.length_cons]
    omega
theorem folSN_le (L : List Fol) : folSN L ≤ 10 * L.length + 80 * fCosts L := by
  unfold folSN fCosts
  induction L with
  | nil => exact Nat.zero_le _
  | cons x t ih =>
    simp only [List.map_cons, List.sum_cons, List.length_cons]
    have h1 := prop_le x.f
    have h2 : folN x.f + 9 * x.f.sizes.length ≤ 10 + 80 * fCost x := by
      unfold folN fCost
      omega
    omega
theorem nameN_le {F : List Fil} {k : Nat} (h : ∀ x ∈ F, x.name.length ≤ k) : nameN F ≤ k * F.length := by
  unfold nameN
  induction F with
  | nil => exact Nat.zero_le _
  | cons x t ih =>
    simp only [List.map_cons, List.sum_cons, List.length_cons, Nat.mul_succ]
    have h1 := h x (by simp)
    have h2 := ih (fun y hy => h y (List.mem_cons_of_mem _ hy))
    omega
theorem SmOk.short {D : StD} {F : List Fil} (h : SmOk D F) : (strmW D).length + (filesW F).length ≤ 3999000 := by
  have h1 := strmW_le D
  have h2 := filesW_le F
  have h3 := folSN_le D.L
  have h4 := nameN_le h.f
  have ha := h.a
  have hb := h.b
  have hc := h.c
  have hd := h.d
  omega

set_option maxRecDepth 100000 in
set_option maxHeartbeats 8000000 in
theorem walk_HeaderwWrites (w : World) (v : Value) (pk : Bool) (D : StD) (Fi : List Fil) (hG : Gl w) (hD : DeR w v pk D Fi) (hsz : DeSz D Fi) :
    Calls Tryd.prog 3 #[v] w fun e w' => e = .returned (.bool true) ∧ Fr [] w w' := by
  have hD2 := hD
  obtain ⟨⟨pk1, pl1, ps1, cs1, fo1, su1, es1⟩, rfl, hp1, hR1, hF1⟩ := hD
  dsimp only at hp1 hF1 hD2 ⊢
  subst hp1
  have l1 : pl1 = .int .u64 D.pl.toNat := hR1.pl
  subst l1
  obtain ⟨po1, pc1, e1, -⟩ : ∃ ao cap, ps1 = .slice ao D.ps.length cap ∧ True := by obtain ⟨a, c, e, -⟩ := hR1.ps.out; exact ⟨a, c, e, trivial⟩
  obtain ⟨co1, cc1, e2, -⟩ : ∃ ao cap, cs1 = .slice ao D.cs.length cap ∧ True := by obtain ⟨a, c, e, -⟩ := hR1.cs.out; exact ⟨a, c, e, trivial⟩
  obtain ⟨xo1, xc1, e3, -⟩ : ∃ ao cap, fo1 = .slice ao D.L.length cap ∧ True := by obtain ⟨a, c, e, -⟩ := hR1.fo.out; exact ⟨a, c, e, trivial⟩
  obtain ⟨so1, sc1, e4, -⟩ : ∃ ao cap, su1 = .slice ao D.S.length cap ∧ True := by obtain ⟨a, c, e, -⟩ := hR1.su.out; exact ⟨a, c, e, trivial⟩
  obtain ⟨eo1, ec1, e5, -⟩ : ∃ ao cap, es1 = .slice ao Fi.length cap ∧ True := by obtain ⟨a, c, e, -⟩ := hF1.out; exact ⟨a, c, e, trivial⟩
  subst e1 e2 e3 e4 e5
  have HD := Lib.hid (fun wx (G : Fr [] w wx) => hD2.fr G)
  have HSm := Lib.hid (fun wx (G : Fr [] w wx) => rsmall_any wx _ pk D Fi (hD2.fr G) hsz)
  have HSt := Lib.hid (fun wx (G : Fr [] w wx) => hR1.fr G)
  have HFi := Lib.hid (fun wx (G : Fr [] w wx) => (hF1.fr0 G).up G.size)
  have HGl := Lib.hid hG
  have HRm := Lib.hid (fun wx (hs : SmOk D Fi) (G : Fr [] w wx) => rmay_any wx _ ⟨.bool pk, .int .u64 D.pl.toNat, .slice po1 D.ps.length pc1, .slice co1 D.cs.length cc1, .slice xo1 D.L.length xc1, .slice so1 D.S.length sc1, .slice eo1 Fi.length ec1⟩ pk D Fi rfl (hR1.fr G) hs.fit ((hF1.fr0 G).up G.size) (by have := hs.a; omega) (by have := hs.c; omega) (fun x hx => by have := hs.f x hx; omega))
  have HWm := Lib.hid (fun wx (hs : SmOk D Fi) (G : Fr [] w wx) => wmay_any wx _ ⟨.bool pk, .int .u64 D.pl.toNat, .slice po1 D.ps.length pc1, .slice co1 D.cs.length cc1, .slice xo1 D.L.length xc1, .slice so1 D.S.length sc1, .slice eo1 Fi.length ec1⟩ pk D Fi rfl (hR1.fr G) hs.fit ((hF1.fr0 G).up G.size) (hG.fr G) (by have := hs.a; omega) (by have := hs.c; omega) (fun x hx => by have := hs.f x hx; omega))
  have HWr := Lib.hid (fun wx (hs : SmOk D Fi) (G : Fr [] w wx) => write_any wx ⟨.bool pk, .int .u64 D.pl.toNat, .slice po1 D.ps.length pc1, .slice co1 D.cs.length cc1, .slice xo1 D.L.length xc1, .slice so1 D.S.length sc1, .slice eo1 Fi.length ec1⟩ pk D Fi rfl (hR1.fr G) hs.fit ((hF1.fr0 G).up G.size) (hG.fr G) (by have := hs.a; omega) (by have := hs.c; omega) (by have := hs.d; omega) (fun x hx => by have := hs.f x hx; omega) (by have := hs.short; omega))
  have HRr := Lib.hid (fun wx (hs : SmOk D Fi) (G : Fr [] w wx) => rwrite_any wx _ ⟨.bool pk, .int .u64 D.pl.toNat, .slice po1 D.ps.length pc1, .slice co1 D.cs.length cc1, .slice xo1 D.L.length xc1, .slice so1 D.S.length sc1, .slice eo1 Fi.length ec1⟩ pk D Fi rfl (hR1.fr G) hs.fit ((hF1.fr0 G).up G.size) (by have := hs.a; omega) (by have := hs.c; omega) (by have := hs.d; omega) hs.f (fun x hx c hc => by have := hs.e x hx c hc; omega) (by have := hs.short; omega))
  clear hD2 hR1 hF1 hsz
  obtain ⟨np, hnp⟩ : ∃ n, D.ps.length = n := ⟨_, rfl⟩
  obtain ⟨nc, hnc⟩ : ∃ n, D.cs.length = n := ⟨_, rfl⟩
  obtain ⟨nf, hnf⟩ : ∃ n, D.L.length = n := ⟨_, rfl⟩
  obtain ⟨ns, hns⟩ : ∃ n, D.S.length = n := ⟨_, rfl⟩
  obtain ⟨ne, hne⟩ : ∃ n, Fi.length = n := ⟨_, rfl⟩
  rw [hnp, hnc, hnf, hns, hne] at HD HSm HRm HWm HWr HRr ⊢
  clear hnp hnc hnf hns hne
  obtain ⟨pl, hpl⟩ : ∃ pl, (D.pl.toNat : Int) = pl := ⟨_, rfl⟩
  rw [hpl] at HD HSm HRm HWm HWr HRr ⊢
  clear hpl
  obtain ⟨wA, hwA⟩ : ∃ wA, wA = w.alloc (.cells #[.bool pk, .int .u64 pl, .slice po1 np pc1, .slice co1 nc cc1, .slice xo1 nf xc1, .slice so1 ns sc1, .slice eo1 ne ec1] 29) := ⟨_, rfl⟩
  have FA : Fr [] w wA := hwA ▸ (Fr.refl _ _).alloc _
  have HX := Lib.hid (fun wx (F : Fr [] wA wx) => wbox7 (hwA ▸ F : Fr [] (w.alloc (.cells #[.bool pk, .int .u64 pl, .slice po1 np pc1, .slice co1 nc cc1, .slice xo1 nf xc1, .slice so1 ns sc1, .slice eo1 ne ec1] 29)) wx) (by simp))
  have HAW := Lib.hid (awake_any wA (hG.fr FA))
  clear hG
  obtain ⟨p, hp⟩ : ∃ p, w.heap.size = p := ⟨_, rfl⟩
  rw [hp] at HX
  have hnot : ∀ (x : Bool) (w : World), (Op.unary .not (.bool x)).run Tryd.prog w = .ok (.bool (!x)) w := fun _ _ => rfl
  unfold Writ at HWr HRr
  obtain ⟨M, hM⟩ : ∃ M, M = mayAll pk D Fi := ⟨_, rfl⟩
  rw [← hM] at HRm HWm
  obtain ⟨X, C, hXC⟩ : ∃ X C, writR pk D Fi = (X, C) := ⟨_, _, rfl⟩
  rw [hXC] at HWr HRr
  clear hM hXC
  go_enter Tryd.func3, Tryd.ntmps3
  go_upto_region 3 with (go_at_call 4; rw [← hwA]; refine HAW.out.mono ?_; rintro e w1 ⟨rfl, F1⟩)
  obtain ⟨a0, a1, a2, a3, a4, a5, a6⟩ := HX.out w1 F1
  clear hwA
  go_upto_region 7 with (first
    | (have hq := F3; go_at_call 7; refine (HRr.out w3 (HR.out (by trivial)) (FA.trans0 ((F1.trans0 F2).trans0 F3))).mono ?_; rintro e w4 ⟨v4, rfl, hv4, F4⟩)
    | (have hq := F2; go_at_call 6; refine (HWr.out w2 (HR.out (by trivial)) (FA.trans0 (F1.trans0 F2))).mono ?_; rintro e w3 ⟨v3, rfl, hv3, F3⟩; obtain ⟨d0, d1, d2, d3, d4, d5, d6⟩ := HX.out w3 ((F1.trans0 F2).trans0 F3))
    | (go_at_call 5; refine (HSm.out w1 (FA.trans0 F1)).mono ?_; rintro e w2 ⟨r, rfl, hr, F2⟩; obtain ⟨b0, b1, b2, b3, b4, b5, b6⟩ := HX.out w2 (F1.trans0 F2); have HR := Lib.hid hr; clear hr; cases r))
  · go_ret
    exact ⟨rfl, FA.trans0 (F1.trans0 F2)⟩
  have G4 := ((F1.trans0 F2).trans0 F3).trans0 F4
  have HX4 := HX.out w4 G4
  have hs := HR.out (by trivial)
  have HHS := Lib.hid hs
  have HV3 := Lib.hid (hv3.fr0 F4)
  have HV4 := Lib.hid hv4
  clear a0 a1 a2 a3 a4 a5 a6 b0 b1 b2 b3 b4 b5 b6 d0 d1 d2 d3 d4 d5 d6 hv3 hv4 hs
  obtain ⟨e0, e1, e2, e3, e4, e5, e6⟩ := HX4
  go_region_held3 (fun wx => wx.cell? ⟨p, 0, none⟩ = some (.bool pk) ∧ wx.cell? ⟨p, 1, none⟩ = some (.int .u64 pl) ∧ wx.cell? ⟨p, 2, none⟩ = some (.slice po1 np pc1) ∧ wx.cell? ⟨p, 3, none⟩ = some (.slice co1 nc cc1) ∧ wx.cell? ⟨p, 4, none⟩ = some (.slice xo1 nf xc1) ∧ wx.cell? ⟨p, 5, none⟩ = some (.slice so1 ns sc1) ∧ wx.cell? ⟨p, 6, none⟩ = some (.slice eo1 ne ec1))
    (first | exact ⟨e0, e1, e2, e3, e4, e5, e6⟩ | exact HX.out _ (G4.trans0 K7) | exact HX.out _ (G4.trans0 K6) | exact HX.out _ (G4.trans0 K5))
    (first
      | (have hq := K6; go_at_call 10; refine (bytes_any w6 _ _ X X (HV3.out.fr0 K6) (HV4.out.fr0 K6)).mono ?_; rintro e w7 ⟨rfl, S7⟩; have K7 := K6.trans0 S7.fr; have hxx : decide (X = X) = true := decide_eq_true rfl)
      | (have hq := K5; go_at_call 9; refine (HRm.out w5 HHS.out (FA.trans0 (G4.trans0 K5))).mono ?_; rintro e w6 ⟨rfl, F6⟩; have K6 := K5.trans0 F6)
      | (go_at_call 8; refine (HWm.out w4.drew HHS.out (FA.trans0 (G4.trans0 (Fr.refl [] w4).drew))).mono ?_; rintro e w5 ⟨rfl, F5⟩; have K5 : Fr [] w4 w5 := (Fr.refl [] w4).drew.trans0 F5))
  go_wp2_with fail
  go_ret
  exact ⟨rfl, FA.trans0 (G4.trans0 K7)⟩
end Go.Proofs.YtkodindajfdagaaDoor
/- Arguments that came in, read as lists. No condition. -/
namespace Go.Proofs.YtkodindajfdagaaDoor
open Go.RowKit Go.ChangeShapes Go.WideShapes Go.ChangeAt

theorem sl_of_cells {w : World} {x : Addr} {len cap : Nat} {vs : List Value} (hl : len ≤ cap) (hm : cap ≤ maxLen) (hz : vs.length = cap)
    (hcell : ∀ i, i < vs.length → w.cell? (x.add i) = vs[i]?) : Sl w (.slice (some x) len cap) (vs.take len) := by
  have hlen : (vs.take len).length = len := by simp; omega
  refine ⟨some x, cap, by rw [hlen], by omega, by unfold maxLen at hm; omega, by simp, fun a ha hc => ?_⟩
  obtain rfl := Option.some.inj ha
  have h0 := hcell 0 (by omega)
  obtain ⟨b, o, s⟩ := x
  have e0 : (⟨b, o, s⟩ : Addr).add 0 = ⟨b, o, s⟩ := by simp [Addr.add]
  rw [e0] at h0
  have hv : vs[0]? = some vs[0] := by simp
  rw [hv] at h0
  have hsp := World.cell?_spot h0
  dsimp only at hsp
  subst hsp
  refine ⟨rfl, World.block_lt_of_cell? _ _ h0, fun j hj => ?_⟩
  rw [hlen] at hj
  have hadd : (⟨b, o, none⟩ : Addr).add j = ⟨b, o + j, none⟩ := by unfold Addr.add; split <;> simp_all
  dsimp only
  rw [← hadd, hcell j (by omega), List.getElem?_take, if_pos hj]

theorem bytes_of_ints (zs : List Int) (h : ∀ n ∈ zs, (Lit.int .u8 n).wf = true) : ∃ bs : List UInt8, zs.map (Value.int .u8) = bv bs := by
  refine ⟨zs.map fun z => UInt8.ofNat z.toNat, ?_⟩
  simp only [bv, List.map_map]
  apply List.map_congr_left
  intro n hn
  have := bounds_u8 (h n hn)
  simp
  omega

/-- A slice of bytes that came in. -/
theorem open_bytes {w : World} {a : Option Addr} {len cap : Nat} {zs : List Int}
    (h : (a = none ∧ len = 0 ∧ cap = 0 ∧ zs = []) ∨ ∃ x, a = some x ∧ len ≤ cap ∧ cap ≤ maxLen ∧ zs.length = cap ∧ (∀ i, i < zs.length → w.cell? (x.add i) = some (.int .u8 (zs.getD i 0))) ∧ ∀ n ∈ zs, (Lit.int .u8 n).wf = true) :
    ∃ bs, Sl w (.slice a len cap) (bv bs) := by
  rcases h with ⟨rfl, rfl, rfl, rfl⟩ | ⟨x, rfl, hl, hm, hz, hcell, hwf⟩
  · exact ⟨[], Sl.nil w⟩
  · obtain ⟨bs, hbs⟩ := bytes_of_ints (zs.take len) (fun n hn => hwf n (List.mem_of_mem_take hn))
    refine ⟨bs, ?_⟩
    rw [← hbs, List.map_take]
    refine sl_of_cells hl hm (by simpa using hz) (fun i hi => ?_)
    simp at hi
    rw [hcell i hi]
    simp [hi]

/-- A slice of bits that came in. -/
theorem open_bools' {H : Type} {enc : TypeId × Value → H} {P : Program} {w : World} {base : Nat} {held : Bool} {t e : TypeId} {fuel : Nat} {a : Option Addr} {len cap : Nat} {x : DataW H × List MemPlace}
    (ht : P.underlying t = some (.slice e)) (he : P.underlying e = some .bool) (hc : P.cellsOf e = 1)
    (h : DataW.trod enc P w base (fun _ => true) held fuel t (Value.slice a len cap).cells.toList = some x) : ∃ bs, Sl w (.slice a len cap) (tv bs) := by
  rcases Go.Deep.open_bools ht he hc h with ⟨hcs, _⟩ | ⟨x, l, c, B, hcs, _, hl, hm, _, hcell⟩
  · simp [Value.cells] at hcs
    obtain ⟨rfl, rfl, rfl⟩ := hcs
    exact ⟨[], Sl.nil w⟩
  · simp [Value.cells] at hcs
    obtain ⟨rfl, rfl, rfl⟩ := hcs
    have hs := sl_of_cells (w := w) (x := x) (vs := (List.range cap).map fun i => Value.bool (B i)) hl hm (by simp) (fun i hi => by
      simp at hi
      rw [hcell i hi]
      simp [hi])
    exact ⟨((List.range cap).map B).take len, by unfold tv; rw [List.map_take, List.map_map]; exact hs⟩

theorem words_of_ints (zs : List Int) (h : ∀ n ∈ zs, (Lit.int .u64 n).wf = true) : ∃ ws : List UInt64, zs.map (Value.int .u64) = u64v ws := by
  refine ⟨zs.map fun z => UInt64.ofNat z.toNat, ?_⟩
  simp only [u64v, List.map_map]
  apply List.map_congr_left
  intro n hn
  have := bounds_u64 (h n hn)
  simp
  omega

/-- A slice of words that came in. -/
theorem open_list_u64 {w : World} {a : Option Addr} {len cap : Nat} {zs : List Int}
    (h : (a = none ∧ len = 0 ∧ cap = 0 ∧ zs = []) ∨ ∃ x, a = some x ∧ len ≤ cap ∧ cap ≤ maxLen ∧ zs.length = cap ∧ (∀ i, i < zs.length → w.cell? (x.add i) = some (.int .u64 (zs.getD i 0))) ∧ ∀ n ∈ zs, (Lit.int .u64 n).wf = true) :
    ∃ ws, Sl w (.slice a len cap) (u64v ws) := by
  rcases h with ⟨rfl, rfl, rfl, rfl⟩ | ⟨x, rfl, hl, hm, hz, hcell, hwf⟩
  · exact ⟨[], Sl.nil w⟩
  · obtain ⟨ws, hws⟩ := words_of_ints (zs.take len) (fun n hn => hwf n (List.mem_of_mem_take hn))
    refine ⟨ws, ?_⟩
    rw [← hws, List.map_take]
    refine sl_of_cells hl hm (by simpa using hz) (fun i hi => ?_)
    simp at hi
    rw [hcell i hi]
    simp [hi]

/-- The block of a slice that came in lies in the memory. -/
theorem slice_block_lt {P : Program} {w : World} {r : Reach} {base : Nat} {t e : TypeId} {a : Option Addr} {len cap : Nat} (ht : P.underlying t = some (.slice e)) (h : Value.okWide P w r base t (.slice a len cap)) :
    ∀ k, (Value.slice a len cap).ownBlock = some k → k < w.heap.size := by
  intro k hk
  cases a with
  | none => simp [Value.ownBlock] at hk
  | some x =>
    simp only [Value.okWide, ht, Cell.okWide, Cell.ok] at h
    obtain ⟨_, _, _, _, row, cells, hs, _⟩ := h
    simp [Value.ownBlock] at hk
    subst hk
    unfold World.shape? at hs
    cases hx : w.heap[x.block]? with
    | none => simp [hx] at hs
    | some o => exact (Array.getElem?_eq_some_iff.1 hx).1
end Go.Proofs.YtkodindajfdagaaDoor
/- Folders and coders that came in. No condition. -/
namespace Go.Proofs.YtkodindajfdagaaDoor
open Go.RowKit Go.Deep Go.ChangeShapes Go.WideShapes Go.ChangeAt

variable {H : Type} {enc : TypeId × Value → H} {w : World} {base : Nat} {held : Bool} {fuel : Nat} {cs : List Value} {x : DataW H × List MemPlace}

theorem sl_u8_of (h : DataW.trod enc Tryd.prog w base (fun _ => true) held fuel 32 cs = some x) : ∃ v bs, cs = [v] ∧ Sl w v (bv bs) := by
  rcases open_ints Tryd.underlying32 Tryd.underlying5 (by kernel_rfl) h with ⟨hcs, _⟩ | ⟨x, l, c, zs, hcs, _, hl, hm, hz, _, hcell, hwz⟩
  · exact ⟨_, [], hcs, Sl.nil w⟩
  · obtain ⟨bs, hb⟩ := open_bytes (.inr ⟨_, rfl, hl, hm, by simpa using hz, hcell, hwz⟩ : (some x = none ∧ _ ∧ _ ∧ _) ∨ _)
    exact ⟨_, bs, hcs, hb⟩

theorem sl_u64_of (h : DataW.trod enc Tryd.prog w base (fun _ => true) held fuel 23 cs = some x) : ∃ v bs, cs = [v] ∧ Sl w v (u64v bs) := by
  rcases open_ints Tryd.underlying23 Tryd.underlying22 (by kernel_rfl) h with ⟨hcs, _⟩ | ⟨x, l, c, zs, hcs, _, hl, hm, hz, _, hcell, hwz⟩
  · exact ⟨_, [], hcs, Sl.nil w⟩
  · obtain ⟨bs, hb⟩ := open_list_u64 (.inr ⟨_, rfl, hl, hm, by simpa using hz, hcell, hwz⟩ : (some x = none ∧ _ ∧ _ ∧ _) ∨ _)
    exact ⟨_, bs, hcs, hb⟩

theorem sl_int_of (h : DataW.trod enc Tryd.prog w base (fun _ => true) held fuel 42 cs = some x) : ∃ v bs, cs = [v] ∧ Sl w v (iv bs) := by
  rcases open_ints Tryd.underlying42 Tryd.underlying3 (by kernel_rfl) h with ⟨hcs, _⟩ | ⟨x, l, c, zs, hcs, _, hl, hm, hz, _, hcell, _⟩
  · exact ⟨_, [], hcs, Sl.nil w⟩
  · have hz' : zs.length = c := by simpa using hz
    refine ⟨_, zs.take l, hcs, ?_⟩
    unfold iv
    rw [List.map_take]
    refine sl_of_cells hl hm (by simpa using hz') (fun i hi => ?_)
    simp at hi
    rw [hcell i (by omega)]
    simp [hi]

theorem addr_out {w : World} {a : Addr} {v : Value} (h : w.cell? (a.add 0) = some v) : ∃ b o, a = ⟨b, o, none⟩ ∧ b < w.heap.size := by
  obtain ⟨b, o, s⟩ := a
  have e0 : (⟨b, o, s⟩ : Addr).add 0 = ⟨b, o, s⟩ := by simp [Addr.add]
  rw [e0] at h
  have hsp := World.cell?_spot h
  dsimp only at hsp
  subst hsp
  exact ⟨b, o, rfl, World.block_lt_of_cell? _ _ h⟩

theorem add_out (b o k : Nat) : (⟨b, o, none⟩ : Addr).add k = ⟨b, o + k, none⟩ := by unfold Addr.add; split <;> simp_all

theorem bi_of (h : DataW.trod enc Tryd.prog w base (fun _ => true) held fuel 41 cs = some x) : ∃ v l, cs = [v] ∧ Bi w v l := by
  rcases open_slice_pairs Tryd.underlying41 Tryd.underlying73 (by kernel_rfl) rfl rfl (by kernel_rfl) (by kernel_rfl) h with ⟨hcs, _⟩ | ⟨a, len, cap, m, n, V0, V1, D0, D1, P0, P1, hcs, _, hl, hm, hmm, _, hx⟩
  · exact ⟨_, [], hcs, ⟨none, 0, rfl, by simp, by simp, fun j x hx => by simp at hx⟩⟩
  · have each : ∀ i, i < len → ∃ q : Int × Int, w.cell? (a.add (i * 2)) = some (.int .i64 q.1) ∧ w.cell? (a.add (i * 2 + 1)) = some (.int .i64 q.2) := by
      intro i hi
      obtain ⟨g0, g1, t0, t1⟩ := hx i (by rw [hmm]; split <;> omega)
      obtain ⟨kk, e0, _, wf0⟩ := DataW.trod_int Tryd.underlying3 t0
      obtain ⟨mm, e1, _, wf1⟩ := DataW.trod_int Tryd.underlying3 t1
      injection e0 with e0
      injection e1 with e1
      rw [e0] at g0
      rw [e1] at g1
      exact ⟨(kk, mm), g0, g1⟩
    obtain ⟨q, hq⟩ := choose_lt each
    refine ⟨_, (List.range len).map q, hcs, ⟨some a, cap, by simp, by simpa using hl, by unfold maxLen at hm; omega, fun j y hy => ?_⟩⟩
    have hj : j < len := by have := (List.getElem?_eq_some_iff.1 hy).1; simpa using this
    have hyq : y = q j := by simp [hj] at hy; exact hy.symm
    subst hyq
    obtain ⟨b, o, rfl, hb⟩ := addr_out (by simpa using (hq 0 (by omega)).1)
    have h1 := (hq j hj).1
    have h2 := (hq j hj).2
    rw [add_out] at h1 h2
    exact ⟨b, o, rfl, hb, h1, h2⟩

theorem co_of (h : DataW.trod enc Tryd.prog w base (fun _ => true) held fuel 40 cs = some x) : ∃ v l, cs = [v] ∧ Co w v l := by
  rcases open_slice_pairs Tryd.underlying40 Tryd.underlying48 (by kernel_rfl) rfl rfl (by kernel_rfl) (by kernel_rfl) h with ⟨hcs, _⟩ | ⟨a, len, cap, m, n, V0, V1, D0, D1, P0, P1, hcs, _, hl, hm, hmm, _, hx⟩
  · exact ⟨_, [], hcs, ⟨none, 0, rfl, by simp, by simp, fun j x hx => by simp at hx⟩⟩
  · have each : ∀ i, i < len → ∃ q : Coder × Value, w.cell? (a.add (i * 2)) = some (.int .i64 q.1.method) ∧ w.cell? (a.add (i * 2 + 1)) = some q.2 ∧ Sl w q.2 (bv q.1.props) := by
      intro i hi
      obtain ⟨g0, g1, t0, t1⟩ := hx i (by rw [hmm]; split <;> omega)
      obtain ⟨kk, e0, _, wf0⟩ := DataW.trod_int Tryd.underlying3 t0
      obtain ⟨v, bs, e1, hs⟩ := sl_u8_of t1
      injection e0 with e0
      injection e1 with e1
      rw [e0] at g0
      rw [e1] at g1
      exact ⟨(⟨kk, bs⟩, v), g0, g1, hs⟩
    haveI : Inhabited (Coder × Value) := ⟨(⟨0, []⟩, .bool false)⟩
    obtain ⟨q, hq⟩ := choose_lt each
    refine ⟨_, (List.range len).map fun i => (q i).1, hcs, ⟨some a, cap, by simp, by simpa using hl, by unfold maxLen at hm; omega, fun j y hy => ?_⟩⟩
    have hj : j < len := by have := (List.getElem?_eq_some_iff.1 hy).1; simpa using this
    have hyq : y = (q j).1 := by simp [hj] at hy; exact hy.symm
    subst hyq
    obtain ⟨b, o, rfl, hb⟩ := addr_out (by simpa using (hq 0 (by omega)).1)
    obtain ⟨h1, h2, h3⟩ := hq j hj
    rw [add_out] at h1 h2
    exact ⟨b, o, _, rfl, hb, h1, h2, h3⟩

set_option maxRecDepth 100000 in
/-- A coder, by value. -/
theorem coder_of (h : DataW.trod enc Tryd.prog w base (fun _ => true) held fuel 48 cs = some x) : ∃ m v bs, cs = [.int .i64 m, v] ∧ Sl w v (bv bs) := by
  obtain ⟨y0, y1, n, _, hl, h0, h1⟩ := trod_struct2 Tryd.underlying48 h
  have ce : Tryd.prog.cellsOf 48 = 2 := by kernel_rfl
  have c0 : Tryd.prog.cellsOf 3 = 1 := by kernel_rfl
  have c1 : Tryd.prog.cellsOf 32 = 1 := by kernel_rfl
  rw [ce] at hl
  match cs, hl with
  | [a, b], _ =>
    simp [c0, c1] at h0 h1
    obtain ⟨kk, e0, _, wf0⟩ := DataW.trod_int Tryd.underlying3 h0
    obtain ⟨v, bs, e1, hs⟩ := sl_u8_of h1
    injection e0 with e0
    injection e1 with e1
    subst e0 e1
    exact ⟨kk, _, bs, rfl, hs⟩

set_option maxRecDepth 100000 in
/-- A folder, by value. -/
theorem fo_of (h : DataW.trod enc Tryd.prog w base (fun _ => true) held fuel 46 cs = some x) : ∃ v f, v = .agg cs.toArray ∧ Fo w v f := by
  obtain ⟨xs, n, _, _, hl, hlen, hf⟩ := DataW.trod_struct Tryd.underlying46 h
  have ce : Tryd.prog.cellsOf 46 = 6 := by kernel_rfl
  have c0 : Tryd.prog.cellsOf 40 = 1 := by kernel_rfl
  have c1 : Tryd.prog.cellsOf 41 = 1 := by kernel_rfl
  have c2 : Tryd.prog.cellsOf 42 = 1 := by kernel_rfl
  have c3 : Tryd.prog.cellsOf 23 = 1 := by kernel_rfl
  rw [ce] at hl
  match cs, hl, xs, hlen with
  | [a0, a1, a2, a3, a4, a5], _, [y0, y1, y2, y3, y4], _ =>
    have g0 := hf 0 _ rfl
    have g1 := hf 1 _ rfl
    have g2 := hf 2 _ rfl
    have g3 := hf 3 _ rfl
    simp [c0, c1, c2, c3] at g0 g1 g2 g3
    obtain ⟨v0, l0, e0, h0⟩ := co_of g0
    obtain ⟨v1, l1, e1, h1⟩ := bi_of g1
    obtain ⟨v2, l2, e2, h2⟩ := sl_int_of g2
    obtain ⟨v3, l3, e3, h3⟩ := sl_u64_of g3
    injection e0 with e0
    injection e1 with e1
    injection e2 with e2
    injection e3 with e3
    subst e0 e1 e2 e3
    exact ⟨_, ⟨l0, l1, l2, l3⟩, rfl, _, _, _, _, _, _, rfl, h0, h1, h2, h3⟩
end Go.Proofs.YtkodindajfdagaaDoor
