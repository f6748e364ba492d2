/- Contract: a pipe of copies is made (layer 23). Nothing is spent. -/
import Derived.Test.YtfnblemlcjdnhaaGreatPNewI
namespace Go.Proofs.YtfnblemlcjdnhaaGreat
open Go.RowKit

/-- A new pipe of copies. -/
def NewPipe (mp n : Nat) (bs : List UInt8) (w : World) (e : Ending) (w' : World) : Prop := ∃ pp rp rc g bx tk r fp q, e = .returned (.tuple #[.pointer (some ⟨pp, 0, none⟩), .int .i64 0]) ∧ PipeAt w' pp rp n rc g mp false ∧
  ((g, bx, tk) :: r).length = n ∧ Chn w' mp fp bs.length ((g, bx, tk) :: r) ∧ FeedAt w' fp q bs 0 ∧ MtN w' mp 0 0 0 0 0 0 ∧ Apt mp fp q ((g, bx, tk) :: r) ∧
  (∀ i x, ((g, bx, tk) :: r).reverse[i]? = some x → w'.cell? ⟨rp, i, none⟩ = some (.pointer (some ⟨x.1, 0, none⟩))) ∧
  (rp ≠ mp ∧ rp ≠ fp ∧ rp ∉ blks ((g, bx, tk) :: r)) ∧ (pp ≠ mp ∧ pp ≠ fp ∧ pp ∉ blks ((g, bx, tk) :: r)) ∧ pp ≠ rp ∧ (∀ i, q = some i → i ≠ pp ∧ i < w'.heap.size) ∧
  (∀ i ∈ pp :: rp :: fp :: blks ((g, bx, tk) :: r), w.heap.size ≤ i) ∧ Fr [mp] w w'
/-- A folder's cells. -/
theorem fo_at {w : World} {f : Folder} {ao aos : Option Addr} {n m cap caps : Nat} {bv' p h k : Value} (H : Fo w (.agg #[.slice ao n cap, bv', p, .slice aos m caps, h, k]) f) :
    (∀ j c, f.coders[j]? = some c → ∃ b o pv, ao = some ⟨b, o, none⟩ ∧ b < w.heap.size ∧ w.cell? ⟨b, o + j * 2, none⟩ = some (.int .i64 c.method) ∧ w.cell? ⟨b, o + j * 2 + 1, none⟩ = some pv) ∧
    (∀ j s, f.sizes[j]? = some s → ∃ b o, aos = some ⟨b, o, none⟩ ∧ b < w.heap.size ∧ w.cell? ⟨b, o + j, none⟩ = some (.int .u64 s.toNat)) := by
  obtain ⟨c1, b1, p1, s1, h1, k1, e, hV⟩ := H
  obtain ⟨rfl, rfl, rfl, rfl, rfl, rfl⟩ : Value.slice ao n cap = c1 ∧ bv' = b1 ∧ p = p1 ∧ Value.slice aos m caps = s1 ∧ h = h1 ∧ k = k1 := by simpa using e
  refine ⟨fun j c hc => ?_, fun j s hs => ?_⟩
  · obtain ⟨ao2, cap2, e2, -, -, o⟩ := hV.co.out
    injection e2 with e3 e4 e5
    obtain ⟨b, o, pv, q1, q2, q3, q4, q5⟩ := o j c hc
    exact ⟨b, o, pv, e3.trans q1, q2, q3, q4⟩
  · obtain ⟨ao2, cap2, e2, -, -, o⟩ := hV.si.out
    injection e2 with e3 e4 e5
    have hj := (List.getElem?_eq_some_iff.1 hs).1
    obtain ⟨b, o, q1, q2, q3⟩ := o j (by rw [u64v_length]; exact hj)
    exact ⟨b, o, e3.trans q1, q2, (q3 j (by rw [u64v_length]; exact hj)).trans (by simp [u64v, hs])⟩
theorem info_src : (Tryz.prog.info? 86).map (fun i => (i.zero, i.size, i.bytes)) = some (some .nilIface, 1, 16) := by kernel_rfl
theorem sty_src : SlTy Tryz.prog 76 86 .nilIface 16 := ⟨Tryz.underlying76, by obtain ⟨i, h⟩ := info_parts info_src; exact ⟨i, h⟩, rfl⟩
theorem info_stg : (Tryz.prog.info? 72).map (fun i => (i.zero, i.size, i.bytes)) = some (some (.pointer none), 1, 8) := by kernel_rfl
theorem sty_stg : SlTy Tryz.prog 71 72 (.pointer none) 8 := ⟨Tryz.underlying71, by obtain ⟨i, h⟩ := info_parts info_stg; exact ⟨i, h⟩, rfl⟩
theorem made_stg (n : Nat) : (madeCells (Value.cells (.pointer none)) (n * 1)).toList = madeC n [] := by
  rw [Nat.mul_one]
  have key : ∀ z : Array Value, ∀ k : Nat, (madeCells z k).toList = (List.range k).map fun i => z[i % z.size]! := fun z k => by simp [madeCells]
  rw [key]
  simp only [madeC, List.length_nil, Nat.sub_zero, List.map_nil, List.append_nil]
  refine List.ext_getElem? fun i => ?_
  by_cases h : i < n
  · have hz : (Value.cells (.pointer none)) = #[.pointer none] := rfl
    rw [hz]
    simp [h, Nat.mod_one]
  · rw [List.getElem?_eq_none (by simp; omega), List.getElem?_eq_none (by simp; omega)]
set_option maxRecDepth 100000 in
set_option maxHeartbeats 20000000 in
theorem pnew_any (w : World) (v pv : Value) (n : Nat) (bs : List UInt8) (mp : Nat) (hn : 1 ≤ n) (hn8 : n ≤ 8) (hb : bs.length ≤ 65535) (hf : ∀ w', Fr [mp] w w' → Fo w' v (copF n (UInt64.ofNat bs.length))) (hco : CoOff mp v) (hp : ∀ w', Fr [mp] w w' → One1 w' pv bs) (M : MtN w mp 0 0 0 0 0 0) :
    Calls Tryz.prog 11 #[v, pv, .pointer (some ⟨mp, 0, none⟩)] w (NewPipe mp n bs w) := by
  have HF := Lib.hid hf
  have HP := Lib.hid hp
  have HM := Lib.hid M
  obtain ⟨sz, hsz⟩ : ∃ sz, sz = UInt64.ofNat bs.length := ⟨_, rfl⟩
  rw [← hsz] at HF hf
  replace hf := hf w (Fr.refl _ _)
  replace hp := hp w (Fr.refl _ _)
  have hsn : sz.toNat = bs.length := by rw [hsz]; simp; omega
  have HSZ := Lib.hid hsz
  have HSN := Lib.hid hsn
  obtain ⟨cv, bv', p, s, h, k0, rfl, hV⟩ := hf
  obtain ⟨ao, cap, rfl, -, -, -⟩ := hV.co.out
  obtain ⟨aos, caps, rfl, -, -, -⟩ := hV.si.out
  obtain ⟨pb, pbv, rfl, -, -, -⟩ := hp
  have hcl : (copF n sz).coders.length = n := copF_len n sz
  have hsl : (u64v (copF n sz).sizes).length = n := by simp [copF, chainF, u64v]
  rw [hcl, hsl] at HF hco
  have HCode := Lib.hid (copF_code n sz hn hn8 (by rw [hsn]; exact hb))
  have HSm := Lib.hid (copF_small n sz hn8)
  have HPr := Lib.hid (copF_props n sz)
  have HHg := Lib.hid (copF_hangs n sz hn hn8)
  obtain ⟨wB, hwB⟩ : ∃ wB, wB = w.alloc (.cells #[.slice ao n cap, bv', p, .slice aos n caps, h, k0] 37) := ⟨_, rfl⟩
  have FB : Fr [] w wB := hwB ▸ (Fr.refl _ _).alloc _
  have sB : wB.heap.size = w.heap.size + 1 := by rw [hwB]; simp
  have HBX := Lib.hid (fun wx (F : Fr [] wB wx) => box6 (hwB ▸ F : Fr [] (w.alloc (.cells #[.slice ao n cap, bv', p, .slice aos n caps, h, k0] 37)) wx))
  have HBF := Lib.hid FB
  clear hV M hsz hsn FB
  rw [hcl, hsl]
  go_enter Tryz.func11, Tryz.ntmps11
  go_wp2_with fail
  rw [← hwB]
  clear hwB
  obtain ⟨fb, hfb⟩ : ∃ fb, fb = w.heap.size := ⟨_, rfl⟩
  rw [← hfb] at HBX ⊢
  have HFB := Lib.hid hfb
  clear hfb hcl hsl
  go_region_held3 (fun w' => Fr [] wB w' ∧ w'.cell? ⟨fb, 0, none⟩ = some (.slice ao n cap) ∧ w'.cell? ⟨fb, 1, none⟩ = some bv' ∧ w'.cell? ⟨fb, 2, none⟩ = some p ∧ w'.cell? ⟨fb, 3, none⟩ = some (.slice aos n caps) ∧ w'.cell? ⟨fb, 4, none⟩ = some h ∧ w'.cell? ⟨fb, 5, none⟩ = some k0) (first | exact ⟨Fr.refl _ _, HBX.out _ (Fr.refl _ _)⟩ | exact ⟨(Fr.refl _ _).drew, HBX.out _ (Fr.refl _ _).drew⟩ | exact ⟨(Fr.refl _ _).drew.trans0 F1, HBX.out _ ((Fr.refl _ _).drew.trans0 F1)⟩) (first
    | (have hq := HR1; go_at_call 16; refine (check_any _ _ _ (copF n sz) (HF.out _ ((HBF.out.drew.trans0 F1).mono (by simp))) HSm.out HPr.out [sz] HR1.out (by simp)).mono ?_; rw [HCode.out]; rintro e w2 ⟨rfl, F2⟩; replace F1 := F1.trans0 F2; clear F2)
    | (go_at_call 17; refine (lengths_one _ _ bs (HP.out _ (HBF.out.drew.mono (by simp))) (by omega)).mono ?_; rintro e w1 ⟨r, rfl, hr, F1⟩; rw [← HSZ.out] at hr; have HR1 := Lib.hid hr; clear hr))
  have FB2 := (Fr.refl [] wB).drew.trans0 F1
  clear F1 HR1
  obtain ⟨b0, b1, b2, b3, b4, b5⟩ := HBX.out w2 FB2
  have HF2 := Lib.hid (fun wx (F : Fr [] w2 wx) => HF.out wx (((HBF.out.trans0 FB2).trans0 F).mono (by simp)))
  have hfl : fb < w2.heap.size := by have := FB2.size; have := HFB.out; omega
  obtain ⟨i0, hi0, hz0, hs0, hb0⟩ := info_parts info_stg
  obtain ⟨pp, hpp⟩ : ∃ pp, pp = w2.heap.size := ⟨_, rfl⟩
  have hblk := heap_alloc_new w2 (.cells #[.slice none 0 0, .pointer none, .pointer (some ⟨mp, 0, none⟩), .bool false] 74)
  rw [← hpp] at hblk
  have HPB := Lib.hid hblk
  have HF3 := Lib.hid ((Fr.refl [] w2).alloc (.cells #[.slice none 0 0, .pointer none, .pointer (some ⟨mp, 0, none⟩), .bool false] 74))
  have HS3 := Lib.hid (show (w2.alloc (.cells #[.slice none 0 0, .pointer none, .pointer (some ⟨mp, 0, none⟩), .bool false] 74)).heap.size = pp + 1 by simp [hpp])
  have HPP := Lib.hid hpp
  clear hblk hpp
  go_wp2_with (first
    | (have hq := F4; go_at_call 18; refine (order_any _ _ (copF n sz) (HF2.out _ F4) 1 HHg.out).mono ?_; rintro e w5 ⟨ro, out, rfl, own5, hO5, hl5, F5⟩; rw [copF_len] at hl5; obtain ⟨roa, roc, hro, -⟩ := own_outS own5; rw [hl5] at hro own5; subst hro; obtain ⟨rg, rfl⟩ := own_some own5 hn; have HO5 := Lib.hid own5; have HOR := Lib.hid (copF_ord n sz out hO5 hl5); have HOL := Lib.hid hl5; clear own5 hO5 hl5)
    | (at_make; refine wpList_make_full _ rfl _ _ _ rfl (w2.heap.size + 1) _ i0 _ _ Tryz.underlying71 hi0 hz0 hs0 _ _ _ _ n (by rfl) (by rfl) rfl rfl (by rw [hb0]; omega) (by unfold maxLen; omega) (by simp) ?_; rw [made_stg]; intro w4 own4 g4; have F4 := HF3.out.grown g4 (by simp); obtain ⟨d0, d1, d2, d3, d4, d5⟩ := HBX.out w4 (FB2.trans0 F4)))
  rw [← HPP.out]
  rw [HS3.out, ← HPP.out] at own4
  obtain ⟨mb, hmb⟩ : ∃ mb, mb = pp + 1 := ⟨_, rfl⟩
  rw [← hmb] at own4 ⊢
  have hlm : mp < w.heap.size := HM.out.lt
  have hl4 := own_ltS own4 mb rfl
  have z4 := F4.size
  have z5 := F5.size
  have z2 : w.heap.size + 1 ≤ pp := by have := FB2.size; have := HPP.out; omega
  have hdis : mp < w5.heap.size ∧ pp < w5.heap.size ∧ mb < w5.heap.size ∧ mp ≠ pp ∧ mp ≠ mb ∧ pp ≠ mb := by have := HPP.out; omega
  have F25 : Fr [] w2 w5 := F4.trans0 F5
  have FW5 : Fr [] w w5 := (HBF.out.trans0 FB2).trans0 F25
  have hp5 : w5.heap[pp]? = some (.cells #[.slice none 0 0, .pointer none, ptrV mp, .bool false] 74) := ((show Fr [] (w2.alloc (.cells #[.slice none 0 0, .pointer none, .pointer (some ⟨mp, 0, none⟩), .bool false] 74)) w5 from ((Fr.refl _ _).grown g4 (by simp)).trans0 F5).block pp (by rw [HS3.out]; omega) (by simp)).trans HPB.out
  have HN0 : Hid (NI w5 mp pp mb n bs.length bs 0 none [] (.slice none 0 0) w5) := Lib.hid ⟨hp5, World.ownsRow_nil _ _ _ _, own_frS own4 F5 (by simp), trivial, HM.out.fr FW5 (by simp), fun h => absurd rfl h, by simp [blks], Fr.refl _ _⟩
  have hfbs : fb = w.heap.size := HFB.out
  have HX : Hid (∀ wx, Fr [mp, pp, mb] w5 wx → (wx.cell? ⟨fb, 0, none⟩ = some (.slice ao n cap) ∧ wx.cell? ⟨fb, 1, none⟩ = some bv' ∧ wx.cell? ⟨fb, 2, none⟩ = some p ∧ wx.cell? ⟨fb, 3, none⟩ = some (.slice aos n caps) ∧ wx.cell? ⟨fb, 4, none⟩ = some h ∧ wx.cell? ⟨fb, 5, none⟩ = some k0) ∧ Fr [mp] w wx ∧ fb < wx.heap.size) := Lib.hid (fun wx F => by
    have hb := HBX.out w5 (FB2.trans0 F25)
    have hlt : fb < w5.heap.size := by omega
    have hn : ∀ j, wx.cell? ⟨fb, j, none⟩ = w5.cell? ⟨fb, j, none⟩ := fun j => F.cell (p := ⟨fb, j, none⟩) hlt (by simp only [List.mem_cons, List.not_mem_nil, or_false, not_or]; omega)
    simp only [hn]
    refine ⟨hb, (FW5.mono (by simp)).trans F (fun i hi => ?_), by have := F.size; omega⟩
    simp only [List.mem_cons, List.not_mem_nil, or_false] at hi ⊢
    omega)
  have HRO : Hid (∀ wx, Fr [mp, pp, mb] w5 wx → ∀ j, j < n → wx.cell? ⟨rg, j, none⟩ = some (.int .i64 ((n - 1 - j : Nat) : Int)) ∧ rg < wx.heap.size) := Lib.hid (fun wx F j hj => by
    have hl := own_ltS HO5.out rg rfl
    have hc := own_cell HO5.out j hj
    rw [iv_get _ _ ((n - 1 - j : Nat) : Int) (by simp [ivn, HOR.out j hj])] at hc
    exact ⟨(F.cell (p := ⟨rg, j, none⟩) hl.2 (by simp only [List.mem_cons, List.not_mem_nil, or_false, not_or]; omega)).trans hc, Nat.lt_of_lt_of_le hl.2 F.size⟩)
  have HD := Lib.hid hdis
  have HMF := Lib.hid (show mp ≠ fb by omega)
  have HFW := Lib.hid FW5
  have HZ2 := Lib.hid z2
  have HHM := Lib.hid hmb
  clear b0 b1 b2 b3 b4 b5 d0 d1 d2 d3 d4 d5 own4 g4 F4 F5 hp5 hq hl4 z4 z5 F25 FW5 z2 hdis FB2 HF2 hfl HPB HF3 HS3 HPP hfbs hlm hi0 hz0 hs0 hb0 sB HBX HBF HFB HO5 HOR HOL hmb HCode HSm HPr HHg
  go_loopw [37] (fun i wr => ∃ (j : Nat) (l : List (Nat × Nat × Nat)) (fp : Nat) (q : Option Nat) (sv : Value), j ≤ n ∧ i = .int .i64 j ∧ l.length = j ∧ NI w5 mp pp mb n bs.length bs fp q l sv wr) (fun i _ => n - (intOf i).toNat)
  case atStart => exact ⟨0, [], 0, none, _, Nat.zero_le _, rfl, rfl, HN0.out⟩
  case round =>
    obtain ⟨j, l, fp, q, sv, hj, rfl, hlj, H⟩ := hrel
    rename World => wA
    have HH := Lib.hid H
    have HLJ := Lib.hid hlj
    obtain ⟨⟨k00, k01, k02, k03, k04, k05⟩, FM, hfbl⟩ := HX.out wA H.fr
    clear H hlj
    by_cases hlt : j < n
    · obtain ⟨c, hcj⟩ : ∃ c, c = n - 1 - j := ⟨_, rfl⟩
      have hcn : c < n := by omega
      obtain ⟨r0, r1⟩ := HRO.out wA HH.out.fr j hlt
      rw [← hcj] at r0
      have HCJ := Lib.hid hcj
      have hfo := HF.out wA FM
      obtain ⟨cb, co, cpv, rfl, hcb, q0, q1⟩ := (fo_at hfo).1 c _ (copF_at n sz c hcn)
      have HCB := Lib.hid (hco _ rfl cb co n cap rfl)
      obtain ⟨sb, so, rfl, hsb, q2⟩ := (fo_at hfo).2 c _ (copF_size n sz c hcn)
      obtain ⟨pb1, pbw, e1, hpb, q3, hps⟩ := HP.out wA FM
      obtain rfl : pb = pb1 := by simpa using e1
      have HFO := Lib.hid (fun wx (F : Fr [] wA wx) => hfo.fr F)
      have HPS := Lib.hid (fun wx (F : Fr [] wA wx) => hps.fr0 F)
      have HRD : Hid (∀ wx, Fr [] wA wx → (wx.cell? ⟨fb, 0, none⟩ = some (.slice (some ⟨cb, co, none⟩) n cap) ∧ wx.cell? ⟨fb, 1, none⟩ = some bv' ∧ wx.cell? ⟨fb, 2, none⟩ = some p ∧ wx.cell? ⟨fb, 3, none⟩ = some (.slice (some ⟨sb, so, none⟩) n caps) ∧ wx.cell? ⟨fb, 4, none⟩ = some h ∧ wx.cell? ⟨fb, 5, none⟩ = some k0) ∧
          wx.cell? ⟨cb, co + c * 2, none⟩ = some (.int .i64 1) ∧ wx.cell? ⟨cb, co + c * 2 + 1, none⟩ = some cpv ∧ wx.cell? ⟨sb, so + c, none⟩ = some (.int .u64 sz.toNat) ∧ wx.cell? ⟨pb, 0, none⟩ = some pbw ∧ fb < wx.heap.size ∧ cb < wx.heap.size ∧ sb < wx.heap.size ∧ pb < wx.heap.size) := Lib.hid (fun wx F => by
        have hn : ∀ b j, b < wA.heap.size → wx.cell? ⟨b, j, none⟩ = wA.cell? ⟨b, j, none⟩ := fun b j hb => F.cell (p := ⟨b, j, none⟩) hb (by simp)
        have := F.size
        rw [hn fb _ hfbl, hn fb _ hfbl, hn fb _ hfbl, hn fb _ hfbl, hn fb _ hfbl, hn fb _ hfbl, hn cb _ hcb, hn cb _ hcb, hn sb _ hsb, hn pb _ hpb]
        exact ⟨⟨k00, k01, k02, k03, k04, k05⟩, q0, q1, q2, q3, by omega, by omega, by omega, by omega⟩)
      have hjn : (j : Int) < (n : Int) := by omega
      have HHJ := Lib.hid (And.intro hlt (And.intro hcn hj))
      have HR1 := Lib.hid r1
      have hc8 : (c : Int) < (n : Int) := by omega
      clear hfo hps e1 hcj hlt hj FM
      go_wp2_with (first
        | (have hq := F6; go_at_call 20; refine (ins_any _ 1 cpv).mono ?_; rw [show ins 1 = 1 from rfl]; rintro e w7 ⟨rfl, F67⟩; have F7 := F6.trans0 F67; obtain ⟨⟨x0, x1, x2, x3, x4, x5⟩, x6, x7, x8, x9, xa, xb, xc, xd⟩ := HRD.out w7 F7)
        | (go_at_call 19; refine (first_any _ _ (copF n sz) (HFO.out _ (Fr.refl _ _)) (by rw [copF_len]; omega) c (by omega)).mono ?_; rw [copF_first n sz c (by have := HHJ.out; omega)]; rintro e w6 ⟨rfl, F6⟩; obtain ⟨⟨y0, y1, y2, y3, y4, y5⟩, y6, y7, y8, y9, ya, yb, yc, yd⟩ := HRD.out w6 F6))
      clear y0 y1 y2 y3 y4 y5 y6 y7 y8 y9 ya yb yc yd k00 k01 k02 k03 k04 k05 q0 q1 q2 q3 hcb hsb hpb hfbl r0 r1 hq F6 F67
      go_loopw [13, 50] (fun inn i wx => (i = .int .i64 0 ∧ inn = .slice none 0 0 ∧ wx = w7) ∨ (i = .int .i64 1 ∧ InnR w5 mp pp mb n bs.length bs l sv wA inn wx)) (fun _ i _ => (1 - intOf i).toNat)
      case atStart => exact .inl ⟨rfl, rfl, rfl⟩
      case round =>
        rcases hrel with ⟨rfl, rfl, hw⟩ | ⟨rfl, hI⟩
        · subst hw
          by_cases hcl : c + 1 < n
          · have h0c : (0 : Int) ≤ (c : Int) + 1 := by omega
            have hjp : l ≠ [] := fun e => by have := HLJ.out; rw [e, List.length_nil] at this; have := HCJ.out; omega
            obtain ⟨⟨g0, bx0, tk0⟩, lr, rfl⟩ := List.exists_cons_of_ne_nil hjp
            have HMC : Hid (∀ wx, Fr [] wA wx → wx.cell? ⟨mb, c + 1, none⟩ = some (.pointer (some ⟨g0, 0, none⟩)) ∧ mb < wx.heap.size) := Lib.hid (fun wx F => by
              have hm := (HH.out.fresh F).md
              have h1 := own_cell hm (c + 1) hcl
              have h2 := madeC_at (n := n) (l := (g0, bx0, tk0) :: lr) 0 (g0, bx0, tk0) rfl
              rw [HLJ.out, show n - j + 0 = c + 1 from by have := HCJ.out; have := HHJ.out; omega] at h2
              exact ⟨h1.trans h2, (own_ltS hm mb rfl).2⟩)
            have hcl' : (c : Int) + 1 < (n : Int) := by omega
            have HNF := Lib.hid (HH.out.nf hjp)
            have hwc : IntKind.i64.wrap ((c : Int) + 0) = (c : Int) := by rw [Int.add_zero, IntWalk.i64_in _ (by omega)]
            clear hjp
            go_wp2_with (first
              | (have hq := F8; at_builtin; refine wpList_append_sl sty_src rfl _ _ (by rfl) w.heap.size _ _ _ (by rfl) (World.ownsRow_nil _ _ _ _) _ [.iface 72 (.pointer (some ⟨g0, 0, none⟩))] (by rfl) (sl_one w8 86 _) (by intro u hu; simp at hu; subst hu; rfl) (by simp) (by simp) (by rw [World.size_alloc]; have := F8.size; have := HFW.out.size; have := HH.out.fr.size; omega) ?_)
              | (go_at_call 21; refine (from_any _ _ (copF n sz) (HFO.out _ F7) c).mono ?_; rw [copF_from n sz c HHJ.out.2.1, if_pos hcl]; rintro e w8 ⟨rfl, F78⟩; have F8 := F7.trans0 F78; obtain ⟨m0, m1⟩ := HMC.out w8 F8))
            intro sv2 w10 own10 g10
            obtain ⟨ia, ic, rfl, -, -⟩ := own_outS own10
            obtain ⟨ib, rfl⟩ := own_some own10 (by omega)
            have F810 : Fr [] w8 w10 := ((Fr.refl [] w8).alloc _).grown g10 (by simp [Value.ownBlock])
            have HI := Lib.hid (show InnR w5 mp pp mb n bs.length bs ((g0, bx0, tk0) :: lr) sv wA (.slice (some ⟨ib, 0, none⟩) 1 ic) w10 from ⟨ib, ic, fp, q, rfl, own_cell own10 0 (by omega), HNF.out.fresh (F8.trans0 F810), F8.trans0 F810⟩)
            clear own10 g10 F810 F8 F78 m0 m1 hq
            go_wp2_with fail
            go_roundw
            case rel => exact .inr ⟨rfl, HI.out⟩
            case measure => simp [intOf]
          · have hj0 : l = [] := by
              have := HLJ.out; have := HCJ.out; have := HHJ.out
              exact List.eq_nil_of_length_eq_zero (by omega)
            subst hj0
            have hwc : IntKind.i64.wrap ((c : Int) + 0) = (c : Int) := by rw [Int.add_zero, IntWalk.i64_in _ (by omega)]
            go_wp2_with (first
              | (have hq := F9; at_builtin; refine wpList_append_sl sty_src rfl _ _ (by rfl) w.heap.size _ _ _ (by rfl) (World.ownsRow_nil _ _ _ _) _ [.iface 81 (.pointer (some ⟨fp9, 0, none⟩))] (by rfl) (sl_one w9 86 _) (by intro u hu; simp at hu; subst hu; rfl) (by simp) (by simp) (by rw [World.size_alloc]; have := F9.size; have := HFW.out.size; have := HH.out.fr.size; omega) ?_)
              | (have hq := F8; go_at_call 22; refine (newfeed_ty _ _ bs (HPS.out _ F8) (by omega)).mono ?_; rintro e w9 ⟨fp9, q9, rfl, hfp9, hq9, hF9, F89⟩; have F9 := F8.trans0 F89)
              | (go_at_call 21; refine (from_any _ _ (copF n sz) (HFO.out _ F7) c).mono ?_; rw [copF_from n sz c HHJ.out.2.1, if_neg hcl]; rintro e w8 ⟨rfl, F78⟩; have F8 := F7.trans0 F78; obtain ⟨⟨y0, y1, y2, y3, y4, y5⟩, y6, y7, y8, y9, ya, yb, yc, yd⟩ := HRD.out w8 F8))
            intro sv2 w10 own10 g10
            obtain ⟨ia, ic, rfl, -, -⟩ := own_outS own10
            obtain ⟨ib, rfl⟩ := own_some own10 (by omega)
            have F910 : Fr [] w9 w10 := ((Fr.refl [] w9).alloc _).grown g10 (by simp [Value.ownBlock])
            have HI := Lib.hid (show InnR w5 mp pp mb n bs.length bs [] sv wA (.slice (some ⟨ib, 0, none⟩) 1 ic) w10 from ⟨ib, ic, fp9, q9, rfl, own_cell own10 0 (by omega), ((HH.out.fresh F8).begin HD.out.1 F89 hfp9 hq9 hF9).fresh F910, F9.trans0 F910⟩)
            clear own10 g10 F910 F9 F89 hF9 hq9 hfp9 F8 F78 y0 y1 y2 y3 y4 y5 y6 y7 y8 y9 ya yb yc yd hq
            go_wp2_with fail
            go_roundw
            case rel => exact .inr ⟨rfl, HI.out⟩
            case measure => simp [intOf]
        · obtain ⟨ib, ic, fp2, q2, rfl, hin, hNF, F8⟩ := hI
          rename World => w8
          have HNF := Lib.hid hNF
          rw [srcV_eq] at hin
          have HS8 : Hid (∀ wx, Fr [mp] w8 wx → wx.cell? ⟨fb, 0, none⟩ = some (.slice (some ⟨cb, co, none⟩) n cap) ∧ wx.cell? ⟨cb, co + c * 2, none⟩ = some (.int .i64 1) ∧ wx.cell? ⟨cb, co + c * 2 + 1, none⟩ = some cpv ∧ wx.cell? ⟨fb, 3, none⟩ = some (.slice (some ⟨sb, so, none⟩) n caps) ∧ wx.cell? ⟨sb, so + c, none⟩ = some (.int .u64 sz.toNat) ∧ fb < wx.heap.size ∧ cb < wx.heap.size ∧ sb < wx.heap.size) := Lib.hid (fun wx F => by
            have FA := (HX.out wA HH.out.fr).2.1
            have FT : Fr [mp] w wx := (FA.trans0 F8).trans F (fun i hi => .inl hi)
            have h1 := (fo_at (HF.out wx FT)).1 c _ (copF_at n sz c HHJ.out.2.1)
            have h2 := (fo_at (HF.out wx FT)).2 c _ (copF_size n sz c HHJ.out.2.1)
            obtain ⟨cb', co', cpv', e1, hcb, q0, q1⟩ := h1
            obtain ⟨sb', so', e2, hsb, q2⟩ := h2
            simp only [Option.some.injEq, Addr.mk.injEq, and_true] at e1 e2
            obtain ⟨rfl, rfl⟩ := e1
            obtain ⟨rfl, rfl⟩ := e2
            obtain ⟨⟨z0, z1, z2, z3, z4, z5⟩, z6, z7, z8, z9, za, zb, zc, zd⟩ := HRD.out w8 F8
            have hn : ∀ j, wx.cell? ⟨fb, j, none⟩ = w8.cell? ⟨fb, j, none⟩ := fun j => F.cell (p := ⟨fb, j, none⟩) za (by simpa using Ne.symm HMF.out)
            have hsz := F.size
            have hcpv : wx.cell? ⟨cb, co + c * 2 + 1, none⟩ = some cpv := by
              by_cases e : cb = mp
              · exact absurd e (HCB.out)
              · exact (F.cell (p := ⟨cb, co + c * 2 + 1, none⟩) zb (by simpa using e)).trans z7
            exact ⟨(hn 0).trans z0, q0, hcpv, (hn 3).trans z3, q2, by omega, by omega, by omega⟩)
          have HMT := HNF.out.1.mt
          obtain ⟨g0, g1, g2, g3, g4, g5, g6, g7⟩ := HS8.out w8 (Fr.refl _ _)
          have hcn2 : (c : Int) < (n : Int) := hc8
          clear hNF HMT
          go_wp2_with fail
          go_region_held3 (fun w' => w'.cell? ⟨fb, 0, none⟩ = some (.slice (some ⟨cb, co, none⟩) n cap) ∧ w'.cell? ⟨cb, co + c * 2, none⟩ = some (.int .i64 1) ∧ w'.cell? ⟨cb, co + c * 2 + 1, none⟩ = some cpv ∧ w'.cell? ⟨fb, 3, none⟩ = some (.slice (some ⟨sb, so, none⟩) n caps) ∧ w'.cell? ⟨sb, so + c, none⟩ = some (.int .u64 sz.toNat)) (first | exact ⟨g0, g1, g2, g3, g4⟩ | (have h9 := HS8.out _ F9; exact ⟨h9.1, h9.2.1, h9.2.2.1, h9.2.2.2.1, h9.2.2.2.2.1⟩)) (first
            | (go_at_call 23; refine (make1_any w8.drew cpv sz.toNat ib ic _ _ mp 0 0 0 0 (HNF.out.1.mt.same Same.drew) hin).mono ?_; rintro e w9 ⟨g, bx, tk, rfl, hG⟩; have HG := Lib.hid hG; have F9 : Fr [mp] w8 w9 := (Same.drew.fr (S := [mp])).trans hG.2.2.2.2.2.2.2 (fun i hi => .inl hi); clear hG))
          obtain ⟨f0, f1, f2, f3, f4, f5, f6, f7⟩ := HS8.out w9 F9
          have hz9 := F9.size
          have HI8 := HNF.out.1
          have hz8 := HI8.fr.size
          obtain ⟨e0, e1, e2, e3, e4, e5, ef⟩ := cells6 HG.out.1
          have ef1 := ef 1
          have ef2 := ef 2
          have hgl : g < w9.heap.size := (Array.getElem?_eq_some_iff.1 HG.out.1).1
          have hgw : w8.heap.size ≤ g := by have h1 := HG.out.2.2.2.1; have h2 := HG.out.2.2.2.2.1; have h3 := HG.out.2.2.2.2.2.1; have : w8.drew.heap.size = w8.heap.size := rfl; omega
          clear g0 g1 g2 g3 g4 g5 g6 g7 f5 f6 f7 hin ef
          go_upto_region 24 with fail
          obtain ⟨wS, hwS⟩ : ∃ wS, wS = (w9.setCell ⟨g, 1, none⟩ (.pointer (some ⟨mp, 0, none⟩))).setCell ⟨g, 2, none⟩ (.int .u64 sz.toNat) := ⟨_, rfl⟩
          rw [← hwS]
          have FS : Fr [g] w9 wS := hwS ▸ ((Fr.refl _ _).setCell (.inl (by simp)) _).setCell (.inl (by simp)) _
          have sS : wS.heap.size = w9.heap.size := by rw [hwS]; simp
          have bS := Go.Joins.block_setCell (Go.Joins.block_setCell HG.out.1 (i := 1) (.pointer (some ⟨mp, 0, none⟩))) (i := 2) (.int .u64 sz.toNat)
          rw [← hwS] at bS
          simp only [List.setIfInBounds_toArray, List.set_cons_zero, List.set_cons_succ] at bS
          have F9w : Fr [mp] w8 w9 := F9
          have hG := HG.out
          have hgg : g ∉ [mp] ∧ g ≠ mb ∧ g ≠ pp := by have := HD.out; simp only [List.mem_singleton]; omega
          have hSg : StgAt wS g bx tk mp bs.length (srcV fp2 (l.map (·.1))) := ⟨by rw [← HSN.out, srcV_eq]; exact bS, by
            rw [srcV_eq]
            exact (FS.block bx (Array.getElem?_eq_some_iff.1 hG.2.1).1 (by simp; omega)).trans hG.2.1, (FS.block tk (Array.getElem?_eq_some_iff.1 hG.2.2.1).1 (by simp; omega)).trans hG.2.2.1⟩
          have mS : MtN wS mp 0 0 0 0 0 0 := hG.2.2.2.2.2.2.1.fr FS (by have := HD.out; simp; omega)
          have F8S : Fr [mp] w8 wS := F9w.trans FS (fun i hi => .inr (by simp at hi; omega))
          have mdS := own_frS HI8.md F8S (by intro k hk hm; have := HD.out; simp [Value.ownBlock] at hk hm; omega)
          have stS := own_frS HI8.st F8S (by intro k hk hm; have := (own_ltS HI8.st k hk).1; have := HD.out; simp at hm; omega)
          have hpS := (F8S.block pp (Array.getElem?_eq_some_iff.1 HI8.hp).1 (by have := HD.out; simp; omega)).trans HI8.hp
          have HSG := Lib.hid hSg
          have HMS := Lib.hid mS
          have HF8S := Lib.hid F8S
          have HMD := Lib.hid mdS
          have HST := Lib.hid stS
          have HPS2 := Lib.hid hpS
          have HGG := Lib.hid (And.intro hgw (And.intro hG.2.2.2.1 (And.intro hG.2.2.2.2.1 hG.2.2.2.2.2.1)))
          obtain ⟨cmd, hmd⟩ := own_ty mdS mb rfl
          obtain ⟨vmd, hvmd⟩ : ∃ v, wS.cell? ⟨mb, c, none⟩ = some v := ⟨_, (own_cell mdS c HHJ.out.2.1).trans (List.getElem?_eq_getElem (by rw [madeC_len (by have := HLJ.out; have := HHJ.out; omega)]; exact HHJ.out.2.1))⟩
          have zmd := frozen6 hmd c
          have hmbl : mb < wS.heap.size := (Array.getElem?_eq_some_iff.1 hmd).1
          clear hwS FS bS F9w hG hgg hSg mS F8S mdS stS hpS hmd e0 e1 e2 e3 e4 e5 ef1 ef2 hgl hgw f0 f1 f2 f3 f4 HI8 hz8 hz9 F9 F8 sS
          go_upto_region 25 with fail
          obtain ⟨wT, hwT⟩ : ∃ wT, wT = wS.setCell ⟨mb, c, none⟩ (.pointer (some ⟨g, 0, none⟩)) := ⟨_, rfl⟩
          rw [← hwT]
          have FT : Fr [mb] wS wT := hwT ▸ (Fr.refl _ _).setCell (.inl (by simp)) _
          have mdT := (HMD.out.stored c (ptrV g)).1
          rw [show ptrV g = .pointer (some ⟨g, 0, none⟩) from rfl, ← hwT] at mdT
          have hpT := (FT.block pp (Array.getElem?_eq_some_iff.1 HPS2.out).1 (by have := HD.out; simp; omega)).trans HPS2.out
          have stT := own_frS HST.out FT (by intro k hk hm; have := (own_ltS HST.out k hk).1; have := HD.out; simp at hm; omega)
          obtain ⟨p0, p1, p2, p3, pf⟩ := pcells4 hpT
          have hppl : pp < wT.heap.size := (Array.getElem?_eq_some_iff.1 hpT).1
          obtain ⟨sva, svc, rfl, -, -⟩ := own_outS stT
          have HMDT := Lib.hid mdT
          have HPT := Lib.hid hpT
          have HFT := Lib.hid FT
          have HSTT := Lib.hid (own_frS stT ((Fr.refl [] wT).alloc (.cells #[.pointer (some ⟨g, 0, none⟩)] 72)) (by simp))
          have HSLT := Lib.hid (sl_one wT 72 (.pointer (some ⟨g, 0, none⟩)))
          have hW5 : w5.heap.size ≤ wT.heap.size := by have := HF8S.out.size; have := FT.size; have := HNF.out.1.fr.size; omega
          have HW5 := Lib.hid hW5
          clear hwT FT mdT hpT stT hvmd zmd hmbl pf
          go_wp2_with (at_builtin; refine wpList_append_sl sty_stg rfl _ _ (by rfl) w5.heap.size _ _ _ (by rfl) HSTT.out _ [.pointer (some ⟨g, 0, none⟩)] (by rfl) HSLT.out (by intro u hu; simp at hu; subst hu; rfl) (by have := HLJ.out; have := HHJ.out; simp; omega) (by have := HLJ.out; have := HHJ.out; simp; omega) (by rw [World.size_alloc]; exact Nat.le_succ_of_le HW5.out) ?_)
          intro sv2 w10 own10 g10
          obtain ⟨s2a, s2c, rfl, -, -⟩ := own_outS own10
          have F10 : Fr (Value.slice sva l.length svc).ownBlock.toList wT w10 := ((Fr.refl _ _).alloc _).grown g10 (fun k hk => .inl (by simp [hk]))
          have hown : ∀ k, k ∈ (Value.slice sva l.length svc).ownBlock.toList → w5.heap.size ≤ k := fun k hk => (own_ltS HSTT.out k (by simpa using hk)).1
          have hp10 := (F10.block pp hppl (fun hm => by have := hown pp hm; have := HD.out; omega)).trans HPT.out
          have FZ : Fr [pp] w10 (w10.setCell ⟨pp, 0, none⟩ (.slice s2a (l.length + 1) s2c)) := (Fr.refl _ _).setCell (.inl (by simp)) _
          have hpZ := Go.Joins.block_setCell hp10 (i := 0) (.slice s2a (l.length + 1) s2c)
          simp only [List.setIfInBounds_toArray, List.set_cons_zero] at hpZ
          obtain ⟨g1, g2, g3, g4⟩ := HGG.out
          have hdr : w8.drew.heap.size = w8.heap.size := rfl
          rw [hdr] at g2
          have hd := HD.out
          have hww := HNF.out.1.fr.size
          have hgT : g < wS.heap.size := HSG.out.lt.1
          have HNX : Hid (NI w5 mp pp mb n bs.length bs fp2 q2 ((g, bx, tk) :: l) (.slice s2a (l.length + 1) s2c) (w10.setCell ⟨pp, 0, none⟩ (.slice s2a (l.length + 1) s2c))) := Lib.hid (by
            have hbig : ∀ i, w8.heap.size ≤ i → i < wS.heap.size → (∀ c, wT.heap[i]? ≠ some (.cells c 72)) → i ∉ [mb] ∧ i ∉ (Value.slice sva l.length svc).ownBlock.toList ∧ i ∉ [pp] := fun i hi _ hne => ⟨by simp; omega, fun hm => by
              obtain ⟨c, hc⟩ := own_ty (own_frS HST.out HFT.out (by intro k hk hm; have := (own_ltS HST.out k hk).1; simp at hm; omega)) i (by simpa using hm)
              exact hne c hc, by simp; omega⟩
            have sgT : StgAt wT g bx tk mp bs.length (srcV fp2 (l.map (·.1))) := HSG.out.fr HFT.out (by simp; omega) (by simp; omega) (by simp; omega)
            have n1 := hbig g g1 hgT (fun c hc => by rw [sgT.blk] at hc; simp at hc)
            have n2 := hbig bx (by omega) HSG.out.lt.2.1 (fun c hc => by rw [sgT.box] at hc; simp at hc)
            have n3 := hbig tk (by have : w8.drew.heap.size = w8.heap.size := rfl; omega) HSG.out.lt.2.2 (fun c hc => by rw [sgT.tak] at hc; simp at hc)
            have mmp : mp ∉ (Value.slice sva l.length svc).ownBlock.toList := fun hm => by have := hown mp hm; omega
            have mmb : mb ∉ (Value.slice sva l.length svc).ownBlock.toList := fun hm => by have := hown mb hm; omega
            refine HNF.out.step ⟨hd.1, hd.2.1, hd.2.2.1⟩ hpZ (own_frS own10 FZ (fun k hk hm => by have := (own_ltS own10 k hk).1; simp at hm; omega)) ?_ ((sgT.fr F10 n1.2.1 n2.2.1 n3.2.1).fr FZ n1.2.2 n2.2.2 n3.2.2) ((((HMS.out.fr HFT.out (by simp; omega)).fr F10 mmp).fr FZ (by simp; omega))) ?_ (by have : w8.drew.heap.size = w8.heap.size := rfl; omega) g3 g4
            · have h1 := madeC_put (n := n) (l := l) (g, bx, tk) (by have := HLJ.out; have := HHJ.out; omega)
              rw [show n - 1 - l.length = c from by rw [HLJ.out, HCJ.out]] at h1
              rw [← h1]
              exact own_frS (own_frS HMDT.out F10 (fun k hk hm => by simp [Value.ownBlock] at hk; subst hk; exact mmb hm)) FZ (fun k hk hm => by simp [Value.ownBlock] at hk; simp at hm; omega)
            · refine (((HF8S.out.mono (fun i hi => ?_)).trans HFT.out (fun i hi => .inl ?_)).trans F10 (fun i hi => .inl ?_)).trans FZ (fun i hi => .inl ?_)
              · simp at hi; subst hi; simp
              · simp at hi; subst hi; simp
              · simp only [List.mem_cons]; exact .inr (.inr (.inr hi))
              · simp at hi; subst hi; simp)
          obtain ⟨p0, p1, p2, p3, pf⟩ := pcells4 hp10
          have pf0 := pf 0
          have hpl10 : pp < w10.heap.size := (Array.getElem?_eq_some_iff.1 hp10).1
          have hjn1 := HHJ.out.1
          clear own10 g10 F10 hown hp10 FZ hpZ g1 g2 g3 g4 hd hww hgT pf hdr
          go_wp2_with fail
          go_roundw
          case rel => exact ⟨j + 1, (g, bx, tk) :: l, fp2, q2, _, hjn1, by go_num, by rw [List.length_cons, HLJ.out], HNX.out⟩
          case measure => simp [intOf]; omega
    · obtain rfl : j = n := by omega
      have hl1 : l ≠ [] := fun e => by have := HLJ.out; rw [e, List.length_nil] at this; omega
      obtain ⟨⟨g, bx, tk⟩, r, rfl⟩ := List.exists_cons_of_ne_nil hl1
      have HNF := Lib.hid (HH.out.nf hl1)
      have hst := HH.out.st
      obtain ⟨sva, svc, rfl, -, -⟩ := own_outS hst
      obtain ⟨rp, rfl⟩ := own_some hst (by simp)
      have hmc : ∀ wx, Fr [] wA wx → wx.cell? ⟨mb, 0, none⟩ = some (.pointer (some ⟨g, 0, none⟩)) ∧ mb < wx.heap.size ∧ (wx.cell? ⟨pp, 0, none⟩ = some (.slice (some ⟨rp, 0, none⟩) ((g, bx, tk) :: r).length svc) ∧ wx.cell? ⟨pp, 1, none⟩ = some (.pointer none)) ∧ wx.frozen? ⟨pp, 1, none⟩ = false ∧ pp < wx.heap.size := fun wx F => by
        have H2 := HH.out.fresh F
        have h1 := own_cell H2.md 0 (by omega)
        have h2 := madeC_at (n := j) (l := (g, bx, tk) :: r) 0 (g, bx, tk) rfl
        rw [HLJ.out, Nat.sub_self] at h2
        obtain ⟨p0, p1, p2, p3, pf⟩ := pcells4 H2.hp
        exact ⟨h1.trans h2, (own_ltS H2.md mb rfl).2, ⟨p0, p1⟩, pf 1, (Array.getElem?_eq_some_iff.1 H2.hp).1⟩
      have HMC := Lib.hid hmc
      have HMN := Lib.hid (fun wx (F : Fr [] wA wx) => main_any wx _ (copF j sz) ((HF.out wA FM).fr F) (by rw [copF_len]; omega) (by have := (copF_small j sz hn8).bi; omega) (copF_outs j sz hn).1 (copF_outs j sz hn).2)
      have hjj : (0 : Int) < (j : Int) := by omega
      have hLen := Lib.hid HLJ.out
      clear hst hmc hl1 HLJ FM
      go_wp2_with (go_at_call 24; refine (HMN.out _ (Fr.refl _ _)).mono ?_; rw [copF_main j sz hn]; rintro e w6 ⟨rfl, F6⟩; obtain ⟨m0, m1, ⟨m2, m3⟩, m4, m5⟩ := HMC.out w6 F6)
      go_ret2
      have H6 := HNF.out.fresh F6
      obtain ⟨hI, hF, hA, hfp, hq⟩ := H6
      have FZ : Fr [pp] w6 (w6.setCell ⟨pp, 1, none⟩ (.pointer (some ⟨g, 0, none⟩))) := (Fr.refl _ _).setCell (.inl (by simp)) _
      have hd := HD.out
      have hz2 := HZ2.out
      have hww := hI.fr.size
      have hw5 := HFW.out.size
      have hpZ := Go.Joins.block_setCell hI.hp (i := 1) (.pointer (some ⟨g, 0, none⟩))
      simp only [List.setIfInBounds_toArray, List.set_cons_zero, List.set_cons_succ] at hpZ
      have hrl := own_ltS hI.st rp rfl
      obtain ⟨rc0, hrc⟩ := own_ty hI.st rp rfl
      have hge := hI.ge
      refine ⟨pp, rp, svc, g, bx, tk, r, fp, q, rfl, ⟨by rw [← hLen.out]; exact hpZ⟩, hLen.out, Chn.fr FZ hI.ch (fun i hi hm => by have := hge i hi; simp at hm; omega), hF.fr FZ (by simp; omega) (fun i hi hm => by have := (hq i hi).1; simp at hm; omega), hI.mt.fr FZ (by simp; omega), hA, fun i x hx => ?_, ⟨by omega, fun e => ?_, fun hm => chn_not_ptr hI.ch rp hm _ hrc⟩, ⟨by omega, by omega, fun hm => by have := hge pp hm; omega⟩, by omega, fun i hi => ⟨fun e => by have := (hq i hi).1; omega, by
        obtain ⟨_, c2, hc2⟩ := hq i hi
        have := (Array.getElem?_eq_some_iff.1 hc2).1
        simpa using this⟩, fun i hi => ?_, (HX.out _ (hI.fr.trans FZ (fun i hi => .inl (by simp at hi; subst hi; simp)))).2.1⟩
      · have hil : i < ((g, bx, tk) :: r).length := by have := (List.getElem?_eq_some_iff.1 hx).1; rwa [List.length_reverse] at this
        have h1 := own_cell hI.st i hil
        refine (FZ.cell (p := ⟨rp, i, none⟩) hrl.2 (by simp; omega)).trans (h1.trans ?_)
        simp only [ptrs, List.getElem?_map, hx]
        rfl
      · obtain ⟨ao2, cap2, hb2, -⟩ := hF.out
        rw [← e, hrc] at hb2
        simp at hb2
      · simp only [List.mem_cons] at hi
        rcases hi with rfl | rfl | rfl | hi
        · omega
        · omega
        · omega
        · have := hge i hi; omega
end Go.Proofs.YtfnblemlcjdnhaaGreat
