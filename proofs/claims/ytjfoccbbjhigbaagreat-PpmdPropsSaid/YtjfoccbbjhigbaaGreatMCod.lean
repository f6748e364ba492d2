/- Contracts: the range coder of PPMd (layer 6). No condition but that numbers fit. -/
import Derived.Test.YtjfoccbbjhigbaaGreatAOwn
import Derived.Test.YtjfoccbbjhigbaaGreatSrcA
import Derived.Deep.DeepCutAuto
namespace Go.Proofs.YtjfoccbbjhigbaaGreat
open Go.RowKit
/-- A range coder: its low, its range, the byte that waits, how many full bytes wait behind it, its bytes. -/
structure Cd where
  low : Nat
  rng : Nat
  waits : Nat
  more : Nat
  out : List UInt8
def Cd.zero : Cd := ⟨0, 4294967295, 0, 0, []⟩
def Cd.give (c : Cd) : Cd :=
  if c.low / 16777216 = 255 then { c with low := c.low % 16777216 * 256, more := c.more + 1 }
  else ⟨c.low % 16777216 * 256, c.rng, c.low / 16777216 % 256, 0, c.out ++ UInt8.ofNat (c.waits + c.low / 16777216 / 256) :: List.replicate c.more (UInt8.ofNat (255 + c.low / 16777216 / 256))⟩
structure CdAt (w : World) (cp base : Nat) (c : Cd) : Prop where
  ok : ∃ v, w.heap[cp]? = some (.cells #[.int .u64 c.low, .int .u32 c.rng, .int .u8 c.waits, .int .i64 c.more, v] 130 (0, 0)) ∧ w.ownsRow base 5 1 v c.out.length (bv c.out)
  lt : cp < base
  size : base ≤ w.heap.size
  low : c.low < 1099511627776
  rng : c.rng < 4294967296
  waits : c.waits < 256
  long : c.out.length + c.more ≤ 2000000000
section
variable {w : World} {cp base : Nat} {c : Cd}
theorem CdAt.fr (h : CdAt w cp base c) {w' : World} {S : List Nat} (F : Fr S w w') (h1 : cp ∉ S) (h2 : ∀ i ∈ S, i < base) : CdAt w' cp base c := by
  obtain ⟨v, hb, ho⟩ := h.ok
  refine ⟨⟨v, (F.block cp (Array.getElem?_eq_some_iff.1 hb).1 h1).trans hb, own_frS ho F (fun k hk hS => ?_)⟩, h.lt, Nat.le_trans h.size F.size, h.low, h.rng, h.waits, h.long⟩
  have := (own_ltS ho k hk).1
  have := h2 k hS
  omega
theorem CdAt.same (h : CdAt w cp base c) {w' : World} (s : Same w w') : CdAt w' cp base c := h.fr (s.fr (S := [])) (by simp) (by simp)
set_option maxRecDepth 100000 in
theorem newcoder_any (w : World) : Calls Tryz.prog 33 #[] w fun e w' => e = .returned (.pointer (some ⟨w.heap.size, 0, none⟩)) ∧ CdAt w' w.heap.size (w.heap.size + 1) Cd.zero ∧ Fr [] w w' ∧ w'.heap[w.heap.size]? = some (.cells #[.int .u64 0, .int .u32 4294967295, .int .u8 0, .int .i64 0, .slice none 0 0] 130 (0, 0)) := by
  go_enter Tryz.func33, Tryz.ntmps33
  go_wp2_with fail
  go_ret
  refine ⟨rfl, ⟨⟨.slice none 0 0, heap_alloc_new _ _, World.ownsRow_nil _ _ _ _⟩, by omega, by simp, by decide, by decide, by decide, by decide⟩, (Fr.refl _ _).alloc _, heap_alloc_new _ _⟩
theorem and_u64 (a b : Nat) (ha : a < 18446744073709551616) (hb : b < 18446744073709551616) : bits .and .u64 (a : Int) (b : Int) = ((a &&& b : Nat) : Int) := by
  have hx : a &&& b ≤ a := Nat.and_le_left
  have h1 : (BitVec.ofInt 64 (a : Int)).toNat = a := by rw [BitVec.ofInt_natCast, BitVec.toNat_ofNat]; exact Nat.mod_eq_of_lt (by omega)
  have h2 : (BitVec.ofInt 64 (b : Int)).toNat = b := by rw [BitVec.ofInt_natCast, BitVec.toNat_ofNat]; exact Nat.mod_eq_of_lt (by omega)
  show IntKind.u64.wrap ((BitVec.ofInt 64 (a : Int) &&& BitVec.ofInt 64 (b : Int)).toNat : Int) = _
  rw [BitVec.toNat_and, h1, h2]
  exact IntWalk.u64_in _ (by omega)
theorem low24 (a : Nat) (ha : a < 18446744073709551616) : IntKind.u64.wrap (bits .and .u64 (a : Int) 16777215 * 256) = ((a % 16777216 * 256 : Nat) : Int) := by
  have h := and_u64 a 16777215 ha (by decide)
  have e : a &&& 16777215 = a % 16777216 := Nat.and_two_pow_sub_one_eq_mod a 24
  rw [show (16777215 : Int) = ((16777215 : Nat) : Int) from rfl, h, e, IntKind.wrap_u64]
  omega
theorem CdAt.set (h : CdAt w cp base c) {j : Nat} {u : Value} {c' : Cd} (e : ∀ v, (#[Value.int .u64 c.low, .int .u32 c.rng, .int .u8 c.waits, .int .i64 c.more, v]).setIfInBounds j u = #[.int .u64 c'.low, .int .u32 c'.rng, .int .u8 c'.waits, .int .i64 c'.more, v]) (ho : c'.out = c.out) (h1 : c'.low < 1099511627776) (h2 : c'.rng < 4294967296) (h3 : c'.waits < 256) (h4 : c.out.length + c'.more ≤ 2000000000) : CdAt (w.setCell ⟨cp, j, none⟩ u) cp base c' := by
  obtain ⟨v, hb, hown⟩ := h.ok
  refine ⟨⟨v, by rw [← e v]; exact Go.Joins.block_setCell hb u, ?_⟩, h.lt, by simpa using h.size, h1, h2, h3, by rw [ho]; exact h4⟩
  rw [ho]
  exact own_frS hown ((Fr.refl [cp] _).setCell (.inl (by simp)) _) (fun k hk => by have := (own_ltS hown k hk).1; have := h.lt; simp; omega)
/-- The row of bytes behind an append. -/
theorem CdAt.pushed (_ : CdAt w cp base c) {v : Value} (hb : w.heap[cp]? = some (.cells #[.int .u64 c.low, .int .u32 c.rng, .int .u8 c.waits, .int .i64 c.more, v] 130 (0, 0))) (hov : ∀ k, v.ownBlock = some k → k ≠ cp) {wx w4 : World} (F : Fr [] w wx) (g : wx.grownBy w4 v.ownBlock) :
    w4.heap[cp]? = some (.cells #[.int .u64 c.low, .int .u32 c.rng, .int .u8 c.waits, .int .i64 c.more, v] 130 (0, 0)) ∧ w4.cell? ⟨cp, 4, none⟩ = some v ∧ (∀ j, w4.frozen? ⟨cp, j, none⟩ = false) ∧ cp < w4.heap.size := by
  have FF : Fr v.ownBlock.toList w w4 := ((Fr.refl v.ownBlock.toList w).trans F (fun i hi => absurd hi (by simp))).grown g (fun k hk => .inl (by simp [hk]))
  have hbb := (FF.block cp (Array.getElem?_eq_some_iff.1 hb).1 (by simp; exact fun h => hov cp h rfl)).trans hb
  exact ⟨hbb, by simp [Go.Joins.cell_of_block hbb], fun j => Go.Joins.unfrozen_of_block hbb j, (Array.getElem?_eq_some_iff.1 hbb).1⟩
theorem CdAt.push (h : CdAt w cp base c) {v v4 : Value} {X : Int} {x : UInt8} (hX : X = x.toNat) (hb : w.heap[cp]? = some (.cells #[.int .u64 c.low, .int .u32 c.rng, .int .u8 c.waits, .int .i64 c.more, v] 130 (0, 0))) (ho : w.ownsRow base 5 1 v c.out.length (bv c.out)) {wx w4 : World} (F : Fr [] w wx) (g : wx.grownBy w4 v.ownBlock)
    (own4 : w4.ownsRow base 5 1 v4 (c.out.length + 1) (bv c.out ++ [.int .u8 X])) (hl : c.out.length + c.more < 2000000000) {a0 : World} {S : List Nat} (F0 : Fr S a0 w) (hcp : cp ∈ S ∨ a0.heap.size ≤ cp) (hb0 : a0.heap.size ≤ base) :
    CdAt (w4.setCell ⟨cp, 4, none⟩ v4) cp base { c with out := c.out ++ [x] } ∧ Fr S a0 (w4.setCell ⟨cp, 4, none⟩ v4) := by
  have hov : ∀ k, v.ownBlock = some k → k ≠ cp := fun k hk => by have := (own_ltS ho k hk).1; have := h.lt; omega
  have hov4 : ∀ k, v4.ownBlock = some k → k ≠ cp := fun k hk => by have := (own_ltS own4 k hk).1; have := h.lt; omega
  obtain ⟨b4, -, -, l4⟩ := h.pushed hb hov F g
  have hsz : base ≤ w4.heap.size := by
    have FF : Fr v.ownBlock.toList w w4 := ((Fr.refl v.ownBlock.toList w).trans F (fun i hi => absurd hi (by simp))).grown g (fun k hk => .inl (by simp [hk]))
    exact Nat.le_trans h.size FF.size
  refine ⟨⟨⟨v4, Go.Joins.block_setCell b4 _, ?_⟩, h.lt, by simpa using hsz, h.low, h.rng, h.waits, by show (c.out ++ [x]).length + c.more ≤ _; simp; omega⟩, ?_⟩
  · have o := own_frS own4 ((Fr.refl [cp] w4).setCell (p := ⟨cp, 4, none⟩) (.inl (by simp)) v4) (fun k hk => by simpa using hov4 k hk)
    have e : bv (c.out ++ [x]) = bv c.out ++ [.int .u8 X] := by rw [hX]; simp [bv]
    show World.ownsRow _ base _ 1 v4 (c.out ++ [x]).length (bv (c.out ++ [x]))
    rw [e, List.length_append]
    exact o
  · exact (((F0.trans F (fun i hi => absurd hi (by simp)))).grown g (fun k hk => .inr (by have := (own_ltS ho k hk).1; omega))).setCell hcp _
def moreOf (w : World) (cp : Nat) : Nat := (intOf ((w.cell? ⟨cp, 3, none⟩).getD undef)).toNat
set_option maxRecDepth 100000 in
set_option maxHeartbeats 2000000 in
theorem give_any (h : CdAt w cp base c) (hl : c.out.length + c.more < 1000000000) {a0 : World} {S : List Nat} (F0 : Fr S a0 w) (hcp : cp ∈ S ∨ a0.heap.size ≤ cp) (hb : a0.heap.size ≤ base) :
    Calls Tryz.prog 58 #[.pointer (some ⟨cp, 0, none⟩)] w fun e w' => e = .returned (.tuple #[]) ∧ CdAt w' cp base c.give ∧ Fr S a0 w' := by
  obtain ⟨v, hbk, ho⟩ := h.ok
  obtain ⟨H, hH⟩ : ∃ H, H = c.low / 16777216 := ⟨_, rfl⟩
  have q1 : (c.low : Int).toNat >>> 24 = H := by rw [hH, Int.toNat_natCast, Nat.shiftRight_eq_div_pow]
  have hlow := h.low
  have c0 : w.cell? ⟨cp, 0, none⟩ = some (.int .u64 c.low) := by simp [Go.Joins.cell_of_block hbk]
  have c3 : w.cell? ⟨cp, 3, none⟩ = some (.int .i64 c.more) := by simp [Go.Joins.cell_of_block hbk]
  have z : ∀ j, w.frozen? ⟨cp, j, none⟩ = false := fun j => Go.Joins.unfrozen_of_block hbk j
  have hlt := (Array.getElem?_eq_some_iff.1 hbk).1
  go_enter Tryz.func58, Tryz.ntmps58
  go_upto_region 2 with fail
  have hL := low24 c.low (by omega)
  rw [hL]
  have hq : (c.low : Int) / 16777216 = (H : Int) := by rw [hH]; rfl
  rw [hq]
  have hH2 : H < 65536 := by omega
  obtain ⟨L, hLL⟩ : ∃ L, L = c.low % 16777216 * 256 := ⟨_, rfl⟩
  have hL2 : L < 4294967296 := by omega
  rw [← hLL]
  obtain ⟨w2, hw2⟩ : ∃ w2, w2 = w.setCell ⟨cp, 0, none⟩ (.int .u64 L) := ⟨_, rfl⟩
  rw [← hw2]
  have F2 : Fr [cp] w w2 := hw2 ▸ (Fr.refl _ _).setCell (.inl (by simp)) _
  have hov : ∀ k, v.ownBlock = some k → k ≠ cp := fun k hk => by have := (own_ltS ho k hk).1; have := h.lt; omega
  have b2 : w2.heap[cp]? = some (.cells #[.int .u64 L, .int .u32 c.rng, .int .u8 c.waits, .int .i64 c.more, v] 130 (0, 0)) := by rw [hw2]; exact Go.Joins.block_setCell hbk _
  have own2 : w2.ownsRow base 5 1 v c.out.length (bv c.out) := own_frS ho F2 (fun k hk => by simpa using hov k hk)
  have FS2 : Fr S a0 w2 := hw2 ▸ F0.setCell hcp _
  have hbl := h.lt
  have hbs := Nat.le_trans h.size F2.size
  have hrw := And.intro h.rng h.waits
  have hlong := h.long
  clear c0 c3 z q1 hq hL ho hbk F0 hw2 F2 h hlt
  have c0 : w2.cell? ⟨cp, 0, none⟩ = some (.int .u64 L) := by simp [Go.Joins.cell_of_block b2]
  have c2 : w2.cell? ⟨cp, 2, none⟩ = some (.int .u8 c.waits) := by simp [Go.Joins.cell_of_block b2]
  have c3 : w2.cell? ⟨cp, 3, none⟩ = some (.int .i64 c.more) := by simp [Go.Joins.cell_of_block b2]
  have c4 : w2.cell? ⟨cp, 4, none⟩ = some v := by simp [Go.Joins.cell_of_block b2]
  have z : ∀ j, w2.frozen? ⟨cp, j, none⟩ = false := fun j => Go.Joins.unfrozen_of_block b2 j
  have hlt := (Array.getElem?_eq_some_iff.1 b2).1
  by_cases h255 : H = 255
  · have hg : c.give = { c with low := L, more := c.more + 1 } := by unfold Cd.give; rw [← hH, ← hLL, if_pos h255]
    have HG := Lib.hid hg
    have hI : ((H : Int) == 255) = true := by simp; omega
    have HB2 := Lib.hid (And.intro b2 own2)
    have HFS := Lib.hid FS2
    clear hg hH hLL b2 own2 FS2
    go_wp2_with fail
    refine bodyPost_ret (results_none rfl _ _ _) rfl ?_
    rw [HG.out]
    refine ⟨rfl, ⟨⟨v, Go.Joins.block_setCell HB2.out.1 _, own_frS HB2.out.2 ((Fr.refl [cp] _).setCell (.inl (by simp)) _) (fun k hk => by simpa using hov k hk)⟩, hbl, by simpa using hbs, by show L < 1099511627776; omega, hrw.1, hrw.2, by show c.out.length + (c.more + 1) ≤ _; omega⟩, HFS.out.setCell hcp _⟩
  · have hg : c.give = ⟨L, c.rng, H % 256, 0, c.out ++ UInt8.ofNat (c.waits + H / 256) :: List.replicate c.more (UInt8.ofNat (255 + H / 256))⟩ := by unfold Cd.give; rw [← hH, ← hLL, if_neg h255]
    have HG := Lib.hid hg
    have hI : ((H : Int) == 255) = false := by simp; omega
    clear hg hH hLL
    go_upto_region 4 with fail
    have HC2 := Lib.hid (show CdAt w2 cp base ⟨L, c.rng, c.waits, c.more, c.out⟩ from ⟨⟨v, b2, own2⟩, hbl, hbs, by show L < 1099511627776; omega, hrw.1, hrw.2, hlong⟩)
    have HO := Lib.hid own2
    have HB2 := Lib.hid b2
    have HFS := Lib.hid FS2
    have hll : c.out.length ≤ 1000000000 := by omega
    have HOV := Lib.hid hov
    clear own2 b2 FS2 hov
    rename_i K0 hK0
    go_cut [] from 26 to 43 (fun wx => Hid (CdAt wx cp base ⟨L, c.rng, c.waits, c.more, c.out ++ [UInt8.ofNat (c.waits + H / 256)]⟩ ∧ Fr S a0 wx))
    case first =>
      clear hK0
      go_region_law (first
        | (refine step_append_sl sty_u8 rfl _ _ (by rfl) base _ _ _ (by rfl) (own_frS HO.out (((Fr.refl [] w2).alloc _).drew) (by simp)) _ [_] (by rfl) ((sl_one w2 5 _).fr0 (Same.drew.fr)) (by intro u hu; simp at hu; subst hu; rfl) (by simp; omega) (by simp; omega) (by simp; omega) ?_; intro v4 w4 own4 g4; obtain ⟨kb, k4, kz, kl⟩ := CdAt.pushed HC2.out HB2.out HOV.out (((Fr.refl [] w2).alloc _).drew) g4; obtain ⟨vao, vcap, rfl, -⟩ := own_outS own4))
      all_goals (go_simp; try go_step)
      all_goals go_meet
      all_goals exact Lib.hid (CdAt.push HC2.out (by simp [IntKind.wrap_u8]) HB2.out HO.out (((Fr.refl [] w2).alloc _).drew) g4 own4 (by show c.out.length + c.more < _; omega) HFS.out hcp hb)
    case rest =>
      (refine hK0 _ _ ?_; clear hK0)
      obtain ⟨x, hx⟩ : ∃ x, x = UInt8.ofNat (c.waits + H / 256) := ⟨_, rfl⟩
      rw [← hx] at hcut
      have HX := Lib.hid hx
      clear c0 c2 c3 c4 z hlt hx HO HB2 HFS HOV HC2 hbs
      rename World => w5
      go_wp2_with fail
      go_loopw [] (fun wr => ∃ k, k ≤ c.more ∧ Hid (CdAt wr cp base ⟨L, c.rng, c.waits, c.more - k, c.out ++ x :: List.replicate k (UInt8.ofNat (255 + H / 256))⟩ ∧ Fr S a0 wr)) (fun wr => moreOf wr cp)
      case atStart => exact ⟨0, by omega, by simpa using hcut⟩
      case round =>
        obtain ⟨k, hk, HK⟩ := hrel
        rename World => wr
        obtain ⟨v, b2, own2⟩ := HK.out.1.ok
        have hov : ∀ k, v.ownBlock = some k → k ≠ cp := fun k hk => by have := (own_ltS own2 k hk).1; omega
        have c2 : wr.cell? ⟨cp, 2, none⟩ = some (.int .u8 c.waits) := by simp [Go.Joins.cell_of_block b2]
        have c3 : wr.cell? ⟨cp, 3, none⟩ = some (.int .i64 ((c.more - k : Nat) : Int)) := by simp [Go.Joins.cell_of_block b2]
        have c4 : wr.cell? ⟨cp, 4, none⟩ = some v := by simp [Go.Joins.cell_of_block b2]
        have z : ∀ j, wr.frozen? ⟨cp, j, none⟩ = false := fun j => Go.Joins.unfrozen_of_block b2 j
        have hlt := (Array.getElem?_eq_some_iff.1 b2).1
        obtain ⟨J, hJ⟩ : ∃ J, J = c.more - k := ⟨_, rfl⟩
        obtain ⟨O, hO⟩ : ∃ O, O = c.out ++ x :: List.replicate k (UInt8.ofNat (255 + H / 256)) := ⟨_, rfl⟩
        have hOl : O.length = c.out.length + 1 + k := by rw [hO]; simp; omega
        simp only [← hJ, ← hO] at b2 own2 HK
        rw [← hJ] at c3
        have HB2 := Lib.hid b2
        have HO := Lib.hid own2
        have HOV := Lib.hid hov
        have HJ := Lib.hid hJ
        have HOE := Lib.hid hO
        have HMO := Lib.hid (show moreOf wr cp = J from by unfold moreOf; rw [c3]; simp [intOf])
        clear b2 own2 hov hJ hO
        by_cases hlk : k < c.more
        · have hJI : (0 : Int) < (J : Int) := by have := HJ.out; omega
          have hOl2 : O.length ≤ 1000000000 := by omega
          have HLJ := Lib.hid (show O.length + J < 2000000000 from by have := HJ.out; omega)
          go_wp2_with (at_builtin; refine wpList_append_sl sty_u8 rfl _ _ (by rfl) base _ _ _ (by rfl) (own_frS HO.out ((Fr.refl [] wr).alloc _) (by simp)) _ [_] (by rfl) (sl_one wr 5 _) (by intro u hu; simp at hu; subst hu; rfl) (by simp; omega) (by simp; omega) (by have := HK.out.1.size; simp; omega) ?_; intro v4 w4 own4 g4; obtain ⟨kb, k4, kz, kl⟩ := CdAt.pushed HK.out.1 HB2.out HOV.out ((Fr.refl [] wr).alloc _) g4; obtain ⟨vao, vcap, rfl, -⟩ := own_outS own4; have k3 : w4.cell? ⟨cp, 3, none⟩ = some (.int .i64 (J : Int)) := by simp [Go.Joins.cell_of_block kb])
          have P := CdAt.push HK.out.1 (x := UInt8.ofNat (255 + H / 256)) (by simp) HB2.out HO.out ((Fr.refl [] wr).alloc _) g4 own4 HLJ.out HK.out.2 hcp hb
          simp only [List.length_cons, List.length_nil, hOl, Nat.zero_add] at P
          have hw : wrap64 ((J : Int) - 1) = ((J - 1 : Nat) : Int) := by rw [IntWalk.wrap64_in _ (by have := HLJ.out; omega)]; omega
          rw [hw]
          have P2 := P.1.set (j := 3) (u := .int .i64 ((J - 1 : Nat) : Int)) (c' := ⟨L, c.rng, c.waits, J - 1, O ++ [UInt8.ofNat (255 + H / 256)]⟩) (fun _ => rfl) rfl (by show L < _; omega) hrw.1 hrw.2 (by have := HLJ.out; show (O ++ [_]).length + (J - 1) ≤ _; simp; omega)
          go_roundw
          case rel =>
            refine ⟨k + 1, hlk, Lib.hid ⟨?_, P.2.setCell hcp _⟩⟩
            have e1 : c.more - (k + 1) = J - 1 := by have := HJ.out; omega
            have e2 : c.out ++ x :: List.replicate (k + 1) (UInt8.ofNat (255 + H / 256)) = O ++ [UInt8.ofNat (255 + H / 256)] := by rw [HOE.out, List.append_assoc, List.cons_append, ← List.replicate_succ']
            rw [e1, e2]
            exact P2
          case measure =>
            have : moreOf ((w4.setCell ⟨cp, 4, none⟩ (.slice vao (c.out.length + 1 + k + 1) vcap)).setCell ⟨cp, 3, none⟩ (.int .i64 ((J - 1 : Nat) : Int))) cp = J - 1 := by
              obtain ⟨v', hb', -⟩ := P2.ok
              unfold moreOf
              rw [show World.cell? _ ⟨cp, 3, none⟩ = some (.int .i64 ((J - 1 : Nat) : Int)) from by simp [Go.Joins.cell_of_block hb']]
              simp [intOf]
            rw [this, HMO.out]
            omega
        · obtain rfl : k = c.more := by omega
          have hJ0 : J = 0 := by have := HJ.out; omega
          subst hJ0
          go_wp2_with fail
          go_end0
          rw [HG.out]
          refine ⟨rfl, ?_, HK.out.2.setCell hcp _⟩
          have P2 := HK.out.1.set (j := 2) (u := .int .u8 ((H : Int) % 256)) (c' := ⟨L, c.rng, H % 256, 0, O⟩) (fun _ => rfl) rfl (by show L < _; omega) hrw.1 (by show H % 256 < 256; omega) (by show O.length + 0 ≤ _; omega)
          rw [HOE.out, HX.out] at P2
          exact P2
theorem Cd.give_len (c : Cd) : c.give.out.length + c.give.more = c.out.length + c.more + 1 := by
  unfold Cd.give
  split
  · show c.out.length + (c.more + 1) = _; omega
  · show (c.out ++ _ :: List.replicate _ _).length + 0 = _; simp; omega
def gives : Nat → Cd → Cd
  | 0, c => c
  | n + 1, c => (gives n c).give
theorem gives_len (c : Cd) : ∀ n, (gives n c).out.length + (gives n c).more = c.out.length + c.more + n
  | 0 => rfl
  | n + 1 => by
    show (gives n c).give.out.length + (gives n c).give.more = _
    rw [Cd.give_len, gives_len c n]
    omega
/-- The bytes behind an end. -/
def Cd.finish (c : Cd) : List UInt8 := (gives 5 c).out
def FinR (base : Nat) (c : Cd) (S : List Nat) (a0 : World) (e : Ending) (w' : World) : Prop := ∃ v, e = .returned v ∧ w'.ownsRow base 5 1 v c.finish.length (bv c.finish) ∧ Fr S a0 w'
set_option maxRecDepth 100000 in
set_option maxHeartbeats 2000000 in
theorem finish_any (h : CdAt w cp base c) (hl : c.out.length + c.more ≤ 999999000) {a0 : World} {S : List Nat} (F0 : Fr S a0 w) (hcp : cp ∈ S ∨ a0.heap.size ≤ cp) (hb : a0.heap.size ≤ base) :
    Calls Tryz.prog 35 #[.pointer (some ⟨cp, 0, none⟩)] w (FinR base c S a0) := by
  have HH := Lib.hid (And.intro h F0)
  clear h F0
  go_enter Tryz.func35, Tryz.ntmps35
  go_wp2_with fail
  go_loopw [4] (fun a wr => ∃ k : Nat, k ≤ 5 ∧ a = .int .i64 k ∧ Hid (CdAt wr cp base (gives k c) ∧ Fr S a0 wr)) (fun a _ => 5 - (intOf a).toNat)
  case atStart => exact ⟨0, by omega, rfl, HH⟩
  case round =>
    obtain ⟨k, hk, rfl, HK⟩ := hrel
    rename World => wA
    by_cases hlt : k < 5
    · have hI : (k : Int) < 5 := by omega
      have HG := Lib.hid (give_any HK.out.1 (by rw [gives_len]; omega) HK.out.2 hcp hb)
      go_wp2_with (go_at_call 58; refine HG.out.mono ?_; rintro e w3 ⟨rfl, H3, F3⟩)
      go_roundw
      case rel => exact ⟨k + 1, hlt, rfl, Lib.hid ⟨H3, F3⟩⟩
      case measure => simp [intOf]; omega
    · obtain rfl : k = 5 := by omega
      obtain ⟨v, b2, own2⟩ := HK.out.1.ok
      obtain ⟨vao, vcap, rfl, -⟩ := own_outS own2
      have c4 : wA.cell? ⟨cp, 4, none⟩ = some (.slice vao (gives 5 c).out.length vcap) := by simp [Go.Joins.cell_of_block b2]
      have hlt := (Array.getElem?_eq_some_iff.1 b2).1
      go_wp2_with (go_at_call 33; refine (newcoder_any wA).mono ?_; rintro e w3 ⟨rfl, -, F3, d⟩; have d0 : w3.cell? ⟨wA.heap.size, 0, none⟩ = some (.int .u64 0) := (by simp [Go.Joins.cell_of_block d]); have d1 : w3.cell? ⟨wA.heap.size, 1, none⟩ = some (.int .u32 4294967295) := (by simp [Go.Joins.cell_of_block d]); have d2 : w3.cell? ⟨wA.heap.size, 2, none⟩ = some (.int .u8 0) := (by simp [Go.Joins.cell_of_block d]); have d3 : w3.cell? ⟨wA.heap.size, 3, none⟩ = some (.int .i64 0) := (by simp [Go.Joins.cell_of_block d]); have d4 : w3.cell? ⟨wA.heap.size, 4, none⟩ = some (.slice none 0 0) := (by simp [Go.Joins.cell_of_block d]); have b3 := (F3.block cp hlt (by simp)).trans b2; have k0 : w3.cell? ⟨cp, 0, none⟩ = some (.int .u64 (gives 5 c).low) := (by simp [Go.Joins.cell_of_block b3]); have k1 : w3.cell? ⟨cp, 1, none⟩ = some (.int .u32 (gives 5 c).rng) := (by simp [Go.Joins.cell_of_block b3]); have k2 : w3.cell? ⟨cp, 2, none⟩ = some (.int .u8 (gives 5 c).waits) := (by simp [Go.Joins.cell_of_block b3]); have k3 : w3.cell? ⟨cp, 3, none⟩ = some (.int .i64 (gives 5 c).more) := (by simp [Go.Joins.cell_of_block b3]); have k4 : w3.cell? ⟨cp, 4, none⟩ = some (.slice vao (gives 5 c).out.length vcap) := (by simp [Go.Joins.cell_of_block b3]); have kz : ∀ j, w3.frozen? ⟨cp, j, none⟩ = false := fun j => Go.Joins.unfrozen_of_block b3 j; have kl := (Array.getElem?_eq_some_iff.1 b3).1)
      go_ret
      have FS : ∀ (S' : List Nat) (x : World), Fr S' x w3 → (cp ∈ S' ∨ x.heap.size ≤ cp) → Fr S' x (((((w3.setCell ⟨cp, 0, none⟩ (.int .u64 0)).setCell ⟨cp, 1, none⟩ (.int .u32 4294967295)).setCell ⟨cp, 2, none⟩ (.int .u8 0)).setCell ⟨cp, 3, none⟩ (.int .i64 0)).setCell ⟨cp, 4, none⟩ (.slice none 0 0)) := fun S' x F hc =>
        ((((F.setCell (p := ⟨cp, 0, none⟩) hc _).setCell (p := ⟨cp, 1, none⟩) hc _).setCell (p := ⟨cp, 2, none⟩) hc _).setCell (p := ⟨cp, 3, none⟩) hc _).setCell (p := ⟨cp, 4, none⟩) hc _
      refine ⟨_, rfl, own_frS own2 (FS [cp] wA ((Fr.refl [cp] wA).trans0 F3) (.inl (by simp))) (fun k hk => ?_), FS S a0 (HK.out.2.trans0 F3) hcp⟩
      have := (own_ltS own2 k hk).1
      have := HK.out.1.lt
      simp
      omega
end
end Go.Proofs.YtjfoccbbjhigbaaGreat
