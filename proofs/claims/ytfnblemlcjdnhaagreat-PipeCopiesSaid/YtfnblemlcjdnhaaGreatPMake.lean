/- Contracts: how long what is packed is; a stage that copies is made (layer 23). Nothing is spent. -/
import Derived.Test.YtfnblemlcjdnhaaGreatPFin
import Derived.Test.YtfnblemlcjdnhaaGreatGPair
import Derived.Test.YtfnblemlcjdnhaaGreatGBase
import Derived.Test.YtfnblemlcjdnhaaGreatGConcat
namespace Go.Proofs.YtfnblemlcjdnhaaGreat
open Go.RowKit

/-- Rows of rows of bytes: one that holds one row. -/
def One1 (w : World) (v : Value) (bs : List UInt8) : Prop := ∃ b bv', v = .slice (some ⟨b, 0, none⟩) 1 1 ∧ b < w.heap.size ∧ w.cell? ⟨b, 0, none⟩ = some bv' ∧ Sl w bv' (bv bs)
theorem One1.fr {w w' : World} {v : Value} {bs : List UInt8} (h : One1 w v bs) (F : Fr [] w w') : One1 w' v bs := by
  obtain ⟨b, x, e, h1, h2, h3⟩ := h
  exact ⟨b, x, e, Nat.lt_of_lt_of_le h1 F.size, (F.cell (p := ⟨b, 0, none⟩) h1 (by simp)).trans h2, h3.fr0 F⟩
theorem u64_of (n : Nat) (h : n ≤ 1000000000) : IntKind.u64.wrap (n : Int) = n := IntWalk.u64_in _ ⟨by omega, by omega⟩
set_option maxRecDepth 100000 in
theorem lengths_one (w : World) (v : Value) (bs : List UInt8) (h : One1 w v bs) (hb : bs.length ≤ 1000000) :
    Calls Tryz.prog 17 #[v] w fun e w' => ∃ r, e = .returned r ∧ Sl w' r (u64v [UInt64.ofNat bs.length]) ∧ Fr [] w w' := by
  obtain ⟨b, bv', rfl, hlt, c0, hs⟩ := h
  obtain ⟨ao, cap, rfl, -, -, -⟩ := hs.out
  rw [bv_length] at *
  have hu := u64_of bs.length (by omega)
  have hn : (UInt64.ofNat bs.length).toNat = bs.length := by simp; omega
  have HN := Lib.hid hn
  clear hs hn
  have H0 := Lib.hid (World.ownsRow_nil w w.heap.size 39 1)
  go_enter Tryz.func17, Tryz.ntmps17
  go_wp2_with fail
  go_loopw [3, 8] (fun o i wr => ∃ k : Nat, k ≤ 1 ∧ i = .int .i64 k ∧ wr.ownsRow w.heap.size 39 1 o k (u64v (List.replicate k (UInt64.ofNat bs.length))) ∧ Fr [] w wr) (fun _ i _ => 1 - (intOf i).toNat)
  case atStart => exact ⟨0, by omega, rfl, H0.out, Fr.refl _ _⟩
  case round =>
    obtain ⟨k, hk, rfl, hO, F⟩ := hrel
    obtain ⟨oa, oc, rfl, -, -⟩ := own_outS hO
    by_cases h0 : k = 0
    · subst h0
      have d0 := (F.cell (p := ⟨b, 0, none⟩) hlt (by simp)).trans c0
      have hlt2 : b < wr.heap.size := Nat.lt_of_lt_of_le hlt F.size
      have HO := Lib.hid (own_frS hO ((Fr.refl [] wr).alloc (.cells #[.int .u64 (bs.length : Int)] 39)) (by simp))
      have HSL := Lib.hid (sl_one wr 39 (.int .u64 (bs.length : Int)))
      have HF := Lib.hid F
      have HLT := Lib.hid (own_ltS hO)
      clear hO F
      go_wp2_with (at_builtin; refine wpList_append_sl sty_u64 rfl _ _ (by rfl) w.heap.size _ _ _ (by rfl) HO.out _ [.int .u64 (bs.length : Int)] (by rfl) HSL.out (by intro u hu; simp at hu; subst hu; rfl) (by simp) (by simp) (by rw [World.size_alloc]; exact Nat.le_succ_of_le HF.out.size) ?_)
      intro sv2 w10 ownS2 g10
      obtain ⟨sao2, scap2, rfl, -⟩ := own_outS ownS2
      have F10 := Lib.hid ((HF.out.alloc _).grown g10 (fun k hk => .inr (HLT.out k hk).1))
      have HR := Lib.hid (show w10.ownsRow w.heap.size 39 1 (.slice sao2 (0 + [Value.int .u64 (bs.length : Int)].length) scap2) 1 (u64v (List.replicate 1 (UInt64.ofNat bs.length))) by
        have e : u64v (List.replicate 1 (UInt64.ofNat bs.length)) = u64v (List.replicate 0 (UInt64.ofNat bs.length)) ++ [Value.int .u64 (bs.length : Int)] := by simp [u64v, HN.out]
        rw [e]; exact ownS2)
      clear ownS2 g10 d0
      go_wp2_with fail
      go_roundw
      case rel => exact ⟨1, by omega, by rfl, HR.out, F10.out⟩
      case measure => simp [intOf]
    · obtain rfl : k = 1 := by omega
      have HR := Lib.hid (Sl.of_own hO)
      have HF := Lib.hid F
      clear hO F
      go_wp2_with fail
      go_ret
      exact ⟨_, rfl, HR.out, HF.out⟩
/-- The end of a stage is asked through a box of its own. -/
theorem dry_new (w : World) (t : TypeId) (v : Value) : Calls Tryz.prog 61 #[.iface t v] w fun e w' => e = .returned (.func (.func 84) #[] #[.pointer (some ⟨w.heap.size, 0, none⟩)]) ∧ w' = w.alloc (.cells #[.iface t v] 86) := by
  go_enter Tryz.func61, Tryz.ntmps61
  go_wp2_with fail
  go_ret
  exact ⟨rfl, rfl⟩
set_option maxRecDepth 100000 in
theorem simple_any (w : World) (v : Value) (mp : Nat) (o f d s : Int) (M : MtN w mp 0 o f d s 0) :
    Calls Tryz.prog 40 #[plainV v, .int .i64 0, .pointer (some ⟨mp, 0, none⟩)] w fun e w' => ∃ g bx tk, e = .returned (.tuple #[.pointer (some ⟨g, 0, none⟩), .int .i64 0]) ∧
      w'.heap[g]? = some (.cells #[plainV v, .pointer none, .int .u64 0, .bool false, .func (.func 84) #[] #[.pointer (some ⟨bx, 0, none⟩)], .func (.func 62) #[.pointer (some ⟨tk, 0, none⟩)] #[]] 88) ∧
      w'.heap[bx]? = some (.cells #[plainV v] 86) ∧ w'.heap[tk]? = some (.cells #[.pointer (some ⟨mp, 0, none⟩), .int .i64 0] 147) ∧
      w.heap.size ≤ tk ∧ tk < bx ∧ bx < g ∧ MtN w' mp 0 o f d s 0 ∧ Fr [mp] w w' := by
  have HM := Lib.hid (mem_m M 0 (by omega) (by omega) (by omega))
  unfold plainV
  clear M
  go_enter Tryz.func40, Tryz.ntmps40
  go_wp2_with (first
    | (go_at_call 61; refine (dry_new _ _ _).mono ?_; rintro e w2 ⟨rfl, rfl⟩)
    | (go_at_call 60; refine HM.out.mono ?_; rintro e w1 ⟨rfl, M1, F1⟩))
  go_ret2
  have h0 := heap_alloc_new w1 (.cells #[.pointer (some ⟨mp, 0, none⟩), .int .i64 0] 147)
  obtain ⟨wa, hwa⟩ : ∃ wa, wa = w1.alloc (.cells #[.pointer (some ⟨mp, 0, none⟩), .int .i64 0] 147) := ⟨_, rfl⟩
  rw [← hwa] at h0 ⊢
  have sa : wa.heap.size = w1.heap.size + 1 := by rw [hwa]; simp
  have h1 := heap_alloc_new wa (.cells #[.iface 122 (.agg #[v])] 86)
  obtain ⟨wb, hwb⟩ : ∃ wb, wb = wa.alloc (.cells #[.iface 122 (.agg #[v])] 86) := ⟨_, rfl⟩
  rw [← hwb] at h1 ⊢
  have sb : wb.heap.size = wa.heap.size + 1 := by rw [hwb]; simp
  have Fa : Fr [] w1 wa := hwa ▸ (Fr.refl _ _).alloc _
  have Fb : Fr [] wa wb := hwb ▸ (Fr.refl _ _).alloc _
  have hz := F1.size
  refine ⟨wb.heap.size, wa.heap.size, w1.heap.size, by rw [sb, sa]; rfl, ?_, ?_, ?_, by omega, by omega, by omega, ?_, ?_⟩
  · rw [← sa]; exact heap_alloc_new wb _
  · exact (((Fr.refl [] _).alloc _).block _ (by omega) (by simp)).trans h1
  · exact (((Fb.alloc _)).block _ (by omega) (by simp)).trans h0
  · have := M1.fr ((Fa.trans0 Fb).alloc (.cells #[.iface 122 (.agg #[v]), .pointer none, .int .u64 0, .bool false, .func (.func 84) #[] #[.pointer (some ⟨wa.heap.size, 0, none⟩)], .func (.func 62) #[.pointer (some ⟨w1.heap.size, 0, none⟩)] #[]] 88)) (by simp)
    rw [← sa]
    simpa using this
  · exact (F1.trans0 (Fa.trans0 Fb)).alloc _
/-- A new stage that copies, not yet told its meter and its size. -/
def NewStg (w : World) (mp : Nat) (v : Value) (o f d s : Int) (e : Ending) (w' : World) : Prop := ∃ g bx tk, e = .returned (.tuple #[.pointer (some ⟨g, 0, none⟩), .int .i64 0]) ∧
      w'.heap[g]? = some (.cells #[plainV v, .pointer none, .int .u64 0, .bool false, .func (.func 84) #[] #[.pointer (some ⟨bx, 0, none⟩)], .func (.func 62) #[.pointer (some ⟨tk, 0, none⟩)] #[]] 88) ∧
      w'.heap[bx]? = some (.cells #[plainV v] 86) ∧ w'.heap[tk]? = some (.cells #[.pointer (some ⟨mp, 0, none⟩), .int .i64 0] 147) ∧
      w.heap.size ≤ tk ∧ tk < bx ∧ bx < g ∧ MtN w' mp 0 o f d s 0 ∧ Fr [mp] w w'
set_option maxRecDepth 100000 in
theorem make1_any (w : World) (pv : Value) (sz : Int) (ib ic : Nat) (t : TypeId) (v : Value) (mp : Nat) (o f d s : Int) (M : MtN w mp 0 o f d s 0) (hc : w.cell? ⟨ib, 0, none⟩ = some (.iface t v)) :
    Calls Tryz.prog 23 #[.agg #[.int .i64 1, pv], .int .u64 sz, .slice (some ⟨ib, 0, none⟩) 1 ic, .pointer (some ⟨mp, 0, none⟩)] w (NewStg w mp (.iface t v) o f d s) := by
  have hlt := World.block_lt_of_cell? _ _ hc
  have HS : Hid (∀ wx, Fr [] w wx → Calls Tryz.prog 40 #[plainV (.iface t v), .int .i64 0, .pointer (some ⟨mp, 0, none⟩)] wx (NewStg w mp (.iface t v) o f d s)) := Lib.hid (by
    intro wx F
    refine (simple_any wx (.iface t v) mp o f d s (M.fr F (by simp))).mono ?_
    rintro e w' ⟨g, bx, tk, h1, h2, h3, h4, h5, h6, h7, h8, h9⟩
    exact ⟨g, bx, tk, h1, h2, h3, h4, Nat.le_trans F.size h5, h6, h7, h8, (F.mono (by simp)).trans h9 (fun i hi => .inl hi)⟩)
  have HF : Hid (Fr [] w (w.alloc (.cells #[.int .i64 1, pv] 56))) := Lib.hid ((Fr.refl _ _).alloc _)
  clear M
  unfold plainV at HS
  go_enter Tryz.func23, Tryz.ntmps23
  go_wp2_with (go_at_call 40; refine (HS.out _ HF.out).mono ?_; rintro e w2 ⟨g, bx, tk, rfl, h⟩; have HH := Lib.hid h; clear h)
  go_ret2
  exact ⟨g, bx, tk, rfl, HH.out⟩
end Go.Proofs.YtfnblemlcjdnhaaGreat
