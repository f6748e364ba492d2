/- Contracts: names' Units of the text "a"; the reference's Same. No condition. -/
import Derived.Test.YtagoemebklihjaaDoorNClean
import Derived.Lib.OthersKept
namespace Go.Proofs.YtagoemebklihjaaDoor
open Go.RowKit

theorem info_u16 : (Tryd.prog.info? 42).map (fun i => (i.zero, i.size, i.bytes)) = some (some (.int .u16 0), 1, 2) := by kernel_rfl
theorem sty_u16 : SlTy Tryd.prog 35 42 (.int .u16 0) 2 := ⟨Tryd.underlying35, by obtain ⟨i, h⟩ := info_parts info_u16; exact ⟨i, h⟩, rfl⟩
def hv (l : List Nat) : List Value := l.map fun (k : Nat) => .int .u16 (k : Int)
theorem hv_len (l : List Nat) : (hv l).length = l.length := by simp [hv]
theorem hv_get {l : List Nat} {j x : Nat} (h : l[j]? = some x) : (hv l)[j]? = some (.int .u16 (x : Int)) := by simp [hv, h]

theorem Fr.iterAt {S : List Nat} {a w : World} (h : Fr S a w) {k : Nat} (hk : k ∈ S ∨ a.heap.size ≤ k) (s : ByteArray) (p : Nat) : Fr S a (w.iterAt k s p) := by
  refine ⟨h.os, h.tape, h.output, ?_, fun j hj hm => ?_⟩
  · have := h.size
    simp [World.iterAt]
    exact this
  · have hne : j ≠ k := fun e => by
      subst e
      rcases hk with hk | hk
      · exact hm hk
      · omega
    have : (w.iterAt k s p).heap[j]? = w.heap[j]? := by simp [World.iterAt, hne.symm]
    rw [this]
    exact h.block j hj hm

/-- What Units answers of "a". -/
def UnitA (w : World) (e : Ending) (w' : World) : Prop := ∃ v, e = .returned (.tuple #[v, .int .i64 0]) ∧ Sl w' v (hv [97]) ∧ Fr [] w w'

theorem units_a (w : World) (hG : Gl w) : Calls Tryd.prog 15 #[.string ⟨#[97]⟩] w (UnitA w) := by
  have HG := Lib.hid hG
  have HR := Lib.hid (show (runesL [97]).isSome = true by decide)
  go_enter Tryd.func15, Tryd.ntmps15
  go_wp2_with (go_at_call 20; refine (valid_any _ [97] HG.out (by decide)).mono ?_; rw [HR.out]; rintro e w1 ⟨rfl, F1⟩)
  obtain ⟨wI, hwI⟩ : ∃ wI, wI = w1.iter ⟨#[97]⟩ 0 := ⟨_, rfl⟩
  have FI : Fr [] w1 wI := hwI ▸ (Fr.refl _ _).alloc _
  have hI : wI.heap[w1.heap.size]? = some (.stringIter ⟨#[97]⟩ 0) := hwI ▸ heap_alloc_new w1 _
  have HSI := Lib.hid (show wI.heap.size = w1.heap.size + 1 by rw [hwI]; simp [World.iter])
  rw [← hwI]
  clear hwI
  go_loopw [4] (fun v wr => ∃ pos : Nat, pos ≤ 1 ∧ wr.heap[w1.heap.size]? = some (.stringIter ⟨#[97]⟩ pos) ∧ wr.ownsRow wI.heap.size 42 1 v pos (hv ([97].take pos)) ∧ Fr [w1.heap.size] wI wr) (fun _ wr => 1 - wr.iterPos w1.heap.size)
  case atStart => exact ⟨0, by omega, hI, World.ownsRow_nil _ _ _ _, Fr.refl _ _⟩
  case round =>
    obtain ⟨pos, hp, hit, own, F⟩ := hrel
    obtain ⟨vao, vcap, rfl, -⟩ := own_out own
    have hsI := HSI.out
    rcases (show pos = 0 ∨ pos = 1 by omega) with rfl | rfl
    · have hnx : ∀ ty, (Instr.next (.pointer (some ⟨w1.heap.size, 0, none⟩)) true ty).run Tryd.prog wr = _ := fun ty => Lib.run_next_ascii_at wr w1.heap.size ⟨#[97]⟩ 0 ty hit (by decide) (by decide)
      have hit2 := Lib.iterAt_heap wr w1.heap.size ⟨#[97]⟩ 0 1 hit
      have F2 : Fr [w1.heap.size] wI (wr.iterAt w1.heap.size ⟨#[97]⟩ 1) := F.iterAt (k := w1.heap.size) (.inl (by simp)) _ _
      have own2 := own_fr (S := [w1.heap.size]) own ((Fr.refl [w1.heap.size] wr).iterAt (k := w1.heap.size) (.inl (by simp)) ⟨#[97]⟩ 1) (fun k hk hm => by simp at hm; subst hm; have := (own.lt _ hk).1; omega)
      have hb0 : ((⟨#[97]⟩ : ByteArray)[0]'(by decide)).toNat = 97 := rfl
      clear hsI
      go_wp2_with (at_builtin; refine wpList_append_sl sty_u16 rfl _ _ (by rfl) wI.heap.size _ _ _ (by rfl) (own2.alloc _) _ [.int .u16 97] (by rfl) (sl_one _ _ _) (by intro u hu; simp at hu; subst hu; rfl) (by simp) (by simp) (by have := F2.size; simp; omega) ?_)
      intro v2 w4 own4 g4
      obtain ⟨vao2, vcap2, rfl, -⟩ := own_out own4
      have F4 : Fr [w1.heap.size] wI w4 := (F2.alloc _).grown g4 (fun t ht => .inr (own2.lt t ht).1)
      have hit4 : w4.heap[w1.heap.size]? = some (.stringIter ⟨#[97]⟩ 1) := by
        have hsI := HSI.out
        refine (g4.block w1.heap.size (by have := F2.size; simp; omega) (fun e => ?_)).trans ((((Fr.refl [] (wr.iterAt w1.heap.size ⟨#[97]⟩ 1)).alloc _).block w1.heap.size (by have := F2.size; omega) (by simp)).trans hit2)
        have := (own2.lt _ e.symm).1
        omega
      go_wp2_with fail
      go_roundw
      case rel => exact ⟨1, Nat.le_refl _, hit4, own4, F4⟩
      case measure => simp [World.iterPos, hit4, hit]
    · have hnx : ∀ ty, (Instr.next (.pointer (some ⟨w1.heap.size, 0, none⟩)) true ty).run Tryd.prog wr = _ := fun ty => Lib.run_next_end_at wr w1.heap.size ⟨#[97]⟩ 1 ty hit (by decide)
      have FT : Fr [] w wr := (F1.trans0 FI).trans1 F (.inr F1.size)
      have HSl := Lib.hid (Sl.of_own own)
      clear hsI own
      go_wp2_with fail
      go_ret2
      exact ⟨_, rfl, HSl.out, FT⟩

theorem same_any (w : World) (u v : Value) (a b : List Nat) (ha : Sl w u (hv a)) (hb : Sl w v (hv b)) (hal : a.length ≤ 1000000) :
    Calls Tryd.prog 19 #[u, v] w fun e w' => e = .returned (.bool (a == b)) ∧ Same w w' := by
  obtain ⟨ao, cap, rfl, -, -, oa⟩ := ha.out
  obtain ⟨bo, bcap, rfl, -, -, ob⟩ := hb.out
  simp only [hv_len] at *
  clear ha hb
  go_enter Tryd.func19, Tryd.ntmps19
  by_cases hl : a.length = b.length
  rotate_left
  · have t0 : ((a.length : Int) != (b.length : Int)) = true := by rw [bne_iff_ne]; omega
    have HF := Lib.hid (show (a == b) = false by rw [beq_eq_false_iff_ne]; rintro rfl; exact hl rfl)
    clear hl oa ob
    go_wp2
    go_ret
    exact ⟨by rw [HF.out]; rfl, Same.refl w⟩
  have t0 : ((a.length : Int) != (b.length : Int)) = false := by rw [hl]; simp
  have HL := Lib.hid hl
  clear hl
  go_wp2
  go_loopw [5] (fun i wr => ∃ k : Nat, k ≤ a.length ∧ i = .int .i64 k ∧ a.take k = b.take k ∧ Same w wr) (fun i _ => a.length - (intOf i).toNat)
  case atStart => exact ⟨0, Nat.zero_le _, rfl, by simp, Same.refl w⟩
  case round =>
    obtain ⟨k, hk, rfl, htk, hsw⟩ := hrel
    by_cases hlt : k < a.length
    · have hltb : k < b.length := by rw [← HL.out]; exact hlt
      obtain ⟨b1, f1, rfl, -, c1⟩ := oa k hlt
      obtain ⟨b2, f2, rfl, -, c2⟩ := ob k hltb
      obtain ⟨p, hp⟩ := some_get a k hlt
      obtain ⟨q, hq⟩ := some_get b k hltb
      have e1 : wr.cell? ⟨b1, f1 + k, none⟩ = some (.int .u16 (p : Int)) := by rw [hsw.cell, c1 k hlt, hv_get hp]
      have e2 : wr.cell? ⟨b2, f2 + k, none⟩ = some (.int .u16 (q : Int)) := by rw [hsw.cell, c2 k hltb, hv_get hq]
      have hltI : (k : Int) < (a.length : Int) := by omega
      have hltbI : (k : Int) < (b.length : Int) := by omega
      have HTK := Lib.hid htk
      have HP := Lib.hid hp
      have HQ := Lib.hid hq
      clear oa ob c1 c2 hp hq htk
      by_cases hpq : p = q
      · subst hpq
        have HT := Lib.hid (show a.take (k + 1) = b.take (k + 1) by rw [List.take_add_one, List.take_add_one, HTK.out, HP.out, HQ.out])
        have q0 : ((p : Int) != (p : Int)) = false := by simp
        go_wp2
        go_quiet (fail)
        go_wp2
        go_roundw
        case rel => exact ⟨k + 1, by omega, by go_num, HT.out, hsw.trans (Same.drewN _)⟩
        case measure => simp [intOf]; omega
      · have HF := Lib.hid (show (a == b) = false by
          rw [beq_eq_false_iff_ne]
          rintro rfl
          exact hpq (Option.some.inj (HP.out.symm.trans HQ.out)))
        have q0 : ((p : Int) != (q : Int)) = true := by rw [bne_iff_ne]; omega
        clear hpq
        go_wp2
        go_quiet (fail)
        go_wp2
        go_ret
        exact ⟨by rw [HF.out]; rfl, hsw.trans (Same.drewN _)⟩
    · have hke : k = a.length := by omega
      subst hke
      have HF := Lib.hid (show (a == b) = true by
        rw [beq_iff_eq]
        rw [List.take_length] at htk
        rw [htk, HL.out, List.take_length])
      clear oa ob htk
      go_wp2
      go_ret
      exact ⟨by rw [HF.out]; rfl, hsw⟩
end Go.Proofs.YtagoemebklihjaaDoor
