/- Contract: a pipe of copies is closed by a deferred call (layer 23). No condition but that nothing is spent. -/
import Derived.Test.YtfnblemlcjdnhaaGreatPClos
namespace Go.Proofs.YtfnblemlcjdnhaaGreat
open Go.RowKit

set_option maxRecDepth 100000 in
set_option maxHeartbeats 4000000 in
theorem pclose_d {pp rp n rc g mp fp left : Nat} {l : List (Nat × Nat × Nat)} {ov : Bool} (w : World) (a o f d s kk : Int) (hP : PipeAt w pp rp n rc g mp ov) (hC : Chn w mp fp left l) (hn : n = l.length) (hn2 : n ≤ 1000) (M : MtN w mp a o f d s kk) (hm : mp ∉ blks l) (ha : 0 ≤ a) (ha2 : a ≤ 1099511627776)
    (hst : ∀ i x, l.reverse[i]? = some x → w.cell? ⟨rp, i, none⟩ = some (.pointer (some ⟨x.1, 0, none⟩))) (hrp : rp ≠ mp ∧ rp ∉ blks l) (hpp : pp ≠ mp ∧ pp ∉ blks l) (u : FrameMode) :
    CallsD Tryz.prog 12 #[.pointer (some ⟨pp, 0, none⟩)] u w fun e u' w' => u' = u ∧ (e = .returned (.tuple #[]) ∧ MtN w' mp a o f d s kk ∧ Fr (pp :: mp :: blks l) w w') := by
  obtain ⟨c0, c1, c2, c3, cf⟩ := pcells4 hP.blk
  have H0 : Hid (CI w mp l a o f d s kk w) := Lib.hid ⟨fun _ _ => rfl, M, Fr.refl _ _⟩
  have HB : Hid (∀ (j : Nat) (wx : World), j < n → Hid (CI w mp l a o f d s kk wx) → ∃ g1 tk1, wx.cell? ⟨rp, j, none⟩ = some (.pointer (some ⟨g1, 0, none⟩)) ∧ wx.cell? ⟨g1, 5, none⟩ = some (.func (.func 62) #[.pointer (some ⟨tk1, 0, none⟩)] #[]) ∧
      Hid (Calls Tryz.prog 62 #[.pointer (some ⟨tk1, 0, none⟩)] wx fun e w' => e = .returned (.tuple #[]) ∧ Hid (CI w mp l a o f d s kk w'))) := Lib.hid (by
    intro j wx hj hI
    obtain ⟨i1, i2, i3⟩ := hI.out
    obtain ⟨x, hx⟩ : ∃ x, l.reverse[j]? = some x := ⟨_, List.getElem?_eq_getElem (by rw [List.length_reverse]; omega)⟩
    have hxm : x ∈ l := List.mem_reverse.1 (List.mem_of_getElem? hx)
    obtain ⟨v, S⟩ := hC.mem hxm
    obtain ⟨b1, b2, b3⟩ := mem_blks hxm
    have hcell := hst j x hx
    have hb5 := (i1 _ b1).trans S.blk
    obtain ⟨-, -, -, -, -, d5, -⟩ := cells6 hb5
    refine ⟨x.1, x.2.2, ?_, d5, ?_⟩
    · exact (i3.cell (p := ⟨rp, j, none⟩) (World.block_lt_of_cell? _ _ hcell) (by simp only [List.mem_cons, not_or]; exact hrp)).trans hcell
    · refine Lib.hid ((give_any ((i1 _ b3).trans S.tak) i2 ha ha2 (fun e => hm (by rw [e]; exact b3))).mono ?_)
      rintro e w' ⟨rfl, h1, h2, h3⟩
      refine ⟨rfl, Lib.hid ⟨fun i hi => ?_, h2, i3.trans h3 (fun i hi => .inl ?_)⟩⟩
      · by_cases e : i = x.2.2
        · rw [e, h1, S.tak]
        · have hlt : i < wx.heap.size := by
            obtain ⟨y, hy, hi2⟩ := List.mem_flatMap.1 hi
            obtain ⟨v2, S2⟩ := hC.mem hy
            have := i3.size
            have := S2.lt
            simp only [List.mem_cons, List.not_mem_nil, or_false] at hi2
            omega
          exact (h3.block i hlt (by simp only [List.mem_cons, List.not_mem_nil, or_false, not_or]; exact ⟨fun e2 => hm (e2 ▸ hi), e⟩)).trans (i1 i hi)
      · simp only [List.mem_cons, List.not_mem_nil, or_false] at hi
        rcases hi with rfl | rfl
        · exact List.mem_cons_self ..
        · exact List.mem_cons_of_mem _ b3)
  have HQ : Hid (∀ wx u1 u2, Hid (CI w mp l a o f d s kk wx) → MtN ((wx.setCell ⟨pp, 0, none⟩ u1).setCell ⟨pp, 3, none⟩ u2) mp a o f d s kk ∧ Fr (pp :: mp :: blks l) w ((wx.setCell ⟨pp, 0, none⟩ u1).setCell ⟨pp, 3, none⟩ u2)) := Lib.hid (by
    intro wx u1 u2 hI
    obtain ⟨i1, i2, i3⟩ := hI.out
    have F3 : Fr [pp] wx ((wx.setCell ⟨pp, 0, none⟩ u1).setCell ⟨pp, 3, none⟩ u2) := ((Fr.refl _ _).setCell (.inl (by simp)) _).setCell (.inl (by simp)) _
    exact ⟨i2.fr F3 (by simpa using Ne.symm hpp.1), (i3.mono (fun i hi => List.mem_cons_of_mem _ hi)).trans F3 (fun i hi => .inl (by rw [List.mem_singleton] at hi; subst hi; simp))⟩)
  have HZ : Hid (∀ wx, Hid (CI w mp l a o f d s kk wx) → wx.cell? ⟨pp, 0, none⟩ = some (.slice (some ⟨rp, 0, none⟩) n rc) ∧ wx.cell? ⟨pp, 3, none⟩ = some (.bool ov) ∧ ∀ j, wx.frozen? ⟨pp, j, none⟩ = false) := Lib.hid (fun wx hI => by
    have h := (hP.fr hI.out.2.2 (by simp only [List.mem_cons, not_or]; exact hpp)).blk
    obtain ⟨d0, -, -, d3, df⟩ := pcells4 h
    exact ⟨d0, d3, df⟩)
  clear M hC hP hst hn hm
  go_enter_d Tryz.func12, Tryz.ntmps12
  go_wp2_with fail
  go_loopw [9] (fun i wx => ∃ j : Nat, j ≤ n ∧ i = .int .i64 j ∧ Hid (CI w mp l a o f d s kk wx)) (fun i _ => n - (intOf i).toNat)
  case atStart => exact ⟨0, Nat.zero_le _, rfl, H0⟩
  case round =>
    obtain ⟨j, hj, rfl, hI⟩ := hrel
    obtain ⟨z0, z3, zf⟩ := HZ.out wr hI
    by_cases hlt : j < n
    · have hlt' : (j : Int) < (n : Int) := by omega
      obtain ⟨g1, tk1, d0, d5, HC⟩ := HB.out j wr hlt hI
      go_wp2_with (go_at_call 62; refine HC.out.mono ?_; rintro e w2 ⟨rfl, I2⟩)
      go_roundw
      case rel => exact ⟨j + 1, by omega, by go_num, I2⟩
      case measure => simp [intOf]; omega
    · have hge : (n : Int) ≤ (j : Int) := by omega
      go_wp2_with fail
      go_end0
      exact ⟨rfl, HQ.out _ _ _ hI⟩
end Go.Proofs.YtfnblemlcjdnhaaGreat
