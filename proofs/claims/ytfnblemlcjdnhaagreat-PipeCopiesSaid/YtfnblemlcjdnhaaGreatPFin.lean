/- Contracts: a pipe of copies is asked whether it ended well (layer 23). Begun: the plain lemmas of the chain. -/
import Derived.Test.YtfnblemlcjdnhaaGreatPClos
namespace Go.Proofs.YtfnblemlcjdnhaaGreat
open Go.RowKit

theorem Apt.drop {mp fp : Nat} {q : Option Nat} {r : List (Nat × Nat × Nat)} : ∀ {l1 : List (Nat × Nat × Nat)}, Apt mp fp q (l1 ++ r) → Apt mp fp q r
  | [], h => h
  | _ :: _, h => Apt.drop (Apt.tail h)
theorem Chn.drop {w : World} {mp fp left : Nat} {r : List (Nat × Nat × Nat)} : ∀ {l1 : List (Nat × Nat × Nat)}, Chn w mp fp left (l1 ++ r) → Chn w mp fp left r
  | [], h => h
  | _ :: _, h => Chn.drop h.2
theorem mem_map_blks {i : Nat} {r : List (Nat × Nat × Nat)} (h : i ∈ r.map (·.1)) : i ∈ blks r := by
  obtain ⟨y, hy, rfl⟩ := List.mem_map.1 h
  exact List.mem_flatMap.2 ⟨y, hy, by simp⟩
theorem blks_append (a b : List (Nat × Nat × Nat)) : blks (a ++ b) = blks a ++ blks b := by unfold blks; rw [List.flatMap_append]
/-- What the lower stages write leaves the stages above. -/
theorem Chn.back {w w' : World} {mp fp left : Nat} {q : Option Nat} {r : List (Nat × Nat × Nat)} (F : Fr (mp :: fp :: r.map (·.1)) w w') : ∀ {l1 : List (Nat × Nat × Nat)}, Chn w mp fp left (l1 ++ r) → Chn w' mp fp left r → Apt mp fp q (l1 ++ r) → Chn w' mp fp left (l1 ++ r)
  | [], _, h, _ => h
  | (g, bx, tk) :: l1, hC, h, hA => by
    have hnd := hA.1
    rw [List.cons_append, blks_cons, blks_append] at hnd
    simp only [List.cons_append, List.nil_append, List.nodup_cons, List.mem_cons, not_or, List.mem_append] at hnd
    obtain ⟨⟨_, nmg, nmb, nmt, _⟩, ⟨nfg, nfb, nft, _⟩, ⟨_, _, _, ngr⟩, ⟨_, _, nbr⟩, ⟨_, ntr⟩, _⟩ := hnd
    refine ⟨hC.1.fr F ?_ ?_ ?_, Chn.back F hC.2 h hA.tail⟩
    · simp only [List.mem_cons, not_or]; exact ⟨Ne.symm nmg, Ne.symm nfg, fun hm => ngr (mem_map_blks hm)⟩
    · simp only [List.mem_cons, not_or]; exact ⟨Ne.symm nmb, Ne.symm nfb, fun hm => nbr (mem_map_blks hm)⟩
    · simp only [List.mem_cons, not_or]; exact ⟨Ne.symm nmt, Ne.symm nft, fun hm => ntr (mem_map_blks hm)⟩
/-- While the pipe is asked how it ended. -/
def FI (w : World) (pp rp n rc g mp fp : Nat) (q : Option Nat) (bs : List UInt8) (l : List (Nat × Nat × Nat)) (a o f d s kk : Int) (wx : World) : Prop := PipeAt wx pp rp n rc g mp true ∧ Chn wx mp fp 0 l ∧ FeedAt wx fp q bs bs.length ∧ MtN wx mp a o f d s kk ∧ Fr (pp :: mp :: fp :: l.map (·.1)) w wx
set_option maxRecDepth 100000 in
set_option maxHeartbeats 4000000 in
theorem pfin_any {pp rp n rc g mp fp : Nat} {q : Option Nat} {bs : List UInt8} {l : List (Nat × Nat × Nat)} (hbl : bs.length ≤ 1000000000) (w : World) (a o f d s kk : Int) (hP : PipeAt w pp rp n rc g mp false) (hC : Chn w mp fp 0 l) (hF : FeedAt w fp q bs bs.length) (M : MtN w mp a o f d s kk) (hA : Apt mp fp q l) (hn : n = l.length) (hn2 : n ≤ 1000) (hs : 0 ≤ s) (hs2 : s ≤ 1000000)
    (hst : ∀ i x, l.reverse[i]? = some x → w.cell? ⟨rp, i, none⟩ = some (.pointer (some ⟨x.1, 0, none⟩))) (hrp : rp ≠ mp ∧ rp ≠ fp ∧ rp ∉ blks l) (hpp : pp ≠ mp ∧ pp ≠ fp ∧ pp ∉ blks l) (hpr : pp ≠ rp) (hqp : ∀ i, q = some i → i ≠ pp) :
    Calls Tryz.prog 14 #[.pointer (some ⟨pp, 0, none⟩)] w fun e w' => e = .returned (.int .i64 0) ∧ FI w pp rp n rc g mp fp q bs l a o f d s kk w' := by
  obtain ⟨c0, c1, c2, c3, cf⟩ := pcells4 hP.blk
  have H0 : Hid (FI w pp rp n rc g mp fp q bs l a o f d s kk (w.setCell ⟨pp, 3, none⟩ (.bool true))) := Lib.hid (by
    have F : Fr [pp] w (w.setCell ⟨pp, 3, none⟩ (.bool true)) := (Fr.refl _ _).setCell (.inl (by simp)) _
    exact ⟨⟨Go.Joins.block_setCell hP.blk _⟩, Chn.fr F hC (fun i hi hm => hpp.2.2 (by rw [List.mem_singleton] at hm; exact hm ▸ hi)), hF.fr F (by simpa using Ne.symm hpp.2.1) (fun i hi => by simpa using hqp i hi), M.fr F (by simpa using Ne.symm hpp.1), F.mono (by simp)⟩)
  have HB : Hid (∀ (j : Nat) (wx : World), j < n → Hid (FI w pp rp n rc g mp fp q bs l a o f d s kk wx) → ∃ g1, wx.cell? ⟨rp, j, none⟩ = some (.pointer (some ⟨g1, 0, none⟩)) ∧
      Hid (Calls Tryz.prog 28 #[.pointer (some ⟨g1, 0, none⟩)] wx fun e w' => e = .returned (.bool true) ∧ Hid (FI w pp rp n rc g mp fp q bs l a o f d s kk w'))) := Lib.hid (by
    intro j wx hj hI
    obtain ⟨i1, i2, i3, i4, i5⟩ := hI.out
    obtain ⟨x, hx⟩ : ∃ x, l.reverse[j]? = some x := ⟨_, List.getElem?_eq_getElem (by rw [List.length_reverse]; omega)⟩
    have hxm : x ∈ l := List.mem_reverse.1 (List.mem_of_getElem? hx)
    have hcell := hst j x hx
    obtain ⟨l1, r, rfl⟩ := List.append_of_mem hxm
    obtain ⟨g1, bx, tk⟩ := x
    have hAr : Apt mp fp q ((g1, bx, tk) :: r) := hA.drop
    refine ⟨g1, ?_, ?_⟩
    · refine (i5.cell (p := ⟨rp, j, none⟩) (World.block_lt_of_cell? _ _ hcell) ?_).trans hcell
      simp only [List.mem_cons, not_or]
      exact ⟨Ne.symm hpr, hrp.1, hrp.2.1, fun hm => hrp.2.2 (mem_map_blks hm)⟩
    · refine Lib.hid ((sfin_any hbl wx a o f d s kk i2.drop i3 i4 hAr hs (by have : (l1 ++ (g1, bx, tk) :: r).length = l1.length + (r.length + 1) := by rw [List.length_append, List.length_cons]
                                                                             omega)).mono ?_)
      rintro e w' ⟨rfl, h1, h2, h3, h4⟩
      have hl1 : l1 ++ (g1, bx, tk) :: r = (l1 ++ [(g1, bx, tk)]) ++ r := by simp
      refine ⟨rfl, Lib.hid ⟨i1.fr h4 ?_, ?_, h2, h3, i5.trans h4 (fun i hi => .inl ?_)⟩⟩
      · simp only [List.mem_cons, not_or]
        refine ⟨hpp.1, hpp.2.1, fun hm => hpp.2.2 (mem_map_blks ?_)⟩
        rw [List.map_append, List.map_cons]
        exact List.mem_append_right _ (List.mem_cons_of_mem _ hm)
      · rw [hl1] at i2 hA ⊢
        exact Chn.back h4 i2 h1 hA
      · simp only [List.mem_cons, List.map_append, List.map_cons, List.mem_append] at hi ⊢
        rcases hi with hi | hi | hi
        · exact .inr (.inl hi)
        · exact .inr (.inr (.inl hi))
        · exact .inr (.inr (.inr (.inr (.inr hi)))))
  have HZ : Hid (∀ wx, Hid (FI w pp rp n rc g mp fp q bs l a o f d s kk wx) → wx.cell? ⟨pp, 0, none⟩ = some (.slice (some ⟨rp, 0, none⟩) n rc) ∧ wx.cell? ⟨pp, 2, none⟩ = some (.pointer (some ⟨mp, 0, none⟩))) := Lib.hid (fun wx hI => by
    obtain ⟨d0, -, d2, -, -⟩ := pcells4 hI.out.1.blk
    exact ⟨d0, d2⟩)
  have HM := Lib.hid (fun (wx : World) (hI : Hid (FI w pp rp n rc g mp fp q bs l a o f d s kk wx)) => code_m hI.out.2.2.2.1)
  obtain ⟨w0, hw0⟩ : ∃ w0, w0 = w.setCell ⟨pp, 3, none⟩ (.bool true) := ⟨_, rfl⟩
  rw [← hw0] at H0
  obtain ⟨y0, y2⟩ := HZ.out w0 H0
  have HW := Lib.hid hw0.symm
  have hn3 : IntKind.i64.wrap ((n : Int) - 1) = (n : Int) - 1 := by rw [IntWalk.i64_in _ (by omega)]
  clear M hC hP hF hA hst hn hw0
  go_enter Tryz.func14, Tryz.ntmps14
  go_wp2_with fail
  rw [HW.out]
  go_loopw [3, 4] (fun dn i wx => ∃ j : Nat, j ≤ n ∧ dn = .bool true ∧ i = .int .i64 ((j : Int) - 1) ∧ Hid (FI w pp rp n rc g mp fp q bs l a o f d s kk wx)) (fun _ i _ => (intOf i + 1).toNat)
  case atStart => exact ⟨n, Nat.le_refl _, rfl, rfl, H0⟩
  case round =>
    obtain ⟨j, hj, rfl, rfl, hI⟩ := hrel
    obtain ⟨z0, z2⟩ := HZ.out wr hI
    have HK := Lib.hid (HM.out wr hI)
    by_cases hlt : j = 0
    · subst hlt
      go_wp2_with (go_at_call 26; refine HK.out.mono ?_; rintro e w2 ⟨rfl, rfl⟩)
      go_ret
      exact ⟨rfl, hI.out⟩
    · obtain ⟨i, rfl⟩ : ∃ i, j = i + 1 := ⟨j - 1, by omega⟩
      have hi0 : (((i + 1 : Nat) : Int) - 1) = (i : Int) := by omega
      rw [hi0]
      obtain ⟨g1, d0, HC⟩ := HB.out i wr (by omega) hI
      have hin : (i : Int) < (n : Int) := by omega
      have hwi : IntKind.i64.wrap ((i : Int) - 1) = (i : Int) - 1 := by rw [IntWalk.i64_in _ (by omega)]
      go_wp2_with (go_at_call 28; refine HC.out.mono ?_; rintro e w2 ⟨rfl, I2⟩)
      go_roundw
      case rel => exact ⟨i, by omega, rfl, rfl, I2⟩
      case measure => simp [intOf]
end Go.Proofs.YtfnblemlcjdnhaaGreat
