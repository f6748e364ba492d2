/- The model in memory: a cell is turned (layer 17). No condition. -/
import Derived.Test.YtjfoccbbjhigbaaGreatMAcc
import Derived.Test.YtjfoccbbjhigbaaGreatMRows
namespace Go.Proofs.YtjfoccbbjhigbaaGreat
open Go.RowKit

theorem moF_upd {m m' : Mo} {ab mp j : Nat} {v : Value} (hj : j < 12) (h1 : moH m' ab mp j = v) (h2 : ∀ k, k < 12 → k ≠ j → moH m' ab mp k = moH m ab mp k) (hb : m'.bn = m.bn) (hes : m'.es = m.es) (heh : m'.eh = m.eh) (hec : m'.ec = m.ec) (hr : m'.restarts = m.restarts) : ∀ k, k < 9921 → upd (moF m ab mp) j v k = moF m' ab mp k := by
  intro k _
  by_cases e : k = j
  · rw [e, upd_same, moF_low m' ab mp hj, h1]
  · rw [upd_other _ _ _ e]
    by_cases hk : k < 12
    · rw [moF_low m ab mp hk, moF_low m' ab mp hk, h2 k hk e]
    · unfold moF
      rw [if_neg hk, if_neg hk, hb, hr]
      unfold esF
      rw [hes, heh, hec]
theorem moF_bn (m : Mo) (ab mp q x : Nat) (hq : q < 8192) : ∀ k, k < 9921 → upd (moF m ab mp) (12 + q) (.int .u16 x) k = moF { m with bn := upd2 m.bn q x } ab mp k := by
  intro k _
  by_cases e : k = 12 + q
  · rw [e, upd_same, moF_bin _ _ _ hq]
    show _ = Value.int .u16 ((upd2 m.bn q x q : Nat) : Int)
    unfold upd2
    rw [if_pos rfl]
  · rw [upd_other _ _ _ e]
    by_cases h1 : 12 ≤ k ∧ k < 8204
    · obtain ⟨r, rfl⟩ : ∃ r, k = 12 + r := ⟨k - 12, by omega⟩
      have hr : r < 8192 := by omega
      have hne : r ≠ q := by omega
      rw [moF_bin _ _ _ hr, moF_bin _ _ _ hr]
      show _ = Value.int .u16 ((upd2 m.bn q x r : Nat) : Int)
      unfold upd2
      rw [if_neg hne]
    · unfold moF
      by_cases h2 : k < 12
      · rw [if_pos h2, if_pos h2]
        rfl
      · have h3 : ¬ k < 8204 := by omega
        rw [if_neg h2, if_neg h2, if_neg h3, if_neg h3]
        rfl
theorem moF_es {m m' : Mo} {ab mp k : Nat} (hk : k < 9921) (ho : ∀ r, r < 1203 → k = 8204 + r → esF m r = esF m' r) (hh : ∀ j, moH m' ab mp j = moH m ab mp j) (hb : m'.bn = m.bn) (hr : m'.restarts = m.restarts) : moF m ab mp k = moF m' ab mp k := by
  by_cases h1 : 8204 ≤ k ∧ k < 9407
  · obtain ⟨r, rfl⟩ : ∃ r, k = 8204 + r := ⟨k - 8204, by omega⟩
    rw [moF_est _ _ _ (by omega), moF_est _ _ _ (by omega)]
    exact ho r (by omega) rfl
  · unfold moF
    by_cases h2 : k < 12
    · rw [if_pos h2, if_pos h2, hh]
    · rw [if_neg h2, if_neg h2, hb, hr]
      by_cases h3 : k < 8204
      · rw [if_pos h3, if_pos h3]
      · have h4 : ¬ k < 9407 := by omega
        rw [if_neg h3, if_neg h3, if_neg h4, if_neg h4]
section
variable {w : World} {mo ab mb mp : Nat} {m m' : Mo}
theorem MoAt.turn (h : MoAt w mo ab mb mp m) {j : Nat} {v : Value} (ha : m'.a = m.a) (e : ∀ k, k < 9921 → upd (moF m ab mp) j v k = moF m' ab mp k) : MoAt (w.setCell ⟨mo, j, none⟩ v) mo ab mb mp m' := by
  have F : Fr [mo] w (w.setCell ⟨mo, j, none⟩ v) := (Fr.refl _ _).setCell (.inl (by simp)) _
  exact ⟨h.blk.to j v e, by rw [ha]; exact h.ar.fr F (by simpa using Ne.symm h.n1) (by simpa using Ne.symm h.n2), h.n1, h.n2⟩
theorem MoAt.c0 (h : MoAt w mo ab mb mp m) : w.cell? ⟨mo, 0, none⟩ = some (.pointer (some ⟨ab, 0, none⟩)) := h.cell (by omega)
/-- One of the first twelve cells is turned. -/
theorem MoAt.low (h : MoAt w mo ab mb mp m) {j : Nat} {v : Value} (hj : j < 12) (h1 : moH m' ab mp j = v) (h2 : ∀ k, k < 12 → k ≠ j → moH m' ab mp k = moH m ab mp k) (ha : m'.a = m.a) (hb : m'.bn = m.bn) (hes : m'.es = m.es) (heh : m'.eh = m.eh) (hec : m'.ec = m.ec) (hr : m'.restarts = m.restarts) : MoAt (w.setCell ⟨mo, j, none⟩ v) mo ab mb mp m' := h.turn ha (moF_upd hj h1 h2 hb hes heh hec hr)
theorem twelve {P : Nat → Prop} {j : Nat} (h0 : 0 ≠ j → P 0) (h1 : 1 ≠ j → P 1) (h2 : 2 ≠ j → P 2) (h3 : 3 ≠ j → P 3) (h4 : 4 ≠ j → P 4) (h5 : 5 ≠ j → P 5) (h6 : 6 ≠ j → P 6) (h7 : 7 ≠ j → P 7) (h8 : 8 ≠ j → P 8) (h9 : 9 ≠ j → P 9) (h10 : 10 ≠ j → P 10) (h11 : 11 ≠ j → P 11) : ∀ k, k < 12 → k ≠ j → P k := by
  intro k hk hne
  obtain rfl | rfl | rfl | rfl | rfl | rfl | rfl | rfl | rfl | rfl | rfl | rfl : k = 0 ∨ k = 1 ∨ k = 2 ∨ k = 3 ∨ k = 4 ∨ k = 5 ∨ k = 6 ∨ k = 7 ∨ k = 8 ∨ k = 9 ∨ k = 10 ∨ k = 11 := by omega
  · exact h0 hne
  · exact h1 hne
  · exact h2 hne
  · exact h3 hne
  · exact h4 hne
  · exact h5 hne
  · exact h6 hne
  · exact h7 hne
  · exact h8 hne
  · exact h9 hne
  · exact h10 hne
  · exact h11 hne
theorem MoAt.setRestarts (h : MoAt w mo ab mb mp m) (x : Int) : MoAt (w.setCell ⟨mo, 9919, none⟩ (.int .i64 x)) mo ab mb mp { m with restarts := x } := h.turn rfl (fun k hk => by
  by_cases e : k = 9919
  · subst e
    rw [upd_same]
    rfl
  · rw [upd_other _ _ _ e]
    unfold moF
    repeat' split
    all_goals first | rfl | omega)
theorem MoAt.setBin (h : MoAt w mo ab mb mp m) (q x : Nat) (hq : q < 8192) : MoAt (w.setCell ⟨mo, 12 + q, none⟩ (.int .u16 x)) mo ab mb mp { m with bn := upd2 m.bn q x } := h.turn rfl (moF_bn m ab mp q x hq)
theorem MoAt.setEs (h : MoAt w mo ab mb mp m) (e x : Nat) (he : e < 401) : MoAt (w.setCell ⟨mo, 8204 + 3 * e, none⟩ (.int .u16 x)) mo ab mb mp { m with es := upd2 m.es e x } := h.turn rfl (fun k hk => by
  by_cases q : k = 8204 + 3 * e
  · rw [q, upd_same, moF_est _ _ _ (by omega)]
    have h1 : 3 * e % 3 = 0 := by omega
    have h2 : 3 * e / 3 = e := by omega
    unfold esF
    rw [h1, h2, if_pos rfl]
    show _ = Value.int .u16 ((upd2 m.es e x e : Nat) : Int)
    unfold upd2
    rw [if_pos rfl]
  · rw [upd_other _ _ _ q]
    refine moF_es hk (fun r _ hr => ?_) (fun _ => rfl) rfl rfl
    unfold esF
    by_cases h1 : r % 3 = 0
    · have h2 : r / 3 ≠ e := by omega
      rw [if_pos h1, if_pos h1]
      show _ = Value.int .u16 ((upd2 m.es e x (r / 3) : Nat) : Int)
      unfold upd2
      rw [if_neg h2]
    · rw [if_neg h1, if_neg h1])
theorem MoAt.setEh (h : MoAt w mo ab mb mp m) (e x : Nat) (he : e < 401) : MoAt (w.setCell ⟨mo, 8204 + 3 * e + 1, none⟩ (.int .u8 x)) mo ab mb mp { m with eh := upd2 m.eh e x } := h.turn rfl (fun k hk => by
  by_cases q : k = 8204 + 3 * e + 1
  · rw [q, upd_same, Nat.add_assoc, moF_est _ _ _ (by omega)]
    have h1 : (3 * e + 1) % 3 = 1 := by omega
    have h2 : (3 * e + 1) / 3 = e := by omega
    unfold esF
    rw [h1, h2, if_neg (by omega), if_pos rfl]
    show _ = Value.int .u8 ((upd2 m.eh e x e : Nat) : Int)
    unfold upd2
    rw [if_pos rfl]
  · rw [upd_other _ _ _ q]
    refine moF_es hk (fun r _ hr => ?_) (fun _ => rfl) rfl rfl
    unfold esF
    by_cases h0 : r % 3 = 0
    · rw [if_pos h0, if_pos h0]
    · by_cases h1 : r % 3 = 1
      · have h2 : r / 3 ≠ e := by omega
        rw [if_neg h0, if_neg h0, if_pos h1, if_pos h1]
        show _ = Value.int .u8 ((upd2 m.eh e x (r / 3) : Nat) : Int)
        unfold upd2
        rw [if_neg h2]
      · rw [if_neg h0, if_neg h0, if_neg h1, if_neg h1])
theorem MoAt.setEc (h : MoAt w mo ab mb mp m) (e x : Nat) (he : e < 401) : MoAt (w.setCell ⟨mo, 8204 + 3 * e + 2, none⟩ (.int .u8 x)) mo ab mb mp { m with ec := upd2 m.ec e x } := h.turn rfl (fun k hk => by
  by_cases q : k = 8204 + 3 * e + 2
  · rw [q, upd_same, Nat.add_assoc, moF_est _ _ _ (by omega)]
    have h1 : (3 * e + 2) % 3 = 2 := by omega
    have h2 : (3 * e + 2) / 3 = e := by omega
    unfold esF
    rw [h1, h2, if_neg (by omega), if_neg (by omega)]
    show _ = Value.int .u8 ((upd2 m.ec e x e : Nat) : Int)
    unfold upd2
    rw [if_pos rfl]
  · rw [upd_other _ _ _ q]
    refine moF_es hk (fun r _ hr => ?_) (fun _ => rfl) rfl rfl
    unfold esF
    by_cases h0 : r % 3 = 0
    · rw [if_pos h0, if_pos h0]
    · by_cases h1 : r % 3 = 1
      · rw [if_neg h0, if_neg h0, if_pos h1, if_pos h1]
      · have h2 : r / 3 ≠ e := by omega
        rw [if_neg h0, if_neg h0, if_neg h1, if_neg h1]
        show _ = Value.int .u8 ((upd2 m.ec e x (r / 3) : Nat) : Int)
        unfold upd2
        rw [if_neg h2])
end
end Go.Proofs.YtjfoccbbjhigbaaGreat
