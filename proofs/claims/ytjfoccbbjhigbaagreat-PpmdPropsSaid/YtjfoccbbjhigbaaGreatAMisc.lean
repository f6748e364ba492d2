/- Contracts: the arena begins anew, gives units, takes its text (layer 16). No condition but that places and lengths fit. -/
import Derived.Test.YtjfoccbbjhigbaaGreatANum
import Derived.Lib.SliceRun
namespace Go.Proofs.YtjfoccbbjhigbaaGreat
open Go.RowKit

/-- The arena's places fit. -/
structure Ar.Fit (a : Ar) : Prop where
  size : a.size ≤ 65536
  len : a.len = a.size + 13
  text : a.text ≤ 1000000
  start : a.start ≤ 1000000
  low : a.low ≤ 1000000
  high : a.high ≤ 1000000
  glue : a.glue < 4294967296
theorem arF_text (a : Ar) (mv : Value) (mp x : Nat) : ∀ j, j < 213 → upd (arF a mv mp) 208 (.int .i64 x) j = arF { a with text := x } mv mp j := fun j _ => by
  unfold upd arF; by_cases e : j = 208 <;> simp [e]
theorem arF_start (a : Ar) (mv : Value) (mp x : Nat) : ∀ j, j < 213 → upd (arF a mv mp) 209 (.int .i64 x) j = arF { a with start := x } mv mp j := fun j _ => by
  unfold upd arF; by_cases e : j = 209 <;> simp [e]
theorem arF_low (a : Ar) (mv : Value) (mp x : Nat) : ∀ j, j < 213 → upd (arF a mv mp) 210 (.int .i64 x) j = arF { a with low := x } mv mp j := fun j _ => by
  unfold upd arF; by_cases e : j = 210 <;> simp [e]
theorem arF_high (a : Ar) (mv : Value) (mp x : Nat) : ∀ j, j < 213 → upd (arF a mv mp) 211 (.int .i64 x) j = arF { a with high := x } mv mp j := fun j _ => by
  unfold upd arF; by_cases e : j = 211 <;> simp [e]
theorem arF_glue (a : Ar) (mv : Value) (mp x : Nat) : ∀ j, j < 213 → upd (arF a mv mp) 212 (.int .u32 x) j = arF { a with glue := x } mv mp j := fun j hj => by
  unfold upd arF; by_cases e : j = 212
  · simp [e]
  · rw [if_neg e]; repeat' split
    all_goals first | rfl | omega
theorem arF_at_free (a : Ar) (mv : Value) (mp : Nat) {j : Nat} (h1 : 170 ≤ j) (h2 : j < 208) : arF a mv mp j = .int .i64 (a.free (j - 170)) := by
  unfold arF
  rw [if_neg (by omega), if_neg (by omega), if_neg (by omega), if_neg (by omega), if_neg (by omega), if_pos h2]
theorem arF_not_free (a a' : Ar) (mv : Value) (mp : Nat) {j : Nat} (h : ¬ (170 ≤ j ∧ j < 208)) (hs : a'.size = a.size) (h1 : a'.text = a.text) (h2 : a'.start = a.start) (h3 : a'.low = a.low) (h4 : a'.high = a.high) (h5 : a'.glue = a.glue) : arF a mv mp j = arF a' mv mp j := by
  unfold arF
  rw [hs, h1, h2, h3, h4, h5]
  repeat' split
  all_goals first | rfl | omega
theorem arF_free (a : Ar) (mv : Value) (mp r x : Nat) (hr : r < 38) : ∀ j, j < 213 → upd (arF a mv mp) (170 + r) (.int .i64 x) j = arF { a with free := upd2 a.free r x } mv mp j := fun j _ => by
  by_cases e : j = 170 + r
  · have h1 : 170 ≤ j ∧ j < 208 := by omega
    have h2 : j - 170 = r := Nat.sub_eq_of_eq_add (e.trans (Nat.add_comm _ _))
    rw [arF_at_free _ _ _ h1.1 h1.2, h2, ← e, upd_same]
    exact congrArg (fun n : Nat => Value.int .i64 (n : Int)) (if_pos rfl : (if r = r then x else a.free r) = x).symm
  · rw [upd_other _ _ _ e]
    by_cases h : 170 ≤ j ∧ j < 208
    · have hne : j - 170 ≠ r := by omega
      obtain ⟨m, hm⟩ : ∃ m, j - 170 = m := ⟨_, rfl⟩
      rw [arF_at_free _ _ _ h.1 h.2, arF_at_free _ _ _ h.1 h.2, hm]
      rw [hm] at hne
      exact congrArg (fun n : Nat => Value.int .i64 (n : Int)) (if_neg hne : (if m = r then x else a.free m) = a.free m).symm
    · exact arF_not_free a _ mv mp h rfl rfl rfl rfl rfl rfl
section
variable {w : World} {ab mb mp : Nat} {a : Ar}
theorem ArAt.c0 (h : ArAt w ab mb mp a) : w.cell? ⟨ab, 0, none⟩ = some (.slice (some ⟨mb, 0, none⟩) a.len a.len) := h.blk.cell (by omega)
theorem ArAt.c1 (h : ArAt w ab mb mp a) : w.cell? ⟨ab, 1, none⟩ = some (.int .i64 a.size) := h.blk.cell (by omega)
theorem ArAt.c2 (h : ArAt w ab mb mp a) : w.cell? ⟨ab, 2, none⟩ = some (.pointer (some ⟨mp, 0, none⟩)) := h.blk.cell (by omega)
theorem ArAt.cU (h : ArAt w ab mb mp a) {i : Nat} (hi : i < 38) : w.cell? ⟨ab, 3 + i, none⟩ = some (.int .i64 (unitsT i)) := by
  rw [h.blk.cell (by omega)]
  unfold arF
  have : 3 + i ≠ 0 ∧ 3 + i ≠ 1 ∧ 3 + i ≠ 2 ∧ 3 + i < 41 := by omega
  simp [this]
theorem ArAt.cW (h : ArAt w ab mb mp a) {i : Nat} (hi : i < 129) : w.cell? ⟨ab, 41 + i, none⟩ = some (.int .i64 (whichT i)) := by
  rw [h.blk.cell (by omega)]
  unfold arF
  have : 41 + i ≠ 0 ∧ 41 + i ≠ 1 ∧ 41 + i ≠ 2 ∧ ¬ 41 + i < 41 ∧ 41 + i < 170 := by omega
  simp [this]
theorem ArAt.cF (h : ArAt w ab mb mp a) {i : Nat} (hi : i < 38) : w.cell? ⟨ab, 170 + i, none⟩ = some (.int .i64 (a.free i)) := by
  rw [h.blk.cell (by omega)]
  unfold arF
  have : 170 + i ≠ 0 ∧ 170 + i ≠ 1 ∧ 170 + i ≠ 2 ∧ ¬ 170 + i < 41 ∧ ¬ 170 + i < 170 ∧ 170 + i < 208 := by omega
  simp [this]
theorem ArAt.cT (h : ArAt w ab mb mp a) : w.cell? ⟨ab, 208, none⟩ = some (.int .i64 a.text) := h.blk.cell (by omega)
theorem ArAt.cS (h : ArAt w ab mb mp a) : w.cell? ⟨ab, 209, none⟩ = some (.int .i64 a.start) := h.blk.cell (by omega)
theorem ArAt.cL (h : ArAt w ab mb mp a) : w.cell? ⟨ab, 210, none⟩ = some (.int .i64 a.low) := h.blk.cell (by omega)
theorem ArAt.cH (h : ArAt w ab mb mp a) : w.cell? ⟨ab, 211, none⟩ = some (.int .i64 a.high) := h.blk.cell (by omega)
theorem ArAt.cG (h : ArAt w ab mb mp a) : w.cell? ⟨ab, 212, none⟩ = some (.int .u32 a.glue) := h.blk.cell (by omega)
/-- A cell of the arena's own block is turned. -/
theorem ArAt.turn (h : ArAt w ab mb mp a) {j : Nat} {v : Value} {a' : Ar} (hm : a'.mem = a.mem) (hl : a'.len = a.len) (e : ∀ k, k < 213 → upd (arF a (.slice (some ⟨mb, 0, none⟩) a.len a.len) mp) j v k = arF a' (.slice (some ⟨mb, 0, none⟩) a.len a.len) mp k) :
    ArAt (w.setCell ⟨ab, j, none⟩ v) ab mb mp a' := by
  have F : Fr [ab] w (w.setCell ⟨ab, j, none⟩ v) := (Fr.refl _ _).setCell (.inl (by simp)) _
  exact ⟨by rw [hl]; exact h.blk.to j v e, by rw [hl, hm]; exact h.mem.fr F (by simpa using Ne.symm h.ne), h.ne, by rw [hl]; exact h.len⟩
set_option maxRecDepth 100000 in
theorem shut_any (h : ArAt w ab mb mp a) : Calls Tryz.prog 98 #[.pointer (some ⟨ab, 0, none⟩)] w fun e w' => e = .returned (.bool (decide (a.len = 0))) ∧ w' = w := by
  have c0 := h.c0
  by_cases hz : a.len = 0
  · have hI : ((a.len : Int) == 0) = true := by simp [hz]
    have HZ := Lib.hid hz
    clear h hz
    go_enter Tryz.func98, Tryz.ntmps98
    go_wp2_with fail
    go_ret
    exact ⟨by rw [HZ.out]; rfl, rfl⟩
  · have hI : ((a.len : Int) == 0) = false := by simp [hz]
    have HZ := Lib.hid (show decide (a.len = 0) = false by simp [hz])
    clear h hz
    go_enter Tryz.func98, Tryz.ntmps98
    go_wp2_with fail
    go_ret
    exact ⟨by rw [HZ.out]; rfl, rfl⟩
set_option maxRecDepth 100000 in
theorem text_any (h : ArAt w ab mb mp a) : Calls Tryz.prog 172 #[.pointer (some ⟨ab, 0, none⟩)] w fun e w' => e = .returned (.int .i64 a.text) ∧ w' = w := by
  have c0 := h.cT
  clear h
  go_enter Tryz.func172, Tryz.ntmps172
  go_wp2_with fail
  go_ret
  exact ⟨rfl, rfl⟩
set_option maxRecDepth 100000 in
theorem pop_any (h : ArAt w ab mb mp a) (hF : a.Fit) (ht : 1 ≤ a.text) : Calls Tryz.prog 179 #[.pointer (some ⟨ab, 0, none⟩)] w fun e w' => e = .returned (.tuple #[]) ∧ ArAt w' ab mb mp { a with text := a.text - 1 } ∧ Fr [ab] w w' := by
  have c0 := h.cT
  have z0 := h.blk.free 208
  have hl := h.blk.lt
  have hb := hF.text
  have HH := Lib.hid (And.intro (h.turn (a' := { a with text := a.text - 1 }) rfl rfl (arF_text a _ mp (a.text - 1))) ((Fr.refl [ab] w).setCell (p := ⟨ab, 208, none⟩) (.inl (by simp)) (.int .i64 ((a.text - 1 : Nat) : Int))))
  have e : (((a.text - 1 : Nat)) : Int) = (a.text : Int) - 1 := by omega
  rw [e] at HH
  clear h hF
  go_enter Tryz.func179, Tryz.ntmps179
  go_wp2_with fail
  go_end0
  exact ⟨rfl, HH.out⟩
set_option maxRecDepth 100000 in
theorem restart_any (h : ArAt w ab mb mp a) (hF : a.Fit) : Calls Tryz.prog 91 #[.pointer (some ⟨ab, 0, none⟩)] w fun e w' => e = .returned (.tuple #[]) ∧ ArAt w' ab mb mp a.restart ∧ Fr [ab] w w' := by
  have hz : ∀ w : World, (zeroValue 3).run Tryz.prog w = .ok (.int .i64 0) w := fun _ => by kernel_rfl
  have hcl := Lib.run_clear_slice w 141 3 0 (.int .i64 0) Tryz.underlying141 hz rfl rfl ab 170 38 38 (by omega) (fun j hj => by rw [h.cF hj]; rfl) (fun j _ => h.blk.free _)
  obtain ⟨wA, hwA⟩ : ∃ wA, wA = w.setCells ab 170 (List.replicate 38 (.int .i64 0)) := ⟨_, rfl⟩
  have FA : Fr [ab] w wA := hwA ▸ Fr.setCells (by simp) _ (Fr.refl _ _) _
  have hb1 := h.blk.puts (List.replicate 38 (.int .i64 0)) 170
  rw [← hwA] at hcl hb1
  have hb2 : Blk wA ab 180 213 (arF { a with free := fun _ => 0 } (.slice (some ⟨mb, 0, none⟩) a.len a.len) mp) := hb1.eq (fun j hj => by
    rw [List.length_replicate]
    by_cases hf : 170 ≤ j ∧ j < 208
    · rw [if_pos (by omega), arF_at_free _ _ _ hf.1 hf.2, List.getD_eq_getElem?_getD, List.getElem?_replicate, if_pos (by omega)]
      rfl
    · rw [if_neg (by omega)]
      exact arF_not_free a _ _ mp hf rfl rfl rfl rfl rfl rfl)
  have hA : ArAt wA ab mb mp { a with free := fun _ => 0 } := ⟨hb2, h.mem.fr FA (by simpa using Ne.symm h.ne), h.ne, h.len⟩
  have HA := Lib.hid hA
  clear hb1 hb2 hz hwA
  have k1 := hA.c1
  have k6 := hA.cT
  have k7 := hA.cS
  have k8 := hA.cL
  have k9 := hA.cH
  have k10 := hA.cG
  have z6 := hA.blk.free 208
  have z7 := hA.blk.free 209
  have z8 := hA.blk.free 210
  have z9 := hA.blk.free 211
  have z10 := hA.blk.free 212
  have hl := hA.blk.lt
  have hs := hF.size
  clear h hA
  go_enter Tryz.func91, Tryz.ntmps91
  go_wp2_with fail
  obtain ⟨wB, hwB⟩ : ∃ wB, wB = ((wA.setCell ⟨ab, 212, none⟩ (.int .u32 0)).setCell ⟨ab, 208, none⟩ (.int .i64 1)).setCell ⟨ab, 211, none⟩ (.int .i64 ((a.size : Int) + 1)) := ⟨_, rfl⟩
  have hB : ArAt (((wA.setCell ⟨ab, 212, none⟩ (.int .u32 0)).setCell ⟨ab, 208, none⟩ (.int .i64 1)).setCell ⟨ab, 211, none⟩ (.int .i64 ((a.size : Int) + 1))) ab mb mp { a with free := fun _ => 0, glue := 0, text := 1, high := a.size + 1 } := ((HA.out.turn (a' := { a with free := fun _ => 0, glue := 0 }) rfl rfl (arF_glue _ _ mp 0)).turn (a' := { a with free := fun _ => 0, glue := 0, text := 1 }) rfl rfl (arF_text _ _ mp 1)).turn (a' := { a with free := fun _ => 0, glue := 0, text := 1, high := a.size + 1 }) rfl rfl (arF_high _ _ mp (a.size + 1))
  have FB : Fr [ab] w wB := hwB ▸ ((FA.setCell (.inl (by simp)) _).setCell (.inl (by simp)) _).setCell (.inl (by simp)) _
  rw [← hwB] at hB ⊢
  have HB := Lib.hid hB
  have HFB := Lib.hid FB
  have m1 := hB.c1
  have m7 := hB.cS
  have m8 := hB.cL
  have m9 := hB.cH
  have y7 := hB.blk.free 209
  have y8 := hB.blk.free 210
  have ml := hB.blk.lt
  have q1 : (((a.size + 1 : Nat)) : Int) = (a.size : Int) + 1 := rfl
  rw [q1] at m9
  clear hB FB FA HA k1 k6 k7 k8 k9 k10 z6 z7 z8 z9 z10 hwB hl q1
  go_region
  go_wp2_with fail
  go_end0
  have e : ((a.size + 1 - a.size / 8 / 12 * 7 * 12 : Nat) : Int) = (a.size : Int) + 1 - (a.size : Int) / 8 / 12 * 7 * 12 := by omega
  have hC := (HB.out.turn (a' := { a with free := fun _ => 0, glue := 0, text := 1, high := a.size + 1, low := a.size + 1 - a.size / 8 / 12 * 7 * 12 }) rfl rfl (arF_low _ _ mp (a.size + 1 - a.size / 8 / 12 * 7 * 12))).turn (a' := a.restart) rfl rfl (arF_start _ _ mp (a.size + 1 - a.size / 8 / 12 * 7 * 12))
  rw [e] at hC
  exact ⟨rfl, hC.same Same.drew, ((HFB.out.setCell (.inl (by simp)) _).setCell (.inl (by simp)) _).drew⟩
end
end Go.Proofs.YtjfoccbbjhigbaaGreat
