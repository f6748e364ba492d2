/- Contracts: the references' Ins, Parse, May, Props. No condition but that lengths fit. -/
import Derived.Test.YtakpeffpocjgoaaGProps
import Derived.Deep.RegionHeld3
namespace Go.Proofs.Ytakpeffpocjgoaa
open Go.RowKit

theorem rins_any (w : World) (m : Int) (pv : Value) :
    Calls Try.prog 11 #[.agg #[.int .i64 m, pv]] w fun e w' => e = .returned (.int .i64 (ins m)) ∧ Fr [] w w' := by
  by_cases h6 : m = 6
  · subst h6
    go_enter Try.func11, Try.ntmps11
    go_wp2
    go_ret
    exact ⟨by simp [ins], (Fr.refl _ _).alloc _⟩
  · have hb : (m == 6) = false := by simp [h6]
    have E := Lib.hid (show (ins m : Int) = if (decide (1 ≤ m) && decide (m ≤ 7)) = true then 1 else 0 by simp [ins, h6]; split <;> simp)
    clear h6
    by_cases h1 : 1 ≤ m
    · by_cases h7 : m ≤ 7
      · have E2 := Lib.hid (show (ins m : Int) = 1 by rw [E.out]; simp [h1, h7])
        clear E
        go_enter Try.func11, Try.ntmps11
        go_wp2
        go_ret
        exact ⟨by rw [E2.out]; rfl, (Fr.refl _ _).alloc _⟩
      · have E2 := Lib.hid (show (ins m : Int) = 0 by rw [E.out]; simp [h7])
        clear E
        go_enter Try.func11, Try.ntmps11
        go_wp2
        go_ret
        exact ⟨by rw [E2.out]; rfl, (Fr.refl _ _).alloc _⟩
    · have E2 := Lib.hid (show (ins m : Int) = 0 by rw [E.out]; simp [h1])
      clear E
      go_enter Try.func11, Try.ntmps11
      go_wp2
      go_ret
      exact ⟨by rw [E2.out]; rfl, (Fr.refl _ _).alloc _⟩

theorem rmay17 (w : World) (o m : Int) :
    Calls Try.prog 47 #[.int .i64 o, .int .i64 m] w fun e w' => e = .returned (.bool (mayP o m)) ∧ w' = w := by
  unfold mayP
  go_enter Try.func47, Try.ntmps47
  go_wp2
  all_goals
    go_ret
    refine ⟨?_, rfl⟩
    first | (simp [*]; done) | (simp [*]; intros; omega)

theorem rmay18 (w : World) (o m : Int) :
    Calls Try.prog 39 #[.agg #[.int .i64 o, .int .i64 m]] w fun e w' => e = .returned (.bool (mayP o m)) ∧ Fr [] w w' := by
  go_enter Try.func39, Try.ntmps39
  go_wp2_with (go_at_call 47; refine (rmay17 _ _ _).mono ?_; rintro e w1 ⟨rfl, rfl⟩)
  go_ret
  exact ⟨rfl, (Fr.refl _ _).alloc _⟩

/-- Five bytes in memory. -/
theorem five {w : World} {ao : Option Addr} {b : List UInt8} (h5 : b.length = 5) (o : ∀ j, j < b.length → ∃ b1 o1, ao = some ⟨b1, o1, none⟩ ∧ b1 < w.heap.size ∧ ∀ i, i < b.length → w.cell? ⟨b1, o1 + i, none⟩ = (bv b)[i]?) :
    ∃ b1 o1 a0 a1 a2 a3 a4, ao = some ⟨b1, o1, none⟩ ∧ b1 < w.heap.size ∧ b = [a0, a1, a2, a3, a4] ∧ w.cell? ⟨b1, o1, none⟩ = some (.int .u8 a0.toNat) ∧ w.cell? ⟨b1, o1 + 1, none⟩ = some (.int .u8 a1.toNat) ∧
      w.cell? ⟨b1, o1 + 2, none⟩ = some (.int .u8 a2.toNat) ∧ w.cell? ⟨b1, o1 + 3, none⟩ = some (.int .u8 a3.toNat) ∧ w.cell? ⟨b1, o1 + 4, none⟩ = some (.int .u8 a4.toNat) := by
  obtain ⟨b1, o1, rfl, hb, c⟩ := o 0 (by omega)
  match b, h5 with
  | [a0, a1, a2, a3, a4], _ =>
    exact ⟨b1, o1, a0, a1, a2, a3, a4, rfl, hb, rfl, c 0 (by simp), c 1 (by simp), c 2 (by simp), c 3 (by simp), c 4 (by simp)⟩

set_option maxRecDepth 100000 in
set_option maxHeartbeats 2000000 in
theorem rlzma_parse (w : World) (v : Value) (b : List UInt8) (hb : Sl w v (bv b)) :
    Calls Try.prog 26 #[v] w (Parsed (b.length == 5 && decide ((b.getD 0 0).toNat < 225)) w) := by
  obtain ⟨ao, cap, rfl, g, m, o⟩ := hb.out
  simp only [bv_length] at *
  generalize hok : (b.length == 5 && decide ((b.getD 0 0).toNat < 225)) = ok
  by_cases h : b.length = 5
  · obtain ⟨b1, o1, a0, a1, a2, a3, a4, rfl, hb1, rfl, d0, d1, d2, d3, d4⟩ := five h o
    have HOK := Lib.hid hok
    clear o hb h hok
    have x0 : a0.toNat < 256 := a0.toNat_lt
    simp only [List.length_cons, List.length_nil] at *
    by_cases h2 : a0.toNat < 225
    · have E := Lib.hid (show codeOf ok = 0 by rw [← HOK.out]; simp [codeOf, h2])
      clear HOK
      go_enter Try.func26, Try.ntmps26
      go_wp2_with fail
      go_region_held3 (fun w' => w'.cell? ⟨b1, o1, none⟩ = some (.int .u8 a0.toNat) ∧ w'.cell? ⟨b1, o1 + 1, none⟩ = some (.int .u8 a1.toNat) ∧ w'.cell? ⟨b1, o1 + 2, none⟩ = some (.int .u8 a2.toNat) ∧ w'.cell? ⟨b1, o1 + 3, none⟩ = some (.int .u8 a3.toNat) ∧ w'.cell? ⟨b1, o1 + 4, none⟩ = some (.int .u8 a4.toNat))
        (first | go_keep | (simp [go_sem, World.cell?_alloc_lt, hb1, *]))
        (first | fail)
      generalize IntKind.i64.wrap (a0.toNat : Int) = z0
      generalize IntKind.i64.wrap (a1.toNat : Int) = z1
      generalize IntKind.i64.wrap (a2.toNat : Int) = z2
      generalize IntKind.i64.wrap (a3.toNat : Int) = z3
      generalize IntKind.i64.wrap (a4.toNat : Int) = z4
      generalize IntKind.i64.wrap (IntKind.i64.wrap (IntKind.i64.wrap (z1 + IntKind.i64.wrap (256 * z2)) + IntKind.i64.wrap (65536 * z3)) + IntKind.i64.wrap (16777216 * z4)) = y3
      generalize z0.tmod 9 = y0
      generalize (IntKind.i64.wrap (z0.tdiv 9)).tmod 5 = y1
      generalize IntKind.i64.wrap (z0.tdiv 45) = y2
      clear d0 d1 d2 d3 d4
      obtain ⟨w1, hw1⟩ : ∃ w1, w1 = w.alloc (.cells #[.int .i64 0, .int .i64 0, .int .i64 0, .int .i64 0] 57) := ⟨_, rfl⟩
      have F1 : Fr [] w w1 := hw1 ▸ (Fr.refl _ _).alloc _
      have hb1 : w1.heap[w.heap.size]? = some (.cells #[.int .i64 0, .int .i64 0, .int .i64 0, .int .i64 0] 57) := hw1 ▸ heap_alloc_new w _
      have hs1 : w1.heap.size = w.heap.size + 1 := by rw [hw1]; simp
      rw [← hw1]
      clear hw1
      obtain ⟨w2, hw2⟩ : ∃ w2, w2 = (w1.alloc (.cells #[.int .i64 y0, .int .i64 y1, .int .i64 y2, .int .i64 y3] 57)).drew := ⟨_, rfl⟩
      have F2 : Fr [] w1 w2 := hw2 ▸ ((Fr.refl _ _).alloc _).drew
      have k1 := cells4 ((F2.block w.heap.size (by omega) (by simp)).trans hb1)
      have k2 := cells4 (g := w1.heap.size) (hw2 ▸ heap_alloc_new w1 _ : w2.heap[w1.heap.size]? = some (.cells #[.int .i64 y0, .int .i64 y1, .int .i64 y2, .int .i64 y3] 57))
      rw [hs1] at k2
      have FF := F1.trans0 F2
      rw [← hw2]
      clear hw2 hb1 F1 F2
      rename_i hHeld
      clear hHeld
      by_cases h4 : y3 < 4096
      · go_wp2_with fail
        refine bodyPost_ret (v := .tuple #[.agg #[.int .i64 y0, .int .i64 y1, .int .i64 y2, .int .i64 4096], .int .i64 0]) (by simp [results, Try.results26, go_sem, k1]) rfl ?_
        exact ⟨_, by rw [E.out], ((((FF.setCell (.inr (Nat.le_succ _)) _).setCell (.inr (Nat.le_refl _)) _).setCell (.inr (Nat.le_refl _)) _).setCell (.inr (Nat.le_refl _)) _).setCell (.inr (Nat.le_refl _)) _⟩
      · go_wp2_with fail
        refine bodyPost_ret (v := .tuple #[.agg #[.int .i64 y0, .int .i64 y1, .int .i64 y2, .int .i64 y3], .int .i64 0]) (by simp [results, Try.results26, go_sem, k1]) rfl ?_
        exact ⟨_, by rw [E.out], (((FF.setCell (.inr (Nat.le_refl _)) _).setCell (.inr (Nat.le_refl _)) _).setCell (.inr (Nat.le_refl _)) _).setCell (.inr (Nat.le_refl _)) _⟩
    · have E := Lib.hid (show codeOf ok = 11 by rw [← HOK.out]; simp [codeOf, h2])
      clear HOK
      go_enter Try.func26, Try.ntmps26
      go_wp2
      refine bodyPost_ret (v := .tuple #[.agg #[.int .i64 0, .int .i64 0, .int .i64 0, .int .i64 0], .int .i64 11]) (by simp [results, Try.results26, go_sem]) rfl ?_
      exact ⟨_, by rw [E.out], (Fr.refl _ _).alloc _⟩
  · have hb5 : ((b.length : Int) != 5) = true := by rw [bne_iff_ne]; omega
    have E := Lib.hid (show codeOf ok = 11 by rw [← hok]; simp [codeOf, h])
    clear o h hb hok
    go_enter Try.func26, Try.ntmps26
    go_wp2
    refine bodyPost_ret (v := .tuple #[.agg #[.int .i64 0, .int .i64 0, .int .i64 0, .int .i64 0], .int .i64 11]) (by simp [results, Try.results26, go_sem]) rfl ?_
    exact ⟨_, by rw [E.out], (Fr.refl _ _).alloc _⟩

theorem le_wrap (a0 a1 a2 a3 a4 : UInt8) : IntKind.i64.wrap (IntKind.i64.wrap (IntKind.i64.wrap (IntKind.i64.wrap (a1.toNat : Int) + IntKind.i64.wrap (256 * IntKind.i64.wrap (a2.toNat : Int))) + IntKind.i64.wrap (65536 * IntKind.i64.wrap (a3.toNat : Int))) + IntKind.i64.wrap (16777216 * IntKind.i64.wrap (a4.toNat : Int))) = (leNat ([a0, a1, a2, a3, a4].drop 1) : Int) ∧ IntKind.i64.wrap (a0.toNat : Int) = (a0.toNat : Int) := by
  have x0 : a0.toNat < 256 := a0.toNat_lt
  have x1 : a1.toNat < 256 := a1.toNat_lt
  have x2 : a2.toNat < 256 := a2.toNat_lt
  have x3 : a3.toNat < 256 := a3.toNat_lt
  have x4 : a4.toNat < 256 := a4.toNat_lt
  have e (x : Int) (h0 : 0 ≤ x) (h1 : x < 4294967296) : IntKind.i64.wrap x = x := IntWalk.i64_in _ (by omega)
  simp only [List.drop_succ_cons, List.drop_zero, leNat]
  rw [e (a1.toNat : Int) (by omega) (by omega), e (a2.toNat : Int) (by omega) (by omega), e (a3.toNat : Int) (by omega) (by omega), e (a4.toNat : Int) (by omega) (by omega), e (a0.toNat : Int) (by omega) (by omega),
    e (256 * (a2.toNat : Int)) (by omega) (by omega), e (65536 * (a3.toNat : Int)) (by omega) (by omega), e (16777216 * (a4.toNat : Int)) (by omega) (by omega), e ((a1.toNat : Int) + 256 * (a2.toNat : Int)) (by omega) (by omega),
    e ((a1.toNat : Int) + 256 * (a2.toNat : Int) + 65536 * (a3.toNat : Int)) (by omega) (by omega), e ((a1.toNat : Int) + 256 * (a2.toNat : Int) + 65536 * (a3.toNat : Int) + 16777216 * (a4.toNat : Int)) (by omega) (by omega)]
  omega

set_option maxRecDepth 100000 in
set_option maxHeartbeats 2000000 in
theorem rppmd_parse (w : World) (v : Value) (b : List UInt8) (hb : Sl w v (bv b)) :
    Calls Try.prog 27 #[v] w (Parsed (ppmdOk b) w) := by
  obtain ⟨ao, cap, rfl, g, m, o⟩ := hb.out
  simp only [bv_length] at *
  generalize hok : ppmdOk b = ok
  by_cases h : b.length = 5
  · obtain ⟨b1, o1, a0, a1, a2, a3, a4, rfl, hb1, rfl, d0, d1, d2, d3, d4⟩ := five h o
    have HOK := Lib.hid (show mayP a0.toNat (leNat ([a0, a1, a2, a3, a4].drop 1)) = ok by rw [← hok]; simp [ppmdOk])
    obtain ⟨e1, e0⟩ := le_wrap a0 a1 a2 a3 a4
    have HE := Lib.hid (And.intro e1 e0)
    clear o hb h hok e1 e0
    simp only [List.length_cons, List.length_nil] at *
    go_enter Try.func27, Try.ntmps27
    go_wp2_with fail
    go_region_held3 (fun w' => w'.cell? ⟨b1, o1, none⟩ = some (.int .u8 a0.toNat) ∧ w'.cell? ⟨b1, o1 + 1, none⟩ = some (.int .u8 a1.toNat) ∧ w'.cell? ⟨b1, o1 + 2, none⟩ = some (.int .u8 a2.toNat) ∧ w'.cell? ⟨b1, o1 + 3, none⟩ = some (.int .u8 a3.toNat) ∧ w'.cell? ⟨b1, o1 + 4, none⟩ = some (.int .u8 a4.toNat))
      (first | go_keep | (simp [go_sem, World.cell?_alloc_lt, hb1, *]))
      (first | fail)
    rw [HE.out.1, HE.out.2]
    generalize (leNat ([a0, a1, a2, a3, a4].drop 1) : Int) = mm at HOK ⊢
    generalize (a0.toNat : Int) = oo at HOK ⊢
    clear d0 d1 d2 d3 d4
    obtain ⟨w1, hw1⟩ : ∃ w1, w1 = w.alloc (.cells #[.int .i64 0, .int .i64 0] 61) := ⟨_, rfl⟩
    have F1 : Fr [] w w1 := hw1 ▸ (Fr.refl _ _).alloc _
    have hb1 : w1.heap[w.heap.size]? = some (.cells #[.int .i64 0, .int .i64 0] 61) := hw1 ▸ heap_alloc_new w _
    have hs1 : w1.heap.size = w.heap.size + 1 := by rw [hw1]; simp
    rw [← hw1]
    clear hw1
    obtain ⟨w2, hw2⟩ : ∃ w2, w2 = (w1.alloc (.cells #[.int .i64 oo, .int .i64 mm] 61)).drew := ⟨_, rfl⟩
    have F2 : Fr [] w1 w2 := hw2 ▸ ((Fr.refl _ _).alloc _).drew
    have h1 := (F2.block w.heap.size (by omega) (by simp)).trans hb1
    have h2 : w2.heap[w1.heap.size]? = some (.cells #[.int .i64 oo, .int .i64 mm] 61) := hw2 ▸ heap_alloc_new w1 _
    rw [hs1] at h2
    have k2 := cells2 h2
    have FF := F1.trans0 F2
    rw [← hw2]
    have hs2 : w.heap.size + 1 < w2.heap.size := by rw [hw2]; show _ < (w1.alloc _).heap.size; rw [World.size_alloc]; omega
    clear hw2 hb1 F1 F2
    rename_i hHeld
    clear hHeld
    cases ok with
    | true =>
      go_wp2_with (go_at_call 39; refine (rmay18 _ _ _).mono ?_; rw [HOK.out]; rintro e w3 ⟨rfl, F3⟩; have k3 := cells2 ((F3.block w.heap.size (by omega) (by simp)).trans h1); have k4 := cells2 ((F3.block (w.heap.size + 1) hs2 (by simp)).trans h2))
      refine bodyPost_ret (v := .tuple #[.agg #[.int .i64 oo, .int .i64 mm], .int .i64 0]) (by simp [results, Try.results27, go_sem, k3]) rfl ?_
      exact ⟨_, rfl, ((FF.trans0 F3).setCell (.inr (Nat.le_refl _)) _).setCell (.inr (Nat.le_refl _)) _⟩
    | false =>
      go_wp2_with (go_at_call 39; refine (rmay18 _ _ _).mono ?_; rw [HOK.out]; rintro e w3 ⟨rfl, F3⟩; have k3 := cells2 ((F3.block w.heap.size (by omega) (by simp)).trans h1); have k4 := cells2 ((F3.block (w.heap.size + 1) hs2 (by simp)).trans h2))
      refine bodyPost_ret (v := .tuple #[.agg #[.int .i64 0, .int .i64 0], .int .i64 11]) (by simp [results, Try.results27, go_sem, k3]) rfl ?_
      exact ⟨_, rfl, ((FF.trans0 F3).setCell (.inr (Nat.le_refl _)) _).setCell (.inr (Nat.le_refl _)) _⟩
  · have hb5 : ((b.length : Int) != 5) = true := by rw [bne_iff_ne]; omega
    have E := Lib.hid (show codeOf ok = 11 by rw [← hok]; simp [codeOf, ppmdOk, h])
    clear o h hb hok
    go_enter Try.func27, Try.ntmps27
    go_wp2
    refine bodyPost_ret (v := .tuple #[.agg #[.int .i64 0, .int .i64 0], .int .i64 11]) (by simp [results, Try.results27, go_sem]) rfl ?_
    exact ⟨_, by rw [E.out], (Fr.refl _ _).alloc _⟩
end Go.Proofs.Ytakpeffpocjgoaa
