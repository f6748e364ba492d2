/- Contracts: a pipe of copies is asked for its next byte, and closed (layer 23). -/
import Derived.Test.YtfnblemlcjdnhaaGreatPStg
namespace Go.Proofs.YtfnblemlcjdnhaaGreat
open Go.RowKit

theorem out_m {w : World} {p : Nat} {a o f d s k : Int} (h : MtN w p a o f d s k) (n : Int) (hn : 0 ≤ n) (ho : 0 ≤ o) (hm : o + n ≤ 1099511627776) :
    Calls Tryz.prog 27 #[.pointer (some ⟨p, 0, none⟩), .int .i64 n] w fun e w' => e = .returned (.bool true) ∧ MtN w' p a (o + n) f d s k ∧ Fr [p] w w' := by
  have HU := Lib.hid (use_any w p 2 _ h 1099511627776 o n 102 rfl rfl rfl hn ho hm (by omega))
  clear h
  go_enter Tryz.func27, Tryz.ntmps27
  go_wp2_with (go_at_call 52; refine HU.out.mono ?_; rintro e w1 ⟨rfl, M1, F1⟩)
  go_ret
  exact ⟨rfl, M1, F1⟩
/-- The end of a stage that copies: the source below is asked, and has no more. -/
theorem dry_any {mp fp bx : Nat} {q : Option Nat} {bs : List UInt8} {r : List (Nat × Nat × Nat)} (hbl : bs.length ≤ 1000000000) (w : World) (a o f d s kk : Int) (hb : w.heap[bx]? = some (.cells #[plainV (srcV fp (r.map (·.1)))] 86 (0, 0)))
    (hC : Chn w mp fp 0 r) (hF : FeedAt w fp q bs bs.length) (M : MtN w mp a o f d s kk) (hA : Apt mp fp q r) (hs : 0 ≤ s) (hs2 : s + (r.length : Int) ≤ 1000000000) :
    Calls Tryz.prog 84 #[.pointer (some ⟨bx, 0, none⟩)] w fun e w' => e = .returned (.bool true) ∧ Chn w' mp fp 0 r ∧ FeedAt w' fp q bs bs.length ∧ MtN w' mp a o f d s kk ∧ Fr (mp :: fp :: r.map (·.1)) w w' := by
  have c0 : w.cell? ⟨bx, 0, none⟩ = some (.iface 122 (.agg #[srcV fp (r.map (·.1))])) := by simp [Go.Joins.cell_of_block hb, plainV]
  have HP : Hid (Calls Tryz.prog 199 #[.agg #[srcV fp (r.map (·.1))]] w fun e w' => e = .returned (.tuple #[.int .u8 0, .bool false]) ∧ Chn w' mp fp 0 r ∧ FeedAt w' fp q bs bs.length ∧ MtN w' mp a o f d s kk ∧ Fr (mp :: fp :: r.map (·.1)) w w') := Lib.hid (by
    refine (plain_gives (gives_all hbl r) w bs.length a o f d s kk (by rw [Nat.sub_self]; exact hC) hF M hA hs hs2).mono ?_
    intro e w' h
    unfold GiveR at h
    rw [List.getElem?_eq_none (Nat.le_refl _), Nat.sub_self] at h
    exact h)
  have hm := meth_plain (srcV fp (r.map (·.1)))
  generalize srcV fp (r.map (·.1)) = sv at *
  clear hb hC hF M hA
  go_enter Tryz.func84, Tryz.ntmps84
  go_wp2_with (go_at_call 199; refine HP.out.mono ?_; rintro e w2 ⟨rfl, C2, D2, M2, F2⟩)
  go_ret
  exact ⟨rfl, C2, D2, M2, F2⟩
set_option maxRecDepth 100000 in
/-- A stage that copies has ended. -/
theorem sfin_any {mp fp g bx tk : Nat} {q : Option Nat} {bs : List UInt8} {r : List (Nat × Nat × Nat)} (hbl : bs.length ≤ 1000000000) (w : World) (a o f d s kk : Int)
    (hC : Chn w mp fp 0 ((g, bx, tk) :: r)) (hF : FeedAt w fp q bs bs.length) (M : MtN w mp a o f d s kk) (hA : Apt mp fp q ((g, bx, tk) :: r)) (hs : 0 ≤ s) (hs2 : s + (r.length : Int) ≤ 1000000000) :
    Calls Tryz.prog 28 #[.pointer (some ⟨g, 0, none⟩)] w fun e w' => e = .returned (.bool true) ∧ Chn w' mp fp 0 r ∧ FeedAt w' fp q bs bs.length ∧ MtN w' mp a o f d s kk ∧ Fr (mp :: fp :: r.map (·.1)) w w' := by
  obtain ⟨hS, hCr⟩ := hC
  obtain ⟨c0, c1, c2, c3, c4, c5, cf⟩ := cells6 hS.blk
  have HD := Lib.hid (dry_any hbl w a o f d s kk hS.box hCr hF M hA.tail hs hs2)
  clear hS hCr hF M hA
  go_enter Tryz.func28, Tryz.ntmps28
  go_wp2_with (go_at_call 84; refine HD.out.mono ?_; rintro e w2 ⟨rfl, C2, D2, M2, F2⟩)
  go_ret
  exact ⟨rfl, C2, D2, M2, F2⟩
/-- The pipe: its stages from the lowest, the topmost, the meter, whether it is over. -/
structure PipeAt (w : World) (pp rp n rc g mp : Nat) (ov : Bool) : Prop where
  blk : w.heap[pp]? = some (.cells #[.slice (some ⟨rp, 0, none⟩) n rc, .pointer (some ⟨g, 0, none⟩), .pointer (some ⟨mp, 0, none⟩), .bool ov] 74 (0, 0))
theorem PipeAt.lt {w : World} {pp rp n rc g mp : Nat} {ov : Bool} (h : PipeAt w pp rp n rc g mp ov) : pp < w.heap.size := (Array.getElem?_eq_some_iff.1 h.blk).1
theorem PipeAt.fr {w w' : World} {pp rp n rc g mp : Nat} {ov : Bool} {S : List Nat} (h : PipeAt w pp rp n rc g mp ov) (F : Fr S w w') (hp : pp ∉ S) : PipeAt w' pp rp n rc g mp ov := ⟨(F.block pp h.lt hp).trans h.blk⟩
theorem pcells4 {w : World} {g : Nat} {t : TypeId} {a0 a1 a2 a3 : Value} (h : w.heap[g]? = some (.cells #[a0, a1, a2, a3] t (0, 0))) :
    w.cell? ⟨g, 0, none⟩ = some a0 ∧ w.cell? ⟨g, 1, none⟩ = some a1 ∧ w.cell? ⟨g, 2, none⟩ = some a2 ∧ w.cell? ⟨g, 3, none⟩ = some a3 ∧ (∀ j, w.frozen? ⟨g, j, none⟩ = false) :=
  ⟨by simp [Go.Joins.cell_of_block h], by simp [Go.Joins.cell_of_block h], by simp [Go.Joins.cell_of_block h], by simp [Go.Joins.cell_of_block h], fun j => Go.Joins.unfrozen_of_block h j⟩
/-- What the pipe gives: the next byte, or none. -/
def PipeR (w : World) (pp rp n rc g mp fp : Nat) (q : Option Nat) (bs : List UInt8) (k : Nat) (l : List (Nat × Nat × Nat)) (a o f d s kk : Int) (e : Ending) (w' : World) : Prop :=
  match bs[k]? with
  | some x => e = .returned (.tuple #[.int .u8 (x.toNat : Int), .bool true]) ∧ PipeAt w' pp rp n rc g mp false ∧ Chn w' mp fp (bs.length - (k + 1)) l ∧ FeedAt w' fp q bs (k + 1) ∧ MtN w' mp a (o + 1) f d (s + (l.length : Int)) kk ∧ Fr (mp :: fp :: l.map (·.1)) w w'
  | none => e = .returned (.tuple #[.int .u8 0, .bool false]) ∧ PipeAt w' pp rp n rc g mp false ∧ Chn w' mp fp (bs.length - k) l ∧ FeedAt w' fp q bs k ∧ MtN w' mp a o f d s kk ∧ Fr (mp :: fp :: l.map (·.1)) w w'
theorem not_map {l : List (Nat × Nat × Nat)} {i : Nat} (h1 : i ∉ blks l) : i ∉ l.map (·.1) := fun hm => by
  obtain ⟨y, hy, rfl⟩ := List.mem_map.1 hm
  exact h1 (List.mem_flatMap.2 ⟨y, hy, by simp⟩)
theorem Apt.not_blks {mp fp : Nat} {q : Option Nat} {l : List (Nat × Nat × Nat)} (h : Apt mp fp q l) : mp ∉ blks l ∧ fp ∉ blks l ∧ mp ≠ fp := by
  have := h.1
  simp only [List.nodup_cons, List.mem_cons, not_or] at this
  exact ⟨this.1.2, this.2.1, this.1.1⟩
set_option maxRecDepth 100000 in
set_option maxHeartbeats 4000000 in
theorem ppnext_any {pp rp n rc g mp fp bx tk : Nat} {q : Option Nat} {bs : List UInt8} {r : List (Nat × Nat × Nat)} (hbl : bs.length ≤ 1000000000) (w : World) (k : Nat) (a o f d s kk : Int) (hP : PipeAt w pp rp n rc g mp false)
    (hC : Chn w mp fp (bs.length - k) ((g, bx, tk) :: r)) (hF : FeedAt w fp q bs k) (M : MtN w mp a o f d s kk) (hA : Apt mp fp q ((g, bx, tk) :: r)) (hpp : pp ≠ mp ∧ pp ≠ fp ∧ pp ∉ blks ((g, bx, tk) :: r)) (hs : 0 ≤ s) (hs2 : s + (((g, bx, tk) :: r).length : Int) ≤ 1000000000) (ho : 0 ≤ o) (ho2 : o ≤ 1000000000) :
    Calls Tryz.prog 13 #[.pointer (some ⟨pp, 0, none⟩)] w (PipeR w pp rp n rc g mp fp q bs k ((g, bx, tk) :: r) a o f d s kk) := by
  obtain ⟨c0, c1, c2, c3, cf⟩ := pcells4 hP.blk
  have HN := Lib.hid (gives_all hbl ((g, bx, tk) :: r) w k a o f d s kk hC hF M hA hs hs2)
  have hpS : pp ∉ (mp :: fp :: ((g, bx, tk) :: r).map (·.1)) := by simp only [List.mem_cons, not_or]; exact ⟨hpp.1, hpp.2.1, not_map hpp.2.2⟩
  have HG := Lib.hid (fun (j : Nat) (w1 : World) (F1 : Fr (mp :: fp :: ((g, bx, tk) :: r).map (·.1)) w w1) => (F1.cell (p := ⟨pp, j, none⟩) hP.lt hpS : w1.cell? ⟨pp, j, none⟩ = w.cell? ⟨pp, j, none⟩))
  have hnb := hA.not_blks
  cases hx : bs[k]? with
  | none =>
    have HQ : Hid (∀ w', GiveR w mp fp q bs k ((g, bx, tk) :: r) a o f d s kk (.returned (.tuple #[.int .u8 0, .bool false])) w' → PipeR w pp rp n rc g mp fp q bs k ((g, bx, tk) :: r) a o f d s kk (.returned (.tuple #[.int .u8 0, .bool false])) w') := Lib.hid (by
      intro w' h
      unfold GiveR at h
      unfold PipeR
      rw [hx] at h ⊢
      exact ⟨rfl, hP.fr h.2.2.2.2 hpS, h.2.1, h.2.2.1, h.2.2.2.1, h.2.2.2.2⟩)
    have HN2 : Hid (Calls Tryz.prog 25 #[.pointer (some ⟨g, 0, none⟩)] w fun e w' => e = .returned (.tuple #[.int .u8 0, .bool false]) ∧ GiveR w mp fp q bs k ((g, bx, tk) :: r) a o f d s kk (.returned (.tuple #[.int .u8 0, .bool false])) w') := Lib.hid (by
      refine HN.out.mono ?_
      intro e w' h
      have h0 := h
      unfold GiveR at h
      rw [hx] at h
      obtain ⟨rfl, -⟩ := h
      exact ⟨rfl, h0⟩)
    clear HN HG hP hC hF M hA hpp hnb hx hpS
    go_enter Tryz.func13, Tryz.ntmps13
    go_wp2_with (go_at_call 25; refine HN2.out.mono ?_; rintro e w2 ⟨rfl, G2⟩)
    go_ret2
    exact HQ.out _ G2
  | some x =>
    have HN2 : Hid (Calls Tryz.prog 25 #[.pointer (some ⟨g, 0, none⟩)] w fun e w' => e = .returned (.tuple #[.int .u8 (x.toNat : Int), .bool true]) ∧ Chn w' mp fp (bs.length - (k + 1)) ((g, bx, tk) :: r) ∧ FeedAt w' fp q bs (k + 1) ∧ MtN w' mp a o f d (s + (((g, bx, tk) :: r).length : Int)) kk ∧ Fr (mp :: fp :: ((g, bx, tk) :: r).map (·.1)) w w') := Lib.hid (by
      refine HN.out.mono ?_
      intro e w' h
      unfold GiveR at h
      rw [hx] at h
      exact h)
    have HO := Lib.hid (fun (w1 : World) (M1 : MtN w1 mp a o f d (s + (((g, bx, tk) :: r).length : Int)) kk) => out_m M1 1 (by omega) ho (by omega))
    have HK := Lib.hid (fun (w1 : World) (M1 : MtN w1 mp a o f d (s + (((g, bx, tk) :: r).length : Int)) kk) => code_m M1)
    have HQ : Hid (∀ w1 w2, Chn w1 mp fp (bs.length - (k + 1)) ((g, bx, tk) :: r) → FeedAt w1 fp q bs (k + 1) → Fr (mp :: fp :: ((g, bx, tk) :: r).map (·.1)) w w1 → MtN w2 mp a (o + 1) f d (s + (((g, bx, tk) :: r).length : Int)) kk → Fr [mp] w1 w2 → PipeR w pp rp n rc g mp fp q bs k ((g, bx, tk) :: r) a o f d s kk (.returned (.tuple #[.int .u8 (x.toNat : Int), .bool true])) w2) := Lib.hid (by
      intro w1 w2 C1 D1 F1 M2 F2
      unfold PipeR
      rw [hx]
      have F := F1.trans F2 (fun i hi => .inl (by rw [List.mem_singleton] at hi; subst hi; simp))
      exact ⟨rfl, hP.fr F hpS, Chn.fr F2 C1 (fun i hi hm => hnb.1 (by rw [List.mem_singleton] at hm; exact hm ▸ hi)), D1.fr F2 (by simpa using Ne.symm hnb.2.2) (fun i hi hm => hA.2 i hi (by rw [List.mem_singleton] at hm; rw [hm]; exact List.mem_cons_self ..)), M2, F⟩)
    generalize hll : (((g, bx, tk) :: r).length : Int) = ll at *
    generalize hlm : (((g, bx, tk) :: r).map (·.1)) = lm at *
    clear HN hP hC hF M hA hpp hnb hx hpS hll hlm
    go_enter Tryz.func13, Tryz.ntmps13
    go_wp2_with (first
      | (go_at_call 27; refine (HO.out _ M1).mono ?_; rintro e w2 ⟨rfl, M2, F2⟩)
      | (go_at_call 26; refine (HK.out _ M1).mono ?_; rintro e w2 ⟨rfl, rfl⟩)
      | (go_at_call 25; refine HN2.out.mono ?_; rintro e w1 ⟨rfl, C1, D1, M1, F1⟩; have d2 := (HG.out 2 w1 F1).trans c2))
    go_ret2
    exact HQ.out _ _ C1 D1 F1 M2 F2
set_option maxRecDepth 100000 in
/-- A stage that copies gives its memory back: none. -/
theorem give_any {w : World} {tk mp : Nat} {a o f d s kk : Int} (hT : w.heap[tk]? = some (.cells #[.pointer (some ⟨mp, 0, none⟩), .int .i64 0] 147 (0, 0))) (M : MtN w mp a o f d s kk) (ha : 0 ≤ a) (ha2 : a ≤ 1099511627776) (hne : mp ≠ tk) :
    Calls Tryz.prog 62 #[.pointer (some ⟨tk, 0, none⟩)] w fun e w' => e = .returned (.tuple #[]) ∧ w'.heap[tk]? = some (.cells #[.pointer (some ⟨mp, 0, none⟩), .int .i64 0] 147 (0, 0)) ∧ MtN w' mp a o f d s kk ∧ Fr [mp, tk] w w' := by
  have c0 : w.cell? ⟨tk, 0, none⟩ = some (.pointer (some ⟨mp, 0, none⟩)) := by simp [Go.Joins.cell_of_block hT]
  have c1 : w.cell? ⟨tk, 1, none⟩ = some (.int .i64 0) := by simp [Go.Joins.cell_of_block hT]
  have HL := Lib.hid (fun (wx : World) (S : Same w wx) => free_m (M.same S) 0 (by omega) ha ha2)
  have HB := Lib.hid (fun (w1 : World) (F : Fr [mp] w w1) => ((F.block tk (Array.getElem?_eq_some_iff.1 hT).1 (by simpa using Ne.symm hne)).trans hT : w1.heap[tk]? = some (.cells #[.pointer (some ⟨mp, 0, none⟩), .int .i64 0] 147 (0, 0))))
  have HK : Hid (∀ w1, Fr [mp] w w1 → w1.cell? ⟨tk, 0, none⟩ = some (.pointer (some ⟨mp, 0, none⟩)) ∧ w1.cell? ⟨tk, 1, none⟩ = some (.int .i64 0)) := Lib.hid (fun w1 F => by have h := HB.out w1 F; exact ⟨by simp [Go.Joins.cell_of_block h], by simp [Go.Joins.cell_of_block h]⟩)
  have HQ : Hid (∀ w1, Fr [mp] w w1 → MtN w1 mp (a - 0) o f d s kk → (w1.setCell ⟨tk, 1, none⟩ (.int .i64 0)).heap[tk]? = some (.cells #[.pointer (some ⟨mp, 0, none⟩), .int .i64 0] 147 (0, 0)) ∧ MtN (w1.setCell ⟨tk, 1, none⟩ (.int .i64 0)) mp a o f d s kk ∧ Fr [mp, tk] w (w1.setCell ⟨tk, 1, none⟩ (.int .i64 0))) := Lib.hid (by
    intro w1 F M1
    have F3 : Fr [tk] w1 (w1.setCell ⟨tk, 1, none⟩ (.int .i64 0)) := (Fr.refl _ _).setCell (.inl (by simp)) _
    refine ⟨Go.Joins.block_setCell (HB.out w1 F) _, ?_, (F.mono (by simp)).trans F3 (fun i hi => .inl (List.mem_cons_of_mem _ hi))⟩
    rw [Int.sub_zero] at M1
    exact M1.fr F3 (by simpa using hne))
  clear M
  go_enter Tryz.func62, Tryz.ntmps62
  go_wp2_with fail
  go_region_held3 (fun w' => w'.cell? ⟨tk, 0, none⟩ = some (.pointer (some ⟨mp, 0, none⟩)) ∧ w'.cell? ⟨tk, 1, none⟩ = some (.int .i64 0)) (first | exact ⟨c0, c1⟩ | exact HK.out _ F1) (first | (go_at_call 85; refine (HL.out _ Same.drew).mono ?_; rintro e w1 ⟨rfl, M1, F0⟩; have F1 : Fr [mp] w w1 := ((Same.drew (w := w)).fr (S := [mp])).trans F0 (fun i hi => .inl hi); have z1 : w1.frozen? ⟨tk, 1, none⟩ = false := Go.Joins.unfrozen_of_block (HB.out w1 F1) 1; have d1 := (HK.out w1 F1).2))
  go_wp2_with fail
  go_end0
  exact ⟨rfl, HQ.out _ F1 M1⟩
end Go.Proofs.YtfnblemlcjdnhaaGreat
