/- Contracts: Desc of a book that says nothing; run and Extract of an archive without entries (layer 26). No condition but that nothing is spent and lengths fit. -/
import Derived.Test.YthbkcjlpelihlaaGreatDoorGAT
import Derived.Test.YthbkcjlpelihlaaGreatDoorGAV
import Derived.Laws.MakeOwn
namespace Go.Proofs.YthbkcjlpelihlaaGreatDoor
open Go.RowKit Go.Maps

theorem info_u8E : (Tryz.prog.info? 5).map (fun i => (i.zero, i.size, i.bytes)) = some (some (.int .u8 0), 1, 1) := by kernel_rfl
theorem cells5 {w : World} {g : Nat} {t : TypeId} {a0 a1 a2 a3 a4 : Value} (h : w.heap[g]? = some (.cells #[a0, a1, a2, a3, a4] t (0, 0))) :
    w.cell? ⟨g, 0, none⟩ = some a0 ∧ w.cell? ⟨g, 1, none⟩ = some a1 ∧ w.cell? ⟨g, 2, none⟩ = some a2 ∧ w.cell? ⟨g, 3, none⟩ = some a3 ∧ w.cell? ⟨g, 4, none⟩ = some a4 ∧ (∀ j, w.frozen? ⟨g, j, none⟩ = false) :=
  ⟨by simp [Go.Joins.cell_of_block h], by simp [Go.Joins.cell_of_block h], by simp [Go.Joins.cell_of_block h], by simp [Go.Joins.cell_of_block h], by simp [Go.Joins.cell_of_block h], fun j => Go.Joins.unfrozen_of_block h j⟩
theorem ExF.trw {lo : Nat} {L T : List Nat} {a b c : World} (h : ExF lo L a b) (k : ExF lo T b c) (hT : ∀ i ∈ T, i ∈ L ∨ a.heap.size ≤ i) : ExF lo L a c := by
  obtain ⟨S, F, hS⟩ := h
  obtain ⟨U, G, hU⟩ := k
  refine ⟨S ++ U.filter (fun i => decide (i < a.heap.size)), (F.mono (fun i hi => by simp [hi])).trans G (fun i hi => ?_), fun i hi => ?_⟩
  · by_cases hl : i < a.heap.size
    · exact .inl (by simp [hi, hl])
    · exact .inr (by omega)
  · rcases List.mem_append.1 hi with hi | hi
    · exact hS i hi
    · rw [List.mem_filter] at hi
      have hl : i < a.heap.size := by simpa using hi.2
      rcases hU i hi.1 with e | ⟨e1, e2⟩
      · rcases hT i e with e | e
        · exact .inl e
        · omega
      · by_cases hm : i ∈ L
        · exact .inl hm
        · exact .inr ⟨e1, TyS.back F (fun hs => by rcases hS i hs with q | q; exact absurd q hm; exact q.2) e2⟩
theorem run_leaf {w2 X : World} {n sp mp g : Nat} {root : List UInt8} {mb : Option Nat} {pv : Value} (F : Fr [] w2 X) (hn : X.heap.size = n) :
    ∃ gw mb' pv', Value.pointer (some ⟨n, 0, none⟩) = .pointer (some ⟨gw, 0, none⟩) ∧ WkAt (X.alloc (.cells #[.pointer (some ⟨sp, 0, none⟩), .pointer (some ⟨mp, 0, none⟩), .pointer (some ⟨g, 0, none⟩), .slice none 0 0, .string ⟨root.toArray⟩, .string ⟨#[]⟩, .map mb, .int .i64 0, pv] 117)) gw sp mp g (.slice none 0 0) root [] mb' 0 pv' ∧ w2.heap.size ≤ gw ∧ Fr [] w2 (X.alloc (.cells #[.pointer (some ⟨sp, 0, none⟩), .pointer (some ⟨mp, 0, none⟩), .pointer (some ⟨g, 0, none⟩), .slice none 0 0, .string ⟨root.toArray⟩, .string ⟨#[]⟩, .map mb, .int .i64 0, pv] 117)) := by
  subst hn
  exact ⟨_, mb, pv, rfl, ⟨heap_alloc_new X _⟩, F.size, F.alloc _⟩
theorem then_only {P : Program} {c : Code} {K : Act → World → Prop} {Q : Exit → Act → World → Prop} {a : Act} {w : World} (h : c.wp P (Exit.then K (fun _ _ _ => False)) a w) : c.wp P (Exit.then K Q) a w :=
  Code.wp_mono (fun e a w h => by cases e <;> first | exact h | exact h.elim) h
/-- What an extraction of an archive without entries leaves. -/
def RunR (lo sp mp n nc : Nat) (fl : Fl) (K : Tree) (root : List UInt8) (a o f d : Int) (w w' : World) : Prop :=
  ∃ i n' s' k', i < 10 ∧ (∀ j, j < i → K (stP root j) ≠ none) ∧ K (stP root i) = none ∧ SandAt w' lo sp n' (nc + 1 + i + 2 + 1) fl K ∧ n' ≤ n + 1 ∧ MtN w' mp a o f d s' k' ∧ ExF lo [mp] w w'
set_option maxRecDepth 100000 in
set_option maxHeartbeats 4000000 in
theorem run0_any {w : World} {mp sp lo n nc : Nat} {a o f d s k : Int} {fl : Fl} {K : Tree} {root : List UInt8} (M : MtN w mp a o f d s k) (ha : 0 ≤ a) (ha2 : a ≤ 1000000) (hs : 0 ≤ s) (hs2 : s ≤ 100000) (S : SandAt w lo sp n nc fl K) (hG : Gl w) (hm3 : 3 ≤ mp) (hlo : 3 ≤ lo) 
    (v : Value) (b : List UInt8) (h : Sl w v (bv b)) (hb : b.length ≤ 40000) (hc : opCode b = 0) {head : List UInt8} (hh : opHead b = head) (hP : FilesP head 0 NilRow) (hhl : head.length ≤ 40000)
    (hK : MayK K) (hr : kindK K root = 1) (hrc : cleanL foldL root = true) (hrl : root.length ≤ 1000) (hcl : ∀ i, i < 10 → cleanL foldL (stP root i) = true) (hex : ∃ i, i < 10 ∧ K (stP root i) = none) (hn : n ≤ 30000) (hnc : nc ≤ 80000)
    (hl0 : fl.ok nc root ⟨#[]⟩) (hl1 : ∀ i, i < 10 → (∀ j, j < i → K (stP root j) ≠ none) → fl.ok (nc + 1 + i) (stP root i) ⟨#[]⟩ ∧ fl.ok (nc + 1 + (i + 1)) (stP root i) ⟨#[]⟩) (hl2 : ∀ i, i < 10 → (∀ j, j < i → K (stP root j) ≠ none) → fl.ok (nc + 1 + i + 2) (stP root i) ⟨root.toArray⟩) :
    Calls Tryz.prog 25 #[v, .pointer (some ⟨mp, 0, none⟩), .pointer (some ⟨sp, 0, none⟩), .string ⟨root.toArray⟩] w fun e w' => e = .returned (.int .i64 0) ∧ RunR lo sp mp n nc fl K root a o f d w w' := by
  have HO := Lib.hid (open_none M hs (by omega) v b h hb hc hh hP (fun _ _ _ _ _ hR _ _ => hR))
  have HS := Lib.hid S
  have HG := Lib.hid hG
  have HA := Lib.hid (fun (w1 w3 : World) (g gw : Nat) (av : Value) (mb : Option Nat) (pv : Value) (s2 k2 : Int) (F1 : Fr [mp] w w1) (F3 : Fr [] w1 w3) (hg : w.heap.size ≤ g) (hgw : w1.heap.size ≤ gw) (hgg : g < w1.heap.size) (h0 : 0 ≤ s2) (h1 : s2 ≤ 800000) (B3 : BkAt w3 g mp av (.slice none 0 0) (.slice none 0 0) (.slice none 0 0) (.slice none 0 0) (.slice none 0 0) (.slice none 0 0) (.slice none 0 0)) (M3 : MtN w3 mp (a + 256) o f d s2 k2) (W3 : WkAt w3 gw sp mp g (.slice none 0 0) root [] mb 0 pv) =>
    all0_any W3 B3 M3 h0 h1 (((S.mt M F1)).fr0 F3) ((ExF.gl hG (ExF.mt (lo := 3) F1) (by decide) (by simpa using hm3)).fr F3) (by have := M.lt; have := F1.size; omega) (by omega) (by have := M.lt; omega) hm3 (by have := M.lt; omega) hlo hK hr hrc hrl hcl hex hn hnc hl0 hl1 hl2)
  have hml := M.lt
  obtain ⟨ao, cap, rfl, -⟩ := h.out
  rw [bv_length] at HO ⊢
  have hmm := @run_makeMap Tryz.prog
  clear h M S hG hK hr hrc hcl hex hl0 hl1 hl2 hc hh hP
  go_enter_defers Tryz.func25, Tryz.ntmps25
  go_upto_region 7 with (first
    | (have hq := B1; go_at_call 41; refine HME.out.mono ?_; rintro e w2 ⟨rfl, M2, F2⟩)
    | (go_at_call 40; refine HO.out.mono ?_; rintro e w1 ⟨g, av, pao, pc, cao, cc, fao, fc, sao, sc, eao, ec, lo1, rfl, B1, M1, R1, hg1, hm1, hgA, F1⟩; have HME := Lib.hid (mem_m M1 256 (by omega) ha (by omega))))
  have hR : (Value.agg #[.slice pao 0 pc, .slice cao 0 cc, .slice fao 0 fc, .slice sao 0 sc, .slice eao 0 ec]) = .agg #[.slice none 0 0, .slice none 0 0, .slice none 0 0, .slice none 0 0, .slice none 0 0] := R1
  injection hR with hR
  simp at hR
  obtain ⟨⟨rfl, rfl⟩, ⟨rfl, rfl⟩, ⟨rfl, rfl⟩, ⟨rfl, rfl⟩, rfl, rfl⟩ := hR
  have hgl := B1.lt
  have B2 := B1.fr F2 (by simp; omega)
  have HD := Lib.hid (fun (wx : World) (F : Fr [] w2 wx) => desc0_any (B2.fr F (by simp)))
  have hfd : ∀ w : World, (Instr.field 113 (.agg #[.bool false, .int .u64 0, .slice none 0 0, .slice none 0 0, .slice none 0 0, .slice none 0 0, .slice none 0 0]) 6).run Tryz.prog w = .ok (.slice none 0 0) w := fun _ => by kernel_rfl
  obtain ⟨i0, hi0, hz0, hs0, hb0⟩ := info_parts info_u8E
  have hms := fun w : World => run_makeSlice (P := Tryz.prog) w 26 5 i0 _ Tryz.underlying26 hi0 hz0 .i64 .i64 0 256 (by decide) (by decide) (by rw [hs0]; decide) (by rw [hb0]; decide) (by decide)
  clear R1
  rename_i K7 hK7
  go_cut [11] from 12 to 39 (fun v11 wx => ∃ gw mb pv, v11 = .pointer (some ⟨gw, 0, none⟩) ∧ WkAt wx gw sp mp g (.slice none 0 0) root [] mb 0 pv ∧ w2.heap.size ≤ gw ∧ Fr [] w2 wx)
  case first =>
    clear hK7
    refine then_only ?_
    go_region_law (first | (go_simp; go_at_call 44; (refine (HD.out _ (by first | exact (Fr.refl [] w2).drew | exact ((Fr.refl [] w2).alloc _).drew | exact (((Fr.refl [] w2).alloc _).alloc _).drew)).mono ?_; rintro e w3 ⟨rfl, F3⟩)))
    all_goals (go_simp; try go_step)
    all_goals go_meet
    all_goals refine run_leaf ?_ ?_
    all_goals first
      | (simp; done)
      | rfl
      | exact (((Fr.refl [] w2).drew.trans0 F3).alloc _).alloc _
      | exact (((((Fr.refl [] w2).alloc _).drew.trans0 F3).alloc _))
      | exact ((((Fr.refl [] w2).alloc _).alloc _).drew.trans0 F3)
  case rest =>
    obtain ⟨gw, mb, pv, rfl, W4, hgw, F4⟩ := hcut
    have B4 := B2.fr F4 (by simp)
    have M4 := M2.fr F4 (by simp)
    have F12 : Fr [mp] w w2 := F1.trans F2 (by simp)
    have hs2 := F2.size
    have HAL := Lib.hid (HA.out w2 wc g gw av mb pv _ _ F12 F4 hgA hgw (by omega) (by omega) (by omega) B4 M4 W4)
    have HF := Lib.hid (And.intro F12 F4)
    clear W4 B4 M4 B2 B1 M1 M2 F1 F2 HD hms hfd hi0 hz0 hs0 hb0
    (refine hK7 _ _ ?_; clear hK7)
    go_wp2_with (go_at_call 45; refine HAL.out.mono ?_; rintro e w5 ⟨rfl, i, n', s', hi, hj, h0, S5, hn', M5, hs1, hs3, X5⟩)
    unfold bodyPostD
    refine leaves_cons (f := 43) (args := #[.pointer (some ⟨mp, 0, none⟩), .int .i64 256]) (by simp) (by simp [go_sem]) ?_
    refine (free_d M5 256 (by decide) (by omega) (by omega) .returning).mono ?_
    rintro e u' w6 ⟨rfl, rfl, M6, F6⟩
    simp [Leaves, settle, results, Tryz.results25]
    refine ⟨i, n', s', _, hi, hj, h0, S5.mt M5 F6, hn', by simpa using M6, ?_⟩
    have hsz := HF.out.1.size
    exact (((ExF.mt HF.out.1).trn HF.out.2 (by simp)).trw X5 (by simp; omega)).trans (ExF.mt F6)

end Go.Proofs.YthbkcjlpelihlaaGreatDoor
