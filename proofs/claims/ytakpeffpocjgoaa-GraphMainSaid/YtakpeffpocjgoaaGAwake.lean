/- Contract: law 22's awake. No condition. -/
import Derived.Test.YtakpeffpocjgoaaGOneP
namespace Go.Proofs.Ytakpeffpocjgoaa
open Go.RowKit

/-- A block that has been laid, as a slice. -/
theorem sl_block {w : World} {g : Nat} {l : List Value} {t : TypeId} (h : w.heap[g]? = some (.cells l.toArray t)) (n : Nat) (hn : n = l.length) (hm : n ≤ 9223372036854775807) : Sl w (.slice (some ⟨g, 0, none⟩) n n) l :=
  ⟨_, n, by rw [hn], by omega, by omega, by simp, fun a ha _ => by
    obtain rfl := (Option.some.inj ha).symm
    exact ⟨rfl, (Array.getElem?_eq_some_iff.1 h).1, fun j _ => by rw [Go.Joins.cell_of_block h]; simp⟩⟩

/-- One coder in a block of its own. -/
theorem co_block {w : World} {g : Nat} {m : Int} {pv : Value} {t : TypeId} (h : w.heap[g]? = some (.cells #[.int .i64 m, pv] t)) (b : List UInt8) (hb : Sl w pv (bv b)) : Co w (.slice (some ⟨g, 0, none⟩) 1 1) [⟨m, b⟩] :=
  ⟨_, 1, rfl, by simp, by simp, fun j c hc => by
    have hj : j = 0 := by have := (List.getElem?_eq_some_iff.1 hc).1; simp at this; omega
    subst hj
    simp at hc
    subst hc
    exact ⟨g, 0, pv, rfl, (Array.getElem?_eq_some_iff.1 h).1, by rw [Go.Joins.cell_of_block h]; rfl, by rw [Go.Joins.cell_of_block h]; rfl, hb⟩⟩

theorem bi_nil (w : World) : Bi w (.slice none 0 0) [] := ⟨none, 0, rfl, by simp, by simp, fun j x hx => by simp at hx⟩
theorem co_nil (w : World) : Co w (.slice none 0 0) [] := ⟨none, 0, rfl, by simp, by simp, fun j x hx => by simp at hx⟩

theorem cells6 {w : World} {g : Nat} {a b c d e f : Value} {t : TypeId} (h : w.heap[g]? = some (.cells #[a, b, c, d, e, f] t)) :
    w.cell? ⟨g, 0, none⟩ = some a ∧ w.cell? ⟨g, 1, none⟩ = some b ∧ w.cell? ⟨g, 2, none⟩ = some c ∧ w.cell? ⟨g, 3, none⟩ = some d ∧ w.cell? ⟨g, 4, none⟩ = some e ∧ w.cell? ⟨g, 5, none⟩ = some f := by
  refine ⟨?_, ?_, ?_, ?_, ?_, ?_⟩
  all_goals rw [Go.Joins.cell_of_block h]; rfl

/-- A folder of one copy. -/
def oneF (n : UInt64) : Folder := ⟨[⟨1, []⟩], [], [0], [n]⟩
theorem oneF_solo (n : UInt64) : oneF n = soloF ⟨1, []⟩ n := rfl

theorem one_any (w : World) (n : UInt64) :
    Calls Try.prog 18 #[.int .u64 n.toNat] w fun e w' => (∃ v, e = .returned v ∧ Fo w' v (oneF n)) ∧ Fr [] w w' := by
  go_enter Try.func18, Try.ntmps18
  go_wp2
  obtain ⟨w1, hw1⟩ : ∃ w1, w1 = w.alloc (.cells #[.slice (some ⟨w.heap.size + 1, 0, none⟩) 1 1, .slice none 0 0, .slice (some ⟨w.heap.size + 1 + 1, 0, none⟩) 1 1, .slice (some ⟨w.heap.size + 1 + 1 + 1, 0, none⟩) 1 1, .bool false, .int .u32 0] 30) := ⟨_, rfl⟩
  rw [← hw1]
  have F1 : Fr [] w w1 := hw1 ▸ (Fr.refl _ _).alloc _
  have s1 : w1.heap.size = w.heap.size + 1 := by rw [hw1]; simp
  have b0 : w1.heap[w.heap.size]? = some (.cells #[.slice (some ⟨w.heap.size + 1, 0, none⟩) 1 1, .slice none 0 0, .slice (some ⟨w.heap.size + 1 + 1, 0, none⟩) 1 1, .slice (some ⟨w.heap.size + 1 + 1 + 1, 0, none⟩) 1 1, .bool false, .int .u32 0] 30) := hw1 ▸ heap_alloc_new w _
  obtain ⟨w2, hw2⟩ : ∃ w2, w2 = w1.alloc (.cells #[.int .i64 1, .slice none 0 0] 38) := ⟨_, rfl⟩
  have b1 : w2.heap[w1.heap.size]? = some (.cells #[.int .i64 1, .slice none 0 0] 38) := hw2 ▸ heap_alloc_new w1 _
  have s2 : w2.heap.size = w1.heap.size + 1 := by rw [hw2]; simp
  have F2 : Fr [] w1 w2 := hw2 ▸ (Fr.refl _ _).alloc _
  rw [← hw2]
  obtain ⟨w3, hw3⟩ : ∃ w3, w3 = w2.alloc (.cells #[.int .i64 0] 3) := ⟨_, rfl⟩
  have b2 : w3.heap[w2.heap.size]? = some (.cells #[.int .i64 0] 3) := hw3 ▸ heap_alloc_new w2 _
  have s3 : w3.heap.size = w2.heap.size + 1 := by rw [hw3]; simp
  have F3 : Fr [] w2 w3 := hw3 ▸ (Fr.refl _ _).alloc _
  rw [← hw3]
  obtain ⟨w4, hw4⟩ : ∃ w4, w4 = w3.alloc (.cells #[.int .u64 n.toNat] 39) := ⟨_, rfl⟩
  have b3 : w4.heap[w3.heap.size]? = some (.cells #[.int .u64 n.toNat] 39) := hw4 ▸ heap_alloc_new w3 _
  have F4 : Fr [] w3 w4 := hw4 ▸ (Fr.refl _ _).alloc _
  rw [← hw4]
  obtain ⟨d0, d1, d2, d3, d4, d5⟩ := cells6 ((F4.block _ (by omega) (by simp)).trans ((F3.block _ (by omega) (by simp)).trans ((F2.block _ (by omega) (by simp)).trans b0)))
  refine bodyPost_ret (v := .agg #[.slice (some ⟨w.heap.size + 1, 0, none⟩) 1 1, .slice none 0 0, .slice (some ⟨w.heap.size + 1 + 1, 0, none⟩) 1 1, .slice (some ⟨w.heap.size + 1 + 1 + 1, 0, none⟩) 1 1, .bool false, .int .u32 0]) (by simp [results, Try.results18, go_sem, d0, d1, d2, d3, d4, d5]) rfl ?_
  refine ⟨⟨_, rfl, _, _, _, _, _, _, rfl, ?_, bi_nil _, ?_, ?_⟩, ((F1.trans0 F2).trans0 F3).trans0 F4⟩
  · rw [← s1]
    exact co_block ((F4.block _ (by omega) (by simp)).trans ((F3.block _ (by omega) (by simp)).trans b1)) [] (Sl.nil _)
  · rw [← s1, ← s2]
    exact sl_block (l := iv [0]) ((F4.block _ (by omega) (by simp)).trans b2) 1 rfl (by simp)
  · rw [← s1, ← s2, ← s3]
    exact sl_block (l := u64v [n]) b3 1 rfl (by simp)

theorem small_one (n : UInt64) : Small (oneF n) := ⟨by simp [oneF], by simp [oneF], by simp [oneF], by simp [oneF]⟩
theorem props_one (n : UInt64) : ∀ c ∈ (oneF n).coders, c.props.length ≤ 2000 := by intro c hc; simp [oneF] at hc; subst hc; simp

theorem code_same : codeP (oneF 5) [5] = 0 := by
  rw [oneF_solo, solo_code _ _ _ (by decide)]
  unfold soloCode
  rw [if_neg (by decide), if_neg (by decide), if_neg (by decide), if_neg (by decide)]
theorem code_other : codeP (oneF 5) [6] = 13 := by
  rw [oneF_solo, solo_code _ _ _ (by decide)]
  unfold soloCode
  rw [if_neg (by decide), if_neg (by decide), if_neg (by decide), if_pos (by decide)]
theorem code_none : codeP ⟨[], [], [], []⟩ [] = 10 := codeP_graph (fun H => by have := H.least; simp at this)

theorem awake_any (w : World) : Calls Try.prog 7 #[] w fun e w' => e = .returned (.bool true) ∧ Fr [] w w' := by
  go_enter Try.func7, Try.ntmps7
  go_wp2_with fail
  refine (one_any _ 5).mono ?_
  rintro e w1 ⟨⟨v1, rfl, h1⟩, F1⟩
  go_wp2_with fail
  refine (check_any _ _ _ (oneF 5) (h1.fr ((Fr.refl _ _).alloc _)) (small_one 5) (props_one 5) [5] (sl_block (l := u64v [5]) (heap_alloc_new w1 _) 1 rfl (by simp)) (by simp)).mono ?_
  rw [code_same]
  rintro e w2 ⟨rfl, F2⟩
  have G2 := (F1.alloc _).trans0 F2
  clear F1 F2 h1
  go_wp2_with fail
  refine (one_any _ 5).mono ?_
  rintro e w3 ⟨⟨v2, rfl, h2⟩, F3⟩
  go_wp2_with fail
  refine (check_any _ _ _ (oneF 5) (h2.fr ((Fr.refl _ _).alloc _)) (small_one 5) (props_one 5) [6] (sl_block (l := u64v [6]) (heap_alloc_new w3 _) 1 rfl (by simp)) (by simp)).mono ?_
  rw [code_other]
  rintro e w4 ⟨rfl, F4⟩
  have G4 := ((G2.trans0 F3).alloc _).trans0 F4
  clear G2 F3 F4 h2
  go_wp2_with fail
  refine (check_any _ _ _ ⟨[], [], [], []⟩ ⟨_, _, _, _, _, _, rfl, co_nil _, bi_nil _, Sl.nil _, Sl.nil _⟩ ⟨by simp, by simp, by simp, by simp⟩ (by simp) [] (Sl.nil _) (by simp)).mono ?_
  rw [code_none]
  rintro e w5 ⟨rfl, F5⟩
  have G5 := G4.trans0 F5
  clear G4 F5
  go_wp2_with fail
  go_ret
  exact ⟨rfl, G5⟩
end Go.Proofs.Ytakpeffpocjgoaa
