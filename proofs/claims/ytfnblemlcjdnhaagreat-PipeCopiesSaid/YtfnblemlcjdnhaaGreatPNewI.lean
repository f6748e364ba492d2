/- What New of a pipe keeps while it makes the stages of copies (layer 23). No condition. -/
import Derived.Test.YtfnblemlcjdnhaaGreatPNewP
import Derived.Test.YtfnblemlcjdnhaaGreatPMake
namespace Go.Proofs.YtfnblemlcjdnhaaGreat
open Go.RowKit

/-- A new feed; the type of the block that its bytes lie in. -/
def NewFeedTy (bs : List UInt8) (w : World) (e : Ending) (w' : World) : Prop :=
  ∃ p q, e = .returned (.pointer (some ⟨p, 0, none⟩)) ∧ w.heap.size ≤ p ∧ (∀ k, q = some k → w.heap.size ≤ k ∧ k < p ∧ ∃ c, w'.heap[k]? = some (.cells c 5)) ∧ FeedAt w' p q bs 0 ∧ Fr [] w w'
theorem newfeed_ty (w : World) (v : Value) (bs : List UInt8) (h : Sl w v (bv bs)) (hb : bs.length ≤ 140737488355328) :
    Calls Tryz.prog 22 #[v] w (NewFeedTy bs w) := by
  obtain ⟨ao, cap, rfl, g, m, o⟩ := h.out
  go_enter Tryz.func22, Tryz.ntmps22
  go_wp2_with fail
  refine (clone_any w _ bs h hb).mono ?_
  rintro e w1 ⟨r, rfl, hown, hf1⟩
  have hs := Sl.of_own hown
  obtain ⟨ao2, cap2, rfl, g2, m2, o2⟩ := hs.out
  have hz := hf1.size
  rw [bv_length] at *
  clear h o o2
  go_wp2
  go_ret
  have F : Fr [] w1 (w1.alloc (.cells #[.slice ao2 bs.length cap2, .int .i64 0] 103)) := (Fr.refl _ _).alloc _
  have hlt := hown.lt
  refine ⟨w1.heap.size, (Value.slice ao2 bs.length cap2).ownBlock, rfl, hz, fun k hk => ⟨(hlt k hk).1, (hlt k hk).2, ?_⟩, ⟨⟨ao2, cap2, ?_, hs.fr0 F, rfl⟩, Nat.zero_le _, fun hk => ?_⟩, hf1.trans0 F⟩
  · obtain ⟨c, hc⟩ := own_ty hown k hk
    exact ⟨c, (F.block k (hlt k hk).2 (by simp)).trans hc⟩
  · exact heap_alloc_new _ _
  · have := (hlt _ hk).2
    omega

theorem own_some {w : World} {b e s : Nat} {ao : Option Addr} {n n' cap : Nat} {xs : List Value} (h : w.ownsRow b e s (.slice ao n cap) n' xs) (hn : 1 ≤ n') : ∃ g, ao = some ⟨g, 0, none⟩ := by
  rcases h.2 with ⟨_, h0⟩ | ⟨g, cap, cur, e, _⟩
  · omega
  · simp at e
    exact ⟨g, e.1⟩
theorem own_cell {w : World} {b e g n cap : Nat} {xs : List Value} (h : w.ownsRow b e 1 (.slice (some ⟨g, 0, none⟩) n cap) n xs) (j : Nat) (hj : j < n) : w.cell? ⟨g, j, none⟩ = xs[j]? := h.cellAt j (by omega)
/-- A pointer to a stage; the stages from the lowest; the coders' stages. -/
def ptrV (g : Nat) : Value := .pointer (some ⟨g, 0, none⟩)
def ptrs (l : List (Nat × Nat × Nat)) : List Value := l.reverse.map fun x => ptrV x.1
def madeC (n : Nat) (l : List (Nat × Nat × Nat)) : List Value := List.replicate (n - l.length) (.pointer none) ++ l.map fun x => ptrV x.1
theorem madeC_len {n : Nat} {l : List (Nat × Nat × Nat)} (h : l.length ≤ n) : (madeC n l).length = n := by simp [madeC]; omega
theorem madeC_put {n : Nat} {l : List (Nat × Nat × Nat)} (x : Nat × Nat × Nat) (h : l.length < n) : (madeC n l).set (n - 1 - l.length) (ptrV x.1) = madeC n (x :: l) := by
  unfold madeC
  obtain ⟨m, hm⟩ : ∃ m, n - l.length = m + 1 := ⟨n - l.length - 1, by omega⟩
  rw [hm, show n - 1 - l.length = m from by omega, show n - (x :: l).length = m from by rw [List.length_cons]; omega, List.replicate_succ', List.append_assoc]
  rw [List.set_append_right _ _ (by simp)]
  simp
theorem madeC_at {n : Nat} {l : List (Nat × Nat × Nat)} (i : Nat) (x : Nat × Nat × Nat) (hx : l[i]? = some x) : (madeC n l)[n - l.length + i]? = some (ptrV x.1) := by
  unfold madeC
  rw [List.getElem?_append_right (by simp)]
  simp [hx]
/-- What New keeps: the pipe's block, the row of its stages, the stages by coder, the chain, the feed once there is one. -/
structure NI (w0 : World) (mp pp mb n sz : Nat) (bs : List UInt8) (fp : Nat) (q : Option Nat) (l : List (Nat × Nat × Nat)) (sv : Value) (wx : World) : Prop where
  hp : wx.heap[pp]? = some (.cells #[sv, .pointer none, ptrV mp, .bool false] 74)
  st : wx.ownsRow w0.heap.size 72 1 sv l.length (ptrs l)
  md : wx.ownsRow mb 72 1 (.slice (some ⟨mb, 0, none⟩) n n) n (madeC n l)
  ch : Chn wx mp fp sz l
  mt : MtN wx mp 0 0 0 0 0 0
  fd : l ≠ [] → FeedAt wx fp q bs 0 ∧ Apt mp fp q l ∧ w0.heap.size ≤ fp ∧ ∀ i, q = some i → w0.heap.size ≤ i ∧ ∃ c, wx.heap[i]? = some (.cells c 5)
  ge : ∀ i ∈ blks l, w0.heap.size ≤ i
  fr : Fr [mp, pp, mb] w0 wx
/-- The same, and there is a feed. -/
def NF (w0 : World) (mp pp mb n sz : Nat) (bs : List UInt8) (fp : Nat) (q : Option Nat) (l : List (Nat × Nat × Nat)) (sv : Value) (wx : World) : Prop :=
  NI w0 mp pp mb n sz bs fp q l sv wx ∧ FeedAt wx fp q bs 0 ∧ Apt mp fp q l ∧ w0.heap.size ≤ fp ∧ ∀ i, q = some i → w0.heap.size ≤ i ∧ ∃ c, wx.heap[i]? = some (.cells c 5)
/-- The source that a new stage is to have. -/
def InnR (w0 : World) (mp pp mb n sz : Nat) (bs : List UInt8) (l : List (Nat × Nat × Nat)) (sv : Value) (wA : World) (inn : Value) (wx : World) : Prop :=
  ∃ ib ic fp q, inn = .slice (some ⟨ib, 0, none⟩) 1 ic ∧ wx.cell? ⟨ib, 0, none⟩ = some (srcV fp (l.map (·.1))) ∧ NF w0 mp pp mb n sz bs fp q l sv wx ∧ Fr [] wA wx
section
variable {w0 : World} {mp pp mb n sz : Nat} {bs : List UInt8} {fp : Nat} {q : Option Nat} {l : List (Nat × Nat × Nat)} {sv : Value} {wx : World}
theorem Chn.lt {w : World} {mp fp left : Nat} : ∀ {l : List (Nat × Nat × Nat)}, Chn w mp fp left l → ∀ i ∈ blks l, i < w.heap.size
  | [], _, i, h => by simp [blks] at h
  | (g, bx, tk) :: r, hC, i, h => by
    rw [blks_cons] at h
    have := hC.1.lt
    rcases List.mem_append.1 h with h | h
    · simp only [List.mem_cons, List.not_mem_nil, or_false] at h
      omega
    · exact hC.2.lt i h
theorem NI.fresh (H : NI w0 mp pp mb n sz bs fp q l sv wx) {w2 : World} (F : Fr [] wx w2) : NI w0 mp pp mb n sz bs fp q l sv w2 :=
  ⟨(F.block pp (Array.getElem?_eq_some_iff.1 H.hp).1 (by simp)).trans H.hp, own_frS H.st F (by simp), own_frS H.md F (by simp), Chn.fr F H.ch (by simp), H.mt.fr F (by simp),
    fun h => ⟨(H.fd h).1.fr F (by simp) (by simp), (H.fd h).2.1, (H.fd h).2.2.1, fun i hi => ⟨((H.fd h).2.2.2 i hi).1, by
      obtain ⟨c, hc⟩ := ((H.fd h).2.2.2 i hi).2
      exact ⟨c, (F.block i (Array.getElem?_eq_some_iff.1 hc).1 (by simp)).trans hc⟩⟩⟩, H.ge, H.fr.trans0 F⟩
theorem NF.fresh (H : NF w0 mp pp mb n sz bs fp q l sv wx) {w2 : World} (F : Fr [] wx w2) : NF w0 mp pp mb n sz bs fp q l sv w2 :=
  ⟨H.1.fresh F, H.2.1.fr F (by simp) (by simp), H.2.2.1, H.2.2.2.1, fun i hi => ⟨(H.2.2.2.2 i hi).1, by
      obtain ⟨c, hc⟩ := (H.2.2.2.2 i hi).2
      exact ⟨c, (F.block i (Array.getElem?_eq_some_iff.1 hc).1 (by simp)).trans hc⟩⟩⟩
theorem NI.nf (H : NI w0 mp pp mb n sz bs fp q l sv wx) (h : l ≠ []) : NF w0 mp pp mb n sz bs fp q l sv wx := ⟨H, H.fd h⟩
theorem NI.begin (H : NI w0 mp pp mb n sz bs fp q [] sv wx) (hm : mp < w0.heap.size) {w2 : World} {fp2 : Nat} {q2 : Option Nat} (F : Fr [] wx w2) (hf : wx.heap.size ≤ fp2) (hq : ∀ k, q2 = some k → wx.heap.size ≤ k ∧ k < fp2 ∧ ∃ c, w2.heap[k]? = some (.cells c 5)) (hF : FeedAt w2 fp2 q2 bs 0) : NF w0 mp pp mb n sz bs fp2 q2 [] sv w2 := by
  have h2 := H.fresh F
  have hz := H.fr.size
  refine ⟨⟨h2.hp, h2.st, h2.md, trivial, h2.mt, fun h => absurd rfl h, by simp [blks], h2.fr⟩, hF, ⟨?_, fun i hi => ?_⟩, by omega, fun i hi => ⟨by have := (hq i hi).1; omega, (hq i hi).2.2⟩⟩
  · simp [blks]; omega
  · have := hq i hi
    simp [blks]
    omega
theorem chn_not_ptr {w : World} {mp fp left : Nat} : ∀ {l : List (Nat × Nat × Nat)}, Chn w mp fp left l → ∀ i ∈ blks l, ∀ c, w.heap[i]? ≠ some (.cells c 72)
  | [], _, i, hi => by simp [blks] at hi
  | (g, bx, tk) :: r, hC, i, hi => by
    intro c hc
    rw [blks_cons] at hi
    rcases List.mem_append.1 hi with hi | hi
    · simp only [List.mem_cons, List.not_mem_nil, or_false] at hi
      rcases hi with rfl | rfl | rfl
      · rw [hC.1.blk] at hc; simp at hc
      · rw [hC.1.box] at hc; simp at hc
      · rw [hC.1.tak] at hc; simp at hc
    · exact chn_not_ptr hC.2 i hi c hc
theorem NF.step (H : NF w0 mp pp mb n sz bs fp q l sv wx) (hlt : mp < w0.heap.size ∧ pp < w0.heap.size ∧ mb < w0.heap.size) {wf : World} {g bx tk : Nat} {sv' : Value} (hp : wf.heap[pp]? = some (.cells #[sv', .pointer none, ptrV mp, .bool false] 74))
    (st : wf.ownsRow w0.heap.size 72 1 sv' (l.length + 1) (ptrs l ++ [ptrV g])) (md : wf.ownsRow mb 72 1 (.slice (some ⟨mb, 0, none⟩) n n) n (madeC n ((g, bx, tk) :: l))) (sg : StgAt wf g bx tk mp sz (srcV fp (l.map (·.1)))) (mt : MtN wf mp 0 0 0 0 0 0)
    (F : Fr (mp :: pp :: mb :: sv.ownBlock.toList) wx wf) (h1 : wx.heap.size ≤ tk) (h2 : tk < bx) (h3 : bx < g) : NI w0 mp pp mb n sz bs fp q ((g, bx, tk) :: l) sv' wf := by
  obtain ⟨H, hF, hA, hfp, hq⟩ := H
  have hz := H.fr.size
  have hown : ∀ k, sv.ownBlock = some k → w0.heap.size ≤ k ∧ ∃ c, wx.heap[k]? = some (.cells c 72) := fun k hk => ⟨(own_ltS H.st k hk).1, own_ty H.st k hk⟩
  have hnot : ∀ i, w0.heap.size ≤ i → (∀ c, wx.heap[i]? ≠ some (.cells c 72)) → i ∉ (mp :: pp :: mb :: sv.ownBlock.toList) := fun i hi hne hm => by
    simp only [List.mem_cons, Option.mem_toList] at hm
    rcases hm with rfl | rfl | rfl | hm
    · omega
    · omega
    · omega
    · obtain ⟨_, c, hc⟩ := hown i hm
      exact hne c hc
  have hblk : ∀ i ∈ blks l, ∀ c, wx.heap[i]? ≠ some (.cells c 72) := chn_not_ptr H.ch
  have nfp : fp ∉ (mp :: pp :: mb :: sv.ownBlock.toList) := hnot fp hfp (fun c hc => by
    obtain ⟨ao, cap, hb, -⟩ := hF.out
    rw [hb] at hc; simp at hc)
  have nq : ∀ k, q = some k → k ∉ (mp :: pp :: mb :: sv.ownBlock.toList) := fun k hk => hnot k (hq k hk).1 (fun c hc => by
    obtain ⟨_, c2, hb⟩ := hq k hk
    rw [hb] at hc; simp at hc)
  have hF2 := hF.fr F nfp nq
  have hlt2 := H.ch.lt
  have hAl : FeedAt wx fp q bs 0 := hF
  have hfl := hF.lt
  have hA2 : Apt mp fp q ((g, bx, tk) :: l) := by
    obtain ⟨a1, a2⟩ := hA
    have hmpl : mp < wx.heap.size := by omega
    refine ⟨?_, fun i hi => ?_⟩
    · rw [blks_cons]
      simp only [List.cons_append, List.nil_append, List.nodup_cons, List.mem_cons, not_or] at a1 ⊢
      refine ⟨⟨a1.1.1, by omega, by omega, by omega, a1.1.2⟩, ⟨by omega, by omega, by omega, a1.2.1⟩, ⟨by omega, by omega, fun h => by have := hlt2 g h; omega⟩, ⟨by omega, fun h => by have := hlt2 bx h; omega⟩, fun h => by have := hlt2 tk h; omega, a1.2.2⟩
    · have h5 := a2 i hi
      obtain ⟨_, c2, hb⟩ := hq i hi
      have h6 := (Array.getElem?_eq_some_iff.1 hb).1
      rw [blks_cons]
      simp only [List.cons_append, List.nil_append, List.mem_cons, not_or] at h5 ⊢
      exact ⟨h5.1, h5.2.1, by omega, by omega, by omega, h5.2.2⟩
  refine ⟨hp, ?_, md, ⟨sg, Chn.fr F H.ch (fun i hi => hnot i (H.ge i hi) (hblk i hi))⟩, mt, fun _ => ⟨hF2, hA2, hfp, fun i hi => ⟨(hq i hi).1, ?_⟩⟩, ?_, ?_⟩
  · have e : ptrs ((g, bx, tk) :: l) = ptrs l ++ [ptrV g] := by simp [ptrs]
    rw [e]
    exact st
  · obtain ⟨c, hc⟩ := (hq i hi).2
    exact ⟨c, (F.block i (Array.getElem?_eq_some_iff.1 hc).1 (nq i hi)).trans hc⟩
  · intro i hi
    rw [blks_cons] at hi
    rcases List.mem_append.1 hi with hi | hi
    · simp only [List.mem_cons, List.not_mem_nil, or_false] at hi
      omega
    · exact H.ge i hi
  · refine H.fr.trans F (fun i hi => ?_)
    simp only [List.mem_cons, Option.mem_toList] at hi
    rcases hi with rfl | rfl | rfl | hi
    · exact .inl (by simp)
    · exact .inl (by simp)
    · exact .inl (by simp)
    · exact .inr (hown i hi).1
end
end Go.Proofs.YtfnblemlcjdnhaaGreat
