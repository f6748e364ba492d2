/- What the calls keep: plain laws. No condition. -/
import Derived.Test.YthbkcjlpelihlaaGreatDoorGAP
import Derived.Test.YthbkcjlpelihlaaGreatDoorGAR
import Derived.Test.YthbkcjlpelihlaaGreatDoorNRuneBM
import Derived.Test.YthbkcjlpelihlaaGreatDoorGAO
import Derived.Test.YthbkcjlpelihlaaGreatDoorGAF
namespace Go.Proofs.YthbkcjlpelihlaaGreatDoor
open Go.RowKit

theorem mk_may {K : Tree} (hK : MayK K) (q : List UInt8) {kd : Int} (hk : kd = 1 ∨ kd = 2) : MayK (mkK K q kd).2 := by
  unfold mkK
  split
  · exact hK
  · split
    · exact hK
    · rename_i h1 h2
      simp only [Bool.or_eq_true, Bool.not_eq_true', not_or, Bool.not_eq_true, Bool.not_eq_false] at h1 h2
      refine may_upd hK h1 ?_ h2.2 (fun u hu => by rw [hu] at h2; simp at h2)
      rcases hk with rfl | rfl <;> rfl
theorem DatK.mk {K : Tree} {D : Nat} (h : DatK K D) (q : List UInt8) (kd : Int) : DatK (mkK K q kd).2 D := by
  unfold mkK
  split
  · exact h
  · split
    · exact h
    · exact h.upd _ ⟨Nat.zero_le _, Nat.zero_le _⟩
theorem pub_may {K : Tree} (hK : MayK K) (q to_ : List UInt8) (ks : List (List UInt8)) : MayK (publishK K q to_ ks).2 := by
  unfold publishK
  split
  · unfold pubK
    split
    · rename_i N h; exact may_lay hK h
    · exact hK
  · exact hK
theorem DatK.pub {K : Tree} {D : Nat} (h : DatK K D) (q to_ : List UInt8) (ks : List (List UInt8)) : DatK (publishK K q to_ ks).2 D := by
  unfold publishK
  split
  · unfold pubK
    split
    · rename_i N hN; exact h.lay hN
    · exact h
  · exact h
theorem app_may {K : Tree} (hK : MayK K) (q bs : List UInt8) : MayK (appendK K q bs).2 := by
  unfold appendK
  split
  · unfold appK
    split
    · rename_i hc t ht
      split
      · rename_i h2
        obtain ⟨m1, m2, m3⟩ := hK q t ht
        refine may_upd hK m1 ?_ m3 (fun u hu => by rw [ht] at hu; injection hu with hu; rw [← hu, h2])
        unfold tvMay at m2 ⊢
        rw [h2] at m2
        simpa using m2
      · exact hK
    · exact hK
  · exact hK
theorem DatK.app {K : Tree} {D : Nat} (h : DatK K D) (q : List UInt8) {bs : List UInt8} {E : Nat} (hb : bs.length ≤ E) : DatK (appendK K q bs).2 (D + E) := by
  have hw : DatK K (D + E) := fun p t e => by have := h p t e; omega
  unfold appendK
  split
  · unfold appK
    split
    · rename_i t ht
      split
      · have := h q t ht
        exact hw.upd _ ⟨by rw [List.length_append]; omega, by show t.ln.length ≤ _; omega⟩
      · exact hw
    · exact hw
  · exact hw
theorem drop_mayA {K : Tree} (hK : MayK K) (q : List UInt8) : MayK (dropA K q).2 := by
  unfold dropA
  split
  · unfold drpK
    split
    · exact may_drop hK q
    · exact hK
  · exact hK
theorem DatK.dropA {K : Tree} {D : Nat} (h : DatK K D) (q : List UInt8) : DatK (dropA K q).2 D := by
  unfold Go.Proofs.YthbkcjlpelihlaaGreatDoor.dropA
  split
  · unfold drpK
    split
    · exact h.drop q
    · exact h
  · exact h
theorem may_nil : MayK (lookL []) := fun p t h => by cases h
theorem dat_nil (D : Nat) : DatK (lookL []) D := fun p t h => by cases h
/-- A tree of one thing more: its sorted paths. -/
theorem dat_of {L : List Th} (h : SmL L) : DatK (lookL L) 5000 := by
  intro p t e
  unfold lookL at e
  obtain ⟨s, hs, rfl⟩ := Option.map_eq_some_iff.1 e
  have := h.2 s (List.mem_of_find?_eq_some hs)
  exact ⟨this.2.1, this.2.2⟩

/- awake's trees -/
def kA1 : Tree := updK (lookL []) [97] ⟨1, [], []⟩
def kA3 : Tree := updK kA1 [97, 47, 120] ⟨2, [], []⟩
def kA4 : Tree := updK kA3 [114] ⟨1, [], []⟩
def kA5 : Tree := updK (dropK kA4 [97]) [114, 47, 120] ⟨2, [], []⟩
theorem a1 : mkK (lookL []) [97] 1 = (0, kA1) := by kernel_rfl
theorem a2 : mkK kA1 [98, 47, 99] 1 = (202, kA1) := by kernel_rfl
theorem a3 : mkK kA1 [97, 47, 120] 2 = (0, kA3) := by kernel_rfl
theorem a4 : mkK kA3 [114] 1 = (0, kA4) := by kernel_rfl
theorem k4 : KeysAre kA4 [[97], [97, 47, 120], [114]] := by
  refine ⟨by decide, fun p => ?_, by decide⟩
  unfold kA4 kA3 kA1 updK
  by_cases h1 : p = [114]
  · simp [h1]
  · by_cases h2 : p = [97, 47, 120]
    · simp [h2]
    · by_cases h3 : p = [97]
      · simp [h3]
      · simp [h1, h2, h3, lookL]
theorem a5 : publishK kA4 [97] [114] [[97], [97, 47, 120], [114]] = (0, kA5) := by kernel_rfl
theorem k5 : KeysAre kA5 [[114], [114, 47, 120]] := by
  refine ⟨by decide, fun p => ?_, by decide⟩
  unfold kA5 dropK kA4 kA3 kA1 updK
  by_cases h1 : p = [114, 47, 120]
  · simp [h1]
  · by_cases h2 : p = [114]
    · subst h2; simp; decide
    · by_cases h3 : p = [97, 47, 120]
      · subst h3; simp; decide
      · by_cases h4 : p = [97]
        · simp [h4]
        · simp [h1, h2, h3, h4, lookL]
end Go.Proofs.YthbkcjlpelihlaaGreatDoor
/- Plain: runes of texts one behind the other. No condition. -/
namespace Go.Proofs.YthbkcjlpelihlaaGreatDoor

set_option maxHeartbeats 8000000 in
theorem stepN_more (n n2 b0 b1 b2 b3 c1 c2 c3 v k : Nat) (hn : n ≤ n2) (h : stepN n b0 b1 b2 b3 = some (v, k)) (h1 : 1 < k → c1 = b1) (h2 : 2 < k → c2 = b2) (h3 : 3 < k → c3 = b3) : stepN n2 b0 c1 c2 c3 = some (v, k) := by
  unfold stepN at h ⊢
  split at h
  · rename_i q
    rw [if_pos q]
    exact h
  rename_i q0
  rw [if_neg q0]
  split at h
  · simp at h
  rename_i q1
  rw [if_neg q1]
  split at h
  · rename_i q2
    rw [if_pos q2]
    split at h
    · simp at h
    rename_i q3
    split at h
    · simp at h
    rename_i q4
    simp at h
    obtain ⟨hv, rfl⟩ := h
    obtain rfl := h1 (by omega)
    rw [if_neg (by omega), if_neg q4, hv]
  rename_i q2
  rw [if_neg q2]
  split at h
  · rename_i q3
    rw [if_pos q3]
    split at h
    · simp at h
    rename_i q4
    split at h
    · simp at h
    rename_i q5
    split at h
    · simp at h
    rename_i q6
    split at h
    · simp at h
    rename_i q7
    simp at h
    obtain ⟨hv, rfl⟩ := h
    obtain rfl := h1 (by omega)
    obtain rfl := h2 (by omega)
    rw [if_neg (by omega), if_neg q5, if_neg q6, if_neg q7, hv]
  rename_i q3
  rw [if_neg q3]
  split at h
  · simp at h
  rename_i q4
  split at h
  · simp at h
  rename_i q5
  split at h
  · simp at h
  rename_i q6
  split at h
  · simp at h
  rename_i q7
  split at h
  · simp at h
  rename_i q8
  simp at h
  obtain ⟨hv, rfl⟩ := h
  obtain rfl := h1 (by omega)
  obtain rfl := h2 (by omega)
  obtain rfl := h3 (by omega)
  rw [if_neg (by omega), if_neg q5, if_neg q6, if_neg q7, if_neg q8, hv]

theorem bt_app (a b : List UInt8) (j : Nat) (h : j < a.length) : bt (a ++ b) j = bt a j := by
  unfold bt
  rw [List.getD_eq_getElem?_getD, List.getD_eq_getElem?_getD, List.getElem?_append_left h]

theorem step_app {a : List UInt8} (b : List UInt8) {v k : Nat} (h0 : a ≠ []) (h : stepL a = some (v, k)) : stepL (a ++ b) = some (v, k) := by
  have hlen : 1 ≤ a.length := by cases a with | nil => exact absurd rfl h0 | cons x t => simp
  obtain ⟨e1, e2, e3, e4, e5⟩ := stepN_some _ _ _ _ _ v k hlen (bt_lt a 0) h
  unfold stepL at h ⊢
  rw [bt_app a b 0 (by omega)]
  refine stepN_more _ _ _ _ _ _ _ _ _ _ _ (by simp) h (fun hk => bt_app a b 1 (by omega)) (fun hk => bt_app a b 2 (by omega)) (fun hk => bt_app a b 3 (by omega))

theorem runes_app (f : Nat) : ∀ (a b : List UInt8) (x : List Nat), a.length ≤ f → runesL a = some x → runesL (a ++ b) = (runesL b).map (x ++ ·) := by
  induction f with
  | zero =>
    intro a b x hl h
    obtain rfl : a = [] := List.eq_nil_of_length_eq_zero (by omega)
    rw [runesL_nil] at h
    obtain rfl : [] = x := Option.some.inj h
    simp
  | succ f ih =>
    intro a b x hl h
    by_cases h0 : a = []
    · subst h0
      rw [runesL_nil] at h
      obtain rfl : [] = x := Option.some.inj h
      simp
    · have hlen : 1 ≤ a.length := by cases a with | nil => exact absurd rfl h0 | cons x t => simp
      cases hs : stepL a with
      | none => rw [runesL_none h0 hs] at h; cases h
      | some r =>
        obtain ⟨v, k⟩ := r
        obtain ⟨e1, e2, e3, e4, e5⟩ := stepN_some _ _ _ _ _ v k hlen (bt_lt a 0) hs
        rw [runesL_some h0 hs] at h
        obtain ⟨y, hy, rfl⟩ := Option.map_eq_some_iff.1 h
        rw [runesL_some (by simp [h0]) (step_app b h0 hs), List.drop_append_of_le_length e4, ih (a.drop k) b y (by simp; omega) hy]
        cases runesL b <;> simp

theorem runesL_app (a b : List UInt8) (x : List Nat) (h : runesL a = some x) : runesL (a ++ b) = (runesL b).map (x ++ ·) := runes_app _ a b x (Nat.le_refl _) h
theorem runes_ok_app (a b : List UInt8) (h : (runesL a).isSome = true) (k : (runesL b).isSome = true) : (runesL (a ++ b)).isSome = true := by
  obtain ⟨x, hx⟩ := Option.isSome_iff_exists.1 h
  rw [runesL_app a b x hx]
  simpa using k
end Go.Proofs.YthbkcjlpelihlaaGreatDoor
/- The staging directory of an extraction: the plain law. No condition. -/
namespace Go.Proofs.YthbkcjlpelihlaaGreatDoor

/-- The name of the i-th stage. -/
def stg (i : Nat) : List UInt8 := [46, 103, 97, 114, 98, 108, 101, 114] ++ (if i = 0 then [] else [45, UInt8.ofNat (48 + i)])
/-- Where it lies. -/
def stP (r : List UInt8) (i : Nat) : List UInt8 := r ++ 47 :: stg i
theorem esplit_app : ∀ (a b : List UInt8), splitL (a ++ 47 :: b) = splitL a ++ splitL b
  | [], b => by show splitL (47 :: b) = [[]] ++ splitL b; rw [splitL, if_pos rfl]; rfl
  | x :: t, b => by
    show splitL (x :: (t ++ 47 :: b)) = splitL (x :: t) ++ splitL b
    rw [splitL, splitL, esplit_app t b]
    by_cases hx : x = 47
    · rw [if_pos hx, if_pos hx]; rfl
    · rw [if_neg hx, if_neg hx]
      cases ht : splitL t with
      | nil => exact absurd ht (splitL_ne t)
      | cons p ps => rfl
set_option maxRecDepth 100000 in
theorem stg_fine : ∀ i, i < 10 → partL foldL (stg i) = true ∧ (runesL (47 :: stg i)).isSome = true ∧ splitL (stg i) = [stg i] ∧ (stg i).length ≤ 10 ∧ (stg i).all (fun x => x != 47) = true := by decide
theorem stg_nine : (stg 9).length = 10 := by decide
theorem stP_clean {r : List UInt8} (h1 : cleanL foldL r = true) (h9 : cleanL foldL (stP r 9) = true) {i : Nat} (hi : i < 10) : cleanL foldL (stP r i) = true := by
  obtain ⟨f1, f2, f3, f4, -⟩ := stg_fine i hi
  obtain ⟨-, -, g3, -⟩ := stg_fine 9 (by decide)
  unfold cleanL at h1 h9 ⊢
  simp only [Bool.and_eq_true, decide_eq_true_eq, List.all_eq_true] at h1 h9 ⊢
  have e1 : splitL (stP r i) = splitL r ++ [stg i] := by unfold stP; rw [esplit_app, f3]
  have e2 : splitL (stP r 9) = splitL r ++ [stg 9] := by unfold stP; rw [esplit_app, g3]
  rw [e2] at h9
  obtain ⟨⟨⟨r1, r2⟩, r3⟩, r4⟩ := h1
  obtain ⟨⟨⟨-, s2⟩, s3⟩, -⟩ := h9
  refine ⟨⟨⟨runes_ok_app r (47 :: stg i) r1 f2, ?_⟩, ?_⟩, fun p hp => ?_⟩
  · unfold stP at s2 ⊢
    rw [List.length_append, List.length_cons] at s2 ⊢
    rw [stg_nine] at s2
    omega
  · rw [e1]
    rw [List.length_append] at s3 ⊢
    simp at s3 ⊢
    omega
  · rw [e1] at hp
    rcases List.mem_append.1 hp with hp | hp
    · exact r4 p hp
    · simp at hp
      subst hp
      exact f1
theorem stP_len (r : List UInt8) (i : Nat) : r.length < (stP r i).length := by unfold stP; rw [List.length_append, List.length_cons]; omega
theorem stP_up (r : List UInt8) {i : Nat} (hi : i < 10) : parentL (stP r i) = r ∧ deepL (stP r i) = true := by
  obtain ⟨-, -, -, -, f5⟩ := stg_fine i hi
  have h0 : (stP r i)[r.length]? = some 47 := by unfold stP; simp
  constructor
  · have : parentL (stP r i) = (stP r i).take r.length := parent_at h0 (fun j hj => by
      unfold stP
      rw [List.getElem?_append_right (by omega)]
      obtain ⟨m, hm⟩ : ∃ m, j - r.length = m + 1 := ⟨j - r.length - 1, by omega⟩
      rw [hm, List.getElem?_cons_succ]
      intro e
      have := List.all_eq_true.1 f5 _ (List.mem_of_getElem? e)
      simp at this)
    rw [this]
    unfold stP
    rw [List.take_left]
  · unfold deepL
    cases hl : lastS (stP r i) with
    | none => exact absurd (List.mem_of_getElem? h0) (lastS_none hl)
    | some _ => rfl
theorem stage_mk {K : Tree} {r : List UInt8} {i : Nat} (hi : i < 10) (hk : kindK K r = 1) (hc : cleanL foldL (stP r i) = true) (h0 : K (stP r i) = none) : mkK K (stP r i) 1 = (0, updK K (stP r i) ⟨1, [], []⟩) := by
  obtain ⟨e1, e2⟩ := stP_up r hi
  have hl : liesK K (stP r i) = true := by unfold liesK; rw [e1, e2, hk]; rfl
  unfold mkK
  rw [if_neg (by rw [hc]; decide), if_neg (by rw [h0, hl]; decide)]
/-- An empty stage that is laid over its directory: all is as it was. -/
theorem stage_pub {K : Tree} (hK : MayK K) {r : List UInt8} {i : Nat} (hk : kindK K r = 1) (h0 : K (stP r i) = none) {ks : List (List UInt8)} (hks : KeysAre (updK K (stP r i) ⟨1, [], []⟩) ks) : pubK (updK K (stP r i) ⟨1, [], []⟩) (stP r i) r ks = (0, K) := by
  have hlen := stP_len r i
  have hne : r ≠ stP r i := fun e => by rw [← e] at hlen; omega
  have k1 : kindK (updK K (stP r i) ⟨1, [], []⟩) (stP r i) = 1 := by unfold kindK updK; rw [if_pos rfl]; rfl
  have k2 : kindK (updK K (stP r i) ⟨1, [], []⟩) r = 1 := by unfold kindK updK; rw [if_neg hne]; exact hk
  have k3 : withinB r (stP r i) = false := by
    cases hw : withinB r (stP r i) with
    | false => rfl
    | true =>
      have h2 := (within_iff.1 hw).2
      have := (List.getElem?_eq_some_iff.1 h2).1
      omega
  have ht : treeL ks (stP r i) = [] := by
    unfold treeL
    rw [List.filter_eq_nil_iff]
    intro p hp hw
    have h1 := (hks.mem p).1 hp
    have hpe : p ≠ stP r i := fun e => by
      have h2 := (List.getElem?_eq_some_iff.1 (within_iff.1 hw).2).1
      rw [e] at h2
      omega
    unfold updK at h1
    rw [if_neg hpe, not_below hK h0 p.length p (Nat.le_refl _) hw] at h1
    cases h1
  unfold pubK layK
  rw [show layNo (updK K (stP r i) ⟨1, [], []⟩) (stP r i) r = false by
    unfold layNo
    rw [k1, k2, k3, show (stP r i == r) = false by simpa using fun e => hne e.symm]
    rfl]
  rw [ht]
  show (match (some (dropK (updK K (stP r i) ⟨1, [], []⟩) (stP r i)) : Option Tree) with | some N => ((0 : Int), N) | none => (202, updK K (stP r i) ⟨1, [], []⟩)) = (0, K)
  rw [drop_upd hK h0]
end Go.Proofs.YthbkcjlpelihlaaGreatDoor
/- Contracts: an extraction's calls (layer 26): told, call, look. No condition but that nothing is spent. -/
namespace Go.Proofs.YthbkcjlpelihlaaGreatDoor
open Go.RowKit Go.Maps

/-- What an extraction turns: some blocks of its own, and what a sandbox may. -/
def ExF (lo : Nat) (L : List Nat) (w w' : World) : Prop := ∃ S, Fr S w w' ∧ ∀ i ∈ S, i ∈ L ∨ (lo ≤ i ∧ TyS w i)
theorem ExF.of0 {lo : Nat} {L : List Nat} {w w' : World} (F : Fr [] w w') : ExF lo L w w' := ⟨[], F, by simp⟩
theorem ExF.mt {lo : Nat} {L : List Nat} {w w' : World} (F : Fr L w w') : ExF lo L w w' := ⟨L, F, fun _ hi => .inl hi⟩
theorem ExF.lo {lo : Nat} {L : List Nat} {w w' : World} (h : Lo lo w w') : ExF lo L w w' := by
  obtain ⟨S, F, hS⟩ := h
  exact ⟨S, F, fun i hi => .inr (hS i hi)⟩
theorem ExF.mono {lo : Nat} {L T : List Nat} {w w' : World} (h : ExF lo L w w') (hT : ∀ i ∈ L, i ∈ T) : ExF lo T w w' := by
  obtain ⟨S, F, hS⟩ := h
  exact ⟨S, F, fun i hi => (hS i hi).imp (hT i) id⟩
theorem ExF.trans {lo : Nat} {L : List Nat} {a b c : World} (h : ExF lo L a b) (k : ExF lo L b c) : ExF lo L a c := by
  obtain ⟨S, F, hS⟩ := h
  obtain ⟨T, G, hT⟩ := k
  refine ⟨S ++ T, (F.mono (fun i hi => by simp [hi])).trans G (fun i hi => .inl (by simp [hi])), fun i hi => ?_⟩
  rcases List.mem_append.1 hi with hi | hi
  · exact hS i hi
  · rcases hT i hi with e | ⟨e1, e2⟩
    · exact .inl e
    · by_cases hm : i ∈ L
      · exact .inl hm
      · exact .inr ⟨e1, TyS.back F (fun hs => by rcases hS i hs with q | q; exact absurd q hm; exact q.2) e2⟩
theorem ExF.trn {lo : Nat} {L T : List Nat} {a b c : World} (h : ExF lo L a b) (G : Fr T b c) (hT : ∀ i ∈ T, a.heap.size ≤ i) : ExF lo L a c := by
  obtain ⟨S, F, hS⟩ := h
  exact ⟨S, F.trans G (fun i hi => .inr (hT i hi)), hS⟩
theorem ExF.size {lo : Nat} {L : List Nat} {a b : World} (h : ExF lo L a b) : a.heap.size ≤ b.heap.size := by
  obtain ⟨S, F, _⟩ := h
  exact F.size
/-- A block of another type stays. -/
theorem ExF.keep {lo : Nat} {L : List Nat} {w w' : World} (h : ExF lo L w w') {i : Nat} {cs : Array Value} {t : TypeId} {z : Nat × Nat} (hb : w.heap[i]? = some (.cells cs t z)) (hm : i ∉ L) (h1 : t ≠ 82) (h2 : t ≠ 53) : w'.heap[i]? = some (.cells cs t z) := by
  obtain ⟨S, F, hS⟩ := h
  refine (F.block i (Array.getElem?_eq_some_iff.1 hb).1 fun hi => ?_).trans hb
  rcases hS i hi with e | ⟨-, e⟩
  · exact hm e
  · rcases e cs t z hb with e | e
    · exact h1 e
    · exact h2 e
/-- What lies below all these stays. -/
theorem ExF.below {lo : Nat} {L : List Nat} {w0 w w' : World} (F0 : Fr [] w0 w) (h : ExF lo L w w') (h1 : w0.heap.size ≤ lo) (h2 : ∀ i ∈ L, w0.heap.size ≤ i) : Fr [] w0 w' := by
  obtain ⟨S, F, hS⟩ := h
  refine F0.trans F (fun i hi => .inr ?_)
  rcases hS i hi with e | e
  · exact h2 i e
  · exact Nat.le_trans h1 e.1
theorem ExF.gl {lo : Nat} {L : List Nat} {w w' : World} (hG : Gl w) (h : ExF lo L w w') (h1 : 3 ≤ lo) (h2 : ∀ i ∈ L, 3 ≤ i) : Gl w' := by
  obtain ⟨S, F, hS⟩ := h
  have hn : ∀ b, b < 3 → b ∉ S := fun b hb hm => by
    rcases hS b hm with e | e
    · have := h2 b e; omega
    · have := e.1; omega
  refine ⟨?_, ?_, Nat.le_trans hG.sz F.size⟩
  · exact ⟨fun j hj => (F.cell (p := ⟨0, j, none⟩) (by have := hG.sz; show 0 < _; omega) (hn 0 (by decide))).trans (hG.tabs.1 j hj), fun j hj => by
      have h2 := hG.tabs.2 j hj
      have c : ∀ k : Nat, w'.cell? ⟨1, k, none⟩ = w.cell? ⟨1, k, none⟩ := fun k => F.cell (p := ⟨1, k, none⟩) (by have := hG.sz; show 1 < _; omega) (hn 1 (by decide))
      exact ⟨(c _).trans h2.1, (c _).trans h2.2⟩⟩
  · obtain ⟨m, hm⟩ := hG.ml
    exact ⟨m, (F.cell (p := ⟨2, 0, none⟩) (by have := hG.sz; show 2 < _; omega) (hn 2 (by decide))).trans hm⟩

/-- A meter's turns leave a sandbox as it is. -/
theorem SandAt.mt {w w' : World} {lo p n nc : Nat} {fl : Fl} {K : Tree} {mp : Nat} {l : List Int} (h : SandAt w lo p n nc fl K) (M : MtAt w mp l) (F : Fr [mp] w w') : SandAt w' lo p n nc fl K := by
  obtain ⟨b, fv, cv, KV, h⟩ := h
  exact ⟨b, fv, cv, KV, h.box M.blk (by decide) (by decide) (by decide) (by decide) F⟩

/-- An extraction's nine cells. -/
structure WkAt (w : World) (g sp mp bp : Nat) (fv : Value) (root stage : List UInt8) (mb : Option Nat) (fi : Int) (pv : Value) : Prop where
  blk : w.heap[g]? = some (.cells #[.pointer (some ⟨sp, 0, none⟩), .pointer (some ⟨mp, 0, none⟩), .pointer (some ⟨bp, 0, none⟩), fv, .string ⟨root.toArray⟩, .string ⟨stage.toArray⟩, .map mb, .int .i64 fi, pv] 117 (0, 0))
theorem WkAt.lt {w : World} {g sp mp bp : Nat} {fv : Value} {root stage : List UInt8} {mb : Option Nat} {fi : Int} {pv : Value} (h : WkAt w g sp mp bp fv root stage mb fi pv) : g < w.heap.size := (Array.getElem?_eq_some_iff.1 h.blk).1
theorem WkAt.ex {lo : Nat} {L : List Nat} {w w' : World} {g sp mp bp : Nat} {fv : Value} {root stage : List UInt8} {mb : Option Nat} {fi : Int} {pv : Value} (h : WkAt w g sp mp bp fv root stage mb fi pv) (F : ExF lo L w w') (hm : g ∉ L) : WkAt w' g sp mp bp fv root stage mb fi pv := ⟨F.keep h.blk hm (by decide) (by decide)⟩
theorem WkAt.fr {S : List Nat} {w w' : World} {g sp mp bp : Nat} {fv : Value} {root stage : List UInt8} {mb : Option Nat} {fi : Int} {pv : Value} (h : WkAt w g sp mp bp fv root stage mb fi pv) (F : Fr S w w') (hm : g ∉ S) : WkAt w' g sp mp bp fv root stage mb fi pv := ⟨(F.block g h.lt hm).trans h.blk⟩
theorem BkAt.ex {lo : Nat} {L : List Nat} {w w' : World} {g mp : Nat} {av pv cv fv sv ev x9 x10 : Value} (h : BkAt w g mp av pv cv fv sv ev x9 x10) (F : ExF lo L w w') (hm : g ∉ L) : BkAt w' g mp av pv cv fv sv ev x9 x10 := ⟨F.keep h.blk hm (by decide) (by decide)⟩
theorem MtAt.lo {lo : Nat} {w w' : World} {p : Nat} {l : List Int} (h : MtAt w p l) (F : Lo lo w w') : MtAt w' p l := ⟨F.keep h.blk (by decide) (by decide), h.len⟩
theorem cellsW {w : World} {g : Nat} {t : TypeId} {a0 a1 a2 a3 a4 a5 a6 a7 a8 : Value} (h : w.heap[g]? = some (.cells #[a0, a1, a2, a3, a4, a5, a6, a7, a8] t (0, 0))) :
    w.cell? ⟨g, 0, none⟩ = some a0 ∧ w.cell? ⟨g, 1, none⟩ = some a1 ∧ w.cell? ⟨g, 2, none⟩ = some a2 ∧ w.cell? ⟨g, 3, none⟩ = some a3 ∧ w.cell? ⟨g, 4, none⟩ = some a4 ∧ w.cell? ⟨g, 5, none⟩ = some a5 ∧ w.cell? ⟨g, 6, none⟩ = some a6 ∧ w.cell? ⟨g, 7, none⟩ = some a7 ∧ w.cell? ⟨g, 8, none⟩ = some a8 ∧ (∀ j, w.frozen? ⟨g, j, none⟩ = false) :=
  ⟨by simp [Go.Joins.cell_of_block h], by simp [Go.Joins.cell_of_block h], by simp [Go.Joins.cell_of_block h], by simp [Go.Joins.cell_of_block h], by simp [Go.Joins.cell_of_block h], by simp [Go.Joins.cell_of_block h], by simp [Go.Joins.cell_of_block h], by simp [Go.Joins.cell_of_block h], by simp [Go.Joins.cell_of_block h], fun j => Go.Joins.unfrozen_of_block h j⟩

/-- A call's code, as it is told on. -/
def toldC (c : Int) : Int := if c = 0 ∨ c = 201 then c else 202
theorem told_any (c : Int) (w : World) : Calls Tryz.prog 144 #[.int .i64 c] w fun e w' => e = .returned (.int .i64 (toldC c)) ∧ w' = w := by
  unfold toldC
  by_cases h0 : c = 0
  · rw [if_pos (.inl h0)]
    subst h0
    go_enter Tryz.func144, Tryz.ntmps144
    go_wp2_with fail
    go_ret
    exact ⟨rfl, rfl⟩
  have t0 : (c == 0) = false := by simpa using h0
  by_cases h1 : c = 201
  · rw [if_pos (.inr h1)]
    subst h1
    go_enter Tryz.func144, Tryz.ntmps144
    go_wp2_with fail
    go_ret
    exact ⟨rfl, rfl⟩
  have t1 : (c == 201) = false := by simpa using h1
  rw [if_neg (by rintro (h | h); exact h0 h; exact h1 h)]
  go_enter Tryz.func144, Tryz.ntmps144
  go_wp2_with fail
  go_ret
  exact ⟨rfl, rfl⟩
set_option maxRecDepth 100000 in
theorem wcall_any {w : World} {g sp mp bp : Nat} {fv : Value} {root stage : List UInt8} {mb : Option Nat} {fi : Int} {pv : Value} {a o f d s k : Int} (W : WkAt w g sp mp bp fv root stage mb fi pv) (M : MtN w mp a o f d s k) (hs : 0 ≤ s) (hs2 : s ≤ 1000000) (fg : Nat) (lb : Array Value)
    (eg : ∀ args w, (callFunc fg args).run Tryz.prog w = .ok (.enter fg args) w) (P : Int → World → Prop)
    (hdo : ∀ wx, Fr [mp] w wx → MtN wx mp a o f d (s + 1) k → Calls Tryz.prog fg lb wx fun e w2 => ∃ c, e = .returned (.int .i64 c) ∧ P c w2) :
    Calls Tryz.prog 99 #[.pointer (some ⟨g, 0, none⟩), .func (.func fg) #[] lb] w fun e w' => ∃ c, e = .returned (.int .i64 (toldC c)) ∧ P c w' := by
  obtain ⟨c0, c1, c2, c3, c4, c5, c6, c7, c8, cf⟩ := cellsW W.blk
  have HS := Lib.hid (step_m M 1 (by omega) hs (by omega))
  have HDO := Lib.hid hdo
  clear W M hdo
  go_enter Tryz.func99, Tryz.ntmps99
  go_wp2_with (first
    | (go_at_call 144; refine (told_any _ _).mono ?_; rintro e w3 ⟨rfl, rfl⟩)
    | (refine (HDO.out w1 F1 M1).mono ?_; rintro e w2 ⟨c, rfl, hP⟩; have HP := Lib.hid hP; clear hP)
    | (go_at_call 61; refine HS.out.mono ?_; rintro e w1 ⟨rfl, M1, F1⟩))
  go_ret
  exact ⟨c, rfl, HP.out⟩
end Go.Proofs.YthbkcjlpelihlaaGreatDoor
/- Contracts: an extraction's look, target, publish (layer 26). No condition but that nothing is spent and lengths fit. -/
namespace Go.Proofs.YthbkcjlpelihlaaGreatDoor
open Go.RowKit Go.Maps

theorem SandAt.box {w w' : World} {lo p n nc : Nat} {fl : Fl} {K : Tree} {B t : Nat} {c : Array Value} (h : SandAt w lo p n nc fl K) (hB : w.heap[B]? = some (.cells c t (0, 0))) (h1 : t ≠ 5) (h2 : t ≠ 4) (h3 : t ≠ 53) (h4 : t ≠ 82) (F : Fr [B] w w') : SandAt w' lo p n nc fl K := by
  obtain ⟨b, fv, cv, KV, h⟩ := h
  exact ⟨b, fv, cv, KV, h.box hB h1 h2 h3 h4 F⟩
set_option maxRecDepth 100000 in
set_option maxHeartbeats 1000000 in
theorem look1_any {w : World} {g sp mp bp lo n nc : Nat} {fv : Value} {root stage : List UInt8} {mb : Option Nat} {fi : Int} {pv : Value} {fl : Fl} {K : Tree} (W : WkAt w g sp mp bp fv root stage mb fi pv) (S : SandAt w lo sp n nc fl K) (hG : Gl w) (q : List UInt8) (hq : q.length ≤ 100000) (hnc : nc ≤ 100000) (hl : fl.ok nc q ⟨#[]⟩) (B0 B1 B2 : Nat)
    (h0 : w.heap[B0]? = some (.cells #[.pointer (some ⟨g, 0, none⟩)] 106 (0, 0))) (h1 : w.heap[B1]? = some (.cells #[.string ⟨q.toArray⟩] 9 (0, 0))) (h2 : w.heap[B2]? = some (.cells #[.int .i64 0] 3 (0, 0))) :
    Calls Tryz.prog 139 #[.pointer (some ⟨B0, 0, none⟩), .pointer (some ⟨B1, 0, none⟩), .pointer (some ⟨B2, 0, none⟩)] w fun e w' => e = .returned (.int .i64 (lookK K q).2) ∧ ∃ w1, SandAt w1 lo sp n (nc + 1) fl K ∧ Lo lo w w1 ∧ w' = w1.setCell ⟨B2, 0, none⟩ (.int .i64 (lookK K q).1) := by
  have HW := Lib.hid W
  obtain ⟨c0, -⟩ := cellsW W.blk
  have m0 : w.cell? ⟨B0, 0, none⟩ = some (.pointer (some ⟨g, 0, none⟩)) := by rw [Go.Joins.cell_of_block h0]; rfl
  have m1 : w.cell? ⟨B1, 0, none⟩ = some (.string ⟨q.toArray⟩) := by rw [Go.Joins.cell_of_block h1]; rfl
  have HK := Lib.hid (fun (w1 : World) (L : Lo lo w w1) => (show w1.cell? ⟨B0, 0, none⟩ = some (.pointer (some ⟨g, 0, none⟩)) ∧ w1.cell? ⟨g, 0, none⟩ = some (.pointer (some ⟨sp, 0, none⟩)) ∧ w1.cell? ⟨B1, 0, none⟩ = some (.string ⟨q.toArray⟩) from ⟨by rw [Go.Joins.cell_of_block (L.keep h0 (by decide) (by decide))]; rfl, by rw [Go.Joins.cell_of_block (L.keep W.blk (by decide) (by decide))]; rfl, by rw [Go.Joins.cell_of_block (L.keep h1 (by decide) (by decide))]; rfl⟩))
  have HL := Lib.hid (fun (wx : World) (Q : Same w wx) => look_any (S.fr0 Q.fr) (hG.fr Q.fr) q hq hnc hl)
  clear W S hG hq hnc hl h0 h1
  generalize lookK K q = r at *
  obtain ⟨r1, r2⟩ := r
  dsimp only at HL ⊢
  go_enter Tryz.func139, Tryz.ntmps139
  go_wp2_with fail
  go_region_held3 (fun w' => w'.cell? ⟨B0, 0, none⟩ = some (.pointer (some ⟨g, 0, none⟩)) ∧ w'.cell? ⟨g, 0, none⟩ = some (.pointer (some ⟨sp, 0, none⟩)) ∧ w'.cell? ⟨B1, 0, none⟩ = some (.string ⟨q.toArray⟩)) (first | exact ⟨m0, c0, m1⟩ | exact HK.out _ L1) (first | (go_at_call 140; refine (HL.out _ Same.drew).mono ?_; rintro e w1 ⟨rfl, S1, L0⟩; have L1 := (Lo.of0 (lo := lo) (Same.drew (w := w)).fr).trans L0; have k2 := L1.keep h2 (by decide) (by decide); have k3 : w1.cell? ⟨B2, 0, none⟩ = some (.int .i64 0) := (by rw [Go.Joins.cell_of_block k2]; rfl); have k4 : w1.frozen? ⟨B2, 0, none⟩ = false := Go.Joins.unfrozen_of_block k2 0))
  go_wp2_with fail
  go_ret
  exact ⟨rfl, w1, S1, L1, rfl⟩
set_option maxRecDepth 100000 in
set_option maxHeartbeats 2000000 in
theorem wlook_any {w : World} {g sp mp bp lo n nc : Nat} {fv : Value} {root stage : List UInt8} {mb : Option Nat} {fi : Int} {pv : Value} {a o f d s k : Int} {fl : Fl} {K : Tree} (W : WkAt w g sp mp bp fv root stage mb fi pv) (M : MtN w mp a o f d s k) (hs : 0 ≤ s) (hs2 : s ≤ 1000000) (S : SandAt w lo sp n nc fl K) (hG : Gl w) (hgm : g ≠ mp) (hm3 : 3 ≤ mp) (q : List UInt8) (hq : q.length ≤ 100000) (hnc : nc ≤ 100000) (hl : fl.ok nc q ⟨#[]⟩) :
    Calls Tryz.prog 96 #[.pointer (some ⟨g, 0, none⟩), .string ⟨q.toArray⟩] w fun e w' => e = .returned (.tuple #[.int .i64 (lookK K q).1, .int .i64 (toldC (lookK K q).2)]) ∧ SandAt w' lo sp n (nc + 1) fl K ∧ MtN w' mp a o f d (s + 1) k ∧ ExF lo [mp] w w' := by
  obtain ⟨wA, hwA⟩ : ∃ wA, wA = ((w.alloc (.cells #[.pointer (some ⟨g, 0, none⟩)] 106)).alloc (.cells #[.string ⟨q.toArray⟩] 9)).alloc (.cells #[.int .i64 0] 3) := ⟨_, rfl⟩
  have FA : Fr [] w wA := hwA ▸ (((Fr.refl _ _).alloc _).alloc _).alloc _
  have h2 : wA.heap[w.heap.size + 2]? = some (.cells #[.int .i64 0] 3 (0, 0)) := by
    have := heap_alloc_new ((w.alloc (.cells #[.pointer (some ⟨g, 0, none⟩)] 106)).alloc (.cells #[.string ⟨q.toArray⟩] 9)) (.cells #[.int .i64 0] 3)
    rw [World.size_alloc, World.size_alloc] at this
    rw [hwA]
    exact this
  have h1 : wA.heap[w.heap.size + 1]? = some (.cells #[.string ⟨q.toArray⟩] 9 (0, 0)) := by
    have F : Fr [] ((w.alloc (.cells #[.pointer (some ⟨g, 0, none⟩)] 106)).alloc (.cells #[.string ⟨q.toArray⟩] 9)) wA := hwA ▸ (Fr.refl _ _).alloc _
    have this := heap_alloc_new (w.alloc (.cells #[.pointer (some ⟨g, 0, none⟩)] 106)) (.cells #[.string ⟨q.toArray⟩] 9)
    rw [World.size_alloc] at this
    exact (F.block _ (by rw [World.size_alloc, World.size_alloc]; omega) (by simp)).trans this
  have h0 : wA.heap[w.heap.size]? = some (.cells #[.pointer (some ⟨g, 0, none⟩)] 106 (0, 0)) := by
    have F : Fr [] (w.alloc (.cells #[.pointer (some ⟨g, 0, none⟩)] 106)) wA := hwA ▸ ((Fr.refl _ _).alloc _).alloc _
    exact (F.block _ (by rw [World.size_alloc]; omega) (by simp)).trans (heap_alloc_new w _)
  have l2 : w.heap.size + 2 < wA.heap.size := (Array.getElem?_eq_some_iff.1 h2).1
  have hml := M.lt
  have WA := W.fr FA (by simp)
  have MA := M.fr FA (by simp)
  have SA := S.fr0 FA
  have HC := Lib.hid (wcall_any WA MA hs hs2 139 #[.pointer (some ⟨w.heap.size, 0, none⟩), .pointer (some ⟨w.heap.size + 1, 0, none⟩), .pointer (some ⟨w.heap.size + 2, 0, none⟩)] (enters_of Tryz.func139 (by kernel_rfl) rfl)
    (fun c w2 => c = (lookK K q).2 ∧ SandAt w2 lo sp n (nc + 1) fl K ∧ MtN w2 mp a o f d (s + 1) k ∧ w2.heap[w.heap.size + 2]? = some (.cells #[.int .i64 (lookK K q).1] 3 (0, 0)) ∧ ExF lo [mp] w w2)
    (fun wx F MX => by
      have hne : ∀ i, w.heap.size ≤ i → i ∉ [mp] := fun i hi hm => by simp at hm; omega
      have x2 := (F.block (w.heap.size + 2) l2 (hne _ (by omega))).trans h2
      refine (look1_any (WA.fr F (by simpa using hgm)) (SA.mt MA F) (ExF.gl (hG.fr FA) (ExF.mt (lo := 3) F) (by decide) (by simpa using hm3)) q hq hnc hl w.heap.size (w.heap.size + 1) (w.heap.size + 2)
        ((F.block w.heap.size (by omega) (hne _ (by omega))).trans h0) ((F.block (w.heap.size + 1) (by omega) (hne _ (by omega))).trans h1) x2).mono ?_
      rintro e w2 ⟨rfl, w1, S1, L1, rfl⟩
      have y2 := L1.keep x2 (by decide) (by decide)
      have FB : Fr [w.heap.size + 2] w1 (w1.setCell ⟨w.heap.size + 2, 0, none⟩ (.int .i64 (lookK K q).1)) := (Fr.refl _ _).setCell (.inl (by simp)) _
      refine ⟨_, rfl, rfl, S1.box y2 (by decide) (by decide) (by decide) (by decide) FB, (MX.lo L1).fr FB (by simp; omega), Go.Joins.block_setCell y2 _, ?_⟩
      exact (((ExF.of0 FA).trans (ExF.mt F)).trans (ExF.lo L1)).trn FB (by simp)))
  clear W M S hG hq hnc hl h0 h1 h2 WA MA SA
  generalize lookK K q = r at *
  obtain ⟨r1, r2⟩ := r
  dsimp only at HC ⊢
  go_enter Tryz.func96, Tryz.ntmps96
  go_wp2_with (go_at_call 99; rw [← hwA]; refine HC.out.mono ?_; rintro e w1 ⟨c, rfl, rfl, S1, M1, b2, X1⟩; have k2 : w1.cell? ⟨w.heap.size + 2, 0, none⟩ = some (.int .i64 r1) := (by rw [Go.Joins.cell_of_block b2]; rfl))
  go_ret2
  exact ⟨rfl, S1, M1, X1⟩
set_option maxRecDepth 100000 in
theorem target_any {w : World} {g sp mp bp lo n nc : Nat} {fv : Value} {root stage : List UInt8} {mb : Option Nat} {fi : Int} {pv : Value} {a o f d s k : Int} {fl : Fl} {K : Tree} (W : WkAt w g sp mp bp fv root stage mb fi pv) (M : MtN w mp a o f d s k) (hs : 0 ≤ s) (hs2 : s ≤ 1000000) (S : SandAt w lo sp n nc fl K) (hG : Gl w) (hgm : g ≠ mp) (hm3 : 3 ≤ mp) (hq : root.length ≤ 100000) (hnc : nc ≤ 100000) (hl : fl.ok nc root ⟨#[]⟩) (hr : lookK K root = (1, 0)) :
    Calls Tryz.prog 69 #[.pointer (some ⟨g, 0, none⟩)] w fun e w' => e = .returned (.int .i64 0) ∧ SandAt w' lo sp n (nc + 1) fl K ∧ MtN w' mp a o f d (s + 1) k ∧ ExF lo [mp] w w' := by
  obtain ⟨c0, c1, c2, c3, c4, c5, c6, c7, c8, cf⟩ := cellsW W.blk
  have HL := Lib.hid (wlook_any W M hs hs2 S hG hgm hm3 root hq hnc hl)
  rw [hr] at HL
  have ht : toldC (1, (0 : Int)).2 = 0 := rfl
  rw [show toldC ((1 : Int), (0 : Int)).2 = 0 from rfl] at HL
  clear W M S hG ht
  go_enter Tryz.func69, Tryz.ntmps69
  go_wp2_with (go_at_call 96; refine HL.out.mono ?_; rintro e w1 ⟨rfl, S1, M1, X1⟩)
  go_ret
  exact ⟨rfl, S1, M1, X1⟩
set_option maxRecDepth 100000 in
theorem publish1_any {w : World} {g sp mp bp lo n nc : Nat} {fv : Value} {root stage : List UInt8} {mb : Option Nat} {fi : Int} {pv : Value} {fl : Fl} {K : Tree} (W : WkAt w g sp mp bp fv root stage mb fi pv) (S : SandAt w lo sp n nc fl K) (hK : MayK K) (hG : Gl w) (hq : root.length ≤ 100000) (hq2 : stage.length ≤ 100000) (hn : n ≤ 40000) (hnc : nc ≤ 100000) (hl : fl.ok nc stage ⟨root.toArray⟩) (B0 : Nat)
    (h0 : w.heap[B0]? = some (.cells #[.pointer (some ⟨g, 0, none⟩)] 106 (0, 0))) :
    Calls Tryz.prog 107 #[.pointer (some ⟨B0, 0, none⟩)] w fun e w' => ∃ ks, KeysAre K ks ∧ ks.length ≤ n ∧ e = .returned (.int .i64 (publishK K stage root ks).1) ∧ SandAt w' lo sp n (nc + 1) fl (publishK K stage root ks).2 ∧ ∃ w0, Same w w0 ∧ Lo lo w0 w' := by
  have HW := Lib.hid W
  have HP := Lib.hid (fun (wx : World) (Q : Same w wx) => publish_any (S.fr0 Q.fr) hK (hG.fr Q.fr) stage root hq2 hq hn hnc hl)
  obtain ⟨c0, c1, c2, c3, c4, c5, c6, c7, c8, cf⟩ := cellsW W.blk
  have m0 : w.cell? ⟨B0, 0, none⟩ = some (.pointer (some ⟨g, 0, none⟩)) := by rw [Go.Joins.cell_of_block h0]; rfl
  have HK := Lib.hid (fun (w1 : World) (L : Lo lo w w1) => (show w1.cell? ⟨B0, 0, none⟩ = some (.pointer (some ⟨g, 0, none⟩)) ∧ w1.cell? ⟨g, 0, none⟩ = some (.pointer (some ⟨sp, 0, none⟩)) ∧ w1.cell? ⟨g, 4, none⟩ = some (.string ⟨root.toArray⟩) ∧ w1.cell? ⟨g, 5, none⟩ = some (.string ⟨stage.toArray⟩) from ⟨by rw [Go.Joins.cell_of_block (L.keep h0 (by decide) (by decide))]; rfl, by rw [Go.Joins.cell_of_block (L.keep W.blk (by decide) (by decide))]; rfl, by rw [Go.Joins.cell_of_block (L.keep W.blk (by decide) (by decide))]; rfl, by rw [Go.Joins.cell_of_block (L.keep W.blk (by decide) (by decide))]; rfl⟩))
  clear W S hG hK h0
  go_enter Tryz.func107, Tryz.ntmps107
  go_wp2_with fail
  go_region_held3 (fun w' => w'.cell? ⟨B0, 0, none⟩ = some (.pointer (some ⟨g, 0, none⟩)) ∧ w'.cell? ⟨g, 0, none⟩ = some (.pointer (some ⟨sp, 0, none⟩)) ∧ w'.cell? ⟨g, 4, none⟩ = some (.string ⟨root.toArray⟩) ∧ w'.cell? ⟨g, 5, none⟩ = some (.string ⟨stage.toArray⟩)) (first | exact ⟨m0, c0, c4, c5⟩ | exact HK.out _ ((Lo.of0 (Same.drew (w := w)).fr).trans L1)) (first | (go_at_call 108; refine (HP.out _ Same.drew).mono ?_; rintro e w1 ⟨ks, q1, q2, rfl, S1, L1⟩))
  go_wp2_with fail
  go_ret
  exact ⟨ks, q1, q2, rfl, S1, _, Same.drew, L1⟩
end Go.Proofs.YthbkcjlpelihlaaGreatDoor
