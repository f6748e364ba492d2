/- The reference's streams: folders. No condition but that lengths fit. -/
import Derived.Test.YtkodindajfdagaaDoorWSpBM
namespace Go.Proofs.YtkodindajfdagaaDoor
open Go.RowKit
set_option linter.unusedVariables false

def SF (wA : World) (g : Nat) (c : List UInt8) (cks : List Ck) (a : Act) (w' : World) : Prop :=
  ∃ A v u, a = ⟨A, []⟩ ∧ A.size = 335 ∧ Slots A [(1, .pointer (some ⟨g, 0, none⟩)), (3, v), (5, u)] ∧ StB wA.heap.size wA (.slice none 0 0) v c w' ∧ w'.ownsRow wA.heap.size 44 2 u cks.length (ckV cks)
def SFk (wA : World) (g i : Nat) (c : List UInt8) (cks : List Ck) (k : Nat) (a : Act) (w' : World) : Prop :=
  ∃ A v u, a = ⟨A, []⟩ ∧ A.size = 335 ∧ Slots A [(1, .pointer (some ⟨g, 0, none⟩)), (3, v), (5, u), (i, .int .i64 (k : Int))] ∧ StB wA.heap.size wA (.slice none 0 0) v c w' ∧ w'.ownsRow wA.heap.size 44 2 u cks.length (ckV cks)

theorem num_sb1 {base : Nat} {w : World} {v vx : Value} {cs : List UInt8} {wx wy : World} (S : StB base w v vx cs wx) (F : Fr [] wx wy) (hb : base ≤ w.heap.size) (n : Nat) (hl : cs.length ≤ 1000000000) (hn : n < 18446744073709551616) :
    Calls Tryd.prog 30 #[vx, .int .u64 n] wy (fun e w' => ∃ r, e = .returned r ∧ StB base w v r (cs ++ shortN n) w' ∧ Fr [] wy w') :=
  (rnum_any wy vx cs n (Sl.of_own (S.fr0 F).own) (by omega) hn).mono fun _ _ h => by
    obtain ⟨r, e, hS⟩ := (S.fr0 F).new_ hb h
    obtain ⟨_, _, _, FF⟩ := h
    exact ⟨r, e, hS, FF⟩
/-- 'append(b, y...)' as a step of a region that draws its order; what it turns is told. -/
theorem step_append_b1 {P : Program} (T : SlTy P 32 5 (.int .u8 0) 1) {ops : Array Oper} {o : Oper} {a : Act} {K : Act → World → Prop} {Q : Exit → Act → World → Prop} {E : Prop} (hgd : o.guard = none) (s x : Operand)
    (ho : o.op = .call { callee := .builtin .append, args := #[s, x], argTypes := #[32, 32] })
    {w wx wy : World} {vx : Value} {cs : List UInt8} (S : StB w.heap.size w (.slice none 0 0) vx cs wx) (F : Fr [] wx wy) (hs : a.eval s = vx) (y : Value) (ys : List UInt8) (hx : a.eval x = y) (hy : Sl wy y (bv ys)) (hl : cs.length + ys.length ≤ 1000000000)
    (h : ∀ v' w', StB w.heap.size w (.slice none 0 0) v' (cs ++ ys) w' → Fr vx.ownBlock.toList wy w' → K (a.put o.dst v') w') : if Region.wanted o (yielded ops a.tmps) = true then Oper.wp P o a wy K Q else E := by
  have S2 := S.fr0 F
  refine step_append_sl T hgd s x ho w.heap.size vx cs.length (bv cs) hs S2.own y (bv ys) hx hy (bv_one _) (by rw [bv_length]; omega) (by rw [bv_length]; omega) S2.fr.size (fun v' w' own g => h v' w' ?_ ((Fr.refl _ _).grown g (fun t ht => .inl (by simp [ht]))))
  rw [← bv_append, bv_length, ← List.length_append] at own
  exact ⟨own, (show Fr [] w wy from S2.fr).grown g (fun t ht => .inr (own_ltS S2.own t ht).1), fun k hk => .inr (own_ltS own k hk).1⟩
/-- 'append(b, y...)'; what it turns is told. -/
theorem wpList_append_s1 {P : Program} (T : SlTy P 32 5 (.int .u8 0) 1) {ops : Array Oper} {rest : List Oper} {o : Oper} {a : Act} {Q : Exit → Act → World → Prop} (hgd : o.guard = none) (s x : Operand)
    (ho : o.op = .call { callee := .builtin .append, args := #[s, x], argTypes := #[32, 32] })
    {base : Nat} {w wx wy : World} {v vx : Value} {cs : List UInt8} (S : StB base w v vx cs wx) (F : Fr [] wx wy) (hs : a.eval s = vx) (y : Value) (ys : List UInt8) (hx : a.eval x = y) (hy : Sl wy y (bv ys)) (hb : base ≤ w.heap.size) (hl : cs.length + ys.length ≤ 1000000000)
    (h : ∀ v' w', StB base w v v' (cs ++ ys) w' → Fr vx.ownBlock.toList wy w' → wpList P ops Q rest (a.put o.dst v') w') : wpList P ops Q (o :: rest) a wy := by
  have S2 := S.fr0 F
  refine wpList_append_sl_at T hgd s x ho base vx cs.length (bv cs) hs S2.own y (bv ys) hx hy (bv_one _) (by rw [bv_length]; omega) (by rw [bv_length]; omega) (Nat.le_trans hb S2.fr.size) (fun v' w' own g hat => h v' w' ?_ ((Fr.refl _ _).grown g (fun t ht => .inl (by simp [ht]))))
  rw [← bv_append, bv_length, ← List.length_append] at own
  exact S2.step ((Fr.refl _ _).grown g (fun t ht => .inl (by simp [ht]))) own (fun k hk => by
    rcases hat with e | e
    · exact .inl (e ▸ hk)
    · rw [e] at hk; injection hk with hk; exact .inr (by omega))
/-- A literal's block is another than that of bytes that were there. -/
theorem lit_keep {base : Nat} {w : World} {v vx : Value} {cs : List UInt8} {wx wy wz : World} {g : Nat} {xs : List Value} (S : StB base w v vx cs wx) (hg : wx.heap.size ≤ g) (h : Sl wy (.slice (some ⟨g, 0, none⟩) 1 1) xs) (F : Fr vx.ownBlock.toList wy wz) : Sl wz (.slice (some ⟨g, 0, none⟩) 1 1) xs :=
  h.fr F (fun k hk hm => by
    have e : g = k := by simpa [Value.ownBlock] using hk
    have := (own_ltS S.own k (by simpa using hm)).2
    omega)

set_option maxRecDepth 100000 in
set_option maxHeartbeats 2000000 in
theorem sp_fhead (wA : World) (g : Nat) (c0 : List UInt8) (fao : Option Addr) (fcap NL : Nat) (hn : NL ≤ 100000) (hl : c0.length ≤ 40000000) (HBX : ∀ wx, Fr [] wA wx → wx.cell? ⟨g, 4, none⟩ = some (.slice fao NL fcap)) (a : Act) (w : World) (hS : SB wA g c0 a w) :
    (sc [true, true, true, false, true, false, false]).wp Tryd.prog (Only (SB wA g (((c0 ++ [7, 11]) ++ shortN NL) ++ [0]))) a w := by
  have HBa := Lib.hid (Nat.le_refl wA.heap.size)
  obtain ⟨A, v, rfl, hz, h1, h3, S0⟩ := hS
  obtain ⟨vo, vc, rfl, -⟩ := own_out S0.own
  have HS0 := Lib.hid S0
  have HBH := Lib.hid HBX
  have hwr : IntKind.u64.wrap (NL : Int) = (NL : Int) := by simp [IntKind.wrap, IntKind.bits, IntKind.signed]; omega
  have HNL64 := Lib.hid (show NL < 18446744073709551616 by omega)
  have hsp := shortN_le NL
  obtain ⟨c1, hc1⟩ : ∃ c1 : List UInt8, c1 = c0 ++ [7, 11] := ⟨_, rfl⟩
  obtain ⟨c2, hc2⟩ : ∃ c2, c2 = c1 ++ shortN NL := ⟨_, rfl⟩
  obtain ⟨c3, hc3⟩ : ∃ c3, c3 = c2 ++ [0] := ⟨_, rfl⟩
  have HC1 := Lib.hid hc1
  have HC2 := Lib.hid hc2
  have HC3 := Lib.hid hc3
  have HL3 := Lib.hid (show c0.length ≤ 40000000 ∧ c1.length ≤ 40000100 ∧ c2.length ≤ 40000100 from by
    have g1 := congrArg List.length hc1
    have g2 := congrArg List.length hc2
    simp only [List.length_append, List.length_cons, List.length_nil] at g1 g2
    omega)
  rw [← hc1, ← hc2, ← hc3]
  clear hc1 hc2 hc3 hsp HBX hl
  conv => arg 2; whnf
  refine only_hide fun R HR => ?_
  refine wp_region_held_drew (S := fun wx => wx.cell? ⟨g, 4, none⟩ = some (.slice fao NL fcap)) (by kernel_rfl) (HBH.out _ (S0.fr.trans0 (Fr.refl [] w).drew)) (fun _ => ?_)
  refine wpAnyH_take (i := 0) (v := ?_) (arr_get _ 0 _ rfl) (by kernel_rfl) (by kernel_rfl) (by kernel_rfl) (fun _ _ _ h => by cases h.1) (Or.inl ⟨by rfl, ?_⟩) (HBH.out _ (S0.fr.trans0 (Fr.refl [] w).drew)) ?_
  rotate_left
  · rintro w f1
    go_simp
    all_goals with_reducible rfl
  try simp only [Act.put]
  refine wpAnyH_take (i := 3) (v := ?_) (arr_get _ 3 _ rfl) (by kernel_rfl) (by kernel_rfl) (by kernel_rfl) (fun _ _ _ h => by cases h.1) (Or.inl ⟨by rfl, ?_⟩) (HBH.out _ (S0.fr.trans0 (Fr.refl [] w).drew)) ?_
  rotate_left
  · rintro w f1
    go_simp
    all_goals with_reducible rfl
  try simp only [Act.put]
  refine wpAnyH_take (i := 4) (v := ?_) (arr_get _ 4 _ rfl) (by kernel_rfl) (by kernel_rfl) (by kernel_rfl) (fun _ _ _ h => by cases h.1) (Or.inl ⟨by rfl, ?_⟩) (HBH.out _ (S0.fr.trans0 (Fr.refl [] w).drew)) ?_
  rotate_left
  · rintro w f1
    go_simp
    all_goals with_reducible rfl
  try simp only [Act.put]
  refine wpAnyH_take (i := 5) (v := ?_) (arr_get _ 5 _ rfl) (by kernel_rfl) (by kernel_rfl) (by kernel_rfl) (fun _ _ _ h => by cases h.1) (Or.inl ⟨by rfl, ?_⟩) (HBH.out _ (S0.fr.trans0 (Fr.refl [] w).drew)) ?_
  rotate_left
  · rintro w f1
    go_simp
    all_goals with_reducible rfl
  try simp only [Act.put]
  refine wpAnyH_take (i := 6) (v := ?_) (arr_get _ 6 _ rfl) (by kernel_rfl) (by kernel_rfl) (by kernel_rfl) (fun _ _ _ h => by cases h.1) (Or.inl ⟨by rfl, ?_⟩) (HBH.out _ (S0.fr.trans0 (Fr.refl [] w).drew)) ?_
  rotate_left
  · rintro w f1
    go_simp
    all_goals with_reducible rfl
  try simp only [Act.put]
  refine wpAnyH_ready (rs := [1, 8]) (by kernel_rfl) (by simp) ?_
  refine AllReadyH.cons (arr_get _ 1 _ rfl) (fun K hK => ?_) (AllReadyH.cons (arr_get _ 8 _ rfl) (fun K hK => ?_) AllReadyH.nil)
  · go_simp
    refine hK.out _ _ (HBH.out _ (S0.fr.trans0 ((Fr.refl [] w).drew.alloc _))) (fun _ => ?_)
    clear hK K
    try simp only [Act.put]
    have L1 : Sl (w.drew.alloc (.cells #[.int .u8 7, .int .u8 11] 5)) (.slice (some ⟨w.drew.heap.size, 0, none⟩) 2 2) (bv [7, 11]) := sl_lit _ _ (bv [7, 11]) 2 rfl (by decide)
    refine wpAnyH_ready (rs := [2, 8]) (by kernel_rfl) (by simp) ?_
    refine AllReadyH.cons (arr_get _ 2 _ rfl) (fun K hK => ?_) (AllReadyH.cons (arr_get _ 8 _ rfl) (fun K hK => ?_) AllReadyH.nil)
    · refine step_append_b1 sty_u8 rfl (.tmp 72) (.tmp 73) (by rfl) HS0.out (((Fr.refl [] w).drew.alloc _)) (by go_simp) _ [7, 11] (by go_simp) L1 (by have := HL3.out; simp only [List.length_cons, List.length_nil]; omega) ?_
      intro v2 w2 S2 F2
      rw [← HC1.out] at S2
      obtain ⟨ro2, rc2, rfl, -⟩ := own_out S2.own
      refine hK.out _ _ (HBH.out _ S2.fr) (fun _ => ?_)
      clear hK K
      try simp only [Act.put]
      refine wpAnyH_ready (rs := [7, 8]) (by kernel_rfl) (by simp) ?_
      refine AllReadyH.cons (arr_get _ 7 _ rfl) (fun K hK => ?_) (AllReadyH.cons (arr_get _ 8 _ rfl) (fun K hK => ?_) AllReadyH.nil)
      · go_simp
        (go_at_call 30; refine (num_sb1 S2 ((Fr.refl [] w2)) HBa.out NL (by have := HL3.out; omega) HNL64.out).mono ?_; rintro e w7 ⟨r7, rfl, S7, F7⟩; rw [← HC2.out] at S7; obtain ⟨ro7, rc7, rfl, -⟩ := own_out S7.own)
        refine hK.out _ _ (HBH.out _ S7.fr) (fun _ => ?_)
        clear hK K
        try simp only [Act.put]
        refine wpAnyH_ready (rs := [8]) (by kernel_rfl) (by simp) ?_
        refine AllReadyH.cons (arr_get _ 8 _ rfl) (fun K hK => ?_) AllReadyH.nil
        go_simp
        refine hK.out _ _ (HBH.out _ (S7.fr.trans0 ((Fr.refl [] w7).alloc _))) (fun _ => ?_)
        clear hK K
        try simp only [Act.put]
        have L8 : Sl (w7.alloc (.cells #[.int .u8 0] 5)) (.slice (some ⟨w7.heap.size, 0, none⟩) 1 1) (bv [0]) := sl_one _ _ _
        refine wpAnyH_ready (rs := [9]) (by kernel_rfl) (by simp) ?_
        refine AllReadyH.cons (arr_get _ 9 _ rfl) (fun K hK => ?_) AllReadyH.nil
        refine step_append_b1 sty_u8 rfl (.tmp 79) (.tmp 80) (by rfl) S7 (((Fr.refl [] w7).alloc _)) (by go_simp) _ [0] (by go_simp) L8 (by have := HL3.out; simp only [List.length_cons, List.length_nil]; omega) ?_
        intro v9 w9 S9 F9
        rw [← HC3.out] at S9
        obtain ⟨ro9, rc9, rfl, -⟩ := own_out S9.own
        refine hK.out _ _ (HBH.out _ S9.fr) (fun _ => ?_)
        clear hK K
        try simp only [Act.put]
        refine wpAnyH_ready (rs := [10]) (by kernel_rfl) (by simp) ?_
        refine AllReadyH.cons (arr_get _ 10 _ rfl) (fun K hK => ?_) AllReadyH.nil
        go_simp
        refine hK.out _ _ (HBH.out _ S9.fr) (fun _ => ?_)
        clear hK K
        try simp only [Act.put]
        refine wpAnyH_done (by kernel_rfl) ?_ _
        exact only_mk (HR.out _ _ ⟨_, _, rfl, by simp [hz], fun _ => by simp [slot_set, h1], fun _ => by simp, S9⟩)
      · go_simp
        refine hK.out _ _ (HBH.out _ (S2.fr.trans0 ((Fr.refl [] w2).alloc _))) (fun _ => ?_)
        clear hK K
        try simp only [Act.put]
        have L8 : Sl (w2.alloc (.cells #[.int .u8 0] 5)) (.slice (some ⟨w2.heap.size, 0, none⟩) 1 1) (bv [0]) := sl_one _ _ _
        refine wpAnyH_ready (rs := [7]) (by kernel_rfl) (by simp) ?_
        refine AllReadyH.cons (arr_get _ 7 _ rfl) (fun K hK => ?_) AllReadyH.nil
        go_simp
        (go_at_call 30; refine (num_sb1 S2 (((Fr.refl [] w2).alloc _)) HBa.out NL (by have := HL3.out; omega) HNL64.out).mono ?_; rintro e w7 ⟨r7, rfl, S7, F7⟩; rw [← HC2.out] at S7; obtain ⟨ro7, rc7, rfl, -⟩ := own_out S7.own)
        refine hK.out _ _ (HBH.out _ S7.fr) (fun _ => ?_)
        clear hK K
        try simp only [Act.put]
        have L8 := L8.fr0 F7
        refine wpAnyH_ready (rs := [9]) (by kernel_rfl) (by simp) ?_
        refine AllReadyH.cons (arr_get _ 9 _ rfl) (fun K hK => ?_) AllReadyH.nil
        refine step_append_b1 sty_u8 rfl (.tmp 79) (.tmp 80) (by rfl) S7 ((Fr.refl [] w7)) (by go_simp) _ [0] (by go_simp) L8 (by have := HL3.out; simp only [List.length_cons, List.length_nil]; omega) ?_
        intro v9 w9 S9 F9
        rw [← HC3.out] at S9
        obtain ⟨ro9, rc9, rfl, -⟩ := own_out S9.own
        refine hK.out _ _ (HBH.out _ S9.fr) (fun _ => ?_)
        clear hK K
        try simp only [Act.put]
        refine wpAnyH_ready (rs := [10]) (by kernel_rfl) (by simp) ?_
        refine AllReadyH.cons (arr_get _ 10 _ rfl) (fun K hK => ?_) AllReadyH.nil
        go_simp
        refine hK.out _ _ (HBH.out _ S9.fr) (fun _ => ?_)
        clear hK K
        try simp only [Act.put]
        refine wpAnyH_done (by kernel_rfl) ?_ _
        exact only_mk (HR.out _ _ ⟨_, _, rfl, by simp [hz], fun _ => by simp [slot_set, h1], fun _ => by simp, S9⟩)
    · go_simp
      refine hK.out _ _ (HBH.out _ (S0.fr.trans0 (((Fr.refl [] w).drew.alloc _).alloc _))) (fun _ => ?_)
      clear hK K
      try simp only [Act.put]
      have L8 : Sl ((w.drew.alloc (.cells #[.int .u8 7, .int .u8 11] 5)).alloc (.cells #[.int .u8 0] 5)) (.slice (some ⟨(w.drew.alloc (.cells #[.int .u8 7, .int .u8 11] 5)).heap.size, 0, none⟩) 1 1) (bv [0]) := sl_one _ _ _
      have L1 := L1.fr0 ((Fr.refl [] _).alloc (.cells #[.int .u8 0] 5))
      refine wpAnyH_ready (rs := [2]) (by kernel_rfl) (by simp) ?_
      refine AllReadyH.cons (arr_get _ 2 _ rfl) (fun K hK => ?_) AllReadyH.nil
      refine step_append_b1 sty_u8 rfl (.tmp 72) (.tmp 73) (by rfl) HS0.out ((((Fr.refl [] w).drew.alloc _).alloc _)) (by go_simp) _ [7, 11] (by go_simp) L1 (by have := HL3.out; simp only [List.length_cons, List.length_nil]; omega) ?_
      intro v2 w2 S2 F2
      rw [← HC1.out] at S2
      obtain ⟨ro2, rc2, rfl, -⟩ := own_out S2.own
      refine hK.out _ _ (HBH.out _ S2.fr) (fun _ => ?_)
      clear hK K
      try simp only [Act.put]
      have L8 := lit_keep S0 (by simp) L8 F2
      refine wpAnyH_ready (rs := [7]) (by kernel_rfl) (by simp) ?_
      refine AllReadyH.cons (arr_get _ 7 _ rfl) (fun K hK => ?_) AllReadyH.nil
      go_simp
      (go_at_call 30; refine (num_sb1 S2 ((Fr.refl [] w2)) HBa.out NL (by have := HL3.out; omega) HNL64.out).mono ?_; rintro e w7 ⟨r7, rfl, S7, F7⟩; rw [← HC2.out] at S7; obtain ⟨ro7, rc7, rfl, -⟩ := own_out S7.own)
      refine hK.out _ _ (HBH.out _ S7.fr) (fun _ => ?_)
      clear hK K
      try simp only [Act.put]
      have L8 := L8.fr0 F7
      refine wpAnyH_ready (rs := [9]) (by kernel_rfl) (by simp) ?_
      refine AllReadyH.cons (arr_get _ 9 _ rfl) (fun K hK => ?_) AllReadyH.nil
      refine step_append_b1 sty_u8 rfl (.tmp 79) (.tmp 80) (by rfl) S7 ((Fr.refl [] w7)) (by go_simp) _ [0] (by go_simp) L8 (by have := HL3.out; simp only [List.length_cons, List.length_nil]; omega) ?_
      intro v9 w9 S9 F9
      rw [← HC3.out] at S9
      obtain ⟨ro9, rc9, rfl, -⟩ := own_out S9.own
      refine hK.out _ _ (HBH.out _ S9.fr) (fun _ => ?_)
      clear hK K
      try simp only [Act.put]
      refine wpAnyH_ready (rs := [10]) (by kernel_rfl) (by simp) ?_
      refine AllReadyH.cons (arr_get _ 10 _ rfl) (fun K hK => ?_) AllReadyH.nil
      go_simp
      refine hK.out _ _ (HBH.out _ S9.fr) (fun _ => ?_)
      clear hK K
      try simp only [Act.put]
      refine wpAnyH_done (by kernel_rfl) ?_ _
      exact only_mk (HR.out _ _ ⟨_, _, rfl, by simp [hz], fun _ => by simp [slot_set, h1], fun _ => by simp, S9⟩)
  · go_simp
    refine hK.out _ _ (HBH.out _ (S0.fr.trans0 ((Fr.refl [] w).drew.alloc _))) (fun _ => ?_)
    clear hK K
    try simp only [Act.put]
    have L8 : Sl (w.drew.alloc (.cells #[.int .u8 0] 5)) (.slice (some ⟨w.drew.heap.size, 0, none⟩) 1 1) (bv [0]) := sl_one _ _ _
    refine wpAnyH_ready (rs := [1]) (by kernel_rfl) (by simp) ?_
    refine AllReadyH.cons (arr_get _ 1 _ rfl) (fun K hK => ?_) AllReadyH.nil
    go_simp
    refine hK.out _ _ (HBH.out _ (S0.fr.trans0 (((Fr.refl [] w).drew.alloc _).alloc _))) (fun _ => ?_)
    clear hK K
    try simp only [Act.put]
    have L1 : Sl ((w.drew.alloc (.cells #[.int .u8 0] 5)).alloc (.cells #[.int .u8 7, .int .u8 11] 5)) (.slice (some ⟨(w.drew.alloc (.cells #[.int .u8 0] 5)).heap.size, 0, none⟩) 2 2) (bv [7, 11]) := sl_lit _ _ (bv [7, 11]) 2 rfl (by decide)
    refine wpAnyH_ready (rs := [2]) (by kernel_rfl) (by simp) ?_
    refine AllReadyH.cons (arr_get _ 2 _ rfl) (fun K hK => ?_) AllReadyH.nil
    have L8 := L8.fr0 ((Fr.refl [] _).alloc (.cells #[.int .u8 7, .int .u8 11] 5))
    refine step_append_b1 sty_u8 rfl (.tmp 72) (.tmp 73) (by rfl) HS0.out ((((Fr.refl [] w).drew.alloc _).alloc _)) (by go_simp) _ [7, 11] (by go_simp) L1 (by have := HL3.out; simp only [List.length_cons, List.length_nil]; omega) ?_
    intro v2 w2 S2 F2
    rw [← HC1.out] at S2
    obtain ⟨ro2, rc2, rfl, -⟩ := own_out S2.own
    refine hK.out _ _ (HBH.out _ S2.fr) (fun _ => ?_)
    clear hK K
    try simp only [Act.put]
    have L8 := lit_keep S0 (by simp) L8 F2
    refine wpAnyH_ready (rs := [7]) (by kernel_rfl) (by simp) ?_
    refine AllReadyH.cons (arr_get _ 7 _ rfl) (fun K hK => ?_) AllReadyH.nil
    go_simp
    (go_at_call 30; refine (num_sb1 S2 ((Fr.refl [] w2)) HBa.out NL (by have := HL3.out; omega) HNL64.out).mono ?_; rintro e w7 ⟨r7, rfl, S7, F7⟩; rw [← HC2.out] at S7; obtain ⟨ro7, rc7, rfl, -⟩ := own_out S7.own)
    refine hK.out _ _ (HBH.out _ S7.fr) (fun _ => ?_)
    clear hK K
    try simp only [Act.put]
    have L8 := L8.fr0 F7
    refine wpAnyH_ready (rs := [9]) (by kernel_rfl) (by simp) ?_
    refine AllReadyH.cons (arr_get _ 9 _ rfl) (fun K hK => ?_) AllReadyH.nil
    refine step_append_b1 sty_u8 rfl (.tmp 79) (.tmp 80) (by rfl) S7 ((Fr.refl [] w7)) (by go_simp) _ [0] (by go_simp) L8 (by have := HL3.out; simp only [List.length_cons, List.length_nil]; omega) ?_
    intro v9 w9 S9 F9
    rw [← HC3.out] at S9
    obtain ⟨ro9, rc9, rfl, -⟩ := own_out S9.own
    refine hK.out _ _ (HBH.out _ S9.fr) (fun _ => ?_)
    clear hK K
    try simp only [Act.put]
    refine wpAnyH_ready (rs := [10]) (by kernel_rfl) (by simp) ?_
    refine AllReadyH.cons (arr_get _ 10 _ rfl) (fun K hK => ?_) AllReadyH.nil
    go_simp
    refine hK.out _ _ (HBH.out _ S9.fr) (fun _ => ?_)
    clear hK K
    try simp only [Act.put]
    refine wpAnyH_done (by kernel_rfl) ?_ _
    exact only_mk (HR.out _ _ ⟨_, _, rfl, by simp [hz], fun _ => by simp [slot_set, h1], fun _ => by simp, S9⟩)

set_option maxRecDepth 100000 in
set_option maxHeartbeats 2000000 in
/-- A folder: its box is made, its check joins the checks, its bytes are put. -/
theorem sp_fround {wA : World} {g : Nat} {c0 : List UInt8} {L : List Fol} {fao : Option Addr} {fcap NL : Nat} (hNL : L.length = NL) (hF : FolR wA (.slice fao NL fcap) L) (hok : ∀ x ∈ L, FolOk x.f) (hpr : ∀ x ∈ L, ∀ c ∈ x.f.coders, c.props.length ≤ 10000000) (hn : NL ≤ 100000) (hl : c0.length + (foB L).length ≤ 40000000) (HBX : ∀ wx, Fr [] wA wx → wx.cell? ⟨g, 4, none⟩ = some (.slice fao NL fcap)) (k : Nat) (hk : k < NL) (a : Act) (w : World) (hS : SFk wA g 6 (c0 ++ foB (L.take k)) (cksL (L.take k)) k a w) :
    (sc [true, true, true, false, true, false, true, true, false, true, false, false, true, false]).wp Tryd.prog (Only (SFk wA g 6 (c0 ++ foB (L.take (k + 1))) (cksL (L.take (k + 1))) k)) a w := by
  have HBa := Lib.hid (Nat.le_refl wA.heap.size)
  obtain ⟨A, v, u, rfl, hz, ⟨h1, h3, h5, h6, -⟩, S0, own0⟩ := hS
  obtain ⟨x, hx⟩ := some_get L k (by rw [hNL]; exact hk)
  obtain ⟨ao1, cap1, he1, -, -, hel⟩ := hF.out
  obtain ⟨b1, o1, cv, bv', pv, sv, hao, hb1, z0, z1, z2, z3, z4, z5, zF⟩ := hel k x hx
  have hao2 : fao = ao1 := by injection he1
  rw [hao2, hao] at HBX
  have FW : Fr [] wA w := S0.fr
  have e0 := (FW.cell (p := ⟨b1, o1 + k * 6, none⟩) hb1 (by simp)).trans z0
  have e1 := (FW.cell (p := ⟨b1, o1 + k * 6 + 1, none⟩) hb1 (by simp)).trans z1
  have e2 := (FW.cell (p := ⟨b1, o1 + k * 6 + 2, none⟩) hb1 (by simp)).trans z2
  have e3 := (FW.cell (p := ⟨b1, o1 + k * 6 + 3, none⟩) hb1 (by simp)).trans z3
  have e4 := (FW.cell (p := ⟨b1, o1 + k * 6 + 4, none⟩) hb1 (by simp)).trans z4
  have e5 := (FW.cell (p := ⟨b1, o1 + k * 6 + 5, none⟩) hb1 (by simp)).trans z5
  have hb2 := Nat.lt_of_lt_of_le hb1 FW.size
  have q4 := HBX w FW
  have hkI : (k : Int) < (NL : Int) := by omega
  have HOK := hok x (List.mem_of_getElem? hx)
  have HPR := hpr x (List.mem_of_getElem? hx)
  have HTK := foB_take hx
  have HCK := cksL_take hx
  have HLE := foB_le hx
  have hcl : (cksL (L.take k)).length = k := by unfold cksL; rw [List.length_map, List.length_take]; omega
  have hcl2 : (cksL (L.take (k + 1))).length = k + 1 := by unfold cksL; rw [List.length_map, List.length_take]; omega
  rw [HTK, ← List.append_assoc]
  rw [hcl] at own0
  have hYl : (c0 ++ foB (L.take k)).length + (folderW x.f).length ≤ 40000000 := by rw [List.length_append]; omega
  obtain ⟨C, hC⟩ : ∃ C, C = cksL (L.take (k + 1)) := ⟨_, rfl⟩
  obtain ⟨C0, hC0⟩ : ∃ C, C = ckV (cksL (L.take k)) := ⟨_, rfl⟩
  rw [← hC] at HCK hcl2 ⊢
  rw [← hC0] at HCK own0
  generalize c0 ++ foB (L.take k) = Y at *
  clear hC hC0 hcl hx hel he1 hF hok hpr hl HTK HLE z0 z1 z2 z3 z4 z5 hao hao2
  obtain ⟨xf, ⟨xh, xs⟩⟩ := x
  dsimp only at e0 e1 e2 e3 e4 e5 zF HOK HPR HCK hYl ⊢
  obtain ⟨cao, ccap, rfl, -, -, -⟩ := zF.co.out
  obtain ⟨bao, bcap, rfl, -, -, -⟩ := zF.bi.out
  obtain ⟨pao, pcap, rfl, -, -, -⟩ := zF.pa.out
  obtain ⟨sao, scap, rfl, -, -, -⟩ := zF.si.out
  conv => arg 2; whnf
  refine only_block ?_
  obtain ⟨w1, hw1⟩ : ∃ w1, w1 = w.alloc (.cells #[.slice cao xf.coders.length ccap, .slice bao xf.binds.length bcap, .slice pao (iv xf.packs).length pcap, .slice sao (u64v xf.sizes).length scap, .bool xh, .int .u32 xs.toNat] 46) := ⟨_, rfl⟩
  have F1 : Fr [] w w1 := hw1 ▸ (Fr.refl [] w).alloc _
  have B1 : w1.heap[w.heap.size]? = some (.cells #[.slice cao xf.coders.length ccap, .slice bao xf.binds.length bcap, .slice pao (iv xf.packs).length pcap, .slice sao (u64v xf.sizes).length scap, .bool xh, .int .u32 xs.toNat] 46 (0, 0)) := by rw [hw1]; exact heap_alloc_new w _
  have hs1 : w1.heap.size = w.heap.size + 1 := by rw [hw1]; simp
  obtain ⟨g7, hg7⟩ : ∃ g7, g7 = w.heap.size := ⟨_, rfl⟩
  have hg7A : wA.heap.size ≤ g7 := by rw [hg7]; exact FW.size
  refine only_seq (R := fun a' w' => w' = w1 ∧ ∃ A, a' = ⟨A, []⟩ ∧ A.size = 335 ∧ Slots A [(1, .pointer (some ⟨g, 0, none⟩)), (3, v), (5, u), (6, .int .i64 (k : Int)), (7, .pointer (some ⟨g7, 0, none⟩))]) ?_ ?_
  · have HS := Lib.hid S0
    have HO := Lib.hid own0
    have HW1 := Lib.hid hw1
    have HG7 := Lib.hid hg7
    clear S0 own0 hw1 F1 B1 hs1 zF HOK HPR HCK hYl hcl2 HBX hNL hg7 hg7A
    refine only_hide fun R HR => ?_
    go_wp2_with fail
    rw [← HW1.out]
    refine only_mk (HR.out _ _ ⟨rfl, _, rfl, by simp [hz], fun _ => by simp [slot_set, h1], fun _ => by simp [slot_set, h3], fun _ => by simp [slot_set, h5], fun _ => by simp [slot_set, h6], fun _ => ?_, trivial⟩)
    simp [HG7.out]
  clear h1 h3 h5 h6 hz A e0 e1 e2 e3 e4 e5 q4 hkI hb2
  rintro _ w' ⟨hw', A, rfl, hz, h1, h3, h5, h6, h7, -⟩
  subst w'
  have S1 := S0.fr0 F1
  have own1 := own_frS own0 F1 (by simp)
  rw [← hg7] at B1 hs1
  have hu7 : ∀ i, u.ownBlock = some i → i ≠ g7 := fun i hi => by have := (own_ltS own0 i hi).2; omega
  have hv7 : ∀ i, v.ownBlock = some i → i ≠ g7 := fun i hi => by have := (own_ltS S0.own i hi).2; omega
  clear S0 own0 hw1 hg7
  refine only_seq (R := fun a' w' => ∃ A u', a' = ⟨A, []⟩ ∧ A.size = 335 ∧ Slots A [(1, .pointer (some ⟨g, 0, none⟩)), (3, v), (5, u'), (6, .int .i64 (k : Int)), (7, .pointer (some ⟨g7, 0, none⟩))] ∧ w'.ownsRow wA.heap.size 44 2 u' (k + 1) (ckV C) ∧ StB wA.heap.size wA (.slice none 0 0) v Y w' ∧ w'.heap[g7]? = some (.cells #[.slice cao xf.coders.length ccap, .slice bao xf.binds.length bcap, .slice pao (iv xf.packs).length pcap, .slice sao (u64v xf.sizes).length scap, .bool xh, .int .u32 xs.toNat] 46 (0, 0))) ?_ ?_
  · have q40 : w1.cell? ⟨g7, 4, none⟩ = some (.bool xh) := by simp [Go.Joins.cell_of_block B1]
    have q50 : w1.cell? ⟨g7, 5, none⟩ = some (.int .u32 xs.toNat) := by simp [Go.Joins.cell_of_block B1]
    have HO := Lib.hid (own_frS own1 ((Fr.refl [] w1).alloc (.cells #[.bool xh, .int .u32 xs.toNat] 44)) (by simp))
    have HNB := Lib.hid (heap_alloc_new w1 (.cells #[.bool xh, .int .u32 xs.toNat] 44))
    have HSZ := Lib.hid (show wA.heap.size ≤ (w1.alloc (.cells #[.bool xh, .int .u32 xs.toNat] 44)).heap.size from by have := S1.fr.size; rw [World.size_alloc]; omega)
    have HT := Lib.hid HCK
    have HB7 := Lib.hid B1
    have HS1 := Lib.hid S1
    have HG := Lib.hid hu7
    have hk100 : k < 1000000 := by omega
    clear own1 S1 zF HOK HPR HCK hYl hcl2 HBX hNL hg7A FW F1 hs1 B1 hu7 hv7
    refine only_hide fun R HR => ?_
    go_wp2_with (at_builtin; refine wpList_append_struct sty_ck rfl (.tmp 94) (.tmp 97) (by rfl) wA.heap.size _ _ _ (by go_simp) HO.out w1.heap.size [.bool xh, .int .u32 xs.toNat] (by go_simp) HNB.out rfl rfl (by omega) (by decide) HSZ.out ?_; intro v7 w7 own7 g7')
    have FU : Fr u.ownBlock.toList w1 w7 := ((Fr.refl u.ownBlock.toList w1).alloc _).grown g7' (fun q hq => .inl (by simp [hq]))
    refine only_mk (HR.out _ _ ⟨_, v7, rfl, by simp [hz], ⟨fun _ => by simp [slot_set, h1], fun _ => by simp [slot_set, h3], fun _ => by simp, fun _ => by simp [slot_set, h6], fun _ => by simp [slot_set, h7], trivial⟩, ?_, ?_, ?_⟩)
    · rw [HT.out]; exact own7
    · exact StB.grownO (HS1.out.fr0 ((Fr.refl [] w1).alloc _)) HO.out (Nat.le_refl _) (by decide) g7'
    · refine (FU.block g7 (Array.getElem?_eq_some_iff.1 HB7.out).1 (fun hm => ?_)).trans HB7.out
      exact HG.out g7 (by simpa using hm) rfl
  clear h1 h3 h5 h6 h7 hz A own1 S1 B1 F1 hs1 FW
  rintro _ w2 ⟨A, u', rfl, hz, ⟨h1, h3, h5, h6, h7, -⟩, own2, S2, B2⟩
  have HXB : BoxF wA w2 v g7 (.slice cao xf.coders.length ccap) (.slice bao xf.binds.length bcap) (.slice pao (iv xf.packs).length pcap) := fun wx F => by
    have b := (F.block g7 (Array.getElem?_eq_some_iff.1 B2).1 (fun hm => hv7 g7 (by simpa using hm) rfl)).trans B2
    exact ⟨⟨by simp [Go.Joins.cell_of_block b], by simp [Go.Joins.cell_of_block b], by simp [Go.Joins.cell_of_block b]⟩, S2.above F⟩
  have hb2 : wA.heap.size ≤ w2.heap.size := S2.fr.size
  have hfl := congrArg List.length (show folderW xf = shortN xf.coders.length ++ (xf.coders.flatMap coderW ++ (xf.binds.flatMap bindW ++ (if 1 < xf.packs.length then packsI xf.packs else []))) from rfl)
  rw [List.length_append, List.length_append, List.length_append] at hfl
  obtain ⟨NC, hNC⟩ : ∃ n, xf.coders.length = n := ⟨_, rfl⟩
  have hNCl := HOK.cl
  rw [hNC] at hNCl hfl
  refine only_seq (R := SI w2 wA.heap.size v g g7 k u' (Y ++ shortN NC)) ?_ ?_
  · have hq0 := (HXB w2 (Fr.refl _ _)).1.1
    rw [hNC] at hq0
    obtain ⟨vo, vc, rfl, -⟩ := own_out S2.own
    have HS := Lib.hid (StB.refl S2.own)
    have HB := Lib.hid hb2
    have hwr : IntKind.u64.wrap (NC : Int) = (NC : Int) := by simp [IntKind.wrap, IntKind.bits, IntKind.signed]; omega
    have hn64 : NC < 18446744073709551616 := by omega
    have HYL := Lib.hid (show Y.length ≤ 40000000 by omega)
    clear S2 own2 B2 HXB hb2 hfl zF HOK HPR HCK hYl hcl2 HBX hNL hg7A hv7 hu7 hNC
    refine only_hide fun R HR => ?_
    go_wp2_with (go_at_call 30; refine (num_sb HS.out (Fr.refl _ _) HB.out NC (by have := HYL.out; omega) hn64).mono ?_; rintro e w8 ⟨r8, rfl, S8⟩; obtain ⟨ro8, rc8, rfl, -⟩ := own_out S8.own)
    exact only_mk (HR.out _ _ ⟨_, _, rfl, by simp [hz], ⟨fun _ => by simp [slot_set, h1], fun _ => by simp, fun _ => by simp [slot_set, h5], fun _ => by simp [slot_set, h6], fun _ => by simp [slot_set, h7], trivial⟩, S8⟩)
  intro a w8 h8
  refine only_seq (sp_coders hb2 HXB zF HOK HPR (by rw [List.length_append]; omega) a w8 h8) (fun a w9 h9 => ?_)
  refine only_seq (sp_binds hb2 HXB zF HOK (by simp only [List.length_append]; omega) a w9 h9) (fun a wa ha => ?_)
  refine only_mono (sp_fpacks hb2 HXB zF HOK (by simp only [List.length_append]; omega) a wa ha) ?_
  rintro _ w' ⟨A, vx, rfl, hz, ⟨h1, h3, h5, h6, h7, -⟩, S3⟩
  have e : (((Y ++ shortN NC) ++ xf.coders.flatMap coderW) ++ xf.binds.flatMap bindW) ++ (if 1 < xf.packs.length then packsI xf.packs else []) = Y ++ folderW xf := by unfold folderW; rw [hNC]; simp only [List.append_assoc]
  rw [e] at S3
  refine ⟨A, vx, u', rfl, hz, ⟨h1, h3, h5, h6, trivial⟩, S2.step S3.fr S3.own S3.at_, ?_⟩
  rw [hcl2]
  exact S2.keep own2 (by decide) S3.fr

set_option maxRecDepth 100000 in
set_option maxHeartbeats 2000000 in
theorem sp_floop {wA : World} {g : Nat} {L : List Fol} {fao : Option Addr} {fcap NL : Nat} (hNL : L.length = NL) (hF : FolR wA (.slice fao NL fcap) L) (hok : ∀ x ∈ L, FolOk x.f) (hn : NL ≤ 100000) (HBX : ∀ wx, Fr [] wA wx → wx.cell? ⟨g, 4, none⟩ = some (.slice fao NL fcap)) {c0 : List UInt8} (hpr : ∀ x ∈ L, ∀ c ∈ x.f.coders, c.props.length ≤ 10000000) (hl : c0.length + (foB L).length ≤ 40000000) (a : Act) (w : World) (hS : SF wA g c0 [] a w) :
    (sc [true, true, true, false, true, false, true, true, false]).wp Tryd.prog (Only (SF wA g (c0 ++ foB L) (cksL L))) a w := by
  have HXH := Lib.hid HBX
  conv => arg 2; whnf
  refine only_seq (R := SFk wA g 6 (c0 ++ foB (L.take 0)) (cksL (L.take 0)) 0) ?_ ?_
  · obtain ⟨A, v, u, rfl, hz, ⟨h1, h3, h5, -⟩, S0, own0⟩ := hS
    have HS := Lib.hid S0
    have HO := Lib.hid own0
    clear S0 own0 hF hok hpr hl HBX hNL
    refine only_hide fun R HR => ?_
    go_wp2_with fail
    refine only_mk (HR.out _ _ ⟨_, v, u, rfl, by simp [hz], ⟨fun _ => by simp [slot_set, h1], fun _ => by simp [slot_set, h3], fun _ => by simp [slot_set, h5], fun _ => by simp, trivial⟩, ?_, HO.out⟩)
    rw [List.take_zero, show foB [] = [] from rfl, List.append_nil]
    exact HS.out
  clear hS a w
  intro a w hI
  refine for_count (N := NL) (fun k => SFk wA g 6 (c0 ++ foB (L.take k)) (cksL (L.take k)) k) (fun k => SFk wA g 6 (c0 ++ foB (L.take (k + 1))) (cksL (L.take (k + 1))) k) hI ?_ ?_ ?_ ?_
  · clear hI a w
    rintro k _ wr hk ⟨A, v, u, rfl, hz, ⟨h1, h3, h5, h6, -⟩, S0, own0⟩
    have q4 := HXH.out wr S0.fr
    have HS := Lib.hid S0
    have HO := Lib.hid own0
    clear S0 own0 hF hok hpr hl HBX hNL
    refine only_hide fun R HR => ?_
    go_wp2_with fail
    exact only_mk (HR.out _ _ ⟨by simp [Act.eval, hz], _, v, u, rfl, by simp [hz], ⟨fun _ => by simp [slot_set, h1], fun _ => by simp [slot_set, h3], fun _ => by simp [slot_set, h5], fun _ => by simp [slot_set, h6], trivial⟩, HS.out, HO.out⟩)
  · intro k a wr hk h
    exact sp_fround hNL hF hok hpr hn hl HBX k hk a wr h
  · clear hI a w
    rintro k _ wr hk ⟨A, v, u, rfl, hz, ⟨h1, h3, h5, h6, -⟩, S0, own0⟩
    have HS := Lib.hid S0
    have HO := Lib.hid own0
    clear S0 own0 hF hok hpr hl HBX hNL
    refine only_hide fun R HR => ?_
    go_wp2_with fail
    exact only_mk (HR.out _ _ ⟨_, v, u, rfl, by simp [hz], ⟨fun _ => by simp [slot_set, h1], fun _ => by simp [slot_set, h3], fun _ => by simp [slot_set, h5], fun _ => by simp, trivial⟩, HS.out, HO.out⟩)
  · rintro _ wr ⟨A, v, u, rfl, hz, ⟨h1, h3, h5, h6, -⟩, S0, own0⟩
    rw [List.take_of_length_le (by omega)] at S0 own0
    exact ⟨A, v, u, rfl, hz, ⟨h1, h3, h5, trivial⟩, S0, own0⟩
def SFs (wA : World) (g : Nat) (c : List UInt8) (cks : List Ck) (k j : Nat) (a : Act) (w' : World) : Prop :=
  ∃ A v u, a = ⟨A, []⟩ ∧ A.size = 335 ∧ Slots A [(1, .pointer (some ⟨g, 0, none⟩)), (3, v), (5, u), (11, .int .i64 (k : Int)), (12, .int .i64 (j : Int))] ∧ StB wA.heap.size wA (.slice none 0 0) v c w' ∧ w'.ownsRow wA.heap.size 44 2 u cks.length (ckV cks)

set_option maxRecDepth 100000 in
set_option maxHeartbeats 2000000 in
/-- A folder's sizes. -/
theorem sp_sizes {wA : World} {g : Nat} {L : List Fol} {fao : Option Addr} {fcap NL : Nat} (hNL : L.length = NL) (hF : FolR wA (.slice fao NL fcap) L) (hok : ∀ x ∈ L, FolOk x.f) (hn : NL ≤ 100000) (HBX : ∀ wx, Fr [] wA wx → wx.cell? ⟨g, 4, none⟩ = some (.slice fao NL fcap)) {c0 : List UInt8} {cks : List Ck} {k : Nat} (hk : k < NL) {x : Fol} (hx : L[k]? = some x) (hl : c0.length + (numsB x.f.sizes).length ≤ 40000000) (a : Act) (w : World) (hS : SFk wA g 11 c0 cks k a w) :
    (sc [true, true, true, false, true, false, true, true, true, true, false, true, false, false, true, false]).wp Tryd.prog (Only (SFk wA g 11 (c0 ++ numsB x.f.sizes) cks k)) a w := by
  have HBa := Lib.hid (Nat.le_refl wA.heap.size)
  obtain ⟨ao1, cap1, he1, -, -, hel⟩ := hF.out
  obtain ⟨b1, o1, cv, bv', pv, sv, hao, hb1, -, -, -, z3, -, -, zF⟩ := hel k x hx
  obtain ⟨sao, scap, rfl, -, -, hsi⟩ := zF.si.out
  obtain ⟨NC, hNC⟩ : ∃ n, x.f.sizes.length = n := ⟨_, rfl⟩
  have hNCl := (hok x (List.mem_of_getElem? hx)).sl
  have hNU : (u64v x.f.sizes).length = NC := by simp [u64v, hNC]
  rw [hNU] at hsi z3
  rw [hNC] at hNCl
  have hao2 : fao = ao1 := by injection he1
  rw [hao2, hao] at HBX
  have HXH := Lib.hid (fun (wx : World) (F : Fr [] wA wx) => show (wx.cell? ⟨g, 4, none⟩ = some (.slice (some ⟨b1, o1, none⟩) NL fcap) ∧ wx.cell? ⟨b1, o1 + k * 6 + 3, none⟩ = some (.slice sao NC scap) ∧ b1 < wx.heap.size) from ⟨HBX wx F, (F.cell (p := ⟨b1, o1 + k * 6 + 3, none⟩) hb1 (by simp)).trans z3, Nat.lt_of_lt_of_le hb1 F.size⟩)
  have hkI : (k : Int) < (NL : Int) := by omega
  clear hel he1 hF hok HBX zF z3 hao hao2
  conv => arg 2; whnf
  refine only_block ?_
  refine only_seq (R := SFs wA g c0 cks k 0) ?_ ?_
  · obtain ⟨A, v, u, rfl, hz, ⟨h1, h3, h5, h11, -⟩, S0, own0⟩ := hS
    have HS := Lib.hid S0
    have HO := Lib.hid own0
    clear S0 own0 hsi hl hNL hx
    refine only_hide fun R HR => ?_
    go_wp2_with fail
    exact only_mk (HR.out _ _ ⟨_, v, u, rfl, by simp [hz], ⟨fun _ => by simp [slot_set, h1], fun _ => by simp [slot_set, h3], fun _ => by simp [slot_set, h5], fun _ => by simp [slot_set, h11], fun _ => by simp, trivial⟩, HS.out, HO.out⟩)
  clear hS a w
  intro a w hI
  refine for_count (N := NC) (fun j => SFs wA g (c0 ++ numsB (x.f.sizes.take j)) cks k j) (fun j => SFs wA g (c0 ++ numsB (x.f.sizes.take (j + 1))) cks k j) (by rw [List.take_zero, show numsB [] = [] from rfl, List.append_nil]; exact hI) ?_ ?_ ?_ ?_
  · clear hI a w
    rintro j _ wr hj ⟨A, v, u, rfl, hz, ⟨h1, h3, h5, h11, h12, -⟩, S0, own0⟩
    obtain ⟨q4, q3, hb2⟩ := HXH.out wr S0.fr
    have HS := Lib.hid S0
    have HO := Lib.hid own0
    clear S0 own0 hsi hl hNL hx
    refine only_hide fun R HR => ?_
    go_wp2_with fail
    exact only_mk (HR.out _ _ ⟨by simp [Act.eval, hz], _, v, u, rfl, by simp [hz], ⟨fun _ => by simp [slot_set, h1], fun _ => by simp [slot_set, h3], fun _ => by simp [slot_set, h5], fun _ => by simp [slot_set, h11], fun _ => by simp [slot_set, h12], trivial⟩, HS.out, HO.out⟩)
  · clear hI a w
    rintro j _ wr hj ⟨A, v, u, rfl, hz, ⟨h1, h3, h5, h11, h12, -⟩, S0, own0⟩
    obtain ⟨y, hy⟩ := some_get x.f.sizes j (by rw [hNC]; exact hj)
    obtain ⟨b3, o3, hao3, hb3, zz⟩ := hsi j hj
    subst hao3
    obtain ⟨q4, q3, hb2⟩ := HXH.out wr S0.fr
    have FW : Fr [] wA wr := S0.fr
    have e0 := (FW.cell (p := ⟨b3, o3 + j, none⟩) hb3 (by simp)).trans ((zz j hj).trans (show (u64v x.f.sizes)[j]? = some (.int .u64 y.toNat) by simp [u64v, hy]))
    have hb4 := Nat.lt_of_lt_of_le hb3 FW.size
    have HTK := Lib.hid (show c0 ++ numsB (x.f.sizes.take (j + 1)) = (c0 ++ numsB (x.f.sizes.take j)) ++ shortN y.toNat by rw [numsB_take hy, List.append_assoc])
    have hle := numsB_le (l := x.f.sizes) j
    have HYL := Lib.hid (show (c0 ++ numsB (x.f.sizes.take j)).length ≤ 40000000 by rw [List.length_append]; omega)
    have hy64 := y.toNat_lt
    have hjI : (j : Int) < (NC : Int) := by omega
    obtain ⟨vo, vc, rfl, -⟩ := own_out S0.own
    generalize c0 ++ numsB (x.f.sizes.take j) = Y at *
    generalize c0 ++ numsB (x.f.sizes.take (j + 1)) = Y' at *
    have HS := Lib.hid S0
    have HO := Lib.hid own0
    clear S0 own0 hsi hl hNL hx hy zz hle hNC hNU FW
    refine only_hide fun R HR => ?_
    go_wp2_with (go_at_call 30; refine (num_sb1 HS.out (Fr.refl _ _) HBa.out y.toNat (by have := HYL.out; omega) hy64).mono ?_; rintro e w7 ⟨r7, rfl, S7, F7⟩; rw [← HTK.out] at S7; obtain ⟨ro7, rc7, rfl, -⟩ := own_out S7.own)
    exact only_mk (HR.out _ _ ⟨_, _, u, rfl, by simp [hz], ⟨fun _ => by simp [slot_set, h1], fun _ => by simp, fun _ => by simp [slot_set, h5], fun _ => by simp [slot_set, h11], fun _ => by simp [slot_set, h12], trivial⟩, S7, own_frS HO.out F7 (by simp)⟩)
  · clear hI a w
    rintro j _ wr hj ⟨A, v, u, rfl, hz, ⟨h1, h3, h5, h11, h12, -⟩, S0, own0⟩
    have HS := Lib.hid S0
    have HO := Lib.hid own0
    clear S0 own0 hsi hl hNL hx
    refine only_hide fun R HR => ?_
    go_wp2_with fail
    exact only_mk (HR.out _ _ ⟨_, v, u, rfl, by simp [hz], ⟨fun _ => by simp [slot_set, h1], fun _ => by simp [slot_set, h3], fun _ => by simp [slot_set, h5], fun _ => by simp [slot_set, h11], fun _ => by simp, trivial⟩, HS.out, HO.out⟩)
  · rintro _ wr ⟨A, v, u, rfl, hz, ⟨h1, h3, h5, h11, h12, -⟩, S0, own0⟩
    rw [List.take_of_length_le (by omega)] at S0
    exact ⟨A, v, u, rfl, hz, ⟨h1, h3, h5, h11, trivial⟩, S0, own0⟩

set_option maxRecDepth 100000 in
set_option maxHeartbeats 2000000 in
theorem sp_sloop {wA : World} {g : Nat} {L : List Fol} {fao : Option Addr} {fcap NL : Nat} (hNL : L.length = NL) (hF : FolR wA (.slice fao NL fcap) L) (hok : ∀ x ∈ L, FolOk x.f) (hn : NL ≤ 100000) (HBX : ∀ wx, Fr [] wA wx → wx.cell? ⟨g, 4, none⟩ = some (.slice fao NL fcap)) {c0 : List UInt8} {cks : List Ck} (hl : c0.length + (szB L).length ≤ 40000000) (a : Act) (w : World) (hS : SF wA g c0 cks a w) :
    (sc [true, true, true, false, true, false, true, true, true, true, false]).wp Tryd.prog (Only (SF wA g (c0 ++ szB L) cks)) a w := by
  have HXH := Lib.hid HBX
  conv => arg 2; whnf
  refine only_seq (R := SFk wA g 11 (c0 ++ szB (L.take 0)) cks 0) ?_ ?_
  · obtain ⟨A, v, u, rfl, hz, ⟨h1, h3, h5, -⟩, S0, own0⟩ := hS
    have HS := Lib.hid S0
    have HO := Lib.hid own0
    clear S0 own0 hF hok hl HBX hNL
    refine only_hide fun R HR => ?_
    go_wp2_with fail
    refine only_mk (HR.out _ _ ⟨_, v, u, rfl, by simp [hz], ⟨fun _ => by simp [slot_set, h1], fun _ => by simp [slot_set, h3], fun _ => by simp [slot_set, h5], fun _ => by simp, trivial⟩, ?_, HO.out⟩)
    rw [List.take_zero, show szB [] = [] from rfl, List.append_nil]
    exact HS.out
  clear hS a w
  intro a w hI
  refine for_count (N := NL) (fun k => SFk wA g 11 (c0 ++ szB (L.take k)) cks k) (fun k => SFk wA g 11 (c0 ++ szB (L.take (k + 1))) cks k) hI ?_ ?_ ?_ ?_
  · clear hI a w
    rintro k _ wr hk ⟨A, v, u, rfl, hz, ⟨h1, h3, h5, h11, -⟩, S0, own0⟩
    have q4 := HXH.out wr S0.fr
    have HS := Lib.hid S0
    have HO := Lib.hid own0
    clear S0 own0 hF hok hl HBX hNL
    refine only_hide fun R HR => ?_
    go_wp2_with fail
    exact only_mk (HR.out _ _ ⟨by simp [Act.eval, hz], _, v, u, rfl, by simp [hz], ⟨fun _ => by simp [slot_set, h1], fun _ => by simp [slot_set, h3], fun _ => by simp [slot_set, h5], fun _ => by simp [slot_set, h11], trivial⟩, HS.out, HO.out⟩)
  · intro k a wr hk h
    obtain ⟨x, hx⟩ := some_get L k (by omega)
    have hle := szB_le hx
    rw [szB_take hx, ← List.append_assoc]
    exact sp_sizes hNL hF hok hn HBX hk hx (by rw [List.length_append]; omega) a wr h
  · clear hI a w
    rintro k _ wr hk ⟨A, v, u, rfl, hz, ⟨h1, h3, h5, h11, -⟩, S0, own0⟩
    have HS := Lib.hid S0
    have HO := Lib.hid own0
    clear S0 own0 hF hok hl HBX hNL
    refine only_hide fun R HR => ?_
    go_wp2_with fail
    exact only_mk (HR.out _ _ ⟨_, v, u, rfl, by simp [hz], ⟨fun _ => by simp [slot_set, h1], fun _ => by simp [slot_set, h3], fun _ => by simp [slot_set, h5], fun _ => by simp, trivial⟩, HS.out, HO.out⟩)
  · rintro _ wr ⟨A, v, u, rfl, hz, ⟨h1, h3, h5, h11, -⟩, S0, own0⟩
    rw [List.take_of_length_le (by omega)] at S0
    exact ⟨A, v, u, rfl, hz, ⟨h1, h3, h5, trivial⟩, S0, own0⟩

set_option maxRecDepth 100000 in
set_option maxHeartbeats 2000000 in
/-- 12. -/
theorem sp_twelve {wA : World} {g : Nat} {c0 : List UInt8} {cks : List Ck} (hl : c0.length ≤ 40000000) (a : Act) (w : World) (hS : SF wA g c0 cks a w) :
    (sc [true, true, true, false, true, false, true, true, true, false]).wp Tryd.prog (Only (SF wA g (c0 ++ [12]) cks)) a w := by
  have HBa := Lib.hid (Nat.le_refl wA.heap.size)
  obtain ⟨A, v, u, rfl, hz, ⟨h1, h3, h5, -⟩, S0, own0⟩ := hS
  obtain ⟨vo, vc, rfl, -⟩ := own_out S0.own
  have HL := Lib.hid hl
  have HKP := Lib.hid (fun w2 (F : Fr (Value.slice vo c0.length vc).ownBlock.toList w w2) => S0.keep own0 (by decide) F)
  have HS := Lib.hid S0
  clear S0 own0 hl
  conv => arg 2; whnf
  refine only_hide fun R HR => ?_
  go_wp2_with (at_builtin; refine wpList_append_s1 sty_u8 rfl (.tmp 164) (.tmp 165) (by rfl) HS.out ((Fr.refl _ _).alloc _) (by go_simp) _ [12] (by go_simp) (sl_one _ _ _) HBa.out (by have := HL.out; simp only [List.length_cons, List.length_nil]; omega) ?_; intro v4 w4 S4 F4)
  exact only_mk (HR.out _ _ ⟨_, _, u, rfl, by simp [hz], ⟨fun _ => by simp [slot_set, h1], fun _ => by simp, fun _ => by simp [slot_set, h5], trivial⟩, S4, HKP.out _ ((((Fr.refl _ _).alloc _)).trans F4 (fun i hi => .inl hi))⟩)

set_option maxRecDepth 100000 in
set_option maxHeartbeats 2000000 in
/-- The checks, and 0. -/
theorem sp_ftail {wA : World} {g : Nat} {c0 : List UInt8} {cks : List Ck} (hn : cks.length ≤ 1000000) (hl : c0.length + (sumsW cks).length ≤ 40000000) (a : Act) (w : World) (hS : SF wA g c0 cks a w) :
    (sc [true, true, true, false, true, false, true, true, true, true, true]).wp Tryd.prog (Only (SB wA g ((c0 ++ sumsW cks) ++ [0]))) a w := by
  have HBa := Lib.hid (Nat.le_refl wA.heap.size)
  obtain ⟨A, v, u, rfl, hz, ⟨h1, h3, h5, -⟩, S0, own0⟩ := hS
  obtain ⟨vo, vc, rfl, -⟩ := own_out S0.own
  have HRW := Lib.hid (S0.row own0 (by decide))
  obtain ⟨Y, hY⟩ : ∃ Y, Y = c0 ++ sumsW cks := ⟨_, rfl⟩
  have HY := Lib.hid hY
  have HYL := Lib.hid (show Y.length ≤ 40000000 by rw [hY, List.length_append]; exact hl)
  have HL := Lib.hid hl
  have HN := Lib.hid hn
  have HS := Lib.hid S0
  rw [← hY]
  clear S0 own0 hl hY hn
  conv => arg 2; whnf
  refine only_hide fun R HR => ?_
  go_wp2_with (first
      | (have hq := S8; at_builtin; refine wpList_append_st sty_u8 rfl (.tmp 198) (.tmp 199) (by rfl) S8 ((Fr.refl _ _).alloc _) (by go_simp) _ [0] (by go_simp) (sl_one _ _ _) HBa.out (by have := HYL.out; simp only [List.length_cons, List.length_nil]; omega) ?_; intro v9 w9 S9; obtain ⟨ro9, rc9, rfl, -⟩ := own_out S9.own)
      | (go_at_call 31; refine (sums_sb (hi := w.heap.size) HS.out (Fr.refl _ _) HBa.out _ cks HRW.out HN.out (by have := HL.out; omega)).mono ?_; rintro e w8 ⟨r8, rfl, S8⟩; rw [← HY.out] at S8; obtain ⟨ro8, rc8, rfl, -⟩ := own_out S8.own))
  exact only_mk (HR.out _ _ ⟨_, _, rfl, by simp [hz], fun _ => by simp [slot_set, h1], fun _ => by simp, S9⟩)

set_option maxRecDepth 100000 in
set_option maxHeartbeats 2000000 in
theorem sp_folders {wA : World} {g : Nat} {L : List Fol} {fao : Option Addr} {fcap NL : Nat} (hNL : L.length = NL) (hF : FolR wA (.slice fao NL fcap) L) (hok : ∀ x ∈ L, FolOk x.f) (hn : NL ≤ 100000) (HBX : ∀ wx, Fr [] wA wx → wx.cell? ⟨g, 4, none⟩ = some (.slice fao NL fcap)) {c0 : List UInt8} (hpr : ∀ x ∈ L, ∀ c ∈ x.f.coders, c.props.length ≤ 10000000) (hl : c0.length + (foldersW L).length ≤ 40000000) (a : Act) (w : World) (hS : SB wA g c0 a w) :
    (sc [true, true, true, false]).wp Tryd.prog (Only (SB wA g (c0 ++ foldersW L))) a w := by
  have HXH := Lib.hid HBX
  conv => arg 2; whnf
  by_cases h0 : L = []
  · have HE := Lib.hid (show foldersW L = [] from if_pos h0)
    have hN0 : NL = 0 := by rw [← hNL, h0]; rfl
    refine only_seq (R := fun a' w' => a'.eval (.tmp 71) = .bool false ∧ SB wA g c0 a' w') ?_ (fun a w h => wp_cond_false h.1 (wp_skip (only_mk (by rw [HE.out, List.append_nil]; exact h.2))))
    obtain ⟨A, v, rfl, hz, h1, h3, S0⟩ := hS
    have q4 := HXH.out w S0.fr
    have HS := Lib.hid S0
    subst hN0
    clear S0 hF hok hpr hl HBX hNL h0 HXH
    refine only_hide fun R HR => ?_
    go_wp2_with fail
    exact only_mk (HR.out _ _ ⟨by simp [Act.eval, hz], _, v, rfl, by simp [hz], fun _ => by simp [slot_set, h1], fun _ => by simp [slot_set, h3], HS.out⟩)
  · have HE := Lib.hid (show c0 ++ foldersW L = ((((((c0 ++ [7, 11]) ++ shortN NL) ++ [0]) ++ foB L) ++ [12]) ++ szB L) ++ sumsW (cksL L) ++ [0] by rw [show foldersW L = [7, 11] ++ (shortN L.length ++ (0 :: (foB L ++ (12 :: (szB L ++ (sumsW (cksL L) ++ [0])))))) from if_neg h0, hNL]; simp)
    have hle := congrArg List.length HE.out
    simp only [List.length_append, List.length_cons, List.length_nil] at hle
    have hN0 : 0 < NL := by rw [← hNL]; exact List.length_pos_iff.2 h0
    refine only_seq (R := fun a' w' => a'.eval (.tmp 71) = .bool true ∧ SB wA g c0 a' w') ?_ ?_
    · obtain ⟨A, v, rfl, hz, h1, h3, S0⟩ := hS
      have q4 := HXH.out w S0.fr
      have HS := Lib.hid S0
      have t0 : (0 : Int) < (NL : Int) := by omega
      clear S0 hF hok hpr hl HBX hNL h0 HXH hle HE
      refine only_hide fun R HR => ?_
      go_wp2_with fail
      exact only_mk (HR.out _ _ ⟨by simp [Act.eval, hz], _, v, rfl, by simp [hz], fun _ => by simp [slot_set, h1], fun _ => by simp [slot_set, h3], HS.out⟩)
    clear hS a w
    rintro a w ⟨he, h⟩
    refine wp_cond_true he ?_
    refine only_seq (sp_fhead wA g c0 fao fcap NL hn (by omega) HBX a w h) (fun a w h => ?_)
    refine only_seq (R := SF wA g (((c0 ++ [7, 11]) ++ shortN NL) ++ [0]) []) ?_ (fun a w h => ?_)
    · obtain ⟨A, v, rfl, hz, h1, h3, S0⟩ := h
      have HS := Lib.hid S0
      clear S0 hF hok hpr hl HBX hNL h0 HXH hle HE he
      refine only_hide fun R HR => ?_
      go_wp2_with fail
      exact only_mk (HR.out _ _ ⟨_, v, _, rfl, by simp [hz], ⟨fun _ => by simp [slot_set, h1], fun _ => by simp [slot_set, h3], fun _ => by simp, trivial⟩, HS.out, World.ownsRow_nil _ _ _ _⟩)
    refine only_seq (sp_floop hNL hF hok hn HBX hpr (by simp only [List.length_append, List.length_cons, List.length_nil]; omega) a w h) (fun a w h => ?_)
    refine only_seq (sp_twelve (by simp only [List.length_append, List.length_cons, List.length_nil]; omega) a w h) (fun a w h => ?_)
    refine only_seq (sp_sloop hNL hF hok hn HBX (by simp only [List.length_append, List.length_cons, List.length_nil]; omega) a w h) (fun a w h => ?_)
    rw [HE.out]
    exact sp_ftail (by unfold cksL; rw [List.length_map]; omega) (by simp only [List.length_append, List.length_cons, List.length_nil]; omega) a w h
end Go.Proofs.YtkodindajfdagaaDoor
