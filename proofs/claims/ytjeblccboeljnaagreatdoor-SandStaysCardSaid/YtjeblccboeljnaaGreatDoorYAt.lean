/- The sandbox's calls at 'SandAt': State, Calls, New; what they keep. No condition but that lengths fit. -/
import Derived.Test.YtjeblccboeljnaaGreatDoorYNew
import Derived.Test.YtjeblccboeljnaaGreatDoorYPub
namespace Go.Proofs.YtjeblccboeljnaaGreatDoor
open Go.RowKit Go.Maps

theorem Gl.lo {lo : Nat} {w w' : World} (h : Gl w) (k : Lo lo w w') (hlo : 3 ≤ lo) : Gl w' := by
  obtain ⟨S, F, hS⟩ := k
  have hn : ∀ b, b < 3 → b ∉ S := fun b hb hm => by have := hS b hm; omega
  refine ⟨?_, ?_, Nat.le_trans h.sz F.size⟩
  · refine ⟨fun c hc => (F.cell (p := ⟨0, c, none⟩) (by have := h.sz; dsimp only; omega) (hn 0 (by decide))).trans (h.tabs.1 c hc), fun i hi => ⟨(F.cell (p := ⟨1, 2 * i, none⟩) (by have := h.sz; dsimp only; omega) (hn 1 (by decide))).trans (h.tabs.2 i hi).1, (F.cell (p := ⟨1, 2 * i + 1, none⟩) (by have := h.sz; dsimp only; omega) (hn 1 (by decide))).trans (h.tabs.2 i hi).2⟩⟩
  · obtain ⟨m, hm⟩ := h.ml
    exact ⟨m, (F.cell (p := ⟨2, 0, none⟩) (by have := h.sz; dsimp only; omega) (hn 2 (by decide))).trans hm⟩
/-- What lies below lo stays: as a frame of a later world. -/
theorem ThAt.lo {lo hi : Nat} {w w' : World} {v : Value} {L : List Th} (h : ThAt w hi v L) (k : Lo lo w w') (hl : hi ≤ lo) : ThAt w' hi v L := by
  obtain ⟨S, F, hS⟩ := k
  exact h.fr F (fun i hi' => Nat.le_trans hl (hS i hi'))
theorem state_at {w : World} {lo p n nc : Nat} {fl : List Bool} {K : Tree} (h : SandAt w lo p n nc fl K) (hKM : MayK K) {D : Nat} (hD : DatK K D) (hDl : D ≤ 1000000) (hn : n ≤ 100000) :
    Calls Tryz.prog 12 #[.pointer (some ⟨p, 0, none⟩)] w fun e w' => ∃ ao cap ks, e = .returned (.slice ao ks.length cap) ∧ KeysAre K ks ∧ ks.length ≤ n ∧ ThAt w' w'.heap.size (.slice ao ks.length cap) (listK K ks) ∧ Fr [] w w' := by
  obtain ⟨b, fv, cv, KV, h⟩ := h
  refine (state_any h hKM hD hDl hn).mono ?_
  rintro e w' ⟨v, ks, rfl, h1, h2, h3, h4⟩
  obtain ⟨ao, cap, rfl, -, -⟩ := h3.out
  have e : (listK K ks).length = ks.length := by unfold listK; simp
  rw [e] at h3 ⊢
  exact ⟨ao, cap, ks, rfl, h1, h2, h3, h4⟩
theorem info_cl : (Tryz.prog.info? 72).map (fun i => (i.zero, i.size, i.bytes)) = some (some (.agg #[.int .i64 0, .string ⟨#[]⟩, .string ⟨#[]⟩, .int .i64 0]), 4, 48) := by kernel_rfl
theorem wpList_append_calls {w : World} {ops : Array Oper} {rest : List Oper} {o : Oper} {a : Act} {Q : Exit → Act → World → Prop} (hgd : o.guard = none) (s x : Operand)
    (ho : o.op = .call { callee := .builtin .append, args := #[s, x], argTypes := #[45, 45] })
    (g b n c : Nat) (news : List Value) (hs : a.eval s = .slice (some ⟨g, 0, none⟩) 0 0) (hx : a.eval x = .slice (some ⟨b, 0, none⟩) n c) (hl : news.length = n * 4) (hnews : ∀ j v, news[j]? = some v → w.cell? ⟨b, j, none⟩ = some v) (h0 : 0 < n) (hn : n ≤ 100000)
    (h : ∀ ao cap w', Fr [] w w' → wpList Tryz.prog ops Q rest (a.put o.dst (.slice ao n cap)) w') : wpList Tryz.prog ops Q (o :: rest) a w := by
  obtain ⟨i, hi, hz, hsz, hby⟩ := info_parts info_cl
  have hr := fun ty => run_append_grow (P := Tryz.prog) w 45 ty 72 i _ Tryz.underlying45 hi hz ⟨g, 0, none⟩ 0 0 [] (by simp) (fun j v hj => by simp at hj) ⟨b, 0, none⟩ n c news (by rw [hsz]; exact hl) (fun j v hj => by
    have hadd : (⟨b, 0, none⟩ : Addr).add j = ⟨b, j, none⟩ := by unfold Addr.add; split <;> simp_all
    rw [hadd]; exact hnews j v hj) (by omega) (by omega) (by rw [hby]; exact growslice_fits (by omega) (by omega))
  simp only [Nat.zero_add] at hr
  refine wpList_plain hgd fun K hK => ?_
  unfold Oper.wp execOp
  simp only [ho, resolve, invoke, builtin, Sem.run_bind, Sem.run_pure, Result.andThen_ok, List.map_toArray, List.map_cons, List.map_nil, hs, hx, hr]
  exact hK _ _ (h _ _ _ (((Fr.refl _ _).drew).alloc _))
theorem cclone_any (w : World) (lo : Nat) (v : Value) (n : Nat) (xs : List Value) (h : w.ownsRow lo 72 4 v n xs) (hn : n ≤ 100000) :
    Calls Tryz.prog 33 #[v] w fun e w' => (∃ ao cap, e = .returned (.slice ao n cap)) ∧ Fr [] w w' := by
  obtain ⟨i0, hi, hz0, hz1, hz2⟩ := info_parts info_cl
  rcases h.2 with ⟨rfl, rfl⟩ | ⟨g, cap, cur, rfl, hb, hg, hnc, hcm, _⟩
  · refine (Go.Proofs.AnyE.slices_Clone_nil Tryz.cloneC 0 0 w).mono ?_
    rintro e w' ⟨rfl, rfl⟩
    exact ⟨⟨_, _, rfl⟩, Fr.refl _ _⟩
  · by_cases h0 : n = 0
    · subst h0
      have hcon := Go.Proofs.AnyE.slices_Clone Tryz.cloneC i0 _ 4 48 hi hz0 hz1 hz2 rfl (by decide) (fun _ => by kernel_rfl) g 0 0 cap [] w rfl (by unfold maxLen; omega) (by omega) (fun j u hj => by simp at hj) (by simp)
      refine hcon.mono ?_
      rintro e w' ⟨v', rfl, own, -, hb⟩
      obtain ⟨ao, cp, rfl, -⟩ := own_outS own
      exact ⟨⟨_, _, rfl⟩, Fr.of_below hb⟩
    · have hc : ∀ j v, xs[j]? = some v → w.cell? ⟨g, j, none⟩ = some v := fun j v hj => by rw [h.cellAt j (by have := (List.getElem?_eq_some_iff.1 hj).1; have := h.1; omega)]; exact hj
      have HC := Lib.hid hc
      have HL := Lib.hid h.1
      have hq := fun (w : World) (a : Option Addr) (n c n' c' : Nat) => Lib.run_eql_slice_nil (P := Tryz.prog) w 45 72 a n c n' c' Tryz.underlying45
      clear hc h hg hnc hcm
      go_enter Tryz.func33, Tryz.ntmps33
      go_wp2_with (at_builtin; refine wpList_append_calls rfl _ _ (by rfl) w.heap.size g n cap xs (by rfl) (by rfl) HL.out (fun j v hj => (((Fr.refl [] w).alloc _).cell (World.block_lt_of_cell? _ _ (HC.out j v hj)) (by simp)).trans (HC.out j v hj)) (by omega) hn ?_; intro ao cp w1 F1)
      go_ret
      exact ⟨⟨_, _, rfl⟩, ((Fr.refl [] w).alloc _).trans0 F1⟩
theorem calls_at {w : World} {lo p n nc : Nat} {fl : List Bool} {K : Tree} (h : SandAt w lo p n nc fl K) (hnc : nc ≤ 100000) :
    Calls Tryz.prog 17 #[.pointer (some ⟨p, 0, none⟩)] w fun e w' => (∃ ao cap, e = .returned (.slice ao nc cap)) ∧ Fr [] w w' := by
  obtain ⟨b, fv, cv, KV, h⟩ := h
  obtain ⟨xs, hca⟩ := h.ca
  obtain ⟨-, -, c2⟩ := h.cells
  have HC := Lib.hid (cclone_any w lo cv nc xs hca hnc)
  obtain ⟨co, cc, rfl, -⟩ := own_outS hca
  clear hca h
  go_enter Tryz.func17, Tryz.ntmps17
  go_wp2_with (go_at_call 33; refine HC.out.mono ?_; rintro e w1 ⟨⟨ao, cap, rfl⟩, F1⟩)
  go_ret
  exact ⟨⟨_, _, rfl⟩, F1⟩
end Go.Proofs.YtjeblccboeljnaaGreatDoor
