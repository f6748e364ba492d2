/- Contracts: the stages of a pipe of copies (layer 23). No condition but that nothing is spent. -/
import Derived.Test.YtfnblemlcjdnhaaGreatFeed
import Derived.Test.YtfnblemlcjdnhaaGreatEMet
namespace Go.Proofs.YtfnblemlcjdnhaaGreat
open Go.RowKit

/-- Where a stage's bytes come from: the stage below, or the feed. -/
def srcV (fp : Nat) : List Nat → Value
  | [] => .iface 81 (.pointer (some ⟨fp, 0, none⟩))
  | g :: _ => .iface 72 (.pointer (some ⟨g, 0, none⟩))
def plainV (v : Value) : Value := .iface 122 (.agg #[v])
/-- A stage that copies: its six cells, the cell that its end looks at, the memory that it took. -/
structure StgAt (w : World) (g bx tk mp : Nat) (left : Nat) (inner : Value) : Prop where
  blk : w.heap[g]? = some (.cells #[plainV inner, .pointer (some ⟨mp, 0, none⟩), .int .u64 (left : Int), .bool false, .func (.func 84) #[] #[.pointer (some ⟨bx, 0, none⟩)], .func (.func 62) #[.pointer (some ⟨tk, 0, none⟩)] #[]] 88 (0, 0))
  box : w.heap[bx]? = some (.cells #[plainV inner] 86 (0, 0))
  tak : w.heap[tk]? = some (.cells #[.pointer (some ⟨mp, 0, none⟩), .int .i64 0] 147 (0, 0))
theorem StgAt.lt {w : World} {g bx tk mp left : Nat} {inner : Value} (h : StgAt w g bx tk mp left inner) : g < w.heap.size ∧ bx < w.heap.size ∧ tk < w.heap.size :=
  ⟨(Array.getElem?_eq_some_iff.1 h.blk).1, (Array.getElem?_eq_some_iff.1 h.box).1, (Array.getElem?_eq_some_iff.1 h.tak).1⟩
theorem StgAt.fr {w w' : World} {g bx tk mp left : Nat} {inner : Value} {S : List Nat} (h : StgAt w g bx tk mp left inner) (F : Fr S w w') (h1 : g ∉ S) (h2 : bx ∉ S) (h3 : tk ∉ S) : StgAt w' g bx tk mp left inner :=
  ⟨(F.block g h.lt.1 h1).trans h.blk, (F.block bx h.lt.2.1 h2).trans h.box, (F.block tk h.lt.2.2 h3).trans h.tak⟩
theorem cells6 {w : World} {g : Nat} {t : TypeId} {a0 a1 a2 a3 a4 a5 : Value} (h : w.heap[g]? = some (.cells #[a0, a1, a2, a3, a4, a5] t (0, 0))) :
    w.cell? ⟨g, 0, none⟩ = some a0 ∧ w.cell? ⟨g, 1, none⟩ = some a1 ∧ w.cell? ⟨g, 2, none⟩ = some a2 ∧ w.cell? ⟨g, 3, none⟩ = some a3 ∧ w.cell? ⟨g, 4, none⟩ = some a4 ∧ w.cell? ⟨g, 5, none⟩ = some a5 ∧ (∀ j, w.frozen? ⟨g, j, none⟩ = false) :=
  ⟨by simp [Go.Joins.cell_of_block h], by simp [Go.Joins.cell_of_block h], by simp [Go.Joins.cell_of_block h], by simp [Go.Joins.cell_of_block h], by simp [Go.Joins.cell_of_block h], by simp [Go.Joins.cell_of_block h], fun j => Go.Joins.unfrozen_of_block h j⟩
/-- A chain of stages, the topmost first; each has as many bytes left as the feed. -/
def Chn (w : World) (mp fp : Nat) (left : Nat) : List (Nat × Nat × Nat) → Prop
  | [] => True
  | (g, bx, tk) :: r => StgAt w g bx tk mp left (srcV fp (r.map (·.1))) ∧ Chn w mp fp left r
/-- All blocks of a chain's stages, apart from each other. -/
def blks (l : List (Nat × Nat × Nat)) : List Nat := l.flatMap fun x => [x.1, x.2.1, x.2.2]
theorem Chn.fr {w w' : World} {mp fp left : Nat} {S : List Nat} (F : Fr S w w') : ∀ {l : List (Nat × Nat × Nat)}, Chn w mp fp left l → (∀ i ∈ blks l, i ∉ S) → Chn w' mp fp left l
  | [], _, _ => trivial
  | (g, bx, tk) :: r, h, hS => ⟨h.1.fr F (hS g (by simp [blks])) (hS bx (by simp [blks])) (hS tk (by simp [blks])), Chn.fr F h.2 (fun i hi => hS i (by simp [blks] at hi ⊢; exact .inr (.inr (.inr hi))))⟩
/-- What a source gives: the next byte, or none. -/
def GiveR (w : World) (mp fp : Nat) (q : Option Nat) (bs : List UInt8) (k : Nat) (l : List (Nat × Nat × Nat)) (a o f d s kk : Int) (e : Ending) (w' : World) : Prop :=
  match bs[k]? with
  | some x => e = .returned (.tuple #[.int .u8 (x.toNat : Int), .bool true]) ∧ Chn w' mp fp (bs.length - (k + 1)) l ∧ FeedAt w' fp q bs (k + 1) ∧ MtN w' mp a o f d (s + (l.length : Int)) kk ∧ Fr (mp :: fp :: l.map (·.1)) w w'
  | none => e = .returned (.tuple #[.int .u8 0, .bool false]) ∧ Chn w' mp fp (bs.length - k) l ∧ FeedAt w' fp q bs k ∧ MtN w' mp a o f d s kk ∧ Fr (mp :: fp :: l.map (·.1)) w w'
/-- The blocks of a chain, the meter and the feed lie apart. -/
def Apt (mp fp : Nat) (q : Option Nat) (l : List (Nat × Nat × Nat)) : Prop := (mp :: fp :: blks l).Nodup ∧ ∀ i, q = some i → i ∉ (mp :: fp :: blks l)
theorem GiveR.pre {w w1 : World} {mp fp : Nat} {q : Option Nat} {bs : List UInt8} {k : Nat} {l : List (Nat × Nat × Nat)} {a o f d s kk : Int} {e : Ending} {w' : World} (F : Fr [] w w1) (h : GiveR w1 mp fp q bs k l a o f d s kk e w') : GiveR w mp fp q bs k l a o f d s kk e w' := by
  unfold GiveR at h ⊢
  cases hx : bs[k]? with
  | some x =>
    rw [hx] at h
    exact ⟨h.1, h.2.1, h.2.2.1, h.2.2.2.1, (F.mono (by simp)).trans h.2.2.2.2 (fun i hi => .inl hi)⟩
  | none =>
    rw [hx] at h
    exact ⟨h.1, h.2.1, h.2.2.1, h.2.2.2.1, (F.mono (by simp)).trans h.2.2.2.2 (fun i hi => .inl hi)⟩
theorem fnext_any (w : World) (mp fp : Nat) (q : Option Nat) (bs : List UInt8) (k : Nat) (a o f d s kk : Int) (h : FeedAt w fp q bs k) (M : MtN w mp a o f d s kk) (hA : mp ≠ fp) :
    Calls Tryz.prog 178 #[.pointer (some ⟨fp, 0, none⟩)] w (GiveR w mp fp q bs k [] a o f d s kk) := by
  unfold GiveR
  cases hx : bs[k]? with
  | some x =>
    refine (next_some w fp q bs k x hx h).mono ?_
    rintro e w' ⟨rfl, h1, F⟩
    have M2 := M.fr F (show mp ∉ [fp] by simpa using hA)
    exact ⟨rfl, trivial, h1, by simpa using M2, Fr.mono (S := [fp]) F (fun i hi => List.mem_cons_of_mem _ (by simpa using hi))⟩
  | none =>
    have hk : k = bs.length := by have := h.le; have := List.getElem?_eq_none_iff.1 hx; omega
    refine (next_none w fp q bs k hk h).mono ?_
    rintro e w' ⟨rfl, F⟩
    exact ⟨rfl, trivial, h.same F, M.same F, Fr.mono (S := []) F.fr (by simp)⟩
/-- The methods behind the interface of sources. -/
theorem meth_feed (p : Nat) (w : World) : (method 440 81 (.pointer (some ⟨p, 0, none⟩)) "Next").run Tryz.prog w = .ok (178, .pointer (some ⟨p, 0, none⟩)) w := by kernel_rfl
theorem meth_stage (p : Nat) (w : World) : (method 440 72 (.pointer (some ⟨p, 0, none⟩)) "Next").run Tryz.prog w = .ok (25, .pointer (some ⟨p, 0, none⟩)) w := by kernel_rfl
theorem meth_plain (v : Value) (w : World) : (method 440 122 (.agg #[v]) "Next").run Tryz.prog w = .ok (199, .agg #[v]) w := by kernel_rfl
/-- What stands behind a source: its method, its block. -/
def srcF : List (Nat × Nat × Nat) → FuncId
  | [] => 178
  | _ :: _ => 25
def srcT : List (Nat × Nat × Nat) → TypeId
  | [] => 81
  | _ :: _ => 72
def srcP (fp : Nat) : List (Nat × Nat × Nat) → Nat
  | [] => fp
  | (g, _, _) :: _ => g
theorem srcV_eq (fp : Nat) (l : List (Nat × Nat × Nat)) : srcV fp (l.map (·.1)) = .iface (srcT l) (.pointer (some ⟨srcP fp l, 0, none⟩)) := by
  cases l with
  | nil => rfl
  | cons x r => rfl
theorem meth_src (l : List (Nat × Nat × Nat)) (p : Nat) (w : World) : (method 440 (srcT l) (.pointer (some ⟨p, 0, none⟩)) "Next").run Tryz.prog w = .ok (srcF l, .pointer (some ⟨p, 0, none⟩)) w := by
  cases l with
  | nil => exact meth_feed p w
  | cons x r => exact meth_stage p w
set_option maxRecDepth 100000 in
/-- What is handed on as it is. -/
theorem pnext_feed (w : World) (p : Nat) (R : Ending → World → Prop)
    (hc : Calls Tryz.prog 178 #[.pointer (some ⟨p, 0, none⟩)] (w.alloc (.cells #[.iface 81 (.pointer (some ⟨p, 0, none⟩))] 122)) fun e w' => ∃ b ok, e = .returned (.tuple #[.int .u8 b, .bool ok]) ∧ R e w') :
    Calls Tryz.prog 199 #[.agg #[.iface 81 (.pointer (some ⟨p, 0, none⟩))]] w R := by
  have hm := meth_feed p
  have HC := Lib.hid hc
  clear hc
  go_enter Tryz.func199, Tryz.ntmps199
  go_wp2_with (go_at_call 178; refine HC.out.mono ?_; rintro e w1 ⟨b, ok, rfl, hR⟩)
  exact hR
set_option maxRecDepth 100000 in
theorem pnext_stage (w : World) (p : Nat) (R : Ending → World → Prop)
    (hc : Calls Tryz.prog 25 #[.pointer (some ⟨p, 0, none⟩)] (w.alloc (.cells #[.iface 72 (.pointer (some ⟨p, 0, none⟩))] 122)) fun e w' => ∃ b ok, e = .returned (.tuple #[.int .u8 b, .bool ok]) ∧ R e w') :
    Calls Tryz.prog 199 #[.agg #[.iface 72 (.pointer (some ⟨p, 0, none⟩))]] w R := by
  have hm := meth_stage p
  have HC := Lib.hid hc
  clear hc
  go_enter Tryz.func199, Tryz.ntmps199
  go_wp2_with (go_at_call 25; refine HC.out.mono ?_; rintro e w1 ⟨b, ok, rfl, hR⟩)
  exact hR
/-- What a source gives, whatever stands behind it. -/
def Gives (mp fp : Nat) (q : Option Nat) (bs : List UInt8) (l : List (Nat × Nat × Nat)) : Prop := ∀ (w : World) (k : Nat) (a o f d s kk : Int), Chn w mp fp (bs.length - k) l → FeedAt w fp q bs k → MtN w mp a o f d s kk → Apt mp fp q l → 0 ≤ s → s + (l.length : Int) ≤ 1000000000 →
  Calls Tryz.prog (srcF l) #[.pointer (some ⟨srcP fp l, 0, none⟩)] w (GiveR w mp fp q bs k l a o f d s kk)
theorem GiveR.two {w : World} {mp fp : Nat} {q : Option Nat} {bs : List UInt8} {k : Nat} {l : List (Nat × Nat × Nat)} {a o f d s kk : Int} {e : Ending} {w' : World} (h : GiveR w mp fp q bs k l a o f d s kk e w') : ∃ b ok, e = .returned (.tuple #[.int .u8 b, .bool ok]) ∧ GiveR w mp fp q bs k l a o f d s kk e w' := by
  have h0 := h
  unfold GiveR at h
  cases hx : bs[k]? with
  | some x =>
    rw [hx] at h
    exact ⟨_, _, h.1, h0⟩
  | none =>
    rw [hx] at h
    exact ⟨_, _, h.1, h0⟩
theorem plain_gives {mp fp : Nat} {q : Option Nat} {bs : List UInt8} {l : List (Nat × Nat × Nat)} (H : Gives mp fp q bs l) (w : World) (k : Nat) (a o f d s kk : Int) (hC : Chn w mp fp (bs.length - k) l) (hF : FeedAt w fp q bs k) (M : MtN w mp a o f d s kk) (hA : Apt mp fp q l) (hs : 0 ≤ s) (hs2 : s + (l.length : Int) ≤ 1000000000) :
    Calls Tryz.prog 199 #[.agg #[srcV fp (l.map (·.1))]] w (GiveR w mp fp q bs k l a o f d s kk) := by
  cases l with
  | nil =>
    refine pnext_feed w fp _ ?_
    have F : Fr [] w (w.alloc (.cells #[.iface 81 (.pointer (some ⟨fp, 0, none⟩))] 122)) := (Fr.refl _ _).alloc _
    refine (H _ k a o f d s kk (Chn.fr F hC (by simp)) (hF.fr F (by simp) (by simp)) (M.fr F (by simp)) hA hs hs2).mono ?_
    intro e w' h
    obtain ⟨b, ok, h1, h2⟩ := h.two
    exact ⟨b, ok, h1, h2.pre F⟩
  | cons x r =>
    obtain ⟨g, bx, tk⟩ := x
    refine pnext_stage w g _ ?_
    have F : Fr [] w (w.alloc (.cells #[.iface 72 (.pointer (some ⟨g, 0, none⟩))] 122)) := (Fr.refl _ _).alloc _
    refine (H _ k a o f d s kk (Chn.fr F hC (by simp)) (hF.fr F (by simp) (by simp)) (M.fr F (by simp)) hA hs hs2).mono ?_
    intro e w' h
    obtain ⟨b, ok, h1, h2⟩ := h.two
    exact ⟨b, ok, h1, h2.pre F⟩
theorem feed_gives {mp fp : Nat} {q : Option Nat} {bs : List UInt8} : Gives mp fp q bs [] := fun w k a o f d s kk _ hF M hA _ _ =>
  fnext_any w mp fp q bs k a o f d s kk hF M (fun e => by have := hA.1; simp [e] at this)
theorem blks_cons (x : Nat × Nat × Nat) (r : List (Nat × Nat × Nat)) : blks (x :: r) = [x.1, x.2.1, x.2.2] ++ blks r := rfl
theorem Apt.tail {mp fp : Nat} {q : Option Nat} {x : Nat × Nat × Nat} {r : List (Nat × Nat × Nat)} (h : Apt mp fp q (x :: r)) : Apt mp fp q r := by
  obtain ⟨h1, h2⟩ := h
  rw [blks_cons] at h1 h2
  refine ⟨?_, fun i hi hm => h2 i hi ?_⟩
  · simp only [List.cons_append, List.nil_append, List.nodup_cons, List.mem_cons, not_or] at h1 ⊢
    exact ⟨⟨h1.1.1, h1.1.2.2.2.2⟩, h1.2.1.2.2.2, h1.2.2.2.2.2⟩
  · simp only [List.mem_cons, List.cons_append, List.nil_append] at hm ⊢
    rcases hm with hm | hm | hm
    · exact .inl hm
    · exact .inr (.inl hm)
    · exact .inr (.inr (.inr (.inr (.inr hm))))
set_option maxRecDepth 100000 in
set_option maxHeartbeats 4000000 in
theorem stage_gives {mp fp g bx tk : Nat} {q : Option Nat} {bs : List UInt8} {r : List (Nat × Nat × Nat)} (hbl : bs.length ≤ 1000000000) (H : Gives mp fp q bs r) : Gives mp fp q bs ((g, bx, tk) :: r) := fun w k a o f d s kk hC hF M hA hs hs2 => by
  obtain ⟨hS, hCr⟩ := hC
  obtain ⟨c0, c1, c2, c3, c4, c5, cf⟩ := cells6 hS.blk
  have hAr := hA.tail
  have hnd := hA.1
  rw [blks_cons] at hnd
  simp only [List.cons_append, List.nil_append, List.nodup_cons, List.mem_cons, not_or] at hnd
  have hkb := hF.le
  rw [List.length_cons] at hs2
  show Calls Tryz.prog 25 #[.pointer (some ⟨g, 0, none⟩)] w _
  cases hx : bs[k]? with
  | none =>
    have hk : bs.length - k = 0 := by have := List.getElem?_eq_none_iff.1 hx; omega
    have HR := Lib.hid (show GiveR w mp fp q bs k ((g, bx, tk) :: r) a o f d s kk (.returned (.tuple #[.int .u8 0, .bool false])) w from by
      unfold GiveR
      rw [hx]
      exact ⟨rfl, ⟨hS, hCr⟩, hF, M, Fr.refl _ _⟩)
    rw [hk] at c2
    clear hS hCr hF M hA hAr hnd hx hk H
    go_enter Tryz.func25, Tryz.ntmps25
    go_wp2_with fail
    go_ret2
    exact HR.out
  | some x =>
    have hlt := (List.getElem?_eq_some_iff.1 hx).1
    obtain ⟨L, hL⟩ : ∃ L, bs.length - k = L + 1 := ⟨bs.length - k - 1, by omega⟩
    have hL1 : bs.length - (k + 1) = L := by omega
    have hL2 : L ≤ 1000000000 := by omega
    obtain ⟨⟨nmf, nmg, nmb, nmt, nmr⟩, ⟨nfg, nfb, nft, nfr⟩, ⟨ngb, ngt, ngr⟩, ⟨nbt, nbr⟩, ntr, -⟩ := hnd
    have hmap : ∀ i, i ∉ blks r → i ∉ r.map (·.1) := fun i hi hm => by
      obtain ⟨y, hy, rfl⟩ := List.mem_map.1 hm
      exact hi (List.mem_flatMap.2 ⟨y, hy, by simp⟩)
    have HS := Lib.hid (step_m M 1 (by omega) hs (by omega))
    have HP : Hid (∀ wx : World, Fr [mp] w wx → MtN wx mp a o f d (s + 1) kk → Calls Tryz.prog 199 #[.agg #[srcV fp (r.map (·.1))]] wx fun e w' => e = .returned (.tuple #[.int .u8 (x.toNat : Int), .bool true]) ∧ Chn w' mp fp (bs.length - (k + 1)) r ∧ FeedAt w' fp q bs (k + 1) ∧ MtN w' mp a o f d (s + 1 + (r.length : Int)) kk ∧ Fr (mp :: fp :: r.map (·.1)) wx w') := Lib.hid (fun (wx : World) (F : Fr [mp] w wx) (M1 : MtN wx mp a o f d (s + 1) kk) => by
      refine (plain_gives H wx k a o f d (s + 1) kk (Chn.fr F hCr (fun i hi hm => nmr (by rw [List.mem_singleton] at hm; exact hm ▸ hi))) (hF.fr F (by simpa using Ne.symm nmf) (fun i hi hm => hA.2 i hi (by rw [List.mem_singleton] at hm; rw [hm]; exact List.mem_cons_self ..))) M1 hAr (by omega) (by omega)).mono ?_
      intro e w' h
      unfold GiveR at h
      rw [hx] at h
      exact h)
    have HC : Hid (∀ w1 w2 : World, Fr [mp] w w1 → Chn w2 mp fp (bs.length - (k + 1)) r → FeedAt w2 fp q bs (k + 1) → MtN w2 mp a o f d (s + 1 + (r.length : Int)) kk → Fr (mp :: fp :: r.map (·.1)) w1 w2 →
        GiveR w mp fp q bs k ((g, bx, tk) :: r) a o f d s kk (.returned (.tuple #[.int .u8 (x.toNat : Int), .bool true])) (w2.setCell ⟨g, 2, none⟩ (.int .u64 (L : Int)))) := Lib.hid (by
      intro w1 w2 F1 C2 D2 M2 F2
      have F12 : Fr (mp :: fp :: r.map (·.1)) w w2 := (F1.mono (by simp)).trans F2 (fun i hi => .inl hi)
      have hg2 : g ∉ (mp :: fp :: r.map (·.1)) := by simp only [List.mem_cons, not_or]; exact ⟨Ne.symm nmg, Ne.symm nfg, hmap g ngr⟩
      have hb2 : bx ∉ (mp :: fp :: r.map (·.1)) := by simp only [List.mem_cons, not_or]; exact ⟨Ne.symm nmb, Ne.symm nfb, hmap bx nbr⟩
      have ht2 : tk ∉ (mp :: fp :: r.map (·.1)) := by simp only [List.mem_cons, not_or]; exact ⟨Ne.symm nmt, Ne.symm nft, hmap tk ntr⟩
      have S2 := hS.fr F12 hg2 hb2 ht2
      have F3 : Fr [g] w2 (w2.setCell ⟨g, 2, none⟩ (.int .u64 (L : Int))) := (Fr.refl _ _).setCell (.inl (by simp)) _
      unfold GiveR
      rw [hx]
      refine ⟨rfl, ⟨⟨?_, (F3.block bx S2.lt.2.1 (by simpa using Ne.symm ngb)).trans S2.box, (F3.block tk S2.lt.2.2 (by simpa using Ne.symm ngt)).trans S2.tak⟩, Chn.fr F3 C2 (fun i hi hm => ngr (by rw [List.mem_singleton] at hm; exact hm ▸ hi))⟩,
        D2.fr F3 (by simpa using nfg) (fun i hi hm => hA.2 i hi (by rw [List.mem_singleton] at hm; subst hm; exact List.mem_cons_of_mem _ (List.mem_cons_of_mem _ (by rw [blks_cons]; exact List.mem_cons_self ..)))), ?_, ?_⟩
      · rw [hL1]
        exact Go.Joins.block_setCell S2.blk _
      · have e : s + (((g, bx, tk) :: r).length : Int) = s + 1 + (r.length : Int) := by rw [List.length_cons]; omega
        rw [e]
        exact M2.fr F3 (by simpa using nmg)
      · refine (F12.mono (fun i hi => ?_)).trans F3 (fun i hi => .inl (by rw [List.mem_singleton] at hi; subst hi; simp))
        simp only [List.mem_cons, List.map_cons] at hi ⊢
        rcases hi with hi | hi | hi
        · exact .inl hi
        · exact .inr (.inl hi)
        · exact .inr (.inr (.inr hi)))
    have HG := Lib.hid (fun (j : Nat) (w1 : World) (F1 : Fr [mp] w w1) => (F1.cell (p := ⟨g, j, none⟩) hS.lt.1 (by simpa using Ne.symm nmg) : w1.cell? ⟨g, j, none⟩ = w.cell? ⟨g, j, none⟩))
    have HG2 := Lib.hid (fun (j : Nat) (w1 w2 : World) (F1 : Fr [mp] w w1) (F2 : Fr (mp :: fp :: r.map (·.1)) w1 w2) => ((F2.cell (p := ⟨g, j, none⟩) (Nat.lt_of_lt_of_le hS.lt.1 F1.size) (by simp only [List.mem_cons, not_or]; exact ⟨Ne.symm nmg, Ne.symm nfg, hmap g ngr⟩) : w2.cell? ⟨g, j, none⟩ = w1.cell? ⟨g, j, none⟩)))
    have HFz := Lib.hid (fun (w2 : World) (F : Fr (mp :: fp :: r.map (·.1)) w w2) => (hS.fr F (by simp only [List.mem_cons, not_or]; exact ⟨Ne.symm nmg, Ne.symm nfg, hmap g ngr⟩) (by simp only [List.mem_cons, not_or]; exact ⟨Ne.symm nmb, Ne.symm nfb, hmap bx nbr⟩) (by simp only [List.mem_cons, not_or]; exact ⟨Ne.symm nmt, Ne.symm nft, hmap tk ntr⟩)).blk)
    have hm := meth_plain (srcV fp (r.map (·.1)))
    have t0 : (((L + 1 : Nat) : Int) == 0) = false := by simp; omega
    have e0 : IntKind.u64.wrap (((L + 1 : Nat) : Int) - 1) = L := by rw [IntWalk.u64_in _ ⟨by omega, by omega⟩]; omega
    rw [hL] at c2
    unfold plainV at c0
    generalize srcV fp (r.map (·.1)) = sv at *
    clear hS hCr hF M hA hAr hx hL H hmap
    go_enter Tryz.func25, Tryz.ntmps25
    go_wp2_with (first
      | (go_at_call 199; refine (HP.out _ F1 M1).mono ?_; rintro e w2 ⟨rfl, C2, D2, M2, F2⟩; have d2 := (HG2.out 2 _ w2 F1 F2).trans d1; have z2 : w2.frozen? ⟨g, 2, none⟩ = false := Go.Joins.unfrozen_of_block (HFz.out w2 ((F1.mono (by simp)).trans F2 (fun i hi => .inl hi))) 2)
      | (go_at_call 51; refine HS.out.mono ?_; rintro e w1 ⟨rfl, M1, F1⟩; have d0 := (HG.out 0 w1 F1).trans c0; have d1 := (HG.out 2 w1 F1).trans c2))
    go_ret2
    exact HC.out _ _ F1 C2 D2 M2 F2
/-- Every chain of stages that copy gives what the feed gives. -/
theorem gives_all {mp fp : Nat} {q : Option Nat} {bs : List UInt8} (hbl : bs.length ≤ 1000000000) : ∀ l, Gives mp fp q bs l
  | [] => feed_gives
  | _ :: r => stage_gives hbl (gives_all hbl r)
end Go.Proofs.YtfnblemlcjdnhaaGreat
