/- Contract: Publish. No condition but that lengths fit. -/
import Derived.Test.YthbkcjlpelihlaaGreatDoorYLayCM
import Derived.Test.YthbkcjlpelihlaaGreatDoorYCallPM
import Derived.Test.YthbkcjlpelihlaaGreatDoorGAI
namespace Go.Proofs.YthbkcjlpelihlaaGreatDoor
open Go.RowKit Go.Maps Go.Sort

/-- The tight bound on the map. -/
theorem MTh.tight {w : World} {b n : Nat} {KV : List UInt8 → Option Value} (h : MTh w b n KV) (l : List (List UInt8)) (hl : ∀ q, (KV q).isSome = true → q ∈ l) : MTh w b l.length KV := by
  obtain ⟨D, hown, hK⟩ := h
  obtain ⟨h1, h2⟩ := keys_mem hown
  have hs : (strKeys D).length ≤ l.length := link_count.nodup_le h1 (fun p hp => hl p (by rw [← (hK p).1]; exact (h2 p).1 hp))
  have hz : Maps.size D ≤ l.length := by
    obtain ⟨es', rfl, -, -⟩ := hown.entries law_str
    have h2 : (strKeys (DataW.map es')).length = es'.length := List.length_map _
    have h3 : Maps.size (DataW.map es') = es'.length := rfl
    omega
  obtain ⟨es, clock, q1, q2, q3, rfl⟩ := hown
  refine ⟨_, ⟨es, clock, q1, q2, ?_, rfl⟩, hK⟩
  simpa [Maps.size, length_sorted] using hz
/-- What Publish does, of the sorted paths. -/
def pubK (K : Tree) (fr to_ : List UInt8) (ks : List (List UInt8)) : Int × Tree := match layK K fr to_ ks with
  | some N => (0, N)
  | none => (202, K)
theorem KeysAre.eq {K : Tree} {a b : List (List UInt8)} (ha : KeysAre K a) (hb : KeysAre K b) : a = b := sorted_eq ha.nd hb.nd ha.so hb.so (fun p => by rw [ha.mem, hb.mem])
theorem SandIn.keys {w : World} {lo p b : Nat} {fv cv : Value} {n nc : Nat} {fl : Fl} {KV : List UInt8 → Option Value} {K : Tree} (h : SandIn w lo p b fv cv n nc fl KV K) : ∃ ks, KeysAre K ks ∧ ks.length ≤ n := by
  obtain ⟨D, hown, hK⟩ := h.mp
  have h1 := keys_are hown hK (List.Perm.refl (strKeys D))
  refine ⟨_, h1.tree h.rd, ?_⟩
  rw [(List.mergeSort_perm _ _).length_eq]
  obtain ⟨es', rfl, -, -⟩ := hown.entries law_str
  have h2 : (strKeys (DataW.map es')).length = es'.length := List.length_map _
  have h3 : Maps.size (DataW.map es') = es'.length := rfl
  have h4 := hown.size_le
  omega
/-- Another map in the sandbox. -/
theorem SandIn.swap {w : World} {lo p b bx m : Nat} {fv cv : Value} {n nc : Nat} {fl : Fl} {KV KV' : List UInt8 → Option Value} {K K' : Tree} (h : SandIn w lo p b fv cv n nc fl KV K) (hM : MTh w bx m KV') (hR : Reads w lo KV' K') (hb : lo ≤ bx) :
    SandIn (w.setCell ⟨p, 0, none⟩ (.map (some bx))) lo p bx fv cv m nc fl KV' K' ∧ Fr [p] w (w.setCell ⟨p, 0, none⟩ (.map (some bx))) := by
  have F : Fr [p] w (w.setCell ⟨p, 0, none⟩ (.map (some bx))) := (Fr.refl _ _).setCell (by simp) _
  have hty : ∀ e, e ≠ 82 → ∀ i ∈ [p], i < lo ∨ ∀ cs z, w.heap[i]? ≠ some (.cells cs e z) := fun e he i hi => by
    simp at hi
    subst hi
    refine .inr fun cs z hh => ?_
    rw [h.blk] at hh
    injection hh with hh
    injection hh with _ h3 _
    exact he h3.symm
  have hbp : bx ∉ [p] := fun hm => by
    simp at hm
    subst hm
    obtain ⟨D, ⟨es, clock, q1, -⟩, -⟩ := hM
    rw [h.blk] at q1
    cases q1
  obtain ⟨xs, hc, hcr⟩ := h.cr
  exact ⟨⟨Go.Joins.block_setCell h.blk _, hM.fr F hbp, hR.fr F (hty _ (by decide)), own_frT h.fa F (hty _ (by decide)), ⟨xs, own_frT hc F (hty _ (by decide)), hcr⟩, h.lp, hb⟩, F⟩
set_option maxRecDepth 100000 in
set_option maxHeartbeats 4000000 in
theorem pub_body {w : World} {lo p b : Nat} {fv cv : Value} {n nc : Nat} {fl : Fl} {KV : List UInt8 → Option Value} {K : Tree} (h : SandIn w lo p b fv cv n nc fl KV K) (hKM : MayK K) (hG : Gl w) (fr to_ : List UInt8) (hf : fr.length ≤ 1024) (ht : to_.length ≤ 1024) (hn : n ≤ 40000) (B0 B1 B2 : Nat)
    (m0 : w.cell? ⟨B0, 0, none⟩ = some (.pointer (some ⟨p, 0, none⟩))) (m1 : w.cell? ⟨B1, 0, none⟩ = some (.string ⟨fr.toArray⟩)) (m2 : w.cell? ⟨B2, 0, none⟩ = some (.string ⟨to_.toArray⟩)) :
    Calls Tryz.prog 159 #[.pointer (some ⟨B0, 0, none⟩), .pointer (some ⟨B1, 0, none⟩), .pointer (some ⟨B2, 0, none⟩)] w fun e w' => ∃ ks b' n' KV', KeysAre K ks ∧ ks.length ≤ n ∧ e = .returned (.int .i64 (pubK K fr to_ ks).1) ∧ SandIn w' lo p b' fv cv n' nc fl KV' (pubK K fr to_ ks).2 ∧ n' ≤ n ∧ Fr [p] w w' := by
  have hq := fun (w : World) (mo : Option Nat) => run_eql_map_nil_sl (P := Tryz.prog) w 78 9 80 mo Tryz.underlying78
  have HH := Lib.hid h
  cases hno : layNo K fr to_ with
  | true =>
    obtain ⟨ks, hks, hkl⟩ := h.keys
    have HL := Lib.hid (lay_no h fr to_ (by omega) (by omega) hno)
    have HE := Lib.hid (show pubK K fr to_ ks = (202, K) by unfold pubK layK; rw [hno]; rfl)
    clear h hKM hG hno
    go_enter Tryz.func159, Tryz.ntmps159
    go_wp2_with (go_at_call 160; refine HL.out.mono ?_; rintro e w ⟨rfl, rfl⟩)
    go_ret
    exact ⟨ks, b, n, KV, hks, hkl, by rw [HE.out]; rfl, by rw [HE.out]; exact HH.out, Nat.le_refl _, Fr.refl _ _⟩
  | false =>
    have HL := Lib.hid (lay_go h hKM hG fr to_ hf ht hn hno)
    have HNO := Lib.hid hno
    clear h hKM hG hno
    go_enter Tryz.func159, Tryz.ntmps159
    go_upto_region 2 with (go_at_call 160; refine HL.out.mono ?_; rintro e w1 ⟨ks, hks, hkl, F1, ⟨hg, rfl⟩ | ⟨N, bx, n', KV', hg, rfl, hbx, hm1, hr1⟩⟩)
    · have HE := Lib.hid (show pubK K fr to_ ks = (202, K) by unfold pubK layK; rw [HNO.out, if_neg (by simp), hg])
      go_wp2_with fail
      go_ret
      exact ⟨ks, b, n, KV, hks, hkl, by rw [HE.out]; rfl, by rw [HE.out]; exact HH.out.fr0 F1, Nat.le_refl _, F1.mono (by simp)⟩
    · have hlk : layK K fr to_ ks = some N := by unfold layK; rw [HNO.out, if_neg (by simp), hg]
      have HE := Lib.hid (show pubK K fr to_ ks = (0, N) by unfold pubK; rw [hlk])
      obtain ⟨l, hl1, hl2⟩ := lay_in hks.mem hlk
      have hm2 := hm1.tight l (fun q hq => hl1 q (by rw [← hr1.is]; exact hq))
      have S1 := Lib.hid (HH.out.fr0 F1)
      obtain ⟨q0, -, -⟩ := S1.out.cells
      have qz : w1.frozen? ⟨p, 0, none⟩ = false := Go.Joins.unfrozen_of_block S1.out.blk 0
      have x0 := (F1.cell (World.block_lt_of_cell? _ _ m0) (by simp)).trans m0
      have HSW := Lib.hid (S1.out.swap hm2 hr1 (Nat.le_trans (Nat.le_trans HH.out.lp (Nat.le_of_lt HH.out.ltp)) hbx))
      have HB := Lib.hid (And.intro hl2 (And.intro hks hkl))
      clear hm1 hm2 hr1 hl1 hl2 hlk hg hks hkl
      go_wp2_with fail
      go_ret
      exact ⟨ks, bx, l.length, KV', HB.out.2.1, HB.out.2.2, by rw [HE.out]; rfl, by rw [HE.out]; exact HSW.out.1, Nat.le_trans HB.out.1 HB.out.2.2, (F1.mono (by simp)).trans HSW.out.2 (fun i hi => .inl hi)⟩
/-- What Publish answers, its paths looked at too. -/
def publishK (K : Tree) (q to_ : List UInt8) (ks : List (List UInt8)) : Int × Tree := if cleanL foldL q && cleanL foldL to_ then pubK K q to_ ks else (301, K)
set_option maxRecDepth 100000 in
set_option maxHeartbeats 4000000 in
theorem publish_any {w : World} {lo p n nc : Nat} {fl : Fl} {K : Tree} (h : SandAt w lo p n nc fl K) (hKM : MayK K) (hG : Gl w) (q to_ : List UInt8) (hq : q.length ≤ 100000) (hto : to_.length ≤ 100000) (hn : n ≤ 40000) (hnc : nc ≤ 100000) (hl : fl.ok nc q ⟨to_.toArray⟩) :
    Calls Tryz.prog 108 #[.pointer (some ⟨p, 0, none⟩), .string ⟨q.toArray⟩, .string ⟨to_.toArray⟩] w fun e w' => ∃ ks, KeysAre K ks ∧ ks.length ≤ n ∧ e = .returned (.int .i64 (publishK K q to_ ks).1) ∧ SandAt w' lo p n (nc + 1) fl (publishK K q to_ ks).2 ∧ Lo lo w w' := by
  obtain ⟨b, fv, cv, KV, h⟩ := h
  obtain ⟨wA, hwA⟩ : ∃ wA, wA = ((w.alloc (.cells #[.pointer (some ⟨p, 0, none⟩)] 31)).alloc (.cells #[.string ⟨q.toArray⟩] 9)).alloc (.cells #[.string ⟨to_.toArray⟩] 9) := ⟨_, rfl⟩
  have FA : Fr [] w wA := hwA ▸ (((Fr.refl _ _).alloc _).alloc _).alloc _
  have m0 : wA.cell? ⟨w.heap.size, 0, none⟩ = some (.pointer (some ⟨p, 0, none⟩)) := by
    have F : Fr [] (w.alloc (.cells #[.pointer (some ⟨p, 0, none⟩)] 31)) wA := hwA ▸ ((Fr.refl _ _).alloc _).alloc _
    rw [Go.Joins.cell_of_block ((F.block w.heap.size (by rw [World.size_alloc]; omega) (by simp)).trans (heap_alloc_new w _))]
    rfl
  have m1 : wA.cell? ⟨w.heap.size + 1, 0, none⟩ = some (.string ⟨q.toArray⟩) := by
    have F : Fr [] ((w.alloc (.cells #[.pointer (some ⟨p, 0, none⟩)] 31)).alloc (.cells #[.string ⟨q.toArray⟩] 9)) wA := hwA ▸ (Fr.refl _ _).alloc _
    have g := heap_alloc_new (w.alloc (.cells #[.pointer (some ⟨p, 0, none⟩)] 31)) (.cells #[.string ⟨q.toArray⟩] 9)
    rw [World.size_alloc] at g
    rw [Go.Joins.cell_of_block ((F.block (w.heap.size + 1) (by rw [World.size_alloc, World.size_alloc]; omega) (by simp)).trans g)]
    rfl
  have h2 : wA.heap[w.heap.size + 2]? = some (.cells #[.string ⟨to_.toArray⟩] 9 (0, 0)) := by
    have := heap_alloc_new ((w.alloc (.cells #[.pointer (some ⟨p, 0, none⟩)] 31)).alloc (.cells #[.string ⟨q.toArray⟩] 9)) (.cells #[.string ⟨to_.toArray⟩] 9)
    rw [World.size_alloc, World.size_alloc] at this
    rw [hwA]
    exact this
  have m2 : wA.cell? ⟨w.heap.size + 2, 0, none⟩ = some (.string ⟨to_.toArray⟩) := by rw [Go.Joins.cell_of_block h2]; rfl
  have l0 : w.heap.size + 2 < wA.heap.size := (Array.getElem?_eq_some_iff.1 h2).1
  have hA := h.fr0 FA
  obtain ⟨ks0, hks0, hkl0⟩ := h.keys
  obtain ⟨xs, hca⟩ := h.ca
  have hcv : ∀ i ∈ (p :: cv.ownBlock.toList), lo ≤ i := fun i hi => by
    rcases List.mem_cons.1 hi with rfl | hi
    · exact h.lp
    · exact (own_ltS hca i (by simpa using hi)).1
  have hlp := h.lp
  have HKS0 := Lib.hid (And.intro hks0 hkl0)
  cases hc : cleanL foldL q with
  | false =>
    have HE := Lib.hid (show publishK K q to_ ks0 = (301, K) by unfold publishK; rw [hc]; rfl)
    have HB := Lib.hid (call_bad hA (hG.fr FA) 5 q hq ⟨to_.toArray⟩ (.func (.func 159) #[] #[.pointer (some ⟨w.heap.size, 0, none⟩), .pointer (some ⟨w.heap.size + 1, 0, none⟩), .pointer (some ⟨w.heap.size + 2, 0, none⟩)]) hc hnc hl.2)
    clear h hA hG hq hn hnc hl hc m0 m1 m2 h2 hca hKM hto hks0 hkl0
    go_enter Tryz.func108, Tryz.ntmps108
    go_wp2_with (go_at_call 109; rw [← hwA]; refine HB.out.mono ?_; rintro e w1 ⟨rfl, ⟨cv', hS⟩, F1⟩)
    go_ret
    exact ⟨ks0, HKS0.out.1, HKS0.out.2, by rw [HE.out]; rfl, by rw [HE.out]; exact ⟨_, _, _, _, hS⟩, (Lo.of0 FA).trans F1⟩
  | true =>
    cases hct : cleanL foldL to_ with
    | false =>
      have HE := Lib.hid (show publishK K q to_ ks0 = (301, K) by unfold publishK; rw [hc, hct]; rfl)
      have HB := Lib.hid (call_pubbad hA (hG.fr FA) q hq to_ hto (.func (.func 159) #[] #[.pointer (some ⟨w.heap.size, 0, none⟩), .pointer (some ⟨w.heap.size + 1, 0, none⟩), .pointer (some ⟨w.heap.size + 2, 0, none⟩)]) hc hct hnc hl.2)
      clear h hA hG hq hn hnc hl hc hct m0 m1 m2 h2 hca hKM hto hks0 hkl0
      go_enter Tryz.func108, Tryz.ntmps108
      go_wp2_with (go_at_call 109; rw [← hwA]; refine HB.out.mono ?_; rintro e w1 ⟨rfl, ⟨cv', hS⟩, F1⟩)
      go_ret
      exact ⟨ks0, HKS0.out.1, HKS0.out.2, by rw [HE.out]; rfl, by rw [HE.out]; exact ⟨_, _, _, _, hS⟩, (Lo.of0 FA).trans F1⟩
    | true =>
      have HE := Lib.hid (fun ks => (show publishK K q to_ ks = pubK K q to_ ks by unfold publishK; rw [hc, hct]; rfl))
      have hq2 := clean_len hc
      have ht2 := clean_len hct
      have HD := Lib.hid (call_pub hA (hG.fr FA) q hq to_ hto 159 #[.pointer (some ⟨w.heap.size, 0, none⟩), .pointer (some ⟨w.heap.size + 1, 0, none⟩), .pointer (some ⟨w.heap.size + 2, 0, none⟩)] (enters_of Tryz.func159 (by kernel_rfl) rfl) hc hct hl hnc
        (fun c n' K' w2 => (∃ ks, KeysAre K ks ∧ ks.length ≤ n ∧ c = (pubK K q to_ ks).1 ∧ K' = (pubK K q to_ ks).2) ∧ n' ≤ n ∧ Lo lo w w2)
        (fun wx F => (pub_body (hA.fr0 F) hKM (hG.fr (FA.trans0 F)) q to_ hq2 ht2 hn w.heap.size (w.heap.size + 1) (w.heap.size + 2) ((F.cell (p := ⟨w.heap.size, 0, none⟩) (by show w.heap.size < _; omega) (by simp)).trans m0) ((F.cell (p := ⟨w.heap.size + 1, 0, none⟩) (by show w.heap.size + 1 < _; omega) (by simp)).trans m1) ((F.cell (p := ⟨w.heap.size + 2, 0, none⟩) l0 (by simp)).trans m2)).mono (fun e w2 hh => by
          obtain ⟨ks, b', n', KV', h1, h2, h3, h4, h5, h6⟩ := hh
          exact ⟨_, b', n', KV', _, h3, h4, ⟨ks, h1, h2, rfl, rfl⟩, h5, ((Lo.of0 FA).trans (Lo.of0 F)).trans (SandIn.lop (hA.fr0 F) h6)⟩)))
      clear h hA hG hq hn hnc hl hc hct m0 m1 m2 h2 hca hKM hto hks0 hkl0
      go_enter Tryz.func108, Tryz.ntmps108
      go_wp2_with (go_at_call 109; rw [← hwA]; refine HD.out.mono ?_; rintro e w1 ⟨c, b', n', KV', K', w2, cv', ⟨⟨ks, hks, hkl, rfl, rfl⟩, hn', hfr⟩, rfl, hS, F1⟩)
      go_ret
      exact ⟨ks, hks, hkl, by rw [HE.out]; rfl, by rw [HE.out]; exact ⟨_, _, _, _, hS.mono hn'⟩, hfr.trans F1⟩
end Go.Proofs.YthbkcjlpelihlaaGreatDoor
/- Rows of things in memory, as lists. No condition. -/
namespace Go.Proofs.YthbkcjlpelihlaaGreatDoor
open Go.RowKit

/-- A slice without room is kept by whatever happens. -/
theorem Sl.frC {w w' : World} {ao : Option Addr} {n cap : Nat} {xs : List Value} {S : List Nat} (h : Sl w (.slice ao n cap) xs) (hf : Fr S w w') (hv : 0 < cap → ∀ k, (Value.slice ao n cap).ownBlock = some k → k ∉ S) : Sl w' (.slice ao n cap) xs := by
  by_cases h0 : 0 < cap
  · exact h.fr hf (hv h0)
  · obtain ⟨ao', cap', e, h1, h2, h3, h4⟩ := h
    injection e with e1 e2 e3
    subst e1 e3
    exact ⟨ao, cap, by rw [e2], h1, h2, h3, fun a ha hc => absurd hc h0⟩
/-- A row of things, whose blocks are below hi. -/
def ThAt (w : World) (hi : Nat) (v : Value) (L : List Th) : Prop :=
  ∃ ao cap, v = .slice ao L.length cap ∧ L.length ≤ cap ∧ cap ≤ 9223372036854775807 ∧ ∀ j t, L[j]? = some t → ∃ b o dao dcap, ao = some ⟨b, o, none⟩ ∧ b < w.heap.size ∧ b < hi ∧
    w.cell? ⟨b, o + j * 4, none⟩ = some (.string ⟨t.path.toArray⟩) ∧ w.cell? ⟨b, o + j * 4 + 1, none⟩ = some (.int .i64 t.tv.kind) ∧ w.cell? ⟨b, o + j * 4 + 2, none⟩ = some (.slice dao t.tv.data.length dcap) ∧ w.cell? ⟨b, o + j * 4 + 3, none⟩ = some (.string ⟨t.tv.ln.toArray⟩) ∧
    Sl w (.slice dao t.tv.data.length dcap) (bv t.tv.data) ∧ (0 < dcap → ∀ k, (Value.slice dao t.tv.data.length dcap).ownBlock = some k → k < hi)
theorem ThAt.nil (w : World) (hi : Nat) : ThAt w hi (.slice none 0 0) [] := ⟨none, 0, rfl, by simp, by simp, fun j t h => by simp at h⟩
theorem ThAt.fr {w w' : World} {hi : Nat} {v : Value} {L : List Th} {S : List Nat} (h : ThAt w hi v L) (F : Fr S w w') (hS : ∀ i ∈ S, hi ≤ i) : ThAt w' hi v L := by
  obtain ⟨ao, cap, e, h1, h2, h3⟩ := h
  refine ⟨ao, cap, e, h1, h2, fun j t hj => ?_⟩
  obtain ⟨b, o, da, dc, q1, q2, q3, c0, c1, c2, c3, hs, hk⟩ := h3 j t hj
  have hb : b ∉ S := fun hm => by have := hS b hm; omega
  exact ⟨b, o, da, dc, q1, Nat.lt_of_lt_of_le q2 F.size, q3, (F.cell (p := ⟨b, _, none⟩) q2 hb).trans c0, (F.cell (p := ⟨b, _, none⟩) q2 hb).trans c1, (F.cell (p := ⟨b, _, none⟩) q2 hb).trans c2, (F.cell (p := ⟨b, _, none⟩) q2 hb).trans c3, hs.frC F (fun h0 k e hm => by have := hk h0 k e; have := hS k hm; omega), hk⟩
theorem ThAt.fr0 {w w' : World} {hi : Nat} {v : Value} {L : List Th} (h : ThAt w hi v L) (F : Fr [] w w') : ThAt w' hi v L := h.fr F (by simp)
theorem ThAt.mono {w : World} {hi hi' : Nat} {v : Value} {L : List Th} (h : ThAt w hi v L) (hh : hi ≤ hi') : ThAt w hi' v L := by
  obtain ⟨ao, cap, e, h1, h2, h3⟩ := h
  refine ⟨ao, cap, e, h1, h2, fun j t hj => ?_⟩
  obtain ⟨b, o, da, dc, q1, q2, q3, c0, c1, c2, c3, hs, hk⟩ := h3 j t hj
  exact ⟨b, o, da, dc, q1, q2, by omega, c0, c1, c2, c3, hs, fun h0 k e => by have := hk h0 k e; omega⟩
/-- One thing of a row, at its place. -/
theorem ThAt.get {w : World} {hi : Nat} {ao : Option Addr} {n cap : Nat} {L : List Th} (h : ThAt w hi (.slice ao n cap) L) {j : Nat} {t : Th} (hj : L[j]? = some t) : ∃ b o dao dcap, ao = some ⟨b, o, none⟩ ∧ b < w.heap.size ∧ b < hi ∧
    w.cell? ⟨b, o + j * 4, none⟩ = some (.string ⟨t.path.toArray⟩) ∧ w.cell? ⟨b, o + j * 4 + 1, none⟩ = some (.int .i64 t.tv.kind) ∧ w.cell? ⟨b, o + j * 4 + 2, none⟩ = some (.slice dao t.tv.data.length dcap) ∧ w.cell? ⟨b, o + j * 4 + 3, none⟩ = some (.string ⟨t.tv.ln.toArray⟩) ∧
    Sl w (.slice dao t.tv.data.length dcap) (bv t.tv.data) ∧ (0 < dcap → ∀ k, (Value.slice dao t.tv.data.length dcap).ownBlock = some k → k < hi) := by
  obtain ⟨ao', cap', e, h1, h2, h3⟩ := h
  injection e with e1 e2 e3
  subst e1
  exact h3 j t hj
theorem ThAt.out {w : World} {hi : Nat} {v : Value} {L : List Th} (h : ThAt w hi v L) : ∃ ao cap, v = .slice ao L.length cap ∧ L.length ≤ cap ∧ cap ≤ 9223372036854775807 := by
  obtain ⟨ao, cap, e, h1, h2, -⟩ := h
  exact ⟨ao, cap, e, h1, h2⟩

/-- Where a path's thing stands. -/
def atL (L : List Th) (q : List UInt8) : Int := match L.findIdx? (·.path == q) with
  | some i => (i : Int)
  | none => -1
theorem atL_some {L : List Th} {q : List UInt8} {i : Nat} {t : Th} (hi : L[i]? = some t) (ht : t.path = q) (hn : ∀ (j : Nat) (s : Th), j < i → L[j]? = some s → s.path ≠ q) : atL L q = i ∧ lookL L q = some t.tv := by
  have e : L.findIdx? (·.path == q) = some i := by
    rw [List.findIdx?_eq_some_iff_getElem]
    obtain ⟨h1, h2⟩ := List.getElem?_eq_some_iff.1 hi
    refine ⟨h1, by rw [h2, ht]; simp, fun j hj => ?_⟩
    have := hn j (L[j]'(by omega)) hj (by simp)
    simpa using this
  refine ⟨by unfold atL; rw [e], ?_⟩
  unfold lookL
  rw [List.find?_eq_some_iff_getElem.2 ⟨by rw [ht]; simp, i, (List.getElem?_eq_some_iff.1 hi).1, (List.getElem?_eq_some_iff.1 hi).2, fun j hj => by
    have := hn j (L[j]'(by have := (List.getElem?_eq_some_iff.1 hi).1; omega)) hj (by simp)
    simpa using this⟩]
  rfl
theorem atL_none {L : List Th} {q : List UInt8} (hn : ∀ (j : Nat) (s : Th), L[j]? = some s → s.path ≠ q) : atL L q = -1 ∧ lookL L q = none := by
  have h0 : ∀ s ∈ L, s.path ≠ q := fun s hs => by
    obtain ⟨j, hj⟩ := List.getElem?_of_mem hs
    exact hn j s hj
  refine ⟨?_, ?_⟩
  · have e : L.findIdx? (·.path == q) = none := by
      rw [List.findIdx?_eq_none_iff]
      intro s hs
      simpa using h0 s hs
    unfold atL
    rw [e]
  · unfold lookL
    rw [List.find?_eq_none.2 fun s hs => by simpa using h0 s hs]
    rfl
/-- Either it is there or not. -/
theorem atL_cases (L : List Th) (q : List UInt8) : (∃ (i : Nat) (t : Th), L[i]? = some t ∧ t.path = q ∧ atL L q = (i : Int) ∧ lookL L q = some t.tv) ∨ (atL L q = -1 ∧ lookL L q = none) := by
  cases h : L.findIdx? (·.path == q) with
  | none =>
    right
    rw [List.findIdx?_eq_none_iff] at h
    exact atL_none fun j s hj => by simpa using h s (List.mem_of_getElem? hj)
  | some i =>
    left
    rw [List.findIdx?_eq_some_iff_getElem] at h
    obtain ⟨h1, h2, h3⟩ := h
    have hp : L[i].path = q := by simpa using h2
    have := atL_some (L := L) (q := q) (i := i) (t := L[i]) (by simp) hp (fun j s hj hs => by
      obtain ⟨e1, e2⟩ := List.getElem?_eq_some_iff.1 hs
      subst e2
      simpa using h3 j hj)
    exact ⟨i, L[i], by simp, hp, this.1, this.2⟩
end Go.Proofs.YthbkcjlpelihlaaGreatDoor
