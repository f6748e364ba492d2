/- Contract: Publish. No condition but that lengths fit. -/
import Derived.Test.YtjeblccboeljnaaGreatDoorYLayC
import Derived.Test.YtjeblccboeljnaaGreatDoorYCallP
namespace Go.Proofs.YtjeblccboeljnaaGreatDoor
open Go.RowKit Go.Maps Go.Sort

/-- The tight bound on the map. -/
theorem MTh.tight {w : World} {b n : Nat} {KV : List UInt8 → Option Value} (h : MTh w b n KV) (l : List (List UInt8)) (hl : ∀ q, (KV q).isSome = true → q ∈ l) : MTh w b l.length KV := by
  obtain ⟨D, hown, hK⟩ := h
  obtain ⟨h1, h2⟩ := keys_mem hown
  have hs : (strKeys D).length ≤ l.length := link_count.nodup_le h1 (fun p hp => hl p (by rw [← (hK p).1]; exact (h2 p).1 hp))
  have hz : Maps.size D ≤ l.length := by
    obtain ⟨es', rfl, -, -⟩ := hown.entries law_str
    have h2 : (strKeys (DataW.map es')).length = es'.length := List.length_map _
    have h3 : Maps.size (DataW.map es') = es'.length := rfl
    omega
  obtain ⟨es, clock, q1, q2, q3, rfl⟩ := hown
  refine ⟨_, ⟨es, clock, q1, q2, ?_, rfl⟩, hK⟩
  simpa [Maps.size, length_sorted] using hz
/-- What Publish does, of the sorted paths. -/
def pubK (K : Tree) (fr to_ : List UInt8) (ks : List (List UInt8)) : Int × Tree := match layK K fr to_ ks with
  | some N => (0, N)
  | none => (202, K)
theorem KeysAre.eq {K : Tree} {a b : List (List UInt8)} (ha : KeysAre K a) (hb : KeysAre K b) : a = b := sorted_eq ha.nd hb.nd ha.so hb.so (fun p => by rw [ha.mem, hb.mem])
theorem SandIn.keys {w : World} {lo p b : Nat} {fv cv : Value} {n nc : Nat} {fl : List Bool} {KV : List UInt8 → Option Value} {K : Tree} (h : SandIn w lo p b fv cv n nc fl KV K) : ∃ ks, KeysAre K ks ∧ ks.length ≤ n := by
  obtain ⟨D, hown, hK⟩ := h.mp
  have h1 := keys_are hown hK (List.Perm.refl (strKeys D))
  refine ⟨_, h1.tree h.rd, ?_⟩
  rw [(List.mergeSort_perm _ _).length_eq]
  obtain ⟨es', rfl, -, -⟩ := hown.entries law_str
  have h2 : (strKeys (DataW.map es')).length = es'.length := List.length_map _
  have h3 : Maps.size (DataW.map es') = es'.length := rfl
  have h4 := hown.size_le
  omega
/-- Another map in the sandbox. -/
theorem SandIn.swap {w : World} {lo p b bx m : Nat} {fv cv : Value} {n nc : Nat} {fl : List Bool} {KV KV' : List UInt8 → Option Value} {K K' : Tree} (h : SandIn w lo p b fv cv n nc fl KV K) (hM : MTh w bx m KV') (hR : Reads w lo KV' K') (hb : lo ≤ bx) :
    SandIn (w.setCell ⟨p, 0, none⟩ (.map (some bx))) lo p bx fv cv m nc fl KV' K' ∧ Fr [p] w (w.setCell ⟨p, 0, none⟩ (.map (some bx))) := by
  have F : Fr [p] w (w.setCell ⟨p, 0, none⟩ (.map (some bx))) := (Fr.refl _ _).setCell (by simp) _
  have hty : ∀ e, e ≠ 58 → ∀ i ∈ [p], i < lo ∨ ∀ cs z, w.heap[i]? ≠ some (.cells cs e z) := fun e he i hi => by
    simp at hi
    subst hi
    refine .inr fun cs z hh => ?_
    rw [h.blk] at hh
    injection hh with hh
    injection hh with _ h3 _
    exact he h3.symm
  have hbp : bx ∉ [p] := fun hm => by
    simp at hm
    subst hm
    obtain ⟨D, ⟨es, clock, q1, -⟩, -⟩ := hM
    rw [h.blk] at q1
    cases q1
  obtain ⟨xs, hc⟩ := h.ca
  exact ⟨⟨Go.Joins.block_setCell h.blk _, hM.fr F hbp, hR.fr F (hty _ (by decide)), own_frT h.fa F (hty _ (by decide)), ⟨xs, own_frT hc F (hty _ (by decide))⟩, h.lp, hb⟩, F⟩
set_option maxRecDepth 100000 in
set_option maxHeartbeats 4000000 in
theorem pub_body {w : World} {lo p b : Nat} {fv cv : Value} {n nc : Nat} {fl : List Bool} {KV : List UInt8 → Option Value} {K : Tree} (h : SandIn w lo p b fv cv n nc fl KV K) (hKM : MayK K) (hG : Gl w) (fr to_ : List UInt8) (hf : fr.length ≤ 1024) (ht : to_.length ≤ 1024) (hn : n ≤ 40000) (B0 B1 B2 : Nat)
    (m0 : w.cell? ⟨B0, 0, none⟩ = some (.pointer (some ⟨p, 0, none⟩))) (m1 : w.cell? ⟨B1, 0, none⟩ = some (.string ⟨fr.toArray⟩)) (m2 : w.cell? ⟨B2, 0, none⟩ = some (.string ⟨to_.toArray⟩)) :
    Calls Tryz.prog 43 #[.pointer (some ⟨B0, 0, none⟩), .pointer (some ⟨B1, 0, none⟩), .pointer (some ⟨B2, 0, none⟩)] w fun e w' => ∃ ks b' n' KV', KeysAre K ks ∧ ks.length ≤ n ∧ e = .returned (.int .i64 (pubK K fr to_ ks).1) ∧ SandIn w' lo p b' fv cv n' nc fl KV' (pubK K fr to_ ks).2 ∧ n' ≤ n ∧ Fr [p] w w' := by
  have hq := fun (w : World) (mo : Option Nat) => run_eql_map_nil_sl (P := Tryz.prog) w 55 9 60 mo Tryz.underlying55
  have HH := Lib.hid h
  cases hno : layNo K fr to_ with
  | true =>
    obtain ⟨ks, hks, hkl⟩ := h.keys
    have HL := Lib.hid (lay_no h fr to_ (by omega) (by omega) hno)
    have HE := Lib.hid (show pubK K fr to_ ks = (202, K) by unfold pubK layK; rw [hno]; rfl)
    clear h hKM hG hno
    go_enter Tryz.func43, Tryz.ntmps43
    go_wp2_with (go_at_call 44; refine HL.out.mono ?_; rintro e w ⟨rfl, rfl⟩)
    go_ret
    exact ⟨ks, b, n, KV, hks, hkl, by rw [HE.out]; rfl, by rw [HE.out]; exact HH.out, Nat.le_refl _, Fr.refl _ _⟩
  | false =>
    have HL := Lib.hid (lay_go h hKM hG fr to_ hf ht hn hno)
    have HNO := Lib.hid hno
    clear h hKM hG hno
    go_enter Tryz.func43, Tryz.ntmps43
    go_upto_region 2 with (go_at_call 44; refine HL.out.mono ?_; rintro e w1 ⟨ks, hks, hkl, F1, ⟨hg, rfl⟩ | ⟨N, bx, n', KV', hg, rfl, hbx, hm1, hr1⟩⟩)
    · have HE := Lib.hid (show pubK K fr to_ ks = (202, K) by unfold pubK layK; rw [HNO.out, if_neg (by simp), hg])
      go_wp2_with fail
      go_ret
      exact ⟨ks, b, n, KV, hks, hkl, by rw [HE.out]; rfl, by rw [HE.out]; exact HH.out.fr0 F1, Nat.le_refl _, F1.mono (by simp)⟩
    · have hlk : layK K fr to_ ks = some N := by unfold layK; rw [HNO.out, if_neg (by simp), hg]
      have HE := Lib.hid (show pubK K fr to_ ks = (0, N) by unfold pubK; rw [hlk])
      obtain ⟨l, hl1, hl2⟩ := lay_in hks.mem hlk
      have hm2 := hm1.tight l (fun q hq => hl1 q (by rw [← hr1.is]; exact hq))
      have S1 := Lib.hid (HH.out.fr0 F1)
      obtain ⟨q0, -, -⟩ := S1.out.cells
      have qz : w1.frozen? ⟨p, 0, none⟩ = false := Go.Joins.unfrozen_of_block S1.out.blk 0
      have x0 := (F1.cell (World.block_lt_of_cell? _ _ m0) (by simp)).trans m0
      have HSW := Lib.hid (S1.out.swap hm2 hr1 (Nat.le_trans (Nat.le_trans HH.out.lp (Nat.le_of_lt HH.out.ltp)) hbx))
      have HB := Lib.hid (And.intro hl2 (And.intro hks hkl))
      clear hm1 hm2 hr1 hl1 hl2 hlk hg hks hkl
      go_wp2_with fail
      go_ret
      exact ⟨ks, bx, l.length, KV', HB.out.2.1, HB.out.2.2, by rw [HE.out]; rfl, by rw [HE.out]; exact HSW.out.1, Nat.le_trans HB.out.1 HB.out.2.2, (F1.mono (by simp)).trans HSW.out.2 (fun i hi => .inl hi)⟩
/-- What Publish answers, its paths looked at too. -/
def publishK (K : Tree) (q to_ : List UInt8) (ks : List (List UInt8)) : Int × Tree := if cleanL foldL q && cleanL foldL to_ then pubK K q to_ ks else (301, K)
set_option maxRecDepth 100000 in
set_option maxHeartbeats 4000000 in
theorem publish_any {w : World} {lo p n nc : Nat} {fl : List Bool} {K : Tree} (h : SandAt w lo p n nc fl K) (hKM : MayK K) (hG : Gl w) (q to_ : List UInt8) (hq : q.length ≤ 100000) (hto : to_.length ≤ 100000) (hn : n ≤ 40000) (hnc : nc ≤ 100000) (hl : fl.getD nc false = false) :
    Calls Tryz.prog 23 #[.pointer (some ⟨p, 0, none⟩), .string ⟨q.toArray⟩, .string ⟨to_.toArray⟩] w fun e w' => ∃ ks, KeysAre K ks ∧ ks.length ≤ n ∧ e = .returned (.int .i64 (publishK K q to_ ks).1) ∧ SandAt w' lo p n (nc + 1) fl (publishK K q to_ ks).2 ∧ Lo lo w w' := by
  obtain ⟨b, fv, cv, KV, h⟩ := h
  obtain ⟨wA, hwA⟩ : ∃ wA, wA = ((w.alloc (.cells #[.pointer (some ⟨p, 0, none⟩)] 31)).alloc (.cells #[.string ⟨q.toArray⟩] 9)).alloc (.cells #[.string ⟨to_.toArray⟩] 9) := ⟨_, rfl⟩
  have FA : Fr [] w wA := hwA ▸ (((Fr.refl _ _).alloc _).alloc _).alloc _
  have m0 : wA.cell? ⟨w.heap.size, 0, none⟩ = some (.pointer (some ⟨p, 0, none⟩)) := by
    have F : Fr [] (w.alloc (.cells #[.pointer (some ⟨p, 0, none⟩)] 31)) wA := hwA ▸ ((Fr.refl _ _).alloc _).alloc _
    rw [Go.Joins.cell_of_block ((F.block w.heap.size (by rw [World.size_alloc]; omega) (by simp)).trans (heap_alloc_new w _))]
    rfl
  have m1 : wA.cell? ⟨w.heap.size + 1, 0, none⟩ = some (.string ⟨q.toArray⟩) := by
    have F : Fr [] ((w.alloc (.cells #[.pointer (some ⟨p, 0, none⟩)] 31)).alloc (.cells #[.string ⟨q.toArray⟩] 9)) wA := hwA ▸ (Fr.refl _ _).alloc _
    have g := heap_alloc_new (w.alloc (.cells #[.pointer (some ⟨p, 0, none⟩)] 31)) (.cells #[.string ⟨q.toArray⟩] 9)
    rw [World.size_alloc] at g
    rw [Go.Joins.cell_of_block ((F.block (w.heap.size + 1) (by rw [World.size_alloc, World.size_alloc]; omega) (by simp)).trans g)]
    rfl
  have h2 : wA.heap[w.heap.size + 2]? = some (.cells #[.string ⟨to_.toArray⟩] 9 (0, 0)) := by
    have := heap_alloc_new ((w.alloc (.cells #[.pointer (some ⟨p, 0, none⟩)] 31)).alloc (.cells #[.string ⟨q.toArray⟩] 9)) (.cells #[.string ⟨to_.toArray⟩] 9)
    rw [World.size_alloc, World.size_alloc] at this
    rw [hwA]
    exact this
  have m2 : wA.cell? ⟨w.heap.size + 2, 0, none⟩ = some (.string ⟨to_.toArray⟩) := by rw [Go.Joins.cell_of_block h2]; rfl
  have l0 : w.heap.size + 2 < wA.heap.size := (Array.getElem?_eq_some_iff.1 h2).1
  have hA := h.fr0 FA
  obtain ⟨ks0, hks0, hkl0⟩ := h.keys
  obtain ⟨xs, hca⟩ := h.ca
  have hcv : ∀ i ∈ (p :: cv.ownBlock.toList), lo ≤ i := fun i hi => by
    rcases List.mem_cons.1 hi with rfl | hi
    · exact h.lp
    · exact (own_ltS hca i (by simpa using hi)).1
  have hlp := h.lp
  have HKS0 := Lib.hid (And.intro hks0 hkl0)
  cases hc : cleanL foldL q with
  | false =>
    have HE := Lib.hid (show publishK K q to_ ks0 = (301, K) by unfold publishK; rw [hc]; rfl)
    have HB := Lib.hid (call_bad hA (hG.fr FA) 5 q hq ⟨to_.toArray⟩ (.func (.func 43) #[] #[.pointer (some ⟨w.heap.size, 0, none⟩), .pointer (some ⟨w.heap.size + 1, 0, none⟩), .pointer (some ⟨w.heap.size + 2, 0, none⟩)]) hc hnc)
    clear h hA hG hq hn hnc hl hc m0 m1 m2 h2 hca hKM hto hks0 hkl0
    go_enter Tryz.func23, Tryz.ntmps23
    go_wp2_with (go_at_call 34; rw [← hwA]; refine HB.out.mono ?_; rintro e w1 ⟨rfl, ⟨cv', hS⟩, F1⟩)
    go_ret
    exact ⟨ks0, HKS0.out.1, HKS0.out.2, by rw [HE.out]; rfl, by rw [HE.out]; exact ⟨_, _, _, _, hS⟩, (Lo.of0 FA).trans ⟨_, F1, hcv⟩⟩
  | true =>
    cases hct : cleanL foldL to_ with
    | false =>
      have HE := Lib.hid (show publishK K q to_ ks0 = (301, K) by unfold publishK; rw [hc, hct]; rfl)
      have HB := Lib.hid (call_pubbad hA (hG.fr FA) q hq to_ hto (.func (.func 43) #[] #[.pointer (some ⟨w.heap.size, 0, none⟩), .pointer (some ⟨w.heap.size + 1, 0, none⟩), .pointer (some ⟨w.heap.size + 2, 0, none⟩)]) hc hct hnc)
      clear h hA hG hq hn hnc hl hc hct m0 m1 m2 h2 hca hKM hto hks0 hkl0
      go_enter Tryz.func23, Tryz.ntmps23
      go_wp2_with (go_at_call 34; rw [← hwA]; refine HB.out.mono ?_; rintro e w1 ⟨rfl, ⟨cv', hS⟩, F1⟩)
      go_ret
      exact ⟨ks0, HKS0.out.1, HKS0.out.2, by rw [HE.out]; rfl, by rw [HE.out]; exact ⟨_, _, _, _, hS⟩, (Lo.of0 FA).trans ⟨_, F1, hcv⟩⟩
    | true =>
      have HE := Lib.hid (fun ks => (show publishK K q to_ ks = pubK K q to_ ks by unfold publishK; rw [hc, hct]; rfl))
      have hq2 := clean_len hc
      have ht2 := clean_len hct
      have HD := Lib.hid (call_pub hA (hG.fr FA) q hq to_ hto 43 #[.pointer (some ⟨w.heap.size, 0, none⟩), .pointer (some ⟨w.heap.size + 1, 0, none⟩), .pointer (some ⟨w.heap.size + 2, 0, none⟩)] (enters_of Tryz.func43 (by kernel_rfl) rfl) hc hct hl hnc
        (fun c n' K' w2 => (∃ ks, KeysAre K ks ∧ ks.length ≤ n ∧ c = (pubK K q to_ ks).1 ∧ K' = (pubK K q to_ ks).2) ∧ n' ≤ n ∧ Lo lo w w2)
        (fun wx F => (pub_body (hA.fr0 F) hKM (hG.fr (FA.trans0 F)) q to_ hq2 ht2 hn w.heap.size (w.heap.size + 1) (w.heap.size + 2) ((F.cell (p := ⟨w.heap.size, 0, none⟩) (by show w.heap.size < _; omega) (by simp)).trans m0) ((F.cell (p := ⟨w.heap.size + 1, 0, none⟩) (by show w.heap.size + 1 < _; omega) (by simp)).trans m1) ((F.cell (p := ⟨w.heap.size + 2, 0, none⟩) l0 (by simp)).trans m2)).mono (fun e w2 hh => by
          obtain ⟨ks, b', n', KV', h1, h2, h3, h4, h5, h6⟩ := hh
          exact ⟨_, b', n', KV', _, h3, h4, ⟨ks, h1, h2, rfl, rfl⟩, h5, ((Lo.of0 FA).trans (Lo.of0 F)).trans ⟨_, h6, by simpa using hlp⟩⟩)))
      clear h hA hG hq hn hnc hl hc hct m0 m1 m2 h2 hca hKM hto hks0 hkl0
      go_enter Tryz.func23, Tryz.ntmps23
      go_wp2_with (go_at_call 34; rw [← hwA]; refine HD.out.mono ?_; rintro e w1 ⟨c, b', n', KV', K', w2, cv', ⟨⟨ks, hks, hkl, rfl, rfl⟩, hn', hfr⟩, rfl, hS, F1⟩)
      go_ret
      exact ⟨ks, hks, hkl, by rw [HE.out]; rfl, by rw [HE.out]; exact ⟨_, _, _, _, hS.mono hn'⟩, hfr.trans ⟨_, F1, hcv⟩⟩
end Go.Proofs.YtjeblccboeljnaaGreatDoor
