/- The sorted keys of the map of things: contracts. No condition but that lengths fit. -/
import Derived.Test.YtjeblccboeljnaaGreatDoorYKeys
import Derived.Test.YtjeblccboeljnaaGreatDoorNClean
namespace Go.Proofs.YtjeblccboeljnaaGreatDoor
open Go.RowKit Go.Maps Go.Sort

/-- A list of all that is there, rising. -/
structure KeysAre {α : Type} (K : List UInt8 → Option α) (ks : List (List UInt8)) : Prop where
  nd : ks.Nodup
  mem : ∀ p, p ∈ ks ↔ (K p).isSome = true
  so : ks.Pairwise fun x y => x ≤ y
theorem keys_mem {w : World} {b n : Nat} {D : DataW Value} (hown : w.ownsMap Tryz.prog 9 rawR b n D) : (strKeys D).Nodup ∧ ∀ x, x ∈ strKeys D ↔ has D (.string x) = true := by
  obtain ⟨es, hD, hpw, _⟩ := hown.entries law_str
  obtain ⟨es', hD', hko⟩ := hown.keysOf
  obtain rfl : es = es' := by rw [hD] at hD'; simpa using hD'
  subst hD
  have hk : ∀ p ∈ es, ∃ x, p.1 = .string x := fun p hp => by obtain ⟨v, hv⟩ := hko p hp; obtain ⟨x, _, hx, _⟩ := Maps.keyOf_str Tryz.underlying9 hv; exact ⟨x, hx⟩
  refine ⟨?_, fun x => ?_⟩
  · show (es.map fun p => strOf p.1).Nodup
    refine List.pairwise_map.2 (hpw.imp_of_mem fun {p q} hp' hq' hne e => hne ?_)
    obtain ⟨a, ha⟩ := hk p hp'
    obtain ⟨b, hb⟩ := hk q hq'
    rw [ha, hb] at e ⊢
    exact congrArg _ e
  · rw [has_eq, List.any_eq_true]
    show x ∈ (es.map fun p => strOf p.1) ↔ _
    rw [List.mem_map]
    constructor
    · rintro ⟨p, hp', rfl⟩
      obtain ⟨a, ha⟩ := hk p hp'
      exact ⟨p, hp', by rw [ha]; simp [Lit.sameKey, strOf]⟩
    · rintro ⟨p, hp', hs⟩
      obtain ⟨a, ha⟩ := hk p hp'
      rw [ha] at hs
      exact ⟨p, hp', by rw [ha]; simpa [Lit.sameKey, strOf] using hs⟩
theorem keys_are {w : World} {b n : Nat} {D : DataW Value} {K : List UInt8 → Option Value} (hown : w.ownsMap Tryz.prog 9 rawR b n D) (hK : Says D K) {ss : List (List UInt8)} (h : ss.Perm (strKeys D)) :
    KeysAre K (ss.mergeSort fun x y => decide (x ≤ y)) := by
  obtain ⟨h1, h2⟩ := keys_mem hown
  have hp := (List.mergeSort_perm ss fun x y => decide (x ≤ y)).trans h
  have tr : ∀ a b c : List UInt8, leB a b = true → leB b c = true → leB a c = true := fun a b c h1 h2 => by simp only [leB, decide_eq_true_eq] at *; exact List.le_trans h1 h2
  have to2 : ∀ a b : List UInt8, (leB a b || leB b a) = true := fun a b => by simp only [leB, Bool.or_eq_true, decide_eq_true_eq]; exact List.le_total a b
  refine ⟨hp.nodup_iff.2 h1, fun p => ?_, (List.pairwise_mergeSort tr to2 ss).imp fun h => of_decide_eq_true h⟩
  rw [hp.mem_iff, h2, (hK p).1]
theorem keys_any (w : World) (b : Nat) : Calls Tryz.prog 31 #[.map (some b)] w fun e w' =>
    e = .returned (.func (.func 52) #[] #[.pointer (some ⟨w.heap.size, 0, none⟩)]) ∧ w' = w.alloc (.cells #[.map (some b)] 55) :=
  callsIn_wide.1 (gz_keys_in Fence.wide 1 trivial rfl (some b) w)
theorem sorted_any (w : World) (Bm b n : Nat) (K : List UInt8 → Option Value) (hBm : Bm < w.heap.size) (hm : w.cell? ⟨Bm, 0, none⟩ = some (.map (some b))) (h : MTh w b n K) (hn : n ≤ 1000000) :
    Calls Tryz.prog 30 #[.func (.func 52) #[] #[.pointer (some ⟨Bm, 0, none⟩)]] w fun e w' =>
      ∃ v ks, e = .returned v ∧ w'.ownsRow w.heap.size 9 1 v ks.length (stv ks) ∧ KeysAre K ks ∧ ks.length ≤ n ∧ Fr [] w w' := by
  obtain ⟨D, hown, hK⟩ := h
  have hsz := hown.size_le
  have hseq := gz_keys_gives Fence.wide 10 trivial rfl (by omega) Bm b n D w hBm hm hown
  have hc := callsIn_wide.1 (gz_sorted_in Fence.wide 13 trivial trivial trivial trivial rfl (by omega) (gz_sorts_wide _) 52 _ trivial (enters_of Tryz.func52 (by kernel_rfl) rfl) _ _ (by unfold maxLen; omega) (by omega) w hseq)
  refine hc.mono ?_
  rintro e w' ⟨v, ss, rfl, hS, hrow, -, hb⟩
  have hks := keys_are hown hK hS
  have hl : (ss.mergeSort fun x y => decide (x ≤ y)).length = ss.length := (List.mergeSort_perm ss _).length_eq
  have hls : ss.length ≤ n := by
    obtain ⟨es, rfl, -, -⟩ := hown.entries law_str
    have h1 := hS.length_eq
    have h2 : (strKeys (DataW.map es)).length = es.length := List.length_map _
    have h3 : Maps.size (DataW.map es) = es.length := rfl
    omega
  refine ⟨v, _, rfl, ?_, hks, by omega, Fr.of_below hb⟩
  rw [hl]
  exact hrow
end Go.Proofs.YtjeblccboeljnaaGreatDoor
