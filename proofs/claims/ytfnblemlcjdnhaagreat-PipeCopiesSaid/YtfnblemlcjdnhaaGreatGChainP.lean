/- The plain law: coders in a chain. No condition. -/
import Derived.Test.YtfnblemlcjdnhaaGreatGCheck
import Derived.Test.YtfnblemlcjdnhaaGreatGMain
namespace Go.Proofs.YtfnblemlcjdnhaaGreat

/-- Binds of a chain: each coder feeds the one ahead, or (back) the one behind. -/
def chainB (n : Nat) (back : Bool) : List (Int × Int) := (List.range (n - 1)).map fun (i : Nat) => if back then ((i : Int) + 1, (i : Int)) else ((i : Int), (i : Int) + 1)
def chainF (cs : List Coder) (size : UInt64) (back : Bool) : Folder :=
  ⟨cs, chainB cs.length back, [if back then 0 else (cs.length : Int) - 1], List.replicate cs.length size⟩

theorem chainB_mem {n : Nat} {back : Bool} {b : Int × Int} (h : b ∈ chainB n back) : ∃ i : Nat, i + 1 < n ∧ b = if back then ((i : Int) + 1, (i : Int)) else ((i : Int), (i : Int) + 1) := by
  unfold chainB at h
  rw [List.mem_map] at h
  obtain ⟨i, hi, rfl⟩ := h
  rw [List.mem_range] at hi
  exact ⟨i, by omega, rfl⟩

theorem nodup_map_range (m : Nat) (g : Nat → Int) (h : ∀ i j, i < j → g i ≠ g j) : ((List.range m).map g).Nodup := by
  rw [List.nodup_iff_pairwise_ne, List.pairwise_map]
  exact List.Pairwise.imp (fun {a b} hab => h a b hab) List.pairwise_lt_range

theorem chain_first {f : Folder} (h : ∀ c ∈ f.coders, ins c.method = 1) : ∀ k, k ≤ f.coders.length → f.first k = k := by
  intro k
  induction k with
  | zero => intro _; simp [Folder.first]
  | succ k ih =>
    intro hk
    obtain ⟨x, hx⟩ : ∃ x, f.coders[k]? = some x := ⟨f.coders[k], by simp [show k < f.coders.length from hk]⟩
    rw [f.first_succ k x hx, ih (by omega), h x (List.mem_of_getElem? hx)]

theorem chain_named (cs : List Coder) (size : UInt64) (back : Bool) (hn : 1 ≤ cs.length) : Named (chainF cs size back) cs.length := by
  refine ⟨fun b hb => ?_, fun p hp => ?_, ?_, ?_, ?_⟩
  · obtain ⟨i, hi, rfl⟩ := chainB_mem hb
    cases back <;> simp [chainF] <;> omega
  · simp [chainF] at hp
    subst hp
    cases back <;> simp <;> omega
  · refine List.nodup_append.2 ⟨?_, by simp [chainF], fun a ha b hb => ?_⟩
    · simp only [chainF, chainB, List.map_map]
      refine nodup_map_range _ _ (fun i j hij => ?_)
      cases back <;> simp [Function.comp] <;> omega
    · obtain ⟨x, hx, rfl⟩ := List.mem_map.1 ha
      obtain ⟨i, hi, rfl⟩ := chainB_mem hx
      simp [chainF] at hb
      subst hb
      cases back <;> simp <;> omega
  · simp only [chainF, chainB, List.map_map]
    refine nodup_map_range _ _ (fun i j hij => ?_)
    cases back <;> simp [Function.comp] <;> omega
  · simp [chainF, chainB]
    omega

theorem chain_fd {cs : List Coder} {size : UInt64} {back : Bool} (h : ∀ c ∈ cs, ins c.method = 1) {a x : Nat} (ha : a < cs.length) (hx : x ∈ fdOf (chainF cs size back) a) : if back then a = x + 1 else x = a + 1 := by
  unfold fdOf Folder.feeders Folder.feedersTo at hx
  rw [List.mem_map] at hx
  obtain ⟨y, hy, rfl⟩ := hx
  rw [List.mem_filter, List.mem_map] at hy
  obtain ⟨⟨j, hj, rfl⟩, h0⟩ := hy
  rw [List.mem_range] at hj
  have hi : (chainF cs size back).insOf a = 1 := by
    unfold Folder.insOf
    obtain ⟨c, hc⟩ : ∃ c, cs[a]? = some c := ⟨cs[a], by simp [ha]⟩
    rw [show (chainF cs size back).coders = cs from rfl, hc]
    exact h c (List.mem_of_getElem? hc)
  have hf : (chainF cs size back).first a = a := chain_first h a (by simp [chainF]; omega)
  rw [hf]
  rw [hf] at h0
  have h0' : 0 ≤ ((chainF cs size back).from_ ((a + j : Nat) : Int)).1 := by simpa using h0
  obtain ⟨b, hb, e1, e2⟩ := from_out _ _ h0'
  rw [← e1]
  obtain ⟨i, hi2, rfl⟩ := chainB_mem hb
  cases back <;> simp at e2 ⊢ <;> omega

theorem chain_way {cs : List Coder} {size : UInt64} {back : Bool} (h : ∀ c ∈ cs, ins c.method = 1) (hfit : ∀ c, c < cs.length → ∀ x ∈ fdOf (chainF cs size back) c, x < cs.length) {k a b : Nat} (hw : Way (fdOf (chainF cs size back)) k a b) : a < cs.length → if back then b < a else a < b := by
  induction hw with
  | one h1 =>
    intro ha
    have := chain_fd h ha h1
    cases back <;> simp at this ⊢ <;> omega
  | cons h1 _ ih =>
    intro ha
    have h2 := chain_fd h ha h1
    have h3 := ih (hfit _ ha _ h1)
    cases back <;> simp at h2 h3 ⊢ <;> omega

theorem chain_hangs (cs : List Coder) (size : UInt64) (back : Bool) (h : ∀ c ∈ cs, ins c.method = 1) (hn : 1 ≤ cs.length) (hn8 : cs.length ≤ 8) : Hangs (chainF cs size back) 1 := by
  have hN : Named (chainF cs size back) ((chainF cs size back).first (chainF cs size back).coders.length) := by
    rw [chain_first h _ (Nat.le_refl _)]
    exact chain_named cs size back hn
  refine ⟨hn, hn8, by simp [chainF, chainB]; omega, by simp [chainF], by simp [chainF], fun c hc => by rw [h c hc]; decide, hN, ?_⟩
  rintro ⟨k, a, _, ha, hw⟩
  have hfit : ∀ c, c < cs.length → ∀ x ∈ fdOf (chainF cs size back) c, x < cs.length := fun c hc x hx => by
    obtain ⟨y, hy, rfl⟩ := List.mem_map.1 hx
    have := feeders_fit _ _ hN c hc y hy
    have e : (chainF cs size back).coders.length = cs.length := rfl
    omega
  have := chain_way h hfit hw ha
  cases back <;> simp at this

theorem chain_code (cs : List Coder) (size : UInt64) (back : Bool) (h : ∀ c ∈ cs, ins c.method = 1) (hok : ∀ c ∈ cs, propsOk c.method c.props = true) (hn : 1 ≤ cs.length) (hn8 : cs.length ≤ 8) (hs : size.toNat ≤ 65535) : codeP (chainF cs size back) [size] = 0 := by
  have H := chain_hangs cs size back h hn hn8
  have hbig : bigP size = false := by simp [bigP]; omega
  refine codeP_ok H ?_ ?_ ?_
  · rw [List.any_append, Bool.or_eq_false_iff]
    constructor
    · rw [List.any_eq_false]
      intro x hx
      simp [chainF] at hx
      rw [hx.2, hbig]; simp
    · simp [hbig]
  · rw [List.any_eq_false]
    intro c hc
    simp [badP, hok c hc]
  · rw [List.any_eq_false]
    intro k hk
    rw [List.mem_range] at hk
    unfold oddP
    have hfd := H.fed k hk
    have hsz : ∀ j, j < cs.length → (chainF cs size back).sizes[j]? = some size := fun j hj => by simp [chainF, hj]
    have hl : (chainF cs size back).sizes.length = cs.length := by simp [chainF]
    have hk' : k < cs.length := hk
    have : ∀ m, (chainF cs size back).evenAt [size] k m = true := by
      intro m
      unfold Folder.evenAt
      split
      · rcases hfd.fed with ⟨c, r2, h1, h2⟩ | ⟨c, h1, h2⟩
        · rw [h1, hsz k hk']
          have hc : c < cs.length := by rw [hl] at h2; exact h2
          simp [hsz c hc]
        · rw [h1, hsz k hk']
          have hc : c = 0 := by simp at h2; omega
          subst hc
          simp
      · rfl
    rw [this]
    simp

theorem chain_main (cs : List Coder) (size : UInt64) (back : Bool) (hn : 1 ≤ cs.length) : mainOf (chainF cs size back) = if back then (cs.length : Int) - 1 else 0 := by
  have e : mainIdx (chainF cs size back) = some (if back then cs.length - 1 else 0) := by
    unfold mainIdx
    rw [List.find?_range_eq_some]
    refine ⟨?_, ?_, fun j hj => ?_⟩
    · simp only [decide_eq_true_eq]
      intro hm
      obtain ⟨b, hb, e⟩ := List.mem_map.1 hm
      obtain ⟨i, hi, rfl⟩ := chainB_mem hb
      cases back <;> simp at e <;> omega
    · cases back <;> simp [chainF] <;> omega
    · cases back with
      | false => simp at hj
      | true =>
        simp only [Bool.not_eq_true', decide_eq_false_iff_not, Decidable.not_not]
        simp at hj
        refine List.mem_map.2 ⟨((j : Int) + 1, (j : Int)), ?_, rfl⟩
        show _ ∈ chainB _ _
        unfold chainB
        rw [List.mem_map]
        exact ⟨j, by rw [List.mem_range]; omega, by simp⟩
  unfold mainOf
  rw [e]
  cases back <;> simp
  omega
end Go.Proofs.YtfnblemlcjdnhaaGreat
