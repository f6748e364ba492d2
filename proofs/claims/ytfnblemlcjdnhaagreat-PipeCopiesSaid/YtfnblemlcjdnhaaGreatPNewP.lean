/- The folder of copies: where each coder's bytes come from, in which order the coders stand. No condition. -/
import Derived.Test.YtfnblemlcjdnhaaGreatPCop
import Derived.Test.YtfnblemlcjdnhaaGreatGOrder
namespace Go.Proofs.YtfnblemlcjdnhaaGreat

theorem copF_len (n : Nat) (sz : UInt64) : (copF n sz).coders.length = n := by simp [copF, chainF]
theorem copF_at (n : Nat) (sz : UInt64) (c : Nat) (hc : c < n) : (copF n sz).coders[c]? = some ⟨1, []⟩ := by
  simp [copF, chainF, hc, coderOf_zero]
theorem copF_size (n : Nat) (sz : UInt64) (c : Nat) (hc : c < n) : (copF n sz).sizes[c]? = some sz := by
  simp [copF, chainF, hc]
theorem copF_ins (n : Nat) (sz : UInt64) : ∀ c ∈ (copF n sz).coders, ins c.method = 1 := by
  intro c hc
  obtain ⟨x, _, rfl⟩ := List.mem_map.1 (show c ∈ (List.replicate n (0 : UInt8)).map coderOf from hc)
  exact coderOf_ins x
theorem copF_first (n : Nat) (sz : UInt64) (c : Nat) (hc : c ≤ n) : (copF n sz).first c = c := chain_first (copF_ins n sz) c (by rw [copF_len]; exact hc)
theorem range_find (m c : Nat) (hc : c < m) : (List.range m).find? (fun i => decide (i = c)) = some c := by
  rw [List.find?_eq_some_iff_getElem]
  exact ⟨by simp, c, by simpa using hc, by simp, fun j hj => by simp; omega⟩
theorem copF_from (n : Nat) (sz : UInt64) (c : Nat) (hc : c < n) : (copF n sz).from_ c = if c + 1 < n then ((c : Int) + 1, -1) else (-1, 0) := by
  have hb : (copF n sz).binds = (List.range (n - 1)).map fun (i : Nat) => ((i : Int), (i : Int) + 1) := by simp [copF, chainF, chainB]
  have hp : (copF n sz).packs = [(n : Int) - 1] := by simp [copF, chainF]
  by_cases h : c + 1 < n
  · have h1 : (copF n sz).fromB c = some ((c : Int) + 1) := by
      unfold Folder.fromB
      rw [hb, List.find?_map]
      have e : ((fun b : Int × Int => b.1 == (c : Int)) ∘ fun (i : Nat) => ((i : Int), (i : Int) + 1)) = fun i => decide (i = c) := by
        funext i; simp only [Function.comp]; by_cases hi : i = c <;> simp [hi]; omega
      rw [e, range_find _ _ (by omega)]
      rfl
    simp [Folder.from_, h1, h]
  · have h1 : (copF n sz).fromB c = none := by
      unfold Folder.fromB
      rw [hb, List.find?_map]
      have e : (List.range (n - 1)).find? ((fun b : Int × Int => b.1 == (c : Int)) ∘ fun (i : Nat) => ((i : Int), (i : Int) + 1)) = none := by
        rw [List.find?_eq_none]
        intro x hx
        have := List.mem_range.1 hx
        simp only [Function.comp, beq_iff_eq]
        omega
      rw [e]
      rfl
    have h2 : (copF n sz).fromP c = 0 := by
      unfold Folder.fromP
      rw [hp]
      have : (c : Int) = (n : Int) - 1 := by omega
      simp [fidx, List.findIdx?_cons, this]
    simp [Folder.from_, h1, h, h2]
theorem copF_fd (n : Nat) (sz : UInt64) (c : Nat) (hc : c < n) : fdOf (copF n sz) c = if c + 1 < n then [c + 1] else [] := by
  have hi : (copF n sz).insOf c = 1 := by unfold Folder.insOf; rw [copF_at n sz c hc]; rfl
  unfold fdOf Folder.feeders Folder.feedersTo
  rw [hi, copF_first n sz c (by omega)]
  simp only [List.range_one, List.map_cons, List.map_nil, Nat.add_zero]
  rw [copF_from n sz c hc]
  by_cases h : c + 1 < n
  · simp only [h, if_true]
    have : (0 : Int) ≤ (c : Int) + 1 := by omega
    simp [this]
  · simp [h]
theorem copF_ord (n : Nat) (sz : UInt64) (out : List Nat) (h : Ord (copF n sz) out) (hl : out.length = n) : ∀ j, j < n → out[j]? = some (n - 1 - j) := by
  intro j
  induction j using Nat.strongRecOn with
  | _ j ih =>
    intro hj
    obtain ⟨c, hc⟩ : ∃ c, out[j]? = some c := ⟨_, List.getElem?_eq_getElem (by omega)⟩
    obtain ⟨h1, h2⟩ := h.ok j c hc
    rw [copF_len] at h1
    rw [copF_fd n sz c h1] at h2
    have hne : ∀ i, i < j → n - 1 - i ≠ c := by
      intro i hi e
      have h3 := ih i hi (by omega)
      obtain ⟨p1, p2⟩ := List.getElem?_eq_some_iff.1 h3
      obtain ⟨q1, q2⟩ := List.getElem?_eq_some_iff.1 hc
      exact List.pairwise_iff_getElem.1 h.nodup i j p1 q1 hi (by rw [p2, q2, e])
    have hge : ∀ i, i < j → c < n - 1 - i := by
      -- by descent: c is not n-1-i for any i < j; were it above one, it would be one of those
      intro i hi
      rcases Nat.lt_trichotomy c (n - 1 - i) with h | h | h
      · exact h
      · exact absurd h.symm (hne i hi)
      · exact absurd (show n - 1 - (n - 1 - c) = c by omega) (hne (n - 1 - c) (by omega))
    by_cases hcn : c + 1 < n
    · rw [if_pos hcn] at h2
      have h3 := h2 (c + 1) (by simp)
      obtain ⟨i, hi0⟩ := List.mem_iff_getElem?.1 h3
      have hi : i < j := by
        have := (List.getElem?_eq_some_iff.1 hi0).1
        simp only [List.length_take] at this
        omega
      rw [List.getElem?_take_of_lt hi, ih i hi (by omega)] at hi0
      have e2 := Option.some.inj hi0
      have h4 := hge (j - 1) (by omega)
      rw [hc]
      congr 1
      omega
    · rw [hc]
      congr 1
      by_cases h0 : j = 0
      · omega
      · have := hge 0 (by omega)
        omega
theorem copF_code (n : Nat) (sz : UInt64) (hn : 1 ≤ n) (hn8 : n ≤ 8) (hs : sz.toNat ≤ 65535) : codeP (copF n sz) [sz] = 0 :=
  chain_code _ sz false (copF_ins n sz) (fun c hc => by obtain ⟨x, _, rfl⟩ := List.mem_map.1 hc; exact coderOf_ok x) (by simpa using hn) (by simpa using hn8) hs
theorem copF_hangs (n : Nat) (sz : UInt64) (hn : 1 ≤ n) (hn8 : n ≤ 8) : Hangs (copF n sz) 1 := chain_hangs _ sz false (copF_ins n sz) (by simpa using hn) (by simpa using hn8)
theorem copF_main (n : Nat) (sz : UInt64) (hn : 1 ≤ n) : mainOf (copF n sz) = 0 := by have := chain_main ((List.replicate n (0 : UInt8)).map coderOf) sz false (by simpa using hn); exact this
theorem copF_small (n : Nat) (sz : UInt64) (hn8 : n ≤ 8) : Small (copF n sz) := ⟨by simp [copF, chainF]; omega, by simp [copF, chainF, chainB]; omega, by simp [copF, chainF], by simp [copF, chainF]; omega⟩
theorem copF_props (n : Nat) (sz : UInt64) : ∀ c ∈ (copF n sz).coders, c.props.length ≤ 2000 := fun c hc => by
  obtain ⟨x, _, rfl⟩ := List.mem_map.1 (show c ∈ (List.replicate n (0 : UInt8)).map coderOf from hc)
  exact Nat.le_trans (coderOf_len x) (by decide)
theorem copF_outs (n : Nat) (sz : UInt64) (hn : 1 ≤ n) : (∀ b ∈ (copF n sz).binds, 0 ≤ b.2 ∧ b.2 < ((copF n sz).coders.length : Int)) ∧ ((copF n sz).binds.map (·.2)).Nodup := chain_outs _ sz false (by simpa using hn)
end Go.Proofs.YtfnblemlcjdnhaaGreat
