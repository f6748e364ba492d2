/- The plain law: folders of one coder. No condition. -/
import Derived.Test.YtakpeffpocjgoaaGCheck
namespace Go.Proofs.Ytakpeffpocjgoaa

/-- A folder of one coder, all of whose streams are packed. -/
def soloF (c : Coder) (size : UInt64) : Folder := ⟨[c], [], (List.range (ins c.method)).map fun (i : Nat) => (i : Int), [size]⟩

theorem solo_first (c : Coder) (size : UInt64) : (soloF c size).first 1 = ins c.method := by simp [Folder.first, soloF]

theorem solo_named (c : Coder) (size : UInt64) : Named (soloF c size) (ins c.method) := by
  refine ⟨by simp [soloF], fun p hp => ?_, ?_, by simp [soloF], by simp [soloF]⟩
  · simp only [soloF, List.mem_map, List.mem_range] at hp
    obtain ⟨i, hi, rfl⟩ := hp
    omega
  · simp only [soloF, List.map_nil, List.nil_append]
    rw [List.nodup_iff_pairwise_ne, List.pairwise_map]
    refine List.Pairwise.imp ?_ (List.nodup_iff_pairwise_ne.1 List.nodup_range)
    intro a b h
    omega

theorem solo_hangs (c : Coder) (size : UInt64) (h : ins c.method ≠ 0) : Hangs (soloF c size) (ins c.method) := by
  refine ⟨by simp [soloF], by simp [soloF], by simp [soloF], by simp [soloF], by simp [soloF], ?_, ?_, ?_⟩
  · intro x hx
    simp [soloF] at hx
    subst hx
    exact h
  · rw [show (soloF c size).coders.length = 1 from rfl, solo_first]
    exact solo_named c size
  · rintro ⟨k, a, _, ha, hw⟩
    have ha0 : a = 0 := by simp [soloF] at ha; omega
    subst ha0
    have hfd : fdOf (soloF c size) 0 = [] := by
      unfold fdOf Folder.feeders Folder.feedersTo
      rw [List.map_eq_nil_iff, List.filter_eq_nil_iff]
      intro x hx
      simp only [List.mem_map] at hx
      obtain ⟨i, _, rfl⟩ := hx
      simp [Folder.from_, Folder.fromB, soloF]
    cases hw with
    | one h1 => rw [hfd] at h1; simp at h1
    | cons h1 _ => rw [hfd] at h1; simp at h1

theorem solo_from (c : Coder) (size : UInt64) (h : ins c.method ≠ 0) : (soloF c size).from_ (((soloF c size).first 0 : Nat) : Int) = (-1, 0) := by
  have h0 : (soloF c size).first 0 = 0 := by simp [Folder.first]
  rw [h0]
  simp only [Folder.from_, Folder.fromB, soloF, List.find?_nil, Option.map_none, Folder.fromP, fidx]
  obtain ⟨n, hn⟩ : ∃ n, ins c.method = n + 1 := ⟨ins c.method - 1, by omega⟩
  rw [hn, List.range_succ_eq_map]
  simp [List.findIdx?_cons]

/-- What is told of it. -/
noncomputable def soloCode (c : Coder) (size : UInt64) (np : List UInt64) : Int :=
  if ins c.method = 0 then 10
  else if bigP size || np.any bigP then 7
  else if !propsOk c.method c.props then 11
  else if (c.method = 1 ∨ c.method = 2 ∨ c.method = 3) ∧ np[0]? ≠ some size then 13
  else 0

theorem solo_code (c : Coder) (size : UInt64) (np : List UInt64) (hk : np.length = ins c.method) : codeP (soloF c size) np = soloCode c size np := by
  unfold soloCode
  by_cases h0 : ins c.method = 0
  · rw [if_pos h0]
    exact codeP_graph (fun H => H.ins c (by simp [soloF]) h0)
  · rw [if_neg h0]
    have H : Hangs (soloF c size) np.length := by rw [hk]; exact solo_hangs c size h0
    have hb : ((soloF c size).sizes ++ np).any bigP = (bigP size || np.any bigP) := by simp [soloF]
    cases hbig : (bigP size || np.any bigP) with
    | true => rw [if_pos rfl]; exact codeP_big H (by rw [hb, hbig])
    | false =>
      rw [if_neg (by simp)]
      have hp : (soloF c size).coders.any badP = !propsOk c.method c.props := by simp [soloF, badP]
      cases hok : propsOk c.method c.props with
      | false => rw [if_pos (by simp)]; exact codeP_props H (by rw [hb, hbig]) (by rw [hp, hok]; rfl)
      | true =>
        rw [if_neg (by simp)]
        have ho : (List.range (soloF c size).coders.length).any (oddP (soloF c size) np) = !(soloF c size).evenAt np 0 c.method := by
          simp [soloF, oddP]
        have he : (soloF c size).evenAt np 0 c.method = true ↔ ¬ ((c.method = 1 ∨ c.method = 2 ∨ c.method = 3) ∧ np[0]? ≠ some size) := by
          unfold Folder.evenAt
          rw [solo_from c size h0]
          by_cases hm : c.method = 1 ∨ c.method = 2 ∨ c.method = 3
          · rw [if_pos hm]; simp [hm, soloF]
          · rw [if_neg hm]; simp [hm]
        by_cases hs : (c.method = 1 ∨ c.method = 2 ∨ c.method = 3) ∧ np[0]? ≠ some size
        · rw [if_pos hs]
          refine codeP_sizes H (by rw [hb, hbig]) (by rw [hp, hok]; rfl) ?_
          rw [ho, Bool.eq_false_iff.2 (fun h => he.1 h hs)]; rfl
        · rw [if_neg hs]
          refine codeP_ok H (by rw [hb, hbig]) (by rw [hp, hok]; rfl) ?_
          rw [ho, he.2 hs]; rfl
end Go.Proofs.Ytakpeffpocjgoaa
