/- The plain law of walks through a graph in depth. No condition. -/
import Derived.Test.YtfnblemlcjdnhaaGreatGSpec
namespace Go.Proofs.YtfnblemlcjdnhaaGreat

/-- From a one comes to b by k steps, each to one that feeds. -/
inductive Way (fd : Nat → List Nat) : Nat → Nat → Nat → Prop
  | one {a b : Nat} : b ∈ fd a → Way fd 1 a b
  | cons {k a b c : Nat} : b ∈ fd a → Way fd k b c → Way fd (k + 1) a c

theorem Way.snoc {fd : Nat → List Nat} {k a b c : Nat} (h : Way fd k a b) (hc : c ∈ fd b) : Way fd (k + 1) a c := by
  induction h with
  | one h1 => exact .cons h1 (.one hc)
  | cons h1 _ ih => exact .cons h1 (ih hc)

theorem acc_no_way {fd : Nat → List Nat} {c : Nat} (h : Acc (fun x y => x ∈ fd y) c) : ∀ k, ¬ Way fd k c c := by
  induction h with
  | intro c _ ih =>
    intro k hw
    cases hw with
    | one h1 => exact ih c h1 1 (.one h1)
    | cons h1 h2 => exact ih _ h1 _ (h2.snoc h1)

/-- Each is fed by the one ahead of it. -/
def Links (fd : Nat → List Nat) : Nat → List Nat → Prop
  | _, [] => True
  | c, h :: t => c ∈ fd h ∧ Links fd h t

theorem way_of_links {fd : Nat → List Nat} : ∀ (stk : List Nat) (c a : Nat), Links fd c stk → a ∈ stk → ∃ k, k ≤ stk.length ∧ Way fd k a c
  | h :: t, c, a, hl, ha => by
    rcases List.mem_cons.1 ha with rfl | ha
    · exact ⟨1, by simp, .one hl.1⟩
    · obtain ⟨k, hk, hw⟩ := way_of_links t h a hl.2 ha
      exact ⟨k + 1, by simpa using hk, hw.snoc hl.1⟩

theorem nodup_le : ∀ (n : Nat) (l : List Nat), l.Nodup → (∀ x ∈ l, x < n) → l.length ≤ n
  | 0, l, _, h => by
    cases l with
    | nil => simp
    | cons x t => exact absurd (h x (by simp)) (by omega)
  | n + 1, l, hn, h => by
    have h1 := nodup_le n (l.erase n) (hn.erase n) (fun x hx => by
      have := h x (List.mem_of_mem_erase hx)
      have hne : x ≠ n := by rintro rfl; exact (hn.not_mem_erase) hx
      omega)
    by_cases hm : n ∈ l
    · rw [List.length_erase_of_mem hm] at h1; omega
    · rw [List.erase_of_not_mem hm] at h1; omega

structure Inv (fd : Nat → List Nat) (n : Nat) (st : List Nat) (stk : List Nat) : Prop where
  len : st.length = n
  nodup : stk.Nodup
  lt : ∀ x ∈ stk, x < n
  one : ∀ x, st[x]? = some 1 ↔ x ∈ stk
  two : ∀ x, st[x]? = some 2 → Acc (fun x y => x ∈ fd y) x

def Circle (fd : Nat → List Nat) (n : Nat) : Prop := ∃ k a, k ≤ n ∧ a < n ∧ Way fd k a a

/-- What comes of a walk. -/
structure Out (fd : Nat → List Nat) (n : Nat) (stk : List Nat) (l : List Nat) (r : Bool) (st' : List Nat) : Prop where
  len : st'.length = n
  yes : r = true → Circle fd n
  no : r = false → Inv fd n st' stk ∧ ∀ x ∈ l, Acc (fun x y => x ∈ fd y) x

theorem go_out {fd : Nat → List Nat} {n : Nat} {stk : List Nat} (v : List Nat → Nat → Option (Bool × List Nat)) :
    ∀ (l : List Nat) (st : List Nat), Inv fd n st stk → (∀ st x, Inv fd n st stk → x ∈ l → ∃ r st', v st x = some (r, st') ∧ Out fd n stk [x] r st') →
      ∃ r st', visit.go v l st = some (r, st') ∧ Out fd n stk l r st'
  | [], st, hi, _ => ⟨false, st, rfl, hi.len, by simp, fun _ => ⟨hi, by simp⟩⟩
  | x :: xs, st, hi, hv => by
    obtain ⟨r, st', he, ho⟩ := hv st x hi (by simp)
    cases r with
    | true => exact ⟨true, st', by simp [visit.go, he], ho.len, fun _ => ho.yes rfl, by simp⟩
    | false =>
      obtain ⟨hi', ha⟩ := ho.no rfl
      obtain ⟨r2, st2, he2, ho2⟩ := go_out v xs st' hi' (fun st y h hy => hv st y h (by simp [hy]))
      refine ⟨r2, st2, by simp [visit.go, he, he2], ho2.len, ho2.yes, fun h => ⟨(ho2.no h).1, fun y hy => ?_⟩⟩
      rcases List.mem_cons.1 hy with rfl | hy
      · exact ha y (by simp)
      · exact (ho2.no h).2 y hy

theorem visit_out {fd : Nat → List Nat} {n : Nat} (hfit : ∀ c, c < n → ∀ x ∈ fd c, x < n) :
    ∀ (fuel : Nat) (stk st : List Nat) (c : Nat), Inv fd n st stk → Links fd c stk → c < n → n + 1 ≤ fuel + stk.length →
      ∃ r st', visit fd fuel st c = some (r, st') ∧ Out fd n stk [c] r st'
  | 0, stk, st, c, hi, _, _, hf => by
    have := nodup_le n stk hi.nodup hi.lt
    omega
  | fuel + 1, stk, st, c, hi, hl, hc, hf => by
    by_cases h1 : st[c]? = some 1
    · refine ⟨true, st, by simp [visit, h1], hi.len, fun _ => ?_, by simp⟩
      obtain ⟨k, hk, hw⟩ := way_of_links stk c c hl ((hi.one c).1 h1)
      exact ⟨k, c, Nat.le_trans hk (nodup_le n stk hi.nodup hi.lt), hc, hw⟩
    · by_cases h2 : st[c]? = some 2
      · exact ⟨false, st, by simp [visit, h2], hi.len, by simp, fun _ => ⟨hi, by simpa using hi.two c h2⟩⟩
      · have hns : c ∉ stk := fun h => h1 ((hi.one c).2 h)
        have hcl : c < st.length := by rw [hi.len]; exact hc
        have hi1 : Inv fd n (st.set c 1) (c :: stk) := by
          refine ⟨by simpa using hi.len, List.nodup_cons.2 ⟨hns, hi.nodup⟩, ?_, fun x => ?_, fun x => ?_⟩
          · intro x hx
            rcases List.mem_cons.1 hx with rfl | hx
            · exact hc
            · exact hi.lt x hx
          · by_cases hx : c = x
            · subst hx; simp [hcl]
            · rw [List.getElem?_set_ne hx, hi.one]; simp [Ne.symm hx]
          · by_cases hx : c = x
            · subst hx; simp [hcl]
            · rw [List.getElem?_set_ne hx]; exact hi.two x
        obtain ⟨r, st', he, ho⟩ := go_out (visit fd fuel) (fd c) (st.set c 1) hi1 (fun st2 x hi2 hx =>
          visit_out hfit fuel (c :: stk) st2 x hi2 ⟨hx, hl⟩ (hfit c hc x hx) (by simp; omega))
        refine ⟨r, st'.set c 2, by simp [visit, h1, h2, he], by simpa using ho.len, ho.yes, fun h => ?_⟩
        obtain ⟨hi2, ha⟩ := ho.no h
        have hac : Acc (fun x y => x ∈ fd y) c := Acc.intro c ha
        have hcl' : c < st'.length := by rw [ho.len]; exact hc
        refine ⟨⟨by simpa using ho.len, hi.nodup, hi.lt, fun x => ?_, fun x => ?_⟩, by simpa using hac⟩
        · by_cases hx : c = x
          · subst hx; simp [hcl', hns]
          · rw [List.getElem?_set_ne hx, hi2.one]; simp [Ne.symm hx]
        · by_cases hx : c = x
          · subst hx; intro _; exact hac
          · rw [List.getElem?_set_ne hx]; exact hi2.two x

/-- From each of all coders: a circle is found just if there is one. -/
theorem visitAll_out {fd : Nat → List Nat} {n : Nat} (hfit : ∀ c, c < n → ∀ x ∈ fd c, x < n) :
    ∃ r st', visitAll fd (n + 1) (List.range n) (List.replicate n 0) = some (r, st') ∧ (r = true ↔ Circle fd n) := by
  have hi : Inv fd n (List.replicate n 0) [] := by
    refine ⟨by simp, by simp, by simp, fun x => ?_, fun x => ?_⟩
    · rw [List.getElem?_replicate]; split <;> simp
    · rw [List.getElem?_replicate]; split <;> simp
  obtain ⟨r, st', he, ho⟩ := go_out (visit fd (n + 1)) (List.range n) _ hi (fun st x h hx =>
    visit_out hfit (n + 1) [] st x h trivial (by simpa using hx) (by simp))
  refine ⟨r, st', he, ho.yes, fun ⟨k, a, _, ha, hw⟩ => ?_⟩
  cases r with
  | true => rfl
  | false => exact absurd hw (acc_no_way ((ho.no rfl).2 a (by simpa using ha)) k)
end Go.Proofs.YtfnblemlcjdnhaaGreat
