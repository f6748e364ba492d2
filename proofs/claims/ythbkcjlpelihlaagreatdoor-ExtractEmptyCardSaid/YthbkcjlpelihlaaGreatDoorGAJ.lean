/- The sorted keys of the map of things: contracts. No condition but that lengths fit. -/
import Derived.Test.YthbkcjlpelihlaaGreatDoorYKeysM
import Derived.Test.YthbkcjlpelihlaaGreatDoorGAI
namespace Go.Proofs.YthbkcjlpelihlaaGreatDoor
open Go.RowKit Go.Maps Go.Sort

/-- A list of all that is there, rising. -/
structure KeysAre {α : Type} (K : List UInt8 → Option α) (ks : List (List UInt8)) : Prop where
  nd : ks.Nodup
  mem : ∀ p, p ∈ ks ↔ (K p).isSome = true
  so : ks.Pairwise fun x y => x ≤ y
theorem keys_mem {w : World} {b n : Nat} {D : DataW Value} (hown : w.ownsMap Tryz.prog 9 rawR b n D) : (strKeys D).Nodup ∧ ∀ x, x ∈ strKeys D ↔ has D (.string x) = true := by
  obtain ⟨es, hD, hpw, _⟩ := hown.entries law_str
  obtain ⟨es', hD', hko⟩ := hown.keysOf
  obtain rfl : es = es' := by rw [hD] at hD'; simpa using hD'
  subst hD
  have hk : ∀ p ∈ es, ∃ x, p.1 = .string x := fun p hp => by obtain ⟨v, hv⟩ := hko p hp; obtain ⟨x, _, hx, _⟩ := Maps.keyOf_str Tryz.underlying9 hv; exact ⟨x, hx⟩
  refine ⟨?_, fun x => ?_⟩
  · show (es.map fun p => strOf p.1).Nodup
    refine List.pairwise_map.2 (hpw.imp_of_mem fun {p q} hp' hq' hne e => hne ?_)
    obtain ⟨a, ha⟩ := hk p hp'
    obtain ⟨b, hb⟩ := hk q hq'
    rw [ha, hb] at e ⊢
    exact congrArg _ e
  · rw [has_eq, List.any_eq_true]
    show x ∈ (es.map fun p => strOf p.1) ↔ _
    rw [List.mem_map]
    constructor
    · rintro ⟨p, hp', rfl⟩
      obtain ⟨a, ha⟩ := hk p hp'
      exact ⟨p, hp', by rw [ha]; simp [Lit.sameKey, strOf]⟩
    · rintro ⟨p, hp', hs⟩
      obtain ⟨a, ha⟩ := hk p hp'
      rw [ha] at hs
      exact ⟨p, hp', by rw [ha]; simpa [Lit.sameKey, strOf] using hs⟩
theorem keys_are {w : World} {b n : Nat} {D : DataW Value} {K : List UInt8 → Option Value} (hown : w.ownsMap Tryz.prog 9 rawR b n D) (hK : Says D K) {ss : List (List UInt8)} (h : ss.Perm (strKeys D)) :
    KeysAre K (ss.mergeSort fun x y => decide (x ≤ y)) := by
  obtain ⟨h1, h2⟩ := keys_mem hown
  have hp := (List.mergeSort_perm ss fun x y => decide (x ≤ y)).trans h
  have tr : ∀ a b c : List UInt8, leB a b = true → leB b c = true → leB a c = true := fun a b c h1 h2 => by simp only [leB, decide_eq_true_eq] at *; exact List.le_trans h1 h2
  have to2 : ∀ a b : List UInt8, (leB a b || leB b a) = true := fun a b => by simp only [leB, Bool.or_eq_true, decide_eq_true_eq]; exact List.le_total a b
  refine ⟨hp.nodup_iff.2 h1, fun p => ?_, (List.pairwise_mergeSort tr to2 ss).imp fun h => of_decide_eq_true h⟩
  rw [hp.mem_iff, h2, (hK p).1]
theorem keys_any (w : World) (b : Nat) : Calls Tryz.prog 32 #[.map (some b)] w fun e w' =>
    e = .returned (.func (.func 55) #[] #[.pointer (some ⟨w.heap.size, 0, none⟩)]) ∧ w' = w.alloc (.cells #[.map (some b)] 78) :=
  callsIn_wide.1 (gz_keys_in Fence.wide 1 trivial rfl (some b) w)
theorem sorted_any (w : World) (Bm b n : Nat) (K : List UInt8 → Option Value) (hBm : Bm < w.heap.size) (hm : w.cell? ⟨Bm, 0, none⟩ = some (.map (some b))) (h : MTh w b n K) (hn : n ≤ 1000000) :
    Calls Tryz.prog 31 #[.func (.func 55) #[] #[.pointer (some ⟨Bm, 0, none⟩)]] w fun e w' =>
      ∃ v ks, e = .returned v ∧ w'.ownsRow w.heap.size 9 1 v ks.length (stv ks) ∧ KeysAre K ks ∧ ks.length ≤ n ∧ Fr [] w w' := by
  obtain ⟨D, hown, hK⟩ := h
  have hsz := hown.size_le
  have hseq := gz_keys_gives Fence.wide 10 trivial rfl (by omega) Bm b n D w hBm hm hown
  have hc := callsIn_wide.1 (gz_sorted_in Fence.wide 13 trivial trivial trivial trivial rfl (by omega) (gz_sorts_wide _) 55 _ trivial (enters_of Tryz.func55 (by kernel_rfl) rfl) _ _ (by unfold maxLen; omega) (by omega) w hseq)
  refine hc.mono ?_
  rintro e w' ⟨v, ss, rfl, hS, hrow, -, hb⟩
  have hks := keys_are hown hK hS
  have hl : (ss.mergeSort fun x y => decide (x ≤ y)).length = ss.length := (List.mergeSort_perm ss _).length_eq
  have hls : ss.length ≤ n := by
    obtain ⟨es, rfl, -, -⟩ := hown.entries law_str
    have h1 := hS.length_eq
    have h2 : (strKeys (DataW.map es)).length = es.length := List.length_map _
    have h3 : Maps.size (DataW.map es) = es.length := rfl
    omega
  refine ⟨v, _, rfl, ?_, hks, by omega, Fr.of_below hb⟩
  rw [hl]
  exact hrow
end Go.Proofs.YthbkcjlpelihlaaGreatDoor
/- A sandbox in memory. No condition. -/
namespace Go.Proofs.YthbkcjlpelihlaaGreatDoor
open Go.RowKit Go.Maps

/-- What the call owns, kept where blocks of other types change. -/
theorem own_frT {w w' : World} {base e sz : Nat} {v : Value} {n : Nat} {xs : List Value} {S : List Nat} (h : w.ownsRow base e sz v n xs) (F : Fr S w w') (hS : ∀ i ∈ S, i < base ∨ ∀ cs z, w.heap[i]? ≠ some (.cells cs e z)) : w'.ownsRow base e sz v n xs := by
  refine own_frS h F fun k hk hm => ?_
  rcases hS k hm with h1 | h1
  · have := (own_ltS h k hk).1; omega
  · rcases h.2 with ⟨rfl, -⟩ | ⟨g, cap, cur, rfl, hb, hg, -⟩
    · simp [Value.ownBlock] at hk
    · simp [Value.ownBlock] at hk
      subst hk
      exact h1 _ _ hg
/-- A row's block bears its type. -/
theorem own_type {w : World} {base e sz : Nat} {v : Value} {n : Nat} {xs : List Value} (h : w.ownsRow base e sz v n xs) (k : Nat) (hk : v.ownBlock = some k) (e' : Nat) (he : e' ≠ e) : ∀ cs z, w.heap[k]? ≠ some (.cells cs e' z) := by
  rcases h.2 with ⟨rfl, -⟩ | ⟨g, cap, cur, rfl, hb, hg, -⟩
  · simp [Value.ownBlock] at hk
  · simp [Value.ownBlock] at hk
    subst hk
    intro cs z hc
    rw [hg] at hc
    injection hc with hc
    injection hc with _ h2 _
    exact he h2.symm

/-- What lies at a path, in memory: a file's bytes are the sandbox's own. -/
def ThV (w : World) (lo : Nat) (v : Value) (t : Tv) : Prop := ∃ dv, v = .agg #[.int .i64 t.kind, dv, .string ⟨t.ln.toArray⟩] ∧ w.ownsRow lo 5 1 dv t.data.length (bv t.data)
/-- The map's elements read as the tree. -/
structure Reads (w : World) (lo : Nat) (KV : List UInt8 → Option Value) (K : Tree) : Prop where
  no : ∀ q, KV q = none ↔ K q = none
  at_ : ∀ q v t, KV q = some v → K q = some t → ThV w lo v t
theorem Reads.get {w : World} {lo : Nat} {KV : List UInt8 → Option Value} {K : Tree} (h : Reads w lo KV K) {q : List UInt8} {t : Tv} (e : K q = some t) : ∃ v, KV q = some v ∧ ThV w lo v t := by
  cases hv : KV q with
  | none => rw [(h.no q).1 hv] at e; cases e
  | some v => exact ⟨v, rfl, h.at_ q v t hv e⟩
theorem Reads.is {w : World} {lo : Nat} {KV : List UInt8 → Option Value} {K : Tree} (h : Reads w lo KV K) (q : List UInt8) : (KV q).isSome = (K q).isSome := by
  cases hv : KV q with
  | none => rw [(h.no q).1 hv]; rfl
  | some v =>
    cases hk : K q with
    | none => rw [(h.no q).2 hk] at hv; cases hv
    | some t => rfl
/-- Blocks of another type than bytes may change. -/
def NoBytes (w : World) (lo : Nat) (S : List Nat) : Prop := ∀ i ∈ S, i < lo ∨ ∀ cs z, w.heap[i]? ≠ some (.cells cs 5 z)
theorem ThV.fr {w w' : World} {lo : Nat} {v : Value} {t : Tv} {S : List Nat} (h : ThV w lo v t) (F : Fr S w w') (hS : NoBytes w lo S) : ThV w' lo v t := by
  obtain ⟨dv, e, h1⟩ := h
  exact ⟨dv, e, own_frT h1 F hS⟩
theorem Reads.fr {w w' : World} {lo : Nat} {KV : List UInt8 → Option Value} {K : Tree} {S : List Nat} (h : Reads w lo KV K) (F : Fr S w w') (hS : NoBytes w lo S) : Reads w' lo KV K :=
  ⟨h.no, fun q v t h1 h2 => (h.at_ q v t h1 h2).fr F hS⟩
theorem Reads.put {w : World} {lo : Nat} {KV : List UInt8 → Option Value} {K : Tree} (h : Reads w lo KV K) (p : List UInt8) {v : Value} {t : Tv} (hv : ThV w lo v t) : Reads w lo (fun q => if q = p then some v else KV q) (updK K p t) := by
  refine ⟨fun q => ?_, fun q v' t' => ?_⟩
  · unfold updK
    split
    · simp
    · exact h.no q
  · unfold updK
    split
    · intro h1 h2
      simp at h1 h2
      subst h1 h2
      exact hv
    · exact h.at_ q v' t'
theorem Reads.del {w : World} {lo : Nat} {KV : List UInt8 → Option Value} {K : Tree} (h : Reads w lo KV K) (p : List UInt8) : Reads w lo (fun q => if q = p then none else KV q) (delK K p) := by
  refine ⟨fun q => ?_, fun q v' t' => ?_⟩
  · unfold delK
    split
    · simp
    · exact h.no q
  · unfold delK
    split
    · intro h1; cases h1
    · exact h.at_ q v' t'
/-- Which calls fail; what is said of each call's path and target. -/
structure Fl where
  l : List Bool
  R : Nat → List UInt8 → ByteArray → Prop
/-- The call may be made: it does not fail, and is what is said of it. -/
def Fl.ok (f : Fl) (i : Nat) (q : List UInt8) (t : ByteArray) : Prop := f.l.getD i false = false ∧ f.R i q t
/-- The row of calls is what is said of them. -/
def CallsR (R : Nat → List UInt8 → ByteArray → Prop) (nc : Nat) (xs : List Value) : Prop := ∀ i, i < nc → ∃ q to_, xs[i * 4 + 1]? = some (.string ⟨q.toArray⟩) ∧ xs[i * 4 + 2]? = some (.string to_) ∧ R i q to_
theorem CallsR.nil {R : Nat → List UInt8 → ByteArray → Prop} : CallsR R 0 [] := fun i hi => absurd hi (by omega)
theorem CallsR.put {R : Nat → List UInt8 → ByteArray → Prop} {nc : Nat} {xs : List Value} (h : CallsR R nc xs) (hl : xs.length = nc * 4) {q : List UInt8} {to_ : ByteArray} (hR : R nc q to_) (kd c : Value) : CallsR R (nc + 1) (xs ++ [kd, .string ⟨q.toArray⟩, .string to_, c]) := fun i hi => by
  by_cases h0 : i < nc
  · obtain ⟨q', t', h1, h2, h3⟩ := h i h0
    exact ⟨q', t', by rw [List.getElem?_append_left (by omega)]; exact h1, by rw [List.getElem?_append_left (by omega)]; exact h2, h3⟩
  · obtain rfl : i = nc := by omega
    exact ⟨q, to_, by rw [List.getElem?_append_right (by omega), show i * 4 + 1 - xs.length = 1 by omega]; rfl, by rw [List.getElem?_append_right (by omega), show i * 4 + 2 - xs.length = 2 by omega]; rfl, hR⟩
/-- A sandbox: block p holds the map's block b, the failures, the calls. -/
structure SandIn (w : World) (lo p b : Nat) (fv cv : Value) (n nc : Nat) (fl : Fl) (KV : List UInt8 → Option Value) (K : Tree) : Prop where
  blk : w.heap[p]? = some (.cells #[.map (some b), fv, cv] 82 (0, 0))
  mp : MTh w b n KV
  rd : Reads w lo KV K
  fa : w.ownsRow lo 4 1 fv fl.l.length (tv fl.l)
  cr : ∃ xs, w.ownsRow lo 53 4 cv nc xs ∧ CallsR fl.R nc xs
  lp : lo ≤ p
  lb : lo ≤ b
theorem SandIn.ca {w : World} {lo p b : Nat} {fv cv : Value} {n nc : Nat} {fl : Fl} {KV : List UInt8 → Option Value} {K : Tree} (h : SandIn w lo p b fv cv n nc fl KV K) : ∃ xs, w.ownsRow lo 53 4 cv nc xs := by
  obtain ⟨xs, h, -⟩ := h.cr
  exact ⟨xs, h⟩
theorem SandIn.ltp {w : World} {lo p b : Nat} {fv cv : Value} {n nc : Nat} {fl : Fl} {KV : List UInt8 → Option Value} {K : Tree} (h : SandIn w lo p b fv cv n nc fl KV K) : p < w.heap.size := (Array.getElem?_eq_some_iff.1 h.blk).1
/-- New memory, and what lies below, leaves a sandbox as it is. -/
theorem SandIn.fr {w w' : World} {lo p b : Nat} {fv cv : Value} {n nc : Nat} {fl : Fl} {KV : List UInt8 → Option Value} {K : Tree} {S : List Nat} (h : SandIn w lo p b fv cv n nc fl KV K) (F : Fr S w w') (hS : ∀ i ∈ S, i < lo) : SandIn w' lo p b fv cv n nc fl KV K := by
  have hp : p ∉ S := fun hm => by have := hS p hm; have := h.lp; omega
  have hb : b ∉ S := fun hm => by have := hS b hm; have := h.lb; omega
  obtain ⟨xs, hc, hcr⟩ := h.cr
  exact ⟨(F.block p h.ltp hp).trans h.blk, h.mp.fr F hb, h.rd.fr F (fun i hi => .inl (hS i hi)), own_frB h.fa F hS, ⟨xs, own_frB hc F hS, hcr⟩, h.lp, h.lb⟩
theorem SandIn.fr0 {w w' : World} {lo p b : Nat} {fv cv : Value} {n nc : Nat} {fl : Fl} {KV : List UInt8 → Option Value} {K : Tree} (h : SandIn w lo p b fv cv n nc fl KV K) (F : Fr [] w w') : SandIn w' lo p b fv cv n nc fl KV K := h.fr F (by simp)
/-- The sandbox's three cells. -/
theorem SandIn.cells {w : World} {lo p b : Nat} {fv cv : Value} {n nc : Nat} {fl : Fl} {KV : List UInt8 → Option Value} {K : Tree} (h : SandIn w lo p b fv cv n nc fl KV K) :
    w.cell? ⟨p, 0, none⟩ = some (.map (some b)) ∧ w.cell? ⟨p, 1, none⟩ = some fv ∧ w.cell? ⟨p, 2, none⟩ = some cv := by
  have key : ∀ i : Nat, w.cell? ⟨p, i, none⟩ = (#[.map (some b), fv, cv] : Array Value)[i]? := Go.Joins.cell_of_block h.blk
  exact ⟨by rw [key]; rfl, by rw [key]; rfl, by rw [key]; rfl⟩
theorem SandIn.ne {w : World} {lo p b : Nat} {fv cv : Value} {n nc : Nat} {fl : Fl} {KV : List UInt8 → Option Value} {K : Tree} (h : SandIn w lo p b fv cv n nc fl KV K) : p ≠ b := by
  rintro rfl
  obtain ⟨D, ⟨es, clock, h1, -⟩, -⟩ := h.mp
  have := h.blk
  rw [h1] at this
  cases this
end Go.Proofs.YthbkcjlpelihlaaGreatDoor
/- Contracts: the reference's Fold, Split. No condition but that lengths fit. -/
namespace Go.Proofs.YthbkcjlpelihlaaGreatDoor
open Go.RowKit

theorem low_up (b : UInt8) (h : 65 ≤ b.toNat ∧ b.toNat ≤ 90) : ((lowB b).toNat : Int) = (b.toNat : Int) + 32 := by
  have := b.toNat_lt
  simp [lowB, h]
  omega

theorem rfold_any (w : World) (l : List UInt8) (hl : l.length ≤ 100000) : Calls Tryz.prog 21 #[.string ⟨l.toArray⟩] w fun e w' => e = .returned (.string ⟨(foldL l).toArray⟩) ∧ Fr [] w w' := by
  obtain ⟨cap, wB, hcv, F0, sB, hcell⟩ := conv_sb w ⟨l.toArray⟩
  have hsz : (⟨l.toArray⟩ : ByteArray).size = l.length := by simp [ByteArray.size]
  rw [hsz] at hcv
  have HC := Lib.hid (show ∀ (j : Nat) b, l[j]? = some b → wB.cell? ⟨w.heap.size, j, none⟩ = some (.int .u8 b.toNat) ∧ wB.frozen? ⟨w.heap.size, j, none⟩ = false from fun j b hb => hcell j b (by simpa [ls] using hb))
  clear hcell hsz
  generalize hn : l.length = n at *
  have HN := Lib.hid hn
  clear hn
  go_enter Tryz.func21, Tryz.ntmps21
  go_wp2_with fail
  clear hcv
  go_loopw [4] (fun i wr => ∃ k : Nat, k ≤ n ∧ i = .int .i64 k ∧ Fr [w.heap.size] wB wr ∧ (∀ (j : Nat) b, l[j]? = some b → wr.cell? ⟨w.heap.size, j, none⟩ = some (.int .u8 (if j < k then lowB b else b).toNat) ∧ wr.frozen? ⟨w.heap.size, j, none⟩ = false)) (fun i _ => n - (intOf i).toNat)
  case atStart => exact ⟨0, Nat.zero_le _, rfl, Fr.refl _ _, fun j b hb => by simpa using HC.out j b hb⟩
  case round =>
    obtain ⟨k, hk, rfl, F, hcl⟩ := hrel
    by_cases hlt : k < n
    · obtain ⟨x, hx⟩ := some_get l k (by rw [HN.out]; exact hlt)
      obtain ⟨c0, f0⟩ := hcl k x hx
      rw [if_neg (by omega)] at c0
      have hlt' : (k : Int) < (n : Int) := by omega
      have HCL := Lib.hid hcl
      have HX := Lib.hid hx
      have hxl := x.toNat_lt
      clear hcl hx
      by_cases hup : 65 ≤ x.toNat ∧ x.toNat ≤ 90
      · have u1 : (65 : Int) ≤ (x.toNat : Int) := by omega
        have u2 : (x.toNat : Int) ≤ 90 := by omega
        have HL := Lib.hid (low_up x hup)
        clear hup
        go_wp2_with fail
        go_roundw
        case rel =>
          refine ⟨k + 1, by omega, by go_num, F.setCell (.inl (by simp)) _, fun j b hb => ?_⟩
          by_cases hjk : j = k
          · subst hjk
            obtain rfl : x = b := Option.some.inj (HX.out.symm.trans hb)
            rw [if_pos (by omega), HL.out]
            exact ⟨World.cell?_setCell_same _ _ _ c0, by rw [World.frozen?_setCell]; exact f0⟩
          · obtain ⟨c1, f1⟩ := HCL.out j b hb
            refine ⟨?_, by rw [World.frozen?_setCell]; exact f1⟩
            rw [World.cell?_setCell_other _ _ _ _ (by intro e; injection e with _ e2 _; omega), c1]
            by_cases h2 : j < k
            · rw [if_pos h2, if_pos (by omega)]
            · rw [if_neg h2, if_neg (by omega)]
        case measure => simp [intOf]; omega
      · have HL := Lib.hid (show lowB x = x by simp only [lowB, if_neg hup])
        have HR := Lib.hid (show ∀ (j : Nat) b, l[j]? = some b → wr.cell? ⟨w.heap.size, j, none⟩ = some (.int .u8 (if j < k + 1 then lowB b else b).toNat) ∧ wr.frozen? ⟨w.heap.size, j, none⟩ = false from fun j b hb => by
          obtain ⟨c1, f1⟩ := HCL.out j b hb
          refine ⟨?_, f1⟩
          by_cases hjk : j = k
          · subst hjk
            obtain rfl : x = b := Option.some.inj (HX.out.symm.trans hb)
            rw [if_pos (by omega), HL.out, c0]
          · rw [c1]
            by_cases h2 : j < k
            · rw [if_pos h2, if_pos (by omega)]
            · rw [if_neg h2, if_neg (by omega)])
        rcases (show x.toNat < 65 ∨ (65 ≤ x.toNat ∧ 90 < x.toNat) by omega) with h1 | ⟨h1, h2⟩
        · have u1 : (x.toNat : Int) < 65 := by omega
          clear hup h1
          go_wp2_with fail
          go_roundw
          case rel => exact ⟨k + 1, by omega, by go_num, F, HR.out⟩
          case measure => simp [intOf]; omega
        · have u1 : (65 : Int) ≤ (x.toNat : Int) := by omega
          have u2 : (90 : Int) < (x.toNat : Int) := by omega
          clear hup h1 h2
          go_wp2_with fail
          go_roundw
          case rel => exact ⟨k + 1, by omega, by go_num, F, HR.out⟩
          case measure => simp [intOf]; omega
    · have hke : k = n := by omega
      subst hke
      have hcv := conv_bs wr w.heap.size cap (foldL l) k (by simp [foldL, HN.out]) (fun j y hy => by
        unfold foldL at hy
        rw [List.getElem?_map] at hy
        obtain ⟨b, hb, rfl⟩ := Option.map_eq_some_iff.1 hy
        have hjl : j < l.length := (List.getElem?_eq_some_iff.1 hb).1
        rw [HN.out] at hjl
        have := (hcl j b hb).1
        rwa [if_pos hjl] at this)
      clear hcl
      go_wp2_with fail
      go_ret
      exact ⟨rfl, F0.trans1 F (.inr (Nat.le_refl _))⟩
end Go.Proofs.YthbkcjlpelihlaaGreatDoor
/- Contract: the reference's Split. No condition but that lengths fit. -/
namespace Go.Proofs.YthbkcjlpelihlaaGreatDoor
open Go.RowKit

theorem info_string : (Tryz.prog.info? 9).map (fun i => (i.zero, i.size, i.bytes)) = some (some (.string ⟨#[]⟩), 1, 16) := by kernel_rfl
theorem sty_string : SlTy Tryz.prog 57 9 (.string ⟨#[]⟩) 16 := ⟨Tryz.underlying57, by obtain ⟨i, h⟩ := info_parts info_string; exact ⟨i, h⟩, rfl⟩

theorem extract_ba (l : List UInt8) (a b : Nat) : (⟨l.toArray⟩ : ByteArray).extract a b = ⟨((l.drop a).take (b - a)).toArray⟩ := by
  have h := Lib.extract_toList ⟨l.toArray⟩ a b
  rw [Lib.toList_data] at h
  rw [← Lib.mk_data ((⟨l.toArray⟩ : ByteArray).extract a b), h]

theorem stv_snoc (ps : List (List UInt8)) (p : List UInt8) : stv (ps ++ [p]) = stv ps ++ [.string ⟨p.toArray⟩] := by simp [stv]

/-- How far the reference's Split has come. -/
def SplitAt (l : List UInt8) (k f : Nat) (out : List (List UInt8)) : Prop :=
  out.length ≤ k ∧ ((k ≤ l.length ∧ f ≤ k ∧ splitL l = out ++ splitL (l.drop f) ∧ ∀ j, f ≤ j → j < k → l[j]? ≠ some 47) ∨ (k = l.length + 1 ∧ splitL l = out))

set_option maxHeartbeats 1000000 in
theorem rsplit_any (w : World) (l : List UInt8) (hl : l.length ≤ 100000) : Calls Tryz.prog 22 #[.string ⟨l.toArray⟩] w fun e w' => (∃ v, e = .returned v ∧ w'.ownsRow w.heap.size 9 1 v (splitL l).length (stv (splitL l))) ∧ Fr [] w w' := by
  go_enter Tryz.func22, Tryz.ntmps22
  go_wp2_with fail
  obtain ⟨n, hn⟩ : ∃ n, l.length = n := ⟨_, rfl⟩
  have HN := Lib.hid hn
  rw [hn] at hl
  clear hn
  go_loopw [3, 4, 5] (fun v fr i wr => ∃ (k f : Nat) (out : List (List UInt8)), k ≤ n + 1 ∧ i = .int .i64 k ∧ fr = .int .i64 f ∧ SplitAt l k f out ∧ wr.ownsRow w.heap.size 9 1 v out.length (stv out) ∧ Fr [] w wr) (fun _ _ i _ => n + 1 - (intOf i).toNat)
  case atStart => exact ⟨0, 0, [], Nat.zero_le _, rfl, rfl, ⟨by simp, .inl ⟨Nat.zero_le _, Nat.le_refl _, by simp, by omega⟩⟩, World.ownsRow_nil _ _ _ _, Fr.refl _ _⟩
  case round =>
    obtain ⟨k, f, out, hk, rfl, rfl, hS, own, F⟩ := hrel
    obtain ⟨vao, vcap, rfl, -⟩ := own_out own
    have hlen : (l.length : Int) = n := by rw [HN.out]
    by_cases hlt : k ≤ n
    · obtain ⟨ho, ⟨h1, h2, h3, h4⟩ | ⟨h1, -⟩⟩ := hS
      rotate_left
      · rw [HN.out] at h1; omega
      have k1 : (k : Int) ≤ (n : Int) := by omega
      have k2 : (f : Int) ≤ (k : Int) := by omega
      have HX := Lib.hid (extract_ba l f k)
      have HH := Lib.hid (And.intro h3 h4)
      clear h3 h4 h1
      by_cases hke : k = n
      · have t0 : ((k : Int) == (n : Int)) = true := by rw [hke]; simp
        have HE := Lib.hid hke
        have HS2 := Lib.hid (show SplitAt l (k + 1) (k + 1) (out ++ [(l.drop f).take (k - f)]) from ⟨by simp; omega, .inr ⟨by rw [HN.out, hke], by
          rw [HH.out.1, List.take_of_length_le (by simp; rw [HN.out]; omega), splitL_none (l.drop f) (fun x hx e => by
            subst e
            obtain ⟨j, hj⟩ := List.getElem?_of_mem hx
            rw [List.getElem?_drop] at hj
            have : f + j < l.length := (List.getElem?_eq_some_iff.1 hj).1
            rw [HN.out] at this
            exact HH.out.2 (f + j) (by omega) (by omega) hj)]⟩⟩)
        clear hke
        go_wp2_with (at_builtin; refine wpList_append_sl sty_string rfl _ _ (by rfl) w.heap.size _ _ _ (by rfl) (own.alloc _) _ [.string ((⟨l.toArray⟩ : ByteArray).extract f k)] (by rfl) (sl_one _ _ _) (by intro u hu; simp at hu; subst hu; rfl) (by simp; omega) (by simp; omega) (by have := F.size; simp; omega) ?_)
        intro v2 w2 own2 g2
        have F2 : Fr [] w w2 := (F.alloc _).grown g2 (fun j hj => .inr (own.lt j hj).1)
        obtain ⟨vao2, vcap2, rfl, -⟩ := own_out own2
        go_wp2_with fail
        go_roundw
        case rel => exact ⟨k + 1, k + 1, out ++ [(l.drop f).take (k - f)], by omega, by go_num, by go_num, HS2.out, by rw [stv_snoc, List.length_append, ← HX.out]; exact own2, F2⟩
        case measure => simp [intOf]; omega
      · have t0 : ((k : Int) == (n : Int)) = false := by rw [beq_eq_false_iff_ne]; omega
        have k3 : (k : Int) < (n : Int) := by omega
        obtain ⟨x, hx⟩ := some_get l k (by rw [HN.out]; omega)
        have hg := get_ba hx
        have HK := Lib.hid hx
        have HKN := Lib.hid hke
        clear hx hke
        by_cases hs : x = 47
        · subst hs
          have HS2 := Lib.hid (show SplitAt l (k + 1) (k + 1) (out ++ [(l.drop f).take (k - f)]) from ⟨by simp; omega, .inl ⟨by rw [HN.out]; omega, by omega, by
            rw [HH.out.1, splitL_some (l.drop f) (k - f) (by rw [List.getElem?_drop, show f + (k - f) = k from by omega]; exact HK.out) (fun j hj => by
              rw [List.getElem?_drop]
              exact HH.out.2 (f + j) (by omega) (by omega)), List.drop_drop, show f + (k - f + 1) = k + 1 from by omega]
            simp, fun j h1 h2 => by omega⟩⟩)
          go_wp2_with (at_builtin; refine wpList_append_sl sty_string rfl _ _ (by rfl) w.heap.size _ _ _ (by rfl) (own.alloc _) _ [.string ((⟨l.toArray⟩ : ByteArray).extract f k)] (by rfl) (sl_one _ _ _) (by intro u hu; simp at hu; subst hu; rfl) (by simp; omega) (by simp; omega) (by have := F.size; simp; omega) ?_)
          intro v2 w2 own2 g2
          have F2 : Fr [] w w2 := (F.alloc _).grown g2 (fun j hj => .inr (own.lt j hj).1)
          obtain ⟨vao2, vcap2, rfl, -⟩ := own_out own2
          go_wp2_with fail
          go_roundw
          case rel => exact ⟨k + 1, k + 1, out ++ [(l.drop f).take (k - f)], by omega, by go_num, by go_num, HS2.out, by rw [stv_snoc, List.length_append, ← HX.out]; exact own2, F2⟩
          case measure => simp [intOf]; omega
        · have hs2 : ((x.toNat : Int) == 47) = false := by rw [beq_eq_false_iff_ne]; intro h; exact hs (UInt8.toNat_inj.1 (show x.toNat = 47 by omega))
          have HS2 := Lib.hid (show SplitAt l (k + 1) f out from ⟨by omega, .inl ⟨by rw [HN.out]; omega, by omega, HH.out.1, fun j h1 h2 => by
            by_cases hjk : j = k
            · subst hjk
              rw [HK.out]
              simpa using hs
            · exact HH.out.2 j h1 (by omega)⟩⟩)
          clear hs
          go_wp2_with fail
          go_roundw
          case rel => exact ⟨k + 1, f, out, by omega, by go_num, rfl, HS2.out, own, F⟩
          case measure => simp [intOf]; omega
    · have hke : k = n + 1 := by omega
      subst hke
      obtain ⟨ho, ⟨h1, -⟩ | ⟨-, h2⟩⟩ := hS
      · rw [HN.out] at h1; omega
      have HE := Lib.hid h2
      clear h2 ho
      have k1 : ¬ ((n + 1 : Nat) : Int) ≤ (n : Int) := by omega
      go_wp2_with fail
      go_ret
      exact ⟨⟨_, rfl, by rw [HE.out]; exact own⟩, F⟩
end Go.Proofs.YthbkcjlpelihlaaGreatDoor
/- Contracts: clean, parent, within. No condition but that lengths fit. -/
namespace Go.Proofs.YthbkcjlpelihlaaGreatDoor
open Go.RowKit

theorem clean_tot (w : World) (l : List UInt8) (hG : Gl w) (hl : l.length ≤ 100000) : Calls Tryz.prog 80 #[.string ⟨l.toArray⟩] w fun e w' => (∃ v, e = .returned (.tuple #[v, .int .i64 (if cleanL foldL l then 0 else 15)])) ∧ Fr [] w w' := by
  refine (clean_any w l hG hl).mono ?_
  rintro e w' (⟨ao, h2, rfl, -, F⟩ | ⟨h2, rfl, F⟩)
  · rw [h2]; exact ⟨⟨_, rfl⟩, F⟩
  · rw [h2]; exact ⟨⟨_, rfl⟩, F⟩
theorem sclean_any (w : World) (l : List UInt8) (hG : Gl w) (hl : l.length ≤ 100000) : Calls Tryz.prog 56 #[.string ⟨l.toArray⟩] w fun e w' => e = .returned (.bool (cleanL foldL l)) ∧ Fr [] w w' := by
  have HC := Lib.hid (clean_tot w l hG hl)
  clear hG hl
  cases h : cleanL foldL l
  all_goals
    rw [h] at HC
    clear h
    go_enter Tryz.func56, Tryz.ntmps56
    go_wp2_with (go_at_call 80; refine HC.out.mono ?_; rintro e w1 ⟨⟨v, rfl⟩, F1⟩)
    go_ret
    exact ⟨rfl, F1⟩
theorem last_eq (p : List UInt8) : Lib.lastIndexByte ⟨p.toArray⟩ 47 = match lastS p with | some i => (i : Int) | none => -1 := by
  have hj : ∀ j, j < p.length → (⟨p.toArray⟩ : ByteArray).data[j]! = p.getD j 0 := fun j hj => by simp [hj, List.getD]
  have hz : (⟨p.toArray⟩ : ByteArray).size = p.length := by simp [ByteArray.size]
  unfold Lib.lastIndexByte
  rw [hz]
  have e47 : ∀ c : UInt8, ((c.toNat : Int) = 47) ↔ c = 47 := fun c => by
    constructor
    · intro h
      have : c.toNat = (47 : UInt8).toNat := by show c.toNat = 47; omega
      exact UInt8.toNat_inj.1 this
    · rintro rfl; rfl
  have hg : ∀ j, j < p.length → p[j]? = some (p.getD j 0) := fun j hj => by simp [hj, List.getD]
  rcases Lib.lastIdx_spec ⟨p.toArray⟩ 47 p.length with ⟨h1, h2⟩ | ⟨i, hi, h1, h2, h3⟩
  · rw [h1]
    cases hl : lastS p with
    | none => rfl
    | some i =>
      have q := (lastS_some hl).1
      have hi := (List.getElem?_eq_some_iff.1 q).1
      have := h2 i hi
      rw [hj i hi] at this
      rw [hg i hi] at q
      exact absurd ((e47 _).2 (by simpa using q)) this
  · rw [h1]
    rw [hj i hi, e47] at h2
    cases hl : lastS p with
    | none => exact absurd (List.mem_of_getElem? (by rw [hg i hi, h2])) (lastS_none hl)
    | some k =>
      obtain ⟨q1, q2⟩ := lastS_some hl
      have hk := (List.getElem?_eq_some_iff.1 q1).1
      show (i : Int) = (k : Int)
      rcases Nat.lt_trichotomy i k with h | h | h
      · have := h3 k h hk
        rw [hj k hk] at this
        rw [hg k hk] at q1
        exact absurd ((e47 _).2 (by simpa using q1)) this
      · rw [h]
      · exact absurd (by rw [hg i hi, h2]) (q2 i h)
theorem parent_any (w : World) (p : List UInt8) (hp : p.length ≤ 100000) : Calls Tryz.prog 57 #[.string ⟨p.toArray⟩] w fun e w' => e = .returned (.tuple #[.string ⟨(parentL p).toArray⟩, .bool (deepL p)]) ∧ w' = w := by
  have hz : (⟨p.toArray⟩ : ByteArray).size = p.length := by simp [ByteArray.size]
  have HL := Lib.hid (Tryz.strings_LastIndexByte ⟨p.toArray⟩ 47 (by rw [hz]; omega) w)
  rw [last_eq] at HL
  cases hl : lastS p with
  | none =>
    have e1 : parentL p = [] := by unfold parentL; rw [hl]
    have e2 : deepL p = false := by unfold deepL; rw [hl]; rfl
    rw [hl] at HL
    dsimp only at HL
    rw [e1, e2]
    clear e1 e2 hl hz
    go_enter Tryz.func57, Tryz.ntmps57
    go_wp2_with (go_at_call 81; refine HL.out.mono ?_; rintro e w1 ⟨rfl, rfl⟩)
    go_ret2
    exact ⟨rfl, rfl⟩
  | some i =>
    obtain ⟨-, hi, e1⟩ := parentL_len hl
    have e2 : deepL p = true := by unfold deepL; rw [hl]; rfl
    rw [hl] at HL
    dsimp only at HL
    have HE := Lib.hid (show (⟨p.toArray⟩ : ByteArray).extract 0 i = ⟨(parentL p).toArray⟩ by rw [extract_ba, e1]; simp)
    rw [e2]
    have hiI : ¬ (i : Int) < 0 := by omega
    have hsz : (i : Int) ≤ ((⟨p.toArray⟩ : ByteArray).size : Int) := by rw [hz]; omega
    clear e1 e2 hl
    go_enter Tryz.func57, Tryz.ntmps57
    go_wp2_with (go_at_call 81; refine HL.out.mono ?_; rintro e w1 ⟨rfl, rfl⟩)
    go_ret2
    exact ⟨by rw [← HE.out]; simp, rfl⟩
theorem cat_ba (a b : List UInt8) : (⟨a.toArray⟩ : ByteArray) ++ ⟨b.toArray⟩ = ⟨(a ++ b).toArray⟩ := by
  apply ByteArray.ext
  simp
theorem within_any (w : World) (p top : List UInt8) (h2 : top.length ≤ 100000) : Calls Tryz.prog 161 #[.string ⟨p.toArray⟩, .string ⟨top.toArray⟩] w fun e w' => e = .returned (.bool (withinB p top)) ∧ w' = w := by
  have HH := Lib.hid (Tryz.strings_HasPrefix ⟨p.toArray⟩ ⟨(top ++ [47]).toArray⟩ w)
  have HB := Lib.hid (show Lib.hasPrefix (⟨p.toArray⟩ : ByteArray).data.toList (⟨(top ++ [47]).toArray⟩ : ByteArray).data.toList = withinB p top from rfl)
  have HE := cat_ba top [47]
  have z1 : (⟨top.toArray⟩ : ByteArray).size = top.length := by simp [ByteArray.size]
  have hn : ¬ 9223372036854775807 < (⟨top.toArray⟩ : ByteArray).size + (⟨[(47 : UInt8)].toArray⟩ : ByteArray).size := by rw [z1]; have : (⟨[(47 : UInt8)].toArray⟩ : ByteArray).size = 1 := rfl; omega
  clear h2 z1
  go_enter Tryz.func161, Tryz.ntmps161
  go_wp2_with (go_at_call 208; refine HH.out.mono ?_; rintro e w1 ⟨rfl, rfl⟩)
  go_ret
  exact ⟨by rw [← HB.out]; rfl, rfl⟩
end Go.Proofs.YthbkcjlpelihlaaGreatDoor
