/- Contract: the writer's streams. No condition but that lengths fit. -/
import Derived.Test.YtkodindajfdagaaDoorWSubsM
import Derived.Test.YtkodindajfdagaaDoorGAB
import Derived.Deep.RegionHeld3
import Derived.Test.YtkodindajfdagaaDoorGAM
import Derived.Test.YtkodindajfdagaaDoorGAJ
namespace Go.Proofs.YtkodindajfdagaaDoor
open Go.RowKit

/-- What a description says of its streams. -/
structure StD where
  pl : UInt64
  ps : List UInt64
  cs : List Ck
  L : List Fol
  S : List (List Sub)
/-- It lies in memory. -/
structure StR (w0 : World) (d : DW) (D : StD) : Prop where
  pl : d.pl = .int .u64 D.pl.toNat
  ps : RowAt w0 w0.heap.size 1 d.ps D.ps.length (u64v D.ps)
  cs : RowAt w0 w0.heap.size 2 d.cs D.cs.length (ckV D.cs)
  fo : FolR w0 d.fo D.L
  su : WSubsR w0 d.su D.S
/-- It may be written. -/
structure StOk (D : StD) : Prop where
  fo : ∀ x ∈ D.L, FolOk x.f
  ne : ∀ l ∈ D.S, l ≠ []
  len : D.S.length = D.L.length
  n1 : D.ps.length ≤ 100000
  n2 : D.cs.length ≤ 100000
  n3 : D.S.length ≤ 100000
  n4 : ∀ l ∈ D.S, l.length ≤ 100000
  n5 : ∀ k, (unkW (D.S.take k) (D.L.take k)).length ≤ 1000000
def StD.p1 (D : StD) : Bool := !(decide (D.ps = []) && (D.pl == 0))
def StD.p2 (D : StD) : Bool := !(decide (D.L = []))
def StD.p3 (D : StD) : Bool := D.S.any oddS || (unkW D.S D.L).any (·.has)
def StD.some (D : StD) : Bool := D.p3 || (D.p2 || D.p1)
def strmW (D : StD) : List UInt8 := packsW D.pl D.ps D.cs ++ (foldersW D.L ++ (subsW D.S D.L ++ [0]))

set_option maxRecDepth 100000 in
set_option maxHeartbeats 4000000 in
theorem streams_one (w0 w : World) (lo p : Nat) (v : Value) (bs : List UInt8) (d : DW) (D : StD) (W : WrAt w lo p v bs d) (F0 : Fr [] w0 w) (hp : w0.heap.size ≤ p) (hR : StR w0 d D) (hok : StOk D) (hb : bs.length + (strmW D).length ≤ 40000000) :
    Calls Tryd.prog 12 #[.pointer (some ⟨p, 0, none⟩)] w fun e w' => e = .returned (.bool D.some) ∧ WrTo w lo p v (bs ++ strmW D) d w' := by
  have hmf : ∀ (fn : Fn) (first cap : Array Value) (w : World), (Instr.makeFunc fn first cap).run Tryd.prog w = .ok (.func fn first cap) w := fun _ _ _ _ => rfl
  have HE := Lib.hid (show bs ++ strmW D = (((bs ++ packsW D.pl D.ps D.cs) ++ foldersW D.L) ++ subsW D.S D.L) ++ [0] by unfold strmW; simp only [List.append_assoc])
  have HL := Lib.hid (show bs.length + (packsW D.pl D.ps D.cs).length + (foldersW D.L).length + (subsW D.S D.L).length + 1 ≤ 40000000 by have := hb; unfold strmW at this; simp only [List.length_append, List.length_singleton] at this; omega)
  obtain ⟨wA, hwA⟩ : ∃ wA, wA = w.alloc (.cells #[.func (.func 21) #[.pointer (some ⟨p, 0, none⟩)] #[], .func (.func 22) #[.pointer (some ⟨p, 0, none⟩)] #[], .func (.func 23) #[.pointer (some ⟨p, 0, none⟩)] #[]] 30) := ⟨_, rfl⟩
  have FA : Fr [] w wA := hwA ▸ (Fr.refl _ _).alloc _
  have WA := W.fr0 FA
  have TA := WrTo.refl WA
  have HK := Lib.hid (fun (cs : List UInt8) (w2 : World) (T : WrTo wA lo p v cs d w2) => show w2.cell? ⟨w.heap.size, 0, none⟩ = some (.func (.func 21) #[.pointer (some ⟨p, 0, none⟩)] #[]) ∧ w2.cell? ⟨w.heap.size, 1, none⟩ = some (.func (.func 22) #[.pointer (some ⟨p, 0, none⟩)] #[]) ∧ w2.cell? ⟨w.heap.size, 2, none⟩ = some (.func (.func 23) #[.pointer (some ⟨p, 0, none⟩)] #[]) from by
    have hs : w.heap.size < wA.heap.size := by rw [hwA]; simp
    have hns : w.heap.size ∉ p :: v.ownBlock.toList := fun hmm => by
      simp only [List.mem_cons, Option.mem_toList] at hmm
      rcases hmm with hmm | hmm
      · have := W.lt; omega
      · have := (W.gs _ hmm).2; omega
    have key : ∀ i, w2.cell? ⟨w.heap.size, i, none⟩ = _ := fun i => (T.frm.cell (p := ⟨w.heap.size, i, none⟩) hs hns).trans (by rw [hwA, Go.Joins.cell_of_block (heap_alloc_new w _)])
    exact ⟨by rw [key]; rfl, by rw [key]; rfl, by rw [key]; rfl⟩)
  have HBF := Lib.hid (fun (cs : List UInt8) (w2 : World) (T : WrTo wA lo p v cs d w2) => T.base WA (F0.trans0 FA) hp)
  have HP1 := Lib.hid (fun (cs : List UInt8) (w2 : World) (T : WrTo wA lo p v cs d w2) (hc : cs.length + (packsW D.pl D.ps D.cs).length ≤ 50000000) => (show Calls Tryd.prog 21 #[.pointer (some ⟨p, 0, none⟩)] w2 fun e w' => e = .returned (.bool D.p1) ∧ WrTo wA lo p v (cs ++ packsW D.pl D.ps D.cs) d w' from T.chain fun v1 W1 => by
    obtain ⟨d1, d2, d3, d4, d5, d6, d7⟩ := d
    have e1 := hR.pl
    dsimp only at e1
    subst e1
    exact packs_one w2 lo p w0.heap.size v1 d1 d3 d4 d5 d6 d7 cs D.pl D.ps D.cs W1 hp (hR.ps.fr0 (HBF.out _ _ T)) (hR.cs.fr0 (HBF.out _ _ T)) (by have := hok.n2; omega) (by have := hok.n1; omega) hc))
  have HP2 := Lib.hid (fun (cs : List UInt8) (w2 : World) (T : WrTo wA lo p v cs d w2) (hc : cs.length + (foldersW D.L).length ≤ 40000000) => (show Calls Tryd.prog 22 #[.pointer (some ⟨p, 0, none⟩)] w2 fun e w' => e = .returned (.bool D.p2) ∧ WrTo wA lo p v (cs ++ foldersW D.L) d w' from T.chain fun v1 W1 => folders_one w0 w2 lo p v1 d.fo cs d D.L W1 (HBF.out _ _ T) hp rfl hR.fo hok.fo (by have := hok.n3; have := hok.len; omega) hc))
  have HP3 := Lib.hid (fun (cs : List UInt8) (w2 : World) (T : WrTo wA lo p v cs d w2) (hc : cs.length + (subsW D.S D.L).length ≤ 40000000) => (show Calls Tryd.prog 23 #[.pointer (some ⟨p, 0, none⟩)] w2 fun e w' => e = .returned (.bool D.p3) ∧ WrTo wA lo p v (cs ++ subsW D.S D.L) d w' from T.chain fun v1 W1 => subs_one w0 w2 lo p v1 d.fo d.su cs d D.S D.L W1 (HBF.out _ _ T) hp ⟨rfl, rfl⟩ hR.su hR.fo hok.len hok.n3 hok.n4 hok.ne hok.n5 hc))
  have HSM := Lib.hid (show D.some = (D.p3 || (D.p2 || D.p1)) from rfl)
  generalize D.some = sm at *
  obtain ⟨b1, hb1⟩ : ∃ b1, b1 = bs ++ packsW D.pl D.ps D.cs := ⟨_, rfl⟩
  obtain ⟨b2, hb2⟩ : ∃ b2, b2 = b1 ++ foldersW D.L := ⟨_, rfl⟩
  obtain ⟨b3, hb3⟩ : ∃ b3, b3 = b2 ++ subsW D.S D.L := ⟨_, rfl⟩
  rw [← hb1, ← hb2, ← hb3] at HE
  have hl1 := congrArg List.length hb1
  have hl2 := congrArg List.length hb2
  have hl3 := congrArg List.length hb3
  rw [List.length_append] at hl1 hl2 hl3
  have hL := HL.out
  have Q1 := Lib.hid (HP1.out bs wA TA (by omega))
  have Q2 := Lib.hid (fun w2 T => HP2.out b1 w2 T (by omega))
  have Q3 := Lib.hid (fun w2 T => HP3.out b2 w2 T (by omega))
  have hb3l : b3.length + 1 ≤ 40000000 := by omega
  rw [← hb1] at Q1
  rw [← hb2] at Q2
  rw [← hb3] at Q3
  clear hl1 hl2 hl3 hL HP1 HP2 HP3 hb1 hb2 hb3 hR hok hb HL W F0
  generalize D.p1 = p1 at *
  generalize D.p2 = p2 at *
  generalize D.p3 = p3 at *
  obtain ⟨k0, k1, k2⟩ := HK.out _ _ TA
  cases p1 <;> cases p2 <;> cases p3
  all_goals
    go_enter Tryd.func12, Tryd.ntmps12
    go_wp2_with fail
    rw [← hwA]
    clear hwA
    refine wp_loop_rounds 4 ?_
    rw [rounds_succ]
    go_wp2_with (go_at_call 21; refine Q1.out.mono ?_; rintro e w2 ⟨rfl, T1⟩; obtain ⟨l0, l1, l2⟩ := HK.out _ _ T1)
    rw [rounds_succ]
    go_wp2_with (go_at_call 22; refine (Q2.out w2 T1).mono ?_; rintro e w3 ⟨rfl, T2⟩; obtain ⟨m0, m1, m2⟩ := HK.out _ _ T2)
    rw [rounds_succ]
    go_wp2_with (go_at_call 23; refine (Q3.out w3 T2).mono ?_; rintro e w4 ⟨rfl, T3⟩)
    rw [rounds_succ]
    go_wp2_with (go_at_call 11; refine (wput_any (T3.then0 ((Fr.refl _ _).alloc _)) _ [0] (sl_one _ _ _) (by rw [List.length_singleton]; omega)).mono ?_; rintro e w7 ⟨rfl, T7⟩)
    go_ret
    exact ⟨by rw [HSM.out]; rfl, by rw [HE.out]; exact WrTo.fr0 FA T7⟩
end Go.Proofs.YtkodindajfdagaaDoor
/- Contract: headerw.whole. No condition but that lengths fit. -/
namespace Go.Proofs.YtkodindajfdagaaDoor
open Go.RowKit Go.Maps

/-- The size of what comes out of a folder. -/
def wholeOf (f : Folder) : UInt64 := match mainIdx f with | some i => f.sizes.getD i 0 | none => 0

set_option maxRecDepth 100000 in
set_option maxHeartbeats 1000000 in
theorem whole_any (w : World) (v : Value) (f : Folder) (hf : Fo w v f) (hn : f.coders.length ≤ 100000) (hb : f.binds.length ≤ 100000) (hs : f.sizes.length ≤ 100000000) (hout : ∀ b ∈ f.binds, (Lit.int .i64 b.2).wf = true) (i : Nat) (hi : mainIdx f = some i) (hlt : i < f.sizes.length) :
    Calls Tryd.prog 67 #[v] w fun e w' => e = .returned (.int .u64 ((wholeOf f).toNat : Int)) ∧ Fr [] w w' := by
  have HF := Lib.hid hf
  have HM := Lib.hid (fun wy h => main_any wy v f h hn hb hout)
  obtain ⟨cv, bv', p, s, h, k0, rfl, hV⟩ := hf
  obtain ⟨sao, scap, rfl, -, -, so⟩ := hV.si.out
  rw [u64v_length] at so
  have HSo := Lib.hid so
  have hsI : (f.sizes.length : Int) ≤ 100000000 := by omega
  rw [u64v_length] at HF HM ⊢
  clear hV hn hb hout so
  obtain ⟨wB, hwB⟩ : ∃ wB, wB = w.alloc (.cells #[cv, bv', p, .slice sao f.sizes.length scap, h, k0] 46) := ⟨_, rfl⟩
  have F0 : Fr [] w wB := hwB ▸ (Fr.refl _ _).alloc _
  have HBX := Lib.hid (fun wx (F : Fr [] wB wx) => box6 (hwB ▸ F : Fr [] (w.alloc (.cells #[cv, bv', p, .slice sao f.sizes.length scap, h, k0] 46)) wx))
  have HMO := Lib.hid (show mainOf f = (i : Int) by rw [mainOf, hi])
  obtain ⟨x, hx⟩ := some_get f.sizes i hlt
  have HE := Lib.hid (show wholeOf f = x by rw [wholeOf, hi]; simp [List.getD, hx])
  obtain ⟨b, o, rfl, hb, hcell⟩ := HSo.out i hlt
  have HC0 := Lib.hid ((hcell i hlt).trans (u64v_get _ _ _ hx))
  have hltI : (i : Int) < (f.sizes.length : Int) := by omega
  clear hi hcell hx
  go_enter Tryd.func67, Tryd.ntmps67
  go_wp2_with fail
  rw [← hwB]
  clear hwB
  have G0 := Fr.refl [] wB
  go_region_held3 (fun wx => wx.cell? ⟨w.heap.size, 0, none⟩ = some cv ∧ wx.cell? ⟨w.heap.size, 1, none⟩ = some bv' ∧ wx.cell? ⟨w.heap.size, 2, none⟩ = some p ∧ wx.cell? ⟨w.heap.size, 3, none⟩ = some (.slice (some ⟨b, o, none⟩) f.sizes.length scap) ∧ wx.cell? ⟨w.heap.size, 4, none⟩ = some h ∧ wx.cell? ⟨w.heap.size, 5, none⟩ = some k0 ∧ wx.cell? ⟨b, o + i, none⟩ = some (.int .u64 x.toNat))
    (first
      | (have hq := G1; obtain ⟨g0, g1, g2, g3, g4, g5⟩ := HBX.out _ G1; exact ⟨g0, g1, g2, g3, g4, g5, ((F0.trans0 G1).cell (p := ⟨b, o + i, none⟩) hb (by simp)).trans HC0.out⟩)
      | (obtain ⟨g0, g1, g2, g3, g4, g5⟩ := HBX.out _ G0; exact ⟨g0, g1, g2, g3, g4, g5, (F0.cell (p := ⟨b, o + i, none⟩) hb (by simp)).trans HC0.out⟩)
      | (obtain ⟨g0, g1, g2, g3, g4, g5⟩ := HBX.out _ G0.drew; exact ⟨g0, g1, g2, g3, g4, g5, (F0.drew.cell (p := ⟨b, o + i, none⟩) hb (by simp)).trans HC0.out⟩)
      | go_keep)
    (first | (go_at_call 80; refine (HM.out _ (HF.out.fr F0.drew)).mono ?_; rw [HMO.out]; rintro e w1 ⟨rfl, F1⟩; have G1 := G0.drew.trans0 F1))
  go_wp2_with fail
  go_ret
  exact ⟨by rw [HE.out]; rfl, F0.trans0 G1⟩
end Go.Proofs.YtkodindajfdagaaDoor
/- What descriptions may be written, in plain Lean. No condition. -/
namespace Go.Proofs.YtkodindajfdagaaDoor
open Go.RowKit

def ckOk (c : Ck) : Bool := c.has || c.sum == 0
def coOk (c : Coder) (z : UInt64) : Bool := !(decide (ins c.method = 0)) && decide (c.props.length ≤ 65536) && decide (z.toNat ≤ 1099511627776)
def coAll (f : Folder) : Bool := (f.coders.zip f.sizes).all fun x => coOk x.1 x.2
def allOf (f : Folder) : Nat := f.first f.coders.length
def biOk (all n : Nat) (b : Int × Int) : Bool := decide (0 ≤ b.1) && decide (b.1 < all) && decide (0 ≤ b.2) && decide (b.2 < n)
def paOk (all : Nat) (x : Int) : Bool := decide (0 ≤ x) && decide (x < all)
/-- What is asked ahead of all loops. -/
def foHead (x : Fol) : Bool := decide (1 ≤ x.f.coders.length) && decide (x.f.coders.length ≤ 8) && decide (x.f.binds.length + 1 = x.f.coders.length) && decide (x.f.sizes.length = x.f.coders.length) && ckOk x.ck
def paHead (f : Folder) : Bool := decide (f.packs.length + f.binds.length = allOf f) && f.packs.all (paOk (allOf f))
def lonely (f : Folder) : Bool := decide (1 < f.packs.length) || decide (f.packs[0]? = some (loneN f : Int))
/-- May a folder be? -/
def mayFol (x : Fol) : Bool := foHead x && coAll x.f && x.f.binds.all (biOk (allOf x.f) x.f.coders.length) && paHead x.f && lonely x.f
/-- What is left of a size behind subs. -/
def subsGo : Nat → List Sub → Option Nat
  | n, [] => some n
  | n, s :: t => if n < s.size.toNat ∨ ckOk s.ck = false then none else subsGo (n - s.size.toNat) t
def subsEnd (x : Fol) (l : List Sub) : Bool := decide (1 < l.length) || !x.ck.has || decide (l[0]?.map (·.ck) = some x.ck)
/-- May a folder's subs be? -/
def maySub (x : Fol) (l : List Sub) : Bool := !(decide (l = [])) && decide (subsGo (wholeOf x.f).toNat l = some 0) && subsEnd x l
def manyOf (S : List (List Sub)) : Nat := (S.map List.length).sum
def mayRows (L : List Fol) (S : List (List Sub)) : Bool := (L.zip S).all fun p => mayFol p.1 && maySub p.1 p.2
/-- May packs, folders and subs be? -/
def mayStr (D : StD) : Bool := decide (D.pl.toNat ≤ 1099511627776) && sizesUp 0 D.ps && decide (D.cs.length = D.ps.length) && decide (D.S.length = D.L.length) && D.cs.all ckOk && mayRows D.L D.S

theorem first_mono (f : Folder) (k : Nat) : f.first k ≤ f.first (k + 1) := by
  cases h : f.coders[k]? with
  | none =>
    have : f.coders.take (k + 1) = f.coders.take k := by simp [List.take_add_one, h]
    unfold Folder.first
    rw [this]
    exact Nat.le_refl _
  | some x => rw [f.first_succ k x h]; omega
theorem zip_all {α β : Type} {p : α × β → Bool} {A : List α} {B : List β} (h : (A.zip B).all p = true) {k : Nat} {a : α} {b : β} (ha : A[k]? = some a) (hb : B[k]? = some b) : p (a, b) = true :=
  List.all_eq_true.1 h _ (List.mem_of_getElem? (by rw [List.getElem?_zip_eq_some]; exact ⟨ha, hb⟩))
/-- With a stream for each coder there are as many streams as coders at least. -/
theorem all_ge {f : Folder} (h : ∀ c ∈ f.coders, ins c.method ≠ 0) : ∀ k, k ≤ f.coders.length → k ≤ f.first k := by
  intro k
  induction k with
  | zero => intro _; exact Nat.zero_le _
  | succ k ih =>
    intro hk
    obtain ⟨x, hx⟩ := some_get f.coders k (by omega)
    have h1 := ih (by omega)
    rw [f.first_succ k x hx]
    have h2 := h x (List.mem_of_getElem? hx)
    omega
theorem allOf_le (f : Folder) : allOf f ≤ 4 * f.coders.length := f.first_le _
theorem ins_zero (m : Int) : ins m = 0 ↔ ¬ (1 ≤ m ∧ m ≤ 7) := by
  unfold ins
  constructor
  · intro h ⟨h1, h2⟩
    by_cases e : m = 6
    · simp [e] at h
    · simp [e, h1, h2] at h
  · intro h
    have e : m ≠ 6 := by omega
    rw [if_neg e, if_neg h]
theorem sizesUp_take : ∀ (l : List UInt64) (a : Nat), sizesUp a l = true → ∀ x ∈ l, x.toNat ≤ 1099511627776
  | [], _, _, _, h => by simp at h
  | s :: t, a, h, x, hx => by
    unfold sizesUp at h
    by_cases e : 1099511627776 < a + s.toNat
    · simp [e] at h
    · rw [if_neg e] at h
      rcases List.mem_cons.1 hx with rfl | hx
      · omega
      · exact sizesUp_take t _ h x hx
end Go.Proofs.YtkodindajfdagaaDoor
