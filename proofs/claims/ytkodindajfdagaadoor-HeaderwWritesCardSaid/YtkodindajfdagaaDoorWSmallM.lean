/- Contract: the reference's Small. No condition but that lengths are those of what lies in memory. -/
import Derived.Test.YtkodindajfdagaaDoorGAR
import Derived.Test.YtkodindajfdagaaDoorWMayTM
namespace Go.Proofs.YtkodindajfdagaaDoor
open Go.RowKit

/-- Lengths that a memory can hold. -/
structure DeSz (D : StD) (F : List Fil) : Prop where
  n1 : D.ps.length ≤ 140737488355328
  n2 : D.L.length ≤ 140737488355328
  n3 : F.length ≤ 140737488355328
  fo : ∀ x ∈ D.L, x.f.coders.length ≤ 140737488355328 ∧ x.f.binds.length ≤ 140737488355328 ∧ x.f.packs.length ≤ 140737488355328 ∧ x.f.sizes.length ≤ 140737488355328
def pr64 (f : Folder) : Nat := (f.coders.map fun c => c.props.length / 64).sum
def fCost (x : Fol) : Nat := x.f.coders.length + x.f.binds.length + x.f.packs.length + x.f.sizes.length + pr64 x.f
def fCosts (L : List Fol) : Nat := (L.map fCost).sum
/-- A description that is small. -/
structure SmOk (D : StD) (F : List Fil) : Prop where
  a : D.ps.length + D.L.length + F.length ≤ 300
  b : D.cs.length ≤ 300
  c : D.S.length ≤ 300
  d : fCosts D.L + manyOf D.S ≤ 3000
  e : ∀ x ∈ D.L, ∀ c ∈ x.f.coders, c.props.length ≤ 131072
  f : ∀ x ∈ F, x.name.length ≤ 2000
theorem pr64_take {f : Folder} {k : Nat} {c : Coder} (h : f.coders[k]? = some c) : ((f.coders.take (k + 1)).map fun c => c.props.length / 64).sum = ((f.coders.take k).map fun c => c.props.length / 64).sum + c.props.length / 64 := by
  rw [List.take_add_one, h]
  simp
theorem fCosts_take {L : List Fol} {k : Nat} {x : Fol} (h : L[k]? = some x) : fCosts (L.take (k + 1)) = fCosts (L.take k) + fCost x := by
  unfold fCosts
  rw [List.take_add_one, h]
  simp
theorem mem_take_succ {α : Type} {l : List α} {k : Nat} {x y : α} (h : l[k]? = some x) (hy : y ∈ l.take (k + 1)) : y ∈ l.take k ∨ y = x := by
  rw [List.take_add_one, h] at hy
  simpa using hy
theorem w64n (n : Nat) (h : n < 9223372036854775808) : wrap64 (n : Int) = (n : Int) := by
  unfold wrap64
  omega

theorem wrap_sums (n c b k z : Nat) (hn : n ≤ 3000) (h1 : c ≤ 140737488355328) (h2 : b ≤ 140737488355328) (h3 : k ≤ 140737488355328) (h4 : z ≤ 140737488355328) :
    wrap64 ((n : Int) + (c : Int)) = (n : Int) + (c : Int) ∧ wrap64 ((n : Int) + (c : Int) + (b : Int)) = (n : Int) + (c : Int) + (b : Int) ∧ wrap64 ((n : Int) + (c : Int) + (b : Int) + (k : Int)) = (n : Int) + (c : Int) + (b : Int) + (k : Int) ∧ wrap64 ((n : Int) + (c : Int) + (b : Int) + (k : Int) + (z : Int)) = ((n + c + b + k + z : Nat) : Int) := by
  unfold wrap64
  omega

theorem wrap_quo (m L M j : Nat) (hm : m ≤ M + 2048 * j) (hM : M ≤ 600000000000000) (hj : j ≤ 140737488355328) (hL : L ≤ 131072) : wrap64 ((m : Int) + (L : Int) / 64) = ((m + L / 64 : Nat) : Int) := by
  unfold wrap64
  omega
theorem wrap_succ (j c : Nat) (h : j < c) (hc : c ≤ 140737488355328) : wrap64 ((j : Int) + 1) = ((j + 1 : Nat) : Int) := by
  unfold wrap64
  omega

def SmallR (D : StD) (F : List Fil) (w : World) (e : Ending) (w' : World) : Prop := ∃ r, e = .returned (.bool r) ∧ (r = true → SmOk D F) ∧ Fr [] w w'

set_option maxRecDepth 100000 in
set_option maxHeartbeats 8000000 in
theorem rsmall_any (w : World) (va : Value) (pk : Bool) (D : StD) (Fi : List Fil) (ha : DeR w va pk D Fi) (hsz : DeSz D Fi) :
    Calls Tryd.prog 5 #[va] w (SmallR D Fi w) := by
  obtain ⟨⟨pk1, pl1, ps1, cs1, fo1, su1, es1⟩, rfl, hp1, hR1, hF1⟩ := ha
  dsimp only at hp1 hF1 ⊢
  subst hp1
  obtain ⟨l1, r1, c1, f1, u1⟩ := hR1
  dsimp only at l1 r1 c1 f1 u1
  subst l1
  obtain ⟨po1, pc1, rfl, -⟩ := id r1.out
  obtain ⟨co1, cc1, rfl, -⟩ := id c1.out
  obtain ⟨fo1, fc1, rfl, -, -, of1⟩ := f1.out
  obtain ⟨so1, sc1, rfl, -, -, os1⟩ := u1.out
  obtain ⟨eo1, ec1, rfl, -⟩ := id hF1.out
  have HFo := Lib.hid of1
  have HSu := Lib.hid os1
  have HFi := Lib.hid hF1
  have HSZ := Lib.hid hsz
  clear r1 c1 f1 u1 of1 os1 hF1 hsz
  obtain ⟨np, hnp⟩ : ∃ n, D.ps.length = n := ⟨_, rfl⟩
  obtain ⟨nc, hnc⟩ : ∃ n, D.cs.length = n := ⟨_, rfl⟩
  obtain ⟨nf, hnf⟩ : ∃ n, D.L.length = n := ⟨_, rfl⟩
  obtain ⟨ns, hns⟩ : ∃ n, D.S.length = n := ⟨_, rfl⟩
  obtain ⟨ne, hne⟩ : ∃ n, Fi.length = n := ⟨_, rfl⟩
  have HNP := Lib.hid hnp
  have HNC := Lib.hid hnc
  have HNF := Lib.hid hnf
  have HNS := Lib.hid hns
  have HNE := Lib.hid hne
  rw [hne] at HFi ⊢
  rw [hnp, hnc, hnf, hns]
  clear hnp hnc hnf hns hne
  obtain ⟨wA, hwA⟩ : ∃ wA, wA = w.alloc (.cells #[.bool pk, .int .u64 D.pl.toNat, .slice po1 np pc1, .slice co1 nc cc1, .slice fo1 nf fc1, .slice so1 ns sc1, .slice eo1 ne ec1] 29) := ⟨_, rfl⟩
  have FA : Fr [] w wA := hwA ▸ (Fr.refl _ _).alloc _
  have HX := Lib.hid (fun wx (F : Fr [] wA wx) => wbox7 (hwA ▸ F : Fr [] (w.alloc (.cells #[.bool pk, .int .u64 D.pl.toNat, .slice po1 np pc1, .slice co1 nc cc1, .slice fo1 nf fc1, .slice so1 ns sc1, .slice eo1 ne ec1] 29)) wx) (by simp))
  obtain ⟨a0, a1, a2, a3, a4, a5, a6⟩ := HX.out wA (Fr.refl _ _)
  obtain ⟨B, hB⟩ : ∃ B : Nat, B = np + nf + ne := ⟨_, rfl⟩
  have e1 : wrap64 ((np : Int) + (nf : Int)) = (np : Int) + (nf : Int) := by
    have h1 := HSZ.out.n1; have h2 := HSZ.out.n2; rw [HNP.out] at h1; rw [HNF.out] at h2
    exact w64n (np + nf) (by omega)
  have e2 : wrap64 ((np : Int) + (nf : Int) + (ne : Int)) = (B : Int) := by
    have h1 := HSZ.out.n1; have h2 := HSZ.out.n2; have h3 := HSZ.out.n3; rw [HNP.out] at h1; rw [HNF.out] at h2; rw [HNE.out] at h3
    rw [← w64n B (by omega)]; congr 1; omega
  have HB := Lib.hid hB
  clear hB
  obtain ⟨p, hp⟩ : ∃ p, w.heap.size = p := ⟨_, rfl⟩
  rw [hp] at a0 a1 a2 a3 a4 a5 a6 HX
  go_enter Tryd.func5, Tryd.ntmps5
  go_upto_region 2 with fail
  rw [← hwA]
  clear hwA
  by_cases h1 : B ≤ 300
  rotate_left
  · have t0 : (300 : Int) < (B : Int) := by omega
    clear h1
    go_wp2_with fail
    go_ret
    exact ⟨false, rfl, by simp, FA⟩
  have t0 : ¬ (300 : Int) < (B : Int) := by omega
  by_cases h2 : nc ≤ 300
  rotate_left
  · have t1 : (300 : Int) < (nc : Int) := by omega
    clear h2
    go_wp2_with fail
    go_ret
    exact ⟨false, rfl, by simp, FA⟩
  have t1 : ¬ (300 : Int) < (nc : Int) := by omega
  by_cases h3 : ns ≤ 300
  rotate_left
  · have t2 : (300 : Int) < (ns : Int) := by omega
    clear h3
    go_wp2_with fail
    go_ret
    exact ⟨false, rfl, by simp, FA⟩
  have t2 : ¬ (300 : Int) < (ns : Int) := by omega
  have hnf3 : nf ≤ 300 := by have := HB.out; omega
  have hne3 : ne ≤ 300 := by have := HB.out; omega
  have hnfI : (nf : Int) ≤ 300 := by omega
  have hneI : (ne : Int) ≤ 300 := by omega
  have hnsI : (ns : Int) ≤ 300 := by omega
  have H1 := Lib.hid h1
  have H2 := Lib.hid h2
  have H3 := Lib.hid h3
  go_wp2_with fail
  clear e1 e2 t0 t1 t2 h1 h2 h3 a0 a1 a2 a3 a4 a5 a6 hnf3 hne3
  go_loopw [3, 4] (fun nv iv wr => ∃ (k n : Nat), k ≤ nf ∧ iv = .int .i64 (k : Int) ∧ nv = .int .i64 (n : Int) ∧ n = B + fCosts (D.L.take k) ∧ n ≤ 3000 ∧ Hid (∀ x ∈ D.L.take k, ∀ c ∈ x.f.coders, c.props.length ≤ 131072) ∧ Fr [] wA wr) (fun _ iv _ => nf - (intOf iv).toNat)
  case atStart => exact ⟨0, B, Nat.zero_le _, rfl, rfl, by simp [fCosts], by have := H1.out; omega, fun x hx => by simp at hx, Fr.refl _ _⟩
  case round =>
    obtain ⟨k, n, hk, rfl, rfl, hn, hn3, HE, F⟩ := hrel
    obtain ⟨a0, a1, a2, a3, a4, a5, a6⟩ := HX.out wr F
    have HNn := Lib.hid hn
    have HN3 := Lib.hid hn3
    have HF := Lib.hid F
    clear hn hn3 F
    by_cases hlt : k < nf
    · have hltI : (k : Int) < (nf : Int) := by omega
      obtain ⟨x, hx⟩ := some_get D.L k (by rw [HNF.out]; exact hlt)
      obtain ⟨g1, o1, v1, v2, v3, v4, rfl, hb1, q1, q2, q3, q4, q5, q6, fv⟩ := HFo.out k x hx
      obtain ⟨z1, z2, z3, z4⟩ := HSZ.out.fo x (List.mem_of_getElem? hx)
      have FW := FA.trans0 HF.out
      have f1 := (FW.cell (p := ⟨g1, o1 + k * 6, none⟩) hb1 (by simp)).trans q1
      have f2 := (FW.cell (p := ⟨g1, o1 + k * 6 + 1, none⟩) hb1 (by simp)).trans q2
      have f3 := (FW.cell (p := ⟨g1, o1 + k * 6 + 2, none⟩) hb1 (by simp)).trans q3
      have f4 := (FW.cell (p := ⟨g1, o1 + k * 6 + 3, none⟩) hb1 (by simp)).trans q4
      have f5 := (FW.cell (p := ⟨g1, o1 + k * 6 + 4, none⟩) hb1 (by simp)).trans q5
      have f6 := (FW.cell (p := ⟨g1, o1 + k * 6 + 5, none⟩) hb1 (by simp)).trans q6
      obtain ⟨x1, y1, rfl, -, -, oc⟩ := fv.co.out
      obtain ⟨x2, y2, rfl, -⟩ := fv.bi.out
      obtain ⟨x3, y3, rfl, -⟩ := fv.pa.out
      obtain ⟨x4, y4, rfl, -⟩ := fv.si.out
      rw [iv_length] at f3
      rw [u64v_length] at f4
      have HCo := Lib.hid oc
      have Hz1 := Lib.hid z1
      have Hz2 := Lib.hid z2
      have Hz3 := Lib.hid z3
      have Hz4 := Lib.hid z4
      have HTk := Lib.hid (fCosts_take hx)
      have HMe := Lib.hid (fun y (hy : y ∈ D.L.take (k + 1)) => mem_take_succ hx hy)
      have HXm := Lib.hid (show fCost x = x.f.coders.length + x.f.binds.length + x.f.packs.length + x.f.sizes.length + pr64 x.f from rfl)
      clear q1 q2 q3 q4 q5 q6 fv oc hx
      obtain ⟨cl, hcl⟩ : ∃ m, x.f.coders.length = m := ⟨_, rfl⟩
      obtain ⟨bl, hbl⟩ : ∃ m, x.f.binds.length = m := ⟨_, rfl⟩
      obtain ⟨kl, hkl⟩ : ∃ m, x.f.packs.length = m := ⟨_, rfl⟩
      obtain ⟨zl, hzl⟩ : ∃ m, x.f.sizes.length = m := ⟨_, rfl⟩
      have HCl := Lib.hid hcl
      rw [hcl] at f1 Hz1 HXm
      rw [hbl] at f2 Hz2 HXm
      rw [hkl] at f3 Hz3 HXm
      rw [hzl] at f4 Hz4 HXm
      clear z1 z2 z3 z4
      clear hcl hbl hkl hzl
      go_upto_region 8 with fail
      obtain ⟨wB, hwB⟩ : ∃ wB, wB = wr.alloc (.cells #[.slice x1 cl y1, .slice x2 bl y2, .slice x3 kl y3, .slice x4 zl y4, .bool x.ck.has, .int .u32 x.ck.sum.toNat] 46) := ⟨_, rfl⟩
      have FB : Fr [] wr wB := hwB ▸ (Fr.refl _ _).alloc _
      have HXB := Lib.hid (fun wx (F : Fr [] wB wx) => box6 (hwB ▸ F : Fr [] (wr.alloc (.cells #[.slice x1 cl y1, .slice x2 bl y2, .slice x3 kl y3, .slice x4 zl y4, .bool x.ck.has, .int .u32 x.ck.sum.toNat] 46)) wx))
      rw [← hwB]
      obtain ⟨g, hg⟩ : ∃ g, wr.heap.size = g := ⟨_, rfl⟩
      rw [hg] at HXB ⊢
      have HFB := Lib.hid (HF.out.trans0 FB)
      clear hwB hg f1 f2 f3 f4 f5 f6 a0 a1 a2 a3 a4 a5 a6 FB
      obtain ⟨b0, b1, b2, b3, b4, b5⟩ := HXB.out wB (Fr.refl _ _)
      obtain ⟨M, hM⟩ : ∃ M, M = n + cl + bl + kl + zl := ⟨_, rfl⟩
      have HM := Lib.hid hM
      have HMB := Lib.hid (show M ≤ 600000000000000 by have := HN3.out; have := Hz1.out; have := Hz2.out; have := Hz3.out; have := Hz4.out; omega)
      have HCB := Lib.hid Hz1.out
      obtain ⟨e1, e2, e3, e4⟩ := wrap_sums n cl bl kl zl HN3.out Hz1.out Hz2.out Hz3.out Hz4.out
      rw [← hM] at e4
      clear hM
      go_upto_region 9 with fail
      rw [e4]
      clear e1 e2 e3 e4 b0 b1 b2 b3 b4 b5
      go_wp2_with fail
      go_loopw [3, 6] (fun nv iv wx => ∃ (j m : Nat), j ≤ cl ∧ iv = .int .i64 (j : Int) ∧ nv = .int .i64 (m : Int) ∧ Hid (m = M + ((x.f.coders.take j).map fun c => c.props.length / 64).sum) ∧ Hid (m ≤ M + 2048 * j) ∧ Hid (∀ c ∈ x.f.coders.take j, c.props.length ≤ 131072) ∧ wx = wB) (fun _ iv _ => cl - (intOf iv).toNat)
      case atStart => exact ⟨0, M, Nat.zero_le _, rfl, rfl, by show M = _; simp, by show M ≤ _; omega, fun c hc => by simp at hc, rfl⟩
      case round =>
        obtain ⟨j, m, hj, rfl, rfl, hm, hmb, HP, hw⟩ := hrel
        subst hw
        obtain ⟨b0, b1, b2, b3, b4, b5⟩ := HXB.out wr (Fr.refl _ _)
        by_cases hlj : j < cl
        · obtain ⟨c, hc⟩ := some_get x.f.coders j (by rw [HCl.out]; exact hlj)
          obtain ⟨g2, o2, pv, rfl, hb2, t1, t2, t3⟩ := HCo.out j c hc
          have FW2 := FA.trans0 HFB.out
          have c1 := (FW2.cell (p := ⟨g2, o2 + j * 2, none⟩) hb2 (by simp)).trans t1
          have c2 := (FW2.cell (p := ⟨g2, o2 + j * 2 + 1, none⟩) hb2 (by simp)).trans t2
          obtain ⟨p2, d2, rfl, -⟩ := t3.out
          rw [bv_length] at c2
          have HSu2 := Lib.hid (pr64_take hc)
          have HMc := Lib.hid (fun y (hy : y ∈ x.f.coders.take (j + 1)) => mem_take_succ hc hy)
          have hljI : (j : Int) < (cl : Int) := by omega
          clear hc t1 t2 t3
          obtain ⟨L, hL⟩ : ∃ L, c.props.length = L := ⟨_, rfl⟩
          rw [hL] at c2 HSu2
          have HL := Lib.hid hL
          clear hL
          by_cases h131 : L ≤ 131072
          rotate_left
          · have t0 : (131072 : Int) < (L : Int) := by omega
            clear h131
            go_wp2_with fail
            go_ret
            exact ⟨false, rfl, by simp, FA.trans0 HFB.out⟩
          have t0 : ¬ (131072 : Int) < (L : Int) := by omega
          have t3 : (L : Int) ≤ 131072 := by omega
          have HL2 := Lib.hid h131
          have e5 := Lib.hid (wrap_quo m L M j hmb.out HMB.out (by have := HCB.out; omega) h131)
          have e6 := Lib.hid (wrap_succ j cl hlj HCB.out)
          go_wp2_with fail
          go_roundw
          case rel => exact ⟨j + 1, m + L / 64, by omega, by rw [e6.out], by first | rw [e5.out] | (rw [hm.out] at e5; rw [← e5.out]; push_cast; rfl), by show m + L / 64 = _; rw [HSu2.out, hm.out]; omega, by show m + L / 64 ≤ _; have := hmb.out; omega, fun y hy => (HMc.out y hy).elim (HP.out y) (fun e => by rw [e, HL.out]; exact HL2.out), by trivial⟩
          case measure => rw [e6.out]; simp [intOf]; omega
        · obtain rfl : j = cl := by omega
          have hljI : ¬ (j : Int) < (j : Int) := by omega
          have HT := Lib.hid (show x.f.coders.take j = x.f.coders from List.take_of_length_le (by rw [HCl.out]; exact Nat.le_refl _))
          rw [HT.out] at hm HP
          have HMt := Lib.hid (show m = B + fCosts (D.L.take (k + 1)) by rw [HTk.out, HXm.out, hm.out, HM.out, HNn.out]; unfold pr64; omega)
          by_cases h3k : m ≤ 3000
          rotate_left
          · have t0 : (3000 : Int) < (m : Int) := by omega
            clear h3k hm hmb
            go_wp2_with fail
            go_ret
            exact ⟨false, rfl, by simp, FA.trans0 HFB.out⟩
          have t0 : ¬ (3000 : Int) < (m : Int) := by omega
          have HM3 := Lib.hid h3k
          clear h3k
          go_wp2_with fail
          go_roundw
          case rel => exact ⟨k + 1, m, by omega, by go_num, rfl, HMt.out, HM3.out, fun y hy => (HMe.out y hy).elim (HE.out y) (fun e => by rw [e]; exact HP.out), HFB.out⟩
          case measure => simp [intOf]; omega
    · obtain rfl : k = nf := by omega
      have hltI : ¬ (k : Int) < (k : Int) := by omega
      have HT := Lib.hid (show D.L.take k = D.L from List.take_of_length_le (by rw [HNF.out]; exact Nat.le_refl _))
      rw [HT.out] at HNn HE
      clear hlt hk
      go_wp2_with fail
      clear a0 a1 a2 a3 a4 a5 a6 hltI
      go_loopw [3, 7] (fun nv iv wx => ∃ (j m : Nat), j ≤ ns ∧ iv = .int .i64 (j : Int) ∧ nv = .int .i64 (m : Int) ∧ Hid (m = n + manyOf (D.S.take j)) ∧ m ≤ 3000 + 1000 * j ∧ wx = wr) (fun _ iv _ => ns - (intOf iv).toNat)
      case atStart => exact ⟨0, n, Nat.zero_le _, rfl, rfl, by show n = _; simp [manyOf], by have := HN3.out; omega, rfl⟩
      case round =>
        obtain ⟨j, m, hj, rfl, rfl, hm, hmb, hw⟩ := hrel
        subst hw
        obtain ⟨a0, a1, a2, a3, a4, a5, a6⟩ := HX.out wr HF.out
        have hmI : (m : Int) ≤ 303000 := by omega
        by_cases hlj : j < ns
        · obtain ⟨l, hl⟩ := some_get D.S j (by rw [HNS.out]; exact hlj)
          obtain ⟨g1, o1, v1, rfl, hb1, q1, r1⟩ := HSu.out j l hl
          obtain ⟨ao1, ac1, rfl, -⟩ := r1.out
          have c1 := ((FA.trans0 HF.out).cell (p := ⟨g1, o1 + j, none⟩) hb1 (by simp)).trans q1
          have HMy := Lib.hid (manyOf_take hl)
          have hljI : (j : Int) < (ns : Int) := by omega
          obtain ⟨L, hL⟩ : ∃ L, l.length = L := ⟨_, rfl⟩
          rw [hL] at c1 HMy
          clear hl q1 r1 hL
          by_cases h1k : L ≤ 1000
          rotate_left
          · have t0 : (1000 : Int) < (L : Int) := by omega
            clear h1k
            go_wp2_with fail
            go_ret
            exact ⟨false, rfl, by simp, FA.trans0 HF.out⟩
          have t0 : ¬ (1000 : Int) < (L : Int) := by omega
          have hLI : (L : Int) ≤ 1000 := by omega
          have HL1 := Lib.hid h1k
          have HMB := Lib.hid hmb
          clear h1k hmb
          go_wp2_with fail
          go_roundw
          case rel => exact ⟨j + 1, m + L, by omega, by go_num, by go_num, by show m + L = _; rw [HMy.out, hm.out]; omega, by have := HMB.out; have := HL1.out; omega, by trivial⟩
          case measure => simp [intOf]; omega
        · obtain rfl : j = ns := by omega
          have hljI : ¬ (j : Int) < (j : Int) := by omega
          have HT2 := Lib.hid (show D.S.take j = D.S from List.take_of_length_le (by rw [HNS.out]; exact Nat.le_refl _))
          rw [HT2.out] at hm
          clear hlj hj
          go_wp2_with fail
          clear a0 a1 a2 a3 a4 a5 a6 hljI
          go_loopw [8] (fun iv wx => ∃ j : Nat, j ≤ ne ∧ iv = .int .i64 (j : Int) ∧ Hid (∀ x ∈ Fi.take j, x.name.length ≤ 2000) ∧ wx = wr) (fun iv _ => ne - (intOf iv).toNat)
          case atStart => exact ⟨0, Nat.zero_le _, rfl, fun x hx => by simp at hx, rfl⟩
          case round =>
            obtain ⟨i, hi, rfl, HQ, hw⟩ := hrel
            subst hw
            obtain ⟨a0, a1, a2, a3, a4, a5, a6⟩ := HX.out wr HF.out
            by_cases hli : i < ne
            · obtain ⟨X, hX⟩ := some_get Fi i (by rw [HNE.out]; exact hli)
              obtain ⟨g1, o1, rfl, hb1, p0, -⟩ := (HFi.out.fr0 (FA.trans0 HF.out)).fil hX hli
              have HMe2 := Lib.hid (fun y (hy : y ∈ Fi.take (i + 1)) => mem_take_succ hX hy)
              have hliI : (i : Int) < (ne : Int) := by omega
              clear hX
              by_cases h2k : X.name.length ≤ 2000
              rotate_left
              · have t0 : (2000 : Int) < (X.name.length : Int) := by omega
                clear h2k
                go_wp2_with fail
                go_ret
                exact ⟨false, rfl, by simp, FA.trans0 HF.out⟩
              have t0 : ¬ (2000 : Int) < (X.name.length : Int) := by omega
              have HX2 := Lib.hid h2k
              clear h2k
              go_wp2_with fail
              go_roundw
              case rel => exact ⟨i + 1, by omega, by go_num, fun y hy => (HMe2.out y hy).elim (HQ.out y) (fun e => by rw [e]; exact HX2.out), by trivial⟩
              case measure => simp [intOf]; omega
            · obtain rfl : i = ne := by omega
              have hliI : ¬ (i : Int) < (i : Int) := by omega
              rw [show Fi.take i = Fi from List.take_of_length_le (by rw [HNE.out]; exact Nat.le_refl _)] at HQ
              clear hli hi
              go_wp2_with fail
              go_ret
              refine ⟨decide ((m : Int) ≤ 3000), rfl, fun h => ?_, FA.trans0 HF.out⟩
              have hm3 : (m : Int) ≤ 3000 := of_decide_eq_true h
              have := HNn.out
              have := hm.out
              exact ⟨by rw [HNP.out, HNF.out, HNE.out, ← HB.out]; exact H1.out, by rw [HNC.out]; exact H2.out, by rw [HNS.out]; exact H3.out, by omega, HE.out, HQ.out⟩
end Go.Proofs.YtkodindajfdagaaDoor
