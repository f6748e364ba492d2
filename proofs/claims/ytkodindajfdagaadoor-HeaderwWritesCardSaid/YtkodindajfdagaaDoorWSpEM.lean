/- Contract: the reference's streams. No condition but that lengths fit. -/
import Derived.Test.YtkodindajfdagaaDoorWSpDM
namespace Go.Proofs.YtkodindajfdagaaDoor
open Go.RowKit
set_option linter.unusedVariables false

def strR (D : StD) : List UInt8 := packsW D.pl D.ps D.cs ++ (foldersW D.L ++ subsW D.S D.L)

set_option maxRecDepth 100000 in
set_option maxHeartbeats 4000000 in
theorem rstreams_any (w : World) (d : DW) (D : StD) (hR : StR w d D) (hok : StOk D) (hb : (strR D).length ≤ 40000000) (hpr : ∀ x ∈ D.L, ∀ c ∈ x.f.coders, c.props.length ≤ 10000000) :
    Calls Tryd.prog 14 #[.agg #[d.pk, d.pl, d.ps, d.cs, d.fo, d.su, d.es]] w (NewBytes (strR D) w) := by
  obtain ⟨pk, pl, ps, cs, fo, su, es⟩ := d
  obtain ⟨r1, r2, r3, r4, r5⟩ := hR
  dsimp only at r1 r2 r3 r4 r5 ⊢
  subst r1
  obtain ⟨pao, pcap, rfl, -, -, -⟩ := r2.out
  obtain ⟨cao, ccap, rfl, -, -, -⟩ := r3.out
  obtain ⟨fao, fcap, rfl, -, -, -⟩ := r4.out
  obtain ⟨sao, scap, rfl, -, -, -⟩ := r5.out
  have b1 := hok.n1
  have b2 := hok.n2
  have b3 := hok.n3
  have b4 := hok.len
  obtain ⟨NP, hNP⟩ : ∃ n, D.ps.length = n := ⟨_, rfl⟩
  obtain ⟨NC, hNC⟩ : ∃ n, D.cs.length = n := ⟨_, rfl⟩
  obtain ⟨NS, hNS⟩ : ∃ n, D.S.length = n := ⟨_, rfl⟩
  obtain ⟨NL, hNL⟩ : ∃ n, D.L.length = n := ⟨_, rfl⟩
  rw [hNP] at b1 r2 ⊢
  rw [hNC] at b2 r3 ⊢
  rw [hNS] at b3 b4 r5 ⊢
  rw [hNL] at b4 r4 ⊢
  obtain ⟨wA, hwA⟩ : ∃ wA, wA = w.alloc (.cells #[pk, .int .u64 D.pl.toNat, .slice pao NP pcap, .slice cao NC ccap, .slice fao NL fcap, .slice sao NS scap, es] 29) := ⟨_, rfl⟩
  have FA : Fr [] w wA := hwA ▸ (Fr.refl _ _).alloc _
  obtain ⟨g, hg⟩ : ∃ g, g = w.heap.size := ⟨_, rfl⟩
  have HBX : ∀ wx, Fr [] wA wx → _ := fun wx (F2 : Fr [] wA wx) => wbox7 (hwA ▸ F2 : Fr [] (w.alloc (.cells #[pk, .int .u64 D.pl.toNat, .slice pao NP pcap, .slice cao NC ccap, .slice fao NL fcap, .slice sao NS scap, es] 29)) wx) (by simp)
  rw [← hg] at HBX
  have hP := r2.fr0 FA
  have hC := r3.fr0 FA
  have hF := r4.fr FA
  have hS := r5.fr FA
  have HPs : RowAt wA wA.heap.size 1 (.slice pao NP pcap) NP (u64v D.ps) := hP.up FA.size
  have HCs : RowAt wA wA.heap.size 2 (.slice cao NC ccap) NC (ckV D.cs) := hC.up FA.size
  unfold strR at hb ⊢
  rw [List.length_append, List.length_append] at hb
  have HW := Lib.hid hwA
  have HG := Lib.hid hg
  have HFA := Lib.hid FA
  have HBH := Lib.hid HBX
  have hok2 := hok
  go_enter Tryd.func14, Tryd.ntmps14
  refine only_seq (R := fun a' w' => w' = wA ∧ ∃ A, a' = ⟨A, []⟩ ∧ A.size = 335 ∧ Slots A [(1, .pointer (some ⟨g, 0, none⟩))]) ?_ ?_
  · clear HBX r2 r3 r4 r5 hP hC hF hS HPs HCs hok hok2 hb hpr hwA hg FA hNP hNC hNS hNL b4
    refine only_hide fun R HR => ?_
    go_wp2_with fail
    rw [← HW.out, ← HG.out]
    exact only_mk (HR.out _ _ ⟨rfl, _, rfl, rfl, fun _ => rfl, trivial⟩)
  rintro _ w' ⟨hw', A, rfl, hz, h1, -⟩
  subst w'
  refine only_seq (R := fun a' w' => w' = wA ∧ ∃ A, a' = ⟨A, []⟩ ∧ A.size = 335 ∧ Slots A [(1, .pointer (some ⟨g, 0, none⟩)), (3, .slice none 0 0)]) ?_ ?_
  · clear HBX r2 r3 r4 r5 hP hC hF hS HPs HCs hok hok2 hb hpr hwA hg FA hNP hNC hNS hNL
    refine only_hide fun R HR => ?_
    go_wp2_with fail
    exact only_mk (HR.out _ _ ⟨rfl, _, rfl, by simp [hz], fun _ => by simp [slot_set, h1], fun _ => by simp, trivial⟩)
  clear hz h1 A
  rintro _ w' ⟨hw', A, rfl, hz, h1, h3, -⟩
  subst w'
  refine only_seq (sp_packs wA g D.pl pao cao pcap NP ccap NC D.ps D.cs hNP hNC HPs HCs b1 b2 (by omega) (fun wx F => ⟨(HBX wx F).2.1, (HBX wx F).2.2.1, (HBX wx F).2.2.2.1⟩) A hz h1 h3) ?_
  clear hz h1 h3 A
  intro a w2 h
  refine only_seq (sp_folders hNL hF hok.fo (by omega) (fun wx F => (HBX wx F).2.2.2.2.1) hpr (by omega) a w2 h) ?_
  clear h w2 a
  intro a w2 h
  have hSL : NS = NL := b4
  have hBX2 : ∀ wx, Fr [] wA wx → wx.cell? ⟨g, 4, none⟩ = some (.slice fao NL fcap) ∧ wx.cell? ⟨g, 5, none⟩ = some (.slice sao NS scap) := fun wx F => ⟨(HBX wx F).2.2.2.2.1, (HBX wx F).2.2.2.2.2.1⟩
  obtain ⟨c2, hc2⟩ : ∃ c2, c2 = packsW D.pl D.ps D.cs ++ foldersW D.L := ⟨_, rfl⟩
  have hc2l := congrArg List.length hc2
  rw [List.length_append] at hc2l
  rw [← hc2] at h
  have HE := Lib.hid (show packsW D.pl D.ps D.cs ++ (foldersW D.L ++ subsW D.S D.L) = c2 ++ subsW D.S D.L by rw [hc2, List.append_assoc])
  rw [HE.out]
  refine only_seq (R := fun a' w' => ∃ A v, a' = ⟨A, []⟩ ∧ A.size = 335 ∧ Slots A [(1, .pointer (some ⟨g, 0, none⟩)), (3, v), (13, .bool false)] ∧ StB wA.heap.size wA (.slice none 0 0) v c2 w') ?_ ?_
  · obtain ⟨A, v, rfl, hz, h1, h3, S0⟩ := h
    have HS0 := Lib.hid S0
    clear HBX r2 r3 r4 r5 hP hC hF hS HPs HCs hok hok2 hb hpr hwA hg FA hNP hNC hNS hNL S0 hBX2 hSL hc2 hc2l
    refine only_hide fun R HR => ?_
    go_wp2_with fail
    exact only_mk (HR.out _ _ ⟨_, v, rfl, by simp [hz], ⟨fun _ => by simp [slot_set, h1], fun _ => by simp [slot_set, h3], fun _ => by simp, trivial⟩, HS0.out⟩)
  clear h w2 a
  rintro _ w2 ⟨A, v, rfl, hz, ⟨h1, h3, h13, -⟩, S0⟩
  refine only_seq (R := fun a' w' => ∃ A v, a' = ⟨A, []⟩ ∧ A.size = 335 ∧ Slots A [(1, .pointer (some ⟨g, 0, none⟩)), (3, v), (13, .bool false), (14, .bool false)] ∧ StB wA.heap.size wA (.slice none 0 0) v c2 w') ?_ ?_
  · have HS0 := Lib.hid S0
    clear HBX r2 r3 r4 r5 hP hC hF hS HPs HCs hok hok2 hb hpr hwA hg FA hNP hNC hNS hNL S0 hBX2 hSL hc2 hc2l
    refine only_hide fun R HR => ?_
    go_wp2_with fail
    exact only_mk (HR.out _ _ ⟨_, v, rfl, by simp [hz], ⟨fun _ => by simp [slot_set, h1], fun _ => by simp [slot_set, h3], fun _ => by simp [slot_set, h13], fun _ => by simp, trivial⟩, HS0.out⟩)
  clear h1 h3 h13 hz A S0 v w2
  rintro _ w2 ⟨A, v, rfl, hz, ⟨h1, h3, h13, h14, -⟩, S0⟩
  refine only_seq (R := SUe wA g c2 false false []) ?_ ?_
  · have HS0 := Lib.hid S0
    clear HBX r2 r3 r4 r5 hP hC hF hS HPs HCs hok hok2 hb hpr hwA hg FA hNP hNC hNS hNL S0 hBX2 hSL hc2 hc2l
    refine only_hide fun R HR => ?_
    go_wp2_with fail
    exact only_mk (HR.out _ _ ⟨_, v, _, rfl, by simp [hz], ⟨fun _ => by simp [slot_set, h1], fun _ => by simp [slot_set, h3], fun _ => by simp [slot_set, h13], fun _ => by simp [slot_set, h14], fun _ => by simp, trivial⟩, HS0.out, World.ownsRow_nil _ _ _ _⟩)
  clear h1 h3 h13 h14 hz A S0 v w2
  intro a w2 h
  refine only_seq (su_loop hNS hNL hSL hS hF (by omega) hok.n4 hBX2 hok.n5 a w2 h) ?_
  clear h w2 a
  intro a w2 h
  refine only_seq (su_say hNS hNL hSL hS hF (by omega) hok.n4 hBX2 hok.ne (by have := hok.n5 D.S.length; rw [List.take_of_length_le (Nat.le_refl _), List.take_of_length_le (by omega)] at this; exact this) (by omega) a w2 h) ?_
  clear h w2 a
  rintro _ w2 ⟨A, v, rfl, hz, h1, h3, S0⟩
  have HS0 := Lib.hid (show NewBytes (c2 ++ subsW D.S D.L) w (.returned v) w2 from ⟨v, rfl, wown_mono S0.own FA.size, FA.trans0 S0.fr⟩)
  clear HBX r2 r3 r4 r5 hP hC hF hS HPs HCs hok hok2 hb hpr hwA hg FA hNP hNC hNS hNL S0 hBX2 hSL hc2 hc2l HE
  generalize c2 ++ subsW D.S D.L = Y at *
  go_wp2_with fail
  exact bodyPost_ret (v := v) (by simp [results, Tryd.results14, go_sem, hz]) rfl HS0.out
end Go.Proofs.YtkodindajfdagaaDoor
