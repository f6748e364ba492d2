/- The law HeaderBounds: the walk where all is read. No condition. -/
import Derived.Test.YthdfjbliafdchaaHBndRM
import Derived.Test.YthdfjbliafdchaaHBndBM
namespace Go.Proofs.Ythdfjbliafdchaa
open Go.RowKit Go.Maps

theorem DescM.flat {w : World} {lo : Nat} {a0 a1 a2 a3 fv sv es : Value} {r : Bool × Strm × List Fil} (h : DescM w lo (.agg #[a0, a1, a2, a3, fv, sv, es]) r) :
    ∃ rows svs, FolsAt w lo fv rows r.2.1.fo ∧ w.ownsRow lo 51 1 sv svs.length svs ∧ SubsM w lo svs r.2.1.ss ∧ w.ownsRow lo 56 7 es r.2.2.length (fiV r.2.2) := by
  obtain ⟨psv, csv, fv', sv', es', rows, svs, e, -, -, h3, h4, h5, h6⟩ := h.ex
  injection e with e
  injection e with e
  injection e with _ e
  injection e with _ e
  injection e with _ e
  injection e with _ e
  injection e with e1 e
  injection e with e2 e
  injection e with e3 e
  subst e1 e2 e3
  exact ⟨rows, svs, h3, h4, h5, h6⟩
theorem box7 {w wr : World} {t : TypeId} {a b c d e f g : Value} (F : Fr [] (w.alloc (.cells #[a, b, c, d, e, f, g] t)) wr) :
    wr.cell? ⟨w.heap.size, 0, none⟩ = some a ∧ wr.cell? ⟨w.heap.size, 1, none⟩ = some b ∧ wr.cell? ⟨w.heap.size, 2, none⟩ = some c ∧ wr.cell? ⟨w.heap.size, 3, none⟩ = some d ∧ wr.cell? ⟨w.heap.size, 4, none⟩ = some e ∧ wr.cell? ⟨w.heap.size, 5, none⟩ = some f ∧ wr.cell? ⟨w.heap.size, 6, none⟩ = some g := by
  have key : ∀ (i : Nat), wr.cell? ⟨w.heap.size, i, none⟩ = #[a, b, c, d, e, f, g][i]? := fun i => by
    rw [F.cell (p := ⟨w.heap.size, i, none⟩) (by simp) (by simp), Go.Joins.cell_of_block (heap_alloc_new w _)]
  exact ⟨by rw [key]; rfl, by rw [key]; rfl, by rw [key]; rfl, by rw [key]; rfl, by rw [key]; rfl, by rw [key]; rfl, by rw [key]; rfl⟩
/-- A row's values, and where its packs and binds lie. -/
theorem RowM.view {w : World} {lo : Nat} {r : FoRow} {x : Fol} (h : RowM w lo r x) : ∃ ca cc ba bc pa pc sa sc, r.cv = .slice ca x.f.coders.length cc ∧ r.bv = .slice ba x.f.binds.length bc ∧ r.pv = .slice pa x.f.packs.length pc ∧ r.sv = .slice sa x.f.sizes.length sc ∧
    (∀ k p, x.f.packs[k]? = some p → ∃ b o, pa = some ⟨b, o, none⟩ ∧ b < w.heap.size ∧ w.cell? ⟨b, o + k, none⟩ = some (.int .i64 p)) ∧
    (∀ k (q : Int × Int), x.f.binds[k]? = some q → ∃ b o, ba = some ⟨b, o, none⟩ ∧ b < w.heap.size ∧ w.cell? ⟨b, o + k * 2, none⟩ = some (.int .i64 q.1) ∧ w.cell? ⟨b, o + k * 2 + 1, none⟩ = some (.int .i64 q.2)) := by
  obtain ⟨c, b, p, s, h1, k0, e, hV⟩ := h.fo
  injection e with e
  injection e with e
  injection e with e1 e
  injection e with e2 e
  injection e with e3 e
  injection e with e4 e
  subst e1 e2 e3 e4
  obtain ⟨ca, cc, e1, -⟩ := hV.co
  obtain ⟨ba, bc, e2, -, -, hbi⟩ := hV.bi.out
  obtain ⟨pa, pc, e3, -, -, hpa⟩ := hV.pa.out
  obtain ⟨sa, sc, e4, -⟩ := hV.si.out
  rw [u64v_length] at e4
  refine ⟨ca, cc, ba, bc, pa, pc, sa, sc, e1, e2, by rw [e3]; simp [iv], e4, fun k q hq => ?_, fun k q hq => hbi k q hq⟩
  have hk := (List.getElem?_eq_some_iff.1 hq).1
  obtain ⟨b, o, rfl, hb, hc⟩ := hpa k (by simpa [iv] using hk)
  exact ⟨b, o, rfl, hb, (hc k (by simpa [iv] using hk)).trans (iv_get _ _ _ hq)⟩
/-- A row of cells that isn't empty lies in a block. -/
theorem own_some {w : World} {base e sz : Nat} {ao : Option Addr} {n m cap : Nat} {xs : List Value} (h : w.ownsRow base e sz (.slice ao n cap) m xs) (hn : 0 < m) : ∃ g, ao = some ⟨g, 0, none⟩ ∧ base ≤ g ∧ g < w.heap.size := by
  have hlt := own_ltS h
  rcases h.2 with ⟨h1, h2⟩ | ⟨g', cap', cur, h1, -⟩
  · omega
  · injection h1 with h1 _ _
    subst h1
    exact ⟨g', rfl, hlt g' rfl⟩


/-- The sizes of the first k subs together. -/
def subSum (l : List Sub) (k : Nat) : Nat := ((l.take k).map fun y => y.size.toNat).sum
theorem sum_cut {l : List Sub} {k : Nat} {y : Sub} (h : l[k]? = some y) : subSum l (k + 1) = subSum l k + y.size.toNat := by
  unfold subSum
  rw [List.take_add_one, h]
  simp
theorem sum_part (l : List Sub) (k : Nat) : subSum l k ≤ (l.map fun y => y.size.toNat).sum := by
  unfold subSum
  conv => rhs; rw [← List.take_append_drop k l]
  rw [List.map_append, List.sum_append]
  omega

set_option maxRecDepth 100000 in
set_option maxHeartbeats 3000000 in
theorem bounds_ok (w : World) (ao : Option Addr) (cap : Nat) (b : List UInt8) (hv : Sl w (.slice ao b.length cap) (bv b)) (hb : b.length ≤ 8192) (hk : (parseL b).2 = 0) :
    Calls Try.prog 4 #[.slice ao b.length cap] w fun e w' => e = .returned (.bool true) ∧ Fr [] w w' := by
  have HV := Lib.hid hv
  clear hv
  have t0 : ¬ (8192 : Int) < (b.length : Int) := by omega
  go_enter Try.func4, Try.ntmps4
  go_wp2_with fail
  refine (awake_any w).mono ?_
  rintro e w1 ⟨rfl, F1⟩
  have hnice := parse_nice b hk
  have HA := Lib.hid (parse_val w1 _ b (HV.out.fr0 F1) hb _ _ _ _ _ _ _ 0 rfl rfl rfl hnice.st.cs rfl hnice.ss rfl hk)
  have HNi := Lib.hid hnice
  clear hk hnice
  generalize (parseL b).1 = r at HA HNi
  obtain ⟨pk, D, Fi⟩ := r
  dsimp only at HA
  have g1 := HNi.out.st.ps
  have g3 := HNi.out.fo
  have g5 := HNi.out.fl
  have gp := HNi.out.st.pl
  dsimp only at g1 g3 g5 gp
  obtain ⟨n3, h3⟩ : ∃ n, D.fo.length = n := ⟨_, rfl⟩
  obtain ⟨n5, h5⟩ : ∃ n, Fi.length = n := ⟨_, rfl⟩
  obtain ⟨n1, h1⟩ : ∃ n, D.ps.length = n := ⟨_, rfl⟩
  obtain ⟨pl, hp⟩ : ∃ n, D.pl = n := ⟨_, rfl⟩
  have H3 := Lib.hid h3
  have H5 := Lib.hid h5
  rw [h3, h5, h1, hp] at HA
  rw [h3] at g3
  rw [h5] at g5
  rw [h1] at g1
  rw [hp] at gp
  have HRI := Lib.hid HNi.out.rw
  have g1I : ¬ (b.length : Int) < (n1 : Int) := by omega
  have g3I : ¬ (b.length : Int) < (n3 : Int) := by omega
  have g5I : ¬ (b.length : Int) < (n5 : Int) := by omega
  have gpI : ¬ (1099511627776 : Int) < (pl : Int) := by omega
  have hB := Lib.hid hb
  clear h3 h5 h1 hp g1 gp hb
  go_wp2_with (go_at_call 12; refine HA.out.mono ?_; rintro e w2 ⟨pao, pcap, cao, ccap, fao, fcap, sao, scap, eao, ecap, rfl, hD, F2⟩; obtain ⟨rows, svs, hFo, hSv, hSu, hEs⟩ := hD.flat; have HFo := Lib.hid hFo; have HSv := Lib.hid hSv; have HSu := Lib.hid hSu; have HEs := Lib.hid hEs; clear hD hFo hSv hSu hEs; have F3 : Fr [] w2 (w2.alloc (.cells #[.bool pk, .int .u64 (pl : Int), .slice pao n1 pcap, .slice cao n1 ccap, .slice fao n3 fcap, .slice sao n3 scap, .slice eao n5 ecap] 36)) := (Fr.refl _ _).alloc _)
  obtain ⟨w3, hw3⟩ : ∃ w3, w3 = w2.alloc (.cells #[.bool pk, .int .u64 (pl : Int), .slice pao n1 pcap, .slice cao n1 ccap, .slice fao n3 fcap, .slice sao n3 scap, .slice eao n5 ecap] 36) := ⟨_, rfl⟩
  have HBox := Lib.hid (fun wx (F : Fr [] w3 wx) => box7 (hw3 ▸ F : Fr [] (w2.alloc (.cells #[.bool pk, .int .u64 (pl : Int), .slice pao n1 pcap, .slice cao n1 ccap, .slice fao n3 fcap, .slice sao n3 scap, .slice eao n5 ecap] 36)) wx))
  rw [← hw3] at F3 ⊢
  clear hw3
  have F03 := (F1.trans0 F2).trans0 F3
  try generalize decide (b.length < n3) = z1
  try generalize decide (b.length < n5) = z2
  try generalize decide (b.length < n1) = z3
  try generalize decide ((1099511627776 : Int) < (pl : Int)) = z4
  try generalize decide (1099511627776 < pl) = z4'
  try generalize decide ((8192 : Int) < (b.length : Int)) = z5
  go_loopw [5, 6] (fun mv iv wr => ∃ i : Nat, i ≤ n3 ∧ iv = .int .i64 (i : Int) ∧ mv = .int .i64 (totL (D.ss.take i) : Int) ∧ Fr [] w3 wr) (fun _ iv _ => n3 - (intOf iv).toNat)
  case atStart => exact ⟨0, Nat.zero_le _, rfl, rfl, Fr.refl _ _⟩
  case round =>
    obtain ⟨i, hi, rfl, rfl, F⟩ := hrel
    rename World => wA
    obtain ⟨d0, d1, d2, d3, d4, d5, d6⟩ := HBox.out _ F
    have hsl : D.ss.length = n3 := HNi.out.ss.trans H3.out
    by_cases hlt : i < n3
    rotate_left
    · have hltI : ¬ (i : Int) < (n3 : Int) := by omega
      have HTE := Lib.hid (show D.ss.take i = D.ss from List.take_of_length_le (by omega))
      rw [HTE.out]
      have hT : totL D.ss ≤ 67108864 := by
        have h1 := totL_le (B := b.length) D.ss (fun l hl => (HRI.out l hl).2)
        have h2 : D.ss.length * b.length ≤ 8192 * 8192 := Nat.mul_le_mul (by have := hB.out; omega) hB.out
        omega
      obtain ⟨T, hTT⟩ : ∃ T, totL D.ss = T := ⟨_, rfl⟩
      have HCt := Lib.hid (show pk = true ∨ T = strN Fi from hTT ▸ HNi.out.ct)
      have HFi := Lib.hid (show ∀ x ∈ Fi, x.stream = true → x.dir = false from HNi.out.fi)
      rw [hTT] at hT ⊢
      have hTI : (T : Int) ≤ 67108864 := by omega
      have hn5I : (n5 : Int) ≤ 8192 := by have := hB.out; omega
      clear hsl hT hTT hi hlt g3 g5
      go_wp2_with fail
      go_loopw [5, 13] (fun mv jv wq => ∃ j : Nat, j ≤ n5 ∧ jv = .int .i64 (j : Int) ∧ mv = .int .i64 ((T : Int) - (strN (Fi.take j) : Int)) ∧ wq = wA) (fun _ jv _ => n5 - (intOf jv).toNat)
      case atStart => exact ⟨0, Nat.zero_le _, rfl, by simp [strN], rfl⟩
      case round =>
        obtain ⟨j, hj, rfl, rfl, rfl⟩ := hrel
        rename World => wq
        by_cases hlj : j < n5
        rotate_left
        · have hljI : ¬ (j : Int) < (n5 : Int) := by omega
          have HFE := Lib.hid (show Fi.take j = Fi from List.take_of_length_le (by have := H5.out; omega))
          rw [HFE.out]
          rcases HCt.out with rfl | h0
          · generalize ((T : Int) - (strN Fi : Int)) = z at *
            go_wp2_with fail
            go_ret
            exact ⟨rfl, F03.trans0 F⟩
          · have h1 : ((T : Int) - (strN Fi : Int)) = 0 := by omega
            rw [h1]
            clear h0 h1
            cases pk
            all_goals
              go_wp2_with fail
              go_ret
              exact ⟨rfl, F03.trans0 F⟩
        have hljI : (j : Int) < (n5 : Int) := by omega
        obtain ⟨x, hx⟩ := some_get Fi j (by rw [H5.out]; exact hlj)
        obtain ⟨ge, rfl, -, -⟩ := own_some HEs.out (by have := H5.out; show 0 < Fi.length; omega)
        have hoe := own_frB (S := []) HEs.out (F3.trans0 F) (by simp)
        have hoe : wq.ownsRow (w1.heap.size + 1) 56 7 _ Fi.length (fiV Fi) := hoe
        rw [H5.out] at hoe
        have hg7 : ∀ i, i < 7 → wq.cell? ⟨ge, j * 7 + i, none⟩ = x.cells[i]? := fun i hi => by
          rw [hoe.cellAt (j * 7 + i) (by omega), fiV_get Fi j x hx i hi]
        have f1 : wq.cell? ⟨ge, j * 7 + 1, none⟩ = some (.bool x.stream) := hg7 1 (by omega)
        have f2 : wq.cell? ⟨ge, j * 7 + 2, none⟩ = some (.bool x.dir) := hg7 2 (by omega)
        have HSx := Lib.hid (strN_take hx)
        have HDx := Lib.hid (HFi.out x (List.mem_of_getElem? hx))
        have hz5 : strN (Fi.take j) ≤ n5 := Nat.le_trans (strN_le _) (by simp; omega)
        have hzI : (strN (Fi.take j) : Int) ≤ 8192 := by omega
        clear hg7 hoe hx hz5
        generalize strN (Fi.take j) = z at *
        generalize x.dir = xd at *
        cases hb : x.stream with
        | false =>
          rw [hb] at HSx f1
          simp only [Bool.false_eq_true, if_false] at HSx
          clear hb HDx
          go_wp2_with fail
          go_roundw
          case rel => exact ⟨j + 1, by omega, by go_num, by rw [HSx.out]; rfl, trivial⟩
          case measure => simp [intOf]; omega
        | true =>
          rw [hb] at HSx f1
          simp only [if_true] at HSx
          have hd := HDx.out hb
          subst hd
          have h0I : ((T : Int) - (z : Int)) - 1 = (T : Int) - ((z + 1 : Nat) : Int) := by omega
          have HW := Lib.hid h0I
          clear hb h0I HDx
          go_wp2_with fail
          go_roundw
          case rel => exact ⟨j + 1, by omega, by go_num, by rw [HSx.out]; first | rw [HW.out] | go_num, trivial⟩
          case measure => simp [intOf]; omega
    have hltI : (i : Int) < (n3 : Int) := by omega
    obtain ⟨x, hx⟩ := some_get D.fo i (by rw [H3.out]; exact hlt)
    obtain ⟨r, hr⟩ := some_get rows i (by rw [HFo.out.rw.len]; exact Nat.lt_of_lt_of_eq hlt H3.out.symm)
    obtain ⟨l, hl⟩ := some_get D.ss i (by omega)
    obtain ⟨v, hv⟩ := some_get svs i (by rw [HSu.out.len]; show i < D.ss.length; omega)
    have hz : FolSz x.f := HNi.out.st.fo x (List.mem_of_getElem? hx)
    have hok : RowOK x l := HNi.out.st.ss i x l hx hl
    have hll := HRI.out l (List.mem_of_getElem? hl)
    have hrn : rows.length = n3 := HFo.out.rw.len.trans H3.out
    obtain ⟨g, rfl, -, -⟩ := own_some HFo.out.own (by omega)
    have hsn : svs.length = n3 := HSu.out.len.trans hsl
    obtain ⟨gs, rfl, -, hgsl⟩ := own_some HSv.out (by omega)
    have HGs := Lib.hid (Nat.lt_of_lt_of_le hgsl (F3.trans0 F).size)
    have how := own_frB (S := []) HFo.out.own (F3.trans0 F) (by simp)
    have hos := own_frB (S := []) HSv.out (F3.trans0 F) (by simp)
    rw [hrn] at how
    rw [hsn] at hos
    have hg6 : ∀ j, j < 6 → wA.cell? ⟨g, i * 6 + j, none⟩ = r.cells[j]? := fun j hj => by
      rw [how.cellAt (i * 6 + j) (by omega), foV_get rows i r hr j hj]
    have hrow := (HFo.out.rw.row i r x hr hx).frT (F3.trans0 F) (by simp)
    have hvw := hos.cellAt i (by omega)
    rw [hv] at hvw
    have hvo := own_frB (S := []) (HSu.out.row i v l hv hl) (F3.trans0 F) (by simp)
    obtain ⟨vo, vc, rfl, -, -⟩ := own_outS hvo
    obtain ⟨gv, rfl, -, hgv⟩ := own_some hvo hll.1
    obtain ⟨ca, cc, ba, bc, pa, pc, sa, sc, e1, e2, e3, e4, hpk, hbd⟩ := hrow.view
    have hfo := hrow.fo
    obtain ⟨r1, r2, r3, r4, r5, r6⟩ := r
    dsimp only at e1 e2 e3 e4 hfo
    subst e1 e2 e3 e4
    have f0 : wA.cell? ⟨g, i * 6, none⟩ = some (.slice ca x.f.coders.length cc) := hg6 0 (by omega)
    have f1 : wA.cell? ⟨g, i * 6 + 1, none⟩ = some (.slice ba x.f.binds.length bc) := hg6 1 (by omega)
    have f2 : wA.cell? ⟨g, i * 6 + 2, none⟩ = some (.slice pa x.f.packs.length pc) := hg6 2 (by omega)
    have f3 : wA.cell? ⟨g, i * 6 + 3, none⟩ = some (.slice sa x.f.sizes.length sc) := hg6 3 (by omega)
    have f4 : wA.cell? ⟨g, i * 6 + 4, none⟩ = some (.bool r5) := hg6 4 (by omega)
    have f5 : wA.cell? ⟨g, i * 6 + 5, none⟩ = some (.int .u32 r6.toNat) := hg6 5 (by omega)
    have z1 := hz.1.c1
    have z8 := hz.1.c8
    have zb := hz.1.bl
    have zp := hz.1.pl
    have zi := insL_le4 x.f.coders
    have HZp := Lib.hid hz.1.pr
    have HZb := Lib.hid hz.1.br
    rw [hz.2.1] at f3 hfo
    have hsz := hz.2.1
    have hwl := whole_le hz
    have HAI := fun wy (G : Fr [] wA wy) => rallins_any wy _ x.f (hfo.fr G) (by omega)
    have HWh := fun wy (G : Fr [] wA wy) => rwhole_any wy _ x.f (hfo.fr G) (by omega) (by omega) (by omega)
    have hsum := hok.sum
    have HLe := Lib.hid hok.le
    have HPk := Lib.hid hpk
    have HBd := Lib.hid hbd
    obtain ⟨C, hC⟩ : ∃ C, x.f.coders.length = C := ⟨_, rfl⟩
    obtain ⟨B, hBl⟩ : ∃ B, x.f.binds.length = B := ⟨_, rfl⟩
    obtain ⟨P, hPl⟩ : ∃ P, x.f.packs.length = P := ⟨_, rfl⟩
    obtain ⟨I, hI⟩ : ∃ I, insL x.f.coders = I := ⟨_, rfl⟩
    obtain ⟨W, hW⟩ : ∃ W, (wholeOf x.f).toNat = W := ⟨_, rfl⟩
    obtain ⟨L, hL⟩ : ∃ L, l.length = L := ⟨_, rfl⟩
    rw [hC, hBl, hPl, hI] at HAI
    rw [hC, hBl, hPl, hW] at HWh
    rw [hC] at f0 f3 z1 z8 zb zi HZb
    rw [hBl] at f1 zb zp
    rw [hPl] at f2 zp
    rw [hI] at zp zi HZp HZb
    rw [hW] at hwl hsum
    rw [hL] at hll hvw
    have HVw := Lib.hid hvw
    have HAI := Lib.hid HAI
    have HWh := Lib.hid HWh
    have HBl := Lib.hid hBl
    have HPl := Lib.hid hPl
    have HL := Lib.hid hL
    have HSum := Lib.hid hsum
    have HVo := Lib.hid hvo
    have HTk := Lib.hid (totL_take hl)
    have hT : totL (D.ss.take i) ≤ 67108864 := by
      have h1 := totL_le (B := b.length) (D.ss.take i) (fun l hl => (HRI.out l (List.mem_of_mem_take hl)).2)
      have h2 : (D.ss.take i).length * b.length ≤ 8192 * 8192 := Nat.mul_le_mul (by have := hB.out; simp; omega) hB.out
      omega
    have c1 : ¬ (C : Int) < 1 := by omega
    have c8 : ¬ (8 : Int) < (C : Int) := by omega
    have c81 : (C : Int) ≤ 8 := by omega
    have cb1 : (B : Int) ≤ 8 := by omega
    have ci1 : (I : Int) ≤ 32 := by omega
    have cb : ((B : Int) != ((C : Int) - 1)) = false := by simp; omega
    have cp : ((P : Int) != ((I : Int) - (B : Int))) = false := by simp; omega
    have cp1 : (P : Int) ≤ 32 := by omega
    have cw : ¬ (1099511627776 : Int) < (W : Int) := by omega
    have cl1 : ¬ (L : Int) < 1 := by omega
    have cl2 : ¬ (b.length : Int) < (L : Int) := by omega
    have cl3 : (L : Int) ≤ 8192 := by have := hB.out; omega
    have HWl := Lib.hid hwl
    rw [hL] at HTk
    clear hgsl hgv hx hr hl hv hz hok hll hrn hsn hg6 how hos hrow hvo hpk hbd hfo zb zp zi z1 z8 hsz hwl hsum hsl hC hBl hPl hI hW hL
    generalize totL (D.ss.take i) = T at *
    have hTI : (T : Int) ≤ 67108864 := by omega
    have FA : Fr [] wA (wA.alloc (.cells #[.slice ca C cc, .slice ba B bc, .slice pa P pc, .slice sa C sc, .bool r5, .int .u32 r6.toNat] 47)) := (Fr.refl _ _).alloc _
    have HX := Lib.hid (fun wx (F : Fr [] (wA.alloc (.cells #[.slice ca C cc, .slice ba B bc, .slice pa P pc, .slice sa C sc, .bool r5, .int .u32 r6.toNat] 47)) wx) => box6 F)
    go_wp2_with (go_at_call 14; refine (HAI.out _ FA).mono ?_; rintro e w4 ⟨rfl, F4⟩; obtain ⟨m0, m1, m2, m3, m4, m5⟩ := HX.out _ F4)
    clear f0 f1 f2 f3 f4 f5
    go_loopw [9] (fun kv wq => ∃ k : Nat, k ≤ P ∧ kv = .int .i64 (k : Int) ∧ wq = w4) (fun kv _ => P - (intOf kv).toNat)
    case atStart => exact ⟨0, Nat.zero_le _, rfl, rfl⟩
    case round =>
      obtain ⟨k, hk, rfl, rfl⟩ := hrel
      rename World => w4
      by_cases hlk : k < P
      · have hlkI : (k : Int) < (P : Int) := by omega
        obtain ⟨p, hp⟩ := some_get x.f.packs k (by rw [HPl.out]; exact hlk)
        obtain ⟨bb, oo, rfl, hbb, hc⟩ := HPk.out k p hp
        have c0 := ((FA.trans0 F4).cell (p := ⟨bb, oo + k, none⟩) hbb (by simp)).trans hc
        have p0 : ¬ p < 0 := by have := HZp.out p (List.mem_of_getElem? hp); omega
        have p1 : ¬ (I : Int) ≤ p := by have := HZp.out p (List.mem_of_getElem? hp); omega
        clear hp hc
        go_wp2_with fail
        go_roundw
        case rel => exact ⟨k + 1, by omega, by go_num, trivial⟩
        case measure => simp [intOf]; omega
      have hlkI : ¬ (k : Int) < (P : Int) := by omega
      clear HPk HZp
      go_wp2_with fail
      go_loopw [10] (fun kv wq => ∃ k : Nat, k ≤ B ∧ kv = .int .i64 (k : Int) ∧ Fr [] w4 wq) (fun kv _ => B - (intOf kv).toNat)
      case atStart => exact ⟨0, Nat.zero_le _, rfl, Fr.refl _ _⟩
      case round =>
        obtain ⟨k, hk, rfl, F5⟩ := hrel
        rename World => wq
        obtain ⟨m0, m1, m2, m3, m4, m5⟩ := HX.out _ (F4.trans0 F5)
        by_cases hlk : k < B
        · have hlkI : (k : Int) < (B : Int) := by omega
          obtain ⟨q, hq⟩ := some_get x.f.binds k (by rw [HBl.out]; exact hlk)
          obtain ⟨bb, oo, rfl, hbb, hc1, hc2⟩ := HBd.out k q hq
          have F6 : Fr [] wq wq.drew := (Fr.refl _ _).drew
          have c0 := (((FA.trans0 F4).trans0 F5).cell (p := ⟨bb, oo + k * 2, none⟩) hbb (by simp)).trans hc1
          have c1' := (((FA.trans0 F4).trans0 F5).cell (p := ⟨bb, oo + k * 2 + 1, none⟩) hbb (by simp)).trans hc2
          have e0 := ((((FA.trans0 F4).trans0 F5).trans0 F6).cell (p := ⟨bb, oo + k * 2, none⟩) hbb (by simp)).trans hc1
          have e1 := ((((FA.trans0 F4).trans0 F5).trans0 F6).cell (p := ⟨bb, oo + k * 2 + 1, none⟩) hbb (by simp)).trans hc2
          obtain ⟨n0, n1', n2, n3', n4, n5'⟩ := HX.out _ ((F4.trans0 F5).trans0 F6)
          have hbr := HZb.out q (List.mem_of_getElem? hq)
          have p0 : ¬ q.1 < 0 := by omega
          have p1 : ¬ (I : Int) ≤ q.1 := by omega
          have p2 : ¬ q.2 < 0 := by omega
          have p3 : ¬ (C : Int) ≤ q.2 := by omega
          clear hq hc1 hc2 hbr
          generalize q.1 = q1 at *
          generalize q.2 = q2 at *
          go_upto_region 26 with fail
          go_region
          all_goals
            go_wp2_with fail
            go_roundw
            case rel => exact ⟨k + 1, by omega, by go_num, F5.trans0 F6⟩
            case measure => simp [intOf]; omega
        have hlkI : ¬ (k : Int) < (B : Int) := by omega
        clear HBd HZb
        obtain ⟨d0', d1', d2', d3', d4', d5', d6'⟩ := HBox.out _ (((F.trans0 FA).trans0 F4).trans0 F5)
        have hgs := ((FA.trans0 F4).trans0 F5).cell (p := ⟨gs, i, none⟩) HGs.out (by simp) |>.trans HVw.out
        go_wp2_with fail
        go_loopw [11, 12] (fun sv kv wz => ∃ k : Nat, k ≤ L ∧ kv = .int .i64 (k : Int) ∧ sv = .int .u64 (subSum l k : Int) ∧ wz = wq) (fun _ kv _ => L - (intOf kv).toNat)
        case atStart => exact ⟨0, Nat.zero_le _, rfl, rfl, rfl⟩
        case round =>
          obtain ⟨k, hk, rfl, rfl, rfl⟩ := hrel
          rename World => wq
          by_cases hlk : k < L
          · have hlkI : (k : Int) < (L : Int) := by omega
            obtain ⟨y, hy⟩ := some_get l k (by rw [HL.out]; exact hlk)
            have hvo := own_frB (S := []) HVo.out ((FA.trans0 F4).trans0 F5) (by simp)
            rw [HL.out] at hvo
            have hcy := (hvo.cellAt (k * 3) (by omega)).trans (sbV_get l k y hy).1
            have hle := HLe.out y (List.mem_of_getElem? hy)
            have hcut := sum_cut hy
            have hpt := sum_part l (k + 1)
            rw [HSum.out, hcut] at hpt
            have hwl := HWl.out
            have y0 : ¬ (1099511627776 : Int) < (y.size.toNat : Int) := by omega
            have HCut := Lib.hid hcut
            clear hvo hy hcut
            generalize subSum l k = z at *
            generalize y.size.toNat = u at *
            have yz : (z : Int) + (u : Int) ≤ 1099511627776 := by omega
            clear hle hpt hwl
            go_wp2_with fail
            go_roundw
            case rel => exact ⟨k + 1, by omega, by go_num, by rw [HCut.out]; go_num, trivial⟩
            case measure => simp [intOf]; omega
          have hlkI : ¬ (k : Int) < (L : Int) := by omega
          have HE := Lib.hid (show subSum l k = W by unfold subSum; rw [List.take_of_length_le (by have := HL.out; omega)]; exact HSum.out)
          rw [HE.out]
          go_wp2_with (go_at_call 15; refine (HWh.out _ ((FA.trans0 F4).trans0 F5)).mono ?_; rintro e w6 ⟨rfl, F6⟩; obtain ⟨h0, h1, h2, h3, h4, h5, h6⟩ := HBox.out _ ((((F.trans0 FA).trans0 F4).trans0 F5).trans0 F6); have hgs6 := (((FA.trans0 F4).trans0 F5).trans0 F6).cell (p := ⟨gs, i, none⟩) HGs.out (by simp) |>.trans HVw.out)
          go_roundw
          case rel => exact ⟨i + 1, by omega, by go_num, by rw [HTk.out]; go_num, ((((F.trans0 FA).trans0 F4).trans0 F5).trans0 F6)⟩
          case measure => simp [intOf]; omega
end Go.Proofs.Ythdfjbliafdchaa
