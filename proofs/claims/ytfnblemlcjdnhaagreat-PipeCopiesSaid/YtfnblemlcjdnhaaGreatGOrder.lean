/- Contracts: slices.Contains of ints; graph.Order, of a folder that hangs together. No condition but that. -/
import Derived.Test.YtfnblemlcjdnhaaGreatGOrdP
import Derived.Test.YtfnblemlcjdnhaaGreatGA
namespace Go.Proofs.YtfnblemlcjdnhaaGreat
open Go.RowKit

theorem fidx_mem (l : List Int) (x : Int) : 0 ≤ fidx l x ↔ x ∈ l := by
  unfold fidx
  cases h : l.findIdx? (· == x) with
  | none =>
    simp only [Int.reduceNeg]
    rw [List.findIdx?_eq_none_iff] at h
    constructor
    · intro h1; omega
    · intro h1
      have := h x h1
      simp at this
  | some k =>
    simp only
    refine ⟨fun _ => ?_, fun _ => by omega⟩
    have h1 := (List.findIdx?_eq_some_iff_getElem.1 h)
    obtain ⟨hk, he, _⟩ := h1
    have : l[k] = x := by simpa using he
    rw [← this]
    exact List.getElem_mem hk

theorem has_any (w : World) (v : Value) (l : List Int) (hl : Sl w v (iv l)) (x : Int) :
    Calls Tryz.prog 34 #[v, .int .i64 x] w fun e w' => e = .returned (.bool (decide (x ∈ l))) ∧ Same w w' := by
  have HL := Lib.hid hl
  obtain ⟨ao, cap, rfl, g, m, o⟩ := hl.out
  clear hl o
  simp only [iv_length] at *
  have HM := Lib.hid (fidx_mem l x)
  go_enter Tryz.func34, Tryz.ntmps34
  go_wp2_with (go_at_call 36; refine (index_any _ _ l HL.out x).mono ?_; rintro e w1 ⟨rfl, F1⟩)
  go_ret
  exact ⟨by rw [← decide_eq_decide.2 HM.out]; rfl, F1⟩

def ivn (l : List Nat) : List Int := l.map fun (k : Nat) => (k : Int)
theorem ivn_mem (l : List Nat) (x : Nat) : (x : Int) ∈ ivn l ↔ x ∈ l := by
  unfold ivn
  rw [List.mem_map]
  constructor
  · rintro ⟨a, ha, e⟩
    obtain rfl : a = x := by omega
    exact ha
  · exact fun h => ⟨x, h, rfl⟩
theorem ivn_len (l : List Nat) : (ivn l).length = l.length := by simp [ivn]
theorem ivn_snoc (l : List Nat) (x : Nat) : iv (ivn (l ++ [x])) = iv (ivn l) ++ [.int .i64 (x : Int)] := by simp [ivn, iv]

/-- A new slice: coders, each behind those that feed it, all of them. -/
def NewOrder (f : Folder) (w : World) (e : Ending) (w' : World) : Prop :=
  ∃ r out, e = .returned r ∧ w'.ownsRow w.heap.size 3 1 r out.length (iv (ivn out)) ∧ Ord f out ∧ out.length = f.coders.length ∧ Fr [] w w'

theorem fd_all {f : Folder} {k : Nat} {out : List Nat} (hfit : ∀ x ∈ f.feeders k, 0 ≤ x) (h : (f.feeders k).all (fun x => decide (x ∈ ivn out)) = true) : ∀ x ∈ fdOf f k, x ∈ out := fun x hx => by
  obtain ⟨y, hy, rfl⟩ := List.mem_map.1 hx
  have h1 := List.all_eq_true.1 h y hy
  simp only [decide_eq_true_eq] at h1
  have := hfit y hy
  rw [← ivn_mem]
  rwa [show ((y.toNat : Nat) : Int) = y from by omega]

theorem fd_some {f : Folder} {k : Nat} {out : List Nat} (hfit : ∀ x ∈ f.feeders k, 0 ≤ x) (h : (f.feeders k).all (fun x => decide (x ∈ ivn out)) = false) : ∃ x ∈ fdOf f k, x ∉ out := by
  rw [List.all_eq_false] at h
  obtain ⟨y, hy, h1⟩ := h
  refine ⟨y.toNat, List.mem_map.2 ⟨y, hy, rfl⟩, fun hm => h1 ?_⟩
  have := hfit y hy
  rw [← ivn_mem] at hm
  rw [show ((y.toNat : Nat) : Int) = y from by omega] at hm
  simpa using hm

theorem all_succ (l : List Int) (p : Int → Bool) (j : Nat) (y : Int) (h : l[j]? = some y) : (l.take (j + 1)).all p = ((l.take j).all p && p y) := by
  rw [take_succ3 _ _ _ h, List.all_append]; simp

set_option maxRecDepth 100000 in
theorem order_any (w : World) (v : Value) (f : Folder) (hf : Fo w v f) (np : Nat) (hH : Hangs f np) :
    Calls Tryz.prog 18 #[v] w (NewOrder f w) := by
  have HF := Lib.hid hf
  have HH := Lib.hid hH
  obtain ⟨cv, bv', p, s, h, k0, rfl, hV⟩ := hf
  obtain ⟨ao, cap, rfl, g, m, -⟩ := hV.co.out
  have hn8 := hH.most
  clear hV hH
  obtain ⟨wB, hwB⟩ : ∃ wB, wB = w.alloc (.cells #[.slice ao f.coders.length cap, bv', p, s, h, k0] 37) := ⟨_, rfl⟩
  have F0 : Fr [] w wB := hwB ▸ (Fr.refl _ _).alloc _
  have HSB := Lib.hid (show wB.heap.size = w.heap.size + 1 by rw [hwB]; simp)
  have HBX := Lib.hid (fun wx (F : Fr [] wB wx) => box6 (hwB ▸ F : Fr [] (w.alloc (.cells #[.slice ao f.coders.length cap, bv', p, s, h, k0] 37)) wx))
  go_enter Tryz.func18, Tryz.ntmps18
  go_wp2_with fail
  rw [← hwB]
  clear hwB
  generalize hN : f.coders.length = n at *
  have HN := Lib.hid hN
  clear hN
  go_loopw [3] (fun v wr => ∃ out : List Nat, wr.ownsRow wB.heap.size 3 1 v out.length (iv (ivn out)) ∧ Ord f out ∧ Fr [] wB wr) (fun v _ => match v with | .slice _ l _ => n - l | _ => 0)
  case atStart => exact ⟨[], World.ownsRow_nil _ _ _ _, Ord.nil f, Fr.refl _ _⟩
  case round =>
    obtain ⟨out, own, hO, F⟩ := hrel
    obtain ⟨vao, vcap, rfl, -⟩ := own_out own
    obtain ⟨d0, d1, d2, d3, d4, d5⟩ := HBX.out _ F
    have hle := hO.le
    rw [HN.out] at hle
    have HO := Lib.hid hO
    clear hO
    by_cases hlt : out.length < n
    · have hlt' : (out.length : Int) < (n : Int) := by omega
      go_wp2_with fail
      have hFr0 : ∃ F' : Fr [] wB wr, True := ⟨F, trivial⟩
      go_loopw [3, 20] (fun v i wq => ∃ k : Nat, k ≤ n ∧ v = .slice vao out.length vcap ∧ i = .int .i64 k ∧ (∀ c, c < k → c ∈ out ∨ ∃ x ∈ fdOf f c, x ∉ out) ∧ Fr [] wr wq) (fun _ i _ => n - (intOf i).toNat)
      case atStart => exact ⟨0, Nat.zero_le _, rfl, rfl, by omega, Fr.refl _ _⟩
      case round =>
        obtain ⟨k, hk, rfl, rfl, hst, F2⟩ := hrel
        have F3 := F.trans0 F2
        have own2 := own_fr own F2 (by simp)
        by_cases hkn : k < n
        · have hSO := Sl.of_own own2
          have HST := Lib.hid hst
          have hkc : k < f.coders.length := by rw [HN.out]; exact hkn
          have hfl := feedersTo_len f k (f.insOf k)
          have hfl2 : f.insOf k ≤ 4 := by unfold Folder.insOf; split; exact ins_le _; exact Nat.zero_le _
          have HFit := Lib.hid (fun x hx => (feeders_fit _ _ HH.out.named k hkc x hx).1)
          clear d0 d1 d2 d3 d4 d5 hst
          go_wp2_with (first
            | (go_at_call 34; refine (has_any _ _ (ivn out) hSO (k : Int)).mono ?_; rintro e w1 ⟨rfl, S1⟩; have F4 := F3.trans0 (S1.fr (S := [])); obtain ⟨d0, d1, d2, d3, d4, d5⟩ := HBX.out _ F4)
            | (go_at_call 35; refine (feeders_any _ _ f (HF.out.fr (F0.trans0 F4)) (by rw [HN.out]; omega) k hkc).mono ?_; rintro e w2 ⟨r, rfl, ownX, F5⟩; obtain ⟨xao, xcap, rfl, -⟩ := own_out ownX; have F6 := F4.trans0 F5; clear d0 d1 d2 d3 d4 d5))
          have SX := Sl.of_own ownX
          obtain ⟨xa1, xc1, hx1, xg, xm, xo⟩ := SX.out
          injection hx1 with e1 e2 e3
          subst e1 e3
          clear e2
          simp only [iv_length] at xo xg xm
          generalize hfd : f.feeders k = fd at *
          have HFD := Lib.hid hfd
          have SO2 := hSO.fr0 ((S1.fr (S := [])).trans0 F5)
          have HSO2 := Lib.hid SO2
          have hfl3 : fd.length ≤ 4 := by
            have e : f.feeders k = f.feedersTo k (f.insOf k) := rfl
            rw [hfd] at e
            rw [e]
            omega
          have HOwn2 := Lib.hid (own_fr own2 ((S1.fr (S := [])).trans0 F5) (by simp))
          clear hfl hfl2 hfd SX SO2 hSO own2 own ownX
          go_loopw [6, 31] (fun b i wz => ∃ j : Nat, j ≤ fd.length ∧ i = .int .i64 j ∧ b = .bool (!decide ((k : Int) ∈ ivn out) && (fd.take j).all (fun x => decide (x ∈ ivn out))) ∧ Fr [] w2 wz) (fun _ i _ => fd.length - (intOf i).toNat)
          case atStart => exact ⟨0, Nat.zero_le _, rfl, by simp, Fr.refl _ _⟩
          case round =>
            obtain ⟨j, hj, rfl, rfl, F7⟩ := hrel
            by_cases hjl : j < fd.length
            · obtain ⟨y, hy⟩ := some_get fd j hjl
              obtain ⟨xb, xof, rfl, hxb, xc⟩ := xo j hjl
              have y0 : wr.cell? ⟨xb, xof + j, none⟩ = some (.int .i64 y) := (F7.cell (p := ⟨xb, xof + j, none⟩) hxb (by simp)).trans ((xc j hjl).trans (iv_get _ _ _ hy))
              have HAS := Lib.hid (all_succ fd (fun x => decide (x ∈ ivn out)) j y hy)
              clear xo xc hy
              generalize hb : (!decide ((k : Int) ∈ ivn out) && (fd.take j).all (fun x => decide (x ∈ ivn out))) = b
              have HB := Lib.hid hb
              clear hb
              cases b with
              | true =>
                go_wp2_with (go_at_call 34; refine (has_any _ _ (ivn out) (HSO2.out.fr0 F7) y).mono ?_; rintro e w3 ⟨rfl, S3⟩)
                go_roundw
                case rel => exact ⟨j + 1, by omega, by go_num, by rw [HAS.out, ← Bool.and_assoc, HB.out]; rfl, F7.trans0 (S3.fr (S := []))⟩
                case measure => simp [intOf]; omega
              | false =>
                go_wp2_with fail
                go_roundw
                case rel => exact ⟨j + 1, by omega, by go_num, by rw [HAS.out, ← Bool.and_assoc, HB.out]; rfl, F7⟩
                case measure => simp [intOf]; omega
            · have hje : j = fd.length := by omega
              subst hje
              rw [List.take_length]
              clear xo
              generalize hb : (!decide ((k : Int) ∈ ivn out) && fd.all (fun x => decide (x ∈ ivn out))) = b
              have F8 := F6.trans0 F7
              have hown3 := own_fr HOwn2.out F7 (by simp)
              cases b with
              | true =>
                have hb2 : k ∉ out ∧ fd.all (fun x => decide (x ∈ ivn out)) = true := by simpa [ivn_mem] using hb
                have HO2 := Lib.hid (HO.out.snoc k hkc hb2.1 (fd_all (by rw [HFD.out]; exact HFit.out) (by rw [HFD.out]; exact hb2.2)))
                have t0 : ((out.length : Int) + 1 == (out.length : Int)) = false := by rw [beq_eq_false_iff_ne]; omega
                clear hb hb2
                go_wp2_with (at_builtin; refine wpList_append_sl sty_int rfl _ _ (by rfl) wB.heap.size _ _ _ (by rfl) (hown3.alloc _) _ [.int .i64 (k : Int)] (by rfl) (sl_one _ _ _) (by intro u hu; simp at hu; subst hu; rfl) (by simp; omega) (by simp; omega) (by have := F8.size; simp; omega) ?_)
                intro v' w3 own3 g3
                have F9 := (F8.alloc _).grown g3 (fun k hk => .inr (hown3.lt k hk).1)
                have hlt2 : out.length + 1 ≤ n := by have := HO2.out.le; rw [HN.out] at this; simpa using this
                obtain ⟨vao2, vcap2, rfl, -⟩ := own_out own3
                go_wp2_with fail
                go_roundw
                case rel => exact ⟨out ++ [k], by rw [ivn_snoc, List.length_append]; exact own3, HO2.out, F9⟩
                case measure => simp; omega
              | false =>
                have hb2 : k ∈ out ∨ ∃ x ∈ fdOf f k, x ∉ out := by
                  cases h1 : decide ((k : Int) ∈ ivn out) with
                  | true => exact .inl (by simpa [ivn_mem] using h1)
                  | false =>
                    rw [h1] at hb
                    exact .inr (fd_some (by rw [HFD.out]; exact HFit.out) (by rw [HFD.out]; simpa using hb))
                have HST2 := Lib.hid (show ∀ c, c < k + 1 → c ∈ out ∨ ∃ x ∈ fdOf f c, x ∉ out from fun c hc => by
                  by_cases he : c = k
                  · subst he; exact hb2
                  · exact HST.out c (by omega))
                clear hb hb2
                go_wp2_with fail
                go_roundw
                case rel => exact ⟨k + 1, by omega, rfl, by go_num, HST2.out, F2.trans0 (((S1.fr (S := [])).trans0 F5).trans0 F7)⟩
                case measure => simp [intOf]; omega
        · have hke : k = n := by omega
          subst hke
          have := HO.out.stuck HH.out (by rw [HN.out]; exact hst)
          rw [HN.out] at this
          omega
    · have hlt' : ¬ (out.length : Int) < (n : Int) := by omega
      have HE := Lib.hid (show out.length = n by omega)
      clear hlt hle
      go_wp2_with fail
      go_ret
      exact ⟨_, out, rfl, own_mono (base' := w.heap.size) own (by rw [HSB.out]; omega), HO.out, by rw [HN.out]; exact HE.out, F0.trans0 F⟩
end Go.Proofs.YtfnblemlcjdnhaaGreat
