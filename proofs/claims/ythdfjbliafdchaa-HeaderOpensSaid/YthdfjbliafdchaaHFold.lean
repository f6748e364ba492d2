/- Contract: the reader's folder. No condition but that lengths fit. -/
import Derived.Test.YthdfjbliafdchaaHFolM
namespace Go.Proofs.Ythdfjbliafdchaa
open Go.RowKit Go.Maps

theorem method_b (s : Rs) (l : List UInt8) : (s.method l).2.c.b = s.c.b := by
  unfold Rs.method
  split
  · rfl
  · split <;> rfl
theorem check_b (s : Rs) (b : Bool) (e : Nat) : (s.check b e).c.b = s.c.b := by unfold Rs.check; split <;> rfl
theorem two_b (s : Rs) (c : Bool) : (s.two c).2.c.b = s.c.b := by
  unfold Rs.two
  split
  · rw [Rs.number_cb, Rs.number_cb, Rs.at_c]
  · rw [Rs.at_c]
theorem take_b (s : Rs) (n : Nat) : (s.take n).2.c.b = s.c.b := Cur.take_b _ _
theorem propsOf_b (s : Rs) (c : Bool) : (s.propsOf c).2.c.b = s.c.b := by
  unfold Rs.propsOf
  split
  · rw [take_b, things_b, Rs.at_c]
  · rw [Rs.at_c]
theorem coder_b (s : Rs) : s.coder.2.c.b = s.c.b := by
  unfold Rs.coder Rs.coderA
  split
  · show (Rs.take _ _).2.c.b = _
    rw [take_b, check_b, byte_b]
  · unfold Rs.coderB
    dsimp only
    rw [propsOf_b, check_b, two_b, method_b]
    show (Rs.take _ _).2.c.b = _
    rw [take_b, check_b, byte_b]
theorem method_of (s : Rs) (l : List UInt8) : (s.method l).1 ≤ 7 := by
  unfold Rs.method
  split
  · show methodOf l ≤ 7
    unfold methodOf
    repeat' split
    all_goals omega
  · split <;> simp
theorem coder_method (s : Rs) : 0 ≤ s.coder.1.method ∧ s.coder.1.method ≤ 7 := by
  unfold Rs.coder Rs.coderA
  split
  · simp
  · unfold Rs.coderB
    dsimp only
    have := method_of ((s.byte.2.check (decide (s.byte.1 / 64 ≠ 0)) 5).take (s.byte.1 % 16)).2.ok ((s.byte.2.check (decide (s.byte.1 / 64 ≠ 0)) 5).take (s.byte.1 % 16)).1
    omega
theorem insL_snoc (l : List Coder) (c : Coder) : insL (l ++ [c]) = insL l + ins c.method := by simp [insL]
theorem insL_le (l : List Coder) : insL l ≤ 4 * l.length := by
  induction l with
  | nil => simp [insL]
  | cons c t ih =>
    have := ins_le c.method
    have e : insL (c :: t) = ins c.method + insL t := by simp [insL]
    rw [e]; simp; omega
theorem Rs.number_ok (w : World) (p cp : Nat) (q : Option Nat) (s : Rs) (d : DV) (h : RdAt w p cp q s d) (hb : s.c.b.length ≤ 10000000) :
    Calls Try.prog 72 #[.pointer (some ⟨cp, 0, none⟩)] w fun e w' => e = .returned (.int .u64 (s.number.1 : Int)) ∧ RdAt w' p cp q s.number.2 d ∧ Fr [cp] w w' := by
  refine (number_any w cp q s.c h.cur (by omega)).mono ?_
  rintro e w' ⟨rfl, hC, F⟩
  exact ⟨rfl, h.cur' F hC, F⟩

theorem one_lt {p b : Nat} (h : p < b) : ∀ i ∈ [p], i < b + 2 := by simp; omega
theorem two_lt2 {p cp b : Nat} (h : p < b ∧ cp < b) : ∀ i ∈ [p, cp], i < b + 2 := by simp; omega
theorem coder_ok (w : World) (p cp : Nat) (q : Option Nat) (s : Rs) (d : DV) (h : RdAt w p cp q s d) (hb : s.c.b.length ≤ 10000000) :
    Calls Try.prog 78 #[.pointer (some ⟨p, 0, none⟩)] w fun e w' => (∃ v, e = .returned (.agg #[.int .i64 s.coder.1.method, v]) ∧ Sm w' w.heap.size 5 1 v s.coder.1.props.length (bv s.coder.1.props)) ∧ RdAt w' p cp q s.coder.2 d ∧ Fr [p, cp] w w' := coder_any w p cp q s d h hb
theorem codersGo_bad {s : Rs} (h : s.ok.k ≠ 0) (m : Nat) (L : List Coder) : codersGo m s L = (L, s.ok) := by
  cases m with
  | zero => rfl
  | succ m => show (if s.ok.k ≠ 0 then _ else _) = _; rw [if_pos h]
theorem codersGo_ok {s : Rs} (h : s.ok.k = 0) (m : Nat) (L : List Coder) : codersGo (m + 1) s L = codersGo m s.coder.2 (L ++ [s.coder.1]) := by
  show (if s.ok.k ≠ 0 then _ else _) = _
  rw [if_neg (by simp [h]), Rs.ok_of_zero h]

theorem below_le (s : Rs) (m : Nat) : (s.below m).1 ≤ m := by
  unfold Rs.below Rs.lim
  split
  · simp
  · split
    · simp
    · rename_i h2
      simp at h2
      omega
theorem bindsGo_bad {s : Rs} (h : s.ok.k ≠ 0) (m i n : Nat) (B : List (Int × Int)) : bindsGo m i n s B = (B, s.ok) := by
  cases m with
  | zero => rfl
  | succ m => show (if s.ok.k ≠ 0 then _ else _) = _; rw [if_pos h]
theorem bindsGo_ok {s : Rs} (h : s.ok.k = 0) (m i n : Nat) (B : List (Int × Int)) : bindsGo (m + 1) i n s B = bindsGo m i n ((s.below i).2.below n).2 (B ++ [(((s.below i).1 : Int), (((s.below i).2.below n).1 : Int))]) := by
  show (if s.ok.k ≠ 0 then _ else _) = _
  rw [if_neg (by simp [h]), Rs.ok_of_zero h]
theorem ISet.ne {w : World} {b n : Nat} {S : Int → Bool} (h : ISet w b n S) : ∀ cs e z, w.heap[b]? ≠ some (.cells cs e z) := by
  obtain ⟨D, ⟨es, clock, h1, h2⟩, h3⟩ := h
  intro cs e z hc
  rw [h1] at hc
  cases hc
/-- The state between the two loops: the map of what is bound is made. -/
structure FolM (w : World) (p cp : Nat) (q : Option Nat) (d : DV) (LP : List (Coder × Value)) (cv bv' : Value) (B : List (Int × Int)) (mb m : Nat) (t : Rs) (wx : World) : Prop where
  mlo : w.heap.size + 2 ≤ mb
  iset : ISet wx mb m (fun x => decide (x ∈ B.map (·.1)))
  co : wx.ownsRow (w.heap.size + 2) 61 2 cv LP.length (coV LP)
  bi : wx.ownsRow (w.heap.size + 2) 50 2 bv' B.length (biV B)
  pm : PropsM wx (w.heap.size + 2) LP
  st : FoSt w p cp q t d cv bv' (.slice none 0 0) wx
theorem addI_snoc (B : List (Int × Int)) (x : Int × Int) : addI (fun y => decide (y ∈ B.map (·.1))) x.1 = fun y => decide (y ∈ (B ++ [x]).map (·.1)) := by
  funext y
  unfold addI
  rw [List.map_append, Bool.eq_iff_iff]
  simp only [Bool.or_eq_true, decide_eq_true_eq, List.mem_append, List.map_cons, List.map_nil, List.mem_singleton]
  exact Or.comm
/-- A row of the call's own is no map. -/
theorem row_ne_map {w : World} {base e sz : Nat} {v : Value} {n : Nat} {xs : List Value} (h : w.ownsRow base e sz v n xs) {mb m : Nat} {S : Int → Bool} (hs : ISet w mb m S) : mb ∉ v.ownBlock.toList := by
  intro hm
  have hk : v.ownBlock = some mb := by simpa using hm
  rcases h.2 with ⟨rfl, -⟩ | ⟨g, cap, cur, rfl, hb, hg, -⟩
  · simp [Value.ownBlock] at hk
  · simp [Value.ownBlock] at hk
    subst hk
    exact hs.ne _ _ _ hg

/-- Only the reader's blocks change. -/
theorem FolM.on2 {w : World} {p cp : Nat} {q : Option Nat} {d : DV} {LP : List (Coder × Value)} {cv bv' : Value} {B : List (Int × Int)} {mb m : Nat} {t t' : Rs} {wx wy : World} (h : FolM w p cp q d LP cv bv' B mb m t wx) (hl : p < w.heap.size ∧ cp < w.heap.size) (F : Fr [p, cp] wx wy) (R : RdAt wy p cp q t' d) : FolM w p cp q d LP cv bv' B mb m t' wy :=
  ⟨h.mlo, h.iset.frS F (by have := h.mlo; simp; omega), own_frB h.co F (two_lt2 hl), own_frB h.bi F (two_lt2 hl), h.pm.frT F (fun i hi => .inl (two_lt2 hl i hi)), h.st.on2 hl.1 hl.2 F R⟩
theorem FolM.fr0 {w : World} {p cp : Nat} {q : Option Nat} {d : DV} {LP : List (Coder × Value)} {cv bv' : Value} {B : List (Int × Int)} {mb m : Nat} {t : Rs} {wx wy : World} (h : FolM w p cp q d LP cv bv' B mb m t wx) (hl : p < w.heap.size ∧ cp < w.heap.size) (F : Fr [] wx wy) : FolM w p cp q d LP cv bv' B mb m t wy :=
  ⟨h.mlo, h.iset.fr F, own_frB h.co F (by simp), own_frB h.bi F (by simp), h.pm.frT F (by simp), h.st.fr0 hl.1 hl.2 F⟩

theorem sty_int : SlTy Try.prog 42 3 (.int .i64 0) 8 := ⟨Try.underlying42, by obtain ⟨i, h⟩ := info_parts info_in; exact ⟨i, h⟩, rfl⟩
/-- The state when the packed streams are read. -/
structure FolE (w : World) (p cp : Nat) (q : Option Nat) (d : DV) (LP : List (Coder × Value)) (cv bv' pv : Value) (B : List (Int × Int)) (P : List Int) (t : Rs) (wx : World) : Prop where
  co : wx.ownsRow (w.heap.size + 2) 61 2 cv LP.length (coV LP)
  bi : wx.ownsRow (w.heap.size + 2) 50 2 bv' B.length (biV B)
  pa : wx.ownsRow (w.heap.size + 2) 3 1 pv P.length (iv P)
  pm : PropsM wx (w.heap.size + 2) LP
  st : FoSt w p cp q t d cv bv' pv wx
theorem FolM.toE {w : World} {p cp : Nat} {q : Option Nat} {d : DV} {LP : List (Coder × Value)} {cv bv' : Value} {B : List (Int × Int)} {mb m : Nat} {t : Rs} {wx : World} (h : FolM w p cp q d LP cv bv' B mb m t wx) : FolE w p cp q d LP cv bv' (.slice none 0 0) B [] t wx :=
  ⟨h.co, h.bi, World.ownsRow_nil _ _ _ _, h.pm, h.st⟩
theorem FolE.on2 {w : World} {p cp : Nat} {q : Option Nat} {d : DV} {LP : List (Coder × Value)} {cv bv' pv : Value} {B : List (Int × Int)} {P : List Int} {t t' : Rs} {wx wy : World} (h : FolE w p cp q d LP cv bv' pv B P t wx) (hl : p < w.heap.size ∧ cp < w.heap.size) (F : Fr [p, cp] wx wy) (R : RdAt wy p cp q t' d) : FolE w p cp q d LP cv bv' pv B P t' wy :=
  ⟨own_frB h.co F (two_lt2 hl), own_frB h.bi F (two_lt2 hl), own_frB h.pa F (two_lt2 hl), h.pm.frT F (fun i hi => .inl (two_lt2 hl i hi)), h.st.on2 hl.1 hl.2 F R⟩
/-- One stream more is told. -/
theorem FolE.snoc {w : World} {p cp : Nat} {q : Option Nat} {d : DV} {LP : List (Coder × Value)} {cv bv' pv pv2 : Value} {B : List (Int × Int)} {P : List Int} {t : Rs} {wx w7 : World} {x : Int} {o : Obj} (h : FolE w p cp q d LP cv bv' pv B P t wx) (hl : p < w.heap.size ∧ cp < w.heap.size) (hq : ∀ k, q = some k → k < w.heap.size)
    (g7 : (wx.alloc o).grownBy w7 pv.ownBlock) (own7 : w7.ownsRow (w.heap.size + 2) 3 1 pv2 (P.length + 1) (iv P ++ [.int .i64 x])) :
    FoSt w p cp q t d cv bv' pv w7 ∧ FolE w p cp q d LP cv bv' pv2 B (P ++ [x]) t (w7.setCell ⟨w.heap.size + 1, 2, none⟩ pv2) := by
  have FA : Fr [] wx (wx.alloc o) := (Fr.refl _ _).alloc _
  have own6 := own_frB h.pa FA (by simp)
  obtain ⟨C7, F7, hb7⟩ := (h.st.fr0 hl.1 hl.2 FA).grown hl.1 hl.2 hq g7 own6
  have F8 : Fr [w.heap.size + 1] w7 (w7.setCell ⟨w.heap.size + 1, 2, none⟩ pv2) := (Fr.refl _ _).setCell (by simp) _
  have h8lo : ∀ i ∈ [w.heap.size + 1], i < w.heap.size + 2 := by simp
  refine ⟨C7, own_frB (own_frT (own_frB h.co FA (by simp)) F7 (fun i hi => .inr (own_type own6 i (by simpa using hi) _ (by decide)))) F8 h8lo,
    own_frB (own_frT (own_frB h.bi FA (by simp)) F7 (fun i hi => .inr (own_type own6 i (by simpa using hi) _ (by decide)))) F8 h8lo,
    by rw [List.length_append, show iv (P ++ [x]) = iv P ++ [.int .i64 x] by simp [iv]]; exact own_frB own7 F8 h8lo,
    ((h.pm.frT FA (by simp)).frT F7 (fun i hi => .inr (own_type own6 i (by simpa using hi) _ (by decide)))).frT F8 (fun i hi => .inl (h8lo i hi)), C7.put2 hl.1 hl.2 hq pv2⟩
theorem freeAt_eq {B : List (Int × Int)} {i I : Nat} (hi : i ≤ I) (hall : ∀ j, j < i → (j : Int) ∈ B.map (·.1)) (hend : i = I ∨ (i : Int) ∉ B.map (·.1)) : freeAt B I = i := by
  unfold freeAt
  by_cases e : i < I
  · have hn : (i : Int) ∉ B.map (·.1) := by rcases hend with h | h; omega; exact h
    rw [show (List.range I).find? _ = some i from by
      rw [List.find?_range_eq_some]
      exact ⟨by simpa using hn, by simpa using e, fun j hj => by simpa using hall j hj⟩]
    rfl
  · have e2 : i = I := by omega
    subst e2
    rw [show (List.range i).find? _ = none from by
      rw [List.find?_eq_none]
      intro j hj
      rw [List.mem_range] at hj
      simpa using hall j hj]
    rfl

/-- What the coders are when they are read. -/
def FolA (w : World) (p cp : Nat) (q : Option Nat) (n : Nat) (s2 : Rs) (d : DV) (v5 : Value) (wx : World) : Prop :=
  ∃ (LP : List (Coder × Value)) (cv : Value) (t : Rs), v5 = .int .i64 (insL (LP.map (·.1)) : Int) ∧ codersGo n s2 [] = (LP.map (·.1), t) ∧ t.ok = t ∧ (t.k = 0 → n ≤ 8) ∧ LP.length ≤ 8 ∧ t.c.b.length ≤ 10000000 ∧
    wx.ownsRow (w.heap.size + 2) 61 2 cv LP.length (coV LP) ∧ PropsM wx (w.heap.size + 2) LP ∧ FoSt w p cp q t d cv (.slice none 0 0) (.slice none 0 0) wx

set_option maxRecDepth 100000 in
set_option maxHeartbeats 4000000 in
theorem folder_any (w : World) (p cp : Nat) (q : Option Nat) (s : Rs) (d : DV) (h : RdAt w p cp q s d) (hb : s.c.b.length ≤ 10000000) :
    Calls Try.prog 65 #[.pointer (some ⟨p, 0, none⟩)] w (FolderR w p cp q s.folder d) := by
  have HLT := Lib.hid (And.intro h.lt h.cur.lt)
  have HLQ := Lib.hid h.ql
  have HNU := Lib.hid (fun w (h : RdAt w p cp q s d) => Rs.number_ok w p cp q s d h hb)
  have HB1 := Lib.hid (show s.number.2.c.b.length ≤ 10000000 by rw [Rs.number_cb]; exact hb)
  have HS := Lib.hid (show s.folder = Rs.folderC s.number.1 (s.number.2.check (decide (s.number.1 < 1) || decide (8 < s.number.1)) 10) from rfl)
  obtain ⟨wB, hwB⟩ : ∃ wB, wB = (w.alloc (.cells #[.slice none 0 0, .slice none 0 0, .slice none 0 0, .slice none 0 0, .bool false, .int .u32 0] 47)).alloc (.cells #[.slice none 0 0, .slice none 0 0, .slice none 0 0, .slice none 0 0, .bool false, .int .u32 0] 47) := ⟨_, rfl⟩
  have F0 : Fr [] w wB := hwB ▸ ((Fr.refl _ _).alloc _).alloc _
  have C0 : FoSt w p cp q s d (.slice none 0 0) (.slice none 0 0) (.slice none 0 0) wB := by
    refine ⟨h.fr0 F0, ?_, ?_, F0.mono (by simp)⟩
    · rw [hwB, Below.heap_alloc _ _ _ (by simp)]
      exact heap_alloc_new w _
    · rw [hwB]
      have := heap_alloc_new (w.alloc (.cells #[.slice none 0 0, .slice none 0 0, .slice none 0 0, .slice none 0 0, .bool false, .int .u32 0] 47)) (.cells #[.slice none 0 0, .slice none 0 0, .slice none 0 0, .slice none 0 0, .bool false, .int .u32 0] 47)
      simpa using this
  clear h hb
  generalize s.number.2 = t at *
  generalize s.number.1 = n at *
  go_enter Try.func65, Try.ntmps65
  go_upto_region 2 with fail
  rename_i K0 hK0
  rw [← hwB]
  clear hwB
  go_cut [4] (fun v wx => v = .int .u64 (n : Int) ∧ FoSt w p cp q t d (.slice none 0 0) (.slice none 0 0) (.slice none 0 0) wx)
  case first =>
    clear hK0
    obtain ⟨c0, -⟩ := cells9 C0.rd.blk
    go_wp2_with (go_at_call 72; refine (HNU.out _ C0.rd).mono ?_; rintro e w1 ⟨rfl, R1, F1⟩)
    go_meet
    case rel => exact ⟨rfl, C0.on2 HLT.out.1 HLT.out.2 F1.two2 R1⟩
  case rest =>
  obtain ⟨rfl, C1⟩ := hcut
  clear C0
  (refine hK0 _ _ ?_; clear hK0; refine wp_seq_k fun K1 hK1 => ?_)
  go_cut [4] (fun v wx => v = .int .u64 (n : Int) ∧ FoSt w p cp q (t.check (decide (n < 1) || decide (8 < n)) 10) d (.slice none 0 0) (.slice none 0 0) (.slice none 0 0) wx)
  case first =>
    clear hK1
    by_cases hk : t.ok.k = 0
    · have HK := Lib.hid (show (t.ok.k == 0) = true by rw [hk]; rfl)
      have HO := Lib.hid (Rs.ok_of_zero hk)
      by_cases h1 : n < 1
      · have a1 : (n : Int) < 1 := by omega
        have HE := Lib.hid (show t.check (decide (n < 1) || decide (8 < n)) 10 = t.fail 10 by unfold Rs.check; rw [if_pos ⟨hk, by simp; omega⟩, Rs.ok_of_zero hk])
        clear hk h1
        go_wp2_with (first
          | (have hq := R2; go_at_call 32; refine (rfail_any _ p cp q t d 10 R2).mono ?_; rintro e w3 ⟨rfl, R3, F3⟩)
          | (go_at_call 31; refine (ok_any _ p cp q t d C1.rd).mono ?_; rw [HK.out, HO.out]; rintro e w2 ⟨rfl, R2, F2⟩))
        go_meet
        case rel => rw [HE.out]; exact ⟨rfl, C1.on2 HLT.out.1 HLT.out.2 (F2.two1.tr2 F3.two1) R3⟩
      · have a1 : (1 : Int) ≤ (n : Int) := by omega
        by_cases h8 : 8 < n
        · have a2 : (8 : Int) < (n : Int) := by omega
          have HE := Lib.hid (show t.check (decide (n < 1) || decide (8 < n)) 10 = t.fail 10 by unfold Rs.check; rw [if_pos ⟨hk, by simp; omega⟩, Rs.ok_of_zero hk])
          clear hk h1 h8
          go_wp2_with (first
            | (have hq := R2; go_at_call 32; refine (rfail_any _ p cp q t d 10 R2).mono ?_; rintro e w3 ⟨rfl, R3, F3⟩)
            | (go_at_call 31; refine (ok_any _ p cp q t d C1.rd).mono ?_; rw [HK.out, HO.out]; rintro e w2 ⟨rfl, R2, F2⟩))
          go_meet
          case rel => rw [HE.out]; exact ⟨rfl, C1.on2 HLT.out.1 HLT.out.2 (F2.two1.tr2 F3.two1) R3⟩
        · have a2 : (n : Int) ≤ 8 := by omega
          have HE := Lib.hid (show t.check (decide (n < 1) || decide (8 < n)) 10 = t by unfold Rs.check; rw [if_neg (by simp; omega), Rs.ok_of_zero hk])
          clear hk h1 h8
          go_wp2_with (go_at_call 31; refine (ok_any _ p cp q t d C1.rd).mono ?_; rw [HK.out, HO.out]; rintro e w2 ⟨rfl, R2, F2⟩)
          go_meet
          case rel => rw [HE.out]; exact ⟨rfl, C1.on2 HLT.out.1 HLT.out.2 F2.two1 R2⟩
    · have HK := Lib.hid (show (t.ok.k == 0) = false by rw [beq_eq_false_iff_ne]; exact hk)
      have HE := Lib.hid (show t.check (decide (n < 1) || decide (8 < n)) 10 = t.ok by unfold Rs.check; rw [if_neg (fun h => hk h.1)])
      clear hk
      go_wp2_with (go_at_call 31; refine (ok_any _ p cp q t d C1.rd).mono ?_; rw [HK.out]; rintro e w2 ⟨rfl, R2, F2⟩)
      go_meet
      case rel => rw [HE.out]; exact ⟨rfl, C1.on2 HLT.out.1 HLT.out.2 F2.two1 R2⟩
  case rest =>
  clear C1
  obtain ⟨rfl, C2⟩ := hcut
  have HB2 := Lib.hid (show (t.check (decide (n < 1) || decide (8 < n)) 10).c.b.length ≤ 10000000 by rw [check_b]; exact HB1.out)
  have HN8 := Lib.hid (show (t.check (decide (n < 1) || decide (8 < n)) 10).ok.k = 0 → n ≤ 8 by
    intro h0
    unfold Rs.check at h0
    split at h0
    · rename_i hc
      rw [Rs.fail_ok (by decide), Rs.fail_k hc.1] at h0
      cases h0
    · rename_i hc
      rw [Rs.ok_ok] at h0
      have h2 := fun hh => hc ⟨h0, hh⟩
      simp at h2
      omega)
  generalize t.check (decide (n < 1) || decide (8 < n)) 10 = s2 at *
  (refine hK1 _ _ ?_; clear hK1; refine wp_seq_k fun K2 hK2 => ?_)
  go_cut [5] (fun v wx => v = .int .i64 0 ∧ FoSt w p cp q s2 d (.slice none 0 0) (.slice none 0 0) (.slice none 0 0) wx)
  case first =>
    clear hK2
    go_wp2_with fail
    go_meet
    case rel => exact ⟨rfl, C2⟩
  case rest =>
  clear C2
  obtain ⟨rfl, C2⟩ := hcut
  (refine hK2 _ _ ?_; clear hK2; refine wp_seq_k fun K3 hK3 => ?_)
  go_cut [5, 6, 7] (fun v5 _ _ wx => FolA w p cp q n s2 d v5 wx)
  case first =>
    clear hK3
    go_wp2_with fail
    go_loopw [5, 6] (fun v5 i wr => ∃ (k : Nat) (LP : List (Coder × Value)) (cv : Value) (u : Rs), k ≤ n ∧ i = .int .i64 (k : Int) ∧ v5 = .int .i64 (insL (LP.map (·.1)) : Int) ∧ LP.length = k ∧ codersGo n s2 [] = codersGo (n - k) u (LP.map (·.1)) ∧ u.c.b.length ≤ 10000000 ∧ (u.ok.k = 0 → n ≤ 8) ∧ LP.length ≤ 8 ∧
      wr.ownsRow (w.heap.size + 2) 61 2 cv k (coV LP) ∧ PropsM wr (w.heap.size + 2) LP ∧ FoSt w p cp q u d cv (.slice none 0 0) (.slice none 0 0) wr) (fun _ i _ => n - (intOf i).toNat)
    case atStart => exact ⟨0, [], .slice none 0 0, s2, Nat.zero_le _, rfl, by simp [insL], rfl, by simp, HB2.out, HN8.out, by simp, World.ownsRow_nil _ _ _ _, PropsM.nil _ _, C2⟩
    case round =>
      obtain ⟨k, LP, cv, u, hk, rfl, rfl, hLk, hgo, hub, h8, hL8, own, hPM, CU⟩ := hrel
      obtain ⟨oao, ocap, rfl, -⟩ := own_outS own
      have HOwn := Lib.hid own
      have HGo := Lib.hid hgo
      have HLk := Lib.hid hLk
      have HUB := Lib.hid hub
      have HPM := Lib.hid hPM
      have HL8 := Lib.hid hL8
      clear own hgo hLk hub hPM hL8
      by_cases hz : u.ok.k = 0
      · have HK := Lib.hid (show (u.ok.k == 0) = true by rw [hz]; rfl)
        have HO := Lib.hid (Rs.ok_of_zero hz)
        have hn8 : (n : Int) ≤ 8 := by have := h8 hz; omega
        have HN := Lib.hid (h8 hz)
        by_cases hlt : k < n
        · have hltI : (k : Int) < (n : Int) := by omega
          have HG2 := Lib.hid (show codersGo n s2 [] = codersGo (n - (k + 1)) u.coder.2 (LP.map (·.1) ++ [u.coder.1]) by
            rw [HGo.out, show n - k = (n - (k + 1)) + 1 by omega, codersGo_ok hz])
          have HCO := Lib.hid (fun wy (R : RdAt wy p cp q u d) => coder_ok wy p cp q u d R HUB.out)
          have HUB2 := Lib.hid (show u.coder.2.c.b.length ≤ 10000000 by rw [coder_b]; exact HUB.out)
          have hMe := coder_method u
          clear hz h8
          generalize u.coder.2 = u2 at *
          generalize u.coder.1 = c at *
          have hi1 : (insL (LP.map (·.1)) : Int) ≤ 32 := by have h1 := insL_le (LP.map (·.1)); rw [List.length_map] at h1; have := HL8.out; omega
          have hi2 : (ins c.method : Int) ≤ 4 := by have := ins_le c.method; omega
          have HIS := Lib.hid (show insL ((LP ++ [(c, Value.slice none 0 0)]).map (·.1)) = insL (LP.map (·.1)) + ins c.method by simp [insL])
          go_wp2_with (first
            | (at_builtin; refine wpList_append_struct sty_co rfl _ _ (by rfl) (w.heap.size + 2) _ _ _ (by rfl) own5 w4.heap.size [.int .i64 c.method, .slice vao c.props.length vcap] (by rfl) hgS rfl rfl (by have := HN.out; omega) (by decide) sz5 ?_; intro v2 w6 own6 g6; obtain ⟨vao2, vcap2, rfl, -⟩ := own_outS own6; obtain ⟨C6, F6, hb6⟩ := (C5.fr0 HLT.out.1 HLT.out.2 ((Fr.refl _ _).alloc _)).grown HLT.out.1 HLT.out.2 HLQ.out g6 own5; obtain ⟨k0, k1, k2, k3, k4, k5, kz⟩ := cells6 C6.b1; have C7 := C6.put0 HLT.out.1 HLT.out.2 HLQ.out (.slice vao2 (k + 1) vcap2))
            | (have hq := C4; go_at_call 16; refine (ins_any _ c.method _).mono ?_; rintro e w4 ⟨rfl, F4⟩; have FA := ((Fr.refl [] w3).alloc (.cells #[.int .i64 c.method, .slice vao c.props.length vcap] 61)).trans0 F4; have hgc : w4.heap[w3.heap.size]? = some (.cells #[.int .i64 c.method, .slice vao c.props.length vcap] 61 (0, 0)) := (F4.block _ (by simp) (by simp)).trans (heap_alloc_new w3 _); have C5 := C4.fr0 HLT.out.1 HLT.out.2 FA; obtain ⟨m0, m1, -⟩ := cells2 hgc; obtain ⟨j0, j1, j2, j3, j4, j5, jz⟩ := cells6 C5.b1; have F24 : Fr [p, cp] wr w4 := (F2.two1.tr2 F3).trans0 FA; have own5 := own_frB HOwn.out (F24.alloc (.cells #[.int .i64 c.method, .slice vao c.props.length vcap] 61)) (two_lt2 HLT.out); have hgS := heap_alloc_new w4 (.cells #[.int .i64 c.method, .slice vao c.props.length vcap] 61); have sz5 : w.heap.size + 2 ≤ (w4.alloc (.cells #[.int .i64 c.method, .slice vao c.props.length vcap] 61)).heap.size := (by rw [World.size_alloc]; have := C5.lt; omega))
            | (have hq := C3; go_at_call 78; refine (HCO.out _ C3.rd).mono ?_; rintro e w3 ⟨⟨v, rfl, hv⟩, R3, F3⟩; obtain ⟨vao, vcap, rfl, -⟩ := hv.out; have C4 := C3.on2 HLT.out.1 HLT.out.2 F3 R3)
            | (go_at_call 31; refine (ok_any _ p cp q u d CU.rd).mono ?_; rw [HK.out, HO.out]; rintro e w2 ⟨rfl, R2, F2⟩; have C3 := CU.on2 HLT.out.1 HLT.out.2 F2.two1 R2))
          have F7 : Fr [w.heap.size + 1] w6 (w6.setCell ⟨w.heap.size + 1, 0, none⟩ (.slice vao2 (k + 1) vcap2)) := (Fr.refl _ _).setCell (by simp) _
          have hlo : w.heap.size + 2 ≤ w2.heap.size := C3.lt
          have PM5 := ((HPM.out.frT F24 (fun i hi => .inl (two_lt2 HLT.out i hi))).snoc ((hv.mono hlo).fr0 FA)).frT ((Fr.refl [] w4).alloc (.cells #[.int .i64 c.method, .slice vao c.props.length vcap] 61)) (by simp)
          have PM6 := PM5.frT F6 (fun i hi => .inr (own_type own5 i (by simpa using hi) _ (by decide)))
          have PM7 := PM6.frT F7 (fun i hi => .inl (by rw [List.mem_singleton.1 hi]; omega))
          have own7 := own_frB own6 F7 (fun i hi => by rw [List.mem_singleton.1 hi]; omega)
          go_roundw
          case rel => exact ⟨k + 1, LP ++ [(c, .slice vao c.props.length vcap)], .slice vao2 (k + 1) vcap2, u2, by omega, by go_num, by rw [List.map_append]; simp [insL], by rw [List.length_append, HLk.out]; rfl, by rw [HG2.out, List.map_append]; rfl, HUB2.out, fun _ => HN.out, by rw [List.length_append, HLk.out]; simp; have := HN.out; omega, by rw [coV_append]; exact own7, PM7, C7⟩
          case measure => simp [intOf]; omega
        · have hke : k = n := by omega
          have HE := Lib.hid (show codersGo n s2 [] = (LP.map (·.1), u) by rw [HGo.out, hke, Nat.sub_self]; show (_, u.ok) = _; rw [HO.out])
          have hltI : (n : Int) ≤ (k : Int) := by omega
          clear hz h8
          go_wp2_with (go_at_call 31; refine (ok_any _ p cp q u d CU.rd).mono ?_; rw [HK.out, HO.out]; rintro e w2 ⟨rfl, R2, F2⟩)
          go_meet
          case rel => exact ⟨LP, _, u, rfl, HE.out, HO.out, fun _ => HN.out, HL8.out, HUB.out, by rw [HLk.out]; exact own_frB HOwn.out F2 (one_lt HLT.out.1), HPM.out.frT F2 (fun i hi => .inl (one_lt HLT.out.1 i hi)), CU.on2 HLT.out.1 HLT.out.2 F2.two1 R2⟩
      · have HK := Lib.hid (show (u.ok.k == 0) = false by rw [beq_eq_false_iff_ne]; exact hz)
        have HE := Lib.hid (show codersGo n s2 [] = (LP.map (·.1), u.ok) by rw [HGo.out, codersGo_bad hz])
        have HZ := Lib.hid hz
        clear hz h8
        go_wp2_with (go_at_call 31; refine (ok_any _ p cp q u d CU.rd).mono ?_; rw [HK.out]; rintro e w2 ⟨rfl, R2, F2⟩)
        go_meet
        case rel => exact ⟨LP, _, u.ok, rfl, HE.out, Rs.ok_ok u, fun h => absurd h HZ.out, HL8.out, HUB.out, by rw [HLk.out]; exact own_frB HOwn.out F2 (one_lt HLT.out.1), HPM.out.frT F2 (fun i hi => .inl (one_lt HLT.out.1 i hi)), CU.on2 HLT.out.1 HLT.out.2 F2.two1 R2⟩
  case rest =>
  clear C2
  obtain ⟨LP, cv, t1, rfl, hgo1, hto1, h81, hL81, htb1, own1, hPM1, C3⟩ := hcut
  have HGo1 := Lib.hid hgo1
  have HTO1 := Lib.hid hto1
  have H81 := Lib.hid h81
  have HL81 := Lib.hid hL81
  have HTB1 := Lib.hid htb1
  obtain ⟨I, hI⟩ : ∃ I, insL (LP.map (·.1)) = I := ⟨_, rfl⟩
  have HI := Lib.hid hI
  have hI32 : I ≤ 32 := by have h1 := insL_le (LP.map (·.1)); rw [List.length_map] at h1; omega
  rw [hI]
  clear hI hgo1 hto1 h81 hL81 htb1
  (refine hK3 _ _ ?_; clear hK3; refine wp_seq_k fun K4 hK4 => ?_)
  have hmm := @run_makeMap Try.prog
  go_cut [8] (fun v8 wx => ∃ mb, v8 = .map (some mb) ∧ FolM w p cp q d LP cv (.slice none 0 0) [] mb 0 t1 wx)
  case first =>
    clear hK4
    go_wp2_with fail
    go_meet
    case rel =>
      have FA : Fr [] wc (wc.alloc (.map #[] 0)) := (Fr.refl _ _).alloc _
      refine ⟨wc.heap.size, rfl, C3.lt, ?_, own_frB own1 FA (by simp), World.ownsRow_nil _ _ _ _, hPM1.frT FA (by simp), C3.fr0 HLT.out.1 HLT.out.2 FA⟩
      simpa using ISet.made wc
  case rest =>
  clear hmm own1 hPM1 C3
  obtain ⟨mb, rfl, M1⟩ := hcut
  (refine hK4 _ _ ?_; clear hK4; refine wp_seq_k fun K5 hK5 => ?_)
  go_cut [9, 10] (fun _ _ wx => ∃ B bv' m t2, bindsGo (n - 1) I n t1 [] = (B, t2) ∧ t2.ok = t2 ∧ B.length ≤ 8 ∧ m ≤ 8 ∧ t2.c.b.length ≤ 10000000 ∧ FolM w p cp q d LP cv bv' B mb m t2 wx)
  case first =>
    clear hK5
    go_wp2_with fail
    go_loopw [9] (fun i wr => ∃ (k : Nat) (B : List (Int × Int)) (bv' : Value) (u : Rs), k ≤ n - 1 ∧ i = .int .i64 ((k + 1 : Nat) : Int) ∧ B.length = k ∧ bindsGo (n - 1) I n t1 [] = bindsGo (n - 1 - k) I n u B ∧ u.c.b.length ≤ 10000000 ∧ (u.ok.k = 0 → n ≤ 8) ∧ B.length ≤ 8 ∧ FolM w p cp q d LP cv bv' B mb k u wr) (fun i _ => n - (intOf i).toNat)
    case atStart => exact ⟨0, [], _, t1, Nat.zero_le _, rfl, rfl, by simp, HTB1.out, by rw [HTO1.out]; exact H81.out, by simp, M1⟩
    case round =>
      obtain ⟨k, B, bv', u, hk, rfl, hBk, hgo, hub, h8, hB8, MU⟩ := hrel
      obtain ⟨oao, ocap, rfl, -⟩ := own_outS MU.bi
      have HGo := Lib.hid hgo
      have HBk := Lib.hid hBk
      have HUB := Lib.hid hub
      have HB8 := Lib.hid hB8
      have HMU := Lib.hid MU
      clear hgo hub hB8 MU hBk
      by_cases hz : u.ok.k = 0
      · have HK := Lib.hid (show (u.ok.k == 0) = true by rw [hz]; rfl)
        have HO := Lib.hid (Rs.ok_of_zero hz)
        have hn8 : (n : Int) ≤ 8 := by have := h8 hz; omega
        have HN := Lib.hid (h8 hz)
        by_cases hlt : k + 1 < n
        · have hltI : ((k + 1 : Nat) : Int) < (n : Int) := by omega
          have HG2 := Lib.hid (show bindsGo (n - 1) I n t1 [] = bindsGo (n - 1 - (k + 1)) I n ((u.below I).2.below n).2 (B ++ [(((u.below I).1 : Int), (((u.below I).2.below n).1 : Int))]) by
            rw [HGo.out, show n - 1 - k = (n - 1 - (k + 1)) + 1 by omega, bindsGo_ok hz])
          have HW1 := Lib.hid (fun wy (R : RdAt wy p cp q u d) => below_ok wy p cp q u d I (by omega) R HUB.out)
          have HUB1 := Lib.hid (show (u.below I).2.c.b.length ≤ 10000000 by rw [below_b]; exact HUB.out)
          have HW2 := Lib.hid (fun wy (R : RdAt wy p cp q (u.below I).2 d) => below_ok wy p cp q (u.below I).2 d n (by have := HN.out; omega) R HUB1.out)
          have HUB2 := Lib.hid (show ((u.below I).2.below n).2.c.b.length ≤ 10000000 by rw [below_b]; exact HUB1.out)
          have ha := below_le u I
          clear hz h8
          generalize ((u.below I).2.below n).2 = u2 at *
          generalize ((u.below I).2.below n).1 = b at *
          generalize (u.below I).2 = u1 at *
          generalize (u.below I).1 = a at *
          have haI : (a : Int) ≤ 32 := by omega
          have hwf : (Lit.int .i64 (a : Int)).wf = true := WalkArith.wf_i64 (by omega)
          go_wp2_with (first
            | (at_builtin; refine wpList_append_struct sty_bi rfl _ _ (by rfl) (w.heap.size + 2) _ _ _ (by rfl) own6 w5.heap.size [.int .i64 (a : Int), .int .i64 (b : Int)] (by rfl) hgS rfl rfl (by have := HN.out; have := HBk.out; omega) (by decide) sz6 ?_; intro v2 w7 own7 g7; obtain ⟨vao2, vcap2, rfl, -⟩ := own_outS own7; obtain ⟨C7, F7, hb7⟩ := (C5.fr0 HLT.out.1 HLT.out.2 ((Fr.refl _ _).alloc _)).grown HLT.out.1 HLT.out.2 HLQ.out g7 own6; obtain ⟨k0, k1, k2, k3, k4, k5, kz⟩ := cells6 C7.b1; have C8 := C7.put1 HLT.out.1 HLT.out.2 HLQ.out (.slice vao2 (B.length + 1) vcap2))
            | (at_mapUpdate; refine wpList_iset rfl _ _ _ rfl rfl M4a.iset (by rfl) (by rfl) hwf (by have := HN.out; omega) ?_; intro w5 IS5 g5; have F5 : Fr [mb] (w4.alloc (.cells #[.int .i64 (a : Int), .int .i64 (b : Int)] 50)) w5 := (Fr.refl _ _).grown g5 (fun i hi => .inl (by cases hi; simp)); have hgb5 : w5.heap[w4.heap.size]? = some (.cells #[.int .i64 (a : Int), .int .i64 (b : Int)] 50 (0, 0)) := (F5.block _ (by simp) (by have := M4.iset.lt; simp; omega)).trans (heap_alloc_new w4 _); obtain ⟨b0, b1, -⟩ := cells2 hgb5; have C5 := M4a.st.on HLT.out.1 HLT.out.2 F5 (fun i hi => .inr (.inr (by rw [List.mem_singleton.1 hi]; exact M4a.mlo))) (M4a.st.rd.fr F5 (by have := M4a.mlo; have := HLT.out; simp; omega) (by have := M4a.mlo; have := HLT.out; simp; omega) (fun j hj hm => by have := M4a.mlo; have := HLQ.out j hj; have := List.mem_singleton.1 hm; omega)); obtain ⟨j0, j1, j2, j3, j4, j5, jz⟩ := cells6 C5.b1; have hnm := (fun i (hi : i ∈ [mb]) => (show i < w.heap.size + 2 ∨ ∀ cs z, (w4.alloc (.cells #[.int .i64 (a : Int), .int .i64 (b : Int)] 50)).heap[i]? ≠ some (.cells cs 50 z) from .inr (by rw [List.mem_singleton.1 hi]; exact fun cs z => M4a.iset.ne cs _ z))); have own6 := own_frB (own_frT M4a.bi F5 hnm) ((Fr.refl [] w5).alloc (.cells #[.int .i64 (a : Int), .int .i64 (b : Int)] 50)) (by simp); have hgS := heap_alloc_new w5 (.cells #[.int .i64 (a : Int), .int .i64 (b : Int)] 50); have sz6 : w.heap.size + 2 ≤ (w5.alloc (.cells #[.int .i64 (a : Int), .int .i64 (b : Int)] 50)).heap.size := (by rw [World.size_alloc]; have := C5.lt; omega))
            | (have hq := M3; go_at_call 79; refine (HW2.out _ M3.st.rd).mono ?_; rintro e w4 ⟨rfl, R4, F4⟩; have M4 := M3.on2 HLT.out F4 R4; have M4a := M4.fr0 HLT.out ((Fr.refl [] w4).alloc (.cells #[.int .i64 (a : Int), .int .i64 (b : Int)] 50)))
            | (have hq := M2; go_at_call 79; refine (HW1.out _ M2.st.rd).mono ?_; rintro e w3 ⟨rfl, R3, F3⟩; have M3 := M2.on2 HLT.out F3 R3)
            | (go_at_call 31; refine (ok_any _ p cp q u d HMU.out.st.rd).mono ?_; rw [HK.out, HO.out]; rintro e w2 ⟨rfl, R2, F2⟩; have M2 := HMU.out.on2 HLT.out F2.two1 R2))
          have F8 : Fr [w.heap.size + 1] w7 (w7.setCell ⟨w.heap.size + 1, 1, none⟩ (.slice vao2 (B.length + 1) vcap2)) := (Fr.refl _ _).setCell (by simp) _
          have h8lo : ∀ i ∈ [w.heap.size + 1], i < w.heap.size + 2 := by simp
          have hnmC : ∀ i ∈ [mb], i < w.heap.size + 2 ∨ ∀ cs z, (w4.alloc (.cells #[.int .i64 (a : Int), .int .i64 (b : Int)] 50)).heap[i]? ≠ some (.cells cs 61 z) := fun i hi => .inr (by rw [List.mem_singleton.1 hi]; exact fun cs z => M4a.iset.ne cs _ z)
          have hnmP : ∀ i ∈ [mb], i < w.heap.size + 2 ∨ ∀ cs z, (w4.alloc (.cells #[.int .i64 (a : Int), .int .i64 (b : Int)] 50)).heap[i]? ≠ some (.cells cs 5 z) := fun i hi => .inr (by rw [List.mem_singleton.1 hi]; exact fun cs z => M4a.iset.ne cs _ z)
          have FA : Fr [] w5 (w5.alloc (.cells #[.int .i64 (a : Int), .int .i64 (b : Int)] 50)) := (Fr.refl _ _).alloc _
          have hmb := M4a.mlo
          rw [show addI (fun x => decide (x ∈ B.map (·.1))) (a : Int) = _ from addI_snoc B ((a : Int), (b : Int))] at IS5
          have IS6 := IS5.fr FA
          have MF : FolM w p cp q d LP cv (.slice vao2 (B.length + 1) vcap2) (B ++ [((a : Int), (b : Int))]) mb (k + 1) u2 (w7.setCell ⟨w.heap.size + 1, 1, none⟩ (.slice vao2 (B.length + 1) vcap2)) :=
            ⟨hmb, (IS6.frS F7 (row_ne_map own6 IS6)).frS F8 (by simp; omega),
              own_frB (own_frT (own_frB (own_frT M4a.co F5 hnmC) FA (by simp)) F7 (fun i hi => .inr (own_type own6 i (by simpa using hi) _ (by decide)))) F8 h8lo,
              by rw [List.length_append, biV_append]; exact own_frB own7 F8 h8lo,
              ((M4a.pm.frT F5 hnmP).frT FA (by simp)).frT F7 (fun i hi => .inr (own_type own6 i (by simpa using hi) _ (by decide))) |>.frT F8 (fun i hi => .inl (h8lo i hi)), C8⟩
          go_roundw
          case rel => exact ⟨k + 1, B ++ [((a : Int), (b : Int))], _, u2, by have := hltI; omega, by go_num, by rw [List.length_append, HBk.out]; rfl, HG2.out, HUB2.out, fun _ => HN.out, by rw [List.length_append, HBk.out]; simp; have := HN.out; omega, MF⟩
          case measure => simp [intOf]; omega
        · have hke : n - 1 - k = 0 := by omega
          have HE := Lib.hid (show bindsGo (n - 1) I n t1 [] = (B, u) by rw [HGo.out, hke]; show (_, u.ok) = _; rw [HO.out])
          have hltI : (n : Int) ≤ ((k + 1 : Nat) : Int) := by omega
          clear hz h8
          go_wp2_with (go_at_call 31; refine (ok_any _ p cp q u d HMU.out.st.rd).mono ?_; rw [HK.out, HO.out]; rintro e w2 ⟨rfl, R2, F2⟩)
          go_meet
          case rel => exact ⟨B, _, k, u, HE.out, HO.out, HB8.out, by have := HB8.out; have := HBk.out; omega, HUB.out, HMU.out.on2 HLT.out F2.two1 R2⟩
      · have HK := Lib.hid (show (u.ok.k == 0) = false by rw [beq_eq_false_iff_ne]; exact hz)
        have HE := Lib.hid (show bindsGo (n - 1) I n t1 [] = (B, u.ok) by rw [HGo.out, bindsGo_bad hz])
        clear hz h8
        go_wp2_with (go_at_call 31; refine (ok_any _ p cp q u d HMU.out.st.rd).mono ?_; rw [HK.out]; rintro e w2 ⟨rfl, R2, F2⟩)
        go_meet
        case rel => exact ⟨B, _, k, u.ok, HE.out, Rs.ok_ok u, HB8.out, by have := HB8.out; have := HBk.out; omega, HUB.out, HMU.out.on2 HLT.out F2.two1 R2⟩
  case rest =>
  clear M1
  obtain ⟨B, bv', m, t2, hbg, hto2, hB8, hm8, htb2, M2⟩ := hcut
  have HBG := Lib.hid hbg
  have HTO2 := Lib.hid hto2
  have HB8 := Lib.hid hB8
  have HTB2 := Lib.hid htb2
  have HM2 := Lib.hid M2
  have HRes := Lib.hid (show s.folder = Rs.folderD (LP.map (·.1)) B t2 by
    rw [HS.out, Rs.folderC, HGo1.out]
    dsimp only
    rw [HI.out, HBG.out])
  clear hbg hto2 htb2 hm8 hB8
  (refine hK5 _ _ ?_; clear hK5; refine wp_seq_k fun K6 hK6 => ?_)
  clear M2
  go_cut [11] (fun v wx => v = .int .i64 ((I : Int) - (B.length : Int)) ∧ FolM w p cp q d LP cv bv' B mb m t2 wx)
  case first =>
    clear hK6
    obtain ⟨bao, bcap, rfl, -⟩ := own_outS HM2.out.bi
    obtain ⟨j0, j1, j2, j3, j4, j5, jz⟩ := cells6 HM2.out.st.b1
    have hb8 : (B.length : Int) ≤ 8 := by have := HB8.out; omega
    have hi8 : (I : Int) ≤ 32 := by omega
    go_wp2_with fail
    go_meet
    case rel => exact ⟨by first | rfl | go_num, HM2.out⟩
  case rest =>
  obtain ⟨rfl, M3⟩ := hcut
  have HM3 := Lib.hid M3
  clear M3 HM2
  (refine hK6 _ _ ?_; clear hK6; refine wp_seq_k fun K7 hK7 => ?_)
  go_cut [12, 97, 101] (fun _ _ _ wx => ∃ P pv t3, s.folder = (⟨LP.map (·.1), B, P, []⟩, t3) ∧ FolE w p cp q d LP cv bv' pv B P t3 wx)
  case first =>
    clear hK7
    by_cases hz : t2.k = 0
    · have HK := Lib.hid (show (t2.k == 0) = true by rw [hz]; rfl)
      have HZ := Lib.hid (show t2.ok.k = 0 by rw [HTO2.out]; exact hz)
      have hb8 : (B.length : Int) ≤ 8 := by have := HB8.out; omega
      have hi8 : (I : Int) ≤ 32 := by omega
      clear hz
      by_cases hone : I = B.length + 1
      · have t0 : ((I : Int) - (B.length : Int) == 1) = true := by rw [beq_iff_eq]; omega
        have HR2 := Lib.hid (show s.folder = (⟨LP.map (·.1), B, [(freeAt B I : Int)], []⟩, if freeAt B I = I then t2.fail 10 else t2) by
          rw [HRes.out, Rs.folderD, if_neg (by rw [HZ.out]; simp), HI.out, if_pos hone, HTO2.out])
        have HPn := Lib.hid (show (0 : Nat) ≤ 100 by omega)
        clear hone
        go_wp2_with (go_at_call 31; refine (ok_any _ p cp q t2 d HM3.out.st.rd).mono ?_; rw [HTO2.out, HK.out]; rintro e w2 ⟨rfl, R2, F2⟩; have M4 := HM3.out.on2 HLT.out F2.two1 R2)
        have HM4 := Lib.hid M4
        clear M4
        go_loopw [12] (fun v wr => ∃ i : Nat, i ≤ I ∧ v = .int .i64 (i : Int) ∧ (∀ j, j < i → (j : Int) ∈ B.map (·.1)) ∧ FolM w p cp q d LP cv bv' B mb m t2 wr) (fun v _ => I - (intOf v).toNat)
        case atStart => exact ⟨0, Nat.zero_le _, rfl, fun j h => by omega, HM4.out⟩
        case round =>
          obtain ⟨i, hi, rfl, hall, MR⟩ := hrel
          have HMR := Lib.hid MR
          have HAll := Lib.hid hall
          clear MR hall
          by_cases hlt : i < I
          · have hltI : (i : Int) < (I : Int) := by omega
            have L := HMR.out.iset.look (x := (i : Int)) (WalkArith.wf_i64 (by omega))
            by_cases hm : (i : Int) ∈ B.map (·.1)
            · have HAll2 := Lib.hid (show ∀ j, j < i + 1 → (j : Int) ∈ B.map (·.1) from fun j hj => by
                by_cases e : j = i
                · rw [e]; exact hm
                · exact HAll.out j (by omega))
              simp only [hm, decide_true] at L
              clear hm
              go_wp2_with fail
              go_roundw
              case rel => exact ⟨i + 1, by omega, by go_num, HAll2.out, HMR.out⟩
              case measure => simp [intOf]; omega
            · have HFr := Lib.hid (freeAt_eq hi HAll.out (.inr hm))
              have hne : ((i : Int) == (I : Int)) = false := by rw [beq_eq_false_iff_ne]; omega
              have HR3 := Lib.hid (show s.folder = (⟨LP.map (·.1), B, [(i : Int)], []⟩, t2) by rw [HR2.out, HFr.out, if_neg (by omega)])
              simp only [hm, decide_false] at L
              clear hm
              have E4 := HMR.out.toE
              obtain ⟨j0, j1, j2, j3, j4, j5, jz⟩ := cells6 HMR.out.st.b1
              go_wp2_with (at_builtin; refine wpList_append_struct sty_in rfl _ _ (by rfl) (w.heap.size + 2) _ _ _ (by rfl) (own_frB E4.pa ((Fr.refl [] wr).alloc (.cells #[.int .i64 (i : Int)] 3)) (by simp)) wr.heap.size [.int .i64 (i : Int)] (by rfl) (heap_alloc_new wr _) rfl rfl (by first | (simp; done) | (have := HPn.out; omega)) (by decide) (by rw [World.size_alloc]; have := E4.st.lt; omega) ?_; intro v2 w7 own7 g7; obtain ⟨vao2, vcap2, rfl, -⟩ := own_outS own7; obtain ⟨C7, E7⟩ := E4.snoc HLT.out HLQ.out g7 own7; obtain ⟨k0, k1, k2, k3, k4, k5, kz⟩ := cells6 C7.b1)
              go_meet
              case rel => exact ⟨_, _, _, HR3.out, E7⟩
          · have hie : i = I := by omega
            have HFr := Lib.hid (freeAt_eq hi HAll.out (.inl hie))
            have HR3 := Lib.hid (show s.folder = (⟨LP.map (·.1), B, [(I : Int)], []⟩, t2.fail 10) by rw [HR2.out, HFr.out, if_pos hie, hie])
            subst hie
            have hne : ((i : Int) == (i : Int)) = true := by simp
            go_wp2_with (first
              | (at_builtin; refine wpList_append_struct sty_in rfl _ _ (by rfl) (w.heap.size + 2) _ _ _ (by rfl) (own_frB E5.pa ((Fr.refl [] w5).alloc (.cells #[.int .i64 (i : Int)] 3)) (by simp)) w5.heap.size [.int .i64 (i : Int)] (by rfl) (heap_alloc_new w5 _) rfl rfl (by first | (simp; done) | (have := HPn.out; omega)) (by decide) (by rw [World.size_alloc]; have := E5.st.lt; omega) ?_; intro v2 w7 own7 g7; obtain ⟨vao2, vcap2, rfl, -⟩ := own_outS own7; obtain ⟨C7, E7⟩ := E5.snoc HLT.out HLQ.out g7 own7; obtain ⟨k0, k1, k2, k3, k4, k5, kz⟩ := cells6 C7.b1)
              | (go_at_call 32; refine (rfail_any _ p cp q t2 d 10 HMR.out.st.rd).mono ?_; rintro e w5 ⟨rfl, R5, F5⟩; have E5 := (HMR.out.on2 HLT.out F5.two1 R5).toE; obtain ⟨j0, j1, j2, j3, j4, j5, jz⟩ := cells6 E5.st.b1))
            go_meet
            case rel => exact ⟨_, _, _, HR3.out, E7⟩
      · have t0 : ((I : Int) - (B.length : Int) == 1) = false := by rw [beq_eq_false_iff_ne]; omega
        have HR2 := Lib.hid (show s.folder = (⟨LP.map (·.1), B, (belowGo (I - B.length) I t2 []).1, []⟩, (belowGo (I - B.length) I t2 []).2) by
          rw [HRes.out, Rs.folderD, if_neg (by rw [HZ.out]; simp), HI.out, if_neg hone, HTO2.out])
        clear hone
        go_wp2_with (go_at_call 31; refine (ok_any _ p cp q t2 d HM3.out.st.rd).mono ?_; rw [HTO2.out, HK.out]; rintro e w2 ⟨rfl, R2, F2⟩; have M4 := HM3.out.on2 HLT.out F2.two1 R2)
        have HM4 := Lib.hid M4
        clear M4
        go_loopw [86] (fun v wr => ∃ (k : Nat) (P : List Int) (pv : Value) (u : Rs), k ≤ I - B.length ∧ v = .int .i64 (k : Int) ∧ belowGo (I - B.length) I t2 [] = belowGo (I - B.length - k) I u P ∧ P.length = k ∧ u.c.b.length ≤ 10000000 ∧ FolE w p cp q d LP cv bv' pv B P u wr) (fun v _ => I - B.length - (intOf v).toNat)
        case atStart => exact ⟨0, [], _, t2, Nat.zero_le _, rfl, rfl, rfl, HTB2.out, HM4.out.toE⟩
        case round =>
          obtain ⟨k, P, pv, u, hk, rfl, hgo, hPk, hub, EU⟩ := hrel
          obtain ⟨pao, pcap, rfl, -⟩ := own_outS EU.pa
          have HGo := Lib.hid hgo
          have HPk := Lib.hid hPk
          have HUB := Lib.hid hub
          have HEU := Lib.hid EU
          clear hgo hPk hub EU
          by_cases hlt : k < I - B.length
          · have hltI : (k : Int) < (I : Int) - (B.length : Int) := by omega
            have HG2 := Lib.hid (show belowGo (I - B.length) I t2 [] = belowGo (I - B.length - (k + 1)) I (u.below I).2 (P ++ [((u.below I).1 : Int)]) by
              rw [HGo.out, show I - B.length - k = (I - B.length - (k + 1)) + 1 by omega]; rfl)
            have HW1 := Lib.hid (fun wy (R : RdAt wy p cp q u d) => below_ok wy p cp q u d I (by omega) R HUB.out)
            have HUB1 := Lib.hid (show (u.below I).2.c.b.length ≤ 10000000 by rw [below_b]; exact HUB.out)
            generalize (u.below I).2 = u1 at *
            generalize (u.below I).1 = a at *
            go_wp2_with fail
            have EUd : FolE w p cp q d LP cv bv' (.slice pao P.length pcap) B P u wr.drew := HEU.out.on2 HLT.out ((Fr.refl _ _).drew) (HEU.out.st.rd.same Same.drew)
            have e0 := (cells6 EUd.st.b1).2.2.1
            go_region_law (first
                | (have hq := E3; refine step_append_sl sty_int rfl _ _ (by rfl) (w.heap.size + 2) _ _ _ (by rfl) (own_frB E3.pa ((Fr.refl [] w3).alloc (.cells #[.int .i64 (a : Int)] 3)) (by simp)) _ [.int .i64 (a : Int)] (by rfl) (sl_one w3 3 (.int .i64 (a : Int))) (by intro u hu; simp at hu; subst hu; rfl) (by have := HPk.out; simp; omega) (by have := HPk.out; simp; omega) (by rw [World.size_alloc]; have := E3.st.lt; omega) ?_; intro v2 w7 own7 g7; obtain ⟨vao2, vcap2, rfl, -⟩ := own_outS own7; obtain ⟨C7, E7⟩ := E3.snoc HLT.out HLQ.out g7 own7; obtain ⟨k0, k1, k2, k3, k4, k5, kz⟩ := cells6 C7.b1)
                | (go_simp; go_at_call 79; refine (HW1.out _ EUd.st.rd).mono ?_; rintro e w3 ⟨rfl, R3, F3⟩; have E3 := EUd.on2 HLT.out F3 R3; have e3 := (cells6 E3.st.b1).2.2.1; have e3a := (cells6 (E3.st.fr0 HLT.out.1 HLT.out.2 ((Fr.refl [] w3).alloc (.cells #[.int .i64 (a : Int)] 3))).b1).2.2.1))
            all_goals
              go_wp2_with fail
              go_roundw
              case rel => exact ⟨k + 1, P ++ [(a : Int)], _, u1, by omega, by go_num, HG2.out, by rw [List.length_append, HPk.out]; rfl, HUB1.out, E7⟩
              case measure => simp [intOf]; omega
          · have hke : I - B.length - k = 0 := by omega
            have HE := Lib.hid (show s.folder = (⟨LP.map (·.1), B, P, []⟩, u) by rw [HR2.out, HGo.out, hke]; rfl)
            have hltI : (I : Int) - (B.length : Int) ≤ (k : Int) := by omega
            go_wp2_with fail
            go_meet
            case rel => exact ⟨_, _, _, HE.out, HEU.out⟩
    · have HK := Lib.hid (show (t2.k == 0) = false by rw [beq_eq_false_iff_ne]; exact hz)
      have HR2 := Lib.hid (show s.folder = (⟨LP.map (·.1), B, [], []⟩, t2) by rw [HRes.out, Rs.folderD, if_pos (by rw [HTO2.out]; exact hz), HTO2.out])
      clear hz
      go_wp2_with (go_at_call 31; refine (ok_any _ p cp q t2 d HM3.out.st.rd).mono ?_; rw [HTO2.out, HK.out]; rintro e w2 ⟨rfl, R2, F2⟩; have M4 := HM3.out.on2 HLT.out F2.two1 R2)
      go_meet
      case rel => exact ⟨[], _, t2, HR2.out, M4.toE⟩
  case rest =>
  obtain ⟨P, pv, t3, hres, E1⟩ := hcut
  have HRs := Lib.hid hres
  have HE1 := Lib.hid E1
  obtain ⟨cao, ccap, rfl, -⟩ := own_outS E1.co
  obtain ⟨bao, bcap, rfl, -⟩ := own_outS E1.bi
  obtain ⟨pao, pcap, rfl, -⟩ := own_outS E1.pa
  obtain ⟨i0, i1, i2, i3, i4, i5, iz⟩ := cells6 E1.st.b0
  obtain ⟨j0, j1, j2, j3, j4, j5, jz⟩ := cells6 E1.st.b1
  clear hres HM3 E1
  go_wp2_with fail
  obtain ⟨wF, hwF⟩ : ∃ wF, wF = (((((wc.setCell ⟨w.heap.size, 0, none⟩ (.slice cao LP.length ccap)).setCell ⟨w.heap.size, 1, none⟩ (.slice bao B.length bcap)).setCell ⟨w.heap.size, 2, none⟩ (.slice pao P.length pcap)).setCell ⟨w.heap.size, 3, none⟩ (.slice none 0 0)).setCell ⟨w.heap.size, 4, none⟩ (.bool false)).setCell ⟨w.heap.size, 5, none⟩ (.int .u32 0) := ⟨_, rfl⟩
  rw [← hwF]
  have F1 : Fr [w.heap.size] wc wF := hwF ▸ ((((((Fr.refl _ _).setCell (by simp) _).setCell (by simp) _).setCell (by simp) _).setCell (by simp) _).setCell (by simp) _).setCell (by simp) _
  have F2 : Fr [p, cp] w wF := hwF ▸ (((((HE1.out.st.fr.setCell (.inr (Nat.le_refl _)) _).setCell (.inr (Nat.le_refl _)) _).setCell (.inr (Nat.le_refl _)) _).setCell (.inr (Nat.le_refl _)) _).setCell (.inr (Nat.le_refl _)) _).setCell (.inr (Nat.le_refl _)) _
  have hb : wF.heap[w.heap.size]? = some (.cells #[.slice cao LP.length ccap, .slice bao B.length bcap, .slice pao P.length pcap, .slice none 0 0, .bool false, .int .u32 0] 47 (0, 0)) :=
    hwF ▸ Go.Joins.block_setCell (Go.Joins.block_setCell (Go.Joins.block_setCell (Go.Joins.block_setCell (Go.Joins.block_setCell (Go.Joins.block_setCell HE1.out.st.b0 _) _) _) _) _) _
  obtain ⟨r0, r1, r2, r3, r4, r5, -⟩ := cells6 hb
  have R1 := HE1.out.st.rd.fr F1 (by have := HLT.out; simp; omega) (by have := HLT.out; simp; omega) (fun k hk => by have := HLQ.out k hk; simp; omega)
  have hlo : ∀ i ∈ [w.heap.size], i < w.heap.size + 2 := by simp
  refine bodyPost_ret (v := .agg #[.slice cao LP.length ccap, .slice bao B.length bcap, .slice pao P.length pcap, .slice none 0 0, .bool false, .int .u32 0]) (by simp [results, Try.results65, go_sem, r0, r1, r2, r3, r4, r5]) rfl ?_
  refine ⟨⟨_, _, _, LP, rfl, by rw [HRs.out], ?_, ?_, ?_, ?_⟩, by rw [HRs.out]; exact R1, F2⟩
  · rw [HRs.out]
    dsimp only
    rw [List.length_map]
    exact Sm.of_own w.heap.size (own_frB HE1.out.co F1 hlo) (by omega)
  · intro c hc
    exact ((HE1.out.pm c hc).fr F1 hlo).mono (by omega)
  · rw [HRs.out]
    exact Sm.of_own w.heap.size (own_frB HE1.out.bi F1 hlo) (by omega)
  · rw [HRs.out]
    exact Sm.of_own w.heap.size (own_frB HE1.out.pa F1 hlo) (by omega)
end Go.Proofs.Ythdfjbliafdchaa
