/- Contracts: the reference's bytes, Text. No condition but that lengths fit. -/
import Derived.Test.YtagoemebklihjaaDoorNText
import Derived.Deep.RegionHeld3
namespace Go.Proofs.YtagoemebklihjaaDoor
open Go.RowKit

theorem info_u8 : (Tryd.prog.info? 5).map (fun i => (i.zero, i.size, i.bytes)) = some (some (.int .u8 0), 1, 1) := by kernel_rfl
theorem sty_u8 : SlTy Tryd.prog 57 5 (.int .u8 0) 1 := ⟨Tryd.underlying57, by obtain ⟨i, h⟩ := info_parts info_u8; exact ⟨i, h⟩, rfl⟩

/-- What bytes answers. -/
def BytesR (v : Nat) (w : World) (e : Ending) (w' : World) : Prop := (∃ b cap, e = .returned (.slice b (encL v).length cap) ∧ Sl w' (.slice b (encL v).length cap) (bv (encL v))) ∧ Fr [] w w'

theorem enc2 (v : Nat) (h1 : ¬ v < 128) (h2 : v < 2048) : bv (encL v) = [.int .u8 (192 + (v : Int) / 64), .int .u8 (128 + (v : Int) % 64)] := by
  unfold encL encN bv
  rw [if_neg h1, if_pos h2]
  simp only [List.map_cons, List.map_nil, UInt8.toNat_ofNat', List.cons.injEq, Value.int.injEq, true_and, and_true]
  omega
theorem enc3 (v : Nat) (h1 : ¬ v < 128) (h2 : ¬ v < 2048) (h3 : v < 65536) : bv (encL v) = [.int .u8 (224 + (v : Int) / 4096), .int .u8 (128 + (v : Int) / 64 % 64), .int .u8 (128 + (v : Int) % 64)] := by
  unfold encL encN bv
  rw [if_neg h1, if_neg h2, if_pos h3]
  simp only [List.map_cons, List.map_nil, UInt8.toNat_ofNat', List.cons.injEq, Value.int.injEq, true_and, and_true]
  omega
theorem enc4 (v : Nat) (h3 : ¬ v < 65536) (h4 : v ≤ 1114111) : bv (encL v) = [.int .u8 (240 + (v : Int) / 262144), .int .u8 (128 + (v : Int) / 4096 % 64), .int .u8 (128 + (v : Int) / 64 % 64), .int .u8 (128 + (v : Int) % 64)] := by
  unfold encL encN bv
  rw [if_neg (by omega), if_neg (by omega), if_neg h3]
  simp only [List.map_cons, List.map_nil, UInt8.toNat_ofNat', List.cons.injEq, Value.int.injEq, true_and, and_true]
  omega
theorem enc_n {v : Nat} {l : List Value} (h : bv (encL v) = l) : (encL v).length = l.length := by rw [← h, bv_length]

set_option maxRecDepth 100000 in
set_option maxHeartbeats 1000000 in
theorem bytes_any (w : World) (v : Nat) (hv : v ≤ 1114111) : Calls Tryd.prog 31 #[.int .i64 (v : Int)] w (BytesR v w) := by
  by_cases h1 : v < 128
  · have t1 : decide ((v : Int) < 128) = true := decide_eq_true (by omega)
    have e1 : IntKind.u8.wrap (v : Int) = (v : Int) := IntWalk.u8_in _ (by omega)
    have HE := Lib.hid (show bv (encL v) = [.int .u8 (v : Int)] by unfold encL encN bv; rw [if_pos h1]; simp; omega)
    have HN := Lib.hid (enc_n HE.out)
    clear h1 hv
    go_enter Tryd.func31, Tryd.ntmps31
    go_wp2_with fail
    go_ret
    exact ⟨⟨_, 1, by rw [HN.out]; rfl, by rw [HN.out, HE.out]; exact sl_lit _ _ _ 1 rfl (by decide)⟩, (Fr.refl _ _).alloc _⟩
  have t1 : decide ((v : Int) < 128) = false := decide_eq_false (by omega)
  by_cases h2 : v < 2048
  · have t2 : decide ((v : Int) < 2048) = true := decide_eq_true (by omega)
    have HE := Lib.hid (enc2 v h1 h2)
    have HN := Lib.hid (enc_n HE.out)
    clear h1
    go_enter Tryd.func31, Tryd.ntmps31
    go_wp2_with fail
    go_ret
    exact ⟨⟨_, 2, by rw [HN.out]; rfl, by rw [HN.out, HE.out]; exact sl_lit _ _ _ 2 rfl (by decide)⟩, (Fr.refl _ _).alloc _⟩
  have t2 : decide ((v : Int) < 2048) = false := decide_eq_false (by omega)
  by_cases h3 : v < 65536
  · have t3 : decide ((v : Int) < 65536) = true := decide_eq_true (by omega)
    have HE := Lib.hid (enc3 v h1 h2 h3)
    have HN := Lib.hid (enc_n HE.out)
    have hvI : (v : Int) ≤ 65535 := by omega
    clear h1 h2 h3 hv
    go_enter Tryd.func31, Tryd.ntmps31
    go_wp2_with fail
    go_ret
    exact ⟨⟨_, 3, by rw [HN.out]; rfl, by rw [HN.out, HE.out]; exact sl_lit _ _ _ 3 rfl (by decide)⟩, (Fr.refl _ _).alloc _⟩
  have t3 : decide ((v : Int) < 65536) = false := decide_eq_false (by omega)
  have HE := Lib.hid (enc4 v h3 hv)
  have HN := Lib.hid (enc_n HE.out)
  have hvI : (v : Int) ≤ 1114111 := by omega
  clear h1 h2 h3 hv
  go_enter Tryd.func31, Tryd.ntmps31
  go_wp2_with fail
  go_ret
  exact ⟨⟨_, 4, by rw [HN.out]; rfl, by rw [HN.out, HE.out]; exact sl_lit _ _ _ 4 rfl (by decide)⟩, (Fr.refl _ _).alloc _⟩
theorem w64 (n : Nat) (h : n < 2147483648) : wrap64 (n : Int) = (n : Int) := by
  unfold wrap64
  omega
theorem pair_nums64 (a c : Nat) (h1 : 55296 ≤ a) (h2 : a < 56320) (h3 : 56320 ≤ c) (h4 : c < 57344) :
    ∃ x p q m r : Nat, r = 65536 + (a - 55296) * 1024 + (c - 56320) ∧ (57344 ≤ r ∧ r ≤ 1114111) ∧ wrap64 ((a : Int) - 55296) = (x : Int) ∧ wrap64 ((x : Int) * 1024) = (p : Int) ∧
      wrap64 (65536 + (p : Int)) = (q : Int) ∧ wrap64 ((q : Int) + (c : Int)) = (m : Int) ∧ wrap64 ((m : Int) - 56320) = (r : Int) := by
  obtain ⟨x, rfl⟩ : ∃ x, a = 55296 + x := ⟨a - 55296, by omega⟩
  obtain ⟨y, rfl⟩ : ∃ y, c = 56320 + y := ⟨c - 56320, by omega⟩
  refine ⟨x, x * 1024, 65536 + x * 1024, 65536 + x * 1024 + (56320 + y), 65536 + x * 1024 + y, by omega, by omega, ?_, ?_, ?_, ?_, ?_⟩
  · rw [← w64 x (by omega)]; congr 1; omega
  · rw [← w64 (x * 1024) (by omega)]; congr 1
  · rw [← w64 (65536 + x * 1024) (by omega)]; congr 1
  · rw [← w64 (65536 + x * 1024 + (56320 + y)) (by omega)]; congr 1
  · rw [← w64 (65536 + x * 1024 + y) (by omega)]; congr 1; omega

set_option maxRecDepth 100000 in
set_option maxHeartbeats 1000000 in
theorem rtext_any (w : World) (v : Value) (u : List Nat) (hv0 : Sl w v (hv u)) (hu : ∀ x ∈ u, x < 65536) (hl : u.length ≤ 100000) : Calls Tryd.prog 18 #[v] w (TextR u w) := by
  obtain ⟨ao, cap, rfl, -, -, oc⟩ := hv0.out
  simp only [hv_len] at *
  have HO := Lib.hid oc
  have HU := Lib.hid hu
  have HL := Lib.hid hl
  clear hv0 oc hu hl
  go_enter Tryd.func18, Tryd.ntmps18
  go_wp2_with fail
  go_loopw [4, 5] (fun v i wr => ∃ (k : Nat) (out : List UInt8), k ≤ u.length ∧ i = .int .i64 k ∧ textL u = (textL (u.drop k)).map (out ++ ·) ∧ out.length ≤ 4 * k ∧ wr.ownsRow w.heap.size 5 1 v out.length (bv out) ∧ Fr [] w wr) (fun _ i _ => u.length - (intOf i).toNat)
  case atStart => exact ⟨0, [], Nat.zero_le _, rfl, by simp, by simp, World.ownsRow_nil _ _ _ _, Fr.refl _ _⟩
  case round =>
    obtain ⟨k, out, hk, rfl, htx, hol, own, F⟩ := hrel
    obtain ⟨vao, vcap, rfl, -⟩ := own_out own
    have HTX := Lib.hid htx
    have HOL := Lib.hid hol
    have HOwn := Lib.hid own
    by_cases hlt : k < u.length
    · obtain ⟨b, of, rfl, hb, hcl⟩ := HO.out k hlt
      obtain ⟨a, ha0⟩ := some_get u k hlt
      have c0 : wr.cell? ⟨b, of + k, none⟩ = some (.int .u16 (a : Int)) := (F.cell (p := ⟨b, of + k, none⟩) hb (by simp)).trans ((hcl k hlt).trans (hv_get ha0))
      have ha2 := HU.out a (List.mem_of_getElem? ha0)
      have hdr : u.drop k = a :: u.drop (k + 1) := by
        rw [List.drop_eq_getElem_cons hlt]
        have := (List.getElem?_eq_some_iff.1 ha0).2
        rw [this]
      have HD := Lib.hid hdr
      have HLT := Lib.hid hlt
      have hlt' : (k : Int) < (u.length : Int) := by omega
      have hkI : (k : Int) ≤ 100000 := by have := HL.out; omega
      have e0 : IntKind.i64.wrap (a : Int) = (a : Int) := IntWalk.i64_in _ (by omega)
      clear htx hol own hdr hk hlt
      by_cases h1 : a < 55296
      · have t1 : decide ((55296 : Int) ≤ (a : Int)) = false := decide_eq_false (by omega)
        have HB := Lib.hid (show a ≤ 1114111 by omega)
        have HT2 := Lib.hid (show textL u = (textL (u.drop (k + 1))).map ((out ++ encL a) ++ ·) by rw [HTX.out, HD.out, textL_plain a _ (.inl h1), map_app2])
        clear h1 ha2
        go_wp2_with (first | (go_at_call 31; refine (bytes_any _ a HB.out).mono ?_; rintro e w2 ⟨⟨bb, bc, rfl, hS2⟩, F2⟩; have hS3 := hS2) | (at_builtin; refine wpList_append_sl sty_u8 rfl _ _ (by rfl) w.heap.size _ _ _ (by rfl) (own_fr HOwn.out F2 (by simp)) _ (bv (encL a)) (by rfl) hS3 (bv_one _) (by have := HOL.out; have := HL.out; have := HLT.out; have := (encL_len a).2.1; rw [bv_length]; omega) (by have := HOL.out; have := HL.out; have := HLT.out; have := (encL_len a).2.1; rw [bv_length]; omega) (by have := F.size; have := F2.size; omega) ?_; intro v2 w4 own4 g4; obtain ⟨vao2, vcap2, rfl, -⟩ := own_out own4; have F4 : Fr [] w w4 := (F.trans0 F2).grown g4 (fun t ht => .inr (HOwn.out.lt t ht).1)))
        go_roundw
        case rel => exact ⟨k + 1, out ++ encL a, by have := HLT.out; omega, by go_num, HT2.out, by have := HOL.out; have := (encL_len a).2.1; simp; omega, by simp only [bv_length, ← bv_append, List.length_append] at own4 ⊢; exact own4, F4⟩
        case measure => have := HLT.out; simp [intOf]; omega
      · have t1 : decide ((55296 : Int) ≤ (a : Int)) = true := decide_eq_true (by omega)
        by_cases h2 : 57344 ≤ a
        · have t2 : decide ((a : Int) < 57344) = false := decide_eq_false (by omega)
          have HB := Lib.hid (show a ≤ 1114111 by omega)
          have HT2 := Lib.hid (show textL u = (textL (u.drop (k + 1))).map ((out ++ encL a) ++ ·) by rw [HTX.out, HD.out, textL_plain a _ (.inr h2), map_app2])
          clear h1 h2 ha2
          go_wp2_with (first | (go_at_call 31; refine (bytes_any _ a HB.out).mono ?_; rintro e w2 ⟨⟨bb, bc, rfl, hS2⟩, F2⟩; have hS3 := hS2) | (at_builtin; refine wpList_append_sl sty_u8 rfl _ _ (by rfl) w.heap.size _ _ _ (by rfl) (own_fr HOwn.out F2 (by simp)) _ (bv (encL a)) (by rfl) hS3 (bv_one _) (by have := HOL.out; have := HL.out; have := HLT.out; have := (encL_len a).2.1; rw [bv_length]; omega) (by have := HOL.out; have := HL.out; have := HLT.out; have := (encL_len a).2.1; rw [bv_length]; omega) (by have := F.size; have := F2.size; omega) ?_; intro v2 w4 own4 g4; obtain ⟨vao2, vcap2, rfl, -⟩ := own_out own4; have F4 : Fr [] w w4 := (F.trans0 F2).grown g4 (fun t ht => .inr (HOwn.out.lt t ht).1)))
          go_roundw
          case rel => exact ⟨k + 1, out ++ encL a, by have := HLT.out; omega, by go_num, HT2.out, by have := HOL.out; have := (encL_len a).2.1; simp; omega, by simp only [bv_length, ← bv_append, List.length_append] at own4 ⊢; exact own4, F4⟩
          case measure => have := HLT.out; simp [intOf]; omega
        have t2 : decide ((a : Int) < 57344) = true := decide_eq_true (by omega)
        by_cases h3 : 56320 ≤ a
        · have t3 : decide ((56320 : Int) ≤ (a : Int)) = true := decide_eq_true (by omega)
          have HTN := Lib.hid (show textL u = none by rw [HTX.out, HD.out, textL_late a _ h3 (by omega)]; rfl)
          clear h1 h2 h3 ha2
          go_wp2_with fail
          go_ret2
          exact .inr ⟨HTN.out, rfl, F⟩
        have t3 : decide ((56320 : Int) ≤ (a : Int)) = false := decide_eq_false (by omega)
        by_cases h4 : k + 1 < u.length
        · obtain ⟨c, hc0⟩ := some_get u (k + 1) h4
          have c1 : wr.cell? ⟨b, of + (k + 1), none⟩ = some (.int .u16 (c : Int)) := (F.cell (p := ⟨b, of + (k + 1), none⟩) hb (by simp)).trans ((hcl (k + 1) h4).trans (hv_get hc0))
          have hc2 := HU.out c (List.mem_of_getElem? hc0)
          have hdr2 : u.drop k = a :: c :: u.drop (k + 2) := by
            rw [HD.out, List.drop_eq_getElem_cons h4, (List.getElem?_eq_some_iff.1 hc0).2]
          have k0 : decide ((u.length : Int) ≤ (k : Int) + 1) = false := decide_eq_false (by omega)
          have k1 : (k : Int) + 1 < (u.length : Int) := by omega
          have e00 : IntKind.i64.wrap (c : Int) = (c : Int) := IntWalk.i64_in _ (by omega)
          by_cases h5 : c < 56320
          · have t4 : decide ((c : Int) < 56320) = true := decide_eq_true (by omega)
            have HTN := Lib.hid (show textL u = none by rw [HTX.out, hdr2, textL_odd a c _ (by omega) (by omega) (.inl h5)]; rfl)
            clear h1 h2 h3 h4 h5 ha2 hc2 hdr2 hc0
            go_wp2_with fail
            go_ret2
            exact .inr ⟨HTN.out, rfl, F⟩
          have t4 : decide ((c : Int) < 56320) = false := decide_eq_false (by omega)
          by_cases h6 : 57344 ≤ c
          · have t5 : decide ((57344 : Int) ≤ (c : Int)) = true := decide_eq_true (by omega)
            have HTN := Lib.hid (show textL u = none by rw [HTX.out, hdr2, textL_odd a c _ (by omega) (by omega) (.inr h6)]; rfl)
            clear h1 h2 h3 h4 h5 h6 ha2 hc2 hdr2 hc0
            go_wp2_with fail
            go_ret2
            exact .inr ⟨HTN.out, rfl, F⟩
          have t5 : decide ((57344 : Int) ≤ (c : Int)) = false := decide_eq_false (by omega)
          have H5 := Lib.hid (show (55296 ≤ a ∧ a < 56320) ∧ 56320 ≤ c ∧ c < 57344 by omega)
          have HD2 := Lib.hid hdr2
          have HK2 := Lib.hid h4
          obtain ⟨x, p, q, m, r, hr, hrs, e1, e2, e3, e4, e5⟩ := pair_nums64 a c (by omega) (by omega) (by omega) (by omega)
          have HB := Lib.hid (show r ≤ 1114111 from hrs.2)
          have HT2 := Lib.hid (show textL u = (textL (u.drop (k + 2))).map ((out ++ encL r) ++ ·) by rw [HTX.out, HD2.out, textL_pair a c _ (by omega) (by omega) (by omega) (by omega), map_app2, hr])
          clear h1 h2 h3 h4 h5 h6 ha2 hc2 hdr2 hc0 hr hrs
          go_wp2_with (first | (go_at_call 31; refine (bytes_any _ r HB.out).mono ?_; rintro e w2 ⟨⟨bb, bc, rfl, hS2⟩, F2⟩; have hS3 := hS2) | (at_builtin; refine wpList_append_sl sty_u8 rfl _ _ (by rfl) w.heap.size _ _ _ (by rfl) (own_fr HOwn.out F2 (by simp)) _ (bv (encL r)) (by rfl) hS3 (bv_one _) (by have := HOL.out; have := HL.out; have := HLT.out; have := (encL_len r).2.1; rw [bv_length]; omega) (by have := HOL.out; have := HL.out; have := HLT.out; have := (encL_len r).2.1; rw [bv_length]; omega) (by have := F.size; have := F2.size; omega) ?_; intro v2 w4 own4 g4; obtain ⟨vao2, vcap2, rfl, -⟩ := own_out own4; have F4 : Fr [] w w4 := (F.trans0 F2).grown g4 (fun t ht => .inr (HOwn.out.lt t ht).1)))
          go_roundw
          case rel => exact ⟨k + 2, out ++ encL r, by have := HK2.out; omega, by go_num, HT2.out, by have := HOL.out; have := (encL_len r).2.1; simp; omega, by simp only [bv_length, ← bv_append, List.length_append] at own4 ⊢; exact own4, F4⟩
          case measure => have := HK2.out; simp [intOf]; omega
        · have k1 : decide ((u.length : Int) ≤ (k : Int) + 1) = true := decide_eq_true (by omega)
          have HTN := Lib.hid (show textL u = none by rw [HTX.out, HD.out, List.drop_eq_nil_of_le (by omega), textL_end a (by omega) (by omega)]; rfl)
          clear h1 h2 h3 h4 ha2
          go_wp2_with fail
          go_ret2
          exact .inr ⟨HTN.out, rfl, F⟩
    · have hke : k = u.length := by omega
      subst hke
      rw [List.drop_length] at htx
      have HTE := Lib.hid (show textL u = some out by rw [htx]; simp [textL])
      have hcv := conv_own wr w.heap.size vao out.length vcap out rfl own
      clear htx hol own
      go_wp2_with fail
      go_ret2
      exact .inl ⟨out, HTE.out, rfl, F⟩
end Go.Proofs.YtagoemebklihjaaDoor
