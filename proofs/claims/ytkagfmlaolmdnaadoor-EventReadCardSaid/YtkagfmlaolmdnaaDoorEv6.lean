/- Events read of bytes: plain laws. -/
import Derived.Test.YtkagfmlaolmdnaaDoorEv5
namespace Go.Proofs.YtkagfmlaolmdnaaDoor
open Go.Px
set_option linter.unusedVariables false
set_option linter.unusedSimpArgs false
set_option maxRecDepth 8000

/-! ### parts of strings -/
theorem ex_app_l {a b : ByteArray} {n : Nat} (h : n = a.size) : (a ++ b).extract 0 n = a := by
  subst h
  refine bext ?_
  rw [ex_list, ByteArray.data_append, Array.toList_append, List.drop_zero, Nat.sub_zero, ← dlen a, List.take_left]
theorem ex_app_r {a b : ByteArray} {n : Nat} (h : n = a.size) : (a ++ b).extract n (a ++ b).size = b := by
  subst h
  refine bext ?_
  rw [ex_list, ByteArray.data_append, Array.toList_append, ← dlen a, List.drop_left, ByteArray.size_append, ← dlen a]
  rw [List.take_of_length_le (by rw [dlen]; omega)]
theorem ba_app_empty (a : ByteArray) : a ++ (⟨#[]⟩ : ByteArray) = a := by
  refine bext ?_
  rw [ByteArray.data_append, Array.toList_append]; simp
theorem ba_assoc (a b c : ByteArray) : a ++ b ++ c = a ++ (b ++ c) := by
  refine bext ?_
  simp [ByteArray.data_append]
theorem bat_app {a b : ByteArray} {k : Nat} (h : k < a.size) : bat (a ++ b) k = bat a k := by
  obtain ⟨c, hc⟩ := at_ok (s := a) (k := k) h
  rw [bat_of hc]
  refine bat_of ?_
  rw [ba_get] at hc ⊢
  rw [ByteArray.data_append, Array.toList_append, List.getElem?_append_left (by rw [dlen]; exact h)]
  exact hc
theorem bat_app2 {a b : ByteArray} {k : Nat} : bat (a ++ b) (a.size + k) = bat b k := by
  unfold bat
  rw [ba_get, ba_get, ByteArray.data_append, Array.toList_append, List.getElem?_append_right (by rw [dlen]; omega), dlen, Nat.add_sub_cancel_left]
theorem split_ex {s : ByteArray} {n : Nat} (h : n ≤ s.size) : s.extract 0 n ++ s.extract n s.size = s := by
  refine bext ?_
  rw [ByteArray.data_append, Array.toList_append, ex_list, ex_list, List.drop_zero, Nat.sub_zero]
  rw [List.take_of_length_le (l := s.data.toList.drop n) (by rw [List.length_drop, dlen]; omega)]
  exact List.take_append_drop n _
theorem ex_sz {s : ByteArray} {a b : Nat} (h : b ≤ s.size) : (s.extract a b).size = b - a := by
  rw [ByteArray.size_extract]; omega
/-! ### text -/
theorem u8o_n {n : Nat} (h : n ≤ 255) : (u8o (n : Int)).toNat = n := by
  have := u8o_v (n : Int)
  rw [wrap_u8_eq] at this
  omega
theorem txB_size (s : ByteArray) : (txB s).size = 1 + s.size := by rw [txB, ByteArray.size_append]; rfl
theorem txF_txB {s w : ByteArray} (h : s.size ≤ 255) : txF (txB s ++ w) = some (s, w) := by
  have e0 : bat (txB s ++ w) 0 = s.size := by
    rw [bat_app (by rw [txB_size]; omega), txB, bat_app Nat.one_pos]
    have : bat ⟨#[u8o (s.size : Int)]⟩ 0 = (u8o (s.size : Int)).toNat := rfl
    rw [this, u8o_n h]
  have es : (txB s ++ w).size = 1 + s.size + w.size := by rw [ByteArray.size_append, txB_size]
  rw [txF, e0, if_neg (by omega)]
  have e1 : txB s ++ w = ⟨#[u8o (s.size : Int)]⟩ ++ (s ++ w) := by rw [txB, ba_assoc]
  congr 2
  · refine bext ?_
    rw [ex_list, e1, ByteArray.data_append, Array.toList_append, ByteArray.data_append, Array.toList_append]
    show List.take (1 + s.size - 1) (s.data.toList ++ w.data.toList) = _
    rw [Nat.add_sub_cancel_left, ← dlen s, List.take_left]
  · exact ex_app_r (by rw [txB_size])
theorem txF_some {b s r : ByteArray} (h : txF b = some (s, r)) : b = txB s ++ r ∧ s.size ≤ 255 := by
  rw [txF] at h
  split at h
  · cases h
  · rename_i hn
    injection h with h
    injection h with h1 h2
    have hb := bat_lt b 0
    have hs : s.size = bat b 0 := by rw [← h1, ex_sz (by omega)]; omega
    refine ⟨?_, by omega⟩
    have e1 : txB s = b.extract 0 (1 + bat b 0) := by
      refine bext ?_
      rw [txB, hs, ex_list, ByteArray.data_append, Array.toList_append, ← h1, ex_list, List.drop_zero, Nat.sub_zero, Nat.add_sub_cancel_left]
      obtain ⟨c, hc⟩ := at_ok (s := b) (k := 0) (by omega)
      have hc0 := bat_of hc
      have hu : u8o (bat b 0 : Int) = c := UInt8.toNat_inj.1 (by rw [u8o_n (by omega), hc0])
      rw [hu]
      rw [ba_get] at hc
      cases hl : b.data.toList with
      | nil => rw [hl] at hc; cases hc
      | cons x xs =>
        rw [hl] at hc
        have : x = c := by simpa using hc
        subst this
        show [x] ++ List.take (bat b 0) xs = List.take (1 + bat b 0) (x :: xs)
        rw [Nat.add_comm 1, List.take_succ_cons]; rfl
    rw [e1, ← h2]
    exact (split_ex (by omega)).symm
/-! ### numbers -/
theorem be_hi {n : Nat} (h : n < 65536) : (u8o ((n : Int).fdiv (2 ^ 8))).toNat = n / 256 := by
  have := u8o_v ((n : Int).fdiv (2 ^ 8))
  rw [wrap_u8_eq] at this
  have e : (n : Int).fdiv (2 ^ 8) = ((n / 256 : Nat) : Int) := by rw [Int.fdiv_eq_ediv_of_nonneg _ (by decide)]; omega
  rw [e] at this ⊢
  omega
theorem be_lo {n : Nat} : (u8o (n : Int)).toNat = n % 256 := by
  have := u8o_v (n : Int)
  rw [wrap_u8_eq] at this
  omega
theorem be_at {n k : Nat} : (u8o ((n : Int).fdiv (2 ^ k))).toNat = n / 2 ^ k % 256 := by
  have e : (n : Int).fdiv (2 ^ k) = ((n / 2 ^ k : Nat) : Int) := by
    rw [Int.fdiv_eq_ediv_of_nonneg _ (by exact Int.le_of_lt (Int.pow_pos (by decide)))]
    norm_cast
  rw [e]; exact be_lo
theorem u8o_c (c : UInt8) : u8o (c.toNat : Int) = c := UInt8.toNat_inj.1 (u8o_n (by have := c.toNat_lt; omega))
/-! ### an event of bytes -/
theorem g16_0 (s : ByteArray) : g16 s 0 = bat s 0 * 256 + bat s 1 := rfl
theorem g16_2 (s : ByteArray) : g16 s 2 = bat s 2 * 256 + bat s 3 := rfl
theorem bat_ext {a b : ByteArray} (hs : a.size = b.size) (h : ∀ k, k < a.size → bat a k = bat b k) : a = b := by
  refine bext (List.ext_getElem? fun k => ?_)
  by_cases hk : k < a.size
  · obtain ⟨c, hc⟩ := at_ok (s := a) (k := k) hk
    obtain ⟨d, hd⟩ := at_ok (s := b) (k := k) (by omega)
    have := h k hk
    rw [bat_of hc, bat_of hd] at this
    rw [← ba_get, ← ba_get, hc, hd, UInt8.toNat_inj.1 this]
  · rw [List.getElem?_eq_none (by rw [dlen]; omega), List.getElem?_eq_none (by rw [dlen]; omega)]
theorem bat_ex {s : ByteArray} {n k : Nat} (hk : k < n) (hn : n ≤ s.size) : bat (s.extract 0 n) k = bat s k := by
  unfold bat
  rw [ba_get, ba_get, ex_list, List.drop_zero, Nat.sub_zero, List.getElem?_take_of_lt hk]
noncomputable def evOf (b s3 cl na : ByteArray) (tr : Tg) : Ev := ⟨((g16 b 0 * 65536 + g16 b 2 : Nat) : Int), cl, na, (g16 s3 0 : Int), (bat s3 2 : Int), tr, (bat s3 3 : Int)⟩
open Classical in
noncomputable def decE (b : ByteArray) : Option Ev := if b.size < 4 then none else
  match txF (b.extract 4 b.size) with
  | none => none
  | some p => match txF p.2 with
    | none => none
    | some q => if q.2.size < 4 then none else
      match txF (q.2.extract 4 q.2.size) with
      | none => none
      | some r => match decF r.1 with
        | none => none
        | some tr => if r.2 = ⟨#[]⟩ ∧ mayEb (evOf b q.2 p.1 q.1 tr) = true then some (evOf b q.2 p.1 q.1 tr) else none
def b4 (e : Ev) : ByteArray := ⟨(be16 e.ty).toArray⟩ ++ ⟨#[u8o e.zn, u8o e.ac]⟩
theorem byt_parts (e : Ev) (w : ByteArray) : bytE e ++ w = ⟨(be32 (IntKind.wrap .u32 e.tm)).toArray⟩ ++ (txB e.cl ++ (txB e.na ++ (b4 e ++ (txB (relE e) ++ w)))) := by
  rw [← byt_eq, b4]
  simp only [ba_assoc]
theorem b32_bat (n : Nat) : bat ⟨(be32 (n : Int)).toArray⟩ 0 = n / 2 ^ 24 % 256 ∧ bat ⟨(be32 (n : Int)).toArray⟩ 1 = n / 2 ^ 16 % 256 ∧ bat ⟨(be32 (n : Int)).toArray⟩ 2 = n / 2 ^ 8 % 256 ∧ bat ⟨(be32 (n : Int)).toArray⟩ 3 = n % 256 :=
  ⟨be_at, be_at, be_at, be_lo⟩
theorem b4_bat (e : Ev) {t z a : Nat} (ht : e.ty = (t : Int)) (hz : e.zn = (z : Int)) (ha : e.ac = (a : Int)) : bat (b4 e) 0 = t / 2 ^ 8 % 256 ∧ bat (b4 e) 1 = t % 256 ∧ bat (b4 e) 2 = z % 256 ∧ bat (b4 e) 3 = a % 256 := by
  have e0 : b4 e = ⟨#[u8o (e.ty.fdiv (2 ^ 8)), u8o e.ty, u8o e.zn, u8o e.ac]⟩ := by
    refine bext ?_
    rw [b4, ByteArray.data_append, Array.toList_append]; rfl
  rw [e0, ht, hz, ha]
  exact ⟨be_at, be_lo, be_lo, be_lo⟩
theorem b4_size (e : Ev) : (b4 e).size = 4 := by rw [b4, ByteArray.size_append]; rfl
theorem bytE_pos (e : Ev) : 0 < (bytE e).size := by
  have h := congrArg ByteArray.size (byt_parts e ⟨#[]⟩)
  rw [ba_app_empty, ByteArray.size_append] at h
  have : (⟨(be32 (IntKind.wrap .u32 e.tm)).toArray⟩ : ByteArray).size = 4 := rfl
  omega
theorem dec_byt {e : Ev} (h : MadeE e) (w : ByteArray) : decE (bytE e ++ w) = (open Classical in if w = ⟨#[]⟩ then some e else none) := by
  classical
  obtain ⟨m, hrel⟩ := h.may.rel
  have er : relE e = m := by rw [relE, hrel]; rfl
  have hrz := relE_size h.may
  have hcl := h.may.cl
  have hna := h.may.na_size
  obtain ⟨n, hn⟩ : ∃ n : Nat, e.tm = (n : Int) := ⟨e.tm.toNat, by have := h.may.tm0; omega⟩
  have hn2 : n < 4294967296 := by have := h.may.tm1; omega
  obtain ⟨t, ht⟩ : ∃ n : Nat, e.ty = (n : Int) := ⟨e.ty.toNat, by have := h.ty0; omega⟩
  have ht2 : t < 65536 := by have := h.ty1; omega
  obtain ⟨z, hz⟩ : ∃ n : Nat, e.zn = (n : Int) := ⟨e.zn.toNat, by have := h.may.zn0; omega⟩
  have hz2 : z < 32 := by have := h.may.zn1; omega
  obtain ⟨a, ha⟩ : ∃ n : Nat, e.ac = (n : Int) := ⟨e.ac.toNat, by have := h.may.ac0; omega⟩
  have ha2 : a ≤ 8 := by have := h.may.ac1; omega
  have ew : IntKind.wrap .u32 e.tm = (n : Int) := by rw [hn]; exact wrap_u32 (by omega) (by omega)
  rw [byt_parts, ew]
  have s32 : (⟨(be32 (n : Int)).toArray⟩ : ByteArray).size = 4 := rfl
  generalize hR4 : txB (relE e) ++ w = R4
  generalize hR3 : b4 e ++ R4 = R3
  generalize hR2 : txB e.na ++ R3 = R2
  generalize hR1 : txB e.cl ++ R2 = R1
  have hb : (⟨(be32 (n : Int)).toArray⟩ ++ R1 : ByteArray).size = 4 + R1.size := by rw [ByteArray.size_append, s32]
  have x1 : (⟨(be32 (n : Int)).toArray⟩ ++ R1 : ByteArray).extract 4 (⟨(be32 (n : Int)).toArray⟩ ++ R1 : ByteArray).size = R1 := ex_app_r s32.symm
  have x2 : txF R1 = some (e.cl, R2) := by rw [← hR1]; exact txF_txB (by omega)
  have x3 : txF R2 = some (e.na, R3) := by rw [← hR2]; exact txF_txB (by omega)
  have h3 : R3.size = 4 + R4.size := by rw [← hR3, ByteArray.size_append, b4_size]
  have x4 : R3.extract 4 R3.size = R4 := by rw [← hR3]; exact ex_app_r (b4_size e).symm
  have x5 : txF R4 = some (relE e, w) := by rw [← hR4]; exact txF_txB (by omega)
  have x6 : decF (relE e) = some e.tr := by rw [er]; exact enc_dec hrel
  obtain ⟨q0, q1, q2, q3⟩ := b32_bat n
  obtain ⟨r0, r1, r2, r3⟩ := b4_bat e ht hz ha
  have y0 : bat (⟨(be32 (n : Int)).toArray⟩ ++ R1) 0 = n / 2 ^ 24 % 256 := by rw [bat_app (by rw [s32]; decide), q0]
  have y1 : bat (⟨(be32 (n : Int)).toArray⟩ ++ R1) 1 = n / 2 ^ 16 % 256 := by rw [bat_app (by rw [s32]; decide), q1]
  have y2 : bat (⟨(be32 (n : Int)).toArray⟩ ++ R1) 2 = n / 2 ^ 8 % 256 := by rw [bat_app (by rw [s32]; decide), q2]
  have y3 : bat (⟨(be32 (n : Int)).toArray⟩ ++ R1) 3 = n % 256 := by rw [bat_app (by rw [s32]; decide), q3]
  have z0 : bat R3 0 = t / 2 ^ 8 % 256 := by rw [← hR3, bat_app (by rw [b4_size]; decide), r0]
  have z1 : bat R3 1 = t % 256 := by rw [← hR3, bat_app (by rw [b4_size]; decide), r1]
  have z2 : bat R3 2 = z % 256 := by rw [← hR3, bat_app (by rw [b4_size]; decide), r2]
  have z3 : bat R3 3 = a % 256 := by rw [← hR3, bat_app (by rw [b4_size]; decide), r3]
  have ee : evOf (⟨(be32 (n : Int)).toArray⟩ ++ R1) R3 e.cl e.na e.tr = e := by
    have f1 : ((g16 (⟨(be32 (n : Int)).toArray⟩ ++ R1) 0 * 65536 + g16 (⟨(be32 (n : Int)).toArray⟩ ++ R1) 2 : Nat) : Int) = e.tm := by rw [g16_0, g16_2, y0, y1, y2, y3, hn]; omega
    have f2 : (g16 R3 0 : Int) = e.ty := by rw [g16_0, z0, z1, ht]; omega
    have f3 : (bat R3 2 : Int) = e.zn := by rw [z2, hz]; omega
    have f4 : (bat R3 3 : Int) = e.ac := by rw [z3, ha]; omega
    unfold evOf
    rw [f1, f2, f3, f4]
  rw [decE, if_neg (by omega), x1, x2]
  dsimp only
  rw [x3]; dsimp only
  rw [if_neg (by omega), x4, x5]; dsimp only
  rw [x6]; dsimp only
  rw [ee, mayE_iff.2 h.may]
  simp
theorem dec_some {b : ByteArray} {e : Ev} (h : decE b = some e) : MadeE e ∧ bytE e = b := by
  classical
  rw [decE] at h
  split at h
  · cases h
  rename_i h4
  cases h1 : txF (b.extract 4 b.size) with
  | none => rw [h1] at h; cases h
  | some p =>
  obtain ⟨cl, s2⟩ := p
  rw [h1] at h; dsimp only at h
  cases h2 : txF s2 with
  | none => rw [h2] at h; cases h
  | some q =>
  obtain ⟨na, s3⟩ := q
  rw [h2] at h; dsimp only at h
  split at h
  · cases h
  rename_i h34
  cases h3 : txF (s3.extract 4 s3.size) with
  | none => rw [h3] at h; cases h
  | some r =>
  obtain ⟨rel, rest⟩ := r
  rw [h3] at h; dsimp only at h
  cases h5 : decF rel with
  | none => rw [h5] at h; cases h
  | some tr =>
  rw [h5] at h; dsimp only at h
  split at h
  · rename_i hc
    obtain ⟨rfl, hmay⟩ := hc
    have h := Option.some.inj h
    rw [h] at hmay
    have hM := mayE_iff.1 hmay
    have q0 := bat_lt b 0; have q1 := bat_lt b 1; have q2 := bat_lt b 2; have q3 := bat_lt b 3
    have r0 := bat_lt s3 0; have r1 := bat_lt s3 1; have r2 := bat_lt s3 2; have r3 := bat_lt s3 3
    have etm : e.tm = ((g16 b 0 * 65536 + g16 b 2 : Nat) : Int) := by rw [← h]; rfl
    have ety : e.ty = (g16 s3 0 : Int) := by rw [← h]; rfl
    have ezn : e.zn = (bat s3 2 : Int) := by rw [← h]; rfl
    have eac : e.ac = (bat s3 3 : Int) := by rw [← h]; rfl
    have ecl : e.cl = cl := by rw [← h]; rfl
    have ena : e.na = na := by rw [← h]; rfl
    have etr : e.tr = tr := by rw [← h]; rfl
    have erel : relE e = rel := by rw [relE, etr, dec_enc h5]; rfl
    refine ⟨⟨hM, by rw [ety]; omega, by rw [ety]; have := g16_lt s3 0; omega⟩, ?_⟩
    obtain ⟨p1, _⟩ := txF_some h1
    obtain ⟨p2, _⟩ := txF_some h2
    obtain ⟨p3, _⟩ := txF_some h3
    rw [ba_app_empty] at p3
    have hp := byt_parts e ⟨#[]⟩
    rw [ba_app_empty, ba_app_empty, ecl, ena, erel] at hp
    have ew : IntKind.wrap .u32 e.tm = ((g16 b 0 * 65536 + g16 b 2 : Nat) : Int) := by
      rw [etm]; have := g16_lt b 0; have := g16_lt b 2; exact wrap_u32 (by omega) (by omega)
    have e32 : (⟨(be32 (IntKind.wrap .u32 e.tm)).toArray⟩ : ByteArray) = b.extract 0 4 := by
      rw [ew]
      obtain ⟨x0, x1, x2, x3⟩ := b32_bat (g16 b 0 * 65536 + g16 b 2)
      refine bat_ext (by rw [ex_sz (by omega)]; rfl) fun k hk => ?_
      have hk4 : k < 4 := hk
      rw [bat_ex hk4 (by omega)]
      rcases (show k = 0 ∨ k = 1 ∨ k = 2 ∨ k = 3 by omega) with rfl | rfl | rfl | rfl
      · rw [x0, g16_0, g16_2]; omega
      · rw [x1, g16_0, g16_2]; omega
      · rw [x2, g16_0, g16_2]; omega
      · rw [x3, g16_0, g16_2]; omega
    have e4 : b4 e = s3.extract 0 4 := by
      obtain ⟨x0, x1, x2, x3⟩ := b4_bat e ety ezn eac
      refine bat_ext (by rw [ex_sz (by omega), b4_size]) fun k hk => ?_
      rw [b4_size] at hk
      rw [bat_ex hk (by omega)]
      rcases (show k = 0 ∨ k = 1 ∨ k = 2 ∨ k = 3 by omega) with rfl | rfl | rfl | rfl
      · rw [x0, g16_0]; omega
      · rw [x1, g16_0]; omega
      · rw [x2]; omega
      · rw [x3]; omega
    rw [hp, e32, e4, ← p3, split_ex (by omega), ← p2, ← p1]
    exact split_ex (by omega)
  · cases h
end Go.Proofs.YtkagfmlaolmdnaaDoor
