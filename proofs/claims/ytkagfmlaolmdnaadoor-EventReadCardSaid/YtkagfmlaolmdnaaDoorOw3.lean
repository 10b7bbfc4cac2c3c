/- Numbers written by sixteen: strconv.FormatUint and FormatInt of words. -/
import Derived.Test.YtkagfmlaolmdnaaDoorOw2
import Derived.Test.YtkagfmlaolmdnaaDoorPx11
namespace Go.Proofs.YtkagfmlaolmdnaaDoor
open Go.Px
set_option linter.unusedVariables false
set_option linter.unusedSimpArgs false
set_option maxRecDepth 8000

theorem iand15 {u : Nat} (h : u < 65536) : iand .u64 (u : Int) (15 : Int) = ((u % 16 : Nat) : Int) := by
  have h1 : (BitVec.ofInt (IntKind.bits .u64) (u : Int) &&& BitVec.ofInt (IntKind.bits .u64) (15 : Int)).toNat = u % 16 := by
    rw [BitVec.toNat_and, BitVec.ofInt_natCast]
    have e1 : (BitVec.ofNat (IntKind.bits .u64) u).toNat = u := by
      rw [BitVec.toNat_ofNat]; exact Nat.mod_eq_of_lt (by show u < 2 ^ 64; omega)
    have e2 : (BitVec.ofInt (IntKind.bits .u64) (15 : Int)).toNat = 15 := by decide
    rw [e1, e2]
    exact Nat.and_two_pow_sub_one_eq_mod u 4
  unfold iand
  rw [h1]
  exact wrap_u64 (by omega) (by omega)
theorem dgt_at : ∀ d : Fin 16, strT1_69c1[d.val]? = some (dgt d.val) := by decide +kernel
theorem dgt_at' {d : Nat} (h : d < 16) : strT1_69c1[d]? = some (dgt d) := dgt_at ⟨d, h⟩
theorem pow2_runs (I : IMem) (S : SH) : Runs Tryd.prog 99 #[.int .i64 16] I S fun v _ T => v = .bool true ∧ T = S := by
  refine strconv_isPowerOfTwo_fn _ _ _ _ ?_
  unfold strconv_isPowerOfTwo
  exact ⟨by rw [show ((iand .i64 16 (IntKind.wrap .i64 (16 - (1 : Int)))) == (0 : Int)) = true by decide +kernel], rfl⟩
theorem tz_runs {I : IMem} (g : GL I) (S : SH) : Runs Tryd.prog 106 #[.int .u64 16] I S fun v _ T => v = .int .i64 4 ∧ T = S := by
  refine bits_TrailingZeros64_fn _ _ _ _ ?_
  unfold bits_TrailingZeros64
  have e : ((IntKind.wrap .u64 ((iand .u64 16 (IntKind.wrap .u64 (0 - 16))) * (285870213051353865 : Int))).fdiv (2 ^ (min (58 : Int).toNat (IntKind.bits .u64)))) = 15 := by decide +kernel
  rw [e]
  obtain ⟨cs, t, fz, h1, h2⟩ := g.tz
  exact bcase_f rfl ⟨by decide, by decide, 4, Cell.im (b := 4) (o := 15) h1 h2, rfl, rfl⟩
theorem tz2_runs {I : IMem} (g : GL I) (S : SH) : Runs Tryd.prog 100 #[.int .u64 16] I S fun v _ T => v = .int .i64 4 ∧ T = S := by
  refine bits_TrailingZeros_fn _ _ _ _ ?_
  unfold bits_TrailingZeros
  refine (tz_runs g S).mono ?_
  rintro v J T _ ⟨rfl, rfl⟩
  exact ⟨_, rfl, rfl, rfl⟩
def zerosL (k : Nat) : List Value := List.replicate k (.int .u8 0)
theorem zerosL_take {k j : Nat} (h : j ≤ k) (B : List Value) : (zerosL k ++ B).take j = zerosL j := by
  rw [List.take_append_of_le_length (by simp [zerosL]; exact h), zerosL, List.take_replicate, Nat.min_eq_left h]; rfl
theorem zerosL_drop {k : Nat} (B : List Value) : (zerosL k ++ B).drop k = B := by
  have : (zerosL k).length = k := by simp [zerosL]
  rw [List.drop_append_of_le_length (by omega), List.drop_of_length_le (by omega), List.nil_append]
theorem bits_runs {n : Nat} (h : n < 65536) {I : IMem} (g : GL I) (S : SH) : Runs Tryd.prog 85 #[.slice none 0 0, .int .u64 (n : Int), .int .i64 16, .bool false, .bool false] I S fun v _ T => v = .tuple #[.slice none 0 0, .string (hexB n)] ∧ T = S := by
  refine Runs.drop (strconv_formatBits_fn _ _ _ _ _ _ _ _ _ _ ?_)
  unfold strconv_formatBits strconv_formatBits_b1 strconv_formatBits_b2 strconv_formatBits_b3 strconv_formatBits_b4 strconv_formatBits_b5
  refine bcase_f rfl (bcase_f rfl (bcase_f rfl ?_))
  intro b12
  refine bcase_f rfl ((pow2_runs I _).mono ?_)
  rintro v J T hle ⟨rfl, rfl⟩
  refine ⟨true, rfl, bcase_t rfl ?_⟩
  rw [wrap_u64 (x := (16 : Int)) (by decide) (by decide)]
  refine (tz2_runs (g.le hle) _).mono ?_
  rintro v J1 T1 hle1 ⟨rfl, rfl⟩
  refine ⟨4, rfl, ?_⟩
  rw [wrap_u64 (x := (4 : Int)) (by decide) (by decide), wrap_u64 (x := (16 : Int) - 1) (by decide) (by decide)]
  unfold strconv_formatBits_b6
  refine ⟨fun m d dn dc u ng ap d2 d2n d2c s a i sh b mk J T => d = none ∧ dn = 0 ∧ dc = 0 ∧ ng = false ∧ ap = false ∧ d2 = none ∧ d2n = 0 ∧ d2c = 0 ∧ a = ⟨b12, 0, none⟩ ∧ sh = 4 ∧ b = 16 ∧ mk = 16 - 1 ∧ J1.le J ∧
    ∃ (k f : Nat) (acc : List UInt8), u = (k : Int) ∧ m = f ∧ 1 ≤ f ∧ f + acc.length = 4 ∧ k < 16 ^ f ∧ i = ((65 - acc.length : Nat) : Int) ∧ numL 4 16 n = numL f 16 k ++ acc ∧ T = (b12, .cells (zerosL (65 - acc.length) ++ bytL acc).toArray 156 (0, 0)) :: S,
    4, ⟨rfl, rfl, rfl, rfl, rfl, rfl, rfl, rfl, rfl, rfl, rfl, rfl, IMem.le.refl _, n, 4, [], rfl, rfl, by decide, rfl, by omega, rfl, by simp, rfl⟩, ?_⟩
  rintro m d dn dc u ng ap d2 d2n d2c s a i sh b mk J T - ⟨rfl, rfl, rfl, rfl, rfl, rfl, rfl, rfl, rfl, rfl, rfl, rfl, hle2, k, f, acc, rfl, rfl, hf, hfa, hk, rfl, hn, rfl⟩
  unfold strconv_formatBits_l7
  have hk2 : k < 65536 := Nat.lt_of_lt_of_le hk (by have : (16 : Nat) ^ m ≤ 16 ^ 4 := Nat.pow_le_pow_right (by decide) (by omega); omega)
  have hacc : acc.length ≤ 3 := by omega
  have hput : ∀ (c : UInt8) (K : SH → Prop), K ((b12, .cells (zerosL (65 - (c :: acc).length) ++ bytL (c :: acc)).toArray 156 (0, 0)) :: S) →
      StP ((b12, .cells (zerosL (65 - acc.length) ++ bytL acc).toArray 156 (0, 0)) :: S) ((⟨b12, 0, none⟩ : Addr).add ((IntKind.wrap .i64 (((65 - acc.length : Nat) : Int) - 1)).toNat * 1)) [.int .u8 (c.toNat : Int)] K := by
    intro c K hK
    have e0 : (IntKind.wrap .i64 (((65 - acc.length : Nat) : Int) - 1)).toNat * 1 = 64 - acc.length := by rw [wrap_i64 (by omega) (by omega)]; omega
    rw [e0, add_mk]
    refine StP.list (o := 0 + (64 - acc.length)) (by simp [zerosL, bytL_len]; omega) rfl ?_
    have e1 : (zerosL (65 - acc.length) ++ bytL acc).take (0 + (64 - acc.length)) = zerosL (64 - acc.length) := by rw [Nat.zero_add]; exact zerosL_take (by omega) _
    have e2 : (zerosL (65 - acc.length) ++ bytL acc).drop (0 + (64 - acc.length) + [Value.int .u8 (c.toNat : Int)].length) = bytL acc := by
      rw [show 0 + (64 - acc.length) + [Value.int .u8 (c.toNat : Int)].length = 65 - acc.length by simp; omega]; exact zerosL_drop _
    rw [e1, e2, List.append_assoc]
    have e3 : 64 - acc.length = 65 - (c :: acc).length := by rw [List.length_cons]; omega
    rw [e3]
    exact hK
  refine bcase_dec (fun h16 => ?_) (fun h16 => ?_)
  · have hd : k % 16 < 16 := Nat.mod_lt _ (by decide)
    have hf2 : 2 ≤ m := by
      rcases Nat.lt_or_ge m 2 with h | h
      · have : m = 1 := by omega
        subst this; simp at hk; omega
      · exact h
    obtain ⟨f, rfl⟩ : ∃ f, m = f + 1 := ⟨m - 1, by omega⟩
    have hi : iand .u64 (k : Int) (16 - 1) = ((k % 16 : Nat) : Int) := iand15 hk2
    rw [hi]
    refine ⟨dgt (k % 16), by omega, dgt_at' hd, by rw [wrap_i64 (by omega) (by omega)]; omega, by rw [wrap_i64 (by omega) (by omega)]; omega, hput _ _ (bcase_f rfl ?_)⟩
    refine ⟨f, by omega, rfl, rfl, rfl, rfl, rfl, rfl, rfl, rfl, rfl, rfl, rfl, rfl, hle2, k / 16, f, dgt (k % 16) :: acc, ?_, rfl, by omega, by rw [List.length_cons]; omega, ?_, ?_, ?_, rfl⟩
    · rw [Int.fdiv_eq_ediv_of_nonneg _ (by decide)]
      show (k : Int) / 16 = _
      omega
    · rw [Nat.pow_succ] at hk; omega
    · rw [wrap_i64 (by omega) (by omega), List.length_cons]; omega
    · rw [hn]
      conv => lhs; rw [numL, if_neg (by omega)]
      simp
  · unfold strconv_formatBits_b8 strconv_formatBits_b9 strconv_formatBits_b10
    obtain ⟨f, rfl⟩ : ∃ f, m = f + 1 := ⟨m - 1, by omega⟩
    refine ⟨dgt k, by omega, dgt_at' (by omega), by rw [wrap_i64 (by omega) (by omega)]; omega, by rw [wrap_i64 (by omega) (by omega)]; omega, hput _ _ (bcase_f rfl (bcase_f rfl ?_))⟩
    have hfin : numL 4 16 n = dgt k :: acc := by
      rw [hn, numL, if_pos (by omega)]; rfl
    have hl : (dgt k :: acc).length = acc.length + 1 := rfl
    have e0 : IntKind.wrap .i64 (((65 - acc.length : Nat) : Int) - 1) = ((64 - acc.length : Nat) : Int) := by rw [wrap_i64 (by omega) (by omega)]; omega
    rw [e0]
    refine ⟨by omega, by omega, hexB n, ?_, S, ⟨[_], List.perm_append_comm (l₁ := [_])⟩, rfl, rfl⟩
    have e1 : slA (some ⟨b12, 0, none⟩) 65 ((64 - acc.length : Nat) : Int).toNat 1 = some ⟨b12, 64 - acc.length, none⟩ := by
      unfold slA
      rw [if_neg (by omega)]
      show some _ = _
      congr 1
      rw [show ((64 - acc.length : Nat) : Int).toNat * 1 = 64 - acc.length by omega]
      show (⟨b12, 0, none⟩ : Addr).add (64 - acc.length) = _
      rw [add_mk, Nat.zero_add]
    rw [e1, show 65 - ((64 - acc.length : Nat) : Int).toNat = acc.length + 1 by omega]
    have hd : (hexB n).data.toList = dgt k :: acc := hfin
    have hsz : (hexB n).size = acc.length + 1 := by have := congrArg List.length hd; rw [Array.length_toList] at this; exact this
    refine ⟨hsz, fun i c hc => ?_⟩
    have hi : i < (hexB n).size := by
      rcases Nat.lt_or_ge i (hexB n).size with h | h
      · exact h
      · rw [getElem?_neg _ i (by omega)] at hc; cases hc
    rw [add_mk]
    refine Cell.at0 ?_
    have hg : (dgt k :: acc)[i]? = some c := by rw [← hd, ← ba_get]; exact hc
    have hz : (zerosL (65 - (dgt k :: acc).length)).length = 64 - acc.length := by rw [zerosL, List.length_replicate, hl]; omega
    rw [List.getElem?_toArray, List.getElem?_append_right (by rw [hz]; exact Nat.le_add_right _ _)]
    have : (64 - acc.length + i) - (zerosL (65 - (dgt k :: acc).length)).length = i := by rw [hz]; omega
    rw [this, bytL, List.getElem?_map, hg]; rfl
theorem FmtU_runs {n : Nat} (h : n < 65536) {I : IMem} (g : GL I) (S : SH) : Runs Tryd.prog 80 #[.int .u64 (n : Int), .int .i64 16] I S fun v _ T => v = .string (hexB n) ∧ T = S := by
  refine strconv_FormatUint_fn _ _ _ _ _ ?_
  unfold strconv_FormatUint
  refine Runs.mono (R := fun v _ T => v = .string (hexB n) ∧ T = S) ?_ ?_
  · refine strconv_FormatUint_2_fn _ _ _ _ _ ?_
    unfold strconv_FormatUint_2
    refine bcase_f rfl ((bits_runs h g S).mono ?_)
    rintro v J T _ ⟨rfl, rfl⟩
    exact ⟨_, _, _, _, rfl, rfl, rfl⟩
  · rintro v J T _ ⟨rfl, rfl⟩
    exact ⟨_, rfl, rfl, rfl⟩
theorem FmtI_runs {n : Nat} (h : n < 65536) {I : IMem} (g : GL I) (S : SH) : Runs Tryd.prog 60 #[.int .i64 (n : Int), .int .i64 16] I S fun v _ T => v = .string (hexB n) ∧ T = S := by
  refine strconv_FormatInt_fn _ _ _ _ _ ?_
  unfold strconv_FormatInt
  refine Runs.mono (R := fun v _ T => v = .string (hexB n) ∧ T = S) ?_ ?_
  · refine strconv_FormatInt_2_fn _ _ _ _ _ ?_
    unfold strconv_FormatInt_2 strconv_FormatInt_2_b1 strconv_FormatInt_2_b2 strconv_FormatInt_2_b6
    refine bcase_f rfl ?_
    rw [wrap_u64 (x := (n : Int)) (by omega) (by omega), show (decide ((n : Int) < 0)) = false from decide_eq_false (by omega)]
    refine (bits_runs h g S).mono ?_
    rintro v J T _ ⟨rfl, rfl⟩
    exact ⟨_, _, _, _, rfl, rfl, rfl⟩
  · rintro v J T _ ⟨rfl, rfl⟩
    exact ⟨_, rfl, rfl, rfl⟩
end Go.Proofs.YtkagfmlaolmdnaaDoor
