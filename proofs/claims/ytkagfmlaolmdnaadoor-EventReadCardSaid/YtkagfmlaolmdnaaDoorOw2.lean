/- Numbers written: strconv.Itoa of a byte's numbers. -/
import Derived.Test.YtkagfmlaolmdnaaDoorT1
import Derived.Test.YtkagfmlaolmdnaaDoorPx12
import Derived.Test.YtkagfmlaolmdnaaDoorOw1
namespace Go.Proofs.YtkagfmlaolmdnaaDoor
open Go.Px
set_option linter.unusedVariables false
set_option linter.unusedSimpArgs false
set_option maxRecDepth 8000

/-- what the library's tables and errors hold, as far as it is read -/
structure GL (I : IMem) : Prop where
  p10 : ∃ cs e fz, I.at_ 0 = some (.cells cs e fz) ∧ cs[2]? = some (.int .u64 100)
  tz : ∃ cs e fz, I.at_ 4 = some (.cells cs e fz) ∧ cs[15]? = some (.int .u8 4)
  er1 : ∃ cs e fz t v, I.at_ 1 = some (.cells cs e fz) ∧ cs[0]? = some (.iface t v)
  er2 : ∃ cs e fz t v, I.at_ 2 = some (.cells cs e fz) ∧ cs[0]? = some (.iface t v)
theorem GL.le {I J : IMem} (h : GL I) (hle : I.le J) : GL J :=
  ⟨let ⟨cs, e, fz, h1, h2⟩ := h.p10; ⟨cs, e, fz, hle.at_ _ _ h1, h2⟩, let ⟨cs, e, fz, h1, h2⟩ := h.tz; ⟨cs, e, fz, hle.at_ _ _ h1, h2⟩, let ⟨cs, e, fz, t, v, h1, h2⟩ := h.er1; ⟨cs, e, fz, t, v, hle.at_ _ _ h1, h2⟩,
    let ⟨cs, e, fz, t, v, h1, h2⟩ := h.er2; ⟨cs, e, fz, t, v, hle.at_ _ _ h1, h2⟩⟩

theorem small1 : ∀ m : Fin 10, (strT1_69c1.extract m.val (m.val + 1)).data.toList = numL 3 10 m.val := by decide +kernel
theorem small2 : ∀ m : Fin 100, 10 ≤ m.val → (strT1_7034.extract (m.val * 2) (m.val * 2 + 2)).data.toList = numL 3 10 m.val := by decide +kernel
theorem small_runs {n : Nat} (h : n < 100) (I : IMem) (S : SH) : Runs Tryd.prog 82 #[.int .i64 (n : Int)] I S fun v _ T => v = .string (decB n) ∧ T = S := by
  refine strconv_small_fn _ _ _ _ ?_
  unfold strconv_small
  have s1 : strT1_69c1.size = 36 := by decide
  have s2 : strT1_7034.size = 200 := by decide +kernel
  rw [wrap_i64 (x := (n : Int) + 1) (by omega) (by omega), wrap_i64 (x := (n : Int) * 2) (by omega) (by omega), wrap_i64 (x := (n : Int) * 2 + 2) (by omega) (by omega)]
  refine bcase_dec (fun h1 => ?_) (fun h1 => ?_)
  · refine ⟨by omega, by rw [s1]; omega, by omega, by omega, ?_, rfl⟩
    congr 1
    refine bext ?_
    have := small1 ⟨n, by omega⟩
    rw [show (n : Int).toNat = n by omega, show ((n : Int) + 1).toNat = n + 1 by omega, this]
    simp [decB]
  · refine ⟨by omega, by rw [s2]; omega, by omega, by omega, ?_, rfl⟩
    congr 1
    refine bext ?_
    have := small2 ⟨n, h⟩ (by show 10 ≤ n; omega)
    rw [show ((n : Int) * 2).toNat = n * 2 by omega, show ((n : Int) * 2 + 2).toNat = n * 2 + 2 by omega, this]
    simp [decB]

theorem len8tab : ∀ m : Fin 256, 100 ≤ m.val → (strT1_2a39[m.val]? = some 7 ∨ strT1_2a39[m.val]? = some 8) := by decide +kernel
theorem Len64_runs {n : Nat} (h : 100 ≤ n) (h2 : n ≤ 255) (I : IMem) (S : SH) : Runs Tryd.prog 97 #[.int .u64 (n : Int)] I S fun v _ T => (v = .int .i64 7 ∨ v = .int .i64 8) ∧ T = S := by
  refine bits_Len64_fn _ _ _ _ ?_
  unfold bits_Len64 bits_Len64_b1 bits_Len64_b2 bits_Len64_b3
  refine bcase_dec (fun g => by omega) (fun _ => bcase_dec (fun g => by omega) (fun _ => bcase_dec (fun g => by omega) (fun _ => ?_)))
  rw [wrap_u8 (x := (n : Int)) (by omega) (by omega)]
  rcases len8tab ⟨n, by omega⟩ h with e | e
  · exact ⟨7, by omega, e, .inl rfl, rfl⟩
  · exact ⟨8, by omega, e, .inr rfl, rfl⟩
theorem Log_runs {x : Int} (h : x = 7 ∨ x = 8) (I : IMem) (S : SH) : Runs Tryd.prog 96 #[.int .i64 x] I S fun v _ T => v = .int .i64 2 ∧ T = S := by
  refine strconv_log10Pow2_fn _ _ _ _ ?_
  unfold strconv_log10Pow2
  rcases h with rfl | rfl <;> exact ⟨rfl, rfl⟩
theorem b2i_runs (b : Bool) (I : IMem) (S : SH) : Runs Tryd.prog 98 #[.bool b] I S fun v _ T => v = .int .i64 (if b then 1 else 0) ∧ T = S := by
  refine strconv_bool2_int_fn _ _ _ _ ?_
  unfold strconv_bool2_int
  cases b
  · exact bcase_f rfl ⟨rfl, rfl⟩
  · exact bcase_t rfl ⟨rfl, rfl⟩
theorem digits_runs {n : Nat} (h : 100 ≤ n) (h2 : n ≤ 255) {I : IMem} (g : GL I) (S : SH) : Runs Tryd.prog 83 #[.int .u64 (n : Int)] I S fun v _ T => v = .int .i64 3 ∧ T = S := by
  refine strconv_numDigits_fn _ _ _ _ ?_
  unfold strconv_numDigits
  refine (Len64_runs h h2 I S).mono ?_
  rintro v J T hle ⟨hv, rfl⟩
  have key : ∀ x : Int, x = 7 ∨ x = 8 → Runs Tryd.prog 96 #[.int .i64 x] J T fun v' I1' S1' => ∃ x6, v' = .int .i64 x6 ∧
    (0 : Int) ≤ x6 ∧ x6 < ((20 : Nat) : Int) ∧
    ∃ x11, Cell I1' S1' ((⟨0, 0, none⟩ : Addr).add (x6.toNat * 1)) (.int .u64 x11) ∧
    Runs Tryd.prog 98 #[.bool (decide ((n : Int) ≥ x11))] I1' S1' fun v'' I1'' S1'' => ∃ x13, v'' = .int .i64 x13 ∧
    (Value.int .i64 (IntKind.wrap .i64 (x6 + x13)) = .int .i64 3 ∧ S1'' = T) := by
    intro x hx
    refine (Log_runs hx J T).mono ?_
    rintro v J1 T1 hle1 ⟨rfl, rfl⟩
    obtain ⟨cs, e, fz, h1, h2⟩ := ((g.le hle).le hle1).p10
    refine ⟨2, rfl, by omega, by omega, 100, ?_, ?_⟩
    · exact Cell.im (b := 0) (o := 2) h1 h2
    · refine (b2i_runs _ J1 T1).mono ?_
      rintro v J2 T2 _ ⟨rfl, rfl⟩
      rw [if_pos (by simp; omega)]
      exact ⟨_, rfl, rfl, rfl⟩
  rcases hv with rfl | rfl
  · exact ⟨7, rfl, key 7 (.inl rfl)⟩
  · exact ⟨8, rfl, key 8 (.inr rfl)⟩

theorem sm3 : ∀ m : Fin 100, strT1_7034[m.val * 2 + 1]? = (numL 3 10 (100 + m.val))[2]? ∧ strT1_7034[m.val * 2]? = (numL 3 10 (100 + m.val))[1]? := by decide +kernel
theorem num3 : ∀ m : Fin 256, 100 ≤ m.val → ∃ a b : UInt8, (numL 3 10 m.val) = [UInt8.ofNat (48 + m.val / 100), a, b] ∧ strT1_7034[m.val % 100 * 2 + 1]? = some b ∧ strT1_7034[m.val % 100 * 2]? = some a := by
  intro m hm
  have h1 : (numL 3 10 m.val) = [UInt8.ofNat (48 + m.val / 100), dgt (m.val / 10 % 10), dgt (m.val % 10)] := by
    revert m; decide +kernel
  refine ⟨_, _, h1, ?_, ?_⟩
  · revert m; decide +kernel
  · revert m; decide +kernel
theorem base10_runs {n : Nat} (h : 100 ≤ n) (h2 : n ≤ 255) {a b : UInt8} (h3 : strT1_7034[n % 100 * 2 + 1]? = some b) (h4 : strT1_7034[n % 100 * 2]? = some a) {g : Nat} {cs : Array Value} {e : TypeId} (hc : 4 ≤ cs.size) (I : IMem) (S : SH) :
    Runs Tryd.prog 84 #[.slice (some ⟨g, 1, none⟩) 3 23, .int .u64 (n : Int)] I ((g, .cells cs e (0, 0)) :: S) fun v _ T => v = .tuple #[] ∧
      T = (g, .cells (setR (setR (setR cs 3 [.int .u8 (b.toNat : Int)]) 2 [.int .u8 (a.toNat : Int)]) 1 [.int .u8 ((UInt8.ofNat (48 + n / 100)).toNat : Int)]) e (0, 0)) :: S := by
  refine strconv_formatBase10_fn _ _ _ _ _ _ _ ?_
  unfold strconv_formatBase10 strconv_formatBase10_b1
  refine ⟨fun m x xn xc u nd J T => x = some ⟨g, 1, none⟩ ∧ xn = 3 ∧ xc = 23 ∧ u = (n : Int) ∧ nd = 3 ∧ J = J ∧ T = (g, .cells cs e (0, 0)) :: S, 0, ⟨rfl, rfl, rfl, rfl, rfl, rfl, rfl⟩, ?_⟩
  rintro m x xn xc u nd J T - ⟨rfl, rfl, rfl, rfl, rfl, -, rfl⟩
  unfold strconv_formatBase10_l2 strconv_formatBase10_b9 strconv_formatBase10_b10 strconv_formatBase10_b11 strconv_formatBase10_b15 strconv_formatBase10_b16 strconv_formatBase10_b17 strconv_formatBase10_b18 strconv_formatBase10_b19
  rw [wrap_u32 (x := (n : Int)) (by omega) (by omega)]
  have e1 : (n : Int).tmod 100 = ((n % 100 : Nat) : Int) := by rw [Int.tmod_eq_emod_of_nonneg (by omega)]; omega
  have e2 : (n : Int).tdiv 100 = ((n / 100 : Nat) : Int) := by rw [Int.tdiv_eq_ediv_of_nonneg (by omega)]; omega
  refine bcase_f rfl (bcase_f rfl (bcase_t rfl ?_))
  rw [e1, e2, wrap_u32 (x := ((n / 100 : Nat) : Int)) (by omega) (by omega), wrap_u32 (x := ((n % 100 : Nat) : Int) * 2) (by omega) (by omega), wrap_u32 (x := ((n % 100 : Nat) : Int) * 2 + 1) (by omega) (by omega)]
  refine ⟨b, by omega, (congrArg (fun i : Nat => strT1_7034[i]?) (show ((((n % 100 : Nat) : Int) * 2 + 1).toNat) = n % 100 * 2 + 1 by omega)).trans h3, a, by omega, (congrArg (fun i : Nat => strT1_7034[i]?) (show ((((n % 100 : Nat) : Int) * 2).toNat) = n % 100 * 2 by omega)).trans h4, by decide, by decide, ?_⟩
  refine StP.at0 (o := 3) (by simpa using hc) rfl ?_
  refine ⟨by decide, by decide, StP.at0 (o := 2) (by simp [setR_size]; omega) rfl ?_⟩
  refine bcase_t rfl ⟨by decide, by decide, StP.at0 (o := 1) (by simp [setR_size]; omega) rfl ⟨rfl, ?_⟩⟩
  have e3 : IntKind.wrap .u8 (IntKind.wrap .u32 (48 + ((n / 100 : Nat) : Int))) = ((UInt8.ofNat (48 + n / 100)).toNat : Int) := by
    rw [wrap_u32 (by omega) (by omega), wrap_u8 (by omega) (by omega)]
    have : (UInt8.ofNat (48 + n / 100)).toNat = 48 + n / 100 := by simp [UInt8.toNat_ofNat']; omega
    rw [this]; omega
  rw [e3]
theorem Fmt10_runs {n : Nat} (h : n ≤ 255) {I : IMem} (g : GL I) (S : SH) : Runs Tryd.prog 71 #[.int .i64 (n : Int), .int .i64 10] I S fun v _ T => v = .string (decB n) ∧ T = S := by
  refine Runs.drop (strconv_FormatInt_2_fn _ _ _ _ _ ?_)
  unfold strconv_FormatInt_2 strconv_FormatInt_2_b1 strconv_FormatInt_2_b2 strconv_FormatInt_2_b3
  refine bcase_t rfl (bcase_t (decide_eq_true (by omega)) (bcase_dec (fun h1 => ?_) (fun h1 => ?_)))
  · refine (small_runs (by omega) I S).mono ?_
    rintro v J T hle ⟨rfl, rfl⟩
    exact ⟨_, rfl, _, Sub.refl _, rfl, rfl⟩
  · unfold strconv_FormatInt_2_b4 strconv_FormatInt_2_b5
    intro b5
    refine bcase_f (decide_eq_false (by omega)) ?_
    rw [wrap_u64 (x := (n : Int)) (by omega) (by omega)]
    refine (digits_runs (n := n) (by omega) h g _).mono ?_
    rintro v J T hle ⟨rfl, rfl⟩
    refine ⟨3, rfl, by decide, by decide, by decide, by decide, ?_⟩
    obtain ⟨a, b, h3, h4, h5⟩ := num3 ⟨n, by omega⟩ (by show 100 ≤ n; omega)
    refine (base10_runs (n := n) (by omega) h h4 h5 (g := b5) (by simp) J S).mono ?_
    rintro v J1 T1 hle1 ⟨rfl, rfl⟩
    refine ⟨rfl, bcase_f (decide_eq_false (by omega)) ⟨by decide, by decide, by decide, by decide, decB n, ?_, S, ⟨[_], List.perm_append_comm (l₁ := [_])⟩, rfl, rfl⟩⟩
    have hd : (decB n).data.toList = [UInt8.ofNat (48 + n / 100), a, b] := h3
    have hsz : (decB n).size = 3 := by have := congrArg List.length hd; rw [Array.length_toList] at this; exact this
    have hg : ∀ i : Nat, (decB n)[i]? = ([UInt8.ofNat (48 + n / 100), a, b] : List UInt8)[i]? := by
      intro i
      rw [← hd]
      by_cases hi : i < (decB n).size
      · rw [getElem?_pos _ i hi, List.getElem?_eq_getElem (by rw [Array.length_toList]; exact hi)]; rfl
      · rw [getElem?_neg _ i hi, List.getElem?_eq_none (by rw [Array.length_toList]; exact Nat.le_of_not_lt hi)]
    refine ⟨hsz, fun i c hc => ?_⟩
    rw [hg] at hc
    have hadd : (⟨b5, 0, none⟩ : Addr).add (1 * 1) = ⟨b5, 1, none⟩ := rfl
    show Cell J1 _ (((⟨b5, 0, none⟩ : Addr).add (1 * 1)).add i) _
    rw [hadd, add_mk]
    rcases i with _ | _ | _ | i
    · obtain rfl := Option.some.inj hc; exact Cell.at0 rfl
    · obtain rfl := Option.some.inj hc; exact Cell.at0 rfl
    · obtain rfl := Option.some.inj hc; exact Cell.at0 rfl
    · simp at hc
theorem Itoa2_runs {n : Nat} (h : n ≤ 255) {I : IMem} (g : GL I) (S : SH) : Runs Tryd.prog 59 #[.int .i64 (n : Int)] I S fun v _ T => v = .string (decB n) ∧ T = S := by
  refine strconv_Itoa_2_fn _ _ _ _ ?_
  unfold strconv_Itoa_2
  refine (Fmt10_runs h g S).mono ?_
  rintro v J T hle ⟨rfl, rfl⟩
  exact ⟨_, rfl, rfl, rfl⟩
theorem Itoa_runs {n : Nat} (h : n ≤ 255) {I : IMem} (g : GL I) (S : SH) : Runs Tryd.prog 38 #[.int .i64 (n : Int)] I S fun v _ T => v = .string (decB n) ∧ T = S := by
  refine strconv_Itoa_fn _ _ _ _ ?_
  unfold strconv_Itoa
  refine (Itoa2_runs h g S).mono ?_
  rintro v J T hle ⟨rfl, rfl⟩
  exact ⟨_, rfl, rfl, rfl⟩
end Go.Proofs.YtkagfmlaolmdnaaDoor
