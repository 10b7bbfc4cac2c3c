/- Numbers read: the library's inner ParseUint, by ten and by sixteen, of every string. -/
import Derived.Test.YtkagfmlaolmdnaaDoorOw3
namespace Go.Proofs.YtkagfmlaolmdnaaDoor
open Go.Px
set_option linter.unusedVariables false
set_option linter.unusedSimpArgs false
set_option maxRecDepth 8000

abbrev erV (k : Int) : Value := .iface 142 (.int .i64 k)
def PuX (s : ByteArray) (base : Int) (P : Nat → Prop) : Prop := base = 16 → ∀ w : Nat, w < 65536 → s = hexB w → P w
def PuR (s : ByteArray) (base : Int) (S : SH) (v : Value) (T : SH) : Prop :=
  ∃ (n : Int) (e : Value), v = .tuple #[.int .u64 n, e] ∧ (e = .nilIface ∨ e = erV 1 ∨ e = erV 2) ∧ PuX s base (fun w => n = (w : Int) ∧ e = .nilIface) ∧ (e = .nilIface → base = 16 → 0 ≤ n ∧ n ≤ 65535) ∧ Sub S T
theorem lowerU : ∀ c : Fin 256, ior .u8 (c.val : Int) 32 = ((UInt8.ofNat c.val ||| 32).toNat : Int) := by decide +kernel
theorem lowerU' (c : UInt8) : ior .u8 (c.toNat : Int) 32 = ((c ||| 32).toNat : Int) := by
  have := lowerU ⟨c.toNat, c.toNat_lt⟩
  simpa using this
theorem lower_runs (c : UInt8) (I : IMem) (S : SH) : Runs Tryd.prog 103 #[.int .u8 (c.toNat : Int)] I S fun v _ T => v = .int .u8 ((c ||| 32).toNat : Int) ∧ T = S := by
  refine strconv_lower_fn _ _ _ _ ?_
  unfold strconv_lower
  rw [lowerU']
  exact ⟨rfl, rfl⟩
theorem low_lt (c : UInt8) : (c ||| 32).toNat < 256 := (c ||| 32).toNat_lt
theorem byteCells_at {s : ByteArray} {k : Nat} {c : UInt8} (h : s.data.toList[k]? = some c) (rest : List Value) : (byteCells s ++ rest).toArray[k]? = some (.int .u8 (c.toNat : Int)) := by
  have hk : k < s.data.toList.length := by
    rcases Nat.lt_or_ge k s.data.toList.length with g | g
    · exact g
    · rw [List.getElem?_eq_none g] at h; cases h
  rw [List.getElem?_toArray, List.getElem?_append_left (by simpa [byteCells] using hk), byteCells, List.getElem?_map, h]; rfl
theorem PUin_runs {base bs : Int} (hb : (base = 10 ∧ bs = 0) ∨ (base = 16 ∧ bs = 16)) (s : ByteArray) (hs : s.size ≤ 281474976710656) (I : IMem) (S : SH) :
    Runs Tryd.prog 94 #[.string s, .int .i64 base, .int .i64 bs] I S fun v _ T => PuR s base S v T := by
  refine strconv_ParseUint_2_fn _ _ _ _ _ _ ?_
  unfold strconv_ParseUint_2
  have no : ∀ (nv : Int) (e : Value) (T : SH), e = erV 1 ∨ e = erV 2 → PuX s base (fun _ => False) → Sub S T → PuR s base S (.tuple #[.int .u64 nv, e]) T :=
    fun nv e T he hx hS => ⟨nv, e, rfl, .inr he, fun h w hw hw2 => (hx h w hw hw2).elim, fun h => (by rcases he with rfl | rfl <;> cases h), hS⟩
  have hlen : s.data.toList.length = s.size := Array.length_toList
  refine bcase_of (fun h0 => no _ _ _ (.inr rfl) (fun hb w hw e => ?_) (Sub.refl _)) (fun h0 => ?_)
  · have h1 := hexB_len w
    rw [e] at h0
    rw [tl_inj (eq_of_beq h0)] at h1
    exact absurd h1.1 (by decide)
  unfold strconv_ParseUint_2_b1 strconv_ParseUint_2_b2 strconv_ParseUint_2_b3 strconv_ParseUint_2_b4 strconv_ParseUint_2_b23 strconv_ParseUint_2_b5 strconv_ParseUint_2_b6
  have hb2 : (2 : Int) ≤ base ∧ base ≤ 36 := by rcases hb with ⟨rfl, rfl⟩ | ⟨rfl, rfl⟩ <;> decide
  have key : ∀ cutoff maxVal : Int, (base = 16 → cutoff = 1152921504606846976 ∧ maxVal = 65535) → strconv_ParseUint_2_b7 (fun v _ T => PuR s base S v T) s base (base == 0) s cutoff maxVal false 0 I S := by
    intro cutoff maxVal hcm
    have e0 : (base == (0 : Int)) = false := by rcases hb with ⟨rfl, rfl⟩ | ⟨rfl, rfl⟩ <;> rfl
    rw [e0]
    unfold strconv_ParseUint_2_b7 strconv_ParseUint_2_b8
    refine ⟨by simp only [maxLen]; omega, fun b99 c99 hc1 hc2 => ?_⟩
    refine ⟨fun m ba b0 s0 co mv un n x xn xc q i J T => ba = base ∧ b0 = false ∧ s0 = s ∧ co = cutoff ∧ mv = maxVal ∧ un = false ∧ x = some ⟨b99, 0, none⟩ ∧ xn = s.size ∧ q = (s.size : Int) ∧
      ∃ k : Nat, i = (k : Int) ∧ k ≤ s.size ∧ m = s.size - k ∧ PuX s base (fun w => ∃ nn : Nat, n = (nn : Int) ∧ pu (s.data.toList.drop k) nn = some w) ∧ (base = 16 → 0 ≤ n ∧ n ≤ 65535) ∧ Sub ((b99, .cells (byteCells s ++ repV (c99 - s.size) [.int .u8 0]).toArray 5 (c99, c99 + 1)) :: S) T,
      s.size, ⟨rfl, rfl, rfl, rfl, rfl, rfl, rfl, rfl, rfl, 0, rfl, Nat.zero_le _, rfl, fun hb w hw e => ⟨0, rfl, ?_⟩, fun _ => by omega, Sub.refl _⟩, ?_⟩
    · rw [e]; exact pu_hex hw
    rintro m ba b0 s0 co mv un n x xn xc q i J T - ⟨rfl, rfl, rfl, rfl, rfl, rfl, rfl, rfl, rfl, k, rfl, hk, rfl, hX, hbd, hS⟩
    have hS0 : Sub S T := hS.drop
    unfold strconv_ParseUint_2_l9
    refine bcase_dec (fun h => ?_) (fun h => ?_)
    · have hkl : k < s0.data.toList.length := by omega
      obtain ⟨c, hc⟩ : ∃ c, s0.data.toList[k]? = some c := ⟨_, List.getElem?_eq_getElem hkl⟩
      have hd : s0.data.toList.drop k = c :: s0.data.toList.drop (k + 1) := by
        rw [List.drop_eq_getElem_cons hkl]
        rw [List.getElem?_eq_getElem hkl] at hc
        rw [Option.some.inj hc]
      have hlt := c.toNat_lt
      have hY : PuX s0 ba (fun w => ∃ nn : Nat, n = (nn : Int) ∧ dig c < 16 ∧ nn * 16 + dig c ≤ 65535 ∧ pu (s0.data.toList.drop (k + 1)) (nn * 16 + dig c) = some w) := by
        intro h16 w hw e
        obtain ⟨nn, hn, hp⟩ := hX h16 w hw e
        rw [hd, pu] at hp
        split at hp
        · cases hp
        · exact ⟨nn, hn, by omega, by omega, hp⟩
      unfold strconv_ParseUint_2_b10 strconv_ParseUint_2_b11 strconv_ParseUint_2_b12
      refine ⟨by omega, by omega, (c.toNat : Int), ?_, ?_⟩
      · have := hS.cell' (I := J) (Cell.at0 (b := b99) (e := 5) (fz := (c99, c99 + 1)) (byteCells_at hc (repV (c99 - s0.size) [.int .u8 0])))
        have ea : (⟨b99, 0, none⟩ : Addr).add ((k : Int).toNat * 1) = ⟨b99, k, none⟩ := by rw [add_mk]; congr 1; omega
        rw [ea]; exact this
      have main : ∀ (d : Int) (J' : IMem) (T' : SH), d = (dig c : Int) → T' = T → strconv_ParseUint_2_b15 (fun base_1 base0_8 s0_9 cutoff_10 maxVal_11 underscores_12 n_13 x99 x99n x99c x100 x101 I S_1 =>
          ∃ m', m' < s0.size - k ∧ (base_1 = ba ∧ base0_8 = false ∧ s0_9 = s0 ∧ cutoff_10 = co ∧ maxVal_11 = mv ∧ underscores_12 = false ∧ x99 = some ⟨b99, 0, none⟩ ∧ x99n = s0.size ∧ x100 = (s0.size : Int) ∧
            ∃ k : Nat, x101 = (k : Int) ∧ k ≤ s0.size ∧ m' = s0.size - k ∧ PuX s0 ba (fun w => ∃ nn : Nat, n_13 = (nn : Int) ∧ pu (s0.data.toList.drop k) nn = some w) ∧ (ba = 16 → 0 ≤ n_13 ∧ n_13 ≤ 65535) ∧ Sub ((b99, .cells (byteCells s0 ++ repV (c99 - s0.size) [.int .u8 0]).toArray 5 (c99, c99 + 1)) :: S) S_1))
          (fun v _ T => PuR s0 ba S v T) ba false s0 co mv false n d (some ⟨b99, 0, none⟩) s0.size xc (s0.size : Int) (k : Int) J' T' := by
        rintro d J' T' rfl rfl
        unfold strconv_ParseUint_2_b15 strconv_ParseUint_2_b16 strconv_ParseUint_2_b17 strconv_ParseUint_2_b18 strconv_ParseUint_2_b13
        have hfin : ∀ n1 : Int, PuX s0 ba (fun w => ∃ nn : Nat, n1 = (nn : Int) ∧ pu (s0.data.toList.drop (k + 1)) nn = some w) → (ba = 16 → 0 ≤ n1 ∧ n1 ≤ 65535) → ∃ m', m' < s0.size - k ∧ (ba = ba ∧ false = false ∧ s0 = s0 ∧ co = co ∧ mv = mv ∧ false = false ∧ (some ⟨b99, 0, none⟩ : Option Addr) = some ⟨b99, 0, none⟩ ∧ s0.size = s0.size ∧ (s0.size : Int) = (s0.size : Int) ∧
            ∃ k' : Nat, IntKind.wrap .i64 ((k : Int) + 1) = (k' : Int) ∧ k' ≤ s0.size ∧ m' = s0.size - k' ∧ PuX s0 ba (fun w => ∃ nn : Nat, n1 = (nn : Int) ∧ pu (s0.data.toList.drop k') nn = some w) ∧ (ba = 16 → 0 ≤ n1 ∧ n1 ≤ 65535) ∧ Sub ((b99, .cells (byteCells s0 ++ repV (c99 - s0.size) [.int .u8 0]).toArray 5 (c99, c99 + 1)) :: S) T') :=
          fun n1 h1 h2 => ⟨s0.size - (k + 1), by omega, rfl, rfl, rfl, rfl, rfl, rfl, rfl, rfl, rfl, k + 1, by rw [wrap_i64 (by omega) (by omega)]; rfl, by omega, rfl, h1, h2, hS⟩
        have hz : ∀ (w nn : Nat), ba = 16 → n = (nn : Int) → dig c < 16 → nn * 16 + dig c ≤ 65535 → IntKind.wrap .u64 (n * IntKind.wrap .u64 ba) = ((nn * 16 : Nat) : Int) ∧ IntKind.wrap .u64 (IntKind.wrap .u64 (n * IntKind.wrap .u64 ba) + IntKind.wrap .u64 (dig c : Int)) = ((nn * 16 + dig c : Nat) : Int) := by
          rintro w nn rfl rfl h1 h2
          have a1 : IntKind.wrap .u64 ((nn : Int) * IntKind.wrap .u64 16) = ((nn * 16 : Nat) : Int) := by
            rw [wrap_u64 (x := (16 : Int)) (by decide) (by decide), wrap_u64 (by omega) (by omega)]; omega
          refine ⟨a1, ?_⟩
          rw [a1, wrap_u64 (x := (dig c : Int)) (by omega) (by omega), wrap_u64 (by omega) (by omega)]; omega
        refine bcase_dec (fun g => no _ _ _ (.inr rfl) ?_ hS0) (fun g => bcase_dec (fun g2 => no _ _ _ (.inl rfl) ?_ hS0) (fun g2 => bcase_dec (fun g3 => bcase_t rfl (no _ _ _ (.inl rfl) ?_ hS0)) (fun g3 => bcase_dec (fun g4 => no _ _ _ (.inl rfl) ?_ hS0) (fun g4 => hfin _ ?_ (fun h16 => ⟨?_, ?_⟩)))))
        · intro h16 w hw e
          obtain ⟨nn, hn, h1, h2, h3⟩ := hY h16 w hw e
          rw [h16, wrap_u8 (x := (16 : Int)) (by decide) (by decide)] at g
          omega
        · intro h16 w hw e
          obtain ⟨nn, hn, h1, h2, h3⟩ := hY h16 w hw e
          have := (hcm h16).1
          omega
        · intro h16 w hw e
          obtain ⟨nn, hn, h1, h2, h3⟩ := hY h16 w hw e
          obtain ⟨z1, z2⟩ := hz w nn h16 hn h1 h2
          rw [z2, z1] at g3
          omega
        · intro h16 w hw e
          obtain ⟨nn, hn, h1, h2, h3⟩ := hY h16 w hw e
          obtain ⟨z1, z2⟩ := hz w nn h16 hn h1 h2
          rw [z2, (hcm h16).2] at g4
          omega
        · intro h16 w hw e
          obtain ⟨nn, hn, h1, h2, h3⟩ := hY h16 w hw e
          exact ⟨_, (hz w nn h16 hn h1 h2).2, h3⟩
        · rw [wrap_u64_eq]; omega
        · rw [(hcm h16).2] at g4; omega
      have bad : dig c = 99 → PuX s0 ba (fun _ => False) := by
        intro hd h16 w hw e
        obtain ⟨nn, hn, h1, h2, h3⟩ := hY h16 w hw e
        omega
      have alpha : ¬ (48 ≤ c.toNat ∧ c.toNat ≤ 57) → strconv_ParseUint_2_b14 (fun base_1 base0_8 s0_9 cutoff_10 maxVal_11 underscores_12 n_13 x99 x99n x99c x100 x101 I S_1 =>
          ∃ m', m' < s0.size - k ∧ (base_1 = ba ∧ base0_8 = false ∧ s0_9 = s0 ∧ cutoff_10 = co ∧ maxVal_11 = mv ∧ underscores_12 = false ∧ x99 = some ⟨b99, 0, none⟩ ∧ x99n = s0.size ∧ x100 = (s0.size : Int) ∧
            ∃ k : Nat, x101 = (k : Int) ∧ k ≤ s0.size ∧ m' = s0.size - k ∧ PuX s0 ba (fun w => ∃ nn : Nat, n_13 = (nn : Int) ∧ pu (s0.data.toList.drop k) nn = some w) ∧ (ba = 16 → 0 ≤ n_13 ∧ n_13 ≤ 65535) ∧ Sub ((b99, .cells (byteCells s0 ++ repV (c99 - s0.size) [.int .u8 0]).toArray 5 (c99, c99 + 1)) :: S) S_1))
          (fun v _ T => PuR s0 ba S v T) ba false s0 co mv false n (c.toNat : Int) (some ⟨b99, 0, none⟩) s0.size xc (s0.size : Int) (k : Int) false J T := by
        intro hnd
        unfold strconv_ParseUint_2_b14 strconv_ParseUint_2_b19
        have hl := low_lt c
        refine bcase_f rfl ((lower_runs c J T).mono ?_)
        rintro v J1 T1 _ ⟨rfl, rfl⟩
        refine ⟨_, rfl, bcase_dec (fun g => ?_) (fun g => bcase_f rfl (no _ _ _ (.inr rfl) (bad ?_) hS0))⟩
        · refine (lower_runs c J1 T1).mono ?_
          rintro v J2 T2 _ ⟨rfl, rfl⟩
          refine ⟨_, rfl, bcase_dec (fun g2 => ?_) (fun g2 => no _ _ _ (.inr rfl) (bad ?_) hS0)⟩
          · refine (lower_runs c J2 T2).mono ?_
            rintro v J3 T3 _ ⟨rfl, rfl⟩
            refine ⟨_, rfl, main _ J3 T3 ?_ rfl⟩
            rw [wrap_u8 (x := ((c ||| 32).toNat : Int) - 97) (by omega) (by omega), wrap_u8 (by omega) (by omega), dig, if_neg hnd, if_pos ⟨by omega, by omega⟩]
            omega
          · rw [dig, if_neg hnd, if_neg (by omega)]
        · rw [dig, if_neg hnd, if_neg (by omega)]
      refine bcase_of (fun _ => ?_) (fun _ => ?_)
      all_goals
        refine bcase_f rfl (bcase_dec (fun g => ?_) (fun g => alpha (by omega)))
        by_cases g2 : (c.toNat : Int) ≤ 57
        · rw [decide_eq_true g2]
          unfold strconv_ParseUint_2_b14
          refine bcase_t rfl (main _ J T ?_ rfl)
          rw [wrap_u8 (by omega) (by omega), dig, if_pos ⟨by omega, by omega⟩]
          omega
        · rw [decide_eq_false g2]
          exact alpha (by omega)
    · unfold strconv_ParseUint_2_b20 strconv_ParseUint_2_b21 strconv_ParseUint_2_b22
      refine bcase_f rfl (bcase_f rfl ⟨_, _, rfl, .inl rfl, fun h16 w hw e => ⟨?_, rfl⟩, fun _ => hbd, hS0⟩)
      obtain ⟨nn, hn, hp⟩ := hX h16 w hw e
      have : k = s0.size := by omega
      rw [this, List.drop_of_length_le (by omega), pu] at hp
      injection hp with hp
      omega
  refine bcase_t (decide_eq_true hb2.1) (bcase_t (decide_eq_true hb2.2) ?_)
  rcases hb with ⟨rfl, rfl⟩ | ⟨rfl, rfl⟩
  · exact bcase_t rfl (bcase_t rfl (bcase_f (by decide) (key _ _ (fun h => by omega))))
  · refine bcase_f rfl (bcase_f rfl (bcase_f rfl (bcase_f rfl (bcase_t rfl (bcase_f (by decide) (key _ _ (fun _ => ⟨rfl, ?_⟩)))))))
    decide +kernel
end Go.Proofs.YtkagfmlaolmdnaaDoor
