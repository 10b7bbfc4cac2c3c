/- The library's errors made; numbers read by their public doors. -/
import Derived.Test.YtkagfmlaolmdnaaDoorOw4
namespace Go.Proofs.YtkagfmlaolmdnaaDoor
open Go.Px
set_option linter.unusedVariables false
set_option linter.unusedSimpArgs false
set_option maxRecDepth 8000

theorem repV_u8len (n : Nat) : (repV n [Value.int .u8 0]).length = n := by rw [repV_length]; simp
theorem lies_all {c n : Nat} (h : n ≤ c) : liesAt Tryd.prog (Program.depth Tryd.prog) 5 (c / Program.cellsOf Tryd.prog 5) 0 5 n = true := by
  have h1 : Program.cellsOf Tryd.prog 5 = 1 := by kernel_rfl
  rw [h1, Nat.div_one]
  have hd : ∃ d, Program.depth Tryd.prog = d + 1 + 1 := ⟨Program.depth Tryd.prog - 2, by kernel_rfl⟩
  obtain ⟨d, hd⟩ := hd
  rw [hd]
  have hsl : sameLayout Tryd.prog (Program.depth Tryd.prog) 5 5 = true := by kernel_rfl
  unfold liesAt
  have key : ∀ D, D = d + 1 + 1 → rowAt Tryd.prog (fun x => sameLayout Tryd.prog (Program.depth Tryd.prog) x 5) D 5 c 0 n = true := fun D hD => by
    subst hD
    unfold rowAt
    simp [h1, hsl, h]
  show (rowAt Tryd.prog (fun x => sameLayout Tryd.prog (Program.depth Tryd.prog) x 5) (Program.depth Tryd.prog) 5 c 0 n || _) = true
  rw [key _ hd]
  rfl
theorem ex_all (s : ByteArray) : s.extract 0 s.size = s := ByteArray.extract_zero_size
theorem bc_bytL (s : ByteArray) : byteCells s = bytL s.data.toList := rfl
theorem sClone_runs (s : ByteArray) (hs : s.size ≤ 281474976710656) (I : IMem) (S : SH) : Runs Tryd.prog 101 #[.string s] I S fun v _ T => v = .string s ∧ T = S := by
  refine Runs.drop (stringslite_Clone_fn _ _ _ _ ?_)
  unfold stringslite_Clone
  refine bcase_beq (fun h => ?_) (fun h => ?_)
  · refine ⟨S, Sub.refl _, ?_, rfl⟩
    congr 1
    refine bext ?_
    have h0 : s.data.toList.length = 0 := by rw [Array.length_toList]; have : s.data.size = s.size := rfl; omega
    rw [List.eq_nil_of_length_eq_zero h0]
  · refine ⟨by omega, by omega, by omega, by omega, fun b9 => ?_⟩
    simp only [Int.toNat_natCast]
    refine .inr ⟨⟨b9, 0, none⟩, rfl, ?_⟩
    have hmin : min s.size s.size = s.size := Nat.min_self _
    rw [hmin, ex_all]
    refine StP.list (o := 0) (by rw [byteCells_length, repV_u8len, Nat.zero_add]; exact Nat.le_refl _) (by rw [bc_bytL, ← flat_elB]; exact flatMap_one elB_one _) ?_
    rw [List.take_zero, List.nil_append, Nat.zero_add, List.drop_of_length_le (by rw [byteCells_length, repV_u8len]; exact Nat.le_refl _)]
    refine ⟨by omega, by omega, .inr ⟨⟨b9, 0, none⟩, 0, _, _, (0, 0), s, rfl, by omega, by omega, rfl, ?_, ?_, ?_⟩⟩
    · have hz : (byteCells s ++ []).toArray.size = s.size := by simp [byteCells_length]
      rw [hz]
      exact lies_all (Nat.le_refl _)
    · have := BytesAt.list (I := I) (S := S) (g := b9) (n := s.size) (l := s.data.toList) (rest := []) (e := 5) (fz := (0, 0)) (by rw [Array.length_toList]; rfl)
      have e : (⟨s.data.toList.toArray⟩ : ByteArray) = s := by apply ByteArray.ext; simp
      rw [e] at this
      exact this
    · exact ⟨S, ⟨[_], List.perm_append_comm (l₁ := [_])⟩, rfl, rfl⟩
theorem er_runs {I : IMem} (g : GL I) (fn s : ByteArray) (hs : s.size ≤ 281474976710656) (S : SH) :
    Runs Tryd.prog 87 #[.string fn, .string s] I S (fun v _ T => ∃ p, v = .pointer p ∧ Sub S T) ∧ Runs Tryd.prog 88 #[.string fn, .string s] I S (fun v _ T => ∃ p, v = .pointer p ∧ Sub S T) := by
  refine ⟨strconv_syntaxError_fn _ _ _ _ _ ?_, strconv_rangeError_fn _ _ _ _ _ ?_⟩
  · unfold strconv_syntaxError strconv_syntaxError_b1 strconv_syntaxError_b2
    obtain ⟨cs, e, fz, t, v, h1, h2⟩ := g.er1
    refine ⟨t, v, Cell.im (b := 1) (o := 0) h1 h2, (sClone_runs s hs I S).mono ?_⟩
    rintro v J T hle ⟨rfl, rfl⟩
    exact ⟨s, rfl, ⟨hle, [], by simp⟩, fun b10 => ⟨_, rfl, (Sub.refl _).skip _⟩⟩
  · unfold strconv_rangeError strconv_rangeError_b1 strconv_rangeError_b2
    obtain ⟨cs, e, fz, t, v, h1, h2⟩ := g.er2
    refine ⟨t, v, Cell.im (b := 2) (o := 0) h1 h2, (sClone_runs s hs I S).mono ?_⟩
    rintro v J T hle ⟨rfl, rfl⟩
    exact ⟨s, rfl, ⟨hle, [], by simp⟩, fun b10 => ⟨_, rfl, (Sub.refl _).skip _⟩⟩
theorem eqI_er (a b : Int) : eqI Tryd.prog (erV a) 142 (.int .i64 b) = some (a == b) := by kernel_rfl
theorem toErr_runs {I : IMem} (g : GL I) (fn s : ByteArray) (hs : s.size ≤ 281474976710656) (b bs : Int) {e : Value} (he : e = erV 1 ∨ e = erV 2) (S : SH) :
    Runs Tryd.prog 73 #[.string fn, .string s, .int .i64 b, .int .i64 bs, e] I S fun v _ T => (∃ t u, v = .iface t u) ∧ Sub S T := by
  refine strconv_toError_fn _ _ _ _ _ _ _ _ ?_
  unfold strconv_toError
  rcases he with rfl | rfl
  · refine ⟨_, eqI_er 1 2, bcase_f rfl ⟨_, eqI_er 1 1, bcase_t rfl ((er_runs g fn s hs S).2.mono ?_)⟩⟩
    rintro v J T _ ⟨p, rfl, hS⟩
    exact ⟨_, rfl, ⟨_, _, rfl⟩, hS⟩
  · refine ⟨_, eqI_er 2 2, bcase_t rfl ((er_runs g fn s hs S).1.mono ?_)⟩
    rintro v J T _ ⟨p, rfl, hS⟩
    exact ⟨_, rfl, ⟨_, _, rfl⟩, hS⟩
theorem PU_runs {I : IMem} (g : GL I) (s : ByteArray) (hs : s.size ≤ 281474976710656) (S : SH) :
    Runs Tryd.prog 79 #[.string s, .int .i64 16, .int .i64 16] I S fun v _ T => ∃ (n : Int) (e : Value), v = .tuple #[.int .u64 n, e] ∧ (e = .nilIface ∨ ∃ t u, e = .iface t u) ∧ (∀ w : Nat, w < 65536 → s = hexB w → n = (w : Int) ∧ e = .nilIface) ∧ (e = .nilIface → 0 ≤ n ∧ n ≤ 65535) ∧ Sub S T := by
  refine strconv_ParseUint_fn _ _ _ _ _ _ ?_
  unfold strconv_ParseUint
  refine (PUin_runs (.inr ⟨rfl, rfl⟩) s hs I S).mono ?_
  rintro v J T hle ⟨n, e, rfl, he, hx, hbd, hS⟩
  refine ⟨n, e, rfl, ?_⟩
  rcases he with rfl | he
  · exact ⟨true, rfl, bcase_f rfl ⟨n, .nilIface, rfl, .inl rfl, fun w hw h => ⟨(hx rfl w hw h).1, rfl⟩, fun _ => hbd rfl rfl, hS⟩⟩
  · refine ⟨false, by rcases he with rfl | rfl <;> rfl, bcase_t rfl ((toErr_runs (g.le hle) _ s hs 16 16 he T).mono ?_)⟩
    rintro v J1 T1 _ ⟨⟨t, u, rfl⟩, hS1⟩
    refine ⟨_, rfl, n, _, rfl, .inr ⟨t, u, rfl⟩, fun w hw h => ?_, fun h => (by cases h), hS.trans hS1⟩
    have := (hx rfl w hw h).2
    rcases he with rfl | rfl <;> cases this
theorem PI_runs (s : ByteArray) (hs : s.size ≤ 281474976710656) (I : IMem) (S : SH) :
    Runs Tryd.prog 86 #[.string s, .int .i64 10, .int .i64 0] I S fun v _ T => ∃ (n : Int) (e : Value), v = .tuple #[.int .i64 n, e] ∧ (e = .nilIface ∨ e = erV 1 ∨ e = erV 2) ∧ Sub S T := by
  refine strconv_ParseInt_fn _ _ _ _ _ _ ?_
  unfold strconv_ParseInt
  refine bcase_of (fun _ => ⟨_, _, rfl, .inr (.inr rfl), Sub.refl _⟩) (fun h0 => ?_)
  have hp : 0 < s.size := by
    rcases Nat.eq_zero_or_pos s.size with h | h
    · have hl : s.data.toList = [] := List.eq_nil_of_length_eq_zero (by rw [Array.length_toList]; exact h)
      have : s = ⟨#[]⟩ := bext (by rw [hl])
      rw [this] at h0
      rw [tl_eq] at h0; cases h0
    · exact h
  have body : ∀ (s' : ByteArray) (neg : Bool), s'.size ≤ 281474976710656 → strconv_ParseInt_b1 (fun v _ T => ∃ (n : Int) (e : Value), v = .tuple #[.int .i64 n, e] ∧ (e = .nilIface ∨ e = erV 1 ∨ e = erV 2) ∧ Sub S T) s' 10 0 neg I S := by
    intro s' neg hs'
    unfold strconv_ParseInt_b1 strconv_ParseInt_b2 strconv_ParseInt_b3 strconv_ParseInt_b4 strconv_ParseInt_b5
    refine (PUin_runs (.inl ⟨rfl, rfl⟩) s' hs' I S).mono ?_
    rintro v J T hle ⟨un, e, rfl, he, -, -, hS⟩
    refine ⟨un, e, rfl, ?_⟩
    have fin : strconv_ParseInt_b6 (fun v _ T => ∃ (n : Int) (e : Value), v = .tuple #[.int .i64 n, e] ∧ (e = .nilIface ∨ e = erV 1 ∨ e = erV 2) ∧ Sub S T) neg un (IntKind.wrap .u64 ((1 : Int) * 2 ^ (min (IntKind.wrap .u64 (IntKind.wrap .i64 (64 - (1 : Int)))).toNat (IntKind.bits .u64)))) J T := by
      unfold strconv_ParseInt_b6 strconv_ParseInt_b7 strconv_ParseInt_b8 strconv_ParseInt_b9 strconv_ParseInt_b10 strconv_ParseInt_b11
      generalize IntKind.wrap .u64 ((1 : Int) * 2 ^ (min (IntKind.wrap .u64 (IntKind.wrap .i64 (64 - (1 : Int)))).toNat (IntKind.bits .u64))) = co
      cases neg
      · refine bcase_t rfl (bcase_of (fun _ => ⟨_, _, rfl, .inr (.inl rfl), hS⟩) (fun _ => bcase_f rfl (bcase_f rfl (bcase_f rfl ⟨_, _, rfl, .inl rfl, hS⟩))))
      · refine bcase_f rfl (bcase_f rfl (bcase_t rfl (bcase_of (fun _ => ⟨_, _, rfl, .inr (.inl rfl), hS⟩) (fun _ => bcase_t rfl ⟨_, _, rfl, .inl rfl, hS⟩))))
    rcases he with rfl | rfl | rfl
    · exact ⟨true, rfl, bcase_f rfl (bcase_f rfl (bcase_t rfl (bcase_f (by decide) fin)))⟩
    · exact ⟨false, rfl, bcase_t rfl ⟨_, eqI_er 1 1, bcase_f rfl (bcase_t rfl (bcase_f (by decide) fin))⟩⟩
    · exact ⟨false, rfl, bcase_t rfl ⟨_, eqI_er 2 1, bcase_t rfl ⟨_, _, rfl, .inr (.inr rfl), hS⟩⟩⟩
  have hex : (s.extract ((1 : Int).toNat) s.size).size ≤ 281474976710656 := by rw [ByteArray.size_extract]; omega
  refine ⟨_, by omega, getElem?_pos s 0 hp, bcase_of (fun _ => ⟨by omega, by omega, body _ _ hex⟩) (fun _ => bcase_of (fun _ => ⟨by omega, by omega, body _ _ hex⟩) (fun _ => body _ _ hs))⟩
theorem dec_first : ∀ m : Fin 256, ∃ c rest, numL 3 10 m.val = c :: rest ∧ 48 ≤ c.toNat ∧ c.toNat ≤ 57 := by
  intro m
  have h : (match numL 3 10 m.val with | [] => false | c :: _ => decide (48 ≤ c.toNat ∧ c.toNat ≤ 57)) = true := by revert m; decide +kernel
  split at h
  · cases h
  · rename_i c rest hc; exact ⟨c, rest, hc, of_decide_eq_true h⟩
def AtX (s : ByteArray) (P : Nat → Prop) : Prop := ∀ m : Nat, m ≤ 255 → s = decB m → P m
theorem AtX.first {s : ByteArray} {c : UInt8} (h : s[0]? = some c) (hc : ¬ (48 ≤ c.toNat ∧ c.toNat ≤ 57)) (P : Nat → Prop) : AtX s P := by
  intro m hm e
  obtain ⟨d, rest, h1, h2⟩ := dec_first ⟨m, by omega⟩
  rw [e, ba_get] at h
  have : (decB m).data.toList = d :: rest := h1
  rw [this] at h
  have := Option.some.inj h
  subst this
  exact absurd h2 hc
theorem AtIn_runs (s : ByteArray) (hs : s.size ≤ 281474976710656) (I : IMem) (S : SH) :
    Runs Tryd.prog 72 #[.string s] I S fun v _ T => ∃ (n : Int) (e : Value), v = .tuple #[.int .i64 n, e] ∧ (e = .nilIface ∨ e = erV 1 ∨ e = erV 2) ∧ AtX s (fun m => n = (m : Int) ∧ e = .nilIface) ∧ Sub S T := by
  refine strconv_Atoi_2_fn _ _ _ _ ?_
  unfold strconv_Atoi_2 strconv_Atoi_2_b1 strconv_Atoi_2_b2
  have slow : AtX s (fun _ => False) → strconv_Atoi_2_b11 (fun v _ T => ∃ (n : Int) (e : Value), v = .tuple #[.int .i64 n, e] ∧ (e = .nilIface ∨ e = erV 1 ∨ e = erV 2) ∧ AtX s (fun m => n = (m : Int) ∧ e = .nilIface) ∧ Sub S T) s I S := by
    intro hx
    unfold strconv_Atoi_2_b11
    refine (PI_runs s hs I S).mono ?_
    rintro v J T _ ⟨n, e, rfl, he, hS⟩
    exact ⟨n, e, rfl, n, e, rfl, he, fun m hm h => (hx m hm h).elim, hS⟩
  have size_no : ¬ (0 < s.size ∧ s.size < 19) → AtX s (fun _ => False) := by
    intro h m hm e
    have := decB_len hm
    rw [e] at h; omega
  refine bcase_dec (fun h1 => ?_) (fun h1 => bcase_f rfl (slow (size_no (by omega))))
  refine bcase_dec (fun h2 => ?_) (fun h2 => slow (size_no (by omega)))
  unfold strconv_Atoi_2_b3
  obtain ⟨c, hc⟩ : ∃ c, s[0]? = some c := ⟨_, getElem?_pos s 0 (by omega)⟩
  have fast : ∀ s' : ByteArray, s'.size ≤ 281474976710656 → AtX s (fun _ => s' = s) → strconv_Atoi_2_b5 (fun v _ T => ∃ (n : Int) (e : Value), v = .tuple #[.int .i64 n, e] ∧ (e = .nilIface ∨ e = erV 1 ∨ e = erV 2) ∧ AtX s (fun m => n = (m : Int) ∧ e = .nilIface) ∧ Sub S T) s' s I S := by
    intro s' hs' hx
    unfold strconv_Atoi_2_b5 strconv_Atoi_2_b6 strconv_Atoi_2_b7
    have hlen : s'.data.toList.length = s'.size := Array.length_toList
    refine ⟨by simp only [maxLen]; omega, fun b47 c47 hc1 hc2 => ?_⟩
    refine ⟨fun m s0 n x xn xc q i J T => s0 = s ∧ x = some ⟨b47, 0, none⟩ ∧ xn = s'.size ∧ q = (s'.size : Int) ∧
      ∃ k : Nat, i = (k : Int) ∧ k ≤ s'.size ∧ m = s'.size - k ∧ AtX s (fun w => ∃ nn : Nat, n = (nn : Int) ∧ aF (s'.data.toList.drop k) nn = some w) ∧ Sub ((b47, .cells (byteCells s' ++ repV (c47 - s'.size) [.int .u8 0]).toArray 5 (c47, c47 + 1)) :: S) T,
      s'.size, ⟨rfl, rfl, rfl, rfl, 0, rfl, Nat.zero_le _, rfl, fun m hm e => ⟨0, rfl, ?_⟩, Sub.refl _⟩, ?_⟩
    · rw [hx m hm e, e]; exact aF_dec ⟨m, by omega⟩
    rintro m s0 n x xn xc q i J T - ⟨rfl, rfl, rfl, rfl, k, rfl, hk, rfl, hX, hS⟩
    have hS0 : Sub S T := hS.drop
    unfold strconv_Atoi_2_l8
    refine bcase_dec (fun h => ?_) (fun h => ?_)
    · have hkl : k < s'.data.toList.length := by omega
      obtain ⟨c, hc⟩ : ∃ c, s'.data.toList[k]? = some c := ⟨_, List.getElem?_eq_getElem hkl⟩
      have hd : s'.data.toList.drop k = c :: s'.data.toList.drop (k + 1) := by
        rw [List.drop_eq_getElem_cons hkl]
        rw [List.getElem?_eq_getElem hkl] at hc
        rw [Option.some.inj hc]
      have hlt := c.toNat_lt
      have hY : AtX s0 (fun w => ∃ nn : Nat, n = (nn : Int) ∧ 48 ≤ c.toNat ∧ c.toNat ≤ 57 ∧ nn * 10 + (c.toNat - 48) ≤ 255 ∧ aF (s'.data.toList.drop (k + 1)) (nn * 10 + (c.toNat - 48)) = some w) := by
        intro w hw e
        obtain ⟨nn, hn, hp⟩ := hX w hw e
        rw [hd, aF] at hp
        split at hp
        · have := aF_ge hp
          exact ⟨nn, hn, by omega, by omega, by omega, hp⟩
        · cases hp
      refine ⟨by omega, by omega, (c.toNat : Int), ?_, bcase_dec (fun g => ⟨_, _, rfl, .inr (.inr rfl), fun w hw e => ?_, hS0⟩) (fun g => ?_)⟩
      · have := hS.cell' (I := J) (Cell.at0 (b := b47) (e := 5) (fz := (c47, c47 + 1)) (byteCells_at hc (repV (c47 - s'.size) [.int .u8 0])))
        have ea : (⟨b47, 0, none⟩ : Addr).add ((k : Int).toNat * 1) = ⟨b47, k, none⟩ := by rw [add_mk]; congr 1; omega
        rw [ea]; exact this
      · obtain ⟨nn, hn, h3, h4, h5, h6⟩ := hY w hw e
        rw [wrap_u8 (by omega) (by omega)] at g; omega
      · refine ⟨s'.size - (k + 1), by omega, rfl, rfl, rfl, rfl, k + 1, by rw [wrap_i64 (by omega) (by omega)]; rfl, by omega, rfl, fun w hw e => ?_, hS⟩
        obtain ⟨nn, hn, h3, h4, h5, h6⟩ := hY w hw e
        refine ⟨_, ?_, h6⟩
        rw [hn, wrap_u8 (x := (c.toNat : Int) - 48) (by omega) (by omega), wrap_i64 (x := (nn : Int) * 10) (by omega) (by omega), wrap_i64 (x := (c.toNat : Int) - 48) (by omega) (by omega), wrap_i64 (by omega) (by omega)]
        omega
    · unfold strconv_Atoi_2_b9 strconv_Atoi_2_b10
      refine ⟨c, by omega, hc, bcase_beq (fun g => ⟨_, _, rfl, .inl rfl, AtX.first hc (by omega) _, hS0⟩) (fun g => ⟨_, _, rfl, .inl rfl, fun w hw e => ⟨?_, rfl⟩, hS0⟩)⟩
      obtain ⟨nn, hn, hp⟩ := hX w hw e
      have : k = s'.size := by omega
      rw [this, List.drop_of_length_le (by omega), aF] at hp
      injection hp with hp
      omega
  have signed : ¬ (48 ≤ c.toNat ∧ c.toNat ≤ 57) → strconv_Atoi_2_b4 (fun v _ T => ∃ (n : Int) (e : Value), v = .tuple #[.int .i64 n, e] ∧ (e = .nilIface ∨ e = erV 1 ∨ e = erV 2) ∧ AtX s (fun m => n = (m : Int) ∧ e = .nilIface) ∧ Sub S T) s s true I S := by
    intro hno
    unfold strconv_Atoi_2_b4
    refine bcase_t rfl ⟨by omega, by omega, bcase_of (fun _ => ⟨_, _, rfl, .inr (.inr rfl), AtX.first hc hno _, Sub.refl _⟩) (fun _ => fast _ ?_ (AtX.first hc hno _))⟩
    rw [ByteArray.size_extract]; omega
  refine ⟨c, by omega, hc, bcase_beq (fun g => signed (by omega)) (fun g => ⟨c, by omega, hc, ?_⟩)⟩
  by_cases g2 : (c.toNat : Int) = 43
  · rw [show ((c.toNat : Int) == 43) = true by rw [g2]; rfl]
    exact signed (by omega)
  · rw [show ((c.toNat : Int) == 43) = false by simpa using g2]
    unfold strconv_Atoi_2_b4
    exact bcase_f rfl (fast s hs (fun _ _ _ => rfl))
theorem Atoi_runs {I : IMem} (g : GL I) (s : ByteArray) (hs : s.size ≤ 281474976710656) (S : SH) :
    Runs Tryd.prog 62 #[.string s] I S fun v _ T => ∃ (n : Int) (e : Value), v = .tuple #[.int .i64 n, e] ∧ (e = .nilIface ∨ ∃ t u, e = .iface t u) ∧ AtX s (fun m => n = (m : Int) ∧ e = .nilIface) ∧ Sub S T := by
  refine strconv_Atoi_fn _ _ _ _ ?_
  unfold strconv_Atoi
  refine (AtIn_runs s hs I S).mono ?_
  rintro v J T hle ⟨n, e, rfl, he, hx, hS⟩
  refine ⟨n, e, rfl, ?_⟩
  rcases he with rfl | he
  · exact ⟨true, rfl, bcase_f rfl ⟨n, .nilIface, rfl, .inl rfl, hx, hS⟩⟩
  · refine ⟨false, by rcases he with rfl | rfl <;> rfl, bcase_t rfl ((toErr_runs (g.le hle) _ s hs 0 0 he T).mono ?_)⟩
    rintro v J1 T1 _ ⟨⟨t, u, rfl⟩, hS1⟩
    refine ⟨_, rfl, n, _, rfl, .inr ⟨t, u, rfl⟩, fun m hm h => ?_, hS.trans hS1⟩
    have := (hx m hm h).2
    rcases he with rfl | rfl <;> cases this
end Go.Proofs.YtkagfmlaolmdnaaDoor
