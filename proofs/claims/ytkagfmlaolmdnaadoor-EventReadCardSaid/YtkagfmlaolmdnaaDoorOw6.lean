/- First bits of addresses: the cut and the test of it; numbers that labels are. -/
import Derived.Test.YtkagfmlaolmdnaaDoorOw5
import Derived.Test.YtkagfmlaolmdnaaDoorT2
namespace Go.Proofs.YtkagfmlaolmdnaaDoor
open Go.Px
set_option linter.unusedVariables false
set_option linter.unusedSimpArgs false
set_option maxRecDepth 8000

def bcl (b : UInt8) (t : Nat) : UInt8 := b &&& ~~~(UInt8.ofNat (2 ^ t))
def clr (l : List UInt8) (k : Nat) : List UInt8 := l.modify (k / 8) fun b => bcl b (7 - k % 8)
def cutF : Nat → Nat → List UInt8 → List UInt8
  | 0, _, l => l
  | f + 1, k, l => cutF f (k + 1) (clr l k)
def cutL (l : List UInt8) (n : Nat) : List UInt8 := cutF (8 * l.length - n) n l
def cutB (a : ByteArray) (n : Nat) : ByteArray := ⟨(cutL a.data.toList n).toArray⟩
theorem bcl_idem (b : UInt8) (t : Nat) : bcl (bcl b t) t = bcl b t := by rw [bcl, bcl, UInt8.and_assoc, UInt8.and_self]
theorem bcl_comm (b : UInt8) (t u : Nat) : bcl (bcl b t) u = bcl (bcl b u) t := by rw [bcl, bcl, bcl, bcl, UInt8.and_assoc, UInt8.and_assoc, UInt8.and_comm (~~~_) (~~~_)]
theorem clr_len (l : List UInt8) (k : Nat) : (clr l k).length = l.length := by simp [clr]
theorem cutF_len : ∀ (f k : Nat) (l : List UInt8), (cutF f k l).length = l.length
  | 0, _, _ => rfl
  | f + 1, k, l => by rw [cutF, cutF_len, clr_len]
theorem clr_comm (l : List UInt8) (j k : Nat) : clr (clr l j) k = clr (clr l k) j := by
  apply List.ext_getElem?
  intro i
  simp only [clr, List.getElem?_modify]
  cases l[i]? with
  | none => rfl
  | some b =>
    simp only [Option.map_eq_map, Option.map_some]
    by_cases h1 : j / 8 = i <;> by_cases h2 : k / 8 = i <;> simp [h1, h2, bcl_comm]
theorem clr_idem (l : List UInt8) (k : Nat) : clr (clr l k) k = clr l k := by
  apply List.ext_getElem?
  intro i
  simp only [clr, List.getElem?_modify]
  cases l[i]? with
  | none => rfl
  | some b =>
    simp only [Option.map_eq_map, Option.map_some]
    by_cases h1 : k / 8 = i <;> simp [h1, bcl_idem]
theorem cutF_clr : ∀ (f k j : Nat) (l : List UInt8), cutF f k (clr l j) = clr (cutF f k l) j
  | 0, _, _, _ => rfl
  | f + 1, k, j, l => by rw [cutF, cutF, clr_comm, cutF_clr]
theorem cutF_idem : ∀ (f k : Nat) (l : List UInt8), cutF f k (cutF f k l) = cutF f k l
  | 0, _, _ => rfl
  | f + 1, k, l => by
    rw [cutF, cutF, ← cutF_clr, clr_idem, cutF_idem f (k + 1)]
theorem cutB_size (a : ByteArray) (n : Nat) : (cutB a n).size = a.size := by
  show (cutL a.data.toList n).toArray.size = a.data.size
  rw [List.size_toArray, cutL, cutF_len, Array.length_toList]
theorem cutB_idem (a : ByteArray) (n : Nat) : cutB (cutB a n) n = cutB a n := by
  refine bext ?_
  show cutL (cutL a.data.toList n) n = cutL a.data.toList n
  have : (cutL a.data.toList n).length = a.data.toList.length := by rw [cutL, cutF_len]
  rw [cutL, this]
  exact cutF_idem _ _ _
def okC (a : ByteArray) (n : Int) : Prop := (a.size = 4 ∨ a.size = 16) ∧ 0 ≤ n ∧ n ≤ 8 * (a.size : Int)
instance (a : ByteArray) (n : Int) : Decidable (okC a n) := by unfold okC; infer_instance
def cutV (a : ByteArray) (n : Int) : Value := if okC a n then .tuple #[.agg #[.string (cutB a n.toNat), .int .i64 n], .bool true] else .tuple #[.agg #[.string ⟨#[]⟩, .int .i64 0], .bool false]
theorem bicU : ∀ (t : Fin 8) (b : Fin 256), ibic .u8 (b.val : Int) (IntKind.wrap .u8 (1 * 2 ^ (min t.val 8))) = ((bcl (UInt8.ofNat b.val) t.val).toNat : Int) := by decide +kernel
theorem bicU' (c : UInt8) {t : Nat} (h : t < 8) : ibic .u8 (c.toNat : Int) (IntKind.wrap .u8 (1 * 2 ^ (min t 8))) = ((bcl c t).toNat : Int) := by
  have := bicU ⟨t, h⟩ ⟨c.toNat, c.toNat_lt⟩
  simpa using this
theorem Addr_runs (a : ByteArray) (I : IMem) (S : SH) : Runs Tryd.prog 58 #[.string a] I S fun v _ T => v = .bool (decide (a.size = 4 ∨ a.size = 16)) ∧ T = S := by
  refine prefix_Address_fn _ _ _ _ ?_
  unfold prefix_Address prefix_Address_b1
  refine bcase_beq (fun h => ⟨?_, rfl⟩) (fun h => ⟨?_, rfl⟩)
  · rw [decide_eq_true (.inl (by omega))]
  · congr 1
    by_cases g : a.size = 16
    · rw [g]; decide
    · rw [decide_eq_false (by omega)]
      simp; omega
theorem bytL_modify {l : List UInt8} {o : Nat} {c : UInt8} (h : l[o]? = some c) (f : UInt8 → UInt8) (rest : List Value) :
    (bytL l ++ rest).take o ++ [.int .u8 ((f c).toNat : Int)] ++ (bytL l ++ rest).drop (o + 1) = bytL (l.modify o f) ++ rest := by
  have ho : o < l.length := by
    rcases Nat.lt_or_ge o l.length with g | g
    · exact g
    · rw [List.getElem?_eq_none g] at h; cases h
  have h1 : (bytL l ++ rest).take o = bytL (l.take o) := by
    rw [List.take_append_of_le_length (by rw [bytL_len]; omega)]; simp [bytL]
  have h2 : (bytL l ++ rest).drop (o + 1) = bytL (l.drop (o + 1)) ++ rest := by
    rw [List.drop_append_of_le_length (by rw [bytL_len]; omega)]; simp [bytL]
  have h3 : l.modify o f = l.take o ++ f c :: l.drop (o + 1) := by
    rw [List.modify_eq_take_cons_drop ho]
    rw [List.getElem?_eq_getElem ho] at h
    rw [Option.some.inj h]
  rw [h1, h2, h3]
  simp [bytL]
theorem Cut_runs (a : ByteArray) (n : Int) (I : IMem) (S : SH) : Runs Tryd.prog 37 #[.string a, .int .i64 n] I S fun v _ T => v = cutV a n ∧ T = S := by
  refine Runs.drop (prefix_Cut_fn _ _ _ _ _ ?_)
  unfold prefix_Cut prefix_Cut_b1
  intro b4
  refine (Addr_runs a I _).mono ?_
  rintro v J T hle ⟨rfl, rfl⟩
  have bad : ¬ okC a n → prefix_Cut_b2 (fun v J T => ∃ L, Sub L T ∧ v = cutV a n ∧ L = S) a n ⟨b4, 0, none⟩ true J ((b4, .cells #[.string ⟨#[]⟩, .int .i64 0] 24 (0, 0)) :: S) := by
    intro hno
    unfold prefix_Cut_b2
    refine bcase_t rfl (StP.at0 (by decide) rfl ⟨_, Cell.at0 rfl, 0, ?_, S, (Sub.refl _).skip _, ?_, rfl⟩)
    · rw [add_mk]; exact Cell.at0 rfl
    · rw [cutV, if_neg hno]
  refine ⟨_, rfl, bcase_not (bcase_dec (fun h1 => ?_) (fun h1 => bad (fun h => h1 h.1)))⟩
  have hw : IntKind.wrap .i64 (8 * (a.size : Int)) = 8 * (a.size : Int) := wrap_i64 (by omega) (by omega)
  rw [hw]
  refine bcase_dec (fun h2 => bad (fun h => by have := h.2.1; omega)) (fun h2 => ?_)
  by_cases h3 : n > 8 * (a.size : Int)
  · rw [decide_eq_true h3]
    exact bad (fun h => by have := h.2.2; omega)
  rw [decide_eq_false h3]
  have hok : okC a n := ⟨h1, by omega, by omega⟩
  obtain ⟨n, rfl⟩ : ∃ k : Nat, n = (k : Int) := ⟨n.toNat, by omega⟩
  unfold prefix_Cut_b2 prefix_Cut_b3 prefix_Cut_b4 prefix_Cut_b5
  have hlen : a.data.toList.length = a.size := Array.length_toList
  refine bcase_f rfl ⟨by simp only [maxLen]; omega, fun b24 c24 hc1 hc2 => ?_⟩
  refine ⟨fun m a0 bi x4 b bn bc i J T => a0 = a ∧ bi = (n : Int) ∧ x4 = ⟨b4, 0, none⟩ ∧ b = some ⟨b24, 0, none⟩ ∧ bn = a.size ∧
    ∃ (k : Nat) (l : List UInt8), i = (k : Int) ∧ k ≤ 8 * a.size ∧ m = 8 * a.size - k ∧ l.length = a.size ∧ cutF (8 * a.size - k) k l = cutL a.data.toList n ∧
      T = (b24, .cells (bytL l ++ repV (c24 - a.size) [.int .u8 0]).toArray 5 (c24, c24 + 1)) :: (b4, .cells #[.string ⟨#[]⟩, .int .i64 0] 24 (0, 0)) :: S,
    8 * a.size - n, ⟨rfl, rfl, rfl, rfl, rfl, n, a.data.toList, rfl, by omega, rfl, hlen, by rw [cutL, hlen], rfl⟩, ?_⟩
  rintro m a0 bi x4 b bn bc i J1 T1 - ⟨rfl, rfl, rfl, rfl, rfl, k, l, rfl, hk, rfl, hl, hcut, rfl⟩
  unfold prefix_Cut_l6
  rw [hw]
  refine bcase_dec (fun h => ?_) (fun h => ?_)
  · unfold prefix_Cut_b7 prefix_Cut_b8
    have e1 : (k : Int).tdiv 8 = ((k / 8 : Nat) : Int) := by rw [Int.tdiv_eq_ediv_of_nonneg (by omega)]; omega
    have e2 : (k : Int).tmod 8 = ((k % 8 : Nat) : Int) := by rw [Int.tmod_eq_emod_of_nonneg (by omega)]; omega
    rw [e1, e2, wrap_i64 (x := ((k / 8 : Nat) : Int)) (by omega) (by omega), wrap_i64 (x := 7 - ((k % 8 : Nat) : Int)) (by omega) (by omega)]
    have hkl : k / 8 < l.length := by omega
    obtain ⟨c, hc⟩ : ∃ c, l[k / 8]? = some c := ⟨_, List.getElem?_eq_getElem hkl⟩
    have ea : (⟨b24, 0, none⟩ : Addr).add (((k / 8 : Nat) : Int).toNat * 1) = ⟨b24, k / 8, none⟩ := by rw [add_mk]; congr 1; omega
    refine ⟨by omega, by omega, (c.toNat : Int), ?_, bcase_f (decide_eq_false (by omega)) ⟨by omega, by omega, ?_⟩⟩
    · rw [ea]
      refine Cell.at0 ?_
      rw [List.getElem?_toArray, List.getElem?_append_left (by rw [bytL_len]; exact hkl), bytL, List.getElem?_map, hc]; rfl
    · rw [ea, show (7 - ((k % 8 : Nat) : Int)).toNat = 7 - k % 8 by omega]
      have hb : ibic .u8 (c.toNat : Int) (IntKind.wrap .u8 (1 * 2 ^ (min (7 - k % 8) (IntKind.bits .u8)))) = ((bcl c (7 - k % 8)).toNat : Int) := bicU' c (by omega)
      rw [hb]
      refine StP.listF (o := k / 8) ?_ ?_ rfl ?_
      · rw [List.length_append, bytL_len]
        simp only [List.length_singleton]; omega
      · simp only [List.length_singleton]; omega
      · rw [List.length_singleton, bytL_modify hc (fun b => bcl b (7 - k % 8))]
        refine ⟨8 * a0.size - (k + 1), by omega, rfl, rfl, rfl, rfl, rfl, k + 1, clr l k, by rw [wrap_i64 (by omega) (by omega)]; rfl, by omega, rfl, by rw [clr_len, hl], ?_, rfl⟩
        rw [← hcut, show 8 * a0.size - k = (8 * a0.size - (k + 1)) + 1 by omega, cutF]
  · unfold prefix_Cut_b9
    have hk8 : 8 * a0.size - k = 0 := by omega
    rw [hk8, cutF] at hcut
    refine ⟨cutB a0 n, ?_, StP.tl (StP.at0 (Nat.le_refl 2) rfl ⟨_, (Cell.at0 rfl).tl, (n : Int), ?_, S, ((Sub.refl _).skip _).skip _, ?_, rfl⟩)⟩
    · have := BytesAt.list (I := J1) (S := (b4, .cells #[.string ⟨#[]⟩, .int .i64 0] 24 (0, 0)) :: S) (g := b24) (n := a0.size) (l := l) (rest := repV (c24 - a0.size) [.int .u8 0]) (e := 5) (fz := (c24, c24 + 1)) hl.symm
      rw [hcut] at this
      rw [hcut]
      exact this
    · rw [add_mk]; exact (Cell.at0 rfl).tl
    · rw [cutV, if_pos hok, Int.toNat_natCast]
def mayP (a : ByteArray) (n : Int) : Prop := okC a n ∧ cutB a n.toNat = a
def mayB (a : ByteArray) (n : Int) : Bool := decide (okC a n) && cutB a n.toNat == a
theorem mayB_iff {a : ByteArray} {n : Int} : mayB a n = true ↔ mayP a n := by
  rw [mayB, Bool.and_eq_true, decide_eq_true_eq, ba_beq]; exact Iff.rfl
theorem PMay_runs (a : ByteArray) (n : Int) (I : IMem) (S : SH) : Runs Tryd.prog 20 #[.agg #[.string a, .int .i64 n]] I S fun v _ T => v = .bool (mayB a n) ∧ T = S := by
  refine Runs.drop (prefix_May_fn _ _ _ _ _ ?_)
  unfold prefix_May prefix_May_b1
  intro b1
  refine ⟨_, Cell.at0 rfl, _, Cell.at0 rfl, (Cut_runs a n I _).mono ?_⟩
  rintro v J T hle ⟨rfl, rfl⟩
  by_cases h : okC a n
  · refine ⟨_, _, _, by rw [cutV, if_pos h], fun b3 => StP.at0 (Nat.le_refl 2) rfl (bcase_t rfl ⟨_, Cell.at0 rfl, _, Cell.at0 rfl, _, (Cell.at0 rfl).tl, _, (Cell.at0 rfl).tl, S, ((Sub.refl _).skip _).skip _, ?_, rfl⟩)⟩
    rw [mayB, decide_eq_true h]
    simp
  · refine ⟨_, _, _, by rw [cutV, if_neg h], fun b3 => StP.at0 (by decide) rfl (bcase_f rfl ⟨S, ((Sub.refl _).skip _).skip _, ?_, rfl⟩)⟩
    rw [mayB, decide_eq_false h]; rfl
theorem dec_runs {I : IMem} (g : GL I) (s : ByteArray) (hs : s.size ≤ 281474976710656) (most : Nat) (hm : most ≤ 255) (S : SH) :
    Runs Tryd.prog 41 #[.string s, .int .i64 (most : Int)] I S fun v _ T => ∃ (n : Int) (b : Bool), v = .tuple #[.int .i64 n, .bool b] ∧ (∀ m : Nat, m ≤ most → s = decB m → n = (m : Int) ∧ b = true) ∧ Sub S T := by
  refine owner_decimal_fn _ _ _ _ _ ?_
  unfold owner_decimal owner_decimal_b1
  refine (Atoi_runs g s hs S).mono ?_
  rintro v J T hle ⟨n, e, rfl, he, hx, hS⟩
  refine ⟨n, e, rfl, ?_⟩
  rcases he with rfl | ⟨t, u, rfl⟩
  · refine ⟨true, rfl, bcase_t rfl (bcase_dec (fun h1 => bcase_dec (fun h2 => ?_) (fun h2 => ?_)) (fun h1 => ?_))⟩
    · obtain ⟨n, rfl⟩ : ∃ k : Nat, n = (k : Int) := ⟨n.toNat, by omega⟩
      refine (Itoa_runs (n := n) (by omega) (g.le hle) T).mono ?_
      rintro v J1 T1 _ ⟨rfl, rfl⟩
      refine ⟨_, rfl, _, _, rfl, fun m hm1 h => ?_, hS⟩
      obtain ⟨h3, _⟩ := hx m (by omega) h
      refine ⟨h3, ?_⟩
      have : n = m := by omega
      rw [h, this]; exact tl_eq
    · exact ⟨_, _, rfl, fun m hm1 h => by have := (hx m (by omega) h).1; omega, hS⟩
    · exact ⟨_, _, rfl, fun m hm1 h => by have := (hx m (by omega) h).1; omega, hS⟩
  · exact ⟨false, rfl, bcase_f rfl ⟨_, _, rfl, (fun m hm1 h => (by have := (hx m (by omega) h).2; cases this)), hS⟩⟩
theorem hex_runs {I : IMem} (g : GL I) (s : ByteArray) (hs : s.size ≤ 281474976710656) (S : SH) :
    Runs Tryd.prog 68 #[.string s] I S fun v _ T => ∃ (n : Int) (b : Bool), v = .tuple #[.int .i64 n, .bool b] ∧ (∀ w : Nat, w < 65536 → s = hexB w → n = (w : Int) ∧ b = true) ∧ Sub S T := by
  refine owner_hex_fn _ _ _ _ ?_
  unfold owner_hex owner_hex_b1
  refine (PU_runs g s hs S).mono ?_
  rintro v J T hle ⟨n, e, rfl, he, hx, hbd, hS⟩
  refine ⟨n, e, rfl, ?_⟩
  rcases he with rfl | ⟨t, u, rfl⟩
  · obtain ⟨h1, h2⟩ := hbd rfl
    obtain ⟨n, rfl⟩ : ∃ k : Nat, n = (k : Int) := ⟨n.toNat, by omega⟩
    refine ⟨true, rfl, bcase_t rfl ((FmtU_runs (n := n) (by omega) (g.le hle) T).mono ?_)⟩
    rintro v J1 T1 _ ⟨rfl, rfl⟩
    rw [wrap_i64 (x := (n : Int)) (by omega) (by omega)]
    refine ⟨_, rfl, _, _, rfl, fun w hw h => ?_, hS⟩
    obtain ⟨h3, _⟩ := hx w hw h
    refine ⟨h3, ?_⟩
    have : n = w := by omega
    rw [h, this]; exact tl_eq
  · exact ⟨false, rfl, bcase_f rfl ⟨_, _, rfl, (fun w hw h => (by have := (hx w hw h).2; cases this)), hS⟩⟩
end Go.Proofs.YtkagfmlaolmdnaaDoor
