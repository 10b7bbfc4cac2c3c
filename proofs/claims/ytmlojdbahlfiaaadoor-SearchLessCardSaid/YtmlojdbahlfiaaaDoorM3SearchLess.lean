/- Numbers as digits, rows of words that are 0, and what their labels are: plain laws. -/
import Derived.Laws.Strings
import Derived.Laws.Externs
import Derived.Lib.Overlaps
import Derived.Test.YtmlojdbahlfiaaaDoorM1SearchLess
import Derived.Test.YtmlojdbahlfiaaaDoorM2SearchLess
namespace Go.Proofs.YtmlojdbahlfiaaaDoor
open Go.Px
set_option linter.unusedVariables false
set_option linter.unusedSimpArgs false
set_option maxRecDepth 8000

def dgt (n : Nat) : UInt8 := UInt8.ofNat (if n < 10 then 48 + n else 87 + n)
def numL : Nat → Nat → Nat → List UInt8
  | 0, _, _ => []
  | f + 1, b, n => if n < b then [dgt n] else numL f b (n / b) ++ [dgt (n % b)]
def decB (n : Nat) : ByteArray := ⟨(numL 3 10 n).toArray⟩
def hexB (n : Nat) : ByteArray := ⟨(numL 4 16 n).toArray⟩
def zzB : ByteArray := ⟨#[122, 122]⟩

theorem bext {a b : ByteArray} (h : a.data.toList = b.data.toList) : a = b := ByteArray.ext (Array.toList_inj.1 h)
theorem tl_inj {a b : ByteArray} (h : a.toList = b.toList) : a = b := by
  rw [ByteArray.toList_eq, ByteArray.toList_eq] at h
  exact bext h
theorem tl_ne {a b : ByteArray} (h : a ≠ b) : (a.toList == b.toList) = false := by
  cases hb : (a.toList == b.toList)
  · rfl
  · exact absurd (tl_inj (eq_of_beq hb)) h
theorem tl_eq {a : ByteArray} : (a.toList == a.toList) = true := beq_self_eq_true _
theorem ba_get (s : ByteArray) (i : Nat) : s[i]? = s.data.toList[i]? := by
  by_cases hi : i < s.size
  · rw [getElem?_pos s i hi, List.getElem?_eq_getElem (by rw [Array.length_toList]; exact hi)]; rfl
  · rw [getElem?_neg s i hi, List.getElem?_eq_none (by rw [Array.length_toList]; exact Nat.le_of_not_lt hi)]
/-! ### read again -/
def aF : List UInt8 → Nat → Option Nat
  | [], n => some n
  | c :: cs, n => if 48 ≤ c.toNat ∧ c.toNat ≤ 57 then aF cs (n * 10 + (c.toNat - 48)) else none
theorem aF_ge : ∀ {cs : List UInt8} {n m : Nat}, aF cs n = some m → n ≤ m
  | [], n, m, h => by simp [aF] at h; omega
  | c :: cs, n, m, h => by
    unfold aF at h
    split at h
    · have := aF_ge h; omega
    · cases h
theorem aF_dec : ∀ m : Fin 256, aF (numL 3 10 m.val) 0 = some m.val := by decide +kernel
theorem dec_size : ∀ m : Fin 256, 1 ≤ (numL 3 10 m.val).length ∧ (numL 3 10 m.val).length ≤ 3 := by decide +kernel
theorem decB_len {m : Nat} (h : m ≤ 255) : 1 ≤ (decB m).size ∧ (decB m).size ≤ 3 := by
  have := dec_size ⟨m, by omega⟩
  simpa [decB, ByteArray.size] using this
def dig (c : UInt8) : Nat := if 48 ≤ c.toNat ∧ c.toNat ≤ 57 then c.toNat - 48 else if 97 ≤ (c ||| 32).toNat ∧ (c ||| 32).toNat ≤ 122 then (c ||| 32).toNat - 87 else 99
def pu : List UInt8 → Nat → Option Nat
  | [], n => some n
  | c :: cs, n => if 16 ≤ dig c ∨ 65535 < n * 16 + dig c then none else pu cs (n * 16 + dig c)
theorem dig_dgt : ∀ d : Fin 16, dig (dgt d.val) = d.val := by decide +kernel
theorem dig_dgt' {d : Nat} (h : d < 16) : dig (dgt d) = d := dig_dgt ⟨d, h⟩
theorem pu_num : ∀ (f w : Nat) (rest : List UInt8), w < 16 ^ f → w ≤ 65535 → 0 < f → pu (numL f 16 w ++ rest) 0 = pu rest w
  | 0, _, _, _, _, h => by omega
  | f + 1, w, rest, h1, h2, _ => by
    unfold numL
    by_cases hw : w < 16
    · rw [if_pos hw, List.singleton_append, pu, dig_dgt' hw, if_neg (by omega)]
      simp
    · rw [if_neg hw, List.append_assoc]
      have hf : 0 < f := by
        rcases Nat.eq_zero_or_pos f with h | h
        · subst h; simp at h1; omega
        · exact h
      rw [pu_num f (w / 16) _ (by rw [Nat.pow_succ] at h1; omega) (by omega) hf, List.singleton_append, pu, dig_dgt' (by omega), if_neg (by omega)]
      congr 1; omega
theorem pu_hex {w : Nat} (h : w < 65536) : pu (numL 4 16 w) 0 = some w := by
  have := pu_num 4 w [] (by omega) (by omega) (by omega)
  simpa [pu] using this
theorem hexB_inj {v w : Nat} (hv : v < 65536) (hw : w < 65536) (h : hexB v = hexB w) : v = w := by
  have h1 : numL 4 16 v = numL 4 16 w := by
    have := congrArg (fun s : ByteArray => s.data.toList) h
    simpa [hexB] using this
  have h2 := pu_hex hv
  rw [h1, pu_hex hw] at h2
  exact (Option.some.inj h2).symm
theorem hexB_zz {w : Nat} (hw : w < 65536) : hexB w ≠ zzB := fun h => by
  have h1 : numL 4 16 w = [122, 122] := by
    have := congrArg (fun s : ByteArray => s.data.toList) h
    simpa [hexB, zzB] using this
  have h2 := pu_hex hw
  rw [h1] at h2
  have h3 : pu [122, 122] 0 = none := by decide
  rw [h3] at h2; cases h2
theorem decB_inj {v w : Nat} (hv : v ≤ 255) (hw : w ≤ 255) (h : decB v = decB w) : v = w := by
  have h1 : numL 3 10 v = numL 3 10 w := by
    have := congrArg (fun s : ByteArray => s.data.toList) h
    simpa [decB] using this
  have h2 := aF_dec ⟨v, by omega⟩
  dsimp only at h2
  rw [h1, aF_dec ⟨w, by omega⟩] at h2
  exact (Option.some.inj h2).symm
theorem numL_len : ∀ (f b n : Nat), (numL f b n).length ≤ f
  | 0, _, _ => by simp [numL]
  | f + 1, b, n => by
    unfold numL
    split
    · simp
    · rw [List.length_append]; have := numL_len f b (n / b); simp; omega
theorem numL_pos (f b n : Nat) : 0 < (numL (f + 1) b n).length := by
  unfold numL
  split
  · simp
  · rw [List.length_append]; simp
theorem hexB_len (w : Nat) : 1 ≤ (hexB w).size ∧ (hexB w).size ≤ 4 := by
  have h1 := numL_len 4 16 w
  have h2 : 0 < (numL 4 16 w).length := numL_pos 3 16 w
  have : (hexB w).size = (numL 4 16 w).length := by simp [hexB, ByteArray.size]
  omega

/-! ### rows of words that are 0 -/
def zr (z : List Bool) : Nat := (z.takeWhile id).length
def stp (z : List Bool) (k : Nat) (am : Int × Int) : Int × Int := if am.2 < (zr (z.drop k) : Int) then ((k : Int), (zr (z.drop k) : Int)) else am
def bp (z : List Bool) : Nat → Int × Int
  | 0 => (-1, 1)
  | j + 1 => stp z j (bp z j)
def stl (z : List Bool) (k : Nat) (am : Int × Int) : Int × Int := if (if am.2 > 2 then am.2 else 2) ≤ (zr (z.drop k) : Int) then ((k : Int), (zr (z.drop k) : Int)) else am
def bl (z : List Bool) : Nat → Int × Int
  | 0 => (-1, 1)
  | j + 1 => stl z (7 - j) (bl z j)
def emP (fr mo : Int) : Nat → Nat → List (Option Nat)
  | 0, _ => []
  | f + 1, k => if k < 8 then (if (k : Int) = fr then none :: emP fr mo f ((k : Int) + mo).toNat else some k :: emP fr mo f (k + 1)) else []
def partL (fr mo : Int) (k : Nat) : List (Option Nat) := if 0 ≤ fr ∧ (k : Int) = fr then [none] else if 0 ≤ fr ∧ fr < (k : Int) ∧ (k : Int) < fr + mo then [] else [some k]
def emL (fr mo : Int) : Nat → List (Option Nat)
  | 0 => []
  | j + 1 => emL fr mo j ++ partL fr mo (7 - j)
def fwd (z : List Bool) : List (Option Nat) := emP (bp z 8).1 (bp z 8).2 9 0
def lay (z : List Bool) : List (Option Nat) := emL (bl z 8).1 (bl z 8).2 8
def expd (l : List (Option Nat)) : List (Option Nat) := match l.findIdx? (·.isNone) with
  | some k => l.take k ++ (List.replicate (9 - l.length) (some 8) ++ l.drop (k + 1))
  | none => l
def goodZ (z : List Bool) : Bool :=
  decide ((fwd z).reverse = lay z) && decide ((expd (fwd z)).length = 8) && (List.range 8).all (fun i => decide ((expd (fwd z))[i]? = some (some i)) || (decide ((expd (fwd z))[i]? = some (some 8)) && decide (z[i]? = some true))) &&
    (decide ((fwd z).length ≠ 4) || (fwd z).any (·.isNone)) && (decide ((fwd z).length ≤ 7) || !(fwd z).any (·.isNone)) && decide ((fwd z).length ≤ 8) && decide (1 ≤ (fwd z).length) && (fwd z).all (fun o => match o with | some k => decide (k < 8) | none => true) &&
    decide ((bp z 8).1 ≥ -1) && decide ((bp z 8).2 ≥ 1) && decide ((bp z 8).2 ≤ 8) && decide ((bl z 8).1 ≥ -1) && decide ((bl z 8).2 ≥ 1) && decide ((bl z 8).2 ≤ 8) && decide (2 ≤ (fwd z).length ∨ (bp z 8).2 = 8)
theorem good_all : ∀ a b c d e f g h : Bool, goodZ [a, b, c, d, e, f, g, h] = true := by decide +kernel
theorem len8 {α : Type} : ∀ {z : List α}, z.length = 8 → ∃ a b c d e f g h, z = [a, b, c, d, e, f, g, h]
  | [a, b, c, d, e, f, g, h], _ => ⟨a, b, c, d, e, f, g, h, rfl⟩
theorem good_of {z : List Bool} (h : z.length = 8) : goodZ z = true := by
  obtain ⟨a, b, c, d, e, f, g, i, rfl⟩ := len8 h
  exact good_all a b c d e f g i
theorem zr_le (z : List Bool) : zr z ≤ z.length := (List.takeWhile_prefix _).length_le

/-! ### labels of words -/
def ren (ws : List Nat) : Option Nat → ByteArray
  | none => zzB
  | some k => hexB (ws.getD k 0)
def zs (ws : List Nat) : List Bool := ws.map (· == 0)
def sixL (ws : List Nat) : List ByteArray := (lay (zs ws)).map (ren ws)
structure Ws (ws : List Nat) : Prop where
  len : ws.length = 8
  lt : ∀ w ∈ ws, w < 65536
theorem Ws.zlen {ws : List Nat} (h : Ws ws) : (zs ws).length = 8 := by rw [zs, List.length_map, h.len]
theorem Ws.at_ {ws : List Nat} (h : Ws ws) (k : Nat) : ws.getD k 0 < 65536 := by
  rw [List.getD_eq_getElem?_getD]
  cases hk : ws[k]? with
  | none => simp
  | some w => exact h.lt w (List.mem_of_getElem? hk)
theorem six_rev {ws : List Nat} (h : Ws ws) : (sixL ws).reverse = (fwd (zs ws)).map (ren ws) := by
  have hg := good_of h.zlen
  simp only [goodZ, Bool.and_eq_true, decide_eq_true_eq] at hg
  rw [sixL, ← List.map_reverse, ← hg.1.1.1.1.1.1.1.1.1.1.1.1.1.1, List.reverse_reverse]
theorem ren_zz {ws : List Nat} (h : Ws ws) (o : Option Nat) : ren ws o = zzB ↔ o = none := by
  cases o with
  | none => simp [ren]
  | some k => exact ⟨fun e => absurd e (hexB_zz (h.at_ k)), fun e => by cases e⟩
/-- the labels, last word last, with zeros for zz -/
theorem six_exp {ws : List Nat} (h : Ws ws) : (expd (fwd (zs ws))).map (ren ws) = ws.map hexB := by
  have hg := good_of h.zlen
  simp only [goodZ, Bool.and_eq_true, decide_eq_true_eq] at hg
  have hl := hg.1.1.1.1.1.1.1.1.1.1.1.1.1.2
  have ha := hg.1.1.1.1.1.1.1.1.1.1.1.1.2
  apply List.ext_getElem?
  intro i
  rw [List.getElem?_map, List.getElem?_map]
  by_cases hi : i < 8
  · have := List.all_eq_true.1 ha i (List.mem_range.2 hi)
    simp only [Bool.or_eq_true, Bool.and_eq_true, decide_eq_true_eq] at this
    have hw : ws[i]? = some (ws.getD i 0) := by
      rw [List.getD_eq_getElem?_getD, List.getElem?_eq_getElem (by rw [h.len]; exact hi)]; rfl
    rcases this with e | ⟨e, hz⟩
    · rw [e, hw]; rfl
    · have hz0 : ws.getD i 0 = 0 := by
        rw [zs, List.getElem?_map, hw] at hz
        simpa using hz
      have h8 : ws.getD 8 0 = 0 := by
        rw [List.getD_eq_getElem?_getD, List.getElem?_eq_none (by rw [h.len]; exact Nat.le_refl _)]; rfl
      rw [e, hw, hz0]
      show some (hexB (ws.getD 8 0)) = some (hexB 0)
      rw [h8]
  · rw [List.getElem?_eq_none (by rw [hl]; omega), List.getElem?_eq_none (by rw [h.len]; omega)]; rfl
end Go.Proofs.YtmlojdbahlfiaaaDoor
/- Numbers written: strconv.Itoa of a byte's numbers. -/
namespace Go.Proofs.YtmlojdbahlfiaaaDoor
open Go.Px
set_option linter.unusedVariables false
set_option linter.unusedSimpArgs false
set_option maxRecDepth 8000

/-- what the library's tables and errors hold, as far as it is read -/
structure GL (I : IMem) : Prop where
  p10 : ∃ cs e fz, I.at_ 0 = some (.cells cs e fz) ∧ cs[2]? = some (.int .u64 100)
  tz : ∃ cs e fz, I.at_ 4 = some (.cells cs e fz) ∧ cs[15]? = some (.int .u8 4)
  er1 : ∃ cs e fz t v, I.at_ 1 = some (.cells cs e fz) ∧ cs[0]? = some (.iface t v)
  er2 : ∃ cs e fz t v, I.at_ 2 = some (.cells cs e fz) ∧ cs[0]? = some (.iface t v)
theorem GL.le {I J : IMem} (h : GL I) (hle : I.le J) : GL J :=
  ⟨let ⟨cs, e, fz, h1, h2⟩ := h.p10; ⟨cs, e, fz, hle.at_ _ _ h1, h2⟩, let ⟨cs, e, fz, h1, h2⟩ := h.tz; ⟨cs, e, fz, hle.at_ _ _ h1, h2⟩, let ⟨cs, e, fz, t, v, h1, h2⟩ := h.er1; ⟨cs, e, fz, t, v, hle.at_ _ _ h1, h2⟩,
    let ⟨cs, e, fz, t, v, h1, h2⟩ := h.er2; ⟨cs, e, fz, t, v, hle.at_ _ _ h1, h2⟩⟩

theorem small1 : ∀ m : Fin 10, (strT1_69c1.extract m.val (m.val + 1)).data.toList = numL 3 10 m.val := by decide +kernel
theorem small2 : ∀ m : Fin 100, 10 ≤ m.val → (strT1_7034.extract (m.val * 2) (m.val * 2 + 2)).data.toList = numL 3 10 m.val := by decide +kernel
theorem small_runs {n : Nat} (h : n < 100) (I : IMem) (S : SH) : Runs Tryd.prog 84 #[.int .i64 (n : Int)] I S fun v _ T => v = .string (decB n) ∧ T = S := by
  refine strconv_small_fn _ _ _ _ ?_
  unfold strconv_small
  have s1 : strT1_69c1.size = 36 := by decide
  have s2 : strT1_7034.size = 200 := by decide +kernel
  rw [wrap_i64 (x := (n : Int) + 1) (by omega) (by omega), wrap_i64 (x := (n : Int) * 2) (by omega) (by omega), wrap_i64 (x := (n : Int) * 2 + 2) (by omega) (by omega)]
  refine bcase_dec (fun h1 => ?_) (fun h1 => ?_)
  · refine ⟨by omega, by rw [s1]; omega, by omega, by omega, ?_, rfl⟩
    congr 1
    refine bext ?_
    have := small1 ⟨n, by omega⟩
    rw [show (n : Int).toNat = n by omega, show ((n : Int) + 1).toNat = n + 1 by omega, this]
    simp [decB]
  · refine ⟨by omega, by rw [s2]; omega, by omega, by omega, ?_, rfl⟩
    congr 1
    refine bext ?_
    have := small2 ⟨n, h⟩ (by show 10 ≤ n; omega)
    rw [show ((n : Int) * 2).toNat = n * 2 by omega, show ((n : Int) * 2 + 2).toNat = n * 2 + 2 by omega, this]
    simp [decB]

theorem len8tab : ∀ m : Fin 256, 100 ≤ m.val → (strT1_2a39[m.val]? = some 7 ∨ strT1_2a39[m.val]? = some 8) := by decide +kernel
theorem Len64_runs {n : Nat} (h : 100 ≤ n) (h2 : n ≤ 255) (I : IMem) (S : SH) : Runs Tryd.prog 98 #[.int .u64 (n : Int)] I S fun v _ T => (v = .int .i64 7 ∨ v = .int .i64 8) ∧ T = S := by
  refine bits_Len64_fn _ _ _ _ ?_
  unfold bits_Len64 bits_Len64_b1 bits_Len64_b2 bits_Len64_b3
  refine bcase_dec (fun g => by omega) (fun _ => bcase_dec (fun g => by omega) (fun _ => bcase_dec (fun g => by omega) (fun _ => ?_)))
  rw [wrap_u8 (x := (n : Int)) (by omega) (by omega)]
  rcases len8tab ⟨n, by omega⟩ h with e | e
  · exact ⟨7, by omega, e, .inl rfl, rfl⟩
  · exact ⟨8, by omega, e, .inr rfl, rfl⟩
theorem Log_runs {x : Int} (h : x = 7 ∨ x = 8) (I : IMem) (S : SH) : Runs Tryd.prog 97 #[.int .i64 x] I S fun v _ T => v = .int .i64 2 ∧ T = S := by
  refine strconv_log10Pow2_fn _ _ _ _ ?_
  unfold strconv_log10Pow2
  rcases h with rfl | rfl <;> exact ⟨rfl, rfl⟩
theorem b2i_runs (b : Bool) (I : IMem) (S : SH) : Runs Tryd.prog 99 #[.bool b] I S fun v _ T => v = .int .i64 (if b then 1 else 0) ∧ T = S := by
  refine strconv_bool2_int_fn _ _ _ _ ?_
  unfold strconv_bool2_int
  cases b
  · exact bcase_f rfl ⟨rfl, rfl⟩
  · exact bcase_t rfl ⟨rfl, rfl⟩
theorem digits_runs {n : Nat} (h : 100 ≤ n) (h2 : n ≤ 255) {I : IMem} (g : GL I) (S : SH) : Runs Tryd.prog 85 #[.int .u64 (n : Int)] I S fun v _ T => v = .int .i64 3 ∧ T = S := by
  refine strconv_numDigits_fn _ _ _ _ ?_
  unfold strconv_numDigits
  refine (Len64_runs h h2 I S).mono ?_
  rintro v J T hle ⟨hv, rfl⟩
  have key : ∀ x : Int, x = 7 ∨ x = 8 → Runs Tryd.prog 97 #[.int .i64 x] J T fun v' I1' S1' => ∃ x6, v' = .int .i64 x6 ∧
    (0 : Int) ≤ x6 ∧ x6 < ((20 : Nat) : Int) ∧
    ∃ x11, Cell I1' S1' ((⟨0, 0, none⟩ : Addr).add (x6.toNat * 1)) (.int .u64 x11) ∧
    Runs Tryd.prog 99 #[.bool (decide ((n : Int) ≥ x11))] I1' S1' fun v'' I1'' S1'' => ∃ x13, v'' = .int .i64 x13 ∧
    (Value.int .i64 (IntKind.wrap .i64 (x6 + x13)) = .int .i64 3 ∧ S1'' = T) := by
    intro x hx
    refine (Log_runs hx J T).mono ?_
    rintro v J1 T1 hle1 ⟨rfl, rfl⟩
    obtain ⟨cs, e, fz, h1, h2⟩ := ((g.le hle).le hle1).p10
    refine ⟨2, rfl, by omega, by omega, 100, ?_, ?_⟩
    · exact Cell.im (b := 0) (o := 2) h1 h2
    · refine (b2i_runs _ J1 T1).mono ?_
      rintro v J2 T2 _ ⟨rfl, rfl⟩
      rw [if_pos (by simp; omega)]
      exact ⟨_, rfl, rfl, rfl⟩
  rcases hv with rfl | rfl
  · exact ⟨7, rfl, key 7 (.inl rfl)⟩
  · exact ⟨8, rfl, key 8 (.inr rfl)⟩

theorem num3 : ∀ m : Fin 256, 100 ≤ m.val → ∃ a b : UInt8, (numL 3 10 m.val) = [UInt8.ofNat (48 + m.val / 100), a, b] ∧ strT1_7034[m.val % 100 * 2 + 1]? = some b ∧ strT1_7034[m.val % 100 * 2]? = some a := by
  intro m hm
  have h1 : (numL 3 10 m.val) = [UInt8.ofNat (48 + m.val / 100), dgt (m.val / 10 % 10), dgt (m.val % 10)] := by
    revert m; decide +kernel
  refine ⟨_, _, h1, ?_, ?_⟩
  · revert m; decide +kernel
  · revert m; decide +kernel
theorem base10_runs {n : Nat} (h : 100 ≤ n) (h2 : n ≤ 255) {a b : UInt8} (h3 : strT1_7034[n % 100 * 2 + 1]? = some b) (h4 : strT1_7034[n % 100 * 2]? = some a) {g : Nat} {cs : Array Value} {e : TypeId} (hc : 4 ≤ cs.size) (I : IMem) (S : SH) :
    Runs Tryd.prog 86 #[.slice (some ⟨g, 1, none⟩) 3 23, .int .u64 (n : Int)] I ((g, .cells cs e (0, 0)) :: S) fun v _ T => v = .tuple #[] ∧
      T = (g, .cells (setR (setR (setR cs 3 [.int .u8 (b.toNat : Int)]) 2 [.int .u8 (a.toNat : Int)]) 1 [.int .u8 ((UInt8.ofNat (48 + n / 100)).toNat : Int)]) e (0, 0)) :: S := by
  refine strconv_formatBase10_fn _ _ _ _ _ _ _ ?_
  unfold strconv_formatBase10 strconv_formatBase10_b1
  refine ⟨fun m x xn xc u nd J T => x = some ⟨g, 1, none⟩ ∧ xn = 3 ∧ xc = 23 ∧ u = (n : Int) ∧ nd = 3 ∧ J = J ∧ T = (g, .cells cs e (0, 0)) :: S, 0, ⟨rfl, rfl, rfl, rfl, rfl, rfl, rfl⟩, ?_⟩
  rintro m x xn xc u nd J T - ⟨rfl, rfl, rfl, rfl, rfl, -, rfl⟩
  unfold strconv_formatBase10_l2 strconv_formatBase10_b9 strconv_formatBase10_b10 strconv_formatBase10_b11 strconv_formatBase10_b15 strconv_formatBase10_b16 strconv_formatBase10_b17 strconv_formatBase10_b18 strconv_formatBase10_b19
  rw [wrap_u32 (x := (n : Int)) (by omega) (by omega)]
  have e1 : (n : Int).tmod 100 = ((n % 100 : Nat) : Int) := by rw [Int.tmod_eq_emod_of_nonneg (by omega)]; omega
  have e2 : (n : Int).tdiv 100 = ((n / 100 : Nat) : Int) := by rw [Int.tdiv_eq_ediv_of_nonneg (by omega)]; omega
  refine bcase_f rfl (bcase_f rfl (bcase_t rfl ?_))
  rw [e1, e2, wrap_u32 (x := ((n / 100 : Nat) : Int)) (by omega) (by omega), wrap_u32 (x := ((n % 100 : Nat) : Int) * 2) (by omega) (by omega), wrap_u32 (x := ((n % 100 : Nat) : Int) * 2 + 1) (by omega) (by omega)]
  refine ⟨b, by omega, (congrArg (fun i : Nat => strT1_7034[i]?) (show ((((n % 100 : Nat) : Int) * 2 + 1).toNat) = n % 100 * 2 + 1 by omega)).trans h3, a, by omega, (congrArg (fun i : Nat => strT1_7034[i]?) (show ((((n % 100 : Nat) : Int) * 2).toNat) = n % 100 * 2 by omega)).trans h4, by decide, by decide, ?_⟩
  refine StP.at0 (o := 3) (by simpa using hc) rfl ?_
  refine ⟨by decide, by decide, StP.at0 (o := 2) (by simp [setR_size]; omega) rfl ?_⟩
  refine bcase_t rfl ⟨by decide, by decide, StP.at0 (o := 1) (by simp [setR_size]; omega) rfl ⟨rfl, ?_⟩⟩
  have e3 : IntKind.wrap .u8 (IntKind.wrap .u32 (48 + ((n / 100 : Nat) : Int))) = ((UInt8.ofNat (48 + n / 100)).toNat : Int) := by
    rw [wrap_u32 (by omega) (by omega), wrap_u8 (by omega) (by omega)]
    have : (UInt8.ofNat (48 + n / 100)).toNat = 48 + n / 100 := by simp [UInt8.toNat_ofNat']; omega
    rw [this]; omega
  rw [e3]
theorem Fmt10_runs {n : Nat} (h : n ≤ 255) {I : IMem} (g : GL I) (S : SH) : Runs Tryd.prog 76 #[.int .i64 (n : Int), .int .i64 10] I S fun v _ T => v = .string (decB n) ∧ T = S := by
  refine Runs.drop (strconv_FormatInt_2_fn _ _ _ _ _ ?_)
  unfold strconv_FormatInt_2 strconv_FormatInt_2_b1 strconv_FormatInt_2_b2 strconv_FormatInt_2_b3
  refine bcase_t rfl (bcase_t (decide_eq_true (by omega)) (bcase_dec (fun h1 => ?_) (fun h1 => ?_)))
  · refine (small_runs (by omega) I S).mono ?_
    rintro v J T hle ⟨rfl, rfl⟩
    exact ⟨_, rfl, _, Sub.refl _, rfl, rfl⟩
  · unfold strconv_FormatInt_2_b4 strconv_FormatInt_2_b5
    intro b5
    refine bcase_f (decide_eq_false (by omega)) ?_
    rw [wrap_u64 (x := (n : Int)) (by omega) (by omega)]
    refine (digits_runs (n := n) (by omega) h g _).mono ?_
    rintro v J T hle ⟨rfl, rfl⟩
    refine ⟨3, rfl, by decide, by decide, by decide, by decide, ?_⟩
    obtain ⟨a, b, h3, h4, h5⟩ := num3 ⟨n, by omega⟩ (by show 100 ≤ n; omega)
    refine (base10_runs (n := n) (by omega) h h4 h5 (g := b5) (by simp) J S).mono ?_
    rintro v J1 T1 hle1 ⟨rfl, rfl⟩
    refine ⟨rfl, bcase_f (decide_eq_false (by omega)) ⟨by decide, by decide, by decide, by decide, decB n, ?_, S, ⟨[_], List.perm_append_comm (l₁ := [_])⟩, rfl, rfl⟩⟩
    have hd : (decB n).data.toList = [UInt8.ofNat (48 + n / 100), a, b] := h3
    have hsz : (decB n).size = 3 := by have := congrArg List.length hd; rw [Array.length_toList] at this; exact this
    have hg : ∀ i : Nat, (decB n)[i]? = ([UInt8.ofNat (48 + n / 100), a, b] : List UInt8)[i]? := by
      intro i
      rw [← hd]
      by_cases hi : i < (decB n).size
      · rw [getElem?_pos _ i hi, List.getElem?_eq_getElem (by rw [Array.length_toList]; exact hi)]; rfl
      · rw [getElem?_neg _ i hi, List.getElem?_eq_none (by rw [Array.length_toList]; exact Nat.le_of_not_lt hi)]
    refine ⟨hsz, fun i c hc => ?_⟩
    rw [hg] at hc
    have hadd : (⟨b5, 0, none⟩ : Addr).add (1 * 1) = ⟨b5, 1, none⟩ := rfl
    show Cell J1 _ (((⟨b5, 0, none⟩ : Addr).add (1 * 1)).add i) _
    rw [hadd, add_mk]
    rcases i with _ | _ | _ | i
    · obtain rfl := Option.some.inj hc; exact Cell.at0 rfl
    · obtain rfl := Option.some.inj hc; exact Cell.at0 rfl
    · obtain rfl := Option.some.inj hc; exact Cell.at0 rfl
    · simp at hc
theorem Itoa2_runs {n : Nat} (h : n ≤ 255) {I : IMem} (g : GL I) (S : SH) : Runs Tryd.prog 69 #[.int .i64 (n : Int)] I S fun v _ T => v = .string (decB n) ∧ T = S := by
  refine strconv_Itoa_2_fn _ _ _ _ ?_
  unfold strconv_Itoa_2
  refine (Fmt10_runs h g S).mono ?_
  rintro v J T hle ⟨rfl, rfl⟩
  exact ⟨_, rfl, rfl, rfl⟩
theorem Itoa_runs {n : Nat} (h : n ≤ 255) {I : IMem} (g : GL I) (S : SH) : Runs Tryd.prog 59 #[.int .i64 (n : Int)] I S fun v _ T => v = .string (decB n) ∧ T = S := by
  refine strconv_Itoa_fn _ _ _ _ ?_
  unfold strconv_Itoa
  refine (Itoa2_runs h g S).mono ?_
  rintro v J T hle ⟨rfl, rfl⟩
  exact ⟨_, rfl, rfl, rfl⟩
end Go.Proofs.YtmlojdbahlfiaaaDoor
/- Numbers written by sixteen: strconv.FormatUint and FormatInt of words. -/
namespace Go.Proofs.YtmlojdbahlfiaaaDoor
open Go.Px
set_option linter.unusedVariables false
set_option linter.unusedSimpArgs false
set_option maxRecDepth 8000

theorem iand15 {u : Nat} (h : u < 65536) : iand .u64 (u : Int) (15 : Int) = ((u % 16 : Nat) : Int) := by
  have h1 : (BitVec.ofInt (IntKind.bits .u64) (u : Int) &&& BitVec.ofInt (IntKind.bits .u64) (15 : Int)).toNat = u % 16 := by
    rw [BitVec.toNat_and, BitVec.ofInt_natCast]
    have e1 : (BitVec.ofNat (IntKind.bits .u64) u).toNat = u := by
      rw [BitVec.toNat_ofNat]; exact Nat.mod_eq_of_lt (by show u < 2 ^ 64; omega)
    have e2 : (BitVec.ofInt (IntKind.bits .u64) (15 : Int)).toNat = 15 := by decide
    rw [e1, e2]
    exact Nat.and_two_pow_sub_one_eq_mod u 4
  unfold iand
  rw [h1]
  exact wrap_u64 (by omega) (by omega)
theorem dgt_at : ∀ d : Fin 16, strT1_69c1[d.val]? = some (dgt d.val) := by decide +kernel
theorem dgt_at' {d : Nat} (h : d < 16) : strT1_69c1[d]? = some (dgt d) := dgt_at ⟨d, h⟩
theorem pow2_runs (I : IMem) (S : SH) : Runs Tryd.prog 100 #[.int .i64 16] I S fun v _ T => v = .bool true ∧ T = S := by
  refine strconv_isPowerOfTwo_fn _ _ _ _ ?_
  unfold strconv_isPowerOfTwo
  exact ⟨by rw [show ((iand .i64 16 (IntKind.wrap .i64 (16 - (1 : Int)))) == (0 : Int)) = true by decide +kernel], rfl⟩
theorem tz_runs {I : IMem} (g : GL I) (S : SH) : Runs Tryd.prog 113 #[.int .u64 16] I S fun v _ T => v = .int .i64 4 ∧ T = S := by
  refine bits_TrailingZeros64_fn _ _ _ _ ?_
  unfold bits_TrailingZeros64
  have e : ((IntKind.wrap .u64 ((iand .u64 16 (IntKind.wrap .u64 (0 - 16))) * (285870213051353865 : Int))).fdiv (2 ^ (min (58 : Int).toNat (IntKind.bits .u64)))) = 15 := by decide +kernel
  rw [e]
  obtain ⟨cs, t, fz, h1, h2⟩ := g.tz
  exact bcase_f rfl ⟨by decide, by decide, 4, Cell.im (b := 4) (o := 15) h1 h2, rfl, rfl⟩
theorem tz2_runs {I : IMem} (g : GL I) (S : SH) : Runs Tryd.prog 101 #[.int .u64 16] I S fun v _ T => v = .int .i64 4 ∧ T = S := by
  refine bits_TrailingZeros_fn _ _ _ _ ?_
  unfold bits_TrailingZeros
  refine (tz_runs g S).mono ?_
  rintro v J T _ ⟨rfl, rfl⟩
  exact ⟨_, rfl, rfl, rfl⟩
def zerosL (k : Nat) : List Value := List.replicate k (.int .u8 0)
theorem zerosL_take {k j : Nat} (h : j ≤ k) (B : List Value) : (zerosL k ++ B).take j = zerosL j := by
  rw [List.take_append_of_le_length (by simp [zerosL]; exact h), zerosL, List.take_replicate, Nat.min_eq_left h]; rfl
theorem zerosL_drop {k : Nat} (B : List Value) : (zerosL k ++ B).drop k = B := by
  have : (zerosL k).length = k := by simp [zerosL]
  rw [List.drop_append_of_le_length (by omega), List.drop_of_length_le (by omega), List.nil_append]
theorem bits_runs {n : Nat} (h : n < 65536) {I : IMem} (g : GL I) (S : SH) : Runs Tryd.prog 87 #[.slice none 0 0, .int .u64 (n : Int), .int .i64 16, .bool false, .bool false] I S fun v _ T => v = .tuple #[.slice none 0 0, .string (hexB n)] ∧ T = S := by
  refine Runs.drop (strconv_formatBits_fn _ _ _ _ _ _ _ _ _ _ ?_)
  unfold strconv_formatBits strconv_formatBits_b1 strconv_formatBits_b2 strconv_formatBits_b3 strconv_formatBits_b4 strconv_formatBits_b5
  refine bcase_f rfl (bcase_f rfl (bcase_f rfl ?_))
  intro b12
  refine bcase_f rfl ((pow2_runs I _).mono ?_)
  rintro v J T hle ⟨rfl, rfl⟩
  refine ⟨true, rfl, bcase_t rfl ?_⟩
  rw [wrap_u64 (x := (16 : Int)) (by decide) (by decide)]
  refine (tz2_runs (g.le hle) _).mono ?_
  rintro v J1 T1 hle1 ⟨rfl, rfl⟩
  refine ⟨4, rfl, ?_⟩
  rw [wrap_u64 (x := (4 : Int)) (by decide) (by decide), wrap_u64 (x := (16 : Int) - 1) (by decide) (by decide)]
  unfold strconv_formatBits_b6
  refine ⟨fun m d dn dc u ng ap d2 d2n d2c s a i sh b mk J T => d = none ∧ dn = 0 ∧ dc = 0 ∧ ng = false ∧ ap = false ∧ d2 = none ∧ d2n = 0 ∧ d2c = 0 ∧ a = ⟨b12, 0, none⟩ ∧ sh = 4 ∧ b = 16 ∧ mk = 16 - 1 ∧ J1.le J ∧
    ∃ (k f : Nat) (acc : List UInt8), u = (k : Int) ∧ m = f ∧ 1 ≤ f ∧ f + acc.length = 4 ∧ k < 16 ^ f ∧ i = ((65 - acc.length : Nat) : Int) ∧ numL 4 16 n = numL f 16 k ++ acc ∧ T = (b12, .cells (zerosL (65 - acc.length) ++ bytL acc).toArray 182 (0, 0)) :: S,
    4, ⟨rfl, rfl, rfl, rfl, rfl, rfl, rfl, rfl, rfl, rfl, rfl, rfl, IMem.le.refl _, n, 4, [], rfl, rfl, by decide, rfl, by omega, rfl, by simp, rfl⟩, ?_⟩
  rintro m d dn dc u ng ap d2 d2n d2c s a i sh b mk J T - ⟨rfl, rfl, rfl, rfl, rfl, rfl, rfl, rfl, rfl, rfl, rfl, rfl, hle2, k, f, acc, rfl, rfl, hf, hfa, hk, rfl, hn, rfl⟩
  unfold strconv_formatBits_l7
  have hk2 : k < 65536 := Nat.lt_of_lt_of_le hk (by have : (16 : Nat) ^ m ≤ 16 ^ 4 := Nat.pow_le_pow_right (by decide) (by omega); omega)
  have hacc : acc.length ≤ 3 := by omega
  have hput : ∀ (c : UInt8) (K : SH → Prop), K ((b12, .cells (zerosL (65 - (c :: acc).length) ++ bytL (c :: acc)).toArray 182 (0, 0)) :: S) →
      StP ((b12, .cells (zerosL (65 - acc.length) ++ bytL acc).toArray 182 (0, 0)) :: S) ((⟨b12, 0, none⟩ : Addr).add ((IntKind.wrap .i64 (((65 - acc.length : Nat) : Int) - 1)).toNat * 1)) [.int .u8 (c.toNat : Int)] K := by
    intro c K hK
    have e0 : (IntKind.wrap .i64 (((65 - acc.length : Nat) : Int) - 1)).toNat * 1 = 64 - acc.length := by rw [wrap_i64 (by omega) (by omega)]; omega
    rw [e0, add_mk]
    refine StP.list (o := 0 + (64 - acc.length)) (by simp [zerosL, bytL_len]; omega) rfl ?_
    have e1 : (zerosL (65 - acc.length) ++ bytL acc).take (0 + (64 - acc.length)) = zerosL (64 - acc.length) := by rw [Nat.zero_add]; exact zerosL_take (by omega) _
    have e2 : (zerosL (65 - acc.length) ++ bytL acc).drop (0 + (64 - acc.length) + [Value.int .u8 (c.toNat : Int)].length) = bytL acc := by
      rw [show 0 + (64 - acc.length) + [Value.int .u8 (c.toNat : Int)].length = 65 - acc.length by simp; omega]; exact zerosL_drop _
    rw [e1, e2, List.append_assoc]
    have e3 : 64 - acc.length = 65 - (c :: acc).length := by rw [List.length_cons]; omega
    rw [e3]
    exact hK
  refine bcase_dec (fun h16 => ?_) (fun h16 => ?_)
  · have hd : k % 16 < 16 := Nat.mod_lt _ (by decide)
    have hf2 : 2 ≤ m := by
      rcases Nat.lt_or_ge m 2 with h | h
      · have : m = 1 := by omega
        subst this; simp at hk; omega
      · exact h
    obtain ⟨f, rfl⟩ : ∃ f, m = f + 1 := ⟨m - 1, by omega⟩
    have hi : iand .u64 (k : Int) (16 - 1) = ((k % 16 : Nat) : Int) := iand15 hk2
    rw [hi]
    refine ⟨dgt (k % 16), by omega, dgt_at' hd, by rw [wrap_i64 (by omega) (by omega)]; omega, by rw [wrap_i64 (by omega) (by omega)]; omega, hput _ _ (bcase_f rfl ?_)⟩
    refine ⟨f, by omega, rfl, rfl, rfl, rfl, rfl, rfl, rfl, rfl, rfl, rfl, rfl, rfl, hle2, k / 16, f, dgt (k % 16) :: acc, ?_, rfl, by omega, by rw [List.length_cons]; omega, ?_, ?_, ?_, rfl⟩
    · rw [Int.fdiv_eq_ediv_of_nonneg _ (by decide)]
      show (k : Int) / 16 = _
      omega
    · rw [Nat.pow_succ] at hk; omega
    · rw [wrap_i64 (by omega) (by omega), List.length_cons]; omega
    · rw [hn]
      conv => lhs; rw [numL, if_neg (by omega)]
      simp
  · unfold strconv_formatBits_b8 strconv_formatBits_b9 strconv_formatBits_b10
    obtain ⟨f, rfl⟩ : ∃ f, m = f + 1 := ⟨m - 1, by omega⟩
    refine ⟨dgt k, by omega, dgt_at' (by omega), by rw [wrap_i64 (by omega) (by omega)]; omega, by rw [wrap_i64 (by omega) (by omega)]; omega, hput _ _ (bcase_f rfl (bcase_f rfl ?_))⟩
    have hfin : numL 4 16 n = dgt k :: acc := by
      rw [hn, numL, if_pos (by omega)]; rfl
    have hl : (dgt k :: acc).length = acc.length + 1 := rfl
    have e0 : IntKind.wrap .i64 (((65 - acc.length : Nat) : Int) - 1) = ((64 - acc.length : Nat) : Int) := by rw [wrap_i64 (by omega) (by omega)]; omega
    rw [e0]
    refine ⟨by omega, by omega, hexB n, ?_, S, ⟨[_], List.perm_append_comm (l₁ := [_])⟩, rfl, rfl⟩
    have e1 : slA (some ⟨b12, 0, none⟩) 65 ((64 - acc.length : Nat) : Int).toNat 1 = some ⟨b12, 64 - acc.length, none⟩ := by
      unfold slA
      rw [if_neg (by omega)]
      show some _ = _
      congr 1
      rw [show ((64 - acc.length : Nat) : Int).toNat * 1 = 64 - acc.length by omega]
      show (⟨b12, 0, none⟩ : Addr).add (64 - acc.length) = _
      rw [add_mk, Nat.zero_add]
    rw [e1, show 65 - ((64 - acc.length : Nat) : Int).toNat = acc.length + 1 by omega]
    have hd : (hexB n).data.toList = dgt k :: acc := hfin
    have hsz : (hexB n).size = acc.length + 1 := by have := congrArg List.length hd; rw [Array.length_toList] at this; exact this
    refine ⟨hsz, fun i c hc => ?_⟩
    have hi : i < (hexB n).size := by
      rcases Nat.lt_or_ge i (hexB n).size with h | h
      · exact h
      · rw [getElem?_neg _ i (by omega)] at hc; cases hc
    rw [add_mk]
    refine Cell.at0 ?_
    have hg : (dgt k :: acc)[i]? = some c := by rw [← hd, ← ba_get]; exact hc
    have hz : (zerosL (65 - (dgt k :: acc).length)).length = 64 - acc.length := by rw [zerosL, List.length_replicate, hl]; omega
    rw [List.getElem?_toArray, List.getElem?_append_right (by rw [hz]; exact Nat.le_add_right _ _)]
    have : (64 - acc.length + i) - (zerosL (65 - (dgt k :: acc).length)).length = i := by rw [hz]; omega
    rw [this, bytL, List.getElem?_map, hg]; rfl
theorem FmtU_runs {n : Nat} (h : n < 65536) {I : IMem} (g : GL I) (S : SH) : Runs Tryd.prog 96 #[.int .u64 (n : Int), .int .i64 16] I S fun v _ T => v = .string (hexB n) ∧ T = S := by
  refine strconv_FormatUint_fn _ _ _ _ _ ?_
  unfold strconv_FormatUint
  refine Runs.mono (R := fun v _ T => v = .string (hexB n) ∧ T = S) ?_ ?_
  · refine strconv_FormatUint_2_fn _ _ _ _ _ ?_
    unfold strconv_FormatUint_2
    refine bcase_f rfl ((bits_runs h g S).mono ?_)
    rintro v J T _ ⟨rfl, rfl⟩
    exact ⟨_, _, _, _, rfl, rfl, rfl⟩
  · rintro v J T _ ⟨rfl, rfl⟩
    exact ⟨_, rfl, rfl, rfl⟩
theorem FmtI_runs {n : Nat} (h : n < 65536) {I : IMem} (g : GL I) (S : SH) : Runs Tryd.prog 70 #[.int .i64 (n : Int), .int .i64 16] I S fun v _ T => v = .string (hexB n) ∧ T = S := by
  refine strconv_FormatInt_fn _ _ _ _ _ ?_
  unfold strconv_FormatInt
  refine Runs.mono (R := fun v _ T => v = .string (hexB n) ∧ T = S) ?_ ?_
  · refine strconv_FormatInt_2_fn _ _ _ _ _ ?_
    unfold strconv_FormatInt_2 strconv_FormatInt_2_b1 strconv_FormatInt_2_b2 strconv_FormatInt_2_b6
    refine bcase_f rfl ?_
    rw [wrap_u64 (x := (n : Int)) (by omega) (by omega), show (decide ((n : Int) < 0)) = false from decide_eq_false (by omega)]
    refine (bits_runs h g S).mono ?_
    rintro v J T _ ⟨rfl, rfl⟩
    exact ⟨_, _, _, _, rfl, rfl, rfl⟩
  · rintro v J T _ ⟨rfl, rfl⟩
    exact ⟨_, rfl, rfl, rfl⟩
end Go.Proofs.YtmlojdbahlfiaaaDoor
/- Numbers read: the library's inner ParseUint, by ten and by sixteen, of every string. -/
namespace Go.Proofs.YtmlojdbahlfiaaaDoor
open Go.Px
set_option linter.unusedVariables false
set_option linter.unusedSimpArgs false
set_option maxRecDepth 8000

abbrev erV (k : Int) : Value := .iface 185 (.int .i64 k)
def PuX (s : ByteArray) (base : Int) (P : Nat → Prop) : Prop := base = 16 → ∀ w : Nat, w < 65536 → s = hexB w → P w
def PuR (s : ByteArray) (base : Int) (S : SH) (v : Value) (T : SH) : Prop :=
  ∃ (n : Int) (e : Value), v = .tuple #[.int .u64 n, e] ∧ (e = .nilIface ∨ e = erV 1 ∨ e = erV 2) ∧ PuX s base (fun w => n = (w : Int) ∧ e = .nilIface) ∧ (e = .nilIface → base = 16 → 0 ≤ n ∧ n ≤ 65535) ∧ Sub S T
theorem lowerU : ∀ c : Fin 256, ior .u8 (c.val : Int) 32 = ((UInt8.ofNat c.val ||| 32).toNat : Int) := by decide +kernel
theorem lowerU' (c : UInt8) : ior .u8 (c.toNat : Int) 32 = ((c ||| 32).toNat : Int) := by
  have := lowerU ⟨c.toNat, c.toNat_lt⟩
  simpa using this
theorem lower_runs (c : UInt8) (I : IMem) (S : SH) : Runs Tryd.prog 116 #[.int .u8 (c.toNat : Int)] I S fun v _ T => v = .int .u8 ((c ||| 32).toNat : Int) ∧ T = S := by
  refine strconv_lower_fn _ _ _ _ ?_
  unfold strconv_lower
  rw [lowerU']
  exact ⟨rfl, rfl⟩
theorem low_lt (c : UInt8) : (c ||| 32).toNat < 256 := (c ||| 32).toNat_lt
theorem byteCells_at {s : ByteArray} {k : Nat} {c : UInt8} (h : s.data.toList[k]? = some c) (rest : List Value) : (byteCells s ++ rest).toArray[k]? = some (.int .u8 (c.toNat : Int)) := by
  have hk : k < s.data.toList.length := by
    rcases Nat.lt_or_ge k s.data.toList.length with g | g
    · exact g
    · rw [List.getElem?_eq_none g] at h; cases h
  rw [List.getElem?_toArray, List.getElem?_append_left (by simpa [byteCells] using hk), byteCells, List.getElem?_map, h]; rfl
theorem PUin_runs {base bs : Int} (hb : (base = 10 ∧ bs = 0) ∨ (base = 16 ∧ bs = 16)) (s : ByteArray) (hs : s.size ≤ 281474976710656) (I : IMem) (S : SH) :
    Runs Tryd.prog 110 #[.string s, .int .i64 base, .int .i64 bs] I S fun v _ T => PuR s base S v T := by
  refine strconv_ParseUint_2_fn _ _ _ _ _ _ ?_
  unfold strconv_ParseUint_2
  have no : ∀ (nv : Int) (e : Value) (T : SH), e = erV 1 ∨ e = erV 2 → PuX s base (fun _ => False) → Sub S T → PuR s base S (.tuple #[.int .u64 nv, e]) T :=
    fun nv e T he hx hS => ⟨nv, e, rfl, .inr he, fun h w hw hw2 => (hx h w hw hw2).elim, fun h => (by rcases he with rfl | rfl <;> cases h), hS⟩
  have hlen : s.data.toList.length = s.size := Array.length_toList
  refine bcase_of (fun h0 => no _ _ _ (.inr rfl) (fun hb w hw e => ?_) (Sub.refl _)) (fun h0 => ?_)
  · have h1 := hexB_len w
    rw [e] at h0
    rw [tl_inj (eq_of_beq h0)] at h1
    exact absurd h1.1 (by decide)
  unfold strconv_ParseUint_2_b1 strconv_ParseUint_2_b2 strconv_ParseUint_2_b3 strconv_ParseUint_2_b4 strconv_ParseUint_2_b23 strconv_ParseUint_2_b5 strconv_ParseUint_2_b6
  have hb2 : (2 : Int) ≤ base ∧ base ≤ 36 := by rcases hb with ⟨rfl, rfl⟩ | ⟨rfl, rfl⟩ <;> decide
  have key : ∀ cutoff maxVal : Int, (base = 16 → cutoff = 1152921504606846976 ∧ maxVal = 65535) → strconv_ParseUint_2_b7 (fun v _ T => PuR s base S v T) s base (base == 0) s cutoff maxVal false 0 I S := by
    intro cutoff maxVal hcm
    have e0 : (base == (0 : Int)) = false := by rcases hb with ⟨rfl, rfl⟩ | ⟨rfl, rfl⟩ <;> rfl
    rw [e0]
    unfold strconv_ParseUint_2_b7 strconv_ParseUint_2_b8
    refine ⟨by simp only [maxLen]; omega, fun b99 c99 hc1 hc2 => ?_⟩
    refine ⟨fun m ba b0 s0 co mv un n x xn xc q i J T => ba = base ∧ b0 = false ∧ s0 = s ∧ co = cutoff ∧ mv = maxVal ∧ un = false ∧ x = some ⟨b99, 0, none⟩ ∧ xn = s.size ∧ q = (s.size : Int) ∧
      ∃ k : Nat, i = (k : Int) ∧ k ≤ s.size ∧ m = s.size - k ∧ PuX s base (fun w => ∃ nn : Nat, n = (nn : Int) ∧ pu (s.data.toList.drop k) nn = some w) ∧ (base = 16 → 0 ≤ n ∧ n ≤ 65535) ∧ Sub ((b99, .cells (byteCells s ++ repV (c99 - s.size) [.int .u8 0]).toArray 5 (c99, c99 + 1)) :: S) T,
      s.size, ⟨rfl, rfl, rfl, rfl, rfl, rfl, rfl, rfl, rfl, 0, rfl, Nat.zero_le _, rfl, fun hb w hw e => ⟨0, rfl, ?_⟩, fun _ => by omega, Sub.refl _⟩, ?_⟩
    · rw [e]; exact pu_hex hw
    rintro m ba b0 s0 co mv un n x xn xc q i J T - ⟨rfl, rfl, rfl, rfl, rfl, rfl, rfl, rfl, rfl, k, rfl, hk, rfl, hX, hbd, hS⟩
    have hS0 : Sub S T := hS.drop
    unfold strconv_ParseUint_2_l9
    refine bcase_dec (fun h => ?_) (fun h => ?_)
    · have hkl : k < s0.data.toList.length := by omega
      obtain ⟨c, hc⟩ : ∃ c, s0.data.toList[k]? = some c := ⟨_, List.getElem?_eq_getElem hkl⟩
      have hd : s0.data.toList.drop k = c :: s0.data.toList.drop (k + 1) := by
        rw [List.drop_eq_getElem_cons hkl]
        rw [List.getElem?_eq_getElem hkl] at hc
        rw [Option.some.inj hc]
      have hlt := c.toNat_lt
      have hY : PuX s0 ba (fun w => ∃ nn : Nat, n = (nn : Int) ∧ dig c < 16 ∧ nn * 16 + dig c ≤ 65535 ∧ pu (s0.data.toList.drop (k + 1)) (nn * 16 + dig c) = some w) := by
        intro h16 w hw e
        obtain ⟨nn, hn, hp⟩ := hX h16 w hw e
        rw [hd, pu] at hp
        split at hp
        · cases hp
        · exact ⟨nn, hn, by omega, by omega, hp⟩
      unfold strconv_ParseUint_2_b10 strconv_ParseUint_2_b11 strconv_ParseUint_2_b12
      refine ⟨by omega, by omega, (c.toNat : Int), ?_, ?_⟩
      · have := hS.cell' (I := J) (Cell.at0 (b := b99) (e := 5) (fz := (c99, c99 + 1)) (byteCells_at hc (repV (c99 - s0.size) [.int .u8 0])))
        have ea : (⟨b99, 0, none⟩ : Addr).add ((k : Int).toNat * 1) = ⟨b99, k, none⟩ := by rw [add_mk]; congr 1; omega
        rw [ea]; exact this
      have main : ∀ (d : Int) (J' : IMem) (T' : SH), d = (dig c : Int) → T' = T → strconv_ParseUint_2_b15 (fun base_1 base0_8 s0_9 cutoff_10 maxVal_11 underscores_12 n_13 x99 x99n x99c x100 x101 I S_1 =>
          ∃ m', m' < s0.size - k ∧ (base_1 = ba ∧ base0_8 = false ∧ s0_9 = s0 ∧ cutoff_10 = co ∧ maxVal_11 = mv ∧ underscores_12 = false ∧ x99 = some ⟨b99, 0, none⟩ ∧ x99n = s0.size ∧ x100 = (s0.size : Int) ∧
            ∃ k : Nat, x101 = (k : Int) ∧ k ≤ s0.size ∧ m' = s0.size - k ∧ PuX s0 ba (fun w => ∃ nn : Nat, n_13 = (nn : Int) ∧ pu (s0.data.toList.drop k) nn = some w) ∧ (ba = 16 → 0 ≤ n_13 ∧ n_13 ≤ 65535) ∧ Sub ((b99, .cells (byteCells s0 ++ repV (c99 - s0.size) [.int .u8 0]).toArray 5 (c99, c99 + 1)) :: S) S_1))
          (fun v _ T => PuR s0 ba S v T) ba false s0 co mv false n d (some ⟨b99, 0, none⟩) s0.size xc (s0.size : Int) (k : Int) J' T' := by
        rintro d J' T' rfl rfl
        unfold strconv_ParseUint_2_b15 strconv_ParseUint_2_b16 strconv_ParseUint_2_b17 strconv_ParseUint_2_b18 strconv_ParseUint_2_b13
        have hfin : ∀ n1 : Int, PuX s0 ba (fun w => ∃ nn : Nat, n1 = (nn : Int) ∧ pu (s0.data.toList.drop (k + 1)) nn = some w) → (ba = 16 → 0 ≤ n1 ∧ n1 ≤ 65535) → ∃ m', m' < s0.size - k ∧ (ba = ba ∧ false = false ∧ s0 = s0 ∧ co = co ∧ mv = mv ∧ false = false ∧ (some ⟨b99, 0, none⟩ : Option Addr) = some ⟨b99, 0, none⟩ ∧ s0.size = s0.size ∧ (s0.size : Int) = (s0.size : Int) ∧
            ∃ k' : Nat, IntKind.wrap .i64 ((k : Int) + 1) = (k' : Int) ∧ k' ≤ s0.size ∧ m' = s0.size - k' ∧ PuX s0 ba (fun w => ∃ nn : Nat, n1 = (nn : Int) ∧ pu (s0.data.toList.drop k') nn = some w) ∧ (ba = 16 → 0 ≤ n1 ∧ n1 ≤ 65535) ∧ Sub ((b99, .cells (byteCells s0 ++ repV (c99 - s0.size) [.int .u8 0]).toArray 5 (c99, c99 + 1)) :: S) T') :=
          fun n1 h1 h2 => ⟨s0.size - (k + 1), by omega, rfl, rfl, rfl, rfl, rfl, rfl, rfl, rfl, rfl, k + 1, by rw [wrap_i64 (by omega) (by omega)]; rfl, by omega, rfl, h1, h2, hS⟩
        have hz : ∀ (w nn : Nat), ba = 16 → n = (nn : Int) → dig c < 16 → nn * 16 + dig c ≤ 65535 → IntKind.wrap .u64 (n * IntKind.wrap .u64 ba) = ((nn * 16 : Nat) : Int) ∧ IntKind.wrap .u64 (IntKind.wrap .u64 (n * IntKind.wrap .u64 ba) + IntKind.wrap .u64 (dig c : Int)) = ((nn * 16 + dig c : Nat) : Int) := by
          rintro w nn rfl rfl h1 h2
          have a1 : IntKind.wrap .u64 ((nn : Int) * IntKind.wrap .u64 16) = ((nn * 16 : Nat) : Int) := by
            rw [wrap_u64 (x := (16 : Int)) (by decide) (by decide), wrap_u64 (by omega) (by omega)]; omega
          refine ⟨a1, ?_⟩
          rw [a1, wrap_u64 (x := (dig c : Int)) (by omega) (by omega), wrap_u64 (by omega) (by omega)]; omega
        refine bcase_dec (fun g => no _ _ _ (.inr rfl) ?_ hS0) (fun g => bcase_dec (fun g2 => no _ _ _ (.inl rfl) ?_ hS0) (fun g2 => bcase_dec (fun g3 => bcase_t rfl (no _ _ _ (.inl rfl) ?_ hS0)) (fun g3 => bcase_dec (fun g4 => no _ _ _ (.inl rfl) ?_ hS0) (fun g4 => hfin _ ?_ (fun h16 => ⟨?_, ?_⟩)))))
        · intro h16 w hw e
          obtain ⟨nn, hn, h1, h2, h3⟩ := hY h16 w hw e
          rw [h16, wrap_u8 (x := (16 : Int)) (by decide) (by decide)] at g
          omega
        · intro h16 w hw e
          obtain ⟨nn, hn, h1, h2, h3⟩ := hY h16 w hw e
          have := (hcm h16).1
          omega
        · intro h16 w hw e
          obtain ⟨nn, hn, h1, h2, h3⟩ := hY h16 w hw e
          obtain ⟨z1, z2⟩ := hz w nn h16 hn h1 h2
          rw [z2, z1] at g3
          omega
        · intro h16 w hw e
          obtain ⟨nn, hn, h1, h2, h3⟩ := hY h16 w hw e
          obtain ⟨z1, z2⟩ := hz w nn h16 hn h1 h2
          rw [z2, (hcm h16).2] at g4
          omega
        · intro h16 w hw e
          obtain ⟨nn, hn, h1, h2, h3⟩ := hY h16 w hw e
          exact ⟨_, (hz w nn h16 hn h1 h2).2, h3⟩
        · rw [wrap_u64_eq]; omega
        · rw [(hcm h16).2] at g4; omega
      have bad : dig c = 99 → PuX s0 ba (fun _ => False) := by
        intro hd h16 w hw e
        obtain ⟨nn, hn, h1, h2, h3⟩ := hY h16 w hw e
        omega
      have alpha : ¬ (48 ≤ c.toNat ∧ c.toNat ≤ 57) → strconv_ParseUint_2_b14 (fun base_1 base0_8 s0_9 cutoff_10 maxVal_11 underscores_12 n_13 x99 x99n x99c x100 x101 I S_1 =>
          ∃ m', m' < s0.size - k ∧ (base_1 = ba ∧ base0_8 = false ∧ s0_9 = s0 ∧ cutoff_10 = co ∧ maxVal_11 = mv ∧ underscores_12 = false ∧ x99 = some ⟨b99, 0, none⟩ ∧ x99n = s0.size ∧ x100 = (s0.size : Int) ∧
            ∃ k : Nat, x101 = (k : Int) ∧ k ≤ s0.size ∧ m' = s0.size - k ∧ PuX s0 ba (fun w => ∃ nn : Nat, n_13 = (nn : Int) ∧ pu (s0.data.toList.drop k) nn = some w) ∧ (ba = 16 → 0 ≤ n_13 ∧ n_13 ≤ 65535) ∧ Sub ((b99, .cells (byteCells s0 ++ repV (c99 - s0.size) [.int .u8 0]).toArray 5 (c99, c99 + 1)) :: S) S_1))
          (fun v _ T => PuR s0 ba S v T) ba false s0 co mv false n (c.toNat : Int) (some ⟨b99, 0, none⟩) s0.size xc (s0.size : Int) (k : Int) false J T := by
        intro hnd
        unfold strconv_ParseUint_2_b14 strconv_ParseUint_2_b19
        have hl := low_lt c
        refine bcase_f rfl ((lower_runs c J T).mono ?_)
        rintro v J1 T1 _ ⟨rfl, rfl⟩
        refine ⟨_, rfl, bcase_dec (fun g => ?_) (fun g => bcase_f rfl (no _ _ _ (.inr rfl) (bad ?_) hS0))⟩
        · refine (lower_runs c J1 T1).mono ?_
          rintro v J2 T2 _ ⟨rfl, rfl⟩
          refine ⟨_, rfl, bcase_dec (fun g2 => ?_) (fun g2 => no _ _ _ (.inr rfl) (bad ?_) hS0)⟩
          · refine (lower_runs c J2 T2).mono ?_
            rintro v J3 T3 _ ⟨rfl, rfl⟩
            refine ⟨_, rfl, main _ J3 T3 ?_ rfl⟩
            rw [wrap_u8 (x := ((c ||| 32).toNat : Int) - 97) (by omega) (by omega), wrap_u8 (by omega) (by omega), dig, if_neg hnd, if_pos ⟨by omega, by omega⟩]
            omega
          · rw [dig, if_neg hnd, if_neg (by omega)]
        · rw [dig, if_neg hnd, if_neg (by omega)]
      refine bcase_of (fun _ => ?_) (fun _ => ?_)
      all_goals
        refine bcase_f rfl (bcase_dec (fun g => ?_) (fun g => alpha (by omega)))
        by_cases g2 : (c.toNat : Int) ≤ 57
        · rw [decide_eq_true g2]
          unfold strconv_ParseUint_2_b14
          refine bcase_t rfl (main _ J T ?_ rfl)
          rw [wrap_u8 (by omega) (by omega), dig, if_pos ⟨by omega, by omega⟩]
          omega
        · rw [decide_eq_false g2]
          exact alpha (by omega)
    · unfold strconv_ParseUint_2_b20 strconv_ParseUint_2_b21 strconv_ParseUint_2_b22
      refine bcase_f rfl (bcase_f rfl ⟨_, _, rfl, .inl rfl, fun h16 w hw e => ⟨?_, rfl⟩, fun _ => hbd, hS0⟩)
      obtain ⟨nn, hn, hp⟩ := hX h16 w hw e
      have : k = s0.size := by omega
      rw [this, List.drop_of_length_le (by omega), pu] at hp
      injection hp with hp
      omega
  refine bcase_t (decide_eq_true hb2.1) (bcase_t (decide_eq_true hb2.2) ?_)
  rcases hb with ⟨rfl, rfl⟩ | ⟨rfl, rfl⟩
  · exact bcase_t rfl (bcase_t rfl (bcase_f (by decide) (key _ _ (fun h => by omega))))
  · refine bcase_f rfl (bcase_f rfl (bcase_f rfl (bcase_f rfl (bcase_t rfl (bcase_f (by decide) (key _ _ (fun _ => ⟨rfl, ?_⟩)))))))
    decide +kernel
end Go.Proofs.YtmlojdbahlfiaaaDoor
/- The library's errors made; numbers read by their public doors. -/
namespace Go.Proofs.YtmlojdbahlfiaaaDoor
open Go.Px
set_option linter.unusedVariables false
set_option linter.unusedSimpArgs false
set_option maxRecDepth 8000

theorem repV_u8len (n : Nat) : (repV n [Value.int .u8 0]).length = n := by rw [repV_length]; simp
theorem lies_all {c n : Nat} (h : n ≤ c) : liesAt Tryd.prog (Program.depth Tryd.prog) 5 (c / Program.cellsOf Tryd.prog 5) 0 5 n = true := by
  have h1 : Program.cellsOf Tryd.prog 5 = 1 := by kernel_rfl
  rw [h1, Nat.div_one]
  have hd : ∃ d, Program.depth Tryd.prog = d + 1 + 1 := ⟨Program.depth Tryd.prog - 2, by kernel_rfl⟩
  obtain ⟨d, hd⟩ := hd
  rw [hd]
  have hsl : sameLayout Tryd.prog (Program.depth Tryd.prog) 5 5 = true := by kernel_rfl
  unfold liesAt
  have key : ∀ D, D = d + 1 + 1 → rowAt Tryd.prog (fun x => sameLayout Tryd.prog (Program.depth Tryd.prog) x 5) D 5 c 0 n = true := fun D hD => by
    subst hD
    unfold rowAt
    simp [h1, hsl, h]
  show (rowAt Tryd.prog (fun x => sameLayout Tryd.prog (Program.depth Tryd.prog) x 5) (Program.depth Tryd.prog) 5 c 0 n || _) = true
  rw [key _ hd]
  rfl
theorem ex_all (s : ByteArray) : s.extract 0 s.size = s := ByteArray.extract_zero_size
theorem bc_bytL (s : ByteArray) : byteCells s = bytL s.data.toList := rfl
theorem sClone_runs (s : ByteArray) (hs : s.size ≤ 281474976710656) (I : IMem) (S : SH) : Runs Tryd.prog 114 #[.string s] I S fun v _ T => v = .string s ∧ T = S := by
  refine Runs.drop (stringslite_Clone_fn _ _ _ _ ?_)
  unfold stringslite_Clone
  refine bcase_beq (fun h => ?_) (fun h => ?_)
  · refine ⟨S, Sub.refl _, ?_, rfl⟩
    congr 1
    refine bext ?_
    have h0 : s.data.toList.length = 0 := by rw [Array.length_toList]; have : s.data.size = s.size := rfl; omega
    rw [List.eq_nil_of_length_eq_zero h0]
  · refine ⟨by omega, by omega, by omega, by omega, fun b9 => ?_⟩
    simp only [Int.toNat_natCast]
    refine .inr ⟨⟨b9, 0, none⟩, rfl, ?_⟩
    have hmin : min s.size s.size = s.size := Nat.min_self _
    rw [hmin, ex_all]
    refine StP.list (o := 0) (by rw [byteCells_length, repV_u8len, Nat.zero_add]; exact Nat.le_refl _) (by rw [bc_bytL, ← flat_elB]; exact flatMap_one elB_one _) ?_
    rw [List.take_zero, List.nil_append, Nat.zero_add, List.drop_of_length_le (by rw [byteCells_length, repV_u8len]; exact Nat.le_refl _)]
    refine ⟨by omega, by omega, .inr ⟨⟨b9, 0, none⟩, 0, _, _, (0, 0), s, rfl, by omega, by omega, rfl, ?_, ?_, ?_⟩⟩
    · have hz : (byteCells s ++ []).toArray.size = s.size := by simp [byteCells_length]
      rw [hz]
      exact lies_all (Nat.le_refl _)
    · have := BytesAt.list (I := I) (S := S) (g := b9) (n := s.size) (l := s.data.toList) (rest := []) (e := 5) (fz := (0, 0)) (by rw [Array.length_toList]; rfl)
      have e : (⟨s.data.toList.toArray⟩ : ByteArray) = s := by apply ByteArray.ext; simp
      rw [e] at this
      exact this
    · exact ⟨S, ⟨[_], List.perm_append_comm (l₁ := [_])⟩, rfl, rfl⟩
theorem er_runs {I : IMem} (g : GL I) (fn s : ByteArray) (hs : s.size ≤ 281474976710656) (S : SH) :
    Runs Tryd.prog 103 #[.string fn, .string s] I S (fun v _ T => ∃ p, v = .pointer p ∧ Sub S T) ∧ Runs Tryd.prog 104 #[.string fn, .string s] I S (fun v _ T => ∃ p, v = .pointer p ∧ Sub S T) := by
  refine ⟨strconv_syntaxError_fn _ _ _ _ _ ?_, strconv_rangeError_fn _ _ _ _ _ ?_⟩
  · unfold strconv_syntaxError strconv_syntaxError_b1 strconv_syntaxError_b2
    obtain ⟨cs, e, fz, t, v, h1, h2⟩ := g.er1
    refine ⟨t, v, Cell.im (b := 1) (o := 0) h1 h2, (sClone_runs s hs I S).mono ?_⟩
    rintro v J T hle ⟨rfl, rfl⟩
    exact ⟨s, rfl, ⟨hle, [], by simp⟩, fun b10 => ⟨_, rfl, (Sub.refl _).skip _⟩⟩
  · unfold strconv_rangeError strconv_rangeError_b1 strconv_rangeError_b2
    obtain ⟨cs, e, fz, t, v, h1, h2⟩ := g.er2
    refine ⟨t, v, Cell.im (b := 2) (o := 0) h1 h2, (sClone_runs s hs I S).mono ?_⟩
    rintro v J T hle ⟨rfl, rfl⟩
    exact ⟨s, rfl, ⟨hle, [], by simp⟩, fun b10 => ⟨_, rfl, (Sub.refl _).skip _⟩⟩
theorem eqI_er (a b : Int) : eqI Tryd.prog (erV a) 185 (.int .i64 b) = some (a == b) := by kernel_rfl
theorem toErr_runs {I : IMem} (g : GL I) (fn s : ByteArray) (hs : s.size ≤ 281474976710656) (b bs : Int) {e : Value} (he : e = erV 1 ∨ e = erV 2) (S : SH) :
    Runs Tryd.prog 89 #[.string fn, .string s, .int .i64 b, .int .i64 bs, e] I S fun v _ T => (∃ t u, v = .iface t u) ∧ Sub S T := by
  refine strconv_toError_fn _ _ _ _ _ _ _ _ ?_
  unfold strconv_toError
  rcases he with rfl | rfl
  · refine ⟨_, eqI_er 1 2, bcase_f rfl ⟨_, eqI_er 1 1, bcase_t rfl ((er_runs g fn s hs S).2.mono ?_)⟩⟩
    rintro v J T _ ⟨p, rfl, hS⟩
    exact ⟨_, rfl, ⟨_, _, rfl⟩, hS⟩
  · refine ⟨_, eqI_er 2 2, bcase_t rfl ((er_runs g fn s hs S).1.mono ?_)⟩
    rintro v J T _ ⟨p, rfl, hS⟩
    exact ⟨_, rfl, ⟨_, _, rfl⟩, hS⟩
theorem PU_runs {I : IMem} (g : GL I) (s : ByteArray) (hs : s.size ≤ 281474976710656) (S : SH) :
    Runs Tryd.prog 95 #[.string s, .int .i64 16, .int .i64 16] I S fun v _ T => ∃ (n : Int) (e : Value), v = .tuple #[.int .u64 n, e] ∧ (e = .nilIface ∨ ∃ t u, e = .iface t u) ∧ (∀ w : Nat, w < 65536 → s = hexB w → n = (w : Int) ∧ e = .nilIface) ∧ (e = .nilIface → 0 ≤ n ∧ n ≤ 65535) ∧ Sub S T := by
  refine strconv_ParseUint_fn _ _ _ _ _ _ ?_
  unfold strconv_ParseUint
  refine (PUin_runs (.inr ⟨rfl, rfl⟩) s hs I S).mono ?_
  rintro v J T hle ⟨n, e, rfl, he, hx, hbd, hS⟩
  refine ⟨n, e, rfl, ?_⟩
  rcases he with rfl | he
  · exact ⟨true, rfl, bcase_f rfl ⟨n, .nilIface, rfl, .inl rfl, fun w hw h => ⟨(hx rfl w hw h).1, rfl⟩, fun _ => hbd rfl rfl, hS⟩⟩
  · refine ⟨false, by rcases he with rfl | rfl <;> rfl, bcase_t rfl ((toErr_runs (g.le hle) _ s hs 16 16 he T).mono ?_)⟩
    rintro v J1 T1 _ ⟨⟨t, u, rfl⟩, hS1⟩
    refine ⟨_, rfl, n, _, rfl, .inr ⟨t, u, rfl⟩, fun w hw h => ?_, fun h => (by cases h), hS.trans hS1⟩
    have := (hx rfl w hw h).2
    rcases he with rfl | rfl <;> cases this
theorem PI_runs (s : ByteArray) (hs : s.size ≤ 281474976710656) (I : IMem) (S : SH) :
    Runs Tryd.prog 102 #[.string s, .int .i64 10, .int .i64 0] I S fun v _ T => ∃ (n : Int) (e : Value), v = .tuple #[.int .i64 n, e] ∧ (e = .nilIface ∨ e = erV 1 ∨ e = erV 2) ∧ Sub S T := by
  refine strconv_ParseInt_fn _ _ _ _ _ _ ?_
  unfold strconv_ParseInt
  refine bcase_of (fun _ => ⟨_, _, rfl, .inr (.inr rfl), Sub.refl _⟩) (fun h0 => ?_)
  have hp : 0 < s.size := by
    rcases Nat.eq_zero_or_pos s.size with h | h
    · have hl : s.data.toList = [] := List.eq_nil_of_length_eq_zero (by rw [Array.length_toList]; exact h)
      have : s = ⟨#[]⟩ := bext (by rw [hl])
      rw [this] at h0
      rw [tl_eq] at h0; cases h0
    · exact h
  have body : ∀ (s' : ByteArray) (neg : Bool), s'.size ≤ 281474976710656 → strconv_ParseInt_b1 (fun v _ T => ∃ (n : Int) (e : Value), v = .tuple #[.int .i64 n, e] ∧ (e = .nilIface ∨ e = erV 1 ∨ e = erV 2) ∧ Sub S T) s' 10 0 neg I S := by
    intro s' neg hs'
    unfold strconv_ParseInt_b1 strconv_ParseInt_b2 strconv_ParseInt_b3 strconv_ParseInt_b4 strconv_ParseInt_b5
    refine (PUin_runs (.inl ⟨rfl, rfl⟩) s' hs' I S).mono ?_
    rintro v J T hle ⟨un, e, rfl, he, -, -, hS⟩
    refine ⟨un, e, rfl, ?_⟩
    have fin : strconv_ParseInt_b6 (fun v _ T => ∃ (n : Int) (e : Value), v = .tuple #[.int .i64 n, e] ∧ (e = .nilIface ∨ e = erV 1 ∨ e = erV 2) ∧ Sub S T) neg un (IntKind.wrap .u64 ((1 : Int) * 2 ^ (min (IntKind.wrap .u64 (IntKind.wrap .i64 (64 - (1 : Int)))).toNat (IntKind.bits .u64)))) J T := by
      unfold strconv_ParseInt_b6 strconv_ParseInt_b7 strconv_ParseInt_b8 strconv_ParseInt_b9 strconv_ParseInt_b10 strconv_ParseInt_b11
      generalize IntKind.wrap .u64 ((1 : Int) * 2 ^ (min (IntKind.wrap .u64 (IntKind.wrap .i64 (64 - (1 : Int)))).toNat (IntKind.bits .u64))) = co
      cases neg
      · refine bcase_t rfl (bcase_of (fun _ => ⟨_, _, rfl, .inr (.inl rfl), hS⟩) (fun _ => bcase_f rfl (bcase_f rfl (bcase_f rfl ⟨_, _, rfl, .inl rfl, hS⟩))))
      · refine bcase_f rfl (bcase_f rfl (bcase_t rfl (bcase_of (fun _ => ⟨_, _, rfl, .inr (.inl rfl), hS⟩) (fun _ => bcase_t rfl ⟨_, _, rfl, .inl rfl, hS⟩))))
    rcases he with rfl | rfl | rfl
    · exact ⟨true, rfl, bcase_f rfl (bcase_f rfl (bcase_t rfl (bcase_f (by decide) fin)))⟩
    · exact ⟨false, rfl, bcase_t rfl ⟨_, eqI_er 1 1, bcase_f rfl (bcase_t rfl (bcase_f (by decide) fin))⟩⟩
    · exact ⟨false, rfl, bcase_t rfl ⟨_, eqI_er 2 1, bcase_t rfl ⟨_, _, rfl, .inr (.inr rfl), hS⟩⟩⟩
  have hex : (s.extract ((1 : Int).toNat) s.size).size ≤ 281474976710656 := by rw [ByteArray.size_extract]; omega
  refine ⟨_, by omega, getElem?_pos s 0 hp, bcase_of (fun _ => ⟨by omega, by omega, body _ _ hex⟩) (fun _ => bcase_of (fun _ => ⟨by omega, by omega, body _ _ hex⟩) (fun _ => body _ _ hs))⟩
theorem dec_first : ∀ m : Fin 256, ∃ c rest, numL 3 10 m.val = c :: rest ∧ 48 ≤ c.toNat ∧ c.toNat ≤ 57 := by
  intro m
  have h : (match numL 3 10 m.val with | [] => false | c :: _ => decide (48 ≤ c.toNat ∧ c.toNat ≤ 57)) = true := by revert m; decide +kernel
  split at h
  · cases h
  · rename_i c rest hc; exact ⟨c, rest, hc, of_decide_eq_true h⟩
def AtX (s : ByteArray) (P : Nat → Prop) : Prop := ∀ m : Nat, m ≤ 255 → s = decB m → P m
theorem AtX.first {s : ByteArray} {c : UInt8} (h : s[0]? = some c) (hc : ¬ (48 ≤ c.toNat ∧ c.toNat ≤ 57)) (P : Nat → Prop) : AtX s P := by
  intro m hm e
  obtain ⟨d, rest, h1, h2⟩ := dec_first ⟨m, by omega⟩
  rw [e, ba_get] at h
  have : (decB m).data.toList = d :: rest := h1
  rw [this] at h
  have := Option.some.inj h
  subst this
  exact absurd h2 hc
theorem AtIn_runs (s : ByteArray) (hs : s.size ≤ 281474976710656) (I : IMem) (S : SH) :
    Runs Tryd.prog 88 #[.string s] I S fun v _ T => ∃ (n : Int) (e : Value), v = .tuple #[.int .i64 n, e] ∧ (e = .nilIface ∨ e = erV 1 ∨ e = erV 2) ∧ AtX s (fun m => n = (m : Int) ∧ e = .nilIface) ∧ Sub S T := by
  refine strconv_Atoi_2_fn _ _ _ _ ?_
  unfold strconv_Atoi_2 strconv_Atoi_2_b1 strconv_Atoi_2_b2
  have slow : AtX s (fun _ => False) → strconv_Atoi_2_b11 (fun v _ T => ∃ (n : Int) (e : Value), v = .tuple #[.int .i64 n, e] ∧ (e = .nilIface ∨ e = erV 1 ∨ e = erV 2) ∧ AtX s (fun m => n = (m : Int) ∧ e = .nilIface) ∧ Sub S T) s I S := by
    intro hx
    unfold strconv_Atoi_2_b11
    refine (PI_runs s hs I S).mono ?_
    rintro v J T _ ⟨n, e, rfl, he, hS⟩
    exact ⟨n, e, rfl, n, e, rfl, he, fun m hm h => (hx m hm h).elim, hS⟩
  have size_no : ¬ (0 < s.size ∧ s.size < 19) → AtX s (fun _ => False) := by
    intro h m hm e
    have := decB_len hm
    rw [e] at h; omega
  refine bcase_dec (fun h1 => ?_) (fun h1 => bcase_f rfl (slow (size_no (by omega))))
  refine bcase_dec (fun h2 => ?_) (fun h2 => slow (size_no (by omega)))
  unfold strconv_Atoi_2_b3
  obtain ⟨c, hc⟩ : ∃ c, s[0]? = some c := ⟨_, getElem?_pos s 0 (by omega)⟩
  have fast : ∀ s' : ByteArray, s'.size ≤ 281474976710656 → AtX s (fun _ => s' = s) → strconv_Atoi_2_b5 (fun v _ T => ∃ (n : Int) (e : Value), v = .tuple #[.int .i64 n, e] ∧ (e = .nilIface ∨ e = erV 1 ∨ e = erV 2) ∧ AtX s (fun m => n = (m : Int) ∧ e = .nilIface) ∧ Sub S T) s' s I S := by
    intro s' hs' hx
    unfold strconv_Atoi_2_b5 strconv_Atoi_2_b6 strconv_Atoi_2_b7
    have hlen : s'.data.toList.length = s'.size := Array.length_toList
    refine ⟨by simp only [maxLen]; omega, fun b47 c47 hc1 hc2 => ?_⟩
    refine ⟨fun m s0 n x xn xc q i J T => s0 = s ∧ x = some ⟨b47, 0, none⟩ ∧ xn = s'.size ∧ q = (s'.size : Int) ∧
      ∃ k : Nat, i = (k : Int) ∧ k ≤ s'.size ∧ m = s'.size - k ∧ AtX s (fun w => ∃ nn : Nat, n = (nn : Int) ∧ aF (s'.data.toList.drop k) nn = some w) ∧ Sub ((b47, .cells (byteCells s' ++ repV (c47 - s'.size) [.int .u8 0]).toArray 5 (c47, c47 + 1)) :: S) T,
      s'.size, ⟨rfl, rfl, rfl, rfl, 0, rfl, Nat.zero_le _, rfl, fun m hm e => ⟨0, rfl, ?_⟩, Sub.refl _⟩, ?_⟩
    · rw [hx m hm e, e]; exact aF_dec ⟨m, by omega⟩
    rintro m s0 n x xn xc q i J T - ⟨rfl, rfl, rfl, rfl, k, rfl, hk, rfl, hX, hS⟩
    have hS0 : Sub S T := hS.drop
    unfold strconv_Atoi_2_l8
    refine bcase_dec (fun h => ?_) (fun h => ?_)
    · have hkl : k < s'.data.toList.length := by omega
      obtain ⟨c, hc⟩ : ∃ c, s'.data.toList[k]? = some c := ⟨_, List.getElem?_eq_getElem hkl⟩
      have hd : s'.data.toList.drop k = c :: s'.data.toList.drop (k + 1) := by
        rw [List.drop_eq_getElem_cons hkl]
        rw [List.getElem?_eq_getElem hkl] at hc
        rw [Option.some.inj hc]
      have hlt := c.toNat_lt
      have hY : AtX s0 (fun w => ∃ nn : Nat, n = (nn : Int) ∧ 48 ≤ c.toNat ∧ c.toNat ≤ 57 ∧ nn * 10 + (c.toNat - 48) ≤ 255 ∧ aF (s'.data.toList.drop (k + 1)) (nn * 10 + (c.toNat - 48)) = some w) := by
        intro w hw e
        obtain ⟨nn, hn, hp⟩ := hX w hw e
        rw [hd, aF] at hp
        split at hp
        · have := aF_ge hp
          exact ⟨nn, hn, by omega, by omega, by omega, hp⟩
        · cases hp
      refine ⟨by omega, by omega, (c.toNat : Int), ?_, bcase_dec (fun g => ⟨_, _, rfl, .inr (.inr rfl), fun w hw e => ?_, hS0⟩) (fun g => ?_)⟩
      · have := hS.cell' (I := J) (Cell.at0 (b := b47) (e := 5) (fz := (c47, c47 + 1)) (byteCells_at hc (repV (c47 - s'.size) [.int .u8 0])))
        have ea : (⟨b47, 0, none⟩ : Addr).add ((k : Int).toNat * 1) = ⟨b47, k, none⟩ := by rw [add_mk]; congr 1; omega
        rw [ea]; exact this
      · obtain ⟨nn, hn, h3, h4, h5, h6⟩ := hY w hw e
        rw [wrap_u8 (by omega) (by omega)] at g; omega
      · refine ⟨s'.size - (k + 1), by omega, rfl, rfl, rfl, rfl, k + 1, by rw [wrap_i64 (by omega) (by omega)]; rfl, by omega, rfl, fun w hw e => ?_, hS⟩
        obtain ⟨nn, hn, h3, h4, h5, h6⟩ := hY w hw e
        refine ⟨_, ?_, h6⟩
        rw [hn, wrap_u8 (x := (c.toNat : Int) - 48) (by omega) (by omega), wrap_i64 (x := (nn : Int) * 10) (by omega) (by omega), wrap_i64 (x := (c.toNat : Int) - 48) (by omega) (by omega), wrap_i64 (by omega) (by omega)]
        omega
    · unfold strconv_Atoi_2_b9 strconv_Atoi_2_b10
      refine ⟨c, by omega, hc, bcase_beq (fun g => ⟨_, _, rfl, .inl rfl, AtX.first hc (by omega) _, hS0⟩) (fun g => ⟨_, _, rfl, .inl rfl, fun w hw e => ⟨?_, rfl⟩, hS0⟩)⟩
      obtain ⟨nn, hn, hp⟩ := hX w hw e
      have : k = s'.size := by omega
      rw [this, List.drop_of_length_le (by omega), aF] at hp
      injection hp with hp
      omega
  have signed : ¬ (48 ≤ c.toNat ∧ c.toNat ≤ 57) → strconv_Atoi_2_b4 (fun v _ T => ∃ (n : Int) (e : Value), v = .tuple #[.int .i64 n, e] ∧ (e = .nilIface ∨ e = erV 1 ∨ e = erV 2) ∧ AtX s (fun m => n = (m : Int) ∧ e = .nilIface) ∧ Sub S T) s s true I S := by
    intro hno
    unfold strconv_Atoi_2_b4
    refine bcase_t rfl ⟨by omega, by omega, bcase_of (fun _ => ⟨_, _, rfl, .inr (.inr rfl), AtX.first hc hno _, Sub.refl _⟩) (fun _ => fast _ ?_ (AtX.first hc hno _))⟩
    rw [ByteArray.size_extract]; omega
  refine ⟨c, by omega, hc, bcase_beq (fun g => signed (by omega)) (fun g => ⟨c, by omega, hc, ?_⟩)⟩
  by_cases g2 : (c.toNat : Int) = 43
  · rw [show ((c.toNat : Int) == 43) = true by rw [g2]; rfl]
    exact signed (by omega)
  · rw [show ((c.toNat : Int) == 43) = false by simpa using g2]
    unfold strconv_Atoi_2_b4
    exact bcase_f rfl (fast s hs (fun _ _ _ => rfl))
theorem Atoi_runs {I : IMem} (g : GL I) (s : ByteArray) (hs : s.size ≤ 281474976710656) (S : SH) :
    Runs Tryd.prog 77 #[.string s] I S fun v _ T => ∃ (n : Int) (e : Value), v = .tuple #[.int .i64 n, e] ∧ (e = .nilIface ∨ ∃ t u, e = .iface t u) ∧ AtX s (fun m => n = (m : Int) ∧ e = .nilIface) ∧ Sub S T := by
  refine strconv_Atoi_fn _ _ _ _ ?_
  unfold strconv_Atoi
  refine (AtIn_runs s hs I S).mono ?_
  rintro v J T hle ⟨n, e, rfl, he, hx, hS⟩
  refine ⟨n, e, rfl, ?_⟩
  rcases he with rfl | he
  · exact ⟨true, rfl, bcase_f rfl ⟨n, .nilIface, rfl, .inl rfl, hx, hS⟩⟩
  · refine ⟨false, by rcases he with rfl | rfl <;> rfl, bcase_t rfl ((toErr_runs (g.le hle) _ s hs 0 0 he T).mono ?_)⟩
    rintro v J1 T1 _ ⟨⟨t, u, rfl⟩, hS1⟩
    refine ⟨_, rfl, n, _, rfl, .inr ⟨t, u, rfl⟩, fun m hm h => ?_, hS.trans hS1⟩
    have := (hx m hm h).2
    rcases he with rfl | rfl <;> cases this
end Go.Proofs.YtmlojdbahlfiaaaDoor
/- Imports alone. -/
/- First bits of addresses: the cut and the test of it; numbers that labels are. -/
namespace Go.Proofs.YtmlojdbahlfiaaaDoor
open Go.Px
set_option linter.unusedVariables false
set_option linter.unusedSimpArgs false
set_option maxRecDepth 8000

def bcl (b : UInt8) (t : Nat) : UInt8 := b &&& ~~~(UInt8.ofNat (2 ^ t))
def clr (l : List UInt8) (k : Nat) : List UInt8 := l.modify (k / 8) fun b => bcl b (7 - k % 8)
def cutF : Nat → Nat → List UInt8 → List UInt8
  | 0, _, l => l
  | f + 1, k, l => cutF f (k + 1) (clr l k)
def cutL (l : List UInt8) (n : Nat) : List UInt8 := cutF (8 * l.length - n) n l
def cutB (a : ByteArray) (n : Nat) : ByteArray := ⟨(cutL a.data.toList n).toArray⟩
theorem clr_len (l : List UInt8) (k : Nat) : (clr l k).length = l.length := by simp [clr]
def okC (a : ByteArray) (n : Int) : Prop := (a.size = 4 ∨ a.size = 16) ∧ 0 ≤ n ∧ n ≤ 8 * (a.size : Int)
instance (a : ByteArray) (n : Int) : Decidable (okC a n) := by unfold okC; infer_instance
def cutV (a : ByteArray) (n : Int) : Value := if okC a n then .tuple #[.agg #[.string (cutB a n.toNat), .int .i64 n], .bool true] else .tuple #[.agg #[.string ⟨#[]⟩, .int .i64 0], .bool false]
theorem bicU : ∀ (t : Fin 8) (b : Fin 256), ibic .u8 (b.val : Int) (IntKind.wrap .u8 (1 * 2 ^ (min t.val 8))) = ((bcl (UInt8.ofNat b.val) t.val).toNat : Int) := by decide +kernel
theorem bicU' (c : UInt8) {t : Nat} (h : t < 8) : ibic .u8 (c.toNat : Int) (IntKind.wrap .u8 (1 * 2 ^ (min t 8))) = ((bcl c t).toNat : Int) := by
  have := bicU ⟨t, h⟩ ⟨c.toNat, c.toNat_lt⟩
  simpa using this
theorem Addr_runs (a : ByteArray) (I : IMem) (S : SH) : Runs Tryd.prog 17 #[.string a] I S fun v _ T => v = .bool (decide (a.size = 4 ∨ a.size = 16)) ∧ T = S := by
  refine prefix_Address_fn _ _ _ _ ?_
  unfold prefix_Address prefix_Address_b1
  refine bcase_beq (fun h => ⟨?_, rfl⟩) (fun h => ⟨?_, rfl⟩)
  · rw [decide_eq_true (.inl (by omega))]
  · congr 1
    by_cases g : a.size = 16
    · rw [g]; decide
    · rw [decide_eq_false (by omega)]
      simp; omega
theorem bytL_modify {l : List UInt8} {o : Nat} {c : UInt8} (h : l[o]? = some c) (f : UInt8 → UInt8) (rest : List Value) :
    (bytL l ++ rest).take o ++ [.int .u8 ((f c).toNat : Int)] ++ (bytL l ++ rest).drop (o + 1) = bytL (l.modify o f) ++ rest := by
  have ho : o < l.length := by
    rcases Nat.lt_or_ge o l.length with g | g
    · exact g
    · rw [List.getElem?_eq_none g] at h; cases h
  have h1 : (bytL l ++ rest).take o = bytL (l.take o) := by
    rw [List.take_append_of_le_length (by rw [bytL_len]; omega)]; simp [bytL]
  have h2 : (bytL l ++ rest).drop (o + 1) = bytL (l.drop (o + 1)) ++ rest := by
    rw [List.drop_append_of_le_length (by rw [bytL_len]; omega)]; simp [bytL]
  have h3 : l.modify o f = l.take o ++ f c :: l.drop (o + 1) := by
    rw [List.modify_eq_take_cons_drop ho]
    rw [List.getElem?_eq_getElem ho] at h
    rw [Option.some.inj h]
  rw [h1, h2, h3]
  simp [bytL]
theorem Cut_runs (a : ByteArray) (n : Int) (I : IMem) (S : SH) : Runs Tryd.prog 11 #[.string a, .int .i64 n] I S fun v _ T => v = cutV a n ∧ T = S := by
  refine Runs.drop (prefix_Cut_fn _ _ _ _ _ ?_)
  unfold prefix_Cut prefix_Cut_b1
  intro b4
  refine (Addr_runs a I _).mono ?_
  rintro v J T hle ⟨rfl, rfl⟩
  have bad : ¬ okC a n → prefix_Cut_b2 (fun v J T => ∃ L, Sub L T ∧ v = cutV a n ∧ L = S) a n ⟨b4, 0, none⟩ true J ((b4, .cells #[.string ⟨#[]⟩, .int .i64 0] 25 (0, 0)) :: S) := by
    intro hno
    unfold prefix_Cut_b2
    refine bcase_t rfl (StP.at0 (by decide) rfl ⟨_, Cell.at0 rfl, 0, ?_, S, (Sub.refl _).skip _, ?_, rfl⟩)
    · rw [add_mk]; exact Cell.at0 rfl
    · rw [cutV, if_neg hno]
  refine ⟨_, rfl, bcase_not (bcase_dec (fun h1 => ?_) (fun h1 => bad (fun h => h1 h.1)))⟩
  have hw : IntKind.wrap .i64 (8 * (a.size : Int)) = 8 * (a.size : Int) := wrap_i64 (by omega) (by omega)
  rw [hw]
  refine bcase_dec (fun h2 => bad (fun h => by have := h.2.1; omega)) (fun h2 => ?_)
  by_cases h3 : n > 8 * (a.size : Int)
  · rw [decide_eq_true h3]
    exact bad (fun h => by have := h.2.2; omega)
  rw [decide_eq_false h3]
  have hok : okC a n := ⟨h1, by omega, by omega⟩
  obtain ⟨n, rfl⟩ : ∃ k : Nat, n = (k : Int) := ⟨n.toNat, by omega⟩
  unfold prefix_Cut_b2 prefix_Cut_b3 prefix_Cut_b4 prefix_Cut_b5
  have hlen : a.data.toList.length = a.size := Array.length_toList
  refine bcase_f rfl ⟨by simp only [maxLen]; omega, fun b24 c24 hc1 hc2 => ?_⟩
  refine ⟨fun m a0 bi x4 b bn bc i J T => a0 = a ∧ bi = (n : Int) ∧ x4 = ⟨b4, 0, none⟩ ∧ b = some ⟨b24, 0, none⟩ ∧ bn = a.size ∧
    ∃ (k : Nat) (l : List UInt8), i = (k : Int) ∧ k ≤ 8 * a.size ∧ m = 8 * a.size - k ∧ l.length = a.size ∧ cutF (8 * a.size - k) k l = cutL a.data.toList n ∧
      T = (b24, .cells (bytL l ++ repV (c24 - a.size) [.int .u8 0]).toArray 5 (c24, c24 + 1)) :: (b4, .cells #[.string ⟨#[]⟩, .int .i64 0] 25 (0, 0)) :: S,
    8 * a.size - n, ⟨rfl, rfl, rfl, rfl, rfl, n, a.data.toList, rfl, by omega, rfl, hlen, by rw [cutL, hlen], rfl⟩, ?_⟩
  rintro m a0 bi x4 b bn bc i J1 T1 - ⟨rfl, rfl, rfl, rfl, rfl, k, l, rfl, hk, rfl, hl, hcut, rfl⟩
  unfold prefix_Cut_l6
  rw [hw]
  refine bcase_dec (fun h => ?_) (fun h => ?_)
  · unfold prefix_Cut_b7 prefix_Cut_b8
    have e1 : (k : Int).tdiv 8 = ((k / 8 : Nat) : Int) := by rw [Int.tdiv_eq_ediv_of_nonneg (by omega)]; omega
    have e2 : (k : Int).tmod 8 = ((k % 8 : Nat) : Int) := by rw [Int.tmod_eq_emod_of_nonneg (by omega)]; omega
    rw [e1, e2, wrap_i64 (x := ((k / 8 : Nat) : Int)) (by omega) (by omega), wrap_i64 (x := 7 - ((k % 8 : Nat) : Int)) (by omega) (by omega)]
    have hkl : k / 8 < l.length := by omega
    obtain ⟨c, hc⟩ : ∃ c, l[k / 8]? = some c := ⟨_, List.getElem?_eq_getElem hkl⟩
    have ea : (⟨b24, 0, none⟩ : Addr).add (((k / 8 : Nat) : Int).toNat * 1) = ⟨b24, k / 8, none⟩ := by rw [add_mk]; congr 1; omega
    refine ⟨by omega, by omega, (c.toNat : Int), ?_, bcase_f (decide_eq_false (by omega)) ⟨by omega, by omega, ?_⟩⟩
    · rw [ea]
      refine Cell.at0 ?_
      rw [List.getElem?_toArray, List.getElem?_append_left (by rw [bytL_len]; exact hkl), bytL, List.getElem?_map, hc]; rfl
    · rw [ea, show (7 - ((k % 8 : Nat) : Int)).toNat = 7 - k % 8 by omega]
      have hb : ibic .u8 (c.toNat : Int) (IntKind.wrap .u8 (1 * 2 ^ (min (7 - k % 8) (IntKind.bits .u8)))) = ((bcl c (7 - k % 8)).toNat : Int) := bicU' c (by omega)
      rw [hb]
      refine StP.listF (o := k / 8) ?_ ?_ rfl ?_
      · rw [List.length_append, bytL_len]
        simp only [List.length_singleton]; omega
      · simp only [List.length_singleton]; omega
      · rw [List.length_singleton, bytL_modify hc (fun b => bcl b (7 - k % 8))]
        refine ⟨8 * a0.size - (k + 1), by omega, rfl, rfl, rfl, rfl, rfl, k + 1, clr l k, by rw [wrap_i64 (by omega) (by omega)]; rfl, by omega, rfl, by rw [clr_len, hl], ?_, rfl⟩
        rw [← hcut, show 8 * a0.size - k = (8 * a0.size - (k + 1)) + 1 by omega, cutF]
  · unfold prefix_Cut_b9
    have hk8 : 8 * a0.size - k = 0 := by omega
    rw [hk8, cutF] at hcut
    refine ⟨cutB a0 n, ?_, StP.tl (StP.at0 (Nat.le_refl 2) rfl ⟨_, (Cell.at0 rfl).tl, (n : Int), ?_, S, ((Sub.refl _).skip _).skip _, ?_, rfl⟩)⟩
    · have := BytesAt.list (I := J1) (S := (b4, .cells #[.string ⟨#[]⟩, .int .i64 0] 25 (0, 0)) :: S) (g := b24) (n := a0.size) (l := l) (rest := repV (c24 - a0.size) [.int .u8 0]) (e := 5) (fz := (c24, c24 + 1)) hl.symm
      rw [hcut] at this
      rw [hcut]
      exact this
    · rw [add_mk]; exact (Cell.at0 rfl).tl
    · rw [cutV, if_pos hok, Int.toNat_natCast]
def mayP (a : ByteArray) (n : Int) : Prop := okC a n ∧ cutB a n.toNat = a
def mayB (a : ByteArray) (n : Int) : Bool := decide (okC a n) && cutB a n.toNat == a
theorem mayB_iff {a : ByteArray} {n : Int} : mayB a n = true ↔ mayP a n := by
  rw [mayB, Bool.and_eq_true, decide_eq_true_eq, ba_beq]; exact Iff.rfl
theorem PMay_runs (a : ByteArray) (n : Int) (I : IMem) (S : SH) : Runs Tryd.prog 42 #[.agg #[.string a, .int .i64 n]] I S fun v _ T => v = .bool (mayB a n) ∧ T = S := by
  refine Runs.drop (prefix_May_fn _ _ _ _ _ ?_)
  unfold prefix_May prefix_May_b1
  intro b1
  refine ⟨_, Cell.at0 rfl, _, Cell.at0 rfl, (Cut_runs a n I _).mono ?_⟩
  rintro v J T hle ⟨rfl, rfl⟩
  by_cases h : okC a n
  · refine ⟨_, _, _, by rw [cutV, if_pos h], fun b3 => StP.at0 (Nat.le_refl 2) rfl (bcase_t rfl ⟨_, Cell.at0 rfl, _, Cell.at0 rfl, _, (Cell.at0 rfl).tl, _, (Cell.at0 rfl).tl, S, ((Sub.refl _).skip _).skip _, ?_, rfl⟩)⟩
    rw [mayB, decide_eq_true h]
    simp
  · refine ⟨_, _, _, by rw [cutV, if_neg h], fun b3 => StP.at0 (by decide) rfl (bcase_f rfl ⟨S, ((Sub.refl _).skip _).skip _, ?_, rfl⟩)⟩
    rw [mayB, decide_eq_false h]; rfl
theorem dec_runs {I : IMem} (g : GL I) (s : ByteArray) (hs : s.size ≤ 281474976710656) (most : Nat) (hm : most ≤ 255) (S : SH) :
    Runs Tryd.prog 72 #[.string s, .int .i64 (most : Int)] I S fun v _ T => ∃ (n : Int) (b : Bool), v = .tuple #[.int .i64 n, .bool b] ∧ (∀ m : Nat, m ≤ most → s = decB m → n = (m : Int) ∧ b = true) ∧ Sub S T := by
  refine owner_decimal_fn _ _ _ _ _ ?_
  unfold owner_decimal owner_decimal_b1
  refine (Atoi_runs g s hs S).mono ?_
  rintro v J T hle ⟨n, e, rfl, he, hx, hS⟩
  refine ⟨n, e, rfl, ?_⟩
  rcases he with rfl | ⟨t, u, rfl⟩
  · refine ⟨true, rfl, bcase_t rfl (bcase_dec (fun h1 => bcase_dec (fun h2 => ?_) (fun h2 => ?_)) (fun h1 => ?_))⟩
    · obtain ⟨n, rfl⟩ : ∃ k : Nat, n = (k : Int) := ⟨n.toNat, by omega⟩
      refine (Itoa_runs (n := n) (by omega) (g.le hle) T).mono ?_
      rintro v J1 T1 _ ⟨rfl, rfl⟩
      refine ⟨_, rfl, _, _, rfl, fun m hm1 h => ?_, hS⟩
      obtain ⟨h3, _⟩ := hx m (by omega) h
      refine ⟨h3, ?_⟩
      have : n = m := by omega
      rw [h, this]; exact tl_eq
    · exact ⟨_, _, rfl, fun m hm1 h => by have := (hx m (by omega) h).1; omega, hS⟩
    · exact ⟨_, _, rfl, fun m hm1 h => by have := (hx m (by omega) h).1; omega, hS⟩
  · exact ⟨false, rfl, bcase_f rfl ⟨_, _, rfl, (fun m hm1 h => (by have := (hx m (by omega) h).2; cases this)), hS⟩⟩
theorem hex_runs {I : IMem} (g : GL I) (s : ByteArray) (hs : s.size ≤ 281474976710656) (S : SH) :
    Runs Tryd.prog 83 #[.string s] I S fun v _ T => ∃ (n : Int) (b : Bool), v = .tuple #[.int .i64 n, .bool b] ∧ (∀ w : Nat, w < 65536 → s = hexB w → n = (w : Int) ∧ b = true) ∧ Sub S T := by
  refine owner_hex_fn _ _ _ _ ?_
  unfold owner_hex owner_hex_b1
  refine (PU_runs g s hs S).mono ?_
  rintro v J T hle ⟨n, e, rfl, he, hx, hbd, hS⟩
  refine ⟨n, e, rfl, ?_⟩
  rcases he with rfl | ⟨t, u, rfl⟩
  · obtain ⟨h1, h2⟩ := hbd rfl
    obtain ⟨n, rfl⟩ : ∃ k : Nat, n = (k : Int) := ⟨n.toNat, by omega⟩
    refine ⟨true, rfl, bcase_t rfl ((FmtU_runs (n := n) (by omega) (g.le hle) T).mono ?_)⟩
    rintro v J1 T1 _ ⟨rfl, rfl⟩
    rw [wrap_i64 (x := (n : Int)) (by omega) (by omega)]
    refine ⟨_, rfl, _, _, rfl, fun w hw h => ?_, hS⟩
    obtain ⟨h3, _⟩ := hx w hw h
    refine ⟨h3, ?_⟩
    have : n = w := by omega
    rw [h, this]; exact tl_eq
  · exact ⟨false, rfl, bcase_f rfl ⟨_, _, rfl, (fun w hw h => (by have := (hx w hw h).2; cases this)), hS⟩⟩
end Go.Proofs.YtmlojdbahlfiaaaDoor
/- strings.Builder; bytes folded. -/
namespace Go.Proofs.YtmlojdbahlfiaaaDoor
open Go.Px
set_option linter.unusedVariables false

theorem noesc_runs {I : IMem} {S : SH} (x : Value) : RunsX Tryd.prog 65 #[x] I S fun v _ T => v = x ∧ T = S := by
  intro w hw
  refine ⟨x, w, I, S, ?_, IMem.le.refl I, hw, rfl, rfl⟩
  rw [run_callFunc_extern Tryd.func65 (by kernel_rfl) (by kernel_rfl) (by kernel_rfl) (e := Extern.AbiNoEscape.same) (by kernel_rfl)]
  rfl
abbrev bldO (p : Option Addr) (A : Option Addr) (n c : Nat) : Obj := .cells #[.pointer p, .slice A n c] 89 (0, 0)
theorem chk_runs {b : Nat} {p A : Option Addr} {n c : Nat} {I : IMem} {F : SH} (hp : p = none ∨ p = some ⟨b, 0, none⟩) :
    Runs Tryd.prog 47 #[.pointer (some ⟨b, 0, none⟩)] I ((b, bldO p A n c) :: F) fun v _ T => v = .tuple #[] ∧ T = (b, bldO (some ⟨b, 0, none⟩) A n c) :: F := by
  refine strings_Builder_copyCheck_fn _ _ _ _ ?_
  unfold strings_Builder_copyCheck
  refine ⟨p, Cell.at0 rfl, ?_⟩
  rcases hp with rfl | rfl
  · refine bcase_t rfl ⟨_, _, ⟨(0, 0), .inr (List.mem_cons_self ..)⟩, by simp, (noesc_runs _).mono ?_⟩
    rintro v J T hle ⟨rfl, rfl⟩
    refine ⟨_, rfl, _, _, ⟨(0, 0), .inr (List.mem_cons_self ..)⟩, ?_, StP.at0 (o := 0) (vs := [.pointer (some ⟨b, 0, none⟩)]) (by simp) rfl ⟨rfl, rfl⟩⟩
    show liesAt Tryd.prog (Program.depth Tryd.prog) 89 (2 / Program.cellsOf Tryd.prog 89) 0 89 1 = true
    kernel_rfl
  · exact bcase_f rfl ⟨_, Cell.at0 rfl, rfl, rfl, rfl⟩

/-- a builder that has these bytes -/
def Bld (b : Nat) (s : ByteArray) (own : SH) : Prop := ∃ p A n c own', own = (b, bldO p A n c) :: own' ∧ (p = none ∨ p = some ⟨b, 0, none⟩) ∧ (A.isSome = true → c ≠ 0) ∧ OwnR 5 1 elB (.slice A n c) s.data.toList own'
theorem own_cap {α : Type} {el : α → List Value} {e : TypeId} {A : Option Addr} {n c : Nat} {xs : List α} {own : SH} (h : OwnR e 1 el (.slice A n c) xs own) (hx : 0 < xs.length) : A.isSome = true → c ≠ 0 := by
  intro ha
  rcases h with ⟨hv, _⟩ | ⟨g, cap, rest, hv, _, hcap, _⟩
  · injection hv with h1; subst h1; cases ha
  · injection hv with h1 h2 h3; omega
theorem row_lies {P : Program} {d : Nat} {fits : TypeId → Bool} {e : TypeId} {count n : Nat} (h1 : P.cellsOf e = 1) (h2 : fits e = true) (h3 : n ≤ count) : rowAt P fits (d + 1) e count 0 n = true := by
  unfold rowAt
  simp [h1, h2, h3]
theorem Len_runs {b : Nat} {s : ByteArray} {own : SH} (h : Bld b s own) (I : IMem) (F : SH) : Runs Tryd.prog 28 #[.pointer (some ⟨b, 0, none⟩)] I (own ++ F) fun v _ T => v = .int .i64 (s.size : Int) ∧ T = own ++ F := by
  obtain ⟨p, A, n, c, own', rfl, hp, hc0, ho⟩ := h
  refine strings_Builder_Len_fn _ _ _ _ ?_
  unfold strings_Builder_Len
  refine ⟨_, _, _, Cell.at0 rfl, ?_, rfl⟩
  rw [ho.len]; rfl
theorem WByte_runs {b : Nat} {s : ByteArray} {own : SH} (h : Bld b s own) (u : UInt8) (hs : s.size + 1 ≤ 140737488355328) (I : IMem) (F : SH) :
    Runs Tryd.prog 29 #[.pointer (some ⟨b, 0, none⟩), .int .u8 (u.toNat : Int)] I (own ++ F) fun v _ T => v = .nilIface ∧ ∃ own', Bld b (s.push u) own' ∧ Sub (own' ++ F) T := by
  obtain ⟨p, A, n, c, own', rfl, hp, hc0, ho⟩ := h
  refine strings_Builder_WriteByte_fn _ _ _ _ _ ?_
  unfold strings_Builder_WriteByte
  refine (chk_runs hp).mono ?_
  rintro v J T hle ⟨rfl, rfl⟩
  refine ⟨rfl, _, _, _, Cell.at0 rfl, fun b13 => ?_⟩
  have hsz : s.data.toList.length = s.size := Array.length_toList
  refine AppG.own (xs := s.data.toList) (ys := [u]) (el := elB) (own := own') (F := (b13, .cells #[.int .u8 (u.toNat : Int)] 5 (0, 0)) :: (b, bldO (some ⟨b, 0, none⟩) A n c) :: F) elB_len elB_one rfl perm_mid2 ho ⟨?_, rfl⟩ ?_ ?_ ?_
  · exact Rd.list (L := elB u) rfl (by simp [elB_len])
  · rw [hsz]; simp only [List.length_singleton, maxLen]; omega
  · rw [hsz]; simp only [List.length_singleton]; omega
  · intro q m d own2 ho2
    have e : own2 ++ (b13, Obj.cells #[.int .u8 (u.toNat : Int)] 5 (0, 0)) :: (b, bldO (some ⟨b, 0, none⟩) A n c) :: F = (own2 ++ [(b13, Obj.cells #[.int .u8 (u.toNat : Int)] 5 (0, 0))]) ++ (b, bldO (some ⟨b, 0, none⟩) A n c) :: F := by simp
    rw [e]
    refine StP.mid (o := 1) (vs := [.slice q m d]) (by simp) rfl ⟨rfl, (b, bldO (some ⟨b, 0, none⟩) q m d) :: own2, ⟨_, q, m, d, own2, rfl, .inr rfl, own_cap ho2 (by simp), ?_⟩, ?_⟩
    · have : (s.push u).data.toList = s.data.toList ++ [u] := by simp [ByteArray.push]
      rw [this]; exact ho2
    · rw [List.append_assoc]
      exact sub_swap
theorem WStr_runs {b : Nat} {s t : ByteArray} {own : SH} (h : Bld b s own) (h0 : 0 < s.size + t.size) (hs : s.size + t.size ≤ 140737488355328) (I : IMem) (F : SH) :
    Runs Tryd.prog 30 #[.pointer (some ⟨b, 0, none⟩), .string t] I (own ++ F) fun v _ T => v = .tuple #[.int .i64 (t.size : Int), .nilIface] ∧ ∃ own', Bld b (s ++ t) own' ∧ Sub (own' ++ F) T := by
  obtain ⟨p, A, n, c, own', rfl, hp, hc0, ho⟩ := h
  refine strings_Builder_WriteString_fn _ _ _ _ _ ?_
  unfold strings_Builder_WriteString
  refine (chk_runs hp).mono ?_
  rintro v J T hle ⟨rfl, rfl⟩
  refine ⟨rfl, _, _, _, Cell.at0 rfl, ?_⟩
  have hsz : s.data.toList.length = s.size := Array.length_toList
  have htz : t.data.toList.length = t.size := Array.length_toList
  refine AppG.own (xs := s.data.toList) (ys := t.data.toList) (el := elB) (own := own') (F := (b, bldO (some ⟨b, 0, none⟩) A n c) :: F) elB_len elB_one rfl perm_mid1 ho ⟨t, rfl, htz, flat_elB _, rfl⟩ ?_ ?_ ?_
  · rw [hsz, htz]; simp only [maxLen]; omega
  · rw [hsz, htz]; omega
  · intro q m d own2 ho2
    refine StP.mid (o := 1) (vs := [.slice q m d]) (by simp) rfl ⟨rfl, (b, bldO (some ⟨b, 0, none⟩) q m d) :: own2, ⟨_, q, m, d, own2, rfl, .inr rfl, own_cap ho2 (by rw [List.length_append, hsz, htz]; exact h0), ?_⟩, ?_⟩
    · have : (s ++ t).data.toList = s.data.toList ++ t.data.toList := by simp
      rw [this]; exact ho2
    · exact ⟨[], by rw [List.append_nil]; exact List.perm_middle⟩
theorem Str_runs {b : Nat} {s : ByteArray} {own : SH} (h : Bld b s own) (hs : s.size ≤ 140737488355328) (I : IMem) (F : SH) :
    Runs Tryd.prog 32 #[.pointer (some ⟨b, 0, none⟩)] I (own ++ F) fun v _ T => v = .string s ∧ Sub F T := by
  obtain ⟨p, A, n, c, own', rfl, hp, hc0, ho⟩ := h
  refine strings_Builder_String_fn _ _ _ _ ?_
  unfold strings_Builder_String strings_Builder_String_b1 strings_Builder_String_b2
  have hln := ho.len
  have hsz : s.data.toList.length = s.size := Array.length_toList
  rw [hsz] at hln
  subst hln
  have hs0 : s.size = 0 → s = ByteArray.empty := fun h => by
    apply ByteArray.ext
    have : s.data.size = 0 := h
    simp [Array.eq_empty_of_size_eq_zero this]
  rcases ho with ⟨hv, hx, rfl⟩ | ⟨g, cap, rest, hv, rfl, hcap, hcm⟩
  · injection hv with h1 h2 h3
    subst h1
    refine ⟨_, _, _, Cell.at0 rfl, fun h => (by simp at h), _, _, _, Cell.at0 rfl, .inl ⟨by omega, ?_, ⟨[_], List.perm_append_comm (l₁ := [_])⟩⟩⟩
    rw [hs0 h2]
  · injection hv with h1 h2 h3
    subst h1; subst h3
    by_cases h0 : s.size = 0
    · refine ⟨_, _, _, Cell.at0 rfl, fun _ => hc0 rfl, _, _, _, Cell.at0 rfl, .inl ⟨by omega, ?_, ⟨[_, _], List.perm_append_comm (l₁ := [_, _])⟩⟩⟩
      rw [hs0 h0]
    · have hsc : s.size ≤ c := by rw [hsz] at hcap; omega
      refine ⟨_, _, _, Cell.at0 rfl, fun _ => by omega, _, _, _, Cell.at0 rfl, .inr ⟨⟨g, 0, none⟩, 1, _, _, (0, 0), s, rfl, by omega, by omega, rfl, ?_, ?_, rfl, ⟨[_, _], List.perm_append_comm (l₁ := [_, _])⟩⟩⟩
      · have hcs : ((s.data.toList.flatMap elB ++ rest).toArray).size = c := by
          rw [List.size_toArray, List.length_append, flatMap_len elB_len]; omega
        rw [hcs]
        have h1 : Program.cellsOf Tryd.prog 5 = 1 := by kernel_rfl
        rw [h1, Nat.div_one]
        have hd : ∃ d, Program.depth Tryd.prog = d + 1 + 1 := ⟨Program.depth Tryd.prog - 2, by kernel_rfl⟩
        obtain ⟨d, hd⟩ := hd
        rw [hd]
        have hsl : sameLayout Tryd.prog (Program.depth Tryd.prog) 5 5 = true := by kernel_rfl
        unfold liesAt
        have key : ∀ D, D = d + 1 + 1 → rowAt Tryd.prog (fun x => sameLayout Tryd.prog (Program.depth Tryd.prog) x 5) D 5 c 0 s.size = true := fun D hD => by subst hD; exact row_lies h1 hsl hsc
        rw [Int.toNat_natCast]
        show (rowAt Tryd.prog (fun x => sameLayout Tryd.prog (Program.depth Tryd.prog) x 5) (Program.depth Tryd.prog) 5 c 0 s.size || _) = true
        rw [key _ hd]
        rfl
      · rw [flat_elB, Int.toNat_natCast]
        refine BytesAt.tl ?_
        have : s = ⟨s.data.toList.toArray⟩ := by apply ByteArray.ext; simp
        have hb := BytesAt.list (I := I) (S := F) (g := g) (n := s.size) (l := s.data.toList) (rest := rest) (e := 5) (fz := (0, 0)) hsz.symm
        rw [← this] at hb
        exact hb
end Go.Proofs.YtmlojdbahlfiaaaDoor
/- Bytes folded; names made of labels; the law's words. -/
namespace Go.Proofs.YtmlojdbahlfiaaaDoor
open Go.Px
set_option linter.unusedVariables false

def foldU (u : UInt8) : UInt8 := if 65 ≤ u.toNat ∧ u.toNat ≤ 90 then UInt8.ofNat (u.toNat + 32) else u
def foldB (s : ByteArray) : ByteArray := ⟨(s.data.toList.map foldU).toArray⟩
theorem foldB_size (s : ByteArray) : (foldB s).size = s.size := by
  show ((s.data.toList.map foldU).toArray).size = s.data.size
  simp
theorem ofNatU {n : Nat} (h : n < 256) : (UInt8.ofNat n).toNat = n := by
  show n % 256 = n
  exact Nat.mod_eq_of_lt h
theorem Fold_runs (u : UInt8) (I : IMem) (S : SH) : Runs Tryd.prog 48 #[.int .u8 (u.toNat : Int)] I S fun v _ T => v = .int .u8 ((foldU u).toNat : Int) ∧ T = S := by
  refine name_Fold_fn _ _ _ _ ?_
  unfold name_Fold name_Fold_b1 name_Fold_b2 name_Fold_b3
  have hu := u.toNat_lt
  refine bcase_dec (fun h => bcase_dec (fun g => ⟨?_, rfl⟩) (fun g => ⟨?_, rfl⟩)) (fun h => bcase_f rfl ⟨?_, rfl⟩)
  · rw [foldU, if_pos ⟨by omega, by omega⟩, wrap_u8 (x := (u.toNat : Int) + 97) (by omega) (by omega), wrap_u8 (by omega) (by omega)]
    have : (UInt8.ofNat (u.toNat + 32)).toNat = u.toNat + 32 := by
      exact ofNatU (by omega)
    rw [this]; congr 1; omega
  · rw [foldU, if_neg (by omega)]
  · rw [foldU, if_neg (by omega)]
theorem folded_runs (s : ByteArray) (hs : s.size ≤ 140737488355328) (I : IMem) (S : SH) : Runs Tryd.prog 31 #[.string s] I S fun v _ T => v = .string (foldB s) ∧ T = S := by
  refine Runs.drop (name_folded_fn _ _ _ _ ?_)
  unfold name_folded name_folded_b1 name_folded_b2
  refine ⟨by simp only [maxLen]; omega, fun g c hc hcm => ?_⟩
  have hln : s.data.toList.length = s.size := Array.length_toList
  generalize hl : s.data.toList = l at hln
  have hbc : byteCells s = bytL l := by rw [← hl]; rfl
  rw [hbc]
  generalize hrest : repV (c - s.size) [Value.int .u8 0] = rest
  have hK : ∀ k, (bytL ((l.take k).map foldU)).length = min k l.length := fun k => by rw [bytL_len, List.length_map, List.length_take]
  refine ⟨fun m b bn bc x xn xc q i J T => b = some ⟨g, 0, none⟩ ∧ bn = s.size ∧ x = some ⟨g, 0, none⟩ ∧ xn = s.size ∧ q = (s.size : Int) ∧ ∃ k : Nat, i = (k : Int) ∧ k ≤ s.size ∧ m = s.size - k ∧
    T = (g, .cells (bytL ((l.take k).map foldU) ++ (bytL (l.drop k) ++ rest)).toArray 5 (c, c + 1)) :: S, s.size, ⟨rfl, rfl, rfl, rfl, rfl, 0, rfl, Nat.zero_le _, rfl, by simp [bytL]⟩, ?_⟩
  rintro m b bn bc x xn xc q i J T - ⟨rfl, rfl, rfl, rfl, rfl, k, rfl, hk, rfl, rfl⟩
  unfold name_folded_l3 name_folded_b4
  refine bcase_dec (fun h => ?_) (fun h => ?_)
  · have hkl : k < l.length := by omega
    have hd : l.drop k = l[k] :: l.drop (k + 1) := List.drop_eq_getElem_cons hkl
    have hkk : (bytL ((l.take k).map foldU)).length = k := by rw [hK]; omega
    refine ⟨by omega, by omega, (l[k].toNat : Int), ?_, (Fold_runs l[k] _ _).mono ?_⟩
    · rw [add_mk]
      refine Cell.at0 ?_
      rw [List.getElem?_toArray, List.getElem?_append_right (by rw [hkk]; omega), hkk, hd]
      have : 0 + ((k : Int)).toNat * 1 - k = 0 := by omega
      rw [this]; rfl
    · rintro v J' T' hle ⟨rfl, rfl⟩
      refine ⟨_, rfl, by omega, by omega, ?_⟩
      rw [add_mk]
      have e : 0 + ((k : Int)).toNat * 1 = k := by omega
      rw [e]
      refine StP.listF ?_ ?_ rfl ⟨s.size - (k + 1), by omega, rfl, rfl, rfl, rfl, rfl, k + 1, ?_, by omega, rfl, ?_⟩
      · rw [List.length_append, List.length_append, hkk, bytL_len, List.length_drop]; simp only [List.length_singleton]; omega
      · simp only [List.length_singleton]; omega
      · rw [wrap_i64 (by omega) (by omega)]; rfl
      · have t1 : (bytL ((l.take k).map foldU) ++ (bytL (l.drop k) ++ rest)).take k = bytL ((l.take k).map foldU) := by
          conv => lhs; rw [← hkk]
          rw [hkk]; conv => lhs; arg 1; rw [← hkk]
          exact List.take_left
        have t2 : (bytL ((l.take k).map foldU) ++ (bytL (l.drop k) ++ rest)).drop (k + [Value.int .u8 ((foldU l[k]).toNat : Int)].length) = bytL (l.drop (k + 1)) ++ rest := by
          rw [List.length_singleton, ← List.drop_drop]
          have : (bytL ((l.take k).map foldU) ++ (bytL (l.drop k) ++ rest)).drop k = bytL (l.drop k) ++ rest := by
            conv => lhs; arg 1; rw [← hkk]
            exact List.drop_left
          rw [this, hd]; rfl
        rw [t1, t2]
        have t3 : l.take (k + 1) = l.take k ++ [l[k]] := by rw [List.take_add_one, List.getElem?_eq_getElem hkl]; rfl
        have t4 : bytL ((l.take (k + 1)).map foldU) = bytL ((l.take k).map foldU) ++ [Value.int .u8 ((foldU l[k]).toNat : Int)] := by
          rw [t3, List.map_append, bytL, List.map_append]; rfl
        rw [t4]
  · have : k = s.size := by omega
    subst this
    refine ⟨foldB s, ?_, S, (Sub.refl S).skip _, rfl, rfl⟩
    have t1 : l.take s.size = l := by rw [← hln]; exact List.take_length
    have t2 : l.drop s.size = [] := by rw [← hln]; exact List.drop_length
    rw [t1, t2]
    have hb := BytesAt.list (I := J) (S := S) (g := g) (n := s.size) (l := l.map foldU) (rest := bytL [] ++ rest) (e := 5) (fz := (c, c + 1)) (by rw [List.length_map, hln])
    have hf : foldB s = ⟨(l.map foldU).toArray⟩ := by rw [foldB, hl]
    rw [hf]; exact hb

/-! ### names -/
def makeN : List ByteArray → ByteArray → Option ByteArray
  | [], acc => some acc
  | l :: ls, acc => if l.size < 1 ∨ l.size > 63 ∨ acc.size + 1 + l.size > 254 then none else makeN ls (acc.push (UInt8.ofNat l.size) ++ foldB l)
theorem app_size (a b : ByteArray) : (a ++ b).size = a.size + b.size := ByteArray.size_append
def elS (s : ByteArray) : List Value := [.string s]
def mkV : Option ByteArray → Value
  | some n => .tuple #[.string n, .bool true]
  | none => .tuple #[.string ⟨#[]⟩, .bool false]
theorem Make_runs {ls : List ByteArray} {a : Option Addr} {c : Nat} {I : IMem} {S : SH} (hx : RowIn I S a ls.length 1 elS ls) (hl : ls.length ≤ 140737488355328) :
    Runs Tryd.prog 15 #[.slice a ls.length c] I S fun v _ T => v = mkV (makeN ls ByteArray.empty) ∧ T = S := by
  refine Runs.drop (name_Make_fn _ _ _ _ _ _ ?_)
  unfold name_Make name_Make_b1 name_Make_b2
  intro b4
  refine ⟨fun m o x xn xc q i J T => o = ⟨b4, 0, none⟩ ∧ x = a ∧ xn = ls.length ∧ q = (ls.length : Int) ∧ I.le J ∧ ∃ (k : Nat) (acc : ByteArray) (own : SH), i = (k : Int) ∧ k ≤ ls.length ∧ m = ls.length - k ∧ Bld b4 acc own ∧ Sub (own ++ S) T ∧ acc.size ≤ 254 ∧ makeN ls ByteArray.empty = makeN (ls.drop k) acc,
    ls.length, ⟨rfl, rfl, rfl, rfl, IMem.le.refl I, 0, ByteArray.empty, _, rfl, Nat.zero_le _, rfl, ⟨none, none, 0, 0, [], rfl, .inl rfl, fun h => (by cases h), OwnR.nil⟩, Sub.refl _, Nat.zero_le _, rfl⟩, ?_⟩
  rintro m o x xn xc q i J T - ⟨rfl, rfl, rfl, rfl, hle, k, acc, own, rfl, hk, rfl, hb, hs, hacc, hm⟩
  unfold name_Make_l3 name_Make_b4 name_Make_b5 name_Make_b6 name_Make_b7 name_Make_b8 name_Make_b9
  have bad : ∀ (J : IMem) (T : SH), Sub S T → makeN ls ByteArray.empty = none → ∃ L, Sub L T ∧ Value.tuple #[.string ⟨#[]⟩, .bool false] = mkV (makeN ls ByteArray.empty) ∧ L = S := fun J T h e => ⟨S, h, by rw [e]; rfl, rfl⟩
  refine bcase_dec (fun h => ?_) (fun h => ?_)
  · have hkl : k < ls.length := by omega
    obtain ⟨a', rfl, hc⟩ := ((hx.sub hs.right).le hle).cell (List.getElem?_eq_getElem hkl)
    have hd : ls.drop k = ls[k] :: ls.drop (k + 1) := List.drop_eq_getElem_cons hkl
    generalize ls[k] = l at hc hd
    rw [hd, makeN] at hm
    refine ⟨by omega, by omega, l, ?_, ?_⟩
    · have := hc 0 (.string l) rfl
      simpa [Addr.add] using this
    · refine bcase_dec (fun h1 => bcase_t rfl (bad J T hs.right (by rw [hm, if_pos (.inl (by omega))]))) (fun h1 => bcase_dec (fun h2 => bcase_t rfl (bad J T hs.right (by rw [hm, if_pos (.inr (.inl (by omega)))]))) (fun h2 => ?_))
      refine Runs.use hs (Len_runs hb J S) ?_
      rintro v J1 T1 hle1 ⟨rfl, rfl⟩
      refine ⟨_, rfl, ?_⟩
      rw [wrap_i64 (x := (acc.size : Int) + 1) (by omega) (by omega), wrap_i64 (by omega) (by omega)]
      refine bcase_dec (fun h3 => bad J1 _ (Sub.right (Sub.refl _)) (by rw [hm, if_pos (.inr (.inr (by omega)))])) (fun h3 => ?_)
      rw [if_neg (by omega)] at hm
      have hu : IntKind.wrap .u8 (l.size : Int) = ((UInt8.ofNat l.size).toNat : Int) := by
        rw [wrap_u8 (by omega) (by omega), ofNatU (by omega)]
      rw [hu]
      refine (WByte_runs hb (UInt8.ofNat l.size) (by omega) J1 S).mono ?_
      rintro v J2 T2 hle2 ⟨rfl, own2, hb2, hs2⟩
      refine ⟨_, rfl, (folded_runs l (by omega) J2 T2).mono ?_⟩
      rintro v J3 T3 hle3 ⟨rfl, rfl⟩
      have hsz : (acc.push (UInt8.ofNat l.size)).size = acc.size + 1 := ByteArray.size_push
      refine ⟨_, rfl, Runs.use hs2 (WStr_runs hb2 (t := foldB l) (by omega) (by rw [hsz, foldB_size]; omega) J3 S) ?_⟩
      rintro v J4 T4 hle4 ⟨rfl, own4, hb4, hs4⟩
      refine ⟨_, _, rfl, ls.length - (k + 1), by omega, rfl, rfl, rfl, rfl, (((hle.trans hle1).trans hle2).trans hle3).trans hle4, k + 1, _, own4, ?_, by omega, rfl, hb4, hs4, ?_, hm⟩
      · rw [wrap_i64 (by omega) (by omega)]; rfl
      · rw [app_size, hsz, foldB_size]; omega
  · have : k = ls.length := by omega
    subst this
    rw [List.drop_length, makeN] at hm
    refine Runs.use hs (Str_runs hb (by omega) J S) ?_
    rintro v J1 T1 hle1 ⟨rfl, hsub⟩
    exact ⟨_, rfl, S, hsub, by rw [hm]; rfl, rfl⟩

def wordsL : List ByteArray := [⟨#[97]⟩, ⟨#[98]⟩, ⟨#[99]⟩, ⟨#[119, 119, 119]⟩, ⟨#[101, 120]⟩, ⟨#[111, 114, 103]⟩, ⟨#[42]⟩, ⟨#[114, 112, 122, 45, 105, 112]⟩]
def wd (x : Int) : ByteArray := (wordsL[(x.tmod 8).toNat]?).getD ⟨#[]⟩
def elI8 (x : Int) : List Value := [.int .u8 x]
end Go.Proofs.YtmlojdbahlfiaaaDoor
/- Three-way comparisons, one behind the other; records and their order. -/
namespace Go.Px
set_option linter.unusedVariables false

theorem bl_irrefl : ∀ x, Op.bytesLess x x = false
  | [] => rfl
  | a :: x => by simp [Op.bytesLess, bl_irrefl x]
theorem bl_tri : ∀ x y, Op.bytesLess x y = true ∨ x = y ∨ Op.bytesLess y x = true
  | [], [] => .inr (.inl rfl)
  | [], _ :: _ => .inl rfl
  | _ :: _, [] => .inr (.inr rfl)
  | a :: x, b :: y => by
    simp only [Op.bytesLess, Bool.or_eq_true, decide_eq_true_eq, Bool.and_eq_true, beq_iff_eq, List.cons.injEq]
    by_cases h : a = b
    · subst h
      rcases bl_tri x y with g | g | g
      · exact .inl (.inr ⟨rfl, g⟩)
      · exact .inr (.inl ⟨rfl, g⟩)
      · exact .inr (.inr (.inr ⟨rfl, g⟩))
    · have : a < b ∨ b < a := by
        rw [UInt8.lt_iff_toNat_lt, UInt8.lt_iff_toNat_lt]
        have : a.toNat ≠ b.toNat := fun e => h (UInt8.toNat_inj.1 e)
        omega
      rcases this with g | g
      · exact .inl (.inl g)
      · exact .inr (.inr (.inl g))
theorem bl_trans : ∀ {x y z}, Op.bytesLess x y = true → Op.bytesLess y z = true → Op.bytesLess x z = true
  | _, [], _, h, _ => by simp [Op.bytesLess] at h
  | _, _ :: _, [], _, h => by simp [Op.bytesLess] at h
  | [], _ :: _, _ :: _, _, _ => rfl
  | a :: x, b :: y, c :: z, h, g => by
    simp only [Op.bytesLess, Bool.or_eq_true, decide_eq_true_eq, Bool.and_eq_true, beq_iff_eq] at h g ⊢
    rw [UInt8.lt_iff_toNat_lt] at h g ⊢
    rcases h with h | ⟨rfl, h⟩
    · rcases g with g | ⟨rfl, g⟩
      · exact .inl (by omega)
      · exact .inl h
    · rcases g with g | ⟨rfl, g⟩
      · exact .inl g
      · exact .inr ⟨rfl, bl_trans h g⟩

structure Cm {α : Type} (c : α → α → Int) : Prop where
  vals : ∀ a b, c a b = -1 ∨ c a b = 0 ∨ c a b = 1
  refl : ∀ a, c a a = 0
  anti : ∀ a b, c b a = -(c a b)
  eq : ∀ a b, c a b = 0 → a = b
  trans : ∀ a b d, c a b < 0 → c b d < 0 → c a d < 0
def lexC {α β : Type} (c : α → α → Int) (d : β → β → Int) (p q : α × β) : Int := if c p.1 q.1 = 0 then d p.2 q.2 else c p.1 q.1
theorem Cm.lex {α β : Type} {c : α → α → Int} {d : β → β → Int} (hc : Cm c) (hd : Cm d) : Cm (lexC c d) where
  vals a b := by unfold lexC; split <;> first | exact hd.vals _ _ | exact hc.vals _ _
  refl a := by unfold lexC; rw [if_pos (hc.refl _)]; exact hd.refl _
  anti a b := by
    unfold lexC
    have := hc.anti a.1 b.1
    by_cases h : c a.1 b.1 = 0
    · rw [if_pos h, if_pos (by omega)]; exact hd.anti _ _
    · rw [if_neg h, if_neg (by omega)]; exact this
  eq a b h := by
    unfold lexC at h
    split at h
    · rename_i h1; exact Prod.ext (hc.eq _ _ h1) (hd.eq _ _ h)
    · exact absurd h ‹_›
  trans a b e h g := by
    unfold lexC at h g ⊢
    split at h
    · rename_i h1
      have := hc.eq _ _ h1
      rw [this]
      split at g
      · rename_i h2; rw [if_pos h2]; exact hd.trans _ _ _ h g
      · rename_i h2; rw [if_neg h2]; exact g
    · rename_i h1
      split at g
      · rename_i h2
        have := hc.eq _ _ h2
        rw [← this, if_neg h1]; exact h
      · rename_i h2
        have := hc.trans _ _ _ h g
        rw [if_neg (by omega)]; exact this
theorem Cm.le_trans {α : Type} {c : α → α → Int} (hc : Cm c) {a b d : α} (h : c a b ≤ 0) (g : c b d ≤ 0) : c a d ≤ 0 := by
  by_cases h1 : c a b = 0
  · rw [hc.eq _ _ h1]; exact g
  · by_cases h2 : c b d = 0
    · rw [← hc.eq _ _ h2]; exact h
    · have := hc.trans a b d (by omega) (by omega); omega

def ltB (a b : ByteArray) : Bool := Op.bytesLess a.toList b.toList
def cmpB (a b : ByteArray) : Int := if ltB a b then -1 else if ltB b a then 1 else 0
def cmpI (a b : Int) : Int := if a < b then -1 else if b < a then 1 else 0
theorem toList_inj {a b : ByteArray} (h : a.toList = b.toList) : a = b := by
  rw [ByteArray.toList_eq, ByteArray.toList_eq] at h
  exact ByteArray.ext (Array.toList_inj.1 h)
theorem keq {a b : ByteArray} : (a.toList == b.toList) = true ↔ a = b := by
  rw [beq_iff_eq]; exact ⟨toList_inj, fun h => by rw [h]⟩
theorem cmB : Cm cmpB where
  vals a b := by unfold cmpB; split <;> first | exact .inl rfl | (split <;> first | exact .inr (.inr rfl) | exact .inr (.inl rfl))
  refl a := by simp [cmpB, ltB, bl_irrefl]
  anti a b := by
    unfold cmpB ltB
    rcases bl_tri a.toList b.toList with h | h | h
    · have : Op.bytesLess b.toList a.toList = false := by
        cases hb : Op.bytesLess b.toList a.toList with
        | false => rfl
        | true => have := bl_trans h hb; rw [bl_irrefl] at this; cases this
      simp [h, this]
    · rw [h]; simp [bl_irrefl]
    · have : Op.bytesLess a.toList b.toList = false := by
        cases hb : Op.bytesLess a.toList b.toList with
        | false => rfl
        | true => have := bl_trans h hb; rw [bl_irrefl] at this; cases this
      simp [h, this]
  eq a b h := by
    unfold cmpB ltB at h
    rcases bl_tri a.toList b.toList with g | g | g
    · simp [g] at h
    · exact toList_inj g
    · split at h <;> first | (simp at h; done) | (simp [g] at h)
  trans a b d h g := by
    have key : ∀ x y : ByteArray, cmpB x y < 0 ↔ Op.bytesLess x.toList y.toList = true := fun x y => by
      unfold cmpB ltB
      split
      · simp [*]
      · split <;> simp [*]
    rw [key] at *
    exact bl_trans h g
theorem cmI : Cm cmpI where
  vals a b := by unfold cmpI; split <;> first | exact .inl rfl | (split <;> first | exact .inr (.inr rfl) | exact .inr (.inl rfl))
  refl a := by simp [cmpI]
  anti a b := by unfold cmpI; split <;> split <;> first | omega | (split <;> omega) | skip
  eq a b h := by unfold cmpI at h; split at h <;> first | omega | (split at h <;> omega)
  trans a b d h g := by
    have key : ∀ x y : Int, cmpI x y < 0 ↔ x < y := fun x y => by
      unfold cmpI
      split
      · simp [*]
      · split <;> simp [*]
    rw [key] at *
    omega

/-- a record: its name, type, TTL and data -/
abbrev Rc := ByteArray × Int × Int × ByteArray
def encR (r : Rc) : List Value := [.string r.1, .int .u16 r.2.1, .int .u32 r.2.2.1, .string r.2.2.2]
theorem encR_len (r : Rc) : (encR r).length = 4 := rfl
theorem encR_one (r : Rc) : (encR r).all one = true := rfl
def keyR (r : Rc) : ByteArray × Int × ByteArray × Int := (r.1, r.2.1, r.2.2.2, r.2.2.1)
def cmpR (a b : Rc) : Int := lexC cmpB (lexC cmpI (lexC cmpB cmpI)) (keyR a) (keyR b)
theorem cmR : Cm cmpR := by
  have h : Cm (lexC cmpB (lexC cmpI (lexC cmpB cmpI))) := cmB.lex (cmI.lex (cmB.lex cmI))
  refine ⟨fun a b => h.vals _ _, fun a => h.refl _, fun a b => h.anti _ _, fun a b e => ?_, fun a b d => h.trans _ _ _⟩
  have := h.eq _ _ e
  obtain ⟨a1, a2, a3, a4⟩ := a
  obtain ⟨b1, b2, b3, b4⟩ := b
  simp only [keyR, Prod.mk.injEq] at this
  obtain ⟨rfl, rfl, rfl, rfl⟩ := this
  rfl
end Go.Px
/- The comparison of records: contracts. -/
namespace Go.Proofs.YtmlojdbahlfiaaaDoor
open Go.Px
set_option linter.unusedVariables false

end Go.Proofs.YtmlojdbahlfiaaaDoor
/- The law's own comparison; the search in a row; what slices.overlaps answers; a clone; an insertion. -/
namespace Go.Proofs.YtmlojdbahlfiaaaDoor
open Go.Px
set_option linter.unusedVariables false

/-- four cells of a record, one behind the other -/
theorem CellsR {I : IMem} {S : SH} {a : Addr} {r : Rc} (h : ∀ j v, (encR r)[j]? = some v → Cell I S (a.add j) v) :
    Cell I S a (.string r.1) ∧ Cell I S (a.add 1) (.int .u16 r.2.1) ∧ Cell I S (a.add 2) (.int .u32 r.2.2.1) ∧ Cell I S (a.add 3) (.string r.2.2.2) :=
  ⟨by simpa [Addr.add] using h 0 _ rfl, h 1 _ rfl, h 2 _ rfl, h 3 _ rfl⟩
abbrev Below (xs : List Rc) (r : Rc) (k : Nat) : Prop := k ≤ xs.length ∧ ∀ (i : Nat) (x : Rc), xs[i]? = some x → (i < k ↔ cmpR x r < 0)
end Go.Proofs.YtmlojdbahlfiaaaDoor
/- What slices.overlaps answers; a clone; an insertion into a row of one's own. -/
namespace Go.Proofs.YtmlojdbahlfiaaaDoor
open Go.Px
set_option linter.unusedVariables false

abbrev zR : List Value := [.string ⟨#[]⟩, .int .u16 0, .int .u32 0, .string ⟨#[]⟩]
abbrev OwnZ (v : Value) (xs : List Rc) (own : SH) : Prop := OwnR 57 4 encR v xs own
theorem take_at {α : Type} {A B : List α} {o : Nat} (h : A.length = o) : (A ++ B).take o = A := by subst h; exact List.take_left
theorem drop_at {α : Type} {A B : List α} {o : Nat} (h : A.length = o) : (A ++ B).drop o = B := by subst h; exact List.drop_left

end Go.Proofs.YtmlojdbahlfiaaaDoor
/- Insertion into a zone, and what a zone has; the document's examples. -/
namespace Go.Proofs.YtmlojdbahlfiaaaDoor
open Go.Px
set_option linter.unusedVariables false

abbrev Mono (xs : List Rc) (r : Rc) : Prop := ∀ (i j : Nat) (x y : Rc), i ≤ j → xs[i]? = some x → xs[j]? = some y → cmpR y r < 0 → cmpR x r < 0
end Go.Proofs.YtmlojdbahlfiaaaDoor
/- A zone's size; ZoneFits. -/
namespace Go.Proofs.YtmlojdbahlfiaaaDoor
open Go.Px
set_option linter.unusedVariables false

theorem StP.rec {S : SH} {b : Nat} {x : Rc} {K : SH → Prop} (h : K ((b, .cells (encR x).toArray 57 (0, 0)) :: S)) :
    StP ((b, .cells #[.string ⟨#[]⟩, .int .u16 0, .int .u32 0, .string ⟨#[]⟩] 57 (0, 0)) :: S) ⟨b, 0, none⟩ [.string x.1, .int .u16 x.2.1, .int .u32 x.2.2.1, .string x.2.2.2] K :=
  StP.at0 (o := 0) (vs := encR x) (Nat.le_refl 4) rfl h
theorem get_lt {α : Type} {xs : List α} {k : Nat} (h : k < xs.length) : ∃ x, xs[k]? = some x := ⟨_, List.getElem?_eq_getElem h⟩
theorem lt_get {α : Type} {xs : List α} {k : Nat} {x : α} (h : xs[k]? = some x) : k < xs.length := by
  rcases Nat.lt_or_ge k xs.length with g | g
  · exact g
  · rw [List.getElem?_eq_none g] at h; cases h
theorem take_snoc {α : Type} {xs : List α} {k : Nat} {x : α} (h : xs[k]? = some x) : xs.take (k + 1) = xs.take k ++ [x] := by
  rw [List.take_add_one, h]; rfl

end Go.Proofs.YtmlojdbahlfiaaaDoor
/- The law's data, and its records. -/
namespace Go.Proofs.YtmlojdbahlfiaaaDoor
open Go.Px
set_option linter.unusedVariables false

def d0 : ByteArray := ⟨#[0]⟩
theorem ex_size (s : ByteArray) (a b : Nat) : (s.extract a b).size = min b s.size - a := ByteArray.size_extract
abbrev Sl := Option Addr × Nat × Nat
abbrev Ac := Sl × Int × Int × Sl × ByteArray
structure Slb (I : IMem) (S : SH) (x : Sl) (xs : List Int) : Prop where
  row : RowIn I S x.1 xs.length 1 elI8 xs
  len : x.2.1 = xs.length
  small : xs.length ≤ 9223372036854775807
  pos : ∀ y ∈ xs, 0 ≤ y
theorem Slb.keep {I J : IMem} {S T : SH} {x : Sl} {xs : List Int} (hk : Keep I S J T) (h : Slb I S x xs) : Slb J T x xs := ⟨h.row.keep hk, h.len, h.small, h.pos⟩
structure SmallR (r : Rc) : Prop where
  nm : r.1.size ≤ 254
  dt : r.2.2.2.size ≤ 600
  ty : 0 ≤ r.2.1 ∧ r.2.1 ≤ 99
structure AcOK (I : IMem) (S : SH) (x : Ac) : Prop where
  nm : ∃ nm, Slb I S x.1 nm
  dt : ∃ dt, Slb I S x.2.2.2.1 dt
  tx : x.2.2.2.2.size ≤ 9223372036854775807
theorem AcOK.keep {I J : IMem} {S T : SH} {x : Ac} (hk : Keep I S J T) (h : AcOK I S x) : AcOK J T x :=
  ⟨let ⟨nm, h⟩ := h.nm; ⟨nm, h.keep hk⟩, let ⟨nm, h⟩ := h.dt; ⟨nm, h.keep hk⟩, h.tx⟩
end Go.Proofs.YtmlojdbahlfiaaaDoor
/- Names: their labels, whether they may be, what is ahead of them, what is below what; data that may be; records that may be. -/
namespace Go.Proofs.YtmlojdbahlfiaaaDoor
open Go.Px
set_option linter.unusedVariables false

theorem at0 {s : ByteArray} (h : 0 < s.size) : ∃ c : UInt8, s[0]? = some c := ⟨_, getElem?_pos s 0 h⟩
theorem at_ok {s : ByteArray} {k : Nat} (h : k < s.size) : ∃ c : UInt8, s[k]? = some c := ⟨_, getElem?_pos s k h⟩
theorem at_none {s : ByteArray} {k : Nat} (h : s.size ≤ k) : s[k]? = none := getElem?_neg s k (by omega)
theorem u8_lt (c : UInt8) : c.toNat < 256 := c.toNat_lt
theorem wrap_c (c : UInt8) : IntKind.wrap .i64 (c.toNat : Int) = (c.toNat : Int) := by have := u8_lt c; exact wrap_i64 (by omega) (by omega)
theorem wrap_1c (c : UInt8) : IntKind.wrap .i64 ((1 : Int) + (c.toNat : Int)) = ((1 + c.toNat : Nat) : Int) := by have := u8_lt c; rw [wrap_i64 (by omega) (by omega)]; omega

/-- the labels of bytes, one behind the other; with so many steps -/
def splitN : Nat → ByteArray → Option (List ByteArray)
  | 0, s => if s.size = 0 then some [] else none
  | n + 1, s => match s[0]? with
    | none => some []
    | some c => if c.toNat < 1 ∨ c.toNat > 63 ∨ s.size ≤ c.toNat then none else (splitN n (s.extract (1 + c.toNat) s.size)).map (s.extract 1 (1 + c.toNat) :: ·)
theorem splitN_fuel : ∀ (n m : Nat) (s : ByteArray), s.size ≤ n → s.size ≤ m → splitN n s = splitN m s
  | 0, 0, s, _, _ => rfl
  | 0, m + 1, s, h, _ => by
    have h0 : s.size = 0 := by omega
    rw [splitN, if_pos h0, splitN, at_none (by omega)]
  | n + 1, 0, s, _, h => by
    have h0 : s.size = 0 := by omega
    show splitN (n + 1) s = splitN 0 s
    rw [show splitN 0 s = some [] from by rw [splitN, if_pos h0], splitN, at_none (by omega)]
  | n + 1, m + 1, s, h, g => by
    rw [splitN, splitN]
    cases hc : s[0]? with
    | none => rfl
    | some c =>
      dsimp only
      split
      · rfl
      · rw [splitN_fuel n m _ (by rw [ex_size]; omega) (by rw [ex_size]; omega)]
def labN (s : ByteArray) : Option (List ByteArray) := if s.size > 254 ∨ s.toList ≠ (foldB s).toList then none else splitN s.size s
theorem Labels_runs (n : ByteArray) (I : IMem) (S : SH) : Runs Tryd.prog 36 #[.string n] I S fun v _ T =>
    ∃ own, ((labN n = none ∧ v = .tuple #[.slice none 0 0, .bool false] ∧ own = []) ∨ ∃ ls p m c, labN n = some ls ∧ v = .tuple #[.slice p m c, .bool true] ∧ OwnR 9 1 elS (.slice p m c) ls own) ∧ Sub (own ++ S) T := by
  refine name_Labels_fn _ _ _ _ ?_
  unfold name_Labels name_Labels_b1 name_Labels_b2
  refine bcase_dec (fun h => bcase_t rfl ⟨[], .inl ⟨by rw [labN, if_pos (.inl (by omega))], rfl, rfl⟩, Sub.refl _⟩) (fun h => ?_)
  refine (folded_runs n (by omega) I S).mono ?_
  rintro v J T hle ⟨rfl, rfl⟩
  refine ⟨_, rfl, bcase_not (bcase_of (fun g => ?_) (fun g => ⟨[], .inl ⟨by rw [labN, if_pos (.inr (fun e => by rw [e] at g; simp at g))], rfl, rfl⟩, Sub.refl _⟩))⟩
  have hlab : labN n = splitN n.size n := by rw [labN, if_neg]; rintro (h' | h'); · omega
                                             · exact h' (eq_of_beq g)
  unfold name_Labels_b3
  refine ⟨fun m o on oc s J' T' => J.le J' ∧ ∃ (ls : List ByteArray) (own : SH), m = s.size ∧ s.size + ls.length ≤ n.size ∧ OwnR 9 1 elS (.slice o on oc) ls own ∧ Sub (own ++ T) T' ∧ labN n = (splitN s.size s).map (ls ++ ·), n.size,
    ⟨IMem.le.refl J, [], [], rfl, by simp, OwnR.nil, Sub.refl _, by rw [hlab]; simp⟩, ?_⟩
  rintro m o on oc s J' T' - ⟨hle', ls, own, rfl, hsl, ho, hs, hl⟩
  unfold name_Labels_l4 name_Labels_b5 name_Labels_b6 name_Labels_b7 name_Labels_b8 name_Labels_b9
  have bad : splitN s.size s = none → ∃ own, ((labN n = none ∧ Value.tuple #[.slice none 0 0, .bool false] = .tuple #[.slice none 0 0, .bool false] ∧ own = []) ∨ ∃ ls p m c, labN n = some ls ∧ Value.tuple #[.slice none 0 0, .bool false] = .tuple #[.slice p m c, .bool true] ∧ OwnR 9 1 elS (.slice p m c) ls own) ∧ Sub (own ++ T) T' := fun e =>
    ⟨[], .inl ⟨by rw [hl, e]; rfl, rfl, rfl⟩, hs.right⟩
  refine bcase_dec (fun hpos => ?_) (fun hpos => ?_)
  · obtain ⟨c, hc⟩ := at0 (s := s) (by omega)
    obtain ⟨sz, hsz⟩ : ∃ k, s.size = k + 1 := ⟨s.size - 1, by omega⟩
    have hsp : splitN s.size s = if c.toNat < 1 ∨ c.toNat > 63 ∨ s.size ≤ c.toNat then none else (splitN sz (s.extract (1 + c.toNat) s.size)).map (s.extract 1 (1 + c.toNat) :: ·) := by
      conv => lhs; rw [hsz]
      rw [splitN, hc]
    refine ⟨c, by omega, hc, ?_⟩
    rw [wrap_c, wrap_1c]
    refine bcase_dec (fun h1 => bcase_t rfl (bad (by rw [hsp, if_pos (.inl (by omega))]))) (fun h1 => bcase_dec (fun h2 => bcase_t rfl (bad (by rw [hsp, if_pos (.inr (.inl (by omega)))]))) (fun h2 => bcase_dec (fun h3 => bad (by rw [hsp, if_pos (.inr (.inr (by omega)))])) (fun h3 => ?_)))
    rw [if_neg (by omega)] at hsp
    have e1 : ((1 : Int)).toNat = 1 := rfl
    rw [e1, Int.toNat_natCast]
    refine ⟨by omega, by omega, by omega, by omega, fun b40 => ?_⟩
    obtain ⟨G, hG⟩ := hs
    refine AppG.own (xs := ls) (ys := [s.extract 1 (1 + c.toNat)]) (el := elS) (own := own) (F := (b40, .cells #[.string (s.extract 1 (1 + c.toNat))] 9 (0, 0)) :: (T ++ G)) (fun _ => rfl) (fun _ => rfl) rfl ((hG.cons _).trans (by rw [List.append_assoc]; exact perm_mid1)) ho ⟨?_, rfl⟩ ?_ ?_ ?_
    · exact Rd.list (L := elS (s.extract 1 (1 + c.toNat))) rfl (by simp [elS])
    · simp only [List.length_singleton, maxLen]; omega
    · simp only [List.length_singleton]; omega
    · intro p m d own2 ho2
      have hes : (s.extract (1 + c.toNat) s.size).size = s.size - (1 + c.toNat) := by rw [ex_size]; omega
      refine ⟨by omega, by omega, s.size - (1 + c.toNat), by omega, hle', ls ++ [s.extract 1 (1 + c.toNat)], own2, hes.symm, ?_, ho2, ?_, ?_⟩
      · rw [hes, List.length_append, List.length_singleton]; omega
      · exact ⟨(b40, _) :: G, by rw [List.append_assoc]; exact List.Perm.append_left own2 perm_mid1⟩
      · rw [hl, hsp, splitN_fuel sz (s.extract (1 + c.toNat) s.size).size _ (by omega) (Nat.le_refl _)]
        cases splitN (s.extract (1 + c.toNat) s.size).size (s.extract (1 + c.toNat) s.size) <;> simp
  · have h0 : s.size = 0 := by omega
    refine ⟨own, .inr ⟨ls, o, on, oc, ?_, rfl, ho⟩, hs⟩
    rw [hl, h0, splitN, if_pos h0]; simp
theorem May_runs (n : ByteArray) (I : IMem) (S : SH) : Runs Tryd.prog 46 #[.string n] I S fun v _ T => v = .bool (labN n).isSome ∧ T = S := by
  refine Runs.drop (name_May_fn _ _ _ _ ?_)
  unfold name_May
  refine (Labels_runs n I S).mono ?_
  rintro v J T hle ⟨own, (⟨h, rfl, rfl⟩ | ⟨ls, p, m, c, h, rfl, ho⟩), hs⟩
  · exact ⟨_, _, _, _, rfl, S, hs.right, by rw [h]; rfl, rfl⟩
  · exact ⟨_, _, _, _, rfl, S, hs.right, by rw [h]; rfl, rfl⟩
/-- a name without its first label -/
def parN (n : ByteArray) : ByteArray × Bool := match n[0]? with
  | none => (⟨#[]⟩, false)
  | some c => if (labN n).isSome then (n.extract (1 + c.toNat) n.size, true) else (⟨#[]⟩, false)
theorem labN_first {n : ByteArray} {c : UInt8} (h : (labN n).isSome = true) (hc : n[0]? = some c) : 1 ≤ c.toNat ∧ c.toNat < n.size ∧ n.size ≤ 254 := by
  unfold labN at h
  split at h
  · cases h
  · rename_i h1
    have hpos : 0 < n.size := by
      rcases Nat.eq_zero_or_pos n.size with e | e
      · rw [at_none (by omega)] at hc; cases hc
      · exact e
    obtain ⟨k, hk⟩ : ∃ k, n.size = k + 1 := ⟨n.size - 1, by omega⟩
    rw [hk, splitN, hc] at h
    dsimp only at h
    split at h
    · cases h
    · exact ⟨by omega, by omega, by omega⟩
theorem Parent_runs (n : ByteArray) (I : IMem) (S : SH) : Runs Tryd.prog 26 #[.string n] I S fun v _ T => v = .tuple #[.string (parN n).1, .bool (parN n).2] ∧ T = S := by
  refine name_Parent_fn _ _ _ _ ?_
  unfold name_Parent name_Parent_b1 name_Parent_b2 name_Parent_b3
  refine bcase_beq (fun h => bcase_t rfl ⟨by rw [parN, at_none (by omega)], rfl⟩) (fun h => (May_runs n I S).mono ?_)
  rintro v J T hle ⟨rfl, rfl⟩
  obtain ⟨c, hc⟩ := at0 (s := n) (by omega)
  refine ⟨_, rfl, bcase_not (bcase_of (fun g => ?_) (fun g => ⟨?_, rfl⟩))⟩
  · obtain ⟨h1, h2, h3⟩ := labN_first g hc
    refine ⟨c, by omega, hc, ?_⟩
    rw [wrap_c, wrap_1c]
    refine ⟨by omega, by omega, ?_, rfl⟩
    rw [Int.toNat_natCast, parN, hc]
    dsimp only
    rw [if_pos g]
  · rw [parN, hc]
    dsimp only
    rw [g]; rfl
theorem parN_size {n : ByteArray} (h : (parN n).2 = true) : (parN n).1.size < n.size := by
  unfold parN at h ⊢
  cases hc : n[0]? with
  | none => rw [hc] at h; cases h
  | some c =>
    rw [hc] at h
    dsimp only at h ⊢
    split at h
    · rename_i hg
      obtain ⟨h1, h2, h3⟩ := labN_first hg hc
      rw [if_pos hg]
      dsimp only
      rw [ex_size]; omega
    · cases h
def goB : Nat → ByteArray → ByteArray → Bool → Bool
  | 0, _, _, _ => false
  | f + 1, n, on, ok => if ok then (if n.toList == on.toList then true else goB f (parN n).1 on (parN n).2) else false
def belowB (n on : ByteArray) : Bool := goB (n.size + 2) n on ((labN n).isSome && (labN on).isSome)
theorem Below_runs (n on : ByteArray) (I : IMem) (S : SH) : Runs Tryd.prog 56 #[.string n, .string on] I S fun v _ T => v = .bool (belowB n on) ∧ T = S := by
  refine name_Below_fn _ _ _ _ _ ?_
  unfold name_Below name_Below_b1
  have main : ∀ (ok : Bool) (J : IMem), ok = ((labN n).isSome && (labN on).isSome) → name_Below_b2 (fun v _ T => v = .bool (belowB n on) ∧ T = S) n on ok J S := by
    intro ok J hok
    unfold name_Below_b2
    refine ⟨fun m n' on' ok' J' T' => on' = on ∧ T' = S ∧ 1 ≤ m ∧ (ok' = true → n'.size + 2 ≤ m) ∧ belowB n on = goB m n' on ok', n.size + 2, ⟨rfl, rfl, by omega, fun _ => Nat.le_refl _, by rw [belowB, hok]⟩, ?_⟩
    rintro m n' on' ok' J' T' - ⟨rfl, rfl, hm1, hm2, hg⟩
    unfold name_Below_l3 name_Below_b4
    obtain ⟨f, rfl⟩ : ∃ f, m = f + 1 := ⟨m - 1, by omega⟩
    rw [goB] at hg
    refine bcase_of (fun h => bcase_of (fun h1 => ⟨?_, rfl⟩) (fun h1 => ?_)) (fun h => ⟨?_, rfl⟩)
    · rw [hg, if_pos h, if_pos h1]
    · rw [if_pos h, if_neg (by rw [h1]; simp)] at hg
      have := hm2 h
      refine (Parent_runs n' J' T').mono ?_
      rintro v J3 T3 hle ⟨rfl, rfl⟩
      exact ⟨_, _, rfl, f, by omega, rfl, rfl, by omega, fun h2 => by have := parN_size h2; omega, hg⟩
    · rw [hg, h]; rfl
  refine (May_runs n I S).mono ?_
  rintro v J T hle ⟨rfl, rfl⟩
  refine ⟨_, rfl, bcase_of (fun h => ?_) (fun h => main false J (by rw [h]; rfl))⟩
  refine (May_runs on J T).mono ?_
  rintro v J' T' hle' ⟨rfl, rfl⟩
  exact ⟨_, rfl, main _ J' (by rw [h]; rfl)⟩

/-! ### names in data -/
end Go.Proofs.YtmlojdbahlfiaaaDoor
/- Names are labels, each with its length ahead. -/
namespace Go.Proofs.YtmlojdbahlfiaaaDoor
open Go.Px
set_option linter.unusedVariables false
set_option linter.unusedSimpArgs false

def wl (l : ByteArray) : List UInt8 := UInt8.ofNat l.size :: l.data.toList
def wire (ls : List ByteArray) : List UInt8 := ls.flatMap wl
def nm (ls : List ByteArray) : ByteArray := ⟨(wire ls).toArray⟩
structure IsLab (l : ByteArray) : Prop where
  lo : 1 ≤ l.size
  hi : l.size ≤ 63
  low : foldB l = l
theorem dlen (l : ByteArray) : l.data.toList.length = l.size := Array.length_toList
theorem nm_size (ls : List ByteArray) : (nm ls).size = (wire ls).length := by simp [nm, ByteArray.size]
theorem wire_cons (l : ByteArray) (ls : List ByteArray) : wire (l :: ls) = UInt8.ofNat l.size :: (l.data.toList ++ wire ls) := rfl
theorem wire_app (a b : List ByteArray) : wire (a ++ b) = wire a ++ wire b := List.flatMap_append
theorem nm_app (a b : List ByteArray) : nm a ++ nm b = nm (a ++ b) := by
  apply ByteArray.ext
  rw [ByteArray.data_append]
  simp [nm, wire_app]
theorem ext_list {a b : ByteArray} (h : a.data.toList = b.data.toList) : a = b := ByteArray.ext (Array.toList_inj.1 h)
theorem ex_list (s : ByteArray) (a b : Nat) : (s.extract a b).data.toList = (s.data.toList.drop a).take (b - a) := by
  rw [ByteArray.data_extract, Array.toList_extract]

theorem nm_list (ls : List ByteArray) : (nm ls).data.toList = wire ls := by simp [nm]
theorem nm_first (l : ByteArray) (ls : List ByteArray) : (nm (l :: ls))[0]? = some (UInt8.ofNat l.size) := by
  have h : 0 < (nm (l :: ls)).size := by rw [nm_size, wire_cons]; simp
  rw [getElem?_pos _ 0 h]
  congr 1
theorem nm_rest (l : ByteArray) (ls : List ByteArray) : (nm (l :: ls)).extract (1 + l.size) (nm (l :: ls)).size = nm ls := by
  apply ext_list
  rw [ex_list, nm_list, nm_list, nm_size, wire_cons, Nat.add_comm 1, List.drop_succ_cons, drop_at (dlen l)]
  rw [List.take_of_length_le]
  simp only [List.length_cons, List.length_append, dlen]; omega
theorem nm_lab (l : ByteArray) (ls : List ByteArray) : (nm (l :: ls)).extract 1 (1 + l.size) = l := by
  apply ext_list
  rw [ex_list, nm_list, wire_cons, List.drop_succ_cons, List.drop_zero, Nat.add_sub_cancel_left, take_at (dlen l)]
theorem nm_cons_size (l : ByteArray) (ls : List ByteArray) : (nm (l :: ls)).size = 1 + l.size + (nm ls).size := by
  rw [nm_size, nm_size, wire_cons]
  simp only [List.length_cons, List.length_append, dlen]; omega
theorem nm_nil : nm [] = ⟨#[]⟩ := rfl
theorem splitN_nm : ∀ (ls : List ByteArray) (f : Nat), (nm ls).size ≤ f → (∀ l ∈ ls, 1 ≤ l.size ∧ l.size ≤ 63) → splitN f (nm ls) = some ls
  | [], f, _, _ => by
    cases f with
    | zero => rfl
    | succ f => rw [splitN, at_none (by rw [nm_nil]; exact Nat.le_refl _)]
  | l :: ls, f, hf, hl => by
    have hs := nm_cons_size l ls
    obtain ⟨h1, h2⟩ := hl l (List.mem_cons_self ..)
    obtain ⟨f, rfl⟩ : ∃ g, f = g + 1 := ⟨f - 1, by omega⟩
    rw [splitN, nm_first]
    have hc : (UInt8.ofNat l.size).toNat = l.size := ofNatU (by omega)
    simp only [hc]
    rw [if_neg (by omega), nm_rest, nm_lab, splitN_nm ls f (by omega) fun x hx => hl x (List.mem_cons_of_mem _ hx)]
    rfl
theorem fold_list (s : ByteArray) : (foldB s).data.toList = s.data.toList.map foldU := by simp [foldB]
theorem foldU_small {n : Nat} (h : n ≤ 63) : foldU (UInt8.ofNat n) = UInt8.ofNat n := by
  have : (UInt8.ofNat n).toNat = n := ofNatU (by omega)
  rw [foldU, if_neg (by omega)]
theorem fold_nm : ∀ (ls : List ByteArray), (∀ l ∈ ls, l.size ≤ 63) → foldB (nm ls) = nm (ls.map foldB)
  | [], _ => rfl
  | l :: ls, h => by
    apply ext_list
    have ih := congrArg (fun s : ByteArray => s.data.toList) (fold_nm ls fun x hx => h x (List.mem_cons_of_mem _ hx))
    rw [fold_list, nm_list, nm_list] at ih
    rw [fold_list, nm_list, nm_list, wire_cons, List.map_cons, List.map_cons, wire_cons, List.map_append, ih, foldU_small (h l (List.mem_cons_self ..)), foldB_size, fold_list]
theorem labN_nm {ls : List ByteArray} (h : ∀ l ∈ ls, IsLab l) (hs : (nm ls).size ≤ 254) : labN (nm ls) = some ls := by
  have hf : foldB (nm ls) = nm ls := by
    rw [fold_nm ls fun l hl => (h l hl).hi]
    congr 1
    have : ls.map foldB = ls.map id := List.map_congr_left fun l hl => (h l hl).low
    rw [this, List.map_id]
  rw [labN, if_neg (by
    rw [hf]
    rintro (h | h)
    · omega
    · exact h rfl)]
  exact splitN_nm ls _ (Nat.le_refl _) fun l hl => ⟨(h l hl).lo, (h l hl).hi⟩
theorem splitN_some : ∀ (f : Nat) (s : ByteArray) (ls : List ByteArray), s.size ≤ f → splitN f s = some ls → s = nm ls ∧ ∀ l ∈ ls, 1 ≤ l.size ∧ l.size ≤ 63
  | 0, s, ls, hf, h => by
    rw [splitN, if_pos (by omega)] at h
    injection h with h; subst h
    refine ⟨ext_list ?_, fun l h => by cases h⟩
    rw [nm_list]
    exact List.eq_nil_of_length_eq_zero (by rw [dlen]; omega)
  | f + 1, s, ls, hf, h => by
    rw [splitN] at h
    cases hc : s[0]? with
    | none =>
      rw [hc] at h
      injection h with h; subst h
      refine ⟨ext_list ?_, fun l h => by cases h⟩
      rw [nm_list]
      refine List.eq_nil_of_length_eq_zero ?_
      rw [dlen]
      rcases Nat.eq_zero_or_pos s.size with e | e
      · exact e
      · rw [getElem?_pos s 0 e] at hc; cases hc
    | some c =>
      rw [hc] at h
      dsimp only at h
      split at h
      · cases h
      · rename_i hg
        have hsz : c.toNat < s.size := by omega
        cases hr : splitN f (s.extract (1 + c.toNat) s.size) with
        | none => rw [hr] at h; cases h
        | some ms =>
          rw [hr] at h
          injection h with h; subst h
          obtain ⟨h1, h2⟩ := splitN_some f _ ms (by rw [ex_size]; omega) hr
          have hl : (s.extract 1 (1 + c.toNat)).size = c.toNat := by rw [ex_size]; omega
          refine ⟨ext_list ?_, fun l hm => ?_⟩
          · have h3 : (s.extract (1 + c.toNat) s.size).data.toList = wire ms := by rw [h1, nm_list]
            rw [ex_list, List.take_of_length_le (by rw [List.length_drop, dlen]; omega)] at h3
            have hpos : 0 < s.data.toList.length := by rw [dlen]; omega
            have h0 : s.data.toList = c :: s.data.toList.drop 1 := by
              have e : s.data.toList[0]? = some c := by
                rw [getElem?_pos s 0 (by omega)] at hc
                rw [List.getElem?_eq_getElem hpos]
                exact hc
              rw [List.getElem?_eq_getElem hpos] at e
              injection e with e
              conv => lhs; rw [← List.drop_zero (l := s.data.toList), List.drop_eq_getElem_cons hpos]
              rw [e]
            have hcc : UInt8.ofNat c.toNat = c := by simp
            rw [nm_list, wire_cons, hl, hcc, ← h3, ex_list, Nat.add_sub_cancel_left, ← List.drop_drop, List.take_append_drop]
            exact h0
          · rcases List.mem_cons.1 hm with rfl | hm
            · rw [hl]; omega
            · exact h2 l hm
theorem map_fix {f : UInt8 → UInt8} : ∀ {l : List UInt8}, l.map f = l → ∀ x ∈ l, f x = x
  | [], _, x, h => by cases h
  | y :: l, h, x, hx => by
    rw [List.map_cons] at h
    injection h with h1 h2
    rcases List.mem_cons.1 hx with rfl | hx
    · exact h1
    · exact map_fix h2 x hx
theorem labN_some {s : ByteArray} {ls : List ByteArray} (h : labN s = some ls) : s = nm ls ∧ (∀ l ∈ ls, IsLab l) ∧ s.size ≤ 254 := by
  unfold labN at h
  split at h
  · cases h
  · rename_i hg
    obtain ⟨h1, h2⟩ := splitN_some _ _ _ (Nat.le_refl _) h
    have hf : foldB s = s := Classical.byContradiction fun e => hg (.inr fun e' => e (toList_inj e').symm)
    refine ⟨h1, fun l hl => ⟨(h2 l hl).1, (h2 l hl).2, ext_list ?_⟩, by omega⟩
    have hb : ∀ b ∈ wire ls, foldU b = b := map_fix (by rw [← nm_list, ← fold_list, ← h1, hf])
    rw [fold_list]
    have : l.data.toList.map foldU = l.data.toList.map id := List.map_congr_left fun b hbm => hb b (List.mem_flatMap.2 ⟨l, hl, List.mem_cons_of_mem _ hbm⟩)
    rw [this, List.map_id]
/-- a name -/
def IsName (s : ByteArray) : Prop := ∃ ls, s = nm ls ∧ (∀ l ∈ ls, IsLab l) ∧ s.size ≤ 254
theorem isName_iff {s : ByteArray} : IsName s ↔ (labN s).isSome = true := by
  constructor
  · rintro ⟨ls, rfl, h1, h2⟩
    rw [labN_nm h1 h2]; rfl
  · intro h
    obtain ⟨ls, h⟩ := Option.isSome_iff_exists.1 h
    exact ⟨ls, labN_some h⟩
/-- a name below another one -/
theorem parN_nm {l : ByteArray} {ls : List ByteArray} (h : ∀ x ∈ l :: ls, IsLab x) (hs : (nm (l :: ls)).size ≤ 254) : parN (nm (l :: ls)) = (nm ls, true) := by
  have hl := h l (List.mem_cons_self ..)
  have hh := hl.hi
  have hc : (UInt8.ofNat l.size).toNat = l.size := ofNatU (by omega)
  unfold parN
  rw [nm_first]
  simp only [labN_nm h hs, Option.isSome_some, if_true, hc, nm_rest]
theorem goB_nm : ∀ (a b : List ByteArray) (f : Nat), a.length < f → (∀ l ∈ a ++ b, IsLab l) → (nm (a ++ b)).size ≤ 254 → goB f (nm (a ++ b)) (nm b) true = true
  | [], b, f, hf, hl, hs => by
    obtain ⟨f, rfl⟩ : ∃ g, f = g + 1 := ⟨f - 1, by omega⟩
    rw [List.nil_append, goB, if_pos rfl, if_pos (by simp)]
  | l :: a, b, f, hf, hl, hs => by
    obtain ⟨f, rfl⟩ : ∃ g, f = g + 1 := ⟨f - 1, by omega⟩
    rw [goB, if_pos rfl]
    split
    · rfl
    · have hp := parN_nm (l := l) (ls := a ++ b) hl hs
      have hz := nm_cons_size l (a ++ b)
      rw [List.cons_append, hp]
      exact goB_nm a b f (by simpa using hf) (fun x hx => hl x (List.mem_cons_of_mem _ hx)) (by rw [List.cons_append] at hs; omega)
theorem wire_len : ∀ ls : List ByteArray, ls.length ≤ (wire ls).length
  | [] => Nat.le_refl _
  | l :: ls => by
    have := wire_len ls
    rw [wire_cons]
    simp only [List.length_cons, List.length_append]; omega
theorem belowB_nm {a b : List ByteArray} (h : ∀ l ∈ a ++ b, IsLab l) (hs : (nm (a ++ b)).size ≤ 254) : belowB (nm (a ++ b)) (nm b) = true := by
  have hb : (nm b).size ≤ 254 := by
    rw [nm_size, wire_app, List.length_append] at hs
    rw [nm_size]; omega
  unfold belowB
  rw [labN_nm h hs, labN_nm (fun l hl => h l (List.mem_append_right _ hl)) hb]
  refine goB_nm a b _ ?_ h hs
  have h1 := wire_len (a ++ b)
  rw [nm_size]
  rw [List.length_append] at h1; omega
theorem below_app {x o : ByteArray} (hx : IsName x) (ho : IsName o) (hs : x.size + o.size ≤ 254) : IsName (x ++ o) ∧ belowB (x ++ o) o = true := by
  obtain ⟨a, rfl, ha, _⟩ := hx
  obtain ⟨b, rfl, hb, _⟩ := ho
  have hl : ∀ l ∈ a ++ b, IsLab l := fun l h => (List.mem_append.1 h).elim (ha l) (hb l)
  have hz : (nm (a ++ b)).size ≤ 254 := by rw [← nm_app, app_size]; exact hs
  rw [nm_app]
  exact ⟨⟨_, rfl, hl, hz⟩, belowB_nm hl hz⟩
end Go.Proofs.YtmlojdbahlfiaaaDoor
/- A prefix's labels: owner.four, owner.six, owner.Prefix. -/
namespace Go.Proofs.YtmlojdbahlfiaaaDoor
open Go.Px
set_option linter.unusedVariables false
set_option linter.unusedSimpArgs false
set_option maxRecDepth 8000

abbrev OwnS (v : Value) (xs : List ByteArray) (own : SH) : Prop := OwnR 9 1 elS v xs own
abbrev strL (xs : List ByteArray) : List Value := xs.map Value.string
theorem flat_elS : ∀ xs : List ByteArray, xs.flatMap elS = strL xs
  | [] => rfl
  | x :: xs => by rw [List.flatMap_cons, flat_elS xs]; rfl
theorem map_set_at {α : Type} (f : α → Value) {xs : List α} {i : Nat} (h : i < xs.length) (y : α) (rest : List Value) :
    (xs.map f ++ rest).take i ++ [f y] ++ (xs.map f ++ rest).drop (i + 1) = (xs.set i y).map f ++ rest := by
  rw [List.take_append_of_le_length (by simp; omega), List.drop_append_of_le_length (by simp; omega), List.set_eq_take_append_cons_drop, if_pos h]
  simp
theorem AppS1 {xs : List ByteArray} {l : ByteArray} {b : Nat} {v : Value} {S F own : SH} {I : IMem} {K : Option Addr → Nat → Nat → SH → Prop} (hs : Sub (own ++ F) S) (hv : OwnS v xs own) (hl : xs.length ≤ 1000000000)
    (hK : ∀ p n c own' T, OwnS (.slice p n c) (xs ++ [l]) own' → Sub (own' ++ F) T → K p n c T) :
    AppG 9 1 16 [.string ⟨#[]⟩] (some (.slice 9)) I ((b, .cells #[.string l] 9 (0, 0)) :: S) v (.slice (some ⟨b, 0, none⟩) 1 1) K := by
  obtain ⟨G, hG⟩ := hs
  refine AppG.own (xs := xs) (ys := [l]) (el := elS) (own := own) (F := (b, .cells #[.string l] 9 (0, 0)) :: (F ++ G)) (fun _ => rfl) (fun _ => rfl) rfl ((hG.cons _).trans (by rw [List.append_assoc]; exact perm_mid1)) hv ⟨?_, rfl⟩ ?_ ?_ ?_
  · exact Rd.list (L := elS l) rfl (by simp [elS])
  · simp only [List.length_singleton, maxLen]; omega
  · simp only [List.length_singleton]; omega
  · intro p n c own' ho
    exact hK p n c own' _ ho ⟨(b, .cells #[.string l] 9 (0, 0)) :: G, by rw [List.append_assoc]; exact List.Perm.append_left own' perm_mid1⟩
theorem AppSs {xs ys : List ByteArray} {a : Option Addr} {c : Nat} {v : Value} {S F own : SH} {I : IMem} {K : Option Addr → Nat → Nat → SH → Prop} (hs : Sub (own ++ F) S) (hv : OwnS v xs own) (hy : RowIn I S a ys.length 1 elS ys) (hl : (xs.length + ys.length) * 16 ≤ 140737488355328)
    (hK : ∀ p n c own' T, OwnS (.slice p n c) (xs ++ ys) own' → Sub (own' ++ F) T → K p n c T) :
    AppG 9 1 16 [.string ⟨#[]⟩] (some (.slice 9)) I S v (.slice a ys.length c) K := by
  obtain ⟨G, hG⟩ := hs
  refine AppG.own (xs := xs) (ys := ys) (el := elS) (own := own) (F := F ++ G) (fun _ => rfl) (fun _ => rfl) rfl (by rw [← List.append_assoc]; exact hG) hv ⟨RowIn.rd (el := elS) (sz := 1) (fun _ => rfl) Nat.one_pos hy, flatMap_one (el := elS) (fun _ => rfl) _⟩ ?_ ?_ ?_
  · simp only [maxLen]; omega
  · omega
  · intro p n c own' ho
    exact hK p n c own' _ ho ⟨G, by rw [List.append_assoc]⟩
theorem OwnS.mk {xs : List ByteArray} {g cap : Nat} {rest : List Value} (h : xs.length + rest.length = cap) (hm : cap ≤ maxLen) : OwnS (.slice (some ⟨g, 0, none⟩) xs.length cap) xs [(g, .cells (strL xs ++ rest).toArray 9 (0, 0))] :=
  .inr ⟨g, cap, rest, rfl, by rw [flat_elS], by omega, hm⟩
theorem OwnS.cases {a : Option Addr} {n c : Nat} {xs : List ByteArray} {own : SH} (h : OwnS (.slice a n c) xs own) : (a = none ∧ n = 0 ∧ c = 0 ∧ xs = [] ∧ own = []) ∨
    ∃ g rest, a = some ⟨g, 0, none⟩ ∧ n = xs.length ∧ own = [(g, .cells (strL xs ++ rest).toArray 9 (0, 0))] ∧ xs.length + rest.length = c ∧ c ≤ maxLen := by
  rcases h with ⟨hv, rfl, rfl⟩ | ⟨g, cap, rest, hv, rfl, hc, hm⟩
  · injection hv with h1 h2 h3; exact .inl ⟨h1, h2, h3, rfl, rfl⟩
  · injection hv with h1 h2 h3; subst h3
    exact .inr ⟨g, rest, h1, h2, by rw [flat_elS], by omega, hm⟩
theorem OwnS.row {I : IMem} {a : Option Addr} {n c : Nat} {xs : List ByteArray} {own : SH} (h : OwnS (.slice a n c) xs own) : RowIn I own a n 1 elS xs := OwnR.row (el := elS) (sz := 1) (fun _ => rfl) h

/-! ### four -/
def bat (a : ByteArray) (k : Nat) : Nat := (a[k]?.map (·.toNat)).getD 0
theorem bat_of {a : ByteArray} {k : Nat} {c : UInt8} (h : a[k]? = some c) : bat a k = c.toNat := by rw [bat, h]; rfl
theorem bat_lt (a : ByteArray) (k : Nat) : bat a k < 256 := by
  rw [bat]
  cases a[k]? with
  | none => decide
  | some c => exact c.toNat_lt
def fourL (a : ByteArray) : List ByteArray := [decB (bat a 3), decB (bat a 2), decB (bat a 1), decB (bat a 0)]
theorem fourL_at (a : ByteArray) {j : Nat} (h : j < 4) : (fourL a)[j]? = some (decB (bat a (3 - j))) := by
  rcases j with _ | _ | _ | _ | j
  · rfl
  · rfl
  · rfl
  · rfl
  · omega
theorem four_runs {a : ByteArray} (ha : a.size = 4) {I : IMem} (g : GL I) (S : SH) : Runs Tryd.prog 60 #[.string a] I S fun v _ T => ∃ own, OwnS v (fourL a) own ∧ Sub (own ++ S) T := by
  refine owner_four_fn _ _ _ _ ?_
  unfold owner_four owner_four_b1 owner_four_b2
  refine ⟨fun m s o on oc k J T => s = a ∧ I.le J ∧ ∃ (j : Nat) (own : SH), j ≤ 4 ∧ k = 3 - (j : Int) ∧ m = 4 - j ∧ OwnS (.slice o on oc) ((fourL a).take j) own ∧ Sub (own ++ S) T, 4, ⟨rfl, IMem.le.refl I, 0, [], by omega, rfl, rfl, OwnR.nil, Sub.refl _⟩, ?_⟩
  rintro m s o on oc k J T - ⟨rfl, hle, j, own, hj, rfl, rfl, ho, hs⟩
  unfold owner_four_l3 owner_four_b4
  refine bcase_dec (fun h => ?_) (fun h => ?_)
  · have hk : (3 - (j : Int)).toNat = 3 - j := by omega
    rw [hk]
    obtain ⟨c, hc⟩ := at_ok (s := s) (k := 3 - j) (by omega)
    refine ⟨c, by omega, hc, ?_⟩
    rw [wrap_c]
    refine (Itoa_runs (n := c.toNat) (by have := c.toNat_lt; omega) (g.le hle) T).mono ?_
    rintro v J1 T1 hle1 ⟨rfl, rfl⟩
    refine ⟨_, rfl, fun b15 => AppS1 hs ho (by rw [List.length_take]; simp [fourL]; omega) ?_⟩
    intro p n c' own' T' ho' hs'
    refine ⟨4 - (j + 1), by omega, rfl, hle.trans hle1, j + 1, own', by omega, ?_, rfl, ?_, hs'⟩
    · rw [wrap_i64 (by omega) (by omega)]; omega
    · rw [take_snoc (fourL_at s (j := j) (by omega)), bat_of hc]; exact ho'
  · have : j = 4 := by omega
    subst this
    exact ⟨own, ho, hs⟩

/-! ### reversed -/
theorem Rev_runs {xs : List ByteArray} {g c : Nat} {rest : List Value} {e : TypeId} (hl : xs.length ≤ 4611686018427387904) (I : IMem) (F : SH) :
    Runs Tryd.prog 71 #[.slice (some ⟨g, 0, none⟩) xs.length c] I ((g, .cells (strL xs ++ rest).toArray e (0, 0)) :: F) fun v _ T => v = .tuple #[] ∧ T = (g, .cells (strL xs.reverse ++ rest).toArray e (0, 0)) :: F := by
  refine slices_Reverse__string_string_fn _ _ _ _ _ _ ?_
  unfold slices_Reverse__string_string slices_Reverse__string_string_b1
  rw [wrap_i64 (x := (xs.length : Int) - 1) (by omega) (by omega)]
  refine ⟨fun m s sn sc i j J T => s = some ⟨g, 0, none⟩ ∧ sn = xs.length ∧ ∃ (k : Nat) (ys : List ByteArray), i = (k : Int) ∧ j = (xs.length : Int) - 1 - (k : Int) ∧ m = xs.length - k ∧ k ≤ xs.length ∧ ys.length = xs.length ∧
      (∀ t, t < xs.length → ys[t]? = if t < k ∨ xs.length - 1 - k < t then xs[xs.length - 1 - t]? else xs[t]?) ∧ T = (g, .cells (strL ys ++ rest).toArray e (0, 0)) :: F,
    xs.length, ⟨rfl, rfl, 0, xs, rfl, by omega, rfl, Nat.zero_le _, rfl, fun t ht => by rw [if_neg (by omega)], rfl⟩, ?_⟩
  rintro m s sn sc i j J T - ⟨rfl, rfl, k, ys, rfl, rfl, rfl, hk, hyl, hy, rfl⟩
  unfold slices_Reverse__string_string_l2
  refine bcase_dec (fun h => ?_) (fun h => ⟨rfl, ?_⟩)
  · unfold slices_Reverse__string_string_b3 slices_Reverse__string_string_b4
    have hj : ((xs.length : Int) - 1 - (k : Int)).toNat = xs.length - 1 - k := by omega
    obtain ⟨x, hx⟩ := get_lt (xs := ys) (k := xs.length - 1 - k) (by omega)
    obtain ⟨y, hyk⟩ := get_lt (xs := ys) (k := k) (by omega)
    have ea : ∀ t : Nat, (⟨g, 0, none⟩ : Addr).add (t * 1) = ⟨g, t, none⟩ := fun t => by rw [add_mk]; congr 1; omega
    have cell : ∀ (zs : List ByteArray) (t : Nat) (z : ByteArray), zs[t]? = some z → Cell J ((g, .cells (strL zs ++ rest).toArray e (0, 0)) :: F) ⟨g, t, none⟩ (.string z) := fun zs t z hz => by
      refine Cell.at0 ?_
      rw [List.getElem?_toArray, List.getElem?_append_left (by rw [List.length_map]; exact lt_get hz), List.getElem?_map, hz]; rfl
    refine ⟨by omega, by omega, x, by rw [hj, ea]; exact cell _ _ _ hx, by omega, by omega, y, by rw [Int.toNat_natCast, ea]; exact cell _ _ _ hyk, by omega, by omega, ?_⟩
    rw [Int.toNat_natCast, ea]
    refine StP.list (o := k) (by simp; omega) rfl ?_
    rw [List.length_singleton, map_set_at Value.string (by omega : k < ys.length)]
    refine ⟨by omega, by omega, ?_⟩
    rw [hj, ea]
    refine StP.list (o := xs.length - 1 - k) (by simp; omega) rfl ?_
    rw [List.length_singleton, map_set_at Value.string (by rw [List.length_set]; omega)]
    refine ⟨xs.length - (k + 1), by omega, rfl, rfl, k + 1, (ys.set k x).set (xs.length - 1 - k) y, by rw [wrap_i64 (by omega) (by omega)]; rfl, by rw [wrap_i64 (by omega) (by omega)]; omega, rfl, by omega, by simp [hyl], fun t ht => ?_, rfl⟩
    have hxk : ys[xs.length - 1 - k]? = xs[xs.length - 1 - k]? := by rw [hy _ (by omega), if_neg (by omega)]
    have hyk' : ys[k]? = xs[k]? := by rw [hy _ (by omega), if_neg (by omega)]
    rw [List.getElem?_set, List.getElem?_set]
    by_cases h1 : xs.length - 1 - k = t
    · rw [if_pos h1, if_pos (by rw [List.length_set]; omega), if_pos (by omega), ← hyk, hyk', ← h1]
      congr 1; omega
    · rw [if_neg h1]
      by_cases h2 : k = t
      · rw [if_pos h2, if_pos (by omega), if_pos (by omega), ← hx, hxk, h2]
      · rw [if_neg h2, hy t ht]
        by_cases h3 : t < k ∨ xs.length - 1 - k < t
        · rw [if_pos h3, if_pos (by omega)]
        · rw [if_neg h3, if_neg (by omega)]
  · have : ys = xs.reverse := by
      apply List.ext_getElem?
      intro t
      by_cases ht : t < xs.length
      · rw [hy t ht, List.getElem?_reverse ht]
        by_cases h3 : t < k ∨ xs.length - 1 - k < t
        · rw [if_pos h3]
        · rw [if_neg h3]; congr 1; omega
      · rw [List.getElem?_eq_none (by omega), List.getElem?_eq_none (by simp; omega)]
    rw [this]
theorem RevO_runs {xs : List ByteArray} {p : Option Addr} {n c : Nat} {own : SH} (h : OwnS (.slice p n c) xs own) (hl : xs.length ≤ 4611686018427387904) (I : IMem) (F : SH) :
    Runs Tryd.prog 71 #[.slice p n c] I (own ++ F) fun v _ T => v = .tuple #[] ∧ ∃ own', OwnS (.slice p n c) xs.reverse own' ∧ T = own' ++ F := by
  rcases h with ⟨hv, rfl, rfl⟩ | ⟨g, cap, rest, hv, rfl, hc, hm⟩
  · injection hv with h1 h2 h3; subst h1; subst h2; subst h3
    refine slices_Reverse__string_string_fn _ _ _ _ _ _ ?_
    unfold slices_Reverse__string_string slices_Reverse__string_string_b1 slices_Reverse__string_string_l2
    refine ⟨fun m s sn sc i j J T => i = 0 ∧ j < 0 ∧ T = [] ++ F, 0, ⟨rfl, by decide, rfl⟩, ?_⟩
    rintro m s sn sc i j J T - ⟨rfl, hj, rfl⟩
    exact bcase_f (decide_eq_false (by omega)) ⟨rfl, [], .inl ⟨rfl, rfl, rfl⟩, rfl⟩
  · injection hv with h1 h2 h3; subst h1; subst h2; subst h3
    rw [flat_elS]
    refine (Rev_runs hl I F).mono ?_
    rintro v J T _ ⟨rfl, rfl⟩
    refine ⟨rfl, _, .inr ⟨g, c, rest, by rw [List.length_reverse], rfl, by rw [List.length_reverse]; exact hc, hm⟩, ?_⟩
    rw [flat_elS]; rfl
end Go.Proofs.YtmlojdbahlfiaaaDoor
/- A prefix's labels: owner.six, owner.Prefix. -/
namespace Go.Proofs.YtmlojdbahlfiaaaDoor
open Go.Px
set_option linter.unusedVariables false
set_option linter.unusedSimpArgs false
set_option maxRecDepth 8000

def wordsB (a : ByteArray) : List Nat := (List.range 8).map fun k => bat a (2 * k) * 256 + bat a (2 * k + 1)
theorem wordsB_ws (a : ByteArray) : Ws (wordsB a) := by
  refine ⟨by simp [wordsB], fun w hw => ?_⟩
  obtain ⟨k, _, rfl⟩ := List.mem_map.1 hw
  have h1 := bat_lt a (2 * k); have h2 := bat_lt a (2 * k + 1)
  omega
theorem wordsB_at (a : ByteArray) {k : Nat} (h : k < 8) : (wordsB a)[k]? = some (bat a (2 * k) * 256 + bat a (2 * k + 1)) := by
  rw [wordsB, List.getElem?_map, List.getElem?_range h]; rfl
theorem ior8 {x y : Nat} (hx : x < 256) (hy : y < 256) : ior .i64 (IntKind.wrap .i64 ((x : Int) * 2 ^ (min (8 : Int).toNat (IntKind.bits .i64)))) (y : Int) = ((x * 256 + y : Nat) : Int) := by
  have e0 : (2 : Int) ^ (min (8 : Int).toNat (IntKind.bits .i64)) = 256 := by decide
  rw [e0, wrap_i64 (by omega) (by omega)]
  have h1 : (BitVec.ofInt (IntKind.bits .i64) ((x : Int) * 256) ||| BitVec.ofInt (IntKind.bits .i64) (y : Int)).toNat = x * 256 + y := by
    rw [BitVec.toNat_or, show ((x : Int) * 256) = ((x * 256 : Nat) : Int) by omega, BitVec.ofInt_natCast, BitVec.ofInt_natCast]
    have e1 : (BitVec.ofNat (IntKind.bits .i64) (x * 256)).toNat = x * 256 := by rw [BitVec.toNat_ofNat]; exact Nat.mod_eq_of_lt (by show x * 256 < 2 ^ 64; omega)
    have e2 : (BitVec.ofNat (IntKind.bits .i64) y).toNat = y := by rw [BitVec.toNat_ofNat]; exact Nat.mod_eq_of_lt (by show y < 2 ^ 64; omega)
    rw [e1, e2]
    have := Nat.two_pow_add_eq_or_of_lt (i := 8) (b := y) (by omega) x
    rw [Nat.mul_comm x 256]
    exact this.symm
  unfold ior
  rw [h1]
  exact wrap_i64 (by omega) (by omega)
def intV (n : Nat) : Value := .int .i64 (n : Int)
theorem zr_cons (b : Bool) (z : List Bool) : zr (b :: z) = if b then 1 + zr z else 0 := by
  cases b <;> simp [zr, Nat.add_comm]
theorem six_runs {a : ByteArray} (ha : a.size = 16) {I : IMem} (g : GL I) (S : SH) : Runs Tryd.prog 61 #[.string a] I S fun v _ T => ∃ own, OwnS v (sixL (wordsB a)) own ∧ Sub (own ++ S) T := by
  have hws := wordsB_ws a
  have hg := good_of hws.zlen
  simp only [goodZ, Bool.and_eq_true, decide_eq_true_eq] at hg
  obtain ⟨⟨⟨⟨⟨⟨⟨⟨⟨⟨⟨⟨⟨⟨-, -⟩, -⟩, -⟩, -⟩, hfl⟩, -⟩, -⟩, ha1⟩, hm1⟩, hm2⟩, -⟩, -⟩, -⟩, -⟩ := hg
  refine owner_six_fn _ _ _ _ ?_
  unfold owner_six owner_six_b1 owner_six_b2
  refine ⟨by decide, by decide, by decide, by decide, fun b11 => ?_⟩
  refine ⟨fun m s w wn wc q i J T => s = a ∧ w = some ⟨b11, 0, none⟩ ∧ wn = 8 ∧ q = 8 ∧ I.le J ∧ ∃ (k : Nat) (ys : List Nat), i = (k : Int) ∧ k ≤ 8 ∧ m = 8 - k ∧ ys.length = 8 ∧ (∀ t, t < k → ys[t]? = (wordsB a)[t]?) ∧
      T = (b11, .cells (ys.map intV).toArray 3 (0, 0)) :: S, 8, ⟨rfl, rfl, rfl, rfl, IMem.le.refl I, 0, [0, 0, 0, 0, 0, 0, 0, 0], rfl, by omega, rfl, rfl, fun t ht => by omega, rfl⟩, ?_⟩
  rintro m s w wn wc q i J T - ⟨rfl, rfl, rfl, rfl, hle, k, ys, rfl, hk, rfl, hyl, hy, rfl⟩
  have ea : ∀ t : Nat, (⟨b11, 0, none⟩ : Addr).add (t * 1) = ⟨b11, t, none⟩ := fun t => by rw [add_mk]; congr 1; omega
  unfold owner_six_l3
  refine bcase_dec (fun h => ?_) (fun h => ?_)
  · unfold owner_six_b4 owner_six_b5 owner_six_b6
    rw [wrap_i64 (x := 2 * (k : Int)) (by omega) (by omega), wrap_i64 (x := 2 * (k : Int) + 1) (by omega) (by omega)]
    obtain ⟨c, hc⟩ := at_ok (s := s) (k := 2 * k) (by omega)
    obtain ⟨d, hd⟩ := at_ok (s := s) (k := 2 * k + 1) (by omega)
    rw [show (2 * (k : Int)).toNat = 2 * k by omega, show (2 * (k : Int) + 1).toNat = 2 * k + 1 by omega]
    refine ⟨c, by omega, hc, d, by omega, hd, by omega, by omega, ?_⟩
    rw [wrap_c, wrap_c, ior8 (by have := c.toNat_lt; omega) (by have := d.toNat_lt; omega), Int.toNat_natCast, ea]
    refine StP.list (o := k) (by simp; omega) rfl ?_
    have hset := map_set_at intV (xs := ys) (i := k) (by omega) (c.toNat * 256 + d.toNat) []
    rw [List.append_nil, List.append_nil] at hset
    rw [List.length_singleton, show [Value.int .i64 ((c.toNat * 256 + d.toNat : Nat) : Int)] = [intV (c.toNat * 256 + d.toNat)] from rfl, hset]
    refine ⟨8 - (k + 1), by omega, rfl, rfl, rfl, rfl, hle, k + 1, ys.set k (c.toNat * 256 + d.toNat), by rw [wrap_i64 (by omega) (by omega)]; rfl, by omega, rfl, by simp [hyl], fun t ht => ?_, rfl⟩
    rw [List.getElem?_set]
    by_cases e : k = t
    · rw [if_pos e, if_pos (by omega), ← e, wordsB_at s (by omega), bat_of hc, bat_of hd]
    · rw [if_neg e]; exact hy t (by omega)
  have hk8 : k = 8 := by omega
  have hys : ys = wordsB s := by
    apply List.ext_getElem?
    intro t
    by_cases ht : t < 8
    · exact hy t (by omega)
    · rw [List.getElem?_eq_none (by omega), List.getElem?_eq_none (by rw [hws.len]; omega)]
  subst hys
  have hlen := hws.len
  have cell : ∀ (J : IMem) (G : SH) (t : Nat), t < 8 → ∃ w, (wordsB s)[t]? = some w ∧ w < 65536 ∧ (zs (wordsB s))[t]? = some (w == 0) ∧ Cell J ((b11, .cells ((wordsB s).map intV).toArray 3 (0, 0)) :: G) ⟨b11, t, none⟩ (.int .i64 (w : Int)) := by
    intro J G t ht
    obtain ⟨w, hw⟩ := get_lt (xs := wordsB s) (k := t) (by omega)
    refine ⟨w, hw, hws.lt w (List.mem_of_getElem? hw), by rw [zs, List.getElem?_map, hw]; rfl, Cell.at0 ?_⟩
    rw [List.getElem?_toArray, List.getElem?_map, hw]; rfl
  generalize hz : zs (wordsB s) = z at *
  have hzl : z.length = 8 := by rw [← hz]; exact hws.zlen
  have hbnd : ∀ k, k ≤ 8 → -1 ≤ (bp z k).1 ∧ (bp z k).1 ≤ 8 ∧ 1 ≤ (bp z k).2 ∧ (bp z k).2 ≤ 8 := by
    intro k
    induction k with
    | zero => intro _; simp [bp]
    | succ k ih =>
      intro h
      have h1 := ih (by omega)
      have h2 := zr_le (z.drop k)
      rw [List.length_drop, hzl] at h2
      simp only [bp, stp]
      split
      · exact ⟨by dsimp only; omega, by dsimp only; omega, by dsimp only; omega, by dsimp only; omega⟩
      · exact h1
  unfold owner_six_b7 owner_six_b8 owner_six_b9
  refine ⟨fun m w wn wc fr mo i J1 T => w = some ⟨b11, 0, none⟩ ∧ wn = 8 ∧ J.le J1 ∧ T = (b11, .cells ((wordsB s).map intV).toArray 3 (0, 0)) :: S ∧ ∃ k : Nat, i = (k : Int) ∧ k ≤ 8 ∧ m = 8 - k ∧ fr = (bp z k).1 ∧ mo = (bp z k).2,
    8, ⟨rfl, rfl, IMem.le.refl J, rfl, 0, rfl, by omega, rfl, rfl, rfl⟩, ?_⟩
  rintro m w wn wc fr mo i J1 T - ⟨rfl, rfl, hle1, rfl, k, rfl, hk, rfl, rfl, rfl⟩
  unfold owner_six_l10
  refine bcase_dec (fun h => ?_) (fun h => ?_)
  · unfold owner_six_b11 owner_six_b12
    refine ⟨fun m w wn wc fr mo i n J2 T => w = some ⟨b11, 0, none⟩ ∧ wn = 8 ∧ fr = (bp z k).1 ∧ mo = (bp z k).2 ∧ i = (k : Int) ∧ J1.le J2 ∧ T = (b11, .cells ((wordsB s).map intV).toArray 3 (0, 0)) :: S ∧ ∃ j : Nat, n = (j : Int) ∧ k + j ≤ 8 ∧ m = 8 - j ∧ zr (z.drop k) = j + zr (z.drop (k + j)),
      8, ⟨rfl, rfl, rfl, rfl, rfl, IMem.le.refl J1, rfl, 0, rfl, by omega, rfl, by simp⟩, ?_⟩
    rintro m w wn wc fr mo i n J2 T - ⟨rfl, rfl, rfl, rfl, rfl, hle2, rfl, j, rfl, hj, rfl, hzr⟩
    unfold owner_six_l13
    have hw : IntKind.wrap .i64 ((k : Int) + (j : Int)) = ((k + j : Nat) : Int) := by rw [wrap_i64 (by omega) (by omega)]; omega
    rw [hw]
    have stop : zr (z.drop (k + j)) = 0 → owner_six_b16 (fun words_3 words_3n words_3c at_5 most_6 k_7 I_1 S_1 => ∃ m', m' < 8 - k ∧ words_3 = some ⟨b11, 0, none⟩ ∧ words_3n = 8 ∧ J.le I_1 ∧ S_1 = (b11, .cells ((wordsB s).map intV).toArray 3 (0, 0)) :: S ∧ ∃ k : Nat, k_7 = (k : Int) ∧ k ≤ 8 ∧ m' = 8 - k ∧ at_5 = (bp z k).1 ∧ most_6 = (bp z k).2)
        (fun v _ T => ∃ own, OwnS v (sixL (wordsB s)) own ∧ Sub (own ++ S) T) (some ⟨b11, 0, none⟩) 8 wc (bp z k).1 (bp z k).2 (k : Int) (j : Int) J2 ((b11, .cells ((wordsB s).map intV).toArray 3 (0, 0)) :: S) := by
      intro h0
      have hn : zr (z.drop k) = j := by omega
      unfold owner_six_b16 owner_six_b17
      refine bcase_dec (fun g1 => ?_) (fun g1 => ?_)
      · refine ⟨8 - (k + 1), by omega, rfl, rfl, hle1.trans hle2, rfl, k + 1, by rw [wrap_i64 (by omega) (by omega)]; rfl, by omega, rfl, ?_, ?_⟩
        · rw [bp, stp, if_pos (by rw [hn]; omega)]
        · rw [bp, stp, if_pos (by rw [hn]; omega), hn]
      · refine ⟨8 - (k + 1), by omega, rfl, rfl, hle1.trans hle2, rfl, k + 1, by rw [wrap_i64 (by omega) (by omega)]; rfl, by omega, rfl, ?_, ?_⟩
        · rw [bp, stp, if_neg (by rw [hn]; omega)]
        · rw [bp, stp, if_neg (by rw [hn]; omega)]
    refine bcase_dec (fun h1 => ?_) (fun h1 => ?_)
    · obtain ⟨w, hw1, hw2, hw3, hw4⟩ := cell J2 S (k + j) (by omega)
      refine ⟨by omega, by omega, w, by rw [Int.toNat_natCast, ea]; exact hw4, ?_⟩
      have hd : z.drop (k + j) = (w == 0) :: z.drop (k + j + 1) := by
        rw [List.drop_eq_getElem_cons (by omega)]
        rw [List.getElem?_eq_getElem (by omega)] at hw3
        rw [Option.some.inj hw3]
      unfold owner_six_b14
      refine bcase_beq (fun e => ?_) (fun e => stop ?_)
      · have ew : w = 0 := by omega
        subst ew
        unfold owner_six_b15
        refine ⟨8 - (j + 1), by omega, rfl, rfl, rfl, rfl, rfl, hle2, rfl, j + 1, by rw [wrap_i64 (by omega) (by omega)]; rfl, by omega, rfl, ?_⟩
        rw [hzr, hd, zr_cons, if_pos (by decide), Nat.add_assoc k j 1]; omega
      · rw [hd, zr_cons, if_neg (by simp; omega)]
    · unfold owner_six_b14
      refine bcase_f rfl (stop ?_)
      rw [List.drop_of_length_le (by omega)]; rfl
  · have hk8 : k = 8 := by omega
    subst hk8
    unfold owner_six_b18 owner_six_b19 owner_six_b20
    have hren : ∀ t, ren (wordsB s) t = ren (wordsB s) t := fun _ => rfl
    refine ⟨fun m w wn wc fr mo o on oc i J2 T => w = some ⟨b11, 0, none⟩ ∧ wn = 8 ∧ fr = (bp z 8).1 ∧ mo = (bp z 8).2 ∧ J.le J2 ∧ ∃ (k f : Nat) (os : List (Option Nat)) (own : SH), i = (k : Int) ∧ k ≤ 16 ∧ m = f ∧ 9 ≤ f + k ∧ fwd z = os ++ emP (bp z 8).1 (bp z 8).2 f k ∧
        OwnS (.slice o on oc) (os.map (ren (wordsB s))) own ∧ Sub (own ++ (b11, .cells ((wordsB s).map intV).toArray 3 (0, 0)) :: S) T,
      9, ⟨rfl, rfl, rfl, rfl, hle1, 0, 9, [], [], rfl, by omega, rfl, by omega, rfl, OwnR.nil, Sub.refl _⟩, ?_⟩
    rintro m w wn wc fr mo o on oc i J2 T - ⟨rfl, rfl, rfl, rfl, hle2, k, f, os, own, rfl, hk, rfl, hf, hos, ho, hs⟩
    have hol : os.length ≤ 8 := by
      have := congrArg List.length hos
      rw [List.length_append] at this; omega
    unfold owner_six_l21
    refine bcase_dec (fun h8 => ?_) (fun h8 => ?_)
    · obtain ⟨f, rfl⟩ : ∃ f', m = f' + 1 := ⟨m - 1, by omega⟩
      rw [emP, if_pos (by omega)] at hos
      refine bcase_beq (fun e => ?_) (fun e => ?_)
      · rw [if_pos e] at hos
        intro b66
        refine AppS1 hs ho (by rw [List.length_map]; omega) ?_
        intro p n c own' T' ho' hs'
        unfold owner_six_b22
        have hkm : (k : Int) + (bp z 8).2 = (((k : Int) + (bp z 8).2).toNat : Int) := by omega
        refine ⟨f, by omega, rfl, rfl, rfl, rfl, hle2, ((k : Int) + (bp z 8).2).toNat, f, os ++ [none], own', ?_, by omega, rfl, by omega, by rw [hos]; simp, ?_, hs'⟩
        · rw [wrap_i64 (x := (bp z 8).2 - 1) (by omega) (by omega), wrap_i64 (x := (k : Int) + ((bp z 8).2 - 1)) (by omega) (by omega), wrap_i64 (by omega) (by omega)]; omega
        · rw [List.map_append]; exact ho'
      · rw [if_neg e] at hos
        obtain ⟨w, hw1, hw2, hw3, hw4⟩ := cell J2 S k (by omega)
        refine ⟨by omega, by omega, w, by rw [Int.toNat_natCast, ea]; exact hs.right.cell' hw4, (FmtI_runs (n := w) hw2 (g.le (hle.trans hle2)) T).mono ?_⟩
        rintro v J3 T3 hle3 ⟨rfl, rfl⟩
        refine ⟨_, rfl, fun b78 => AppS1 hs ho (by rw [List.length_map]; omega) ?_⟩
        intro p n c own' T' ho' hs'
        unfold owner_six_b22
        refine ⟨f, by omega, rfl, rfl, rfl, rfl, hle2.trans hle3, k + 1, f, os ++ [some k], own', by rw [wrap_i64 (by omega) (by omega)]; rfl, by omega, rfl, by omega, by rw [hos]; simp, ?_, hs'⟩
        rw [List.map_append]
        have : ren (wordsB s) (some k) = hexB w := by rw [ren, List.getD_eq_getElem?_getD, hw1]; rfl
        rw [List.map_singleton, this]; exact ho'
    · have hend : emP (bp z 8).1 (bp z 8).2 m k = [] := by
        cases m with
        | zero => rfl
        | succ m => rw [emP, if_neg (by omega)]
      rw [hend, List.append_nil] at hos
      unfold owner_six_b23
      refine Runs.use hs (RevO_runs ho (by rw [List.length_map]; omega) J2 _) ?_
      rintro v J3 T3 _ ⟨rfl, own', ho', rfl⟩
      refine ⟨rfl, own', ?_, (Sub.refl _).re (by intro a; simp only [cnt_cons, cnt_app, cnt_nil]; omega)⟩
      have hrev := six_rev hws
      rw [hz, hos] at hrev
      rw [← hrev, List.reverse_reverse] at ho'
      exact ho'
def addrL (a : ByteArray) : List ByteArray := if a.size = 4 then fourL a else sixL (wordsB a)
def pfxL (a : ByteArray) (n : Int) : List ByteArray := if mayB a n then decB n.toNat :: addrL a else []
theorem sixL_len (a : ByteArray) : (sixL (wordsB a)).length ≤ 8 := by
  have hws := wordsB_ws a
  have hg := good_of hws.zlen
  simp only [goodZ, Bool.and_eq_true, decide_eq_true_eq] at hg
  obtain ⟨⟨⟨⟨⟨⟨⟨⟨⟨⟨⟨⟨⟨⟨-, -⟩, -⟩, -⟩, -⟩, hfl⟩, -⟩, -⟩, -⟩, -⟩, -⟩, -⟩, -⟩, -⟩, -⟩ := hg
  have := congrArg List.length (six_rev hws)
  rw [List.length_reverse, List.length_map] at this
  omega
theorem Prefix_runs {I : IMem} (g : GL I) (a : ByteArray) (n : Int) (S : SH) : Runs Tryd.prog 38 #[.agg #[.string a, .int .i64 n]] I S fun v _ T => ∃ own, OwnS v (pfxL a n) own ∧ Sub (own ++ S) T := by
  refine owner_Prefix_fn _ _ _ _ _ ?_
  unfold owner_Prefix
  intro b1
  refine ⟨_, Cell.at0 rfl, _, Cell.at0 rfl, (PMay_runs a n I _).mono ?_⟩
  rintro v J T hle ⟨rfl, rfl⟩
  refine ⟨_, rfl, bcase_not (bcase_of (fun hm => ?_) (fun hm => ?_))⟩
  · obtain ⟨⟨hsz, hn0, hn1⟩, hcut⟩ := mayB_iff.1 hm
    obtain ⟨n, rfl⟩ : ∃ k : Nat, n = (k : Int) := ⟨n.toNat, by omega⟩
    refine ⟨_, Cell.at0 rfl, (Itoa_runs (n := n) (by omega) (g.le hle) _).mono ?_⟩
    rintro v J1 T1 hle1 ⟨rfl, rfl⟩
    refine ⟨_, rfl, fun b10 => ⟨_, (Cell.at0 rfl).tl, ?_⟩⟩
    have hp : pfxL a (n : Int) = [decB n] ++ addrL a := by rw [pfxL, if_pos hm, Int.toNat_natCast]; rfl
    have ho0 : OwnS (.slice (some ⟨b10, 0, none⟩) 1 1) [decB n] [(b10, .cells #[.string (decB n)] 9 (0, 0))] := .inr ⟨b10, 1, [], rfl, rfl, rfl, by decide⟩
    refine bcase_beq (fun h4 => ⟨_, (Cell.at0 rfl).tl, ?_⟩) (fun h4 => ⟨_, (Cell.at0 rfl).tl, ?_⟩)
    · have ha : a.size = 4 := by omega
      refine (four_runs ha ((g.le hle).le hle1) _).mono ?_
      rintro v J2 T2 hle2 ⟨own, ho, hs⟩
      obtain ⟨p, c, rfl⟩ := ho.slice
      refine ⟨_, _, _, rfl, AppSs (xs := [decB n]) (ys := fourL a) (F := S) (hs.re (by intro a; simp only [cnt_cons, cnt_app, cnt_nil]; omega)) ho0 ((OwnS.row ho).sub hs.left) (by simp [fourL]) ?_⟩
      intro p' n' c' own' T' ho' hs'
      refine ⟨own', ?_, hs'⟩
      rw [hp, addrL, if_pos ha]; exact ho'
    · have ha : a.size = 16 := by omega
      refine (six_runs ha ((g.le hle).le hle1) _).mono ?_
      rintro v J2 T2 hle2 ⟨own, ho, hs⟩
      obtain ⟨p, c, rfl⟩ := ho.slice
      have h8 := sixL_len a
      refine ⟨_, _, _, rfl, AppSs (xs := [decB n]) (ys := sixL (wordsB a)) (F := S) (hs.re (by intro a; simp only [cnt_cons, cnt_app, cnt_nil]; omega)) ho0 ((OwnS.row ho).sub hs.left) (by simp only [List.length_singleton]; omega) ?_⟩
      intro p' n' c' own' T' ho' hs'
      refine ⟨own', ?_, hs'⟩
      rw [hp, addrL, if_neg (by omega)]; exact ho'
  · refine ⟨[], ?_, (Sub.refl _).skip _⟩
    rw [pfxL, if_neg (by rw [hm]; simp)]
    exact OwnR.nil
end Go.Proofs.YtmlojdbahlfiaaaDoor
/- Lists of words: equal, found, cloned, repeated, replaced. -/
namespace Go.Proofs.YtmlojdbahlfiaaaDoor
open Go.Px
set_option linter.unusedVariables false
set_option linter.unusedSimpArgs false
set_option maxRecDepth 8000

theorem strRow {I : IMem} {S : SH} {a : Option Addr} {xs : List ByteArray} (h : RowIn I S a xs.length 1 elS xs) {k : Nat} {x : ByteArray} (hx : xs[k]? = some x) : ∃ a', a = some a' ∧ Cell I S (a'.add (k * 1)) (.string x) := by
  obtain ⟨a', ha, hc⟩ := h.cell hx
  refine ⟨a', ha, ?_⟩
  have := hc 0 (.string x) rfl
  have e0 : (a'.add (k * 1)).add 0 = a'.add (k * 1) := by simp [Addr.add]
  rwa [e0] at this
theorem ba_dec {a b : ByteArray} : (a.toList == b.toList) = decide (a = b) := by
  by_cases h : a = b
  · rw [h, tl_eq]; simp
  · rw [tl_ne h]; simp [h]
theorem Equal_runs {xs ys : List ByteArray} {a b : Option Addr} {ca cb : Nat} {I : IMem} {S : SH} (hx : RowIn I S a xs.length 1 elS xs) (hy : RowIn I S b ys.length 1 elS ys) (hl : xs.length ≤ 4611686018427387904) :
    Runs Tryd.prog 74 #[.slice a xs.length ca, .slice b ys.length cb] I S fun v _ T => v = .bool (decide (xs = ys)) ∧ T = S := by
  refine slices_Equal__string_string_fn _ _ _ _ _ _ _ _ _ ?_
  unfold slices_Equal__string_string slices_Equal__string_string_b1 slices_Equal__string_string_b2
  refine bcase_bne (fun h => ⟨?_, rfl⟩) (fun h => ?_)
  · rw [decide_eq_false (fun e => h (by rw [e]))]
  refine ⟨fun m p pn pc q qn qc x i J T => p = a ∧ pn = xs.length ∧ q = b ∧ qn = ys.length ∧ x = (xs.length : Int) ∧ I.le J ∧ T = S ∧ ∃ k : Nat, i = (k : Int) ∧ k ≤ xs.length ∧ m = xs.length - k ∧ ∀ t, t < k → xs[t]? = ys[t]?,
    xs.length, ⟨rfl, rfl, rfl, rfl, rfl, IMem.le.refl I, rfl, 0, rfl, Nat.zero_le _, rfl, fun t ht => by omega⟩, ?_⟩
  rintro m p pn pc q qn qc x i J T - ⟨rfl, rfl, rfl, rfl, rfl, hle, rfl, k, rfl, hk, rfl, hp⟩
  unfold slices_Equal__string_string_l3
  refine bcase_dec (fun h1 => ?_) (fun h1 => ?_)
  · unfold slices_Equal__string_string_b4 slices_Equal__string_string_b5 slices_Equal__string_string_b6 slices_Equal__string_string_b7
    obtain ⟨x, hxk⟩ := get_lt (xs := xs) (k := k) (by omega)
    obtain ⟨y, hyk⟩ := get_lt (xs := ys) (k := k) (by omega)
    obtain ⟨a', rfl, hca⟩ := strRow (hx.le hle) hxk
    obtain ⟨b', rfl, hcb⟩ := strRow (hy.le hle) hyk
    refine ⟨by omega, by omega, x, hca, by omega, by omega, y, hcb, ?_⟩
    rw [ba_dec]
    refine bcase_not (bcase_dec (fun e => ?_) (fun e => ⟨?_, rfl⟩))
    · refine ⟨xs.length - (k + 1), by omega, rfl, rfl, rfl, rfl, rfl, hle, rfl, k + 1, by rw [wrap_i64 (by omega) (by omega)]; rfl, by omega, rfl, fun t ht => ?_⟩
      rcases Nat.lt_or_ge t k with g | g
      · exact hp t g
      · have : t = k := by omega
        subst this; rw [hxk, hyk, e]
    · rw [decide_eq_false (fun h => e (by rw [h, hyk] at hxk; exact (Option.some.inj hxk).symm))]
  · unfold slices_Equal__string_string_b8
    refine ⟨?_, rfl⟩
    have : xs = ys := by
      apply List.ext_getElem?
      intro t
      by_cases ht : t < k
      · exact hp t ht
      · rw [List.getElem?_eq_none (by omega), List.getElem?_eq_none (by omega)]
    rw [decide_eq_true this]
/-- the first place of a word -/
def idxS (xs : List ByteArray) (v : ByteArray) : Int := match xs.findIdx? (fun x => decide (v = x)) with
  | some k => (k : Int)
  | none => -1
theorem Index_runs {xs : List ByteArray} {a : Option Addr} {c : Nat} (v : ByteArray) {I : IMem} {S : SH} (hx : RowIn I S a xs.length 1 elS xs) (hl : xs.length ≤ 4611686018427387904) :
    Runs Tryd.prog 80 #[.slice a xs.length c, .string v] I S fun r _ T => r = .int .i64 (idxS xs v) ∧ T = S := by
  refine slices_Index__string_string_fn _ _ _ _ _ _ _ ?_
  unfold slices_Index__string_string slices_Index__string_string_b1 slices_Index__string_string_b2
  refine ⟨fun m p pn pc w x i J T => p = a ∧ pn = xs.length ∧ w = v ∧ x = (xs.length : Int) ∧ I.le J ∧ T = S ∧ ∃ k : Nat, i = (k : Int) ∧ k ≤ xs.length ∧ m = xs.length - k ∧ ∀ t y, t < k → xs[t]? = some y → v ≠ y,
    xs.length, ⟨rfl, rfl, rfl, rfl, IMem.le.refl I, rfl, 0, rfl, Nat.zero_le _, rfl, fun t y ht => by omega⟩, ?_⟩
  rintro m p pn pc w x i J T - ⟨rfl, rfl, rfl, rfl, hle, rfl, k, rfl, hk, rfl, hp⟩
  unfold slices_Index__string_string_l3 slices_Index__string_string_b4
  refine bcase_dec (fun h1 => ?_) (fun h1 => ?_)
  · obtain ⟨x, hxk⟩ := get_lt (xs := xs) (k := k) (by omega)
    obtain ⟨a', rfl, hca⟩ := strRow (hx.le hle) hxk
    refine ⟨by omega, by omega, x, hca, ?_⟩
    rw [ba_dec]
    refine bcase_dec (fun e => ⟨?_, rfl⟩) (fun e => ?_)
    · have : xs.findIdx? (fun x => decide (w = x)) = some k := by
        rw [List.findIdx?_eq_some_iff_getElem]
        refine ⟨lt_get hxk, ?_, fun j hj => ?_⟩
        · rw [List.getElem?_eq_getElem (lt_get hxk)] at hxk
          rw [Option.some.inj hxk, decide_eq_true e]
        · have := hp j xs[j] hj (List.getElem?_eq_getElem (by omega))
          simp [this]
      rw [idxS, this]
    · refine ⟨xs.length - (k + 1), by omega, rfl, rfl, rfl, rfl, hle, rfl, k + 1, by rw [wrap_i64 (by omega) (by omega)]; rfl, by omega, rfl, fun t y ht hy => ?_⟩
      rcases Nat.lt_or_ge t k with g | g
      · exact hp t y g hy
      · have : t = k := by omega
        subst this; rw [hxk] at hy; rw [← Option.some.inj hy]; exact e
  · refine ⟨?_, rfl⟩
    have : xs.findIdx? (fun x => decide (w = x)) = none := by
      rw [List.findIdx?_eq_none_iff]
      intro y hy
      obtain ⟨t, ht⟩ := List.getElem?_of_mem hy
      have h3 := lt_get ht
      simp [hp t y (by omega) ht]
    rw [idxS, this]
def hasS (xs : List ByteArray) (v : ByteArray) : Bool := xs.any fun x => decide (v = x)
theorem Contains_runs {xs : List ByteArray} {a : Option Addr} {c : Nat} (v : ByteArray) {I : IMem} {S : SH} (hx : RowIn I S a xs.length 1 elS xs) (hl : xs.length ≤ 4611686018427387904) :
    Runs Tryd.prog 79 #[.slice a xs.length c, .string v] I S fun r _ T => r = .bool (hasS xs v) ∧ T = S := by
  refine slices_Contains__string_string_fn _ _ _ _ _ _ _ ?_
  unfold slices_Contains__string_string
  refine (Index_runs v hx hl).mono ?_
  rintro r J T _ ⟨rfl, rfl⟩
  refine ⟨_, rfl, ?_, rfl⟩
  rw [idxS]
  cases h : xs.findIdx? (fun x => decide (v = x)) with
  | none =>
    rw [List.findIdx?_eq_none_iff] at h
    have : hasS xs v = false := by rw [hasS, List.any_eq_false]; intro y hy; rw [h y hy]; simp
    rw [this]; simp
  | some k =>
    rw [List.findIdx?_eq_some_iff_getElem] at h
    obtain ⟨h1, h2, _⟩ := h
    have : hasS xs v = true := by rw [hasS, List.any_eq_true]; exact ⟨_, List.getElem_mem h1, h2⟩
    rw [this]; simp
theorem ClS_runs {xs : List ByteArray} {a : Option Addr} {c : Nat} {I : IMem} {S : SH} (hx : RowIn I S a xs.length 1 elS xs) (hl : xs.length * 16 ≤ 140737488355328) :
    Runs Tryd.prog 78 #[.slice a xs.length c] I S fun v _ T => ∃ own', OwnS v xs own' ∧ Sub (own' ++ S) T := by
  refine slices_Clone__string_string_fn _ _ _ _ _ _ ?_
  unfold slices_Clone__string_string
  refine bcase_of (fun h => ?_) (fun h => ?_)
  · have hxs : xs = [] := by
      cases xs with
      | nil => rfl
      | cons x xs =>
        obtain ⟨a', rfl, _⟩ := hx.cell (i := 0) (x := x) rfl
        cases h
    subst hxs
    exact ⟨[], OwnR.nil, Sub.refl _⟩
  · intro b5
    refine AppSs (xs := []) (ys := xs) (own := [(b5, .cells #[] 9 (0, 0))]) (F := S) (Sub.refl _) (.inr ⟨b5, 0, [], rfl, rfl, rfl, Nat.zero_le _⟩) (hx.sub ((Sub.refl S).skip _)) (by simpa using hl) ?_
    intro p n c own' T ho hs
    exact ⟨own', ho, hs⟩

theorem Pre.sound' {P : Program} {n : Nat} (c : Code) (Q : Exit → Fr → IMem → SH → Prop) (l : Fr) (I : IMem) (S : SH) (A : Prop) (e : A = Pre P n c Q l I S) (h : A) : WP P n c Q l I S := Pre.sound c Q l I S (by rw [← e]; exact h)
noncomputable def mulC : Code := (Tryd.f108.body).getD .skip
theorem Mul64_2e (R : Value → IMem → SH → Prop) (I : IMem) (S : SH) : R (.tuple #[.int .u64 0, .int .u64 2]) I S = Pre Tryd.prog Tryd.f108.ntmps mulC (QRet Tryd.prog Tryd.f108.results.toList R) (fr0 [.int .u64 1, .int .u64 2]) I S := by kernel_rfl
theorem Mul64_2 (R : Value → IMem → SH → Prop) (I : IMem) (S : SH) (h : R (.tuple #[.int .u64 0, .int .u64 2]) I S) : Runs Tryd.prog 108 #[.int .u64 1, .int .u64 2] I S R := by
  exact Runs.of_wp (args := [.int .u64 1, .int .u64 2]) (c := mulC) Tryd.func108 (by kernel_rfl) (by kernel_rfl) (Pre.sound' _ _ _ _ _ _ (Mul64_2e R I S) h)
theorem Mul64_3e (R : Value → IMem → SH → Prop) (I : IMem) (S : SH) : R (.tuple #[.int .u64 0, .int .u64 3]) I S = Pre Tryd.prog Tryd.f108.ntmps mulC (QRet Tryd.prog Tryd.f108.results.toList R) (fr0 [.int .u64 1, .int .u64 3]) I S := by kernel_rfl
theorem Mul64_3 (R : Value → IMem → SH → Prop) (I : IMem) (S : SH) (h : R (.tuple #[.int .u64 0, .int .u64 3]) I S) : Runs Tryd.prog 108 #[.int .u64 1, .int .u64 3] I S R := by
  exact Runs.of_wp (args := [.int .u64 1, .int .u64 3]) (c := mulC) Tryd.func108 (by kernel_rfl) (by kernel_rfl) (Pre.sound' _ _ _ _ _ _ (Mul64_3e R I S) h)
theorem Mul64_4e (R : Value → IMem → SH → Prop) (I : IMem) (S : SH) : R (.tuple #[.int .u64 0, .int .u64 4]) I S = Pre Tryd.prog Tryd.f108.ntmps mulC (QRet Tryd.prog Tryd.f108.results.toList R) (fr0 [.int .u64 1, .int .u64 4]) I S := by kernel_rfl
theorem Mul64_4 (R : Value → IMem → SH → Prop) (I : IMem) (S : SH) (h : R (.tuple #[.int .u64 0, .int .u64 4]) I S) : Runs Tryd.prog 108 #[.int .u64 1, .int .u64 4] I S R := by
  exact Runs.of_wp (args := [.int .u64 1, .int .u64 4]) (c := mulC) Tryd.func108 (by kernel_rfl) (by kernel_rfl) (Pre.sound' _ _ _ _ _ _ (Mul64_4e R I S) h)
theorem Mul64_5e (R : Value → IMem → SH → Prop) (I : IMem) (S : SH) : R (.tuple #[.int .u64 0, .int .u64 5]) I S = Pre Tryd.prog Tryd.f108.ntmps mulC (QRet Tryd.prog Tryd.f108.results.toList R) (fr0 [.int .u64 1, .int .u64 5]) I S := by kernel_rfl
theorem Mul64_5 (R : Value → IMem → SH → Prop) (I : IMem) (S : SH) (h : R (.tuple #[.int .u64 0, .int .u64 5]) I S) : Runs Tryd.prog 108 #[.int .u64 1, .int .u64 5] I S R := by
  exact Runs.of_wp (args := [.int .u64 1, .int .u64 5]) (c := mulC) Tryd.func108 (by kernel_rfl) (by kernel_rfl) (Pre.sound' _ _ _ _ _ _ (Mul64_5e R I S) h)
theorem Mul64_6e (R : Value → IMem → SH → Prop) (I : IMem) (S : SH) : R (.tuple #[.int .u64 0, .int .u64 6]) I S = Pre Tryd.prog Tryd.f108.ntmps mulC (QRet Tryd.prog Tryd.f108.results.toList R) (fr0 [.int .u64 1, .int .u64 6]) I S := by kernel_rfl
theorem Mul64_6 (R : Value → IMem → SH → Prop) (I : IMem) (S : SH) (h : R (.tuple #[.int .u64 0, .int .u64 6]) I S) : Runs Tryd.prog 108 #[.int .u64 1, .int .u64 6] I S R := by
  exact Runs.of_wp (args := [.int .u64 1, .int .u64 6]) (c := mulC) Tryd.func108 (by kernel_rfl) (by kernel_rfl) (Pre.sound' _ _ _ _ _ _ (Mul64_6e R I S) h)
theorem Mul64_7e (R : Value → IMem → SH → Prop) (I : IMem) (S : SH) : R (.tuple #[.int .u64 0, .int .u64 7]) I S = Pre Tryd.prog Tryd.f108.ntmps mulC (QRet Tryd.prog Tryd.f108.results.toList R) (fr0 [.int .u64 1, .int .u64 7]) I S := by kernel_rfl
theorem Mul64_7 (R : Value → IMem → SH → Prop) (I : IMem) (S : SH) (h : R (.tuple #[.int .u64 0, .int .u64 7]) I S) : Runs Tryd.prog 108 #[.int .u64 1, .int .u64 7] I S R := by
  exact Runs.of_wp (args := [.int .u64 1, .int .u64 7]) (c := mulC) Tryd.func108 (by kernel_rfl) (by kernel_rfl) (Pre.sound' _ _ _ _ _ _ (Mul64_7e R I S) h)
theorem Mul64_8e (R : Value → IMem → SH → Prop) (I : IMem) (S : SH) : R (.tuple #[.int .u64 0, .int .u64 8]) I S = Pre Tryd.prog Tryd.f108.ntmps mulC (QRet Tryd.prog Tryd.f108.results.toList R) (fr0 [.int .u64 1, .int .u64 8]) I S := by kernel_rfl
theorem Mul64_8 (R : Value → IMem → SH → Prop) (I : IMem) (S : SH) (h : R (.tuple #[.int .u64 0, .int .u64 8]) I S) : Runs Tryd.prog 108 #[.int .u64 1, .int .u64 8] I S R := by
  exact Runs.of_wp (args := [.int .u64 1, .int .u64 8]) (c := mulC) Tryd.func108 (by kernel_rfl) (by kernel_rfl) (Pre.sound' _ _ _ _ _ _ (Mul64_8e R I S) h)
theorem Mul64_runs {c : Nat} (h1 : 2 ≤ c) (h2 : c ≤ 8) (I : IMem) (S : SH) : Runs Tryd.prog 108 #[.int .u64 1, .int .u64 (c : Int)] I S fun v _ T => v = .tuple #[.int .u64 0, .int .u64 (c : Int)] ∧ T = S := by
  rcases (show c = 2 ∨ c = 3 ∨ c = 4 ∨ c = 5 ∨ c = 6 ∨ c = 7 ∨ c = 8 by omega) with rfl | rfl | rfl | rfl | rfl | rfl | rfl
  · exact Mul64_2 _ I S ⟨rfl, rfl⟩
  · exact Mul64_3 _ I S ⟨rfl, rfl⟩
  · exact Mul64_4 _ I S ⟨rfl, rfl⟩
  · exact Mul64_5 _ I S ⟨rfl, rfl⟩
  · exact Mul64_6 _ I S ⟨rfl, rfl⟩
  · exact Mul64_7 _ I S ⟨rfl, rfl⟩
  · exact Mul64_8 _ I S ⟨rfl, rfl⟩
theorem repV_str (n : Nat) : repV n [Value.string ⟨#[]⟩] = strL (List.replicate n ⟨#[]⟩) := by
  induction n with
  | zero => rfl
  | succ n ih => rw [repV, ih]; rfl
theorem slAd {b c k : Nat} (h : k < c) : slA (some ⟨b, 0, none⟩) c k 1 = some ⟨b, k, none⟩ := by
  unfold slA
  rw [if_neg (by omega)]
  show some ((⟨b, 0, none⟩ : Addr).add (k * 1)) = _
  rw [add_mk, Nat.zero_add, Nat.mul_one]
theorem Repeat_runs {x : ByteArray} {a : Option Addr} {cx cnt : Nat} (h1 : 2 ≤ cnt) (h2 : cnt ≤ 8) {I : IMem} {S : SH} (hx : RowIn I S a 1 1 elS [x]) :
    Runs Tryd.prog 81 #[.slice a 1 cx, .int .i64 (cnt : Int)] I S fun v _ T => ∃ g, v = .slice (some ⟨g, 0, none⟩) cnt cnt ∧ T = (g, .cells (strL (List.replicate cnt x)).toArray 9 (0, 0)) :: S := by
  refine slices_Repeat__string_string_fn _ _ _ _ _ _ _ ?_
  unfold slices_Repeat__string_string slices_Repeat__string_string_b1 slices_Repeat__string_string_b2 slices_Repeat__string_string_b3 slices_Repeat__string_string_b4
  refine bcase_f (decide_eq_false (by omega)) ?_
  rw [wrap_u64 (x := ((1 : Nat) : Int)) (by decide) (by decide), wrap_u64 (x := (cnt : Int)) (by omega) (by omega)]
  refine Runs.mono (R := fun v _ T => v = .tuple #[.int .u64 0, .int .u64 (cnt : Int)] ∧ T = S) ?_ ?_
  · refine bits_Mul_fn _ _ _ _ _ ?_
    unfold bits_Mul
    refine (Mul64_runs h1 h2 I S).mono ?_
    rintro v J T _ ⟨rfl, rfl⟩
    exact ⟨_, _, rfl, rfl, rfl⟩
  rintro v J T hle ⟨rfl, rfl⟩
  refine ⟨0, cnt, rfl, bcase_f rfl (bcase_f (decide_eq_false (by omega)) ?_)⟩
  rw [wrap_i64 (x := (cnt : Int)) (by omega) (by omega)]
  refine ⟨by omega, by omega, by omega, by omega, fun b30 => ?_⟩
  simp only [Int.toNat_natCast]
  rw [repV_str]
  have hmin : min 1 cnt = 1 := by omega
  refine ⟨[.string x], ?_, rfl, .inr ⟨⟨b30, 0, none⟩, rfl, StP.list (o := 0) (by simp; omega) rfl ?_⟩⟩
  · rw [hmin]
    exact (RowIn.rd (el := elS) (sz := 1) (fun _ => rfl) Nat.one_pos ((hx.sub ((Sub.refl T).skip _)).le hle))
  have hs0 := map_set_at Value.string (xs := List.replicate cnt (⟨#[]⟩ : ByteArray)) (i := 0) (by simp; omega) x []
  rw [List.append_nil, List.append_nil] at hs0
  rw [List.length_singleton, hs0, hmin]
  unfold slices_Repeat__string_string_b5
  refine ⟨fun m p pn pc n J1 T1 => p = some ⟨b30, 0, none⟩ ∧ pn = cnt ∧ pc = cnt ∧ J.le J1 ∧ ∃ (k : Nat) (ys : List ByteArray), n = (k : Int) ∧ 1 ≤ k ∧ k ≤ cnt ∧ m = cnt - k ∧ ys.length = cnt ∧ ys.take k = List.replicate k x ∧ T1 = (b30, .cells (strL ys).toArray 9 (0, 0)) :: T,
    cnt - 1, ⟨rfl, rfl, rfl, IMem.le.refl J, 1, _, rfl, Nat.le_refl _, by omega, rfl, by simp, ?_, rfl⟩, ?_⟩
  · obtain ⟨d, rfl⟩ : ∃ d, cnt = d + 1 := ⟨cnt - 1, by omega⟩
    simp [List.replicate_succ]
  rintro m p pn pc n J1 T1 - ⟨rfl, rfl, rfl, hle1, k, ys, rfl, hk1, hk2, rfl, hyl, hyt, rfl⟩
  unfold slices_Repeat__string_string_l6
  refine bcase_dec (fun h => ?_) (fun h => ?_)
  · unfold slices_Repeat__string_string_b7
    refine ⟨by omega, by omega, by omega, by omega, ?_⟩
    simp only [Int.toNat_natCast, Nat.sub_zero]
    rw [slAd (by omega), slA_zero]
    have hone : (strL (List.replicate (min k (pc - k)) x)).all one = true := by rw [← flat_elS]; exact flatMap_one (el := elS) (fun _ => rfl) _
    refine ⟨strL (List.replicate (min k (pc - k)) x), Rd.list ?_ (by simp; omega), hone, .inr ⟨_, rfl, StP.list (by simp; omega) hone ?_⟩⟩
    · rw [List.drop_zero, Nat.mul_one, ← List.map_take]
      have : ys.take (min k (pc - k)) = (ys.take k).take (min k (pc - k)) := by rw [List.take_take]; congr 1; omega
      rw [this, hyt, List.take_replicate]; congr 2; omega
    · have hL : (strL ys).take k ++ strL (List.replicate (min k (pc - k)) x) ++ (strL ys).drop (k + (strL (List.replicate (min k (pc - k)) x)).length) = strL (ys.take k ++ List.replicate (min k (pc - k)) x ++ ys.drop (k + min k (pc - k))) := by
        simp [List.map_take, List.map_drop]
      rw [hL]
      refine ⟨pc - (k + min k (pc - k)), by omega, trivial, trivial, trivial, hle1, k + min k (pc - k), _, by rw [wrap_i64 (by omega) (by omega)]; omega, by omega, by omega, rfl, by simp; omega, ?_, rfl⟩
      rw [hyt, List.replicate_append_replicate, List.take_append_of_le_length (by simp), List.take_of_length_le (by simp)]
  · unfold slices_Repeat__string_string_b8
    have : k = pc := by omega
    subst this
    rw [List.take_of_length_le (by omega)] at hyt
    exact ⟨b30, rfl, by rw [hyt]⟩
end Go.Proofs.YtmlojdbahlfiaaaDoor
/- A word replaced by words in a list. -/
namespace Go.Proofs.YtmlojdbahlfiaaaDoor
open Go.Px
set_option linter.unusedVariables false
set_option linter.unusedSimpArgs false
set_option maxRecDepth 8000

theorem ovlS_runs {I : IMem} {S : SH} {a b : Addr} {la ca lb cb : Nat} {csA csB : Array Value} {eA eB : TypeId} (hne : a.block ≠ b.block) (hA : (a.block, Obj.cells csA eA (0, 0)) ∈ S) (hB : (b.block, Obj.cells csB eB (0, 0)) ∈ S) (hB0 : csB.size ≠ 0) :
    RunsX Tryd.prog 92 #[.slice (some a) la ca, .slice (some b) lb cb] I S fun v _ T => v = .bool false ∧ T = S := by
  intro w hw
  refine ⟨.bool false, w, I, S, ?_, IMem.le.refl I, hw, rfl, rfl⟩
  have h1 := hw.own _ hA
  have h2 := hw.own _ hB
  obtain ⟨i, hi, _⟩ := info_of_underlying (P := Tryd.prog) (t := 9) Tryd.underlying9
  rw [run_callFunc_extern Tryd.func92 (by kernel_rfl) (by kernel_rfl) (by kernel_rfl) (e := Extern.SlicesOverlaps.overlaps #[62, 62] #[4]) (by kernel_rfl)]
  rw [Lib.run_overlaps_apart w 62 4 9 Tryd.underlying62 i.size (fun w => run_sizeOf hi) a b la ca lb cb hne eA eB csA.size csB.size ?_ ?_ hB0 ?_ ?_]
  · rfl
  · simp only [World.shape?]; rw [h1]
  · simp only [World.shape?]; rw [h2]
  · simp only [World.frozen?]; rw [h1]; simp
  · simp only [World.frozen?]; rw [h1]; simp
theorem strL_len (xs : List ByteArray) : (strL xs).length = xs.length := List.length_map ..
theorem strL_one (xs : List ByteArray) : (strL xs).all one = true := by rw [← flat_elS]; exact flatMap_one (el := elS) (fun _ => rfl) _
theorem strL_app (xs ys : List ByteArray) : strL (xs ++ ys) = strL xs ++ strL ys := List.map_append
set_option maxHeartbeats 2000000 in
theorem Replace_runs {ys vs ws : List ByteArray} {z : ByteArray} {g h c d : Nat} {rest : List Value} (hv : 2 ≤ vs.length) (hc : (ys ++ z :: ws).length + rest.length = c) (hcm : c ≤ maxLen) (hl : ys.length + vs.length + ws.length ≤ 1000) (I : IMem) (F : SH) :
    Runs Tryd.prog 82 #[.slice (some ⟨g, 0, none⟩) (ys ++ z :: ws).length c, .int .i64 (ys.length : Int), .int .i64 ((ys.length : Int) + 1), .slice (some ⟨h, 0, none⟩) vs.length d] I
      ((g, .cells (strL (ys ++ z :: ws) ++ rest).toArray 9 (0, 0)) :: (h, .cells (strL vs).toArray 9 (0, 0)) :: F) fun v _ T => ∃ own', OwnS v (ys ++ vs ++ ws) own' ∧ Sub (own' ++ F) T := by
  refine slices_Replace__string_string_fn _ _ _ _ _ _ _ _ _ _ _ ?_
  have hlen : (ys ++ z :: ws).length = ys.length + (ws.length + 1) := by rw [List.length_append, List.length_cons]
  have hYl := strL_len ys; have hVl := strL_len vs; have hWl := strL_len ws
  have hL : strL (ys ++ z :: ws) ++ rest = strL ys ++ (Value.string z :: (strL ws ++ rest)) := by rw [strL_app, List.append_assoc]; rfl
  have e1 : ((ys.length : Int) + 1).toNat = ys.length + 1 := by omega
  unfold slices_Replace__string_string slices_Replace__string_string_b1 slices_Replace__string_string_b2
  rw [hlen, hL]
  simp only [e1, Int.toNat_natCast, Nat.sub_zero, slA_zero]
  rw [hlen] at hc
  refine ⟨by omega, by omega, by omega, by omega, bcase_beq (fun e => by omega) (fun _ => bcase_beq (fun e => ?_) (fun e => ?_))⟩
  · -- the last one
    have hw0 : ws = [] := List.eq_nil_of_length_eq_zero (by omega)
    subst hw0
    refine ⟨by omega, by omega, AppSs (xs := ys) (ys := vs) (own := [(g, .cells (strL ys ++ (Value.string z :: (strL [] ++ rest))).toArray 9 (0, 0))]) (F := F) ((Sub.refl _).re (by intro a; simp only [cnt_cons, cnt_app, cnt_nil]; omega)) ?_ ?_ (by omega) ?_⟩
    · refine OwnS.mk ?_ hcm
      simp only [List.length_cons, List.length_append, strL_len, List.length_nil] at hc ⊢; omega
    · have := OwnS.row (I := I) (OwnS.mk (xs := vs) (g := h) (cap := vs.length) (rest := []) rfl (by simp only [maxLen]; omega))
      rw [List.append_nil] at this
      exact this.sub ((Sub.refl _).re (by intro a; simp only [cnt_cons, cnt_app, cnt_nil]; omega))
    · intro p n c' own' T ho hs
      have hn := ho.len
      rw [List.length_append] at hn
      unfold slices_Replace__string_string_b3
      refine bcase_f (decide_eq_false (by simp only [List.length_nil] at *; omega)) ⟨own', ?_, hs⟩
      rw [List.append_nil]; exact ho
  unfold slices_Replace__string_string_b4 slices_Replace__string_string_b5 slices_Replace__string_string_b6
  simp only [e1, Int.toNat_natCast, Nat.sub_zero, slA_zero]
  have hw1 : 0 < ws.length := by omega
  have wt : IntKind.wrap .i64 (IntKind.wrap .i64 (((ys.length : Nat) : Int) + (vs.length : Int)) + ((ys.length + (ws.length + 1) - (ys.length + 1) : Nat) : Int)) = ((ys.length + vs.length + ws.length : Nat) : Int) := by
    rw [wrap_i64 (x := ((ys.length : Nat) : Int) + (vs.length : Int)) (by omega) (by omega), wrap_i64 (by omega) (by omega)]; omega
  have wi : IntKind.wrap .i64 ((ys.length : Int) + (vs.length : Int)) = ((ys.length + vs.length : Nat) : Int) := by rw [wrap_i64 (by omega) (by omega)]; omega
  have wd : IntKind.wrap .i64 (((ys.length + vs.length + ws.length : Nat) : Int) - (ys.length : Int)) = ((vs.length + ws.length : Nat) : Int) := by rw [wrap_i64 (by omega) (by omega)]; omega
  rw [wt]
  refine ⟨by omega, by omega, by omega, by omega, bcase_dec (fun hg => ?_) (fun hg => ?_)⟩
  · -- no room: a new row
    rw [wd]
    refine ⟨by omega, by omega, ?_⟩
    refine ⟨_, [], _, some ⟨g, 0, none⟩, ys.length, c, vs.length + ws.length, strL ys, repV (vs.length + ws.length) [.string ⟨#[]⟩], List.Perm.refl _, List.Perm.refl _, rfl, ⟨.i64, rfl, rfl⟩, ?_, ?_, fun h => by omega, fun _ => ⟨?_, fun g' d' hd hdm => ?_⟩⟩
    · simp only [maxLen]; omega
    · omega
    · refine Rd.list (L := strL ys ++ (Value.string z :: (strL ws ++ rest))) ?_ ?_
      · rw [List.drop_zero, Nat.mul_one, take_at hYl]
      · rw [List.length_append, hYl]; omega
    have hZ : (repV (vs.length + ws.length) [Value.string ⟨#[]⟩] ++ repV (d' - (ys.length + (vs.length + ws.length))) [.string ⟨#[]⟩]).length = d' - ys.length := by
      rw [List.length_append, repV_length, repV_length]; simp only [List.length_singleton]; omega
    generalize hZe : repV (vs.length + ws.length) [Value.string ⟨#[]⟩] ++ repV (d' - (ys.length + (vs.length + ws.length))) [.string ⟨#[]⟩] = Z at hZ
    have hL1 : strL ys ++ repV (vs.length + ws.length) [Value.string ⟨#[]⟩] ++ repV (d' - (ys.length + (vs.length + ws.length))) [Value.string ⟨#[]⟩] = strL ys ++ Z := by rw [← hZe, List.append_assoc]
    rw [hL1]
    unfold slices_Replace__string_string_b7 slices_Replace__string_string_b8
    simp only [e1, Int.toNat_natCast, wi]
    refine ⟨by omega, by omega, ?_⟩
    rw [slAd (by omega)]
    have m1 : min vs.length (ys.length + (vs.length + ws.length) - ys.length) = vs.length := by omega
    refine ⟨strL vs, ?_, strL_one vs, .inr ⟨_, rfl, StP.list (L := strL ys ++ Z) ?_ (strL_one vs) ?_⟩⟩
    · rw [m1]
      exact Rd.keep (Sub.keep (IMem.le.refl I) ((Sub.refl _).re (by intro a; simp only [cnt_cons, cnt_app, cnt_nil]; omega))) (Rd.list (S := []) (e := 9) (fz := (0, 0)) (L := strL vs) (g := h) (o := 0) (by rw [List.drop_zero, Nat.mul_one, List.take_of_length_le (by rw [hVl]; exact Nat.le_refl _)]) (by rw [hVl]; omega))
    · rw [List.length_append, hYl, hZ, hVl]; omega
    rw [take_at hYl, ← List.drop_drop, drop_at hYl, hVl]
    refine ⟨by omega, by omega, by omega, by omega, ?_⟩
    rw [slAd (by omega), slAd (by omega)]
    have m2 : min (ys.length + (ws.length + 1) - (ys.length + 1)) (ys.length + (vs.length + ws.length) - (ys.length + vs.length)) = ws.length := by omega
    have hP : (strL ys ++ strL vs).length = ys.length + vs.length := by rw [List.length_append, hYl, hVl]
    refine ⟨strL ws, ?_, strL_one ws, .inr ⟨_, rfl, StP.list ?_ (strL_one ws) ?_⟩⟩
    · rw [m2]
      refine Rd.keep (Sub.keep (IMem.le.refl I) ((Sub.refl _).re (by intro a; simp only [cnt_cons, cnt_app, cnt_nil]; omega))) (Rd.list (S := []) (e := 9) (fz := (0, 0)) (L := strL ys ++ (Value.string z :: (strL ws ++ rest))) (g := g) (o := ys.length + 1) ?_ ?_)
      · rw [← List.drop_drop, drop_at hYl, List.drop_succ_cons, List.drop_zero, Nat.mul_one, take_at hWl]
      · simp only [List.length_append, List.length_cons, hYl, hWl]; omega
    · rw [List.length_append, hP, List.length_drop, hZ, hWl]; omega
    rw [take_at hP, ← List.drop_drop, drop_at hP, hWl]
    have hfin := OwnS.mk (xs := ys ++ vs ++ ws) (g := g') (cap := d') (rest := (Z.drop vs.length).drop ws.length) (by simp only [List.length_append, List.length_drop, hZ]; omega) hdm
    have hlen2 : (ys ++ vs ++ ws).length = ys.length + (vs.length + ws.length) := by simp only [List.length_append]; omega
    rw [hlen2] at hfin
    refine ⟨_, hfin, ?_⟩
    rw [strL_app, strL_app]
    exact (Sub.refl _).re (by intro a; simp only [cnt_cons, cnt_app, cnt_nil]; omega)
  · -- room: in place
    have hc1 : ys.length + vs.length + ws.length ≤ c := by omega
    unfold slices_Replace__string_string_b9 slices_Replace__string_string_b10 slices_Replace__string_string_b11 slices_Replace__string_string_b14
    simp only [e1, Int.toNat_natCast, Nat.sub_zero, slA_zero, wi]
    refine ⟨by omega, by omega, bcase_f (decide_eq_false (by omega)) ⟨by omega, by omega, ?_⟩⟩
    rw [slAd (by omega)]
    have hrest : rest.length = c - (ys.length + (ws.length + 1)) := by omega
    have m2 : min (ys.length + (ws.length + 1) - (ys.length + 1)) (ys.length + vs.length + ws.length - (ys.length + vs.length)) = ws.length := by omega
    have m1 : min vs.length (ys.length + vs.length + ws.length - ys.length) = vs.length := by omega
    have hlen2 : (ys ++ vs ++ ws).length = ys.length + vs.length + ws.length := by simp only [List.length_append]
    have hlen3 : (ys ++ vs ++ ws).length + (c - (ys.length + vs.length + ws.length)) = c := by rw [hlen2]; omega
    intro w hw
    have hgh : g ≠ h := by
      have := hw.nodup
      simp only [List.map_cons, List.nodup_cons, List.mem_cons, not_or] at this
      exact this.1.1
    obtain ⟨v, w', J, T, hr, hle, hs, rfl, rfl⟩ := ovlS_runs (I := I) (a := ⟨g, ys.length + vs.length, none⟩) (b := ⟨h, 0, none⟩) (la := ys.length + vs.length + ws.length - (ys.length + vs.length)) (ca := c - (ys.length + vs.length)) (lb := vs.length) (cb := d) hgh
      (csA := (strL ys ++ (Value.string z :: (strL ws ++ rest))).toArray) (csB := (strL vs).toArray) (eA := 9) (eB := 9) (S := (g, .cells (strL ys ++ (Value.string z :: (strL ws ++ rest))).toArray 9 (0, 0)) :: (h, .cells (strL vs).toArray 9 (0, 0)) :: F) (by simp) (by simp) (by rw [List.size_toArray, hVl]; omega) w hw
    refine ⟨_, w', J, _, hr, hle, hs, false, rfl, ?_⟩
    clear hr hs hw w'
    unfold slices_Replace__string_string_b15 slices_Replace__string_string_b16
    simp only [e1, Int.toNat_natCast, Nat.sub_zero, slA_zero, wi]
    refine bcase_t rfl ⟨by omega, by omega, by omega, by omega, ?_⟩
    rw [slAd (by omega), slAd (by omega)]
    refine ⟨strL ws, ?_, strL_one ws, .inr ⟨_, rfl, StP.list ?_ (strL_one ws) ?_⟩⟩
    · rw [m2]
      refine Rd.list ?_ ?_
      · rw [← List.drop_drop, drop_at hYl, List.drop_succ_cons, List.drop_zero, Nat.mul_one, take_at hWl]
      · simp only [List.length_append, List.length_cons, hYl, hWl]; omega
    · simp only [List.length_append, List.length_cons, hYl, hWl, hrest]; omega
    · rw [hWl]
      have hT : ((strL ys ++ (Value.string z :: (strL ws ++ rest))).take (ys.length + vs.length)).length = ys.length + vs.length := by
        rw [List.length_take]; simp only [List.length_append, List.length_cons, hYl, hWl, hrest]; omega
      have hT4 : ((strL ys ++ (Value.string z :: (strL ws ++ rest))).take (ys.length + vs.length)).take ys.length = strL ys := by
        rw [List.take_take, show min ys.length (ys.length + vs.length) = ys.length by omega, take_at hYl]
      generalize hTe : (strL ys ++ (Value.string z :: (strL ws ++ rest))).take (ys.length + vs.length) = Tk at hT hT4
      have hD : ((strL ys ++ (Value.string z :: (strL ws ++ rest))).drop (ys.length + vs.length + ws.length)).length = c - (ys.length + vs.length + ws.length) := by
        rw [List.length_drop]; simp only [List.length_append, List.length_cons, hYl, hWl, hrest]; omega
      generalize hDe : (strL ys ++ (Value.string z :: (strL ws ++ rest))).drop (ys.length + vs.length + ws.length) = D at hD
      refine ⟨by omega, by omega, ?_⟩
      rw [slAd (by omega)]
      refine ⟨strL vs, ?_, strL_one vs, .inr ⟨_, rfl, StP.list ?_ (strL_one vs) ?_⟩⟩
      · rw [m1]
        exact Rd.keep (Sub.keep hle ((Sub.refl _).re (by intro a; simp only [cnt_cons, cnt_app, cnt_nil]; omega))) (Rd.list (I := I) (S := []) (e := 9) (fz := (0, 0)) (L := strL vs) (g := h) (o := 0) (by rw [List.drop_zero, Nat.mul_one, List.take_of_length_le (by rw [hVl]; exact Nat.le_refl _)]) (by rw [hVl]; omega))
      · simp only [List.length_append, hT, hVl, hWl]; omega
      · have k1 : (Tk ++ strL ws ++ D).take ys.length = strL ys := by
          rw [List.append_assoc, List.take_append_of_le_length (by rw [hT]; omega), hT4]
        have k2 : (Tk ++ strL ws ++ D).drop (ys.length + (strL vs).length) = strL ws ++ D := by
          rw [List.append_assoc, hVl, drop_at hT]
        rw [k1, k2]
        have hfin := OwnS.mk (xs := ys ++ vs ++ ws) (g := g) (cap := c) (rest := D) (by rw [hD]; exact hlen3) hcm
        rw [hlen2] at hfin
        refine ⟨_, hfin, ?_⟩
        rw [strL_app, strL_app, List.append_assoc (strL ys ++ strL vs)]
        exact (Sub.refl _).re (by intro a; simp only [cnt_cons, cnt_app, cnt_nil]; omega)
end Go.Proofs.YtmlojdbahlfiaaaDoor
/- Labels read as an address, and as a prefix: owner.address, owner.Address. -/
namespace Go.Proofs.YtmlojdbahlfiaaaDoor
open Go.Px
set_option linter.unusedVariables false
set_option linter.unusedSimpArgs false
set_option maxRecDepth 8000

abbrev OwnB (v : Value) (bs : List UInt8) (own : SH) : Prop := OwnR 5 1 elB v bs own
theorem BytesAt.sub {I : IMem} {S T : SH} {p : Option Addr} {n : Nat} {s : ByteArray} (h : BytesAt I S p n s) (hs : Sub S T) : BytesAt I T p n s := by
  cases p with
  | none => exact h
  | some a => exact ⟨h.1, fun i c hc => hs.cell' (h.2 i c hc)⟩
theorem OwnB.bytes {I : IMem} {T own : SH} {p : Option Addr} {n c : Nat} {bs : List UInt8} (h : OwnB (.slice p n c) bs own) (hs : Sub own T) : BytesAt I T p n ⟨bs.toArray⟩ := by
  refine BytesAt.sub ?_ hs
  rcases h with ⟨hv, rfl, rfl⟩ | ⟨g, cap, rest, hv, rfl, _, _⟩
  · injection hv with h1 h2 h3; subst h1; rfl
  · injection hv with h1 h2 h3; subst h1
    rw [flat_elB]
    exact BytesAt.list h2
theorem AppBs {xs ys : List UInt8} {b : Nat} {v : Value} {S F own : SH} {I : IMem} {K : Option Addr → Nat → Nat → SH → Prop} (hs : Sub (own ++ F) S) (hv : OwnB v xs own) (hl : xs.length + ys.length ≤ 1000000000)
    (hK : ∀ p n c own' T, OwnB (.slice p n c) (xs ++ ys) own' → Sub (own' ++ F) T → K p n c T) :
    AppG 5 1 1 [.int .u8 0] (some (.slice 5)) I ((b, .cells (bytL ys).toArray 5 (0, 0)) :: S) v (.slice (some ⟨b, 0, none⟩) ys.length ys.length) K := by
  obtain ⟨G, hG⟩ := hs
  refine AppG.own (xs := xs) (ys := ys) (el := elB) (own := own) (F := (b, .cells (bytL ys).toArray 5 (0, 0)) :: (F ++ G)) (fun _ => rfl) (fun _ => rfl) rfl ((hG.cons _).trans (by rw [List.append_assoc]; exact perm_mid1)) hv ⟨?_, flatMap_one (el := elB) (fun _ => rfl) _⟩ ?_ ?_ ?_
  · rw [flat_elB]
    exact Rd.list (L := bytL ys) (o := 0) (by rw [List.drop_zero, Nat.mul_one, List.take_of_length_le (by rw [bytL_len]; exact Nat.le_refl _)]) (by rw [bytL_len, Nat.zero_add, Nat.mul_one]; exact Nat.le_refl _)
  · simp only [maxLen]; omega
  · omega
  · intro p n c own' ho
    exact hK p n c own' _ ho ⟨(b, .cells (bytL ys).toArray 5 (0, 0)) :: G, by rw [List.append_assoc]; exact List.Perm.append_left own' perm_mid1⟩
def u8o (v : Int) : UInt8 := UInt8.ofNat (IntKind.wrap .u8 v).toNat
theorem u8o_v (v : Int) : ((u8o v).toNat : Int) = IntKind.wrap .u8 v := by
  have h : 0 ≤ IntKind.wrap .u8 v ∧ IntKind.wrap .u8 v < 256 := by rw [wrap_u8_eq]; omega
  unfold u8o
  rw [ofNatU (by omega)]; omega
theorem u8o_eq {v : Int} {c : UInt8} (h : IntKind.wrap .u8 v = (c.toNat : Int)) : u8o v = c := by
  apply UInt8.toNat_inj.1
  have := u8o_v v
  omega
def adX (ls : List ByteArray) (P : ByteArray → Prop) : Prop := ∀ ad : ByteArray, ad.size = 4 ∨ ad.size = 16 → ls = addrL ad → P ad
def zB : ByteArray := ⟨#[48]⟩
def repl (rs : List ByteArray) : List ByteArray := match rs.findIdx? (fun x => decide (zzB = x)) with
  | some k => if rs.length ≤ 7 then rs.take k ++ List.replicate (9 - rs.length) zB ++ rs.drop (k + 1) else rs
  | none => rs
theorem dec_zz {m : Nat} (h : m ≤ 255) : decB m ≠ zzB := fun e => by
  have h1 : numL 3 10 m = [122, 122] := by
    have := congrArg (fun s : ByteArray => s.data.toList) e
    simpa [decB, zzB] using this
  have h2 := aF_dec ⟨m, by omega⟩
  dsimp only at h2
  rw [h1] at h2
  have h3 : aF [122, 122] 0 = none := by decide
  rw [h3] at h2; cases h2
theorem bat_le (a : ByteArray) (k : Nat) : bat a k ≤ 255 := by have := bat_lt a k; omega
theorem four_rev (a : ByteArray) : (fourL a).reverse = [decB (bat a 0), decB (bat a 1), decB (bat a 2), decB (bat a 3)] := rfl
theorem four_has (a : ByteArray) : hasS (fourL a).reverse zzB = false := by
  rw [four_rev, hasS]
  simp only [List.any_cons, List.any_nil, Bool.or_false, Bool.or_eq_false_iff, decide_eq_false_iff_not]
  exact ⟨fun e => dec_zz (bat_le a 0) e.symm, fun e => dec_zz (bat_le a 1) e.symm, fun e => dec_zz (bat_le a 2) e.symm, fun e => dec_zz (bat_le a 3) e.symm⟩
theorem fourR_at (a : ByteArray) {k : Nat} (h : k < 4) : (fourL a).reverse[k]? = some (decB (bat a k)) := by
  rw [four_rev]
  rcases k with _ | _ | _ | _ | k
  · rfl
  · rfl
  · rfl
  · rfl
  · omega
theorem ren_zz' {ws : List Nat} (h : Ws ws) : (fun x => decide (zzB = x)) ∘ ren ws = fun o => o.isNone := by
  funext o
  simp only [Function.comp]
  cases o with
  | none => simp [ren]
  | some k =>
    have : zzB ≠ ren ws (some k) := fun e => by have := (ren_zz h (some k)).1 e.symm; cases this
    simp [this]
theorem six_repl (a : ByteArray) : repl (sixL (wordsB a)).reverse = (wordsB a).map hexB := by
  have hws := wordsB_ws a
  have hg := good_of hws.zlen
  simp only [goodZ, Bool.and_eq_true, decide_eq_true_eq, Bool.or_eq_true] at hg
  obtain ⟨⟨⟨⟨⟨⟨⟨⟨⟨⟨⟨⟨⟨⟨-, -⟩, -⟩, -⟩, h7⟩, -⟩, -⟩, -⟩, -⟩, -⟩, -⟩, -⟩, -⟩, -⟩, -⟩ := hg
  rw [six_rev hws, ← six_exp hws, repl, expd, List.findIdx?_map, ren_zz' hws]
  cases hf : (fwd (zs (wordsB a))).findIdx? (fun o => o.isNone) with
  | none => rfl
  | some k =>
    have hlen : (fwd (zs (wordsB a))).length ≤ 7 := by
      rcases h7 with h | h
      · exact h
      · rw [List.findIdx?_eq_some_iff_getElem] at hf
        obtain ⟨h1, h2, _⟩ := hf
        have : (fwd (zs (wordsB a))).any (fun x => x.isNone) = true := by rw [List.any_eq_true]; exact ⟨_, List.getElem_mem h1, h2⟩
        rw [this] at h; simp at h
    have h8 : ren (wordsB a) (some 8) = zB := by
      have : (wordsB a).getD 8 0 = 0 := by
        rw [List.getD_eq_getElem?_getD, List.getElem?_eq_none (by rw [hws.len]; exact Nat.le_refl _)]; rfl
      rw [ren, this]; rfl
    dsimp only
    rw [List.length_map, if_pos hlen, List.map_append, List.map_append, List.map_take, List.map_drop, List.map_replicate, h8, List.append_assoc]
theorem six_has (a : ByteArray) (h4 : (sixL (wordsB a)).reverse.length = 4) : hasS (sixL (wordsB a)).reverse zzB = true := by
  have hws := wordsB_ws a
  have hg := good_of hws.zlen
  simp only [goodZ, Bool.and_eq_true, decide_eq_true_eq, Bool.or_eq_true] at hg
  obtain ⟨⟨⟨⟨⟨⟨⟨⟨⟨⟨⟨⟨⟨⟨-, -⟩, -⟩, ha⟩, -⟩, -⟩, -⟩, -⟩, -⟩, -⟩, -⟩, -⟩, -⟩, -⟩, -⟩ := hg
  rw [six_rev hws] at h4 ⊢
  rw [List.length_map] at h4
  rcases ha with h | h
  · exact absurd h4 h
  · rw [hasS, List.any_map, ren_zz' hws]; exact h
def adRes (ls : List ByteArray) (S : SH) (v : Value) (T : SH) : Prop := ∃ (s : ByteArray) (b : Bool), v = .tuple #[.string s, .bool b] ∧ adX ls (fun ad => s = ad ∧ b = true) ∧ Sub S T
theorem adRes.no {ls : List ByteArray} {S T : SH} (h : adX ls (fun _ => False)) (hs : Sub S T) : adRes ls S (.tuple #[.string ⟨#[]⟩, .bool false]) T :=
  ⟨_, _, rfl, fun ad h1 h2 => (h ad h1 h2).elim, hs⟩
theorem ba_of (a : ByteArray) : (⟨a.data.toList.toArray⟩ : ByteArray) = a := bext rfl
theorem decs_runs {ls us : List ByteArray} {p : Option Addr} {c : Nat} {I : IMem} (g : GL I) {S T0 : SH} (hS : Sub S T0) (hu : RowIn I S p us.length 1 elS us) (h4 : us.length = 4) (hsz : ∀ l ∈ us, l.size ≤ 281474976710656) {F : SH} (hF : Sub F S)
    (hX : adX ls fun ad => ad.size = 4 ∧ ∀ k, k < 4 → us[k]? = some (decB (bat ad k))) :
    owner_address_b3 (fun v _ T => adRes ls F v T) none 0 0 p us.length c (us.length : Int) 0 I T0 := by
  unfold owner_address_b3
  refine ⟨fun m o on oc x xn xc q i J T => x = p ∧ xn = us.length ∧ q = (us.length : Int) ∧ I.le J ∧ ∃ (k : Nat) (bs : List UInt8) (own : SH), i = (k : Int) ∧ k ≤ us.length ∧ m = us.length - k ∧ bs.length = k ∧ OwnB (.slice o on oc) bs own ∧ Sub (own ++ S) T ∧ adX ls (fun ad => bs = ad.data.toList.take k),
    us.length, ⟨rfl, rfl, rfl, IMem.le.refl I, 0, [], [], rfl, Nat.zero_le _, rfl, rfl, OwnR.nil, hS, fun ad _ _ => rfl⟩, ?_⟩
  rintro m o on oc x xn xc q i J T - ⟨rfl, rfl, rfl, hle, k, bs, own, rfl, hk, rfl, hbl, ho, hs, hB⟩
  unfold owner_address_l4
  refine bcase_dec (fun h => ?_) (fun h => ?_)
  · obtain ⟨u, huk⟩ := get_lt (xs := us) (k := k) (by omega)
    obtain ⟨a', rfl, hc⟩ := strRow ((hu.sub hs.right).le hle) huk
    refine ⟨by omega, by omega, u, hc, (dec_runs (g.le hle) u (hsz u (List.mem_of_getElem? huk)) 255 (Nat.le_refl _) T).mono ?_⟩
    rintro v J1 T1 hle1 ⟨n, b, rfl, hx, hs1⟩
    refine ⟨n, b, rfl, bcase_not (bcase_of (fun hb => ?_) (fun hb => adRes.no (fun ad h1 h2 => ?_) ((hF.trans hs.right).trans hs1)))⟩
    · intro b43
      have := AppBs (b := b43) (I := J1) (xs := bs) (ys := [u8o n]) (F := S) (hs.trans hs1) ho (by simp; omega) (K := fun x44 x44n x44c S1' => ∃ m', m' < us.length - k ∧ (some a' = some a' ∧ us.length = us.length ∧ (us.length : Int) = (us.length : Int) ∧ I.le J1 ∧ ∃ (k' : Nat) (bs : List UInt8) (own : SH), IntKind.wrap .i64 ((k : Int) + 1) = (k' : Int) ∧ k' ≤ us.length ∧ m' = us.length - k' ∧ bs.length = k' ∧ OwnB (.slice x44 x44n x44c) bs own ∧ Sub (own ++ S) S1' ∧ adX ls (fun ad => bs = ad.data.toList.take k'))) ?_
      · rw [show bytL [u8o n] = [.int .u8 (IntKind.wrap .u8 n)] by rw [bytL, List.map_singleton, u8o_v]] at this
        exact this
      · intro p n' c' own' T' ho' hs'
        refine ⟨us.length - (k + 1), by omega, rfl, rfl, rfl, hle.trans hle1, k + 1, bs ++ [u8o n], own', by rw [wrap_i64 (by omega) (by omega)]; rfl, by omega, rfl, by simp; omega, ho', hs', fun ad h1 h2 => ?_⟩
        obtain ⟨h3, h5⟩ := hX ad h1 h2
        have h6 := h5 k (by omega)
        rw [huk] at h6
        obtain ⟨h7, _⟩ := hx (bat ad k) (bat_le ad k) (Option.some.inj h6)
        obtain ⟨d, hd⟩ := at_ok (s := ad) (k := k) (by omega)
        have hd2 : ad.data.toList[k]? = some d := by rw [← ba_get]; exact hd
        rw [hB ad h1 h2, take_snoc hd2]
        congr 2
        apply u8o_eq
        have := d.toNat_lt
        rw [h7, bat_of hd, wrap_u8 (by omega) (by omega)]
    · obtain ⟨h3, h5⟩ := hX ad h1 h2
      have h6 := h5 k (by omega)
      rw [huk] at h6
      obtain ⟨_, h7⟩ := hx (bat ad k) (bat_le ad k) (Option.some.inj h6)
      rw [h7] at hb; cases hb
  · unfold owner_address_b5
    refine ⟨_, ho.bytes hs.left, _, _, rfl, fun ad h1 h2 => ⟨?_, rfl⟩, hF.trans hs.right⟩
    have hk4 : k = 4 := by omega
    have h3 := (hX ad h1 h2).1
    rw [hB ad h1 h2, hk4, List.take_of_length_le (by rw [Array.length_toList]; have : ad.data.size = ad.size := rfl; omega), ba_of]
theorem hexs_runs {ls us : List ByteArray} {p : Option Addr} {c : Nat} {I : IMem} (g : GL I) {S T0 : SH} (hS : Sub S T0) (hu : RowIn I S p us.length 1 elS us) (h8 : us.length = 8) (hsz : ∀ l ∈ us, l.size ≤ 281474976710656) {F : SH} (hF : Sub F S)
    (hX : adX ls fun ad => ad.size = 16 ∧ us = (wordsB ad).map hexB) :
    owner_address_b10 (fun v _ T => adRes ls F v T) none 0 0 p us.length c (us.length : Int) 0 I T0 := by
  unfold owner_address_b10
  refine ⟨fun m o on oc x xn xc q i J T => x = p ∧ xn = us.length ∧ q = (us.length : Int) ∧ I.le J ∧ ∃ (k : Nat) (bs : List UInt8) (own : SH), i = (k : Int) ∧ k ≤ us.length ∧ m = us.length - k ∧ bs.length = 2 * k ∧ OwnB (.slice o on oc) bs own ∧ Sub (own ++ S) T ∧ adX ls (fun ad => bs = ad.data.toList.take (2 * k)),
    us.length, ⟨rfl, rfl, rfl, IMem.le.refl I, 0, [], [], rfl, Nat.zero_le _, rfl, rfl, OwnR.nil, hS, fun ad _ _ => rfl⟩, ?_⟩
  rintro m o on oc x xn xc q i J T - ⟨rfl, rfl, rfl, hle, k, bs, own, rfl, hk, rfl, hbl, ho, hs, hB⟩
  have hFT : Sub F T := hF.trans hs.right
  unfold owner_address_l11
  have hXk : ∀ u, us[k]? = some u → k < 8 → adX ls (fun ad => ad.size = 16 ∧ u = hexB (bat ad (2 * k) * 256 + bat ad (2 * k + 1))) := by
    intro u huk hk8 ad h1 h2
    obtain ⟨h3, h4⟩ := hX ad h1 h2
    rw [h4, List.getElem?_map, wordsB_at ad hk8] at huk
    exact ⟨h3, (Option.some.inj huk).symm⟩
  refine bcase_dec (fun h => ?_) (fun h => ?_)
  · obtain ⟨u, huk⟩ := get_lt (xs := us) (k := k) (by omega)
    obtain ⟨a', rfl, hc⟩ := strRow ((hu.sub hs.right).le hle) huk
    have hXu := hXk u huk (by omega)
    refine ⟨by omega, by omega, u, hc, (hex_runs (g.le hle) u (hsz u (List.mem_of_getElem? huk)) T).mono ?_⟩
    rintro v J1 T1 hle1 ⟨n, b, rfl, hx, hs1⟩
    refine ⟨n, b, rfl, bcase_not (bcase_of (fun hb => ?_) (fun hb => adRes.no (fun ad h1 h2 => ?_) (hFT.trans hs1)))⟩
    · intro b90
      have := AppBs (b := b90) (I := J1) (xs := bs) (ys := [u8o (n.fdiv (2 ^ (min (8 : Int).toNat (IntKind.bits .i64)))), u8o n]) (F := S) (hs.trans hs1) ho (by simp; omega) (K := fun x44 x44n x44c S1' => ∃ m', m' < us.length - k ∧ (some a' = some a' ∧ us.length = us.length ∧ (us.length : Int) = (us.length : Int) ∧ I.le J1 ∧ ∃ (k' : Nat) (bs : List UInt8) (own : SH), IntKind.wrap .i64 ((k : Int) + 1) = (k' : Int) ∧ k' ≤ us.length ∧ m' = us.length - k' ∧ bs.length = 2 * k' ∧ OwnB (.slice x44 x44n x44c) bs own ∧ Sub (own ++ S) S1' ∧ adX ls (fun ad => bs = ad.data.toList.take (2 * k')))) ?_
      · rw [show bytL [u8o (n.fdiv (2 ^ (min (8 : Int).toNat (IntKind.bits .i64)))), u8o n] = [.int .u8 (IntKind.wrap .u8 (n.fdiv (2 ^ (min (8 : Int).toNat (IntKind.bits .i64))))), .int .u8 (IntKind.wrap .u8 n)] by rw [bytL, List.map_cons, List.map_singleton, u8o_v, u8o_v]] at this
        exact this
      · intro p n' c' own' T' ho' hs'
        refine ⟨us.length - (k + 1), by omega, rfl, rfl, rfl, hle.trans hle1, k + 1, bs ++ [u8o (n.fdiv (2 ^ (min (8 : Int).toNat (IntKind.bits .i64)))), u8o n], own', by rw [wrap_i64 (by omega) (by omega)]; rfl, by omega, rfl, by simp; omega, ho', hs', fun ad h1 h2 => ?_⟩
        obtain ⟨h3, h5⟩ := hXu ad h1 h2
        have hb1 := bat_lt ad (2 * k); have hb2 := bat_lt ad (2 * k + 1)
        obtain ⟨h7, _⟩ := hx _ (by omega) h5
        obtain ⟨d, hd⟩ := at_ok (s := ad) (k := 2 * k) (by omega)
        obtain ⟨e, he⟩ := at_ok (s := ad) (k := 2 * k + 1) (by omega)
        have hd2 : ad.data.toList[2 * k]? = some d := by rw [← ba_get]; exact hd
        have he2 : ad.data.toList[2 * k + 1]? = some e := by rw [← ba_get]; exact he
        rw [bat_of hd, bat_of he] at h7
        have hdl := d.toNat_lt; have hel := e.toNat_lt
        have e1 : u8o (n.fdiv (2 ^ (min (8 : Int).toNat (IntKind.bits .i64)))) = d := by
          apply u8o_eq
          have : (2 : Int) ^ (min (8 : Int).toNat (IntKind.bits .i64)) = 256 := by decide
          rw [this, h7, Int.fdiv_eq_ediv_of_nonneg _ (by decide), wrap_u8_eq]; omega
        have e2 : u8o n = e := by
          apply u8o_eq
          rw [h7, wrap_u8_eq]; omega
        rw [hB ad h1 h2, e1, e2, show 2 * (k + 1) = (2 * k + 1) + 1 by omega, take_snoc he2, take_snoc hd2, List.append_assoc]; rfl
    · obtain ⟨h3, h5⟩ := hXu ad h1 h2
      have hb1 := bat_lt ad (2 * k); have hb2 := bat_lt ad (2 * k + 1)
      obtain ⟨_, h7⟩ := hx _ (by omega) h5
      rw [h7] at hb; cases hb
  · unfold owner_address_b12
    refine ⟨_, ho.bytes hs.left, _, _, rfl, fun ad h1 h2 => ⟨?_, rfl⟩, hFT⟩
    have hk4 : k = 8 := by omega
    have h3 := (hX ad h1 h2).1
    rw [hB ad h1 h2, hk4, List.take_of_length_le (by rw [Array.length_toList]; have : ad.data.size = ad.size := rfl; omega), ba_of]
end Go.Proofs.YtmlojdbahlfiaaaDoor
/- owner.address and owner.Address, of all lists of words. -/
namespace Go.Proofs.YtmlojdbahlfiaaaDoor
open Go.Px
set_option linter.unusedVariables false
set_option linter.unusedSimpArgs false
set_option maxRecDepth 8000

theorem addr_rev4 {ad : ByteArray} (h : ad.size = 4) : (addrL ad).reverse = (fourL ad).reverse := by rw [addrL, if_pos h]
theorem addr_rev16 {ad : ByteArray} (h : ad.size = 16) : (addrL ad).reverse = (sixL (wordsB ad)).reverse := by rw [addrL, if_neg (by omega)]
theorem six_b8 {ls us : List ByteArray} {p : Option Addr} {c : Nat} {I : IMem} (g : GL I) {S T0 : SH} (hS : Sub S T0) (hu : RowIn I S p us.length 1 elS us) (hsz : ∀ l ∈ us, l.size ≤ 281474976710656) {F : SH} (hF : Sub F S)
    (hX : adX ls fun ad => ad.size = 16 ∧ us = (wordsB ad).map hexB) :
    owner_address_b8 (fun v _ T => adRes ls F v T) p us.length c none 0 0 I T0 := by
  unfold owner_address_b8 owner_address_b9
  refine bcase_bne (fun h => adRes.no (fun ad h1 h2 => ?_) (hF.trans hS)) (fun h => hexs_runs g hS hu (by omega) hsz hF hX)
  have h3 := congrArg List.length (hX ad h1 h2).2
  rw [List.length_map, (wordsB_ws ad).len] at h3
  omega
theorem address_runs {ls : List ByteArray} {a : Option Addr} {c : Nat} {I : IMem} (g : GL I) {S : SH} (hx : RowIn I S a ls.length 1 elS ls) (hl : ls.length * 16 ≤ 140737488355328) (hsz : ∀ l ∈ ls, l.size ≤ 281474976710656) :
    Runs Tryd.prog 73 #[.slice a ls.length c] I S fun v _ T => adRes ls S v T := by
  refine owner_address_fn _ _ _ _ _ _ ?_
  unfold owner_address
  refine (ClS_runs hx hl).mono ?_
  rintro v J T hle ⟨own, ho, hs⟩
  obtain ⟨p, d, rfl⟩ := ho.slice
  refine ⟨_, _, _, rfl, Runs.use hs (RevO_runs ho (by omega) J S) ?_⟩
  rintro v J1 T1 hle1 ⟨rfl, own1, ho1, rfl⟩
  refine ⟨rfl, ?_⟩
  have hlen : ls.reverse.length = ls.length := List.length_reverse
  have hsz' : ∀ l ∈ ls.reverse, l.size ≤ 281474976710656 := fun l h => hsz l (List.mem_reverse.1 h)
  have g1 := (g.le hle).le hle1
  rw [← hlen] at ho1
  rw [← hlen]
  generalize hrs : ls.reverse = rs at ho1 hsz' hlen
  have hrow : ∀ {K : IMem} {T : SH}, Sub (own1 ++ S) T → RowIn K T p rs.length 1 elS rs := fun hs => (OwnS.row ho1).sub hs.left
  have isix : adX ls (fun ad => ad.size = 16) → adX ls (fun ad => ad.size = 16 ∧ repl rs = (wordsB ad).map hexB) := by
    intro h ad h1 h2
    have h3 := h ad h1 h2
    refine ⟨h3, ?_⟩
    rw [← hrs, h2, addr_rev16 h3, six_repl]
  have six : ∀ (J : IMem) (T : SH), GL J → Sub (own1 ++ S) T → adX ls (fun ad => ad.size = 16) → owner_address_b6 (fun v _ T => adRes ls S v T) p rs.length d none 0 0 J T := by
    intro J T g hs hX
    unfold owner_address_b6
    refine (Index_runs zzB (hrow hs) (by omega)).mono ?_
    rintro v J1 T1 hle1 ⟨rfl, rfl⟩
    have hr0 := isix hX
    rw [idxS]
    have plain : repl rs = rs → owner_address_b8 (fun v _ T => adRes ls S v T) p rs.length d none 0 0 J1 T1 := by
      intro e
      refine six_b8 (S := own1 ++ S) (g.le hle1) hs (hrow (Sub.refl _)) hsz' (Sub.right (Sub.refl _)) ?_
      rw [← e]; exact hr0
    cases hi : rs.findIdx? (fun x => decide (zzB = x)) with
    | none =>
      unfold owner_address_b7
      exact ⟨_, rfl, bcase_f rfl (bcase_f rfl (plain (by rw [repl, hi])))⟩
    | some k =>
      have hi' := hi
      rw [List.findIdx?_eq_some_iff_getElem] at hi
      obtain ⟨hk, hzk, _⟩ := hi
      refine ⟨_, rfl, bcase_t (decide_eq_true (by dsimp only; omega)) ?_⟩
      dsimp only
      unfold owner_address_b7
      refine bcase_dec (fun h7 => ?_) (fun h7 => plain (by rw [repl, hi']; dsimp only; rw [if_neg (by omega)]))
      intro b57
      have hcnt : IntKind.wrap .i64 (9 - (rs.length : Int)) = ((9 - rs.length : Nat) : Int) := by rw [wrap_i64 (by omega) (by omega)]; omega
      rw [hcnt]
      have hz1 : RowIn J1 ((b57, .cells #[.string zB] 9 (0, 0)) :: T1) (some ⟨b57, 0, none⟩) 1 1 elS [zB] :=
        (OwnS.row (I := J1) (OwnS.mk (xs := [zB]) (g := b57) (cap := 1) (rest := []) rfl (by decide))).sub ((Sub.refl _).re (by intro a; simp only [cnt_cons, cnt_app, cnt_nil]; exact Nat.le_add_right _ _))
      refine (Repeat_runs (cnt := 9 - rs.length) (by omega) (by omega) hz1).mono ?_
      rintro v J2 T2 hle2 ⟨h, rfl, rfl⟩
      have hk1 : IntKind.wrap .i64 ((k : Int) + 1) = (k : Int) + 1 := wrap_i64 (by omega) (by omega)
      rw [hk1]
      rcases OwnS.cases ho1 with ⟨_, _, _, hnil, _⟩ | ⟨gb, rest, rfl, _, rfl, hcap, hcm⟩
      · rw [hnil] at hk; simp at hk
      have hsplit : rs = rs.take k ++ zzB :: rs.drop (k + 1) := by
        conv => lhs; rw [← List.take_append_drop k rs, List.drop_eq_getElem_cons hk]
        rw [← of_decide_eq_true hzk]
      have hyl : (rs.take k).length = k := by rw [List.length_take]; omega
      have hrep := Replace_runs (ys := rs.take k) (vs := List.replicate (9 - rs.length) zB) (ws := rs.drop (k + 1)) (z := zzB) (g := gb) (h := h) (c := d) (d := 9 - rs.length) (rest := rest)
        (by simp; omega) (by rw [← hsplit]; exact hcap) hcm (by rw [hyl]; simp; omega) J2 S
      rw [← hsplit, hyl, List.length_replicate] at hrep
      refine ⟨_, _, _, rfl, Runs.use ?_ hrep ?_⟩
      · have hst : Sub ([(gb, .cells (strL rs ++ rest).toArray 9 (0, 0))] ++ S) T1 := hs
        exact ((hst.skip (b57, .cells #[.string zB] 9 (0, 0))).cons (h, .cells (strL (List.replicate (9 - rs.length) zB)).toArray 9 (0, 0))).re (by intro a; simp only [cnt_cons, cnt_app, cnt_nil]; omega)
      · rintro v J3 T3 hle3 ⟨own3, ho3, hs3⟩
        obtain ⟨p3, c3, rfl⟩ := ho3.slice
        refine ⟨_, _, _, rfl, ?_⟩
        have e : repl rs = rs.take k ++ List.replicate (9 - rs.length) zB ++ rs.drop (k + 1) := by
          rw [repl, hi']; dsimp only; rw [if_pos (by omega)]
        rw [← e] at ho3 ⊢
        refine six_b8 (S := own3 ++ S) (((g.le hle1).le hle2).le hle3) hs3 ((OwnS.row ho3).sub (Sub.left (Sub.refl _))) ?_ (Sub.right (Sub.refl _)) hr0
        intro l hl
        rw [e] at hl
        rcases List.mem_append.1 hl with hl | hl
        · rcases List.mem_append.1 hl with hl | hl
          · exact hsz' l (List.mem_of_mem_take hl)
          · rw [(List.mem_replicate.1 hl).2]; decide
        · exact hsz' l (List.mem_of_mem_drop hl)
  unfold owner_address_b1
  refine bcase_beq (fun h4 => ?_) (fun h4 => ?_)
  · refine (Contains_runs zzB (hrow (Sub.refl _)) (by omega)).mono ?_
    rintro v J2 T2 hle2 ⟨rfl, rfl⟩
    refine ⟨_, rfl, ?_⟩
    unfold owner_address_b2
    refine bcase_not (bcase_of (fun hz => ?_) (fun hz => ?_))
    · refine six _ _ (g1.le hle2) (Sub.refl _) (fun ad h1 h2 => ?_)
      rcases h1 with h1 | h1
      · rw [← hrs, h2, addr_rev4 h1, four_has] at hz; cases hz
      · exact h1
    · refine decs_runs (S := own1 ++ S) (g1.le hle2) (Sub.refl _) (hrow (Sub.refl _)) (by omega) hsz' (Sub.right (Sub.refl _)) (fun ad h1 h2 => ?_)
      rcases h1 with h1 | h1
      · refine ⟨h1, fun k hk => ?_⟩
        rw [← hrs, h2, addr_rev4 h1]; exact fourR_at ad hk
      · have h5 := six_has ad
        rw [← addr_rev16 h1, ← h2, hrs] at h5
        rw [h5 (by omega)] at hz; cases hz
  · unfold owner_address_b2
    refine bcase_f rfl (six _ _ g1 (Sub.refl _) (fun ad h1 h2 => ?_))
    rcases h1 with h1 | h1
    · have := congrArg List.length hrs
      rw [h2, addr_rev4 h1] at this
      rw [four_rev] at this
      simp at this; omega
    · exact h1

/-! ### Address -/
def AdR (ls : List ByteArray) (v : Value) : Prop :=
  (∃ (a : ByteArray) (n : Int), mayP a n ∧ ls = pfxL a n ∧ v = .tuple #[.agg #[.string a, .int .i64 n], .bool true]) ∨ ((∀ a n, mayP a n → ls ≠ pfxL a n) ∧ v = .tuple #[.agg #[.string ⟨#[]⟩, .int .i64 0], .bool false])
theorem pfxL_may {a : ByteArray} {n : Int} (h : mayP a n) : pfxL a n = decB n.toNat :: addrL a := by rw [pfxL, if_pos (mayB_iff.2 h)]
theorem addrL_len (a : ByteArray) : 1 ≤ (addrL a).length := by
  rw [addrL]
  split
  · simp [fourL]
  · have hws := wordsB_ws a
    have hg := good_of hws.zlen
    simp only [goodZ, Bool.and_eq_true, decide_eq_true_eq] at hg
    obtain ⟨⟨⟨⟨⟨⟨⟨⟨⟨⟨⟨⟨⟨⟨-, -⟩, -⟩, -⟩, -⟩, -⟩, h1⟩, -⟩, -⟩, -⟩, -⟩, -⟩, -⟩, -⟩, -⟩ := hg
    have := congrArg List.length (six_rev hws)
    rw [List.length_reverse, List.length_map] at this
    omega
theorem Address_runs {ls : List ByteArray} {a : Option Addr} {c : Nat} {I : IMem} (g : GL I) {S : SH} (hx : RowIn I S a ls.length 1 elS ls) (hl : ls.length * 16 ≤ 140737488355328) (hlc : ls.length ≤ c) (hsz : ∀ l ∈ ls, l.size ≤ 281474976710656) :
    Runs Tryd.prog 63 #[.slice a ls.length c] I S fun v _ T => AdR ls v ∧ Sub S T := by
  refine owner_Address_fn _ _ _ _ _ _ ?_
  unfold owner_Address
  intro b2
  refine bcase_dec (fun h => ?_) (fun h => ?_)
  · refine StP.at0 (by decide) rfl ⟨_, Cell.at0 rfl, _, Cell.at0 rfl, .inr ⟨fun a n hm e => ?_, rfl⟩, (Sub.refl _).skip _⟩
    have h1 := congrArg List.length e
    have h2 := addrL_len a
    rw [pfxL_may hm, List.length_cons] at h1
    omega
  · obtain ⟨l0, hl0⟩ := get_lt (xs := ls) (k := 0) (by omega)
    obtain ⟨a', rfl, hc⟩ := strRow (hx.sub ((Sub.refl S).skip (b2, .cells #[.string ⟨#[]⟩, .int .i64 0] 25 (0, 0)))) hl0
    obtain ⟨l1, lr, rfl⟩ : ∃ l1 lr, ls = l1 :: lr := by
      cases ls with
      | nil => simp at hl0
      | cons x xs => exact ⟨x, xs, rfl⟩
    have e0 : l1 = l0 := Option.some.inj hl0
    subst e0
    refine ⟨by omega, by rw [List.length_cons]; omega, l1, hc, (dec_runs g l1 (hsz l1 (List.mem_cons_self ..)) 128 (by decide) _).mono ?_⟩
    rintro v J T hle ⟨n, ok, rfl, hn, hs⟩
    refine ⟨n, ok, rfl, by omega, by rw [List.length_cons]; omega, ?_⟩
    have e1 : (1 : Int).toNat = 1 := rfl
    rw [e1]
    have hrow2 := (hx.drop (j := 1) (by rw [List.length_cons]; omega) hlc)
    rw [List.drop_succ_cons, List.drop_zero, List.length_cons, Nat.add_sub_cancel] at hrow2
    rw [List.length_cons, Nat.add_sub_cancel]
    rw [List.length_cons] at hl hlc
    have hST : Sub S T := hs.drop
    refine (address_runs (g.le hle) ((hrow2.sub hST).le hle) (by omega) (fun l h => hsz l (List.mem_cons_of_mem _ h))).mono ?_
    rintro v J1 T1 hle1 ⟨s, is, rfl, hX, hs1⟩
    have hs2 : Sub ((b2, .cells #[.string ⟨#[]⟩, .int .i64 0] 25 (0, 0)) :: S) T1 := hs.trans hs1
    refine ⟨s, is, rfl, fun b8 => StP.at0 (Nat.le_refl 2) rfl ?_⟩
    have key : ∀ a m, mayP a m → l1 :: lr = pfxL a m → n = m ∧ ok = true ∧ s = a ∧ is = true := by
      intro a m hm e
      rw [pfxL_may hm] at e
      injection e with e2 e3
      obtain ⟨⟨h1, h2, h3⟩, _⟩ := hm
      obtain ⟨h4, h5⟩ := hn m.toNat (by omega) e2
      obtain ⟨h6, h7⟩ := hX a h1 e3
      exact ⟨by omega, h5, h6, h7⟩
    have no : (∀ a m, mayP a m → l1 :: lr ≠ pfxL a m) → ∀ (J2 : IMem) (T2 : SH), Sub ((b8, .cells #[.string s, .int .i64 n] 25 (0, 0)) :: (b2, .cells #[.string ⟨#[]⟩, .int .i64 0] 25 (0, 0)) :: S) T2 →
        owner_Address_b2 (fun v _ T => AdR (l1 :: lr) v ∧ Sub S T) ⟨b2, 0, none⟩ ⟨b8, 0, none⟩ true J2 T2 := by
      intro hno J2 T2 hs3
      unfold owner_Address_b2
      refine bcase_t rfl (StP.of_sub (hs3.drop) (StP.at0 (by decide) rfl ?_))
      intro T3 hs4
      exact ⟨_, hs4.cell' (Cell.at0 rfl), _, hs4.cell' (by rw [add_mk]; exact Cell.at0 rfl), .inr ⟨hno, rfl⟩, hs4.drop⟩
    have hs5 : Sub ((b8, .cells #[.string s, .int .i64 n] 25 (0, 0)) :: (b2, .cells #[.string ⟨#[]⟩, .int .i64 0] 25 (0, 0)) :: S) ((b8, .cells #[.string s, .int .i64 n] 25 (0, 0)) :: T1) := hs2.cons _
    unfold owner_Address_b1
    refine bcase_not (bcase_of (fun hok => bcase_not (bcase_of (fun his => ?_) (fun his => no (fun a m hm e => ?_) J1 _ hs5))) (fun hok => no (fun a m hm e => ?_) J1 _ hs5))
    · refine ⟨_, Cell.at0 rfl, _, Cell.at0 rfl, (Prefix_runs ((g.le hle).le hle1) s n _).mono ?_⟩
      rintro v J2 T2 hle2 ⟨own, ho, hs6⟩
      obtain ⟨p, d, rfl⟩ := ho.slice
      have hST2 : Sub ((b8, .cells #[.string s, .int .i64 n] 25 (0, 0)) :: (b2, .cells #[.string ⟨#[]⟩, .int .i64 0] 25 (0, 0)) :: S) T2 := hs5.trans hs6.right
      have hrow3 : RowIn J2 T2 (some a') (l1 :: lr).length 1 elS (l1 :: lr) := (((hx.le hle).le hle1).le hle2).sub (hST2.drop.drop)
      have hlp : (pfxL s n).length ≤ 4611686018427387904 := by
        rw [pfxL]
        split
        · rw [List.length_cons, addrL]
          split
          · simp [fourL]
          · have := sixL_len s; omega
        · simp
      refine ⟨_, _, _, rfl, (Equal_runs ((OwnS.row ho).sub hs6.left) hrow3 hlp).mono ?_⟩
      rintro v J3 T3 hle3 ⟨rfl, rfl⟩
      refine ⟨_, rfl, ?_⟩
      by_cases he : pfxL s n = l1 :: lr
      · rw [decide_eq_true he]
        have hm : mayP s n := by
          refine mayB_iff.1 ?_
          cases hb : mayB s n
          · rw [pfxL, hb] at he; simp at he
          · rfl
        unfold owner_Address_b2 owner_Address_b3
        refine bcase_f rfl ⟨_, hST2.cell' (Cell.at0 rfl), _, hST2.cell' (by rw [add_mk]; exact Cell.at0 rfl), ?_⟩
        refine StP.of_sub (hST2.drop) (StP.at0 (Nat.le_refl 2) rfl ?_)
        intro T4 hs7
        exact ⟨_, hs7.cell' (Cell.at0 rfl), _, hs7.cell' (by rw [add_mk]; exact Cell.at0 rfl), .inl ⟨s, n, hm, he.symm, rfl⟩, hs7.drop⟩
      · rw [decide_eq_false he]
        refine no (fun a m hm e => he ?_) J3 T3 hST2
        obtain ⟨k1, _, k2, _⟩ := key a m hm e
        rw [k1, k2]; exact e.symm
    · obtain ⟨_, _, _, k⟩ := key a m hm e
      rw [k] at his; cases his
    · obtain ⟨_, k, _, _⟩ := key a m hm e
      rw [k] at hok; cases hok
end Go.Proofs.YtmlojdbahlfiaaaDoor
/- Names as triggers: owner.kinds, owner.named, owner.Decode. -/
namespace Go.Proofs.YtmlojdbahlfiaaaDoor
open Go.Px
set_option linter.unusedVariables false
set_option linter.unusedSimpArgs false
set_option maxRecDepth 8000

/-! ### a prefix by its labels -/
theorem addr_inj {a b : ByteArray} (ha : a.size = 4 ∨ a.size = 16) (hb : b.size = 4 ∨ b.size = 16) (h : addrL a = addrL b) : a = b := by
  have key : ∀ x y : ByteArray, x.size = y.size → (∀ k, k < x.size → bat x k = bat y k) → x = y := by
    intro x y hs hk
    refine bext (List.ext_getElem? fun i => ?_)
    rw [← ba_get, ← ba_get]
    by_cases hi : i < x.size
    · obtain ⟨c, hc⟩ := at_ok hi
      obtain ⟨d, hd⟩ := at_ok (s := y) (k := i) (by omega)
      have := hk i hi
      rw [bat_of hc, bat_of hd] at this
      rw [hc, hd, UInt8.toNat_inj.1 this]
    · rw [at_none (by omega), at_none (by omega)]
  rcases ha with ha | ha <;> rcases hb with hb | hb
  · rw [addrL, addrL, if_pos ha, if_pos hb, fourL, fourL] at h
    simp only [List.cons.injEq, and_true] at h
    obtain ⟨h3, h2, h1, h0⟩ := h
    refine key a b (by omega) fun k hk => ?_
    rcases (show k = 0 ∨ k = 1 ∨ k = 2 ∨ k = 3 by omega) with rfl | rfl | rfl | rfl
    · exact decB_inj (bat_le _ _) (bat_le _ _) h0
    · exact decB_inj (bat_le _ _) (bat_le _ _) h1
    · exact decB_inj (bat_le _ _) (bat_le _ _) h2
    · exact decB_inj (bat_le _ _) (bat_le _ _) h3
  · have h1 := congrArg List.reverse h
    rw [addr_rev4 ha, addr_rev16 hb] at h1
    have h2 := four_has a
    rw [h1, six_has b (by rw [← h1]; rfl)] at h2; cases h2
  · have h1 := congrArg List.reverse h
    rw [addr_rev16 ha, addr_rev4 hb] at h1
    have h2 := four_has b
    rw [← h1, six_has a (by rw [h1]; rfl)] at h2; cases h2
  · have h1 := congrArg List.reverse h
    rw [addr_rev16 ha, addr_rev16 hb] at h1
    have h2 := congrArg repl h1
    rw [six_repl, six_repl] at h2
    refine key a b (by omega) fun k hk => ?_
    have hkk : k / 2 < 8 := by omega
    have h3 := congrArg (fun l : List ByteArray => l[k / 2]?) h2
    simp only [List.getElem?_map, wordsB_at a hkk, wordsB_at b hkk, Option.map_some, Option.some.injEq] at h3
    have b1 := bat_lt a (2 * (k / 2)); have b2 := bat_lt a (2 * (k / 2) + 1); have b3 := bat_lt b (2 * (k / 2)); have b4 := bat_lt b (2 * (k / 2) + 1)
    have h4 := hexB_inj (by omega) (by omega) h3
    rcases (show k = 2 * (k / 2) ∨ k = 2 * (k / 2) + 1 by omega) with e | e
    · rw [e]; omega
    · rw [e]; omega
theorem pfx_inj {a b : ByteArray} {n m : Int} (ha : mayP a n) (hb : mayP b m) (h : pfxL a n = pfxL b m) : a = b ∧ n = m := by
  rw [pfxL_may ha, pfxL_may hb] at h
  injection h with h1 h2
  obtain ⟨⟨ha1, ha2, ha3⟩, _⟩ := ha
  obtain ⟨⟨hb1, hb2, hb3⟩, _⟩ := hb
  have := decB_inj (by omega) (by omega) h1
  exact ⟨addr_inj ha1 hb1 h2, by omega⟩
open Classical in
noncomputable def adrF (ls : List ByteArray) : Option (ByteArray × Int) := if h : ∃ p : ByteArray × Int, mayP p.1 p.2 ∧ ls = pfxL p.1 p.2 then some h.choose else none
theorem adrF_pfx {a : ByteArray} {n : Int} (h : mayP a n) : adrF (pfxL a n) = some (a, n) := by
  have hx : ∃ p : ByteArray × Int, mayP p.1 p.2 ∧ pfxL a n = pfxL p.1 p.2 := ⟨(a, n), h, rfl⟩
  rw [adrF, dif_pos hx]
  obtain ⟨h1, h2⟩ := hx.choose_spec
  obtain ⟨h3, h4⟩ := pfx_inj h h1 h2
  congr 1
  exact Prod.ext h3.symm h4.symm
theorem adrF_some {ls : List ByteArray} {p : ByteArray × Int} (h : adrF ls = some p) : mayP p.1 p.2 ∧ ls = pfxL p.1 p.2 := by
  rw [adrF] at h
  split at h
  · rename_i hx
    rw [← Option.some.inj h]; exact hx.choose_spec
  · cases h
def adV : Option (ByteArray × Int) → Value
  | some p => .tuple #[.agg #[.string p.1, .int .i64 p.2], .bool true]
  | none => .tuple #[.agg #[.string ⟨#[]⟩, .int .i64 0], .bool false]
theorem AdR_val {ls : List ByteArray} {v : Value} (h : AdR ls v) : v = adV (adrF ls) := by
  rcases h with ⟨a, n, hm, rfl, rfl⟩ | ⟨h, rfl⟩
  · rw [adrF_pfx hm]; rfl
  · cases hx : adrF ls with
    | none => rfl
    | some p => exact absurd (adrF_some hx).2 (h _ _ (adrF_some hx).1)

/-! ### triggers -/
abbrev Tg := Int × ByteArray × ByteArray × Int
def t0 : Tg := (0, ⟨#[]⟩, ⟨#[]⟩, 0)
def vT (t : Tg) : Value := .agg #[.int .i64 t.1, .string t.2.1, .string t.2.2.1, .int .i64 t.2.2.2]
def elT (t : Tg) : List Value := [.int .i64 t.1, .string t.2.1, .string t.2.2.1, .int .i64 t.2.2.2]
def resT : Option Tg → Value
  | some t => .tuple #[vT t, .bool true]
  | none => .tuple #[vT t0, .bool false]
def starB : ByteArray := ⟨#[42]⟩
def cB : ByteArray := ⟨#[114, 112, 122, 45, 99, 108, 105, 101, 110, 116, 45, 105, 112]⟩
def ipB : ByteArray := ⟨#[114, 112, 122, 45, 105, 112]⟩
def ndB : ByteArray := ⟨#[114, 112, 122, 45, 110, 115, 100, 110, 97, 109, 101]⟩
def niB : ByteArray := ⟨#[114, 112, 122, 45, 110, 115, 105, 112]⟩
def kE (b : Nat) (k : Int) (w : ByteArray) : MapEntry := { key := .int .i64 k, val := .string w, born := b }
def kindsE : Array MapEntry := #[kE 0 0 cB, kE 1 3 ipB, kE 2 4 ndB, kE 3 6 niB]
theorem kinds_runs (I : IMem) (S : SH) : Runs Tryd.prog 37 #[] I S fun v _ T => ∃ r, v = .map (some r) ∧ T = (r, .map kindsE 4) :: S := by
  refine owner_kinds_fn _ _ _ ?_
  unfold owner_kinds
  intro r1
  exact ⟨r1, 0, _, _, _, _, rfl, rfl, rfl, r1, 0, _, _, _, _, rfl, rfl, rfl, r1, 0, _, _, _, _, rfl, rfl, rfl, r1, 0, _, _, _, _, rfl, rfl, rfl, r1, rfl, rfl⟩
def namedF (ls : List ByteArray) (ex wild : Int) : Option Tg := match ls with
  | [] => none
  | l :: r => if l = starB then (makeN r ByteArray.empty).map fun n => (wild, n, ⟨#[]⟩, 0) else (makeN (l :: r) ByteArray.empty).map fun n => (ex, n, ⟨#[]⟩, 0)
theorem StP.tg {S : SH} {b : Nat} {x t : Tg} {K : SH → Prop} (h : K ((b, .cells (elT t).toArray 27 (0, 0)) :: S)) :
    StP ((b, .cells (elT x).toArray 27 (0, 0)) :: S) ⟨b, 0, none⟩ [.int .i64 t.1, .string t.2.1, .string t.2.2.1, .int .i64 t.2.2.2] K :=
  StP.at0 (Nat.le_refl 4) rfl h
theorem tgC {I : IMem} {S : SH} {b : Nat} {t : Tg} : Cell I ((b, .cells (elT t).toArray 27 (0, 0)) :: S) ⟨b, 0, none⟩ (.int .i64 t.1) ∧ Cell I ((b, .cells (elT t).toArray 27 (0, 0)) :: S) ((⟨b, 0, none⟩ : Addr).add 1) (.string t.2.1) ∧
    Cell I ((b, .cells (elT t).toArray 27 (0, 0)) :: S) ((⟨b, 0, none⟩ : Addr).add 2) (.string t.2.2.1) ∧ Cell I ((b, .cells (elT t).toArray 27 (0, 0)) :: S) ((⟨b, 0, none⟩ : Addr).add 3) (.int .i64 t.2.2.2) :=
  ⟨Cell.at0 rfl, by rw [add_mk]; exact Cell.at0 rfl, by rw [add_mk]; exact Cell.at0 rfl, by rw [add_mk]; exact Cell.at0 rfl⟩
theorem named_runs {ls : List ByteArray} {a : Option Addr} {c : Nat} {ex wild : Int} (hew : wild ≠ ex) {I : IMem} {S : SH} (hx : RowIn I S a ls.length 1 elS ls) (hl : ls.length ≤ 1000000) (hlc : ls.length ≤ c) :
    Runs Tryd.prog 62 #[.slice a ls.length c, .int .i64 ex, .int .i64 wild] I S fun v _ T => v = resT (namedF ls ex wild) ∧ T = S := by
  refine Runs.drop (owner_named_fn _ _ _ _ _ _ _ _ ?_)
  unfold owner_named owner_named_b1
  intro b6
  have hx' := hx.sub ((Sub.refl S).skip (b6, .cells (elT t0).toArray 27 (0, 0)))
  have body : ∀ (us : List ByteArray) (p : Option Addr) (d : Nat) (kind : Int) (n : Nat), n = us.length → RowIn I ((b6, .cells (elT t0).toArray 27 (0, 0)) :: S) p us.length 1 elS us → us.length ≤ 1000000 →
      namedF ls ex wild = (if us = [] ∧ kind = ex then none else (makeN us ByteArray.empty).map fun n => (kind, n, ⟨#[]⟩, 0)) →
      owner_named_b3 (fun v J T => ∃ L, Sub L T ∧ v = resT (namedF ls ex wild) ∧ L = S) p n d ex ⟨b6, 0, none⟩ kind I ((b6, .cells (elT t0).toArray 27 (0, 0)) :: S) := by
    rintro us p d kind n rfl hu hul hnf
    unfold owner_named_b3 owner_named_b4
    refine (Make_runs hu (by omega)).mono ?_
    rintro v J T hle ⟨rfl, rfl⟩
    have bad : namedF ls ex wild = none → owner_named_b5 (fun v J T => ∃ L, Sub L T ∧ v = resT (namedF ls ex wild) ∧ L = S) ⟨b6, 0, none⟩ kind (match makeN us ByteArray.empty with | some n => n | none => ⟨#[]⟩) true J ((b6, .cells (elT t0).toArray 27 (0, 0)) :: S) := by
      intro h
      unfold owner_named_b5
      refine bcase_t rfl (StP.tg (x := t0) (t := t0) ?_)
      obtain ⟨c0, c1, c2, c3⟩ := tgC (I := J) (S := S) (b := b6) (t := t0)
      exact ⟨_, c0, _, c1, _, c2, _, c3, S, (Sub.refl _).skip _, by rw [h]; rfl, rfl⟩
    cases hm : makeN us ByteArray.empty with
    | none =>
      rw [hm] at hnf bad
      exact ⟨_, _, rfl, bcase_t rfl (bad (by rw [hnf]; split <;> rfl))⟩
    | some n =>
      rw [hm] at hnf bad
      have ok : ¬ (us = [] ∧ kind = ex) → owner_named_b5 (fun v J T => ∃ L, Sub L T ∧ v = resT (namedF ls ex wild) ∧ L = S) ⟨b6, 0, none⟩ kind n false J ((b6, .cells (elT t0).toArray 27 (0, 0)) :: S) := by
        intro h
        unfold owner_named_b5 owner_named_b6
        refine bcase_f rfl (StP.tg (x := t0) (t := (kind, n, ⟨#[]⟩, 0)) ?_)
        obtain ⟨c0, c1, c2, c3⟩ := tgC (I := J) (S := S) (b := b6) (t := ((kind, n, ⟨#[]⟩, 0) : Tg))
        exact ⟨_, c0, _, c1, _, c2, _, c3, S, (Sub.refl _).skip _, by rw [hnf, if_neg h]; rfl, rfl⟩
      refine ⟨_, _, rfl, bcase_f rfl (bcase_beq (fun h => ?_) (fun h => ok (fun e => h (by rw [e.1]; rfl))))⟩
      have hus : us = [] := List.eq_nil_of_length_eq_zero (by omega)
      by_cases hk : kind = ex
      · rw [show (kind == ex) = true by rw [hk]; simp]
        exact bad (by rw [hnf, if_pos ⟨hus, hk⟩])
      · rw [show (kind == ex) = false by simpa using hk]
        exact ok (fun e => hk e.2)
  refine bcase_dec (fun h => ?_) (fun h => ?_)
  · cases ls with
    | nil => simp at h
    | cons l r =>
      obtain ⟨a', rfl, hc⟩ := strRow hx' (k := 0) (x := l) rfl
      refine ⟨by omega, by omega, l, hc, ?_⟩
      unfold owner_named_b2
      rw [show (⟨#[42]⟩ : ByteArray) = starB from rfl, ba_dec]
      refine bcase_dec (fun e => ?_) (fun e => ?_)
      · refine ⟨by omega, by rw [List.length_cons]; omega, ?_⟩
        have hd := hx'.drop (j := 1) (by rw [List.length_cons]; omega) hlc
        rw [List.drop_succ_cons, List.drop_zero, List.length_cons, Nat.add_sub_cancel] at hd
        refine body r _ _ wild _ (by rw [List.length_cons]; rfl) hd (by rw [List.length_cons] at hl; omega) ?_
        rw [namedF, if_pos e, if_neg (fun h => hew h.2)]
      · refine body (l :: r) _ _ ex _ rfl hx' hl ?_
        rw [namedF, if_neg e, if_neg (fun h => by cases h.1)]
  · have hls : ls = [] := List.eq_nil_of_length_eq_zero (by omega)
    unfold owner_named_b2
    refine bcase_f rfl (body ls _ _ ex _ rfl hx' hl ?_)
    rw [hls, namedF, if_pos ⟨rfl, rfl⟩]
end Go.Proofs.YtmlojdbahlfiaaaDoor
/- Names as triggers, triggers as names: owner.Decode, owner.Encode. -/
namespace Go.Proofs.YtmlojdbahlfiaaaDoor
open Go.Px
set_option linter.unusedVariables false
set_option linter.unusedSimpArgs false
set_option maxRecDepth 8000

def kindOf (w : ByteArray) : Option Int := if w = cB then some 0 else if w = ipB then some 3 else if w = ndB then some 4 else if w = niB then some 6 else none
noncomputable def decL (ls : List ByteArray) : Option Tg := match ls.getLast? with
  | none => none
  | some w => match kindOf w with
    | none => namedF ls 1 2
    | some k => if k = 4 then namedF ls.dropLast 4 5 else (adrF ls.dropLast).map fun p => (k, ⟨#[]⟩, p.1, p.2)
noncomputable def decF (n : ByteArray) : Option Tg := match labN n with
  | none => none
  | some ls => decL ls
theorem setT {b : Nat} {S T : SH} {I : IMem} {t x : Tg} {K : Value → SH → Prop} (hs : Sub ((b, .cells (elT x).toArray 27 (0, 0)) :: S) T) (h : ∀ T', Sub S T' → K (vT t) T') :
    StP T ⟨b, 0, none⟩ [.int .i64 t.1, .string t.2.1, .string t.2.2.1, .int .i64 t.2.2.2] fun S1 =>
      ∃ r0, Cell I S1 ⟨b, 0, none⟩ (.int .i64 r0) ∧ ∃ r1, Cell I S1 ((⟨b, 0, none⟩ : Addr).add 1) (.string r1) ∧ ∃ r2, Cell I S1 ((⟨b, 0, none⟩ : Addr).add 2) (.string r2) ∧ ∃ r3, Cell I S1 ((⟨b, 0, none⟩ : Addr).add 3) (.int .i64 r3) ∧
      K (.agg #[.int .i64 r0, .string r1, .string r2, .int .i64 r3]) S1 := by
  refine StP.of_sub hs (StP.tg (x := x) (t := t) ?_)
  intro T' hs'
  obtain ⟨c0, c1, c2, c3⟩ := tgC (I := I) (S := S) (b := b) (t := t)
  exact ⟨_, hs'.cell' c0, _, hs'.cell' c1, _, hs'.cell' c2, _, hs'.cell' c3, h T' hs'.drop⟩
theorem kE_mem {e : MapEntry} (h : e ∈ kindsE) : e = kE 0 0 cB ∨ e = kE 1 3 ipB ∨ e = kE 2 4 ndB ∨ e = kE 3 6 niB := by
  simpa [kindsE] using h
theorem labs_ok {n : ByteArray} {ls : List ByteArray} (h : labN n = some ls) : ls.length ≤ 254 ∧ ∀ l ∈ ls, l.size ≤ 63 := by
  obtain ⟨h1, h2, h3⟩ := labN_some h
  refine ⟨?_, fun l hl => (h2 l hl).hi⟩
  have := wire_len ls
  rw [h1, nm_size] at h3
  omega
theorem OwnS.cap {a : Option Addr} {n c : Nat} {xs : List ByteArray} {own : SH} (h : OwnS (.slice a n c) xs own) : xs.length ≤ c := by
  rcases OwnS.cases h with ⟨_, _, rfl, rfl, _⟩ | ⟨_, rest, _, _, _, hc, _⟩
  · exact Nat.le_refl 0
  · omega
theorem kind_not {w : ByteArray} (h1 : cB ≠ w) (h2 : ipB ≠ w) (h3 : ndB ≠ w) (h4 : niB ≠ w) : kindOf w = none := by
  rw [kindOf, if_neg (fun e => h1 e.symm), if_neg (fun e => h2 e.symm), if_neg (fun e => h3 e.symm), if_neg (fun e => h4 e.symm)]
theorem kind_c : kindOf cB = some 0 := by decide +kernel
theorem kind_ip : kindOf ipB = some 3 := by decide +kernel
theorem kind_nd : kindOf ndB = some 4 := by decide +kernel
theorem kind_ni : kindOf niB = some 6 := by decide +kernel
/-- how many kinds were not looked at -/
def unseen (seen : Array Nat) : Nat := (kindsE.toList.filter fun e => !seen.contains e.born).length
theorem unseen_lt {seen : Array Nat} {e : MapEntry} (he : e ∈ kindsE) (hn : seen.contains e.born = false) : unseen (seen.push e.born) < unseen seen := by
  have hsub : ∀ l : List MapEntry, (l.filter fun x => !(seen.push e.born).contains x.born).length ≤ (l.filter fun x => !seen.contains x.born).length ∧
      (e ∈ l → (l.filter fun x => !(seen.push e.born).contains x.born).length < (l.filter fun x => !seen.contains x.born).length) := by
    intro l
    induction l with
    | nil => exact ⟨Nat.le_refl _, fun h => by cases h⟩
    | cons x l ih =>
      have hx : (seen.push e.born).contains x.born = (seen.contains x.born || x.born == e.born) := by
        rw [Bool.eq_iff_iff]; simp [or_comm]
      rw [List.filter_cons, List.filter_cons, hx]
      by_cases h1 : seen.contains x.born = true
      · rw [h1]
        simp only [Bool.true_or, Bool.not_true, Bool.false_eq_true, if_false]
        refine ⟨ih.1, fun h => ?_⟩
        rcases List.mem_cons.1 h with rfl | h
        · rw [hn] at h1; cases h1
        · exact ih.2 h
      · have h1 : seen.contains x.born = false := by simpa using h1
        rw [h1]
        simp only [Bool.false_or, Bool.not_false, if_true, List.length_cons]
        by_cases h2 : x.born = e.born
        · rw [show (x.born == e.born) = true by simp [h2]]
          simp only [Bool.not_true, Bool.false_eq_true, if_false]
          exact ⟨by have := ih.1; omega, fun _ => by have := ih.1; omega⟩
        · rw [show (x.born == e.born) = false by simp [h2]]
          simp only [Bool.not_false, if_true, List.length_cons]
          refine ⟨by have := ih.1; omega, fun h => ?_⟩
          rcases List.mem_cons.1 h with rfl | h
          · exact absurd rfl h2
          · have := ih.2 h; omega
  exact (hsub kindsE.toList).2 (by simpa using he)
theorem Decode_runs (n : ByteArray) {I : IMem} (g : GL I) (S : SH) : Runs Tryd.prog 39 #[.string n] I S fun v _ T => v = resT (decF n) ∧ T = S := by
  refine Runs.drop (owner_Decode_fn _ _ _ _ ?_)
  unfold owner_Decode
  intro b2
  refine (Labels_runs n I _).mono ?_
  rintro v J T hle ⟨own, hcase, hs⟩
  have hsB : Sub ((b2, .cells (elT t0).toArray 27 (0, 0)) :: S) T := hs.right
  have none_ : ∀ (p : Option Addr) (m c : Nat), decF n = none → owner_Decode_b2 (fun v J T => ∃ L, Sub L T ∧ v = resT (decF n) ∧ L = S) ⟨b2, 0, none⟩ p m c true J T := by
    intro p m c h
    unfold owner_Decode_b2
    refine bcase_t rfl (setT (t := t0) (K := fun v T => ∃ L, Sub L T ∧ Value.tuple #[v, .bool false] = resT (decF n) ∧ L = S) hsB ?_)
    intro T' hs'
    exact ⟨S, hs', by rw [h]; rfl, rfl⟩
  unfold owner_Decode_b1
  rcases hcase with ⟨hl, rfl, rfl⟩ | ⟨ls, p, m, c, hl, rfl, ho⟩
  · exact ⟨_, _, _, _, rfl, bcase_t rfl (none_ _ _ _ (by rw [decF, hl]))⟩
  · refine ⟨_, _, _, _, rfl, bcase_f rfl ?_⟩
    have hdf : decF n = decL ls := by rw [decF, hl]
    obtain ⟨hll, hsz⟩ := labs_ok hl
    have hm := ho.len
    subst hm
    have hcap := OwnS.cap ho
    by_cases h0 : ls.length = 0
    · have : ls = [] := List.eq_nil_of_length_eq_zero h0
      rw [show ((ls.length : Int) == 0) = true by rw [h0]; rfl]
      exact none_ _ _ _ (by rw [hdf, this]; rfl)
    have hne : ((ls.length : Int) == 0) = false := by
      rw [beq_eq_false_iff_ne]; omega
    rw [hne]
    obtain ⟨w, hw⟩ := get_lt (xs := ls) (k := ls.length - 1) (by omega)
    have hlast : ls.getLast? = some w := by rw [List.getLast?_eq_getElem?]; exact hw
    have hrow : ∀ {K : IMem} {T : SH}, Sub (own ++ (b2, .cells (elT t0).toArray 27 (0, 0)) :: S) T → RowIn K T p ls.length 1 elS ls := fun hs => (OwnS.row ho).sub hs.left
    unfold owner_Decode_b2 owner_Decode_b3
    refine bcase_f rfl ?_
    rw [wrap_i64 (x := (ls.length : Int) - 1) (by omega) (by omega)]
    have e1 : ((ls.length : Int) - 1).toNat = ls.length - 1 := by omega
    rw [e1, slA_zero]
    obtain ⟨a', rfl, hc⟩ := strRow (hrow (K := J) hs) hw
    refine ⟨by omega, by omega, w, hc, by omega, by omega, ?_⟩
    rw [Nat.sub_zero, Nat.sub_zero]
    have hdl : ls.dropLast = ls.take (ls.length - 1) := List.dropLast_eq_take
    have hdll : ls.dropLast.length = ls.length - 1 := List.length_dropLast
    have hrow2 : ∀ {K : IMem} {T : SH}, Sub (own ++ (b2, .cells (elT t0).toArray 27 (0, 0)) :: S) T → RowIn K T (some a') ls.dropLast.length 1 elS ls.dropLast := by
      intro K T hs
      rw [hdll, hdl]
      exact (hrow hs).take (by omega)
    rw [← hdll]
    unfold owner_Decode_b4
    refine (kinds_runs J T).mono ?_
    rintro v J1 T1 hle1 ⟨r, rfl, rfl⟩
    refine ⟨_, rfl, kindsE, 4, .inr (List.mem_cons_self ..), fun b37 => ?_⟩
    unfold owner_Decode_b5
    refine ⟨fun m x2 l4 l4n l4c la re ren rec it J2 T2 => x2 = ⟨b2, 0, none⟩ ∧ l4 = some a' ∧ l4n = ls.length ∧ l4c = c ∧ la = w ∧ re = some a' ∧ ren = ls.dropLast.length ∧ rec = c ∧ it = ⟨b37, 0, none⟩ ∧ J1.le J2 ∧
        ∃ seen : Array Nat, m = unseen seen ∧ (∀ e ∈ kindsE, seen.contains e.born = true → e.val ≠ .string w) ∧ T2 = (b37, .mapIter (some r) 4 seen 4) :: (r, .map kindsE 4) :: T,
      unseen #[], ⟨rfl, rfl, rfl, rfl, rfl, rfl, rfl, rfl, rfl, IMem.le.refl J1, #[], rfl, fun e _ h => by simp at h, rfl⟩, ?_⟩
    rintro m x2 l4 l4n l4c la re ren rec it J2 T2 - ⟨rfl, rfl, rfl, rfl, rfl, rfl, rfl, rfl, rfl, hle2, seen, rfl, hseen, rfl⟩
    unfold owner_Decode_l6
    have hsT : ∀ sn : Array Nat, Sub (own ++ (b2, .cells (elT t0).toArray 27 (0, 0)) :: S) ((b37, .mapIter (some r) 4 sn 4) :: (r, .map kindsE 4) :: T) := fun sn => (hs.skip _).skip _
    refine ⟨0, r, 4, seen, 4, kindsE, 4, rfl, rfl, .inr (List.mem_cons_of_mem _ (List.mem_cons_self ..)), Nat.le_refl 4, fun e he => ?_, fun hall => ?_, fun e he hun => ?_⟩
    · rcases kE_mem he with rfl | rfl | rfl | rfl <;> decide
    · -- of no kind
      have hk : kindOf la = none := by
        refine kind_not ?_ ?_ ?_ ?_
        · exact fun e => hseen (kE 0 0 cB) (by simp [kindsE]) (hall _ (by simp [kindsE])) (by rw [← e]; rfl)
        · exact fun e => hseen (kE 1 3 ipB) (by simp [kindsE]) (hall _ (by simp [kindsE])) (by rw [← e]; rfl)
        · exact fun e => hseen (kE 2 4 ndB) (by simp [kindsE]) (hall _ (by simp [kindsE])) (by rw [← e]; rfl)
        · exact fun e => hseen (kE 3 6 niB) (by simp [kindsE]) (hall _ (by simp [kindsE])) (by rw [← e]; rfl)
      have hd : decF n = namedF ls 1 2 := by rw [hdf, decL, hlast]; dsimp only; rw [hk]
      unfold owner_Decode_b7
      refine (named_runs (ex := 1) (wild := 2) (by decide) (hrow (hsT seen)) (by omega) hcap).mono ?_
      rintro v J3 T3 hle3 ⟨rfl, rfl⟩
      rw [hd]
      have hsB3 : Sub ((b2, .cells (elT t0).toArray 27 (0, 0)) :: S) ((b37, .mapIter (some r) 4 seen 4) :: (r, .map kindsE 4) :: T) := (hsB.skip _).skip _
      cases hn : namedF ls 1 2 with
      | none => exact ⟨_, _, _, _, _, rfl, setT (t := t0) (K := fun v T => ∃ L, Sub L T ∧ Value.tuple #[v, .bool false] = resT none ∧ L = S) hsB3 fun T' hs' => ⟨S, hs', rfl, rfl⟩⟩
      | some t => exact ⟨_, _, _, _, _, rfl, setT (t := t) (K := fun v T => ∃ L, Sub L T ∧ Value.tuple #[v, .bool true] = resT (some t) ∧ L = S) hsB3 fun T' hs' => ⟨S, hs', rfl, rfl⟩⟩
    · unfold owner_Decode_b8
      have hlt := unseen_lt he hun
      have hsB3 : ∀ sn : Array Nat, Sub ((b2, .cells (elT t0).toArray 27 (0, 0)) :: S) ((b37, .mapIter (some r) 4 sn 4) :: (r, .map kindsE 4) :: T) := fun sn => (hsB.skip _).skip _
      have step : ∀ (k : Int) (x : ByteArray), e = kE e.born k x → kindOf x = some k → owner_Decode_b9 (fun x2 ls_4 ls_4n ls_4c last_6 rest_7 rest_7n rest_7c x37 I_1 S_1 => ∃ m', m' < unseen seen ∧ (x2 = ⟨b2, 0, none⟩ ∧ ls_4 = some a' ∧ ls_4n = ls.length ∧ ls_4c = rec ∧ last_6 = la ∧ rest_7 = some a' ∧ rest_7n = ls.dropLast.length ∧ rest_7c = rec ∧ x37 = ⟨b37, 0, none⟩ ∧ J1.le I_1 ∧
            ∃ seen : Array Nat, m' = unseen seen ∧ (∀ e ∈ kindsE, seen.contains e.born = true → e.val ≠ .string la) ∧ S_1 = (b37, .mapIter (some r) 4 seen 4) :: (r, .map kindsE 4) :: T))
          (fun v J T => ∃ L, Sub L T ∧ v = resT (decF n) ∧ L = S) ⟨b2, 0, none⟩ (some a') ls.length rec la (some a') ls.dropLast.length rec k x ⟨b37, 0, none⟩ J2 ((b37, .mapIter (some r) 4 (seen.push e.born) 4) :: (r, .map kindsE 4) :: T) := by
        intro k x hek hkx
        unfold owner_Decode_b9
        rw [ba_dec]
        refine bcase_not (bcase_dec (fun e2 => ?_) (fun e2 => ?_))
        · subst e2
          refine bcase_beq (fun h4 => ?_) (fun h4 => ?_)
          · subst h4
            have hd : decF n = namedF ls.dropLast 4 5 := by rw [hdf, decL, hlast]; dsimp only; rw [hkx]; rfl
            refine (named_runs (ex := 4) (wild := 5) (by decide) (hrow2 (hsT _)) (by omega) (by omega)).mono ?_
            rintro v J3 T3 hle3 ⟨rfl, rfl⟩
            rw [hd]
            cases hn : namedF ls.dropLast 4 5 with
            | none => exact ⟨_, _, _, _, _, rfl, setT (t := t0) (K := fun v T => ∃ L, Sub L T ∧ Value.tuple #[v, .bool false] = resT none ∧ L = S) (hsB3 _) fun T' hs' => ⟨S, hs', rfl, rfl⟩⟩
            | some t => exact ⟨_, _, _, _, _, rfl, setT (t := t) (K := fun v T => ∃ L, Sub L T ∧ Value.tuple #[v, .bool true] = resT (some t) ∧ L = S) (hsB3 _) fun T' hs' => ⟨S, hs', rfl, rfl⟩⟩
          · have hd : decF n = (adrF ls.dropLast).map fun p => (k, ⟨#[]⟩, p.1, p.2) := by rw [hdf, decL, hlast]; dsimp only; rw [hkx]; dsimp only; rw [if_neg h4]
            refine (Address_runs (((g.le hle).le hle1).le hle2) (hrow2 (hsT _)) (by omega) (by omega) (fun l h => by have := hsz l (List.dropLast_subset _ h); omega)).mono ?_
            rintro v J3 T3 hle3 ⟨hv, hs3⟩
            have hv := AdR_val hv
            subst hv
            rw [hd]
            have hs4 := (hsB3 (seen.push e.born)).trans hs3
            cases ha : adrF ls.dropLast with
            | none =>
              refine ⟨_, _, _, rfl, fun b10 => StP.at0 (by decide) rfl (bcase_t rfl ?_)⟩
              exact setT (t := t0) (K := fun v T => ∃ L, Sub L T ∧ Value.tuple #[v, .bool false] = resT none ∧ L = S) (hs4.skip _) fun T' hs' => ⟨S, hs', rfl, rfl⟩
            | some q =>
              refine ⟨_, _, _, rfl, fun b10 => StP.at0 (Nat.le_refl 2) rfl (bcase_f rfl ⟨_, Cell.at0 rfl, _, Cell.at0 rfl, ?_⟩)⟩
              exact setT (t := ((k, ⟨#[]⟩, q.1, q.2) : Tg)) (K := fun v T => ∃ L, Sub L T ∧ Value.tuple #[v, .bool true] = resT (some (k, ⟨#[]⟩, q.1, q.2)) ∧ L = S) (hs4.skip _) fun T' hs' => ⟨S, hs', rfl, rfl⟩
        · refine ⟨_, hlt, rfl, rfl, rfl, rfl, rfl, rfl, rfl, rfl, rfl, hle2, seen.push e.born, rfl, fun e' he' hc' => ?_, rfl⟩
          by_cases h5 : seen.contains e'.born = true
          · exact hseen e' he' h5
          · have h6 : e'.born = e.born := by
              have : e'.born ∈ seen.push e.born := by simpa using hc'
              rcases Array.mem_push.1 this with h | h
              · exact absurd (by simpa using h) h5
              · exact h
            have h7 : e' = e := by
              rcases kE_mem he with rfl | rfl | rfl | rfl <;> rcases kE_mem he' with rfl | rfl | rfl | rfl <;> first | rfl | (simp [kE] at h6; done)
            rw [h7, hek]
            intro h8
            exact e2 (Value.string.inj h8)
      rcases kE_mem he with rfl | rfl | rfl | rfl
      · exact ⟨r, 4, seen.push 0, 0, kindsE, 4, _, rfl, List.mem_cons_self .., by simp, .inr (List.mem_cons_of_mem _ (List.mem_cons_self ..)), rfl, step 0 cB rfl kind_c⟩
      · exact ⟨r, 4, seen.push 1, 1, kindsE, 4, _, rfl, List.mem_cons_self .., by simp, .inr (List.mem_cons_of_mem _ (List.mem_cons_self ..)), rfl, step 3 ipB rfl kind_ip⟩
      · exact ⟨r, 4, seen.push 2, 2, kindsE, 4, _, rfl, List.mem_cons_self .., by simp, .inr (List.mem_cons_of_mem _ (List.mem_cons_self ..)), rfl, step 4 ndB rfl kind_nd⟩
      · exact ⟨r, 4, seen.push 3, 3, kindsE, 4, _, rfl, List.mem_cons_self .., by simp, .inr (List.mem_cons_of_mem _ (List.mem_cons_self ..)), rfl, step 6 niB rfl kind_ni⟩
end Go.Proofs.YtmlojdbahlfiaaaDoor
/- Triggers as names: owner.Encode. -/
namespace Go.Proofs.YtmlojdbahlfiaaaDoor
open Go.Px
set_option linter.unusedVariables false
set_option linter.unusedSimpArgs false
set_option maxRecDepth 8000

end Go.Proofs.YtmlojdbahlfiaaaDoor
/- Triggers and names lead to each other: plain laws. -/
namespace Go.Proofs.YtmlojdbahlfiaaaDoor
open Go.Px
set_option linter.unusedVariables false
set_option linter.unusedSimpArgs false
set_option maxRecDepth 8000

end Go.Proofs.YtmlojdbahlfiaaaDoor
