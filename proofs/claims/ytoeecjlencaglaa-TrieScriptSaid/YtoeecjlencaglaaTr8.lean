/- The trie's functions: Get, Del, words that may not be; the law's words; TrieWhole and TrieMay. -/
import Derived.Test.YtoeecjlencaglaaTr5
import Derived.Test.YtoeecjlencaglaaTr7
set_option linter.unusedVariables false
namespace Go.Proofs.Ytoeecjlencaglaa
open Go.Px

def getV (o : Option Int) : Value := .tuple #[.int .i64 (o.getD 0), .bool o.isSome]
theorem Get_runs (tb : Nat) (t : Sh) (hw : t.wf) (own : SH) (ho : TriO tb t own) (k : List Bool) (hk : k.length ≤ 128) (I : IMem) (F : SH) :
    Runs Try.prog 30 #[.pointer (some ⟨tb, 0, none⟩), .string (eb k)] I (own ++ F) fun x J T => x = getV (t.find k) ∧ T = own ++ F := by
  refine trie_Trie_Get_fn _ _ _ _ _ ?_
  refine (Longest_runs tb t own ho k hk I F).mono ?_
  rintro _ J T _ ⟨rfl, rfl⟩
  obtain ⟨hno, hyes⟩ := IsL.of hw k
  generalize t.walk k 0 none = res at hno hyes
  cases res with
  | none =>
    have := hno rfl k.length (Nat.le_refl _)
    rw [List.take_length] at this
    exact ⟨_, _, _, rfl, by rw [this]; rfl, rfl⟩
  | some r =>
    obtain ⟨v, n⟩ := r
    obtain ⟨h1, h2, h3⟩ := hyes v n rfl
    refine ⟨_, _, _, rfl, ?_⟩
    show bcase (((n : Nat) : Int) != ((eb k).size : Int)) _ _
    rw [eb_size]
    refine bcase_bne (fun h => ?_) (fun h => ?_)
    · have := h3 k.length (by omega) (Nat.le_refl _)
      rw [List.take_length] at this
      exact ⟨by rw [this]; rfl, rfl⟩
    · obtain rfl : n = k.length := by omega
      rw [List.take_length] at h2
      exact ⟨by rw [h2]; rfl, rfl⟩
theorem Del_runs (tb : Nat) (t : Sh) (hw : t.wf) (hlen : t.len ≤ 4611686018427387904) (hcnt : t.cnt ≤ 4611686018427387904) (own : SH) (ho : TriO tb t own) (k : List Bool) (hk : k.length ≤ 128) (I : IMem) (F : SH) :
    Runs Try.prog 29 #[.pointer (some ⟨tb, 0, none⟩), .string (eb k)] I (own ++ F) fun x J T => x = .bool (t.find k).isSome ∧ ∃ own', TriO tb (if (t.find k).isSome then t.del k else t) own' ∧ T = own' ++ F := by
  refine trie_Trie_Del_fn _ _ _ _ _ ?_
  refine (Get_runs tb t hw own ho k hk I F).mono ?_
  rintro _ J T _ ⟨rfl, rfl⟩
  refine ⟨_, _, rfl, ?_⟩
  cases hf : t.find k with
  | none => exact ⟨rfl, own, ho, rfl⟩
  | some v =>
    obtain ⟨p, S, hr, rfl⟩ := ho
    have hc := Sh.del_cnt t k (by rw [hf]; exact fun h => by cases h)
    refine ⟨p, by rw [List.append_assoc]; exact Cell.appR (Cell.at0 rfl), ?_⟩
    rw [List.append_assoc]
    refine (without_runs t k p S _ J (by rw [hf]; exact fun h => by cases h) hlen hr).mono ?_
    rintro _ J2 T2 _ ⟨q, S', rfl, hq, rfl⟩
    refine ⟨q, rfl, StP.appR (StP.at0 (o := 0) (vs := [.pointer q]) (by simp) rfl ?_)⟩
    refine ⟨(t.cnt : Nat), Cell.appR (Cell.at0 rfl), StP.appR (StP.at0 (o := 1) (vs := [.int .i64 (IntKind.wrap .i64 (((t.cnt : Nat) : Int) - 1))]) (by simp [setR]) rfl ?_)⟩
    refine ⟨rfl, S' ++ [trO tb q ((t.del k).cnt : Nat)], ⟨q, S', hq, rfl⟩, ?_⟩
    rw [wrap_i64 (by omega) (by omega), show ((t.cnt : Nat) : Int) - 1 = ((t.del k).cnt : Nat) by omega, List.append_assoc]
    rfl
theorem May_bad (s : ByteArray) (hs : s.size ≤ 4611686018427387904) (hb : ¬ (signs s ∧ s.size ≤ 128)) (I : IMem) (S : SH) : Runs Try.prog 32 #[.string s] I S fun v J T => v = .bool false ∧ J = I ∧ T = S := by
  refine (May_runs s hs I S).mono ?_
  rintro v J T _ ⟨b, rfl, hb', rfl, rfl⟩
  cases b
  · exact ⟨rfl, rfl, rfl⟩
  · exact absurd (hb'.1 rfl) hb
theorem Put_bad (s : ByteArray) (hs : s.size ≤ 4611686018427387904) (hb : ¬ (signs s ∧ s.size ≤ 128)) (p : Option Addr) (v : Int) (I : IMem) (S : SH) : Runs Try.prog 17 #[.pointer p, .string s, .int .i64 v] I S fun v J T => v = .bool false ∧ T = S := by
  refine trie_Trie_Put_fn _ _ _ _ _ _ ?_
  refine (May_bad s hs hb I S).mono ?_
  rintro _ J T _ ⟨rfl, rfl, rfl⟩
  exact ⟨_, rfl, rfl, rfl⟩
theorem Longest_bad (s : ByteArray) (hs : s.size ≤ 4611686018427387904) (hb : ¬ (signs s ∧ s.size ≤ 128)) (p : Option Addr) (I : IMem) (S : SH) : Runs Try.prog 18 #[.pointer p, .string s] I S fun v J T => v = .tuple (encL none) ∧ T = S := by
  refine trie_Trie_Longest_fn _ _ _ _ _ ?_
  refine (May_bad s hs hb I S).mono ?_
  rintro _ J T _ ⟨rfl, rfl, rfl⟩
  exact ⟨_, rfl, rfl, rfl⟩
theorem Get_bad (s : ByteArray) (hs : s.size ≤ 4611686018427387904) (hb : ¬ (signs s ∧ s.size ≤ 128)) (p : Option Addr) (I : IMem) (S : SH) : Runs Try.prog 30 #[.pointer p, .string s] I S fun v J T => v = getV none ∧ T = S := by
  refine trie_Trie_Get_fn _ _ _ _ _ ?_
  refine (Longest_bad s hs hb p I S).mono ?_
  rintro _ J T _ ⟨rfl, rfl⟩
  exact ⟨_, _, _, rfl, rfl, rfl⟩
theorem Del_bad (s : ByteArray) (hs : s.size ≤ 4611686018427387904) (hb : ¬ (signs s ∧ s.size ≤ 128)) (p : Option Addr) (I : IMem) (S : SH) : Runs Try.prog 29 #[.pointer p, .string s] I S fun v J T => v = .bool false ∧ T = S := by
  refine trie_Trie_Del_fn _ _ _ _ _ ?_
  refine (Get_bad s hs hb p I S).mono ?_
  rintro _ J T _ ⟨rfl, rfl⟩
  exact ⟨_, _, rfl, rfl, rfl⟩

/-! ### the law's words -/
def keyL (bits long : Nat) : List Bool := (List.range (long % 14)).map fun k => bits / 2 ^ k % 2 == 1
theorem keyL_len (bits long : Nat) : (keyL bits long).length ≤ 13 := by simp [keyL]; omega
theorem iand1 (x : Nat) (hx : x < 65536) : iand .u16 (x : Int) (1 : Int) = ((x % 2 : Nat) : Int) := by
  have h1 : (BitVec.ofInt 16 (x : Int)).toNat = x := by simp; omega
  have h2 : (BitVec.ofInt 16 (1 : Int)).toNat = 1 := by decide
  show IntKind.wrap .u16 ((BitVec.ofInt 16 (x : Int) &&& BitVec.ofInt 16 (1 : Int)).toNat : Int) = _
  rw [BitVec.toNat_and, h1, h2, Nat.and_one_is_mod, wrap_u16 (by omega) (by omega)]
theorem sign16 (b : Bool) : Utf8.encode (IntKind.wrap .i32 (IntKind.wrap .u16 ((48 : Int) + ((b.toNat : Nat) : Int)))) = eb [b] := by cases b <;> rfl
theorem Key16_runs (bits long : Nat) (hb : bits < 65536) (hl : long < 256) (I : IMem) (S : SH) : Runs Try.prog 27 #[.int .u16 bits, .int .u8 long] I S fun v J T => v = .string (eb (keyL bits long)) ∧ J = I ∧ T = S := by
  refine bolterlaw16_Key_fn _ _ _ _ _ ?_
  refine ⟨fun m b' l' s k J T => b' = (bits : Int) ∧ l' = (long : Int) ∧ J = I ∧ T = S ∧ ∃ x : Nat, k = (x : Int) ∧ x + m = long % 14 ∧ s = eb ((List.range x).map fun k => bits / 2 ^ k % 2 == 1), long % 14, ⟨rfl, rfl, rfl, rfl, 0, rfl, by omega, rfl⟩, ?_⟩
  rintro m b' l' s k J T _ ⟨rfl, rfl, rfl, rfl, x, rfl, hx, rfl⟩
  have e0 : IntKind.wrap .i64 ((long : Int).tmod (14 : Int)) = ((long % 14 : Nat) : Int) := by
    rw [show (long : Int).tmod (14 : Int) = ((long % 14 : Nat) : Int) from rfl, wrap_i64 (by omega) (by omega)]
  rw [bolterlaw16_Key_l3, e0]
  refine bcase_dec (fun hlt => ?_) (fun hge => ?_)
  · have e1 : ((x : Int).tmod (16 : Int)) = (x : Int) := by rw [show (x : Int).tmod (16 : Int) = ((x % 16 : Nat) : Int) from rfl]; omega
    rw [e1]
    refine bcase_dec (fun h => by omega) (fun _ => ?_)
    have e2 : min ((x : Int).toNat) (IntKind.bits .u16) = x := by
      show min ((x : Int).toNat) 16 = x
      omega
    have e3 : (bits : Int).fdiv (2 ^ x) = ((bits / 2 ^ x : Nat) : Int) := by
      rw [Int.fdiv_eq_ediv_of_nonneg _ (by exact Int.pow_nonneg (by omega))]; norm_cast
    have e4 : bits / 2 ^ x < 65536 := Nat.lt_of_le_of_lt (Nat.div_le_self _ _) hb
    rw [e2, e3, iand1 _ e4]
    have e5 : ((bits / 2 ^ x % 2 : Nat) : Int) = (((bits / 2 ^ x % 2 == 1 : Bool)).toNat : Int) := by
      rcases Nat.mod_two_eq_zero_or_one (bits / 2 ^ x) with h | h <;> rw [h] <;> rfl
    rw [e5, sign16, eb_append]
    refine ⟨by simp [eb_size]; omega, m - 1, by omega, rfl, rfl, rfl, rfl, x + 1, by rw [wrap_i64 (by omega) (by omega)]; rfl, by omega, ?_⟩
    rw [List.range_succ, List.map_append]; rfl
  · obtain rfl : x = long % 14 := by omega
    exact ⟨rfl, rfl, rfl⟩
end Go.Proofs.Ytoeecjlencaglaa
