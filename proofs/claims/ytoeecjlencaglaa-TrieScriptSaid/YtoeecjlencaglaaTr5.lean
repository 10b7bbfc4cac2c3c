/- The trie's law on words that go on from one another: TrieDeep. -/
import Derived.Test.YtoeecjlencaglaaTr4
import Derived.Test.YtoeecjlencaglaaPx8
set_option linter.unusedVariables false
namespace Go.Proofs.Ytoeecjlencaglaa
open Go.Px

theorem IsL.of {t : Sh} (hw : t.wf) (k : List Bool) : IsL t.find k (t.walk k 0 none) := by
  rcases Sh.walk_spec t k 0 none hw with ⟨e, h⟩ | ⟨v, n, e, h1, h2, h3⟩
  · exact ⟨fun _ => h, fun v n h' => by rw [e] at h'; cases h'⟩
  · rw [Nat.zero_add] at e
    exact ⟨(fun h' => by rw [e] at h'; cases h'), fun v' n' h' => by rw [e] at h'; injection h' with h'; injection h' with h4 h5; subst h4; subst h5; exact ⟨h1, h2, h3⟩⟩
theorem TriO.new (tb : Nat) : TriO tb .nil [(tb, .cells #[.pointer none, .int .i64 0] 29 (0, 0))] := ⟨none, [], ⟨rfl, rfl⟩, rfl⟩
theorem awake16_runs (I : IMem) (S : SH) : Runs Try.prog 16 #[] I S fun v J T => v = .bool true := by
  refine bolterlaw16_awake_fn _ _ _ ?_
  intro tb
  have hw0 : Sh.nil.wf := trivial
  refine (Put_runs tb .nil hw0 (by decide) _ (TriO.new tb) [true] (by decide) 5 I S).mono ?_
  rintro _ J1 T1 _ ⟨rfl, own1, h1, rfl⟩
  refine ⟨_, rfl, ?_⟩
  have hw1 := Sh.put_wf .nil [true] 5 hw0
  refine (Put_runs tb _ hw1 (by decide) _ h1 [true, false, true] (by decide) 6 J1 S).mono ?_
  rintro _ J2 T2 _ ⟨rfl, own2, h2, rfl⟩
  refine ⟨_, rfl, ?_⟩
  refine (Longest_runs tb _ _ h2 [true, false, true, true] (by decide) J2 S).mono ?_
  rintro _ J3 T3 _ ⟨rfl, rfl⟩
  refine ⟨_, _, _, rfl, ?_⟩
  refine (Longest_runs tb _ _ h2 [true, true] (by decide) J3 S).mono ?_
  rintro _ J4 T4 _ ⟨rfl, rfl⟩
  refine ⟨_, _, _, rfl, ?_⟩
  refine (Len_runs tb _ _ h2 J4 S).mono ?_
  rintro _ J5 T5 _ ⟨rfl, rfl⟩
  exact ⟨_, rfl, rfl⟩

def alt (n : Nat) : List Bool := (List.range n).map fun i => i % 2 == 1
theorem alt_len (n : Nat) : (alt n).length = n := by simp [alt]
theorem alt_succ (n : Nat) : alt (n + 1) = alt n ++ [n % 2 == 1] := by simp [alt, List.range_succ]
theorem alt_take (n m : Nat) (h : m ≤ n) : (alt n).take m = alt m := by simp [alt, ← List.map_take, List.take_range, Nat.min_eq_left h]
theorem sign_enc (n : Nat) : Utf8.encode (IntKind.wrap .i32 (IntKind.wrap .i64 ((48 : Int) + ((n : Int).tmod (2 : Int))))) = eb [n % 2 == 1] := by
  have h : (n : Int).tmod (2 : Int) = ((n % 2 : Nat) : Int) := rfl
  rw [h]
  rcases Nat.mod_two_eq_zero_or_one n with h | h <;> rw [h] <;> rfl
structure Deep (t : Sh) (i : Nat) : Prop where
  wf : t.wf
  cnt : t.cnt = i
  has : ∀ j, t.find (alt j) = if 1 ≤ j ∧ j ≤ i then some ((j : Int) - 1) else none
theorem Deep.step {t : Sh} {i : Nat} (h : Deep t i) : Deep (t.put (alt (i + 1)) (i : Int)) (i + 1) where
  wf := Sh.put_wf _ _ _ h.wf
  cnt := by rw [Sh.put_cnt _ _ _ h.wf, h.cnt, h.has, if_neg (show ¬ (1 ≤ i + 1 ∧ i + 1 ≤ i) by omega)]; simp
  has j := by
    rw [Sh.put_find _ _ _ _ h.wf, h.has]
    by_cases hj : j = i + 1
    · rw [if_pos (show alt j = alt (i + 1) by rw [hj]), if_pos (show 1 ≤ j ∧ j ≤ i + 1 by omega)]; exact congrArg some (by omega)
    · rw [if_neg (fun e => hj (by have := congrArg List.length e; simpa [alt_len] using this))]
      by_cases h1 : 1 ≤ j ∧ j ≤ i
      · rw [if_pos h1, if_pos (by omega)]
      · rw [if_neg h1, if_neg (by omega)]
theorem TrieDeep_row (W : World) (n m : Int) (hn : (Lit.int .u8 n).wf = true) (hm : (Lit.int .u8 m).wf = true) : Runs Try.prog 4 #[.int .u8 n, .int .u8 m] (imW W) [] fun v _ _ => v = .bool true := by
  have h1 : 0 ≤ n ∧ n ≤ 255 := by simpa [Lit.wf, IntKind.min, IntKind.max, IntKind.signed, IntKind.bits] using hn
  have h2 : 0 ≤ m ∧ m ≤ 255 := by simpa [Lit.wf, IntKind.min, IntKind.max, IntKind.signed, IntKind.bits] using hm
  obtain ⟨a, rfl⟩ := Int.eq_ofNat_of_zero_le h1.1
  obtain ⟨b, rfl⟩ := Int.eq_ofNat_of_zero_le h2.1
  refine bolterlaw16_TrieDeep_fn _ _ _ _ _ ?_
  refine (awake16_runs _ _).mono ?_
  rintro _ J T _ rfl
  refine ⟨true, rfl, ?_⟩
  intro tb
  have e1 : IntKind.wrap .i64 (((IntKind.wrap .i64 (a : Int)).tmod (128 : Int)) + (1 : Int)) = ((a % 128 + 1 : Nat) : Int) := by
    rw [wrap_i64 (x := (a : Int)) (by omega) (by omega)]
    rw [show (a : Int).tmod (128 : Int) = ((a % 128 : Nat) : Int) from rfl, wrap_i64 (by omega) (by omega)]; rfl
  have e2 : (IntKind.wrap .i64 (b : Int)).tmod (129 : Int) = ((b % 129 : Nat) : Int) := by
    rw [wrap_i64 (x := (b : Int)) (by omega) (by omega)]; rfl
  rw [e1, e2]
  have hk : 1 ≤ a % 128 + 1 ∧ a % 128 + 1 ≤ 128 := by omega
  generalize a % 128 + 1 = k at hk
  generalize b % 129 = j
  refine ⟨fun m t k' j' all i J' T' => t = some ⟨tb, 0, none⟩ ∧ k' = (k : Int) ∧ j' = (j : Int) ∧ ∃ (x : Nat) (tr : Sh) (own : SH), i = (x : Int) ∧ all = eb (alt x) ∧ x + m = k ∧ TriO tb tr own ∧ T' = own ++ T ∧ Deep tr x, k,
    ⟨rfl, rfl, rfl, 0, .nil, _, rfl, rfl, by omega, TriO.new tb, rfl, trivial, rfl, fun j => by rw [if_neg (by omega)]; rfl⟩, ?_⟩
  rintro m t k' j' all i J' T' _ ⟨rfl, rfl, rfl, x, tr, own, rfl, rfl, hx, ho, rfl, hd⟩
  refine bcase_dec (fun hlt => ?_) (fun hge => ?_)
  · rw [sign_enc, eb_append, ← alt_succ]
    refine ⟨by simp [eb_size, alt_len]; omega, ?_⟩
    refine (Put_runs tb tr hd.wf (by rw [hd.cnt]; omega) own ho (alt (x + 1)) (by rw [alt_len]; omega) _ J' T).mono ?_
    rintro _ J2 T2 _ ⟨rfl, own2, ho2, rfl⟩
    exact ⟨_, rfl, m - 1, by omega, rfl, rfl, rfl, x + 1, _, own2, by rw [wrap_i64 (by omega) (by omega)]; rfl, rfl, by omega, ho2, rfl, hd.step⟩
  · obtain rfl : x = k := by omega
    have e3 : (if (x : Int) < (j : Int) then (x : Int) else (j : Int)) = ((min x j : Nat) : Int) := by split <;> omega
    rw [bolterlaw16_TrieDeep_b4, e3]
    have hp : min x j ≤ x := Nat.min_le_left _ _
    generalize min x j = p at hp
    rw [eb_extract, List.drop_zero, show ((p : Nat) : Int).toNat = p by omega, alt_take _ _ hp]
    refine ⟨by omega, by rw [eb_size, alt_len]; omega, (Longest_runs tb tr own ho (alt p) (by rw [alt_len]; omega) J' T).mono ?_⟩
    rintro _ J2 T2 _ ⟨rfl, rfl⟩
    have hl := IsL.of hd.wf (alt p)
    have hat : ∀ q, q ≤ p → tr.find ((alt p).take q) = if 1 ≤ q ∧ q ≤ x then some ((q : Int) - 1) else none := fun q hq => by rw [alt_take _ _ hq, hd.has]
    obtain ⟨hno, hyes⟩ := hl
    rw [alt_len] at hno hyes
    generalize tr.walk (alt p) 0 none = res at hno hyes
    rw [eb_size, alt_len]
    rcases Nat.eq_zero_or_pos p with rfl | hpos
    · cases res with
      | none => exact ⟨_, _, _, rfl, rfl⟩
      | some r =>
        obtain ⟨h1, h2, _⟩ := hyes r.1 r.2 rfl
        rw [hat _ h1, if_neg (by omega)] at h2; cases h2
    · have hpp := hat p (Nat.le_refl _)
      rw [if_pos (by omega)] at hpp
      cases res with
      | none => rw [hno rfl p (Nat.le_refl _)] at hpp; cases hpp
      | some r =>
        obtain ⟨v, n⟩ := r
        obtain ⟨h1, h2, h3⟩ := hyes v n rfl
        have hn : n = p := by
          rcases Nat.lt_or_ge n p with h | h
          · rw [h3 p h (Nat.le_refl _)] at hpp; cases hpp
          · omega
        subst hn
        rw [h2] at hpp
        injection hpp with hpp
        subst hpp
        refine ⟨_, _, _, rfl, ?_⟩
        rw [show (((n : Nat) : Int) == (0 : Int)) = false by simp; omega]
        refine bcase_beq (fun _ => bcase_beq (fun _ => ?_) (fun h => absurd ?_ h)) (fun h => absurd rfl h)
        rotate_left
        · rw [wrap_i64 (by omega) (by omega)]
        refine (Len_runs tb tr own ho J2 T).mono ?_
        rintro _ J3 T3 _ ⟨rfl, rfl⟩
        refine ⟨_, rfl, ?_⟩
        rw [hd.cnt]
        show Value.bool (((x : Nat) : Int) == ((x : Nat) : Int)) = .bool true
        simp
end Go.Proofs.Ytoeecjlencaglaa
