/- A prefix's labels: owner.four, owner.six, owner.Prefix. -/
import Derived.Test.YtkagfmlaolmdnaaDoorOw6
import Derived.Test.YtkagfmlaolmdnaaDoorNm1
namespace Go.Proofs.YtkagfmlaolmdnaaDoor
open Go.Px
set_option linter.unusedVariables false
set_option linter.unusedSimpArgs false
set_option maxRecDepth 8000

abbrev OwnS (v : Value) (xs : List ByteArray) (own : SH) : Prop := OwnR 9 1 elS v xs own
abbrev strL (xs : List ByteArray) : List Value := xs.map Value.string
theorem flat_elS : ∀ xs : List ByteArray, xs.flatMap elS = strL xs
  | [] => rfl
  | x :: xs => by rw [List.flatMap_cons, flat_elS xs]; rfl
theorem map_set_at {α : Type} (f : α → Value) {xs : List α} {i : Nat} (h : i < xs.length) (y : α) (rest : List Value) :
    (xs.map f ++ rest).take i ++ [f y] ++ (xs.map f ++ rest).drop (i + 1) = (xs.set i y).map f ++ rest := by
  rw [List.take_append_of_le_length (by simp; omega), List.drop_append_of_le_length (by simp; omega), List.set_eq_take_append_cons_drop, if_pos h]
  simp
theorem AppS1 {xs : List ByteArray} {l : ByteArray} {b : Nat} {v : Value} {S F own : SH} {I : IMem} {K : Option Addr → Nat → Nat → SH → Prop} (hs : Sub (own ++ F) S) (hv : OwnS v xs own) (hl : xs.length ≤ 1000000000)
    (hK : ∀ p n c own' T, OwnS (.slice p n c) (xs ++ [l]) own' → Sub (own' ++ F) T → K p n c T) :
    AppG 9 1 16 [.string ⟨#[]⟩] (some (.slice 9)) I ((b, .cells #[.string l] 9 (0, 0)) :: S) v (.slice (some ⟨b, 0, none⟩) 1 1) K := by
  obtain ⟨G, hG⟩ := hs
  refine AppG.own (xs := xs) (ys := [l]) (el := elS) (own := own) (F := (b, .cells #[.string l] 9 (0, 0)) :: (F ++ G)) (fun _ => rfl) (fun _ => rfl) rfl ((hG.cons _).trans (by rw [List.append_assoc]; exact perm_mid1)) hv ⟨?_, rfl⟩ ?_ ?_ ?_
  · exact Rd.list (L := elS l) rfl (by simp [elS])
  · simp only [List.length_singleton, maxLen]; omega
  · simp only [List.length_singleton]; omega
  · intro p n c own' ho
    exact hK p n c own' _ ho ⟨(b, .cells #[.string l] 9 (0, 0)) :: G, by rw [List.append_assoc]; exact List.Perm.append_left own' perm_mid1⟩
theorem AppSs {xs ys : List ByteArray} {a : Option Addr} {c : Nat} {v : Value} {S F own : SH} {I : IMem} {K : Option Addr → Nat → Nat → SH → Prop} (hs : Sub (own ++ F) S) (hv : OwnS v xs own) (hy : RowIn I S a ys.length 1 elS ys) (hl : (xs.length + ys.length) * 16 ≤ 140737488355328)
    (hK : ∀ p n c own' T, OwnS (.slice p n c) (xs ++ ys) own' → Sub (own' ++ F) T → K p n c T) :
    AppG 9 1 16 [.string ⟨#[]⟩] (some (.slice 9)) I S v (.slice a ys.length c) K := by
  obtain ⟨G, hG⟩ := hs
  refine AppG.own (xs := xs) (ys := ys) (el := elS) (own := own) (F := F ++ G) (fun _ => rfl) (fun _ => rfl) rfl (by rw [← List.append_assoc]; exact hG) hv ⟨RowIn.rd (el := elS) (sz := 1) (fun _ => rfl) Nat.one_pos hy, flatMap_one (el := elS) (fun _ => rfl) _⟩ ?_ ?_ ?_
  · simp only [maxLen]; omega
  · omega
  · intro p n c own' ho
    exact hK p n c own' _ ho ⟨G, by rw [List.append_assoc]⟩
theorem OwnS.mk {xs : List ByteArray} {g cap : Nat} {rest : List Value} (h : xs.length + rest.length = cap) (hm : cap ≤ maxLen) : OwnS (.slice (some ⟨g, 0, none⟩) xs.length cap) xs [(g, .cells (strL xs ++ rest).toArray 9 (0, 0))] :=
  .inr ⟨g, cap, rest, rfl, by rw [flat_elS], by omega, hm⟩
theorem OwnS.cases {a : Option Addr} {n c : Nat} {xs : List ByteArray} {own : SH} (h : OwnS (.slice a n c) xs own) : (a = none ∧ n = 0 ∧ c = 0 ∧ xs = [] ∧ own = []) ∨
    ∃ g rest, a = some ⟨g, 0, none⟩ ∧ n = xs.length ∧ own = [(g, .cells (strL xs ++ rest).toArray 9 (0, 0))] ∧ xs.length + rest.length = c ∧ c ≤ maxLen := by
  rcases h with ⟨hv, rfl, rfl⟩ | ⟨g, cap, rest, hv, rfl, hc, hm⟩
  · injection hv with h1 h2 h3; exact .inl ⟨h1, h2, h3, rfl, rfl⟩
  · injection hv with h1 h2 h3; subst h3
    exact .inr ⟨g, rest, h1, h2, by rw [flat_elS], by omega, hm⟩
theorem OwnS.row {I : IMem} {a : Option Addr} {n c : Nat} {xs : List ByteArray} {own : SH} (h : OwnS (.slice a n c) xs own) : RowIn I own a n 1 elS xs := OwnR.row (el := elS) (sz := 1) (fun _ => rfl) h

/-! ### four -/
def bat (a : ByteArray) (k : Nat) : Nat := (a[k]?.map (·.toNat)).getD 0
theorem bat_of {a : ByteArray} {k : Nat} {c : UInt8} (h : a[k]? = some c) : bat a k = c.toNat := by rw [bat, h]; rfl
theorem bat_lt (a : ByteArray) (k : Nat) : bat a k < 256 := by
  rw [bat]
  cases a[k]? with
  | none => decide
  | some c => exact c.toNat_lt
def fourL (a : ByteArray) : List ByteArray := [decB (bat a 3), decB (bat a 2), decB (bat a 1), decB (bat a 0)]
theorem fourL_at (a : ByteArray) {j : Nat} (h : j < 4) : (fourL a)[j]? = some (decB (bat a (3 - j))) := by
  rcases j with _ | _ | _ | _ | j
  · rfl
  · rfl
  · rfl
  · rfl
  · omega
theorem four_runs {a : ByteArray} (ha : a.size = 4) {I : IMem} (g : GL I) (S : SH) : Runs Tryd.prog 39 #[.string a] I S fun v _ T => ∃ own, OwnS v (fourL a) own ∧ Sub (own ++ S) T := by
  refine owner_four_fn _ _ _ _ ?_
  unfold owner_four owner_four_b1 owner_four_b2
  refine ⟨fun m s o on oc k J T => s = a ∧ I.le J ∧ ∃ (j : Nat) (own : SH), j ≤ 4 ∧ k = 3 - (j : Int) ∧ m = 4 - j ∧ OwnS (.slice o on oc) ((fourL a).take j) own ∧ Sub (own ++ S) T, 4, ⟨rfl, IMem.le.refl I, 0, [], by omega, rfl, rfl, OwnR.nil, Sub.refl _⟩, ?_⟩
  rintro m s o on oc k J T - ⟨rfl, hle, j, own, hj, rfl, rfl, ho, hs⟩
  unfold owner_four_l3 owner_four_b4
  refine bcase_dec (fun h => ?_) (fun h => ?_)
  · have hk : (3 - (j : Int)).toNat = 3 - j := by omega
    rw [hk]
    obtain ⟨c, hc⟩ := at_ok (s := s) (k := 3 - j) (by omega)
    refine ⟨c, by omega, hc, ?_⟩
    rw [wrap_c]
    refine (Itoa_runs (n := c.toNat) (by have := c.toNat_lt; omega) (g.le hle) T).mono ?_
    rintro v J1 T1 hle1 ⟨rfl, rfl⟩
    refine ⟨_, rfl, fun b15 => AppS1 hs ho (by rw [List.length_take]; simp [fourL]; omega) ?_⟩
    intro p n c' own' T' ho' hs'
    refine ⟨4 - (j + 1), by omega, rfl, hle.trans hle1, j + 1, own', by omega, ?_, rfl, ?_, hs'⟩
    · rw [wrap_i64 (by omega) (by omega)]; omega
    · rw [take_snoc (fourL_at s (j := j) (by omega)), bat_of hc]; exact ho'
  · have : j = 4 := by omega
    subst this
    exact ⟨own, ho, hs⟩

/-! ### reversed -/
theorem Rev_runs {xs : List ByteArray} {g c : Nat} {rest : List Value} {e : TypeId} (hl : xs.length ≤ 4611686018427387904) (I : IMem) (F : SH) :
    Runs Tryd.prog 61 #[.slice (some ⟨g, 0, none⟩) xs.length c] I ((g, .cells (strL xs ++ rest).toArray e (0, 0)) :: F) fun v _ T => v = .tuple #[] ∧ T = (g, .cells (strL xs.reverse ++ rest).toArray e (0, 0)) :: F := by
  refine slices_Reverse__string_string_fn _ _ _ _ _ _ ?_
  unfold slices_Reverse__string_string slices_Reverse__string_string_b1
  rw [wrap_i64 (x := (xs.length : Int) - 1) (by omega) (by omega)]
  refine ⟨fun m s sn sc i j J T => s = some ⟨g, 0, none⟩ ∧ sn = xs.length ∧ ∃ (k : Nat) (ys : List ByteArray), i = (k : Int) ∧ j = (xs.length : Int) - 1 - (k : Int) ∧ m = xs.length - k ∧ k ≤ xs.length ∧ ys.length = xs.length ∧
      (∀ t, t < xs.length → ys[t]? = if t < k ∨ xs.length - 1 - k < t then xs[xs.length - 1 - t]? else xs[t]?) ∧ T = (g, .cells (strL ys ++ rest).toArray e (0, 0)) :: F,
    xs.length, ⟨rfl, rfl, 0, xs, rfl, by omega, rfl, Nat.zero_le _, rfl, fun t ht => by rw [if_neg (by omega)], rfl⟩, ?_⟩
  rintro m s sn sc i j J T - ⟨rfl, rfl, k, ys, rfl, rfl, rfl, hk, hyl, hy, rfl⟩
  unfold slices_Reverse__string_string_l2
  refine bcase_dec (fun h => ?_) (fun h => ⟨rfl, ?_⟩)
  · unfold slices_Reverse__string_string_b3 slices_Reverse__string_string_b4
    have hj : ((xs.length : Int) - 1 - (k : Int)).toNat = xs.length - 1 - k := by omega
    obtain ⟨x, hx⟩ := get_lt (xs := ys) (k := xs.length - 1 - k) (by omega)
    obtain ⟨y, hyk⟩ := get_lt (xs := ys) (k := k) (by omega)
    have ea : ∀ t : Nat, (⟨g, 0, none⟩ : Addr).add (t * 1) = ⟨g, t, none⟩ := fun t => by rw [add_mk]; congr 1; omega
    have cell : ∀ (zs : List ByteArray) (t : Nat) (z : ByteArray), zs[t]? = some z → Cell J ((g, .cells (strL zs ++ rest).toArray e (0, 0)) :: F) ⟨g, t, none⟩ (.string z) := fun zs t z hz => by
      refine Cell.at0 ?_
      rw [List.getElem?_toArray, List.getElem?_append_left (by rw [List.length_map]; exact lt_get hz), List.getElem?_map, hz]; rfl
    refine ⟨by omega, by omega, x, by rw [hj, ea]; exact cell _ _ _ hx, by omega, by omega, y, by rw [Int.toNat_natCast, ea]; exact cell _ _ _ hyk, by omega, by omega, ?_⟩
    rw [Int.toNat_natCast, ea]
    refine StP.list (o := k) (by simp; omega) rfl ?_
    rw [List.length_singleton, map_set_at Value.string (by omega : k < ys.length)]
    refine ⟨by omega, by omega, ?_⟩
    rw [hj, ea]
    refine StP.list (o := xs.length - 1 - k) (by simp; omega) rfl ?_
    rw [List.length_singleton, map_set_at Value.string (by rw [List.length_set]; omega)]
    refine ⟨xs.length - (k + 1), by omega, rfl, rfl, k + 1, (ys.set k x).set (xs.length - 1 - k) y, by rw [wrap_i64 (by omega) (by omega)]; rfl, by rw [wrap_i64 (by omega) (by omega)]; omega, rfl, by omega, by simp [hyl], fun t ht => ?_, rfl⟩
    have hxk : ys[xs.length - 1 - k]? = xs[xs.length - 1 - k]? := by rw [hy _ (by omega), if_neg (by omega)]
    have hyk' : ys[k]? = xs[k]? := by rw [hy _ (by omega), if_neg (by omega)]
    rw [List.getElem?_set, List.getElem?_set]
    by_cases h1 : xs.length - 1 - k = t
    · rw [if_pos h1, if_pos (by rw [List.length_set]; omega), if_pos (by omega), ← hyk, hyk', ← h1]
      congr 1; omega
    · rw [if_neg h1]
      by_cases h2 : k = t
      · rw [if_pos h2, if_pos (by omega), if_pos (by omega), ← hx, hxk, h2]
      · rw [if_neg h2, hy t ht]
        by_cases h3 : t < k ∨ xs.length - 1 - k < t
        · rw [if_pos h3, if_pos (by omega)]
        · rw [if_neg h3, if_neg (by omega)]
  · have : ys = xs.reverse := by
      apply List.ext_getElem?
      intro t
      by_cases ht : t < xs.length
      · rw [hy t ht, List.getElem?_reverse ht]
        by_cases h3 : t < k ∨ xs.length - 1 - k < t
        · rw [if_pos h3]
        · rw [if_neg h3]; congr 1; omega
      · rw [List.getElem?_eq_none (by omega), List.getElem?_eq_none (by simp; omega)]
    rw [this]
theorem RevO_runs {xs : List ByteArray} {p : Option Addr} {n c : Nat} {own : SH} (h : OwnS (.slice p n c) xs own) (hl : xs.length ≤ 4611686018427387904) (I : IMem) (F : SH) :
    Runs Tryd.prog 61 #[.slice p n c] I (own ++ F) fun v _ T => v = .tuple #[] ∧ ∃ own', OwnS (.slice p n c) xs.reverse own' ∧ T = own' ++ F := by
  rcases h with ⟨hv, rfl, rfl⟩ | ⟨g, cap, rest, hv, rfl, hc, hm⟩
  · injection hv with h1 h2 h3; subst h1; subst h2; subst h3
    refine slices_Reverse__string_string_fn _ _ _ _ _ _ ?_
    unfold slices_Reverse__string_string slices_Reverse__string_string_b1 slices_Reverse__string_string_l2
    refine ⟨fun m s sn sc i j J T => i = 0 ∧ j < 0 ∧ T = [] ++ F, 0, ⟨rfl, by decide, rfl⟩, ?_⟩
    rintro m s sn sc i j J T - ⟨rfl, hj, rfl⟩
    exact bcase_f (decide_eq_false (by omega)) ⟨rfl, [], .inl ⟨rfl, rfl, rfl⟩, rfl⟩
  · injection hv with h1 h2 h3; subst h1; subst h2; subst h3
    rw [flat_elS]
    refine (Rev_runs hl I F).mono ?_
    rintro v J T _ ⟨rfl, rfl⟩
    refine ⟨rfl, _, .inr ⟨g, c, rest, by rw [List.length_reverse], rfl, by rw [List.length_reverse]; exact hc, hm⟩, ?_⟩
    rw [flat_elS]; rfl
end Go.Proofs.YtkagfmlaolmdnaaDoor
