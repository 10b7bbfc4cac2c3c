/- Lists of words: equal, found, cloned, repeated, replaced. -/
import Derived.Test.YtkagfmlaolmdnaaDoorOw8
import Derived.Lib.Overlaps
namespace Go.Proofs.YtkagfmlaolmdnaaDoor
open Go.Px
set_option linter.unusedVariables false
set_option linter.unusedSimpArgs false
set_option maxRecDepth 8000

theorem strRow {I : IMem} {S : SH} {a : Option Addr} {xs : List ByteArray} (h : RowIn I S a xs.length 1 elS xs) {k : Nat} {x : ByteArray} (hx : xs[k]? = some x) : ∃ a', a = some a' ∧ Cell I S (a'.add (k * 1)) (.string x) := by
  obtain ⟨a', ha, hc⟩ := h.cell hx
  refine ⟨a', ha, ?_⟩
  have := hc 0 (.string x) rfl
  have e0 : (a'.add (k * 1)).add 0 = a'.add (k * 1) := by simp [Addr.add]
  rwa [e0] at this
theorem ba_dec {a b : ByteArray} : (a.toList == b.toList) = decide (a = b) := by
  by_cases h : a = b
  · rw [h, tl_eq]; simp
  · rw [tl_ne h]; simp [h]
theorem Equal_runs {xs ys : List ByteArray} {a b : Option Addr} {ca cb : Nat} {I : IMem} {S : SH} (hx : RowIn I S a xs.length 1 elS xs) (hy : RowIn I S b ys.length 1 elS ys) (hl : xs.length ≤ 4611686018427387904) :
    Runs Tryd.prog 43 #[.slice a xs.length ca, .slice b ys.length cb] I S fun v _ T => v = .bool (decide (xs = ys)) ∧ T = S := by
  refine slices_Equal__string_string_fn _ _ _ _ _ _ _ _ _ ?_
  unfold slices_Equal__string_string slices_Equal__string_string_b1 slices_Equal__string_string_b2
  refine bcase_bne (fun h => ⟨?_, rfl⟩) (fun h => ?_)
  · rw [decide_eq_false (fun e => h (by rw [e]))]
  refine ⟨fun m p pn pc q qn qc x i J T => p = a ∧ pn = xs.length ∧ q = b ∧ qn = ys.length ∧ x = (xs.length : Int) ∧ I.le J ∧ T = S ∧ ∃ k : Nat, i = (k : Int) ∧ k ≤ xs.length ∧ m = xs.length - k ∧ ∀ t, t < k → xs[t]? = ys[t]?,
    xs.length, ⟨rfl, rfl, rfl, rfl, rfl, IMem.le.refl I, rfl, 0, rfl, Nat.zero_le _, rfl, fun t ht => by omega⟩, ?_⟩
  rintro m p pn pc q qn qc x i J T - ⟨rfl, rfl, rfl, rfl, rfl, hle, rfl, k, rfl, hk, rfl, hp⟩
  unfold slices_Equal__string_string_l3
  refine bcase_dec (fun h1 => ?_) (fun h1 => ?_)
  · unfold slices_Equal__string_string_b4 slices_Equal__string_string_b5 slices_Equal__string_string_b6 slices_Equal__string_string_b7
    obtain ⟨x, hxk⟩ := get_lt (xs := xs) (k := k) (by omega)
    obtain ⟨y, hyk⟩ := get_lt (xs := ys) (k := k) (by omega)
    obtain ⟨a', rfl, hca⟩ := strRow (hx.le hle) hxk
    obtain ⟨b', rfl, hcb⟩ := strRow (hy.le hle) hyk
    refine ⟨by omega, by omega, x, hca, by omega, by omega, y, hcb, ?_⟩
    rw [ba_dec]
    refine bcase_not (bcase_dec (fun e => ?_) (fun e => ⟨?_, rfl⟩))
    · refine ⟨xs.length - (k + 1), by omega, rfl, rfl, rfl, rfl, rfl, hle, rfl, k + 1, by rw [wrap_i64 (by omega) (by omega)]; rfl, by omega, rfl, fun t ht => ?_⟩
      rcases Nat.lt_or_ge t k with g | g
      · exact hp t g
      · have : t = k := by omega
        subst this; rw [hxk, hyk, e]
    · rw [decide_eq_false (fun h => e (by rw [h, hyk] at hxk; exact (Option.some.inj hxk).symm))]
  · unfold slices_Equal__string_string_b8
    refine ⟨?_, rfl⟩
    have : xs = ys := by
      apply List.ext_getElem?
      intro t
      by_cases ht : t < k
      · exact hp t ht
      · rw [List.getElem?_eq_none (by omega), List.getElem?_eq_none (by omega)]
    rw [decide_eq_true this]
/-- the first place of a word -/
def idxS (xs : List ByteArray) (v : ByteArray) : Int := match xs.findIdx? (fun x => decide (v = x)) with
  | some k => (k : Int)
  | none => -1
theorem Index_runs {xs : List ByteArray} {a : Option Addr} {c : Nat} (v : ByteArray) {I : IMem} {S : SH} (hx : RowIn I S a xs.length 1 elS xs) (hl : xs.length ≤ 4611686018427387904) :
    Runs Tryd.prog 65 #[.slice a xs.length c, .string v] I S fun r _ T => r = .int .i64 (idxS xs v) ∧ T = S := by
  refine slices_Index__string_string_fn _ _ _ _ _ _ _ ?_
  unfold slices_Index__string_string slices_Index__string_string_b1 slices_Index__string_string_b2
  refine ⟨fun m p pn pc w x i J T => p = a ∧ pn = xs.length ∧ w = v ∧ x = (xs.length : Int) ∧ I.le J ∧ T = S ∧ ∃ k : Nat, i = (k : Int) ∧ k ≤ xs.length ∧ m = xs.length - k ∧ ∀ t y, t < k → xs[t]? = some y → v ≠ y,
    xs.length, ⟨rfl, rfl, rfl, rfl, IMem.le.refl I, rfl, 0, rfl, Nat.zero_le _, rfl, fun t y ht => by omega⟩, ?_⟩
  rintro m p pn pc w x i J T - ⟨rfl, rfl, rfl, rfl, hle, rfl, k, rfl, hk, rfl, hp⟩
  unfold slices_Index__string_string_l3 slices_Index__string_string_b4
  refine bcase_dec (fun h1 => ?_) (fun h1 => ?_)
  · obtain ⟨x, hxk⟩ := get_lt (xs := xs) (k := k) (by omega)
    obtain ⟨a', rfl, hca⟩ := strRow (hx.le hle) hxk
    refine ⟨by omega, by omega, x, hca, ?_⟩
    rw [ba_dec]
    refine bcase_dec (fun e => ⟨?_, rfl⟩) (fun e => ?_)
    · have : xs.findIdx? (fun x => decide (w = x)) = some k := by
        rw [List.findIdx?_eq_some_iff_getElem]
        refine ⟨lt_get hxk, ?_, fun j hj => ?_⟩
        · rw [List.getElem?_eq_getElem (lt_get hxk)] at hxk
          rw [Option.some.inj hxk, decide_eq_true e]
        · have := hp j xs[j] hj (List.getElem?_eq_getElem (by omega))
          simp [this]
      rw [idxS, this]
    · refine ⟨xs.length - (k + 1), by omega, rfl, rfl, rfl, rfl, hle, rfl, k + 1, by rw [wrap_i64 (by omega) (by omega)]; rfl, by omega, rfl, fun t y ht hy => ?_⟩
      rcases Nat.lt_or_ge t k with g | g
      · exact hp t y g hy
      · have : t = k := by omega
        subst this; rw [hxk] at hy; rw [← Option.some.inj hy]; exact e
  · refine ⟨?_, rfl⟩
    have : xs.findIdx? (fun x => decide (w = x)) = none := by
      rw [List.findIdx?_eq_none_iff]
      intro y hy
      obtain ⟨t, ht⟩ := List.getElem?_of_mem hy
      have h3 := lt_get ht
      simp [hp t y (by omega) ht]
    rw [idxS, this]
def hasS (xs : List ByteArray) (v : ByteArray) : Bool := xs.any fun x => decide (v = x)
theorem Contains_runs {xs : List ByteArray} {a : Option Addr} {c : Nat} (v : ByteArray) {I : IMem} {S : SH} (hx : RowIn I S a xs.length 1 elS xs) (hl : xs.length ≤ 4611686018427387904) :
    Runs Tryd.prog 64 #[.slice a xs.length c, .string v] I S fun r _ T => r = .bool (hasS xs v) ∧ T = S := by
  refine slices_Contains__string_string_fn _ _ _ _ _ _ _ ?_
  unfold slices_Contains__string_string
  refine (Index_runs v hx hl).mono ?_
  rintro r J T _ ⟨rfl, rfl⟩
  refine ⟨_, rfl, ?_, rfl⟩
  rw [idxS]
  cases h : xs.findIdx? (fun x => decide (v = x)) with
  | none =>
    rw [List.findIdx?_eq_none_iff] at h
    have : hasS xs v = false := by rw [hasS, List.any_eq_false]; intro y hy; rw [h y hy]; simp
    rw [this]; simp
  | some k =>
    rw [List.findIdx?_eq_some_iff_getElem] at h
    obtain ⟨h1, h2, _⟩ := h
    have : hasS xs v = true := by rw [hasS, List.any_eq_true]; exact ⟨_, List.getElem_mem h1, h2⟩
    rw [this]; simp
theorem ClS_runs {xs : List ByteArray} {a : Option Addr} {c : Nat} {I : IMem} {S : SH} (hx : RowIn I S a xs.length 1 elS xs) (hl : xs.length * 16 ≤ 140737488355328) :
    Runs Tryd.prog 63 #[.slice a xs.length c] I S fun v _ T => ∃ own', OwnS v xs own' ∧ Sub (own' ++ S) T := by
  refine slices_Clone__string_string_fn _ _ _ _ _ _ ?_
  unfold slices_Clone__string_string
  refine bcase_of (fun h => ?_) (fun h => ?_)
  · have hxs : xs = [] := by
      cases xs with
      | nil => rfl
      | cons x xs =>
        obtain ⟨a', rfl, _⟩ := hx.cell (i := 0) (x := x) rfl
        cases h
    subst hxs
    exact ⟨[], OwnR.nil, Sub.refl _⟩
  · intro b5
    refine AppSs (xs := []) (ys := xs) (own := [(b5, .cells #[] 9 (0, 0))]) (F := S) (Sub.refl _) (.inr ⟨b5, 0, [], rfl, rfl, rfl, Nat.zero_le _⟩) (hx.sub ((Sub.refl S).skip _)) (by simpa using hl) ?_
    intro p n c own' T ho hs
    exact ⟨own', ho, hs⟩

theorem Pre.sound' {P : Program} {n : Nat} (c : Code) (Q : Exit → Fr → IMem → SH → Prop) (l : Fr) (I : IMem) (S : SH) (A : Prop) (e : A = Pre P n c Q l I S) (h : A) : WP P n c Q l I S := Pre.sound c Q l I S (by rw [← e]; exact h)
noncomputable def mulC : Code := (Tryd.f92.body).getD .skip
theorem Mul64_2e (R : Value → IMem → SH → Prop) (I : IMem) (S : SH) : R (.tuple #[.int .u64 0, .int .u64 2]) I S = Pre Tryd.prog Tryd.f92.ntmps mulC (QRet Tryd.prog Tryd.f92.results.toList R) (fr0 [.int .u64 1, .int .u64 2]) I S := by kernel_rfl
theorem Mul64_2 (R : Value → IMem → SH → Prop) (I : IMem) (S : SH) (h : R (.tuple #[.int .u64 0, .int .u64 2]) I S) : Runs Tryd.prog 92 #[.int .u64 1, .int .u64 2] I S R := by
  exact Runs.of_wp (args := [.int .u64 1, .int .u64 2]) (c := mulC) Tryd.func92 (by kernel_rfl) (by kernel_rfl) (Pre.sound' _ _ _ _ _ _ (Mul64_2e R I S) h)
theorem Mul64_3e (R : Value → IMem → SH → Prop) (I : IMem) (S : SH) : R (.tuple #[.int .u64 0, .int .u64 3]) I S = Pre Tryd.prog Tryd.f92.ntmps mulC (QRet Tryd.prog Tryd.f92.results.toList R) (fr0 [.int .u64 1, .int .u64 3]) I S := by kernel_rfl
theorem Mul64_3 (R : Value → IMem → SH → Prop) (I : IMem) (S : SH) (h : R (.tuple #[.int .u64 0, .int .u64 3]) I S) : Runs Tryd.prog 92 #[.int .u64 1, .int .u64 3] I S R := by
  exact Runs.of_wp (args := [.int .u64 1, .int .u64 3]) (c := mulC) Tryd.func92 (by kernel_rfl) (by kernel_rfl) (Pre.sound' _ _ _ _ _ _ (Mul64_3e R I S) h)
theorem Mul64_4e (R : Value → IMem → SH → Prop) (I : IMem) (S : SH) : R (.tuple #[.int .u64 0, .int .u64 4]) I S = Pre Tryd.prog Tryd.f92.ntmps mulC (QRet Tryd.prog Tryd.f92.results.toList R) (fr0 [.int .u64 1, .int .u64 4]) I S := by kernel_rfl
theorem Mul64_4 (R : Value → IMem → SH → Prop) (I : IMem) (S : SH) (h : R (.tuple #[.int .u64 0, .int .u64 4]) I S) : Runs Tryd.prog 92 #[.int .u64 1, .int .u64 4] I S R := by
  exact Runs.of_wp (args := [.int .u64 1, .int .u64 4]) (c := mulC) Tryd.func92 (by kernel_rfl) (by kernel_rfl) (Pre.sound' _ _ _ _ _ _ (Mul64_4e R I S) h)
theorem Mul64_5e (R : Value → IMem → SH → Prop) (I : IMem) (S : SH) : R (.tuple #[.int .u64 0, .int .u64 5]) I S = Pre Tryd.prog Tryd.f92.ntmps mulC (QRet Tryd.prog Tryd.f92.results.toList R) (fr0 [.int .u64 1, .int .u64 5]) I S := by kernel_rfl
theorem Mul64_5 (R : Value → IMem → SH → Prop) (I : IMem) (S : SH) (h : R (.tuple #[.int .u64 0, .int .u64 5]) I S) : Runs Tryd.prog 92 #[.int .u64 1, .int .u64 5] I S R := by
  exact Runs.of_wp (args := [.int .u64 1, .int .u64 5]) (c := mulC) Tryd.func92 (by kernel_rfl) (by kernel_rfl) (Pre.sound' _ _ _ _ _ _ (Mul64_5e R I S) h)
theorem Mul64_6e (R : Value → IMem → SH → Prop) (I : IMem) (S : SH) : R (.tuple #[.int .u64 0, .int .u64 6]) I S = Pre Tryd.prog Tryd.f92.ntmps mulC (QRet Tryd.prog Tryd.f92.results.toList R) (fr0 [.int .u64 1, .int .u64 6]) I S := by kernel_rfl
theorem Mul64_6 (R : Value → IMem → SH → Prop) (I : IMem) (S : SH) (h : R (.tuple #[.int .u64 0, .int .u64 6]) I S) : Runs Tryd.prog 92 #[.int .u64 1, .int .u64 6] I S R := by
  exact Runs.of_wp (args := [.int .u64 1, .int .u64 6]) (c := mulC) Tryd.func92 (by kernel_rfl) (by kernel_rfl) (Pre.sound' _ _ _ _ _ _ (Mul64_6e R I S) h)
theorem Mul64_7e (R : Value → IMem → SH → Prop) (I : IMem) (S : SH) : R (.tuple #[.int .u64 0, .int .u64 7]) I S = Pre Tryd.prog Tryd.f92.ntmps mulC (QRet Tryd.prog Tryd.f92.results.toList R) (fr0 [.int .u64 1, .int .u64 7]) I S := by kernel_rfl
theorem Mul64_7 (R : Value → IMem → SH → Prop) (I : IMem) (S : SH) (h : R (.tuple #[.int .u64 0, .int .u64 7]) I S) : Runs Tryd.prog 92 #[.int .u64 1, .int .u64 7] I S R := by
  exact Runs.of_wp (args := [.int .u64 1, .int .u64 7]) (c := mulC) Tryd.func92 (by kernel_rfl) (by kernel_rfl) (Pre.sound' _ _ _ _ _ _ (Mul64_7e R I S) h)
theorem Mul64_8e (R : Value → IMem → SH → Prop) (I : IMem) (S : SH) : R (.tuple #[.int .u64 0, .int .u64 8]) I S = Pre Tryd.prog Tryd.f92.ntmps mulC (QRet Tryd.prog Tryd.f92.results.toList R) (fr0 [.int .u64 1, .int .u64 8]) I S := by kernel_rfl
theorem Mul64_8 (R : Value → IMem → SH → Prop) (I : IMem) (S : SH) (h : R (.tuple #[.int .u64 0, .int .u64 8]) I S) : Runs Tryd.prog 92 #[.int .u64 1, .int .u64 8] I S R := by
  exact Runs.of_wp (args := [.int .u64 1, .int .u64 8]) (c := mulC) Tryd.func92 (by kernel_rfl) (by kernel_rfl) (Pre.sound' _ _ _ _ _ _ (Mul64_8e R I S) h)
theorem Mul64_runs {c : Nat} (h1 : 2 ≤ c) (h2 : c ≤ 8) (I : IMem) (S : SH) : Runs Tryd.prog 92 #[.int .u64 1, .int .u64 (c : Int)] I S fun v _ T => v = .tuple #[.int .u64 0, .int .u64 (c : Int)] ∧ T = S := by
  rcases (show c = 2 ∨ c = 3 ∨ c = 4 ∨ c = 5 ∨ c = 6 ∨ c = 7 ∨ c = 8 by omega) with rfl | rfl | rfl | rfl | rfl | rfl | rfl
  · exact Mul64_2 _ I S ⟨rfl, rfl⟩
  · exact Mul64_3 _ I S ⟨rfl, rfl⟩
  · exact Mul64_4 _ I S ⟨rfl, rfl⟩
  · exact Mul64_5 _ I S ⟨rfl, rfl⟩
  · exact Mul64_6 _ I S ⟨rfl, rfl⟩
  · exact Mul64_7 _ I S ⟨rfl, rfl⟩
  · exact Mul64_8 _ I S ⟨rfl, rfl⟩
theorem repV_str (n : Nat) : repV n [Value.string ⟨#[]⟩] = strL (List.replicate n ⟨#[]⟩) := by
  induction n with
  | zero => rfl
  | succ n ih => rw [repV, ih]; rfl
theorem slAd {b c k : Nat} (h : k < c) : slA (some ⟨b, 0, none⟩) c k 1 = some ⟨b, k, none⟩ := by
  unfold slA
  rw [if_neg (by omega)]
  show some ((⟨b, 0, none⟩ : Addr).add (k * 1)) = _
  rw [add_mk, Nat.zero_add, Nat.mul_one]
theorem Repeat_runs {x : ByteArray} {a : Option Addr} {cx cnt : Nat} (h1 : 2 ≤ cnt) (h2 : cnt ≤ 8) {I : IMem} {S : SH} (hx : RowIn I S a 1 1 elS [x]) :
    Runs Tryd.prog 66 #[.slice a 1 cx, .int .i64 (cnt : Int)] I S fun v _ T => ∃ g, v = .slice (some ⟨g, 0, none⟩) cnt cnt ∧ T = (g, .cells (strL (List.replicate cnt x)).toArray 9 (0, 0)) :: S := by
  refine slices_Repeat__string_string_fn _ _ _ _ _ _ _ ?_
  unfold slices_Repeat__string_string slices_Repeat__string_string_b1 slices_Repeat__string_string_b2 slices_Repeat__string_string_b3 slices_Repeat__string_string_b4
  refine bcase_f (decide_eq_false (by omega)) ?_
  rw [wrap_u64 (x := ((1 : Nat) : Int)) (by decide) (by decide), wrap_u64 (x := (cnt : Int)) (by omega) (by omega)]
  refine Runs.mono (R := fun v _ T => v = .tuple #[.int .u64 0, .int .u64 (cnt : Int)] ∧ T = S) ?_ ?_
  · refine bits_Mul_fn _ _ _ _ _ ?_
    unfold bits_Mul
    refine (Mul64_runs h1 h2 I S).mono ?_
    rintro v J T _ ⟨rfl, rfl⟩
    exact ⟨_, _, rfl, rfl, rfl⟩
  rintro v J T hle ⟨rfl, rfl⟩
  refine ⟨0, cnt, rfl, bcase_f rfl (bcase_f (decide_eq_false (by omega)) ?_)⟩
  rw [wrap_i64 (x := (cnt : Int)) (by omega) (by omega)]
  refine ⟨by omega, by omega, by omega, by omega, fun b30 => ?_⟩
  simp only [Int.toNat_natCast]
  rw [repV_str]
  have hmin : min 1 cnt = 1 := by omega
  refine ⟨[.string x], ?_, rfl, .inr ⟨⟨b30, 0, none⟩, rfl, StP.list (o := 0) (by simp; omega) rfl ?_⟩⟩
  · rw [hmin]
    exact (RowIn.rd (el := elS) (sz := 1) (fun _ => rfl) Nat.one_pos ((hx.sub ((Sub.refl T).skip _)).le hle))
  have hs0 := map_set_at Value.string (xs := List.replicate cnt (⟨#[]⟩ : ByteArray)) (i := 0) (by simp; omega) x []
  rw [List.append_nil, List.append_nil] at hs0
  rw [List.length_singleton, hs0, hmin]
  unfold slices_Repeat__string_string_b5
  refine ⟨fun m p pn pc n J1 T1 => p = some ⟨b30, 0, none⟩ ∧ pn = cnt ∧ pc = cnt ∧ J.le J1 ∧ ∃ (k : Nat) (ys : List ByteArray), n = (k : Int) ∧ 1 ≤ k ∧ k ≤ cnt ∧ m = cnt - k ∧ ys.length = cnt ∧ ys.take k = List.replicate k x ∧ T1 = (b30, .cells (strL ys).toArray 9 (0, 0)) :: T,
    cnt - 1, ⟨rfl, rfl, rfl, IMem.le.refl J, 1, _, rfl, Nat.le_refl _, by omega, rfl, by simp, ?_, rfl⟩, ?_⟩
  · obtain ⟨d, rfl⟩ : ∃ d, cnt = d + 1 := ⟨cnt - 1, by omega⟩
    simp [List.replicate_succ]
  rintro m p pn pc n J1 T1 - ⟨rfl, rfl, rfl, hle1, k, ys, rfl, hk1, hk2, rfl, hyl, hyt, rfl⟩
  unfold slices_Repeat__string_string_l6
  refine bcase_dec (fun h => ?_) (fun h => ?_)
  · unfold slices_Repeat__string_string_b7
    refine ⟨by omega, by omega, by omega, by omega, ?_⟩
    simp only [Int.toNat_natCast, Nat.sub_zero]
    rw [slAd (by omega), slA_zero]
    have hone : (strL (List.replicate (min k (pc - k)) x)).all one = true := by rw [← flat_elS]; exact flatMap_one (el := elS) (fun _ => rfl) _
    refine ⟨strL (List.replicate (min k (pc - k)) x), Rd.list ?_ (by simp; omega), hone, .inr ⟨_, rfl, StP.list (by simp; omega) hone ?_⟩⟩
    · rw [List.drop_zero, Nat.mul_one, ← List.map_take]
      have : ys.take (min k (pc - k)) = (ys.take k).take (min k (pc - k)) := by rw [List.take_take]; congr 1; omega
      rw [this, hyt, List.take_replicate]; congr 2; omega
    · have hL : (strL ys).take k ++ strL (List.replicate (min k (pc - k)) x) ++ (strL ys).drop (k + (strL (List.replicate (min k (pc - k)) x)).length) = strL (ys.take k ++ List.replicate (min k (pc - k)) x ++ ys.drop (k + min k (pc - k))) := by
        simp [List.map_take, List.map_drop]
      rw [hL]
      refine ⟨pc - (k + min k (pc - k)), by omega, trivial, trivial, trivial, hle1, k + min k (pc - k), _, by rw [wrap_i64 (by omega) (by omega)]; omega, by omega, by omega, rfl, by simp; omega, ?_, rfl⟩
      rw [hyt, List.replicate_append_replicate, List.take_append_of_le_length (by simp), List.take_of_length_le (by simp)]
  · unfold slices_Repeat__string_string_b8
    have : k = pc := by omega
    subst this
    rw [List.take_of_length_le (by omega)] at hyt
    exact ⟨b30, rfl, by rw [hyt]⟩
end Go.Proofs.YtkagfmlaolmdnaaDoor
