/- The comparison of records: contracts. -/
import Derived.Test.YtdajglfbbcbgpaaDoorT1
import Derived.Test.YtdajglfbbcbgpaaDoorPx11
import Derived.Test.YtdajglfbbcbgpaaDoorZl1
namespace Go.Proofs.YtdajglfbbcbgpaaDoor
open Go.Px
set_option linter.unusedVariables false

theorem isNaNn_runs (x : ByteArray) (I : IMem) (S : SH) : Runs Tryd.prog 59 #[.string x] I S fun v _ T => v = .bool false ∧ T = S :=
  cmp_isNaN_api_Name_fn _ _ _ _ (by unfold cmp_isNaN_api_Name; simp)
theorem isNaNs_runs (x : ByteArray) (I : IMem) (S : SH) : Runs Tryd.prog 61 #[.string x] I S fun v _ T => v = .bool false ∧ T = S :=
  cmp_isNaN_string_fn _ _ _ _ (by unfold cmp_isNaN_string; simp)
theorem isNaNt_runs (x : Int) (I : IMem) (S : SH) : Runs Tryd.prog 60 #[.int .u16 x] I S fun v _ T => v = .bool false ∧ T = S :=
  cmp_isNaN_api_Type_fn _ _ _ _ (by unfold cmp_isNaN_api_Type; simp)
theorem isNaNu_runs (x : Int) (I : IMem) (S : SH) : Runs Tryd.prog 62 #[.int .u32 x] I S fun v _ T => v = .bool false ∧ T = S :=
  cmp_isNaN_uint32_fn _ _ _ _ (by unfold cmp_isNaN_uint32; simp)

theorem gtB (x y : ByteArray) : (!(Op.bytesLess x.toList y.toList || x.toList == y.toList)) = Op.bytesLess y.toList x.toList := by
  rcases bl_tri x.toList y.toList with h | h | h
  · have : Op.bytesLess y.toList x.toList = false := by
      cases hb : Op.bytesLess y.toList x.toList with
      | false => rfl
      | true => have := bl_trans h hb; rw [bl_irrefl] at this; cases this
    simp [h, this]
  · rw [h]; simp [bl_irrefl]
  · have h1 : Op.bytesLess x.toList y.toList = false := by
      cases hb : Op.bytesLess x.toList y.toList with
      | false => rfl
      | true => have := bl_trans h hb; rw [bl_irrefl] at this; cases this
    have h2 : (x.toList == y.toList) = false := by
      cases hb : x.toList == y.toList with
      | false => rfl
      | true => have := eq_of_beq hb; rw [this, bl_irrefl] at h; cases h
    simp [h, h1, h2]

theorem CmpN_runs (x y : ByteArray) (I : IMem) (S : SH) : Runs Tryd.prog 43 #[.string x, .string y] I S fun v _ T => v = .int .i64 (cmpB x y) ∧ T = S := by
  refine cmp_Compare_api_Name_fn _ _ _ _ _ ?_
  unfold cmp_Compare_api_Name
  refine (isNaNn_runs x I S).mono ?_
  rintro v J T hle ⟨rfl, rfl⟩
  refine ⟨_, rfl, (isNaNn_runs y J T).mono ?_⟩
  rintro v J' T' hle' ⟨rfl, rfl⟩
  refine ⟨_, rfl, ?_⟩
  rw [gtB]
  refine bcase_f rfl (bcase_f rfl (bcase_of (fun h => ⟨by simp [cmpB, ltB, h], rfl⟩) (fun h => bcase_of (fun g => ⟨by simp [cmpB, ltB, h, g], rfl⟩) (fun g => ⟨by simp [cmpB, ltB, h, g], rfl⟩))))
theorem CmpS_runs (x y : ByteArray) (I : IMem) (S : SH) : Runs Tryd.prog 45 #[.string x, .string y] I S fun v _ T => v = .int .i64 (cmpB x y) ∧ T = S := by
  refine cmp_Compare_string_fn _ _ _ _ _ ?_
  unfold cmp_Compare_string
  refine (isNaNs_runs x I S).mono ?_
  rintro v J T hle ⟨rfl, rfl⟩
  refine ⟨_, rfl, (isNaNs_runs y J T).mono ?_⟩
  rintro v J' T' hle' ⟨rfl, rfl⟩
  refine ⟨_, rfl, ?_⟩
  rw [gtB]
  refine bcase_f rfl (bcase_f rfl (bcase_of (fun h => ⟨by simp [cmpB, ltB, h], rfl⟩) (fun h => bcase_of (fun g => ⟨by simp [cmpB, ltB, h, g], rfl⟩) (fun g => ⟨by simp [cmpB, ltB, h, g], rfl⟩))))
theorem CmpT_runs (x y : Int) (I : IMem) (S : SH) : Runs Tryd.prog 44 #[.int .u16 x, .int .u16 y] I S fun v _ T => v = .int .i64 (cmpI x y) ∧ T = S := by
  refine cmp_Compare_api_Type_fn _ _ _ _ _ ?_
  unfold cmp_Compare_api_Type
  refine (isNaNt_runs x I S).mono ?_
  rintro v J T hle ⟨rfl, rfl⟩
  refine ⟨_, rfl, (isNaNt_runs y J T).mono ?_⟩
  rintro v J' T' hle' ⟨rfl, rfl⟩
  refine ⟨_, rfl, ?_⟩
  refine bcase_f rfl (bcase_f rfl (bcase_dec (fun h => ⟨by rw [cmpI, if_pos h], rfl⟩) (fun h => bcase_dec (fun g => ⟨by rw [cmpI, if_neg h, if_pos g], rfl⟩) (fun g => ⟨by rw [cmpI, if_neg h, if_neg g], rfl⟩))))
theorem CmpU_runs (x y : Int) (I : IMem) (S : SH) : Runs Tryd.prog 46 #[.int .u32 x, .int .u32 y] I S fun v _ T => v = .int .i64 (cmpI x y) ∧ T = S := by
  refine cmp_Compare_uint32_fn _ _ _ _ _ ?_
  unfold cmp_Compare_uint32
  refine (isNaNu_runs x I S).mono ?_
  rintro v J T hle ⟨rfl, rfl⟩
  refine ⟨_, rfl, (isNaNu_runs y J T).mono ?_⟩
  rintro v J' T' hle' ⟨rfl, rfl⟩
  refine ⟨_, rfl, ?_⟩
  refine bcase_f rfl (bcase_f rfl (bcase_dec (fun h => ⟨by rw [cmpI, if_pos h], rfl⟩) (fun h => bcase_dec (fun g => ⟨by rw [cmpI, if_neg h, if_pos g], rfl⟩) (fun g => ⟨by rw [cmpI, if_neg h, if_neg g], rfl⟩))))

def orL : List Int → Int
  | [] => 0
  | x :: xs => if x = 0 then orL xs else x
def elI (x : Int) : List Value := [.int .i64 x]
theorem Or_runs {xs : List Int} {a : Option Addr} {c : Nat} {I : IMem} {S : SH} (hx : RowIn I S a xs.length 1 elI xs) (hl : xs.length ≤ 9223372036854775807) :
    Runs Tryd.prog 42 #[.slice a xs.length c] I S fun v _ T => v = .int .i64 (orL xs) ∧ T = S := by
  refine cmp_Or_int_fn _ _ _ _ _ _ ?_
  unfold cmp_Or_int cmp_Or_int_b1 cmp_Or_int_b2
  refine ⟨fun m z p n c' q i J T => z = 0 ∧ p = a ∧ n = xs.length ∧ q = (xs.length : Int) ∧ T = S ∧ I.le J ∧ ∃ k : Nat, i = (k : Int) ∧ k ≤ xs.length ∧ m = xs.length - k ∧ orL xs = orL (xs.drop k), xs.length, ⟨rfl, rfl, rfl, rfl, rfl, IMem.le.refl I, 0, rfl, Nat.zero_le _, by simp, by simp⟩, ?_⟩
  rintro m z p n c' q i J T - ⟨rfl, rfl, rfl, rfl, rfl, hle, k, rfl, hk, rfl, ho⟩
  unfold cmp_Or_int_l3
  refine bcase_dec (fun h => ?_) (fun h => ?_)
  · have hlt : k < xs.length := by omega
    obtain ⟨x, hxk⟩ : ∃ x, xs[k]? = some x := ⟨_, List.getElem?_eq_getElem hlt⟩
    obtain ⟨a', rfl, hc⟩ := hx.cell hxk
    refine ⟨by omega, by omega, x, ?_, ?_⟩
    · have := (hc 0 (.int .i64 x) rfl).le hle
      simpa [Addr.add] using this
    · have hd : xs.drop k = x :: xs.drop (k + 1) := by
        rw [List.drop_eq_getElem_cons hlt]
        rw [List.getElem?_eq_getElem hlt] at hxk
        injection hxk with hxk; rw [hxk]
      refine bcase_bne (fun h => ⟨?_, rfl⟩) (fun h => ?_)
      · rw [ho, hd, orL, if_neg h]
      · refine ⟨xs.length - (k + 1), by omega, rfl, rfl, rfl, rfl, rfl, hle, k + 1, ?_, by omega, rfl, ?_⟩
        · rw [wrap_i64 (by omega) (by omega)]; rfl
        · rw [ho, hd, orL, if_pos h]
  · have : k = xs.length := by omega
    subst this
    refine ⟨?_, rfl⟩
    rw [ho, List.drop_length]; rfl

theorem cmpR_or (a b : Rc) : orL [cmpB a.1 b.1, cmpI a.2.1 b.2.1, cmpB a.2.2.2 b.2.2.2, cmpI a.2.2.1 b.2.2.1] = cmpR a b := by
  simp only [orL, cmpR, lexC, keyR]
  repeat' split
  all_goals simp_all

abbrev vR (r : Rc) : Value := .agg #[.string r.1, .int .u16 r.2.1, .int .u32 r.2.2.1, .string r.2.2.2]
theorem Compare_runs (a b : Rc) (I : IMem) (S : SH) : Runs Tryd.prog 26 #[vR a, vR b] I S fun v _ T => v = .int .i64 (cmpR a b) ∧ T = S := by
  refine Runs.drop (zone_Compare_fn _ _ _ _ _ _ _ _ _ _ _ ?_)
  unfold zone_Compare zone_Compare_b1
  intro b2 b3
  refine ⟨_, Cell.tl (Cell.at0 rfl), _, Cell.at0 rfl, _, fun J T _ => CmpN_runs _ _ _ _, _, Cell.tl (Cell.at0 rfl), _, Cell.at0 rfl, _, fun J T _ => CmpT_runs _ _ _ _, _, Cell.tl (Cell.at0 rfl), _, Cell.at0 rfl, _, fun J T _ => CmpS_runs _ _ _ _,
    _, Cell.tl (Cell.at0 rfl), _, Cell.at0 rfl, _, fun J T _ => CmpU_runs _ _ _ _, ?_⟩
  intro b25
  refine (Or_runs (xs := [cmpB a.1 b.1, cmpI a.2.1 b.2.1, cmpB a.2.2.2 b.2.2.2, cmpI a.2.2.1 b.2.2.1]) ⟨rfl, ?_⟩ (by simp)).mono ?_
  · intro i x hx
    refine ⟨_, rfl, rfl, ?_⟩
    intro j v hj
    have hi : i < 4 := by
      rcases Nat.lt_or_ge i 4 with h | h
      · exact h
      · rw [List.getElem?_eq_none (by simpa using h)] at hx; cases hx
    have hj0 : j = 0 := by
      rcases Nat.lt_or_ge j 1 with h | h
      · omega
      · rw [elI, List.getElem?_eq_none (by simpa using h)] at hj; cases hj
    subst hj0
    rw [add_mk, add_mk]
    refine Cell.at0 ?_
    simp [elI] at hj; subst hj
    match i, hi with
    | 0, _ => simp at hx; subst hx; rfl
    | 1, _ => simp at hx; subst hx; rfl
    | 2, _ => simp at hx; subst hx; rfl
    | 3, _ => simp at hx; subst hx; rfl
  · rintro v J T hle ⟨rfl, rfl⟩
    refine ⟨_, rfl, ?_⟩
    unfold zone_Compare_b2
    exact ⟨S, ((Sub.refl S).skip _).skip _ |>.skip _, by rw [cmpR_or], rfl⟩
end Go.Proofs.YtdajglfbbcbgpaaDoor
