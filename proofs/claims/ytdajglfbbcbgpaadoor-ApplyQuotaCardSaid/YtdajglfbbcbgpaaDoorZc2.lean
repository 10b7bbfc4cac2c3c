/- The law's own comparison; the search in a row; what slices.overlaps answers; a clone; an insertion. -/
import Derived.Test.YtdajglfbbcbgpaaDoorZc1
import Derived.Lib.Overlaps
namespace Go.Proofs.YtdajglfbbcbgpaaDoor
open Go.Px
set_option linter.unusedVariables false

theorem cmpB_ne {x y : ByteArray} (h : x ≠ y) : cmpB x y = if Op.bytesLess x.toList y.toList then -1 else 1 := by
  unfold cmpB ltB
  split
  · rfl
  · rename_i h1
    rcases bl_tri x.toList y.toList with g | g | g
    · exact absurd g h1
    · exact absurd (toList_inj g) h
    · rw [if_pos g]
theorem cmpI_ne {x y : Int} (h : x ≠ y) : cmpI x y = if decide (x < y) then -1 else 1 := by
  unfold cmpI
  by_cases g : x < y
  · simp [g]
  · rw [if_neg g, if_pos (by omega)]; simp [g]
theorem recEq {a b : Rc} : (((a.1 : ByteArray) == (b.1 : ByteArray)) && (((a.2.1 : Int) == (b.2.1 : Int)) && (((a.2.2.1 : Int) == (b.2.2.1 : Int)) && (((a.2.2.2 : ByteArray) == (b.2.2.2 : ByteArray)) && true)))) = true ↔ a = b := by
  simp only [Bool.and_eq_true, ba_beq, beq_iff_eq, and_true]
  obtain ⟨a1, a2, a3, a4⟩ := a
  obtain ⟨b1, b2, b3, b4⟩ := b
  simp
theorem strNe {x y : ByteArray} : (!(x.toList == y.toList)) = true ↔ x ≠ y := by
  rw [Bool.not_eq_true', ← Bool.not_eq_true, keq]
theorem strNe' {x y : ByteArray} : (!(x.toList == y.toList)) = false ↔ x = y := by
  rw [Bool.not_eq_false', keq]
theorem cmpR_eq (a b : Rc) : cmpR a b = if cmpB a.1 b.1 = 0 then (if cmpI a.2.1 b.2.1 = 0 then (if cmpB a.2.2.2 b.2.2.2 = 0 then cmpI a.2.2.1 b.2.2.1 else cmpB a.2.2.2 b.2.2.2) else cmpI a.2.1 b.2.1) else cmpB a.1 b.1 := rfl
theorem compare_runs (a b : Rc) (I : IMem) (S : SH) : Runs Tryd.prog 30 #[vR a, vR b] I S fun v _ T => v = .int .i64 (cmpR a b) ∧ T = S := by
  refine Runs.drop (bolterlaw08_compare_fn _ _ _ _ _ _ _ _ _ _ _ ?_)
  unfold bolterlaw08_compare bolterlaw08_compare_b1
  intro b2 b3
  have hs : Sub S ((b3, Obj.cells #[.string b.1, .int .u16 b.2.1, .int .u32 b.2.2.1, .string b.2.2.2] 36 (0, 0)) :: (b2, Obj.cells #[.string a.1, .int .u16 a.2.1, .int .u32 a.2.2.1, .string a.2.2.2] 36 (0, 0)) :: S) := ((Sub.refl S).skip _).skip _
  have fin : ∀ {t : Bool}, cmpR a b = (if t then -1 else 1) → bcase t (∃ L, Sub L ((b3, Obj.cells #[.string b.1, .int .u16 b.2.1, .int .u32 b.2.2.1, .string b.2.2.2] 36 (0, 0)) :: (b2, Obj.cells #[.string a.1, .int .u16 a.2.1, .int .u32 a.2.2.1, .string a.2.2.2] 36 (0, 0)) :: S) ∧ Value.int .i64 (-1) = .int .i64 (cmpR a b) ∧ L = S)
      (∃ L, Sub L ((b3, Obj.cells #[.string b.1, .int .u16 b.2.1, .int .u32 b.2.2.1, .string b.2.2.2] 36 (0, 0)) :: (b2, Obj.cells #[.string a.1, .int .u16 a.2.1, .int .u32 a.2.2.1, .string a.2.2.2] 36 (0, 0)) :: S) ∧ Value.int .i64 1 = .int .i64 (cmpR a b) ∧ L = S) := by
    intro t ht
    refine bcase_of (fun h => ⟨S, hs, by rw [ht, h]; rfl, rfl⟩) (fun h => ⟨S, hs, by rw [ht, h]; rfl, rfl⟩)
  refine ⟨_, Cell.tl (Cell.at0 rfl), _, Cell.at0 rfl, _, Cell.tl (Cell.at0 rfl), _, Cell.tl (Cell.at0 rfl), _, Cell.tl (Cell.at0 rfl), _, Cell.tl (Cell.at0 rfl), _, Cell.at0 rfl, _, Cell.at0 rfl, _, Cell.at0 rfl, _, Cell.at0 rfl, ?_⟩
  refine bcase_of (fun h => ?_) (fun h => ?_)
  · have := recEq.1 h
    exact ⟨S, hs, by rw [this, cmR.refl], rfl⟩
  · have hne : a ≠ b := fun e => by rw [recEq.2 e] at h; cases h
    refine ⟨_, Cell.tl (Cell.at0 rfl), _, Cell.at0 rfl, bcase_of (fun h1 => fin ?_) (fun h1 => ⟨_, Cell.tl (Cell.at0 rfl), _, Cell.at0 rfl, bcase_bne (fun h2 => ⟨_, Cell.tl (Cell.at0 rfl), _, Cell.at0 rfl, fin ?_⟩) (fun h2 => ⟨_, Cell.tl (Cell.at0 rfl), _, Cell.at0 rfl, bcase_of (fun h3 => ⟨_, Cell.tl (Cell.at0 rfl), _, Cell.at0 rfl, fin ?_⟩) (fun h3 => ⟨_, Cell.tl (Cell.at0 rfl), _, Cell.at0 rfl, fin ?_⟩)⟩)⟩)⟩
    · have h1 := strNe.1 h1
      have : cmpB a.1 b.1 ≠ 0 := fun e => h1 (cmB.eq _ _ e)
      rw [cmpR_eq, if_neg this, cmpB_ne h1]
    · have h1 := strNe'.1 h1
      have : cmpI a.2.1 b.2.1 ≠ 0 := fun e => h2 (cmI.eq _ _ e)
      rw [cmpR_eq, h1, if_pos (cmB.refl _), if_neg this, cmpI_ne h2]
    · have h1 := strNe'.1 h1
      have h3 := strNe.1 h3
      have : cmpB a.2.2.2 b.2.2.2 ≠ 0 := fun e => h3 (cmB.eq _ _ e)
      rw [cmpR_eq, h1, h2, if_pos (cmB.refl _), if_pos (cmI.refl _), if_neg this, cmpB_ne h3]
    · have h1 := strNe'.1 h1
      have h3 := strNe'.1 h3
      have h4 : a.2.2.1 ≠ b.2.2.1 := fun e => hne (by
        obtain ⟨a1, a2, a3, a4⟩ := a
        obtain ⟨b1, b2, b3, b4⟩ := b
        simp_all)
      rw [cmpR_eq, h1, h2, h3, if_pos (cmB.refl _), if_pos (cmI.refl _), if_pos (cmB.refl _), cmpI_ne h4]

/-- four cells of a record, one behind the other -/
theorem CellsR {I : IMem} {S : SH} {a : Addr} {r : Rc} (h : ∀ j v, (encR r)[j]? = some v → Cell I S (a.add j) v) :
    Cell I S a (.string r.1) ∧ Cell I S (a.add 1) (.int .u16 r.2.1) ∧ Cell I S (a.add 2) (.int .u32 r.2.2.1) ∧ Cell I S (a.add 3) (.string r.2.2.2) :=
  ⟨by simpa [Addr.add] using h 0 _ rfl, h 1 _ rfl, h 2 _ rfl, h 3 _ rfl⟩
abbrev Below (xs : List Rc) (r : Rc) (k : Nat) : Prop := k ≤ xs.length ∧ ∀ (i : Nat) (x : Rc), xs[i]? = some x → (i < k ↔ cmpR x r < 0)
theorem half {i j : Nat} (h : i + j ≤ 9223372036854775807) : IntKind.wrap .i64 ((IntKind.wrap .u64 (IntKind.wrap .i64 ((i : Int) + (j : Int)))).fdiv (2 ^ (min (1 : Int).toNat (IntKind.bits .u64)))) = (((i + j) / 2 : Nat) : Int) := by
  have e : (2 ^ (min (1 : Int).toNat (IntKind.bits .u64)) : Int) = 2 := rfl
  rw [e, wrap_i64 (x := (i : Int) + (j : Int)) (by omega) (by omega), wrap_u64 (by omega) (by omega), Int.fdiv_eq_ediv_of_nonneg _ (by omega), wrap_i64 (by omega) (by omega)]
  omega
theorem Search_runs {xs : List Rc} {a : Option Addr} {c : Nat} {r : Rc} {I : IMem} {S : SH} (hx : RowIn I S a xs.length 4 encR xs) (hl : xs.length ≤ 140737488355328)
    (hm : ∀ (i j : Nat) (x y : Rc), i ≤ j → xs[i]? = some x → xs[j]? = some y → cmpR y r < 0 → cmpR x r < 0) :
    Runs Tryd.prog 33 #[.slice a xs.length c, vR r, .func (.func 26) #[] #[]] I S fun v _ T => (∃ (k : Nat) (f : Bool), v = .tuple #[.int .i64 (k : Int), .bool f] ∧ Below xs r k ∧ (f = true ↔ xs[k]? = some r)) ∧ T = S := by
  refine Runs.drop (slices_BinarySearchFunc_api_Record_fn _ _ _ _ _ _ _ _ _ _ ?_)
  unfold slices_BinarySearchFunc_api_Record slices_BinarySearchFunc_api_Record_b1
  intro b4
  have hs : Sub S ((b4, Obj.cells #[.string r.1, .int .u16 r.2.1, .int .u32 r.2.2.1, .string r.2.2.2] 36 (0, 0)) :: S) := (Sub.refl S).skip _
  have hx' := hx.sub hs
  refine ⟨fun m p n c' tg q i j J T => p = a ∧ n = xs.length ∧ tg = ⟨b4, 0, none⟩ ∧ q = (xs.length : Int) ∧ T = ((b4, Obj.cells #[.string r.1, .int .u16 r.2.1, .int .u32 r.2.2.1, .string r.2.2.2] 36 (0, 0)) :: S) ∧ I.le J ∧
    ∃ k h : Nat, i = (k : Int) ∧ j = (h : Int) ∧ k ≤ h ∧ h ≤ xs.length ∧ m = h - k ∧ (∀ (i : Nat) (x : Rc), xs[i]? = some x → i < k → cmpR x r < 0) ∧ (∀ (i : Nat) (x : Rc), xs[i]? = some x → h ≤ i → ¬ cmpR x r < 0), xs.length,
    ⟨rfl, rfl, rfl, rfl, rfl, IMem.le.refl I, 0, xs.length, rfl, rfl, Nat.zero_le _, Nat.le_refl _, by simp, by intro i x _ h; omega, by
      intro i x hi h
      rw [List.getElem?_eq_none h] at hi; cases hi⟩, ?_⟩
  rintro m p n c' tg q i j J T - ⟨rfl, rfl, rfl, rfl, rfl, hle, k, h, rfl, rfl, hkh, hh, rfl, hlo, hhi⟩
  unfold slices_BinarySearchFunc_api_Record_l2 slices_BinarySearchFunc_api_Record_b3 slices_BinarySearchFunc_api_Record_b4 slices_BinarySearchFunc_api_Record_b5 slices_BinarySearchFunc_api_Record_b6 slices_BinarySearchFunc_api_Record_b7
  refine bcase_dec (fun hlt => ?_) (fun hlt => ?_)
  · rw [half (by omega)]
    have hg1 : k ≤ (k + h) / 2 := by omega
    have hg2 : (k + h) / 2 < h := by omega
    generalize (k + h) / 2 = g at hg1 hg2
    obtain ⟨x, hxg⟩ : ∃ x, xs[g]? = some x := ⟨_, List.getElem?_eq_getElem (by omega)⟩
    obtain ⟨a', rfl, hc⟩ := hx'.cell hxg
    obtain ⟨c0, c1, c2, c3⟩ := CellsR hc
    refine ⟨by omega, by omega, _, c0.le hle, _, c1.le hle, _, c2.le hle, _, c3.le hle, _, Cell.at0 rfl, _, Cell.at0 rfl, _, Cell.at0 rfl, _, Cell.at0 rfl, _, Compare_runs x r _ _, ?_⟩
    refine bcase_dec (fun hlt' => ?_) (fun hlt' => ?_)
    · refine ⟨h - (g + 1), by omega, rfl, rfl, rfl, rfl, rfl, hle, g + 1, h, ?_, rfl, by omega, hh, rfl, fun i y hy hi => ?_, hhi⟩
      · rw [wrap_i64 (by omega) (by omega)]; rfl
      · exact hm i g y x (by omega) hy hxg hlt'
    · refine ⟨g - k, by omega, rfl, rfl, rfl, rfl, rfl, hle, k, g, rfl, rfl, by omega, by omega, rfl, hlo, fun i y hy hi => ?_⟩
      exact fun hy' => hlt' (hm g i x y hi hxg hy hy')
  · have : k = h := by omega
    subst this
    have hb : Below xs r k := ⟨hh, fun i x hi => ⟨hlo i x hi, fun hc => by
      rcases Nat.lt_or_ge i k with g | g
      · exact g
      · exact absurd hc (hhi i x hi g)⟩⟩
    refine bcase_dec (fun hlt => ?_) (fun hlt => ?_)
    · obtain ⟨x, hxg⟩ : ∃ x, xs[k]? = some x := ⟨_, List.getElem?_eq_getElem (by omega)⟩
      obtain ⟨a', rfl, hc⟩ := hx'.cell hxg
      obtain ⟨c0, c1, c2, c3⟩ := CellsR hc
      refine ⟨by omega, by omega, _, c0.le hle, _, c1.le hle, _, c2.le hle, _, c3.le hle, _, Cell.at0 rfl, _, Cell.at0 rfl, _, Cell.at0 rfl, _, Cell.at0 rfl, _, Compare_runs x r _ _, ?_⟩
      refine ⟨S, hs, ⟨k, _, rfl, hb, ?_⟩, rfl⟩
      rw [beq_iff_eq, hxg]
      exact ⟨fun e => by rw [cmR.eq _ _ e], fun e => by injection e with e; rw [e, cmR.refl]⟩
    · refine ⟨S, hs, ⟨k, false, rfl, hb, ?_⟩, rfl⟩
      rw [List.getElem?_eq_none (by omega)]
      simp
end Go.Proofs.YtdajglfbbcbgpaaDoor
