/- Ranks: floats of small numbers stand as the numbers do. -/
import Derived.Test.YtoiilcdaldnjfaaGreatDoorProg
import Derived.Laws.Strings
import Derived.KernelRfl
import Derived.Test.YtoiilcdaldnjfaaGreatDoorM1EngineMany
import Derived.Test.YtoiilcdaldnjfaaGreatDoorM2EngineMany
import Derived.Test.YtoiilcdaldnjfaaGreatDoorM3EngineMany
import Derived.Test.YtoiilcdaldnjfaaGreatDoorM4EngineMany
namespace Go.Proofs.YtoiilcdaldnjfaaGreatDoor
open Go.Px
set_option linter.unusedVariables false
set_option linter.unusedSimpArgs false

def lenT (t : Tg) : Int := if (!(t.2.2.1.toList == (⟨#[]⟩ : ByteArray).toList)) = true then t.2.2.2 else (cntN t.2.1 : Int)
def rkI (t : Tg) : Int := if 0 ≤ t.1 ∧ t.1 ≤ 6 then IntKind.wrap .i64 (IntKind.wrap .i64 (IntKind.wrap .i64 (IntKind.wrap .i64 (t.1 * 256) + 256) - 1) - lenT t) else 1792
def elI9 (n : Int) : List Value := [.int .i64 n]
def stepsL : List Int := [0, 1, 2, 3, 4, 5, 6]
abbrev stB (b : Nat) : Nat × Obj := (b, .cells #[.int .i64 0, .int .i64 1, .int .i64 2, .int .i64 3, .int .i64 4, .int .i64 5, .int .i64 6] 40 (0, 0))
theorem steps_runs (I : IMem) (S : SH) : Runs Tryz.prog 64 #[] I S fun v _ T => ∃ b, v = .slice (some ⟨b, 0, none⟩) 7 7 ∧ T = stB b :: S := by
  refine rank_steps_fn _ _ _ ?_
  unfold rank_steps
  intro b1
  exact ⟨b1, rfl, rfl⟩
theorem stepsL_get {k : Nat} (h : k < 7) : stepsL[k]? = some (k : Int) := by
  match k, h with
  | 0, _ => rfl
  | 1, _ => rfl
  | 2, _ => rfl
  | 3, _ => rfl
  | 4, _ => rfl
  | 5, _ => rfl
  | 6, _ => rfl
theorem steps_row {I : IMem} {S : SH} {b : Nat} : RowIn I (stB b :: S) (some ⟨b, 0, none⟩) 7 1 elI9 stepsL :=
  (OwnR.row (e := 40) (el := elI9) (fun _ => rfl) (c := 7) (xs := stepsL) (own := [stB b]) (.inr ⟨b, 7, [], rfl, rfl, rfl, by decide⟩)).sub (Sub.left (L := [stB b]) (M := S) (Sub.refl _))
theorem ROf_runs (z : Int) (t : Tg) (I : IMem) (S : SH) : Runs Tryz.prog 32 #[.int .i64 z, vT t] I S fun v _ T => v = .complex .f64 (FloatKind.f64.nearest z) (FloatKind.f64.nearest (rkI t)) ∧ T = S := by
  refine Runs.drop (rank_Of_fn _ _ _ _ _ _ _ _ ?_)
  unfold rank_Of
  intro b3
  have hT : Sub (tgB b3 t :: S) (tgB b3 t :: S) := Sub.refl _
  refine ⟨_, Cell.at0 rfl, (Count_runs _ _ _).mono ?_⟩
  rintro v J T hle ⟨rfl, rfl⟩
  have go : ∀ (x : Int) (J : IMem), x = lenT t → rank_Of_b1 (fun v _ T => ∃ L, Sub L T ∧ v = .complex .f64 (FloatKind.f64.nearest z) (FloatKind.f64.nearest (rkI t)) ∧ L = S) z ⟨b3, 0, none⟩ x J (tgB b3 t :: S) := by
    intro x J hx
    unfold rank_Of_b1
    refine (steps_runs _ _).mono ?_
    rintro v J1 T1 hle1 ⟨b, rfl, rfl⟩
    refine ⟨_, _, _, rfl, ?_⟩
    unfold rank_Of_b2
    refine ⟨fun m z' p x' y yn yc q i J T => z' = z ∧ p = ⟨b3, 0, none⟩ ∧ x' = x ∧ y = some ⟨b, 0, none⟩ ∧ yn = 7 ∧ q = 7 ∧ T = stB b :: tgB b3 t :: S ∧ ∃ k : Nat, i = (k : Int) ∧ k ≤ 7 ∧ m = 7 - k ∧ (∀ j : Nat, j < k → t.1 ≠ (j : Int)),
      7, ⟨rfl, rfl, rfl, rfl, rfl, rfl, rfl, 0, rfl, Nat.zero_le _, rfl, fun j h => by omega⟩, ?_⟩
    rintro m z' p x' y yn yc q i J T - ⟨rfl, rfl, rfl, rfl, rfl, rfl, rfl, k, rfl, hk, rfl, hf⟩
    unfold rank_Of_l3
    refine bcase_dec (fun hg => ?_) (fun hg => ?_)
    · obtain ⟨a', ha, hc⟩ := (steps_row (I := J) (S := tgB b3 t :: S) (b := b)).cell (stepsL_get (k := k) (by omega))
      injection ha with ha
      subst ha
      refine ⟨by omega, by omega, _, (by simpa [Addr.add] using hc 0 _ rfl), _, Cell.tl (Cell.at0 rfl), bcase_beq (fun h => ?_) (fun h => ?_)⟩
      · refine ⟨S, ((Sub.refl S).skip _).skip _, ?_, rfl⟩
        rw [rkI, if_pos (by omega), hx, ← h]
      · exact ⟨7 - (k + 1), by omega, rfl, rfl, rfl, rfl, rfl, rfl, rfl, k + 1, by rw [wrap_i64 (by omega) (by omega)]; rfl, by omega, rfl, fun j hj => by
          by_cases e : j = k
          · subst e; exact fun e => h e.symm
          · exact hf j (by omega)⟩
    · have hke : k = 7 := by omega
      subst hke
      unfold rank_Of_b4
      refine (steps_runs _ _).mono ?_
      rintro v J2 T2 hle2 ⟨b', rfl, rfl⟩
      refine ⟨_, _, _, rfl, S, (((Sub.refl S).skip _).skip _).skip _, ?_, rfl⟩
      have h7 : ¬ (0 ≤ t.1 ∧ t.1 ≤ 6) := by
        rintro ⟨g1, g2⟩
        exact hf t.1.toNat (by omega) (by omega)
      rw [rkI, if_neg h7]; rfl
  refine ⟨_, rfl, _, Cell.at0 rfl, bcase_of (fun h => ⟨_, Cell.at0 rfl, go _ _ ?_⟩) (fun h => go _ _ ?_)⟩
  · rw [lenT, if_pos h]
  · rw [lenT, if_neg (by rw [h]; exact Bool.false_ne_true)]
abbrev fOrd (a b : Nat) : Option Ordering := FloatKind.f64.format.order a b
def btF (a b c d : Nat) : Bool := bif fOrd a c != some .eq then fOrd a c == some .lt else fOrd b d == some .lt
theorem Better_runs (a b c d : Nat) (I : IMem) (S : SH) : Runs Tryz.prog 33 #[.complex .f64 a b, .complex .f64 c d] I S fun v _ T => v = .bool (btF a b c d) ∧ T = S := by
  refine rank_Better_fn _ _ _ _ _ _ _ ?_
  unfold rank_Better btF
  refine bcase_of (fun h => ⟨by rw [h]; rfl, rfl⟩) (fun h => ⟨by rw [h]; rfl, rfl⟩)
/-! ### small numbers -/
theorem read_small : ∀ n : Fin 2048, Ieee.double.read (Ieee.double.nearest false n.val 0) = if n.val = 0 then .number false 0 (-1074) else .number false (n.val <<< (52 - n.val.log2)) (-((52 - n.val.log2 : Nat) : Int)) := by decide +kernel
theorem near_nat (n : Nat) : FloatKind.f64.nearest (n : Int) = Ieee.double.nearest false n 0 := by
  unfold FloatKind.nearest FloatKind.encode Ieee.Format.write
  have h1 : decide ((n : Int) < 0) = false := decide_eq_false (by omega)
  simp only [h1, Int.natAbs_natCast]
  rfl
theorem ord_small {a b : Nat} (ha : a < 2048) (hb : b < 2048) : fOrd (FloatKind.f64.nearest (a : Int)) (FloatKind.f64.nearest (b : Int)) = some (compare (a : Int) (b : Int)) := by
  have ra := read_small ⟨a, ha⟩
  have rb := read_small ⟨b, hb⟩
  dsimp only at ra rb
  show Ieee.Format.order Ieee.double _ _ = _
  unfold Ieee.Format.order
  rw [near_nat, near_nat, ra, rb]
  have key : ∀ (ka kb : Nat) (i j : Int) (m n : Nat), (m = 0 ∧ a = 0 ∨ m = a <<< ka ∧ i = -(ka : Int)) → (n = 0 ∧ b = 0 ∨ n = b <<< kb ∧ j = -(kb : Int)) → (Ieee.Datum.number false m i).order (.number false n j) = some (compare (a : Int) (b : Int)) := by
    intro ka kb i j m n hm hn
    unfold Ieee.Datum.order
    dsimp only
    unfold Ieee.signed
    simp only [Bool.false_eq_true, if_false, Nat.shiftLeft_eq]
    have hpos : (0 : Int) < 2 ^ (-(min i j)).toNat := Int.pow_pos (by decide)
    congr 1
    have cmp : ∀ (x y c : Int), 0 < c → compare (x * c) (y * c) = compare x y := by
      intro x y c hc
      rcases Int.lt_trichotomy x y with h | h | h
      · have : x * c < y * c := Int.mul_lt_mul_of_pos_right h hc
        rw [Int.compare_eq_lt.2 this, Int.compare_eq_lt.2 h]
      · subst h
        rw [Int.compare_eq_eq.2 rfl, Int.compare_eq_eq.2 rfl]
      · have : y * c < x * c := Int.mul_lt_mul_of_pos_right h hc
        rw [Int.compare_eq_gt.2 this, Int.compare_eq_gt.2 h]
    have e : ∀ (m a ka : Nat) (i base : Int), base ≤ i → (m = 0 ∧ a = 0 ∨ m = a <<< ka ∧ i = -(ka : Int)) → ((m * 2 ^ (i - base).toNat : Nat) : Int) = (a : Int) * 2 ^ (-base).toNat := by
      intro m a ka i base hb h
      rcases h with ⟨rfl, rfl⟩ | ⟨rfl, rfl⟩
      · simp
      · have hx : (-base).toNat = ka + (-(ka : Int) - base).toNat := by omega
        rw [hx, Nat.shiftLeft_eq, Nat.mul_assoc, ← Nat.pow_add]
        push_cast
        rfl
    rw [e m a ka i (min i j) (Int.min_le_left i j) hm, e n b kb j (min i j) (Int.min_le_right i j) hn]
    exact cmp _ _ _ hpos
  by_cases h0 : a = 0
  · subst h0
    by_cases h1 : b = 0
    · subst h1
      rw [if_pos rfl]
      exact key 0 0 _ _ 0 0 (.inl ⟨rfl, rfl⟩) (.inl ⟨rfl, rfl⟩)
    · rw [if_pos rfl, if_neg h1]
      exact key 0 (52 - b.log2) _ _ 0 _ (.inl ⟨rfl, rfl⟩) (.inr ⟨rfl, rfl⟩)
  · rw [if_neg h0]
    by_cases h1 : b = 0
    · subst h1
      rw [if_pos rfl]
      exact key (52 - a.log2) 0 _ _ _ 0 (.inr ⟨rfl, rfl⟩) (.inl ⟨rfl, rfl⟩)
    · rw [if_neg h1]
      exact key (52 - a.log2) (52 - b.log2) _ _ _ _ (.inr ⟨rfl, rfl⟩) (.inr ⟨rfl, rfl⟩)
theorem ord_eq {a b : Nat} (ha : a < 2048) (hb : b < 2048) : (fOrd (FloatKind.f64.nearest (a : Int)) (FloatKind.f64.nearest (b : Int)) == some .eq) = decide (a = b) := by
  rw [ord_small ha hb]
  rcases Nat.lt_trichotomy a b with h | h | h
  · rw [Int.compare_eq_lt.2 (by omega), decide_eq_false (by omega)]; rfl
  · rw [Int.compare_eq_eq.2 (by omega), decide_eq_true h]; rfl
  · rw [Int.compare_eq_gt.2 (by omega), decide_eq_false (by omega)]; rfl
theorem ord_lt {a b : Nat} (ha : a < 2048) (hb : b < 2048) : (fOrd (FloatKind.f64.nearest (a : Int)) (FloatKind.f64.nearest (b : Int)) == some .lt) = decide (a < b) := by
  rw [ord_small ha hb]
  rcases Nat.lt_trichotomy a b with h | h | h
  · rw [Int.compare_eq_lt.2 (by omega), decide_eq_true h]; rfl
  · rw [Int.compare_eq_eq.2 (by omega), decide_eq_false (by omega)]; rfl
  · rw [Int.compare_eq_gt.2 (by omega), decide_eq_false (by omega)]; rfl
/-- a trigger whose length is small -/
def SmT (t : Tg) : Prop := 0 ≤ t.1 ∧ t.1 ≤ 6 ∧ 0 ≤ lenT t ∧ lenT t ≤ 255
def rkN (t : Tg) : Nat := (t.1 * 256 + 255 - lenT t).toNat
theorem rkI_nat {t : Tg} (h : SmT t) : rkI t = (rkN t : Int) ∧ rkN t < 2048 := by
  obtain ⟨h1, h2, h3, h4⟩ := h
  unfold rkI rkN
  rw [if_pos ⟨h1, h2⟩, wrap_i64 (x := t.1 * 256) (by omega) (by omega), wrap_i64 (x := t.1 * 256 + 256) (by omega) (by omega), wrap_i64 (x := t.1 * 256 + 256 - 1) (by omega) (by omega), wrap_i64 (by omega) (by omega)]
  omega
/-- does a rank stand ahead of another one? -/
def rkLt (z z' : Nat) (t t' : Tg) : Bool := if z = z' then decide (rkN t < rkN t') else decide (z < z')
theorem bt_small {z z' : Nat} {t t' : Tg} (hz : z < 2048) (hz' : z' < 2048) (h : SmT t) (h' : SmT t') :
    btF (FloatKind.f64.nearest (z : Int)) (FloatKind.f64.nearest (rkI t)) (FloatKind.f64.nearest (z' : Int)) (FloatKind.f64.nearest (rkI t')) = rkLt z z' t t' := by
  obtain ⟨e1, l1⟩ := rkI_nat h
  obtain ⟨e2, l2⟩ := rkI_nat h'
  unfold btF rkLt
  have hne : (fOrd (FloatKind.f64.nearest (z : Int)) (FloatKind.f64.nearest (z' : Int)) != some .eq) = !decide (z = z') := by
    show (!(_ == _)) = _
    rw [ord_eq hz hz']
  rw [hne, e1, e2, ord_lt hz hz', ord_lt l1 l2]
  by_cases e : z = z'
  · rw [decide_eq_true e, if_pos e]; rfl
  · rw [decide_eq_false e, if_neg e]; rfl
theorem eq_small {z z' : Nat} {t t' : Tg} (hz : z < 2048) (hz' : z' < 2048) (h : SmT t) (h' : SmT t') :
    (Op.floatEq .f64 (FloatKind.f64.nearest (z : Int)) (FloatKind.f64.nearest (z' : Int)) && Op.floatEq .f64 (FloatKind.f64.nearest (rkI t)) (FloatKind.f64.nearest (rkI t'))) = decide (z = z' ∧ rkN t = rkN t') := by
  obtain ⟨e1, l1⟩ := rkI_nat h
  obtain ⟨e2, l2⟩ := rkI_nat h'
  have f1 : Op.floatEq .f64 (FloatKind.f64.nearest (z : Int)) (FloatKind.f64.nearest (z' : Int)) = decide (z = z') := ord_eq hz hz'
  have f2 : Op.floatEq .f64 (FloatKind.f64.nearest ((rkN t : Nat) : Int)) (FloatKind.f64.nearest ((rkN t' : Nat) : Int)) = decide (rkN t = rkN t') := ord_eq l1 l2
  rw [e1, e2, f1, f2]
  by_cases g1 : z = z' <;> by_cases g2 : rkN t = rkN t' <;> simp [g1, g2]
end Go.Proofs.YtoiilcdaldnjfaaGreatDoor
/- The policy that wins among all records. -/
namespace Go.Proofs.YtoiilcdaldnjfaaGreatDoor
open Go.Px
set_option linter.unusedVariables false
set_option linter.unusedSimpArgs false

/-! ### triggers that are read are small -/
theorem cnt_le (n : ByteArray) : cntN n ≤ 254 := by
  unfold cntN
  cases h : labN n with
  | none => exact Nat.zero_le _
  | some ls => exact (labs_ok h).1
theorem sm_name {k : Int} {n : ByteArray} (h0 : 0 ≤ k) (h1 : k ≤ 6) : SmT (k, n, ⟨#[]⟩, 0) := by
  have := cnt_le n
  have hl : lenT (k, n, ⟨#[]⟩, 0) = (cntN n : Int) := by
    unfold lenT
    dsimp only
    rw [show ((⟨#[]⟩ : ByteArray).toList == (⟨#[]⟩ : ByteArray).toList) = true from keq.2 rfl]
    rfl
  refine ⟨h0, h1, ?_, ?_⟩ <;> rw [hl] <;> omega
theorem named_sm {ls : List ByteArray} {ex wild : Int} {t : Tg} (he : 0 ≤ ex ∧ ex ≤ 6) (hw : 0 ≤ wild ∧ wild ≤ 6) (h : namedF ls ex wild = some t) : SmT t := by
  unfold namedF at h
  split at h
  · cases h
  · split at h
    · obtain ⟨n, _, rfl⟩ := Option.map_eq_some_iff.1 h; exact sm_name hw.1 hw.2
    · obtain ⟨n, _, rfl⟩ := Option.map_eq_some_iff.1 h; exact sm_name he.1 he.2
theorem kind_sm {w : ByteArray} {k : Int} (h : kindOf w = some k) : 0 ≤ k ∧ k ≤ 6 := by
  unfold kindOf at h
  split at h
  · injection h with h; omega
  · split at h
    · injection h with h; omega
    · split at h
      · injection h with h; omega
      · split at h
        · injection h with h; omega
        · cases h
theorem adr_may {ls : List ByteArray} {p : ByteArray × Int} (h : adrF ls = some p) : mayP p.1 p.2 := by
  unfold adrF at h
  split at h
  · rename_i hx
    injection h with h
    subst h
    exact hx.choose_spec.1
  · cases h
theorem sm_adr {k : Int} {a : ByteArray} {n : Int} (h0 : 0 ≤ k) (h1 : k ≤ 6) (h : mayP a n) : SmT (k, ⟨#[]⟩, a, n) := by
  obtain ⟨⟨h2, h3, h4⟩, _⟩ := h
  have hne : (a.toList == (⟨#[]⟩ : ByteArray).toList) = false := by
    rw [← Bool.not_eq_true, keq]
    rintro rfl
    rcases h2 with h2 | h2 <;> cases h2
  have hl : lenT (k, ⟨#[]⟩, a, n) = n := by
    unfold lenT
    dsimp only
    rw [hne]; rfl
  refine ⟨h0, h1, ?_, ?_⟩ <;> rw [hl]
  · exact h3
  · rcases h2 with h2 | h2 <;> rw [h2] at h4 <;> omega
theorem dec_sm {n : ByteArray} {t : Tg} (h : decF n = some t) : SmT t := by
  unfold decF at h
  split at h
  · cases h
  · unfold decL at h
    split at h
    · cases h
    · split at h
      · exact named_sm (by decide) (by decide) h
      · rename_i k hk
        have hk' := kind_sm hk
        split at h
        · exact named_sm (by decide) (by decide) h
        · obtain ⟨p, hp, rfl⟩ := Option.map_eq_some_iff.1 h
          exact sm_adr hk'.1 hk'.2 (adr_may hp)
/-! ### the best one so far -/
abbrev Vd := Int × Tg × Av
def vd0 : Vd := (0, t0, av0)
abbrev encVd (v : Vd) (p : Option Addr) (n c : Nat) : List Value := [.int .i64 v.1, .int .i64 v.2.1.1, .string v.2.1.2.1, .string v.2.1.2.2.1, .int .i64 v.2.1.2.2.2, .int .i64 v.2.2.k, .string v.2.2.t, .bool v.2.2.w, .slice p n c]
abbrev vVd (v : Vd) (p : Option Addr) (n c : Nat) : Value := .agg #[.int .i64 v.1, .int .i64 v.2.1.1, .string v.2.1.2.1, .string v.2.1.2.2.1, .int .i64 v.2.1.2.2.2, .int .i64 v.2.2.k, .string v.2.2.t, .bool v.2.2.w, .slice p n c]
abbrev vdB (b : Nat) (v : Vd) (p : Option Addr) (n c : Nat) : Nat × Obj := (b, .cells (encVd v p n c).toArray 48 (0, 0))
/-- a trigger in a zone goes ahead of another one -/
def ahead (z z' : Nat) (t t' : Tg) : Bool := if z = z' ∧ rkN t = rkN t' then lessT t t' else rkLt z z' t t'
abbrev Bs := Option (Nat × Tg × Av)
def bsV (s : Bs) : Vd := match s with | none => vd0 | some (z, t, a) => ((z : Int), t, a)
structure BsOK (s : Bs) : Prop where
  ok : ∀ z t a, s = some (z, t, a) → z < 2048 ∧ SmT t
def bet (k : Nat) (t : Tg) (s : Bs) : Bool := match s with | none => true | some (z, t', _) => ahead k z t t'
end Go.Proofs.YtoiilcdaldnjfaaGreatDoor
/- search.Of: the walk. -/
namespace Go.Proofs.YtoiilcdaldnjfaaGreatDoor
open Go.Px
set_option linter.unusedVariables false
set_option linter.unusedSimpArgs false

open Classical in
noncomputable def stepR (f : Fa) (k : Nat) (p : Pl) (st : Bs) (r : Rc) : Bs := match nodeF p r.1 with
  | some (t, a) => if a.k ≠ 1 ∧ matchT t f = true ∧ bet k t st = true then some (k, t, a) else st
  | none => st
def VdR (st : Bs) (S : SH) (v : Value) (T : SH) : Prop := ∃ q n c own, v = .tuple #[vVd (bsV st) q n c, .bool st.isSome] ∧ OwnZ (.slice q n c) (bsV st).2.2.rs own ∧ Sub (own ++ S) T
theorem vdX {I : IMem} {S F : SH} {b : Nat} {v : Vd} {q : Option Addr} {n c : Nat} (hs : Sub (vdB b v q n c :: F) S) : ∀ (j : Nat) (u : Value), (encVd v q n c).toArray[j]? = some u → Cell I S ⟨b, j, none⟩ u := fun j u h => Cell.among hs h
section
variable {b3 b4 b6 b9 : Nat} {f : Fa} {st : Bs} {S T : SH} {I0 J : IMem} {p : Pl} {k : Nat}
end
end Go.Proofs.YtoiilcdaldnjfaaGreatDoor
/- search.Of. -/
namespace Go.Proofs.YtoiilcdaldnjfaaGreatDoor
open Go.Px
set_option linter.unusedVariables false
set_option linter.unusedSimpArgs false

theorem drop_get {α : Type} {xs : List α} {k : Nat} {x : α} (h : xs[k]? = some x) : xs.drop k = x :: xs.drop (k + 1) := by
  have hl := lt_get h
  rw [List.drop_eq_getElem_cons hl]
  rw [List.getElem?_eq_getElem hl] at h
  injection h with h
  rw [h]
section
variable {b3 b4 b6 b9 : Nat} {f : Fa} {st : Bs} {S T : SH} {I0 J : IMem} {p : Pl} {k : Nat}
end
end Go.Proofs.YtoiilcdaldnjfaaGreatDoor
set_option linter.unusedVariables false
set_option maxRecDepth 8000
set_option maxHeartbeats 2000000
namespace Go.Proofs.YtoiilcdaldnjfaaGreatDoor
open Go.Px
def bolterlaw19_Origin (R : RT) (u0 : Int) (I : IMem) (S : SH) : Prop :=
  ∀ b10 : Nat,
  ∃ u1 : ByteArray, BytesAt I ((b10, .cells #[.int .u8 122, .int .u8 (IntKind.wrap .u8 (IntKind.wrap .i64 ((97 : Int) + (u0.tmod (32 : Int)))))] 5 (0, 0)) :: S) (some ⟨b10, 0, none⟩) 2 u1 ∧
  ∀ b12 : Nat,
  Runs Tryz.prog 25 #[.slice (some ⟨b12, 0, none⟩) 1 1] I ((b12, .cells #[.string u1] 9 (0, 0)) :: ((b10, .cells #[.int .u8 122, .int .u8 (IntKind.wrap .u8 (IntKind.wrap .i64 ((97 : Int) + (u0.tmod (32 : Int)))))] 5 (0, 0)) :: S)) fun v I1 S1 => ∃ u2 u3, v = .tuple #[.string u2, .bool u3] ∧
  R (.string u2) I1 S1
theorem bolterlaw19_Origin_fn (R : RT) (u0 : Int) (I : IMem) (S : SH) (h : bolterlaw19_Origin R u0 I S) : Runs Tryz.prog 10 #[.int .i64 u0] I S R := by
  refine Runs.of_wp (c := cd Tryz.f10) Tryz.func10 (by kernel_rfl) (by kernel_rfl) ?_
  exact pS h
end Go.Proofs.YtoiilcdaldnjfaaGreatDoor
/- The document's example of a search. -/
namespace Go.Proofs.YtoiilcdaldnjfaaGreatDoor
open Go.Px
set_option linter.unusedVariables false
set_option linter.unusedSimpArgs false
set_option maxRecDepth 8000

def exL : ByteArray := ⟨#[101, 120]⟩
def rpzL : ByteArray := ⟨#[114, 112, 122]⟩
def exN : ByteArray := ⟨#[2, 101, 120]⟩
def rpzN : ByteArray := ⟨#[3, 114, 112, 122]⟩
def exrN : ByteArray := ⟨#[2, 101, 120, 3, 114, 112, 122]⟩
theorem mkEx : makeN [exL] ByteArray.empty = some exN := by decide +kernel
theorem mkRpz : makeN [rpzL] ByteArray.empty = some rpzN := by decide +kernel
theorem mkExr : makeN [exL, rpzL] ByteArray.empty = some exrN := by decide +kernel
theorem exN_ok : IsName exN := isName_iff.2 (by decide +kernel)
theorem rpzN_ok : IsName rpzN := isName_iff.2 (by decide +kernel)
theorem dec_ex : decF exN = some (1, exN, ⟨#[]⟩, 0) := by
  have h : labN exN = some [exL] := by decide +kernel
  have hk : kindOf exL = none := by decide +kernel
  have hl : decL [exL] = namedF [exL] 1 2 := by
    unfold decL
    rw [show ([exL] : List ByteArray).getLast? = some exL from rfl]
    dsimp only
    rw [hk]
  have hd : decF exN = decL [exL] := by
    unfold decF
    rw [h]
  rw [hd, hl]
  unfold namedF
  dsimp only
  rw [if_neg (by decide +kernel), mkEx]
  rfl
abbrev rcA : Rc := (exrN, 5, 0, ⟨#[]⟩)
abbrev plA (b : Nat) : Pl := ⟨rpzN, (some ⟨b, 0, none⟩, 1, 1), [rcA], true, 0⟩
abbrev faA : Fa := ⟨⟨#[]⟩, exN, (none, 0, 0), (none, 0, 0), (none, 0, 0), [], [], []⟩
theorem node_A (b : Nat) : nodeF (plA b) exrN = some ((1, exN, ⟨#[]⟩, 0), ⟨4, ⟨#[]⟩, false, []⟩) := by
  have e : exrN = exN ++ rpzN := by decide +kernel
  have hs : stripN exrN rpzN = (exN, true) := by
    rw [e]; exact strip_app exN_ok rpzN_ok (by decide)
  have hf : [rcA].filter (ofN exrN) = [rcA] := by
    have : ofN exrN rcA = true := keq.2 rfl
    simp [this]
  have ha : actF [rcA] = some ⟨4, ⟨#[]⟩, false, []⟩ := by
    have ht : tgtF ⟨#[]⟩ = (4, ⟨#[]⟩, false) := if_pos rfl
    unfold actF
    rw [if_neg (by decide +kernel)]
    show (if (5 : Int) = 5 then some (⟨(tgtF ⟨#[]⟩).1, (tgtF ⟨#[]⟩).2.1, (tgtF ⟨#[]⟩).2.2, []⟩ : Av) else _) = _
    rw [if_pos rfl, ht]
  unfold nodeF
  show (if (stripN exrN rpzN).2 = true then _ else none) = _
  rw [hs, if_pos rfl]
  show (match decF exN, actF ([rcA].filter (ofN exrN)) with | some t, some a => some (t, overF a 0) | _, _ => none) = _
  rw [dec_ex, hf, ha]
  rfl
theorem strs_row {I : IMem} {S : SH} {e : TypeId} {b : Nat} (xs : List ByteArray) (h : xs.length ≤ 100) : RowIn I ((b, .cells (xs.flatMap elS).toArray e (0, 0)) :: S) (some ⟨b, 0, none⟩) xs.length 1 elS xs :=
  (OwnR.row (e := e) elS_len (c := xs.length) (own := [(b, .cells (xs.flatMap elS).toArray e (0, 0))]) (.inr ⟨b, xs.length, [], rfl, by rw [List.append_nil], by simp, by simp only [maxLen]; omega⟩)).sub (Sub.left (L := [(b, .cells (xs.flatMap elS).toArray e (0, 0))]) (M := S) (Sub.refl _))
theorem ls_nil {I : IMem} {S : SH} : LsIn I S (none, 0, 0) [] := ⟨⟨rfl, fun i x h => by simp at h⟩, rfl, by decide⟩
theorem encR_row1 {I : IMem} {S : SH} {b : Nat} (r : Rc) : RowIn I ((b, .cells (encR r).toArray 84 (0, 0)) :: S) (some ⟨b, 0, none⟩) 1 4 encR [r] :=
  (OwnR.row (e := 84) encR_len (c := 1) (own := [(b, .cells (encR r).toArray 84 (0, 0))]) (.inr ⟨b, 1, [], rfl, by simp, rfl, by decide⟩)).sub (Sub.left (L := [(b, .cells (encR r).toArray 84 (0, 0))]) (M := S) (Sub.refl _))
end Go.Proofs.YtoiilcdaldnjfaaGreatDoor
/- The trie as plain Lean: words of two signs, trees of them. -/
set_option linter.unusedVariables false
set_option linter.unusedSimpArgs false
namespace Go.Proofs.YtoiilcdaldnjfaaGreatDoor.Tr
open Go.Px

/-! ### words and their bytes -/
def sg (b : Bool) : UInt8 := bif b then 49 else 48
def eb (l : List Bool) : ByteArray := ⟨(l.map sg).toArray⟩
theorem eb_size (l : List Bool) : (eb l).size = l.length := by show (l.map sg).toArray.size = _; simp
theorem eb_get (l : List Bool) (i : Nat) : (eb l)[i]? = (l[i]?).map sg := by
  by_cases h : i < l.length
  · rw [getElem?_pos (eb l) i (by rw [eb_size]; exact h), List.getElem?_eq_getElem h]
    have : (l.map sg).toArray[i]'(by simpa using h) = sg l[i] := by simp
    exact congrArg some this
  · rw [getElem?_neg (eb l) i (by rw [eb_size]; exact h), List.getElem?_eq_none (by omega)]; rfl
theorem eb_extract (l : List Bool) (i j : Nat) : (eb l).extract i j = eb ((l.take j).drop i) := by
  apply ByteArray.ext
  show (eb l |>.extract i j).data = _
  rw [ByteArray.data_extract]
  simp [eb, List.extract_eq_take_drop, List.map_take, List.map_drop, List.drop_take]
theorem eb_append (a b : List Bool) : eb a ++ eb b = eb (a ++ b) := by
  apply ByteArray.ext
  rw [ByteArray.data_append]
  simp [eb]
def signs (s : ByteArray) : Prop := ∀ (i : Nat) (c : UInt8), s[i]? = some c → c = 48 ∨ c = 49
theorem eb_signs (l : List Bool) : signs (eb l) := by
  intro i c h
  rw [eb_get] at h
  cases hl : l[i]? with
  | none => rw [hl] at h; cases h
  | some b => rw [hl] at h; injection h with h; subst h; cases b <;> simp [sg]
/-! ### what two words have alike -/
def lcp : List Bool → List Bool → Nat
  | a :: aa, b :: bs => if a = b then lcp aa bs + 1 else 0
  | _, _ => 0
theorem lcp_le : ∀ a b : List Bool, lcp a b ≤ a.length ∧ lcp a b ≤ b.length
  | [], b => by simp [lcp]
  | a :: aa, [] => by simp [lcp]
  | a :: aa, b :: bs => by
    have := lcp_le aa bs
    simp only [lcp, List.length_cons]; split <;> omega
theorem lcp_take : ∀ a b : List Bool, a.take (lcp a b) = b.take (lcp a b)
  | [], b => by simp [lcp]
  | a :: aa, [] => by simp [lcp]
  | a :: aa, b :: bs => by
    have := lcp_take aa bs
    simp only [lcp]; split
    · rename_i h; subst h; simp [this]
    · simp
theorem lcp_ne : ∀ (a b : List Bool) (x y : Bool), a[lcp a b]? = some x → b[lcp a b]? = some y → x ≠ y
  | [], b, x, y, h, _ => by simp at h
  | a :: aa, [], x, y, _, h => by simp at h
  | a :: aa, b :: bs, x, y, h, g => by
    simp only [lcp] at h g
    split at h
    · rename_i e
      rw [if_pos e] at g
      exact lcp_ne aa bs x y (by simpa using h) (by simpa using g)
    · rename_i e
      rw [if_neg e] at g
      simp at h g
      subst h; subst g; exact e
theorem lcp_full {a b : List Bool} (h : ¬ lcp a b < a.length) : b = a ++ b.drop a.length := by
  have h1 := (lcp_le a b).1
  have : lcp a b = a.length := by omega
  have h2 := lcp_take a b
  rw [this, List.take_length] at h2
  have h3 := List.take_append_drop a.length b
  rw [← h2] at h3; exact h3.symm
theorem lcp_append (a r : List Bool) : lcp a (a ++ r) = a.length := by
  induction a with
  | nil => simp [lcp]
  | cons x a ih => simp [lcp, ih]
/-! ### trees -/
inductive Sh where
  | nil : Sh
  | node : List Bool → Option Int → Sh → Sh → Sh
def Sh.find : Sh → List Bool → Option Int
  | .nil, _ => none
  | .node bits v l r, k => if lcp bits k < bits.length then none else match k.drop bits.length with
    | [] => v
    | b :: rest => bif b then r.find (b :: rest) else l.find (b :: rest)
def Sh.cnt : Sh → Nat
  | .nil => 0
  | .node _ v l r => (if v.isSome then 1 else 0) + l.cnt + r.cnt
def Sh.isNil : Sh → Bool
  | .nil => true
  | _ => false
def Sh.starts (b : Bool) : Sh → Prop
  | .nil => True
  | .node bits _ _ _ => bits.head? = some b
def Sh.wf : Sh → Prop
  | .nil => True
  | .node _ v l r => l.starts false ∧ r.starts true ∧ (v.isSome = true ∨ (l.isNil = false ∧ r.isNil = false)) ∧ l.wf ∧ r.wf
def Sh.sub (bits : List Bool) (v : Option Int) (b : Bool) (t u : Sh) : Sh := bif b then .node bits v u t else .node bits v t u
def Sh.put : Sh → List Bool → Int → Sh
  | .nil, k, v => .node k (some v) .nil .nil
  | .node bits w l r, k, v =>
    if lcp bits k < bits.length then
      (let n := Sh.node (bits.drop (lcp bits k)) w l r
       let part : Bool → Option Int → Sh → Sh := fun b x u => Sh.sub (bits.take (lcp bits k)) x b n u
       match bits[lcp bits k]?, k.drop (lcp bits k) with
       | some b, [] => part b (some v) .nil
       | some b, c :: rest => part b none (.node (c :: rest) (some v) .nil .nil)
       | none, _ => .nil)
    else match k.drop bits.length with
      | [] => .node bits (some v) l r
      | b :: rest => bif b then .node bits w l (r.put (b :: rest) v) else .node bits w (l.put (b :: rest) v) r
theorem Sh.find_lt {bits : List Bool} {v : Option Int} {l r : Sh} {k : List Bool} (h : lcp bits k < bits.length) : (Sh.node bits v l r).find k = none := by simp [Sh.find, h]
theorem Sh.find_app {bits : List Bool} {v : Option Int} {l r : Sh} (k : List Bool) : (Sh.node bits v l r).find (bits ++ k) = match k with
    | [] => v
    | b :: rest => bif b then r.find (b :: rest) else l.find (b :: rest) := by
  simp only [Sh.find, lcp_append, Nat.lt_irrefl, if_false, List.drop_left']
theorem Sh.starts_find {b : Bool} {t : Sh} (h : t.starts b) {k : List Bool} (hk : k.head? ≠ some b) : t.find k = none := by
  cases t with
  | nil => rfl
  | node bits v l r =>
    cases bits with
    | nil => cases h
    | cons x bits =>
      simp [Sh.starts] at h; subst h
      refine Sh.find_lt ?_
      cases k with
      | nil => simp [lcp]
      | cons y k => simp at hk; simp only [lcp, if_neg (fun e : x = y => hk e.symm)]; simp
/-- a word is what a node's bits begin, or it parts from them -/
theorem pre_cases (bits k : List Bool) : lcp bits k < bits.length ∨ ∃ rest, k = bits ++ rest := by
  by_cases h : lcp bits k < bits.length
  · exact .inl h
  · exact .inr ⟨_, lcp_full h⟩

theorem lcp_shift (p a b : List Bool) : lcp (p ++ a) (p ++ b) = p.length + lcp a b := by
  induction p with
  | nil => simp
  | cons x p ih => simp [lcp, ih]; omega
theorem Sh.find_shift (p q : List Bool) (w : Option Int) (l r : Sh) (k : List Bool) : (Sh.node (p ++ q) w l r).find (p ++ k) = (Sh.node q w l r).find k := by
  simp only [Sh.find, lcp_shift, List.length_append]
  rw [show (p ++ k).drop (p.length + q.length) = k.drop q.length by rw [List.drop_append, List.drop_eq_nil_of_le (by omega)]; simp]
  by_cases h : lcp q k < q.length
  · rw [if_pos h, if_pos (by omega)]
  · rw [if_neg h, if_neg (by omega)]
/-- a node cut in two -/
theorem Sh.sub_find (p : List Bool) (b : Bool) (x : Option Int) (n u : Sh) (rest : List Bool) :
    (Sh.sub p x b n u).find (p ++ rest) = match rest with | [] => x | c :: rest' => if c = b then n.find (c :: rest') else u.find (c :: rest') := by
  cases b <;> simp only [Sh.sub, cond_true, cond_false, Sh.find_app] <;> cases rest with
  | nil => rfl
  | cons c rest => cases c <;> rfl
theorem Sh.sub_find_lt {p : List Bool} {b : Bool} {x : Option Int} {n u : Sh} {k : List Bool} (h : lcp p k < p.length) : (Sh.sub p x b n u).find k = none := by
  cases b <;> exact Sh.find_lt h
theorem Sh.find_cut {b : Bool} {e : List Bool} {w : Option Int} {l r : Sh} {k : List Bool} (h : k.head? ≠ some b) : (Sh.node (b :: e) w l r).find k = none := by
  refine Sh.find_lt ?_
  cases k with
  | nil => simp [lcp]
  | cons y k => simp at h; simp only [lcp, if_neg (fun e : b = y => h e.symm)]; simp
theorem lcp_lt_app {p q k : List Bool} (h : lcp p k < p.length) : lcp (p ++ q) k < (p ++ q).length := by
  rcases pre_cases (p ++ q) k with g | ⟨r', rfl⟩
  · exact g
  · rw [List.append_assoc, lcp_append] at h; omega

theorem Sh.put_nil_find (k : List Bool) (v : Int) (k' : List Bool) : (Sh.nil.put k v).find k' = if k' = k then some v else none := by
  simp only [Sh.put]
  rcases pre_cases k k' with h | ⟨rest, rfl⟩
  · rw [Sh.find_lt h, if_neg]
    rintro rfl
    have := lcp_append k' []; simp at this; omega
  · rw [Sh.find_app]
    cases rest with
    | nil => simp
    | cons b rest => rw [if_neg (by simp)]; cases b <;> rfl
theorem Sh.put_find : ∀ (t : Sh) (k : List Bool) (v : Int) (k' : List Bool), t.wf → (t.put k v).find k' = if k' = k then some v else t.find k'
  | .nil, k, v, k', _ => Sh.put_nil_find k v k'
  | .node bits w l r, k, v, k', hw => by
    obtain ⟨h1, h2, _, h4, h5⟩ := hw
    rw [Sh.put]
    split
    · rename_i hlt
      obtain ⟨b, hb⟩ : ∃ b, bits[lcp bits k]? = some b := ⟨_, List.getElem?_eq_getElem hlt⟩
      obtain ⟨e, hbe⟩ : ∃ e, bits.drop (lcp bits k) = b :: e := by
        have h := List.drop_eq_getElem_cons hlt
        rw [List.getElem?_eq_getElem hlt] at hb
        injection hb with hb
        exact ⟨_, hb ▸ h⟩
      have hn := lcp_ne bits k b
      have hk := lcp_take bits k
      have hbits : bits = bits.take (lcp bits k) ++ b :: e := by rw [← hbe, List.take_append_drop]
      have hkk : k = bits.take (lcp bits k) ++ k.drop (lcp bits k) := by rw [hk, List.take_append_drop]
      have hn' : ∀ c rest, k.drop (lcp bits k) = c :: rest → c ≠ b := fun c rest h e => hn c hb (by rw [← List.head?_drop, h]; rfl) e.symm
      rw [hb, hbe]
      generalize k.drop (lcp bits k) = ks at *
      generalize bits.take (lcp bits k) = p at *
      subst hkk
      have hold : ∀ rest, (Sh.node bits w l r).find (p ++ rest) = (Sh.node (b :: e) w l r).find rest := fun rest => by rw [hbits, Sh.find_shift]
      have hout : lcp p k' < p.length → ∀ (x : Option Int) (u : Sh), (Sh.sub p x b (.node (b :: e) w l r) u).find k' = if k' = p ++ ks then some v else (Sh.node bits w l r).find k' := by
        intro h x u
        rw [Sh.sub_find_lt h, hbits, Sh.find_lt (lcp_lt_app h), if_neg]
        rintro rfl
        rw [lcp_append] at h; omega
      rcases pre_cases p k' with h | ⟨rest, rfl⟩
      · cases ks <;> exact hout h _ _
      · rw [hold]
        cases ks with
        | nil =>
          dsimp only
          rw [Sh.sub_find]
          simp only [List.append_cancel_left_eq]
          cases rest with
          | nil => rfl
          | cons c rest =>
            dsimp only
            rw [if_neg (List.cons_ne_nil c rest)]
            by_cases hc : c = b
            · rw [if_pos hc]
            · rw [if_neg hc, Sh.find_cut (k := c :: rest) (by simpa using hc)]; rfl
        | cons c ks =>
          have hcb := hn' c ks rfl
          dsimp only
          rw [Sh.sub_find]
          simp only [List.append_cancel_left_eq]
          cases rest with
          | nil => rw [if_neg (by simp), Sh.find_cut (by simp)]
          | cons d rest =>
            dsimp only
            by_cases hd : d = b
            · rw [if_pos hd, if_neg (by subst hd; simp; intro h; exact absurd h.symm hcb)]
            · rw [if_neg hd, Sh.find_cut (b := b) (e := e) (k := d :: rest) (by simpa using hd)]
              exact Sh.put_nil_find (c :: ks) v (d :: rest)
    · rename_i hge
      have hk := lcp_full hge
      generalize k.drop bits.length = rest at *
      subst hk
      have hother : ∀ (x y : Sh) (u : Option Int), lcp bits k' < bits.length → (Sh.node bits u x y).find k' = if k' = bits ++ rest then some v else (Sh.node bits w l r).find k' := by
        intro x y u h
        rw [Sh.find_lt h, Sh.find_lt h, if_neg]
        rintro rfl
        rw [lcp_append] at h; omega
      cases rest with
      | nil =>
        dsimp only
        rcases pre_cases bits k' with h | ⟨rest', rfl⟩
        · exact hother _ _ _ h
        · rw [Sh.find_app, Sh.find_app]
          cases rest' with
          | nil => simp
          | cons c rest' => simp
      | cons b rest =>
        dsimp only
        rcases pre_cases bits k' with h | ⟨rest', rfl⟩
        · cases b <;> exact hother _ _ _ h
        · cases b <;> simp only [cond_true, cond_false] <;> rw [Sh.find_app, Sh.find_app] <;> cases rest' with
          | nil => simp
          | cons c rest' =>
            simp only [List.append_cancel_left_eq]
            cases c <;> simp only [cond_true, cond_false, Sh.put_find _ _ _ _ h4, Sh.put_find _ _ _ _ h5] <;> first | rfl | (rw [if_neg (by simp)])
theorem Sh.put_starts {b : Bool} {t : Sh} {k : List Bool} {v : Int} (ht : t.starts b) (hk : k.head? = some b) : (t.put k v).starts b := by
  cases t with
  | nil => exact hk
  | node bits w l r =>
    cases bits with
    | nil => cases ht
    | cons x bits =>
      simp [Sh.starts] at ht; subst ht
      cases k with
      | nil => cases hk
      | cons y k =>
        simp at hk; subst hk
        rw [Sh.put]
        split
        · simp only [lcp, if_true, List.take_succ_cons, List.drop_succ_cons, List.getElem?_cons_succ]
          split
          · rename_i b' _ _; cases b' <;> rfl
          · rename_i b' _ _ _ _; cases b' <;> rfl
          · trivial
        · split
          · rfl
          · rename_i b' _ _; cases b' <;> rfl
theorem Sh.put_nonnil {t : Sh} {k : List Bool} {v : Int} : (t.put k v).isNil = false := by
  cases t with
  | nil => rfl
  | node bits w l r =>
    rw [Sh.put]
    split
    · rename_i h
      rw [List.getElem?_eq_getElem h]
      split
      · rename_i b' _ _; cases b' <;> rfl
      · rename_i b' _ _ _ _; cases b' <;> rfl
      · rename_i h; cases h
    · split
      · rfl
      · rename_i b' _ _; cases b' <;> rfl
theorem Sh.sub_wf {p : List Bool} {x : Option Int} {b : Bool} {n u : Sh} (hn : n.starts b) (hu : u.starts (!b)) (h : x.isSome = true ∨ (n.isNil = false ∧ u.isNil = false)) (h1 : n.wf) (h2 : u.wf) : (Sh.sub p x b n u).wf := by
  cases b
  · exact ⟨hn, hu, h, h1, h2⟩
  · exact ⟨hu, hn, h.imp id And.symm, h2, h1⟩
theorem Sh.put_wf : ∀ (t : Sh) (k : List Bool) (v : Int), t.wf → (t.put k v).wf
  | .nil, k, v, _ => ⟨trivial, trivial, .inl rfl, trivial, trivial⟩
  | .node bits w l r, k, v, hw => by
    obtain ⟨h1, h2, h3, h4, h5⟩ := hw
    rw [Sh.put]
    split
    · rename_i hlt
      have hb : bits[lcp bits k]? = some bits[lcp bits k] := List.getElem?_eq_getElem hlt
      have hs : (Sh.node (bits.drop (lcp bits k)) w l r).starts bits[lcp bits k] := by
        show (bits.drop (lcp bits k)).head? = _
        rw [List.head?_drop, hb]
      have hw : (Sh.node (bits.drop (lcp bits k)) w l r).wf := ⟨h1, h2, h3, h4, h5⟩
      rw [hb]
      cases hk : k.drop (lcp bits k) with
      | nil => exact Sh.sub_wf hs trivial (.inl rfl) hw trivial
      | cons c ks =>
        have hc := lcp_ne bits k _ c hb (by rw [← List.head?_drop, hk]; rfl)
        refine Sh.sub_wf hs ?_ (.inr ⟨rfl, rfl⟩) hw ⟨trivial, trivial, .inl rfl, trivial, trivial⟩
        show some c = some _
        revert hc
        cases bits[lcp bits k] <;> cases c <;> simp
    · split
      · exact ⟨h1, h2, .inl rfl, h4, h5⟩
      · rename_i b rest _
        cases b
        · exact ⟨Sh.put_starts h1 rfl, h2, h3.imp id (fun h => ⟨Sh.put_nonnil, h.2⟩), Sh.put_wf l _ v h4, h5⟩
        · exact ⟨h1, Sh.put_starts h2 rfl, h3.imp id (fun h => ⟨h.1, Sh.put_nonnil⟩), h4, Sh.put_wf r _ v h5⟩
theorem Sh.sub_cnt (p : List Bool) (x : Option Int) (b : Bool) (n u : Sh) : (Sh.sub p x b n u).cnt = (if x.isSome then 1 else 0) + n.cnt + u.cnt := by
  cases b <;> simp [Sh.sub, Sh.cnt]; omega
theorem Sh.put_cnt : ∀ (t : Sh) (k : List Bool) (v : Int), t.wf → (t.put k v).cnt = t.cnt + if (t.find k).isSome then 0 else 1
  | .nil, k, v, _ => by simp [Sh.put, Sh.cnt, Sh.find]
  | .node bits w l r, k, v, hw => by
    obtain ⟨h1, h2, h3, h4, h5⟩ := hw
    rw [Sh.put, Sh.find]
    split
    · rename_i hlt
      rw [List.getElem?_eq_getElem hlt]
      cases hk : k.drop (lcp bits k) with
      | nil => simp [Sh.sub_cnt, Sh.cnt]; omega
      | cons c ks => simp [Sh.sub_cnt, Sh.cnt]
    · split
      · cases w <;> simp [Sh.cnt]; omega
      · rename_i b rest _
        have e1 := Sh.put_cnt l (b :: rest) v h4
        have e2 := Sh.put_cnt r (b :: rest) v h5
        cases b <;> simp only [cond_true, cond_false, Sh.cnt] <;> omega
/-! ### the longest -/
structure IsL (f : List Bool → Option Int) (k : List Bool) (res : Option (Int × Nat)) : Prop where
  no : res = none → ∀ n, n ≤ k.length → f (k.take n) = none
  yes : ∀ v n, res = some (v, n) → n ≤ k.length ∧ f (k.take n) = some v ∧ ∀ m, n < m → m ≤ k.length → f (k.take m) = none
def bestOf (v : Option Int) (n : Nat) (best : Option (Int × Nat)) : Option (Int × Nat) := match v with | some x => some (x, n) | none => best
def Sh.walk : Sh → List Bool → Nat → Option (Int × Nat) → Option (Int × Nat)
  | .nil, _, _, best => best
  | .node bits v l r, k, deep, best => if lcp bits k < bits.length then best else
    let best' := bestOf v (deep + bits.length) best
    match k.drop bits.length with
    | [] => best'
    | b :: rest => bif b then r.walk (b :: rest) (deep + bits.length) best' else l.walk (b :: rest) (deep + bits.length) best'
theorem Sh.walk_node (bits : List Bool) (v : Option Int) (l r : Sh) (k : List Bool) (deep : Nat) (best : Option (Int × Nat)) : (Sh.node bits v l r).walk k deep best = if lcp bits k < bits.length then best else
    match k.drop bits.length with
    | [] => (bestOf v (deep + bits.length) best)
    | b :: rest => bif b then r.walk (b :: rest) (deep + bits.length) (bestOf v (deep + bits.length) best) else l.walk (b :: rest) (deep + bits.length) (bestOf v (deep + bits.length) best) := rfl
def WalkSpec (t : Sh) (k : List Bool) (deep : Nat) (best res : Option (Int × Nat)) : Prop :=
    (res = best ∧ ∀ n, n ≤ k.length → t.find (k.take n) = none) ∨ (∃ v n, res = some (v, deep + n) ∧ n ≤ k.length ∧ t.find (k.take n) = some v ∧ ∀ m, n < m → m ≤ k.length → t.find (k.take m) = none)
theorem Sh.walk_spec : ∀ (t : Sh) (k : List Bool) (deep : Nat) (best : Option (Int × Nat)), t.wf → WalkSpec t k deep best (t.walk k deep best)
  | .nil, k, deep, best, _ => .inl ⟨rfl, fun _ _ => rfl⟩
  | .node bits v l r, k, deep, best, hw => by
    obtain ⟨h1, h2, _, h4, h5⟩ := hw
    rw [Sh.walk_node]
    split
    · rename_i hlt
      refine .inl ⟨rfl, fun n _ => Sh.find_lt ?_⟩
      rcases pre_cases bits (k.take n) with h | ⟨rest, h⟩
      · exact h
      · have := List.take_append_drop n k
        rw [h, List.append_assoc] at this
        rw [← this, lcp_append] at hlt; omega
    · rename_i hge
      have hk := lcp_full hge
      generalize hrest : k.drop bits.length = rest at *
      subst hk
      have short : ∀ n, n < bits.length → (Sh.node bits v l r).find ((bits ++ rest).take n) = none := fun n hn => Sh.find_lt (Nat.lt_of_le_of_lt (lcp_le _ _).2 (by rw [List.length_take]; omega))
      have at_ : ∀ n, (Sh.node bits v l r).find ((bits ++ rest).take (bits.length + n)) = match rest.take n with | [] => v | b :: rest => bif b then r.find (b :: rest) else l.find (b :: rest) := fun n => by
        rw [List.take_length_add_append, Sh.find_app]
      cases rest with
      | nil =>
        dsimp only
        have h0 := at_ 0
        cases v with
        | none => exact .inl ⟨rfl, fun n hn => by
            rcases Nat.lt_or_ge n bits.length with h | h
            · exact short n h
            · have : n = bits.length + 0 := by simp at hn; omega
              rw [this, h0]; rfl⟩
        | some x => exact .inr ⟨x, bits.length, rfl, by simp, by simpa using h0, fun m h1 h2 => by simp at h2; omega⟩
      | cons b rest =>
        dsimp only
        have h0 : (Sh.node bits v l r).find ((bits ++ b :: rest).take bits.length) = v := by simpa using at_ 0
        -- the kid that is walked on
        have key : ∀ (u : Sh) (res : Option (Int × Nat)), WalkSpec u (b :: rest) (deep + bits.length) (bestOf v (deep + bits.length) best) res →
            (∀ n, (Sh.node bits v l r).find ((bits ++ b :: rest).take (bits.length + n)) = if n = 0 then v else u.find ((b :: rest).take n)) → u.find [] = none → WalkSpec (.node bits v l r) (bits ++ b :: rest) deep best res := by
          intro u res hu hat hu0
          rcases hu with ⟨e, hn⟩ | ⟨x, n, e, hle, hf, hm⟩
          · have hno : ∀ n, bits.length < n → n ≤ (bits ++ b :: rest).length → (Sh.node bits v l r).find ((bits ++ b :: rest).take n) = none := fun n h1 h2 => by
              rw [List.length_append] at h2
              rw [show n = bits.length + (n - bits.length) by omega, hat, if_neg (by omega), hn _ (by omega)]
            cases v with
            | none => exact .inl ⟨e, fun n hn => by
                rcases Nat.lt_trichotomy n bits.length with h | h | h
                · exact short n h
                · rw [h, h0]
                · exact hno n h hn⟩
            | some x => exact .inr ⟨x, bits.length, e, by simp, h0, hno⟩
          · have hn0 : n ≠ 0 := fun h => by rw [h, List.take_zero, hu0] at hf; cases hf
            refine .inr ⟨x, bits.length + n, by rw [e, Nat.add_assoc], by rw [List.length_append]; omega, by rw [hat, if_neg hn0, hf], fun m h1 h2 => ?_⟩
            rw [List.length_append] at h2
            rw [show m = bits.length + (m - bits.length) by omega, hat, if_neg (by omega), hm _ (by omega) (by omega)]
        cases b
        · exact key l _ (Sh.walk_spec l _ _ _ h4) (fun n => by rw [at_]; cases n <;> rfl) (Sh.starts_find h1 (by simp))
        · exact key r _ (Sh.walk_spec r _ _ _ h5) (fun n => by rw [at_]; cases n <;> rfl) (Sh.starts_find h2 (by simp))
end Go.Proofs.YtoiilcdaldnjfaaGreatDoor.Tr
/- A prefix's bits: prefix.Key. -/
namespace Go.Proofs.YtoiilcdaldnjfaaGreatDoor
open Go.Px
set_option linter.unusedVariables false
set_option linter.unusedSimpArgs false
set_option maxRecDepth 8000

def bitU (b : UInt8) (t : Nat) : Bool := b.toNat.testBit t
def bitL (l : List UInt8) (i : Nat) : Bool := ((l[i / 8]?).map fun c => bitU c (7 - i % 8)).getD false
def bitB (a : ByteArray) (i : Nat) : Bool := bitL a.data.toList i
def bitsL (a : ByteArray) (n : Nat) : List Bool := (List.range n).map (bitB a)
theorem bitsL_len (a : ByteArray) (n : Nat) : (bitsL a n).length = n := by simp [bitsL]
theorem bitsL_get (a : ByteArray) {n i : Nat} (h : i < n) : (bitsL a n)[i]? = some (bitB a i) := by
  unfold bitsL
  rw [List.getElem?_map, List.getElem?_range h]; rfl
theorem bcl_bit : ∀ (t s : Fin 8) (b : Fin 256), (bcl (UInt8.ofNat b.val) t.val).toNat.testBit s.val = (if s.val = t.val then false else b.val.testBit s.val) := by decide +kernel
theorem bitU_bcl (b : UInt8) {t s : Nat} (ht : t < 8) (hs : s < 8) : bitU (bcl b t) s = if s = t then false else bitU b s := by
  have := bcl_bit ⟨t, ht⟩ ⟨s, hs⟩ ⟨b.toNat, b.toNat_lt⟩
  unfold bitU
  rw [show UInt8.ofNat (⟨b.toNat, b.toNat_lt⟩ : Fin 256).val = b by simp] at this
  exact this
theorem bitL_clr (l : List UInt8) (k i : Nat) : bitL (clr l k) i = if i = k then false else bitL l i := by
  unfold bitL clr
  rw [List.getElem?_modify]
  cases h : l[i / 8]? with
  | none => simp
  | some b =>
    simp only [Option.map_eq_map, Option.map_some, Option.getD_some]
    by_cases h1 : k / 8 = i / 8
    · rw [if_pos h1, bitU_bcl b (by omega) (by omega)]
      by_cases h2 : i = k
      · rw [if_pos h2, if_pos (by omega)]
      · rw [if_neg h2, if_neg (by omega)]
    · rw [if_neg h1, if_neg (fun e => h1 (by rw [e]))]
theorem bitL_cutF : ∀ (f k : Nat) (l : List UInt8) (i : Nat), bitL (cutF f k l) i = if k ≤ i ∧ i < k + f then false else bitL l i
  | 0, k, l, i => by rw [cutF, if_neg (by omega)]
  | f + 1, k, l, i => by
    rw [cutF, bitL_cutF f (k + 1), bitL_clr]
    by_cases h : i = k
    · rw [if_neg (by omega), if_pos h, if_pos (by omega)]
    · by_cases h2 : k + 1 ≤ i ∧ i < k + 1 + f
      · rw [if_pos h2, if_pos (by omega)]
      · rw [if_neg h2, if_neg h, if_neg (by omega)]
theorem bitL_out {l : List UInt8} {i : Nat} (h : 8 * l.length ≤ i) : bitL l i = false := by
  unfold bitL
  rw [List.getElem?_eq_none (by omega)]; rfl
theorem bitB_cut (a : ByteArray) (n i : Nat) : bitB (cutB a n) i = (decide (i < n) && bitB a i) := by
  show bitL (cutL a.data.toList n) i = _
  rw [cutL, bitL_cutF]
  by_cases h : i < n
  · rw [if_neg (by omega), decide_eq_true h]; rfl
  · rw [decide_eq_false h]
    by_cases h2 : i < 8 * a.data.toList.length
    · rw [if_pos (by omega)]; rfl
    · rw [if_neg (by omega), bitL_out (by omega)]; rfl
theorem bitU_ext {b c : UInt8} (h : ∀ t, t < 8 → bitU b t = bitU c t) : b = c := by
  apply UInt8.toNat_inj.1
  apply Nat.eq_of_testBit_eq
  intro i
  by_cases hi : i < 8
  · exact h i hi
  · have lt : ∀ u : UInt8, u.toNat.testBit i = false := fun u => Nat.testBit_lt_two_pow (Nat.lt_of_lt_of_le u.toNat_lt (Nat.pow_le_pow_right (by decide) (by omega) : 2 ^ 8 ≤ 2 ^ i))
    rw [lt, lt]
theorem bitB_ext {a b : ByteArray} (hs : a.size = b.size) (h : ∀ i, i < 8 * a.size → bitB a i = bitB b i) : a = b := by
  apply ext_list
  apply List.ext_getElem?
  intro k
  have hl : a.data.toList.length = a.size := Array.length_toList
  have hl2 : b.data.toList.length = b.size := Array.length_toList
  by_cases hk : k < a.size
  · rw [List.getElem?_eq_getElem (by omega), List.getElem?_eq_getElem (by omega)]
    congr 1
    apply bitU_ext
    intro t ht
    have := h (8 * k + (7 - t)) (by omega)
    unfold bitB bitL at this
    rw [show (8 * k + (7 - t)) / 8 = k by omega, show 7 - (8 * k + (7 - t)) % 8 = t by omega, List.getElem?_eq_getElem (by omega), List.getElem?_eq_getElem (by omega)] at this
    exact this
  · rw [List.getElem?_eq_none (by omega), List.getElem?_eq_none (by omega)]
/-- a prefix is told by its size and bits -/
theorem may_inj {a b : ByteArray} {n : Nat} (ha : cutB a n = a) (hb : cutB b n = b) (hs : a.size = b.size) (h : bitsL a n = bitsL b n) : a = b := by
  refine bitB_ext hs fun i _ => ?_
  rw [← ha, ← hb, bitB_cut, bitB_cut]
  by_cases hi : i < n
  · have h1 := bitsL_get a hi
    rw [h, bitsL_get b hi] at h1
    rw [Option.some.inj h1]
  · rw [decide_eq_false hi]; rfl
/-- the first bits of an address are a prefix's -/
theorem cut_iff {a p : ByteArray} {n : Nat} (hp : cutB p n = p) (hs : p.size = a.size) (hn : n ≤ 8 * a.size) : cutB a n = p ↔ (bitsL a (8 * a.size)).take n = bitsL p n := by
  have ht : (bitsL a (8 * a.size)).take n = bitsL a n := by
    unfold bitsL
    rw [← List.map_take, List.take_range, Nat.min_eq_left hn]
  rw [ht]
  constructor
  · rintro rfl
    unfold bitsL
    apply List.map_congr_left
    intro i hi
    rw [bitB_cut, decide_eq_true (List.mem_range.1 hi)]; rfl
  · intro h
    refine may_inj (n := n) (cutB_idem a n) hp (by rw [cutB_size, hs]) ?_
    rw [← h]
    unfold bitsL
    apply List.map_congr_left
    intro i hi
    rw [bitB_cut, decide_eq_true (List.mem_range.1 hi)]; rfl
/-! ### what the code says -/
theorem bit_iand : ∀ (t : Fin 8) (b : Fin 256), iand .u8 ((b.val : Int).fdiv (2 ^ (min t.val 8))) 1 = if b.val.testBit t.val then 1 else 0 := by decide +kernel
theorem Bit_runs {a : ByteArray} {i : Nat} (h : i < 8 * a.size) (hl : a.size ≤ 16) (I : IMem) (S : SH) : Runs Tryz.prog 110 #[.string a, .int .i64 (i : Int)] I S fun v _ T => v = .int .u8 (if bitB a i then 1 else 0) ∧ T = S := by
  refine prefix_bit_fn _ _ _ _ _ ?_
  unfold prefix_bit
  have e1 : IntKind.wrap .i64 ((i : Int).tdiv 8) = ((i / 8 : Nat) : Int) := by
    rw [Int.tdiv_eq_ediv_of_nonneg (by omega), wrap_i64 (by omega) (by omega)]; omega
  have e2 : IntKind.wrap .i64 ((7 : Int) - (i : Int).tmod 8) = ((7 - i % 8 : Nat) : Int) := by
    rw [Int.tmod_eq_emod_of_nonneg (by omega), wrap_i64 (by omega) (by omega)]; omega
  rw [e1, e2]
  obtain ⟨c, hc⟩ := at_ok (s := a) (k := i / 8) (by omega)
  refine ⟨c, by omega, by rw [Int.toNat_natCast]; exact hc, bcase_f (decide_eq_false (by omega)) ?_⟩
  have hb : bitB a i = bitU c (7 - i % 8) := by
    unfold bitB bitL
    have : a.data.toList[i / 8]? = some c := by
      rw [Array.getElem?_toList]; exact hc
    rw [this]; rfl
  have := bit_iand ⟨7 - i % 8, by omega⟩ ⟨c.toNat, c.toNat_lt⟩
  rw [Int.toNat_natCast, hb]
  exact ⟨by rw [show IntKind.bits .u8 = 8 from rfl]; exact congrArg _ this, rfl⟩
end Go.Proofs.YtoiilcdaldnjfaaGreatDoor
/- prefix.Key: a prefix's word. -/
namespace Go.Proofs.YtoiilcdaldnjfaaGreatDoor
open Go.Px
set_option linter.unusedVariables false
set_option linter.unusedSimpArgs false
set_option maxRecDepth 8000

theorem eb_snoc (l : List Bool) (b : Bool) : (Tr.eb l).push (Tr.sg b) = Tr.eb (l ++ [b]) := by
  apply ext_list
  show ((Tr.eb l).data.push (Tr.sg b)).toList = _
  simp [Tr.eb]
theorem Key_runs {a : ByteArray} {n : Int} (h : mayP a n) (I : IMem) (S : SH) : Runs Tryz.prog 84 #[.agg #[.string a, .int .i64 n]] I S fun v _ T => v = .string (Tr.eb (bitsL a n.toNat)) ∧ Sub S T := by
  refine prefix_Key_fn _ _ _ _ _ ?_
  unfold prefix_Key
  intro b1
  obtain ⟨⟨hsz, h0, hn⟩, hcut⟩ := h
  refine ⟨_, Cell.at0 rfl, _, Cell.at0 rfl, (PMay_runs a n _ _).mono ?_⟩
  rintro v J T hle ⟨rfl, rfl⟩
  refine ⟨_, rfl, bcase_f (by rw [mayB_iff.2 ⟨⟨hsz, h0, hn⟩, hcut⟩]; rfl) (fun b3 => ?_)⟩
  unfold prefix_Key_b1 prefix_Key_b2
  refine ⟨n, Cell.tl (Cell.at_ (add_mk _ _ _) (Cell.at0 rfl)), ?_⟩
  have hB0 : Bld b3 (Tr.eb []) [(b3, .cells #[.pointer none, .slice none 0 0] 119 (0, 0))] := ⟨none, none, 0, 0, [], rfl, .inl rfl, (fun h => by cases h), OwnR.nil⟩
  refine ⟨fun m x1 x3 q i J' T' => x1 = ⟨b1, 0, none⟩ ∧ x3 = ⟨b3, 0, none⟩ ∧ q = n ∧ J.le J' ∧ ∃ (k : Nat) (own : SH), i = (k : Int) ∧ k ≤ n.toNat ∧ m = n.toNat - k ∧ Bld b3 (Tr.eb (bitsL a k)) own ∧ Sub (own ++ ((b1, .cells #[.string a, .int .i64 n] 42 (0, 0)) :: S)) T',
    n.toNat, ⟨rfl, rfl, rfl, IMem.le.refl J, 0, _, rfl, Nat.zero_le _, rfl, hB0, Sub.refl _⟩, ?_⟩
  rintro m x1 x3 q i J1 T1 - ⟨rfl, rfl, rfl, hle1, k, own, rfl, hk, rfl, hB, hs⟩
  have hsize : ∀ k, (Tr.eb (bitsL a k)).size = k := fun k => by rw [Tr.eb_size, bitsL_len]
  unfold prefix_Key_l3
  refine bcase_dec (fun hg => ?_) (fun hg => ?_)
  · refine ⟨a, Cell.among hs.right rfl, (Bit_runs (i := k) (by omega) (by omega) _ _).mono ?_⟩
    rintro v J2 T2 hle2 ⟨rfl, rfl⟩
    refine ⟨_, rfl, ?_⟩
    have e : IntKind.wrap .u8 (48 + if bitB a k then 1 else 0) = ((Tr.sg (bitB a k)).toNat : Int) := by
      cases bitB a k <;> rfl
    rw [e]
    obtain ⟨G, hG⟩ := hs
    have hs2 : Sub (own ++ (((b1, .cells #[.string a, .int .i64 q] 42 (0, 0)) :: S) ++ G)) T2 := ⟨[], by rw [List.append_nil, ← List.append_assoc]; exact hG⟩
    refine (WByte_runs hB (Tr.sg (bitB a k)) (by rw [hsize]; omega) _ _).use hs2 ?_
    rintro v J3 T3 hle3 ⟨rfl, own', hB', hs3⟩
    refine ⟨_, rfl, q.toNat - (k + 1), by omega, rfl, rfl, rfl, (hle1.trans hle2).trans hle3, k + 1, own', by rw [wrap_i64 (by omega) (by omega)]; rfl, by omega, rfl, ?_, ?_⟩
    · rw [eb_snoc] at hB'
      have : bitsL a (k + 1) = bitsL a k ++ [bitB a k] := by unfold bitsL; rw [List.range_succ, List.map_append]; rfl
      rw [this]; exact hB'
    · exact (hs3.re (by intro a; simp only [cnt_cons, cnt_app]; omega) : Sub ((own' ++ ((b1, .cells #[.string a, .int .i64 q] 42 (0, 0)) :: S)) ++ G) T3).left
  · have hk' : k = q.toNat := by omega
    unfold prefix_Key_b4
    obtain ⟨G, hG⟩ := hs
    have hs2 : Sub (own ++ (((b1, .cells #[.string a, .int .i64 q] 42 (0, 0)) :: S) ++ G)) T1 := ⟨[], by rw [List.append_nil, ← List.append_assoc]; exact hG⟩
    refine (Str_runs hB (by rw [hsize]; omega) _ _).use hs2 ?_
    rintro v J3 T3 hle3 ⟨rfl, hs3⟩
    exact ⟨_, rfl, by rw [hk'], hs3.left.drop⟩
end Go.Proofs.YtoiilcdaldnjfaaGreatDoor
set_option linter.unusedVariables false
set_option maxRecDepth 8000
set_option maxHeartbeats 2000000
namespace Go.Proofs.YtoiilcdaldnjfaaGreatDoor
open Go.Px
def index_Of (R : RT) (I : IMem) (S : SH) : Prop :=
  ∀ u0 : Nat,
  ∀ b3 : Nat,
  R (.pointer (some ⟨b3, 0, none⟩)) I ((b3, .cells #[.slice none 0 0, .int .i64 0, .int .i64 0, .map (some u0)] 130 (0, 0)) :: ((u0, .map #[] 0) :: S))
theorem index_Of_fn (R : RT) (I : IMem) (S : SH) (h : index_Of R I S) : Runs Tryz.prog 26 #[] I S R := by
  refine Runs.of_wp (c := cd Tryz.f26) Tryz.func26 (by kernel_rfl) (by kernel_rfl) ?_
  exact pS h
def index_Index_Put_b3 (R : RT) (x6 : Bool) (I : IMem) (S : SH) : Prop :=
  R (.bool x6) I S
def index_Index_Put_b5 (R : RT) (x6 : Bool) (I : IMem) (S : SH) : Prop :=
  R (.bool x6) I S
def index_Index_Put_b4 (R : RT) (x0 : OA) (x2 : Int) (x4 : Addr) (I : IMem) (S : SH) : Prop :=
  ptrP x0 fun u5 =>
  ∃ u6, Cell I S x4 (.int .i64 u6) ∧
  ∃ u7, Cell I S (x4.add 1) (.string u7) ∧
  Runs Tryz.prog 86 #[.int .i64 u6, .string u7] I S fun v'' I1'' S1'' => ∃ u8, v'' = .string u8 ∧
  Runs Tryz.prog 85 #[.pointer (some u5), .string u8, .int .i64 x2] I1'' S1'' fun v_r3 I1_r3 S1_r3 => ∃ u9, v_r3 = .bool u9 ∧
  index_Index_Put_b5 R u9 I1_r3 S1_r3
def index_Index_Put_b2 (R : RT) (x0 : OA) (x2 : Int) (x4 : Addr) (x18 : Bool) (I : IMem) (S : SH) : Prop :=
  bcase x18
    (∃ F1 : SH, Keep I F1 I S ∧
    ∃ u0, Cell I F1 x4 (.int .i64 u0) ∧
    ∃ u1, Cell I F1 (x4.add 1) (.string u1) ∧
    ∃ u2, Cell I F1 (x4.add 2) (.string u2) ∧
    ∃ u3, Cell I F1 (x4.add 3) (.int .i64 u3) ∧
    ∃ u4, Cell I F1 (x4.add 2) (.string u4) ∧
    ∃ u5, Cell I F1 ((x4.add 2).add 1) (.int .i64 u5) ∧
    Runs Tryz.prog 82 #[.pointer x0, .agg #[.int .i64 u0, .string u1, .string u2, .int .i64 u3]] I S fun v I1 S1 => ∃ u6, v = .pointer u6 ∧
    Keep I F1 I1 S1 ∧
    Runs Tryz.prog 84 #[.agg #[.string u4, .int .i64 u5]] I1 S1 fun v' I1' S1' => ∃ u7, v' = .string u7 ∧
    Runs Tryz.prog 83 #[.pointer u6, .string u7, .int .i64 x2] I1' S1' fun v'' I1'' S1'' => ∃ u8, v'' = .bool u8 ∧
    index_Index_Put_b3 R u8 I1'' S1'')
    (index_Index_Put_b4 R x0 x2 x4 I S)
def index_Index_Put_b1 (R : RT) (x0 : OA) (x2 : Int) (x4 : Addr) (I : IMem) (S : SH) : Prop :=
  ∃ u0, Cell I S x4 (.int .i64 u0) ∧
  Runs Tryz.prog 81 #[.int .i64 u0] I S fun v I1 S1 => ∃ u1, v = .bool u1 ∧
  index_Index_Put_b2 R x0 x2 x4 u1 I1 S1
def index_Index_Put (R : RT) (u0 : OA) (u1 : Int) (u2 u3 : ByteArray) (u4 u5 : Int) (I : IMem) (S : SH) : Prop :=
  ∀ b4 : Nat,
  ∃ u6, Cell I ((b4, .cells #[.int .i64 u1, .string u2, .string u3, .int .i64 u4] 44 (0, 0)) :: S) ⟨b4, 0, none⟩ (.int .i64 u6) ∧
  ∃ u7, Cell I ((b4, .cells #[.int .i64 u1, .string u2, .string u3, .int .i64 u4] 44 (0, 0)) :: S) ⟨b4, 1, none⟩ (.string u7) ∧
  ∃ u8, Cell I ((b4, .cells #[.int .i64 u1, .string u2, .string u3, .int .i64 u4] 44 (0, 0)) :: S) ⟨b4, 2, none⟩ (.string u8) ∧
  ∃ u9, Cell I ((b4, .cells #[.int .i64 u1, .string u2, .string u3, .int .i64 u4] 44 (0, 0)) :: S) ⟨b4, 3, none⟩ (.int .i64 u9) ∧
  Runs Tryz.prog 35 #[.agg #[.int .i64 u6, .string u7, .string u8, .int .i64 u9]] I ((b4, .cells #[.int .i64 u1, .string u2, .string u3, .int .i64 u4] 44 (0, 0)) :: S) fun v I1 S1 => ∃ ua ub, v = .tuple #[.string ua, .bool ub] ∧
  bcase (!ub)
    (R (.bool false) I1 S1)
    (index_Index_Put_b1 R u0 u5 ⟨b4, 0, none⟩ I1 S1)
theorem index_Index_Put_fn (R : RT) (u0 : OA) (u1 : Int) (u2 u3 : ByteArray) (u4 u5 : Int) (I : IMem) (S : SH) (h : index_Index_Put R u0 u1 u2 u3 u4 u5 I S) : Runs Tryz.prog 52 #[.pointer u0, .agg #[.int .i64 u1, .string u2, .string u3, .int .i64 u4], .int .i64 u5] I S R := by
  refine Runs.of_wp (c := cd Tryz.f52) Tryz.func52 (by kernel_rfl) (by kernel_rfl) ?_
  refine cO 2 [kP 0, kI .i64 2, kA 4] (index_Index_Put_b1 R) h fun _ _ _ _ _ _ _ h => ?_
  refine sO [kP 0, kI .i64 2, kA 4] (index_Index_Put_b4 R) ?_ fun _ _ _ _ _ _ _ h => ?_
  · refine cO 1 [kP 0, kI .i64 2, kA 4, kB 18] (index_Index_Put_b2 R) h fun _ _ _ _ _ _ _ _ h => ?_
    refine cD h (fun h => ?_) fun h => pS h
    refine sO [kB 6] (index_Index_Put_b3 R) (dF (.take 0 (.take 1 (.take 3 (.take 4 (.take 6 (.step 2 (.step 5 (.step 7 (.take 8 .done))))))))) [2, 5, 7] h) fun _ _ _ _ _ h => ?_
    exact pS h
  refine sO [kB 6] (index_Index_Put_b5 R) (dR (tk 7 0 (.take 8 (.step 7 (.step 9 (.take 10 .done))))) [7, 9] h) fun _ _ _ _ _ h => ?_
  exact pS h
def index_Index_Del_b3 (R : RT) (x4 : Bool) (I : IMem) (S : SH) : Prop :=
  R (.bool x4) I S
def index_Index_Del_b5 (R : RT) (x4 : Bool) (I : IMem) (S : SH) : Prop :=
  R (.bool x4) I S
def index_Index_Del_b4 (R : RT) (x0 : OA) (x3 : Addr) (I : IMem) (S : SH) : Prop :=
  ptrP x0 fun u5 =>
  ∃ u6, Cell I S x3 (.int .i64 u6) ∧
  ∃ u7, Cell I S (x3.add 1) (.string u7) ∧
  Runs Tryz.prog 86 #[.int .i64 u6, .string u7] I S fun v'' I1'' S1'' => ∃ u8, v'' = .string u8 ∧
  Runs Tryz.prog 90 #[.pointer (some u5), .string u8] I1'' S1'' fun v_r3 I1_r3 S1_r3 => ∃ u9, v_r3 = .bool u9 ∧
  index_Index_Del_b5 R u9 I1_r3 S1_r3
def index_Index_Del_b2 (R : RT) (x0 : OA) (x3 : Addr) (x16 : Bool) (I : IMem) (S : SH) : Prop :=
  bcase x16
    (∃ F1 : SH, Keep I F1 I S ∧
    ∃ u0, Cell I F1 x3 (.int .i64 u0) ∧
    ∃ u1, Cell I F1 (x3.add 1) (.string u1) ∧
    ∃ u2, Cell I F1 (x3.add 2) (.string u2) ∧
    ∃ u3, Cell I F1 (x3.add 3) (.int .i64 u3) ∧
    ∃ u4, Cell I F1 (x3.add 2) (.string u4) ∧
    ∃ u5, Cell I F1 ((x3.add 2).add 1) (.int .i64 u5) ∧
    Runs Tryz.prog 82 #[.pointer x0, .agg #[.int .i64 u0, .string u1, .string u2, .int .i64 u3]] I S fun v I1 S1 => ∃ u6, v = .pointer u6 ∧
    Keep I F1 I1 S1 ∧
    Runs Tryz.prog 84 #[.agg #[.string u4, .int .i64 u5]] I1 S1 fun v' I1' S1' => ∃ u7, v' = .string u7 ∧
    Runs Tryz.prog 89 #[.pointer u6, .string u7] I1' S1' fun v'' I1'' S1'' => ∃ u8, v'' = .bool u8 ∧
    index_Index_Del_b3 R u8 I1'' S1'')
    (index_Index_Del_b4 R x0 x3 I S)
def index_Index_Del_b1 (R : RT) (x0 : OA) (x3 : Addr) (I : IMem) (S : SH) : Prop :=
  ∃ u0, Cell I S x3 (.int .i64 u0) ∧
  Runs Tryz.prog 81 #[.int .i64 u0] I S fun v I1 S1 => ∃ u1, v = .bool u1 ∧
  index_Index_Del_b2 R x0 x3 u1 I1 S1
def index_Index_Del (R : RT) (u0 : OA) (u1 : Int) (u2 u3 : ByteArray) (u4 : Int) (I : IMem) (S : SH) : Prop :=
  ∀ b3 : Nat,
  ∃ u5, Cell I ((b3, .cells #[.int .i64 u1, .string u2, .string u3, .int .i64 u4] 44 (0, 0)) :: S) ⟨b3, 0, none⟩ (.int .i64 u5) ∧
  ∃ u6, Cell I ((b3, .cells #[.int .i64 u1, .string u2, .string u3, .int .i64 u4] 44 (0, 0)) :: S) ⟨b3, 1, none⟩ (.string u6) ∧
  ∃ u7, Cell I ((b3, .cells #[.int .i64 u1, .string u2, .string u3, .int .i64 u4] 44 (0, 0)) :: S) ⟨b3, 2, none⟩ (.string u7) ∧
  ∃ u8, Cell I ((b3, .cells #[.int .i64 u1, .string u2, .string u3, .int .i64 u4] 44 (0, 0)) :: S) ⟨b3, 3, none⟩ (.int .i64 u8) ∧
  Runs Tryz.prog 35 #[.agg #[.int .i64 u5, .string u6, .string u7, .int .i64 u8]] I ((b3, .cells #[.int .i64 u1, .string u2, .string u3, .int .i64 u4] 44 (0, 0)) :: S) fun v I1 S1 => ∃ u9 ua, v = .tuple #[.string u9, .bool ua] ∧
  bcase (!ua)
    (R (.bool false) I1 S1)
    (index_Index_Del_b1 R u0 ⟨b3, 0, none⟩ I1 S1)
theorem index_Index_Del_fn (R : RT) (u0 : OA) (u1 : Int) (u2 u3 : ByteArray) (u4 : Int) (I : IMem) (S : SH) (h : index_Index_Del R u0 u1 u2 u3 u4 I S) : Runs Tryz.prog 55 #[.pointer u0, .agg #[.int .i64 u1, .string u2, .string u3, .int .i64 u4]] I S R := by
  refine Runs.of_wp (c := cd Tryz.f55) Tryz.func55 (by kernel_rfl) (by kernel_rfl) ?_
  refine cO 2 [kP 0, kA 3] (index_Index_Del_b1 R) h fun _ _ _ _ _ _ h => ?_
  refine sO [kP 0, kA 3] (index_Index_Del_b4 R) ?_ fun _ _ _ _ _ _ h => ?_
  · refine cO 1 [kP 0, kA 3, kB 16] (index_Index_Del_b2 R) h fun _ _ _ _ _ _ _ h => ?_
    refine cD h (fun h => ?_) fun h => pS h
    refine sO [kB 4] (index_Index_Del_b3 R) (dF (.take 0 (.take 1 (.take 3 (.take 4 (.step 2 (.step 5 (.step 6 (.take 7 .done)))))))) [2, 5, 6] h) fun _ _ _ _ _ h => ?_
    exact pS h
  refine sO [kB 4] (index_Index_Del_b5 R) (dR (tk 7 0 (.step 7 (.step 8 (.take 9 .done)))) [7, 8] h) fun _ _ _ _ _ h => ?_
  exact pS h
abbrev index_Index_Name_t5 := OA → Int → Addr → ByteArray → Bool → PR
def index_Index_Name_b8 (g5 : index_Index_Name_t5) (R : RT) (x0 : OA) (x2 : Int) (x9 : Addr) (x13 : ByteArray) (I : IMem) (S : SH) : Prop :=
  Runs Tryz.prog 100 #[.string x13] I S fun v I1 S1 => ∃ u0 u1, v = .tuple #[.string u0, .bool u1] ∧
  g5 x0 x2 x9 u0 u1 I1 S1
def index_Index_Name_b7 (g5 : index_Index_Name_t5) (R : RT) (x0 : OA) (x2 : Int) (x9 : Addr) (x13 : ByteArray) (x15 : Int) (x16 : Bool) (I : IMem) (S : SH) : Prop :=
  bcase x16
    (StP S x9 [.int .i64 x2, .string x13, .string ⟨#[]⟩, .int .i64 0] fun S1 =>
    ∃ u0, Cell I S1 x9 (.int .i64 u0) ∧
    ∃ u1, Cell I S1 (x9.add 1) (.string u1) ∧
    ∃ u2, Cell I S1 (x9.add 2) (.string u2) ∧
    ∃ u3, Cell I S1 (x9.add 3) (.int .i64 u3) ∧
    R (.tuple #[.int .i64 x15, .agg #[.int .i64 u0, .string u1, .string u2, .int .i64 u3], .bool true]) I S1)
    (index_Index_Name_b8 g5 R x0 x2 x9 x13 I S)
def index_Index_Name_b6 (g5 : index_Index_Name_t5) (R : RT) (x0 : OA) (x2 : Int) (x9 : Addr) (x13 : ByteArray) (I : IMem) (S : SH) : Prop :=
  ptrP x0 fun u0 =>
  Runs Tryz.prog 86 #[.int .i64 x2, .string x13] I S fun v I1 S1 => ∃ u1, v = .string u1 ∧
  Runs Tryz.prog 99 #[.pointer (some u0), .string u1] I1 S1 fun v' I1' S1' => ∃ u2 u3, v' = .tuple #[.int .i64 u2, .bool u3] ∧
  index_Index_Name_b7 g5 R x0 x2 x9 x13 u2 u3 I1' S1'
def index_Index_Name_b9 (R : RT) (x9 : Addr) (I : IMem) (S : SH) : Prop :=
  StP S x9 [.int .i64 0, .string ⟨#[]⟩, .string ⟨#[]⟩, .int .i64 0] fun S1 =>
  ∃ u0, Cell I S1 x9 (.int .i64 u0) ∧
  ∃ u1, Cell I S1 (x9.add 1) (.string u1) ∧
  ∃ u2, Cell I S1 (x9.add 2) (.string u2) ∧
  ∃ u3, Cell I S1 (x9.add 3) (.int .i64 u3) ∧
  R (.tuple #[.int .i64 0, .agg #[.int .i64 u0, .string u1, .string u2, .int .i64 u3], .bool false]) I S1
def index_Index_Name_l5 (g5 : index_Index_Name_t5) (R : RT) (x0 : OA) (x2 : Int) (x9 : Addr) (x13 : ByteArray) (x14 : Bool) (I : IMem) (S : SH) : Prop :=
  bcase x14
    (index_Index_Name_b6 g5 R x0 x2 x9 x13 I S)
    (index_Index_Name_b9 R x9 I S)
def index_Index_Name_b4 (R : RT) (x0 : OA) (x2 : Int) (x9 : Addr) (x13 : ByteArray) (x14 : Bool) (I : IMem) (S : SH) : Prop :=
  ∃ (Inv : Nat → index_Index_Name_t5) (m : Nat), Inv m x0 x2 x9 x13 x14 I S ∧
    ∀ (m : Nat) (x0 : OA) (x2 : Int) (x9 : Addr) (x13 : ByteArray) (x14 : Bool) (J : IMem) (T : SH), I.le J → Inv m x0 x2 x9 x13 x14 J T →
      index_Index_Name_l5 (fun x0 x2 x9 x13 x14 I S => ∃ m', m' < m ∧ Inv m' x0 x2 x9 x13 x14 I S) R x0 x2 x9 x13 x14 J T
def index_Index_Name_b3 (R : RT) (x0 : OA) (x2 : Int) (x3 : ByteArray) (x9 : Addr) (I : IMem) (S : SH) : Prop :=
  Runs Tryz.prog 100 #[.string x3] I S fun v I1 S1 => ∃ u0 u1, v = .tuple #[.string u0, .bool u1] ∧
  index_Index_Name_b4 R x0 x2 x9 u0 u1 I1 S1
def index_Index_Name_b2 (R : RT) (x0 : OA) (x1 x2 : Int) (x3 : ByteArray) (x9 : Addr) (x11 : Int) (x12 : Bool) (I : IMem) (S : SH) : Prop :=
  bcase x12
    (StP S x9 [.int .i64 x1, .string x3, .string ⟨#[]⟩, .int .i64 0] fun S1 =>
    ∃ u0, Cell I S1 x9 (.int .i64 u0) ∧
    ∃ u1, Cell I S1 (x9.add 1) (.string u1) ∧
    ∃ u2, Cell I S1 (x9.add 2) (.string u2) ∧
    ∃ u3, Cell I S1 (x9.add 3) (.int .i64 u3) ∧
    R (.tuple #[.int .i64 x11, .agg #[.int .i64 u0, .string u1, .string u2, .int .i64 u3], .bool true]) I S1)
    (index_Index_Name_b3 R x0 x2 x3 x9 I S)
def index_Index_Name_b1 (R : RT) (x0 : OA) (x1 x2 : Int) (x3 : ByteArray) (x9 : Addr) (I : IMem) (S : SH) : Prop :=
  ptrP x0 fun u0 =>
  Runs Tryz.prog 86 #[.int .i64 x1, .string x3] I S fun v I1 S1 => ∃ u1, v = .string u1 ∧
  Runs Tryz.prog 99 #[.pointer (some u0), .string u1] I1 S1 fun v' I1' S1' => ∃ u2 u3, v' = .tuple #[.int .i64 u2, .bool u3] ∧
  index_Index_Name_b2 R x0 x1 x2 x3 x9 u2 u3 I1' S1'
def index_Index_Name (R : RT) (u0 : OA) (u1 u2 : Int) (u3 : ByteArray) (I : IMem) (S : SH) : Prop :=
  ∀ b9 : Nat,
  index_Index_Name_b1 R u0 u1 u2 u3 ⟨b9, 0, none⟩ I ((b9, .cells #[.int .i64 0, .string ⟨#[]⟩, .string ⟨#[]⟩, .int .i64 0] 44 (0, 0)) :: S)
theorem index_Index_Name_fn (R : RT) (u0 : OA) (u1 u2 : Int) (u3 : ByteArray) (I : IMem) (S : SH) (h : index_Index_Name R u0 u1 u2 u3 I S) : Runs Tryz.prog 62 #[.pointer u0, .int .i64 u1, .int .i64 u2, .string u3] I S R := by
  refine Runs.of_wp (c := cd Tryz.f62) Tryz.func62 (by kernel_rfl) (by kernel_rfl) ?_
  refine cO 1 [kP 0, kI .i64 1, kI .i64 2, kS 3, kA 9] (index_Index_Name_b1 R) h fun _ _ _ _ _ _ _ _ _ h => ?_
  refine sO [kP 0, kI .i64 2, kS 3, kA 9] (index_Index_Name_b3 R) ?_ fun _ _ _ _ _ _ _ _ h => ?_
  · refine sO [kP 0, kI .i64 1, kI .i64 2, kS 3, kA 9, kI .i64 11, kB 12] (index_Index_Name_b2 R) (dR (tk 5 0 (.step 5 (.step 6 (tk 5 7 .done)))) [5, 6] h) fun _ _ _ _ _ _ _ _ _ _ _ h => ?_
    exact pS h
  refine sO [kA 9] (index_Index_Name_b9 R) ?_ fun _ _ _ _ _ h => ?_
  · refine cO 1 [kP 0, kI .i64 2, kA 9, kS 13, kB 14] (index_Index_Name_b4 R) h fun _ _ _ _ _ _ _ _ _ h => ?_
    refine bK ?_
    obtain ⟨Vg5, mg5, h, hr⟩ := h
    refine lO [kP 0, kI .i64 2, kA 9, kS 13, kB 14] Vg5 mg5 h fun mg5 _ I S hle x0 x2 x9 x13 x14 h => ?_
    have h := hr mg5 x0 x2 x9 x13 x14 I S hle h
    refine cO 1 [kP 0, kI .i64 2, kA 9, kS 13] (index_Index_Name_b6 (fun x0 x2 x9 x13 x14 I S => ∃ m', m' < mg5 ∧ Vg5 m' x0 x2 x9 x13 x14 I S) R) h fun _ _ _ _ _ _ _ _ h => ?_
    refine sO [kP 0, kI .i64 2, kA 9, kS 13] (index_Index_Name_b8 (fun x0 x2 x9 x13 x14 I S => ∃ m', m' < mg5 ∧ Vg5 m' x0 x2 x9 x13 x14 I S) R) ?_ fun _ _ _ _ _ _ _ _ h => ?_
    · refine bK ?_
      refine sO [kP 0, kI .i64 2, kA 9, kS 13, kI .i64 15, kB 16] (index_Index_Name_b7 (fun x0 x2 x9 x13 x14 I S => ∃ m', m' < mg5 ∧ Vg5 m' x0 x2 x9 x13 x14 I S) R) (dR (tk 5 0 (.step 5 (.step 6 (tk 5 7 .done)))) [5, 6] h) fun _ _ _ _ _ _ _ _ _ _ h => ?_
      exact pS h
    exact pS h
  exact pS h
def index_Index_Addr_b5 (R : RT) (x6 : Int) (x7 : Addr) (x8 : Bool) (I : IMem) (S : SH) : Prop :=
  ∃ u0, Cell I S x7 (.int .i64 u0) ∧
  ∃ u1, Cell I S (x7.add 1) (.string u1) ∧
  ∃ u2, Cell I S (x7.add 2) (.string u2) ∧
  ∃ u3, Cell I S (x7.add 3) (.int .i64 u3) ∧
  R (.tuple #[.int .i64 x6, .agg #[.int .i64 u0, .string u1, .string u2, .int .i64 u3], .bool x8]) I S
def index_Index_Addr_b4 (R : RT) (x1 : Int) (x7 : Addr) (x12 : Int) (x15 : Addr) (I : IMem) (S : SH) : Prop :=
  ∃ u0, Cell I S x15 (.string u0) ∧
  ∃ u1, Cell I S (x15.add 1) (.int .i64 u1) ∧
  StP S x7 [.int .i64 x1, .string ⟨#[]⟩, .string u0, .int .i64 u1] fun S1 =>
  index_Index_Addr_b5 R x12 x7 true I S1
def index_Index_Addr_b3 (R : RT) (x1 : Int) (x2 : ByteArray) (x7 x9 : Addr) (x11 : OA) (I : IMem) (S : SH) : Prop :=
  ∃ u0, Cell I S x9 (.string u0) ∧
  ∃ u1, Cell I S (x9.add 1) (.int .i64 u1) ∧
  Runs Tryz.prog 84 #[.agg #[.string u0, .int .i64 u1]] I S fun v I1 S1 => ∃ u2, v = .string u2 ∧
  Runs Tryz.prog 98 #[.pointer x11, .string u2] I1 S1 fun v' I1' S1' => ∃ u3 u4 u5, v' = .tuple #[.int .i64 u3, .int .i64 u4, .bool u5] ∧
  bcase (!u5)
    (StP S1' x7 [.int .i64 0, .string ⟨#[]⟩, .string ⟨#[]⟩, .int .i64 0] fun S1'' =>
    ∃ u6, Cell I1' S1'' x7 (.int .i64 u6) ∧
    ∃ u7, Cell I1' S1'' (x7.add 1) (.string u7) ∧
    ∃ u8, Cell I1' S1'' (x7.add 2) (.string u8) ∧
    ∃ u9, Cell I1' S1'' (x7.add 3) (.int .i64 u9) ∧
    R (.tuple #[.int .i64 0, .agg #[.int .i64 u6, .string u7, .string u8, .int .i64 u9], .bool false]) I1' S1'')
    (Runs Tryz.prog 72 #[.string x2, .int .i64 u4] I1' S1' fun v'' I1'' S1_r3 => ∃ ua ub uc, v'' = .tuple #[.agg #[.string ua, .int .i64 ub], .bool uc] ∧
    ∀ b15 : Nat,
    StP ((b15, .cells #[.string ⟨#[]⟩, .int .i64 0] 42 (0, 0)) :: S1_r3) ⟨b15, 0, none⟩ [.string ua, .int .i64 ub] fun S1_r4 =>
    index_Index_Addr_b4 R x1 x7 u3 ⟨b15, 0, none⟩ I1'' S1_r4)
def index_Index_Addr_b2 (R : RT) (x1 : Int) (x2 : ByteArray) (x7 x9 : Addr) (x11 : OA) (x39 : Bool) (I : IMem) (S : SH) : Prop :=
  bcase x39
    (StP S x7 [.int .i64 0, .string ⟨#[]⟩, .string ⟨#[]⟩, .int .i64 0] fun S1 =>
    ∃ u0, Cell I S1 x7 (.int .i64 u0) ∧
    ∃ u1, Cell I S1 (x7.add 1) (.string u1) ∧
    ∃ u2, Cell I S1 (x7.add 2) (.string u2) ∧
    ∃ u3, Cell I S1 (x7.add 3) (.int .i64 u3) ∧
    R (.tuple #[.int .i64 0, .agg #[.int .i64 u0, .string u1, .string u2, .int .i64 u3], .bool false]) I S1)
    (index_Index_Addr_b3 R x1 x2 x7 x9 x11 I S)
def index_Index_Addr_b1 (R : RT) (x1 : Int) (x2 : ByteArray) (x7 x9 : Addr) (x10 : Bool) (x11 : OA) (I : IMem) (S : SH) : Prop :=
  bcase (!x10)
    (index_Index_Addr_b2 R x1 x2 x7 x9 x11 true I S)
    (index_Index_Addr_b2 R x1 x2 x7 x9 x11 ((x11 : Option Addr).isNone) I S)
def index_Index_Addr (R : RT) (u0 : OA) (u1 : Int) (u2 : ByteArray) (I : IMem) (S : SH) : Prop :=
  ∀ b7 : Nat,
  Runs Tryz.prog 72 #[.string u2, .int .i64 (IntKind.wrap .i64 ((8 : Int) * (u2.size : Int)))] I ((b7, .cells #[.int .i64 0, .string ⟨#[]⟩, .string ⟨#[]⟩, .int .i64 0] 44 (0, 0)) :: S) fun v I1 S1 => ∃ u3 u4 u5, v = .tuple #[.agg #[.string u3, .int .i64 u4], .bool u5] ∧
  ∀ b9 : Nat,
  StP ((b9, .cells #[.string ⟨#[]⟩, .int .i64 0] 42 (0, 0)) :: S1) ⟨b9, 0, none⟩ [.string u3, .int .i64 u4] fun S1' =>
  ptrP u0 fun u6 =>
  ∃ u7, Cell I1 S1' (u6.add 3) (.map u7) ∧
  ∃ u8, ∃ u9 : Bool, MapAtS Tryz.prog 163 I1 S1' u7 (.agg #[.int .i64 u1, .int .i64 (u2.size : Int)]) (.pointer none) (.pointer u8) u9 ∧
  index_Index_Addr_b1 R u1 u2 ⟨b7, 0, none⟩ ⟨b9, 0, none⟩ u5 u8 I1 S1'
theorem index_Index_Addr_fn (R : RT) (u0 : OA) (u1 : Int) (u2 : ByteArray) (I : IMem) (S : SH) (h : index_Index_Addr R u0 u1 u2 I S) : Runs Tryz.prog 61 #[.pointer u0, .int .i64 u1, .string u2] I S R := by
  refine Runs.of_wp (c := cd Tryz.f61) Tryz.func61 (by kernel_rfl) (by kernel_rfl) ?_
  refine cO 3 [kI .i64 1, kS 2, kA 7, kA 9, kB 10, kP 11] (index_Index_Addr_b1 R) h fun _ _ _ _ _ _ _ _ _ _ h => ?_
  refine sO [kI .i64 1, kS 2, kA 7, kA 9, kP 11] (index_Index_Addr_b3 R) ?_ fun _ _ _ _ _ _ _ _ _ h => ?_
  · refine cO 1 [kI .i64 1, kS 2, kA 7, kA 9, kP 11, kB 39] (index_Index_Addr_b2 R) h fun _ _ _ _ _ _ _ _ _ _ h => ?_
    exact pS h
  refine cO 3 [kI .i64 1, kA 7, kI .i64 12, kA 15] (index_Index_Addr_b4 R) h fun _ _ _ _ _ _ _ _ h => ?_
  refine sO [kI .i64 6, kA 7, kB 8] (index_Index_Addr_b5 R) (dR (tk 5 0 (.step 5 (.take 6 .done))) [5] h) fun _ _ _ _ _ _ _ h => ?_
  exact pS h
abbrev index_Index_Len_t3 := Int → Addr → PR
def index_Index_Len_b4 (R : RT) (x3 : Int) (I : IMem) (S : SH) : Prop :=
  R (.int .i64 x3) I S
def index_Index_Len_b6 (g3 : index_Index_Len_t3) (R : RT) (x3 : Int) (x5 : Value) (x14 : Addr) (I : IMem) (S : SH) : Prop :=
  Runs Tryz.prog 74 #[x5] I S fun v I1 S1 => ∃ u0, v = .int .i64 u0 ∧
  g3 (IntKind.wrap .i64 (x3 + u0)) x14 I1 S1
def index_Index_Len_b5 (g3 : index_Index_Len_t3) (R : RT) (x3 : Int) (x14 : Addr) (I : IMem) (S : SH) : Prop :=
  EnP I S x14 fun u0 u1 =>
  index_Index_Len_b6 g3 R x3 u1 x14 I S
def index_Index_Len_l3 (g3 : index_Index_Len_t3) (R : RT) (x3 : Int) (x14 : Addr) (I : IMem) (S : SH) : Prop :=
  NxP I S x14 (index_Index_Len_b4 R x3 I S) fun u0 u1 S1 =>
  index_Index_Len_b5 g3 R x3 x14 I S1
def index_Index_Len_b2 (R : RT) (x3 : Int) (x14 : Addr) (I : IMem) (S : SH) : Prop :=
  ∃ (Inv : Nat → index_Index_Len_t3) (m : Nat), Inv m x3 x14 I S ∧
    ∀ (m : Nat) (x3 : Int) (x14 : Addr) (J : IMem) (T : SH), I.le J → Inv m x3 x14 J T →
      index_Index_Len_l3 (fun x3 x14 I S => ∃ m', m' < m ∧ Inv m' x3 x14 I S) R x3 x14 J T
def index_Index_Len_b1 (R : RT) (x0 : OA) (x3 : Int) (I : IMem) (S : SH) : Prop :=
  ptrP x0 fun u0 =>
  ∃ u1, Cell I S (u0.add 3) (.map u1) ∧
  mapP u1 fun m => ∃ es ck, MpC I S m es ck ∧ ∀ b14 : Nat,
  index_Index_Len_b2 R x3 ⟨b14, 0, none⟩ I ((b14, .mapIter (some m) ck #[] ck) :: S)
def index_Index_Len (R : RT) (u0 : OA) (I : IMem) (S : SH) : Prop :=
  ptrP u0 fun u1 =>
  Runs Tryz.prog 73 #[.pointer (some u1)] I S fun v I1 S1 => ∃ u2, v = .int .i64 u2 ∧
  index_Index_Len_b1 R u0 u2 I1 S1
theorem index_Index_Len_fn (R : RT) (u0 : OA) (I : IMem) (S : SH) (h : index_Index_Len R u0 I S) : Runs Tryz.prog 40 #[.pointer u0] I S R := by
  refine Runs.of_wp (c := cd Tryz.f40) Tryz.func40 (by kernel_rfl) (by kernel_rfl) ?_
  refine cO 2 [kP 0, kI .i64 3] (index_Index_Len_b1 R) h fun _ _ _ _ _ _ h => ?_
  refine sO [kI .i64 3] (index_Index_Len_b4 R) ?_ fun _ _ _ _ _ h => ?_
  · refine cO 1 [kI .i64 3, kA 14] (index_Index_Len_b2 R) h fun _ _ _ _ _ _ h => ?_
    refine bK ?_
    obtain ⟨Vg3, mg3, h, hr⟩ := h
    refine lO [kI .i64 3, kA 14] Vg3 mg3 h fun mg3 _ I S hle x3 x14 h => ?_
    have h := hr mg3 x3 x14 I S hle h
    refine cO 2 [kI .i64 3, kA 14] (index_Index_Len_b5 (fun x3 x14 I S => ∃ m', m' < mg3 ∧ Vg3 m' x3 x14 I S) R) h fun _ _ _ _ _ _ h => ?_
    refine bK ?_
    refine cO 1 [kI .i64 3, kV 5, kA 14] (index_Index_Len_b6 (fun x3 x14 I S => ∃ m', m' < mg3 ∧ Vg3 m' x3 x14 I S) R) h fun _ _ _ _ _ _ _ h => ?_
    exact pS h
  exact pS h
def index_Index_trie_b4 (R : RT) (x4 : OA) (I : IMem) (S : SH) : Prop :=
  R (.pointer x4) I S
def index_Index_trie_b3 (R : RT) (x0 : OA) (x5 : Addr) (I : IMem) (S : SH) : Prop :=
  ptrP x0 fun u0 =>
  ∃ u1, Cell I S (u0.add 3) (.map u1) ∧
  ∃ u2, Cell I S x5 (.int .i64 u2) ∧
  ∃ u3, Cell I S (x5.add 1) (.int .i64 u3) ∧
  ∃ u4, ∃ u5 : Bool, MapAtS Tryz.prog 163 I S u1 (.agg #[.int .i64 u2, .int .i64 u3]) (.pointer none) (.pointer u4) u5 ∧
  index_Index_trie_b4 R u4 I S
def index_Index_trie_b2 (R : RT) (x0 : OA) (x5 : Addr) (x19 : Bool) (I : IMem) (S : SH) : Prop :=
  bcase x19
    (ptrP x0 fun u0 =>
    ∃ u1, Cell I S (u0.add 3) (.map u1) ∧
    ∃ u2, Cell I S x5 (.int .i64 u2) ∧
    ∃ u3, Cell I S (x5.add 1) (.int .i64 u3) ∧
    ∀ b26 : Nat,
    Keep I S I ((b26, .cells #[.pointer none, .int .i64 0] 197 (0, 0)) :: S) ∧
    MapStS Tryz.prog 163 ((b26, .cells #[.pointer none, .int .i64 0] 197 (0, 0)) :: S) u1 (.agg #[.int .i64 u2, .int .i64 u3]) (.pointer (some ⟨b26, 0, none⟩)) fun S1 =>
    index_Index_trie_b3 R x0 x5 I S1)
    (index_Index_trie_b3 R x0 x5 I S)
def index_Index_trie_b1 (R : RT) (x0 : OA) (x5 : Addr) (I : IMem) (S : SH) : Prop :=
  ptrP x0 fun u0 =>
  ∃ u1, Cell I S (u0.add 3) (.map u1) ∧
  ∃ u2, Cell I S x5 (.int .i64 u2) ∧
  ∃ u3, Cell I S (x5.add 1) (.int .i64 u3) ∧
  ∃ u4, ∃ u5 : Bool, MapAtS Tryz.prog 163 I S u1 (.agg #[.int .i64 u2, .int .i64 u3]) (.pointer none) (.pointer u4) u5 ∧
  index_Index_trie_b2 R x0 x5 ((u4 : Option Addr).isNone) I S
def index_Index_trie (R : RT) (u0 : OA) (u1 : Int) (u2 u3 : ByteArray) (u4 : Int) (I : IMem) (S : SH) : Prop :=
  ∀ b3 : Nat,
  ∃ u5, Cell I ((b3, .cells #[.int .i64 u1, .string u2, .string u3, .int .i64 u4] 44 (0, 0)) :: S) ⟨b3, 0, none⟩ (.int .i64 u5) ∧
  ∃ u6, Cell I ((b3, .cells #[.int .i64 u1, .string u2, .string u3, .int .i64 u4] 44 (0, 0)) :: S) ⟨b3, 2, none⟩ (.string u6) ∧
  ∀ b5 : Nat,
  StP ((b5, .cells #[.int .i64 0, .int .i64 0] 163 (0, 0)) :: ((b3, .cells #[.int .i64 u1, .string u2, .string u3, .int .i64 u4] 44 (0, 0)) :: S)) ⟨b5, 0, none⟩ [.int .i64 u5, .int .i64 (u6.size : Int)] fun S1 =>
  index_Index_trie_b1 R u0 ⟨b5, 0, none⟩ I S1
theorem index_Index_trie_fn (R : RT) (u0 : OA) (u1 : Int) (u2 u3 : ByteArray) (u4 : Int) (I : IMem) (S : SH) (h : index_Index_trie R u0 u1 u2 u3 u4 I S) : Runs Tryz.prog 82 #[.pointer u0, .agg #[.int .i64 u1, .string u2, .string u3, .int .i64 u4]] I S R := by
  refine Runs.of_wp (c := cd Tryz.f82) Tryz.func82 (by kernel_rfl) (by kernel_rfl) ?_
  refine cO 2 [kP 0, kA 5] (index_Index_trie_b1 R) h fun _ _ _ _ _ _ h => ?_
  refine sO [kP 0, kA 5] (index_Index_trie_b3 R) ?_ fun _ _ _ _ _ _ h => ?_
  · refine sO [kP 0, kA 5, kB 19] (index_Index_trie_b2 R) (qT h) fun _ _ _ _ _ _ _ h => ?_
    exact cD h (fun h => dR (tk 6 0 (.step 6 (.step 7 .done))) [6, 7] h) fun h => pS h
  refine sO [kP 4] (index_Index_trie_b4 R) (qT h) fun _ _ _ _ _ h => ?_
  exact pS h
def index_ip_b1 (R : RT) (x2 : Bool) (I : IMem) (S : SH) : Prop :=
  R (.bool x2) I S
def index_ip (R : RT) (u0 : Int) (I : IMem) (S : SH) : Prop :=
  bcase (u0 == (0 : Int))
    (index_ip_b1 R true I S)
    (bcase (u0 == (3 : Int))
      (index_ip_b1 R true I S)
      (index_ip_b1 R (u0 == (6 : Int)) I S))
theorem index_ip_fn (R : RT) (u0 : Int) (I : IMem) (S : SH) (h : index_ip R u0 I S) : Runs Tryz.prog 81 #[.int .i64 u0] I S R := by
  refine Runs.of_wp (c := cd Tryz.f81) Tryz.func81 (by kernel_rfl) (by kernel_rfl) ?_
  refine cO 2 [kB 2] (index_ip_b1 R) h fun _ _ _ _ _ h => ?_
  exact pS h
def index_word (R : RT) (u0 : Int) (u1 : ByteArray) (I : IMem) (S : SH) : Prop :=
  (((Utf8.encode (IntKind.wrap .i32 (IntKind.wrap .i64 ((97 : Int) + u0)))).size + u1.size : Nat) : Int) ≤ 9223372036854775807 ∧
  R (.string ((Utf8.encode (IntKind.wrap .i32 (IntKind.wrap .i64 ((97 : Int) + u0)))) ++ u1)) I S
theorem index_word_fn (R : RT) (u0 : Int) (u1 : ByteArray) (I : IMem) (S : SH) (h : index_word R u0 u1 I S) : Runs Tryz.prog 86 #[.int .i64 u0, .string u1] I S R := by
  refine Runs.of_wp (c := cd Tryz.f86) Tryz.func86 (by kernel_rfl) (by kernel_rfl) ?_
  exact pS h
end Go.Proofs.YtoiilcdaldnjfaaGreatDoor
/- The table's functions: what they come to, on lists of slots. -/
set_option linter.unusedVariables false
set_option linter.unusedSimpArgs false
namespace Go.Proofs.YtoiilcdaldnjfaaGreatDoor.Tb
open Go.Px
variable {xm : Nat}

def hashL (l : List UInt8) : Int := l.foldl (fun h c => (h * 31 + (c.toNat : Int)) % 4294967296) 17
theorem hashL_bd (l : List UInt8) : 0 ≤ hashL l ∧ hashL l < 4294967296 := by
  unfold hashL
  have : ∀ (l : List UInt8) (h : Int), 0 ≤ h ∧ h < 4294967296 → 0 ≤ l.foldl (fun h c => (h * 31 + (c.toNat : Int)) % 4294967296) h ∧ l.foldl (fun h c => (h * 31 + (c.toNat : Int)) % 4294967296) h < 4294967296 := by
    intro l
    induction l with
    | nil => intro h hh; exact hh
    | cons c l ih => intro h hh; refine ih _ ?_; dsimp only; omega
  exact this l 17 (by omega)
theorem hashL_snoc (l : List UInt8) (c : UInt8) : hashL (l ++ [c]) = (hashL l * 31 + (c.toNat : Int)) % 4294967296 := by simp [hashL]
def hashM (key : ByteArray) (slots : Int) : Int := hashL key.data.toList % (if slots > 1 then slots else 1)

theorem data_get (s : ByteArray) (k : Nat) : s.data.toList[k]? = s[k]? := by
  by_cases h : k < s.size
  · rw [getElem?_pos s k h, List.getElem?_eq_getElem (by simpa using h)]; rfl
  · rw [getElem?_neg s k h, List.getElem?_eq_none (by simpa using h)]
theorem take_snoc (s : ByteArray) {k : Nat} {c : UInt8} (h : s[k]? = some c) : s.data.toList.take (k + 1) = s.data.toList.take k ++ [c] := by
  rw [List.take_add_one, (data_get s k).trans h]; rfl
theorem get_lt (s : ByteArray) {k : Nat} (h : k < s.size) : ∃ c, s[k]? = some c := ⟨_, getElem?_pos s k h⟩

theorem Hash_runs (key : ByteArray) (slots : Int) (hs : slots ≤ 9223372036854775807) (hk : key.size ≤ 9223372036854775807) (I : IMem) (S : SH) :
    Runs Tryz.prog 127 #[.string key, .int .i64 slots] I S fun v J T => v = .int .i64 (hashM key slots) ∧ T = S := by
  refine Runs.drop (table_Hash_fn _ _ _ _ _ ?_)
  refine ⟨fun m key' slots' h x8 x9 J T => key' = key ∧ slots' = slots ∧ x8 = (key.size : Int) ∧ Sub S T ∧ ∃ k : Nat, x9 = (k : Int) ∧ m + k = key.size ∧ h = hashL (key.data.toList.take k), key.size, ⟨rfl, rfl, rfl, Sub.refl S, 0, rfl, rfl, rfl⟩, ?_⟩
  rintro m key' slots' h x8 x9 J T _ ⟨rfl, rfl, rfl, hsub, k, rfl, hm, rfl⟩
  refine bcase_dec (fun hlt => ?_) (fun hge => ?_)
  · obtain ⟨c, hc⟩ := get_lt key' (k := k) (by omega)
    refine ⟨c, by omega, by simpa using hc, m - 1, by omega, rfl, rfl, rfl, hsub, k + 1, by rw [wrap_i64 (by omega) (by omega)]; rfl, by omega, ?_⟩
    rw [take_snoc _ hc, hashL_snoc]
    simp only [wrap_u32_eq]
    omega
  · have hb := hashL_bd (key'.data.toList.take k)
    have hall : key'.data.toList.take k = key'.data.toList := List.take_of_length_le (by simp; omega)
    rw [hall] at hb ⊢
    have hmx : 1 ≤ (if slots' > 1 then slots' else 1) ∧ (if slots' > 1 then slots' else 1) ≤ 9223372036854775807 := by split <;> omega
    rw [table_Hash_b4]
    generalize hM : (if slots' > (1 : Int) then slots' else 1) = M at hmx ⊢
    rw [wrap_u64 (x := M) (by omega) (by omega), wrap_u64 (by omega) (by omega)]
    have hmod : 0 ≤ hashL key'.data.toList % M ∧ hashL key'.data.toList % M < M := ⟨Int.emod_nonneg _ (by omega), Int.emod_lt_of_pos _ (by omega)⟩
    refine bcase_dec (fun h0 => by omega) (fun _ => ⟨S, hsub, ?_, rfl⟩)
    rw [Int.tmod_eq_emod_of_nonneg hb.1, wrap_i64 (by omega) (by omega), hashM, hM]
end Go.Proofs.YtoiilcdaldnjfaaGreatDoor.Tb
/- The table's slots: find, grow, Put, Get, Del, Len, Slots. -/
set_option linter.unusedVariables false
set_option linter.unusedSimpArgs false
namespace Go.Proofs.YtoiilcdaldnjfaaGreatDoor.Tb
open Go.Px
variable {xm : Nat}

structure Slot where
  key : ByteArray
  value : Int
  live : Bool
  dead : Bool
def slotE (s : Slot) : List Value := [.string s.key, .int .i64 s.value, .bool s.live, .bool s.dead]
theorem slotE_len (s : Slot) : (slotE s).length = 4 := rfl
theorem slotE_one (s : Slot) : (slotE s).all one = true := rfl
def tabB (xm tb : Nat) (a : Option Addr) (n : Nat) (live full : Int) : Nat × Obj := (tb, .cells #[.slice a n n, .int .i64 live, .int .i64 full, .map (some xm)] 130 (0, 0))
def sloB (sb : Nat) (ss : List Slot) : Nat × Obj := (sb, .cells (rowA slotE ss) 206 (0, 0))

def findM (ss : List Slot) (key : ByteArray) : Nat → Nat → Int → Option (Int × Bool)
  | 0, _, _ => none
  | k + 1, i, free => match ss[i]? with
    | none => none
    | some s =>
      if s.live = true ∧ (s.key.toList == key.toList) = true then some ((i : Int), true)
      else if s.dead = true ∧ free < 0 then findM ss key k ((i + 1) % ss.length) (i : Int)
      else if s.live = false ∧ s.dead = false then (if free < 0 then some ((i : Int), false) else some (free, false))
      else findM ss key k ((i + 1) % ss.length) free

theorem find_round {again : Option Addr → ByteArray → Int → Int → IMem → SH → Prop} {R : Value → IMem → SH → Prop} {tb sb : Nat} {ss : List Slot} {live full : Int} {key : ByteArray} {F T : SH} {J : IMem} {n m : Nat} {free : Int} {r : Int × Bool}
    (hlt : n < ss.length) (hl : ss.length ≤ 1099511627776) (hsub : Sub (tabB xm tb (some ⟨sb, 0, none⟩) ss.length live full :: sloB sb ss :: F) T) (hf : findM ss key (m + 1) n free = some r)
    (hag : ∀ S free', Sub T S → findM ss key m ((n + 1) % ss.length) free' = some r → again (some ⟨tb, 0, none⟩) key (((n + 1) % ss.length : Nat) : Int) free' J S)
    (hR : ∀ S, Sub T S → R (.tuple #[.int .i64 r.1, .bool r.2]) J S) : table_Table_find_l2 again R (some ⟨tb, 0, none⟩) key (n : Int) free J T := by
  obtain ⟨s, hs⟩ : ∃ s, ss[n]? = some s := ⟨_, List.getElem?_eq_getElem hlt⟩
  simp only [findM, hs] at hf
  have ct : Cell J T ⟨tb, 0, none⟩ (.slice (some ⟨sb, 0, none⟩) ss.length ss.length) := hsub.cell' (Cell.at0 rfl)
  have c : ∀ j v, j < 4 → (slotE s)[j]? = some v → Cell J T (((⟨sb, 0, none⟩ : Addr).add ((n : Int).toNat * 4)).add j) v := fun j v hj hv => hsub.cell' (Cell.tl (Cell.row slotE_len hs hj hv))
  have next : ∀ (S : SH), Sub T S → ∀ free', findM ss key m ((n + 1) % ss.length) free' = some r → table_Table_find_b6 again R (some ⟨tb, 0, none⟩) key (n : Int) free' J S := by
    intro S hS free' hf'
    refine ⟨_, _, _, hS.cell' ct, bcase_dec (fun h0 => by omega) (fun _ => ⟨rfl, ?_⟩)⟩
    have := hag S free' hS hf'
    rw [Int.natCast_emod] at this
    rw [wrap_i64 (by omega) (by omega), Int.tmod_eq_emod_of_nonneg (by omega)]
    exact this
  refine ⟨_, _, _, ct, by omega, by omega, _, c 0 _ (by omega) rfl, _, c 1 _ (by omega) rfl, _, c 2 _ (by omega) rfl, _, c 3 _ (by omega) rfl, fun b8 => StP.at0 (by simp) rfl ?_⟩
  obtain ⟨k0, v0, l0, d0⟩ := s
  dsimp only at hf
  have hS : Sub T ((b8, .cells (setR #[.string ⟨#[]⟩, .int .i64 0, .bool false, .bool false] 0 [.string k0, .int .i64 v0, .bool l0, .bool d0]) 206 (0, 0)) :: T) := (Sub.refl T).skip _
  have hk0 : Cell J ((b8, .cells (setR #[.string ⟨#[]⟩, .int .i64 0, .bool false, .bool false] 0 [.string k0, .int .i64 v0, .bool l0, .bool d0]) 206 (0, 0)) :: T) ⟨b8, 0, none⟩ (.string k0) := Cell.at0 rfl
  have hl0 : Cell J ((b8, .cells (setR #[.string ⟨#[]⟩, .int .i64 0, .bool false, .bool false] 0 [.string k0, .int .i64 v0, .bool l0, .bool d0]) 206 (0, 0)) :: T) ⟨b8, 2, none⟩ (.bool l0) := Cell.at0 rfl
  have hd0 : Cell J ((b8, .cells (setR #[.string ⟨#[]⟩, .int .i64 0, .bool false, .bool false] 0 [.string k0, .int .i64 v0, .bool l0, .bool d0]) 206 (0, 0)) :: T) ⟨b8, 3, none⟩ (.bool d0) := Cell.at0 rfl
  generalize (b8, Obj.cells (setR #[.string ⟨#[]⟩, .int .i64 0, .bool false, .bool false] 0 [.string k0, .int .i64 v0, .bool l0, .bool d0]) 206 (0, 0)) :: T = S at hS hk0 hl0 hd0 ⊢
  have fin : ∀ x y, some (x, y) = some r → R (.tuple #[.int .i64 x, .bool y]) J S := by
    rintro x y h; injection h with h; subst h; exact hR S hS
  have b4 : ∀ kb : Bool, (l0 = true ∧ (k0.toList == key.toList) = true ↔ kb = true) → table_Table_find_b4 again R (some ⟨tb, 0, none⟩) key (n : Int) free ⟨b8, 0, none⟩ kb J S := by
    intro kb hkb
    cases kb with
    | true =>
      rw [if_pos (hkb.2 rfl)] at hf
      exact fin _ _ hf
    | false =>
      rw [if_neg (fun h => by have := hkb.1 h; cases this)] at hf
      refine ⟨_, hd0, ?_⟩
      by_cases hfr : free < 0
      · rw [decide_eq_true hfr]
        cases d0 with
        | true => rw [if_pos ⟨rfl, hfr⟩] at hf; exact next S hS _ hf
        | false =>
          rw [if_neg (fun h => by cases h.1)] at hf
          cases l0 with
          | true => rw [if_neg (fun h => by cases h.1)] at hf; exact ⟨_, hl0, _, hl0, next S hS _ hf⟩
          | false =>
            rw [if_pos ⟨rfl, rfl⟩, if_pos hfr] at hf
            refine ⟨_, hl0, _, hd0, ?_⟩
            rw [decide_eq_true hfr]
            exact fin _ _ hf
      · rw [decide_eq_false hfr]
        rw [if_neg (fun h => hfr h.2)] at hf
        cases l0 with
        | true =>
          rw [if_neg (fun h => by cases h.1)] at hf
          cases d0 <;> exact ⟨_, hl0, _, hl0, next S hS _ hf⟩
        | false =>
          cases d0 with
          | true => rw [if_neg (fun h => by cases h.2)] at hf; exact ⟨_, hl0, _, hd0, _, hl0, _, hd0, next S hS _ hf⟩
          | false =>
            rw [if_pos ⟨rfl, rfl⟩, if_neg hfr] at hf
            refine ⟨_, hl0, _, hd0, ?_⟩
            rw [decide_eq_false hfr]
            exact ⟨_, hl0, _, hd0, fin _ _ hf⟩
  refine ⟨_, hl0, ?_⟩
  cases l0 with
  | true => exact ⟨_, hk0, b4 (k0.toList == key.toList) (by simp)⟩
  | false => exact b4 false (by simp)

theorem hashM_bd (key : ByteArray) {n : Nat} (hn : 0 < n) : 0 ≤ hashM key (n : Int) ∧ hashM key (n : Int) < (n : Int) := by
  unfold hashM
  have hb := hashL_bd key.data.toList
  by_cases h1 : (n : Int) > 1
  · rw [if_pos h1]; exact ⟨Int.emod_nonneg _ (by omega), Int.emod_lt_of_pos _ (by omega)⟩
  · rw [if_neg h1]; simp; omega

theorem find_runs (tb sb : Nat) (ss : List Slot) (live full : Int) (key : ByteArray) (k : Nat) (r : Int × Bool) (hn : 0 < ss.length) (hl : ss.length ≤ 1099511627776) (hk : key.size ≤ 9223372036854775807)
    (h : findM ss key k (hashM key (ss.length : Int)).toNat (-1) = some r) (I : IMem) (F : SH) :
    Runs Tryz.prog 112 #[.pointer (some ⟨tb, 0, none⟩), .string key] I (tabB xm tb (some ⟨sb, 0, none⟩) ss.length live full :: sloB sb ss :: F)
      fun v J T => v = .tuple #[.int .i64 r.1, .bool r.2] ∧ T = tabB xm tb (some ⟨sb, 0, none⟩) ss.length live full :: sloB sb ss :: F := by
  refine Runs.drop (table_Table_find_fn _ _ _ _ _ ?_)
  have hh := hashM_bd key hn
  refine ⟨fun m t' key' i free J T => t' = some ⟨tb, 0, none⟩ ∧ key' = key ∧ Sub (tabB xm tb (some ⟨sb, 0, none⟩) ss.length live full :: sloB sb ss :: F) T ∧ ∃ n : Nat, i = (n : Int) ∧ n < ss.length ∧ findM ss key m n free = some r, ?_, ?_⟩
  · refine ⟨_, _, _, Cell.at0 rfl, ?_⟩
    refine (Hash_runs key _ (by omega) hk I _).mono ?_
    rintro v J T hle ⟨rfl, rfl⟩
    exact ⟨_, rfl, k, rfl, rfl, Sub.refl _, (hashM key (ss.length : Int)).toNat, by omega, by omega, h⟩
  · rintro m t' key' i free J T hle0 ⟨rfl, rfl, hsub, n, rfl, hlt, hf⟩
    cases m with
    | zero => simp [findM] at hf
    | succ m =>
      exact find_round hlt hl hsub hf (fun S free' hS hf' => ⟨m, by omega, rfl, rfl, hsub.trans hS, _, rfl, Nat.mod_lt _ hn, hf'⟩) (fun S hS => ⟨_, hsub.trans hS, rfl, rfl⟩)
end Go.Proofs.YtoiilcdaldnjfaaGreatDoor.Tb
/- The table's methods that change it. -/
set_option linter.unusedVariables false
set_option linter.unusedSimpArgs false
namespace Go.Proofs.YtoiilcdaldnjfaaGreatDoor.Tb
open Go.Px
variable {xm : Nat}

def noSlot : Slot := ⟨⟨#[]⟩, 0, false, false⟩
def findF (ss : List Slot) (key : ByteArray) : Option (Int × Bool) := findM ss key ss.length (hashM key (ss.length : Int)).toNat (-1)
structure Tbl where
  ss : List Slot
  live : Nat
  full : Nat
def TabO (xm tb : Nat) (t : Tbl) (own : SH) : Prop :=
  (t.ss = [] ∧ own = [tabB xm tb none 0 t.live t.full]) ∨ ∃ sb, t.ss ≠ [] ∧ own = [tabB xm tb (some ⟨sb, 0, none⟩) t.ss.length t.live t.full, sloB sb t.ss]
def growM : List Slot → List Slot → Option (List Slot)
  | [], new => some new
  | s :: r, new => if s.live = true then (match findF new s.key with
      | some (a, _) => if 0 ≤ a ∧ a < (new.length : Int) then growM r (new.set a.toNat s) else none
      | none => none)
    else growM r new
def small (ss : List Slot) : Prop := ∀ s ∈ ss, s.key.size ≤ 9223372036854775807

theorem grow_round {again : Option Addr → Option Addr → Nat → Nat → Int → Int → IMem → SH → Prop} {R : Value → IMem → SH → Prop} {tb nb : Nat} {oldA : Option Addr} {old new fin : List Slot} {live : Nat} {Old F T : SH} {J : IMem} {i oc : Nat}
    (hlen : new.length ≤ 1099511627776) (h0 : 0 < new.length) (hol : old.length ≤ 1099511627776) (hsm : small old)
    (hold : ∀ i s, old[i]? = some s → ∃ x, oldA = some x ∧ ∀ j v, j < 4 → (slotE s)[j]? = some v → Cell J Old ((x.add (i * 4)).add j) v)
    (hsub : Sub (tabB xm tb (some ⟨nb, 0, none⟩) new.length live live :: sloB nb new :: (Old ++ F)) T) (hi : i ≤ old.length) (hg : growM (old.drop i) new = some fin)
    (hag : ∀ J' S new', J.le J' → i < old.length → new'.length = new.length → Sub (tabB xm tb (some ⟨nb, 0, none⟩) new.length live live :: sloB nb new' :: (Old ++ F)) S → growM (old.drop (i + 1)) new' = some fin →
      again (some ⟨tb, 0, none⟩) oldA old.length oc (old.length : Int) ((i + 1 : Nat) : Int) J' S)
    (hR : i = old.length → new = fin → R (.tuple #[]) J T) : table_Table_grow_l4 again R (some ⟨tb, 0, none⟩) oldA old.length oc (old.length : Int) (i : Int) J T := by
  refine bcase_dec (fun hlt => ?_) (fun hge => ?_)
  · have hlt : i < old.length := by omega
    obtain ⟨s, hs⟩ : ∃ s, old[i]? = some s := ⟨_, List.getElem?_eq_getElem hlt⟩
    obtain ⟨x, rfl, hx⟩ := hold i s hs
    have hdrop : old.drop i = s :: old.drop (i + 1) := by
      rw [List.drop_eq_getElem_cons hlt]
      rw [List.getElem?_eq_getElem hlt] at hs; injection hs with hs; rw [hs]
    rw [hdrop] at hg
    have hksz : s.key.size ≤ 9223372036854775807 := hsm s (List.mem_of_getElem? hs)
    have c : ∀ j v, j < 4 → (slotE s)[j]? = some v → Cell J T ((x.add ((i : Int).toNat * 4)).add j) v := fun j v hj hv =>
      hsub.cell' (Cell.tl (Cell.tl (Cell.app (hx j v hj hv))))
    have b8 : ∀ J' S new', J.le J' → new'.length = new.length → Sub (tabB xm tb (some ⟨nb, 0, none⟩) new.length live live :: sloB nb new' :: (Old ++ F)) S → growM (old.drop (i + 1)) new' = some fin →
        table_Table_grow_b8 again R (some ⟨tb, 0, none⟩) (some x) old.length oc (old.length : Int) (i : Int) J' S := by
      intro J' S new' hle hn hS hg'
      have := hag J' S new' hle hlt hn hS hg'
      rw [table_Table_grow_b8, wrap_i64 (by omega) (by omega)]
      exact this
    refine ⟨by omega, by omega, _, c 0 _ (by omega) rfl, _, c 1 _ (by omega) rfl, _, c 2 _ (by omega) rfl, _, c 3 _ (by omega) rfl, fun b4 => StP.at0 (by simp) rfl ⟨_, Cell.at0 rfl, ?_⟩⟩
    obtain ⟨k0, v0, l0, d0⟩ := s
    dsimp only at hksz
    have hS : Sub (tabB xm tb (some ⟨nb, 0, none⟩) new.length live live :: sloB nb new :: (b4, Obj.cells #[.string k0, .int .i64 v0, .bool l0, .bool d0] 206 (0, 0)) :: (Old ++ F))
        ((b4, .cells (setR #[.string ⟨#[]⟩, .int .i64 0, .bool false, .bool false] 0 [.string k0, .int .i64 v0, .bool l0, .bool d0]) 206 (0, 0)) :: T) :=
      (hsub.cons (b4, Obj.cells #[.string k0, .int .i64 v0, .bool l0, .bool d0] 206 (0, 0))).perm ((List.Perm.swap ..).trans ((List.Perm.swap ..).cons _))
    generalize (b4, Obj.cells (setR #[.string ⟨#[]⟩, .int .i64 0, .bool false, .bool false] 0 [.string k0, .int .i64 v0, .bool l0, .bool d0]) 206 (0, 0)) :: T = S at hS ⊢
    cases l0 with
    | false =>
      exact b8 J S new (IMem.le.refl J) rfl (hS.perm ((((List.Perm.swap ..).symm.cons _).trans (List.Perm.swap ..)))).drop hg
    | true =>
      simp only [growM, if_true] at hg
      cases hf : findF new k0 with
      | none => rw [hf] at hg; cases hg
      | some r =>
        rw [hf] at hg
        obtain ⟨a, bb⟩ := r
        simp only at hg
        split at hg
        · rename_i hab
          refine ⟨_, hS.cell' (Cell.tl (Cell.tl (Cell.at0 rfl))), ?_⟩
          refine Runs.use hS (find_runs tb nb new live live k0 new.length (a, bb) h0 hlen hksz hf J _) ?_
          rintro v J' T' hle ⟨rfl, rfl⟩
          refine ⟨_, _, rfl, _, _, _, Cell.at0 rfl, _, Cell.tl (Cell.tl (Cell.at0 rfl)), _, Cell.tl (Cell.tl (Cell.at0 rfl)), _, Cell.tl (Cell.tl (Cell.at0 rfl)), _, Cell.tl (Cell.tl (Cell.at0 rfl)), hab.1, hab.2, ?_⟩
          have hai : a.toNat < new.length := by omega
          refine StP.tl (StP.row (x := ⟨k0, v0, true, d0⟩) slotE_len slotE_one hai (rowA_set slotE_len _ hai) ?_)
          refine b8 J' _ (new.set a.toNat ⟨k0, v0, true, d0⟩) hle (by simp) ?_ hg
          exact (Sub.refl _).perm ((((List.Perm.swap ..).symm.cons _).trans (List.Perm.swap ..))) |>.drop
        · cases hg
  · have : i = old.length := by omega
    subst this
    rw [List.drop_length] at hg
    injection hg with hg
    exact hR rfl hg

def growN (live : Nat) : Nat := if 4 * live > 8 then 4 * live else 8
theorem growN_pos (live : Nat) : 0 < growN live := by unfold growN; split <;> omega

theorem grow_runs (tb : Nat) (t : Tbl) (own : SH) (ho : TabO xm tb t own) (hl : t.live ≤ 17179869184) (hn : t.ss.length ≤ 1099511627776) (hsm : small t.ss) (fin : List Slot)
    (hg : growM t.ss (List.replicate (growN t.live) noSlot) = some fin) (I : IMem) (F : SH) :
    Runs Tryz.prog 111 #[.pointer (some ⟨tb, 0, none⟩)] I (own ++ F) fun v J T => v = .tuple #[] ∧ ∃ sb, T = tabB xm tb (some ⟨sb, 0, none⟩) fin.length t.live t.live :: sloB sb fin :: F := by
  refine Runs.drop (table_Table_grow_fn _ _ _ _ ?_)
  obtain ⟨oldA, Old, hown, hold⟩ : ∃ oldA Old, own = tabB xm tb oldA t.ss.length t.live t.full :: Old ∧
      ∀ i s, t.ss[i]? = some s → ∃ x, oldA = some x ∧ ∀ J j v, j < 4 → (slotE s)[j]? = some v → Cell J Old ((x.add (i * 4)).add j) v := by
    rcases ho with ⟨h1, h2⟩ | ⟨sb, h1, h2⟩
    · refine ⟨none, [], by rw [h2, h1]; rfl, fun i s h => by rw [h1] at h; simp at h⟩
    · exact ⟨some ⟨sb, 0, none⟩, [sloB sb t.ss], h2, fun i s h => ⟨_, rfl, fun J j v hj hv => Cell.row slotE_len h hj hv⟩⟩
  subst hown
  refine ⟨_, _, _, Cell.at0 rfl, _, Cell.at0 rfl, _, Cell.at0 rfl, ?_⟩
  have hN : (if (IntKind.wrap .i64 ((4 : Int) * (t.live : Int))) > (8 : Int) then (IntKind.wrap .i64 ((4 : Int) * (t.live : Int))) else (8 : Int)) = (growN t.live : Int) := by
    rw [wrap_i64 (by omega) (by omega)]; unfold growN; split <;> split <;> omega
  rw [hN]
  have hNb : growN t.live ≤ 1099511627776 := by unfold growN; split <;> omega
  have hNp := growN_pos t.live
  refine ⟨by omega, by omega, by omega, by omega, fun nb => ⟨(Sub.refl _).skip _ |>.keep (IMem.le.refl I), StP.tl (StP.at0 (by simp) rfl (StP.tl (StP.at0 (by simp [setR]) rfl ?_)))⟩⟩
  rw [Int.toNat_natCast]
  have hrep : (repV (growN t.live) [.string ⟨#[]⟩, .int .i64 0, .bool false, .bool false]).toArray = rowA slotE (List.replicate (growN t.live) noSlot) := rowA_rep (enc := slotE) _ noSlot
  rw [hrep]
  have hlen : (List.replicate (growN t.live) noSlot).length = growN t.live := by simp
  have start : Sub (tabB xm tb (some ⟨nb, 0, none⟩) (growN t.live) t.live t.live :: sloB nb (List.replicate (growN t.live) noSlot) :: (Old ++ F))
      ((nb, .cells (rowA slotE (List.replicate (growN t.live) noSlot)) 206 (0, 0)) :: (tb, .cells (setR (setR #[.slice oldA t.ss.length t.ss.length, .int .i64 t.live, .int .i64 t.full, .map (some xm)] 0 [.slice (some ⟨nb, 0, none⟩) (growN t.live) (growN t.live)]) (0 + 2) [.int .i64 t.live]) 130 (0, 0)) :: (Old ++ F)) :=
    (Sub.refl _).perm (List.Perm.swap ..)
  refine ⟨fun m t' x28 x28n x28c x29 x30 J T => t' = some ⟨tb, 0, none⟩ ∧ x28 = oldA ∧ x28n = t.ss.length ∧ x29 = (t.ss.length : Int) ∧ ∃ (i : Nat) (new : List Slot), x30 = (i : Int) ∧ i ≤ t.ss.length ∧ m + i = t.ss.length ∧ new.length = growN t.live ∧
    growM (t.ss.drop i) new = some fin ∧ Sub (tabB xm tb (some ⟨nb, 0, none⟩) (growN t.live) t.live t.live :: sloB nb new :: (Old ++ F)) T, t.ss.length, ⟨rfl, rfl, rfl, rfl, 0, _, rfl, Nat.zero_le _, rfl, hlen, hg, start⟩, ?_⟩
  rintro m t' x28 x28n x28c x29 x30 J T _ ⟨rfl, rfl, rfl, rfl, i, new, rfl, hi, hm, hnl, hg', hs⟩
  rw [← hnl] at hs
  refine grow_round (by omega) (by omega) hn hsm (fun i s h => by obtain ⟨x, hx, hc⟩ := hold i s h; exact ⟨x, hx, fun j v hj hv => hc _ j v hj hv⟩) hs hi hg' ?_ ?_
  · intro J' S new' _ hlt hn' hS hg''
    exact ⟨m - 1, by omega, rfl, rfl, rfl, rfl, i + 1, new', rfl, by omega, by omega, by omega, hg'', by rw [← hnl]; exact hS⟩
  · intro he hf
    subst hf
    exact ⟨_, (hs.perm ((List.perm_append_comm (l₁ := Old) (l₂ := F)).cons _ |>.cons _)).left (L := tabB xm tb (some ⟨nb, 0, none⟩) new.length t.live t.live :: sloB nb new :: F) (M := Old) |> (by simpa using ·), rfl, nb, rfl⟩

theorem Len_runs (tb : Nat) (t : Tbl) (own : SH) (ho : TabO xm tb t own) (I : IMem) (F : SH) :
    Runs Tryz.prog 73 #[.pointer (some ⟨tb, 0, none⟩)] I (own ++ F) fun v J T => v = .int .i64 (t.live : Int) ∧ T = own ++ F := by
  refine table_Table_Len_fn _ _ _ _ ?_
  rcases ho with ⟨h1, rfl⟩ | ⟨sb, h1, rfl⟩
  · exact ⟨_, Cell.at0 rfl, rfl, rfl⟩
  · exact ⟨_, Cell.at0 rfl, rfl, rfl⟩
end Go.Proofs.YtoiilcdaldnjfaaGreatDoor.Tb
/- The table's methods: Put, Get, Del. -/
set_option linter.unusedVariables false
set_option linter.unusedSimpArgs false
namespace Go.Proofs.YtoiilcdaldnjfaaGreatDoor.Tb
open Go.Px
variable {xm : Nat}

def grownM (t : Tbl) : Option Tbl := if 2 * (t.full + 1) > t.ss.length then (growM t.ss (List.replicate (growN t.live) noSlot)).map fun new => ⟨new, t.live, t.live⟩ else some t
def putAt (t : Tbl) (key : ByteArray) (value : Int) : Option (Tbl × Bool) := match findF t.ss key with
  | none => none
  | some (a, is) => match t.ss[a.toNat]? with
    | none => none
    | some s => if 0 ≤ a then some (⟨t.ss.set a.toNat ⟨key, value, true, false⟩, if is then t.live else t.live + 1, if is then t.full else if s.dead then t.full else t.full + 1⟩, !is) else none
def putM (t : Tbl) (key : ByteArray) (value : Int) : Option (Tbl × Bool) := (grownM t).bind fun t => putAt t key value
def getM (t : Tbl) (key : ByteArray) : Option (Int × Bool) := if t.ss = [] then some (0, false) else match findF t.ss key with
  | none => none
  | some (a, is) => if is then (match t.ss[a.toNat]? with | some s => if 0 ≤ a then some (s.value, true) else none | none => none) else some (0, false)
def delM (t : Tbl) (key : ByteArray) : Option (Tbl × Bool) := if t.ss = [] then some (t, false) else match findF t.ss key with
  | none => none
  | some (a, is) => if is then (if 0 ≤ a ∧ a < (t.ss.length : Int) then some (⟨t.ss.set a.toNat ⟨⟨#[]⟩, 0, false, true⟩, t.live - 1, t.full⟩, true) else none) else some (t, false)

def TabS (xm tb sb : Nat) (t : Tbl) (F : SH) : SH := tabB xm tb (some ⟨sb, 0, none⟩) t.ss.length t.live t.full :: sloB sb t.ss :: F
structure Tbl.Ok (t : Tbl) : Prop where
  live : t.live ≤ 17179869184
  full : t.full ≤ 17179869184
  len : t.ss.length ≤ 1099511627776
  keys : small t.ss

theorem put_b3 {R : Value → IMem → SH → Prop} {tb sb : Nat} {t t' : Tbl} {key : ByteArray} {value : Int} {r : Bool} {I : IMem} {F : SH} (ht : t.ss ≠ []) (hok : t.Ok) (hk : key.size ≤ 9223372036854775807)
    (h : putAt t key value = some (t', r)) (hR : ∀ J, I.le J → R (.bool r) J (TabS xm tb sb t' F)) : table_Table_Put_b3 R (some ⟨tb, 0, none⟩) key value I (TabS xm tb sb t F) := by
  have hpos : 0 < t.ss.length := List.length_pos_iff.2 ht
  have hl := hok.live
  have hfu := hok.full
  unfold putAt at h
  split at h
  · cases h
  · rename_i a is hf
    split at h
    · cases h
    · rename_i s hs
      split at h
      · rename_i ha
        injection h with h
        injection h with h1 h2
        have hlt : a.toNat < t.ss.length := by
          rcases Nat.lt_or_ge a.toNat t.ss.length with h | h
          · exact h
          · rw [List.getElem?_eq_none h] at hs; cases hs
        refine (find_runs tb sb t.ss t.live t.full key t.ss.length (a, is) hpos hok.len hk hf I F).mono ?_
        rintro v J T hle ⟨rfl, rfl⟩
        refine ⟨_, _, rfl, ?_⟩
        have b4 : ∀ (live full : Nat) , t' = ⟨t.ss.set a.toNat ⟨key, value, true, false⟩, live, full⟩ → table_Table_Put_b4 R (some ⟨tb, 0, none⟩) key value a is J (tabB xm tb (some ⟨sb, 0, none⟩) t.ss.length live full :: sloB sb t.ss :: F) := by
          intro live full e
          refine ⟨_, _, _, Cell.at0 rfl, by omega, by omega, StP.tl (StP.row (x := ⟨key, value, true, false⟩) slotE_len slotE_one hlt (rowA_set slotE_len _ hlt) ?_)⟩
          rw [h2]
          have := hR J hle
          rw [e] at this
          simpa [TabS, tabB, sloB] using this
        cases is with
        | true => exact b4 t.live t.full (by rw [← h1]; simp)
        | false =>
          refine ⟨_, Cell.at0 rfl, StP.at0 (by simp) rfl ⟨_, _, _, Cell.at0 rfl, by omega, by omega, _, Cell.tl (Cell.row slotE_len hs (by omega) rfl), ?_⟩⟩
          have e1 : IntKind.wrap .i64 ((t.live : Int) + 1) = ((t.live + 1 : Nat) : Int) := by rw [wrap_i64 (by omega) (by omega)]; rfl
          have e2 : IntKind.wrap .i64 ((t.full : Int) + 1) = ((t.full + 1 : Nat) : Int) := by rw [wrap_i64 (by omega) (by omega)]; rfl
          dsimp only at h1 ⊢
          rw [e1]
          cases hd : s.dead with
          | true => exact b4 (t.live + 1) t.full (by rw [← h1]; simp [hd])
          | false =>
            refine ⟨_, Cell.at0 rfl, StP.at0 (by simp [setR]) rfl ?_⟩
            rw [e2]
            exact b4 (t.live + 1) (t.full + 1) (by rw [← h1]; simp [hd])
      · cases h

theorem Put_runs (tb : Nat) (t t' : Tbl) (own : SH) (ho : TabO xm tb t own) (hok : t.Ok) (hg : ∀ t1, grownM t = some t1 → t1.Ok ∧ t1.ss ≠ []) (key : ByteArray) (value : Int) (r : Bool) (hk : key.size ≤ 9223372036854775807)
    (h : putM t key value = some (t', r)) (I : IMem) (F : SH) :
    Runs Tryz.prog 85 #[.pointer (some ⟨tb, 0, none⟩), .string key, .int .i64 value] I (own ++ F) fun v J T => v = .bool r ∧ ∃ own', TabO xm tb t' own' ∧ T = own' ++ F := by
  have hl := hok.live
  have hfu := hok.full
  have hne : ∀ t1, grownM t = some t1 → putAt t1 key value = some (t', r) → t'.ss ≠ [] := by
    intro t1 h1 h2
    have := (hg t1 h1).2
    unfold putAt at h2
    split at h2
    · cases h2
    · split at h2
      · cases h2
      · split at h2
        · injection h2 with h2; injection h2 with h2 _; rw [← h2]; simpa using this
        · cases h2
  obtain ⟨t1, h1, h2⟩ := Option.bind_eq_some_iff.1 h
  have fin : ∀ sb J, (fun v J T => v = .bool r ∧ ∃ own', TabO xm tb t' own' ∧ T = own' ++ F : Value → IMem → SH → Prop) (.bool r) J (TabS xm tb sb t' F) := fun sb J => ⟨rfl, _, .inr ⟨sb, hne t1 h1 h2, rfl⟩, rfl⟩
  refine table_Table_Put_fn _ _ _ _ _ _ ?_
  obtain ⟨oldA, own0, hown⟩ : ∃ oldA own0, own = tabB xm tb oldA t.ss.length t.live t.full :: own0 := by
    rcases ho with ⟨h1, h2⟩ | ⟨sb, h1, h2⟩
    · exact ⟨none, [], by rw [h2, h1]; rfl⟩
    · exact ⟨_, _, h2⟩
  have c0 : Cell I (own ++ F) ⟨tb, 2, none⟩ (.int .i64 (t.full : Int)) := by rw [hown]; exact Cell.at0 rfl
  have c1 : Cell I (own ++ F) ⟨tb, 0, none⟩ (.slice oldA t.ss.length t.ss.length) := by rw [hown]; exact Cell.at0 rfl
  refine ⟨_, c0, _, _, _, c1, ?_⟩
  rw [wrap_i64 (x := (t.full : Int) + 1) (by omega) (by omega), wrap_i64 (by omega) (by omega)]
  refine bcase_dec (fun hgt => ?_) (fun hle => ?_)
  · unfold grownM at h1
    rw [if_pos (by omega)] at h1
    obtain ⟨fin', hgm, rfl⟩ := Option.map_eq_some_iff.1 h1
    refine (grow_runs tb t own ho hl hok.len hok.keys fin' hgm I F).mono ?_
    rintro v J T hle ⟨rfl, sb, rfl⟩
    obtain ⟨ok1, ne1⟩ := hg _ (by unfold grownM; rw [if_pos (by omega), hgm]; rfl)
    exact ⟨rfl, put_b3 (sb := sb) (F := F) ne1 ok1 hk h2 (fun J' _ => fin sb J')⟩
  · unfold grownM at h1
    rw [if_neg (by omega)] at h1
    injection h1 with h1
    subst h1
    rcases ho with ⟨e1, e2⟩ | ⟨sb, e1, e2⟩
    · rw [e1] at hle; simp at hle; omega
    · rw [e2]
      exact put_b3 (sb := sb) (F := F) e1 hok hk h2 (fun J' _ => fin sb J')

theorem Get_runs (tb : Nat) (t : Tbl) (own : SH) (ho : TabO xm tb t own) (hok : t.Ok) (key : ByteArray) (r : Int × Bool) (hk : key.size ≤ 9223372036854775807) (h : getM t key = some r) (I : IMem) (F : SH) :
    Runs Tryz.prog 99 #[.pointer (some ⟨tb, 0, none⟩), .string key] I (own ++ F) fun v J T => v = .tuple #[.int .i64 r.1, .bool r.2] ∧ T = own ++ F := by
  refine table_Table_Get_fn _ _ _ _ _ ?_
  unfold getM at h
  rcases ho with ⟨e1, rfl⟩ | ⟨sb, e1, rfl⟩
  · rw [if_pos e1] at h
    injection h with h; subst h
    refine ⟨_, _, _, Cell.at0 rfl, rfl, rfl⟩
  · rw [if_neg e1] at h
    have hpos : 0 < t.ss.length := List.length_pos_iff.2 e1
    refine ⟨_, _, _, Cell.at0 rfl, bcase_beq (fun h0 => by omega) (fun _ => ?_)⟩
    split at h
    · cases h
    · rename_i a is hf
      refine (find_runs tb sb t.ss t.live t.full key t.ss.length (a, is) hpos hok.len hk hf I F).mono ?_
      rintro v J T hle ⟨rfl, rfl⟩
      refine ⟨_, _, rfl, ?_⟩
      cases is with
      | false => simp at h; subst h; exact ⟨rfl, rfl⟩
      | true =>
        simp only [if_true] at h
        split at h
        · rename_i s hs
          split at h
          · rename_i ha
            injection h with h; subst h
            have hlt : a.toNat < t.ss.length := by
              rcases Nat.lt_or_ge a.toNat t.ss.length with h | h
              · exact h
              · rw [List.getElem?_eq_none h] at hs; cases hs
            exact ⟨_, _, _, Cell.at0 rfl, by omega, by dsimp only; omega, _, Cell.tl (Cell.row slotE_len hs (by omega) rfl), rfl, rfl⟩
          · cases h
        · cases h

theorem Del_runs (tb : Nat) (t t' : Tbl) (own : SH) (ho : TabO xm tb t own) (hok : t.Ok) (key : ByteArray) (r : Bool) (hk : key.size ≤ 9223372036854775807) (hlv : r = true → 0 < t.live) (h : delM t key = some (t', r)) (I : IMem) (F : SH) :
    Runs Tryz.prog 90 #[.pointer (some ⟨tb, 0, none⟩), .string key] I (own ++ F) fun v J T => v = .bool r ∧ ∃ own', TabO xm tb t' own' ∧ T = own' ++ F := by
  have hl := hok.live
  refine table_Table_Del_fn _ _ _ _ _ ?_
  unfold delM at h
  rcases ho with ⟨e1, rfl⟩ | ⟨sb, e1, rfl⟩
  · rw [if_pos e1] at h
    injection h with h; injection h with h1 h2; subst h1; subst h2
    exact ⟨_, _, _, Cell.at0 rfl, rfl, _, .inl ⟨e1, rfl⟩, rfl⟩
  · rw [if_neg e1] at h
    have hpos : 0 < t.ss.length := List.length_pos_iff.2 e1
    refine ⟨_, _, _, Cell.at0 rfl, bcase_beq (fun h0 => by omega) (fun _ => ?_)⟩
    split at h
    · cases h
    · rename_i a is hf
      refine (find_runs tb sb t.ss t.live t.full key t.ss.length (a, is) hpos hok.len hk hf I F).mono ?_
      rintro v J T hle ⟨rfl, rfl⟩
      refine ⟨_, _, rfl, ?_⟩
      cases is with
      | false => simp at h; obtain ⟨rfl, rfl⟩ := h; exact ⟨rfl, _, .inr ⟨sb, e1, rfl⟩, rfl⟩
      | true =>
        simp only [if_true] at h
        split at h
        · rename_i hab
          injection h with h; injection h with h1 h2; subst h1; subst h2
          have hlt : a.toNat < t.ss.length := by omega
          have h1 := hlv rfl
          refine ⟨_, _, _, Cell.at0 rfl, hab.1, hab.2, StP.tl (StP.row (x := ⟨⟨#[]⟩, 0, false, true⟩) slotE_len slotE_one hlt (rowA_set slotE_len _ hlt) ?_)⟩
          refine ⟨_, Cell.at0 rfl, StP.at0 (by simp) rfl ?_⟩
          have e : IntKind.wrap .i64 ((t.live : Int) - 1) = ((t.live - 1 : Nat) : Int) := by rw [wrap_i64 (by omega) (by omega)]; omega
          rw [e]
          refine ⟨rfl, _, .inr ⟨sb, by simpa using e1, rfl⟩, ?_⟩
          simp [tabB, sloB]
          rfl
        · cases h
end Go.Proofs.YtoiilcdaldnjfaaGreatDoor.Tb
/- The plain law of the table: slots, open addressing, and what a finite map says. -/
set_option linter.unusedVariables false
set_option linter.unusedSimpArgs false
namespace Go.Proofs.YtoiilcdaldnjfaaGreatDoor.Tb
open Go.Px
variable {xm : Nat}

def Slot.nonE (s : Slot) : Bool := s.live || s.dead
def ne (ss : List Slot) : Nat := ss.countP Slot.nonE
def lv (ss : List Slot) : Nat := ss.countP Slot.live
def pos (key : ByteArray) (n d : Nat) : Nat := ((hashM key (n : Int)).toNat + d) % n
theorem pos_lt (key : ByteArray) {n : Nat} (hn : 0 < n) (d : Nat) : pos key n d < n := Nat.mod_lt _ hn
theorem pos_succ (key : ByteArray) (n d : Nat) : (pos key n d + 1) % n = pos key n (d + 1) := by simp [pos, Nat.add_assoc]
theorem pos_zero (key : ByteArray) {n : Nat} (hn : 0 < n) : pos key n 0 = (hashM key (n : Int)).toNat := by
  have := hashM_bd key hn
  unfold pos; rw [Nat.add_zero, Nat.mod_eq_of_lt (by omega)]
theorem pos_onto (key : ByteArray) {n : Nat} (hn : 0 < n) {i : Nat} (hi : i < n) : ∃ d, d < n ∧ pos key n d = i := by
  have h1 := (hashM_bd key hn).2
  have h0 := (hashM_bd key hn).1
  generalize hh : (hashM key (n : Int)).toNat = h at *
  have hlt : h < n := by omega
  refine ⟨(i + (n - h)) % n, Nat.mod_lt _ hn, ?_⟩
  unfold pos
  rw [hh, Nat.add_mod_mod, show h + (i + (n - h)) = i + n by omega, Nat.add_mod_right, Nat.mod_eq_of_lt hi]
theorem keq {a b : ByteArray} : (a.toList == b.toList) = true ↔ a = b := by
  simp only [ByteArray.toList_eq, beq_iff_eq]
  constructor
  · intro h; apply ByteArray.ext; exact Array.toList_inj.1 h
  · rintro rfl; rfl

structure Good (ss : List Slot) : Prop where
  kinds : ∀ (i : Nat) (s : Slot), ss[i]? = some s → s.live = true → s.dead = true → False
  uniq : ∀ (i j : Nat) (s u : Slot), ss[i]? = some s → ss[j]? = some u → s.live = true → u.live = true → s.key = u.key → i = j
  reach : ∀ (i : Nat) (s : Slot), ss[i]? = some s → s.live = true → ∃ d, pos s.key ss.length d = i ∧ ∀ d', d' < d → ∃ u : Slot, ss[pos s.key ss.length d']? = some u ∧ u.nonE = true
  keys : small ss

theorem find_spec {ss : List Slot} (hk : ∀ (i : Nat) (s : Slot), ss[i]? = some s → s.live = true → s.dead = true → False) (key : ByteArray) : ∀ (k d e : Nat) (free : Int), d ≤ e → e - d < k → (∃ s : Slot, ss[pos key ss.length e]? = some s ∧ s.nonE = false) →
    (∀ g, d ≤ g → g < e → ∃ s : Slot, ss[pos key ss.length g]? = some s ∧ s.nonE = true) →
    (∃ (g : Nat) (s : Slot), d ≤ g ∧ g < e ∧ ss[pos key ss.length g]? = some s ∧ s.live = true ∧ s.key = key ∧ findM ss key k (pos key ss.length d) free = some (((pos key ss.length g : Nat) : Int), true)) ∨
    ((∀ (g : Nat) (s : Slot), d ≤ g → g < e → ss[pos key ss.length g]? = some s → s.live = true → s.key = key → False) ∧
      ∃ r, findM ss key k (pos key ss.length d) free = some (r, false) ∧ (0 ≤ free → r = free) ∧
        (free < 0 → ∃ (g : Nat) (s : Slot), d ≤ g ∧ g ≤ e ∧ r = ((pos key ss.length g : Nat) : Int) ∧ ss[pos key ss.length g]? = some s ∧ s.live = false ∧ ∀ g', d ≤ g' → g' < g → ∃ u : Slot, ss[pos key ss.length g']? = some u ∧ u.nonE = true)) := by
  intro k
  induction k with
  | zero => intro d e free _ h; omega
  | succ k ih =>
    intro d e free hde hlt hE hN
    by_cases he : d = e
    · subst he
      obtain ⟨s, hs, hs0⟩ := hE
      simp only [Slot.nonE, Bool.or_eq_false_iff] at hs0
      refine .inr ⟨fun g s h1 h2 => by omega, ?_⟩
      simp only [findM, hs, hs0.1, hs0.2]
      by_cases hf : free < 0
      · exact ⟨_, by simp [hf], fun h => by omega, fun _ => ⟨d, s, Nat.le_refl _, Nat.le_refl _, rfl, hs, hs0.1, fun g' h1 h2 => by omega⟩⟩
      · exact ⟨free, by simp [hf], fun _ => rfl, fun h => absurd h hf⟩
    · obtain ⟨s, hs, hs1⟩ := hN d (Nat.le_refl _) (by omega)
      have again := fun free' => ih (d + 1) e free' (by omega) (by omega) hE (fun g h1 h2 => hN g (by omega) h2)
      simp only [findM, hs]
      by_cases hm : s.live = true ∧ (s.key.toList == key.toList) = true
      · rw [if_pos hm]
        exact .inl ⟨d, s, Nat.le_refl _, by omega, hs, hm.1, keq.1 hm.2, rfl⟩
      · rw [if_neg hm]
        have nom : s.live = true → s.key = key → False := fun h1 h2 => hm ⟨h1, keq.2 h2⟩
        rw [pos_succ]
        have left : ∀ free', (∃ (g : Nat) (s : Slot), d + 1 ≤ g ∧ g < e ∧ ss[pos key ss.length g]? = some s ∧ s.live = true ∧ s.key = key ∧ findM ss key k (pos key ss.length (d + 1)) free' = some (((pos key ss.length g : Nat) : Int), true)) →
            ∃ (g : Nat) (s : Slot), d ≤ g ∧ g < e ∧ ss[pos key ss.length g]? = some s ∧ s.live = true ∧ s.key = key ∧ findM ss key k (pos key ss.length (d + 1)) free' = some (((pos key ss.length g : Nat) : Int), true) :=
          fun _ ⟨g, s, h1, h2⟩ => ⟨g, s, by omega, h2⟩
        have none_ : (∀ (g : Nat) (s : Slot), d + 1 ≤ g → g < e → ss[pos key ss.length g]? = some s → s.live = true → s.key = key → False) → ∀ (g : Nat) (s : Slot), d ≤ g → g < e → ss[pos key ss.length g]? = some s → s.live = true → s.key = key → False := by
          intro h g u h1 h2 h3 h4 h5
          by_cases hg : g = d
          · subst hg; rw [hs] at h3; injection h3 with h3; subst h3; exact nom h4 h5
          · exact h g u (by omega) h2 h3 h4 h5
        by_cases hd : s.dead = true ∧ free < 0
        · rw [if_pos hd]
          have hl : s.live = false := by cases hlv : s.live with
            | false => rfl
            | true => exact (hk _ s hs hlv hd.1).elim
          rcases again ((pos key ss.length d : Nat) : Int) with h | ⟨h1, r, h2, h3, _⟩
          · exact .inl (left _ h)
          · exact .inr ⟨none_ h1, r, h2, fun h => by omega, fun _ => ⟨d, s, Nat.le_refl _, hde, h3 (by omega), hs, hl, fun g' h1 h2 => by omega⟩⟩
        · rw [if_neg hd]
          have hne : ¬ (s.live = false ∧ s.dead = false) := by
            rintro ⟨h1, h2⟩; simp [Slot.nonE, h1, h2] at hs1
          rw [if_neg hne]
          rcases again free with h | ⟨h1, r, h2, h3, h4⟩
          · exact .inl (left _ h)
          · refine .inr ⟨none_ h1, r, h2, h3, fun hf => ?_⟩
            obtain ⟨g, u, g1, g2, g3, g4, g5, g6⟩ := h4 hf
            refine ⟨g, u, by omega, g2, g3, g4, g5, fun g' h1 h2 => ?_⟩
            by_cases hg : g' = d
            · subst hg; exact ⟨s, hs, hs1⟩
            · exact g6 g' (by omega) h2

theorem empty_of_ne {ss : List Slot} (h : ne ss < ss.length) : ∃ (i : Nat) (s : Slot), ss[i]? = some s ∧ s.nonE = false := by
  unfold ne at h
  apply Classical.byContradiction
  intro hno
  have : ss.countP Slot.nonE = ss.length := List.countP_eq_length.2 fun s hs => by
    obtain ⟨i, hi⟩ := List.getElem?_of_mem hs
    cases hb : s.nonE with
    | true => rfl
    | false => exact absurd ⟨i, s, hi, hb⟩ hno
  omega

/-- what 'find' comes to -/
theorem find_total {ss : List Slot} (hg : Good ss) (hne : ne ss < ss.length) (key : ByteArray) :
    (∃ (i : Nat) (s : Slot), findF ss key = some ((i : Int), true) ∧ ss[i]? = some s ∧ s.live = true ∧ s.key = key) ∨
    ((∀ (i : Nat) (s : Slot), ss[i]? = some s → s.live = true → s.key = key → False) ∧ ∃ (g : Nat) (s : Slot), findF ss key = some (((pos key ss.length g : Nat) : Int), false) ∧ ss[pos key ss.length g]? = some s ∧ s.live = false ∧
      ∀ g', g' < g → ∃ u : Slot, ss[pos key ss.length g']? = some u ∧ u.nonE = true) := by
  have hn : 0 < ss.length := by omega
  obtain ⟨i0, s0, hi0, hs0⟩ := empty_of_ne hne
  have hi0l : i0 < ss.length := by
    rcases Nat.lt_or_ge i0 ss.length with h | h
    · exact h
    · rw [List.getElem?_eq_none h] at hi0; cases hi0
  obtain ⟨d0, hd0, hp0⟩ := pos_onto key hn hi0l
  let E : Nat → Prop := fun d => ∃ s : Slot, ss[pos key ss.length d]? = some s ∧ s.nonE = false
  have hE := leastOf_spec (p := E) ⟨d0, s0, by rw [hp0]; exact hi0, hs0⟩
  generalize leastOf E = e at hE
  obtain ⟨he, hmin⟩ := hE
  have hed : e ≤ d0 := hmin d0 ⟨s0, by rw [hp0]; exact hi0, hs0⟩
  have hbefore : ∀ g, 0 ≤ g → g < e → ∃ s : Slot, ss[pos key ss.length g]? = some s ∧ s.nonE = true := by
    intro g _ hge
    have hl := pos_lt key hn g
    refine ⟨_, List.getElem?_eq_getElem hl, ?_⟩
    cases hb : (ss[pos key ss.length g]).nonE with
    | true => rfl
    | false => have := hmin g ⟨_, List.getElem?_eq_getElem hl, hb⟩; omega
  have hz := pos_zero key hn
  rcases find_spec hg.kinds key ss.length 0 e (-1) (Nat.zero_le _) (by omega) he hbefore with ⟨g, s, _, h2, h3, h4, h5, h6⟩ | ⟨h1, r, h2, _, h4⟩
  · rw [hz] at h6
    exact .inl ⟨_, s, h6, h3, h4, h5⟩
  · rw [hz] at h2
    refine .inr ⟨fun i s hi hl hkk => ?_, ?_⟩
    · obtain ⟨d, hd, hdn⟩ := hg.reach i s hi hl
      rw [hkk] at hd hdn
      have hde : d < e := by
        rcases Nat.lt_or_ge d e with h | h
        · exact h
        · exfalso
          obtain ⟨se, hse, hse0⟩ := he
          by_cases hde : d = e
          · subst hde
            rw [hd, hi] at hse; injection hse with hse; subst hse
            simp [Slot.nonE, hl] at hse0
          · obtain ⟨u, hu, hu1⟩ := hdn e (by omega)
            rw [hse] at hu; injection hu with hu; subst hu
            rw [hse0] at hu1; cases hu1
      exact h1 d s (Nat.zero_le _) hde (by rw [hd]; exact hi) hl hkk
    · obtain ⟨g, s, _, _, e3, e4, e5, e6⟩ := h4 (by omega)
      exact ⟨g, s, by rw [← e3]; exact h2, e4, e5, fun g' hg' => e6 g' (Nat.zero_le _) hg'⟩

/-! ### a finite map -/
abbrev KV := ByteArray → Option Int
def Maps (ss : List Slot) (M : KV) : Prop := ∀ key v, M key = some v ↔ ∃ (i : Nat) (s : Slot), ss[i]? = some s ∧ s.live = true ∧ s.key = key ∧ s.value = v
def KV.put (M : KV) (key : ByteArray) (v : Int) : KV := fun k => if k = key then some v else M k
def KV.del (M : KV) (key : ByteArray) : KV := fun k => if k = key then none else M k
theorem lt_of_get {ss : List Slot} {i : Nat} {s : Slot} (h : ss[i]? = some s) : i < ss.length := by
  rcases Nat.lt_or_ge i ss.length with h' | h'
  · exact h'
  · rw [List.getElem?_eq_none h'] at h; cases h
theorem get_set {ss : List Slot} {a : Nat} {s0 new : Slot} (ha : ss[a]? = some s0) (j : Nat) : (ss.set a new)[j]? = if j = a then some new else ss[j]? := by
  rw [List.getElem?_set]
  by_cases h : a = j
  · subst h; simp [lt_of_get ha]
  · rw [if_neg h, if_neg (fun e => h e.symm)]

/-- a word is laid where it may be -/
theorem set_good {ss : List Slot} (hg : Good ss) {a : Nat} {s0 : Slot} (ha : ss[a]? = some s0) {key : ByteArray} (hks : key.size ≤ 9223372036854775807) (v : Int) (hold : s0.live = true → s0.key = key)
    (honly : ∀ (i : Nat) (s : Slot), ss[i]? = some s → s.live = true → s.key = key → i = a) (hreach : ∃ d, pos key ss.length d = a ∧ ∀ d', d' < d → ∃ u : Slot, ss[pos key ss.length d']? = some u ∧ u.nonE = true) :
    Good (ss.set a ⟨key, v, true, false⟩) ∧ ∀ M, Maps ss M → Maps (ss.set a ⟨key, v, true, false⟩) (M.put key v) := by
  have gs := fun j => get_set (new := ⟨key, v, true, false⟩) ha j
  have keep : ∀ (j : Nat) (u : Slot), ss[j]? = some u → u.nonE = true → ∃ u' : Slot, (ss.set a ⟨key, v, true, false⟩)[j]? = some u' ∧ u'.nonE = true := by
    intro j u hj hu
    rw [gs]; split
    · exact ⟨_, rfl, rfl⟩
    · exact ⟨u, hj, hu⟩
  refine ⟨⟨fun i s h hl hd => ?_, fun i j s u hi hj hs hu he => ?_, fun i s h hl => ?_, fun s hs => ?_⟩, fun M hM k x => ?_⟩
  · rw [gs] at h; split at h
    · injection h with h; subst h; cases hd
    · exact hg.kinds i s h hl hd
  · rw [gs] at hi hj
    split at hi
    · rename_i e1
      split at hj
      · rename_i e2; rw [e1, e2]
      · injection hi with hi; subst hi; rw [e1]; exact (honly j u hj hu he.symm).symm
    · split at hj
      · rename_i e2; injection hj with hj; subst hj; rw [e2]; exact honly i s hi hs he
      · exact hg.uniq i j s u hi hj hs hu he
  · rw [gs] at h; rw [List.length_set]
    split at h
    · rename_i e; injection h with h; subst h
      obtain ⟨d, h1, h2⟩ := hreach
      exact ⟨d, by rw [e]; exact h1, fun d' hd' => by obtain ⟨u, hu, hu1⟩ := h2 d' hd'; exact keep _ u hu hu1⟩
    · obtain ⟨d, h1, h2⟩ := hg.reach i s h hl
      exact ⟨d, h1, fun d' hd' => by obtain ⟨u, hu, hu1⟩ := h2 d' hd'; exact keep _ u hu hu1⟩
  · rcases List.mem_or_eq_of_mem_set hs with h | h
    · exact hg.keys s h
    · subst h; exact hks
  · simp only [KV.put]
    split
    · rename_i e; subst e
      constructor
      · intro h; injection h with h; subst h; exact ⟨a, _, by rw [gs, if_pos rfl], rfl, rfl, rfl⟩
      · rintro ⟨i, s, hi, h1, h2, h3⟩
        rw [gs] at hi; split at hi
        · injection hi with hi; subst hi; exact congrArg some h3
        · rename_i hne; exact absurd (honly i s hi h1 h2) hne
    · rename_i hne
      rw [hM]
      constructor
      · rintro ⟨i, s, hi, h1, h2, h3⟩
        refine ⟨i, s, ?_, h1, h2, h3⟩
        rw [gs, if_neg]
        · exact hi
        · rintro rfl; rw [ha] at hi; injection hi with hi; subst hi; exact hne (h2.symm.trans (hold h1))
      · rintro ⟨i, s, hi, h1, h2, h3⟩
        rw [gs] at hi; split at hi
        · injection hi with hi; subst hi; exact absurd h2.symm hne
        · exact ⟨i, s, hi, h1, h2, h3⟩

theorem tomb_good {ss : List Slot} (hg : Good ss) {a : Nat} {s0 : Slot} (ha : ss[a]? = some s0) (hl0 : s0.live = true) :
    Good (ss.set a ⟨⟨#[]⟩, 0, false, true⟩) ∧ ∀ M, Maps ss M → Maps (ss.set a ⟨⟨#[]⟩, 0, false, true⟩) (M.del s0.key) := by
  have gs := fun j => get_set (new := ⟨⟨#[]⟩, 0, false, true⟩) ha j
  have keep : ∀ (j : Nat) (u : Slot), ss[j]? = some u → u.nonE = true → ∃ u' : Slot, (ss.set a ⟨⟨#[]⟩, 0, false, true⟩)[j]? = some u' ∧ u'.nonE = true := by
    intro j u hj hu
    rw [gs]; split
    · exact ⟨_, rfl, rfl⟩
    · exact ⟨u, hj, hu⟩
  have old : ∀ {j : Nat} {s : Slot}, (ss.set a ⟨⟨#[]⟩, 0, false, true⟩)[j]? = some s → s.live = true → ss[j]? = some s ∧ j ≠ a := by
    intro j s h hl
    rw [gs] at h; split at h
    · injection h with h; subst h; cases hl
    · rename_i hne; exact ⟨h, hne⟩
  refine ⟨⟨fun i s h hl hd => hg.kinds i s (old h hl).1 hl hd, fun i j s u hi hj hs hu he => hg.uniq i j s u (old hi hs).1 (old hj hu).1 hs hu he, fun i s h hl => ?_, fun s hs => ?_⟩, fun M hM k x => ?_⟩
  · obtain ⟨d, h1, h2⟩ := hg.reach i s (old h hl).1 hl
    rw [List.length_set]
    exact ⟨d, h1, fun d' hd' => by obtain ⟨u, hu, hu1⟩ := h2 d' hd'; exact keep _ u hu hu1⟩
  · rcases List.mem_or_eq_of_mem_set hs with h | h
    · exact hg.keys s h
    · subst h; exact Nat.zero_le _
  · simp only [KV.del]
    split
    · rename_i e; subst e
      constructor
      · intro h; cases h
      · rintro ⟨i, s, hi, h1, h2, h3⟩
        obtain ⟨h4, h5⟩ := old hi h1
        exact absurd (hg.uniq i a s s0 h4 ha h1 hl0 h2) h5
    · rename_i hne
      rw [hM]
      constructor
      · rintro ⟨i, s, hi, h1, h2, h3⟩
        refine ⟨i, s, ?_, h1, h2, h3⟩
        rw [gs, if_neg]
        · exact hi
        · rintro rfl; rw [ha] at hi; injection hi with hi; subst hi; exact hne h2.symm
      · rintro ⟨i, s, hi, h1, h2, h3⟩
        exact ⟨i, s, (old hi h1).1, h1, h2, h3⟩
theorem ne_set {ss : List Slot} {a : Nat} {s0 : Slot} (ha : ss[a]? = some s0) (new : Slot) : ne (ss.set a new) = ne ss - (if s0.nonE then 1 else 0) + (if new.nonE then 1 else 0) := by
  have hl := lt_of_get ha
  rw [List.getElem?_eq_getElem hl] at ha; injection ha with ha
  rw [ne, List.countP_set hl, ha]; rfl
theorem lv_set {ss : List Slot} {a : Nat} {s0 : Slot} (ha : ss[a]? = some s0) (new : Slot) : lv (ss.set a new) = lv ss - (if s0.live then 1 else 0) + (if new.live then 1 else 0) := by
  have hl := lt_of_get ha
  rw [List.getElem?_eq_getElem hl] at ha; injection ha with ha
  rw [lv, List.countP_set hl, ha]; rfl
theorem ne_pos {ss : List Slot} {a : Nat} {s0 : Slot} (ha : ss[a]? = some s0) (h : s0.nonE = true) : 0 < ne ss := List.countP_pos_iff.2 ⟨s0, List.mem_of_getElem? ha, h⟩
theorem lv_pos {ss : List Slot} {a : Nat} {s0 : Slot} (ha : ss[a]? = some s0) (h : s0.live = true) : 0 < lv ss := List.countP_pos_iff.2 ⟨s0, List.mem_of_getElem? ha, h⟩
end Go.Proofs.YtoiilcdaldnjfaaGreatDoor.Tb
/- The plain law of the table: what Put, Get and Del make of a finite map. -/
set_option linter.unusedVariables false
set_option linter.unusedSimpArgs false
namespace Go.Proofs.YtoiilcdaldnjfaaGreatDoor.Tb
open Go.Px
variable {xm : Nat}

theorem rep_get {n i : Nat} {s : Slot} (h : (List.replicate n noSlot)[i]? = some s) : s = noSlot := by
  rw [List.getElem?_replicate] at h; split at h
  · injection h with h; exact h.symm
  · cases h
theorem rep_good (n : Nat) : Good (List.replicate n noSlot) := by
  refine ⟨fun i s h hl => ?_, fun i j s u hi hj hs => ?_, fun i s h hl => ?_, fun s hs => ?_⟩
  · rw [rep_get h] at hl; cases hl
  · rw [rep_get hi] at hs; cases hs
  · rw [rep_get h] at hl; cases hl
  · rw [List.eq_of_mem_replicate hs]; exact Nat.zero_le _
theorem rep_maps (n : Nat) : Maps (List.replicate n noSlot) (fun _ => none) := by
  intro k v
  constructor
  · intro h; cases h
  · rintro ⟨i, s, h, hl, _⟩; rw [rep_get h] at hl; cases hl
theorem rep_ne (n : Nat) : ne (List.replicate n noSlot) = 0 ∧ lv (List.replicate n noSlot) = 0 :=
  ⟨List.countP_eq_zero.2 fun s hs => by rw [List.eq_of_mem_replicate hs]; simp [Slot.nonE, noSlot], List.countP_eq_zero.2 fun s hs => by rw [List.eq_of_mem_replicate hs]; simp [noSlot]⟩

/-- to lay anew, one behind the other: words that are not there yet -/
theorem growM_ok : ∀ (old new : List Slot) (M : KV), Good new → Maps new M → lv new = ne new → ne new + lv old < new.length → small old →
    (∀ (i j : Nat) (s u : Slot), old[i]? = some s → old[j]? = some u → s.live = true → u.live = true → s.key = u.key → i = j) → (∀ s ∈ old, s.live = true → s.dead = true → False) → (∀ s ∈ old, s.live = true → M s.key = none) →
    ∃ fin, growM old new = some fin ∧ fin.length = new.length ∧ Good fin ∧ lv fin = ne fin ∧ ne fin = ne new + lv old ∧
      ∃ M', Maps fin M' ∧ ∀ k v, M' k = some v ↔ M k = some v ∨ ∃ s ∈ old, s.live = true ∧ s.key = k ∧ s.value = v
  | [], new, M, hg, hM, hln, hc, _, _, _, _ => ⟨new, rfl, rfl, hg, hln, by simp [lv], M, hM, fun k v => by simp⟩
  | s :: old, new, M, hg, hM, hln, hc, hsm, hun, hkd, hfr => by
    have hsm' : small old := fun u hu => hsm u (List.mem_cons_of_mem _ hu)
    have hun' : ∀ i j (s u : Slot), old[i]? = some s → old[j]? = some u → s.live = true → u.live = true → s.key = u.key → i = j := fun i j s' u hi hj h1 h2 h3 => by
      have := hun (i + 1) (j + 1) s' u (by simpa using hi) (by simpa using hj) h1 h2 h3; omega
    cases hl : s.live with
    | false =>
      have hlv : lv (s :: old) = lv old := by simp [lv, hl]
      obtain ⟨fin, h1, h2, h3, h4, h5, M', h6, h7⟩ := growM_ok old new M hg hM hln (by omega) hsm' hun' (fun u hu => hkd u (List.mem_cons_of_mem _ hu)) (fun u hu => hfr u (List.mem_cons_of_mem _ hu))
      refine ⟨fin, by simp only [growM, hl, Bool.false_eq_true, if_false]; exact h1, h2, h3, h4, by omega, M', h6, fun k v => ?_⟩
      rw [h7]
      constructor
      · rintro (h | ⟨u, hu, h⟩)
        · exact .inl h
        · exact .inr ⟨u, List.mem_cons_of_mem _ hu, h⟩
      · rintro (h | ⟨u, hu, h⟩)
        · exact .inl h
        · rcases List.mem_cons.1 hu with rfl | hu
          · rw [hl] at h; cases h.1
          · exact .inr ⟨u, hu, h⟩
    | true =>
      have hlv : lv (s :: old) = lv old + 1 := by simp [lv, hl]
      have hnone : M s.key = none := hfr s (List.mem_cons_self ..) hl
      have hab : ∀ (i : Nat) (u : Slot), new[i]? = some u → u.live = true → u.key = s.key → False := fun i u hi h1 h2 => by
        have := (hM s.key u.value).2 ⟨i, u, hi, h1, h2, rfl⟩
        rw [hnone] at this; cases this
      rcases find_total hg (by omega) s.key with ⟨i, u, _, hi, h1, h2⟩ | ⟨_, g, u, hf, hu, hul, hpre⟩
      · exact (hab i u hi h1 h2).elim
      · have hks := hsm s (List.mem_cons_self ..)
        have hud : u.dead = false := by
          cases hd : u.dead with
          | false => rfl
          | true =>
            exfalso
            -- more slots that are not empty than live ones
            have h1 := lv_set hu (⟨u.key, u.value, true, false⟩)
            have h2 := ne_set hu (⟨u.key, u.value, true, false⟩)
            simp [Slot.nonE, hul, hd] at h1 h2
            have h3 := ne_pos hu (by simp [Slot.nonE, hd])
            have h4 : lv (new.set (pos s.key new.length g) ⟨u.key, u.value, true, false⟩) ≤ ne (new.set (pos s.key new.length g) ⟨u.key, u.value, true, false⟩) := List.countP_mono_left fun x _ hx => by simp [Slot.nonE, hx]
            omega
        obtain ⟨hg', hM'⟩ := set_good hg hu hks s.value (fun h => by rw [hul] at h; cases h) (fun i u hi h1 h2 => (hab i u hi h1 h2).elim) ⟨g, rfl, hpre⟩
        have hsd : s.dead = false := by
          cases hd : s.dead with
          | false => rfl
          | true => exact (hkd s (List.mem_cons_self ..) hl hd).elim
        have e : (⟨s.key, s.value, true, false⟩ : Slot) = s := by
          obtain ⟨k, v, l, d⟩ := s
          dsimp only at hl hsd
          rw [hl, hsd]
        rw [e] at hg' hM'
        have hne' := ne_set hu s
        have hlv' := lv_set hu s
        simp only [Slot.nonE, hul, hud, hl, Bool.or_self, Bool.true_or, Bool.false_eq_true, if_false, if_true, Nat.sub_zero] at hne' hlv'
        have hlt := lt_of_get hu
        have hfresh : ∀ u ∈ old, u.live = true → (M.put s.key s.value) u.key = none := by
          intro u hu hul'
          simp only [KV.put]
          obtain ⟨i, hi⟩ := List.getElem?_of_mem hu
          rw [if_neg (fun he => by have := hun (i + 1) 0 u s (by simpa using hi) rfl hul' hl he; omega)]
          exact hfr u (List.mem_cons_of_mem _ hu) hul'
        obtain ⟨fin, h1, h2, h3, h4, h5, M', h6, h7⟩ := growM_ok old (new.set (pos s.key new.length g) s) (M.put s.key s.value) hg' (hM' M hM) (by omega) (by rw [List.length_set]; omega) hsm' hun' (fun u hu => hkd u (List.mem_cons_of_mem _ hu)) hfresh
        refine ⟨fin, ?_, by rw [h2, List.length_set], h3, h4, by omega, M', h6, fun k v => ?_⟩
        · simp only [growM, hl, if_true, hf]
          rw [if_pos (by omega)]
          exact h1
        · rw [h7]
          simp only [KV.put]
          constructor
          · rintro (h | ⟨u, hu, h⟩)
            · split at h
              · rename_i ek; injection h with h; exact .inr ⟨s, List.mem_cons_self .., hl, ek.symm, h⟩
              · exact .inl h
            · exact .inr ⟨u, List.mem_cons_of_mem _ hu, h⟩
          · rintro (h | ⟨u, hu, h⟩)
            · left
              rw [if_neg (fun ek => by rw [ek, hnone] at h; cases h)]
              exact h
            · rcases List.mem_cons.1 hu with rfl | hu
              · left; rw [if_pos h.2.1.symm, h.2.2]
              · exact .inr ⟨u, hu, h⟩

/-! ### the table as a whole; 'B': how many words there may be -/
def TI (B : Nat) (t : Tbl) (M : KV) : Prop :=
  (t.ss = [] ∧ t.live = 0 ∧ t.full = 0 ∧ M = fun _ => none) ∨
  (t.ss ≠ [] ∧ Good t.ss ∧ Maps t.ss M ∧ lv t.ss = t.live ∧ ne t.ss = t.full ∧ 2 * t.full ≤ t.ss.length ∧ 8 ≤ t.ss.length ∧ t.live ≤ B ∧ t.ss.length ≤ 8 + 4 * B)
theorem lv_le_ne (ss : List Slot) : lv ss ≤ ne ss := List.countP_mono_left fun x _ hx => by simp [Slot.nonE, hx]
theorem TI.ok {B : Nat} {t : Tbl} {M : KV} (h : TI B t M) (hB : B ≤ 1073741824) : t.Ok := by
  rcases h with ⟨h0, h1, h2, _⟩ | ⟨_, hg, _, h1, h2, h3, h4, h5, h6⟩
  · exact ⟨by omega, by omega, by rw [h0]; simp, by rw [h0]; intro s hs; cases hs⟩
  · exact ⟨by omega, by omega, by omega, hg.keys⟩

theorem grown_ok {B : Nat} {t : Tbl} {M : KV} (h : TI B t M) : ∃ t1, grownM t = some t1 ∧ t1.ss ≠ [] ∧ t1.live = t.live ∧ TI B t1 M ∧ 2 * (t1.full + 1) ≤ t1.ss.length ∧ (t1.ss.length = t.ss.length ∨ t1.ss.length = growN t.live) := by
  unfold grownM
  by_cases hgt : 2 * (t.full + 1) > t.ss.length
  · rw [if_pos hgt]
    have hN : 8 ≤ growN t.live ∧ 4 * t.live ≤ growN t.live ∧ growN t.live ≤ 8 + 4 * t.live ∧ 2 * (t.live + 1) ≤ growN t.live := by unfold growN; split <;> omega
    have hr := rep_ne (growN t.live)
    have hlen : (List.replicate (growN t.live) noSlot).length = growN t.live := by simp
    have key : ∀ (hg : Good t.ss) (hM : Maps t.ss M) (h1 : lv t.ss = t.live), ∃ fin, growM t.ss (List.replicate (growN t.live) noSlot) = some fin ∧ fin.length = growN t.live ∧ Good fin ∧ lv fin = t.live ∧ ne fin = t.live ∧ Maps fin M := by
      intro hg hM h1
      obtain ⟨fin, e1, e2, e3, e4, e5, M', e6, e7⟩ := growM_ok t.ss (List.replicate (growN t.live) noSlot) (fun _ => none) (rep_good _) (rep_maps _) (by omega) (by rw [hlen]; omega) hg.keys hg.uniq
        (fun s hs => by obtain ⟨i, hi⟩ := List.getElem?_of_mem hs; exact hg.kinds i s hi) (fun _ _ _ => rfl)
      refine ⟨fin, e1, by omega, e3, by omega, by omega, ?_⟩
      have : M' = M := by
        funext k
        have hk : ∀ v, M' k = some v ↔ M k = some v := by
          intro v
          rw [e7, hM]
          constructor
          · rintro (h | ⟨s, hs, h⟩)
            · cases h
            · obtain ⟨i, hi⟩ := List.getElem?_of_mem hs; exact ⟨i, s, hi, h⟩
          · rintro ⟨i, s, hi, h⟩; exact .inr ⟨s, List.mem_of_getElem? hi, h⟩
        cases h1 : M k with
        | none => cases h2 : M' k with
          | none => rfl
          | some v => have := (hk v).1 h2; rw [h1] at this; cases this
        | some v => exact (hk v).2 h1
      rw [← this]; exact e6
    have fin : ∀ fin, growM t.ss (List.replicate (growN t.live) noSlot) = some fin → fin.length = growN t.live → Good fin → lv fin = t.live → ne fin = t.live → Maps fin M → t.live ≤ B →
        ∃ t1, (growM t.ss (List.replicate (growN t.live) noSlot)).map (fun new => (⟨new, t.live, t.live⟩ : Tbl)) = some t1 ∧ t1.ss ≠ [] ∧ t1.live = t.live ∧ TI B t1 M ∧ 2 * (t1.full + 1) ≤ t1.ss.length ∧ (t1.ss.length = t.ss.length ∨ t1.ss.length = growN t.live) := by
      intro fin e1 e2 e3 e4 e5 e6 hB
      have hne : fin ≠ [] := fun h => by rw [h] at e2; simp at e2; omega
      exact ⟨⟨fin, t.live, t.live⟩, by rw [e1]; rfl, hne, rfl, .inr ⟨hne, e3, e6, e4, e5, by dsimp only; omega, by dsimp only; omega, hB, by dsimp only; omega⟩, by dsimp only; omega, .inr e2⟩
    rcases h with ⟨h0, h1, h2, h3⟩ | ⟨h0, hg, hM, h1, h2, h3, h4, h5, h6⟩
    · have hg0 : Good t.ss := by rw [h0]; exact ⟨fun i s h => by simp at h, fun i j s u h => by simp at h, fun i s h => by simp at h, fun s hs => by cases hs⟩
      have hM0 : Maps t.ss M := by
        rw [h3, h0]; intro k v
        constructor
        · intro h; cases h
        · rintro ⟨i, s, h, _⟩; simp at h
      obtain ⟨f, e1, e2, e3, e4, e5, e6⟩ := key hg0 hM0 (by rw [h0, h1]; rfl)
      exact fin f e1 e2 e3 e4 e5 e6 (by omega)
    · obtain ⟨f, e1, e2, e3, e4, e5, e6⟩ := key hg hM h1
      exact fin f e1 e2 e3 e4 e5 e6 h5
  · rw [if_neg hgt]
    have hne : t.ss ≠ [] := fun h0 => by rw [h0] at hgt; simp at hgt
    exact ⟨t, rfl, hne, rfl, h, by omega, .inl rfl⟩

theorem putM_ok {B B' : Nat} {t : Tbl} {M : KV} (h : TI B t M) (hBB : B ≤ B') (key : ByteArray) (v : Int) (hks : key.size ≤ 9223372036854775807) (hB : M key = none → t.live + 1 ≤ B') :
    ∃ t', putM t key v = some (t', (M key).isNone) ∧ TI B' t' (M.put key v) ∧ t'.live = (if (M key).isNone then t.live + 1 else t.live) ∧ (t'.ss.length = t.ss.length ∨ t'.ss.length = growN t.live) := by
  obtain ⟨t1, e1, e2, e3, e4, e5, e6⟩ := grown_ok h
  rcases e4 with ⟨h0, _⟩ | ⟨_, hg, hM, h1, h2, h3, h4, h5, h6⟩
  · exact absurd h0 e2
  have hf := find_total hg (by omega) key
  unfold putM
  rw [e1]
  simp only [Option.bind_some]
  unfold putAt
  rcases hf with ⟨i, s, hf, hi, hl, hk⟩ | ⟨hno, g, s, hf, hi, hl, hpre⟩
  · have hMk : M key = some s.value := (hM key _).2 ⟨i, s, hi, hl, hk, rfl⟩
    obtain ⟨d, hd, hd'⟩ := hg.reach i s hi hl
    rw [hk] at hd hd'
    obtain ⟨hg', hM'⟩ := set_good hg hi hks v (fun _ => hk) (fun j u hj hu hkk => hg.uniq j i u s hj hi hu hl (hkk.trans hk.symm)) ⟨d, hd, hd'⟩
    have a1 := ne_set hi (⟨key, v, true, false⟩)
    have a2 := lv_set hi (⟨key, v, true, false⟩)
    have a3 := lv_pos hi hl
    have a4 := lv_le_ne t1.ss
    simp [Slot.nonE, hl] at a1 a2
    rw [hf, hMk]
    simp only [Int.toNat_natCast, hi, if_true, Option.isNone_some]
    rw [if_pos (by omega)]
    refine ⟨_, rfl, .inr ⟨by simpa using e2, hg', hM' M hM, ?_, ?_, ?_, ?_, ?_, ?_⟩, ?_, ?_⟩ <;> (try dsimp only) <;> (try rw [List.length_set]) <;> (try simp) <;> omega
  · have hMk : M key = none := by
      cases hm : M key with
      | none => rfl
      | some x => obtain ⟨i, u, hiu, h1, h2, _⟩ := (hM key x).1 hm; exact (hno i u hiu h1 h2).elim
    obtain ⟨hg', hM'⟩ := set_good hg hi hks v (fun h => by rw [hl] at h; cases h) (fun j u hj hu hkk => (hno j u hj hu hkk).elim) ⟨g, rfl, hpre⟩
    have a1 := ne_set hi (⟨key, v, true, false⟩)
    have a2 := lv_set hi (⟨key, v, true, false⟩)
    have hB' := hB hMk
    rw [hf, hMk]
    simp only [Int.toNat_natCast, hi, Option.isNone_none, Bool.not_false, Bool.false_eq_true, if_false, if_true]
    rw [if_pos (by omega)]
    cases hd : s.dead with
    | true =>
      have a3 := ne_pos hi (by simp [Slot.nonE, hd])
      simp [Slot.nonE, hl, hd] at a1 a2
      refine ⟨_, rfl, .inr ⟨by simpa using e2, hg', hM' M hM, ?_, ?_, ?_, ?_, ?_, ?_⟩, ?_, ?_⟩ <;> (try dsimp only) <;> (try rw [List.length_set]) <;> (try simp) <;> omega
    | false =>
      simp [Slot.nonE, hl, hd] at a1 a2
      refine ⟨_, rfl, .inr ⟨by simpa using e2, hg', hM' M hM, ?_, ?_, ?_, ?_, ?_, ?_⟩, ?_, ?_⟩ <;> (try dsimp only) <;> (try rw [List.length_set]) <;> (try simp) <;> omega

theorem getM_ok {B : Nat} {t : Tbl} {M : KV} (h : TI B t M) (key : ByteArray) : getM t key = some ((M key).getD 0, (M key).isSome) := by
  unfold getM
  rcases h with ⟨h0, _, _, h3⟩ | ⟨h0, hg, hM, h1, h2, h3, h4, h5, h6⟩
  · rw [if_pos h0, h3]; rfl
  · rw [if_neg h0]
    rcases find_total hg (by omega) key with ⟨i, s, hf, hi, hl, hk⟩ | ⟨hno, g, s, hf, hi, hl, hpre⟩
    · have hMk : M key = some s.value := (hM key _).2 ⟨i, s, hi, hl, hk, rfl⟩
      rw [hf, hMk]
      simp [hi]
    · have hMk : M key = none := by
        cases hm : M key with
        | none => rfl
        | some x => obtain ⟨i, u, hiu, h1, h2, _⟩ := (hM key x).1 hm; exact (hno i u hiu h1 h2).elim
      rw [hf, hMk]
      simp

theorem delM_ok {B : Nat} {t : Tbl} {M : KV} (h : TI B t M) (key : ByteArray) :
    ∃ t', delM t key = some (t', (M key).isSome) ∧ TI B t' (M.del key) ∧ t'.ss.length = t.ss.length ∧ ((M key).isSome = true → 0 < t.live) ∧ t'.live = (if (M key).isSome then t.live - 1 else t.live) := by
  unfold delM
  have nodel : M key = none → M.del key = M := fun hk => by
    funext k; simp only [KV.del]; split
    · rename_i e; subst e; exact hk.symm
    · rfl
  rcases h with ⟨h0, hl0, hf0, h3⟩ | ⟨h0, hg, hM, h1, h2, h3, h4, h5, h6⟩
  · have hMk : M key = none := by rw [h3]
    rw [if_pos h0, nodel hMk, hMk]
    exact ⟨t, rfl, .inl ⟨h0, hl0, hf0, h3⟩, rfl, (fun h => by cases h), rfl⟩
  · rw [if_neg h0]
    rcases find_total hg (by omega) key with ⟨i, s, hf, hi, hl, hk⟩ | ⟨hno, g, s, hf, hi, hl, hpre⟩
    · have hMk : M key = some s.value := (hM key _).2 ⟨i, s, hi, hl, hk, rfl⟩
      have hlt := lt_of_get hi
      obtain ⟨hg', hM'⟩ := tomb_good hg hi hl
      rw [hk] at hM'
      have a1 := ne_set hi (⟨⟨#[]⟩, 0, false, true⟩)
      have a2 := lv_set hi (⟨⟨#[]⟩, 0, false, true⟩)
      have a3 := lv_pos hi hl
      have a4 := ne_pos hi (by simp [Slot.nonE, hl])
      simp [Slot.nonE, hl] at a1 a2
      rw [hf, hMk]
      simp only [Int.toNat_natCast, if_true, Option.isSome_some]
      rw [if_pos (by omega)]
      refine ⟨_, rfl, .inr ⟨by simpa using h0, hg', hM' M hM, ?_, ?_, ?_, ?_, ?_, ?_⟩, ?_, ?_, ?_⟩ <;> (try dsimp only) <;> (try rw [List.length_set]) <;> (try simp) <;> omega
    · have hMk : M key = none := by
        cases hm : M key with
        | none => rfl
        | some x => obtain ⟨i, u, hiu, h1, h2, _⟩ := (hM key x).1 hm; exact (hno i u hiu h1 h2).elim
      rw [hf, hMk]
      simp only [Bool.false_eq_true, if_false, Option.isSome_none]
      exact ⟨t, rfl, by rw [nodel hMk]; exact .inr ⟨h0, hg, hM, h1, h2, h3, h4, h5, h6⟩, rfl, (fun h => by cases h), rfl⟩
end Go.Proofs.YtoiilcdaldnjfaaGreatDoor.Tb
/- The table's methods over a finite map; the document's examples; a word's place. -/
set_option linter.unusedVariables false
set_option linter.unusedSimpArgs false
namespace Go.Proofs.YtoiilcdaldnjfaaGreatDoor.Tb
open Go.Px
variable {xm : Nat}

theorem Put_TI {B B' tb : Nat} {t : Tbl} {M : KV} {own : SH} (ho : TabO xm tb t own) (h : TI B t M) (hBB : B ≤ B') (hB30 : B' ≤ 1073741824) (key : ByteArray) (v : Int) (hks : key.size ≤ 9223372036854775807) (hB : M key = none → t.live + 1 ≤ B') (I : IMem) (F : SH) :
    Runs Tryz.prog 85 #[.pointer (some ⟨tb, 0, none⟩), .string key, .int .i64 v] I (own ++ F) fun w J T => w = .bool (M key).isNone ∧
      ∃ t' own', TabO xm tb t' own' ∧ TI B' t' (M.put key v) ∧ t'.live = (if (M key).isNone then t.live + 1 else t.live) ∧ (t'.ss.length = t.ss.length ∨ t'.ss.length = growN t.live) ∧ T = own' ++ F := by
  obtain ⟨t', e1, e2, e3, e4⟩ := putM_ok h hBB key v hks hB
  refine (Put_runs tb t t' own ho (h.ok (by omega)) ?_ key v _ hks e1 I F).mono ?_
  · intro t1 h1
    obtain ⟨t1', g1, g2, g3, g4, _⟩ := grown_ok h
    rw [h1] at g1; injection g1 with g1; subst g1
    exact ⟨g4.ok (by omega), g2⟩
  · rintro w J T hle ⟨rfl, own', ho', rfl⟩
    exact ⟨rfl, t', own', ho', e2, e3, e4, rfl⟩
theorem Get_TI {B tb : Nat} {t : Tbl} {M : KV} {own : SH} (ho : TabO xm tb t own) (h : TI B t M) (hB30 : B ≤ 1073741824) (key : ByteArray) (hks : key.size ≤ 9223372036854775807) (I : IMem) (F : SH) :
    Runs Tryz.prog 99 #[.pointer (some ⟨tb, 0, none⟩), .string key] I (own ++ F) fun w J T => w = .tuple #[.int .i64 ((M key).getD 0), .bool (M key).isSome] ∧ T = own ++ F :=
  Get_runs tb t own ho (h.ok hB30) key _ hks (getM_ok h key) I F
theorem Del_TI {B tb : Nat} {t : Tbl} {M : KV} {own : SH} (ho : TabO xm tb t own) (h : TI B t M) (hB30 : B ≤ 1073741824) (key : ByteArray) (hks : key.size ≤ 9223372036854775807) (I : IMem) (F : SH) :
    Runs Tryz.prog 90 #[.pointer (some ⟨tb, 0, none⟩), .string key] I (own ++ F) fun w J T => w = .bool (M key).isSome ∧
      ∃ t' own', TabO xm tb t' own' ∧ TI B t' (M.del key) ∧ t'.ss.length = t.ss.length ∧ t'.live = (if (M key).isSome then t.live - 1 else t.live) ∧ T = own' ++ F := by
  obtain ⟨t', e1, e2, e3, e4, e5⟩ := delM_ok h key
  refine (Del_runs tb t t' own ho (h.ok hB30) key _ hks e4 e1 I F).mono ?_
  rintro w J T hle ⟨rfl, own', ho', rfl⟩
  exact ⟨rfl, t', own', ho', e2, e3, e5, rfl⟩
def noTbl : Tbl := ⟨[], 0, 0⟩
theorem noTbl_TI (B : Nat) : TI B noTbl (fun _ => none) := .inl ⟨rfl, rfl, rfl, rfl⟩
theorem noTbl_TabO (tb : Nat) : TabO xm tb noTbl [(tb, .cells #[.slice none 0 0, .int .i64 0, .int .i64 0, .map (some xm)] 130 (0, 0))] := .inl ⟨rfl, rfl⟩

end Go.Proofs.YtoiilcdaldnjfaaGreatDoor.Tb
/- The trie's functions: May, common, Put, on trees of words. -/
set_option linter.unusedVariables false
set_option linter.unusedSimpArgs false
namespace Go.Proofs.YtoiilcdaldnjfaaGreatDoor.Tr
open Go.Px

theorem lcp_at {a b : List Bool} {k : Nat} (h : k < lcp a b) : a[k]? = b[k]? := by
  have := congrArg (fun l : List Bool => l[k]?) (lcp_take a b)
  simpa [List.getElem?_take, h] using this
theorem sg_inj {a b : Bool} (h : ((sg a).toNat : Int) = ((sg b).toNat : Int)) : a = b := by revert h; cases a <;> cases b <;> decide
theorem common_runs (a b : List Bool) (hb : b.length ≤ 4611686018427387904) (I : IMem) (S : SH) :
    Runs Tryz.prog 109 #[.string (eb a), .string (eb b)] I S fun v J T => v = .int .i64 (lcp a b : Nat) ∧ J = I ∧ T = S := by
  refine trie_common_fn _ _ _ _ _ ?_
  refine ⟨fun m a' b' n J T => a' = eb a ∧ b' = eb b ∧ J = I ∧ T = S ∧ ∃ k : Nat, n = (k : Int) ∧ m + k = lcp a b, lcp a b, ⟨rfl, rfl, rfl, rfl, 0, rfl, rfl⟩, ?_⟩
  rintro m a' b' n J T _ ⟨rfl, rfl, rfl, rfl, k, rfl, hm⟩
  have hle := lcp_le a b
  have stop : k = lcp a b → trie_common_b3 (fun a_0 b_1 n_5 I S => ∃ m', m' < m ∧ a_0 = eb a ∧ b_1 = eb b ∧ I = J ∧ S = T ∧ ∃ k : Nat, n_5 = (k : Int) ∧ m' + k = lcp a b) (fun v J' T' => v = .int .i64 (lcp a b : Nat) ∧ J' = J ∧ T' = T) (eb a) (eb b) k false J T := fun h => ⟨by rw [h], rfl, rfl⟩
  refine bcase_dec (fun h1 => ?_) (fun h1 => ?_)
  · refine bcase_dec (fun h2 => ?_) (fun h2 => ?_)
    · rw [eb_size] at h1 h2
      have e1 : a[k]? = some (a[k]'(by omega)) := List.getElem?_eq_getElem _
      have e2 : b[k]? = some (b[k]'(by omega)) := List.getElem?_eq_getElem _
      generalize a[k]'(by omega) = x at e1
      generalize b[k]'(by omega) = y at e2
      refine ⟨sg x, by omega, by rw [eb_get]; simp [e1], sg y, by omega, by rw [eb_get]; simp [e2], ?_⟩
      by_cases hxy : x = y
      · subst hxy
        rw [show (((sg x).toNat : Int) == ((sg x).toNat : Int)) = true by simp]
        have : k ≠ lcp a b := fun h => lcp_ne a b x x (h ▸ e1) (h ▸ e2) rfl
        exact ⟨m - 1, by omega, rfl, rfl, rfl, rfl, k + 1, by rw [wrap_i64 (by omega) (by omega)]; rfl, by omega⟩
      · rw [show (((sg x).toNat : Int) == ((sg y).toNat : Int)) = false by rw [beq_eq_false_iff_ne]; exact fun h => hxy (sg_inj h)]
        refine stop ?_
        rcases Nat.lt_or_ge k (lcp a b) with h | h
        · have := lcp_at h; rw [e1, e2] at this; injection this with this; exact absurd this hxy
        · omega
    · rw [eb_size] at h2; exact stop (by omega)
  · rw [eb_size] at h1; exact stop (by omega)

theorem May_runs (s : ByteArray) (hs : s.size ≤ 4611686018427387904) (I : IMem) (S : SH) :
    Runs Tryz.prog 108 #[.string s] I S fun v J T => ∃ b, v = .bool b ∧ (b = true ↔ signs s ∧ s.size ≤ 128) ∧ J = I ∧ T = S := by
  refine trie_May_fn _ _ _ _ ?_
  refine ⟨fun m s' x5 x6 J T => s' = s ∧ x5 = (s.size : Int) ∧ J = I ∧ T = S ∧ ∃ k : Nat, x6 = (k : Int) ∧ m + k = s.size ∧ ∀ (i : Nat) (c : UInt8), i < k → s[i]? = some c → c = 48 ∨ c = 49, s.size, ⟨rfl, rfl, rfl, rfl, 0, rfl, rfl, fun i c h => absurd h (Nat.not_lt_zero _)⟩, ?_⟩
  rintro m s' x5 x6 J T _ ⟨rfl, rfl, rfl, rfl, k, rfl, hm, hall⟩
  refine bcase_dec (fun h1 => ?_) (fun h1 => ?_)
  · obtain ⟨c, hc⟩ : ∃ c, s'[k]? = some c := ⟨_, getElem?_pos s' k (by omega)⟩
    have bad : ¬ (c = 48 ∨ c = 49) → (∃ b, Value.bool false = .bool b ∧ (b = true ↔ signs s' ∧ s'.size ≤ 128) ∧ J = J ∧ T = T) := fun h => ⟨false, rfl, ⟨(fun h => by cases h), fun g => absurd (g.1 k c hc) h⟩, rfl, rfl⟩
    have good : c = 48 ∨ c = 49 → ∃ m', m' < m ∧ s' = s' ∧ (s'.size : Int) = (s'.size : Int) ∧ J = J ∧ T = T ∧ ∃ k' : Nat, IntKind.wrap .i64 ((k : Int) + 1) = (k' : Int) ∧ m' + k' = s'.size ∧ ∀ (i : Nat) (c : UInt8), i < k' → s'[i]? = some c → c = 48 ∨ c = 49 := fun h =>
      ⟨m - 1, by omega, rfl, rfl, rfl, rfl, k + 1, by rw [wrap_i64 (by omega) (by omega)]; rfl, by omega, fun i c' hi hc' => by
        rcases Nat.lt_or_ge i k with g | g
        · exact hall i c' g hc'
        · obtain rfl : i = k := by omega
          rw [hc] at hc'; injection hc' with hc'; exact hc' ▸ h⟩
    have e48 : ((c.toNat : Int) = 48) ↔ c = 48 := ⟨fun h => UInt8.toNat_inj.1 (by show c.toNat = 48; omega), fun h => by rw [h]; rfl⟩
    have e49 : ((c.toNat : Int) = 49) ↔ c = 49 := ⟨fun h => UInt8.toNat_inj.1 (by show c.toNat = 49; omega), fun h => by rw [h]; rfl⟩
    refine ⟨c, by omega, by simpa using hc, ?_⟩
    by_cases h48 : c = 48
    · rw [show ((c.toNat : Int) != 48) = false by simpa using e48.2 h48]
      exact good (.inl h48)
    · rw [show ((c.toNat : Int) != 48) = true by simpa using fun h => h48 (e48.1 h)]
      refine ⟨c, by omega, by simpa using hc, ?_⟩
      by_cases h49 : c = 49
      · rw [show ((c.toNat : Int) != 49) = false by simpa using e49.2 h49]
        exact good (.inr h49)
      · rw [show ((c.toNat : Int) != 49) = true by simpa using fun h => h49 (e49.1 h)]
        exact bad (fun h => h.elim h48 h49)
  · refine ⟨_, rfl, ?_, rfl, rfl⟩
    have hsg : signs s' := fun i c hc => hall i c (by
      rcases Nat.lt_or_ge i s'.size with h | h
      · omega
      · rw [getElem?_neg s' i (by omega)] at hc; cases hc) hc
    simp only [decide_eq_true_eq]
    exact ⟨fun h => ⟨hsg, by omega⟩, fun h => by omega⟩
theorem May_word (k : List Bool) (hk : k.length ≤ 128) (I : IMem) (S : SH) : Runs Tryz.prog 108 #[.string (eb k)] I S fun v J T => v = .bool true ∧ J = I ∧ T = S := by
  refine (May_runs (eb k) (by rw [eb_size]; omega) I S).mono ?_
  rintro v J T _ ⟨b, rfl, hb, rfl, rfl⟩
  rw [hb.2 ⟨eb_signs k, by rw [eb_size]; exact hk⟩]
  exact ⟨rfl, rfl, rfl⟩

/-! ### trees in memory -/
def nodO (b : Nat) (bits : List Bool) (w : Option Int) (pl pr : Option Addr) : Nat × Obj := (b, .cells #[.string (eb bits), .bool w.isSome, .int .i64 (w.getD 0), .pointer pl, .pointer pr] 203 (0, 0))
def trO (tb : Nat) (p : Option Addr) (n : Int) : Nat × Obj := (tb, .cells #[.pointer p, .int .i64 n] 197 (0, 0))
def Rep : Sh → Option Addr → SH → Prop
  | .nil, p, S => p = none ∧ S = []
  | .node bits w l r, p, S => ∃ b pl pr Sl Sr, p = some ⟨b, 0, none⟩ ∧ S = nodO b bits w pl pr :: (Sl ++ Sr) ∧ Rep l pl Sl ∧ Rep r pr Sr
/-- where a tree hangs, and where the size lies: a context -/
structure Ctx (J : IMem) (at_ sz : Addr) (G : Option Addr → Int → SH) : Prop where
  ra : ∀ p n, Cell J (G p n) at_ (.pointer p)
  rs : ∀ p n, Cell J (G p n) sz (.int .i64 n)
  wa : ∀ p n q K, K (G q n) → StP (G p n) at_ [.pointer q] K
  ws : ∀ p n m K, K (G p m) → StP (G p n) sz [.int .i64 m] K
theorem StP.appR {X S : SH} {a : Addr} {vs : List Value} {K : SH → Prop} (h : StP S a vs fun T => K (X ++ T)) : StP (X ++ S) a vs K := by
  induction X generalizing K with
  | nil => exact h
  | cons x X ih => exact StP.tl (ih h)
theorem Cell.appR {I : IMem} {X S : SH} {a : Addr} {v : Value} (h : Cell I S a v) : Cell I (X ++ S) a v := by
  induction X with
  | nil => exact h
  | cons x X ih => exact Cell.tl ih
def kid (b : Nat) (d : Bool) : Addr := ⟨b, bif d then 4 else 3, none⟩
theorem kid_eq (b : Nat) (d : Bool) : ((⟨b, 0, none⟩ : Addr).add 3).add ((IntKind.wrap .u8 (((sg d).toNat : Int) - (48 : Int))).toNat * 1) = kid b d := by cases d <;> rfl
theorem kid_in (d : Bool) : (0 : Int) ≤ IntKind.wrap .u8 (((sg d).toNat : Int) - (48 : Int)) ∧ IntKind.wrap .u8 (((sg d).toNat : Int) - (48 : Int)) < ((2 : Nat) : Int) := by cases d <;> decide
theorem Ctx.top (J : IMem) (tb : Nat) (F : SH) : Ctx J ⟨tb, 0, none⟩ ⟨tb, 1, none⟩ fun p n => trO tb p n :: F where
  ra p n := Cell.at0 rfl
  rs p n := Cell.at0 rfl
  wa p n q K h := StP.at0 (by simp) rfl h
  ws p n m K h := StP.at0 (by simp) rfl h
theorem Ctx.left {J : IMem} {at_ sz : Addr} {G : Option Addr → Int → SH} (h : Ctx J at_ sz G) (b : Nat) (bits : List Bool) (w : Option Int) (pr : Option Addr) (Sr : SH) :
    Ctx J (kid b false) sz fun p n => nodO b bits w p pr :: (Sr ++ G (some ⟨b, 0, none⟩) n) where
  ra p n := Cell.at0 rfl
  rs p n := Cell.tl (Cell.appR (h.rs _ n))
  wa p n q K hK := StP.at0 (by simp) rfl hK
  ws p n m K hK := StP.tl (StP.appR (h.ws _ n m _ hK))
theorem Ctx.right {J : IMem} {at_ sz : Addr} {G : Option Addr → Int → SH} (h : Ctx J at_ sz G) (b : Nat) (bits : List Bool) (w : Option Int) (pl : Option Addr) (Sl : SH) :
    Ctx J (kid b true) sz fun p n => nodO b bits w pl p :: (Sl ++ G (some ⟨b, 0, none⟩) n) where
  ra p n := Cell.at0 rfl
  rs p n := Cell.tl (Cell.appR (h.rs _ n))
  wa p n q K hK := StP.at0 (by simp) rfl hK
  ws p n m K hK := StP.tl (StP.appR (h.ws _ n m _ hK))

/-! ### Put -/
def putInv (R : Value → IMem → SH → Prop) (m : Nat) (t : Option Addr) (key : ByteArray) (v : Int) (at_ : Option Addr) (I : IMem) (S : SH) : Prop :=
  trie_Trie_Put_l2 (fun t key v at_ I S => ∃ m', ∃ _ : m' < m, putInv R m' t key v at_ I S) R t key v at_ I S
termination_by m
theorem putInv_eq (R : Value → IMem → SH → Prop) (m : Nat) (t : Option Addr) (key : ByteArray) (v : Int) (at_ : Option Addr) (I : IMem) (S : SH) : putInv R m t key v at_ I S =
    trie_Trie_Put_l2 (fun t key v at_ I S => ∃ m', m' < m ∧ putInv R m' t key v at_ I S) R t key v at_ I S := by
  rw [putInv]; simp only [exists_prop]
def PutAt (R : Value → IMem → SH → Prop) (tb : Nat) (t : Sh) (m : Nat) (k : List Bool) : Prop := ∀ (v : Int) (p : Option Addr) (S : SH) (at_ : Addr) (G : Option Addr → Int → SH) (n : Int) (J : IMem) (T : SH),
  k.length ≤ 128 → 0 ≤ n → n ≤ 4611686018427387904 → Ctx J at_ ⟨tb, 1, none⟩ G → Rep t p S → Sub (S ++ G p n) T →
  (∀ q S' T', Rep (t.put k v) q S' → Sub (S' ++ G q (n + if (t.find k).isSome then 0 else 1)) T' → R (.bool (t.find k).isNone) J T') → putInv R m (some ⟨tb, 0, none⟩) (eb k) v (some at_) J T
theorem put_nil (R : Value → IMem → SH → Prop) (tb m : Nat) (k : List Bool) : PutAt R tb .nil m k := by
  rintro v p S at_ G n J T hk hn0 hn hc ⟨rfl, rfl⟩ hs hR
  rw [putInv_eq]
  refine ⟨none, Sub.cell' hs (hc.ra none n), ?_⟩
  show ∀ b : Nat, _
  intro b
  refine StP.tl (StP.of_sub hs (hc.wa none n _ _ fun T' hs' => ?_))
  refine ⟨n, Cell.tl (Sub.cell' hs' (hc.rs _ n)), StP.tl (StP.of_sub hs' (hc.ws _ n _ _ fun T2 hs2 => ?_))⟩
  rw [wrap_i64 (by omega) (by omega)] at hs2
  exact hR _ [nodO b k (some v) none none] _ ⟨b, none, none, [], [], rfl, rfl, ⟨rfl, rfl⟩, ⟨rfl, rfl⟩⟩ (hs2.cons _)
theorem put_step {R : Value → IMem → SH → Prop} {tb m : Nat} {bits : List Bool} {w : Option Int} {l r : Sh} {k : List Bool} (hge : ¬ lcp bits k < bits.length)
    (hl : ∀ rest, k = bits ++ false :: rest → PutAt R tb l m (false :: rest)) (hr : ∀ rest, k = bits ++ true :: rest → PutAt R tb r m (true :: rest)) : PutAt R tb (.node bits w l r) (m + 1) k := by
  rintro v p S at_ G n J T hk hn0 hn hc ⟨b, pl, pr, Sl, Sr, rfl, rfl, hrl, hrr⟩ hs hR
  have hkk := lcp_full hge
  generalize hrest : k.drop bits.length = rest at hkk
  subst hkk
  rw [putInv_eq]
  refine ⟨some ⟨b, 0, none⟩, Sub.cell' hs (Cell.appR (hc.ra _ n)), ?_⟩
  refine ⟨eb bits, Sub.cell' hs (Cell.at0 rfl), (common_runs bits (bits ++ rest) (by omega) J T).mono ?_⟩
  rintro _ J' T' _ ⟨rfl, rfl, rfl⟩
  rw [lcp_append]
  refine ⟨_, rfl, eb bits, Sub.cell' hs (Cell.at0 rfl), ?_⟩
  rw [eb_size]
  refine bcase_dec (fun h => absurd h (by omega)) (fun _ => ?_)
  rw [trie_Trie_Put_b7, eb_size]
  rw [Sh.put, if_neg hge, hrest] at hR
  rw [Sh.find_app] at hR
  cases rest with
  | nil =>
    rw [show (((bits.length : Nat) : Int) == (((bits ++ ([] : List Bool)).length : Nat) : Int)) = true by simp]
    dsimp only at hR
    refine ⟨w.isSome, Sub.cell' hs (Cell.at0 rfl), ?_⟩
    have fin : ∀ n' T', Sub (nodO b bits w pl pr :: (Sl ++ Sr) ++ G (some ⟨b, 0, none⟩) n') T' → n' = (n + if w.isSome = true then 0 else 1) → trie_Trie_Put_b9 (fun t key v at_ I S => ∃ m', m' < m + 1 ∧ putInv R m' t key v at_ I S) R v (some ⟨b, 0, none⟩) (!w.isSome) J' T' := by
      rintro n' T' hs' rfl
      show StP T' ⟨b, 1, none⟩ [.bool true] fun S1 => StP S1 ⟨b, 2, none⟩ [.int .i64 v] fun S1' => R (.bool (!w.isSome)) J' S1'
      refine StP.of_sub hs' (StP.at0 (o := 1) (vs := [.bool true]) (by simp) rfl fun T2 hs2 => ?_)
      refine StP.of_sub hs2 (StP.at0 (o := 2) (vs := [.int .i64 v]) (by simp [setR]) rfl fun T3 hs3 => ?_)
      have := hR (some ⟨b, 0, none⟩) (nodO b bits (some v) pl pr :: (Sl ++ Sr)) T3 ⟨b, pl, pr, Sl, Sr, rfl, rfl, hrl, hrr⟩ hs3
      cases w <;> exact this
    cases w with
    | some x => exact fin n T' hs (by simp)
    | none =>
      refine ⟨n, Sub.cell' hs (Cell.appR (hc.rs _ n)), StP.of_sub hs (StP.appR (hc.ws _ n _ _ fun T2 hs2 => ?_))⟩
      rw [wrap_i64 (by omega) (by omega)] at hs2
      exact fin _ T2 hs2 rfl
  | cons d rest =>
    rw [show (((bits.length : Nat) : Int) == (((bits ++ d :: rest).length : Nat) : Int)) = false by simp; omega]
    dsimp only at hR
    refine ⟨sg d, by omega, by rw [eb_get]; simp, (kid_in d).1, (kid_in d).2, by omega, by rw [eb_size]; simp; omega, ?_⟩
    rw [kid_eq, eb_size, eb_extract, show List.drop (((bits.length : Nat) : Int).toNat) (List.take (bits ++ d :: rest).length (bits ++ d :: rest)) = d :: rest by rw [List.take_length]; simp]
    rw [List.length_append] at hk
    cases d with
    | false =>
      refine ⟨m, by omega, hl rest rfl v pl Sl (kid b false) _ n _ _ (by omega) hn0 hn (hc.left b bits w pr Sr) hrl (hs.perm ?_) ?_⟩
      · simp only [List.cons_append, List.append_assoc]
        exact List.perm_middle.symm
      · intro q S' T2 hq hs2
        refine hR _ _ T2 ⟨b, q, pr, S', Sr, rfl, rfl, hq, hrr⟩ (hs2.perm ?_)
        simp only [List.cons_append, List.append_assoc]
        exact List.perm_middle
    | true =>
      refine ⟨m, by omega, hr rest rfl v pr Sr (kid b true) _ n _ _ (by omega) hn0 hn (hc.right b bits w pl Sl) hrr (hs.perm ?_) ?_⟩
      · simp only [List.cons_append, List.append_assoc]
        refine List.Perm.trans (List.Perm.cons _ ?_) List.perm_middle.symm
        rw [← List.append_assoc, ← List.append_assoc]
        exact List.perm_append_comm.append_right _
      · intro q S' T2 hq hs2
        refine hR _ _ T2 ⟨b, pl, q, Sl, S', rfl, rfl, hrl, hq⟩ (hs2.perm ?_)
        simp only [List.cons_append, List.append_assoc]
        refine List.perm_middle.trans (List.Perm.cons _ ?_)
        rw [← List.append_assoc, ← List.append_assoc]
        exact List.perm_append_comm.append_right _
end Go.Proofs.YtoiilcdaldnjfaaGreatDoor.Tr
/- The trie's functions: Put, Longest, Len, on trees of words. -/
set_option linter.unusedVariables false
set_option linter.unusedSimpArgs false
namespace Go.Proofs.YtoiilcdaldnjfaaGreatDoor.Tr
open Go.Px

theorem put_split {R : Value → IMem → SH → Prop} {tb m : Nat} {bits : List Bool} {w : Option Int} {l r : Sh} {k : List Bool} (hlt : lcp bits k < bits.length) : PutAt R tb (.node bits w l r) (m + 2) k := by
  rintro v p S at_ G n J T hk hn0 hn hc ⟨b, pl, pr, Sl, Sr, rfl, rfl, hrl, hrr⟩ hs hR
  have hb : bits[lcp bits k]? = some bits[lcp bits k] := List.getElem?_eq_getElem hlt
  generalize bits[lcp bits k]'hlt = d at hb
  obtain ⟨e, hbe⟩ : ∃ e, bits.drop (lcp bits k) = d :: e := by
    have h := List.drop_eq_getElem_cons hlt
    rw [List.getElem?_eq_getElem hlt] at hb
    injection hb with hb
    exact ⟨_, hb ▸ h⟩
  have hn' : ∀ c rest, k.drop (lcp bits k) = c :: rest → c ≠ d := fun c rest h e => lcp_ne bits k d c hb (by rw [← List.head?_drop, h]; rfl) e.symm
  have htk := lcp_take bits k
  have hkk : k = bits.take (lcp bits k) ++ k.drop (lcp bits k) := by rw [htk, List.take_append_drop]
  have hpl : (bits.take (lcp bits k)).length = lcp bits k := by rw [List.length_take]; omega
  rw [Sh.find_lt hlt] at hR
  rw [Sh.put, if_pos hlt, hb] at hR
  rw [hbe] at hR
  have hi : n + (if (none : Option Int).isSome = true then 0 else 1) = n + 1 := by simp
  rw [hi] at hR
  have hkl := (lcp_le bits k).2
  rw [putInv_eq]
  refine ⟨some ⟨b, 0, none⟩, Sub.cell' hs (Cell.appR (hc.ra _ n)), ?_⟩
  refine ⟨eb bits, Sub.cell' hs (Cell.at0 rfl), (common_runs bits k (by omega) J T).mono ?_⟩
  rintro _ J' T' _ ⟨rfl, rfl, rfl⟩
  refine ⟨_, rfl, eb bits, Sub.cell' hs (Cell.at0 rfl), ?_⟩
  rw [eb_size]
  refine bcase_dec (fun h => ?_) (fun h => absurd h (by omega))
  refine ⟨eb bits, Sub.cell' hs (Cell.at0 rfl), by omega, by rw [eb_size]; omega, ?_⟩
  intro pb
  rw [eb_extract, show ((lcp bits k : Nat) : Int).toNat = lcp bits k by omega, List.drop_zero]
  generalize hp : bits.take (lcp bits k) = pre at *
  -- the part's cells
  have hs1 : Sub ((pb, Obj.cells #[.string (eb pre), .bool false, .int .i64 0, .pointer none, .pointer none] 203 (0, 0)) :: (nodO b bits w pl pr :: (Sl ++ Sr) ++ G (some ⟨b, 0, none⟩) n)) ((pb, Obj.cells #[.string (eb pre), .bool false, .int .i64 0, .pointer none, .pointer none] 203 (0, 0)) :: T') := hs.cons _
  refine ⟨eb bits, Sub.cell' hs1 (Cell.tl (Cell.at0 rfl)), sg d, by omega, by rw [eb_get, show ((lcp bits k : Nat) : Int).toNat = lcp bits k by omega, hb]; rfl, (kid_in d).1, (kid_in d).2, ?_⟩
  rw [kid_eq]
  refine StP.of_sub (K := fun S1 => trie_Trie_Put_b6 _ R _ _ _ _ _ _ _ _ S1) hs1 (StP.at0 (by cases d <;> simp) rfl fun T2 hs2 => ?_)
  refine ⟨eb bits, Sub.cell' hs2 (Cell.tl (Cell.at0 rfl)), by omega, by rw [eb_size]; omega, ?_⟩
  rw [eb_extract, show ((lcp bits k : Nat) : Int).toNat = lcp bits k by omega, eb_size, List.take_length, hbe]
  refine StP.of_sub hs2 (StP.tl (StP.at0 (o := 0) (vs := [.string (eb (d :: e))]) (by simp) rfl fun T3 hs3 => ?_))
  refine StP.of_sub hs3 (StP.tl (StP.tl (StP.appR (X := Sl ++ Sr) (hc.wa _ n (some ⟨pb, 0, none⟩) _ fun T4 hs4 => ?_))))
  -- from here on: the part, which needs no cut
  refine ⟨m + 1, by omega, ?_⟩
  have hng : ¬ lcp pre k < pre.length := by
    rw [hkk, lcp_append]; omega
  have kidnil : ∀ c rest, k = pre ++ c :: rest → c ≠ d := fun c rest h => hn' c rest (by rw [← hpl, h, List.drop_left])
  have hhas : (Sh.sub pre none d (.node (d :: e) w l r) .nil).find k = none := by
    rw [hkk, Sh.sub_find]
    cases hkd : k.drop (lcp bits k) with
    | nil => rfl
    | cons c rest => dsimp only; rw [if_neg (hn' c rest hkd)]; rfl
  have hput : (Sh.sub pre none d (.node (d :: e) w l r) .nil).put k v = match k.drop (lcp bits k) with
      | [] => Sh.sub pre (some v) d (.node (d :: e) w l r) .nil
      | c :: rest => Sh.sub pre none d (.node (d :: e) w l r) (.node (c :: rest) (some v) .nil .nil) := by
    have hdr : k.drop pre.length = k.drop (lcp bits k) := by rw [hpl]
    cases hkd : k.drop (lcp bits k) with
    | nil => cases d <;> simp only [Sh.sub, cond_true, cond_false, Sh.put, if_neg hng, hdr, hkd]
    | cons c rest =>
      have := hn' c rest hkd
      cases d <;> cases c <;> first | exact absurd rfl this | simp only [Sh.sub, cond_true, cond_false, Sh.put, if_neg hng, hdr, hkd]
  have fin : ∀ q S' T', Rep ((Sh.sub pre none d (.node (d :: e) w l r) .nil).put k v) q S' → Sub (S' ++ G q (n + if ((Sh.sub pre none d (.node (d :: e) w l r) .nil).find k).isSome then 0 else 1)) T' → R (.bool ((Sh.sub pre none d (.node (d :: e) w l r) .nil).find k).isNone) J' T' := by
    rw [hhas, hput, hi]
    intro q S' T' hq hs'
    refine hR q S' T' ?_ hs'
    revert hq
    cases k.drop (lcp bits k) <;> exact id
  cases d with
  | false =>
    refine put_step (w := none) (l := .node (false :: e) w l r) (r := .nil) hng (fun rest h => absurd rfl (kidnil _ _ h)) (fun rest _ => put_nil R tb m _) v _ ((pb, _) :: ((nodO b (false :: e) w pl pr :: (Sl ++ Sr)) ++ [])) at_ G n J' T4 hk hn0 hn hc
      ⟨pb, some ⟨b, 0, none⟩, none, _, [], rfl, rfl, ⟨b, pl, pr, Sl, Sr, rfl, rfl, hrl, hrr⟩, ⟨rfl, rfl⟩⟩ ?_ fin
    simp only [List.append_nil, List.nil_append, List.cons_append]
    exact hs4
  | true =>
    refine put_step (w := none) (l := .nil) (r := .node (true :: e) w l r) hng (fun rest _ => put_nil R tb m _) (fun rest h => absurd rfl (kidnil _ _ h)) v _ ((pb, _) :: ([] ++ (nodO b (true :: e) w pl pr :: (Sl ++ Sr)))) at_ G n J' T4 hk hn0 hn hc
      ⟨pb, none, some ⟨b, 0, none⟩, [], _, rfl, rfl, ⟨rfl, rfl⟩, ⟨b, pl, pr, Sl, Sr, rfl, rfl, hrl, hrr⟩⟩ ?_ fin
    simp only [List.append_nil, List.nil_append, List.cons_append]
    exact hs4

def Sh.ht : Sh → Nat
  | .nil => 0
  | .node _ _ l r => 2 + l.ht + r.ht
theorem put_ok (R : Value → IMem → SH → Prop) (tb : Nat) : ∀ (t : Sh) (m : Nat) (k : List Bool), t.ht ≤ m → PutAt R tb t m k
  | .nil, m, k, _ => put_nil R tb m k
  | .node bits w l r, m, k, h => by
    simp only [Sh.ht] at h
    by_cases hlt : lcp bits k < bits.length
    · have := put_split (R := R) (tb := tb) (m := m - 2) (w := w) (l := l) (r := r) hlt
      rwa [show m - 2 + 2 = m by omega] at this
    · have := put_step (R := R) (tb := tb) (m := m - 1) (w := w) (l := l) (r := r) hlt (fun rest _ => put_ok R tb l _ _ (by omega)) (fun rest _ => put_ok R tb r _ _ (by omega))
      rwa [show m - 1 + 1 = m by omega] at this

/-- a trie in memory -/
def TriO (tb : Nat) (t : Sh) (own : SH) : Prop := ∃ p S, Rep t p S ∧ own = S ++ [trO tb p (t.cnt : Nat)]
theorem Put_runs (tb : Nat) (t : Sh) (hw : t.wf) (hcnt : t.cnt ≤ 4611686018427387904) (own : SH) (ho : TriO tb t own) (k : List Bool) (hk : k.length ≤ 128) (v : Int) (I : IMem) (F : SH) :
    Runs Tryz.prog 83 #[.pointer (some ⟨tb, 0, none⟩), .string (eb k), .int .i64 v] I (own ++ F) fun x J T => x = .bool (t.find k).isNone ∧ ∃ own', TriO tb (t.put k v) own' ∧ T = own' ++ F := by
  obtain ⟨p, S, hr, rfl⟩ := ho
  refine Runs.drop (trie_Trie_Put_fn _ _ _ _ _ _ ?_)
  refine (May_word k hk _ _).mono ?_
  rintro _ J T _ ⟨rfl, rfl, rfl⟩
  refine ⟨true, rfl, ?_⟩
  refine ⟨putInv (fun x J T => ∃ L, Sub L T ∧ x = .bool (t.find k).isNone ∧ ∃ own', TriO tb (t.put k v) own' ∧ L = own' ++ F), t.ht, ?_, fun m t' key' v' at' J T _ h => by rw [putInv_eq] at h; exact h⟩
  refine put_ok _ tb t t.ht k (Nat.le_refl _) v p S ⟨tb, 0, none⟩ (fun p n => trO tb p n :: F) (t.cnt : Nat) J _ hk (by omega) (by omega) (Ctx.top J tb F) hr ?_ ?_
  · simp only [List.append_assoc, List.singleton_append]; exact Sub.refl _
  · intro q S' T' hq hs
    refine ⟨_, hs, rfl, S' ++ [trO tb q ((t.put k v).cnt : Nat)], ⟨q, S', hq, rfl⟩, ?_⟩
    rw [Sh.put_cnt t k v hw]
    simp only [List.append_assoc, List.singleton_append]
    congr 3
    cases (t.find k).isSome <;> simp
end Go.Proofs.YtoiilcdaldnjfaaGreatDoor.Tr
/- The trie's functions: Longest, Get, Len, Nodes, on trees of words. -/
set_option linter.unusedVariables false
set_option linter.unusedSimpArgs false
namespace Go.Proofs.YtoiilcdaldnjfaaGreatDoor.Tr
open Go.Px

def encL (b : Option (Int × Nat)) : Array Value := match b with
  | none => #[.int .i64 0, .int .i64 0, .bool false]
  | some (v, n) => #[.int .i64 v, .int .i64 (n : Nat), .bool true]
def walkInv (res : Option (Int × Nat)) (m : Nat) (key : ByteArray) (value length : Int) (is : Bool) (deep : Int) (n : Option Addr) (T : SH) : Prop :=
  ∃ (t : Sh) (k : List Bool) (S : SH) (d : Nat) (best : Option (Int × Nat)), key = eb k ∧ #[.int .i64 value, .int .i64 length, .bool is] = encL best ∧ deep = (d : Int) ∧ d + k.length ≤ 128 ∧ Rep t n S ∧ Sub S T ∧ t.walk k d best = res ∧ t.ht ≤ m
theorem encL_some {v n : Int} {is : Bool} {best : Option (Int × Nat)} (h : #[.int .i64 v, .int .i64 n, .bool is] = encL best) : Value.tuple #[.int .i64 v, .int .i64 n, .bool is] = .tuple (encL best) := by rw [h]
theorem Longest_runs (tb : Nat) (t : Sh) (own : SH) (ho : TriO tb t own) (k : List Bool) (hk : k.length ≤ 128) (I : IMem) (F : SH) :
    Runs Tryz.prog 98 #[.pointer (some ⟨tb, 0, none⟩), .string (eb k)] I (own ++ F) fun x J T => x = .tuple (encL (t.walk k 0 none)) ∧ T = own ++ F := by
  obtain ⟨p, S, hr, rfl⟩ := ho
  refine trie_Trie_Longest_fn _ _ _ _ _ ?_
  refine (May_word k hk _ _).mono ?_
  rintro _ J T _ ⟨rfl, rfl, rfl⟩
  refine ⟨true, rfl, p, ?_, ?_⟩
  · rw [List.append_assoc]; exact Cell.appR (Cell.at0 rfl)
  refine ⟨fun m key value length is deep n J' T => T = S ++ [trO tb p (t.cnt : Nat)] ++ F ∧ walkInv (t.walk k 0 none) m key value length is deep n T, t.ht,
    ⟨rfl, t, k, S, 0, none, rfl, rfl, rfl, by omega, hr, ⟨_, by rw [List.append_assoc]⟩, rfl, Nat.le_refl _⟩, ?_⟩
  generalize t.walk k 0 none = res
  generalize S ++ [trO tb p (t.cnt : Nat)] ++ F = TT
  rintro m key value length is deep n J' T _ ⟨hT, t', k', S', d, best, rfl, henc, rfl, hd, hrep, hsub, hwalk, hm⟩
  cases t' with
  | nil =>
    obtain ⟨rfl, rfl⟩ := hrep
    rw [Sh.walk] at hwalk
    subst hwalk
    exact ⟨encL_some henc, hT⟩
  | node bits w l r =>
    obtain ⟨b, pl, pr, Sl, Sr, rfl, rfl, hrl, hrr⟩ := hrep
    rw [Sh.walk_node] at hwalk
    refine ⟨eb bits, Sub.cell' hsub (Cell.at0 rfl), _, common_runs bits k' (by omega) _ _ |>.mono (fun v J T _ h => ⟨h.1, h.2.2⟩), eb bits, Sub.cell' hsub (Cell.at0 rfl), ?_⟩
    rw [eb_size]
    refine bcase_dec (fun hlt => ?_) (fun hge => ?_)
    · rw [if_pos (by omega)] at hwalk
      subst hwalk
      exact ⟨encL_some henc, hT⟩
    · rw [if_neg (by omega)] at hwalk
      have hkk := lcp_full (a := bits) (b := k') (by omega)
      generalize k'.drop bits.length = rest at *
      subst hkk
      rw [List.length_append] at hd
      refine ⟨eb bits, Sub.cell' hsub (Cell.at0 rfl), eb bits, Sub.cell' hsub (Cell.at0 rfl), by omega, by rw [eb_size, eb_size, List.length_append]; omega, ?_⟩
      rw [eb_size, eb_size, eb_extract, List.take_length, show ((bits.length : Nat) : Int).toNat = bits.length by omega, List.drop_left, wrap_i64 (by omega) (by omega)]
      refine ⟨w.isSome, Sub.cell' hsub (Cell.at0 rfl), ?_⟩
      have fin : ∀ value length is, #[.int .i64 value, .int .i64 length, .bool is] = encL (bestOf w (d + bits.length) best) → trie_Trie_Longest_b9 (fun key value length is deep n I S => ∃ m', m' < m ∧ S = TT ∧ walkInv res m' key value length is deep n S) (fun x J T => x = .tuple (encL res) ∧ T = TT) (eb rest) value length is ((d : Int) + (bits.length : Int)) (some ⟨b, 0, none⟩) J' T := by
        intro value length is he
        cases rest with
        | nil =>
          dsimp only at hwalk
          subst hwalk
          exact ⟨encL_some he, hT⟩
        | cons c rest =>
          rw [trie_Trie_Longest_b9, eb_size, show ((((c :: rest).length : Nat) : Int) == (0 : Int)) = false by simp; omega]
          refine ⟨sg c, by omega, by rw [eb_get]; simp, (kid_in c).1, (kid_in c).2, ?_⟩
          rw [kid_eq]
          simp only [Sh.ht] at hm
          simp only [List.length_cons] at hd
          cases c with
          | false => exact ⟨pl, Sub.cell' hsub (Cell.at0 rfl), m - 1, by omega, hT, l, false :: rest, Sl, d + bits.length, _, rfl, he, by omega, by simp only [List.length_cons]; omega, hrl, hsub.drop.left, hwalk, by omega⟩
          | true => exact ⟨pr, Sub.cell' hsub (Cell.at0 rfl), m - 1, by omega, hT, r, true :: rest, Sr, d + bits.length, _, rfl, he, by omega, by simp only [List.length_cons]; omega, hrr, hsub.drop.right, hwalk, by omega⟩
      cases w with
      | none => exact fin _ _ _ henc
      | some x => exact ⟨x, Sub.cell' hsub (Cell.at0 rfl), fin _ _ _ (by simp [encL, bestOf])⟩
theorem Len_runs (tb : Nat) (t : Sh) (own : SH) (ho : TriO tb t own) (I : IMem) (F : SH) :
    Runs Tryz.prog 74 #[.pointer (some ⟨tb, 0, none⟩)] I (own ++ F) fun x J T => x = .int .i64 (t.cnt : Nat) ∧ T = own ++ F := by
  obtain ⟨p, S, hr, rfl⟩ := ho
  refine trie_Trie_Len_fn _ _ _ _ ?_
  exact ⟨_, by rw [List.append_assoc]; exact Cell.appR (Cell.at0 rfl), rfl, rfl⟩
end Go.Proofs.YtoiilcdaldnjfaaGreatDoor.Tr
/- The trie's law on words that go on from one another: TrieDeep. -/
set_option linter.unusedVariables false
set_option linter.unusedSimpArgs false
namespace Go.Proofs.YtoiilcdaldnjfaaGreatDoor.Tr
open Go.Px

theorem IsL.of {t : Sh} (hw : t.wf) (k : List Bool) : IsL t.find k (t.walk k 0 none) := by
  rcases Sh.walk_spec t k 0 none hw with ⟨e, h⟩ | ⟨v, n, e, h1, h2, h3⟩
  · exact ⟨fun _ => h, fun v n h' => by rw [e] at h'; cases h'⟩
  · rw [Nat.zero_add] at e
    exact ⟨(fun h' => by rw [e] at h'; cases h'), fun v' n' h' => by rw [e] at h'; injection h' with h'; injection h' with h4 h5; subst h4; subst h5; exact ⟨h1, h2, h3⟩⟩
theorem TriO.new (tb : Nat) : TriO tb .nil [(tb, .cells #[.pointer none, .int .i64 0] 197 (0, 0))] := ⟨none, [], ⟨rfl, rfl⟩, rfl⟩
def alt (n : Nat) : List Bool := (List.range n).map fun i => i % 2 == 1
theorem alt_len (n : Nat) : (alt n).length = n := by simp [alt]
structure Deep (t : Sh) (i : Nat) : Prop where
  wf : t.wf
  cnt : t.cnt = i
  has : ∀ j, t.find (alt j) = if 1 ≤ j ∧ j ≤ i then some ((j : Int) - 1) else none
theorem Deep.step {t : Sh} {i : Nat} (h : Deep t i) : Deep (t.put (alt (i + 1)) (i : Int)) (i + 1) where
  wf := Sh.put_wf _ _ _ h.wf
  cnt := by rw [Sh.put_cnt _ _ _ h.wf, h.cnt, h.has, if_neg (show ¬ (1 ≤ i + 1 ∧ i + 1 ≤ i) by omega)]; simp
  has j := by
    rw [Sh.put_find _ _ _ _ h.wf, h.has]
    by_cases hj : j = i + 1
    · rw [if_pos (show alt j = alt (i + 1) by rw [hj]), if_pos (show 1 ≤ j ∧ j ≤ i + 1 by omega)]; exact congrArg some (by omega)
    · rw [if_neg (fun e => hj (by have := congrArg List.length e; simpa [alt_len] using this))]
      by_cases h1 : 1 ≤ j ∧ j ≤ i
      · rw [if_pos h1, if_pos (by omega)]
      · rw [if_neg h1, if_neg (by omega)]
end Go.Proofs.YtoiilcdaldnjfaaGreatDoor.Tr
/- The trie as plain Lean, part 2: words that are taken away; how deep a tree is. -/
set_option linter.unusedVariables false
set_option linter.unusedSimpArgs false
namespace Go.Proofs.YtoiilcdaldnjfaaGreatDoor.Tr
open Go.Px

def Sh.fix (bits : List Bool) : Option Int → Sh → Sh → Sh
  | some x, l, r => .node bits (some x) l r
  | none, .nil, .nil => .nil
  | none, .node b2 w2 l2 r2, .nil => .node (bits ++ b2) w2 l2 r2
  | none, .nil, .node b2 w2 l2 r2 => .node (bits ++ b2) w2 l2 r2
  | none, .node b2 w2 l2 r2, .node b3 w3 l3 r3 => .node bits none (.node b2 w2 l2 r2) (.node b3 w3 l3 r3)
def Sh.del : Sh → List Bool → Sh
  | .nil, _ => .nil
  | .node bits w l r, k => match k.drop bits.length with
    | [] => Sh.fix bits none l r
    | b :: rest => bif b then Sh.fix bits w l (r.del (b :: rest)) else Sh.fix bits w (l.del (b :: rest)) r
theorem Sh.fix_find (bits : List Bool) (w : Option Int) (l r : Sh) (hl : l.starts false) (hr : r.starts true) (k : List Bool) : (Sh.fix bits w l r).find k = (Sh.node bits w l r).find k := by
  have one : ∀ (b2 : List Bool) (w2 : Option Int) (l2 r2 : Sh) (d : Bool), b2.head? = some d → (Sh.node (bits ++ b2) w2 l2 r2).find k = (Sh.sub bits none d (.node b2 w2 l2 r2) .nil).find k := by
    intro b2 w2 l2 r2 d hd
    rcases pre_cases bits k with h | ⟨rest, rfl⟩
    · rw [Sh.find_lt (lcp_lt_app h), Sh.sub_find_lt h]
    · rw [Sh.find_shift, Sh.sub_find]
      cases rest with
      | nil => exact Sh.starts_find (b := d) (t := .node b2 w2 l2 r2) hd (by simp)
      | cons c rest =>
        dsimp only
        by_cases hc : c = d
        · rw [if_pos hc]
        · rw [if_neg hc, Sh.starts_find (b := d) (t := .node b2 w2 l2 r2) hd (by simpa using hc)]; rfl
  cases w with
  | some x => rfl
  | none =>
    cases l with
    | nil =>
      cases r with
      | nil =>
        rcases pre_cases bits k with h | ⟨rest, rfl⟩
        · rw [Sh.find_lt h]; rfl
        · rw [Sh.find_app]
          cases rest with
          | nil => rfl
          | cons b rest => cases b <;> rfl
      | node b2 w2 l2 r2 => exact one b2 w2 l2 r2 true hr
    | node b2 w2 l2 r2 =>
      cases r with
      | nil => exact one b2 w2 l2 r2 false hl
      | node b3 w3 l3 r3 => rfl
theorem Sh.fix_wf (bits : List Bool) (w : Option Int) (l r : Sh) (hl : l.starts false) (hr : r.starts true) (h1 : l.wf) (h2 : r.wf) : (Sh.fix bits w l r).wf := by
  cases w with
  | some x => exact ⟨hl, hr, .inl rfl, h1, h2⟩
  | none =>
    cases l <;> cases r
    · trivial
    · exact h2
    · exact h1
    · exact ⟨hl, hr, .inr ⟨rfl, rfl⟩, h1, h2⟩
theorem Sh.fix_starts {bits : List Bool} {b : Bool} (hb : bits.head? = some b) (w : Option Int) (l r : Sh) : (Sh.fix bits w l r).starts b := by
  have : ∀ c : List Bool, (bits ++ c).head? = some b := fun c => by cases bits with | nil => cases hb | cons x bits => exact hb
  cases w with
  | some x => exact hb
  | none => cases l <;> cases r <;> first | trivial | exact this _ | exact hb
theorem Sh.fix_cnt (bits : List Bool) (w : Option Int) (l r : Sh) : (Sh.fix bits w l r).cnt = (Sh.node bits w l r).cnt := by
  cases w with
  | some x => rfl
  | none => cases l <;> cases r <;> simp [Sh.fix, Sh.cnt]
theorem Sh.del_starts {b : Bool} {t : Sh} (h : t.starts b) (k : List Bool) : (t.del k).starts b := by
  cases t with
  | nil => trivial
  | node bits w l r =>
    rw [Sh.del]
    split
    · exact Sh.fix_starts h _ _ _
    · rename_i c _ _; cases c <;> exact Sh.fix_starts h _ _ _
theorem Sh.del_wf : ∀ (t : Sh) (k : List Bool), t.wf → (t.del k).wf
  | .nil, _, _ => trivial
  | .node bits w l r, k, hw => by
    obtain ⟨h1, h2, _, h4, h5⟩ := hw
    rw [Sh.del]
    split
    · exact Sh.fix_wf _ _ _ _ h1 h2 h4 h5
    · rename_i c rest _
      cases c
      · exact Sh.fix_wf _ _ _ _ (Sh.del_starts h1 _) h2 (Sh.del_wf l _ h4) h5
      · exact Sh.fix_wf _ _ _ _ h1 (Sh.del_starts h2 _) h4 (Sh.del_wf r _ h5)
theorem Sh.del_find : ∀ (t : Sh) (k : List Bool), t.wf → t.find k ≠ none → ∀ k', (t.del k).find k' = if k' = k then none else t.find k'
  | .nil, _, _, h, _ => absurd rfl h
  | .node bits w l r, k, hw, hf, k' => by
    obtain ⟨h1, h2, _, h4, h5⟩ := hw
    rcases pre_cases bits k with h | ⟨rest, rfl⟩
    · rw [Sh.find_lt h] at hf; exact absurd rfl hf
    rw [Sh.find_app] at hf
    rw [Sh.del, List.drop_left]
    have hout : ∀ (w' : Option Int) (x y : Sh), lcp bits k' < bits.length → (Sh.node bits w' x y).find k' = if k' = bits ++ rest then none else (Sh.node bits w l r).find k' := fun w' x y h => by
      rw [Sh.find_lt h, Sh.find_lt h]; split <;> rfl
    cases rest with
    | nil =>
      dsimp only
      rw [Sh.fix_find _ _ _ _ h1 h2]
      rcases pre_cases bits k' with h | ⟨rest', rfl⟩
      · exact hout _ _ _ h
      · rw [Sh.find_app, Sh.find_app]
        simp only [List.append_cancel_left_eq]
        cases rest' with
        | nil => rfl
        | cons c rest' => rw [if_neg (List.cons_ne_nil _ _)]
    | cons c rest =>
      dsimp only at hf ⊢
      cases c with
      | false =>
        simp only [cond_false] at hf ⊢
        rw [Sh.fix_find _ _ _ _ (Sh.del_starts h1 _) h2]
        rcases pre_cases bits k' with h | ⟨rest', rfl⟩
        · exact hout _ _ _ h
        · rw [Sh.find_app, Sh.find_app]
          simp only [List.append_cancel_left_eq]
          cases rest' with
          | nil => rw [if_neg (fun h => by cases h)]
          | cons d rest' =>
            cases d
            · exact Sh.del_find l (false :: rest) h4 hf (false :: rest')
            · rw [if_neg (by simp)]; rfl
      | true =>
        simp only [cond_true] at hf ⊢
        rw [Sh.fix_find _ _ _ _ h1 (Sh.del_starts h2 _)]
        rcases pre_cases bits k' with h | ⟨rest', rfl⟩
        · exact hout _ _ _ h
        · rw [Sh.find_app, Sh.find_app]
          simp only [List.append_cancel_left_eq]
          cases rest' with
          | nil => rw [if_neg (fun h => by cases h)]
          | cons d rest' =>
            cases d
            · rw [if_neg (by simp)]; rfl
            · exact Sh.del_find r (true :: rest) h5 hf (true :: rest')
theorem Sh.del_cnt : ∀ (t : Sh) (k : List Bool), t.find k ≠ none → (t.del k).cnt + 1 = t.cnt
  | .nil, _, h => absurd rfl h
  | .node bits w l r, k, hf => by
    rcases pre_cases bits k with h | ⟨rest, rfl⟩
    · rw [Sh.find_lt h] at hf; exact absurd rfl hf
    rw [Sh.find_app] at hf
    rw [Sh.del, List.drop_left]
    cases rest with
    | nil =>
      dsimp only at hf ⊢
      rw [Sh.fix_cnt]
      cases w with
      | none => exact absurd rfl hf
      | some x => simp [Sh.cnt]; omega
    | cons c rest =>
      cases c <;> dsimp only [cond_true, cond_false] at hf ⊢ <;> rw [Sh.fix_cnt]
      · have := Sh.del_cnt l _ hf; simp only [Sh.cnt]; omega
      · have := Sh.del_cnt r _ hf; simp only [Sh.cnt]; omega
def Sh.len : Sh → Nat
  | .nil => 0
  | .node bits _ l r => bits.length + max l.len r.len
theorem Sh.fix_len (bits : List Bool) (w : Option Int) (l r : Sh) : (Sh.fix bits w l r).len ≤ (Sh.node bits w l r).len := by
  cases w with
  | some x => exact Nat.le_refl _
  | none => cases l <;> cases r <;> simp [Sh.fix, Sh.len] <;> omega
theorem Sh.del_len : ∀ (t : Sh) (k : List Bool), (t.del k).len ≤ t.len
  | .nil, _ => Nat.le_refl _
  | .node bits w l r, k => by
    rw [Sh.del]
    split
    · exact Sh.fix_len _ _ _ _
    · rename_i c rest _
      have e1 := Sh.del_len l (c :: rest)
      have e2 := Sh.del_len r (c :: rest)
      cases c
      · refine Nat.le_trans (Sh.fix_len _ _ _ _) ?_
        simp only [Sh.len]; omega
      · refine Nat.le_trans (Sh.fix_len _ _ _ _) ?_
        simp only [Sh.len]; omega
theorem Sh.put_len : ∀ (t : Sh) (k : List Bool) (v : Int), (t.put k v).len ≤ max t.len k.length
  | .nil, k, v => by simp [Sh.put, Sh.len]
  | .node bits w l r, k, v => by
    rw [Sh.put]
    have hle := lcp_le bits k
    split
    · rename_i hlt
      rw [List.getElem?_eq_getElem hlt]
      have h1 : (bits.drop (lcp bits k)).length = bits.length - lcp bits k := List.length_drop
      have h3 : (bits.take (lcp bits k)).length = lcp bits k := by rw [List.length_take]; omega
      cases hk : k.drop (lcp bits k) with
      | nil => cases bits[lcp bits k] <;> simp only [Sh.sub, cond_true, cond_false, Sh.len, h1, h3] <;> omega
      | cons c ks =>
        have h2 : (c :: ks).length = k.length - lcp bits k := by rw [← hk, List.length_drop]
        cases bits[lcp bits k] <;> simp only [Sh.sub, cond_true, cond_false, Sh.len, h1, h2, h3] <;> omega
    · rename_i hge
      have hkk := lcp_full hge
      generalize k.drop bits.length = rest at *
      subst hkk
      split
      · simp only [Sh.len]; omega
      · rename_i c rest
        have e1 := Sh.put_len l (c :: rest) v
        have e2 := Sh.put_len r (c :: rest) v
        rw [List.length_append]
        cases c <;> simp only [cond_true, cond_false, Sh.len] <;> omega
end Go.Proofs.YtoiilcdaldnjfaaGreatDoor.Tr
/- The trie's functions: without, Del, Get, count, Nodes, on trees of words. -/
set_option linter.unusedVariables false
set_option linter.unusedSimpArgs false
namespace Go.Proofs.YtoiilcdaldnjfaaGreatDoor.Tr
open Go.Px

theorem without_b3 {R : Value → IMem → SH → Prop} {b : Nat} {bits : List Bool} {w : Option Int} {l r : Sh} {pl pr : Option Addr} {Sl Sr F : SH} {J : IMem} {T : SH} (hl : Rep l pl Sl) (hr : Rep r pr Sr)
    (hlen : (Sh.node bits w l r).len ≤ 4611686018427387904) (hs : Sub (nodO b bits w pl pr :: (Sl ++ Sr) ++ F) T) (hR : ∀ q S' T', Rep (Sh.fix bits w l r) q S' → Sub (S' ++ F) T' → R (.pointer q) J T') : trie_without_b3 R (some ⟨b, 0, none⟩) J T := by
  have c0 : ∀ (o : Nat) (v : Value), (nodO b bits w pl pr).2 = (nodO b bits w pl pr).2 → (#[.string (eb bits), .bool w.isSome, .int .i64 (w.getD 0), .pointer pl, .pointer pr] : Array Value)[o]? = some v → Cell J T ⟨b, o, none⟩ v := fun o v _ h => Sub.cell' hs (Cell.at0 h)
  have k0 : Cell J T ⟨b, 3, none⟩ (.pointer pl) := c0 3 _ rfl rfl
  have k1 : Cell J T ⟨b, 4, none⟩ (.pointer pr) := c0 4 _ rfl rfl
  have kb : Cell J T ⟨b, 0, none⟩ (.string (eb bits)) := c0 0 _ rfl rfl
  refine ⟨w.isSome, c0 1 _ rfl rfl, ?_⟩
  cases w with
  | some x => exact hR (some ⟨b, 0, none⟩) (nodO b bits (some x) pl pr :: (Sl ++ Sr)) T ⟨b, pl, pr, Sl, Sr, rfl, rfl, hl, hr⟩ hs
  | none =>
    refine ⟨by omega, by omega, pl, k0, ?_⟩
    cases l with
    | nil =>
      obtain ⟨rfl, rfl⟩ := hl
      refine ⟨by omega, by omega, none, k0, by omega, by omega, pr, k1, ?_⟩
      cases r with
      | nil =>
        obtain ⟨rfl, rfl⟩ := hr
        exact hR none [] T ⟨rfl, rfl⟩ hs.drop
      | node b2 w2 l2 r2 =>
        obtain ⟨rb, pl2, pr2, Sl2, Sr2, rfl, rfl, hl2, hr2⟩ := hr
        simp only [Sh.len] at hlen
        have kr : Cell J T ⟨rb, 0, none⟩ (.string (eb b2)) := Sub.cell' hs (Cell.tl (Cell.at0 rfl))
        refine ⟨by omega, by omega, _, k1, _, kb, by omega, by omega, _, k1, _, kr, by rw [eb_size, eb_size]; omega, ?_⟩
        rw [eb_append]
        refine StP.of_sub hs (StP.tl (StP.at0 (o := 0) (vs := [.string (eb (bits ++ b2))]) (by simp) rfl fun T2 hs2 => ?_))
        refine ⟨by omega, by omega, some ⟨rb, 0, none⟩, Sub.cell' hs2 (Cell.at0 rfl), ?_⟩
        exact hR (some ⟨rb, 0, none⟩) (nodO rb (bits ++ b2) w2 pl2 pr2 :: (Sl2 ++ Sr2)) T2 ⟨rb, pl2, pr2, Sl2, Sr2, rfl, rfl, hl2, hr2⟩ hs2.drop
    | node b2 w2 l2 r2 =>
      obtain ⟨lb, pl2, pr2, Sl2, Sr2, rfl, rfl, hl2, hr2⟩ := hl
      refine ⟨by omega, by omega, pr, k1, ?_⟩
      cases r with
      | node b3 w3 l3 r3 =>
        have hr' := hr
        obtain ⟨rb, pl3, pr3, Sl3, Sr3, rfl, hSr, hl3, hr3⟩ := hr'
        exact hR (some ⟨b, 0, none⟩) (nodO b bits none _ _ :: ((nodO lb b2 w2 pl2 pr2 :: (Sl2 ++ Sr2)) ++ Sr)) T ⟨b, _, _, _, Sr, rfl, rfl, ⟨lb, pl2, pr2, Sl2, Sr2, rfl, rfl, hl2, hr2⟩, hr⟩ hs
      | nil =>
        obtain ⟨rfl, rfl⟩ := hr
        simp only [Sh.len] at hlen
        have kl : Cell J T ⟨lb, 0, none⟩ (.string (eb b2)) := Sub.cell' hs (Cell.tl (Cell.at0 rfl))
        refine ⟨by omega, by omega, _, k0, ?_⟩
        refine ⟨by omega, by omega, _, k0, _, kb, by omega, by omega, _, k0, _, kl, by rw [eb_size, eb_size]; omega, ?_⟩
        rw [eb_append]
        refine StP.of_sub hs (StP.tl (StP.at0 (o := 0) (vs := [.string (eb (bits ++ b2))]) (by simp) rfl fun T2 hs2 => ?_))
        refine ⟨by omega, by omega, some ⟨lb, 0, none⟩, Sub.cell' hs2 (Cell.at0 rfl), ?_⟩
        refine hR (some ⟨lb, 0, none⟩) (nodO lb (bits ++ b2) w2 pl2 pr2 :: (Sl2 ++ Sr2)) T2 ⟨lb, pl2, pr2, Sl2, Sr2, rfl, rfl, hl2, hr2⟩ ?_
        have := hs2.drop
        change Sub (nodO lb (bits ++ b2) w2 pl2 pr2 :: ((Sl2 ++ Sr2) ++ [] ++ F)) T2 at this
        rw [List.append_nil] at this
        exact this

theorem without_runs : ∀ (t : Sh) (k : List Bool) (p : Option Addr) (S F : SH) (I : IMem), t.find k ≠ none → t.len ≤ 4611686018427387904 → Rep t p S →
    Runs Tryz.prog 117 #[.pointer p, .string (eb k)] I (S ++ F) fun x J T => ∃ q S', x = .pointer q ∧ Rep (t.del k) q S' ∧ T = S' ++ F
  | .nil, k, p, S, F, I, hf, _, _ => absurd rfl hf
  | .node bits w l r, k, p, S, F, I, hf, hlen, ⟨b, pl, pr, Sl, Sr, hp, hS, hl, hr⟩ => by
    subst hp hS
    rcases pre_cases bits k with h | ⟨rest, rfl⟩
    · rw [Sh.find_lt h] at hf; exact absurd rfl hf
    rw [Sh.find_app] at hf
    refine Runs.drop (trie_without_fn _ _ _ _ _ ?_)
    refine ⟨eb bits, Cell.at0 rfl, by omega, by rw [eb_size, eb_size, List.length_append]; omega, ?_⟩
    rw [eb_size, eb_size, eb_extract, List.take_length, show ((bits.length : Nat) : Int).toNat = bits.length by omega, List.drop_left, Sh.del, List.drop_left, trie_without_b1, eb_size]
    cases rest with
    | nil =>
      show StP _ ⟨b, 1, none⟩ [.bool false] fun S1 => StP S1 ⟨b, 2, none⟩ [.int .i64 0] fun S1' => trie_without_b3 _ (some ⟨b, 0, none⟩) I S1'
      refine StP.at0 (o := 1) (vs := [.bool false]) (by simp) rfl (StP.at0 (o := 2) (vs := [.int .i64 0]) (by simp [setR]) rfl ?_)
      refine without_b3 (b := b) (bits := bits) (w := none) (F := F) hl hr ?_ (Sub.refl _) ?_
      · simpa only [Sh.len] using hlen
      · intro q S' T' hq hs
        exact ⟨_, hs, q, S', rfl, hq, rfl⟩
    | cons c rest =>
      rw [show ((((c :: rest).length : Nat) : Int) == (0 : Int)) = false by simp; omega]
      refine ⟨sg c, by omega, by rw [eb_get]; simp, ?_⟩
      dsimp only at hf ⊢
      simp only [Sh.len] at hlen
      cases c with
      | false =>
        refine ⟨(kid_in false).1, (kid_in false).2, pl, Cell.at0 rfl, ?_⟩
        refine Runs.perm (S' := Sl ++ (nodO b bits w pl pr :: (Sr ++ F))) (by simp only [List.cons_append, List.append_assoc]; exact List.perm_middle.symm) ?_
        refine (without_runs l (false :: rest) pl Sl _ I hf (by omega) hl).mono ?_
        rintro _ J T _ ⟨q, S', rfl, hq, rfl⟩
        refine ⟨q, rfl, (kid_in false).1, (kid_in false).2, StP.appR (StP.at0 (o := 3) (vs := [.pointer q]) (by simp) rfl ?_)⟩
        refine without_b3 (b := b) (bits := bits) (w := w) (pl := q) (pr := pr) (F := F) hq hr ?_ ⟨[], ?_⟩ ?_
        · have := Sh.del_len l (false :: rest)
          simp only [Sh.len]; omega
        · simp only [List.append_nil, List.cons_append, List.append_assoc]; exact List.perm_middle
        · intro q' S'' T' hq' hs
          exact ⟨_, hs, q', S'', rfl, hq', rfl⟩
      | true =>
        refine ⟨(kid_in true).1, (kid_in true).2, pr, Cell.at0 rfl, ?_⟩
        have hperm : ∀ (X : SH) (n : Nat × Obj), (n :: (Sl ++ X) ++ F).Perm (X ++ (n :: (Sl ++ F))) := fun X n => by
          simp only [List.cons_append, List.append_assoc]
          refine List.Perm.trans (List.Perm.cons _ ?_) List.perm_middle.symm
          rw [← List.append_assoc, ← List.append_assoc]
          exact List.perm_append_comm.append_right _
        refine Runs.perm (S' := Sr ++ (nodO b bits w pl pr :: (Sl ++ F))) (hperm _ _) ?_
        refine (without_runs r (true :: rest) pr Sr _ I hf (by omega) hr).mono ?_
        rintro _ J T _ ⟨q, S', rfl, hq, rfl⟩
        refine ⟨q, rfl, (kid_in true).1, (kid_in true).2, StP.appR (StP.at0 (o := 4) (vs := [.pointer q]) (by simp) rfl ?_)⟩
        refine without_b3 (b := b) (bits := bits) (w := w) (pl := pl) (pr := q) (F := F) hl hq ?_ ⟨[], ?_⟩ ?_
        · have := Sh.del_len r (true :: rest)
          simp only [Sh.len]; omega
        · rw [List.append_nil]; exact (hperm S' (nodO b bits w pl q)).symm
        · intro q' S'' T' hq' hs
          exact ⟨_, hs, q', S'', rfl, hq', rfl⟩
end Go.Proofs.YtoiilcdaldnjfaaGreatDoor.Tr
/- The trie's functions: Get, Del, words that may not be; the law's words; TrieWhole and TrieMay. -/
set_option linter.unusedVariables false
set_option linter.unusedSimpArgs false
namespace Go.Proofs.YtoiilcdaldnjfaaGreatDoor.Tr
open Go.Px

def getV (o : Option Int) : Value := .tuple #[.int .i64 (o.getD 0), .bool o.isSome]
theorem Get_runs (tb : Nat) (t : Sh) (hw : t.wf) (own : SH) (ho : TriO tb t own) (k : List Bool) (hk : k.length ≤ 128) (I : IMem) (F : SH) :
    Runs Tryz.prog 116 #[.pointer (some ⟨tb, 0, none⟩), .string (eb k)] I (own ++ F) fun x J T => x = getV (t.find k) ∧ T = own ++ F := by
  refine trie_Trie_Get_fn _ _ _ _ _ ?_
  refine (Longest_runs tb t own ho k hk I F).mono ?_
  rintro _ J T _ ⟨rfl, rfl⟩
  obtain ⟨hno, hyes⟩ := IsL.of hw k
  generalize t.walk k 0 none = res at hno hyes
  cases res with
  | none =>
    have := hno rfl k.length (Nat.le_refl _)
    rw [List.take_length] at this
    exact ⟨_, _, _, rfl, by rw [this]; rfl, rfl⟩
  | some r =>
    obtain ⟨v, n⟩ := r
    obtain ⟨h1, h2, h3⟩ := hyes v n rfl
    refine ⟨_, _, _, rfl, ?_⟩
    show bcase (((n : Nat) : Int) != ((eb k).size : Int)) _ _
    rw [eb_size]
    refine bcase_bne (fun h => ?_) (fun h => ?_)
    · have := h3 k.length (by omega) (Nat.le_refl _)
      rw [List.take_length] at this
      exact ⟨by rw [this]; rfl, rfl⟩
    · obtain rfl : n = k.length := by omega
      rw [List.take_length] at h2
      exact ⟨by rw [h2]; rfl, rfl⟩
theorem Del_runs (tb : Nat) (t : Sh) (hw : t.wf) (hlen : t.len ≤ 4611686018427387904) (hcnt : t.cnt ≤ 4611686018427387904) (own : SH) (ho : TriO tb t own) (k : List Bool) (hk : k.length ≤ 128) (I : IMem) (F : SH) :
    Runs Tryz.prog 89 #[.pointer (some ⟨tb, 0, none⟩), .string (eb k)] I (own ++ F) fun x J T => x = .bool (t.find k).isSome ∧ ∃ own', TriO tb (if (t.find k).isSome then t.del k else t) own' ∧ T = own' ++ F := by
  refine trie_Trie_Del_fn _ _ _ _ _ ?_
  refine (Get_runs tb t hw own ho k hk I F).mono ?_
  rintro _ J T _ ⟨rfl, rfl⟩
  refine ⟨_, _, rfl, ?_⟩
  cases hf : t.find k with
  | none => exact ⟨rfl, own, ho, rfl⟩
  | some v =>
    obtain ⟨p, S, hr, rfl⟩ := ho
    have hc := Sh.del_cnt t k (by rw [hf]; exact fun h => by cases h)
    refine ⟨p, by rw [List.append_assoc]; exact Cell.appR (Cell.at0 rfl), ?_⟩
    rw [List.append_assoc]
    refine (without_runs t k p S _ J (by rw [hf]; exact fun h => by cases h) hlen hr).mono ?_
    rintro _ J2 T2 _ ⟨q, S', rfl, hq, rfl⟩
    refine ⟨q, rfl, StP.appR (StP.at0 (o := 0) (vs := [.pointer q]) (by simp) rfl ?_)⟩
    refine ⟨(t.cnt : Nat), Cell.appR (Cell.at0 rfl), StP.appR (StP.at0 (o := 1) (vs := [.int .i64 (IntKind.wrap .i64 (((t.cnt : Nat) : Int) - 1))]) (by simp [setR]) rfl ?_)⟩
    refine ⟨rfl, S' ++ [trO tb q ((t.del k).cnt : Nat)], ⟨q, S', hq, rfl⟩, ?_⟩
    rw [wrap_i64 (by omega) (by omega), show ((t.cnt : Nat) : Int) - 1 = ((t.del k).cnt : Nat) by omega, List.append_assoc]
    rfl
/-! ### the law's words -/
end Go.Proofs.YtoiilcdaldnjfaaGreatDoor.Tr
/- An index in memory; a place's trie. -/
namespace Go.Proofs.YtoiilcdaldnjfaaGreatDoor
open Go.Px
set_option linter.unusedVariables false
set_option linter.unusedSimpArgs false
set_option maxRecDepth 8000

/-- a trie of a place -/
structure Te where
  k : Int
  s : Int
  b : Nat
  t : Tr.Sh
abbrev keyTe (k s : Int) : Value := .agg #[.int .i64 k, .int .i64 s]
abbrev enTe (i : Nat) (x : Te) : MapEntry := { key := keyTe x.k x.s, val := .pointer (some ⟨x.b, 0, none⟩), born := i }
def esOf (L : List Te) : Array MapEntry := (L.mapIdx enTe).toArray
def lookT (L : List Te) (k s : Int) : Option Te := L.find? fun x => x.k == k && x.s == s
theorem eq_place (a b c d : Int) : eqV Tryz.prog 4 163 (keyTe a b) (keyTe c d) = some ((a == c) && ((b == d) && true)) := by kernel_rfl
theorem find_es (k s : Int) : ∀ (L : List Te) (es : List MapEntry) (i : Nat), es.map (fun e => (e.key, e.val)) = L.map (fun x => (keyTe x.k x.s, Value.pointer (some ⟨x.b, 0, none⟩))) →
    (∃ x j, lookT L k s = some x ∧ findS Tryz.prog 163 (keyTe k s) es i = some (some (j, .pointer (some ⟨x.b, 0, none⟩)))) ∨ (lookT L k s = none ∧ findS Tryz.prog 163 (keyTe k s) es i = some none)
  | [], [], i, _ => .inr ⟨rfl, rfl⟩
  | [], e :: es, i, h => by simp at h
  | x :: L, [], i, h => by simp at h
  | x :: L, e :: es, i, h => by
    simp only [List.map_cons, List.cons.injEq, Prod.mk.injEq] at h
    obtain ⟨⟨h1, h2⟩, h3⟩ := h
    unfold findS lookT
    rw [h1, eq_place]
    by_cases hx : x.k = k ∧ x.s = s
    · have e1 : (x.k == k && x.s == s) = true := by simp [hx]
      have e2 : ((k == x.k) && ((s == x.s) && true)) = true := by simp [hx]
      rw [List.find?_cons, e1, e2]
      exact .inl ⟨x, i, rfl, by rw [h2]⟩
    · have e1 : (x.k == k && x.s == s) = false := by
        rw [Bool.and_eq_false_iff, beq_eq_false_iff_ne, beq_eq_false_iff_ne]; omega
      have e2 : ((k == x.k) && ((s == x.s) && true)) = false := by
        rw [Bool.and_true, Bool.and_eq_false_iff, beq_eq_false_iff_ne, beq_eq_false_iff_ne]; omega
      rw [List.find?_cons, e1, e2]
      exact find_es k s L es (i + 1) h3
theorem es_map : ∀ (L : List Te), (esOf L).toList.map (fun e => (e.key, e.val)) = L.map (fun x => (keyTe x.k x.s, Value.pointer (some ⟨x.b, 0, none⟩))) := fun L => by
  apply List.ext_getElem?
  intro i
  simp only [esOf, List.getElem?_map, List.getElem?_mapIdx]
  cases L[i]? <;> rfl
theorem es_snoc (L : List Te) (x : Te) : (esOf L).push (enTe L.length x) = esOf (L ++ [x]) := by
  unfold esOf
  apply Array.ext'
  simp [List.mapIdx_append]
theorem es_upd (L1 L2 : List Te) (x y : Te) (h : x.k = y.k) (h1 : x.s = y.s) (h2 : x.b = y.b) : esOf (L1 ++ x :: L2) = esOf (L1 ++ y :: L2) := by
  unfold esOf
  congr 1
  apply List.ext_getElem?
  intro i
  rw [List.getElem?_mapIdx, List.getElem?_mapIdx]
  rcases Nat.lt_trichotomy i L1.length with hi | hi | hi
  · rw [List.getElem?_append_left hi, List.getElem?_append_left hi]
  · subst hi
    rw [List.getElem?_append_right (Nat.le_refl _), List.getElem?_append_right (Nat.le_refl _), Nat.sub_self]
    simp [enTe, h, h1, h2]
  · rw [List.getElem?_append_right (by omega), List.getElem?_append_right (by omega)]
    obtain ⟨j, hj⟩ : ∃ j, i - L1.length = j + 1 := ⟨i - L1.length - 1, by omega⟩
    rw [hj]; rfl
/-! ### the tries' blocks -/
def TrsO : List Te → SH → Prop
  | [], own => own = []
  | x :: L, own => ∃ o1 o2, Tr.TriO x.b x.t o1 ∧ x.t.wf ∧ x.t.len ≤ 128 ∧ TrsO L o2 ∧ own = o1 ++ o2
theorem TrsO.snoc {x : Te} {o1 : SH} (h1 : Tr.TriO x.b x.t o1) (hw : x.t.wf) (hl : x.t.len ≤ 128) : ∀ {L : List Te} {own : SH}, TrsO L own → TrsO (L ++ [x]) (own ++ o1)
  | [], own, h => by
    have h : own = [] := h
    subst h
    exact ⟨o1, [], h1, hw, hl, rfl, by simp⟩
  | y :: L, own, h => by
    obtain ⟨oy, o2, hy, hyw, hyl, hL, rfl⟩ := h
    exact ⟨oy, o2 ++ o1, hy, hyw, hyl, TrsO.snoc h1 hw hl hL, by rw [List.append_assoc]⟩
theorem TrsO.split {k s : Int} {x : Te} : ∀ {L : List Te} {own : SH}, TrsO L own → lookT L k s = some x → ∃ L1 L2 oA ox oB, L = L1 ++ x :: L2 ∧ x.k = k ∧ x.s = s ∧ (∀ y ∈ L1, ¬ (y.k = k ∧ y.s = s)) ∧ TrsO L1 oA ∧ Tr.TriO x.b x.t ox ∧ x.t.wf ∧ x.t.len ≤ 128 ∧ TrsO L2 oB ∧ own = oA ++ (ox ++ oB)
  | [], own, h, hl => by cases hl
  | y :: L, own, h, hl => by
    obtain ⟨oy, o2, hy, hyw, hyl, hL, rfl⟩ := h
    unfold lookT at hl
    rw [List.find?_cons] at hl
    by_cases e : (y.k == k && y.s == s) = true
    · rw [e] at hl
      have hl : y = x := Option.some.inj hl
      subst hl
      rw [Bool.and_eq_true, beq_iff_eq, beq_iff_eq] at e
      exact ⟨[], L, [], oy, o2, rfl, e.1, e.2, fun z hz => (by cases hz), rfl, hy, hyw, hyl, hL, rfl⟩
    · rw [Bool.not_eq_true] at e
      rw [e] at hl
      obtain ⟨L1, L2, oA, ox, oB, rfl, h1, h2, hne, hA, hx, hxw, hxl, hB, rfl⟩ := TrsO.split hL hl
      refine ⟨y :: L1, L2, oy ++ oA, ox, oB, rfl, h1, h2, fun z hz => ?_, ⟨oy, oA, hy, hyw, hyl, hA, rfl⟩, hx, hxw, hxl, hB, by rw [List.append_assoc]⟩
      rcases List.mem_cons.1 hz with rfl | hz
      · rw [Bool.and_eq_false_iff, beq_eq_false_iff_ne, beq_eq_false_iff_ne] at e
        rintro ⟨g1, g2⟩
        rcases e with e | e
        · exact e g1
        · exact e g2
      · exact hne z hz
theorem TrsO.join {x : Te} {ox oB : SH} {L2 : List Te} (hx : Tr.TriO x.b x.t ox) (hw : x.t.wf) (hl : x.t.len ≤ 128) (hB : TrsO L2 oB) : ∀ {L1 : List Te} {oA : SH}, TrsO L1 oA → TrsO (L1 ++ x :: L2) (oA ++ (ox ++ oB))
  | [], oA, h => by
    have h : oA = [] := h
    subst h
    exact ⟨ox, oB, hx, hw, hl, hB, rfl⟩
  | y :: L, own, h => by
    obtain ⟨oy, o2, hy, hyw, hyl, hL, rfl⟩ := h
    exact ⟨oy, o2 ++ (ox ++ oB), hy, hyw, hyl, TrsO.join hx hw hl hB hL, by rw [List.append_assoc]⟩
/-! ### an index -/
def IxO (xb : Nat) (M : Tb.KV) (n : Nat) (L : List Te) (own : SH) : Prop := ∃ xm tb o1 o2, Tb.TabO xm xb tb o1 ∧ Tb.TI 1073741824 tb M ∧ tb.live = n ∧ (L.map fun x => (x.k, x.s)).Nodup ∧ TrsO L o2 ∧ own = o1 ++ ((xm, .map (esOf L) L.length) :: o2)
theorem tab_cell {xm xb : Nat} {tb : Tb.Tbl} {o1 F T : SH} (h : Tb.TabO xm xb tb o1) (hs : Sub (o1 ++ F) T) {I : IMem} : Cell I T ((⟨xb, 0, none⟩ : Addr).add 3) (.map (some xm)) := by
  refine Cell.at_ (add_mk _ _ _) ?_
  rcases h with ⟨_, rfl⟩ | ⟨sb, _, rfl⟩
  · exact Cell.among (F := F) hs rfl
  · exact Cell.among (F := Tb.sloB sb tb.ss :: F) hs rfl
theorem lookT_snoc {L : List Te} {k s : Int} {x : Te} (h : lookT L k s = none) (h1 : x.k = k) (h2 : x.s = s) : lookT (L ++ [x]) k s = some x := by
  unfold lookT at h ⊢
  rw [List.find?_append, h]
  simp [h1, h2]
theorem look_at {es : Array MapEntry} {L : List Te} {k s : Int} {I : IMem} {T : SH} {xm ck : Nat} (he : es = esOf L) (hm : MpC I T xm es ck) :
    (∃ x, lookT L k s = some x ∧ MapAtS Tryz.prog 163 I T (some xm) (keyTe k s) (.pointer none) (.pointer (some ⟨x.b, 0, none⟩)) true) ∨ (lookT L k s = none ∧ MapAtS Tryz.prog 163 I T (some xm) (keyTe k s) (.pointer none) (.pointer none) false) := by
  subst he
  rcases find_es k s L (esOf L).toList 0 (es_map L) with ⟨x, j, h1, h2⟩ | ⟨h1, h2⟩
  · exact .inl ⟨x, h1, _, ⟨ck, hm⟩, .inl ⟨j, h2, rfl⟩⟩
  · exact .inr ⟨h1, _, ⟨ck, hm⟩, .inr ⟨h2, rfl, rfl⟩⟩
theorem trie_runs {xb n : Nat} {M : Tb.KV} {L : List Te} {own F S : SH} {I : IMem} (t : Tg) (h : IxO xb M n L own) (hs : Sub (own ++ F) S) :
    Runs Tryz.prog 82 #[.pointer (some ⟨xb, 0, none⟩), vT t] I S fun v J T => ∃ L' own' x, v = .pointer (some ⟨x.b, 0, none⟩) ∧ lookT L' t.1 (t.2.2.1.size : Int) = some x ∧ (L' = L ∨ (lookT L t.1 (t.2.2.1.size : Int) = none ∧ x = ⟨t.1, (t.2.2.1.size : Int), x.b, .nil⟩ ∧ L' = L ++ [x])) ∧ IxO xb M n L' own' ∧ Sub (own' ++ F) T := by
  obtain ⟨xm, tb, o1, o2, hT, hI, hn, hnd, hL, rfl⟩ := h
  refine index_Index_trie_fn _ _ _ _ _ _ _ _ ?_
  unfold index_Index_trie
  intro b3
  refine ⟨_, Cell.at0 rfl, _, Cell.at0 rfl, fun b5 => StP.all (vs := [.int .i64 t.1, .int .i64 (t.2.2.1.size : Int)]) rfl rfl ?_⟩
  have hs1 : Sub ((b5, .cells #[.int .i64 t.1, .int .i64 (t.2.2.1.size : Int)] 163 (0, 0)) :: (o1 ++ ((xm, .map (esOf L) L.length) :: (o2 ++ F)))) ((b5, .cells #[.int .i64 t.1, .int .i64 (t.2.2.1.size : Int)] 163 (0, 0)) :: (b3, .cells (elT t).toArray 44 (0, 0)) :: S) :=
    ((hs.skip (b3, .cells (elT t).toArray 44 (0, 0))).cons (b5, .cells #[.int .i64 t.1, .int .i64 (t.2.2.1.size : Int)] 163 (0, 0))).re (by intro a; simp only [cnt_cons, cnt_app]; omega)
  have hc0 : ∀ {J : IMem} {T : SH} {G : SH}, Sub ((b5, .cells #[.int .i64 t.1, .int .i64 (t.2.2.1.size : Int)] 163 (0, 0)) :: G) T → Cell J T ⟨b5, 0, none⟩ (.int .i64 t.1) ∧ Cell J T ((⟨b5, 0, none⟩ : Addr).add 1) (.int .i64 (t.2.2.1.size : Int)) := fun hs => ⟨Cell.among hs rfl, Cell.at_ (add_mk _ _ _) (Cell.among hs rfl)⟩
  -- what is there is told
  have fin : ∀ (L' : List Te) (o2' : SH) (x : Te) (T : SH), lookT L' t.1 (t.2.2.1.size : Int) = some x → (L' = L ∨ (lookT L t.1 (t.2.2.1.size : Int) = none ∧ x = ⟨t.1, (t.2.2.1.size : Int), x.b, .nil⟩ ∧ L' = L ++ [x])) → (L'.map fun x => (x.k, x.s)).Nodup → TrsO L' o2' →
      Sub ((b5, .cells #[.int .i64 t.1, .int .i64 (t.2.2.1.size : Int)] 163 (0, 0)) :: (o1 ++ ((xm, .map (esOf L') L'.length) :: (o2' ++ F)))) T →
      index_Index_trie_b3 (fun v J T => ∃ L' own' x, v = .pointer (some ⟨x.b, 0, none⟩) ∧ lookT L' t.1 (t.2.2.1.size : Int) = some x ∧ (L' = L ∨ (lookT L t.1 (t.2.2.1.size : Int) = none ∧ x = ⟨t.1, (t.2.2.1.size : Int), x.b, .nil⟩ ∧ L' = L ++ [x])) ∧ IxO xb M n L' own' ∧ Sub (own' ++ F) T) (some ⟨xb, 0, none⟩) ⟨b5, 0, none⟩ I T := by
    intro L' o2' x T hx hL' hnd' hTr hsT
    unfold index_Index_trie_b3 index_Index_trie_b4
    obtain ⟨e0, e1⟩ := hc0 (J := I) hsT
    have hm : MpC I T xm (esOf L') L'.length := MpC.of_sub hsT.drop.right
    refine ⟨_, tab_cell hT hsT.drop, _, e0, _, e1, ?_⟩
    rcases look_at rfl hm (k := t.1) (s := (t.2.2.1.size : Int)) with ⟨y, hy, hat⟩ | ⟨hy, _⟩
    · rw [hx] at hy
      have hy := Option.some.inj hy
      subst hy
      exact ⟨_, true, hat, L', o1 ++ ((xm, .map (esOf L') L'.length) :: o2'), x, rfl, hx, hL', ⟨xm, tb, o1, o2', hT, hI, hn, hnd', hTr, rfl⟩, hsT.drop.re (by intro a; simp only [cnt_cons, cnt_app]; omega)⟩
    · rw [hx] at hy; cases hy
  unfold index_Index_trie_b1
  obtain ⟨e0, e1⟩ := hc0 (J := I) hs1
  have hm : MpC I _ xm (esOf L) L.length := MpC.of_sub hs1.drop.right
  refine ⟨_, tab_cell hT hs1.drop, _, e0, _, e1, ?_⟩
  unfold index_Index_trie_b2
  rcases look_at rfl hm (k := t.1) (s := (t.2.2.1.size : Int)) with ⟨y, hy, hat⟩ | ⟨hy, hat⟩
  · exact ⟨_, true, hat, bcase_f rfl (fin L o2 y _ hy (.inl rfl) hnd hL hs1)⟩
  · refine ⟨_, false, hat, bcase_t rfl ⟨_, tab_cell hT hs1.drop, _, e0, _, e1, fun b26 => ⟨((Sub.refl _).skip _).keep (IMem.le.refl I), ?_⟩⟩⟩
    have hs2 : Sub ((xm, .map (esOf L) L.length) :: ((b5, .cells #[.int .i64 t.1, .int .i64 (t.2.2.1.size : Int)] 163 (0, 0)) :: (o1 ++ (o2 ++ ((b26, .cells #[.pointer none, .int .i64 0] 197 (0, 0)) :: F))))) ((b26, .cells #[.pointer none, .int .i64 0] 197 (0, 0)) :: (b5, .cells #[.int .i64 t.1, .int .i64 (t.2.2.1.size : Int)] 163 (0, 0)) :: (b3, .cells (elT t).toArray 44 (0, 0)) :: S) :=
      (hs1.cons (b26, .cells #[.pointer none, .int .i64 0] 197 (0, 0))).re (by intro a; simp only [cnt_cons, cnt_app]; omega)
    obtain ⟨i, hi, hput⟩ := hs2.put (xm, .map ((esOf L).push (enTe L.length ⟨t.1, (t.2.2.1.size : Int), b26, .nil⟩)) (L.length + 1))
    rcases find_es t.1 (t.2.2.1.size : Int) L (esOf L).toList 0 (es_map L) with ⟨x, j, h1, h2⟩ | ⟨h1, h2⟩
    · rw [hy] at h1; cases h1
    · refine ⟨xm, i, esOf L, L.length, _, _, rfl, hi, .inr ⟨h2, rfl, rfl⟩, ?_⟩
      rw [es_snoc] at hput
      refine fin (L ++ [⟨t.1, (t.2.2.1.size : Int), b26, .nil⟩]) (o2 ++ [(b26, .cells #[.pointer none, .int .i64 0] 197 (0, 0))]) ⟨t.1, (t.2.2.1.size : Int), b26, .nil⟩ _ (lookT_snoc hy rfl rfl) (.inr ⟨hy, rfl, rfl⟩) ?_ (TrsO.snoc (x := ⟨t.1, (t.2.2.1.size : Int), b26, .nil⟩) (Tr.TriO.new b26) trivial (Nat.zero_le _) hL) ?_
      · rw [List.map_append, List.nodup_append]
        refine ⟨hnd, by simp, ?_⟩
        intro a ha c hc e
        simp at hc
        subst hc
        obtain ⟨y, hym, hye⟩ := List.mem_map.1 ha
        have : lookT L t.1 (t.2.2.1.size : Int) ≠ none := by
          unfold lookT
          rw [ne_eq, List.find?_eq_none]
          intro hall
          have := hall y hym
          rw [e] at hye
          injection hye with g1 g2
          rw [g1, g2] at this
          simp at this
        exact this hy
      · rw [List.length_append, List.length_singleton, ← es_snoc]
        exact Sub.re (M := (xm, .map ((esOf L).push (enTe L.length ⟨t.1, (t.2.2.1.size : Int), b26, .nil⟩)) (L.length + 1)) :: ((b5, .cells #[.int .i64 t.1, .int .i64 (t.2.2.1.size : Int)] 163 (0, 0)) :: (o1 ++ (o2 ++ ((b26, .cells #[.pointer none, .int .i64 0] 197 (0, 0)) :: F))))) (by rw [es_snoc]; exact hput) (by intro a; simp only [cnt_cons, cnt_app, cnt_nil]; omega)
end Go.Proofs.YtoiilcdaldnjfaaGreatDoor
/- Which triggers have a name, and which: plain laws. -/
namespace Go.Proofs.YtoiilcdaldnjfaaGreatDoor
open Go.Px
set_option linter.unusedVariables false
set_option linter.unusedSimpArgs false
set_option maxRecDepth 8000

/-- a label that is no word of owner's -/
structure LabP (l : ByteArray) : Prop where
  lab : IsLab l
  kind : kindOf l = none
  star : l ≠ starB
structure NameP (t : Tg) (ls : List ByteArray) : Prop where
  kind : t.1 = 1 ∨ t.1 = 2 ∨ t.1 = 4 ∨ t.1 = 5
  addr : t.2.2 = (⟨#[]⟩, 0)
  name : t.2.1 = nm ls
  labs : ∀ l ∈ ls, LabP l
  size : (nm ls).size ≤ 254
  some_ : t.1 = 1 ∨ t.1 = 4 → ls ≠ []
/-! ### bytes that come in; triggers of codes -/
theorem u8_wf {x : Int} (h : (Lit.int .u8 x).wf = true) : 0 ≤ x ∧ x ≤ 255 := by
  simp only [Lit.wf, Bool.and_eq_true, decide_eq_true_eq] at h
  exact h
end Go.Proofs.YtoiilcdaldnjfaaGreatDoor
/- An index as a map of triggers. -/
namespace Go.Proofs.YtoiilcdaldnjfaaGreatDoor
open Go.Px
set_option linter.unusedVariables false
set_option linter.unusedSimpArgs false
set_option maxRecDepth 8000

theorem Runs_fr {P : Program} {f : FuncId} {args : Array Value} {I : IMem} {own F S : SH} {R : Value → SH → Prop} (hs : Sub (own ++ F) S) (h : ∀ F', Runs P f args I (own ++ F') fun v _ T => ∃ own', R v own' ∧ T = own' ++ F') :
    Runs P f args I S fun v _ T => ∃ own', R v own' ∧ Sub (own' ++ F) T := by
  obtain ⟨G, hG⟩ := hs
  refine (h (F ++ G)).use ⟨[], by rw [List.append_nil, ← List.append_assoc]; exact hG⟩ ?_
  rintro v J T hle ⟨own', hR, hs⟩
  exact ⟨own', hR, by rw [hs]; exact ⟨G, by rw [List.append_assoc]⟩⟩
/-! ### triggers that have names -/
def ipK (k : Int) : Bool := k == 0 || (k == 3 || k == 6)
def nmK (k : Int) : Prop := k = 1 ∨ k = 2 ∨ k = 4 ∨ k = 5
theorem ipK_iff {k : Int} : ipK k = true ↔ k = 0 ∨ k = 3 ∨ k = 6 := by unfold ipK; simp
theorem nmK_ip {k : Int} (h : nmK k) : ipK k = false := by
  rw [← Bool.not_eq_true, ipK_iff]; unfold nmK at h; omega
theorem named_shape {ls : List ByteArray} {ex wild : Int} {t : Tg} (h : namedF ls ex wild = some t) : (t.1 = ex ∨ t.1 = wild) ∧ t.2.2.1 = ⟨#[]⟩ ∧ t.2.2.2 = 0 := by
  unfold namedF at h
  split at h
  · cases h
  · split at h
    · obtain ⟨n, _, rfl⟩ := Option.map_eq_some_iff.1 h; exact ⟨.inr rfl, rfl, rfl⟩
    · obtain ⟨n, _, rfl⟩ := Option.map_eq_some_iff.1 h; exact ⟨.inl rfl, rfl, rfl⟩
theorem kind_shape {w : ByteArray} {k : Int} (h : kindOf w = some k) : k = 0 ∨ k = 3 ∨ k = 4 ∨ k = 6 := (kind_word h).2.1
theorem dec_shape {n : ByteArray} {t : Tg} (h : decF n = some t) : (ipK t.1 = true ∧ t.2.1 = ⟨#[]⟩ ∧ mayP t.2.2.1 t.2.2.2) ∨ (nmK t.1 ∧ t.2.2.1 = ⟨#[]⟩ ∧ t.2.2.2 = 0) := by
  unfold decF at h
  split at h
  · cases h
  · unfold decL at h
    split at h
    · cases h
    · split at h
      · obtain ⟨h1, h2, h3⟩ := named_shape h
        exact .inr ⟨by unfold nmK; omega, h2, h3⟩
      · rename_i k hk
        have hk' := kind_shape hk
        split at h
        · obtain ⟨h1, h2, h3⟩ := named_shape h
          exact .inr ⟨by unfold nmK; omega, h2, h3⟩
        · rename_i h4
          obtain ⟨p, hp, rfl⟩ := Option.map_eq_some_iff.1 h
          exact .inl ⟨ipK_iff.2 (by dsimp only; omega), rfl, adr_may hp⟩
theorem enc_shape {t : Tg} (h : encF t ≠ none) : (ipK t.1 = true ∧ t.2.1 = ⟨#[]⟩ ∧ mayP t.2.2.1 t.2.2.2) ∨ (nmK t.1 ∧ t.2.2.1 = ⟨#[]⟩ ∧ t.2.2.2 = 0) := by
  cases he : encF t with
  | none => exact absurd he h
  | some m => exact dec_shape (enc_dec he)
def wordB (k : Int) (n : ByteArray) : ByteArray := Utf8.encode (IntKind.wrap .i32 (IntKind.wrap .i64 ((97 : Int) + k))) ++ n
theorem word_enc {k : Int} (h : nmK k) : Utf8.encode (IntKind.wrap .i32 (IntKind.wrap .i64 ((97 : Int) + k))) = ⟨#[UInt8.ofNat (97 + k.toNat)]⟩ := by
  rcases h with rfl | rfl | rfl | rfl <;> decide +kernel
theorem word_inj {k k' : Int} {n n' : ByteArray} (h : nmK k) (h' : nmK k') (e : wordB k n = wordB k' n') : k = k' ∧ n = n' := by
  unfold wordB at e
  rw [word_enc h, word_enc h'] at e
  have e1 := congrArg (fun x : ByteArray => x.data.toList) e
  simp only [ByteArray.data_append, Array.toList_append] at e1
  injection e1 with e2 e3
  refine ⟨?_, ext_list e3⟩
  rcases h with rfl | rfl | rfl | rfl <;> rcases h' with rfl | rfl | rfl | rfl <;> first | rfl | (exact absurd e2 (by decide))
theorem Ip_runs (k : Int) (I : IMem) (S : SH) : Runs Tryz.prog 81 #[.int .i64 k] I S fun v _ T => v = .bool (ipK k) ∧ T = S := by
  refine index_ip_fn _ _ _ _ ?_
  unfold index_ip index_ip_b1
  exact bcase_of (fun h => ⟨by rw [ipK, h]; rfl, rfl⟩) (fun h => bcase_of (fun g => ⟨by rw [ipK, h, g]; rfl, rfl⟩) (fun g => ⟨by rw [ipK, h, g]; rfl, rfl⟩))
theorem Word_runs {k : Int} (h : nmK k) (n : ByteArray) (hn : n.size ≤ 1000000) (I : IMem) (S : SH) : Runs Tryz.prog 86 #[.int .i64 k, .string n] I S fun v _ T => v = .string (wordB k n) ∧ T = S := by
  refine index_word_fn _ _ _ _ _ ?_
  unfold index_word
  refine ⟨?_, rfl, rfl⟩
  rw [word_enc h]
  show ((1 + n.size : Nat) : Int) ≤ _
  omega
/-! ### lists of tries -/
def sumC (L : List Te) : Nat := (L.map (·.t.cnt)).sum
def shT (L : List Te) (k s : Int) : Tr.Sh := ((lookT L k s).map (·.t)).getD .nil
theorem sumC_mid (L1 L2 : List Te) (x : Te) : sumC (L1 ++ x :: L2) = sumC L1 + (x.t.cnt + sumC L2) := by unfold sumC; simp
theorem look_mid {L1 L2 : List Te} {k s : Int} {x y : Te} (hx : x.k = k ∧ x.s = s) (hy : y.k = k ∧ y.s = s) (h1 : ∀ z ∈ L1, ¬ (z.k = k ∧ z.s = s)) (k' s' : Int) :
    lookT (L1 ++ y :: L2) k' s' = if k' = k ∧ s' = s then some y else lookT (L1 ++ x :: L2) k' s' := by
  unfold lookT
  rw [List.find?_append, List.find?_append, List.find?_cons, List.find?_cons]
  by_cases e : k' = k ∧ s' = s
  · rw [if_pos e, e.1, e.2]
    have hn : L1.find? (fun z => z.k == k && z.s == s) = none := by
      rw [List.find?_eq_none]
      intro z hz
      simpa using h1 z hz
    rw [hn, hy.1, hy.2]
    simp
  · rw [if_neg e]
    have ex : (x.k == k' && x.s == s') = false := by rw [Bool.and_eq_false_iff, beq_eq_false_iff_ne, beq_eq_false_iff_ne]; omega
    have ey : (y.k == k' && y.s == s') = false := by rw [Bool.and_eq_false_iff, beq_eq_false_iff_ne, beq_eq_false_iff_ne]; omega
    rw [ex, ey]
theorem IxO.upd {xb n : Nat} {M : Tb.KV} {L : List Te} {own : SH} {k s : Int} {x : Te} (h : IxO xb M n L own) (hx : lookT L k s = some x) : ∃ ox rest, Tr.TriO x.b x.t ox ∧ x.t.wf ∧ x.t.len ≤ 128 ∧ (∀ F T, Sub (own ++ F) T → Sub (ox ++ (rest ++ F)) T) ∧ x.t.cnt ≤ sumC L ∧
    ∀ t' ox', Tr.TriO x.b t' ox' → t'.wf → t'.len ≤ 128 → ∃ L' own', IxO xb M n L' own' ∧ (∀ F T, Sub (ox' ++ (rest ++ F)) T → Sub (own' ++ F) T) ∧ (∀ k' s', shT L' k' s' = if k' = k ∧ s' = s then t' else shT L k' s') ∧ sumC L' + x.t.cnt = sumC L + t'.cnt := by
  obtain ⟨xm, tb, o1, o2, hT, hI, hn, hnd, hL, rfl⟩ := h
  obtain ⟨L1, L2, oA, ox, oB, rfl, h1, h2, hne, hA, hxO, hw, hl, hB, rfl⟩ := hL.split hx
  refine ⟨ox, o1 ++ ((xm, .map (esOf (L1 ++ x :: L2)) (L1 ++ x :: L2).length) :: (oA ++ oB)), hxO, hw, hl, fun F T hs => hs.re (by intro a; simp only [cnt_cons, cnt_app]; omega), by rw [sumC_mid]; omega, ?_⟩
  intro t' ox' ho' hw' hl'
  refine ⟨L1 ++ (⟨x.k, x.s, x.b, t'⟩ : Te) :: L2, o1 ++ ((xm, .map (esOf (L1 ++ x :: L2)) (L1 ++ x :: L2).length) :: (oA ++ (ox' ++ oB))), ⟨xm, tb, o1, oA ++ (ox' ++ oB), hT, hI, hn, ?_, TrsO.join (x := ⟨x.k, x.s, x.b, t'⟩) ho' hw' hl' hB hA, ?_⟩, fun F T hs => hs.re (by intro a; simp only [cnt_cons, cnt_app]; omega), fun k' s' => ?_, ?_⟩
  · simpa using hnd
  · rw [es_upd L1 L2 x ⟨x.k, x.s, x.b, t'⟩ rfl rfl rfl]; simp
  · unfold shT
    rw [look_mid (x := x) (y := ⟨x.k, x.s, x.b, t'⟩) ⟨h1, h2⟩ ⟨h1, h2⟩ hne]
    by_cases e : k' = k ∧ s' = s
    · rw [if_pos e, if_pos e]; rfl
    · rw [if_neg e, if_neg e]
  · rw [sumC_mid, sumC_mid]; dsimp only; omega
theorem IxO.tab {xb n : Nat} {M : Tb.KV} {L : List Te} {own : SH} (h : IxO xb M n L own) : ∃ xm tb o1 rest, Tb.TabO xm xb tb o1 ∧ Tb.TI 1073741824 tb M ∧ tb.live = n ∧ (∀ F T, Sub (own ++ F) T → Sub (o1 ++ (rest ++ F)) T) ∧
    ∀ M' tb' o1', Tb.TabO xm xb tb' o1' → Tb.TI 1073741824 tb' M' → ∃ own', IxO xb M' tb'.live L own' ∧ ∀ F T, Sub (o1' ++ (rest ++ F)) T → Sub (own' ++ F) T := by
  obtain ⟨xm, tb, o1, o2, hT, hI, hn, hnd, hL, rfl⟩ := h
  refine ⟨xm, tb, o1, (xm, .map (esOf L) L.length) :: o2, hT, hI, hn, fun F T hs => hs.re (by intro a; simp only [cnt_cons, cnt_app]; omega), fun M' tb' o1' hT' hI' => ?_⟩
  exact ⟨_, ⟨xm, tb', o1', o2, hT', hI', rfl, hnd, hL, rfl⟩, fun F T hs => hs.re (by intro a; simp only [cnt_cons, cnt_app]; omega)⟩
/-! ### the map of triggers -/
structure IxI (V : Tg → Option Int) (M : Tb.KV) (L : List Te) : Prop where
  bad : ∀ t, encF t = none → V t = none
  nam : ∀ w v, M w = some v ↔ ∃ t, ipK t.1 = false ∧ wordB t.1 t.2.1 = w ∧ V t = some v
  pre : ∀ k s l v, (shT L k s).find l = some v ↔ ∃ t, ipK t.1 = true ∧ t.1 = k ∧ (t.2.2.1.size : Int) = s ∧ bitsL t.2.2.1 t.2.2.2.toNat = l ∧ V t = some v
def IxS (xb : Nat) (V : Tg → Option Int) (n c : Nat) (own : SH) : Prop := ∃ M L, IxO xb M n L own ∧ IxI V M L ∧ c = n + sumC L
noncomputable def putV (V : Tg → Option Int) (t : Tg) (v : Int) : Tg → Option Int := if (encF t).isSome = true then fun u => if u = t then some v else V u else V
def delV (V : Tg → Option Int) (t : Tg) : Tg → Option Int := fun u => if u = t then none else V u
theorem IxI.enc {V : Tg → Option Int} {M : Tb.KV} {L : List Te} (h : IxI V M L) {t : Tg} {v : Int} (hv : V t = some v) : encF t ≠ none := fun e => by rw [h.bad t e] at hv; cases hv
theorem tg_nm {t u : Tg} (ht : encF t ≠ none) (hu : encF u ≠ none) (h1 : ipK t.1 = false) (h2 : ipK u.1 = false) (e : wordB t.1 t.2.1 = wordB u.1 u.2.1) : t = u := by
  rcases enc_shape ht with h | ⟨n1, a1, b1⟩
  · rw [h.1] at h1; cases h1
  · rcases enc_shape hu with h | ⟨n2, a2, b2⟩
    · rw [h.1] at h2; cases h2
    · obtain ⟨e1, e2⟩ := word_inj n1 n2 e
      exact Prod.ext e1 (Prod.ext e2 (Prod.ext (a1.trans a2.symm) (b1.trans b2.symm)))
theorem tg_pre {t u : Tg} (ht : encF t ≠ none) (hu : encF u ≠ none) (h1 : ipK t.1 = true) (h2 : ipK u.1 = true) (e1 : t.1 = u.1) (e2 : t.2.2.1.size = u.2.2.1.size) (e3 : bitsL t.2.2.1 t.2.2.2.toNat = bitsL u.2.2.1 u.2.2.2.toNat) : t = u := by
  rcases enc_shape ht with ⟨_, a1, ⟨⟨_, c1, _⟩, d1⟩⟩ | ⟨n1, _⟩
  · rcases enc_shape hu with ⟨_, a2, ⟨⟨_, c2, _⟩, d2⟩⟩ | ⟨n2, _⟩
    · have hl := congrArg List.length e3
      rw [bitsL_len, bitsL_len] at hl
      rw [← hl] at d2 e3
      have := may_inj d1 d2 e2 e3
      exact Prod.ext e1 (Prod.ext (a1.trans a2.symm) (Prod.ext this (by omega)))
    · rw [nmK_ip n2] at h2; cases h2
  · rw [nmK_ip n1] at h1; cases h1
theorem IxI.get_n {V : Tg → Option Int} {M : Tb.KV} {L : List Te} (h : IxI V M L) {t : Tg} (ht : encF t ≠ none) (h1 : ipK t.1 = false) : M (wordB t.1 t.2.1) = V t := by
  cases hv : V t with
  | some v => exact (h.nam _ _).2 ⟨t, h1, rfl, hv⟩
  | none =>
    cases hM : M (wordB t.1 t.2.1) with
    | none => rfl
    | some v =>
      obtain ⟨u, hu, e, hv'⟩ := (h.nam _ _).1 hM
      have := tg_nm (h.enc hv') ht hu h1 e
      rw [this, hv] at hv'; cases hv'
theorem IxI.get_p {V : Tg → Option Int} {M : Tb.KV} {L : List Te} (h : IxI V M L) {t : Tg} (ht : encF t ≠ none) (h1 : ipK t.1 = true) : (shT L t.1 (t.2.2.1.size : Int)).find (bitsL t.2.2.1 t.2.2.2.toNat) = V t := by
  cases hv : V t with
  | some v => exact (h.pre _ _ _ _).2 ⟨t, h1, rfl, rfl, rfl, hv⟩
  | none =>
    cases hM : (shT L t.1 (t.2.2.1.size : Int)).find (bitsL t.2.2.1 t.2.2.2.toNat) with
    | none => rfl
    | some v =>
      obtain ⟨u, hu, e1, e2, e3, hv'⟩ := (h.pre _ _ _ _).1 hM
      have := tg_pre (h.enc hv') ht hu h1 e1 (by omega) e3
      rw [this, hv] at hv'; cases hv'
/-- a trigger's number changes: a name's -/
theorem IxI.set_n {V V' : Tg → Option Int} {M M' : Tb.KV} {L : List Te} {t : Tg} {o : Option Int} (h : IxI V M L) (ht : encF t ≠ none) (h1 : ipK t.1 = false) (hV : ∀ u, V' u = if u = t then o else V u) (hM : ∀ w, M' w = if w = wordB t.1 t.2.1 then o else M w) : IxI V' M' L := by
  refine ⟨fun u hu => ?_, fun w v => ?_, fun k s l v => ?_⟩
  · rw [hV u, if_neg (fun e : u = t => ht (e ▸ hu)), h.bad u hu]
  · rw [hM]
    constructor
    · intro e
      by_cases hw : w = wordB t.1 t.2.1
      · rw [if_pos hw] at e
        exact ⟨t, h1, hw.symm, by rw [hV, if_pos rfl, e]⟩
      · rw [if_neg hw] at e
        obtain ⟨u, hu, e1, e2⟩ := (h.nam w v).1 e
        exact ⟨u, hu, e1, by rw [hV, if_neg (fun e3 => hw (by rw [← e1, e3])), e2]⟩
    · rintro ⟨u, hu, e1, e2⟩
      rw [hV] at e2
      by_cases hut : u = t
      · rw [if_pos hut] at e2
        rw [if_pos (by rw [← e1, hut]), e2]
      · rw [if_neg hut] at e2
        rw [if_neg (fun e3 => hut (tg_nm (h.enc e2) ht hu h1 (by rw [e1, e3])))]
        exact (h.nam w v).2 ⟨u, hu, e1, e2⟩
  · rw [h.pre]
    constructor
    · rintro ⟨u, hu, e⟩
      exact ⟨u, hu, e.1, e.2.1, e.2.2.1, by rw [hV, if_neg (fun e3 => by rw [e3, h1] at hu; cases hu)]; exact e.2.2.2⟩
    · rintro ⟨u, hu, e⟩
      exact ⟨u, hu, e.1, e.2.1, e.2.2.1, by have := e.2.2.2; rw [hV, if_neg (fun e3 => by rw [e3, h1] at hu; cases hu)] at this; exact this⟩
/-- a prefix's -/
theorem IxI.set_p {V V' : Tg → Option Int} {M : Tb.KV} {L L' : List Te} {t : Tg} {o : Option Int} (h : IxI V M L) (ht : encF t ≠ none) (h1 : ipK t.1 = true) (hV : ∀ u, V' u = if u = t then o else V u)
    (hL : ∀ k s l, (shT L' k s).find l = if (k = t.1 ∧ s = (t.2.2.1.size : Int)) ∧ l = bitsL t.2.2.1 t.2.2.2.toNat then o else (shT L k s).find l) : IxI V' M L' := by
  refine ⟨fun u hu => ?_, fun w v => ?_, fun k s l v => ?_⟩
  · rw [hV u, if_neg (fun e : u = t => ht (e ▸ hu)), h.bad u hu]
  · rw [h.nam]
    constructor
    · rintro ⟨u, hu, e1, e2⟩
      exact ⟨u, hu, e1, by rw [hV, if_neg (fun e3 => by rw [e3, h1] at hu; cases hu)]; exact e2⟩
    · rintro ⟨u, hu, e1, e2⟩
      exact ⟨u, hu, e1, by rw [hV, if_neg (fun e3 => by rw [e3, h1] at hu; cases hu)] at e2; exact e2⟩
  · rw [hL]
    constructor
    · intro e
      by_cases hw : (k = t.1 ∧ s = (t.2.2.1.size : Int)) ∧ l = bitsL t.2.2.1 t.2.2.2.toNat
      · rw [if_pos hw] at e
        exact ⟨t, h1, hw.1.1.symm, hw.1.2.symm, hw.2.symm, by rw [hV, if_pos rfl, e]⟩
      · rw [if_neg hw] at e
        obtain ⟨u, hu, e1, e2, e3, e4⟩ := (h.pre k s l v).1 e
        exact ⟨u, hu, e1, e2, e3, by rw [hV, if_neg (fun e5 => hw (by rw [← e1, ← e2, ← e3, e5]; exact ⟨⟨rfl, rfl⟩, rfl⟩)), e4]⟩
    · rintro ⟨u, hu, e1, e2, e3, e4⟩
      rw [hV] at e4
      by_cases hut : u = t
      · rw [if_pos hut] at e4
        rw [if_pos (by rw [← e1, ← e2, ← e3, hut]; exact ⟨⟨rfl, rfl⟩, rfl⟩), e4]
      · rw [if_neg hut] at e4
        rw [if_neg (fun e5 => hut (tg_pre (h.enc e4) ht hu h1 (by rw [e1, e5.1.1]) (by omega) (by rw [e3, e5.2])))]
        exact (h.pre k s l v).2 ⟨u, hu, e1, e2, e3, e4⟩
theorem IxI.look {V : Tg → Option Int} {M : Tb.KV} {L L' : List Te} (h : IxI V M L) (hL : ∀ k s, shT L' k s = shT L k s) : IxI V M L' := ⟨h.bad, h.nam, fun k s l v => by rw [hL]; exact h.pre k s l v⟩
theorem shT_snoc {L : List Te} {x : Te} (hx : x.t = .nil) (k s : Int) : shT (L ++ [x]) k s = shT L k s := by
  unfold shT lookT
  rw [List.find?_append]
  cases h : L.find? fun y => y.k == k && y.s == s with
  | some y => rfl
  | none =>
    rw [List.find?_cons]
    by_cases e : (x.k == k && x.s == s) = true
    · rw [e]; exact hx
    · rw [Bool.not_eq_true] at e
      rw [e]; rfl
theorem sumC_snoc {L : List Te} {x : Te} (hx : x.t = .nil) : sumC (L ++ [x]) = sumC L := by
  unfold sumC
  simp [hx, Tr.Sh.cnt]
end Go.Proofs.YtoiilcdaldnjfaaGreatDoor
/- index.Of, Put, Del. -/
namespace Go.Proofs.YtoiilcdaldnjfaaGreatDoor
open Go.Px
set_option linter.unusedVariables false
set_option linter.unusedSimpArgs false
set_option maxRecDepth 8000

theorem makeN_sz : ∀ (ls : List ByteArray) (acc m : ByteArray), acc.size ≤ 254 → makeN ls acc = some m → m.size ≤ 254
  | [], acc, m, h, e => by
    have e : some acc = some m := e
    injection e with e; rw [← e]; exact h
  | l :: ls, acc, m, h, e => by
    unfold makeN at e
    split at e
    · cases e
    · refine makeN_sz ls _ m ?_ e
      rw [ByteArray.size_append, ByteArray.size_push, foldB_size]
      omega
theorem dec_nsz {n : ByteArray} {t : Tg} (h : decF n = some t) : t.2.1.size ≤ 254 := by
  have nmd : ∀ {ls : List ByteArray} {ex wild : Int}, namedF ls ex wild = some t → t.2.1.size ≤ 254 := by
    intro ls ex wild h
    unfold namedF at h
    split at h
    · cases h
    · split at h
      · obtain ⟨n, hn, rfl⟩ := Option.map_eq_some_iff.1 h; exact makeN_sz _ _ _ (by decide) hn
      · obtain ⟨n, hn, rfl⟩ := Option.map_eq_some_iff.1 h; exact makeN_sz _ _ _ (by decide) hn
  unfold decF at h
  split at h
  · cases h
  · unfold decL at h
    split at h
    · cases h
    · split at h
      · exact nmd h
      · split at h
        · exact nmd h
        · obtain ⟨p, hp, rfl⟩ := Option.map_eq_some_iff.1 h
          exact Nat.zero_le _
theorem enc_nsz {t : Tg} (h : encF t ≠ none) : t.2.1.size ≤ 254 := by
  cases he : encF t with
  | none => exact absurd he h
  | some m => exact dec_nsz (enc_dec he)
theorem enc_mk (t : Tg) : ∃ m, mkV (encF t) = .tuple #[.string m, .bool (encF t).isSome] := by
  cases encF t with
  | none => exact ⟨_, rfl⟩
  | some m => exact ⟨_, rfl⟩
theorem IOf_runs (I : IMem) (S : SH) : Runs Tryz.prog 26 #[] I S fun v _ T => ∃ xb own, v = .pointer (some ⟨xb, 0, none⟩) ∧ IxS xb (fun _ => none) 0 0 own ∧ Sub (own ++ S) T := by
  refine index_Of_fn _ _ _ ?_
  unfold index_Of
  intro xm b3
  refine ⟨b3, [(b3, .cells #[.slice none 0 0, .int .i64 0, .int .i64 0, .map (some xm)] 130 (0, 0))] ++ ((xm, .map (esOf []) ([] : List Te).length) :: []), rfl, ⟨fun _ => none, [], ⟨xm, Tb.noTbl, _, [], Tb.noTbl_TabO b3, Tb.noTbl_TI _, rfl, List.nodup_nil, rfl, rfl⟩, ⟨fun _ _ => rfl, fun w v => ⟨fun h => (by cases h), fun ⟨_, _, _, h⟩ => (by cases h)⟩, fun k s l v => ⟨fun h => (by cases h), fun ⟨_, _, _, _, _, h⟩ => (by cases h)⟩⟩, rfl⟩, Sub.refl _⟩
/-- a trigger's block beside an index -/
abbrev tbB (b : Nat) (t : Tg) : Nat × Obj := (b, .cells (elT t).toArray 44 (0, 0))
def sNum (b : Bool) : Nat := if b = true then 1 else 0
theorem mid3 {a b : Nat × Obj} {own F S : SH} (h : Sub (own ++ F) S) : Sub (own ++ (a :: F)) (a :: S) := zc h where
  zc {own X T : SH} {x : Nat × Obj} (h : Sub (own ++ X) T) : Sub (own ++ (x :: X)) (x :: T) := (h.cons x).re (by intro a; simp only [cnt_cons, cnt_app]; omega)
theorem IPut_runs {xb n c : Nat} {V : Tg → Option Int} {own F S : SH} {I : IMem} (g : GL I) (h : IxS xb V n c own) (hs : Sub (own ++ F) S) (t : Tg) (v : Int) (hn : n + 1 ≤ 1073741824) (hc : c ≤ 1152921504606846976) :
    Runs Tryz.prog 52 #[.pointer (some ⟨xb, 0, none⟩), vT t, .int .i64 v] I S fun w _ T => w = .bool ((encF t).isSome && (V t).isNone) ∧ ∃ n' c' own', IxS xb (putV V t v) n' c' own' ∧
      n' = n + sNum ((encF t).isSome && (!ipK t.1 && (V t).isNone)) ∧ c' = c + sNum ((encF t).isSome && (V t).isNone) ∧ Sub (own' ++ F) T := by
  obtain ⟨M, L, hO, hI, rfl⟩ := h
  refine index_Index_Put_fn _ _ _ _ _ _ _ _ _ ?_
  unfold index_Index_Put
  intro b4
  refine ⟨_, Cell.at0 rfl, _, Cell.at0 rfl, _, Cell.at0 rfl, _, Cell.at0 rfl, (Encode_runs t g _).mono ?_⟩
  rintro w J1 T1 hle1 ⟨rfl, rfl⟩
  obtain ⟨m, hm⟩ := enc_mk t
  rw [hm]
  have hs1 : Sub (own ++ (tbB b4 t :: F)) (tbB b4 t :: S) := mid3.zc hs
  refine ⟨_, _, rfl, bcase_not (bcase_of (fun he => ?_) (fun he => ?_))⟩
  case refine_2 =>
    rw [he]
    refine ⟨rfl, n, n + sumC L, own, ⟨M, L, hO, ?_, rfl⟩, rfl, rfl, hs.skip _⟩
    unfold putV
    rw [if_neg (by rw [he]; exact Bool.false_ne_true)]
    exact hI
  have hen : encF t ≠ none := by intro e; rw [e] at he; cases he
  have hput : ∀ u, putV V t v u = if u = t then some v else V u := fun u => by unfold putV; rw [if_pos he]
  rw [he]
  obtain ⟨c0, c1, c2, c3, c4⟩ := tgX (I := J1) (hs1.right : Sub (tgB b4 t :: F) _)
  unfold index_Index_Put_b1
  refine ⟨_, c0, (Ip_runs _ _ _).mono ?_⟩
  rintro w J2 T2 hle2 ⟨rfl, rfl⟩
  refine ⟨_, rfl, ?_⟩
  obtain ⟨c0, c1, c2, c3, c4⟩ := tgX (I := J2) (hs1.right : Sub (tgB b4 t :: F) _)
  unfold index_Index_Put_b2
  refine bcase_of (fun hip => ?_) (fun hip => ?_)
  · -- a prefix
    obtain ⟨d0, d1, d2, d3, d4⟩ := tgX (I := J2) (Sub.refl (tgB b4 t :: F))
    have hmay : mayP t.2.2.1 t.2.2.2 := by
      rcases enc_shape hen with h | ⟨h, _⟩
      · exact h.2.2
      · rw [nmK_ip h] at hip; cases hip
    refine ⟨tgB b4 t :: F, (hs1.right).keep (IMem.le.refl J2), _, d0, _, d1, _, d2, _, d4, _, d2, _, d3, (trie_runs t hO hs1).mono ?_⟩
    rintro w J3 T3 hle3 ⟨L', own2, x, rfl, hx, hL', hO2, hs2⟩
    have hsh : ∀ k s, shT L' k s = shT L k s := by
      intro k s
      rcases hL' with rfl | ⟨_, hx0, rfl⟩
      · rfl
      · exact shT_snoc (by rw [hx0]) k s
    have hsum : sumC L' = sumC L := by
      rcases hL' with rfl | ⟨_, hx0, rfl⟩
      · rfl
      · exact sumC_snoc (by rw [hx0])
    have hI' := hI.look hsh
    refine ⟨_, rfl, hs2.right.keep hle3, (Key_runs hmay _ _).mono ?_⟩
    rintro w J4 T4 hle4 ⟨rfl, hs4⟩
    refine ⟨_, rfl, ?_⟩
    obtain ⟨ox, rest, hxO, hxw, hxl, hgo, hcx, hback⟩ := hO2.upd hx
    have hlen : (bitsL t.2.2.1 t.2.2.2.toNat).length ≤ 128 := by
      rw [bitsL_len]
      obtain ⟨⟨h1, h2, h3⟩, _⟩ := hmay
      omega
    refine (Runs_fr (R := fun w o => w = .bool (x.t.find (bitsL t.2.2.1 t.2.2.2.toNat)).isNone ∧ Tr.TriO x.b (x.t.put (bitsL t.2.2.1 t.2.2.2.toNat) v) o) (hgo _ _ (hs2.trans hs4)) (fun F' => (Tr.Put_runs x.b x.t hxw (by omega) ox hxO _ hlen v _ F').mono ?_)).mono ?_
    · rintro w J T hle ⟨rfl, o, ho, rfl⟩
      exact ⟨o, ⟨rfl, ho⟩, rfl⟩
    · rintro w J5 T5 hle5 ⟨o, ⟨rfl, ho⟩, hs5⟩
      have hfind : x.t.find (bitsL t.2.2.1 t.2.2.2.toNat) = V t := by
        rw [← hI'.get_p hen hip]
        unfold shT
        rw [hx]; rfl
      obtain ⟨L2, own3, hO3, hb3, hsh3, hsum3⟩ := hback _ _ ho (Tr.Sh.put_wf _ _ _ hxw) (Nat.le_trans (Tr.Sh.put_len _ _ _) (by omega))
      refine ⟨_, rfl, ?_⟩
      unfold index_Index_Put_b3
      rw [hfind]
      refine ⟨rfl, n, n + sumC L2, own3, ⟨M, L2, hO3, hI'.set_p (o := some v) hen hip hput ?_, rfl⟩, ?_, ?_, (hb3 _ _ hs5).re (by intro a; simp only [cnt_cons, cnt_app]; omega)⟩
      · intro k s l
        rw [hsh3]
        by_cases e : k = t.1 ∧ s = (t.2.2.1.size : Int)
        · rw [if_pos e, Tr.Sh.put_find _ _ _ _ hxw]
          by_cases e2 : l = bitsL t.2.2.1 t.2.2.2.toNat
          · rw [if_pos e2, if_pos ⟨e, e2⟩]
          · rw [if_neg e2, if_neg (fun h => e2 h.2), e.1, e.2]
            unfold shT
            rw [hx]; rfl
        · rw [if_neg e, if_neg (fun h => e h.1)]
      · rw [hip]; rfl
      · rw [Tr.Sh.put_cnt _ _ _ hxw, hfind] at hsum3
        rw [hsum] at hsum3
        cases hV : V t with
        | none => rw [hV] at hsum3; simp [sNum] at hsum3 ⊢; omega
        | some u => rw [hV] at hsum3; simp [sNum] at hsum3 ⊢; omega
  · -- a name
    have hnm : nmK t.1 := by
      rcases enc_shape hen with h | ⟨h, _⟩
      · rw [h.1] at hip; cases hip
      · exact h
    have hnz := enc_nsz hen
    unfold index_Index_Put_b4
    refine ⟨_, c0, _, c1, (Word_runs hnm _ (by omega) _ _).mono ?_⟩
    rintro w J3 T3 hle3 ⟨rfl, rfl⟩
    refine ⟨_, rfl, ?_⟩
    obtain ⟨xm, tb, o1, rest, hT, hTI, hlv, hgo, hback⟩ := hO.tab
    have hws : (wordB t.1 t.2.1).size ≤ 9223372036854775807 := by
      unfold wordB
      rw [word_enc hnm, ByteArray.size_append]
      show 1 + t.2.1.size ≤ _
      omega
    refine (Runs_fr (R := fun w o => w = .bool (M (wordB t.1 t.2.1)).isNone ∧ ∃ t', Tb.TabO xm xb t' o ∧ Tb.TI 1073741824 t' (M.put (wordB t.1 t.2.1) v) ∧ t'.live = (if (M (wordB t.1 t.2.1)).isNone then tb.live + 1 else tb.live)) (hgo _ _ hs1) (fun F' => (Tb.Put_TI hT hTI (Nat.le_refl _) (Nat.le_refl _) (wordB t.1 t.2.1) v hws (fun _ => by omega) _ F').mono ?_)).mono ?_
    · rintro w J T hle ⟨rfl, t', o, ho, hti, hl, _, rfl⟩
      exact ⟨o, ⟨rfl, t', ho, hti, hl⟩, rfl⟩
    · rintro w J5 T5 hle5 ⟨o, ⟨rfl, t', ho, hti, hl⟩, hs5⟩
      have hfind : M (wordB t.1 t.2.1) = V t := hI.get_n hen hip
      obtain ⟨own3, hO3, hb3⟩ := hback _ _ _ ho hti
      refine ⟨_, rfl, ?_⟩
      unfold index_Index_Put_b5
      rw [hfind] at hl ⊢
      refine ⟨rfl, t'.live, t'.live + sumC L, own3, ⟨_, L, hO3, hI.set_n (o := some v) hen hip hput (fun w => rfl), rfl⟩, ?_, ?_, (hb3 _ _ hs5).re (by intro a; simp only [cnt_cons, cnt_app]; omega)⟩
      · rw [hl, hip, hlv]
        cases V t <;> rfl
      · rw [hl, hlv]
        cases V t <;> simp [sNum] <;> omega
end Go.Proofs.YtoiilcdaldnjfaaGreatDoor
