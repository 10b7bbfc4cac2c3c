/- Events: which may be, and which numbers make. -/
import Derived.Test.YtkagfmlaolmdnaaDoorEv1
namespace Go.Proofs.YtkagfmlaolmdnaaDoor
open Go.Px
set_option linter.unusedVariables false
set_option linter.unusedSimpArgs false
set_option maxRecDepth 8000

structure Ev where
  tm : Int
  cl : ByteArray
  na : ByteArray
  ty : Int
  zn : Int
  tr : Tg
  ac : Int
def e0 : Ev := ⟨0, ⟨#[]⟩, ⟨#[]⟩, 0, 0, t0, 0⟩
def elE (e : Ev) : List Value := [.int .i64 e.tm, .string e.cl, .string e.na, .int .u16 e.ty, .int .i64 e.zn, .int .i64 e.tr.1, .string e.tr.2.1, .string e.tr.2.2.1, .int .i64 e.tr.2.2.2, .int .i64 e.ac]
def vE (e : Ev) : Value := .agg #[.int .i64 e.tm, .string e.cl, .string e.na, .int .u16 e.ty, .int .i64 e.zn, .int .i64 e.tr.1, .string e.tr.2.1, .string e.tr.2.2.1, .int .i64 e.tr.2.2.2, .int .i64 e.ac]
abbrev Te (b : Nat) (e : Ev) : Nat × Obj := (b, .cells (elE e).toArray 65 (0, 0))
structure EvC (I : IMem) (T : SH) (a : Addr) (e : Ev) : Prop where
  c0 : Cell I T a (.int .i64 e.tm)
  c1 : Cell I T (a.add 1) (.string e.cl)
  c2 : Cell I T (a.add 2) (.string e.na)
  c3 : Cell I T (a.add 3) (.int .u16 e.ty)
  c4 : Cell I T (a.add 4) (.int .i64 e.zn)
  c5 : Cell I T (a.add 5) (.int .i64 e.tr.1)
  c6 : Cell I T (a.add 6) (.string e.tr.2.1)
  c7 : Cell I T (a.add 7) (.string e.tr.2.2.1)
  c8 : Cell I T (a.add 8) (.int .i64 e.tr.2.2.2)
  c9 : Cell I T (a.add 9) (.int .i64 e.ac)
theorem evC {I : IMem} {S T : SH} {b : Nat} {e : Ev} (hs : Sub (Te b e :: S) T) : EvC I T ⟨b, 0, none⟩ e := by
  refine ⟨hs.cell' (Cell.at0 rfl), ?_, ?_, ?_, ?_, ?_, ?_, ?_, ?_, ?_⟩
  all_goals
    rw [add_mk]
    exact hs.cell' (Cell.at0 rfl)
theorem StP.ev {S : SH} {b : Nat} {x e : Ev} {K : SH → Prop} (h : K (Te b e :: S)) : StP (Te b x :: S) ⟨b, 0, none⟩ (elE e) K := by
  refine StP.list (o := 0) (L := elE x) (Nat.le_of_eq rfl) rfl ?_
  rw [show List.take 0 (elE x) ++ elE e ++ List.drop (0 + (elE e).length) (elE x) = elE e by rfl]
  exact h
theorem setE {b : Nat} {S T : SH} {I : IMem} {e x : Ev} {K : Value → SH → Prop} (hs : Sub (Te b x :: S) T) (h : ∀ T', Sub S T' → K (vE e) T') :
    StP T ⟨b, 0, none⟩ [.int .i64 e.tm, .string e.cl, .string e.na, .int .u16 e.ty, .int .i64 e.zn, .int .i64 e.tr.1, .string e.tr.2.1, .string e.tr.2.2.1, .int .i64 e.tr.2.2.2, .int .i64 e.ac] fun S1 =>
      ∃ r0, Cell I S1 ⟨b, 0, none⟩ (.int .i64 r0) ∧ ∃ r1, Cell I S1 ((⟨b, 0, none⟩ : Addr).add 1) (.string r1) ∧ ∃ r2, Cell I S1 ((⟨b, 0, none⟩ : Addr).add 2) (.string r2) ∧ ∃ r3, Cell I S1 ((⟨b, 0, none⟩ : Addr).add 3) (.int .u16 r3) ∧
      ∃ r4, Cell I S1 ((⟨b, 0, none⟩ : Addr).add 4) (.int .i64 r4) ∧ ∃ r5, Cell I S1 ((⟨b, 0, none⟩ : Addr).add 5) (.int .i64 r5) ∧ ∃ r6, Cell I S1 ((⟨b, 0, none⟩ : Addr).add 6) (.string r6) ∧ ∃ r7, Cell I S1 ((⟨b, 0, none⟩ : Addr).add 7) (.string r7) ∧
      ∃ r8, Cell I S1 ((⟨b, 0, none⟩ : Addr).add 8) (.int .i64 r8) ∧ ∃ r9, Cell I S1 ((⟨b, 0, none⟩ : Addr).add 9) (.int .i64 r9) ∧
      K (.agg #[.int .i64 r0, .string r1, .string r2, .int .u16 r3, .int .i64 r4, .int .i64 r5, .string r6, .string r7, .int .i64 r8, .int .i64 r9]) S1 := by
  refine StP.of_sub hs (StP.ev (x := x) (e := e) ?_)
  intro T' hs'
  have c := evC (I := I) hs'
  exact ⟨_, c.c0, _, c.c1, _, c.c2, _, c.c3, _, c.c4, _, c.c5, _, c.c6, _, c.c7, _, c.c8, _, c.c9, h T' hs'.drop⟩
noncomputable def mayEb (e : Ev) : Bool := (encF e.tr).isSome && (decide (e.tm ≥ 0) && (decide (e.tm ≤ 4294967295) && (decide ((e.cl.size : Int) ≤ 16) && ((labN e.na).isSome && (decide (e.zn ≥ 0) && (decide (e.zn < 32) && (decide (e.ac ≥ 0) && decide (e.ac ≤ 8))))))))
def relB (t : Tg) (o : Option ByteArray) : ByteArray := o.getD ⟨#[]⟩
theorem mkV_is (o : Option ByteArray) : mkV o = .tuple #[.string (o.getD ⟨#[]⟩), .bool o.isSome] := by
  cases o with
  | none => rfl
  | some m => rfl
theorem EMay_runs (e : Ev) {I : IMem} (g : GL I) (S : SH) : Runs Tryd.prog 31 #[vE e] I S fun v _ T => v = .bool (mayEb e) ∧ T = S := by
  refine Runs.drop (event_May_fn _ _ _ _ _ _ _ _ _ _ _ _ _ ?_)
  unfold event_May
  intro b1
  have c := evC (I := I) (Sub.refl (Te b1 e :: S))
  refine ⟨_, c.c5, _, c.c6, _, c.c7, _, c.c8, (Encode_runs e.tr g _).mono ?_⟩
  rintro v J T hle ⟨rfl, rfl⟩
  refine ⟨_, _, mkV_is _, ?_⟩
  have fin : ∀ (J : IMem) (x : Bool), mayEb e = x → event_May_b1 (fun v _ T => ∃ L, Sub L T ∧ v = .bool (mayEb e) ∧ L = S) x J (Te b1 e :: S) := fun J x h => ⟨S, (Sub.refl S).skip _, by rw [h], rfl⟩
  have c := evC (I := J) (Sub.refl (Te b1 e :: S))
  refine bcase_of (fun h1 => ⟨_, c.c0, ?_⟩) (fun h1 => fin _ _ (by unfold mayEb; rw [h1]; rfl))
  refine bcase_of (fun h2 => ⟨_, c.c0, ?_⟩) (fun h2 => fin _ _ (by unfold mayEb; rw [h1, h2]; rfl))
  refine bcase_of (fun h3 => ⟨_, c.c1, ?_⟩) (fun h3 => fin _ _ (by unfold mayEb; rw [h1, h2, h3]; rfl))
  refine bcase_of (fun h4 => ⟨_, c.c2, (May_runs e.na _ _).mono ?_⟩) (fun h4 => fin _ _ (by unfold mayEb; rw [h1, h2, h3, h4]; rfl))
  rintro v J2 T hle2 ⟨rfl, rfl⟩
  have c := evC (I := J2) (Sub.refl (Te b1 e :: S))
  refine ⟨_, rfl, bcase_of (fun h5 => ⟨_, c.c4, ?_⟩) (fun h5 => fin _ _ (by unfold mayEb; rw [h1, h2, h3, h4, h5]; rfl))⟩
  refine bcase_of (fun h6 => ⟨_, c.c4, ?_⟩) (fun h6 => fin _ _ (by unfold mayEb; rw [h1, h2, h3, h4, h5, h6]; rfl))
  refine bcase_of (fun h7 => ⟨_, c.c9, ?_⟩) (fun h7 => fin _ _ (by unfold mayEb; rw [h1, h2, h3, h4, h5, h6, h7]; rfl))
  refine bcase_of (fun h8 => ⟨_, c.c9, ?_⟩) (fun h8 => fin _ _ (by unfold mayEb; rw [h1, h2, h3, h4, h5, h6, h7, h8]; rfl))
  exact fin _ _ (by unfold mayEb; rw [h1, h2, h3, h4, h5, h6, h7, h8]; rfl)
theorem Emay_runs (e : Ev) {I : IMem} (g : GL I) (S : SH) : Runs Tryd.prog 32 #[vE e] I S fun v _ T => v = .bool (mayEb e) ∧ T = S := by
  refine Runs.drop (bolterlaw25_may_fn _ _ _ _ _ _ _ _ _ _ _ _ _ ?_)
  unfold bolterlaw25_may
  intro b1
  have c := evC (I := I) (Sub.refl (Te b1 e :: S))
  refine ⟨_, c.c5, _, c.c6, _, c.c7, _, c.c8, (Encode_runs e.tr g _).mono ?_⟩
  rintro v J T hle ⟨rfl, rfl⟩
  refine ⟨_, _, mkV_is _, ?_⟩
  have fin : ∀ (J : IMem) (x : Bool), mayEb e = x → bolterlaw25_may_b1 (fun v _ T => ∃ L, Sub L T ∧ v = .bool (mayEb e) ∧ L = S) x J (Te b1 e :: S) := fun J x h => ⟨S, (Sub.refl S).skip _, by rw [h], rfl⟩
  have d1 : decide (e.tm < 4294967296) = decide (e.tm ≤ 4294967295) := decide_eq_decide.2 (by omega)
  have d2 : decide (e.ac < 9) = decide (e.ac ≤ 8) := decide_eq_decide.2 (by omega)
  have c := evC (I := J) (Sub.refl (Te b1 e :: S))
  refine bcase_of (fun h1 => ⟨_, c.c0, ?_⟩) (fun h1 => fin _ _ (by unfold mayEb; rw [h1]; rfl))
  refine bcase_of (fun h2 => ⟨_, c.c0, ?_⟩) (fun h2 => fin _ _ (by unfold mayEb; rw [h1, h2]; rfl))
  rw [d1]
  refine bcase_of (fun h3 => ⟨_, c.c1, ?_⟩) (fun h3 => fin _ _ (by unfold mayEb; rw [h1, h2, h3]; rfl))
  refine bcase_of (fun h4 => ⟨_, c.c2, (May_runs e.na _ _).mono ?_⟩) (fun h4 => fin _ _ (by unfold mayEb; rw [h1, h2, h3, h4]; rfl))
  rintro v J2 T hle2 ⟨rfl, rfl⟩
  have c := evC (I := J2) (Sub.refl (Te b1 e :: S))
  refine ⟨_, rfl, bcase_of (fun h5 => ⟨_, c.c4, ?_⟩) (fun h5 => fin _ _ (by unfold mayEb; rw [h1, h2, h3, h4, h5]; rfl))⟩
  refine bcase_of (fun h6 => ⟨_, c.c4, ?_⟩) (fun h6 => fin _ _ (by unfold mayEb; rw [h1, h2, h3, h4, h5, h6]; rfl))
  refine bcase_of (fun h7 => ⟨_, c.c9, ?_⟩) (fun h7 => fin _ _ (by unfold mayEb; rw [h1, h2, h3, h4, h5, h6, h7]; rfl))
  refine bcase_of (fun h8 => ⟨_, c.c9, ?_⟩) (fun h8 => fin _ _ (by unfold mayEb; rw [h1, h2, h3, h4, h5, h6, h7, h8]; rfl))
  rw [d2]
  exact fin _ _ (by unfold mayEb; rw [h1, h2, h3, h4, h5, h6, h7, h8]; rfl)
structure MayE (e : Ev) : Prop where
  rel : ∃ m, encF e.tr = some m
  tm0 : 0 ≤ e.tm
  tm1 : e.tm ≤ 4294967295
  cl : e.cl.size ≤ 16
  na : ∃ ls, labN e.na = some ls
  zn0 : 0 ≤ e.zn
  zn1 : e.zn < 32
  ac0 : 0 ≤ e.ac
  ac1 : e.ac ≤ 8
theorem mayE_iff {e : Ev} : mayEb e = true ↔ MayE e := by
  unfold mayEb
  simp only [Bool.and_eq_true, decide_eq_true_eq, Option.isSome_iff_exists]
  constructor
  · rintro ⟨h1, h2, h3, h4, h5, h6, h7, h8, h9⟩
    exact ⟨h1, h2, h3, by omega, h5, h6, h7, h8, h9⟩
  · rintro ⟨h1, h2, h3, h4, h5, h6, h7, h8, h9⟩
    exact ⟨h1, h2, h3, by omega, h5, h6, h7, h8, h9⟩
theorem MayE.na_size {e : Ev} (h : MayE e) : e.na.size ≤ 254 := by
  obtain ⟨ls, hl⟩ := h.na
  obtain ⟨_, _, h3⟩ := labN_some hl
  exact h3
theorem enc_size {t : Tg} {m : ByteArray} (h : encF t = some m) : m.size ≤ 254 := by
  have hd := enc_dec h
  rw [decF] at hd
  cases hl : labN m with
  | none => rw [hl] at hd; cases hd
  | some ls => exact (labN_some hl).2.2
end Go.Proofs.YtkagfmlaolmdnaaDoor
