/- IndexApart: what is put in by one trigger is found by another one just if that is the same. apart_b1 is PRINTED by tools/apartgen.py. -/
import Derived.Test.YtmlojdbahlfiaaaGreatDoorRows
import Derived.LaidLaws
import Derived.Lay
import Derived.Stop.LaidErr
import Derived.Lib.LaidTab
import Derived.ChangeVars
import Derived.MakeChecks
import Derived.Test.YtmlojdbahlfiaaaGreatDoorM1IndexApart
import Derived.Test.YtmlojdbahlfiaaaGreatDoorM2IndexApart
import Derived.Test.YtmlojdbahlfiaaaGreatDoorM3IndexApart
import Derived.Test.YtmlojdbahlfiaaaGreatDoorM4IndexApart
import Derived.Test.YtmlojdbahlfiaaaGreatDoorM5IndexApart
namespace Go.Proofs.YtmlojdbahlfiaaaGreatDoor
open Go.Px
set_option linter.unusedVariables false
set_option linter.unusedSimpArgs false
set_option maxRecDepth 8000

/-- a deed by numbers -/
structure A7 where
  op : Int
  kind : Int
  nm : Sb
  six : Bool
  bits : Int
  val : Int
abbrev encA7 (a : A7) : List Value := [.int .u8 a.op, .int .u8 a.kind, .slice a.nm.a.1 a.nm.a.2.1 a.nm.a.2.2, .bool a.six, .int .u8 a.bits, .int .i64 a.val]
abbrev vA7 (a : A7) : Value := .agg #[.int .u8 a.op, .int .u8 a.kind, .slice a.nm.a.1 a.nm.a.2.1 a.nm.a.2.2, .bool a.six, .int .u8 a.bits, .int .i64 a.val]
abbrev a7B (b : Nat) (a : A7) : Nat × Obj := (b, .cells (encA7 a).toArray 44 (0, 0))
structure A7In (I : IMem) (S : SH) (a : A7) : Prop where
  op : 0 ≤ a.op ∧ a.op ≤ 255
  kind : 0 ≤ a.kind ∧ a.kind ≤ 255
  nm : SbIn I S a.nm
  bits : 0 ≤ a.bits ∧ a.bits ≤ 255
theorem A7In.keep {I J : IMem} {S T : SH} {a : A7} (hk : Keep I S J T) (h : A7In I S a) : A7In J T a := ⟨h.op, h.kind, h.nm.keep hk, h.bits⟩
def trgA (a : A7) : Tg := trigF a.kind a.nm.ns a.six a.bits
def GoodT (t : Tg) : Prop := GoodP t ∨ GoodN t
theorem good_enc {t : Tg} (h : GoodT t) : encF t ≠ none := by
  rw [(enc_good h).1]
  exact Option.some_ne_none _
theorem enc_some {t : Tg} (h : encF t ≠ none) : (encF t).isSome = true := by
  cases he : encF t with
  | none => exact absurd he h
  | some m => rfl
theorem a7X {I : IMem} {S F : SH} {b : Nat} {a : A7} (hs : Sub (a7B b a :: F) S) : ∀ (j : Nat) (u : Value), (encA7 a).toArray[j]? = some u → Cell I S ⟨b, j, none⟩ u := fun j u h => Cell.among hs h
theorem ATrig_runs {a : A7} {I : IMem} {S : SH} (h : A7In I S a) : Runs Tryz.prog 18 #[vA7 a] I S fun v _ T => (v = vT (trgA a) ∧ GoodT (trgA a)) ∧ Sub S T := by
  obtain ⟨yr, yn, yl, yb⟩ := h.nm
  refine bolterlaw17_Act_Trigger_fn _ _ _ _ _ _ _ _ _ _ _ ?_
  unfold bolterlaw17_Act_Trigger
  intro b1 b2
  have hs : Sub (a7B b1 a :: S) ((b2, .cells (elT t0).toArray 33 (0, 0)) :: a7B b1 a :: S) := (Sub.refl _).skip _
  have d := a7X (I := I) hs
  refine ⟨_, d 1 _ rfl, _, a.nm.ns.length, _, by rw [← yn]; exact d 2 _ rfl, _, d 3 _ rfl, _, d 4 _ rfl, (TrigF_runs a.six (yr.sub hs.drop) yl yb h.kind h.bits).mono ?_⟩
  rintro v J T hle ⟨⟨rfl, hg⟩, hs2⟩
  have hs3 : Sub (tgB b2 t0 :: S) T := (Sub.cons ((Sub.refl S).skip (a7B b1 a)) (tgB b2 t0)).trans hs2
  refine ⟨_, _, _, _, rfl, put_tg (x := t0) (t := trigF a.kind a.nm.ns a.six a.bits) hs3 fun T' hT' => ?_⟩
  obtain ⟨c0, c1, c2, _, c3⟩ := tgX (I := J) hT'
  rw [add_mk] at c1 c2 c3
  exact ⟨_, c0, _, c1, _, c2, _, c3, ⟨rfl, hg⟩, hT'.drop⟩
theorem tg_q (s t : Tg) : (((s.1 : Int) == (t.1 : Int)) && (((s.2.1 : ByteArray) == (t.2.1 : ByteArray)) && ((((s.2.2.1 : ByteArray) == (t.2.2.1 : ByteArray)) && (((s.2.2.2 : Int) == (t.2.2.2 : Int)) && true)) && true))) = decide (s = t) := by
  by_cases h : s = t
  · rw [decide_eq_true h, h]; exact tg_self t
  · rw [decide_eq_false h]
    cases hq : (((s.1 : Int) == (t.1 : Int)) && (((s.2.1 : ByteArray) == (t.2.1 : ByteArray)) && ((((s.2.2.1 : ByteArray) == (t.2.2.1 : ByteArray)) && (((s.2.2.2 : Int) == (t.2.2.2 : Int)) && true)) && true))) with
    | false => rfl
    | true =>
      rw [Bool.and_eq_true, Bool.and_eq_true, Bool.and_true, Bool.and_true, Bool.and_eq_true, beq_iff_eq, ba_beq, ba_beq, beq_iff_eq] at hq
      exact absurd (Prod.ext hq.1 (Prod.ext hq.2.1 (Prod.ext hq.2.2.1 hq.2.2.2))) h
section
variable {xb b6 b7 : Nat} {s t : Tg} {own F T : SH} {J : IMem}
abbrev KW : RT := fun v _ _ => v = .bool true
theorem apart_b2 (g : GL J) (hes : encF s ≠ none) (het : encF t ≠ none) (hx : IxS xb (fun _ => none) 0 0 own) (hs : Sub (own ++ (tgB b6 s :: (tgB b7 t :: F))) T) :
    bolterlaw17_IndexApart_b2 KW (some ⟨xb, 0, none⟩) ⟨b6, 0, none⟩ ⟨b7, 0, none⟩ J T := by
  unfold bolterlaw17_IndexApart_b2
  have hA : Sub (tgB b6 s :: (tgB b7 t :: F)) (tgB b6 s :: (tgB b7 t :: F)) := Sub.refl _
  obtain ⟨c0, c1, c2, _, c3⟩ := tgX (I := J) hA
  obtain ⟨d0, d1, d2, _, d3⟩ := tgX (I := J) hA.drop
  refine ⟨_, hs.right.keep (IMem.le.refl J), _, c0, _, c1, _, c2, _, c3, (IPut_runs g hx hs s 1 (by decide) (by decide)).mono ?_⟩
  rintro v J1 T1 hle1 ⟨rfl, n1, c1', own1, hx1, hn1, hc1, hs1⟩
  have h1 : ((encF s).isSome && ((none : Option Int)).isNone) = true := by rw [enc_some hes]; rfl
  have hb1 : n1 ≤ 1 := by rw [hn1]; unfold sNum; split <;> omega
  rw [h1] at hc1 ⊢
  have hc1 : c1' = 1 := hc1
  subst hc1
  refine ⟨_, rfl, hs1.right.keep hle1, bcase_f rfl ⟨_, d0, _, d1, _, d2, _, d3, _, c0, _, c1, _, c2, _, c3, _, d0, _, d1, _, d2, _, d3, (IPut_runs (g.le hle1) hx1 hs1 t 2 (by omega) (by decide)).mono ?_⟩⟩
  rintro v J2 T2 hle2 ⟨rfl, n2, c2', own2, hx2, hn2, hc2, hs2⟩
  have hle := hle1.trans hle2
  have hV1 : ∀ u, putV (fun _ => none) s 1 u = if u = s then some 1 else none := fun u => V_put hes u
  have hV2 : ∀ u, putV (putV (fun _ => none) s 1) t 2 u = if u = t then some 2 else if u = s then some 1 else none := fun u => by rw [V_put het, hV1]
  refine ⟨_, rfl, hs2.right.keep hle, ?_⟩
  rw [tg_q s t]
  have A2 := hs2.right
  unfold bolterlaw17_IndexApart_b3 bolterlaw17_IndexApart_b4 bolterlaw17_IndexApart_b5
  by_cases e : s = t
  · subst e
    obtain ⟨c0, c1, c2, _, c3⟩ := tgX (I := J2) A2
    obtain ⟨d0, d1, d2, _, d3⟩ := tgX (I := J2) A2.drop
    rw [hV1, if_pos rfl] at hc2 ⊢
    have hc2 : c2' = 1 := by simpa [sNum] using hc2
    subst hc2
    refine bcase_f (by rw [enc_some het]; simp) ⟨_, c0, _, c1, _, c2, _, c3, _, d0, _, d1, _, d2, _, d3, ?_⟩
    refine bcase_t (tg_self s) ((ILen_runs hx2 hs2 (by decide)).mono ?_)
    rintro v J3 T3 hle3 ⟨rfl, hs3⟩
    obtain ⟨c0, c1, c2, _, c3⟩ := tgX (I := J3) hs3.right
    refine ⟨_, rfl, bcase_t rfl ⟨_, c0, _, c1, _, c2, _, c3, (IDel_runs ((g.le hle).le hle3) hx2 hs3 s (by decide)).mono ?_⟩⟩
    rintro v J4 T4 hle4 ⟨rfl, n4, c4, own4, hx4, hn4, hc4, hs4⟩
    rw [hV2, if_pos rfl] at hc4 ⊢
    have hc4 : c4 = 0 := by simpa [sNum] using hc4
    subst hc4
    refine ⟨_, rfl, bcase_t rfl ((ILen_runs hx4 hs4 (by decide)).mono ?_)⟩
    rintro v J5 T5 hle5 ⟨rfl, hs5⟩
    refine ⟨_, rfl, ?_⟩
    unfold bolterlaw17_IndexApart_b6
    rfl
  · obtain ⟨c0, c1, c2, _, c3⟩ := tgX (I := J2) A2
    obtain ⟨d0, d1, d2, _, d3⟩ := tgX (I := J2) A2.drop
    rw [hV1, if_neg (fun h => e h.symm)] at hc2 ⊢
    have hc2 : c2' = 2 := by rw [enc_some het] at hc2; simpa [sNum] using hc2
    subst hc2
    refine bcase_f (by rw [enc_some het, decide_eq_false e]; rfl) ⟨_, c0, _, c1, _, c2, _, c3, _, d0, _, d1, _, d2, _, d3, ?_⟩
    refine bcase_f (by rw [tg_q, decide_eq_false e]) ?_
    unfold bolterlaw17_IndexApart_b7 bolterlaw17_IndexApart_b8
    refine (ILen_runs hx2 hs2 (by decide)).mono ?_
    rintro v J3 T3 hle3 ⟨rfl, hs3⟩
    obtain ⟨c0, c1, c2, _, c3⟩ := tgX (I := J3) hs3.right
    refine ⟨_, rfl, bcase_t rfl ⟨_, c0, _, c1, _, c2, _, c3, (IDel_runs ((g.le hle).le hle3) hx2 hs3 s (by decide)).mono ?_⟩⟩
    rintro v J4 T4 hle4 ⟨rfl, n4, c4, own4, hx4, hn4, hc4, hs4⟩
    rw [hV2, if_neg e, if_pos rfl] at hc4 ⊢
    have hc4 : c4 = 1 := by simpa [sNum] using hc4
    subst hc4
    obtain ⟨c0, c1, c2, _, c3⟩ := tgX (I := J4) hs4.right
    refine ⟨_, rfl, bcase_t rfl ⟨_, c0, _, c1, _, c2, _, c3, (IDel_runs (((g.le hle).le hle3).le hle4) hx4 hs4 s (by decide)).mono ?_⟩⟩
    rintro v J5 T5 hle5 ⟨rfl, n5, c5, own5, hx5, hn5, hc5, hs5⟩
    have hV3 : delV (putV (putV (fun _ => none) s 1) t 2) s s = none := by unfold delV; rw [if_pos rfl]
    rw [hV3] at hc5 ⊢
    have hc5 : c5 = 1 := by simpa [sNum] using hc5
    subst hc5
    refine ⟨_, rfl, bcase_t rfl ((ILen_runs hx5 hs5 (by decide)).mono ?_)⟩
    rintro v J6 T6 hle6 ⟨rfl, hs6⟩
    obtain ⟨d0, d1, d2, _, d3⟩ := tgX (I := J6) hs6.right.drop
    refine ⟨_, rfl, bcase_t rfl ⟨_, d0, _, d1, _, d2, _, d3, (IDel_runs (((((g.le hle).le hle3).le hle4).le hle5).le hle6) hx5 hs6 t (by decide)).mono ?_⟩⟩
    rintro v J7 T7 hle7 ⟨rfl, _⟩
    refine ⟨_, rfl, ?_⟩
    have hV4 : delV (delV (putV (putV (fun _ => none) s 1) t 2) s) s t = some 2 := by
      unfold delV
      rw [if_neg (fun h => e h.symm), if_neg (fun h => e h.symm), hV2, if_pos rfl]
    rw [hV4]; rfl
end
theorem apart_b1 {b2 b3 : Nat} {x5 : OA} {a c : A7} {I : IMem} {S F1 F2 : SH} {R : RT} {s t : Tg} (h2 : Sub (a7B b2 a :: F1) S) (h3 : Sub (a7B b3 c :: F2) S)
    (hT1 : ∀ J T, I.le J → Sub S T → Runs Tryz.prog 18 #[vA7 a] J T fun v _ T' => v = vT s ∧ Sub T T') (hT2 : ∀ J T, I.le J → Sub S T → Runs Tryz.prog 18 #[vA7 c] J T fun v _ T' => v = vT t ∧ Sub T T')
    (fin : ∀ b6 b7 J T, I.le J → Sub (tgB b6 t0 :: (tgB b7 t0 :: S)) T → StP T ⟨b6, 0, none⟩ [.int .i64 s.1, .string s.2.1, .string s.2.2.1, .int .i64 s.2.2.2] fun S1 => StP S1 ⟨b7, 0, none⟩ [.int .i64 t.1, .string t.2.1, .string t.2.2.1, .int .i64 t.2.2.2] fun S2 => bolterlaw17_IndexApart_b2 R x5 ⟨b6, 0, none⟩ ⟨b7, 0, none⟩ J S2) :
    bolterlaw17_IndexApart_b1 R ⟨b2, 0, none⟩ ⟨b3, 0, none⟩ x5 I S := by
  unfold bolterlaw17_IndexApart_b1
  have d := a7X (I := I) h2
  have e := a7X (I := I) h3
  refine ⟨S, (Sub.refl S).keep (IMem.le.refl I), _, d 0 _ rfl, _, Cell.at_ (add_mk _ _ _) (d 1 _ rfl), _, _, _, Cell.at_ (add_mk _ _ _) (d 2 _ rfl), _, Cell.at_ (add_mk _ _ _) (d 3 _ rfl), _, Cell.at_ (add_mk _ _ _) (d 4 _ rfl), _, Cell.at_ (add_mk _ _ _) (d 5 _ rfl), _, e 0 _ rfl, _, Cell.at_ (add_mk _ _ _) (e 1 _ rfl), _, _, _, Cell.at_ (add_mk _ _ _) (e 2 _ rfl), _, Cell.at_ (add_mk _ _ _) (e 3 _ rfl), _, Cell.at_ (add_mk _ _ _) (e 4 _ rfl), _, Cell.at_ (add_mk _ _ _) (e 5 _ rfl), ?_⟩
  have hX : Sub S S := Sub.refl S
  have hs : Sub S S := Sub.refl S
  have hle : I.le I := IMem.le.refl I
  refine ⟨?_, ?_⟩
  · refine (hT1 _ _ hle hX).mono ?_
    rintro v J T hle2 ⟨rfl, hs2⟩
    replace hs := hs.trans hs2
    replace hX := hX.trans hs2
    replace hle := hle.trans hle2
    refine ⟨_, _, _, _, rfl, ?_⟩
    refine ⟨hX.keep hle, ?_⟩
    refine ⟨?_, ?_⟩
    · refine (hT2 _ _ hle hX).mono ?_
      rintro v J T hle2 ⟨rfl, hs2⟩
      replace hs := hs.trans hs2
      replace hX := hX.trans hs2
      replace hle := hle.trans hle2
      refine ⟨_, _, _, _, rfl, ?_⟩
      refine ⟨?_, ?_⟩
      · intro b6
        replace hs := hs.cons (tgB b6 t0)
        replace hX := hX.skip (tgB b6 t0)
        refine ⟨hX.keep hle, ?_⟩
        intro b7
        replace hs := hs.cons (tgB b7 t0)
        replace hX := hX.skip (tgB b7 t0)
        refine ⟨hX.keep hle, ?_⟩
        exact fin b6 b7 _ _ hle (hs.perm (List.Perm.swap _ _ _))
      · intro b7
        replace hs := hs.cons (tgB b7 t0)
        replace hX := hX.skip (tgB b7 t0)
        refine ⟨hX.keep hle, ?_⟩
        intro b6
        replace hs := hs.cons (tgB b6 t0)
        replace hX := hX.skip (tgB b6 t0)
        refine ⟨hX.keep hle, ?_⟩
        exact fin b6 b7 _ _ hle hs
    · refine ⟨?_, ?_⟩
      · intro b6
        replace hs := hs.cons (tgB b6 t0)
        replace hX := hX.skip (tgB b6 t0)
        refine ⟨hX.keep hle, ?_⟩
        refine ⟨?_, ?_⟩
        · refine (hT2 _ _ hle hX).mono ?_
          rintro v J T hle2 ⟨rfl, hs2⟩
          replace hs := hs.trans hs2
          replace hX := hX.trans hs2
          replace hle := hle.trans hle2
          refine ⟨_, _, _, _, rfl, ?_⟩
          intro b7
          replace hs := hs.cons (tgB b7 t0)
          replace hX := hX.skip (tgB b7 t0)
          refine ⟨hX.keep hle, ?_⟩
          exact fin b6 b7 _ _ hle (hs.perm (List.Perm.swap _ _ _))
        · intro b7
          replace hs := hs.cons (tgB b7 t0)
          replace hX := hX.skip (tgB b7 t0)
          refine ⟨hX.keep hle, ?_⟩
          refine (hT2 _ _ hle hX).mono ?_
          rintro v J T hle2 ⟨rfl, hs2⟩
          replace hs := hs.trans hs2
          replace hX := hX.trans hs2
          replace hle := hle.trans hle2
          refine ⟨_, _, _, _, rfl, ?_⟩
          exact fin b6 b7 _ _ hle (hs.perm (List.Perm.swap _ _ _))
      · intro b7
        replace hs := hs.cons (tgB b7 t0)
        replace hX := hX.skip (tgB b7 t0)
        refine ⟨hX.keep hle, ?_⟩
        refine ⟨?_, ?_⟩
        · refine (hT2 _ _ hle hX).mono ?_
          rintro v J T hle2 ⟨rfl, hs2⟩
          replace hs := hs.trans hs2
          replace hX := hX.trans hs2
          replace hle := hle.trans hle2
          refine ⟨_, _, _, _, rfl, ?_⟩
          intro b6
          replace hs := hs.cons (tgB b6 t0)
          replace hX := hX.skip (tgB b6 t0)
          refine ⟨hX.keep hle, ?_⟩
          exact fin b6 b7 _ _ hle hs
        · intro b6
          replace hs := hs.cons (tgB b6 t0)
          replace hX := hX.skip (tgB b6 t0)
          refine ⟨hX.keep hle, ?_⟩
          refine (hT2 _ _ hle hX).mono ?_
          rintro v J T hle2 ⟨rfl, hs2⟩
          replace hs := hs.trans hs2
          replace hX := hX.trans hs2
          replace hle := hle.trans hle2
          refine ⟨_, _, _, _, rfl, ?_⟩
          exact fin b6 b7 _ _ hle hs
  · refine ⟨?_, ?_⟩
    · intro b6
      replace hs := hs.cons (tgB b6 t0)
      replace hX := hX.skip (tgB b6 t0)
      refine ⟨hX.keep hle, ?_⟩
      refine ⟨?_, ?_⟩
      · refine (hT1 _ _ hle hX).mono ?_
        rintro v J T hle2 ⟨rfl, hs2⟩
        replace hs := hs.trans hs2
        replace hX := hX.trans hs2
        replace hle := hle.trans hle2
        refine ⟨_, _, _, _, rfl, ?_⟩
        refine ⟨hX.keep hle, ?_⟩
        refine ⟨?_, ?_⟩
        · refine (hT2 _ _ hle hX).mono ?_
          rintro v J T hle2 ⟨rfl, hs2⟩
          replace hs := hs.trans hs2
          replace hX := hX.trans hs2
          replace hle := hle.trans hle2
          refine ⟨_, _, _, _, rfl, ?_⟩
          intro b7
          replace hs := hs.cons (tgB b7 t0)
          replace hX := hX.skip (tgB b7 t0)
          refine ⟨hX.keep hle, ?_⟩
          exact fin b6 b7 _ _ hle (hs.perm (List.Perm.swap _ _ _))
        · intro b7
          replace hs := hs.cons (tgB b7 t0)
          replace hX := hX.skip (tgB b7 t0)
          refine ⟨hX.keep hle, ?_⟩
          refine (hT2 _ _ hle hX).mono ?_
          rintro v J T hle2 ⟨rfl, hs2⟩
          replace hs := hs.trans hs2
          replace hX := hX.trans hs2
          replace hle := hle.trans hle2
          refine ⟨_, _, _, _, rfl, ?_⟩
          exact fin b6 b7 _ _ hle (hs.perm (List.Perm.swap _ _ _))
      · intro b7
        replace hs := hs.cons (tgB b7 t0)
        replace hX := hX.skip (tgB b7 t0)
        refine ⟨hX.keep hle, ?_⟩
        refine (hT1 _ _ hle hX).mono ?_
        rintro v J T hle2 ⟨rfl, hs2⟩
        replace hs := hs.trans hs2
        replace hX := hX.trans hs2
        replace hle := hle.trans hle2
        refine ⟨_, _, _, _, rfl, ?_⟩
        refine ⟨hX.keep hle, ?_⟩
        refine (hT2 _ _ hle hX).mono ?_
        rintro v J T hle2 ⟨rfl, hs2⟩
        replace hs := hs.trans hs2
        replace hX := hX.trans hs2
        replace hle := hle.trans hle2
        refine ⟨_, _, _, _, rfl, ?_⟩
        exact fin b6 b7 _ _ hle (hs.perm (List.Perm.swap _ _ _))
    · intro b7
      replace hs := hs.cons (tgB b7 t0)
      replace hX := hX.skip (tgB b7 t0)
      refine ⟨hX.keep hle, ?_⟩
      refine ⟨?_, ?_⟩
      · refine (hT1 _ _ hle hX).mono ?_
        rintro v J T hle2 ⟨rfl, hs2⟩
        replace hs := hs.trans hs2
        replace hX := hX.trans hs2
        replace hle := hle.trans hle2
        refine ⟨_, _, _, _, rfl, ?_⟩
        refine ⟨hX.keep hle, ?_⟩
        refine ⟨?_, ?_⟩
        · refine (hT2 _ _ hle hX).mono ?_
          rintro v J T hle2 ⟨rfl, hs2⟩
          replace hs := hs.trans hs2
          replace hX := hX.trans hs2
          replace hle := hle.trans hle2
          refine ⟨_, _, _, _, rfl, ?_⟩
          intro b6
          replace hs := hs.cons (tgB b6 t0)
          replace hX := hX.skip (tgB b6 t0)
          refine ⟨hX.keep hle, ?_⟩
          exact fin b6 b7 _ _ hle hs
        · intro b6
          replace hs := hs.cons (tgB b6 t0)
          replace hX := hX.skip (tgB b6 t0)
          refine ⟨hX.keep hle, ?_⟩
          refine (hT2 _ _ hle hX).mono ?_
          rintro v J T hle2 ⟨rfl, hs2⟩
          replace hs := hs.trans hs2
          replace hX := hX.trans hs2
          replace hle := hle.trans hle2
          refine ⟨_, _, _, _, rfl, ?_⟩
          exact fin b6 b7 _ _ hle hs
      · intro b6
        replace hs := hs.cons (tgB b6 t0)
        replace hX := hX.skip (tgB b6 t0)
        refine ⟨hX.keep hle, ?_⟩
        refine (hT1 _ _ hle hX).mono ?_
        rintro v J T hle2 ⟨rfl, hs2⟩
        replace hs := hs.trans hs2
        replace hX := hX.trans hs2
        replace hle := hle.trans hle2
        refine ⟨_, _, _, _, rfl, ?_⟩
        refine ⟨hX.keep hle, ?_⟩
        refine (hT2 _ _ hle hX).mono ?_
        rintro v J T hle2 ⟨rfl, hs2⟩
        replace hs := hs.trans hs2
        replace hX := hX.trans hs2
        replace hle := hle.trans hle2
        refine ⟨_, _, _, _, rfl, ?_⟩
        exact fin b6 b7 _ _ hle hs
theorem apart_runs {a c : A7} {I : IMem} {S : SH} (g : GL I) (ha : A7In I S a) (hc : A7In I S c) (hga : GoodT (trgA a)) (hgc : GoodT (trgA c)) : Runs Tryz.prog 4 #[vA7 a, vA7 c] I S KW := by
  refine bolterlaw17_IndexApart_fn _ _ _ _ _ _ _ _ _ _ _ _ _ _ _ _ _ _ _ ?_
  unfold bolterlaw17_IndexApart
  intro b2 b3
  have hS : Sub S (a7B b3 c :: a7B b2 a :: S) := ((Sub.refl S).skip _).skip _
  refine (awake17_runs g _).mono ?_
  rintro v J0 T0 hle0 ⟨rfl, hs0⟩
  refine ⟨_, rfl, bcase_f rfl ((IOf_runs J0 T0).mono ?_)⟩
  rintro v J1 T1 hle1 ⟨xb, own, rfl, hx, hs1⟩
  have hle := hle0.trans hle1
  have hs2 : Sub (a7B b3 c :: a7B b2 a :: S) T1 := hs0.trans hs1.right
  refine ⟨_, rfl, apart_b1 (a := a) (c := c) (s := trgA a) (t := trgA c) hs2.drop hs2 (fun J T hl hs => (ATrig_runs (ha.keep ((hS.trans (hs2.trans hs)).keep (hle.trans hl)))).mono fun v J' T' hl' h => ⟨h.1.1, h.2⟩) (fun J T hl hs => (ATrig_runs (hc.keep ((hS.trans (hs2.trans hs)).keep (hle.trans hl)))).mono fun v J' T' hl' h => ⟨h.1.1, h.2⟩) ?_⟩
  intro b6 b7 J T hl hs3
  refine put_tg (x := t0) (t := trgA a) hs3 fun T2 hT2 => put_tg (x := t0) (t := trgA c) (F := tgB b6 (trgA a) :: T1) (hT2.re (by intro a; simp only [cnt_cons]; omega)) fun T3 hT3 => ?_
  refine apart_b2 (s := trgA a) (t := trgA c) (F := T0) (g.le (hle.trans hl)) (good_enc hga) (good_enc hgc) hx ?_
  exact Sub.trans (Sub.re (M := tgB b7 (trgA c) :: (tgB b6 (trgA a) :: (own ++ T0))) (Sub.refl _) (by intro a; simp only [cnt_cons, cnt_app]; omega)) (((hs1.cons (tgB b6 (trgA a))).cons (tgB b7 (trgA c))).trans hT3)
abbrev A7W (W : World) (x : Int × Int × Sl × Bool × Int × Int) : Prop := (Lit.int .u8 x.1).wf = true ∧ (Lit.int .u8 x.2.1).wf = true ∧ U8W W x.2.2.1 ∧ True ∧ (Lit.int .u8 x.2.2.2.2.1).wf = true ∧ (Lit.int .i64 x.2.2.2.2.2).wf = true
theorem a7_of {W : World} {x : Int × Int × Sl × Bool × Int × Int} (h : A7W W x) : ∃ a : A7, encA7 a = [.int .u8 x.1, .int .u8 x.2.1, .slice x.2.2.1.1 x.2.2.1.2.1 x.2.2.1.2.2, .bool x.2.2.2.1, .int .u8 x.2.2.2.2.1, .int .i64 x.2.2.2.2.2] ∧ A7In (imW W) [] a := by
  obtain ⟨h1, h2, h3, -, h4, -⟩ := h
  obtain ⟨y, hy, iy⟩ := sb_of h3
  exact ⟨⟨x.1, x.2.1, y, x.2.2.2.1, x.2.2.2.2.1, x.2.2.2.2.2⟩, by rw [encA7, hy], u8_wf h1, u8_wf h2, iy, u8_wf h4⟩
theorem trig_good (kind : Int) (ns : List Int) (six : Bool) (bits : Int) : GoodT (trigF kind ns six bits) := by
  unfold trigF
  have hr7 : kind.toNat % 7 < 7 := Nat.mod_lt _ (by decide)
  generalize kind.toNat % 7 = k at hr7
  unfold trigG
  by_cases hk : k = 0 ∨ k = 3 ∨ k = 6
  · rw [if_pos hk]
    have hsz := adrS_size six ns
    have hr : bits.toNat % (8 * (adrS six ns).size + 1) < 8 * (adrS six ns).size + 1 := Nat.mod_lt _ (by omega)
    generalize bits.toNat % (8 * (adrS six ns).size + 1) = n at hr
    refine .inl ⟨by dsimp only; omega, rfl, ⟨⟨by rw [cutB_size]; exact hsz, by dsimp only; omega, by dsimp only; rw [cutB_size]; omega⟩, ?_⟩⟩
    dsimp only
    rw [Int.toNat_natCast]
    exact cutB_idem _ _
  · rw [if_neg hk]
    refine .inr ⟨by dsimp only; omega, rfl, _, ?_, ?_, rfl, ?_⟩
    · intro l hl
      split at hl
      · rw [List.mem_singleton.1 hl]; simp [wrdL]
      · obtain ⟨x, _, rfl⟩ := List.mem_map.1 hl
        exact wrdF_mem x
    · split
      · decide
      · rw [List.length_map, List.length_take]; omega
    · intro h
      dsimp only at h
      split
      · simp
      · rename_i h2
        exact fun e => h2 ⟨e, by omega⟩
theorem trg_good (a : A7) : GoodT (trgA a) := trig_good _ _ _ _
theorem IndexApart_row (W : World) (g : GL (imW W)) (o k : Int) (a : Option Addr) (l c : Nat) (six : Bool) (b v : Int) (o2 k2 : Int) (a2 : Option Addr) (l2 c2 : Nat) (six2 : Bool) (b2 v2 : Int) (w0 : A7W W (o, k, (a, l, c), six, b, v)) (w1 : A7W W (o2, k2, (a2, l2, c2), six2, b2, v2)) :
    Runs Tryz.prog 4 #[.agg #[.int .u8 o, .int .u8 k, .slice a l c, .bool six, .int .u8 b, .int .i64 v], .agg #[.int .u8 o2, .int .u8 k2, .slice a2 l2 c2, .bool six2, .int .u8 b2, .int .i64 v2]] (imW W) [] fun v _ _ => v = .bool true := by
  obtain ⟨x, ex, hx⟩ := a7_of w0
  obtain ⟨y, ey, hy⟩ := a7_of w1
  have e1 : Value.agg #[.int .u8 o, .int .u8 k, .slice a l c, .bool six, .int .u8 b, .int .i64 v] = vA7 x := congrArg (fun l : List Value => Value.agg l.toArray) ex.symm
  have e2 : Value.agg #[.int .u8 o2, .int .u8 k2, .slice a2 l2 c2, .bool six2, .int .u8 b2, .int .i64 v2] = vA7 y := congrArg (fun l : List Value => Value.agg l.toArray) ey.symm
  rw [e1, e2]
  exact apart_runs g hx hy (trg_good x) (trg_good y)
end Go.Proofs.YtmlojdbahlfiaaaGreatDoor
/- The listed variables: the tables and the two errors of strconv; a world where they lie so. -/
namespace Go.Proofs.YtmlojdbahlfiaaaGreatDoor
open Go Go.Px Go.Lib Go.MakeChecks
set_option linter.unusedVariables false
set_option linter.unusedSimpArgs false
set_option maxRecDepth 100000

abbrev LaidL : List (String × DataW Unit) := [("math/bits.deBruijn32tab", Rows.laid_math_bits_deBruijn32tab), ("math/bits.deBruijn64tab", Rows.laid_math_bits_deBruijn64tab), ("internal/strconv.uint64pow10", Rows.laid_internal_strconv_uint64pow10), ("strconv.ErrRange", Rows.laid_strconv_ErrRange), ("strconv.ErrSyntax", Rows.laid_strconv_ErrSyntax)]
theorem ld_at {W : World} {n : String} {cs : Array Value} {g : Nat} (hg : Program.globalNamed Tryz.prog n = some g) (h : W.var? Tryz.prog n = some cs) : ∃ e fz, (imW W).at_ g = some (.cells cs e fz) := by
  simp only [World.var?, hg, Option.bind_some] at h
  split at h
  · rename_i cs' e fz he
    obtain rfl := Option.some.inj h
    exact ⟨e, fz, he⟩
  · cases h
theorem ld_err {W : World} {n : String} {d : DataW Unit} {r : List (String × DataW Unit)} {g : Nat} (h : laidMet Tryz.prog ((n, .iface "*errors.errorString" d) :: r) W)
    (hg : Program.globalNamed Tryz.prog n = some g) (ht : ((Tryz.prog).globals[g]?).map (·.type) = some 127) : ∃ u v, W.var? Tryz.prog n = some #[.iface u v] := by
  obtain ⟨ps, ⟨g0, t0, cs0, f0, p0, q0, hg0, ht0, hv0, hd0, _, e0⟩, _, hrows⟩ := h
  obtain rfl := Option.some.inj (hg.symm.trans hg0)
  obtain rfl := Option.some.inj (ht.symm.trans ht0)
  obtain ⟨l0⟩ := cs0
  obtain ⟨_, u, v, rfl, _⟩ := iface_of_trod (Tryz.underlying127) hd0
  exact ⟨u, v, hv0⟩
abbrev ld64 : List Int := [0, 1, 56, 2, 57, 49, 28, 3, 61, 58, 42, 50, 38, 29, 17, 4, 62, 47, 59, 36, 45, 43, 51, 22, 53, 39, 33, 30, 24, 18, 12, 5, 63, 55, 48, 27, 60, 41, 37, 16, 46, 35, 44, 21, 52, 32, 23, 11, 54, 26, 40, 15, 34, 20, 31, 10, 25, 14, 19, 9, 13, 8, 7, 6]
abbrev ldp : List Int := [1, 10, 100, 1000, 10000, 100000, 1000000, 10000000, 100000000, 1000000000, 10000000000, 100000000000, 1000000000000, 10000000000000, 100000000000000, 1000000000000000, 10000000000000000, 100000000000000000, 1000000000000000000, 10000000000000000000]
theorem GL_of_laid {W : World} (h : laidMet Tryz.prog LaidL W) : GL (imW W) := by
  have h1 : laidMet Tryz.prog (("math/bits.deBruijn64tab", tabData .u8 ld64) :: [("internal/strconv.uint64pow10", Rows.laid_internal_strconv_uint64pow10), ("strconv.ErrRange", Rows.laid_strconv_ErrRange), ("strconv.ErrSyntax", Rows.laid_strconv_ErrSyntax)]) W := h.tail
  have h2 : laidMet Tryz.prog (("internal/strconv.uint64pow10", tabData .u64 ldp) :: [("strconv.ErrRange", Rows.laid_strconv_ErrRange), ("strconv.ErrSyntax", Rows.laid_strconv_ErrSyntax)]) W := h1.tail
  have h3 := h2.tail
  have h4 := h3.tail
  have t1 := tabIs_of_head (P := Tryz.prog) (g := 4) (t := 256) (e := 5) (n := 64) (by kernel_rfl) (by kernel_rfl) (by kernel_rfl) (by kernel_rfl) (by kernel_rfl) (by kernel_rfl) h1
  have t2 := tabIs_of_head (P := Tryz.prog) (g := 0) (t := 244) (e := 208) (n := 20) (by kernel_rfl) (by kernel_rfl) (by kernel_rfl) (by kernel_rfl) (by kernel_rfl) (by kernel_rfl) h2
  obtain ⟨u0, v0, hv0⟩ := ld_err (g := 2) h3 (by kernel_rfl) (by kernel_rfl)
  obtain ⟨u1, v1, hv1⟩ := ld_err (g := 1) h4 (by kernel_rfl) (by kernel_rfl)
  obtain ⟨e1, f1, g1⟩ := ld_at (g := 4) (by kernel_rfl) t1
  obtain ⟨e2, f2, g2⟩ := ld_at (g := 0) (by kernel_rfl) t2
  obtain ⟨e3, f3, g3⟩ := ld_at (g := 2) (by kernel_rfl) hv0
  obtain ⟨e4, f4, g4⟩ := ld_at (g := 1) (by kernel_rfl) hv1
  exact ⟨⟨_, _, _, g2, rfl⟩, ⟨_, _, _, g1, rfl⟩, ⟨_, _, _, _, _, g4, rfl⟩, ⟨_, _, _, _, _, g3, rfl⟩⟩
/-- A world that meets the condition. -/
noncomputable def laidWorld (os : Os) : World := World.laidAll Tryz.prog os LaidL
theorem laidWorld_os (os : Os) : (laidWorld os).os = os := World.laidAll_os _ _ _
theorem laidWorld_met (os : Os) (args : Array Value) : laidMetH Tryz.prog LaidL ((laidWorld os).forCall (fun _ _ => 0) ⟨#[], args, []⟩).memory := by
  rw [laidMetH_plain _ _ _ (by kernel_rfl)]
  exact laidMet_laidAll args (by kernel_rfl) (by kernel_rfl)
theorem handle_of_laid {W : World} (h : laidMetH Tryz.prog LaidL W) : GL (imW W) := by
  rw [laidMetH_plain _ _ _ (by kernel_rfl)] at h
  exact GL_of_laid h
theorem laidWorld_shaped (os : Os) (args : Array Value) : ((laidWorld os).forCall (fun _ _ => 0) ⟨#[], args, []⟩).Shaped Tryz.prog :=
  World.shaped_of_ZipB (by kernel_rfl) (by kernel_rfl)
end Go.Proofs.YtmlojdbahlfiaaaGreatDoor
