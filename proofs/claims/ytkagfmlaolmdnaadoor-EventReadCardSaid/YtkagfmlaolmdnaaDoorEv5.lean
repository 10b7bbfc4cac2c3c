/- The rows on events: which events have bytes. -/
import Derived.Test.YtkagfmlaolmdnaaDoorEv4
namespace Go.Proofs.YtkagfmlaolmdnaaDoor
open Go.Px
set_option linter.unusedVariables false
set_option linter.unusedSimpArgs false
set_option maxRecDepth 8000

theorem relE_size {e : Ev} (h : MayE e) : (relE e).size ≤ 254 := by
  obtain ⟨m, hm⟩ := h.rel
  rw [relE, hm]; exact enc_size hm
theorem Ebytes_runs {e : Ev} (h : MayE e) {I : IMem} (g : GL I) (S : SH) : Runs Tryd.prog 33 #[vE e] I S fun v _ T => v = .string (bytE e) ∧ T = S :=
  bytes_runs e (by have := h.cl; omega) (by have := h.na_size; omega) (by have := relE_size h; omega) g S
theorem EventMay_row (W : World) (g : GL (imW W)) (a0 : Int) (a1 a2 : ByteArray) (a3 a4 a5 : Int) (a6 a7 : ByteArray) (a8 a9 : Int) {p : Prop} (_ : p) :
    Runs Tryd.prog 10 #[.agg #[.int .i64 a0, .string a1, .string a2, .int .u16 a3, .int .i64 a4, .int .i64 a5, .string a6, .string a7, .int .i64 a8, .int .i64 a9]] (imW W) [] fun v _ _ => v = .bool true := by
  refine bolterlaw25_EventMay_fn _ _ _ _ _ _ _ _ _ _ _ _ _ ?_
  unfold bolterlaw25_EventMay
  intro b1
  generalize he : (⟨a0, a1, a2, a3, a4, (a5, a6, a7, a8), a9⟩ : Ev) = e
  have hT : ((b1, Obj.cells #[.int .i64 a0, .string a1, .string a2, .int .u16 a3, .int .i64 a4, .int .i64 a5, .string a6, .string a7, .int .i64 a8, .int .i64 a9] 65) :: ([] : SH)) = [Te b1 e] := by rw [← he]; rfl
  rw [hT]
  refine (Eawake_runs g _).mono ?_
  rintro v J T hle ⟨rfl, rfl⟩
  refine ⟨_, rfl, bcase_f rfl ?_⟩
  have c := evC (I := J) (Sub.refl (Te b1 e :: []))
  refine ⟨_, c.c0, _, c.c1, _, c.c2, _, c.c3, _, c.c4, _, c.c5, _, c.c6, _, c.c7, _, c.c8, _, c.c9, (EEnc_runs e (g.le hle) _).mono ?_⟩
  rintro v J1 T1 hle1 henc
  have hs1 : Sub [Te b1 e] T1 := by
    rcases henc with ⟨_, _, h⟩ | ⟨_, _, _, _, _, _, h⟩
    · exact h
    · exact h.right
  obtain ⟨p, n, d, ok, rfl, hok, hno, hyes⟩ : ∃ (p : Option Addr) (n d : Nat) (ok : Bool), v = .tuple #[.slice p n d, .bool ok] ∧ ok = mayEb e ∧ (ok = false → n = 0) ∧ (ok = true → MayE e ∧ BytesAt J1 T1 p n (bytE e)) := by
    rcases henc with ⟨h, rfl, _⟩ | ⟨h, p, d, own, rfl, ho, hs⟩
    · exact ⟨_, _, _, _, rfl, h.symm, fun _ => rfl, fun h => by cases h⟩
    · exact ⟨_, _, _, _, rfl, h.symm, fun h => (by cases h), fun _ => ⟨mayE_iff.1 h, ho.bytes hs.left⟩⟩
  refine ⟨_, _, _, _, rfl, ?_⟩
  unfold bolterlaw25_EventMay_b1
  have g1 := (g.le hle).le hle1
  have c := evC (I := J1) (S := []) hs1
  refine ⟨_, c.c0, _, c.c1, _, c.c2, _, c.c3, _, c.c4, _, c.c5, _, c.c6, _, c.c7, _, c.c8, _, c.c9, _, c.c0, _, c.c1, _, c.c2, _, c.c3, _, c.c4, _, c.c5, _, c.c6, _, c.c7, _, c.c8, _, c.c9, (EMay_runs e g1 _).mono ?_⟩
  rintro v J2 T hle2 ⟨rfl, rfl⟩
  refine ⟨_, rfl, (Sub.refl _).keep hle2, (Emay_runs e (g1.le hle2) _).mono ?_⟩
  rintro v J3 T' hle3 ⟨rfl, rfl⟩
  refine ⟨_, rfl, (Sub.refl _).keep (hle2.trans hle3), bcase_t (beq_self_eq_true _) ?_⟩
  refine ⟨_, c.c0, _, c.c1, _, c.c2, _, c.c3, _, c.c4, _, c.c5, _, c.c6, _, c.c7, _, c.c8, _, c.c9, (Emay_runs e ((g1.le hle2).le hle3) _).mono ?_⟩
  rintro v J4 T'' hle4 ⟨rfl, rfl⟩
  refine ⟨_, rfl, (Sub.refl _).keep ((hle2.trans hle3).trans hle4), bcase_t (by rw [hok]; exact beq_self_eq_true _) (bcase_of (fun h => ?_) (fun h => ?_))⟩
  · obtain ⟨hm, hby⟩ := hyes h
    refine ⟨_, hby, _, c.c0, _, c.c1, _, c.c2, _, c.c3, _, c.c4, _, c.c5, _, c.c6, _, c.c7, _, c.c8, _, c.c9, (Ebytes_runs hm (((g1.le hle2).le hle3).le hle4) _).mono ?_⟩
    rintro v J5 T3 hle5 ⟨rfl, rfl⟩
    refine ⟨_, rfl, (Sub.refl _).keep (((hle2.trans hle3).trans hle4).trans hle5), bcase_t (by rw [tl_eq]) ?_⟩
    unfold bolterlaw25_EventMay_b2; rfl
  · refine ⟨(Sub.refl _).keep ((hle2.trans hle3).trans hle4), bcase_t (by rw [h]; rfl) ?_⟩
    unfold bolterlaw25_EventMay_b2
    rw [hno h]; rfl
end Go.Proofs.YtkagfmlaolmdnaaDoor
