/- The rows on events: two events. -/
import Derived.Test.YtkagfmlaolmdnaaDoorEv8
namespace Go.Proofs.YtkagfmlaolmdnaaDoor
open Go.Px
set_option linter.unusedVariables false
set_option linter.unusedSimpArgs false
set_option maxRecDepth 8000

theorem EncR.open_ {e : Ev} {S T : SH} {v : Value} (h : EncR e S v T) : ∃ (p : Option Addr) (n d : Nat), v = .tuple #[.slice p n d, .bool (mayEb e)] ∧ (mayEb e = true → ∀ J, BytesAt J T p n (bytE e)) ∧ Sub S T := by
  rcases h with ⟨h, rfl, hs⟩ | ⟨h, p, d, own, rfl, ho, hs⟩
  · exact ⟨_, _, _, by rw [h], fun e => (by rw [h] at e; cases e), hs⟩
  · exact ⟨_, _, _, by rw [h], fun _ J => ho.bytes hs.left, hs.right⟩
theorem two_eq {x y : Ev} (hx : MadeE x) (hy : MadeE y) : (((bytE x).toList == (bytE y).toList) == (((x.tm : Int) == (y.tm : Int)) && (((x.cl : ByteArray) == (y.cl : ByteArray)) && (((x.na : ByteArray) == (y.na : ByteArray)) && (((x.ty : Int) == (y.ty : Int)) && (((x.zn : Int) == (y.zn : Int)) && ((((x.tr.1 : Int) == (y.tr.1 : Int)) && (((x.tr.2.1 : ByteArray) == (y.tr.2.1 : ByteArray)) && ((((x.tr.2.2.1 : ByteArray) == (y.tr.2.2.1 : ByteArray)) && (((x.tr.2.2.2 : Int) == (y.tr.2.2.2 : Int)) && true)) && true))) && (((x.ac : Int) == (y.ac : Int)) && true)))))))) = true := by
  by_cases e : x = y
  · rw [e, tl_eq, (ev_eq).2 rfl]; rfl
  · have h1 : bytE x ≠ bytE y := fun h => by
      have := dec_self hx
      rw [h, dec_self hy] at this
      exact e (Option.some.inj this).symm
    have h2 := mt (ev_eq (a := x) (b := y)).1 e
    rw [tl_ne h1, Bool.eq_false_iff.2 h2]; rfl
abbrev Ze (b : Nat) : Nat × Obj := (b, .cells #[.int .i64 0, .string ⟨#[]⟩, .string ⟨#[]⟩, .int .u16 0, .int .i64 0, .int .i64 0, .string ⟨#[]⟩, .string ⟨#[]⟩, .int .i64 0, .int .i64 0] 65 (0, 0))
theorem swp {p q : Nat × Obj} {B T : SH} (h : Sub (q :: p :: B) T) : Sub (p :: q :: B) T := h.perm (List.Perm.swap _ _ _)
theorem two_leaf {ba bb b10 b11 : Nat} {a b x y : Ev} {B : SH} (hx : MadeE x) (hy : MadeE y) (ha : 0 ≤ a.ty ∧ a.ty < 65536) (hb : 0 ≤ b.ty ∧ b.ty < 65536) {I : IMem} (g : GL I) {S : SH} (hB : Sub [Te ba a, Te bb b] B) (hs : Sub (Ze b10 :: Ze b11 :: B) S) :
    StP S ⟨b10, 0, none⟩ [.int .i64 x.tm, .string x.cl, .string x.na, .int .u16 x.ty, .int .i64 x.zn, .int .i64 x.tr.1, .string x.tr.2.1, .string x.tr.2.2.1, .int .i64 x.tr.2.2.2, .int .i64 x.ac] fun S1 =>
    StP S1 ⟨b11, 0, none⟩ [.int .i64 y.tm, .string y.cl, .string y.na, .int .u16 y.ty, .int .i64 y.zn, .int .i64 y.tr.1, .string y.tr.2.1, .string y.tr.2.2.1, .int .i64 y.tr.2.2.2, .int .i64 y.ac] fun S2 =>
    bolterlaw25_EventTwo_b3 (fun v _ _ => v = .bool true) ⟨ba, 0, none⟩ ⟨bb, 0, none⟩ ⟨b10, 0, none⟩ ⟨b11, 0, none⟩ I S2 := by
  refine StP.of_sub hs (StP.ev (x := e0) (e := x) fun T1 h1 => ?_)
  refine StP.of_sub (swp h1) (StP.ev (x := e0) (e := y) fun T2 h2 => ?_)
  have h3 : Sub (Te b10 x :: Te b11 y :: B) T2 := swp h2
  unfold bolterlaw25_EventTwo_b3
  have cx := evC (I := I) h3
  refine ⟨_, cx.c0, _, cx.c1, _, cx.c2, _, cx.c3, _, cx.c4, _, cx.c5, _, cx.c6, _, cx.c7, _, cx.c8, _, cx.c9, (EEnc_runs x g _).mono ?_⟩
  rintro v J1 T3 hle1 henc
  obtain ⟨p1, n1, d1, rfl, hy1, hs1⟩ := henc.open_
  have cy := evC (I := J1) ((h3.drop).trans hs1)
  refine ⟨_, _, _, _, rfl, _, cy.c0, _, cy.c1, _, cy.c2, _, cy.c3, _, cy.c4, _, cy.c5, _, cy.c6, _, cy.c7, _, cy.c8, _, cy.c9, (EEnc_runs y (g.le hle1) _).mono ?_⟩
  rintro v J2 T4 hle2 henc
  obtain ⟨p2, n2, d2, rfl, hy2, hs2⟩ := henc.open_
  have hB4 := hB.trans ((h3.drop.drop).trans (hs1.trans hs2))
  have ca := evC (I := J2) hB4
  have g2 := (g.le hle1).le hle2
  refine ⟨_, _, _, _, rfl, _, ca.c0, _, ca.c1, _, ca.c2, _, ca.c3, _, ca.c4, _, ca.c5, _, ca.c6, _, ca.c7, _, ca.c8, _, ca.c9, (EEnc_runs a g2 _).mono ?_⟩
  rintro v J3 T5 hle3 henc
  obtain ⟨p3, n3, d3, rfl, hy3, hs3⟩ := henc.open_
  have cb := evC (I := J3) ((hB4.drop).trans hs3)
  refine ⟨_, _, _, _, rfl, _, cb.c0, _, cb.c1, _, cb.c2, _, cb.c3, _, cb.c4, _, cb.c5, _, cb.c6, _, cb.c7, _, cb.c8, _, cb.c9, (EEnc_runs b (g2.le hle3) _).mono ?_⟩
  rintro v J4 T6 hle4 henc
  obtain ⟨p4, n4, d4, rfl, hy4, hs4⟩ := henc.open_
  refine ⟨_, _, _, _, rfl, ?_⟩
  unfold bolterlaw25_EventTwo_b4
  have mx := mayE_iff.2 hx.may
  have my := mayE_iff.2 hy.may
  have h6 := h3.trans (((hs1.trans hs2).trans hs3).trans hs4)
  have cx := evC (I := J4) h6
  have cy := evC (I := J4) h6.drop
  have q1 := BytesAt.sub (hy1 mx J4) ((hs2.trans hs3).trans hs4)
  have q2 := BytesAt.sub (hy2 my J4) (hs3.trans hs4)
  rw [mx, my]
  refine bcase_t rfl (bcase_t rfl ⟨_, q1, _, q2, _, cx.c0, _, cx.c1, _, cx.c2, _, cx.c3, _, cx.c4, _, cx.c5, _, cx.c6, _, cx.c7, _, cx.c8, _, cx.c9, _, cy.c0, _, cy.c1, _, cy.c2, _, cy.c3, _, cy.c4, _, cy.c5, _, cy.c6, _, cy.c7, _, cy.c8, _, cy.c9, bcase_t (two_eq hx hy) ?_⟩)
  unfold bolterlaw25_EventTwo_b5
  refine bcase_of (fun _ => rfl) (fun k3 => bcase_of (fun _ => rfl) (fun k4 => ?_))
  have k3' : mayEb a = true := by simpa using k3
  have k4' : mayEb b = true := by simpa using k4
  have q3 := BytesAt.sub (hy3 k3' J4) hs4
  have q4 := hy4 k4' J4
  have hB6 := hB.trans h6.drop.drop
  have ca := evC (I := J4) hB6
  have cb := evC (I := J4) hB6.drop
  refine ⟨_, q3, _, q4, _, ca.c0, _, ca.c1, _, ca.c2, _, ca.c3, _, ca.c4, _, ca.c5, _, ca.c6, _, ca.c7, _, ca.c8, _, ca.c9, _, cb.c0, _, cb.c1, _, cb.c2, _, cb.c3, _, cb.c4, _, cb.c5, _, cb.c6, _, cb.c7, _, cb.c8, _, cb.c9, ?_⟩
  rw [two_eq ⟨mayE_iff.1 k3', ha.1, ha.2⟩ ⟨mayE_iff.1 k4', hb.1, hb.2⟩]
theorem setS {b o : Nat} {L T : SH} {s s' : Sd} {v : Value} {K : SH → Prop} (hs : Sub (Ts b s :: L) T) (hk : o < 10) (hv : one v = true) (he : List.take o (elSd s) ++ [v] ++ List.drop (o + 1) (elSd s) = elSd s') (h : ∀ T', Sub (Ts b s' :: L) T' → K T') :
    StP T ⟨b, o, none⟩ [v] K := by
  refine StP.of_sub hs (StP.list (o := o) (L := elSd s) (by show o + 1 ≤ 10; omega) (by simp [hv]) ?_)
  rw [List.length_singleton, he]
  exact h
theorem StP.sd {S : SH} {b : Nat} {x s : Sd} {K : SH → Prop} (h : K (Ts b s :: S)) : StP (Ts b x :: S) ⟨b, 0, none⟩ (elSd s) K := by
  refine StP.list (o := 0) (L := elSd x) (Nat.le_of_eq rfl) rfl ?_
  rw [show List.take 0 (elSd x) ++ elSd s ++ List.drop (0 + (elSd s).length) (elSd x) = elSd s by rfl]
  exact h
def s0 : Sd := ⟨0, none, 0, 0, none, 0, 0, 0, 0, 0, none, 0, 0, false, 0, 0⟩
theorem two_b2 {ba bb b6 b9 : Nat} {a b : Ev} {s w : Sd} {I : IMem} (g : GL I) {S : SH} (hs : SdP I s) (hw : SdP I w) (ha : 0 ≤ a.ty ∧ a.ty < 65536) (hb : 0 ≤ b.ty ∧ b.ty < 65536) (hB : Sub [Te ba a, Te bb b] S) (h6 : Sub [Ts b6 s] S) (h9 : Sub [Ts b9 w] S) :
    bolterlaw25_EventTwo_b2 (fun v _ _ => v = .bool true) ⟨ba, 0, none⟩ ⟨bb, 0, none⟩ ⟨b6, 0, none⟩ ⟨b9, 0, none⟩ I S := by
  unfold bolterlaw25_EventTwo_b2
  have c := sdC (I := I) h6
  have d := sdC (I := I) h9
  have runC : ∀ (J : IMem) (S : SH), I.le J → Runs Tryd.prog 34 #[.agg #[.int .u32 s.wn, .slice s.a1 s.n1 s.c1, .slice s.a2 s.n2 s.c2, .int .u16 s.kd, .int .u8 s.zn, .int .u8 s.ck, .slice s.a3 s.n3 s.c3, .bool s.six, .int .u8 s.bits, .int .u8 s.ac]] J S fun v _ T => (∃ e, v = vE e ∧ MadeE e) ∧ Sub S T := fun J S hle => SMake_runs (hs.le hle) S
  have runD : ∀ (J : IMem) (S : SH), I.le J → Runs Tryd.prog 34 #[.agg #[.int .u32 w.wn, .slice w.a1 w.n1 w.c1, .slice w.a2 w.n2 w.c2, .int .u16 w.kd, .int .u8 w.zn, .int .u8 w.ck, .slice w.a3 w.n3 w.c3, .bool w.six, .int .u8 w.bits, .int .u8 w.ac]] J S fun v _ T => (∃ e, v = vE e ∧ MadeE e) ∧ Sub S T := fun J S hle => SMake_runs (hw.le hle) S
  have K0 := Keep.refl I S
  refine ⟨S, K0, _, c.c0, _, _, _, c.c1, _, _, _, c.c2, _, c.c3, _, c.c4, _, c.c5, _, _, _, c.c6, _, c.c7, _, c.c8, _, c.c9, _, d.c0, _, _, _, d.c1, _, _, _, d.c2, _, d.c3, _, d.c4, _, d.c5, _, _, _, d.c6, _, d.c7, _, d.c8, _, d.c9, ?_⟩
  have hle := IMem.le.refl I
  refine ⟨(runC _ _ hle).mono ?_, fun b5 => ⟨((Sub.refl _).skip _).keep hle, (runC _ _ hle).mono ?_, fun b6 => ⟨(((Sub.refl _).skip _).skip _).keep hle, (runC _ _ hle).mono ?_⟩⟩, fun b6 => ⟨((Sub.refl _).skip _).keep hle, (runC _ _ hle).mono ?_, fun b5 => ⟨(((Sub.refl _).skip _).skip _).keep hle, (runC _ _ hle).mono ?_⟩⟩⟩
  · rintro v J1 T1 hle1 ⟨⟨t, rfl, ht⟩, hs1⟩
    refine ⟨_, _, _, _, _, _, _, _, _, _, rfl, hs1.keep hle1, (runD _ _ hle1).mono ?_, fun b5 => ⟨(hs1.skip _).keep hle1, (runD _ _ hle1).mono ?_, fun b6 => ⟨((hs1.skip _).skip _).keep hle1, (runD _ _ hle1).mono ?_⟩⟩, fun b6 => ⟨(hs1.skip _).keep hle1, (runD _ _ hle1).mono ?_, fun b5 => ⟨((hs1.skip _).skip _).keep hle1, (runD _ _ hle1).mono ?_⟩⟩⟩
    · rintro v J2 T2 hle2 ⟨⟨u, rfl, hu⟩, hs2⟩
      have g2 := (g.le hle1).le hle2
      have h := hs1.trans hs2
      exact ⟨_, _, _, _, _, _, _, _, _, _, rfl, fun b5 => ⟨(h.skip _).keep (hle1.trans hle2), fun b6 => ⟨((h.skip _).skip _).keep (hle1.trans hle2), two_leaf ht hu ha hb g2 hB (swp ((h.cons _).cons _))⟩⟩, fun b6 => ⟨(h.skip _).keep (hle1.trans hle2), fun b5 => ⟨((h.skip _).skip _).keep (hle1.trans hle2), two_leaf ht hu ha hb g2 hB ((h.cons _).cons _)⟩⟩⟩
    · rintro v J2 T2 hle2 ⟨⟨u, rfl, hu⟩, hs2⟩
      exact ⟨_, _, _, _, _, _, _, _, _, _, rfl, fun b6 => ⟨((hs1.trans hs2.drop).skip _).keep (hle1.trans hle2), two_leaf ht hu ha hb ((g.le hle1).le hle2) hB (swp (((hs1.cons _).trans hs2).cons _))⟩⟩
    · rintro v J2 T2 hle2 ⟨⟨u, rfl, hu⟩, hs2⟩
      exact ⟨_, _, _, _, _, _, _, _, _, _, rfl, two_leaf ht hu ha hb ((g.le hle1).le hle2) hB (swp (((hs1.cons _).cons _).trans hs2))⟩
    · rintro v J2 T2 hle2 ⟨⟨u, rfl, hu⟩, hs2⟩
      exact ⟨_, _, _, _, _, _, _, _, _, _, rfl, fun b5 => ⟨((hs1.trans hs2.drop).skip _).keep (hle1.trans hle2), two_leaf ht hu ha hb ((g.le hle1).le hle2) hB (((hs1.cons _).trans hs2).cons _)⟩⟩
    · rintro v J2 T2 hle2 ⟨⟨u, rfl, hu⟩, hs2⟩
      exact ⟨_, _, _, _, _, _, _, _, _, _, rfl, two_leaf ht hu ha hb ((g.le hle1).le hle2) hB (((hs1.cons _).cons _).trans hs2)⟩
  · rintro v J1 T1 hle1 ⟨⟨t, rfl, ht⟩, hs1⟩
    refine ⟨_, _, _, _, _, _, _, _, _, _, rfl, hs1.drop.keep hle1, (runD _ _ hle1).mono ?_, fun b6 => ⟨(hs1.drop.skip _).keep hle1, (runD _ _ hle1).mono ?_⟩⟩
    · rintro v J2 T2 hle2 ⟨⟨u, rfl, hu⟩, hs2⟩
      exact ⟨_, _, _, _, _, _, _, _, _, _, rfl, fun b6 => ⟨((hs1.drop.trans hs2).skip _).keep (hle1.trans hle2), two_leaf ht hu ha hb ((g.le hle1).le hle2) hB (swp ((hs1.trans hs2).cons _))⟩⟩
    · rintro v J2 T2 hle2 ⟨⟨u, rfl, hu⟩, hs2⟩
      exact ⟨_, _, _, _, _, _, _, _, _, _, rfl, two_leaf ht hu ha hb ((g.le hle1).le hle2) hB (swp ((hs1.cons _).trans hs2))⟩
  · rintro v J1 T1 hle1 ⟨⟨t, rfl, ht⟩, hs1⟩
    refine ⟨_, _, _, _, _, _, _, _, _, _, rfl, hs1.drop.drop.keep hle1, (runD _ _ hle1).mono ?_⟩
    rintro v J2 T2 hle2 ⟨⟨u, rfl, hu⟩, hs2⟩
    exact ⟨_, _, _, _, _, _, _, _, _, _, rfl, two_leaf ht hu ha hb ((g.le hle1).le hle2) hB (swp (hs1.trans hs2))⟩
  · rintro v J1 T1 hle1 ⟨⟨t, rfl, ht⟩, hs1⟩
    refine ⟨_, _, _, _, _, _, _, _, _, _, rfl, hs1.drop.keep hle1, (runD _ _ hle1).mono ?_, fun b5 => ⟨(hs1.drop.skip _).keep hle1, (runD _ _ hle1).mono ?_⟩⟩
    · rintro v J2 T2 hle2 ⟨⟨u, rfl, hu⟩, hs2⟩
      exact ⟨_, _, _, _, _, _, _, _, _, _, rfl, fun b5 => ⟨((hs1.drop.trans hs2).skip _).keep (hle1.trans hle2), two_leaf ht hu ha hb ((g.le hle1).le hle2) hB ((hs1.trans hs2).cons _)⟩⟩
    · rintro v J2 T2 hle2 ⟨⟨u, rfl, hu⟩, hs2⟩
      exact ⟨_, _, _, _, _, _, _, _, _, _, rfl, two_leaf ht hu ha hb ((g.le hle1).le hle2) hB ((hs1.cons _).trans hs2)⟩
  · rintro v J1 T1 hle1 ⟨⟨t, rfl, ht⟩, hs1⟩
    refine ⟨_, _, _, _, _, _, _, _, _, _, rfl, hs1.drop.drop.keep hle1, (runD _ _ hle1).mono ?_⟩
    rintro v J2 T2 hle2 ⟨⟨u, rfl, hu⟩, hs2⟩
    exact ⟨_, _, _, _, _, _, _, _, _, _, rfl, two_leaf ht hu ha hb ((g.le hle1).le hle2) hB (hs1.trans hs2)⟩
abbrev TagT := Int × ByteArray × ByteArray × Int
theorem EventTwo_row (W : World) (g : GL (imW W)) (a0 : Int) (a1 a2 : ByteArray) (a3 a4 a5 : Int) (a6 a7 : ByteArray) (a8 a9 : Int) (b0 : Int) (b1 b2 : ByteArray) (b3 b4 b5 : Int) (b6 b7 : ByteArray) (b8 b9 : Int)
    (wn : Int) (q1 : Option Addr) (n1 c1 : Nat) (q2 : Option Addr) (n2 c2 : Nat) (kd zn ck : Int) (q3 : Option Addr) (n3 c3 : Nat) (six : Bool) (bits ac : Int) (ok : Int) (q4 : Option Addr) (n4 c4 : Nat) (osix : Bool) (obits : Int)
    {r1 r2 r3 r4 r5 r6 r7 r8 : Prop} (w0 : r1 ∧ r2 ∧ r3 ∧ (Lit.int .u16 a3).wf = true ∧ r4) (w1 : r5 ∧ r6 ∧ r7 ∧ (Lit.int .u16 b3).wf = true ∧ r8)
    (w2 : SeedW W (wn, (q1, n1, c1), (q2, n2, c2), kd, zn, (ck, (q3, n3, c3), six, bits), ac)) (w3 : CodeW' W (ok, (q4, n4, c4), osix, obits)) :
    Runs Tryd.prog 11 #[.agg #[.int .i64 a0, .string a1, .string a2, .int .u16 a3, .int .i64 a4, .int .i64 a5, .string a6, .string a7, .int .i64 a8, .int .i64 a9], .agg #[.int .i64 b0, .string b1, .string b2, .int .u16 b3, .int .i64 b4, .int .i64 b5, .string b6, .string b7, .int .i64 b8, .int .i64 b9],
      .agg #[.int .u32 wn, .slice q1 n1 c1, .slice q2 n2 c2, .int .u16 kd, .int .u8 zn, .int .u8 ck, .slice q3 n3 c3, .bool six, .int .u8 bits, .int .u8 ac], .agg #[.int .u8 ok, .slice q4 n4 c4, .bool osix, .int .u8 obits]] (imW W) [] fun v _ _ => v = .bool true := by
  generalize hea : (⟨a0, a1, a2, a3, a4, (a5, a6, a7, a8), a9⟩ : Ev) = a
  generalize heb : (⟨b0, b1, b2, b3, b4, (b5, b6, b7, b8), b9⟩ : Ev) = b
  generalize hes : (⟨wn, q1, n1, c1, q2, n2, c2, kd, zn, ck, q3, n3, c3, six, bits, ac⟩ : Sd) = s
  have hP : SdP (imW W) s := by rw [← hes]; exact sdP w2
  have ha : 0 ≤ a.ty ∧ a.ty < 65536 := by rw [← hea]; exact u16_wf w0.2.2.2.1
  have hb : 0 ≤ b.ty ∧ b.ty < 65536 := by rw [← heb]; exact u16_wf w1.2.2.2.1
  obtain ⟨o1, o2, _, o3⟩ := w3
  have hO := bytP o2
  refine bolterlaw25_EventTwo_fn _ _ _ _ _ _ _ _ _ _ _ _ _ _ _ _ _ _ _ _ _ _ _ _ _ _ _ _ _ _ _ _ _ _ _ _ _ _ _ _ _ _ _ _ _ ?_
  unfold bolterlaw25_EventTwo
  intro x4 x5 x6 x7
  have hT4 : ((x4, Obj.cells #[.int .i64 a0, .string a1, .string a2, .int .u16 a3, .int .i64 a4, .int .i64 a5, .string a6, .string a7, .int .i64 a8, .int .i64 a9] 65) : Nat × Obj) = Te x4 a := by rw [← hea]; rfl
  have hT5 : ((x5, Obj.cells #[.int .i64 b0, .string b1, .string b2, .int .u16 b3, .int .i64 b4, .int .i64 b5, .string b6, .string b7, .int .i64 b8, .int .i64 b9] 65) : Nat × Obj) = Te x5 b := by rw [← heb]; rfl
  have hT6 : ((x6, Obj.cells #[.int .u32 wn, .slice q1 n1 c1, .slice q2 n2 c2, .int .u16 kd, .int .u8 zn, .int .u8 ck, .slice q3 n3 c3, .bool six, .int .u8 bits, .int .u8 ac] 72) : Nat × Obj) = Ts x6 s := by rw [← hes]; rfl
  rw [hT4, hT5, hT6]
  refine (Eawake_runs g _).mono ?_
  rintro v J T hle ⟨rfl, rfl⟩
  refine ⟨_, rfl, bcase_f rfl ?_⟩
  have c := sdC (I := J) (b := x6) (s := s) (S := [Te x5 b, Te x4 a]) ((Sub.refl _).skip (x7, .cells #[.int .u8 ok, .slice q4 n4 c4, .bool osix, .int .u8 obits] 49 (0, 0)))
  refine ⟨_, c.c0, _, _, _, c.c1, _, _, _, c.c2, _, c.c3, _, c.c4, _, c.c5, _, _, _, c.c6, _, c.c7, _, c.c8, _, c.c9, fun x9 => StP.sd (x := s0) (s := s) ?_⟩
  unfold bolterlaw25_EventTwo_b1
  generalize hF : ((x7, Obj.cells #[.int .u8 ok, .slice q4 n4 c4, .bool osix, .int .u8 obits] 49) :: Ts x6 s :: Te x5 b :: [Te x4 a] : SH) = F
  have kp : ∀ {s : Sd} {T : SH}, Sub (Ts x9 s :: F) T → Keep J F J T := fun h => h.drop.keep (IMem.le.refl _)
  refine ⟨F, kp (Sub.refl _), _, by rw [← hF]; exact Cell.at0 rfl, _, _, _, by rw [← hF, add_mk]; exact Cell.at0 rfl, _, by rw [← hF, add_mk]; exact Cell.at0 rfl, ?_⟩
  rw [add_mk, add_mk, add_mk]
  refine setS (s := s) (s' := { s with ck := ok }) (L := F) (Sub.refl _) (by decide) rfl rfl fun T1 h1 => ⟨kp h1, ?_⟩
  refine setS (s := { s with ck := ok }) (s' := { s with ck := ok, a3 := q4, n3 := n4, c3 := c4 }) (L := F) h1 (by decide) rfl rfl fun T2 h2 => ⟨kp h2, ?_⟩
  refine setS (s := { s with ck := ok, a3 := q4, n3 := n4, c3 := c4 }) (s' := { s with ck := ok, a3 := q4, n3 := n4, c3 := c4, bits := obits }) (L := F) h2 (by decide) rfl rfl fun T3 h3 => ?_
  have hF3 : Sub F T3 := h3.drop
  have e5 : Sub [Te x4 a, Te x5 b] F := by rw [← hF]; exact Sub.trans ⟨[], by rw [List.append_nil]; exact List.Perm.swap _ _ _⟩ (((Sub.refl _).skip _).skip _)
  have e6 : Sub [Ts x6 s] F := by rw [← hF]; exact Sub.trans ⟨[Te x5 b, Te x4 a], List.Perm.refl _⟩ ((Sub.refl _).skip _)
  refine two_b2 (g.le hle) (hP.le hle) ?_ ha hb (e5.trans hF3) (e6.trans hF3) (Sub.trans ⟨F, List.Perm.refl _⟩ h3)
  have hq := hP.le hle
  exact ⟨hq.wn, hq.cl, hq.na, hO.le hle, hq.kd, hq.zn, u8_wf o1, u8_wf o3, hq.ac⟩
end Go.Proofs.YtkagfmlaolmdnaaDoor
