/- The rows on owners: prefixes; triggers apart. -/
import Derived.Test.YtkagfmlaolmdnaaDoorOw21
namespace Go.Proofs.YtkagfmlaolmdnaaDoor
open Go.Px
set_option linter.unusedVariables false
set_option linter.unusedSimpArgs false
set_option maxRecDepth 8000

theorem pfC {I : IMem} {S T : SH} {b : Nat} {a : ByteArray} {n : Int} (hs : Sub ((b, .cells #[.string a, .int .i64 n] 24 (0, 0)) :: S) T) : Cell I T ⟨b, 0, none⟩ (.string a) ∧ Cell I T ((⟨b, 0, none⟩ : Addr).add 1) (.int .i64 n) :=
  ⟨hs.cell' (Cell.at0 rfl), by rw [add_mk]; exact hs.cell' (Cell.at0 rfl)⟩
theorem StP.pf {S : SH} {b : Nat} {x a : ByteArray} {y n : Int} {K : SH → Prop} (h : K ((b, .cells #[.string a, .int .i64 n] 24 (0, 0)) :: S)) :
    StP ((b, .cells #[.string x, .int .i64 y] 24 (0, 0)) :: S) ⟨b, 0, none⟩ [.string a, .int .i64 n] K := StP.at0 (Nat.le_refl 2) rfl h
theorem lab2 {a : ByteArray} {n : Int} (h : mayP a n) (I : IMem) (S : SH) : Runs Tryd.prog 19 #[.agg #[.string a, .int .i64 n]] I S fun v _ T => ∃ own, OwnS v (pfxL a n) own ∧ Sub (own ++ S) T := by
  have hm := h
  obtain ⟨⟨h1, h2, h3⟩, _⟩ := h
  have e : n = ((n.toNat : Nat) : Int) := by omega
  rw [pfxL_may hm]
  generalize hk : n.toNat = k at e
  subst e
  rw [Int.toNat_natCast] at hk
  exact labels_runs h1 (by omega) I S
theorem ba_self (a : ByteArray) : (a == a) = true := ba_beq.2 rfl
theorem ownS_slice {v : Value} {xs : List ByteArray} {own : SH} (h : OwnS v xs own) : ∃ p c, v = .slice p xs.length c := OwnR.slice h
theorem Adr_own {a : ByteArray} {n : Int} (hm : mayP a n) {I : IMem} (g : GL I) {p : Option Addr} {c : Nat} {own S : SH} (ho : OwnS (.slice p (pfxL a n).length c) (pfxL a n) own) (hs : Sub own S) :
    Runs Tryd.prog 17 #[.slice p (pfxL a n).length c] I S fun v _ T => v = .tuple #[.agg #[.string a, .int .i64 n], .bool true] ∧ Sub S T := by
  have hl := pfx_len (a := a) (n := n)
  refine (Address_runs g ((OwnS.row ho).sub hs) (by omega) (OwnS.cap ho) (fun l h => by have := (pfx_lab hm l h).2; omega)).mono ?_
  rintro v J T hle ⟨h, hT⟩
  have e := AdR_val h
  rw [adrF_pfx hm] at e
  exact ⟨e, hT⟩
theorem OwnerPrefix_row (W : World) (g : GL (imW W)) (six : Bool) (a : Option Addr) (len cap : Nat) (bits : Int) (p : ByteArray) (n : Int) (w1 : U8W W (a, len, cap)) (z1 : len ≤ 140737488355328) (w2 : (Lit.int .u8 bits).wf = true) {q : Prop} (_ : q) :
    Runs Tryd.prog 3 #[.bool six, .slice a len cap, .int .u8 bits, .agg #[.string p, .int .i64 n]] (imW W) [] fun v _ _ => v = .bool true := by
  obtain ⟨ns, rfl, hx, hp⟩ := u8_open w1
  refine bolterlaw13_OwnerPrefix_fn _ _ _ _ _ _ _ _ _ _ ?_
  unfold bolterlaw13_OwnerPrefix
  intro b7
  refine (awake_runs g _).mono ?_
  rintro v J T hle ⟨rfl, rfl⟩
  refine ⟨_, rfl, bcase_f rfl ((Trig_runs six (rowUp hx hle) (by omega) hp (by decide) (u8_wf w2)).mono ?_)⟩
  rintro v J1 T1 hle1 ⟨⟨t, rfl, hk, hg⟩, hs1⟩
  have hP : GoodP t := by
    rcases hg with h | h
    · exact h
    · have := h.kind
      rw [show (0 : Int).tmod 7 = 0 by decide] at hk
      omega
  have hm := hP.may
  refine ⟨_, _, _, _, rfl, fun b9 => StP.pf ?_⟩
  obtain ⟨c0, c1⟩ := pfC (I := J1) (Sub.refl ((b9, .cells #[.string t.2.2.1, .int .i64 t.2.2.2] 24 (0, 0)) :: T1))
  refine ⟨_, c0, _, c1, (Prefix_runs ((g.le hle).le hle1) _ _ _).mono ?_⟩
  rintro v J2 T2 hle2 ⟨own, ho, hs2⟩
  obtain ⟨pp, d, rfl⟩ := ownS_slice ho
  refine ⟨_, _, _, rfl, (Adr_own hm (((g.le hle).le hle1).le hle2) ho hs2.left).mono ?_⟩
  rintro v J3 T3 hle3 ⟨rfl, hs3⟩
  refine ⟨_, _, _, rfl, fun b11 => StP.pf ?_⟩
  unfold bolterlaw13_OwnerPrefix_b1
  have hs4 : Sub (own ++ (b9, .cells #[.string t.2.2.1, .int .i64 t.2.2.2] 24 (0, 0)) :: T1) ((b11, .cells #[.string t.2.2.1, .int .i64 t.2.2.2] 24 (0, 0)) :: T3) := (hs2.trans hs3).skip _
  obtain ⟨c0, c1⟩ := pfC (I := J3) hs4.right
  refine ⟨_, c0, _, c1, (lab2 hm _ _).mono ?_⟩
  rintro v J4 T4 hle4 ⟨own2, ho2, hs5⟩
  obtain ⟨p2, d2, rfl⟩ := ownS_slice ho2
  have hl := pfx_len (a := t.2.2.1) (n := t.2.2.2)
  refine ⟨_, _, _, rfl, (same_runs ((OwnS.row ho).sub (hs4.left.trans hs5.right)) ((OwnS.row ho2).sub hs5.left) (by omega)).mono ?_⟩
  rintro v J5 T hle5 ⟨rfl, rfl⟩
  rw [decide_eq_true rfl]
  refine ⟨_, rfl, bcase_f rfl (bcase_f rfl ?_)⟩
  have hs6 := hs5.right
  obtain ⟨c0, c1⟩ := pfC (I := J5) (hs4.right.trans hs6)
  obtain ⟨d0, d1⟩ := pfC (I := J5) hs6
  refine ⟨_, d0, _, d1, _, c0, _, c1, ?_⟩
  unfold bolterlaw13_OwnerPrefix_b2
  refine bcase_f (by simp only [beq_self_eq_true, Bool.and_true, ba_self]; rfl) ?_
  unfold bolterlaw13_OwnerPrefix_b3
  have hs7 : Sub ((b7, .cells #[.string p, .int .i64 n] 24 (0, 0)) :: []) T := hs1.trans (hs4.right.drop.trans hs6)
  obtain ⟨e0, e1⟩ := pfC (I := J5) hs7
  refine ⟨_, e0, _, e1, (PMay_runs p n _ _).mono ?_⟩
  rintro v J6 T' hle6 ⟨rfl, rfl⟩
  refine ⟨_, rfl, bcase_of (fun h => rfl) (fun h => ?_)⟩
  obtain ⟨e0, e1⟩ := pfC (I := J6) hs7
  refine ⟨_, e0, _, e1, (Prefix_runs ((((((g.le hle).le hle1).le hle2).le hle3).le hle4 |>.le hle5).le hle6) _ _ _).mono ?_⟩
  rintro v J7 T7 hle7 ⟨own3, ho3, hs8⟩
  rw [pfxL, if_neg (by rw [h]; decide)] at ho3
  obtain ⟨p3, d3, rfl⟩ := ownS_slice ho3
  exact ⟨_, _, _, rfl, rfl⟩

/-! ### OwnerApart -/
theorem CTrig_runs {ns : List Int} {a : Option Addr} {c : Nat} {kind bits : Int} (six : Bool) {I : IMem} {S : SH} (hx : RowIn I [] a ns.length 1 elI8 ns) (hl : ns.length ≤ 9223372036854775807) (hp : ∀ x ∈ ns, 0 ≤ x ∧ x ≤ 255) (hk : 0 ≤ kind ∧ kind ≤ 255) (hb : 0 ≤ bits ∧ bits ≤ 255) :
    Runs Tryd.prog 24 #[.agg #[.int .u8 kind, .slice a ns.length c, .bool six, .int .u8 bits]] I S fun v _ T => (∃ t : Tg, v = vT t ∧ (GoodP t ∨ GoodN t)) ∧ Sub S T := by
  refine bolterlaw13_Code_Trigger_fn _ _ _ _ _ _ _ _ _ ?_
  unfold bolterlaw13_Code_Trigger
  intro b1 b2
  refine ⟨_, (Cell.at0 rfl).tl, _, _, _, (Cell.at0 rfl).tl, _, (Cell.at0 rfl).tl, _, (Cell.at0 rfl).tl, (Trig_runs six (rowUp hx (IMem.le.refl I)) hl hp hk hb).mono ?_⟩
  rintro v J T hle ⟨⟨t, rfl, _, hg⟩, hs⟩
  exact ⟨_, _, _, _, rfl, setT (K := fun v T => (∃ t : Tg, v = vT t ∧ (GoodP t ∨ GoodN t)) ∧ Sub S T) (x := t0) hs fun T' hT => ⟨⟨t, rfl, hg⟩, hT.drop⟩⟩
abbrev Zt (b : Nat) : Nat × Obj := (b, .cells #[.int .i64 0, .string ⟨#[]⟩, .string ⟨#[]⟩, .int .i64 0] 29 (0, 0))
theorem sA {p q : Nat × Obj} {T : SH} : Sub [p, q] (p :: q :: T) := ⟨T, List.Perm.refl _⟩
theorem sB {p q : Nat × Obj} {T : SH} : Sub [p, q] (q :: p :: T) := ⟨T, List.Perm.swap _ _ _⟩
theorem sC {p q : Nat × Obj} {L T : SH} (h : Sub (p :: L) T) : Sub [p, q] (q :: T) := sB.trans (h.cons q)
theorem sD {p q : Nat × Obj} {L T : SH} (h : Sub (q :: L) T) : Sub [p, q] (p :: T) := sA.trans (h.cons p)
theorem apart_eq {t u : Tg} (ht : GoodP t ∨ GoodN t) (hu : GoodP u ∨ GoodN u) : (((nm (encU t)).toList == (nm (encU u)).toList) == (((t.1 : Int) == u.1) && ((t.2.1 == u.2.1) && ((((t.2.2.1 == u.2.2.1) && ((t.2.2.2 == u.2.2.2) && true)) && true))))) = true := by
  by_cases e : t = u
  · rw [e, tl_eq, (tg_eq).2 rfl]; rfl
  · have h1 : nm (encU t) ≠ nm (encU u) := fun h => by
      have := enc_dec (enc_good ht).1
      rw [h, enc_dec (enc_good hu).1] at this
      exact e (Option.some.inj this).symm
    have h2 := mt (tg_eq (a := t) (b := u)).1 e
    rw [tl_ne h1, Bool.eq_false_iff.2 h2]; rfl
theorem apart_leaf {b5 b6 : Nat} {t u : Tg} (ht : GoodP t ∨ GoodN t) (hu : GoodP u ∨ GoodN u) {I : IMem} (g : GL I) {S : SH} (hs : Sub [Zt b5, Zt b6] S) :
    StP S ⟨b5, 0, none⟩ [.int .i64 t.1, .string t.2.1, .string t.2.2.1, .int .i64 t.2.2.2] fun S1 => StP S1 ⟨b6, 0, none⟩ [.int .i64 u.1, .string u.2.1, .string u.2.2.1, .int .i64 u.2.2.2] fun S2 => bolterlaw13_OwnerApart_b2 (fun v _ _ => v = .bool true) ⟨b5, 0, none⟩ ⟨b6, 0, none⟩ I S2 := by
  refine StP.of_sub hs (StP.tg (x := t0) (t := t) fun T1 h1 => ?_)
  refine StP.of_sub (h1.perm (List.Perm.swap _ _ _)) (StP.tg (x := t0) (t := u) fun T2 h2 => ?_)
  unfold bolterlaw13_OwnerApart_b2
  have h3 := h2.perm (List.Perm.swap _ _ _)
  obtain ⟨c0, c1, c2, c3⟩ := tgCell (I := I) h3
  refine ⟨_, c0, _, c1, _, c2, _, c3, (Encode_runs t g _).mono ?_⟩
  rintro v J T hle ⟨rfl, rfl⟩
  rw [(enc_good ht).1]
  obtain ⟨d0, d1, d2, d3⟩ := tgCell (I := J) h2
  refine ⟨_, _, rfl, _, d0, _, d1, _, d2, _, d3, (Encode_runs u (g.le hle) _).mono ?_⟩
  rintro v J2 T hle2 ⟨rfl, rfl⟩
  rw [(enc_good hu).1]
  obtain ⟨c0, c1, c2, c3⟩ := tgCell (I := J2) h3
  obtain ⟨d0, d1, d2, d3⟩ := tgCell (I := J2) h2
  refine ⟨_, _, rfl, bcase_t rfl (bcase_t rfl ⟨_, c0, _, c1, _, c2, _, c3, _, d0, _, d1, _, d2, _, d3, ?_⟩)⟩
  unfold bolterlaw13_OwnerApart_b3
  rw [apart_eq ht hu]
def CodeW (W : World) (y : Int × (Option Addr × Nat × Nat) × Bool × Int) : Prop := (Lit.int .u8 y.1).wf = true ∧ U8W W y.2.1 ∧ True ∧ (Lit.int .u8 y.2.2.2).wf = true
theorem OwnerApart_row (W : World) (g : GL (imW W)) (k : Int) (a : Option Addr) (len cap : Nat) (six : Bool) (bits : Int) (k2 : Int) (a2 : Option Addr) (len2 cap2 : Nat) (six2 : Bool) (bits2 : Int)
    (w0 : CodeW W (k, (a, len, cap), six, bits)) (w1 : CodeW W (k2, (a2, len2, cap2), six2, bits2)) :
    Runs Tryd.prog 7 #[.agg #[.int .u8 k, .slice a len cap, .bool six, .int .u8 bits], .agg #[.int .u8 k2, .slice a2 len2 cap2, .bool six2, .int .u8 bits2]] (imW W) [] fun v _ _ => v = .bool true := by
  obtain ⟨hk, hw, _, hb⟩ := w0
  obtain ⟨hk2, hw2, _, hb2⟩ := w1
  have hmx : len ≤ 9223372036854775807 ∧ len2 ≤ 9223372036854775807 := ⟨Nat.le_trans hw.1 hw.2.1, Nat.le_trans hw2.1 hw2.2.1⟩
  obtain ⟨ns, rfl, hx, hp⟩ := u8_open hw
  obtain ⟨ns2, rfl, hx2, hp2⟩ := u8_open hw2
  have runC : ∀ (J : IMem) (S : SH), (imW W).le J → Runs Tryd.prog 24 #[.agg #[.int .u8 k, .slice a ns.length cap, .bool six, .int .u8 bits]] J S fun v _ T => (∃ t : Tg, v = vT t ∧ (GoodP t ∨ GoodN t)) ∧ Sub S T :=
    fun J S hle => CTrig_runs six (hx.le hle) hmx.1 hp (u8_wf hk) (u8_wf hb)
  have runD : ∀ (J : IMem) (S : SH), (imW W).le J → Runs Tryd.prog 24 #[.agg #[.int .u8 k2, .slice a2 ns2.length cap2, .bool six2, .int .u8 bits2]] J S fun v _ T => (∃ t : Tg, v = vT t ∧ (GoodP t ∨ GoodN t)) ∧ Sub S T :=
    fun J S hle => CTrig_runs six2 (hx2.le hle) hmx.2 hp2 (u8_wf hk2) (u8_wf hb2)
  refine bolterlaw13_OwnerApart_fn _ _ _ _ _ _ _ _ _ _ _ _ _ _ _ ?_
  unfold bolterlaw13_OwnerApart
  intro b2 b3
  refine (awake_runs g _).mono ?_
  rintro v J T hle ⟨rfl, rfl⟩
  refine ⟨_, rfl, bcase_f rfl ?_⟩
  unfold bolterlaw13_OwnerApart_b1
  refine ⟨_, (Cell.at0 rfl).tl, _, _, _, (Cell.at0 rfl).tl, _, (Cell.at0 rfl).tl, _, (Cell.at0 rfl).tl, _, Cell.at0 rfl, _, _, _, Cell.at0 rfl, _, Cell.at0 rfl, _, Cell.at0 rfl, ?_⟩
  have gJ := g.le hle
  refine ⟨(runC _ _ hle).mono ?_, fun b5 => ⟨((Sub.refl _).skip _).keep (IMem.le.refl _), (runC _ _ hle).mono ?_, fun b6 => ⟨(((Sub.refl _).skip _).skip _).keep (IMem.le.refl _), (runC _ _ hle).mono ?_⟩⟩, fun b6 => ⟨((Sub.refl _).skip _).keep (IMem.le.refl _), (runC _ _ hle).mono ?_, fun b5 => ⟨(((Sub.refl _).skip _).skip _).keep (IMem.le.refl _), (runC _ _ hle).mono ?_⟩⟩⟩
  · rintro v J1 T1 hle1 ⟨⟨t, rfl, ht⟩, hs1⟩
    refine ⟨_, _, _, _, rfl, hs1.keep hle1, (runD _ _ (hle.trans hle1)).mono ?_, fun b5 => ⟨(hs1.skip _).keep hle1, (runD _ _ (hle.trans hle1)).mono ?_, fun b6 => ⟨((hs1.skip _).skip _).keep hle1, (runD _ _ (hle.trans hle1)).mono ?_⟩⟩, fun b6 => ⟨(hs1.skip _).keep hle1, (runD _ _ (hle.trans hle1)).mono ?_, fun b5 => ⟨((hs1.skip _).skip _).keep hle1, (runD _ _ (hle.trans hle1)).mono ?_⟩⟩⟩
    · rintro v J2 T2 hle2 ⟨⟨u, rfl, hu⟩, hs2⟩
      exact ⟨_, _, _, _, rfl, fun b5 => ⟨((hs1.trans hs2).skip _).keep (hle1.trans hle2), fun b6 => ⟨(((hs1.trans hs2).skip _).skip _).keep (hle1.trans hle2), apart_leaf ht hu ((gJ.le hle1).le hle2) sB⟩⟩, fun b6 => ⟨((hs1.trans hs2).skip _).keep (hle1.trans hle2), fun b5 => ⟨(((hs1.trans hs2).skip _).skip _).keep (hle1.trans hle2), apart_leaf ht hu ((gJ.le hle1).le hle2) sA⟩⟩⟩
    · rintro v J2 T2 hle2 ⟨⟨u, rfl, hu⟩, hs2⟩
      exact ⟨_, _, _, _, rfl, fun b6 => ⟨((hs1.trans hs2.drop).skip _).keep (hle1.trans hle2), apart_leaf ht hu ((gJ.le hle1).le hle2) (sC hs2)⟩⟩
    · rintro v J2 T2 hle2 ⟨⟨u, rfl, hu⟩, hs2⟩
      exact ⟨_, _, _, _, rfl, apart_leaf ht hu ((gJ.le hle1).le hle2) (sB.trans hs2)⟩
    · rintro v J2 T2 hle2 ⟨⟨u, rfl, hu⟩, hs2⟩
      exact ⟨_, _, _, _, rfl, fun b5 => ⟨((hs1.trans hs2.drop).skip _).keep (hle1.trans hle2), apart_leaf ht hu ((gJ.le hle1).le hle2) (sD hs2)⟩⟩
    · rintro v J2 T2 hle2 ⟨⟨u, rfl, hu⟩, hs2⟩
      exact ⟨_, _, _, _, rfl, apart_leaf ht hu ((gJ.le hle1).le hle2) (sA.trans hs2)⟩
  · rintro v J1 T1 hle1 ⟨⟨t, rfl, ht⟩, hs1⟩
    refine ⟨_, _, _, _, rfl, hs1.drop.keep hle1, (runD _ _ (hle.trans hle1)).mono ?_, fun b6 => ⟨(hs1.drop.skip _).keep hle1, (runD _ _ (hle.trans hle1)).mono ?_⟩⟩
    · rintro v J2 T2 hle2 ⟨⟨u, rfl, hu⟩, hs2⟩
      exact ⟨_, _, _, _, rfl, fun b6 => ⟨((hs1.drop.trans hs2).skip _).keep (hle1.trans hle2), apart_leaf ht hu ((gJ.le hle1).le hle2) (sC (hs1.trans hs2))⟩⟩
    · rintro v J2 T2 hle2 ⟨⟨u, rfl, hu⟩, hs2⟩
      exact ⟨_, _, _, _, rfl, apart_leaf ht hu ((gJ.le hle1).le hle2) ((sC hs1).trans hs2)⟩
  · rintro v J1 T1 hle1 ⟨⟨t, rfl, ht⟩, hs1⟩
    refine ⟨_, _, _, _, rfl, hs1.drop.drop.keep hle1, (runD _ _ (hle.trans hle1)).mono ?_⟩
    rintro v J2 T2 hle2 ⟨⟨u, rfl, hu⟩, hs2⟩
    exact ⟨_, _, _, _, rfl, apart_leaf ht hu ((gJ.le hle1).le hle2) (sB.trans (hs1.trans hs2))⟩
  · rintro v J1 T1 hle1 ⟨⟨t, rfl, ht⟩, hs1⟩
    refine ⟨_, _, _, _, rfl, hs1.drop.keep hle1, (runD _ _ (hle.trans hle1)).mono ?_, fun b5 => ⟨(hs1.drop.skip _).keep hle1, (runD _ _ (hle.trans hle1)).mono ?_⟩⟩
    · rintro v J2 T2 hle2 ⟨⟨u, rfl, hu⟩, hs2⟩
      exact ⟨_, _, _, _, rfl, fun b5 => ⟨((hs1.drop.trans hs2).skip _).keep (hle1.trans hle2), apart_leaf ht hu ((gJ.le hle1).le hle2) (sD (hs1.trans hs2))⟩⟩
    · rintro v J2 T2 hle2 ⟨⟨u, rfl, hu⟩, hs2⟩
      exact ⟨_, _, _, _, rfl, apart_leaf ht hu ((gJ.le hle1).le hle2) ((sD hs1).trans hs2)⟩
  · rintro v J1 T1 hle1 ⟨⟨t, rfl, ht⟩, hs1⟩
    refine ⟨_, _, _, _, rfl, hs1.drop.drop.keep hle1, (runD _ _ (hle.trans hle1)).mono ?_⟩
    rintro v J2 T2 hle2 ⟨⟨u, rfl, hu⟩, hs2⟩
    exact ⟨_, _, _, _, rfl, apart_leaf ht hu ((gJ.le hle1).le hle2) (sA.trans (hs1.trans hs2))⟩
end Go.Proofs.YtkagfmlaolmdnaaDoor
