/- The rows on events: an event's bytes. -/
import Derived.Test.YtkagfmlaolmdnaaDoorEv7
namespace Go.Proofs.YtkagfmlaolmdnaaDoor
open Go.Px
set_option linter.unusedVariables false
set_option linter.unusedSimpArgs false
set_option maxRecDepth 8000

theorem ba_self' (a : ByteArray) : (a == a) = true := ba_beq.2 rfl
theorem ev_eq {a b : Ev} : (((a.tm : Int) == (b.tm : Int)) && (((a.cl : ByteArray) == (b.cl : ByteArray)) && (((a.na : ByteArray) == (b.na : ByteArray)) && (((a.ty : Int) == (b.ty : Int)) && (((a.zn : Int) == (b.zn : Int)) && ((((a.tr.1 : Int) == (b.tr.1 : Int)) && (((a.tr.2.1 : ByteArray) == (b.tr.2.1 : ByteArray)) && ((((a.tr.2.2.1 : ByteArray) == (b.tr.2.2.1 : ByteArray)) && (((a.tr.2.2.2 : Int) == (b.tr.2.2.2 : Int)) && true)) && true))) && (((a.ac : Int) == (b.ac : Int)) && true))))))) = true ↔ a = b := by
  obtain ⟨a1, a2, a3, a4, a5, ⟨a6, a7, a8, a9⟩, a10⟩ := a
  obtain ⟨b1, b2, b3, b4, b5, ⟨b6, b7, b8, b9⟩, b10⟩ := b
  simp only [Bool.and_eq_true, Bool.and_true, beq_iff_eq, ba_beq, Ev.mk.injEq, Prod.mk.injEq]
/-! ### seeds -/
structure Sd where
  wn : Int
  a1 : Option Addr
  n1 : Nat
  c1 : Nat
  a2 : Option Addr
  n2 : Nat
  c2 : Nat
  kd : Int
  zn : Int
  ck : Int
  a3 : Option Addr
  n3 : Nat
  c3 : Nat
  six : Bool
  bits : Int
  ac : Int
def elSd (s : Sd) : List Value := [.int .u32 s.wn, .slice s.a1 s.n1 s.c1, .slice s.a2 s.n2 s.c2, .int .u16 s.kd, .int .u8 s.zn, .int .u8 s.ck, .slice s.a3 s.n3 s.c3, .bool s.six, .int .u8 s.bits, .int .u8 s.ac]
abbrev Ts (b : Nat) (s : Sd) : Nat × Obj := (b, .cells (elSd s).toArray 72 (0, 0))
def SdP (I : IMem) (s : Sd) : Prop := SeedP I s.wn s.a1 s.n1 s.a2 s.n2 s.kd s.zn s.ck s.a3 s.n3 s.bits s.ac
theorem SdP.le {I J : IMem} {s : Sd} (h : SdP I s) (hle : I.le J) : SdP J s := ⟨h.wn, h.cl.le hle, h.na.le hle, h.tr.le hle, h.kd, h.zn, h.ck, h.bits, h.ac⟩
structure SdC (I : IMem) (T : SH) (a : Addr) (s : Sd) : Prop where
  c0 : Cell I T a (.int .u32 s.wn)
  c1 : Cell I T (a.add 1) (.slice s.a1 s.n1 s.c1)
  c2 : Cell I T (a.add 2) (.slice s.a2 s.n2 s.c2)
  c3 : Cell I T (a.add 3) (.int .u16 s.kd)
  c4 : Cell I T (a.add 4) (.int .u8 s.zn)
  c5 : Cell I T (a.add 5) (.int .u8 s.ck)
  c6 : Cell I T (a.add 6) (.slice s.a3 s.n3 s.c3)
  c7 : Cell I T (a.add 7) (.bool s.six)
  c8 : Cell I T (a.add 8) (.int .u8 s.bits)
  c9 : Cell I T (a.add 9) (.int .u8 s.ac)
theorem sdC {I : IMem} {S T : SH} {b : Nat} {s : Sd} (hs : Sub (Ts b s :: S) T) : SdC I T ⟨b, 0, none⟩ s := by
  refine ⟨hs.cell' (Cell.at0 rfl), ?_, ?_, ?_, ?_, ?_, ?_, ?_, ?_, ?_⟩
  all_goals
    rw [add_mk]
    exact hs.cell' (Cell.at0 rfl)
abbrev CodeT := Int × (Option Addr × Nat × Nat) × Bool × Int
def CodeW' (W : World) (y : CodeT) : Prop := (Lit.int .u8 y.1).wf = true ∧ U8W W y.2.1 ∧ True ∧ (Lit.int .u8 y.2.2.2).wf = true
def SeedW (W : World) (y : Int × (Option Addr × Nat × Nat) × (Option Addr × Nat × Nat) × Int × Int × CodeT × Int) : Prop :=
  (Lit.int .u32 y.1).wf = true ∧ U8W W y.2.1 ∧ U8W W y.2.2.1 ∧ (Lit.int .u16 y.2.2.2.1).wf = true ∧ (Lit.int .u8 y.2.2.2.2.1).wf = true ∧ CodeW' W y.2.2.2.2.2.1 ∧ (Lit.int .u8 y.2.2.2.2.2.2).wf = true
theorem u32_wf {x : Int} (h : (Lit.int .u32 x).wf = true) : 0 ≤ x ∧ x < 4294967296 := by
  simp only [Lit.wf, Bool.and_eq_true, decide_eq_true_eq] at h
  have h2 : x ≤ 4294967295 := h.2
  exact ⟨h.1, by omega⟩
theorem u16_wf {x : Int} (h : (Lit.int .u16 x).wf = true) : 0 ≤ x ∧ x < 65536 := by
  simp only [Lit.wf, Bool.and_eq_true, decide_eq_true_eq] at h
  have h2 : x ≤ 65535 := h.2
  exact ⟨h.1, by omega⟩
theorem bytP {W : World} {s : Option Addr × Nat × Nat} (h : U8W W s) : BytP (imW W) s.1 s.2.1 := by
  obtain ⟨ns, h1, h2, h3⟩ := u8_open (a := s.1) (len := s.2.1) (cap := s.2.2) h
  exact ⟨ns, h1, Nat.le_trans h.1 h.2.1, h2, h3⟩
theorem sdP {W : World} {wn : Int} {s1 s2 : Option Addr × Nat × Nat} {kd zn : Int} {cd : CodeT} {ac : Int} (h : SeedW W (wn, s1, s2, kd, zn, cd, ac)) : SdP (imW W) ⟨wn, s1.1, s1.2.1, s1.2.2, s2.1, s2.2.1, s2.2.2, kd, zn, cd.1, cd.2.1.1, cd.2.1.2.1, cd.2.1.2.2, cd.2.2.1, cd.2.2.2, ac⟩ := by
  obtain ⟨h1, h2, h3, h4, h5, ⟨h6, h7, _, h8⟩, h9⟩ := h
  exact ⟨u32_wf h1, bytP h2, bytP h3, bytP h7, u16_wf h4, u8_wf h5, u8_wf h6, u8_wf h8, u8_wf h9⟩
theorem SMake_runs {I : IMem} {s : Sd} (h : SdP I s) (S : SH) : Runs Tryd.prog 34 #[.agg #[.int .u32 s.wn, .slice s.a1 s.n1 s.c1, .slice s.a2 s.n2 s.c2, .int .u16 s.kd, .int .u8 s.zn, .int .u8 s.ck, .slice s.a3 s.n3 s.c3, .bool s.six, .int .u8 s.bits, .int .u8 s.ac]] I S fun v _ T => (∃ e, v = vE e ∧ MadeE e) ∧ Sub S T :=
  EMake_runs h S
theorem dec_self {e : Ev} (h : MadeE e) : decE (bytE e) = some e := by
  classical
  have := dec_byt h ⟨#[]⟩
  rw [ba_app_empty, if_pos rfl] at this
  exact this
theorem byt_len (e : Ev) : (bytL_ e).length = (bytE e).size := by simp [bytE, ByteArray.size]
theorem byt_size {e : Ev} (h : MayE e) : (bytE e).size ≤ 1000 := by
  rw [← byt_len]
  have h1 := h.cl; have h2 := h.na_size; have h3 := relE_size h
  simp only [bytL_, List.length_append, dlen]
  show 4 + 1 + _ + 1 + _ + 2 + 3 + _ ≤ 1000
  omega
theorem EventBytes_row (W : World) (g : GL (imW W)) (wn : Int) (a1 : Option Addr) (n1 c1 : Nat) (a2 : Option Addr) (n2 c2 : Nat) (kd zn ck : Int) (a3 : Option Addr) (n3 c3 : Nat) (six : Bool) (bits ac : Int)
    (w0 : SeedW W (wn, (a1, n1, c1), (a2, n2, c2), kd, zn, (ck, (a3, n3, c3), six, bits), ac)) :
    Runs Tryd.prog 12 #[.agg #[.int .u32 wn, .slice a1 n1 c1, .slice a2 n2 c2, .int .u16 kd, .int .u8 zn, .int .u8 ck, .slice a3 n3 c3, .bool six, .int .u8 bits, .int .u8 ac]] (imW W) [] fun v _ _ => v = .bool true := by
  generalize hs : (⟨wn, a1, n1, c1, a2, n2, c2, kd, zn, ck, a3, n3, c3, six, bits, ac⟩ : Sd) = s
  have hP : SdP (imW W) s := by rw [← hs]; exact sdP w0
  refine bolterlaw25_EventBytes_fn _ _ _ _ _ _ _ _ _ _ _ _ _ _ _ _ _ _ _ ?_
  unfold bolterlaw25_EventBytes
  intro b1
  have hT : ((b1, Obj.cells #[.int .u32 wn, .slice a1 n1 c1, .slice a2 n2 c2, .int .u16 kd, .int .u8 zn, .int .u8 ck, .slice a3 n3 c3, .bool six, .int .u8 bits, .int .u8 ac] 72) :: ([] : SH)) = [Ts b1 s] := by rw [← hs]; rfl
  rw [hT]
  refine (Eawake_runs g _).mono ?_
  rintro v J T hle ⟨rfl, rfl⟩
  refine ⟨_, rfl, bcase_f rfl ?_⟩
  have c := sdC (I := J) (Sub.refl [Ts b1 s])
  refine ⟨_, c.c0, _, _, _, c.c1, _, _, _, c.c2, _, c.c3, _, c.c4, _, c.c5, _, _, _, c.c6, _, c.c7, _, c.c8, _, c.c9, (SMake_runs (hP.le hle) _).mono ?_⟩
  rintro v J1 T1 hle1 ⟨⟨e, rfl, he⟩, hs1⟩
  refine ⟨_, _, _, _, _, _, _, _, _, _, rfl, fun b3 => StP.ev (x := e0) (e := e) ?_⟩
  have c := evC (I := J1) (Sub.refl (Te b3 e :: T1))
  have g1 := (g.le hle).le hle1
  refine ⟨_, c.c0, _, c.c1, _, c.c2, _, c.c3, _, c.c4, _, c.c5, _, c.c6, _, c.c7, _, c.c8, _, c.c9, (EEnc_runs e g1 _).mono ?_⟩
  rintro v J2 T2 hle2 henc
  have hmb := mayE_iff.2 he.may
  rcases henc with ⟨h, _⟩ | ⟨_, p, d, own, rfl, ho, hs2⟩
  · rw [hmb] at h; cases h
  have hby : ∀ J, BytesAt J T2 p (bytL_ e).length (bytE e) := fun J => ho.bytes hs2.left
  have hz : (bytE e).size ≤ 9223372036854775807 := Nat.le_trans (byt_size he.may) (by decide)
  have hb2 := hby J2
  generalize hnn : (bytL_ e).length = nn at hb2 hby
  have hdec := EDec_runs (c := d) hb2 hz (g1.le hle2)
  rw [dec_self he] at hdec
  refine ⟨_, _, _, _, rfl, hdec.mono ?_⟩
  rintro v J3 T hle3 ⟨rfl, rfl⟩
  refine ⟨_, _, _, _, _, _, _, _, _, _, _, rfl, fun b6 => StP.ev (x := e0) (e := e) ?_⟩
  unfold bolterlaw25_EventBytes_b1
  have hs3 := hs2.right.skip (Te b6 e)
  have c := evC (I := J3) hs3
  have g3 := (g1.le hle2).le hle3
  refine ⟨_, c.c0, _, c.c1, _, c.c2, _, c.c3, _, c.c4, _, c.c5, _, c.c6, _, c.c7, _, c.c8, _, c.c9, (Emay_runs e g3 _).mono ?_⟩
  rintro v J4 T hle4 ⟨rfl, rfl⟩
  rw [hmb]
  refine ⟨_, rfl, (Sub.refl _).keep hle4, bcase_t rfl ⟨_, c.c0, _, c.c1, _, c.c2, _, c.c3, _, c.c4, _, c.c5, _, c.c6, _, c.c7, _, c.c8, _, c.c9, (EMay_runs e (g3.le hle4) _).mono ?_⟩⟩
  rintro v J5 T hle5 ⟨rfl, rfl⟩
  rw [hmb]
  refine ⟨_, rfl, (Sub.refl _).keep (hle4.trans hle5), bcase_t rfl (bcase_t rfl ⟨_, (hby J3).tl, _, c.c0, _, c.c1, _, c.c2, _, c.c3, _, c.c4, _, c.c5, _, c.c6, _, c.c7, _, c.c8, _, c.c9, (Ebytes_runs he.may ((g3.le hle4).le hle5) _).mono ?_⟩)⟩
  rintro v J6 T hle6 ⟨rfl, rfl⟩
  have dd : ∀ x : SH, EvC J3 (Te b6 e :: x) ⟨b6, 0, none⟩ e := fun x => evC (Sub.refl _)
  refine ⟨_, rfl, (Sub.refl _).keep ((hle4.trans hle5).trans hle6), bcase_t (by rw [tl_eq]) (bcase_t rfl ⟨_, (dd _).c0, _, (dd _).c1, _, (dd _).c2, _, (dd _).c3, _, (dd _).c4, _, (dd _).c5, _, (dd _).c6, _, (dd _).c7, _, (dd _).c8, _, (dd _).c9, _, c.c0, _, c.c1, _, c.c2, _, c.c3, _, c.c4, _, c.c5, _, c.c6, _, c.c7, _, c.c8, _, c.c9, ?_⟩)⟩
  unfold bolterlaw25_EventBytes_b2
  rw [(ev_eq).2 rfl]
end Go.Proofs.YtkagfmlaolmdnaaDoor
