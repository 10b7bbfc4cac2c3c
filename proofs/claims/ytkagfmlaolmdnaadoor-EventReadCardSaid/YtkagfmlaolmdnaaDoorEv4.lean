/- Events as bytes: event.Encode; the model is awake; events by numbers. -/
import Derived.Test.YtkagfmlaolmdnaaDoorEv3
namespace Go.Proofs.YtkagfmlaolmdnaaDoor
open Go.Px
set_option linter.unusedVariables false
set_option linter.unusedSimpArgs false
set_option maxRecDepth 8000

def EncR (e : Ev) (S : SH) (v : Value) (T : SH) : Prop :=
  (mayEb e = false ∧ v = .tuple #[.slice none 0 0, .bool false] ∧ Sub S T) ∨ (mayEb e = true ∧ ∃ p c own, v = .tuple #[.slice p (bytL_ e).length c, .bool true] ∧ OwnB (.slice p (bytL_ e).length c) (bytL_ e) own ∧ Sub (own ++ S) T)
theorem EEnc_runs (e : Ev) {I : IMem} (g : GL I) (S : SH) : Runs Tryd.prog 30 #[vE e] I S fun v _ T => EncR e S v T := by
  refine event_Encode_fn _ _ _ _ _ _ _ _ _ _ _ _ _ ?_
  unfold event_Encode
  intro b1
  have c := evC (I := I) (Sub.refl (Te b1 e :: S))
  refine ⟨_, c.c0, _, c.c1, _, c.c2, _, c.c3, _, c.c4, _, c.c5, _, c.c6, _, c.c7, _, c.c8, _, c.c9, (EMay_runs e g _).mono ?_⟩
  rintro v J T hle ⟨rfl, rfl⟩
  refine ⟨_, rfl, bcase_of (fun h => .inl ⟨by simpa using h, rfl, (Sub.refl S).skip _⟩) (fun h => ?_)⟩
  have hb : mayEb e = true := by simpa using h
  have hm := mayE_iff.1 hb
  have hcl := hm.cl
  have hna := hm.na_size
  obtain ⟨m, hrel⟩ := hm.rel
  have hre := enc_size hrel
  have c := evC (I := J) (Sub.refl (Te b1 e :: S))
  refine ⟨_, c.c0, fun b13 => (Put32_runs (Cell.at0 rfl)).mono ?_⟩
  rintro v J1 T1 hle1 ⟨own1, ho1, hs1⟩
  obtain ⟨p1, d1, rfl⟩ := ho1.slice
  have k1 : Sub (Te b1 e :: S) T1 := hs1.right.drop
  have c := evC (I := J1) k1
  refine ⟨_, _, _, rfl, _, c.c1, fun b20 => ?_⟩
  rw [← u8o_v (e.cl.size : Int)]
  refine AppBs (ys := [u8o (e.cl.size : Int)]) (F := Te b1 e :: S) (own := own1) (Sub.trans (by obtain ⟨G, hG⟩ := Sub.refl (own1 ++ (b13, Obj.cells #[.int .u32 (IntKind.wrap .u32 e.tm)] 70 (0, 0)) :: Te b1 e :: S); exact ⟨[(b13, Obj.cells #[.int .u32 (IntKind.wrap .u32 e.tm)] 70 (0, 0))], by rw [List.append_assoc]; exact List.Perm.append_left own1 (List.perm_append_comm (l₁ := [(b13, Obj.cells #[.int .u32 (IntKind.wrap .u32 e.tm)] 70 (0, 0))]))⟩) hs1) ho1 (by show 4 + 1 ≤ _; decide) ?_
  intro p2 n2 d2 own2 T2 ho2 hs2
  have c := evC (I := J1) hs2.right
  refine ⟨_, c.c1, AppStr hs2 ho2 (by show 4 + 1 + _ ≤ _; omega) ?_⟩
  intro p3 n3 d3 own3 T3 ho3 hs3
  have c := evC (I := J1) hs3.right
  refine ⟨_, c.c2, fun b31 => ?_⟩
  rw [← u8o_v (e.na.size : Int)]
  have l3 : (be32 (IntKind.wrap .u32 e.tm) ++ [u8o (e.cl.size : Int)] ++ e.cl.data.toList).length = 5 + e.cl.size := by rw [List.length_append, dlen]; rfl
  refine AppBs (ys := [u8o (e.na.size : Int)]) hs3 ho3 (by rw [l3]; show _ + 1 ≤ _; omega) ?_
  intro p4 n4 d4 own4 T4 ho4 hs4
  have c := evC (I := J1) hs4.right
  refine ⟨_, c.c2, AppStr hs4 ho4 (by rw [List.length_append, l3]; show _ + 1 + _ ≤ _; omega) ?_⟩
  intro p5 n5 d5 own5 T5 ho5 hs5
  have c := evC (I := J1) hs5.right
  refine ⟨_, c.c3, fun b40 => ?_⟩
  have l5 : (be32 (IntKind.wrap .u32 e.tm) ++ [u8o (e.cl.size : Int)] ++ e.cl.data.toList ++ [u8o (e.na.size : Int)] ++ e.na.data.toList).length = 6 + e.cl.size + e.na.size := by rw [List.length_append, List.length_append, l3, dlen]; show 5 + _ + 1 + _ = _; omega
  obtain rfl : n5 = _ := OwnR.len ho5
  refine (Put16_runs ho5 (hs5.left.skip _) (Cell.at0 rfl) (by rw [l5]; omega)).mono ?_
  rintro v J2 T6 hle2 ⟨own6, ho6, hs6⟩
  obtain ⟨p6, d6, rfl⟩ := ho6.slice
  have k6 : Sub (own6 ++ (Te b1 e :: S)) T6 := by
    refine Sub.trans ?_ hs6
    obtain ⟨G, hG⟩ := hs5.right
    exact ⟨(b40, .cells #[.int .u16 e.ty] 61 (0, 0)) :: G, by rw [List.append_assoc]; exact List.Perm.append_left own6 ((hG.cons _).trans List.perm_middle.symm)⟩
  have c := evC (I := J2) k6.right
  refine ⟨_, _, _, rfl, _, c.c5, _, c.c6, _, c.c7, _, c.c8, (Encode_runs e.tr ((g.le hle).le (hle1.trans hle2)) _).mono ?_⟩
  rintro v J3 T hle3 ⟨rfl, rfl⟩
  have c := evC (I := J3) k6.right
  refine ⟨_, _, mkV_is _, _, c.c4, _, c.c9, fun b58 => ?_⟩
  rw [← u8o_v e.zn, ← u8o_v e.ac, ← u8o_v ((((encF e.tr).getD ⟨#[]⟩).size : Nat) : Int)]
  have l6 : (be32 (IntKind.wrap .u32 e.tm) ++ [u8o (e.cl.size : Int)] ++ e.cl.data.toList ++ [u8o (e.na.size : Int)] ++ e.na.data.toList ++ be16 e.ty).length = 8 + e.cl.size + e.na.size := by rw [List.length_append, l5]; show _ + 2 = _; omega
  refine AppBs (ys := [u8o e.zn, u8o e.ac, u8o ((relE e).size : Int)]) k6 ho6 (by rw [l6]; show _ + 3 ≤ _; omega) ?_
  intro p7 n7 d7 own7 T7 ho7 hs7
  have hrz : (relE e).size ≤ 254 := by rw [relE, hrel]; exact hre
  refine AppStr (s := relE e) hs7 ho7 (by rw [List.length_append, l6]; show _ + 3 + _ ≤ _; omega) ?_
  intro p8 n8 d8 own8 T8 ho8 hs8
  obtain rfl : n8 = (bytL_ e).length := OwnR.len ho8
  exact .inr ⟨hb, p8, d8, own8, rfl, ho8, by obtain ⟨G, hG⟩ := hs8; exact ⟨Te b1 e :: G, by rw [List.append_assoc]; exact (show List.Perm T8 _ from hG.trans (by rw [List.append_assoc]; exact List.Perm.append_left own8 List.perm_middle.symm))⟩⟩
def evA : Ev := ⟨1, ⟨#[]⟩, ⟨#[]⟩, 1, 0, (1, ⟨#[1, 97]⟩, ⟨#[]⟩, 0), 3⟩
theorem evA_name : NameP evA.tr [⟨#[97]⟩] := by
  refine ⟨.inl rfl, rfl, rfl, fun l hl => ?_, by decide, fun _ => by simp⟩
  rw [List.mem_singleton.1 hl]
  exact wrd_p (by simp [wrdL])
theorem evA_enc : encF evA.tr = some ⟨#[1, 97]⟩ := by
  have hU : encU evA.tr = [⟨#[97]⟩] := by rw [encU_n evA_name]; rfl
  rw [enc_n evA_name, hU]
  decide +kernel
theorem evA_may : mayEb evA = true := by
  refine mayE_iff.2 ⟨⟨_, evA_enc⟩, by decide, by decide, by decide, ⟨_, labN_empty⟩, by decide, by decide, by decide, by decide⟩
theorem evA_byt : bytE evA = ⟨#[0, 0, 0, 1, 0, 0, 0, 1, 0, 3, 2, 1, 97]⟩ := by
  rw [bytE, bytL_, relE, evA_enc]
  decide +kernel
theorem ev_row (ls : List ByteArray) (hl : ls.length ≤ 1000) (b : Nat) (I : IMem) (S : SH) : RowIn I ((b, .cells (strL ls).toArray 9 (0, 0)) :: S) (some ⟨b, 0, none⟩) ls.length 1 elS ls := by
  have h := (OwnS.mk (xs := ls) (g := b) (cap := ls.length) (rest := []) rfl (by unfold maxLen; omega)).row (I := I)
  rw [List.append_nil] at h
  exact h.sub ⟨S, List.Perm.refl _⟩
theorem Eawake_runs {I : IMem} (g : GL I) (S : SH) : Runs Tryd.prog 29 #[] I S fun v _ T => v = .bool true ∧ T = S := by
  refine Runs.drop (bolterlaw25_awake_fn _ _ _ ?_)
  unfold bolterlaw25_awake
  intro b6
  refine (Make_runs (ls := [⟨#[97]⟩]) (ev_row [⟨#[97]⟩] (by decide) b6 I S) (by decide)).mono ?_
  rintro v J T hle ⟨rfl, rfl⟩
  rw [show makeN [(⟨#[97]⟩ : ByteArray)] ByteArray.empty = some ⟨#[1, 97]⟩ by decide +kernel]
  refine ⟨_, _, rfl, (EEnc_runs evA (g.le hle) _).mono ?_⟩
  rintro v J1 T hle1 (⟨h, _⟩ | ⟨_, p, c, own, rfl, ho, hs⟩)
  · rw [evA_may] at h; cases h
  · refine ⟨_, _, _, _, rfl, bcase_t rfl ⟨bytE evA, ho.bytes hs.left, ?_⟩⟩
    unfold bolterlaw25_awake_b1
    rw [evA_byt]
    exact ⟨S, hs.right.drop, by rw [tl_eq], rfl⟩
/-! ### events by numbers -/
def BytP (I : IMem) (a : Option Addr) (n : Nat) : Prop := ∃ ns : List Int, ns.length = n ∧ n ≤ 9223372036854775807 ∧ RowIn I [] a ns.length 1 elI8 ns ∧ ∀ x ∈ ns, 0 ≤ x ∧ x ≤ 255
theorem BytP.le {I J : IMem} {a : Option Addr} {n : Nat} (h : BytP I a n) (hle : I.le J) : BytP J a n := let ⟨ns, h1, h2, h3, h4⟩ := h; ⟨ns, h1, h2, h3.le hle, h4⟩
structure SeedP (I : IMem) (wn : Int) (a1 : Option Addr) (n1 : Nat) (a2 : Option Addr) (n2 : Nat) (kd zn ck : Int) (a3 : Option Addr) (n3 : Nat) (bits ac : Int) : Prop where
  wn : 0 ≤ wn ∧ wn < 4294967296
  cl : BytP I a1 n1
  na : BytP I a2 n2
  tr : BytP I a3 n3
  kd : 0 ≤ kd ∧ kd < 65536
  zn : 0 ≤ zn ∧ zn ≤ 255
  ck : 0 ≤ ck ∧ ck ≤ 255
  bits : 0 ≤ bits ∧ bits ≤ 255
  ac : 0 ≤ ac ∧ ac ≤ 255
structure MadeE (e : Ev) : Prop where
  may : MayE e
  ty0 : 0 ≤ e.ty
  ty1 : e.ty < 65536
theorem EMake_runs {wn : Int} {a1 : Option Addr} {n1 c1 : Nat} {a2 : Option Addr} {n2 c2 : Nat} {kd zn ck : Int} {a3 : Option Addr} {n3 c3 : Nat} {six : Bool} {bits ac : Int} {I : IMem} (h : SeedP I wn a1 n1 a2 n2 kd zn ck a3 n3 bits ac) (S : SH) :
    Runs Tryd.prog 34 #[.agg #[.int .u32 wn, .slice a1 n1 c1, .slice a2 n2 c2, .int .u16 kd, .int .u8 zn, .int .u8 ck, .slice a3 n3 c3, .bool six, .int .u8 bits, .int .u8 ac]] I S fun v _ T => (∃ e, v = vE e ∧ MadeE e) ∧ Sub S T := by
  refine bolterlaw25_Make_fn _ _ _ _ _ _ _ _ _ _ _ _ _ _ _ _ _ _ _ ?_
  unfold bolterlaw25_Make
  intro b1 b2
  unfold bolterlaw25_Make_b1
  obtain ⟨ns1, rfl, hl1, hr1, hp1⟩ := h.cl
  obtain ⟨ns2, rfl, hl2, hr2, hp2⟩ := h.na
  obtain ⟨ns3, rfl, hl3, hr3, hp3⟩ := h.tr
  refine ⟨_, (Cell.at0 rfl).tl, _, by rw [add_mk, add_mk]; exact (Cell.at0 rfl).tl, _, _, _, by rw [add_mk]; exact (Cell.at0 rfl).tl, _, _, _, by rw [add_mk]; exact (Cell.at0 rfl).tl, _, by rw [add_mk]; exact (Cell.at0 rfl).tl, _, by rw [add_mk]; exact (Cell.at0 rfl).tl,
    _, by rw [add_mk]; exact (Cell.at0 rfl).tl, _, _, _, by rw [add_mk, add_mk]; exact (Cell.at0 rfl).tl, _, by rw [add_mk, add_mk]; exact (Cell.at0 rfl).tl, _, by rw [add_mk, add_mk]; exact (Cell.at0 rfl).tl, _, by rw [add_mk]; exact (Cell.at0 rfl).tl, ?_⟩
  refine (Adr_runs six (rowUp hr1 (IMem.le.refl I)) hl1 hp1).mono ?_
  rintro v J1 T1 hle1 ⟨s, rfl, hs, hs1⟩
  refine ⟨_, rfl, hs1.keep hle1, (Name_runs (rowUp hr2 hle1) hl2 (fun x hx => (hp2 x hx).1)).mono ?_⟩
  rintro v J2 T2 hle2 ⟨rfl, rfl⟩
  refine ⟨_, rfl, hs1.keep (hle1.trans hle2), (CTrig_runs six (hr3.le (hle1.trans hle2)) hl3 hp3 h.ck h.bits).mono ?_⟩
  rintro v J3 T3 hle3 ⟨⟨t, rfl, hg⟩, hs3⟩
  refine ⟨_, _, _, _, rfl, (hs1.trans hs3).keep ((hle1.trans hle2).trans hle3), ?_⟩
  unfold bolterlaw25_Make_b2
  obtain ⟨hw1, hw2⟩ := h.wn
  obtain ⟨hz1, hz2⟩ := h.zn
  obtain ⟨ha1, ha2⟩ := h.ac
  have ez : IntKind.wrap .i64 (zn.tmod 32) = zn % 32 := by rw [Int.tmod_eq_emod_of_nonneg hz1]; exact wrap_i64 (by omega) (by omega)
  have ea : IntKind.wrap .i64 (ac.tmod 9) = ac % 9 := by rw [Int.tmod_eq_emod_of_nonneg ha1]; exact wrap_i64 (by omega) (by omega)
  have ew : IntKind.wrap .i64 wn = wn := wrap_i64 (by omega) (by omega)
  rw [ez, ea, ew]
  refine setE (x := e0) (e := ⟨wn, s, nameW ns2, kd, zn % 32, t, ac % 9⟩) (K := fun v T => (∃ e, v = vE e ∧ MadeE e) ∧ Sub S T) (hs1.trans hs3) fun T' hT => ⟨⟨_, rfl, ⟨⟨⟨_, (enc_good hg).1⟩, hw1, by dsimp only; omega, by dsimp only; omega, ?_, by dsimp only; omega, by dsimp only; omega, by dsimp only; omega, by dsimp only; omega⟩, h.kd.1, h.kd.2⟩⟩, hT.drop⟩
  exact Option.isSome_iff_exists.1 (isName_iff.1 (nameW_name ns2))
end Go.Proofs.YtkagfmlaolmdnaaDoor
