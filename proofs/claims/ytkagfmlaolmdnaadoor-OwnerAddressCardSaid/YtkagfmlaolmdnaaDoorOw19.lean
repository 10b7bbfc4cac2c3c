/- The rows on owners: the model is awake; from names; no name. -/
import Derived.Test.YtkagfmlaolmdnaaDoorOw18
namespace Go.Proofs.YtkagfmlaolmdnaaDoor
open Go.Px
set_option linter.unusedVariables false
set_option linter.unusedSimpArgs false
set_option maxRecDepth 8000

def aw1 : List ByteArray := [⟨#[50, 52]⟩, ⟨#[48]⟩, ⟨#[50]⟩, ⟨#[48]⟩, ⟨#[49, 57, 50]⟩, ⟨#[114, 112, 122, 45, 105, 112]⟩]
def aw2 : List ByteArray := [⟨#[51, 50]⟩, ⟨#[122, 122]⟩, ⟨#[49]⟩, ⟨#[50, 48, 48, 49]⟩, ⟨#[114, 112, 122, 45, 99, 108, 105, 101, 110, 116, 45, 105, 112]⟩]
def awA : ByteArray := ⟨#[192, 0, 2, 0]⟩
def awB : ByteArray := ⟨#[32, 1, 0, 1, 0, 0, 0, 0, 0, 0, 0, 0, 0, 0, 0, 0]⟩
theorem aw1_may : mayP awA 24 := mayB_iff.1 (by decide +kernel)
theorem aw2_may : mayP awB 32 := mayB_iff.1 (by decide +kernel)
theorem aw1_dec : decF (nm aw1) = some (3, ⟨#[]⟩, awA, 24) := by
  rw [decF, show labN (nm aw1) = some aw1 by decide +kernel]
  dsimp only
  rw [decL, show aw1.getLast? = some ipB by rfl]
  dsimp only
  rw [show kindOf ipB = some 3 by decide +kernel]
  dsimp only
  rw [if_neg (by decide), show aw1.dropLast = pfxL awA 24 by decide +kernel, adrF_pfx aw1_may]
  rfl
theorem aw2_dec : decF (nm aw2) = some (0, ⟨#[]⟩, awB, 32) := by
  rw [decF, show labN (nm aw2) = some aw2 by decide +kernel]
  dsimp only
  rw [decL, show aw2.getLast? = some cB by rfl]
  dsimp only
  rw [kind_c]
  dsimp only
  rw [if_neg (by decide), show aw2.dropLast = pfxL awB 32 by decide +kernel, adrF_pfx aw2_may]
  rfl
theorem aw_row (ls : List ByteArray) (hl : ls.length ≤ 1000) (b : Nat) (I : IMem) (S : SH) : RowIn I ((b, .cells (strL ls).toArray 9 (0, 0)) :: S) (some ⟨b, 0, none⟩) ls.length 1 elS ls := by
  have h := (OwnS.mk (xs := ls) (g := b) (cap := ls.length) (rest := []) rfl (by unfold maxLen; omega)).row (I := I)
  rw [List.append_nil] at h
  exact h.sub ⟨S, List.Perm.refl _⟩
theorem awake_runs {I : IMem} (g : GL I) (S : SH) : Runs Tryd.prog 14 #[] I S fun v _ T => v = .bool true ∧ T = S := by
  refine Runs.drop (bolterlaw13_awake_fn _ _ _ ?_)
  unfold bolterlaw13_awake
  intro b10
  refine (Make_runs (ls := aw1) (aw_row aw1 (by decide) b10 I S) (by decide)).mono ?_
  rintro v J T hle ⟨rfl, rfl⟩
  rw [show makeN aw1 ByteArray.empty = some (nm aw1) by decide +kernel]
  refine ⟨_, _, rfl, (Decode_runs (nm aw1) (g.le hle) _).mono ?_⟩
  rintro v J1 T hle1 ⟨rfl, rfl⟩
  rw [aw1_dec]
  refine ⟨_, _, _, _, _, rfl, fun b3 => StP.tg (x := t0) (t := (3, ⟨#[]⟩, awA, 24)) ?_⟩
  intro b20
  refine (Make_runs (ls := aw2) (aw_row aw2 (by decide) b20 _ _) (by decide)).mono ?_
  rintro v J2 T hle2 ⟨rfl, rfl⟩
  rw [show makeN aw2 ByteArray.empty = some (nm aw2) by decide +kernel]
  refine ⟨_, _, rfl, (Decode_runs (nm aw2) ((g.le (hle.trans hle1)).le hle2) _).mono ?_⟩
  rintro v J3 T hle3 ⟨rfl, rfl⟩
  rw [aw2_dec]
  refine ⟨_, _, _, _, _, rfl, fun b7 => StP.tg (x := t0) (t := (0, ⟨#[]⟩, awB, 32)) ?_⟩
  refine ⟨_, (tgC.1).tl.tl, _, (tgC.2.1).tl.tl, _, (tgC.2.2.1).tl.tl, _, (tgC.2.2.2).tl.tl, ?_⟩
  refine bcase_t (by decide +kernel) ?_
  refine ⟨_, tgC.1, bcase_t (by decide) ⟨_, tgC.2.2.2, bcase_t (by decide) ⟨_, tgC.2.2.1, bcase_t (by decide) ⟨_, tgC.2.2.1, by decide, by decide, ?_⟩⟩⟩⟩
  exact ⟨S, ((((Sub.refl S).skip _).skip _).skip _).skip _, by rw [show ((awB.extract 0 ((4 : Int).toNat)).toList == (⟨#[32, 1, 0, 1]⟩ : ByteArray).toList) = true by decide +kernel], rfl⟩

/-! ### OwnerNone -/
theorem OwnerNone_row (W : World) (g : GL (imW W)) (a0 : Int) (a1 a2 : ByteArray) (a3 : Int) {p : Prop} (_ : p) : Runs Tryd.prog 6 #[.agg #[.int .i64 a0, .string a1, .string a2, .int .i64 a3]] (imW W) [] fun v _ _ => v = .bool true := by
  refine bolterlaw13_OwnerNone_fn _ _ _ _ _ _ _ ?_
  unfold bolterlaw13_OwnerNone
  intro b1
  refine (awake_runs g _).mono ?_
  rintro v J T hle ⟨rfl, rfl⟩
  refine ⟨_, rfl, bcase_f rfl ?_⟩
  obtain ⟨c0, c1, c2, c3⟩ := tgC (I := J) (S := ([] : SH)) (b := b1) (t := (a0, a1, a2, a3))
  refine ⟨_, c0, _, c1, _, c2, _, c3, (Encode_runs (a0, a1, a2, a3) (g.le hle) _).mono ?_⟩
  rintro v J1 T hle1 ⟨rfl, rfl⟩
  cases he : encF (a0, a1, a2, a3) with
  | none => exact ⟨_, _, rfl, bcase_t rfl (by rw [tl_eq])⟩
  | some m =>
    refine ⟨_, _, rfl, bcase_f rfl ((Decode_runs m ((g.le hle).le hle1) _).mono ?_)⟩
    rintro v J2 T hle2 ⟨rfl, rfl⟩
    rw [enc_dec he]
    refine ⟨_, _, _, _, _, rfl, fun b5 => StP.tg (x := t0) (t := (a0, a1, a2, a3)) (bcase_t rfl ?_)⟩
    obtain ⟨d0, d1, d2, d3⟩ := tgC (I := J2) (S := ([] : SH)) (b := b1) (t := (a0, a1, a2, a3))
    refine ⟨_, tgC.1, _, tgC.2.1, _, tgC.2.2.1, _, tgC.2.2.2, _, d0.tl, _, d1.tl, _, d2.tl, _, d3.tl, ?_⟩
    unfold bolterlaw13_OwnerNone_b1
    rw [(tg_eq).2 rfl]
end Go.Proofs.YtkagfmlaolmdnaaDoor
