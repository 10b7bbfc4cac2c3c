/- The rows on owners: from names. -/
import Derived.Test.YtkagfmlaolmdnaaDoorOw20
import Derived.Test.YtkagfmlaolmdnaaDoorPx9
namespace Go.Proofs.YtkagfmlaolmdnaaDoor
open Go.Px
set_option linter.unusedVariables false
set_option linter.unusedSimpArgs false
set_option maxRecDepth 8000

def U8W (W : World) (s : Option Addr × Nat × Nat) : Prop := s.2.1 ≤ s.2.2 ∧ s.2.2 ≤ maxLen ∧ ∃ ys : List Int, SlIn (imW W) s.1 s.2.1 1 (fun x => [.int .u8 x]) ys ∧ ∀ y ∈ ys, (Lit.int .u8 y).wf = true
theorem u8_wf {x : Int} (h : (Lit.int .u8 x).wf = true) : 0 ≤ x ∧ x ≤ 255 := by
  simp only [Lit.wf, Bool.and_eq_true, decide_eq_true_eq] at h
  exact h
theorem u8_open {W : World} {a : Option Addr} {len cap : Nat} (h : U8W W (a, len, cap)) : ∃ ns : List Int, ns.length = len ∧ RowIn (imW W) [] a ns.length 1 elI8 ns ∧ ∀ x ∈ ns, 0 ≤ x ∧ x ≤ 255 := by
  obtain ⟨_, _, ns, hs, hw⟩ := h
  exact ⟨ns, hs.1, RowIn.of_slin (el := elI8) (fun _ => Nat.one_pos) hs, fun x hx => u8_wf (hw x hx)⟩
theorem rowUp {α : Type} {el : α → List Value} {sz : Nat} {I J : IMem} {S : SH} {a : Option Addr} {len : Nat} {xs : List α} (h : RowIn I [] a len sz el xs) (hle : I.le J) : RowIn J S a len sz el xs :=
  (h.le hle).sub ⟨S, List.Perm.refl _⟩
theorem mkV_ex (o : Option ByteArray) : ∃ s b, mkV o = .tuple #[.string s, .bool b] := by
  cases o with
  | none => exact ⟨_, _, rfl⟩
  | some m => exact ⟨_, _, rfl⟩
theorem decF_empty : decF ⟨#[]⟩ = none := by rw [decF, labN_empty]; rfl
def readL : List ByteArray := [⟨#[114, 112, 122, 45, 105, 112]⟩, ⟨#[114, 112, 122, 45, 99, 108, 105, 101, 110, 116, 45, 105, 112]⟩, ⟨#[114, 112, 122, 45, 110, 115, 105, 112]⟩, ⟨#[114, 112, 122, 45, 110, 115, 100, 110, 97, 109, 101]⟩, ⟨#[120]⟩, ⟨#[42]⟩]
theorem OwnerRead_row (W : World) (g : GL (imW W)) (a : Option Addr) (len cap : Nat) (raw : ByteArray) (last : Int) (w0 : U8W W (a, len, cap)) (z0 : len ≤ 140737488355328) (w1 : raw.size ≤ 140737488351232) (w2 : (Lit.int .u8 last).wf = true) :
    Runs Tryd.prog 9 #[.slice a len cap, .string raw, .int .u8 last] (imW W) [] fun v _ _ => v = .bool true := by
  obtain ⟨ns, rfl, hx, hp⟩ := u8_open w0
  have hlast := u8_wf w2
  refine bolterlaw13_OwnerRead_fn _ _ _ _ _ _ _ _ ?_
  unfold bolterlaw13_OwnerRead
  refine (awake_runs g _).mono ?_
  rintro v J T hle ⟨rfl, rfl⟩
  refine ⟨_, rfl, bcase_f rfl ((Words_runs (rowUp hx hle) (by omega) (fun x hm => (hp x hm).1)).mono ?_)⟩
  rintro v J1 T1 hle1 ⟨own, ho, hs⟩
  obtain ⟨p, d, rfl⟩ := ho.slice
  refine ⟨_, _, _, rfl, fun b21 => ?_⟩
  have hm : last.tmod 6 = ((last.toNat % 6 : Nat) : Int) := by rw [Int.tmod_eq_emod_of_nonneg hlast.1]; omega
  have hlt : last.toNat % 6 < 6 := Nat.mod_lt _ (by decide)
  rw [hm, Int.toNat_natCast]
  obtain ⟨w, hw⟩ : ∃ w, readL[last.toNat % 6]? = some w := ⟨_, List.getElem?_eq_getElem (by exact hlt)⟩
  obtain ⟨a'', e, hc⟩ := strRow (aw_row readL (by decide) b21 J1 T1) hw
  injection e with e; subst e
  refine ⟨by omega, by omega, w, hc, fun b26 => ?_⟩
  have hlen : ((ns.take 12).map wd).length ≤ 12 := by rw [List.length_map, List.length_take]; omega
  refine AppS1 (hs.skip _) ho (by omega) ?_
  intro p2 n2 c2 own2 T2 ho2 hs2
  have en : n2 = ((ns.take 12).map wd ++ [w]).length := OwnR.len ho2
  subst en
  refine (Make_runs ((OwnS.row ho2).sub hs2.left) (by rw [List.length_append, List.length_singleton]; omega)).mono ?_
  rintro v J2 T hle2 ⟨rfl, rfl⟩
  obtain ⟨m, ok, hmk⟩ := mkV_ex (makeN ((ns.take 12).map wd ++ [w]) ByteArray.empty)
  refine ⟨m, ok, hmk, ?_⟩
  unfold bolterlaw13_OwnerRead_b1
  have hJ2 : (imW W).le J2 := (hle.trans hle1).trans hle2
  refine (Name_runs (rowUp hx hJ2) (by omega) (fun x hm => (hp x hm).1)).mono ?_
  rintro v J3 T hle3 ⟨rfl, rfl⟩
  refine ⟨_, rfl, fun b37 => ?_⟩
  unfold bolterlaw13_OwnerRead_b2
  refine ⟨fun mm x n c q i J' T' => x = some ⟨b37, 0, none⟩ ∧ n = 3 ∧ q = 3 ∧ J3.le J' ∧ Sub ((b37, .cells (strL [m, nameW ns, raw]).toArray 27 (0, 0)) :: T) T' ∧ ∃ k : Nat, i = (k : Int) ∧ k ≤ 3 ∧ mm = 3 - k, 3, ⟨rfl, rfl, rfl, IMem.le.refl _, Sub.refl _, 0, rfl, by decide, rfl⟩, ?_⟩
  rintro mm x n c q i J' T' - ⟨rfl, rfl, rfl, hle', hs', k, rfl, hk, rfl⟩
  unfold bolterlaw13_OwnerRead_l3
  refine bcase_dec (fun hlt3 => ?_) (fun _ => rfl)
  unfold bolterlaw13_OwnerRead_b4
  have hk3 : k < 3 := by omega
  obtain ⟨s, hsx⟩ : ∃ s, [m, nameW ns, raw][k]? = some s := ⟨_, List.getElem?_eq_getElem (by exact hk3)⟩
  obtain ⟨a'', e, hc'⟩ : ∃ a', some (⟨b37, 0, none⟩ : Addr) = some a' ∧ Cell J' T' (a'.add (k * 1)) (.string s) := by
    have hr : RowIn J' T' (some ⟨b37, 0, none⟩) 3 1 elS [m, nameW ns, raw] := by
      have h := aw_row [m, nameW ns, raw] (by show 3 ≤ 1000; decide) b37 J' T
      have h2 : RowIn J' ((b37, .cells (strL [m, nameW ns, raw]).toArray 27 (0, 0)) :: T) (some ⟨b37, 0, none⟩) 3 1 elS [m, nameW ns, raw] := by
        refine ⟨rfl, fun i x hx => ⟨_, rfl, rfl, fun j v hj => ?_⟩⟩
        obtain ⟨a4, e4, _, h4⟩ := h.2 i x hx
        injection e4 with e4; subst e4
        have hj0 : j = 0 := by
          cases j with
          | zero => rfl
          | succ j => simp [elS] at hj
        subst hj0
        rw [add_mk, add_mk]
        refine Cell.at0 ?_
        have hi : i < 3 := by
          rcases Nat.lt_or_ge i 3 with g | g
          · exact g
          · rw [List.getElem?_eq_none (by simpa using g)] at hx; cases hx
        have hv : v = .string x := by simpa [elS] using hj.symm
        subst hv
        match i, hi, hx with
        | 0, _, hx => cases hx; rfl
        | 1, _, hx => cases hx; rfl
        | 2, _, hx => cases hx; rfl
      exact h2.sub hs'
    exact strRow (xs := [m, nameW ns, raw]) hr hsx
  injection e with e; subst e
  refine ⟨by omega, by omega, s, by rw [Int.toNat_natCast]; exact hc', (Decode_runs s ((g.le hJ2).le (hle3.trans hle')) _).mono ?_⟩
  rintro v J4 T4 hle4 ⟨rfl, rfl⟩
  have again : ∀ J5 : IMem, J4.le J5 → ∀ T5 : SH, Sub T4 T5 → bolterlaw13_OwnerRead_b5 (fun x37 x37n x37c x38 x39 I S => ∃ m', m' < 3 - k ∧ x37 = some ⟨b37, 0, none⟩ ∧ x37n = 3 ∧ x38 = 3 ∧ J3.le I ∧ Sub ((b37, .cells (strL [m, nameW ns, raw]).toArray 27 (0, 0)) :: T) S ∧ ∃ k : Nat, x39 = (k : Int) ∧ k ≤ 3 ∧ m' = 3 - k) (fun v _ _ => v = .bool true) (some ⟨b37, 0, none⟩) 3 c 3 (k : Int) false J5 T5 := by
    intro J5 hl5 T5 hs5
    unfold bolterlaw13_OwnerRead_b5 bolterlaw13_OwnerRead_b6
    exact bcase_f rfl ⟨3 - (k + 1), by omega, rfl, rfl, rfl, (hle'.trans hle4).trans hl5, hs'.trans hs5, k + 1, by rw [wrap_i64 (by omega) (by omega)]; rfl, by omega, rfl⟩
  cases hd : decF s with
  | none =>
    refine ⟨_, _, _, _, _, rfl, fun b12 => StP.tg (x := t0) (t := t0) ?_⟩
    obtain ⟨c0, c1, c2, c3⟩ := tgC (I := J4) (S := T4) (b := b12) (t := t0)
    refine ⟨_, c0, _, c1, _, c2, _, c3, (Encode_runs t0 ((g.le hJ2).le ((hle3.trans hle').trans hle4)) _).mono ?_⟩
    rintro v J5 T5 hle5 ⟨rfl, rfl⟩
    obtain ⟨m2, ok2, hmk2⟩ := mkV_ex (encF t0)
    refine ⟨m2, ok2, hmk2, bcase_f rfl (bcase_t rfl ?_)⟩
    obtain ⟨c0, c1, c2, c3⟩ := tgC (I := J5) (S := T4) (b := b12) (t := t0)
    refine ⟨_, c0, _, c1, _, c2, _, c3, bcase_f (by decide +kernel) ((May_runs s _ _).mono ?_)⟩
    rintro v J6 T6 hle6 ⟨rfl, rfl⟩
    have ag := again J6 (hle5.trans hle6) _ ((Sub.refl T4).skip (b12, .cells (elT t0).toArray 29 (0, 0)))
    refine ⟨_, rfl, bcase_of (fun _ => bcase_f rfl ?_) (fun _ => ?_)⟩
    · exact bcase_of (fun _ => ag) (fun _ => ag)
    · exact bcase_of (fun _ => ag) (fun _ => ag)
  | some t =>
    refine ⟨_, _, _, _, _, rfl, fun b12 => StP.tg (x := t0) (t := t) ?_⟩
    obtain ⟨c0, c1, c2, c3⟩ := tgC (I := J4) (S := T4) (b := b12) (t := t)
    refine ⟨_, c0, _, c1, _, c2, _, c3, (Encode_runs t ((g.le hJ2).le ((hle3.trans hle').trans hle4)) _).mono ?_⟩
    rintro v J5 T5 hle5 ⟨rfl, rfl⟩
    rw [dec_enc hd]
    refine ⟨_, _, rfl, bcase_t rfl (bcase_f rfl (bcase_f (by rw [tl_eq]; rfl) (bcase_f rfl ((May_runs s _ _).mono ?_))))⟩
    rintro v J6 T6 hle6 ⟨rfl, rfl⟩
    have hlab : (labN s).isSome = true := by
      cases h : labN s with
      | none => rw [decF, h] at hd; cases hd
      | some _ => rfl
    have hne : s ≠ ⟨#[]⟩ := fun e => by rw [e, decF_empty] at hd; cases hd
    have ag := again J6 (hle5.trans hle6) _ ((Sub.refl T4).skip (b12, .cells (elT t).toArray 29 (0, 0)))
    rw [hlab]
    exact ⟨_, rfl, bcase_f rfl (bcase_f (tl_ne hne) ag)⟩
end Go.Proofs.YtkagfmlaolmdnaaDoor
