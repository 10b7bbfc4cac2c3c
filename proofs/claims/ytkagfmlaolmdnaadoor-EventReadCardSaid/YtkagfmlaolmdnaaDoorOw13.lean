/- Names as triggers: owner.kinds, owner.named, owner.Decode. -/
import Derived.Test.YtkagfmlaolmdnaaDoorOw12
namespace Go.Proofs.YtkagfmlaolmdnaaDoor
open Go.Px
set_option linter.unusedVariables false
set_option linter.unusedSimpArgs false
set_option maxRecDepth 8000

/-! ### a prefix by its labels -/
theorem addr_inj {a b : ByteArray} (ha : a.size = 4 ∨ a.size = 16) (hb : b.size = 4 ∨ b.size = 16) (h : addrL a = addrL b) : a = b := by
  have key : ∀ x y : ByteArray, x.size = y.size → (∀ k, k < x.size → bat x k = bat y k) → x = y := by
    intro x y hs hk
    refine bext (List.ext_getElem? fun i => ?_)
    rw [← ba_get, ← ba_get]
    by_cases hi : i < x.size
    · obtain ⟨c, hc⟩ := at_ok hi
      obtain ⟨d, hd⟩ := at_ok (s := y) (k := i) (by omega)
      have := hk i hi
      rw [bat_of hc, bat_of hd] at this
      rw [hc, hd, UInt8.toNat_inj.1 this]
    · rw [at_none (by omega), at_none (by omega)]
  rcases ha with ha | ha <;> rcases hb with hb | hb
  · rw [addrL, addrL, if_pos ha, if_pos hb, fourL, fourL] at h
    simp only [List.cons.injEq, and_true] at h
    obtain ⟨h3, h2, h1, h0⟩ := h
    refine key a b (by omega) fun k hk => ?_
    rcases (show k = 0 ∨ k = 1 ∨ k = 2 ∨ k = 3 by omega) with rfl | rfl | rfl | rfl
    · exact decB_inj (bat_le _ _) (bat_le _ _) h0
    · exact decB_inj (bat_le _ _) (bat_le _ _) h1
    · exact decB_inj (bat_le _ _) (bat_le _ _) h2
    · exact decB_inj (bat_le _ _) (bat_le _ _) h3
  · have h1 := congrArg List.reverse h
    rw [addr_rev4 ha, addr_rev16 hb] at h1
    have h2 := four_has a
    rw [h1, six_has b (by rw [← h1]; rfl)] at h2; cases h2
  · have h1 := congrArg List.reverse h
    rw [addr_rev16 ha, addr_rev4 hb] at h1
    have h2 := four_has b
    rw [← h1, six_has a (by rw [h1]; rfl)] at h2; cases h2
  · have h1 := congrArg List.reverse h
    rw [addr_rev16 ha, addr_rev16 hb] at h1
    have h2 := congrArg repl h1
    rw [six_repl, six_repl] at h2
    refine key a b (by omega) fun k hk => ?_
    have hkk : k / 2 < 8 := by omega
    have h3 := congrArg (fun l : List ByteArray => l[k / 2]?) h2
    simp only [List.getElem?_map, wordsB_at a hkk, wordsB_at b hkk, Option.map_some, Option.some.injEq] at h3
    have b1 := bat_lt a (2 * (k / 2)); have b2 := bat_lt a (2 * (k / 2) + 1); have b3 := bat_lt b (2 * (k / 2)); have b4 := bat_lt b (2 * (k / 2) + 1)
    have h4 := hexB_inj (by omega) (by omega) h3
    rcases (show k = 2 * (k / 2) ∨ k = 2 * (k / 2) + 1 by omega) with e | e
    · rw [e]; omega
    · rw [e]; omega
theorem pfx_inj {a b : ByteArray} {n m : Int} (ha : mayP a n) (hb : mayP b m) (h : pfxL a n = pfxL b m) : a = b ∧ n = m := by
  rw [pfxL_may ha, pfxL_may hb] at h
  injection h with h1 h2
  obtain ⟨⟨ha1, ha2, ha3⟩, _⟩ := ha
  obtain ⟨⟨hb1, hb2, hb3⟩, _⟩ := hb
  have := decB_inj (by omega) (by omega) h1
  exact ⟨addr_inj ha1 hb1 h2, by omega⟩
open Classical in
noncomputable def adrF (ls : List ByteArray) : Option (ByteArray × Int) := if h : ∃ p : ByteArray × Int, mayP p.1 p.2 ∧ ls = pfxL p.1 p.2 then some h.choose else none
theorem adrF_pfx {a : ByteArray} {n : Int} (h : mayP a n) : adrF (pfxL a n) = some (a, n) := by
  have hx : ∃ p : ByteArray × Int, mayP p.1 p.2 ∧ pfxL a n = pfxL p.1 p.2 := ⟨(a, n), h, rfl⟩
  rw [adrF, dif_pos hx]
  obtain ⟨h1, h2⟩ := hx.choose_spec
  obtain ⟨h3, h4⟩ := pfx_inj h h1 h2
  congr 1
  exact Prod.ext h3.symm h4.symm
theorem adrF_some {ls : List ByteArray} {p : ByteArray × Int} (h : adrF ls = some p) : mayP p.1 p.2 ∧ ls = pfxL p.1 p.2 := by
  rw [adrF] at h
  split at h
  · rename_i hx
    rw [← Option.some.inj h]; exact hx.choose_spec
  · cases h
def adV : Option (ByteArray × Int) → Value
  | some p => .tuple #[.agg #[.string p.1, .int .i64 p.2], .bool true]
  | none => .tuple #[.agg #[.string ⟨#[]⟩, .int .i64 0], .bool false]
theorem AdR_val {ls : List ByteArray} {v : Value} (h : AdR ls v) : v = adV (adrF ls) := by
  rcases h with ⟨a, n, hm, rfl, rfl⟩ | ⟨h, rfl⟩
  · rw [adrF_pfx hm]; rfl
  · cases hx : adrF ls with
    | none => rfl
    | some p => exact absurd (adrF_some hx).2 (h _ _ (adrF_some hx).1)

/-! ### triggers -/
abbrev Tg := Int × ByteArray × ByteArray × Int
def t0 : Tg := (0, ⟨#[]⟩, ⟨#[]⟩, 0)
def vT (t : Tg) : Value := .agg #[.int .i64 t.1, .string t.2.1, .string t.2.2.1, .int .i64 t.2.2.2]
def elT (t : Tg) : List Value := [.int .i64 t.1, .string t.2.1, .string t.2.2.1, .int .i64 t.2.2.2]
def resT : Option Tg → Value
  | some t => .tuple #[vT t, .bool true]
  | none => .tuple #[vT t0, .bool false]
def starB : ByteArray := ⟨#[42]⟩
def cB : ByteArray := ⟨#[114, 112, 122, 45, 99, 108, 105, 101, 110, 116, 45, 105, 112]⟩
def ipB : ByteArray := ⟨#[114, 112, 122, 45, 105, 112]⟩
def ndB : ByteArray := ⟨#[114, 112, 122, 45, 110, 115, 100, 110, 97, 109, 101]⟩
def niB : ByteArray := ⟨#[114, 112, 122, 45, 110, 115, 105, 112]⟩
def kE (b : Nat) (k : Int) (w : ByteArray) : MapEntry := { key := .int .i64 k, val := .string w, born := b }
def kindsE : Array MapEntry := #[kE 0 0 cB, kE 1 3 ipB, kE 2 4 ndB, kE 3 6 niB]
theorem kinds_runs (I : IMem) (S : SH) : Runs Tryd.prog 45 #[] I S fun v _ T => ∃ r, v = .map (some r) ∧ T = (r, .map kindsE 4) :: S := by
  refine owner_kinds_fn _ _ _ ?_
  unfold owner_kinds
  intro r1
  exact ⟨r1, 0, _, _, _, _, rfl, rfl, rfl, r1, 0, _, _, _, _, rfl, rfl, rfl, r1, 0, _, _, _, _, rfl, rfl, rfl, r1, 0, _, _, _, _, rfl, rfl, rfl, r1, rfl, rfl⟩
def namedF (ls : List ByteArray) (ex wild : Int) : Option Tg := match ls with
  | [] => none
  | l :: r => if l = starB then (makeN r ByteArray.empty).map fun n => (wild, n, ⟨#[]⟩, 0) else (makeN (l :: r) ByteArray.empty).map fun n => (ex, n, ⟨#[]⟩, 0)
theorem StP.tg {S : SH} {b : Nat} {x t : Tg} {K : SH → Prop} (h : K ((b, .cells (elT t).toArray 29 (0, 0)) :: S)) :
    StP ((b, .cells (elT x).toArray 29 (0, 0)) :: S) ⟨b, 0, none⟩ [.int .i64 t.1, .string t.2.1, .string t.2.2.1, .int .i64 t.2.2.2] K :=
  StP.at0 (Nat.le_refl 4) rfl h
theorem tgC {I : IMem} {S : SH} {b : Nat} {t : Tg} : Cell I ((b, .cells (elT t).toArray 29 (0, 0)) :: S) ⟨b, 0, none⟩ (.int .i64 t.1) ∧ Cell I ((b, .cells (elT t).toArray 29 (0, 0)) :: S) ((⟨b, 0, none⟩ : Addr).add 1) (.string t.2.1) ∧
    Cell I ((b, .cells (elT t).toArray 29 (0, 0)) :: S) ((⟨b, 0, none⟩ : Addr).add 2) (.string t.2.2.1) ∧ Cell I ((b, .cells (elT t).toArray 29 (0, 0)) :: S) ((⟨b, 0, none⟩ : Addr).add 3) (.int .i64 t.2.2.2) :=
  ⟨Cell.at0 rfl, by rw [add_mk]; exact Cell.at0 rfl, by rw [add_mk]; exact Cell.at0 rfl, by rw [add_mk]; exact Cell.at0 rfl⟩
theorem named_runs {ls : List ByteArray} {a : Option Addr} {c : Nat} {ex wild : Int} (hew : wild ≠ ex) {I : IMem} {S : SH} (hx : RowIn I S a ls.length 1 elS ls) (hl : ls.length ≤ 1000000) (hlc : ls.length ≤ c) :
    Runs Tryd.prog 46 #[.slice a ls.length c, .int .i64 ex, .int .i64 wild] I S fun v _ T => v = resT (namedF ls ex wild) ∧ T = S := by
  refine Runs.drop (owner_named_fn _ _ _ _ _ _ _ _ ?_)
  unfold owner_named owner_named_b1
  intro b6
  have hx' := hx.sub ((Sub.refl S).skip (b6, .cells (elT t0).toArray 29 (0, 0)))
  have body : ∀ (us : List ByteArray) (p : Option Addr) (d : Nat) (kind : Int) (n : Nat), n = us.length → RowIn I ((b6, .cells (elT t0).toArray 29 (0, 0)) :: S) p us.length 1 elS us → us.length ≤ 1000000 →
      namedF ls ex wild = (if us = [] ∧ kind = ex then none else (makeN us ByteArray.empty).map fun n => (kind, n, ⟨#[]⟩, 0)) →
      owner_named_b3 (fun v J T => ∃ L, Sub L T ∧ v = resT (namedF ls ex wild) ∧ L = S) p n d ex ⟨b6, 0, none⟩ kind I ((b6, .cells (elT t0).toArray 29 (0, 0)) :: S) := by
    rintro us p d kind n rfl hu hul hnf
    unfold owner_named_b3 owner_named_b4
    refine (Make_runs hu (by omega)).mono ?_
    rintro v J T hle ⟨rfl, rfl⟩
    have bad : namedF ls ex wild = none → owner_named_b5 (fun v J T => ∃ L, Sub L T ∧ v = resT (namedF ls ex wild) ∧ L = S) ⟨b6, 0, none⟩ kind (match makeN us ByteArray.empty with | some n => n | none => ⟨#[]⟩) true J ((b6, .cells (elT t0).toArray 29 (0, 0)) :: S) := by
      intro h
      unfold owner_named_b5
      refine bcase_t rfl (StP.tg (x := t0) (t := t0) ?_)
      obtain ⟨c0, c1, c2, c3⟩ := tgC (I := J) (S := S) (b := b6) (t := t0)
      exact ⟨_, c0, _, c1, _, c2, _, c3, S, (Sub.refl _).skip _, by rw [h]; rfl, rfl⟩
    cases hm : makeN us ByteArray.empty with
    | none =>
      rw [hm] at hnf bad
      exact ⟨_, _, rfl, bcase_t rfl (bad (by rw [hnf]; split <;> rfl))⟩
    | some n =>
      rw [hm] at hnf bad
      have ok : ¬ (us = [] ∧ kind = ex) → owner_named_b5 (fun v J T => ∃ L, Sub L T ∧ v = resT (namedF ls ex wild) ∧ L = S) ⟨b6, 0, none⟩ kind n false J ((b6, .cells (elT t0).toArray 29 (0, 0)) :: S) := by
        intro h
        unfold owner_named_b5 owner_named_b6
        refine bcase_f rfl (StP.tg (x := t0) (t := (kind, n, ⟨#[]⟩, 0)) ?_)
        obtain ⟨c0, c1, c2, c3⟩ := tgC (I := J) (S := S) (b := b6) (t := ((kind, n, ⟨#[]⟩, 0) : Tg))
        exact ⟨_, c0, _, c1, _, c2, _, c3, S, (Sub.refl _).skip _, by rw [hnf, if_neg h]; rfl, rfl⟩
      refine ⟨_, _, rfl, bcase_f rfl (bcase_beq (fun h => ?_) (fun h => ok (fun e => h (by rw [e.1]; rfl))))⟩
      have hus : us = [] := List.eq_nil_of_length_eq_zero (by omega)
      by_cases hk : kind = ex
      · rw [show (kind == ex) = true by rw [hk]; simp]
        exact bad (by rw [hnf, if_pos ⟨hus, hk⟩])
      · rw [show (kind == ex) = false by simpa using hk]
        exact ok (fun e => hk e.2)
  refine bcase_dec (fun h => ?_) (fun h => ?_)
  · cases ls with
    | nil => simp at h
    | cons l r =>
      obtain ⟨a', rfl, hc⟩ := strRow hx' (k := 0) (x := l) rfl
      refine ⟨by omega, by omega, l, hc, ?_⟩
      unfold owner_named_b2
      rw [show (⟨#[42]⟩ : ByteArray) = starB from rfl, ba_dec]
      refine bcase_dec (fun e => ?_) (fun e => ?_)
      · refine ⟨by omega, by rw [List.length_cons]; omega, ?_⟩
        have hd := hx'.drop (j := 1) (by rw [List.length_cons]; omega) hlc
        rw [List.drop_succ_cons, List.drop_zero, List.length_cons, Nat.add_sub_cancel] at hd
        refine body r _ _ wild _ (by rw [List.length_cons]; rfl) hd (by rw [List.length_cons] at hl; omega) ?_
        rw [namedF, if_pos e, if_neg (fun h => hew h.2)]
      · refine body (l :: r) _ _ ex _ rfl hx' hl ?_
        rw [namedF, if_neg e, if_neg (fun h => by cases h.1)]
  · have hls : ls = [] := List.eq_nil_of_length_eq_zero (by omega)
    unfold owner_named_b2
    refine bcase_f rfl (body ls _ _ ex _ rfl hx' hl ?_)
    rw [hls, namedF, if_pos ⟨rfl, rfl⟩]
end Go.Proofs.YtkagfmlaolmdnaaDoor
