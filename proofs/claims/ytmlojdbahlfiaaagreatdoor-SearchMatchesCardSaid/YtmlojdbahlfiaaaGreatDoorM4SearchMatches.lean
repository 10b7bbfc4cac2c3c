/- owner.address and owner.Address, of all lists of words. -/
import Derived.Test.YtmlojdbahlfiaaaGreatDoorProg
import Derived.Test.YtmlojdbahlfiaaaGreatDoorM1SearchMatches
import Derived.Test.YtmlojdbahlfiaaaGreatDoorM2SearchMatches
import Derived.Test.YtmlojdbahlfiaaaGreatDoorM3SearchMatches
namespace Go.Proofs.YtmlojdbahlfiaaaGreatDoor
open Go.Px
set_option linter.unusedVariables false
set_option linter.unusedSimpArgs false
set_option maxRecDepth 8000

theorem addr_rev4 {ad : ByteArray} (h : ad.size = 4) : (addrL ad).reverse = (fourL ad).reverse := by rw [addrL, if_pos h]
theorem addr_rev16 {ad : ByteArray} (h : ad.size = 16) : (addrL ad).reverse = (sixL (wordsB ad)).reverse := by rw [addrL, if_neg (by omega)]
theorem six_b8 {ls us : List ByteArray} {p : Option Addr} {c : Nat} {I : IMem} (g : GL I) {S T0 : SH} (hS : Sub S T0) (hu : RowIn I S p us.length 1 elS us) (hsz : ∀ l ∈ us, l.size ≤ 281474976710656) {F : SH} (hF : Sub F S)
    (hX : adX ls fun ad => ad.size = 16 ∧ us = (wordsB ad).map hexB) :
    owner_address_b8 (fun v _ T => adRes ls F v T) p us.length c none 0 0 I T0 := by
  unfold owner_address_b8 owner_address_b9
  refine bcase_bne (fun h => adRes.no (fun ad h1 h2 => ?_) (hF.trans hS)) (fun h => hexs_runs g hS hu (by omega) hsz hF hX)
  have h3 := congrArg List.length (hX ad h1 h2).2
  rw [List.length_map, (wordsB_ws ad).len] at h3
  omega
theorem address_runs {ls : List ByteArray} {a : Option Addr} {c : Nat} {I : IMem} (g : GL I) {S : SH} (hx : RowIn I S a ls.length 1 elS ls) (hl : ls.length * 16 ≤ 140737488355328) (hsz : ∀ l ∈ ls, l.size ≤ 281474976710656) :
    Runs Tryz.prog 114 #[.slice a ls.length c] I S fun v _ T => adRes ls S v T := by
  refine owner_address_fn _ _ _ _ _ _ ?_
  unfold owner_address
  refine (ClS_runs hx hl).mono ?_
  rintro v J T hle ⟨own, ho, hs⟩
  obtain ⟨p, d, rfl⟩ := ho.slice
  refine ⟨_, _, _, rfl, Runs.use hs (RevO_runs ho (by omega) J S) ?_⟩
  rintro v J1 T1 hle1 ⟨rfl, own1, ho1, rfl⟩
  refine ⟨rfl, ?_⟩
  have hlen : ls.reverse.length = ls.length := List.length_reverse
  have hsz' : ∀ l ∈ ls.reverse, l.size ≤ 281474976710656 := fun l h => hsz l (List.mem_reverse.1 h)
  have g1 := (g.le hle).le hle1
  rw [← hlen] at ho1
  rw [← hlen]
  generalize hrs : ls.reverse = rs at ho1 hsz' hlen
  have hrow : ∀ {K : IMem} {T : SH}, Sub (own1 ++ S) T → RowIn K T p rs.length 1 elS rs := fun hs => (OwnS.row ho1).sub hs.left
  have isix : adX ls (fun ad => ad.size = 16) → adX ls (fun ad => ad.size = 16 ∧ repl rs = (wordsB ad).map hexB) := by
    intro h ad h1 h2
    have h3 := h ad h1 h2
    refine ⟨h3, ?_⟩
    rw [← hrs, h2, addr_rev16 h3, six_repl]
  have six : ∀ (J : IMem) (T : SH), GL J → Sub (own1 ++ S) T → adX ls (fun ad => ad.size = 16) → owner_address_b6 (fun v _ T => adRes ls S v T) p rs.length d none 0 0 J T := by
    intro J T g hs hX
    unfold owner_address_b6
    refine (Index_runs zzB (hrow hs) (by omega)).mono ?_
    rintro v J1 T1 hle1 ⟨rfl, rfl⟩
    have hr0 := isix hX
    rw [idxS]
    have plain : repl rs = rs → owner_address_b8 (fun v _ T => adRes ls S v T) p rs.length d none 0 0 J1 T1 := by
      intro e
      refine six_b8 (S := own1 ++ S) (g.le hle1) hs (hrow (Sub.refl _)) hsz' (Sub.right (Sub.refl _)) ?_
      rw [← e]; exact hr0
    cases hi : rs.findIdx? (fun x => decide (zzB = x)) with
    | none =>
      unfold owner_address_b7
      exact ⟨_, rfl, bcase_f rfl (bcase_f rfl (plain (by rw [repl, hi])))⟩
    | some k =>
      have hi' := hi
      rw [List.findIdx?_eq_some_iff_getElem] at hi
      obtain ⟨hk, hzk, _⟩ := hi
      refine ⟨_, rfl, bcase_t (decide_eq_true (by dsimp only; omega)) ?_⟩
      dsimp only
      unfold owner_address_b7
      refine bcase_dec (fun h7 => ?_) (fun h7 => plain (by rw [repl, hi']; dsimp only; rw [if_neg (by omega)]))
      intro b57
      have hcnt : IntKind.wrap .i64 (9 - (rs.length : Int)) = ((9 - rs.length : Nat) : Int) := by rw [wrap_i64 (by omega) (by omega)]; omega
      rw [hcnt]
      have hz1 : RowIn J1 ((b57, .cells #[.string zB] 9 (0, 0)) :: T1) (some ⟨b57, 0, none⟩) 1 1 elS [zB] :=
        (OwnS.row (I := J1) (OwnS.mk (xs := [zB]) (g := b57) (cap := 1) (rest := []) rfl (by decide))).sub ((Sub.refl _).re (by intro a; simp only [cnt_cons, cnt_app, cnt_nil]; exact Nat.le_add_right _ _))
      refine (Repeat_runs (cnt := 9 - rs.length) (by omega) (by omega) hz1).mono ?_
      rintro v J2 T2 hle2 ⟨h, rfl, rfl⟩
      have hk1 : IntKind.wrap .i64 ((k : Int) + 1) = (k : Int) + 1 := wrap_i64 (by omega) (by omega)
      rw [hk1]
      rcases OwnS.cases ho1 with ⟨_, _, _, hnil, _⟩ | ⟨gb, rest, rfl, _, rfl, hcap, hcm⟩
      · rw [hnil] at hk; simp at hk
      have hsplit : rs = rs.take k ++ zzB :: rs.drop (k + 1) := by
        conv => lhs; rw [← List.take_append_drop k rs, List.drop_eq_getElem_cons hk]
        rw [← of_decide_eq_true hzk]
      have hyl : (rs.take k).length = k := by rw [List.length_take]; omega
      have hrep := Replace_runs (ys := rs.take k) (vs := List.replicate (9 - rs.length) zB) (ws := rs.drop (k + 1)) (z := zzB) (g := gb) (h := h) (c := d) (d := 9 - rs.length) (rest := rest)
        (by simp; omega) (by rw [← hsplit]; exact hcap) hcm (by rw [hyl]; simp; omega) J2 S
      rw [← hsplit, hyl, List.length_replicate] at hrep
      refine ⟨_, _, _, rfl, Runs.use ?_ hrep ?_⟩
      · have hst : Sub ([(gb, .cells (strL rs ++ rest).toArray 9 (0, 0))] ++ S) T1 := hs
        exact ((hst.skip (b57, .cells #[.string zB] 9 (0, 0))).cons (h, .cells (strL (List.replicate (9 - rs.length) zB)).toArray 9 (0, 0))).re (by intro a; simp only [cnt_cons, cnt_app, cnt_nil]; omega)
      · rintro v J3 T3 hle3 ⟨own3, ho3, hs3⟩
        obtain ⟨p3, c3, rfl⟩ := ho3.slice
        refine ⟨_, _, _, rfl, ?_⟩
        have e : repl rs = rs.take k ++ List.replicate (9 - rs.length) zB ++ rs.drop (k + 1) := by
          rw [repl, hi']; dsimp only; rw [if_pos (by omega)]
        rw [← e] at ho3 ⊢
        refine six_b8 (S := own3 ++ S) (((g.le hle1).le hle2).le hle3) hs3 ((OwnS.row ho3).sub (Sub.left (Sub.refl _))) ?_ (Sub.right (Sub.refl _)) hr0
        intro l hl
        rw [e] at hl
        rcases List.mem_append.1 hl with hl | hl
        · rcases List.mem_append.1 hl with hl | hl
          · exact hsz' l (List.mem_of_mem_take hl)
          · rw [(List.mem_replicate.1 hl).2]; decide
        · exact hsz' l (List.mem_of_mem_drop hl)
  unfold owner_address_b1
  refine bcase_beq (fun h4 => ?_) (fun h4 => ?_)
  · refine (Contains_runs zzB (hrow (Sub.refl _)) (by omega)).mono ?_
    rintro v J2 T2 hle2 ⟨rfl, rfl⟩
    refine ⟨_, rfl, ?_⟩
    unfold owner_address_b2
    refine bcase_not (bcase_of (fun hz => ?_) (fun hz => ?_))
    · refine six _ _ (g1.le hle2) (Sub.refl _) (fun ad h1 h2 => ?_)
      rcases h1 with h1 | h1
      · rw [← hrs, h2, addr_rev4 h1, four_has] at hz; cases hz
      · exact h1
    · refine decs_runs (S := own1 ++ S) (g1.le hle2) (Sub.refl _) (hrow (Sub.refl _)) (by omega) hsz' (Sub.right (Sub.refl _)) (fun ad h1 h2 => ?_)
      rcases h1 with h1 | h1
      · refine ⟨h1, fun k hk => ?_⟩
        rw [← hrs, h2, addr_rev4 h1]; exact fourR_at ad hk
      · have h5 := six_has ad
        rw [← addr_rev16 h1, ← h2, hrs] at h5
        rw [h5 (by omega)] at hz; cases hz
  · unfold owner_address_b2
    refine bcase_f rfl (six _ _ g1 (Sub.refl _) (fun ad h1 h2 => ?_))
    rcases h1 with h1 | h1
    · have := congrArg List.length hrs
      rw [h2, addr_rev4 h1] at this
      rw [four_rev] at this
      simp at this; omega
    · exact h1

/-! ### Address -/
def AdR (ls : List ByteArray) (v : Value) : Prop :=
  (∃ (a : ByteArray) (n : Int), mayP a n ∧ ls = pfxL a n ∧ v = .tuple #[.agg #[.string a, .int .i64 n], .bool true]) ∨ ((∀ a n, mayP a n → ls ≠ pfxL a n) ∧ v = .tuple #[.agg #[.string ⟨#[]⟩, .int .i64 0], .bool false])
theorem pfxL_may {a : ByteArray} {n : Int} (h : mayP a n) : pfxL a n = decB n.toNat :: addrL a := by rw [pfxL, if_pos (mayB_iff.2 h)]
theorem addrL_len (a : ByteArray) : 1 ≤ (addrL a).length := by
  rw [addrL]
  split
  · simp [fourL]
  · have hws := wordsB_ws a
    have hg := good_of hws.zlen
    simp only [goodZ, Bool.and_eq_true, decide_eq_true_eq] at hg
    obtain ⟨⟨⟨⟨⟨⟨⟨⟨⟨⟨⟨⟨⟨⟨-, -⟩, -⟩, -⟩, -⟩, -⟩, h1⟩, -⟩, -⟩, -⟩, -⟩, -⟩, -⟩, -⟩, -⟩ := hg
    have := congrArg List.length (six_rev hws)
    rw [List.length_reverse, List.length_map] at this
    omega
theorem Address_runs {ls : List ByteArray} {a : Option Addr} {c : Nat} {I : IMem} (g : GL I) {S : SH} (hx : RowIn I S a ls.length 1 elS ls) (hl : ls.length * 16 ≤ 140737488355328) (hlc : ls.length ≤ c) (hsz : ∀ l ∈ ls, l.size ≤ 281474976710656) :
    Runs Tryz.prog 96 #[.slice a ls.length c] I S fun v _ T => AdR ls v ∧ Sub S T := by
  refine owner_Address_fn _ _ _ _ _ _ ?_
  unfold owner_Address
  intro b2
  refine bcase_dec (fun h => ?_) (fun h => ?_)
  · refine StP.at0 (by decide) rfl ⟨_, Cell.at0 rfl, _, Cell.at0 rfl, .inr ⟨fun a n hm e => ?_, rfl⟩, (Sub.refl _).skip _⟩
    have h1 := congrArg List.length e
    have h2 := addrL_len a
    rw [pfxL_may hm, List.length_cons] at h1
    omega
  · obtain ⟨l0, hl0⟩ := get_lt (xs := ls) (k := 0) (by omega)
    obtain ⟨a', rfl, hc⟩ := strRow (hx.sub ((Sub.refl S).skip (b2, .cells #[.string ⟨#[]⟩, .int .i64 0] 31 (0, 0)))) hl0
    obtain ⟨l1, lr, rfl⟩ : ∃ l1 lr, ls = l1 :: lr := by
      cases ls with
      | nil => simp at hl0
      | cons x xs => exact ⟨x, xs, rfl⟩
    have e0 : l1 = l0 := Option.some.inj hl0
    subst e0
    refine ⟨by omega, by rw [List.length_cons]; omega, l1, hc, (dec_runs g l1 (hsz l1 (List.mem_cons_self ..)) 128 (by decide) _).mono ?_⟩
    rintro v J T hle ⟨n, ok, rfl, hn, hs⟩
    refine ⟨n, ok, rfl, by omega, by rw [List.length_cons]; omega, ?_⟩
    have e1 : (1 : Int).toNat = 1 := rfl
    rw [e1]
    have hrow2 := (hx.drop (j := 1) (by rw [List.length_cons]; omega) hlc)
    rw [List.drop_succ_cons, List.drop_zero, List.length_cons, Nat.add_sub_cancel] at hrow2
    rw [List.length_cons, Nat.add_sub_cancel]
    rw [List.length_cons] at hl hlc
    have hST : Sub S T := hs.drop
    refine (address_runs (g.le hle) ((hrow2.sub hST).le hle) (by omega) (fun l h => hsz l (List.mem_cons_of_mem _ h))).mono ?_
    rintro v J1 T1 hle1 ⟨s, is, rfl, hX, hs1⟩
    have hs2 : Sub ((b2, .cells #[.string ⟨#[]⟩, .int .i64 0] 31 (0, 0)) :: S) T1 := hs.trans hs1
    refine ⟨s, is, rfl, fun b8 => StP.at0 (Nat.le_refl 2) rfl ?_⟩
    have key : ∀ a m, mayP a m → l1 :: lr = pfxL a m → n = m ∧ ok = true ∧ s = a ∧ is = true := by
      intro a m hm e
      rw [pfxL_may hm] at e
      injection e with e2 e3
      obtain ⟨⟨h1, h2, h3⟩, _⟩ := hm
      obtain ⟨h4, h5⟩ := hn m.toNat (by omega) e2
      obtain ⟨h6, h7⟩ := hX a h1 e3
      exact ⟨by omega, h5, h6, h7⟩
    have no : (∀ a m, mayP a m → l1 :: lr ≠ pfxL a m) → ∀ (J2 : IMem) (T2 : SH), Sub ((b8, .cells #[.string s, .int .i64 n] 31 (0, 0)) :: (b2, .cells #[.string ⟨#[]⟩, .int .i64 0] 31 (0, 0)) :: S) T2 →
        owner_Address_b2 (fun v _ T => AdR (l1 :: lr) v ∧ Sub S T) ⟨b2, 0, none⟩ ⟨b8, 0, none⟩ true J2 T2 := by
      intro hno J2 T2 hs3
      unfold owner_Address_b2
      refine bcase_t rfl (StP.of_sub (hs3.drop) (StP.at0 (by decide) rfl ?_))
      intro T3 hs4
      exact ⟨_, hs4.cell' (Cell.at0 rfl), _, hs4.cell' (by rw [add_mk]; exact Cell.at0 rfl), .inr ⟨hno, rfl⟩, hs4.drop⟩
    have hs5 : Sub ((b8, .cells #[.string s, .int .i64 n] 31 (0, 0)) :: (b2, .cells #[.string ⟨#[]⟩, .int .i64 0] 31 (0, 0)) :: S) ((b8, .cells #[.string s, .int .i64 n] 31 (0, 0)) :: T1) := hs2.cons _
    unfold owner_Address_b1
    refine bcase_not (bcase_of (fun hok => bcase_not (bcase_of (fun his => ?_) (fun his => no (fun a m hm e => ?_) J1 _ hs5))) (fun hok => no (fun a m hm e => ?_) J1 _ hs5))
    · refine ⟨_, Cell.at0 rfl, _, Cell.at0 rfl, (Prefix_runs ((g.le hle).le hle1) s n _).mono ?_⟩
      rintro v J2 T2 hle2 ⟨own, ho, hs6⟩
      obtain ⟨p, d, rfl⟩ := ho.slice
      have hST2 : Sub ((b8, .cells #[.string s, .int .i64 n] 31 (0, 0)) :: (b2, .cells #[.string ⟨#[]⟩, .int .i64 0] 31 (0, 0)) :: S) T2 := hs5.trans hs6.right
      have hrow3 : RowIn J2 T2 (some a') (l1 :: lr).length 1 elS (l1 :: lr) := (((hx.le hle).le hle1).le hle2).sub (hST2.drop.drop)
      have hlp : (pfxL s n).length ≤ 4611686018427387904 := by
        rw [pfxL]
        split
        · rw [List.length_cons, addrL]
          split
          · simp [fourL]
          · have := sixL_len s; omega
        · simp
      refine ⟨_, _, _, rfl, (Equal_runs ((OwnS.row ho).sub hs6.left) hrow3 hlp).mono ?_⟩
      rintro v J3 T3 hle3 ⟨rfl, rfl⟩
      refine ⟨_, rfl, ?_⟩
      by_cases he : pfxL s n = l1 :: lr
      · rw [decide_eq_true he]
        have hm : mayP s n := by
          refine mayB_iff.1 ?_
          cases hb : mayB s n
          · rw [pfxL, hb] at he; simp at he
          · rfl
        unfold owner_Address_b2 owner_Address_b3
        refine bcase_f rfl ⟨_, hST2.cell' (Cell.at0 rfl), _, hST2.cell' (by rw [add_mk]; exact Cell.at0 rfl), ?_⟩
        refine StP.of_sub (hST2.drop) (StP.at0 (Nat.le_refl 2) rfl ?_)
        intro T4 hs7
        exact ⟨_, hs7.cell' (Cell.at0 rfl), _, hs7.cell' (by rw [add_mk]; exact Cell.at0 rfl), .inl ⟨s, n, hm, he.symm, rfl⟩, hs7.drop⟩
      · rw [decide_eq_false he]
        refine no (fun a m hm e => he ?_) J3 T3 hST2
        obtain ⟨k1, _, k2, _⟩ := key a m hm e
        rw [k1, k2]; exact e.symm
    · obtain ⟨_, _, _, k⟩ := key a m hm e
      rw [k] at his; cases his
    · obtain ⟨_, k, _, _⟩ := key a m hm e
      rw [k] at hok; cases hok
end Go.Proofs.YtmlojdbahlfiaaaGreatDoor
/- Names as triggers: owner.kinds, owner.named, owner.Decode. -/
namespace Go.Proofs.YtmlojdbahlfiaaaGreatDoor
open Go.Px
set_option linter.unusedVariables false
set_option linter.unusedSimpArgs false
set_option maxRecDepth 8000

/-! ### a prefix by its labels -/
theorem addr_inj {a b : ByteArray} (ha : a.size = 4 ∨ a.size = 16) (hb : b.size = 4 ∨ b.size = 16) (h : addrL a = addrL b) : a = b := by
  have key : ∀ x y : ByteArray, x.size = y.size → (∀ k, k < x.size → bat x k = bat y k) → x = y := by
    intro x y hs hk
    refine bext (List.ext_getElem? fun i => ?_)
    rw [← ba_get, ← ba_get]
    by_cases hi : i < x.size
    · obtain ⟨c, hc⟩ := at_ok hi
      obtain ⟨d, hd⟩ := at_ok (s := y) (k := i) (by omega)
      have := hk i hi
      rw [bat_of hc, bat_of hd] at this
      rw [hc, hd, UInt8.toNat_inj.1 this]
    · rw [at_none (by omega), at_none (by omega)]
  rcases ha with ha | ha <;> rcases hb with hb | hb
  · rw [addrL, addrL, if_pos ha, if_pos hb, fourL, fourL] at h
    simp only [List.cons.injEq, and_true] at h
    obtain ⟨h3, h2, h1, h0⟩ := h
    refine key a b (by omega) fun k hk => ?_
    rcases (show k = 0 ∨ k = 1 ∨ k = 2 ∨ k = 3 by omega) with rfl | rfl | rfl | rfl
    · exact decB_inj (bat_le _ _) (bat_le _ _) h0
    · exact decB_inj (bat_le _ _) (bat_le _ _) h1
    · exact decB_inj (bat_le _ _) (bat_le _ _) h2
    · exact decB_inj (bat_le _ _) (bat_le _ _) h3
  · have h1 := congrArg List.reverse h
    rw [addr_rev4 ha, addr_rev16 hb] at h1
    have h2 := four_has a
    rw [h1, six_has b (by rw [← h1]; rfl)] at h2; cases h2
  · have h1 := congrArg List.reverse h
    rw [addr_rev16 ha, addr_rev4 hb] at h1
    have h2 := four_has b
    rw [← h1, six_has a (by rw [h1]; rfl)] at h2; cases h2
  · have h1 := congrArg List.reverse h
    rw [addr_rev16 ha, addr_rev16 hb] at h1
    have h2 := congrArg repl h1
    rw [six_repl, six_repl] at h2
    refine key a b (by omega) fun k hk => ?_
    have hkk : k / 2 < 8 := by omega
    have h3 := congrArg (fun l : List ByteArray => l[k / 2]?) h2
    simp only [List.getElem?_map, wordsB_at a hkk, wordsB_at b hkk, Option.map_some, Option.some.injEq] at h3
    have b1 := bat_lt a (2 * (k / 2)); have b2 := bat_lt a (2 * (k / 2) + 1); have b3 := bat_lt b (2 * (k / 2)); have b4 := bat_lt b (2 * (k / 2) + 1)
    have h4 := hexB_inj (by omega) (by omega) h3
    rcases (show k = 2 * (k / 2) ∨ k = 2 * (k / 2) + 1 by omega) with e | e
    · rw [e]; omega
    · rw [e]; omega
theorem pfx_inj {a b : ByteArray} {n m : Int} (ha : mayP a n) (hb : mayP b m) (h : pfxL a n = pfxL b m) : a = b ∧ n = m := by
  rw [pfxL_may ha, pfxL_may hb] at h
  injection h with h1 h2
  obtain ⟨⟨ha1, ha2, ha3⟩, _⟩ := ha
  obtain ⟨⟨hb1, hb2, hb3⟩, _⟩ := hb
  have := decB_inj (by omega) (by omega) h1
  exact ⟨addr_inj ha1 hb1 h2, by omega⟩
open Classical in
noncomputable def adrF (ls : List ByteArray) : Option (ByteArray × Int) := if h : ∃ p : ByteArray × Int, mayP p.1 p.2 ∧ ls = pfxL p.1 p.2 then some h.choose else none
theorem adrF_pfx {a : ByteArray} {n : Int} (h : mayP a n) : adrF (pfxL a n) = some (a, n) := by
  have hx : ∃ p : ByteArray × Int, mayP p.1 p.2 ∧ pfxL a n = pfxL p.1 p.2 := ⟨(a, n), h, rfl⟩
  rw [adrF, dif_pos hx]
  obtain ⟨h1, h2⟩ := hx.choose_spec
  obtain ⟨h3, h4⟩ := pfx_inj h h1 h2
  congr 1
  exact Prod.ext h3.symm h4.symm
theorem adrF_some {ls : List ByteArray} {p : ByteArray × Int} (h : adrF ls = some p) : mayP p.1 p.2 ∧ ls = pfxL p.1 p.2 := by
  rw [adrF] at h
  split at h
  · rename_i hx
    rw [← Option.some.inj h]; exact hx.choose_spec
  · cases h
def adV : Option (ByteArray × Int) → Value
  | some p => .tuple #[.agg #[.string p.1, .int .i64 p.2], .bool true]
  | none => .tuple #[.agg #[.string ⟨#[]⟩, .int .i64 0], .bool false]
theorem AdR_val {ls : List ByteArray} {v : Value} (h : AdR ls v) : v = adV (adrF ls) := by
  rcases h with ⟨a, n, hm, rfl, rfl⟩ | ⟨h, rfl⟩
  · rw [adrF_pfx hm]; rfl
  · cases hx : adrF ls with
    | none => rfl
    | some p => exact absurd (adrF_some hx).2 (h _ _ (adrF_some hx).1)

/-! ### triggers -/
abbrev Tg := Int × ByteArray × ByteArray × Int
def t0 : Tg := (0, ⟨#[]⟩, ⟨#[]⟩, 0)
def vT (t : Tg) : Value := .agg #[.int .i64 t.1, .string t.2.1, .string t.2.2.1, .int .i64 t.2.2.2]
def elT (t : Tg) : List Value := [.int .i64 t.1, .string t.2.1, .string t.2.2.1, .int .i64 t.2.2.2]
def resT : Option Tg → Value
  | some t => .tuple #[vT t, .bool true]
  | none => .tuple #[vT t0, .bool false]
def starB : ByteArray := ⟨#[42]⟩
def cB : ByteArray := ⟨#[114, 112, 122, 45, 99, 108, 105, 101, 110, 116, 45, 105, 112]⟩
def ipB : ByteArray := ⟨#[114, 112, 122, 45, 105, 112]⟩
def ndB : ByteArray := ⟨#[114, 112, 122, 45, 110, 115, 100, 110, 97, 109, 101]⟩
def niB : ByteArray := ⟨#[114, 112, 122, 45, 110, 115, 105, 112]⟩
def kE (b : Nat) (k : Int) (w : ByteArray) : MapEntry := { key := .int .i64 k, val := .string w, born := b }
def kindsE : Array MapEntry := #[kE 0 0 cB, kE 1 3 ipB, kE 2 4 ndB, kE 3 6 niB]
theorem kinds_runs (I : IMem) (S : SH) : Runs Tryz.prog 70 #[] I S fun v _ T => ∃ r, v = .map (some r) ∧ T = (r, .map kindsE 4) :: S := by
  refine owner_kinds_fn _ _ _ ?_
  unfold owner_kinds
  intro r1
  exact ⟨r1, 0, _, _, _, _, rfl, rfl, rfl, r1, 0, _, _, _, _, rfl, rfl, rfl, r1, 0, _, _, _, _, rfl, rfl, rfl, r1, 0, _, _, _, _, rfl, rfl, rfl, r1, rfl, rfl⟩
def namedF (ls : List ByteArray) (ex wild : Int) : Option Tg := match ls with
  | [] => none
  | l :: r => if l = starB then (makeN r ByteArray.empty).map fun n => (wild, n, ⟨#[]⟩, 0) else (makeN (l :: r) ByteArray.empty).map fun n => (ex, n, ⟨#[]⟩, 0)
theorem StP.tg {S : SH} {b : Nat} {x t : Tg} {K : SH → Prop} (h : K ((b, .cells (elT t).toArray 33 (0, 0)) :: S)) :
    StP ((b, .cells (elT x).toArray 33 (0, 0)) :: S) ⟨b, 0, none⟩ [.int .i64 t.1, .string t.2.1, .string t.2.2.1, .int .i64 t.2.2.2] K :=
  StP.at0 (Nat.le_refl 4) rfl h
theorem tgC {I : IMem} {S : SH} {b : Nat} {t : Tg} : Cell I ((b, .cells (elT t).toArray 33 (0, 0)) :: S) ⟨b, 0, none⟩ (.int .i64 t.1) ∧ Cell I ((b, .cells (elT t).toArray 33 (0, 0)) :: S) ((⟨b, 0, none⟩ : Addr).add 1) (.string t.2.1) ∧
    Cell I ((b, .cells (elT t).toArray 33 (0, 0)) :: S) ((⟨b, 0, none⟩ : Addr).add 2) (.string t.2.2.1) ∧ Cell I ((b, .cells (elT t).toArray 33 (0, 0)) :: S) ((⟨b, 0, none⟩ : Addr).add 3) (.int .i64 t.2.2.2) :=
  ⟨Cell.at0 rfl, by rw [add_mk]; exact Cell.at0 rfl, by rw [add_mk]; exact Cell.at0 rfl, by rw [add_mk]; exact Cell.at0 rfl⟩
theorem named_runs {ls : List ByteArray} {a : Option Addr} {c : Nat} {ex wild : Int} (hew : wild ≠ ex) {I : IMem} {S : SH} (hx : RowIn I S a ls.length 1 elS ls) (hl : ls.length ≤ 1000000) (hlc : ls.length ≤ c) :
    Runs Tryz.prog 95 #[.slice a ls.length c, .int .i64 ex, .int .i64 wild] I S fun v _ T => v = resT (namedF ls ex wild) ∧ T = S := by
  refine Runs.drop (owner_named_fn _ _ _ _ _ _ _ _ ?_)
  unfold owner_named owner_named_b1
  intro b6
  have hx' := hx.sub ((Sub.refl S).skip (b6, .cells (elT t0).toArray 33 (0, 0)))
  have body : ∀ (us : List ByteArray) (p : Option Addr) (d : Nat) (kind : Int) (n : Nat), n = us.length → RowIn I ((b6, .cells (elT t0).toArray 33 (0, 0)) :: S) p us.length 1 elS us → us.length ≤ 1000000 →
      namedF ls ex wild = (if us = [] ∧ kind = ex then none else (makeN us ByteArray.empty).map fun n => (kind, n, ⟨#[]⟩, 0)) →
      owner_named_b3 (fun v J T => ∃ L, Sub L T ∧ v = resT (namedF ls ex wild) ∧ L = S) p n d ex ⟨b6, 0, none⟩ kind I ((b6, .cells (elT t0).toArray 33 (0, 0)) :: S) := by
    rintro us p d kind n rfl hu hul hnf
    unfold owner_named_b3 owner_named_b4
    refine (Make_runs hu (by omega)).mono ?_
    rintro v J T hle ⟨rfl, rfl⟩
    have bad : namedF ls ex wild = none → owner_named_b5 (fun v J T => ∃ L, Sub L T ∧ v = resT (namedF ls ex wild) ∧ L = S) ⟨b6, 0, none⟩ kind (match makeN us ByteArray.empty with | some n => n | none => ⟨#[]⟩) true J ((b6, .cells (elT t0).toArray 33 (0, 0)) :: S) := by
      intro h
      unfold owner_named_b5
      refine bcase_t rfl (StP.tg (x := t0) (t := t0) ?_)
      obtain ⟨c0, c1, c2, c3⟩ := tgC (I := J) (S := S) (b := b6) (t := t0)
      exact ⟨_, c0, _, c1, _, c2, _, c3, S, (Sub.refl _).skip _, by rw [h]; rfl, rfl⟩
    cases hm : makeN us ByteArray.empty with
    | none =>
      rw [hm] at hnf bad
      exact ⟨_, _, rfl, bcase_t rfl (bad (by rw [hnf]; split <;> rfl))⟩
    | some n =>
      rw [hm] at hnf bad
      have ok : ¬ (us = [] ∧ kind = ex) → owner_named_b5 (fun v J T => ∃ L, Sub L T ∧ v = resT (namedF ls ex wild) ∧ L = S) ⟨b6, 0, none⟩ kind n false J ((b6, .cells (elT t0).toArray 33 (0, 0)) :: S) := by
        intro h
        unfold owner_named_b5 owner_named_b6
        refine bcase_f rfl (StP.tg (x := t0) (t := (kind, n, ⟨#[]⟩, 0)) ?_)
        obtain ⟨c0, c1, c2, c3⟩ := tgC (I := J) (S := S) (b := b6) (t := ((kind, n, ⟨#[]⟩, 0) : Tg))
        exact ⟨_, c0, _, c1, _, c2, _, c3, S, (Sub.refl _).skip _, by rw [hnf, if_neg h]; rfl, rfl⟩
      refine ⟨_, _, rfl, bcase_f rfl (bcase_beq (fun h => ?_) (fun h => ok (fun e => h (by rw [e.1]; rfl))))⟩
      have hus : us = [] := List.eq_nil_of_length_eq_zero (by omega)
      by_cases hk : kind = ex
      · rw [show (kind == ex) = true by rw [hk]; simp]
        exact bad (by rw [hnf, if_pos ⟨hus, hk⟩])
      · rw [show (kind == ex) = false by simpa using hk]
        exact ok (fun e => hk e.2)
  refine bcase_dec (fun h => ?_) (fun h => ?_)
  · cases ls with
    | nil => simp at h
    | cons l r =>
      obtain ⟨a', rfl, hc⟩ := strRow hx' (k := 0) (x := l) rfl
      refine ⟨by omega, by omega, l, hc, ?_⟩
      unfold owner_named_b2
      rw [show (⟨#[42]⟩ : ByteArray) = starB from rfl, ba_dec]
      refine bcase_dec (fun e => ?_) (fun e => ?_)
      · refine ⟨by omega, by rw [List.length_cons]; omega, ?_⟩
        have hd := hx'.drop (j := 1) (by rw [List.length_cons]; omega) hlc
        rw [List.drop_succ_cons, List.drop_zero, List.length_cons, Nat.add_sub_cancel] at hd
        refine body r _ _ wild _ (by rw [List.length_cons]; rfl) hd (by rw [List.length_cons] at hl; omega) ?_
        rw [namedF, if_pos e, if_neg (fun h => hew h.2)]
      · refine body (l :: r) _ _ ex _ rfl hx' hl ?_
        rw [namedF, if_neg e, if_neg (fun h => by cases h.1)]
  · have hls : ls = [] := List.eq_nil_of_length_eq_zero (by omega)
    unfold owner_named_b2
    refine bcase_f rfl (body ls _ _ ex _ rfl hx' hl ?_)
    rw [hls, namedF, if_pos ⟨rfl, rfl⟩]
end Go.Proofs.YtmlojdbahlfiaaaGreatDoor
/- Names as triggers, triggers as names: owner.Decode, owner.Encode. -/
namespace Go.Proofs.YtmlojdbahlfiaaaGreatDoor
open Go.Px
set_option linter.unusedVariables false
set_option linter.unusedSimpArgs false
set_option maxRecDepth 8000

def kindOf (w : ByteArray) : Option Int := if w = cB then some 0 else if w = ipB then some 3 else if w = ndB then some 4 else if w = niB then some 6 else none
noncomputable def decL (ls : List ByteArray) : Option Tg := match ls.getLast? with
  | none => none
  | some w => match kindOf w with
    | none => namedF ls 1 2
    | some k => if k = 4 then namedF ls.dropLast 4 5 else (adrF ls.dropLast).map fun p => (k, ⟨#[]⟩, p.1, p.2)
noncomputable def decF (n : ByteArray) : Option Tg := match labN n with
  | none => none
  | some ls => decL ls
theorem setT {b : Nat} {S T : SH} {I : IMem} {t x : Tg} {K : Value → SH → Prop} (hs : Sub ((b, .cells (elT x).toArray 33 (0, 0)) :: S) T) (h : ∀ T', Sub S T' → K (vT t) T') :
    StP T ⟨b, 0, none⟩ [.int .i64 t.1, .string t.2.1, .string t.2.2.1, .int .i64 t.2.2.2] fun S1 =>
      ∃ r0, Cell I S1 ⟨b, 0, none⟩ (.int .i64 r0) ∧ ∃ r1, Cell I S1 ((⟨b, 0, none⟩ : Addr).add 1) (.string r1) ∧ ∃ r2, Cell I S1 ((⟨b, 0, none⟩ : Addr).add 2) (.string r2) ∧ ∃ r3, Cell I S1 ((⟨b, 0, none⟩ : Addr).add 3) (.int .i64 r3) ∧
      K (.agg #[.int .i64 r0, .string r1, .string r2, .int .i64 r3]) S1 := by
  refine StP.of_sub hs (StP.tg (x := x) (t := t) ?_)
  intro T' hs'
  obtain ⟨c0, c1, c2, c3⟩ := tgC (I := I) (S := S) (b := b) (t := t)
  exact ⟨_, hs'.cell' c0, _, hs'.cell' c1, _, hs'.cell' c2, _, hs'.cell' c3, h T' hs'.drop⟩
theorem kE_mem {e : MapEntry} (h : e ∈ kindsE) : e = kE 0 0 cB ∨ e = kE 1 3 ipB ∨ e = kE 2 4 ndB ∨ e = kE 3 6 niB := by
  simpa [kindsE] using h
theorem labs_ok {n : ByteArray} {ls : List ByteArray} (h : labN n = some ls) : ls.length ≤ 254 ∧ ∀ l ∈ ls, l.size ≤ 63 := by
  obtain ⟨h1, h2, h3⟩ := labN_some h
  refine ⟨?_, fun l hl => (h2 l hl).hi⟩
  have := wire_len ls
  rw [h1, nm_size] at h3
  omega
theorem OwnS.cap {a : Option Addr} {n c : Nat} {xs : List ByteArray} {own : SH} (h : OwnS (.slice a n c) xs own) : xs.length ≤ c := by
  rcases OwnS.cases h with ⟨_, _, rfl, rfl, _⟩ | ⟨_, rest, _, _, _, hc, _⟩
  · exact Nat.le_refl 0
  · omega
theorem kind_not {w : ByteArray} (h1 : cB ≠ w) (h2 : ipB ≠ w) (h3 : ndB ≠ w) (h4 : niB ≠ w) : kindOf w = none := by
  rw [kindOf, if_neg (fun e => h1 e.symm), if_neg (fun e => h2 e.symm), if_neg (fun e => h3 e.symm), if_neg (fun e => h4 e.symm)]
theorem kind_c : kindOf cB = some 0 := by decide +kernel
theorem kind_ip : kindOf ipB = some 3 := by decide +kernel
theorem kind_nd : kindOf ndB = some 4 := by decide +kernel
theorem kind_ni : kindOf niB = some 6 := by decide +kernel
/-- how many kinds were not looked at -/
def unseen (seen : Array Nat) : Nat := (kindsE.toList.filter fun e => !seen.contains e.born).length
theorem unseen_lt {seen : Array Nat} {e : MapEntry} (he : e ∈ kindsE) (hn : seen.contains e.born = false) : unseen (seen.push e.born) < unseen seen := by
  have hsub : ∀ l : List MapEntry, (l.filter fun x => !(seen.push e.born).contains x.born).length ≤ (l.filter fun x => !seen.contains x.born).length ∧
      (e ∈ l → (l.filter fun x => !(seen.push e.born).contains x.born).length < (l.filter fun x => !seen.contains x.born).length) := by
    intro l
    induction l with
    | nil => exact ⟨Nat.le_refl _, fun h => by cases h⟩
    | cons x l ih =>
      have hx : (seen.push e.born).contains x.born = (seen.contains x.born || x.born == e.born) := by
        rw [Bool.eq_iff_iff]; simp [or_comm]
      rw [List.filter_cons, List.filter_cons, hx]
      by_cases h1 : seen.contains x.born = true
      · rw [h1]
        simp only [Bool.true_or, Bool.not_true, Bool.false_eq_true, if_false]
        refine ⟨ih.1, fun h => ?_⟩
        rcases List.mem_cons.1 h with rfl | h
        · rw [hn] at h1; cases h1
        · exact ih.2 h
      · have h1 : seen.contains x.born = false := by simpa using h1
        rw [h1]
        simp only [Bool.false_or, Bool.not_false, if_true, List.length_cons]
        by_cases h2 : x.born = e.born
        · rw [show (x.born == e.born) = true by simp [h2]]
          simp only [Bool.not_true, Bool.false_eq_true, if_false]
          exact ⟨by have := ih.1; omega, fun _ => by have := ih.1; omega⟩
        · rw [show (x.born == e.born) = false by simp [h2]]
          simp only [Bool.not_false, if_true, List.length_cons]
          refine ⟨by have := ih.1; omega, fun h => ?_⟩
          rcases List.mem_cons.1 h with rfl | h
          · exact absurd rfl h2
          · have := ih.2 h; omega
  exact (hsub kindsE.toList).2 (by simpa using he)
theorem Decode_runs (n : ByteArray) {I : IMem} (g : GL I) (S : SH) : Runs Tryz.prog 61 #[.string n] I S fun v _ T => v = resT (decF n) ∧ T = S := by
  refine Runs.drop (owner_Decode_fn _ _ _ _ ?_)
  unfold owner_Decode
  intro b2
  refine (Labels_runs n I _).mono ?_
  rintro v J T hle ⟨own, hcase, hs⟩
  have hsB : Sub ((b2, .cells (elT t0).toArray 33 (0, 0)) :: S) T := hs.right
  have none_ : ∀ (p : Option Addr) (m c : Nat), decF n = none → owner_Decode_b2 (fun v J T => ∃ L, Sub L T ∧ v = resT (decF n) ∧ L = S) ⟨b2, 0, none⟩ p m c true J T := by
    intro p m c h
    unfold owner_Decode_b2
    refine bcase_t rfl (setT (t := t0) (K := fun v T => ∃ L, Sub L T ∧ Value.tuple #[v, .bool false] = resT (decF n) ∧ L = S) hsB ?_)
    intro T' hs'
    exact ⟨S, hs', by rw [h]; rfl, rfl⟩
  unfold owner_Decode_b1
  rcases hcase with ⟨hl, rfl, rfl⟩ | ⟨ls, p, m, c, hl, rfl, ho⟩
  · exact ⟨_, _, _, _, rfl, bcase_t rfl (none_ _ _ _ (by rw [decF, hl]))⟩
  · refine ⟨_, _, _, _, rfl, bcase_f rfl ?_⟩
    have hdf : decF n = decL ls := by rw [decF, hl]
    obtain ⟨hll, hsz⟩ := labs_ok hl
    have hm := ho.len
    subst hm
    have hcap := OwnS.cap ho
    by_cases h0 : ls.length = 0
    · have : ls = [] := List.eq_nil_of_length_eq_zero h0
      rw [show ((ls.length : Int) == 0) = true by rw [h0]; rfl]
      exact none_ _ _ _ (by rw [hdf, this]; rfl)
    have hne : ((ls.length : Int) == 0) = false := by
      rw [beq_eq_false_iff_ne]; omega
    rw [hne]
    obtain ⟨w, hw⟩ := get_lt (xs := ls) (k := ls.length - 1) (by omega)
    have hlast : ls.getLast? = some w := by rw [List.getLast?_eq_getElem?]; exact hw
    have hrow : ∀ {K : IMem} {T : SH}, Sub (own ++ (b2, .cells (elT t0).toArray 33 (0, 0)) :: S) T → RowIn K T p ls.length 1 elS ls := fun hs => (OwnS.row ho).sub hs.left
    unfold owner_Decode_b2 owner_Decode_b3
    refine bcase_f rfl ?_
    rw [wrap_i64 (x := (ls.length : Int) - 1) (by omega) (by omega)]
    have e1 : ((ls.length : Int) - 1).toNat = ls.length - 1 := by omega
    rw [e1, slA_zero]
    obtain ⟨a', rfl, hc⟩ := strRow (hrow (K := J) hs) hw
    refine ⟨by omega, by omega, w, hc, by omega, by omega, ?_⟩
    rw [Nat.sub_zero, Nat.sub_zero]
    have hdl : ls.dropLast = ls.take (ls.length - 1) := List.dropLast_eq_take
    have hdll : ls.dropLast.length = ls.length - 1 := List.length_dropLast
    have hrow2 : ∀ {K : IMem} {T : SH}, Sub (own ++ (b2, .cells (elT t0).toArray 33 (0, 0)) :: S) T → RowIn K T (some a') ls.dropLast.length 1 elS ls.dropLast := by
      intro K T hs
      rw [hdll, hdl]
      exact (hrow hs).take (by omega)
    rw [← hdll]
    unfold owner_Decode_b4
    refine (kinds_runs J T).mono ?_
    rintro v J1 T1 hle1 ⟨r, rfl, rfl⟩
    refine ⟨_, rfl, kindsE, 4, .inr (List.mem_cons_self ..), fun b37 => ?_⟩
    unfold owner_Decode_b5
    refine ⟨fun m x2 l4 l4n l4c la re ren rec it J2 T2 => x2 = ⟨b2, 0, none⟩ ∧ l4 = some a' ∧ l4n = ls.length ∧ l4c = c ∧ la = w ∧ re = some a' ∧ ren = ls.dropLast.length ∧ rec = c ∧ it = ⟨b37, 0, none⟩ ∧ J1.le J2 ∧
        ∃ seen : Array Nat, m = unseen seen ∧ (∀ e ∈ kindsE, seen.contains e.born = true → e.val ≠ .string w) ∧ T2 = (b37, .mapIter (some r) 4 seen 4) :: (r, .map kindsE 4) :: T,
      unseen #[], ⟨rfl, rfl, rfl, rfl, rfl, rfl, rfl, rfl, rfl, IMem.le.refl J1, #[], rfl, fun e _ h => by simp at h, rfl⟩, ?_⟩
    rintro m x2 l4 l4n l4c la re ren rec it J2 T2 - ⟨rfl, rfl, rfl, rfl, rfl, rfl, rfl, rfl, rfl, hle2, seen, rfl, hseen, rfl⟩
    unfold owner_Decode_l6
    have hsT : ∀ sn : Array Nat, Sub (own ++ (b2, .cells (elT t0).toArray 33 (0, 0)) :: S) ((b37, .mapIter (some r) 4 sn 4) :: (r, .map kindsE 4) :: T) := fun sn => (hs.skip _).skip _
    refine ⟨0, r, 4, seen, 4, kindsE, 4, rfl, rfl, .inr (List.mem_cons_of_mem _ (List.mem_cons_self ..)), Nat.le_refl 4, fun e he => ?_, fun hall => ?_, fun e he hun => ?_⟩
    · rcases kE_mem he with rfl | rfl | rfl | rfl <;> decide
    · -- of no kind
      have hk : kindOf la = none := by
        refine kind_not ?_ ?_ ?_ ?_
        · exact fun e => hseen (kE 0 0 cB) (by simp [kindsE]) (hall _ (by simp [kindsE])) (by rw [← e]; rfl)
        · exact fun e => hseen (kE 1 3 ipB) (by simp [kindsE]) (hall _ (by simp [kindsE])) (by rw [← e]; rfl)
        · exact fun e => hseen (kE 2 4 ndB) (by simp [kindsE]) (hall _ (by simp [kindsE])) (by rw [← e]; rfl)
        · exact fun e => hseen (kE 3 6 niB) (by simp [kindsE]) (hall _ (by simp [kindsE])) (by rw [← e]; rfl)
      have hd : decF n = namedF ls 1 2 := by rw [hdf, decL, hlast]; dsimp only; rw [hk]
      unfold owner_Decode_b7
      refine (named_runs (ex := 1) (wild := 2) (by decide) (hrow (hsT seen)) (by omega) hcap).mono ?_
      rintro v J3 T3 hle3 ⟨rfl, rfl⟩
      rw [hd]
      have hsB3 : Sub ((b2, .cells (elT t0).toArray 33 (0, 0)) :: S) ((b37, .mapIter (some r) 4 seen 4) :: (r, .map kindsE 4) :: T) := (hsB.skip _).skip _
      cases hn : namedF ls 1 2 with
      | none => exact ⟨_, _, _, _, _, rfl, setT (t := t0) (K := fun v T => ∃ L, Sub L T ∧ Value.tuple #[v, .bool false] = resT none ∧ L = S) hsB3 fun T' hs' => ⟨S, hs', rfl, rfl⟩⟩
      | some t => exact ⟨_, _, _, _, _, rfl, setT (t := t) (K := fun v T => ∃ L, Sub L T ∧ Value.tuple #[v, .bool true] = resT (some t) ∧ L = S) hsB3 fun T' hs' => ⟨S, hs', rfl, rfl⟩⟩
    · unfold owner_Decode_b8
      have hlt := unseen_lt he hun
      have hsB3 : ∀ sn : Array Nat, Sub ((b2, .cells (elT t0).toArray 33 (0, 0)) :: S) ((b37, .mapIter (some r) 4 sn 4) :: (r, .map kindsE 4) :: T) := fun sn => (hsB.skip _).skip _
      have step : ∀ (k : Int) (x : ByteArray), e = kE e.born k x → kindOf x = some k → owner_Decode_b9 (fun x2 ls_4 ls_4n ls_4c last_6 rest_7 rest_7n rest_7c x37 I_1 S_1 => ∃ m', m' < unseen seen ∧ (x2 = ⟨b2, 0, none⟩ ∧ ls_4 = some a' ∧ ls_4n = ls.length ∧ ls_4c = rec ∧ last_6 = la ∧ rest_7 = some a' ∧ rest_7n = ls.dropLast.length ∧ rest_7c = rec ∧ x37 = ⟨b37, 0, none⟩ ∧ J1.le I_1 ∧
            ∃ seen : Array Nat, m' = unseen seen ∧ (∀ e ∈ kindsE, seen.contains e.born = true → e.val ≠ .string la) ∧ S_1 = (b37, .mapIter (some r) 4 seen 4) :: (r, .map kindsE 4) :: T))
          (fun v J T => ∃ L, Sub L T ∧ v = resT (decF n) ∧ L = S) ⟨b2, 0, none⟩ (some a') ls.length rec la (some a') ls.dropLast.length rec k x ⟨b37, 0, none⟩ J2 ((b37, .mapIter (some r) 4 (seen.push e.born) 4) :: (r, .map kindsE 4) :: T) := by
        intro k x hek hkx
        unfold owner_Decode_b9
        rw [ba_dec]
        refine bcase_not (bcase_dec (fun e2 => ?_) (fun e2 => ?_))
        · subst e2
          refine bcase_beq (fun h4 => ?_) (fun h4 => ?_)
          · subst h4
            have hd : decF n = namedF ls.dropLast 4 5 := by rw [hdf, decL, hlast]; dsimp only; rw [hkx]; rfl
            refine (named_runs (ex := 4) (wild := 5) (by decide) (hrow2 (hsT _)) (by omega) (by omega)).mono ?_
            rintro v J3 T3 hle3 ⟨rfl, rfl⟩
            rw [hd]
            cases hn : namedF ls.dropLast 4 5 with
            | none => exact ⟨_, _, _, _, _, rfl, setT (t := t0) (K := fun v T => ∃ L, Sub L T ∧ Value.tuple #[v, .bool false] = resT none ∧ L = S) (hsB3 _) fun T' hs' => ⟨S, hs', rfl, rfl⟩⟩
            | some t => exact ⟨_, _, _, _, _, rfl, setT (t := t) (K := fun v T => ∃ L, Sub L T ∧ Value.tuple #[v, .bool true] = resT (some t) ∧ L = S) (hsB3 _) fun T' hs' => ⟨S, hs', rfl, rfl⟩⟩
          · have hd : decF n = (adrF ls.dropLast).map fun p => (k, ⟨#[]⟩, p.1, p.2) := by rw [hdf, decL, hlast]; dsimp only; rw [hkx]; dsimp only; rw [if_neg h4]
            refine (Address_runs (((g.le hle).le hle1).le hle2) (hrow2 (hsT _)) (by omega) (by omega) (fun l h => by have := hsz l (List.dropLast_subset _ h); omega)).mono ?_
            rintro v J3 T3 hle3 ⟨hv, hs3⟩
            have hv := AdR_val hv
            subst hv
            rw [hd]
            have hs4 := (hsB3 (seen.push e.born)).trans hs3
            cases ha : adrF ls.dropLast with
            | none =>
              refine ⟨_, _, _, rfl, fun b10 => StP.at0 (by decide) rfl (bcase_t rfl ?_)⟩
              exact setT (t := t0) (K := fun v T => ∃ L, Sub L T ∧ Value.tuple #[v, .bool false] = resT none ∧ L = S) (hs4.skip _) fun T' hs' => ⟨S, hs', rfl, rfl⟩
            | some q =>
              refine ⟨_, _, _, rfl, fun b10 => StP.at0 (Nat.le_refl 2) rfl (bcase_f rfl ⟨_, Cell.at0 rfl, _, Cell.at0 rfl, ?_⟩)⟩
              exact setT (t := ((k, ⟨#[]⟩, q.1, q.2) : Tg)) (K := fun v T => ∃ L, Sub L T ∧ Value.tuple #[v, .bool true] = resT (some (k, ⟨#[]⟩, q.1, q.2)) ∧ L = S) (hs4.skip _) fun T' hs' => ⟨S, hs', rfl, rfl⟩
        · refine ⟨_, hlt, rfl, rfl, rfl, rfl, rfl, rfl, rfl, rfl, rfl, hle2, seen.push e.born, rfl, fun e' he' hc' => ?_, rfl⟩
          by_cases h5 : seen.contains e'.born = true
          · exact hseen e' he' h5
          · have h6 : e'.born = e.born := by
              have : e'.born ∈ seen.push e.born := by simpa using hc'
              rcases Array.mem_push.1 this with h | h
              · exact absurd (by simpa using h) h5
              · exact h
            have h7 : e' = e := by
              rcases kE_mem he with rfl | rfl | rfl | rfl <;> rcases kE_mem he' with rfl | rfl | rfl | rfl <;> first | rfl | (simp [kE] at h6; done)
            rw [h7, hek]
            intro h8
            exact e2 (Value.string.inj h8)
      rcases kE_mem he with rfl | rfl | rfl | rfl
      · exact ⟨r, 4, seen.push 0, 0, kindsE, 4, _, rfl, List.mem_cons_self .., by simp, .inr (List.mem_cons_of_mem _ (List.mem_cons_self ..)), rfl, step 0 cB rfl kind_c⟩
      · exact ⟨r, 4, seen.push 1, 1, kindsE, 4, _, rfl, List.mem_cons_self .., by simp, .inr (List.mem_cons_of_mem _ (List.mem_cons_self ..)), rfl, step 3 ipB rfl kind_ip⟩
      · exact ⟨r, 4, seen.push 2, 2, kindsE, 4, _, rfl, List.mem_cons_self .., by simp, .inr (List.mem_cons_of_mem _ (List.mem_cons_self ..)), rfl, step 4 ndB rfl kind_nd⟩
      · exact ⟨r, 4, seen.push 3, 3, kindsE, 4, _, rfl, List.mem_cons_self .., by simp, .inr (List.mem_cons_of_mem _ (List.mem_cons_self ..)), rfl, step 6 niB rfl kind_ni⟩
end Go.Proofs.YtmlojdbahlfiaaaGreatDoor
/- Triggers as names: owner.Encode. -/
namespace Go.Proofs.YtmlojdbahlfiaaaGreatDoor
open Go.Px
set_option linter.unusedVariables false
set_option linter.unusedSimpArgs false
set_option maxRecDepth 8000

theorem tgCell {I : IMem} {S T : SH} {b : Nat} {t : Tg} (hs : Sub ((b, .cells (elT t).toArray 33 (0, 0)) :: S) T) : Cell I T ⟨b, 0, none⟩ (.int .i64 t.1) ∧ Cell I T ((⟨b, 0, none⟩ : Addr).add 1) (.string t.2.1) ∧
    Cell I T ((⟨b, 0, none⟩ : Addr).add 2) (.string t.2.2.1) ∧ Cell I T ((⟨b, 0, none⟩ : Addr).add 3) (.int .i64 t.2.2.2) := by
  obtain ⟨c0, c1, c2, c3⟩ := tgC (I := I) (S := S) (b := b) (t := t)
  exact ⟨hs.cell' c0, hs.cell' c1, hs.cell' c2, hs.cell' c3⟩
end Go.Proofs.YtmlojdbahlfiaaaGreatDoor
/- Triggers and names lead to each other: plain laws. -/
namespace Go.Proofs.YtmlojdbahlfiaaaGreatDoor
open Go.Px
set_option linter.unusedVariables false
set_option linter.unusedSimpArgs false
set_option maxRecDepth 8000

theorem makeN_fwd : ∀ (ls : List ByteArray) (acc : ByteArray), (∀ l ∈ ls, IsLab l) → acc.size + (nm ls).size ≤ 254 → makeN ls acc = some (acc ++ nm ls)
  | [], acc, _, _ => by
    rw [makeN]
    congr 1
    exact bext (by simp [nm, wire])
  | l :: ls, acc, h, hs => by
    have h1 := h l (List.mem_cons_self ..)
    have hsz := nm_cons_size l ls
    have hlo := h1.lo; have hhi := h1.hi
    rw [makeN, if_neg (by omega)]
    have hp : (acc.push (UInt8.ofNat l.size)).size = acc.size + 1 := ByteArray.size_push
    rw [h1.low, makeN_fwd ls _ (fun x hx => h x (List.mem_cons_of_mem _ hx)) (by rw [app_size, hp]; omega)]
    congr 1
    refine bext ?_
    simp [nm_list, wire_cons, ByteArray.data_push]
theorem makeN_ok {ls : List ByteArray} (h : ∀ l ∈ ls, IsLab l) (hs : (nm ls).size ≤ 254) : makeN ls ByteArray.empty = some (nm ls) := by
  have := makeN_fwd ls ByteArray.empty h (by have : ByteArray.empty.size = 0 := rfl; omega)
  rw [this]
  congr 1
end Go.Proofs.YtmlojdbahlfiaaaGreatDoor
/- The law's triggers by numbers; the document's examples. -/
namespace Go.Proofs.YtmlojdbahlfiaaaGreatDoor
open Go.Px
set_option linter.unusedVariables false
set_option linter.unusedSimpArgs false
set_option maxRecDepth 8000

/-! ### triggers by numbers -/
def wrdL : List ByteArray := [⟨#[97]⟩, ⟨#[98]⟩, ⟨#[119, 119, 119]⟩, ⟨#[101, 120]⟩, ⟨#[111, 114, 103]⟩]
structure GoodP (t : Tg) : Prop where
  kind : t.1 = 0 ∨ t.1 = 3 ∨ t.1 = 6
  name : t.2.1 = ⟨#[]⟩
  may : mayP t.2.2.1 t.2.2.2
structure GoodN (t : Tg) : Prop where
  kind : t.1 = 1 ∨ t.1 = 2 ∨ t.1 = 4 ∨ t.1 = 5
  addr : t.2.2 = (⟨#[]⟩, 0)
  name : ∃ ls : List ByteArray, (∀ l ∈ ls, l ∈ wrdL) ∧ ls.length ≤ 5 ∧ t.2.1 = nm ls ∧ (t.1 = 1 ∨ t.1 = 4 → ls ≠ [])
theorem wrd_lab {l : ByteArray} (h : l ∈ wrdL) : IsLab l ∧ l.size ≤ 3 := by
  simp only [wrdL, List.mem_cons, List.not_mem_nil, or_false] at h
  rcases h with rfl | rfl | rfl | rfl | rfl
  all_goals exact ⟨⟨by decide, by decide, by decide +kernel⟩, by decide⟩
theorem nm_bound {ls : List ByteArray} {b : Nat} (h : ∀ l ∈ ls, l.size ≤ b) : (nm ls).size ≤ ls.length * (b + 1) := by
  induction ls with
  | nil => exact Nat.zero_le _
  | cons l ls ih =>
    rw [nm_cons_size, List.length_cons, Nat.succ_mul]
    have h1 := h l (List.mem_cons_self ..)
    have h2 := ih fun x hx => h x (List.mem_cons_of_mem _ hx)
    omega
theorem wrd_make {ls : List ByteArray} (h : ∀ l ∈ ls, l ∈ wrdL) (hl : ls.length ≤ 5) : makeN ls ByteArray.empty = some (nm ls) := by
  refine makeN_ok (fun l hm => (wrd_lab (h l hm)).1) ?_
  have := nm_bound (b := 3) fun l hm => (wrd_lab (h l hm)).2
  omega
theorem retT {b b9 : Nat} {S T : SH} {I : IMem} {t x : Tg} {K : Value → SH → Prop} (hs : Sub ((b9, .cells (elT t).toArray 33 (0, 0)) :: (b, .cells (elT x).toArray 33 (0, 0)) :: S) T) (h : ∀ T', Sub S T' → K (vT t) T') :
    bolterlaw13_Trigger_b4 (fun v _ T => K v T) ⟨b, 0, none⟩ ⟨b9, 0, none⟩ I T := by
  unfold bolterlaw13_Trigger_b4
  obtain ⟨c0, c1, c2, c3⟩ := tgCell (I := I) hs
  exact ⟨_, c0, _, c1, _, c2, _, c3, setT (K := K) hs.drop h⟩
end Go.Proofs.YtmlojdbahlfiaaaGreatDoor
/- The law's arguments: acts as they come; the zone's SOA. -/
namespace Go.Proofs.YtmlojdbahlfiaaaGreatDoor
open Go.Px
set_option linter.unusedVariables false

end Go.Proofs.YtmlojdbahlfiaaaGreatDoor
/- Imports alone. -/
/- Records in order; the records of a name; the same records; ZoneAt. -/
namespace Go.Proofs.YtmlojdbahlfiaaaGreatDoor
open Go.Px
set_option linter.unusedVariables false

theorem OwnR.cap {α : Type} {el : α → List Value} {sz : Nat} (hsz : 0 < sz) {e : TypeId} {A : Option Addr} {n c : Nat} {xs : List α} {own : SH} (h : OwnR e sz el (.slice A n c) xs own) : xs.length ≤ c := by
  rcases h with ⟨hv, rfl, _⟩ | ⟨g, cap, rest, hv, _, hcap, _⟩
  · exact Nat.zero_le _
  · injection hv with h1 h2 h3
    subst h3
    have : xs.length * sz ≤ c * sz := by omega
    exact Nat.le_of_mul_le_mul_right this hsz
def ofN (n : ByteArray) (r : Rc) : Bool := r.1.toList == n.toList
theorem filter_snoc {xs : List Rc} {k : Nat} {x : Rc} (p : Rc → Bool) (h : xs[k]? = some x) : (xs.take (k + 1)).filter p = (xs.take k).filter p ++ (if p x then [x] else []) := by
  rw [take_snoc h, List.filter_append]
  congr 1
  cases hp : p x <;> simp [List.filter, hp]
theorem At_runs {xs : List Rc} {a : Option Addr} {c : Nat} {n : ByteArray} {I : IMem} {S : SH} (hx : RowIn I S a xs.length 4 encR xs) (hl : xs.length ≤ 1000000) :
    Runs Tryz.prog 63 #[.slice a xs.length c, .string n] I S fun v _ T => ∃ own, OwnZ v (xs.filter (ofN n)) own ∧ Sub (own ++ S) T := by
  refine zone_At_fn _ _ _ _ _ _ _ ?_
  unfold zone_At zone_At_b1 zone_At_b2
  refine ⟨fun m n' o on oc x xn xc q i J T => n' = n ∧ x = a ∧ xn = xs.length ∧ q = (xs.length : Int) ∧ I.le J ∧ ∃ (k : Nat) (own : SH), i = (k : Int) ∧ k ≤ xs.length ∧ m = xs.length - k ∧ OwnZ (.slice o on oc) ((xs.take k).filter (ofN n)) own ∧ Sub (own ++ S) T,
    xs.length, ⟨rfl, rfl, rfl, rfl, IMem.le.refl I, 0, [], rfl, Nat.zero_le _, rfl, OwnR.nil, Sub.refl _⟩, ?_⟩
  rintro m n' o on oc x xn xc q i J T - ⟨rfl, rfl, rfl, rfl, hle, k, own, rfl, hk, rfl, ho, hs⟩
  unfold zone_At_l3 zone_At_b4 zone_At_b5
  refine bcase_dec (fun h => ?_) (fun h => ?_)
  · obtain ⟨r, hrk⟩ := get_lt (xs := xs) (k := k) (by omega)
    obtain ⟨a', rfl, hc⟩ := ((hx.sub hs.right).le hle).cell hrk
    obtain ⟨c0, c1, c2, c3⟩ := CellsR hc
    have hsn := filter_snoc (ofN n') hrk
    have hfl : ((xs.take k).filter (ofN n')).length ≤ k := by
      have := List.length_filter_le (ofN n') (xs.take k)
      rw [List.length_take] at this; omega
    have hnext : IntKind.wrap .i64 ((k : Int) + 1) = ((k + 1 : Nat) : Int) := by rw [wrap_i64 (by omega) (by omega)]; rfl
    refine ⟨by omega, by omega, _, c0, _, c1, _, c2, _, c3, fun b7 => StP.rec ⟨_, Cell.at0 rfl, bcase_of (fun g => ?_) (fun g => ?_)⟩⟩
    · refine ⟨_, Cell.at0 rfl, _, Cell.at0 rfl, _, Cell.at0 rfl, _, Cell.at0 rfl, fun b20 => ?_⟩
      have hof : ofN n' r = true := g
      obtain ⟨G, hG⟩ := hs
      refine AppG.own (xs := (xs.take k).filter (ofN n')) (ys := [r]) (el := encR) (own := own) (F := (b20, .cells (encR r).toArray 69 (0, 0)) :: (b7, Obj.cells (encR r).toArray 69 (0, 0)) :: (S ++ G)) encR_len encR_one rfl ?_ ho ⟨?_, rfl⟩ ?_ ?_ ?_
      · exact ((hG.cons _).cons _).trans (by rw [List.append_assoc]; exact perm_mid2)
      · exact Rd.list (L := encR r) rfl (by simp [encR_len])
      · simp only [List.length_singleton, maxLen]; omega
      · simp only [List.length_singleton]; omega
      · intro p m d own2 ho2
        refine ⟨xs.length - (k + 1), by omega, rfl, rfl, rfl, rfl, hle, k + 1, own2, hnext, by omega, rfl, ?_, ?_⟩
        · rw [hsn, hof]; exact ho2
        · exact ⟨(b20, _) :: (b7, _) :: G, by rw [List.append_assoc]; exact List.Perm.append_left own2 perm_mid2⟩
    · have hof : ofN n' r = false := g
      refine ⟨xs.length - (k + 1), by omega, rfl, rfl, rfl, rfl, hle, k + 1, own, hnext, by omega, rfl, ?_, hs.skip _⟩
      rw [hsn, hof]; simpa using ho
  · have : k = xs.length := by omega
    subst this
    rw [List.take_length] at ho
    exact ⟨own, ho, hs⟩
end Go.Proofs.YtmlojdbahlfiaaaGreatDoor
/- Records in order: each once, the same ones just if they are the same; what is put in, and what is taken out. -/
namespace Go.Proofs.YtmlojdbahlfiaaaGreatDoor
open Go.Px
set_option linter.unusedVariables false

abbrev SS (xs : List Rc) : Prop := xs.Pairwise (fun a b => cmpR a b < 0)
theorem lt_irr {a : Rc} (h : cmpR a a < 0) : False := by rw [cmR.refl] at h; omega
theorem lt_asy {a b : Rc} (h : cmpR a b < 0) (g : cmpR b a < 0) : False := lt_irr (cmR.trans _ _ _ h g)
theorem SS.ext : ∀ {xs ys : List Rc}, SS xs → SS ys → (∀ x, x ∈ xs ↔ x ∈ ys) → xs = ys
  | [], [], _, _, _ => rfl
  | [], y :: ys, _, _, h => by have := (h y).2 (List.mem_cons_self ..); cases this
  | x :: xs, [], _, _, h => by have := (h x).1 (List.mem_cons_self ..); cases this
  | x :: xs, y :: ys, hx, hy, h => by
    have hx' := List.pairwise_cons.1 hx
    have hy' := List.pairwise_cons.1 hy
    have hxy : x = y := by
      rcases List.mem_cons.1 ((h x).1 (List.mem_cons_self ..)) with e | e
      · exact e
      · rcases List.mem_cons.1 ((h y).2 (List.mem_cons_self ..)) with e' | e'
        · exact e'.symm
        · exact (lt_asy (hx'.1 y e') (hy'.1 x e)).elim
    subst hxy
    congr 1
    refine SS.ext hx'.2 hy'.2 fun z => ⟨fun hz => ?_, fun hz => ?_⟩
    · rcases List.mem_cons.1 ((h z).1 (List.mem_cons_of_mem _ hz)) with e | e
      · subst e; exact (lt_irr (hx'.1 z hz)).elim
      · exact e
    · rcases List.mem_cons.1 ((h z).2 (List.mem_cons_of_mem _ hz)) with e | e
      · subst e; exact (lt_irr (hy'.1 z hz)).elim
      · exact e
theorem SS.get {xs : List Rc} (h : SS xs) {i j : Nat} {x y : Rc} (hij : i < j) (hx : xs[i]? = some x) (hy : xs[j]? = some y) : cmpR x y < 0 := by
  have hi := lt_get hx
  have hj := lt_get hy
  have := List.pairwise_iff_getElem.1 h i j hi hj hij
  rw [List.getElem?_eq_getElem hi] at hx
  rw [List.getElem?_eq_getElem hj] at hy
  injection hx with hx; injection hy with hy
  rw [hx, hy] at this; exact this
theorem SS.mono {xs : List Rc} (h : SS xs) (r : Rc) : Mono xs r := fun i j x y hij hi hj hy => by
  rcases Nat.lt_or_ge i j with g | g
  · exact cmR.trans _ _ _ (h.get g hi hj) hy
  · obtain rfl : i = j := by omega
    rw [hi] at hj; injection hj with hj; subst hj; exact hy
/-- what a deletion makes -/
def recB (x r : Rc) : Bool := ((x.1 : ByteArray) == (r.1 : ByteArray)) && (((x.2.1 : Int) == (r.2.1 : Int)) && (((x.2.2.1 : Int) == (r.2.2.1 : Int)) && (((x.2.2.2 : ByteArray) == (r.2.2.2 : ByteArray)) && true)))
def without (xs : List Rc) (r : Rc) : List Rc := xs.filter fun x => !recB x r
theorem SS.without {xs : List Rc} (h : SS xs) (r : Rc) : SS (without xs r) := h.sublist List.filter_sublist
end Go.Proofs.YtmlojdbahlfiaaaGreatDoor
/- Deletion out of a row of one's own, and out of a zone. -/
namespace Go.Proofs.YtmlojdbahlfiaaaGreatDoor
open Go.Px
set_option linter.unusedVariables false

end Go.Proofs.YtmlojdbahlfiaaaGreatDoor
/- Stores into a block whose cells are written out; a pointer that is not nil. -/
namespace Go.Px
set_option linter.unusedVariables false
theorem StP.cells {S : SH} {g o : Nat} {L L' : List Value} {e : TypeId} {vs : List Value} {K : SH → Prop} (hl : o + vs.length ≤ L.length) (ho : vs.all one = true) (he : L.take o ++ vs ++ L.drop (o + vs.length) = L') (h : K ((g, .cells L'.toArray e (0, 0)) :: S)) :
    StP ((g, .cells L.toArray e (0, 0)) :: S) ⟨g, o, none⟩ vs K := StP.list hl ho (he ▸ h)
theorem StP.all {S : SH} {b : Nat} {cs vs : List Value} {e : TypeId} {K : SH → Prop} (hc : vs.length = cs.length) (ho : vs.all one = true) (h : K ((b, .cells vs.toArray e (0, 0)) :: S)) : StP ((b, .cells cs.toArray e (0, 0)) :: S) ⟨b, 0, none⟩ vs K := by
  refine StP.list (by omega) ho ?_
  rw [List.take_zero, List.drop_of_length_le (by omega), List.append_nil, List.nil_append]
  exact h
/-- a store into a block that is owned among others -/
theorem StP.among {T F : SH} {g o : Nat} {L L' : List Value} {e : TypeId} {vs : List Value} {K : SH → Prop} (hs : Sub ((g, .cells L.toArray e (0, 0)) :: F) T) (hl : o + vs.length ≤ L.length) (ho : vs.all one = true) (he : L.take o ++ vs ++ L.drop (o + vs.length) = L')
    (h : ∀ T', Sub ((g, .cells L'.toArray e (0, 0)) :: F) T' → K T') : StP T ⟨g, o, none⟩ vs K := StP.of_sub hs (StP.cells hl ho he h)
theorem Cell.among {I : IMem} {T F : SH} {g o : Nat} {cs : Array Value} {e : TypeId} {fz : Nat × Nat} {v : Value} (hs : Sub ((g, .cells cs e fz) :: F) T) (h : cs[o]? = some v) : Cell I T ⟨g, o, none⟩ v := hs.cell' (Cell.at0 h)
theorem StP.at_ {T : SH} {a a' : Addr} {vs : List Value} {K : SH → Prop} (e : a = a') (h : StP T a' vs K) : StP T a vs K := e ▸ h
theorem Cell.at_ {I : IMem} {T : SH} {a a' : Addr} {v : Value} (e : a = a') (h : Cell I T a' v) : Cell I T a v := e ▸ h
theorem Sub.both {A B C D : SH} (h : Sub A B) (g : Sub C D) : Sub (A ++ C) (B ++ D) := by
  refine sub_of fun a => ?_
  have := h.cnt a
  have := g.cnt a
  rw [cnt_app, cnt_app]
  omega
end Go.Px
set_option linter.unusedVariables false
set_option maxRecDepth 8000
set_option maxHeartbeats 2000000
namespace Go.Proofs.YtmlojdbahlfiaaaGreatDoor
open Go.Px
abbrev search_Matches_t9 := Addr → OA → Nat → Nat → Int → Int → PR
def search_Matches_b10 (R : RT) (I : IMem) (S : SH) : Prop :=
  R (.bool false) I S
def search_Matches_l9 (g9 : search_Matches_t9) (R : RT) (x2 : Addr) (x43 : OA) (x43n x43c : Nat) (x44 x45 : Int) (I : IMem) (S : SH) : Prop :=
  bcase (decide (x45 < x44))
    (ptrP x43 fun u0 => (0 : Int) ≤ x45 ∧ x45 < (x43n : Int) ∧
    ∃ u1, Cell I S (u0.add (x45.toNat * 1)) (.string u1) ∧
    ∃ u2, Cell I S (x2.add 1) (.string u2) ∧
    bcase (u1.toList == u2.toList)
      (R (.bool true) I S)
      (g9 x2 x43 x43n x43c x44 (IntKind.wrap .i64 (x45 + (1 : Int))) I S))
    (search_Matches_b10 R I S)
def search_Matches_b8 (R : RT) (x2 : Addr) (x43 : OA) (x43n x43c : Nat) (x44 x45 : Int) (I : IMem) (S : SH) : Prop :=
  ∃ (Inv : Nat → search_Matches_t9) (m : Nat), Inv m x2 x43 x43n x43c x44 x45 I S ∧
    ∀ (m : Nat) (x2 : Addr) (x43 : OA) (x43n x43c : Nat) (x44 x45 : Int) (J : IMem) (T : SH), I.le J → Inv m x2 x43 x43n x43c x44 x45 J T →
      search_Matches_l9 (fun x2 x43 x43n x43c x44 x45 I S => ∃ m', m' < m ∧ Inv m' x2 x43 x43n x43c x44 x45 I S) R x2 x43 x43n x43c x44 x45 J T
def search_Matches_b12 (R : RT) (x4 : Bool) (I : IMem) (S : SH) : Prop :=
  R (.bool x4) I S
def search_Matches_b11 (R : RT) (x2 x3 x5 : Addr) (I : IMem) (S : SH) : Prop :=
  ∃ u0, Cell I S x2 (.int .i64 u0) ∧
  bcase (u0 == (6 : Int))
    (∃ u1 u1n u1c, Cell I S (x3.add 4) (.slice u1 u1n u1c) ∧
    Runs Tryz.prog 42 #[.slice u1 u1n u1c, .pointer (some x5)] I S fun v I1 S1 => ∃ u2, v = .bool u2 ∧
    search_Matches_b12 R u2 I1 S1)
    (search_Matches_b12 R false I S)
def search_Matches_b7 (R : RT) (x2 x3 x5 x6 : Addr) (x12 : Int) (x40 : Bool) (I : IMem) (S : SH) : Prop :=
  bcase x40
    (∃ u0 u0n u0c, Cell I S (x3.add 3) (.slice u0 u0n u0c) ∧
    search_Matches_b8 R x2 u0 u0n u0c (u0n : Int) 0 I S)
    (bcase (x12 == (5 : Int))
      (∃ u1 u1n u1c, Cell I S (x3.add 3) (.slice u1 u1n u1c) ∧
      Runs Tryz.prog 44 #[.slice u1 u1n u1c, .pointer (some x6)] I S fun v I1 S1 => ∃ u2, v = .bool u2 ∧
      R (.bool u2) I1 S1)
      (search_Matches_b11 R x2 x3 x5 I S))
def search_Matches_b6 (R : RT) (x2 x3 x5 x6 : Addr) (x12 : Int) (x34 : Bool) (I : IMem) (S : SH) : Prop :=
  bcase x34
    (∃ u0 u0n u0c, Cell I S (x3.add 2) (.slice u0 u0n u0c) ∧
    Runs Tryz.prog 42 #[.slice u0 u0n u0c, .pointer (some x5)] I S fun v I1 S1 => ∃ u1, v = .bool u1 ∧
    R (.bool u1) I1 S1)
    (search_Matches_b7 R x2 x3 x5 x6 x12 (x12 == (4 : Int)) I S)
def search_Matches_b5 (R : RT) (x2 x3 x5 x6 : Addr) (x12 : Int) (x27 : Bool) (I : IMem) (S : SH) : Prop :=
  bcase x27
    (∃ u0, Cell I S (x3.add 1) (.string u0) ∧
    ∀ b32 : Nat,
    Runs Tryz.prog 44 #[.slice (some ⟨b32, 0, none⟩) 1 1, .pointer (some x6)] I ((b32, .cells #[.string u0] 29 (0, 0)) :: S) fun v I1 S1 => ∃ u1, v = .bool u1 ∧
    R (.bool u1) I1 S1)
    (search_Matches_b6 R x2 x3 x5 x6 x12 (x12 == (3 : Int)) I S)
def search_Matches_b4 (R : RT) (x2 x3 x5 x6 : Addr) (x12 : Int) (x20 : Bool) (I : IMem) (S : SH) : Prop :=
  bcase x20
    (∃ u0, Cell I S (x3.add 1) (.string u0) ∧
    ∃ u1, Cell I S (x2.add 1) (.string u1) ∧
    R (.bool (u0.toList == u1.toList)) I S)
    (search_Matches_b5 R x2 x3 x5 x6 x12 (x12 == (2 : Int)) I S)
def search_Matches_b3 (R : RT) (x2 x3 x5 x6 : Addr) (x12 : Int) (x13 : Bool) (I : IMem) (S : SH) : Prop :=
  bcase x13
    (∃ u0, Cell I S x3 (.string u0) ∧
    ∀ b18 : Nat,
    Runs Tryz.prog 42 #[.slice (some ⟨b18, 0, none⟩) 1 1, .pointer (some x5)] I ((b18, .cells #[.string u0] 9 (0, 0)) :: S) fun v I1 S1 => ∃ u1, v = .bool u1 ∧
    R (.bool u1) I1 S1)
    (search_Matches_b4 R x2 x3 x5 x6 x12 (x12 == (1 : Int)) I S)
def search_Matches_b2 (R : RT) (x2 x3 x5 x6 : Addr) (x12 : Int) (I : IMem) (S : SH) : Prop :=
  search_Matches_b3 R x2 x3 x5 x6 x12 (x12 == (0 : Int)) I S
def search_Matches_b1 (R : RT) (x2 x3 x5 x6 : Addr) (I : IMem) (S : SH) : Prop :=
  ∃ u0, Cell I S x2 (.int .i64 u0) ∧
  search_Matches_b2 R x2 x3 x5 x6 u0 I S
def search_Matches (R : RT) (u0 : Int) (u1 u2 : ByteArray) (u3 : Int) (u4 u5 : ByteArray) (u6 : OA) (u6n u6c : Nat) (u7 : OA) (u7n u7c : Nat) (u8 : OA) (u8n u8c : Nat) (I : IMem) (S : SH) : Prop :=
  ∀ b2 : Nat,
  ∀ b3 : Nat,
  search_Matches_b1 R ⟨b2, 0, none⟩ ⟨b3, 0, none⟩ ⟨b2, 0, none⟩ ⟨b2, 0, none⟩ I ((b3, .cells #[.string u4, .string u5, .slice u6 u6n u6c, .slice u7 u7n u7c, .slice u8 u8n u8c] 37 (0, 0)) :: ((b2, .cells #[.int .i64 u0, .string u1, .string u2, .int .i64 u3] 33 (0, 0)) :: S))
theorem search_Matches_fn (R : RT) (u0 : Int) (u1 u2 : ByteArray) (u3 : Int) (u4 u5 : ByteArray) (u6 : OA) (u6n u6c : Nat) (u7 : OA) (u7n u7c : Nat) (u8 : OA) (u8n u8c : Nat) (I : IMem) (S : SH) (h : search_Matches R u0 u1 u2 u3 u4 u5 u6 u6n u6c u7 u7n u7c u8 u8n u8c I S) : Runs Tryz.prog 13 #[.agg #[.int .i64 u0, .string u1, .string u2, .int .i64 u3], .agg #[.string u4, .string u5, .slice u6 u6n u6c, .slice u7 u7n u7c, .slice u8 u8n u8c]] I S R := by
  refine Runs.of_wp (c := cd Tryz.f13) Tryz.func13 (by kernel_rfl) (by kernel_rfl) ?_
  refine cO 3 [kA 2, kA 3, kFA 42 5, kFA 44 6] (search_Matches_b1 R) h fun _ _ _ _ _ _ _ _ h => ?_
  refine sO [kA 2, kA 3, kFA 42 5] (search_Matches_b11 R) ?_ fun _ _ _ _ _ _ _ h => ?_
  · refine cO 1 [kA 2, kA 3, kFA 42 5, kFA 44 6, kI .i64 12] (search_Matches_b2 R) h fun _ _ _ _ _ _ _ _ _ h => ?_
    refine bK ?_
    refine cO 1 [kA 2, kA 3, kFA 42 5, kFA 44 6, kI .i64 12, kB 13] (search_Matches_b3 R) h fun _ _ _ _ _ _ _ _ _ _ h => ?_
    refine cD h (fun h => pS h) fun h => ?_
    refine cO 1 [kA 2, kA 3, kFA 42 5, kFA 44 6, kI .i64 12, kB 20] (search_Matches_b4 R) h fun _ _ _ _ _ _ _ _ _ _ h => ?_
    refine cD h (fun h => pS h) fun h => ?_
    refine cO 1 [kA 2, kA 3, kFA 42 5, kFA 44 6, kI .i64 12, kB 27] (search_Matches_b5 R) h fun _ _ _ _ _ _ _ _ _ _ h => ?_
    refine cD h (fun h => pS h) fun h => ?_
    refine cO 1 [kA 2, kA 3, kFA 42 5, kFA 44 6, kI .i64 12, kB 34] (search_Matches_b6 R) h fun _ _ _ _ _ _ _ _ _ _ h => ?_
    refine cD h (fun h => pS h) fun h => ?_
    refine cO 1 [kA 2, kA 3, kFA 42 5, kFA 44 6, kI .i64 12, kB 40] (search_Matches_b7 R) h fun _ _ _ _ _ _ _ _ _ _ h => ?_
    refine cD h (fun h => ?_) fun h => pS h
    refine sO [] (search_Matches_b10 R) ?_ fun _ _ _ _ h => ?_
    · refine cO 1 [kA 2, kL 43, kI .i64 44, kI .i64 45] (search_Matches_b8 R) h fun _ _ _ _ _ _ _ _ _ _ h => ?_
      refine bK ?_
      obtain ⟨Vg9, mg9, h, hr⟩ := h
      refine lO [kA 2, kL 43, kI .i64 44, kI .i64 45] Vg9 mg9 h fun mg9 _ I S hle x2 x43 x43n x43c x44 x45 h => ?_
      have h := hr mg9 x2 x43 x43n x43c x44 x45 I S hle h
      exact pS h
    exact pS h
  refine cO 1 [kB 4] (search_Matches_b12 R) h fun _ _ _ _ _ h => ?_
  exact pS h
abbrev search_Matches_f1_t3 := Addr → OA → Nat → Nat → Int → Int → PR
def search_Matches_f1_b4 (R : RT) (I : IMem) (S : SH) : Prop :=
  R (.bool false) I S
def search_Matches_f1_l3 (g3 : search_Matches_f1_t3) (R : RT) (x1 : Addr) (x6 : OA) (x6n x6c : Nat) (x7 x8 : Int) (I : IMem) (S : SH) : Prop :=
  bcase (decide (x8 < x7))
    (ptrP x6 fun u0 => (0 : Int) ≤ x8 ∧ x8 < (x6n : Int) ∧
    ∃ u1, Cell I S (u0.add (x8.toNat * 1)) (.string u1) ∧
    ∃ u2, Cell I S (x1.add 2) (.string u2) ∧
    ∃ u3, Cell I S ((x1.add 2).add 1) (.int .i64 u3) ∧
    Runs Tryz.prog 43 #[.agg #[.string u2, .int .i64 u3], .string u1] I S fun v I1 S1 => ∃ u4, v = .bool u4 ∧
    bcase u4
      (R (.bool true) I1 S1)
      (g3 x1 x6 x6n x6c x7 (IntKind.wrap .i64 (x8 + (1 : Int))) I1 S1))
    (search_Matches_f1_b4 R I S)
def search_Matches_f1_b2 (R : RT) (x1 : Addr) (x6 : OA) (x6n x6c : Nat) (x7 x8 : Int) (I : IMem) (S : SH) : Prop :=
  ∃ (Inv : Nat → search_Matches_f1_t3) (m : Nat), Inv m x1 x6 x6n x6c x7 x8 I S ∧
    ∀ (m : Nat) (x1 : Addr) (x6 : OA) (x6n x6c : Nat) (x7 x8 : Int) (J : IMem) (T : SH), I.le J → Inv m x1 x6 x6n x6c x7 x8 J T →
      search_Matches_f1_l3 (fun x1 x6 x6n x6c x7 x8 I S => ∃ m', m' < m ∧ Inv m' x1 x6 x6n x6c x7 x8 I S) R x1 x6 x6n x6c x7 x8 J T
def search_Matches_f1_b1 (R : RT) (x0 : OA) (x0n x0c : Nat) (x1 : Addr) (I : IMem) (S : SH) : Prop :=
  search_Matches_f1_b2 R x1 x0 x0n x0c (x0n : Int) 0 I S
def search_Matches_f1 (R : RT) (u0 : OA) (u0n u0c : Nat) (u1 : Addr) (I : IMem) (S : SH) : Prop :=
  search_Matches_f1_b1 R u0 u0n u0c u1 I S
theorem search_Matches_f1_fn (R : RT) (u0 : OA) (u0n u0c : Nat) (u1 : Addr) (I : IMem) (S : SH) (h : search_Matches_f1 R u0 u0n u0c u1 I S) : Runs Tryz.prog 42 #[.slice u0 u0n u0c, .pointer (some u1)] I S R := by
  refine Runs.of_wp (c := cd Tryz.f42) Tryz.func42 (by kernel_rfl) (by kernel_rfl) ?_
  refine cO 1 [kL 0, kA 1] (search_Matches_f1_b1 R) h fun _ _ _ _ _ _ _ _ h => ?_
  refine sO [] (search_Matches_f1_b4 R) ?_ fun _ _ _ _ h => ?_
  · refine cO 1 [kA 1, kL 6, kI .i64 7, kI .i64 8] (search_Matches_f1_b2 R) h fun _ _ _ _ _ _ _ _ _ _ h => ?_
    refine bK ?_
    obtain ⟨Vg3, mg3, h, hr⟩ := h
    refine lO [kA 1, kL 6, kI .i64 7, kI .i64 8] Vg3 mg3 h fun mg3 _ I S hle x1 x6 x6n x6c x7 x8 h => ?_
    have h := hr mg3 x1 x6 x6n x6c x7 x8 I S hle h
    exact pS h
  exact pS h
abbrev search_Matches_f2_t3 := Addr → OA → Nat → Nat → Int → Int → PR
def search_Matches_f2_b6 (g3 : search_Matches_f2_t3) (R : RT) (x1 : Addr) (x6 : OA) (x6n x6c : Nat) (x7 x8 : Int) (I : IMem) (S : SH) : Prop :=
  g3 x1 x6 x6n x6c x7 (IntKind.wrap .i64 (x8 + (1 : Int))) I S
def search_Matches_f2_b5 (g3 : search_Matches_f2_t3) (R : RT) (x1 : Addr) (x6 : OA) (x6n x6c : Nat) (x7 x8 : Int) (x21 : Bool) (I : IMem) (S : SH) : Prop :=
  bcase x21
    (R (.bool true) I S)
    (search_Matches_f2_b6 g3 R x1 x6 x6n x6c x7 x8 I S)
def search_Matches_f2_b4 (g3 : search_Matches_f2_t3) (R : RT) (x1 : Addr) (x6 : OA) (x6n x6c : Nat) (x7 x8 : Int) (I : IMem) (S : SH) : Prop :=
  ptrP x6 fun u0 => (0 : Int) ≤ x8 ∧ x8 < (x6n : Int) ∧
  ∃ u1, Cell I S (u0.add (x8.toNat * 1)) (.string u1) ∧
  ∃ u2, Cell I S (x1.add 1) (.string u2) ∧
  bcase (!(u1.toList == u2.toList))
    (∃ u3, Cell I S (x1.add 1) (.string u3) ∧
    Runs Tryz.prog 45 #[.string u1, .string u3] I S fun v I1 S1 => ∃ u4, v = .bool u4 ∧
    search_Matches_f2_b5 g3 R x1 x6 x6n x6c x7 x8 u4 I1 S1)
    (search_Matches_f2_b5 g3 R x1 x6 x6n x6c x7 x8 false I S)
def search_Matches_f2_b7 (R : RT) (I : IMem) (S : SH) : Prop :=
  R (.bool false) I S
def search_Matches_f2_l3 (g3 : search_Matches_f2_t3) (R : RT) (x1 : Addr) (x6 : OA) (x6n x6c : Nat) (x7 x8 : Int) (I : IMem) (S : SH) : Prop :=
  bcase (decide (x8 < x7))
    (search_Matches_f2_b4 g3 R x1 x6 x6n x6c x7 x8 I S)
    (search_Matches_f2_b7 R I S)
def search_Matches_f2_b2 (R : RT) (x1 : Addr) (x6 : OA) (x6n x6c : Nat) (x7 x8 : Int) (I : IMem) (S : SH) : Prop :=
  ∃ (Inv : Nat → search_Matches_f2_t3) (m : Nat), Inv m x1 x6 x6n x6c x7 x8 I S ∧
    ∀ (m : Nat) (x1 : Addr) (x6 : OA) (x6n x6c : Nat) (x7 x8 : Int) (J : IMem) (T : SH), I.le J → Inv m x1 x6 x6n x6c x7 x8 J T →
      search_Matches_f2_l3 (fun x1 x6 x6n x6c x7 x8 I S => ∃ m', m' < m ∧ Inv m' x1 x6 x6n x6c x7 x8 I S) R x1 x6 x6n x6c x7 x8 J T
def search_Matches_f2_b1 (R : RT) (x0 : OA) (x0n x0c : Nat) (x1 : Addr) (I : IMem) (S : SH) : Prop :=
  search_Matches_f2_b2 R x1 x0 x0n x0c (x0n : Int) 0 I S
def search_Matches_f2 (R : RT) (u0 : OA) (u0n u0c : Nat) (u1 : Addr) (I : IMem) (S : SH) : Prop :=
  search_Matches_f2_b1 R u0 u0n u0c u1 I S
theorem search_Matches_f2_fn (R : RT) (u0 : OA) (u0n u0c : Nat) (u1 : Addr) (I : IMem) (S : SH) (h : search_Matches_f2 R u0 u0n u0c u1 I S) : Runs Tryz.prog 44 #[.slice u0 u0n u0c, .pointer (some u1)] I S R := by
  refine Runs.of_wp (c := cd Tryz.f44) Tryz.func44 (by kernel_rfl) (by kernel_rfl) ?_
  refine cO 1 [kL 0, kA 1] (search_Matches_f2_b1 R) h fun _ _ _ _ _ _ _ _ h => ?_
  refine sO [] (search_Matches_f2_b7 R) ?_ fun _ _ _ _ h => ?_
  · refine cO 1 [kA 1, kL 6, kI .i64 7, kI .i64 8] (search_Matches_f2_b2 R) h fun _ _ _ _ _ _ _ _ _ _ h => ?_
    refine bK ?_
    obtain ⟨Vg3, mg3, h, hr⟩ := h
    refine lO [kA 1, kL 6, kI .i64 7, kI .i64 8] Vg3 mg3 h fun mg3 _ I S hle x1 x6 x6n x6c x7 x8 h => ?_
    have h := hr mg3 x1 x6 x6n x6c x7 x8 I S hle h
    refine cO 2 [kA 1, kL 6, kI .i64 7, kI .i64 8] (search_Matches_f2_b4 (fun x1 x6 x6n x6c x7 x8 I S => ∃ m', m' < mg3 ∧ Vg3 m' x1 x6 x6n x6c x7 x8 I S) R) h fun _ _ _ _ _ _ _ _ _ _ h => ?_
    refine sO [kA 1, kL 6, kI .i64 7, kI .i64 8] (search_Matches_f2_b6 (fun x1 x6 x6n x6c x7 x8 I S => ∃ m', m' < mg3 ∧ Vg3 m' x1 x6 x6n x6c x7 x8 I S) R) ?_ fun _ _ _ _ _ _ _ _ _ _ h => ?_
    · refine bK ?_
      refine cO 2 [kA 1, kL 6, kI .i64 7, kI .i64 8, kB 21] (search_Matches_f2_b5 (fun x1 x6 x6n x6c x7 x8 I S => ∃ m', m' < mg3 ∧ Vg3 m' x1 x6 x6n x6c x7 x8 I S) R) h fun _ _ _ _ _ _ _ _ _ _ _ h => ?_
      exact pS h
    exact pS h
  exact pS h
def search_Node_b4 (R : RT) (x4 x5 : Addr) (x6 : Bool) (I : IMem) (S : SH) : Prop :=
  ∃ u0, Cell I S x4 (.int .i64 u0) ∧
  ∃ u1, Cell I S (x4.add 1) (.string u1) ∧
  ∃ u2, Cell I S (x4.add 2) (.string u2) ∧
  ∃ u3, Cell I S (x4.add 3) (.int .i64 u3) ∧
  ∃ u4, Cell I S x5 (.int .i64 u4) ∧
  ∃ u5, Cell I S (x5.add 1) (.string u5) ∧
  ∃ u6, Cell I S (x5.add 2) (.bool u6) ∧
  ∃ u7 u7n u7c, Cell I S (x5.add 3) (.slice u7 u7n u7c) ∧
  R (.tuple #[.agg #[.int .i64 u0, .string u1, .string u2, .int .i64 u3], .agg #[.int .i64 u4, .string u5, .bool u6, .slice u7 u7n u7c], .bool x6]) I S
def search_Node_b3 (R : RT) (x2 x4 x5 x9 x11 : Addr) (I : IMem) (S : SH) : Prop :=
  ∃ u0, Cell I S x9 (.int .i64 u0) ∧
  ∃ u1, Cell I S (x9.add 1) (.string u1) ∧
  ∃ u2, Cell I S (x9.add 2) (.string u2) ∧
  ∃ u3, Cell I S (x9.add 3) (.int .i64 u3) ∧
  ∃ u4, Cell I S x11 (.int .i64 u4) ∧
  ∃ u5, Cell I S (x11.add 1) (.string u5) ∧
  ∃ u6, Cell I S (x11.add 2) (.bool u6) ∧
  ∃ u7 u7n u7c, Cell I S (x11.add 3) (.slice u7 u7n u7c) ∧
  ∃ u8, Cell I S (x2.add 3) (.int .i64 u8) ∧
  Runs Tryz.prog 64 #[.agg #[.int .i64 u4, .string u5, .bool u6, .slice u7 u7n u7c], .int .i64 u8] I S fun v I1 S1 => ∃ u9 ua ub uc ucn ucc, v = .agg #[.int .i64 u9, .string ua, .bool ub, .slice uc ucn ucc] ∧
  Keep I S I1 S1 ∧
  StP S1 x4 [.int .i64 u0, .string u1, .string u2, .int .i64 u3] fun S1' =>
  StP S1' x5 [.int .i64 u9, .string ua, .bool ub, .slice uc ucn ucc] fun S1'' =>
  search_Node_b4 R x4 x5 true I1 S1''
def search_Node_b2 (R : RT) (x2 x4 x5 x9 x11 : Addr) (x42 : Bool) (I : IMem) (S : SH) : Prop :=
  bcase x42
    (StP S x4 [.int .i64 0, .string ⟨#[]⟩, .string ⟨#[]⟩, .int .i64 0] fun S1 =>
    StP S1 x5 [.int .i64 0, .string ⟨#[]⟩, .bool false, .slice none 0 0] fun S1' =>
    ∃ u0, Cell I S1' x4 (.int .i64 u0) ∧
    ∃ u1, Cell I S1' (x4.add 1) (.string u1) ∧
    ∃ u2, Cell I S1' (x4.add 2) (.string u2) ∧
    ∃ u3, Cell I S1' (x4.add 3) (.int .i64 u3) ∧
    ∃ u4, Cell I S1' x5 (.int .i64 u4) ∧
    ∃ u5, Cell I S1' (x5.add 1) (.string u5) ∧
    ∃ u6, Cell I S1' (x5.add 2) (.bool u6) ∧
    ∃ u7 u7n u7c, Cell I S1' (x5.add 3) (.slice u7 u7n u7c) ∧
    R (.tuple #[.agg #[.int .i64 u0, .string u1, .string u2, .int .i64 u3], .agg #[.int .i64 u4, .string u5, .bool u6, .slice u7 u7n u7c], .bool false]) I S1')
    (search_Node_b3 R x2 x4 x5 x9 x11 I S)
def search_Node_b1 (R : RT) (x2 x4 x5 : Addr) (x8 : Bool) (x9 : Addr) (x10 : Bool) (x11 : Addr) (x12 : Bool) (I : IMem) (S : SH) : Prop :=
  bcase (!x8)
    (search_Node_b2 R x2 x4 x5 x9 x11 true I S)
    (bcase (!x10)
      (search_Node_b2 R x2 x4 x5 x9 x11 true I S)
      (search_Node_b2 R x2 x4 x5 x9 x11 (!x12) I S))
def search_Node (R : RT) (u0 : ByteArray) (u1 : OA) (u1n u1c : Nat) (u2 : Bool) (u3 : Int) (u4 : ByteArray) (I : IMem) (S : SH) : Prop :=
  ∀ b2 : Nat,
  ∀ b4 : Nat,
  ∀ b5 : Nat,
  ∃ u5, Cell I ((b5, .cells #[.int .i64 0, .string ⟨#[]⟩, .bool false, .slice none 0 0] 71 (0, 0)) :: ((b4, .cells #[.int .i64 0, .string ⟨#[]⟩, .string ⟨#[]⟩, .int .i64 0] 33 (0, 0)) :: ((b2, .cells #[.string u0, .slice u1 u1n u1c, .bool u2, .int .i64 u3] 61 (0, 0)) :: S))) ⟨b2, 0, none⟩ (.string u5) ∧
  Runs Tryz.prog 60 #[.string u4, .string u5] I ((b5, .cells #[.int .i64 0, .string ⟨#[]⟩, .bool false, .slice none 0 0] 71 (0, 0)) :: ((b4, .cells #[.int .i64 0, .string ⟨#[]⟩, .string ⟨#[]⟩, .int .i64 0] 33 (0, 0)) :: ((b2, .cells #[.string u0, .slice u1 u1n u1c, .bool u2, .int .i64 u3] 61 (0, 0)) :: S))) fun v I1 S1 => ∃ u6 u7, v = .tuple #[.string u6, .bool u7] ∧
  Runs Tryz.prog 61 #[.string u6] I1 S1 fun v' I1' S1' => ∃ u8 u9 ua ub uc, v' = .tuple #[.agg #[.int .i64 u8, .string u9, .string ua, .int .i64 ub], .bool uc] ∧
  ∀ b9 : Nat,
  StP ((b9, .cells #[.int .i64 0, .string ⟨#[]⟩, .string ⟨#[]⟩, .int .i64 0] 33 (0, 0)) :: S1') ⟨b9, 0, none⟩ [.int .i64 u8, .string u9, .string ua, .int .i64 ub] fun S1'' =>
  ∃ ud udn udc, Cell I1' S1'' ⟨b2, 1, none⟩ (.slice ud udn udc) ∧
  Runs Tryz.prog 63 #[.slice ud udn udc, .string u4] I1' S1'' fun v'' I1'' S1_r3 => ∃ ue uen uec, v'' = .slice ue uen uec ∧
  Runs Tryz.prog 62 #[.slice ue uen uec] I1'' S1_r3 fun v_r3 I1_r3 S1_r4 => ∃ uf ug uh ui uin uic uj, v_r3 = .tuple #[.agg #[.int .i64 uf, .string ug, .bool uh, .slice ui uin uic], .bool uj] ∧
  ∀ b11 : Nat,
  StP ((b11, .cells #[.int .i64 0, .string ⟨#[]⟩, .bool false, .slice none 0 0] 71 (0, 0)) :: S1_r4) ⟨b11, 0, none⟩ [.int .i64 uf, .string ug, .bool uh, .slice ui uin uic] fun S1_r5 =>
  search_Node_b1 R ⟨b2, 0, none⟩ ⟨b4, 0, none⟩ ⟨b5, 0, none⟩ u7 ⟨b9, 0, none⟩ uc ⟨b11, 0, none⟩ uj I1_r3 S1_r5
theorem search_Node_fn (R : RT) (u0 : ByteArray) (u1 : OA) (u1n u1c : Nat) (u2 : Bool) (u3 : Int) (u4 : ByteArray) (I : IMem) (S : SH) (h : search_Node R u0 u1 u1n u1c u2 u3 u4 I S) : Runs Tryz.prog 26 #[.agg #[.string u0, .slice u1 u1n u1c, .bool u2, .int .i64 u3], .string u4] I S R := by
  refine Runs.of_wp (c := cd Tryz.f26) Tryz.func26 (by kernel_rfl) (by kernel_rfl) ?_
  refine cO 4 [kA 2, kA 4, kA 5, kB 8, kA 9, kB 10, kA 11, kB 12] (search_Node_b1 R) h fun _ _ _ _ _ _ _ _ _ _ _ _ h => ?_
  refine sO [kA 2, kA 4, kA 5, kA 9, kA 11] (search_Node_b3 R) ?_ fun _ _ _ _ _ _ _ _ _ h => ?_
  · refine cO 1 [kA 2, kA 4, kA 5, kA 9, kA 11, kB 42] (search_Node_b2 R) h fun _ _ _ _ _ _ _ _ _ _ h => ?_
    exact pS h
  refine sO [kA 4, kA 5, kB 6] (search_Node_b4 R) (dR (tk 4 0 (.step 4 (.step 5 (.step 6 (.take 7 .done))))) [4, 5, 6] h) fun _ _ _ _ _ _ _ h => ?_
  exact pS h
abbrev search_Of_t3 := Addr → Addr → Addr → Bool → OA → Nat → Nat → Int → Int → PR
def search_Of_b5 (g3 : search_Of_t3) (R : RT) (x3 x4 x6 : Addr) (x7 : Bool) (x15 : OA) (x15n x15c : Nat) (x16 x17 : Int) (I : IMem) (S : SH) : Prop :=
  g3 x3 x4 x6 x7 x15 x15n x15c x16 (IntKind.wrap .i64 (x17 + (1 : Int))) I S
abbrev search_Of_t7 := Addr → Addr → Addr → Bool → Int → Addr → OA → Nat → Nat → Int → Int → OA → Nat → Nat → Int → Int → PR
def search_Of_b10 (g3 : search_Of_t3) (g7 : search_Of_t7) (R : RT) (x3 x4 x6 : Addr) (x7 : Bool) (x8 : Int) (x9 : Addr) (x15 : OA) (x15n x15c : Nat) (x16 x17 : Int) (x26 : OA) (x26n x26c : Nat) (x27 x28 : Int) (I : IMem) (S : SH) : Prop :=
  g7 x3 x4 x6 x7 x8 x9 x15 x15n x15c x16 x17 x26 x26n x26c x27 (IntKind.wrap .i64 (x28 + (1 : Int))) I S
def search_Of_b9 (g3 : search_Of_t3) (g7 : search_Of_t7) (R : RT) (x3 x4 x6 : Addr) (x7 : Bool) (x8 : Int) (x9 x12 x13 : Addr) (x15 : OA) (x15n x15c : Nat) (x16 x17 : Int) (x26 : OA) (x26n x26c : Nat) (x27 x28 : Int) (x57 : Bool) (I : IMem) (S : SH) : Prop :=
  bcase x57
    (∃ u0, Cell I S x12 (.int .i64 u0) ∧
    ∃ u1, Cell I S (x12.add 1) (.string u1) ∧
    ∃ u2, Cell I S (x12.add 2) (.string u2) ∧
    ∃ u3, Cell I S (x12.add 3) (.int .i64 u3) ∧
    ∃ u4, Cell I S x13 (.int .i64 u4) ∧
    ∃ u5, Cell I S (x13.add 1) (.string u5) ∧
    ∃ u6, Cell I S (x13.add 2) (.bool u6) ∧
    ∃ u7 u7n u7c, Cell I S (x13.add 3) (.slice u7 u7n u7c) ∧
    StP S x6 [.int .i64 x8, .int .i64 u0, .string u1, .string u2, .int .i64 u3, .int .i64 u4, .string u5, .bool u6, .slice u7 u7n u7c] fun S1 =>
    search_Of_b10 g3 g7 R x3 x4 x6 true x8 x9 x15 x15n x15c x16 x17 x26 x26n x26c x27 x28 I S1)
    (search_Of_b10 g3 g7 R x3 x4 x6 x7 x8 x9 x15 x15n x15c x16 x17 x26 x26n x26c x27 x28 I S)
def search_Of_b8 (g3 : search_Of_t3) (g7 : search_Of_t7) (R : RT) (x3 x4 x6 : Addr) (x7 : Bool) (x8 : Int) (x9 : Addr) (x15 : OA) (x15n x15c : Nat) (x16 x17 : Int) (x26 : OA) (x26n x26c : Nat) (x27 x28 : Int) (I : IMem) (S : SH) : Prop :=
  ptrP x26 fun u0 => (0 : Int) ≤ x28 ∧ x28 < (x26n : Int) ∧
  ∃ u1, Cell I S (u0.add (x28.toNat * 4)) (.string u1) ∧
  ∃ u2, Cell I S ((u0.add (x28.toNat * 4)).add 1) (.int .u16 u2) ∧
  ∃ u3, Cell I S ((u0.add (x28.toNat * 4)).add 2) (.int .u32 u3) ∧
  ∃ u4, Cell I S ((u0.add (x28.toNat * 4)).add 3) (.string u4) ∧
  ∀ b11 : Nat,
  StP ((b11, .cells #[.string ⟨#[]⟩, .int .u16 0, .int .u32 0, .string ⟨#[]⟩] 69 (0, 0)) :: S) ⟨b11, 0, none⟩ [.string u1, .int .u16 u2, .int .u32 u3, .string u4] fun S1 =>
  ∃ u5, Cell I S1 x9 (.string u5) ∧
  ∃ u6 u6n u6c, Cell I S1 (x9.add 1) (.slice u6 u6n u6c) ∧
  ∃ u7, Cell I S1 (x9.add 2) (.bool u7) ∧
  ∃ u8, Cell I S1 (x9.add 3) (.int .i64 u8) ∧
  ∃ u9, Cell I S1 ⟨b11, 0, none⟩ (.string u9) ∧
  Runs Tryz.prog 26 #[.agg #[.string u5, .slice u6 u6n u6c, .bool u7, .int .i64 u8], .string u9] I S1 fun v I1 S1' => ∃ ua ub uc ud ue uf ug uh uhn uhc ui, v = .tuple #[.agg #[.int .i64 ua, .string ub, .string uc, .int .i64 ud], .agg #[.int .i64 ue, .string uf, .bool ug, .slice uh uhn uhc], .bool ui] ∧
  ∀ b12 : Nat,
  ∀ b13 : Nat,
  StP ((b13, .cells #[.int .i64 0, .string ⟨#[]⟩, .bool false, .slice none 0 0] 71 (0, 0)) :: ((b12, .cells #[.int .i64 0, .string ⟨#[]⟩, .string ⟨#[]⟩, .int .i64 0] 33 (0, 0)) :: S1')) ⟨b12, 0, none⟩ [.int .i64 ua, .string ub, .string uc, .int .i64 ud] fun S1'' =>
  StP S1'' ⟨b13, 0, none⟩ [.int .i64 ue, .string uf, .bool ug, .slice uh uhn uhc] fun S1_r3 =>
  bcase ui
    (∃ uj, Cell I1 S1_r3 ⟨b13, 0, none⟩ (.int .i64 uj) ∧
    bcase (uj != (1 : Int))
      (∃ uk, Cell I1 S1_r3 ⟨b12, 0, none⟩ (.int .i64 uk) ∧
      ∃ ul, Cell I1 S1_r3 ⟨b12, 1, none⟩ (.string ul) ∧
      ∃ um, Cell I1 S1_r3 ⟨b12, 2, none⟩ (.string um) ∧
      ∃ un, Cell I1 S1_r3 ⟨b12, 3, none⟩ (.int .i64 un) ∧
      ∃ uo, Cell I1 S1_r3 x3 (.string uo) ∧
      ∃ up, Cell I1 S1_r3 (x3.add 1) (.string up) ∧
      ∃ uq uqn uqc, Cell I1 S1_r3 (x3.add 2) (.slice uq uqn uqc) ∧
      ∃ ur urn urc, Cell I1 S1_r3 (x3.add 3) (.slice ur urn urc) ∧
      ∃ us usn usc, Cell I1 S1_r3 (x3.add 4) (.slice us usn usc) ∧
      Runs Tryz.prog 13 #[.agg #[.int .i64 uk, .string ul, .string um, .int .i64 un], .agg #[.string uo, .string up, .slice uq uqn uqc, .slice ur urn urc, .slice us usn usc]] I1 S1_r3 fun v' I1' S1_r4 => ∃ ut, v' = .bool ut ∧
      bcase ut
        (∃ uu, Cell I1' S1_r4 ⟨b12, 0, none⟩ (.int .i64 uu) ∧
        ∃ uv, Cell I1' S1_r4 ⟨b12, 1, none⟩ (.string uv) ∧
        ∃ uw, Cell I1' S1_r4 ⟨b12, 2, none⟩ (.string uw) ∧
        ∃ ux, Cell I1' S1_r4 ⟨b12, 3, none⟩ (.int .i64 ux) ∧
        ∃ uy, Cell I1' S1_r4 x6 (.int .i64 uy) ∧
        ∃ uz, Cell I1' S1_r4 (x6.add 1) (.int .i64 uz) ∧
        ∃ u10, Cell I1' S1_r4 (x6.add 2) (.string u10) ∧
        ∃ u11, Cell I1' S1_r4 (x6.add 3) (.string u11) ∧
        ∃ u12, Cell I1' S1_r4 (x6.add 4) (.int .i64 u12) ∧
        ∃ u13, Cell I1' S1_r4 (x6.add 5) (.int .i64 u13) ∧
        ∃ u14, Cell I1' S1_r4 (x6.add 6) (.string u14) ∧
        ∃ u15, Cell I1' S1_r4 (x6.add 7) (.bool u15) ∧
        ∃ u16 u16n u16c, Cell I1' S1_r4 (x6.add 8) (.slice u16 u16n u16c) ∧
        Runs Tryz.prog 65 #[.int .i64 x8, .agg #[.int .i64 uu, .string uv, .string uw, .int .i64 ux], .agg #[.int .i64 uy, .int .i64 uz, .string u10, .string u11, .int .i64 u12, .int .i64 u13, .string u14, .bool u15, .slice u16 u16n u16c], .bool x7] I1' S1_r4 fun v'' I1'' S1_r5 => ∃ u17, v'' = .bool u17 ∧
        search_Of_b9 g3 g7 R x3 x4 x6 x7 x8 x9 ⟨b12, 0, none⟩ ⟨b13, 0, none⟩ x15 x15n x15c x16 x17 x26 x26n x26c x27 x28 u17 I1'' S1_r5)
        (search_Of_b9 g3 g7 R x3 x4 x6 x7 x8 x9 ⟨b12, 0, none⟩ ⟨b13, 0, none⟩ x15 x15n x15c x16 x17 x26 x26n x26c x27 x28 false I1' S1_r4))
      (search_Of_b9 g3 g7 R x3 x4 x6 x7 x8 x9 ⟨b12, 0, none⟩ ⟨b13, 0, none⟩ x15 x15n x15c x16 x17 x26 x26n x26c x27 x28 false I1 S1_r3))
    (search_Of_b9 g3 g7 R x3 x4 x6 x7 x8 x9 ⟨b12, 0, none⟩ ⟨b13, 0, none⟩ x15 x15n x15c x16 x17 x26 x26n x26c x27 x28 false I1 S1_r3)
def search_Of_l7 (g3 : search_Of_t3) (g7 : search_Of_t7) (R : RT) (x3 x4 x6 : Addr) (x7 : Bool) (x8 : Int) (x9 : Addr) (x15 : OA) (x15n x15c : Nat) (x16 x17 : Int) (x26 : OA) (x26n x26c : Nat) (x27 x28 : Int) (I : IMem) (S : SH) : Prop :=
  bcase (decide (x28 < x27))
    (search_Of_b8 g3 g7 R x3 x4 x6 x7 x8 x9 x15 x15n x15c x16 x17 x26 x26n x26c x27 x28 I S)
    (search_Of_b5 g3 R x3 x4 x6 x7 x15 x15n x15c x16 x17 I S)
def search_Of_b6 (g3 : search_Of_t3) (R : RT) (x3 x4 x6 : Addr) (x7 : Bool) (x8 : Int) (x9 : Addr) (x15 : OA) (x15n x15c : Nat) (x16 x17 : Int) (x26 : OA) (x26n x26c : Nat) (x27 x28 : Int) (I : IMem) (S : SH) : Prop :=
  ∃ (Inv : Nat → search_Of_t7) (m : Nat), Inv m x3 x4 x6 x7 x8 x9 x15 x15n x15c x16 x17 x26 x26n x26c x27 x28 I S ∧
    ∀ (m : Nat) (x3 x4 x6 : Addr) (x7 : Bool) (x8 : Int) (x9 : Addr) (x15 : OA) (x15n x15c : Nat) (x16 x17 : Int) (x26 : OA) (x26n x26c : Nat) (x27 x28 : Int) (J : IMem) (T : SH), I.le J → Inv m x3 x4 x6 x7 x8 x9 x15 x15n x15c x16 x17 x26 x26n x26c x27 x28 J T →
      search_Of_l7 g3 (fun x3 x4 x6 x7 x8 x9 x15 x15n x15c x16 x17 x26 x26n x26c x27 x28 I S => ∃ m', m' < m ∧ Inv m' x3 x4 x6 x7 x8 x9 x15 x15n x15c x16 x17 x26 x26n x26c x27 x28 I S) R x3 x4 x6 x7 x8 x9 x15 x15n x15c x16 x17 x26 x26n x26c x27 x28 J T
def search_Of_b4 (g3 : search_Of_t3) (R : RT) (x3 x4 x6 : Addr) (x7 : Bool) (x15 : OA) (x15n x15c : Nat) (x16 x17 : Int) (I : IMem) (S : SH) : Prop :=
  ptrP x15 fun u0 => (0 : Int) ≤ x17 ∧ x17 < (x15n : Int) ∧
  ∃ u1, Cell I S (u0.add (x17.toNat * 4)) (.string u1) ∧
  ∃ u2 u2n u2c, Cell I S ((u0.add (x17.toNat * 4)).add 1) (.slice u2 u2n u2c) ∧
  ∃ u3, Cell I S ((u0.add (x17.toNat * 4)).add 2) (.bool u3) ∧
  ∃ u4, Cell I S ((u0.add (x17.toNat * 4)).add 3) (.int .i64 u4) ∧
  ∀ b9 : Nat,
  StP ((b9, .cells #[.string ⟨#[]⟩, .slice none 0 0, .bool false, .int .i64 0] 61 (0, 0)) :: S) ⟨b9, 0, none⟩ [.string u1, .slice u2 u2n u2c, .bool u3, .int .i64 u4] fun S1 =>
  ∃ u5, Cell I S1 ⟨b9, 2, none⟩ (.bool u5) ∧
  bcase (!u5)
    (search_Of_b5 g3 R x3 x4 x6 x7 x15 x15n x15c x16 x17 I S1)
    (∃ u6 u6n u6c, Cell I S1 ⟨b9, 1, none⟩ (.slice u6 u6n u6c) ∧
    search_Of_b6 g3 R x3 x4 x6 x7 x17 ⟨b9, 0, none⟩ x15 x15n x15c x16 x17 u6 u6n u6c (u6n : Int) 0 I S1)
def search_Of_b11 (R : RT) (x4 x6 : Addr) (x7 : Bool) (I : IMem) (S : SH) : Prop :=
  ∃ u0, Cell I S x6 (.int .i64 u0) ∧
  ∃ u1, Cell I S (x6.add 1) (.int .i64 u1) ∧
  ∃ u2, Cell I S (x6.add 2) (.string u2) ∧
  ∃ u3, Cell I S (x6.add 3) (.string u3) ∧
  ∃ u4, Cell I S (x6.add 4) (.int .i64 u4) ∧
  ∃ u5, Cell I S (x6.add 5) (.int .i64 u5) ∧
  ∃ u6, Cell I S (x6.add 6) (.string u6) ∧
  ∃ u7, Cell I S (x6.add 7) (.bool u7) ∧
  ∃ u8 u8n u8c, Cell I S (x6.add 8) (.slice u8 u8n u8c) ∧
  StP S x4 [.int .i64 u0, .int .i64 u1, .string u2, .string u3, .int .i64 u4, .int .i64 u5, .string u6, .bool u7, .slice u8 u8n u8c] fun S1 =>
  ∃ u9, Cell I S1 x4 (.int .i64 u9) ∧
  ∃ ua, Cell I S1 (x4.add 1) (.int .i64 ua) ∧
  ∃ ub, Cell I S1 (x4.add 2) (.string ub) ∧
  ∃ uc, Cell I S1 (x4.add 3) (.string uc) ∧
  ∃ ud, Cell I S1 (x4.add 4) (.int .i64 ud) ∧
  ∃ ue, Cell I S1 (x4.add 5) (.int .i64 ue) ∧
  ∃ uf, Cell I S1 (x4.add 6) (.string uf) ∧
  ∃ ug, Cell I S1 (x4.add 7) (.bool ug) ∧
  ∃ uh uhn uhc, Cell I S1 (x4.add 8) (.slice uh uhn uhc) ∧
  R (.tuple #[.agg #[.int .i64 u9, .int .i64 ua, .string ub, .string uc, .int .i64 ud, .int .i64 ue, .string uf, .bool ug, .slice uh uhn uhc], .bool x7]) I S1
def search_Of_l3 (g3 : search_Of_t3) (R : RT) (x3 x4 x6 : Addr) (x7 : Bool) (x15 : OA) (x15n x15c : Nat) (x16 x17 : Int) (I : IMem) (S : SH) : Prop :=
  bcase (decide (x17 < x16))
    (search_Of_b4 g3 R x3 x4 x6 x7 x15 x15n x15c x16 x17 I S)
    (search_Of_b11 R x4 x6 x7 I S)
def search_Of_b2 (R : RT) (x3 x4 x6 : Addr) (x7 : Bool) (x15 : OA) (x15n x15c : Nat) (x16 x17 : Int) (I : IMem) (S : SH) : Prop :=
  ∃ (Inv : Nat → search_Of_t3) (m : Nat), Inv m x3 x4 x6 x7 x15 x15n x15c x16 x17 I S ∧
    ∀ (m : Nat) (x3 x4 x6 : Addr) (x7 : Bool) (x15 : OA) (x15n x15c : Nat) (x16 x17 : Int) (J : IMem) (T : SH), I.le J → Inv m x3 x4 x6 x7 x15 x15n x15c x16 x17 J T →
      search_Of_l3 (fun x3 x4 x6 x7 x15 x15n x15c x16 x17 I S => ∃ m', m' < m ∧ Inv m' x3 x4 x6 x7 x15 x15n x15c x16 x17 I S) R x3 x4 x6 x7 x15 x15n x15c x16 x17 J T
def search_Of_b1 (R : RT) (x0 : OA) (x0n x0c : Nat) (x3 x4 x6 : Addr) (x7 : Bool) (I : IMem) (S : SH) : Prop :=
  search_Of_b2 R x3 x4 x6 x7 x0 x0n x0c (x0n : Int) 0 I S
def search_Of (R : RT) (u0 : OA) (u0n u0c : Nat) (u1 u2 : ByteArray) (u3 : OA) (u3n u3c : Nat) (u4 : OA) (u4n u4c : Nat) (u5 : OA) (u5n u5c : Nat) (I : IMem) (S : SH) : Prop :=
  ∀ b3 : Nat,
  ∀ b4 : Nat,
  ∀ b6 : Nat,
  search_Of_b1 R u0 u0n u0c ⟨b3, 0, none⟩ ⟨b4, 0, none⟩ ⟨b6, 0, none⟩ false I ((b6, .cells #[.int .i64 0, .int .i64 0, .string ⟨#[]⟩, .string ⟨#[]⟩, .int .i64 0, .int .i64 0, .string ⟨#[]⟩, .bool false, .slice none 0 0] 80 (0, 0)) :: ((b4, .cells #[.int .i64 0, .int .i64 0, .string ⟨#[]⟩, .string ⟨#[]⟩, .int .i64 0, .int .i64 0, .string ⟨#[]⟩, .bool false, .slice none 0 0] 80 (0, 0)) :: ((b3, .cells #[.string u1, .string u2, .slice u3 u3n u3c, .slice u4 u4n u4c, .slice u5 u5n u5c] 37 (0, 0)) :: S)))
theorem search_Of_fn (R : RT) (u0 : OA) (u0n u0c : Nat) (u1 u2 : ByteArray) (u3 : OA) (u3n u3c : Nat) (u4 : OA) (u4n u4c : Nat) (u5 : OA) (u5n u5c : Nat) (I : IMem) (S : SH) (h : search_Of R u0 u0n u0c u1 u2 u3 u3n u3c u4 u4n u4c u5 u5n u5c I S) : Runs Tryz.prog 30 #[.slice u0 u0n u0c, .agg #[.string u1, .string u2, .slice u3 u3n u3c, .slice u4 u4n u4c, .slice u5 u5n u5c]] I S R := by
  refine Runs.of_wp (c := cd Tryz.f30) Tryz.func30 (by kernel_rfl) (by kernel_rfl) ?_
  refine cO 3 [kL 0, kA 3, kA 4, kA 6, kB 7] (search_Of_b1 R) h fun _ _ _ _ _ _ _ _ _ _ _ h => ?_
  refine sO [kA 4, kA 6, kB 7] (search_Of_b11 R) ?_ fun _ _ _ _ _ _ _ h => ?_
  · refine cO 1 [kA 3, kA 4, kA 6, kB 7, kL 15, kI .i64 16, kI .i64 17] (search_Of_b2 R) h fun _ _ _ _ _ _ _ _ _ _ _ _ _ h => ?_
    refine bK ?_
    obtain ⟨Vg3, mg3, h, hr⟩ := h
    refine lO [kA 3, kA 4, kA 6, kB 7, kL 15, kI .i64 16, kI .i64 17] Vg3 mg3 h fun mg3 _ I S hle x3 x4 x6 x7 x15 x15n x15c x16 x17 h => ?_
    have h := hr mg3 x3 x4 x6 x7 x15 x15n x15c x16 x17 I S hle h
    refine cO 2 [kA 3, kA 4, kA 6, kB 7, kL 15, kI .i64 16, kI .i64 17] (search_Of_b4 (fun x3 x4 x6 x7 x15 x15n x15c x16 x17 I S => ∃ m', m' < mg3 ∧ Vg3 m' x3 x4 x6 x7 x15 x15n x15c x16 x17 I S) R) h fun _ _ _ _ _ _ _ _ _ _ _ _ _ h => ?_
    refine sO [kA 3, kA 4, kA 6, kB 7, kL 15, kI .i64 16, kI .i64 17] (search_Of_b5 (fun x3 x4 x6 x7 x15 x15n x15c x16 x17 I S => ∃ m', m' < mg3 ∧ Vg3 m' x3 x4 x6 x7 x15 x15n x15c x16 x17 I S) R) ?_ fun _ _ _ _ _ _ _ _ _ _ _ _ _ h => ?_
    · refine bK ?_
      refine cO 3 [kA 3, kA 4, kA 6, kB 7, kI .i64 8, kA 9, kL 15, kI .i64 16, kI .i64 17, kL 26, kI .i64 27, kI .i64 28] (search_Of_b6 (fun x3 x4 x6 x7 x15 x15n x15c x16 x17 I S => ∃ m', m' < mg3 ∧ Vg3 m' x3 x4 x6 x7 x15 x15n x15c x16 x17 I S) R) h fun _ _ _ _ _ _ _ _ _ _ _ _ _ _ _ _ _ _ _ _ h => ?_
      refine bK ?_
      obtain ⟨Vg7, mg7, h, hr⟩ := h
      refine lO [kA 3, kA 4, kA 6, kB 7, kI .i64 8, kA 9, kL 15, kI .i64 16, kI .i64 17, kL 26, kI .i64 27, kI .i64 28] Vg7 mg7 h fun mg7 _ I S hle x3 x4 x6 x7 x8 x9 x15 x15n x15c x16 x17 x26 x26n x26c x27 x28 h => ?_
      have h := hr mg7 x3 x4 x6 x7 x8 x9 x15 x15n x15c x16 x17 x26 x26n x26c x27 x28 I S hle h
      refine cO 2 [kA 3, kA 4, kA 6, kB 7, kI .i64 8, kA 9, kL 15, kI .i64 16, kI .i64 17, kL 26, kI .i64 27, kI .i64 28] (search_Of_b8 (fun x3 x4 x6 x7 x15 x15n x15c x16 x17 I S => ∃ m', m' < mg3 ∧ Vg3 m' x3 x4 x6 x7 x15 x15n x15c x16 x17 I S) (fun x3 x4 x6 x7 x8 x9 x15 x15n x15c x16 x17 x26 x26n x26c x27 x28 I S => ∃ m', m' < mg7 ∧ Vg7 m' x3 x4 x6 x7 x8 x9 x15 x15n x15c x16 x17 x26 x26n x26c x27 x28 I S) R) h fun _ _ _ _ _ _ _ _ _ _ _ _ _ _ _ _ _ _ _ _ h => ?_
      refine sO [kA 3, kA 4, kA 6, kB 7, kI .i64 8, kA 9, kL 15, kI .i64 16, kI .i64 17, kL 26, kI .i64 27, kI .i64 28] (search_Of_b10 (fun x3 x4 x6 x7 x15 x15n x15c x16 x17 I S => ∃ m', m' < mg3 ∧ Vg3 m' x3 x4 x6 x7 x15 x15n x15c x16 x17 I S) (fun x3 x4 x6 x7 x8 x9 x15 x15n x15c x16 x17 x26 x26n x26c x27 x28 I S => ∃ m', m' < mg7 ∧ Vg7 m' x3 x4 x6 x7 x8 x9 x15 x15n x15c x16 x17 x26 x26n x26c x27 x28 I S) R) ?_ fun _ _ _ _ _ _ _ _ _ _ _ _ _ _ _ _ _ _ _ _ h => ?_
      · refine bK ?_
        refine cO 3 [kA 3, kA 4, kA 6, kB 7, kI .i64 8, kA 9, kA 12, kA 13, kL 15, kI .i64 16, kI .i64 17, kL 26, kI .i64 27, kI .i64 28, kB 57] (search_Of_b9 (fun x3 x4 x6 x7 x15 x15n x15c x16 x17 I S => ∃ m', m' < mg3 ∧ Vg3 m' x3 x4 x6 x7 x15 x15n x15c x16 x17 I S) (fun x3 x4 x6 x7 x8 x9 x15 x15n x15c x16 x17 x26 x26n x26c x27 x28 I S => ∃ m', m' < mg7 ∧ Vg7 m' x3 x4 x6 x7 x8 x9 x15 x15n x15c x16 x17 x26 x26n x26c x27 x28 I S) R) h fun _ _ _ _ _ _ _ _ _ _ _ _ _ _ _ _ _ _ _ _ _ _ _ h => ?_
        exact pS h
      exact pS h
    exact pS h
  exact pS h
def search_better_b2 (R : RT) (x5 x6 : Addr) (x9 x9i x10 x10i : Nat) (I : IMem) (S : SH) : Prop :=
  bcase (!(Op.floatEq .f64 x9 x10 && Op.floatEq .f64 x9i x10i))
    (Runs Tryz.prog 67 #[.complex .f64 x9 x9i, .complex .f64 x10 x10i] I S fun v I1 S1 => ∃ u0, v = .bool u0 ∧
    R (.bool u0) I1 S1)
    (∃ u1, Cell I S x5 (.int .i64 u1) ∧
    ∃ u2, Cell I S (x5.add 1) (.string u2) ∧
    ∃ u3, Cell I S (x5.add 2) (.string u3) ∧
    ∃ u4, Cell I S (x5.add 3) (.int .i64 u4) ∧
    ∃ u5, Cell I S (x6.add 1) (.int .i64 u5) ∧
    ∃ u6, Cell I S ((x6.add 1).add 1) (.string u6) ∧
    ∃ u7, Cell I S ((x6.add 1).add 2) (.string u7) ∧
    ∃ u8, Cell I S ((x6.add 1).add 3) (.int .i64 u8) ∧
    Runs Tryz.prog 68 #[.agg #[.int .i64 u1, .string u2, .string u3, .int .i64 u4], .agg #[.int .i64 u5, .string u6, .string u7, .int .i64 u8]] I S fun v' I1' S1' => ∃ u9, v' = .bool u9 ∧
    R (.bool u9) I1' S1')
def search_better_b1 (R : RT) (x0 : Int) (x5 x6 : Addr) (I : IMem) (S : SH) : Prop :=
  ∃ u0, Cell I S x5 (.int .i64 u0) ∧
  ∃ u1, Cell I S (x5.add 1) (.string u1) ∧
  ∃ u2, Cell I S (x5.add 2) (.string u2) ∧
  ∃ u3, Cell I S (x5.add 3) (.int .i64 u3) ∧
  ∃ u4, Cell I S x6 (.int .i64 u4) ∧
  ∃ u5, Cell I S (x6.add 1) (.int .i64 u5) ∧
  ∃ u6, Cell I S ((x6.add 1).add 1) (.string u6) ∧
  ∃ u7, Cell I S ((x6.add 1).add 2) (.string u7) ∧
  ∃ u8, Cell I S ((x6.add 1).add 3) (.int .i64 u8) ∧
  Runs Tryz.prog 66 #[.int .i64 x0, .agg #[.int .i64 u0, .string u1, .string u2, .int .i64 u3]] I S fun v I1 S1 => ∃ u9 u9i, v = .complex .f64 u9 u9i ∧
  Keep I S I1 S1 ∧
  Runs Tryz.prog 66 #[.int .i64 u4, .agg #[.int .i64 u5, .string u6, .string u7, .int .i64 u8]] I1 S1 fun v' I1' S1' => ∃ ua uai, v' = .complex .f64 ua uai ∧
  search_better_b2 R x5 x6 u9 u9i ua uai I1' S1'
def search_better (R : RT) (u0 u1 : Int) (u2 u3 : ByteArray) (u4 u5 u6 : Int) (u7 u8 : ByteArray) (u9 ua : Int) (ub : ByteArray) (uc : Bool) (ud : OA) (udn udc : Nat) (ue : Bool) (I : IMem) (S : SH) : Prop :=
  ∀ b5 : Nat,
  ∀ b6 : Nat,
  bcase (!ue)
    (R (.bool true) I ((b6, .cells #[.int .i64 u5, .int .i64 u6, .string u7, .string u8, .int .i64 u9, .int .i64 ua, .string ub, .bool uc, .slice ud udn udc] 80 (0, 0)) :: ((b5, .cells #[.int .i64 u1, .string u2, .string u3, .int .i64 u4] 33 (0, 0)) :: S)))
    (search_better_b1 R u0 ⟨b5, 0, none⟩ ⟨b6, 0, none⟩ I ((b6, .cells #[.int .i64 u5, .int .i64 u6, .string u7, .string u8, .int .i64 u9, .int .i64 ua, .string ub, .bool uc, .slice ud udn udc] 80 (0, 0)) :: ((b5, .cells #[.int .i64 u1, .string u2, .string u3, .int .i64 u4] 33 (0, 0)) :: S)))
theorem search_better_fn (R : RT) (u0 u1 : Int) (u2 u3 : ByteArray) (u4 u5 u6 : Int) (u7 u8 : ByteArray) (u9 ua : Int) (ub : ByteArray) (uc : Bool) (ud : OA) (udn udc : Nat) (ue : Bool) (I : IMem) (S : SH) (h : search_better R u0 u1 u2 u3 u4 u5 u6 u7 u8 u9 ua ub uc ud udn udc ue I S) : Runs Tryz.prog 65 #[.int .i64 u0, .agg #[.int .i64 u1, .string u2, .string u3, .int .i64 u4], .agg #[.int .i64 u5, .int .i64 u6, .string u7, .string u8, .int .i64 u9, .int .i64 ua, .string ub, .bool uc, .slice ud udn udc], .bool ue] I S R := by
  refine Runs.of_wp (c := cd Tryz.f65) Tryz.func65 (by kernel_rfl) (by kernel_rfl) ?_
  refine cO 2 [kI .i64 0, kA 5, kA 6] (search_better_b1 R) h fun _ _ _ _ _ _ _ h => ?_
  refine sO [kA 5, kA 6, kZ 9, kZ 10] (search_better_b2 R) (dR (.take 0 (.take 1 (tk 4 3 (.step 2 (.step 7 (.take 8 (.take 9 .done))))))) [2, 7] h) fun _ _ _ _ _ _ _ _ _ _ h => ?_
  exact pS h
def search_Less (R : RT) (u0 : Int) (u1 u2 : ByteArray) (u3 u4 : Int) (u5 u6 : ByteArray) (u7 : Int) (I : IMem) (S : SH) : Prop :=
  ∀ b2 : Nat,
  ∀ b3 : Nat,
  ∃ u8, Cell I ((b3, .cells #[.int .i64 u4, .string u5, .string u6, .int .i64 u7] 33 (0, 0)) :: ((b2, .cells #[.int .i64 u0, .string u1, .string u2, .int .i64 u3] 33 (0, 0)) :: S)) ⟨b2, 1, none⟩ (.string u8) ∧
  ∃ u9, Cell I ((b3, .cells #[.int .i64 u4, .string u5, .string u6, .int .i64 u7] 33 (0, 0)) :: ((b2, .cells #[.int .i64 u0, .string u1, .string u2, .int .i64 u3] 33 (0, 0)) :: S)) ⟨b3, 1, none⟩ (.string u9) ∧
  bcase (!(u8.toList == u9.toList))
    (∃ ua, Cell I ((b3, .cells #[.int .i64 u4, .string u5, .string u6, .int .i64 u7] 33 (0, 0)) :: ((b2, .cells #[.int .i64 u0, .string u1, .string u2, .int .i64 u3] 33 (0, 0)) :: S)) ⟨b2, 1, none⟩ (.string ua) ∧
    ∃ ub, Cell I ((b3, .cells #[.int .i64 u4, .string u5, .string u6, .int .i64 u7] 33 (0, 0)) :: ((b2, .cells #[.int .i64 u0, .string u1, .string u2, .int .i64 u3] 33 (0, 0)) :: S)) ⟨b3, 1, none⟩ (.string ub) ∧
    R (.bool (Op.bytesLess ua.toList ub.toList)) I ((b3, .cells #[.int .i64 u4, .string u5, .string u6, .int .i64 u7] 33 (0, 0)) :: ((b2, .cells #[.int .i64 u0, .string u1, .string u2, .int .i64 u3] 33 (0, 0)) :: S)))
    (∃ uc, Cell I ((b3, .cells #[.int .i64 u4, .string u5, .string u6, .int .i64 u7] 33 (0, 0)) :: ((b2, .cells #[.int .i64 u0, .string u1, .string u2, .int .i64 u3] 33 (0, 0)) :: S)) ⟨b2, 2, none⟩ (.string uc) ∧
    ∃ ud, Cell I ((b3, .cells #[.int .i64 u4, .string u5, .string u6, .int .i64 u7] 33 (0, 0)) :: ((b2, .cells #[.int .i64 u0, .string u1, .string u2, .int .i64 u3] 33 (0, 0)) :: S)) ⟨b3, 2, none⟩ (.string ud) ∧
    R (.bool (Op.bytesLess uc.toList ud.toList)) I ((b3, .cells #[.int .i64 u4, .string u5, .string u6, .int .i64 u7] 33 (0, 0)) :: ((b2, .cells #[.int .i64 u0, .string u1, .string u2, .int .i64 u3] 33 (0, 0)) :: S)))
theorem search_Less_fn (R : RT) (u0 : Int) (u1 u2 : ByteArray) (u3 u4 : Int) (u5 u6 : ByteArray) (u7 : Int) (I : IMem) (S : SH) (h : search_Less R u0 u1 u2 u3 u4 u5 u6 u7 I S) : Runs Tryz.prog 68 #[.agg #[.int .i64 u0, .string u1, .string u2, .int .i64 u3], .agg #[.int .i64 u4, .string u5, .string u6, .int .i64 u7]] I S R := by
  refine Runs.of_wp (c := cd Tryz.f68) Tryz.func68 (by kernel_rfl) (by kernel_rfl) ?_
  exact pS h
abbrev action_Of_t3 := OA → Nat → Nat → Addr → OA → Nat → Nat → OA → Nat → Nat → Int → Int → PR
def action_Of_b8 (g3 : action_Of_t3) (R : RT) (x0 : OA) (x0n x0c : Nat) (x2 : Addr) (x4 : OA) (x4n x4c : Nat) (x7 : OA) (x7n x7c : Nat) (x8 x9 : Int) (I : IMem) (S : SH) : Prop :=
  g3 x0 x0n x0c x2 x4 x4n x4c x7 x7n x7c x8 (IntKind.wrap .i64 (x9 + (1 : Int))) I S
def action_Of_b7 (g3 : action_Of_t3) (R : RT) (x0 : OA) (x0n x0c : Nat) (x2 : Addr) (x4 : OA) (x4n x4c : Nat) (x6 : Addr) (x7 : OA) (x7n x7c : Nat) (x8 x9 : Int) (I : IMem) (S : SH) : Prop :=
  ∃ u0, Cell I S x6 (.string u0) ∧
  ∃ u1, Cell I S (x6.add 1) (.int .u16 u1) ∧
  ∃ u2, Cell I S (x6.add 2) (.int .u32 u2) ∧
  ∃ u3, Cell I S (x6.add 3) (.string u3) ∧
  ∀ b34 : Nat,
  AppG 69 4 40 [.string ⟨#[]⟩, .int .u16 0, .int .u32 0, .string ⟨#[]⟩] (some (.slice 69)) I ((b34, .cells #[.string u0, .int .u16 u1, .int .u32 u2, .string u3] 69 (0, 0)) :: S) (.slice x4 x4n x4c) (.slice (some ⟨b34, 0, none⟩) 1 1) fun u4 u4n u4c S1 =>
  action_Of_b8 g3 R x0 x0n x0c x2 u4 u4n u4c x7 x7n x7c x8 x9 I S1
def action_Of_b6 (g3 : action_Of_t3) (R : RT) (x0 : OA) (x0n x0c : Nat) (x2 : Addr) (x4 : OA) (x4n x4c : Nat) (x6 : Addr) (x7 : OA) (x7n x7c : Nat) (x8 x9 : Int) (x30 : Bool) (I : IMem) (S : SH) : Prop :=
  bcase x30
    (StP S x2 [.int .i64 0, .string ⟨#[]⟩, .bool false, .slice none 0 0] fun S1 =>
    ∃ u0, Cell I S1 x2 (.int .i64 u0) ∧
    ∃ u1, Cell I S1 (x2.add 1) (.string u1) ∧
    ∃ u2, Cell I S1 (x2.add 2) (.bool u2) ∧
    ∃ u3 u3n u3c, Cell I S1 (x2.add 3) (.slice u3 u3n u3c) ∧
    R (.tuple #[.agg #[.int .i64 u0, .string u1, .bool u2, .slice u3 u3n u3c], .bool false]) I S1)
    (action_Of_b7 g3 R x0 x0n x0c x2 x4 x4n x4c x6 x7 x7n x7c x8 x9 I S)
def action_Of_b5 (g3 : action_Of_t3) (R : RT) (x0 : OA) (x0n x0c : Nat) (x2 : Addr) (x4 : OA) (x4n x4c : Nat) (x6 : Addr) (x7 : OA) (x7n x7c : Nat) (x8 x9 : Int) (I : IMem) (S : SH) : Prop :=
  ∃ u0, Cell I S (x6.add 1) (.int .u16 u0) ∧
  bcase (u0 == (5 : Int))
    (bcase (decide ((x0n : Int) > (1 : Int)))
      (action_Of_b6 g3 R x0 x0n x0c x2 x4 x4n x4c x6 x7 x7n x7c x8 x9 true I S)
      (∃ u1, Cell I S (x6.add 1) (.int .u16 u1) ∧
      bcase (u1 == (6 : Int))
        (action_Of_b6 g3 R x0 x0n x0c x2 x4 x4n x4c x6 x7 x7n x7c x8 x9 true I S)
        (∃ u2, Cell I S (x6.add 1) (.int .u16 u2) ∧
        action_Of_b6 g3 R x0 x0n x0c x2 x4 x4n x4c x6 x7 x7n x7c x8 x9 (u2 == (2 : Int)) I S)))
    (∃ u3, Cell I S (x6.add 1) (.int .u16 u3) ∧
    bcase (u3 == (6 : Int))
      (action_Of_b6 g3 R x0 x0n x0c x2 x4 x4n x4c x6 x7 x7n x7c x8 x9 true I S)
      (∃ u4, Cell I S (x6.add 1) (.int .u16 u4) ∧
      action_Of_b6 g3 R x0 x0n x0c x2 x4 x4n x4c x6 x7 x7n x7c x8 x9 (u4 == (2 : Int)) I S))
def action_Of_b4 (g3 : action_Of_t3) (R : RT) (x0 : OA) (x0n x0c : Nat) (x2 : Addr) (x4 : OA) (x4n x4c : Nat) (x7 : OA) (x7n x7c : Nat) (x8 x9 : Int) (I : IMem) (S : SH) : Prop :=
  ptrP x7 fun u0 => (0 : Int) ≤ x9 ∧ x9 < (x7n : Int) ∧
  ∃ u1, Cell I S (u0.add (x9.toNat * 4)) (.string u1) ∧
  ∃ u2, Cell I S ((u0.add (x9.toNat * 4)).add 1) (.int .u16 u2) ∧
  ∃ u3, Cell I S ((u0.add (x9.toNat * 4)).add 2) (.int .u32 u3) ∧
  ∃ u4, Cell I S ((u0.add (x9.toNat * 4)).add 3) (.string u4) ∧
  ∀ b6 : Nat,
  StP ((b6, .cells #[.string ⟨#[]⟩, .int .u16 0, .int .u32 0, .string ⟨#[]⟩] 69 (0, 0)) :: S) ⟨b6, 0, none⟩ [.string u1, .int .u16 u2, .int .u32 u3, .string u4] fun S1 =>
  action_Of_b5 g3 R x0 x0n x0c x2 x4 x4n x4c ⟨b6, 0, none⟩ x7 x7n x7c x8 x9 I S1
def action_Of_b9 (R : RT) (x0 : OA) (x0n x0c : Nat) (x2 : Addr) (x4 : OA) (x4n x4c : Nat) (I : IMem) (S : SH) : Prop :=
  bcase ((x0n : Int) == (0 : Int))
    (StP S x2 [.int .i64 0, .string ⟨#[]⟩, .bool false, .slice none 0 0] fun S1 =>
    ∃ u0, Cell I S1 x2 (.int .i64 u0) ∧
    ∃ u1, Cell I S1 (x2.add 1) (.string u1) ∧
    ∃ u2, Cell I S1 (x2.add 2) (.bool u2) ∧
    ∃ u3 u3n u3c, Cell I S1 (x2.add 3) (.slice u3 u3n u3c) ∧
    R (.tuple #[.agg #[.int .i64 u0, .string u1, .bool u2, .slice u3 u3n u3c], .bool false]) I S1)
    (ptrP x0 fun u4 => (0 : Int) ≤ (0 : Int) ∧ (0 : Int) < (x0n : Int) ∧
    ∃ u5, Cell I S ((u4.add ((0 : Int).toNat * 4)).add 1) (.int .u16 u5) ∧
    bcase (u5 == (5 : Int))
      (ptrP x0 fun u6 => (0 : Int) ≤ (0 : Int) ∧ (0 : Int) < (x0n : Int) ∧
      ∃ u7, Cell I S ((u6.add ((0 : Int).toNat * 4)).add 3) (.string u7) ∧
      Runs Tryz.prog 97 #[.string u7] I S fun v I1 S1' => ∃ u8 u9 ua ub ubn ubc, v = .agg #[.int .i64 u8, .string u9, .bool ua, .slice ub ubn ubc] ∧
      StP S1' x2 [.int .i64 u8, .string u9, .bool ua, .slice ub ubn ubc] fun S1'' =>
      ∃ uc, Cell I1 S1'' x2 (.int .i64 uc) ∧
      ∃ ud, Cell I1 S1'' (x2.add 1) (.string ud) ∧
      ∃ ue, Cell I1 S1'' (x2.add 2) (.bool ue) ∧
      ∃ uf ufn ufc, Cell I1 S1'' (x2.add 3) (.slice uf ufn ufc) ∧
      R (.tuple #[.agg #[.int .i64 uc, .string ud, .bool ue, .slice uf ufn ufc], .bool true]) I1 S1'')
      (StP S x2 [.int .i64 8, .string ⟨#[]⟩, .bool false, .slice x4 x4n x4c] fun S1_r3 =>
      ∃ ug, Cell I S1_r3 x2 (.int .i64 ug) ∧
      ∃ uh, Cell I S1_r3 (x2.add 1) (.string uh) ∧
      ∃ ui, Cell I S1_r3 (x2.add 2) (.bool ui) ∧
      ∃ uj ujn ujc, Cell I S1_r3 (x2.add 3) (.slice uj ujn ujc) ∧
      R (.tuple #[.agg #[.int .i64 ug, .string uh, .bool ui, .slice uj ujn ujc], .bool true]) I S1_r3))
def action_Of_l3 (g3 : action_Of_t3) (R : RT) (x0 : OA) (x0n x0c : Nat) (x2 : Addr) (x4 : OA) (x4n x4c : Nat) (x7 : OA) (x7n x7c : Nat) (x8 x9 : Int) (I : IMem) (S : SH) : Prop :=
  bcase (decide (x9 < x8))
    (action_Of_b4 g3 R x0 x0n x0c x2 x4 x4n x4c x7 x7n x7c x8 x9 I S)
    (action_Of_b9 R x0 x0n x0c x2 x4 x4n x4c I S)
def action_Of_b2 (R : RT) (x0 : OA) (x0n x0c : Nat) (x2 : Addr) (x4 : OA) (x4n x4c : Nat) (x7 : OA) (x7n x7c : Nat) (x8 x9 : Int) (I : IMem) (S : SH) : Prop :=
  ∃ (Inv : Nat → action_Of_t3) (m : Nat), Inv m x0 x0n x0c x2 x4 x4n x4c x7 x7n x7c x8 x9 I S ∧
    ∀ (m : Nat) (x0 : OA) (x0n x0c : Nat) (x2 : Addr) (x4 : OA) (x4n x4c : Nat) (x7 : OA) (x7n x7c : Nat) (x8 x9 : Int) (J : IMem) (T : SH), I.le J → Inv m x0 x0n x0c x2 x4 x4n x4c x7 x7n x7c x8 x9 J T →
      action_Of_l3 (fun x0 x0n x0c x2 x4 x4n x4c x7 x7n x7c x8 x9 I S => ∃ m', m' < m ∧ Inv m' x0 x0n x0c x2 x4 x4n x4c x7 x7n x7c x8 x9 I S) R x0 x0n x0c x2 x4 x4n x4c x7 x7n x7c x8 x9 J T
def action_Of_b1 (R : RT) (x0 : OA) (x0n x0c : Nat) (x2 : Addr) (x4 : OA) (x4n x4c : Nat) (I : IMem) (S : SH) : Prop :=
  action_Of_b2 R x0 x0n x0c x2 x4 x4n x4c x0 x0n x0c (x0n : Int) 0 I S
def action_Of (R : RT) (u0 : OA) (u0n u0c : Nat) (I : IMem) (S : SH) : Prop :=
  ∀ b2 : Nat,
  action_Of_b1 R u0 u0n u0c ⟨b2, 0, none⟩ none 0 0 I ((b2, .cells #[.int .i64 0, .string ⟨#[]⟩, .bool false, .slice none 0 0] 71 (0, 0)) :: S)
theorem action_Of_fn (R : RT) (u0 : OA) (u0n u0c : Nat) (I : IMem) (S : SH) (h : action_Of R u0 u0n u0c I S) : Runs Tryz.prog 62 #[.slice u0 u0n u0c] I S R := by
  refine Runs.of_wp (c := cd Tryz.f62) Tryz.func62 (by kernel_rfl) (by kernel_rfl) ?_
  refine cO 2 [kL 0, kA 2, kL 4] (action_Of_b1 R) h fun _ _ _ _ _ _ _ _ _ _ _ h => ?_
  refine sO [kL 0, kA 2, kL 4] (action_Of_b9 R) ?_ fun _ _ _ _ _ _ _ _ _ _ _ h => ?_
  · refine cO 1 [kL 0, kA 2, kL 4, kL 7, kI .i64 8, kI .i64 9] (action_Of_b2 R) h fun _ _ _ _ _ _ _ _ _ _ _ _ _ _ _ _ h => ?_
    refine bK ?_
    obtain ⟨Vg3, mg3, h, hr⟩ := h
    refine lO [kL 0, kA 2, kL 4, kL 7, kI .i64 8, kI .i64 9] Vg3 mg3 h fun mg3 _ I S hle x0 x0n x0c x2 x4 x4n x4c x7 x7n x7c x8 x9 h => ?_
    have h := hr mg3 x0 x0n x0c x2 x4 x4n x4c x7 x7n x7c x8 x9 I S hle h
    refine cO 2 [kL 0, kA 2, kL 4, kL 7, kI .i64 8, kI .i64 9] (action_Of_b4 (fun x0 x0n x0c x2 x4 x4n x4c x7 x7n x7c x8 x9 I S => ∃ m', m' < mg3 ∧ Vg3 m' x0 x0n x0c x2 x4 x4n x4c x7 x7n x7c x8 x9 I S) R) h fun _ _ _ _ _ _ _ _ _ _ _ _ _ _ _ _ h => ?_
    refine sO [kL 0, kA 2, kL 4, kL 7, kI .i64 8, kI .i64 9] (action_Of_b8 (fun x0 x0n x0c x2 x4 x4n x4c x7 x7n x7c x8 x9 I S => ∃ m', m' < mg3 ∧ Vg3 m' x0 x0n x0c x2 x4 x4n x4c x7 x7n x7c x8 x9 I S) R) ?_ fun _ _ _ _ _ _ _ _ _ _ _ _ _ _ _ _ h => ?_
    · refine bK ?_
      refine cO 1 [kL 0, kA 2, kL 4, kA 6, kL 7, kI .i64 8, kI .i64 9] (action_Of_b5 (fun x0 x0n x0c x2 x4 x4n x4c x7 x7n x7c x8 x9 I S => ∃ m', m' < mg3 ∧ Vg3 m' x0 x0n x0c x2 x4 x4n x4c x7 x7n x7c x8 x9 I S) R) h fun _ _ _ _ _ _ _ _ _ _ _ _ _ _ _ _ _ h => ?_
      refine sO [kL 0, kA 2, kL 4, kA 6, kL 7, kI .i64 8, kI .i64 9] (action_Of_b7 (fun x0 x0n x0c x2 x4 x4n x4c x7 x7n x7c x8 x9 I S => ∃ m', m' < mg3 ∧ Vg3 m' x0 x0n x0c x2 x4 x4n x4c x7 x7n x7c x8 x9 I S) R) ?_ fun _ _ _ _ _ _ _ _ _ _ _ _ _ _ _ _ _ h => ?_
      · refine cO 1 [kL 0, kA 2, kL 4, kA 6, kL 7, kI .i64 8, kI .i64 9, kB 30] (action_Of_b6 (fun x0 x0n x0c x2 x4 x4n x4c x7 x7n x7c x8 x9 I S => ∃ m', m' < mg3 ∧ Vg3 m' x0 x0n x0c x2 x4 x4n x4c x7 x7n x7c x8 x9 I S) R) h fun _ _ _ _ _ _ _ _ _ _ _ _ _ _ _ _ _ _ h => ?_
        exact pS h
      exact pS h
    exact pS h
  exact pS h
abbrev action_target_t3 := ByteArray → Addr → Addr → PR
def action_target_b6 (R : RT) (x0 : ByteArray) (x2 : Addr) (I : IMem) (S : SH) : Prop :=
  StP S x2 [.int .i64 7, .string x0, .bool false, .slice none 0 0] fun S1 =>
  ∃ u0, Cell I S1 x2 (.int .i64 u0) ∧
  ∃ u1, Cell I S1 (x2.add 1) (.string u1) ∧
  ∃ u2, Cell I S1 (x2.add 2) (.bool u2) ∧
  ∃ u3 u3n u3c, Cell I S1 (x2.add 3) (.slice u3 u3n u3c) ∧
  R (.agg #[.int .i64 u0, .string u1, .bool u2, .slice u3 u3n u3c]) I S1
def action_target_b5 (R : RT) (x0 : ByteArray) (x2 : Addr) (x39 : Bool) (I : IMem) (S : SH) : Prop :=
  bcase x39
    ((0 : Int) ≤ (2 : Int) ∧ (2 : Int) ≤ ((x0.size : Nat) : Int) ∧
    StP S x2 [.int .i64 7, .string (x0.extract ((2 : Int).toNat) x0.size), .bool true, .slice none 0 0] fun S1 =>
    ∃ u0, Cell I S1 x2 (.int .i64 u0) ∧
    ∃ u1, Cell I S1 (x2.add 1) (.string u1) ∧
    ∃ u2, Cell I S1 (x2.add 2) (.bool u2) ∧
    ∃ u3 u3n u3c, Cell I S1 (x2.add 3) (.slice u3 u3n u3c) ∧
    R (.agg #[.int .i64 u0, .string u1, .bool u2, .slice u3 u3n u3c]) I S1)
    (action_target_b6 R x0 x2 I S)
def action_target_b4 (R : RT) (x0 : ByteArray) (x2 : Addr) (I : IMem) (S : SH) : Prop :=
  ∀ b27 : Nat,
  Runs Tryz.prog 40 #[.slice (some ⟨b27, 0, none⟩) 1 1] I ((b27, .cells #[.string ⟨#[42]⟩] 9 (0, 0)) :: S) fun v I1 S1 => ∃ u0 u1, v = .tuple #[.string u0, .bool u1] ∧
  bcase (decide ((x0.size : Int) > (2 : Int)))
    ((0 : Int) ≤ (2 : Int) ∧ (2 : Int) ≤ ((x0.size : Nat) : Int) ∧
    action_target_b5 R x0 x2 ((x0.extract 0 ((2 : Int).toNat)).toList == u0.toList) I1 S1)
    (action_target_b5 R x0 x2 false I1 S1)
def action_target_b8 (g3 : action_target_t3) (R : RT) (x0 : ByteArray) (x2 : Addr) (x3 : Int) (x4 : Value) (x10 : Addr) (I : IMem) (S : SH) : Prop :=
  Runs Tryz.prog 40 #[x4] I S fun v I1 S1 => ∃ u0 u1, v = .tuple #[.string u0, .bool u1] ∧
  bcase (u0.toList == x0.toList)
    (StP S1 x2 [.int .i64 x3, .string ⟨#[]⟩, .bool false, .slice none 0 0] fun S1' =>
    ∃ u2, Cell I1 S1' x2 (.int .i64 u2) ∧
    ∃ u3, Cell I1 S1' (x2.add 1) (.string u3) ∧
    ∃ u4, Cell I1 S1' (x2.add 2) (.bool u4) ∧
    ∃ u5 u5n u5c, Cell I1 S1' (x2.add 3) (.slice u5 u5n u5c) ∧
    R (.agg #[.int .i64 u2, .string u3, .bool u4, .slice u5 u5n u5c]) I1 S1')
    (g3 x0 x2 x10 I1 S1)
def action_target_b7 (g3 : action_target_t3) (R : RT) (x0 : ByteArray) (x2 x10 : Addr) (I : IMem) (S : SH) : Prop :=
  EnP I S x10 fun u0 u1 =>
  asI .i64 u0 fun u2 => action_target_b8 g3 R x0 x2 u2 u1 x10 I S
def action_target_l3 (g3 : action_target_t3) (R : RT) (x0 : ByteArray) (x2 x10 : Addr) (I : IMem) (S : SH) : Prop :=
  NxP I S x10 (action_target_b4 R x0 x2 I S) fun u0 u1 S1 =>
  action_target_b7 g3 R x0 x2 x10 I S1
def action_target_b2 (R : RT) (x0 : ByteArray) (x2 x10 : Addr) (I : IMem) (S : SH) : Prop :=
  ∃ (Inv : Nat → action_target_t3) (m : Nat), Inv m x0 x2 x10 I S ∧
    ∀ (m : Nat) (x0 : ByteArray) (x2 x10 : Addr) (J : IMem) (T : SH), I.le J → Inv m x0 x2 x10 J T →
      action_target_l3 (fun x0 x2 x10 I S => ∃ m', m' < m ∧ Inv m' x0 x2 x10 I S) R x0 x2 x10 J T
def action_target_b1 (R : RT) (x0 : ByteArray) (x2 : Addr) (I : IMem) (S : SH) : Prop :=
  Runs Tryz.prog 116 #[] I S fun v I1 S1 => ∃ u0, v = .map u0 ∧
  mapP u0 fun m => ∃ es ck, MpC I1 S1 m es ck ∧ ∀ b10 : Nat,
  action_target_b2 R x0 x2 ⟨b10, 0, none⟩ I1 ((b10, .mapIter (some m) ck #[] ck) :: S1)
def action_target (R : RT) (u0 : ByteArray) (I : IMem) (S : SH) : Prop :=
  ∀ b2 : Nat,
  action_target_b1 R u0 ⟨b2, 0, none⟩ I ((b2, .cells #[.int .i64 0, .string ⟨#[]⟩, .bool false, .slice none 0 0] 71 (0, 0)) :: S)
theorem action_target_fn (R : RT) (u0 : ByteArray) (I : IMem) (S : SH) (h : action_target R u0 I S) : Runs Tryz.prog 97 #[.string u0] I S R := by
  refine Runs.of_wp (c := cd Tryz.f97) Tryz.func97 (by kernel_rfl) (by kernel_rfl) ?_
  refine cO 1 [kS 0, kA 2] (action_target_b1 R) h fun _ _ _ _ _ _ h => ?_
  refine sO [kS 0, kA 2] (action_target_b4 R) ?_ fun _ _ _ _ _ _ h => ?_
  · refine cO 1 [kS 0, kA 2, kA 10] (action_target_b2 R) h fun _ _ _ _ _ _ _ h => ?_
    refine bK ?_
    obtain ⟨Vg3, mg3, h, hr⟩ := h
    refine lO [kS 0, kA 2, kA 10] Vg3 mg3 h fun mg3 _ I S hle x0 x2 x10 h => ?_
    have h := hr mg3 x0 x2 x10 I S hle h
    refine cO 2 [kS 0, kA 2, kA 10] (action_target_b7 (fun x0 x2 x10 I S => ∃ m', m' < mg3 ∧ Vg3 m' x0 x2 x10 I S) R) h fun _ _ _ _ _ _ _ h => ?_
    refine bK ?_
    refine cO 1 [kS 0, kA 2, kI .i64 3, kV 4, kA 10] (action_target_b8 (fun x0 x2 x10 I S => ∃ m', m' < mg3 ∧ Vg3 m' x0 x2 x10 I S) R) h fun _ _ _ _ _ _ _ _ _ h => ?_
    exact pS h
  refine sO [kS 0, kA 2] (action_target_b6 R) ?_ fun _ _ _ _ _ _ h => ?_
  · refine cO 2 [kS 0, kA 2, kB 39] (action_target_b5 R) h fun _ _ _ _ _ _ _ h => ?_
    exact pS h
  exact pS h
def action_words (R : RT) (I : IMem) (S : SH) : Prop :=
  ∀ u0 : Nat,
  ∀ b2 : Nat,
  MapSt ((b2, .cells #[] 9 (0, 0)) :: ((u0, .map #[] 0) :: S)) (some u0) (.int .i64) (.int .i64 4) (.slice (some ⟨b2, 0, none⟩) 0 0) fun S1 =>
  ∀ b3 : Nat,
  MapSt ((b3, .cells #[.string ⟨#[42]⟩] 9 (0, 0)) :: S1) (some u0) (.int .i64) (.int .i64 5) (.slice (some ⟨b3, 0, none⟩) 1 1) fun S1' =>
  ∀ b4 : Nat,
  MapSt ((b4, .cells #[.string ⟨#[114, 112, 122, 45, 112, 97, 115, 115, 116, 104, 114, 117]⟩] 9 (0, 0)) :: S1') (some u0) (.int .i64) (.int .i64 2) (.slice (some ⟨b4, 0, none⟩) 1 1) fun S1'' =>
  ∀ b5 : Nat,
  MapSt ((b5, .cells #[.string ⟨#[114, 112, 122, 45, 100, 114, 111, 112]⟩] 9 (0, 0)) :: S1'') (some u0) (.int .i64) (.int .i64 3) (.slice (some ⟨b5, 0, none⟩) 1 1) fun S1_r3 =>
  ∀ b6 : Nat,
  MapSt ((b6, .cells #[.string ⟨#[114, 112, 122, 45, 116, 99, 112, 45, 111, 110, 108, 121]⟩] 9 (0, 0)) :: S1_r3) (some u0) (.int .i64) (.int .i64 6) (.slice (some ⟨b6, 0, none⟩) 1 1) fun S1_r4 =>
  R (.map (some u0)) I S1_r4
theorem action_words_fn (R : RT) (I : IMem) (S : SH) (h : action_words R I S) : Runs Tryz.prog 116 #[] I S R := by
  refine Runs.of_wp (c := cd Tryz.f116) Tryz.func116 (by kernel_rfl) (by kernel_rfl) ?_
  exact pS h
def action_Over_b3 (R : RT) (x1 : Int) (x4 : Addr) (I : IMem) (S : SH) : Prop :=
  StP S x4 [.int .i64 x1, .string ⟨#[]⟩, .bool false, .slice none 0 0] fun S1 =>
  ∃ u0, Cell I S1 x4 (.int .i64 u0) ∧
  ∃ u1, Cell I S1 (x4.add 1) (.string u1) ∧
  ∃ u2, Cell I S1 (x4.add 2) (.bool u2) ∧
  ∃ u3 u3n u3c, Cell I S1 (x4.add 3) (.slice u3 u3n u3c) ∧
  R (.agg #[.int .i64 u0, .string u1, .bool u2, .slice u3 u3n u3c]) I S1
def action_Over_b2 (R : RT) (x1 : Int) (x2 x4 : Addr) (x22 : Bool) (I : IMem) (S : SH) : Prop :=
  bcase x22
    (∃ u0, Cell I S x2 (.int .i64 u0) ∧
    ∃ u1, Cell I S (x2.add 1) (.string u1) ∧
    ∃ u2, Cell I S (x2.add 2) (.bool u2) ∧
    ∃ u3 u3n u3c, Cell I S (x2.add 3) (.slice u3 u3n u3c) ∧
    StP S x4 [.int .i64 u0, .string u1, .bool u2, .slice u3 u3n u3c] fun S1 =>
    ∃ u4, Cell I S1 x4 (.int .i64 u4) ∧
    ∃ u5, Cell I S1 (x4.add 1) (.string u5) ∧
    ∃ u6, Cell I S1 (x4.add 2) (.bool u6) ∧
    ∃ u7 u7n u7c, Cell I S1 (x4.add 3) (.slice u7 u7n u7c) ∧
    R (.agg #[.int .i64 u4, .string u5, .bool u6, .slice u7 u7n u7c]) I S1)
    (action_Over_b3 R x1 x4 I S)
def action_Over_b1 (R : RT) (x1 : Int) (x2 x4 : Addr) (I : IMem) (S : SH) : Prop :=
  bcase (x1 == (0 : Int))
    (action_Over_b2 R x1 x2 x4 true I S)
    (bcase (x1 == (8 : Int))
      (action_Over_b2 R x1 x2 x4 true I S)
      (bcase (x1 == (7 : Int))
        (action_Over_b2 R x1 x2 x4 true I S)
        (bcase (decide (x1 < (0 : Int)))
          (action_Over_b2 R x1 x2 x4 true I S)
          (action_Over_b2 R x1 x2 x4 (decide (x1 > (8 : Int))) I S))))
def action_Over (R : RT) (u0 : Int) (u1 : ByteArray) (u2 : Bool) (u3 : OA) (u3n u3c : Nat) (u4 : Int) (I : IMem) (S : SH) : Prop :=
  ∀ b2 : Nat,
  ∀ b4 : Nat,
  action_Over_b1 R u4 ⟨b2, 0, none⟩ ⟨b4, 0, none⟩ I ((b4, .cells #[.int .i64 0, .string ⟨#[]⟩, .bool false, .slice none 0 0] 71 (0, 0)) :: ((b2, .cells #[.int .i64 u0, .string u1, .bool u2, .slice u3 u3n u3c] 71 (0, 0)) :: S))
theorem action_Over_fn (R : RT) (u0 : Int) (u1 : ByteArray) (u2 : Bool) (u3 : OA) (u3n u3c : Nat) (u4 : Int) (I : IMem) (S : SH) (h : action_Over R u0 u1 u2 u3 u3n u3c u4 I S) : Runs Tryz.prog 64 #[.agg #[.int .i64 u0, .string u1, .bool u2, .slice u3 u3n u3c], .int .i64 u4] I S R := by
  refine Runs.of_wp (c := cd Tryz.f64) Tryz.func64 (by kernel_rfl) (by kernel_rfl) ?_
  refine cO 1 [kI .i64 1, kA 2, kA 4] (action_Over_b1 R) h fun _ _ _ _ _ _ _ h => ?_
  refine sO [kI .i64 1, kA 4] (action_Over_b3 R) ?_ fun _ _ _ _ _ _ h => ?_
  · refine cO 1 [kI .i64 1, kA 2, kA 4, kB 22] (action_Over_b2 R) h fun _ _ _ _ _ _ _ _ h => ?_
    exact pS h
  exact pS h
abbrev rank_Of_t3 := Int → Addr → Int → OA → Nat → Nat → Int → Int → PR
def rank_Of_b4 (R : RT) (x0 : Int) (I : IMem) (S : SH) : Prop :=
  Runs Tryz.prog 99 #[] I S fun v I1 S1 => ∃ u0 u0n u0c, v = .slice u0 u0n u0c ∧
  R (.complex .f64 (FloatKind.f64.nearest x0) (FloatKind.f64.nearest (IntKind.wrap .i64 ((u0n : Int) * (256 : Int))))) I1 S1
def rank_Of_l3 (g3 : rank_Of_t3) (R : RT) (x0 : Int) (x3 : Addr) (x5 : Int) (x18 : OA) (x18n x18c : Nat) (x19 x20 : Int) (I : IMem) (S : SH) : Prop :=
  bcase (decide (x20 < x19))
    (ptrP x18 fun u0 => (0 : Int) ≤ x20 ∧ x20 < (x18n : Int) ∧
    ∃ u1, Cell I S (u0.add (x20.toNat * 1)) (.int .i64 u1) ∧
    ∃ u2, Cell I S x3 (.int .i64 u2) ∧
    bcase (u1 == u2)
      (R (.complex .f64 (FloatKind.f64.nearest x0) (FloatKind.f64.nearest (IntKind.wrap .i64 ((IntKind.wrap .i64 ((IntKind.wrap .i64 ((IntKind.wrap .i64 (x20 * (256 : Int))) + (256 : Int))) - (1 : Int))) - x5)))) I S)
      (g3 x0 x3 x5 x18 x18n x18c x19 (IntKind.wrap .i64 (x20 + (1 : Int))) I S))
    (rank_Of_b4 R x0 I S)
def rank_Of_b2 (R : RT) (x0 : Int) (x3 : Addr) (x5 : Int) (x18 : OA) (x18n x18c : Nat) (x19 x20 : Int) (I : IMem) (S : SH) : Prop :=
  ∃ (Inv : Nat → rank_Of_t3) (m : Nat), Inv m x0 x3 x5 x18 x18n x18c x19 x20 I S ∧
    ∀ (m : Nat) (x0 : Int) (x3 : Addr) (x5 : Int) (x18 : OA) (x18n x18c : Nat) (x19 x20 : Int) (J : IMem) (T : SH), I.le J → Inv m x0 x3 x5 x18 x18n x18c x19 x20 J T →
      rank_Of_l3 (fun x0 x3 x5 x18 x18n x18c x19 x20 I S => ∃ m', m' < m ∧ Inv m' x0 x3 x5 x18 x18n x18c x19 x20 I S) R x0 x3 x5 x18 x18n x18c x19 x20 J T
def rank_Of_b1 (R : RT) (x0 : Int) (x3 : Addr) (x5 : Int) (I : IMem) (S : SH) : Prop :=
  Runs Tryz.prog 99 #[] I S fun v I1 S1 => ∃ u0 u0n u0c, v = .slice u0 u0n u0c ∧
  rank_Of_b2 R x0 x3 x5 u0 u0n u0c (u0n : Int) 0 I1 S1
def rank_Of (R : RT) (u0 u1 : Int) (u2 u3 : ByteArray) (u4 : Int) (I : IMem) (S : SH) : Prop :=
  ∀ b3 : Nat,
  ∃ u5, Cell I ((b3, .cells #[.int .i64 u1, .string u2, .string u3, .int .i64 u4] 33 (0, 0)) :: S) ⟨b3, 1, none⟩ (.string u5) ∧
  Runs Tryz.prog 98 #[.string u5] I ((b3, .cells #[.int .i64 u1, .string u2, .string u3, .int .i64 u4] 33 (0, 0)) :: S) fun v I1 S1 => ∃ u6, v = .int .i64 u6 ∧
  ∃ u7, Cell I1 S1 ⟨b3, 2, none⟩ (.string u7) ∧
  bcase (!(u7.toList == (⟨#[]⟩ : ByteArray).toList))
    (∃ u8, Cell I1 S1 ⟨b3, 3, none⟩ (.int .i64 u8) ∧
    rank_Of_b1 R u0 ⟨b3, 0, none⟩ u8 I1 S1)
    (rank_Of_b1 R u0 ⟨b3, 0, none⟩ u6 I1 S1)
theorem rank_Of_fn (R : RT) (u0 u1 : Int) (u2 u3 : ByteArray) (u4 : Int) (I : IMem) (S : SH) (h : rank_Of R u0 u1 u2 u3 u4 I S) : Runs Tryz.prog 66 #[.int .i64 u0, .agg #[.int .i64 u1, .string u2, .string u3, .int .i64 u4]] I S R := by
  refine Runs.of_wp (c := cd Tryz.f66) Tryz.func66 (by kernel_rfl) (by kernel_rfl) ?_
  refine cO 3 [kI .i64 0, kA 3, kI .i64 5] (rank_Of_b1 R) h fun _ _ _ _ _ _ _ h => ?_
  refine sO [kI .i64 0] (rank_Of_b4 R) ?_ fun _ _ _ _ _ h => ?_
  · refine cO 1 [kI .i64 0, kA 3, kI .i64 5, kL 18, kI .i64 19, kI .i64 20] (rank_Of_b2 R) h fun _ _ _ _ _ _ _ _ _ _ _ _ h => ?_
    refine bK ?_
    obtain ⟨Vg3, mg3, h, hr⟩ := h
    refine lO [kI .i64 0, kA 3, kI .i64 5, kL 18, kI .i64 19, kI .i64 20] Vg3 mg3 h fun mg3 _ I S hle x0 x3 x5 x18 x18n x18c x19 x20 h => ?_
    have h := hr mg3 x0 x3 x5 x18 x18n x18c x19 x20 I S hle h
    exact pS h
  exact pS h
def rank_Better (R : RT) (u0 u0i u1 u1i : Nat) (I : IMem) (S : SH) : Prop :=
  bcase (FloatKind.f64.format.order u0 u1 != some .eq)
    (R (.bool (FloatKind.f64.format.order u0 u1 == some .lt)) I S)
    (R (.bool (FloatKind.f64.format.order u0i u1i == some .lt)) I S)
theorem rank_Better_fn (R : RT) (u0 u0i u1 u1i : Nat) (I : IMem) (S : SH) (h : rank_Better R u0 u0i u1 u1i I S) : Runs Tryz.prog 67 #[.complex .f64 u0 u0i, .complex .f64 u1 u1i] I S R := by
  refine Runs.of_wp (c := cd Tryz.f67) Tryz.func67 (by kernel_rfl) (by kernel_rfl) ?_
  exact pS h
def rank_steps (R : RT) (I : IMem) (S : SH) : Prop :=
  ∀ b1 : Nat,
  R (.slice (some ⟨b1, 0, none⟩) 7 7) I ((b1, .cells #[.int .i64 0, .int .i64 1, .int .i64 2, .int .i64 3, .int .i64 4, .int .i64 5, .int .i64 6] 28 (0, 0)) :: S)
theorem rank_steps_fn (R : RT) (I : IMem) (S : SH) (h : rank_steps R I S) : Runs Tryz.prog 99 #[] I S R := by
  refine Runs.of_wp (c := cd Tryz.f99) Tryz.func99 (by kernel_rfl) (by kernel_rfl) ?_
  exact pS h
end Go.Proofs.YtmlojdbahlfiaaaGreatDoor
/- Prefixes and addresses; the order of triggers; names cut off, and counted. -/
namespace Go.Px
theorem add2 (b o k j : Nat) : ((⟨b, o, none⟩ : Addr).add k).add j = ⟨b, o + k + j, none⟩ := by rw [add_mk, add_mk]
end Go.Px
namespace Go.Proofs.YtmlojdbahlfiaaaGreatDoor
open Go.Px
set_option linter.unusedVariables false
set_option linter.unusedSimpArgs false

abbrev tgB (b : Nat) (t : Tg) : Nat × Obj := (b, .cells (elT t).toArray 33 (0, 0))
noncomputable def hasB (p : ByteArray) (n : Int) (a : ByteArray) : Bool := decide (okC a n) && (mayB p n && (cutB a n.toNat == p))
theorem Has_runs (p : ByteArray) (n : Int) (a : ByteArray) (I : IMem) (S : SH) : Runs Tryz.prog 43 #[.agg #[.string p, .int .i64 n], .string a] I S fun v _ T => v = .bool (hasB p n a) ∧ T = S := by
  refine Runs.drop (prefix_Has_fn _ _ _ _ _ _ ?_)
  unfold prefix_Has prefix_Has_b1
  intro b2
  refine ⟨_, Cell.at0 rfl, (Cut_runs a n _ _).mono ?_⟩
  rintro v J T hle ⟨rfl, rfl⟩
  unfold cutV hasB
  by_cases hc : okC a n
  · rw [if_pos hc, decide_eq_true hc]
    refine ⟨_, _, _, rfl, fun b5 => StP.all (vs := [.string (cutB a n.toNat), .int .i64 n]) rfl rfl (bcase_t rfl ⟨_, Cell.tl (Cell.at0 rfl), _, Cell.tl (Cell.at0 rfl), (PMay_runs p n _ _).mono ?_⟩)⟩
    rintro v J2 T2 hle2 ⟨rfl, rfl⟩
    refine ⟨_, rfl, bcase_of (fun h => ⟨_, Cell.at0 rfl, _, Cell.at0 rfl, _, Cell.tl (Cell.at0 rfl), _, Cell.tl (Cell.at0 rfl), S, ((Sub.refl S).skip _).skip _, ?_, rfl⟩) (fun h => ⟨S, ((Sub.refl S).skip _).skip _, ?_, rfl⟩)⟩
    · rw [h]; simp
    · rw [h]; rfl
  · rw [if_neg hc, decide_eq_false hc]
    exact ⟨_, _, _, rfl, fun b5 => StP.all (vs := [.string ⟨#[]⟩, .int .i64 0]) rfl rfl (bcase_f rfl ⟨S, ((Sub.refl S).skip _).skip _, rfl, rfl⟩)⟩
def lessT (a b : Tg) : Bool := bif !(a.2.1.toList == b.2.1.toList) then Op.bytesLess a.2.1.toList b.2.1.toList else Op.bytesLess a.2.2.1.toList b.2.2.1.toList
theorem Less_runs (a b : Tg) (I : IMem) (S : SH) : Runs Tryz.prog 68 #[vT a, vT b] I S fun v _ T => v = .bool (lessT a b) ∧ T = S := by
  refine Runs.drop (search_Less_fn _ _ _ _ _ _ _ _ _ _ _ ?_)
  unfold search_Less lessT
  intro b2 b3
  refine ⟨_, Cell.tl (Cell.at0 rfl), _, Cell.at0 rfl, bcase_of (fun h => ?_) (fun h => ?_)⟩
  · exact ⟨_, Cell.tl (Cell.at0 rfl), _, Cell.at0 rfl, S, ((Sub.refl S).skip _).skip _, by rw [h]; rfl, rfl⟩
  · exact ⟨_, Cell.tl (Cell.at0 rfl), _, Cell.at0 rfl, S, ((Sub.refl S).skip _).skip _, by rw [h]; rfl, rfl⟩
def cntN (n : ByteArray) : Nat := ((labN n).getD []).length
theorem Count_runs (n : ByteArray) (I : IMem) (S : SH) : Runs Tryz.prog 98 #[.string n] I S fun v _ T => v = .int .i64 (cntN n : Int) ∧ T = S := by
  refine Runs.drop (name_Count_fn _ _ _ _ ?_)
  unfold name_Count cntN
  refine (Labels_runs n I S).mono ?_
  rintro v J T hle ⟨own, hr, hs⟩
  rcases hr with ⟨h1, rfl, rfl⟩ | ⟨ls, p, m, c, h1, rfl, ho⟩
  · exact ⟨_, _, _, _, rfl, S, hs, by rw [h1]; rfl, rfl⟩
  · have hl := ho.len
    exact ⟨_, _, _, _, rfl, S, hs.right, by rw [h1, hl]; rfl, rfl⟩
/-! ### names below names -/
theorem goB_true : ∀ (f : Nat) (ls : List ByteArray) (o : ByteArray), (∀ l ∈ ls, IsLab l) → (nm ls).size ≤ 254 → goB f (nm ls) o true = true → ∃ a b, ls = a ++ b ∧ nm b = o
  | 0, _, _, _, _, h => by cases h
  | f + 1, ls, o, hl, hs, h => by
    unfold goB at h
    rw [if_pos rfl] at h
    by_cases he : (nm ls).toList == o.toList
    · exact ⟨[], ls, rfl, keq.1 he⟩
    · rw [if_neg he] at h
      cases ls with
      | nil =>
        have : parN (nm []) = (⟨#[]⟩, false) := rfl
        rw [this] at h
        cases f <;> cases h
      | cons l ls =>
        rw [parN_nm hl hs] at h
        have hsz := nm_cons_size l ls
        obtain ⟨a, b, e, hb⟩ := goB_true f ls o (fun x hx => hl x (List.mem_cons_of_mem _ hx)) (by omega) h
        exact ⟨l :: a, b, by rw [e]; rfl, hb⟩
theorem below_iff {n o : ByteArray} : belowB n o = true ↔ IsName n ∧ IsName o ∧ ∃ x, IsName x ∧ n = x ++ o := by
  constructor
  · intro h
    have hn : IsName n ∧ IsName o := by
      unfold belowB at h
      cases hv : ((labN n).isSome && (labN o).isSome) with
      | false => rw [hv] at h; unfold goB at h; cases h
      | true => rw [Bool.and_eq_true] at hv; exact ⟨isName_iff.2 hv.1, isName_iff.2 hv.2⟩
    refine ⟨hn.1, hn.2, ?_⟩
    obtain ⟨ls, rfl, hl, hs⟩ := hn.1
    unfold belowB at h
    rw [isName_iff.1 hn.1, isName_iff.1 hn.2] at h
    obtain ⟨a, b, rfl, rfl⟩ := goB_true _ _ _ hl hs h
    refine ⟨nm a, ⟨a, rfl, fun l hx => hl l (List.mem_append_left _ hx), ?_⟩, (nm_app a b).symm⟩
    rw [← nm_app, ByteArray.size_append] at hs
    omega
  · rintro ⟨hn, ho, x, hx, rfl⟩
    obtain ⟨_, _, _, hs⟩ := hn
    rw [ByteArray.size_append] at hs
    exact (below_app hx ho hs).2
def stripN (n o : ByteArray) : ByteArray × Bool := if belowB n o = true then (n.extract 0 (n.size - o.size), true) else (⟨#[]⟩, false)
theorem Strip_runs (n o : ByteArray) (I : IMem) (S : SH) : Runs Tryz.prog 60 #[.string n, .string o] I S fun v _ T => v = .tuple #[.string (stripN n o).1, .bool (stripN n o).2] ∧ T = S := by
  refine name_Strip_fn _ _ _ _ _ ?_
  unfold name_Strip stripN
  refine (Below_runs n o I S).mono ?_
  rintro v J T hle ⟨rfl, rfl⟩
  refine ⟨_, rfl, bcase_not (bcase_of (fun h => ?_) (fun h => ?_))⟩
  · rw [if_pos h]
    obtain ⟨⟨_, _, _, hs⟩, _, x, _, e⟩ := below_iff.1 h
    have hsz : o.size ≤ n.size := by rw [e, ByteArray.size_append]; omega
    rw [wrap_i64 (by omega) (by omega)]
    have e1 : ((n.size : Int) - (o.size : Int)).toNat = n.size - o.size := by omega
    exact ⟨by omega, by omega, by rw [e1], rfl⟩
  · rw [if_neg (by rw [h]; exact Bool.false_ne_true)]
    exact ⟨rfl, rfl⟩
theorem strip_app {x o : ByteArray} (hx : IsName x) (ho : IsName o) (hs : x.size + o.size ≤ 254) : stripN (x ++ o) o = (x, true) := by
  unfold stripN
  rw [if_pos (below_app hx ho hs).2]
  congr 1
  apply ext_list
  rw [ex_list, ByteArray.size_append]
  simp [ByteArray.data_append]
/-! ### which triggers fit -/
noncomputable def hasT (t : Tg) (a : ByteArray) : Bool := hasB t.2.2.1 t.2.2.2 a
def underT (t : Tg) (n : ByteArray) : Bool := bif !(n.toList == t.2.1.toList) then belowB n t.2.1 else false
theorem tgX {I : IMem} {S F : SH} {b : Nat} {t : Tg} (hs : Sub (tgB b t :: F) S) : Cell I S ⟨b, 0, none⟩ (.int .i64 t.1) ∧ Cell I S ((⟨b, 0, none⟩ : Addr).add 1) (.string t.2.1) ∧ Cell I S ((⟨b, 0, none⟩ : Addr).add 2) (.string t.2.2.1) ∧ Cell I S (((⟨b, 0, none⟩ : Addr).add 2).add 1) (.int .i64 t.2.2.2) ∧ Cell I S ((⟨b, 0, none⟩ : Addr).add 3) (.int .i64 t.2.2.2) :=
  ⟨Cell.among hs rfl, Cell.at_ (add_mk _ _ _) (Cell.among hs rfl), Cell.at_ (add_mk _ _ _) (Cell.among hs rfl), Cell.at_ (add2 _ _ _ _) (Cell.among hs rfl), Cell.at_ (add_mk _ _ _) (Cell.among hs rfl)⟩
theorem any_snocB {xs : List ByteArray} {k : Nat} {x : ByteArray} {f : ByteArray → Bool} (h : xs[k]? = some x) : (xs.take (k + 1)).any f = ((xs.take k).any f || f x) := by
  rw [take_snoc h, List.any_append]; simp
theorem any_hitB {xs : List ByteArray} {k : Nat} {x : ByteArray} {f : ByteArray → Bool} (h : xs[k]? = some x) (hf : f x = true) : xs.any f = true := List.any_eq_true.2 ⟨x, List.mem_of_getElem? h, hf⟩
theorem some_runs {xs : List ByteArray} {a : Option Addr} {c b : Nat} {t : Tg} {I : IMem} {S F : SH} (hx : RowIn I S a xs.length 1 elS xs) (hl : xs.length ≤ 9223372036854775807) (hs : Sub (tgB b t :: F) S) :
    Runs Tryz.prog 42 #[.slice a xs.length c, .pointer (some ⟨b, 0, none⟩)] I S fun v _ T => v = .bool (xs.any (hasT t)) ∧ T = S := by
  refine search_Matches_f1_fn _ _ _ _ _ _ _ ?_
  unfold search_Matches_f1 search_Matches_f1_b1 search_Matches_f1_b2
  refine ⟨fun m p y yn yc q i J T => p = ⟨b, 0, none⟩ ∧ y = a ∧ yn = xs.length ∧ q = (xs.length : Int) ∧ I.le J ∧ T = S ∧ ∃ k : Nat, i = (k : Int) ∧ k ≤ xs.length ∧ m = xs.length - k ∧ (xs.take k).any (hasT t) = false,
    xs.length, ⟨rfl, rfl, rfl, rfl, IMem.le.refl I, rfl, 0, rfl, Nat.zero_le _, rfl, rfl⟩, ?_⟩
  rintro m p y yn yc q i J T - ⟨rfl, rfl, rfl, rfl, hle, rfl, k, rfl, hk, rfl, hf⟩
  unfold search_Matches_f1_l3 search_Matches_f1_b4
  refine bcase_dec (fun hg => ?_) (fun hg => ?_)
  · obtain ⟨u, hu⟩ := get_lt (xs := xs) (k := k) (by omega)
    obtain ⟨a', rfl, hc⟩ := (hx.le hle).cell hu
    obtain ⟨c0, c1, c2, c3, c4⟩ := tgX (I := J) hs
    refine ⟨by omega, by omega, _, (by simpa [Addr.add] using hc 0 _ rfl), _, c2, _, c3, (Has_runs _ _ _ _ _).mono ?_⟩
    rintro v J2 T2 hle2 ⟨rfl, rfl⟩
    refine ⟨_, rfl, bcase_of (fun h => ?_) (fun h => ?_)⟩
    · exact ⟨by rw [any_hitB (f := hasT t) hu h], rfl⟩
    · exact ⟨xs.length - (k + 1), by omega, rfl, rfl, rfl, rfl, hle.trans hle2, rfl, k + 1, by rw [wrap_i64 (by omega) (by omega)]; rfl, by omega, rfl, by rw [any_snocB hu, hf]; exact h⟩
  · have : k = xs.length := by omega
    subst this
    rw [List.take_length] at hf
    exact ⟨by rw [hf], rfl⟩
theorem under_runs {xs : List ByteArray} {a : Option Addr} {c b : Nat} {t : Tg} {I : IMem} {S F : SH} (hx : RowIn I S a xs.length 1 elS xs) (hl : xs.length ≤ 9223372036854775807) (hs : Sub (tgB b t :: F) S) :
    Runs Tryz.prog 44 #[.slice a xs.length c, .pointer (some ⟨b, 0, none⟩)] I S fun v _ T => v = .bool (xs.any (underT t)) ∧ T = S := by
  refine search_Matches_f2_fn _ _ _ _ _ _ _ ?_
  unfold search_Matches_f2 search_Matches_f2_b1 search_Matches_f2_b2
  refine ⟨fun m p y yn yc q i J T => p = ⟨b, 0, none⟩ ∧ y = a ∧ yn = xs.length ∧ q = (xs.length : Int) ∧ I.le J ∧ T = S ∧ ∃ k : Nat, i = (k : Int) ∧ k ≤ xs.length ∧ m = xs.length - k ∧ (xs.take k).any (underT t) = false,
    xs.length, ⟨rfl, rfl, rfl, rfl, IMem.le.refl I, rfl, 0, rfl, Nat.zero_le _, rfl, rfl⟩, ?_⟩
  rintro m p y yn yc q i J T - ⟨rfl, rfl, rfl, rfl, hle, rfl, k, rfl, hk, rfl, hf⟩
  unfold search_Matches_f2_l3 search_Matches_f2_b7
  refine bcase_dec (fun hg => ?_) (fun hg => ?_)
  · obtain ⟨u, hu⟩ := get_lt (xs := xs) (k := k) (by omega)
    obtain ⟨a', rfl, hc⟩ := (hx.le hle).cell hu
    obtain ⟨c0, c1, c2, c3, c4⟩ := tgX (I := J) hs
    unfold search_Matches_f2_b4
    have next : ∀ (r : Bool) (J2 : IMem), I.le J2 → r = underT t u → search_Matches_f2_b5 (fun p y yn yc q i J T' => ∃ m', m' < xs.length - k ∧ (p = ⟨b, 0, none⟩ ∧ y = some a' ∧ yn = xs.length ∧ q = (xs.length : Int) ∧ I.le J ∧ T' = T ∧ ∃ k : Nat, i = (k : Int) ∧ k ≤ xs.length ∧ m' = xs.length - k ∧ (xs.take k).any (underT t) = false)) (fun v _ T' => v = .bool (xs.any (underT t)) ∧ T' = T) ⟨b, 0, none⟩ (some a') xs.length yc (xs.length : Int) (k : Int) r J2 T := by
      intro r J2 hle2 hr
      unfold search_Matches_f2_b5 search_Matches_f2_b6
      refine bcase_of (fun h => ?_) (fun h => ?_)
      · exact ⟨by rw [any_hitB (f := underT t) hu (hr ▸ h)], rfl⟩
      · exact ⟨xs.length - (k + 1), by omega, rfl, rfl, rfl, rfl, hle2, rfl, k + 1, by rw [wrap_i64 (by omega) (by omega)]; rfl, by omega, rfl, by rw [any_snocB hu, hf, ← hr]; exact h⟩
    refine ⟨by omega, by omega, _, (by simpa [Addr.add] using hc 0 _ rfl), _, c1, bcase_of (fun h => ⟨_, c1, (Below_runs _ _ _ _).mono ?_⟩) (fun h => next false J hle (by rw [underT, h] <;> rfl))⟩
    rintro v J2 T2 hle2 ⟨rfl, rfl⟩
    exact ⟨_, rfl, next _ J2 (hle.trans hle2) (by rw [underT, h] <;> rfl)⟩
  · have : k = xs.length := by omega
    subst this
    rw [List.take_length] at hf
    exact ⟨by rw [hf], rfl⟩
end Go.Proofs.YtmlojdbahlfiaaaGreatDoor
/- Which triggers fit a query's facts. -/
namespace Go.Proofs.YtmlojdbahlfiaaaGreatDoor
open Go.Px
set_option linter.unusedVariables false
set_option linter.unusedSimpArgs false

/-- what is known of a query -/
structure Fa where
  cl : ByteArray
  nm : ByteArray
  a : Sl
  s : Sl
  h : Sl
  xa : List ByteArray
  xs : List ByteArray
  xh : List ByteArray
abbrev encFa (f : Fa) : List Value := [.string f.cl, .string f.nm, .slice f.a.1 f.a.2.1 f.a.2.2, .slice f.s.1 f.s.2.1 f.s.2.2, .slice f.h.1 f.h.2.1 f.h.2.2]
abbrev vFa (f : Fa) : Value := .agg #[.string f.cl, .string f.nm, .slice f.a.1 f.a.2.1 f.a.2.2, .slice f.s.1 f.s.2.1 f.s.2.2, .slice f.h.1 f.h.2.1 f.h.2.2]
abbrev faB (b : Nat) (f : Fa) : Nat × Obj := (b, .cells (encFa f).toArray 37 (0, 0))
def LsIn (I : IMem) (S : SH) (x : Sl) (xs : List ByteArray) : Prop := RowIn I S x.1 xs.length 1 elS xs ∧ x.2.1 = xs.length ∧ xs.length ≤ 9223372036854775807
structure FaIn (I : IMem) (S : SH) (f : Fa) : Prop where
  a : LsIn I S f.a f.xa
  s : LsIn I S f.s f.xs
  h : LsIn I S f.h f.xh
theorem LsIn.keep {I J : IMem} {S T : SH} {x : Sl} {xs : List ByteArray} (hk : Keep I S J T) (h : LsIn I S x xs) : LsIn J T x xs := ⟨h.1.keep hk, h.2⟩
theorem FaIn.keep {I J : IMem} {S T : SH} {f : Fa} (hk : Keep I S J T) (h : FaIn I S f) : FaIn J T f := ⟨h.a.keep hk, h.s.keep hk, h.h.keep hk⟩
theorem FaIn.sub {I : IMem} {S T : SH} {f : Fa} (hs : Sub S T) (h : FaIn I S f) : FaIn I T f := h.keep (hs.keep (IMem.le.refl I))
theorem FaIn.le {I J : IMem} {S : SH} {f : Fa} (hle : I.le J) (h : FaIn I S f) : FaIn J S f := h.keep ((Sub.refl S).keep hle)
theorem elS_len (s : ByteArray) : (elS s).length = 1 := rfl
theorem row_s {e : TypeId} {b : Nat} {x : ByteArray} {I : IMem} {S : SH} : RowIn I ((b, .cells #[.string x] e (0, 0)) :: S) (some ⟨b, 0, none⟩) 1 1 elS [x] :=
  (OwnR.row (e := e) elS_len (c := 1) (own := [(b, .cells #[.string x] e (0, 0))]) (.inr ⟨b, 1, [], rfl, rfl, rfl, by decide⟩)).sub (Sub.left (L := [(b, .cells #[.string x] e (0, 0))]) (M := S) (Sub.refl _))
noncomputable def matchT (t : Tg) (f : Fa) : Bool :=
  if t.1 = 0 then hasT t f.cl
  else if t.1 = 1 then f.nm.toList == t.2.1.toList
  else if t.1 = 2 then underT t f.nm
  else if t.1 = 3 then f.xa.any (hasT t)
  else if t.1 = 4 then f.xs.any fun n => n.toList == t.2.1.toList
  else if t.1 = 5 then f.xs.any (underT t)
  else if t.1 = 6 then f.xh.any (hasT t)
  else false
theorem bA (f : Fa) {I : IMem} {S F : SH} {b : Nat} (hs : Sub (faB b f :: F) S) : Cell I S ⟨b, 0, none⟩ (.string f.cl) ∧ Cell I S ((⟨b, 0, none⟩ : Addr).add 1) (.string f.nm) ∧ Cell I S ((⟨b, 0, none⟩ : Addr).add 2) (.slice f.a.1 f.a.2.1 f.a.2.2) ∧ Cell I S ((⟨b, 0, none⟩ : Addr).add 3) (.slice f.s.1 f.s.2.1 f.s.2.2) ∧ Cell I S ((⟨b, 0, none⟩ : Addr).add 4) (.slice f.h.1 f.h.2.1 f.h.2.2) :=
  ⟨Cell.among hs rfl, Cell.at_ (add_mk _ _ _) (Cell.among hs rfl), Cell.at_ (add_mk _ _ _) (Cell.among hs rfl), Cell.at_ (add_mk _ _ _) (Cell.among hs rfl), Cell.at_ (add_mk _ _ _) (Cell.among hs rfl)⟩
theorem name_loop {xs : List ByteArray} {a : Option Addr} {c b : Nat} {t : Tg} {I : IMem} {S F : SH} {r : Bool} (hx : RowIn I S a xs.length 1 elS xs) (hl : xs.length ≤ 9223372036854775807) (hs : Sub (tgB b t :: F) S) {R : RT} (hR : ∀ J, R (.bool r) J S) (hr : r = xs.any fun n => n.toList == t.2.1.toList) :
    search_Matches_b8 R ⟨b, 0, none⟩ a xs.length c (xs.length : Int) 0 I S := by
  subst hr
  unfold search_Matches_b8
  refine ⟨fun m p y yn yc q i J T => p = ⟨b, 0, none⟩ ∧ y = a ∧ yn = xs.length ∧ q = (xs.length : Int) ∧ I.le J ∧ T = S ∧ ∃ k : Nat, i = (k : Int) ∧ k ≤ xs.length ∧ m = xs.length - k ∧ (xs.take k).any (fun n => n.toList == t.2.1.toList) = false,
    xs.length, ⟨rfl, rfl, rfl, rfl, IMem.le.refl I, rfl, 0, rfl, Nat.zero_le _, rfl, rfl⟩, ?_⟩
  rintro m p y yn yc q i J T - ⟨rfl, rfl, rfl, rfl, hle, rfl, k, rfl, hk, rfl, hf⟩
  unfold search_Matches_l9 search_Matches_b10
  refine bcase_dec (fun hg => ?_) (fun hg => ?_)
  · obtain ⟨u, hu⟩ := get_lt (xs := xs) (k := k) (by omega)
    obtain ⟨a', rfl, hc⟩ := (hx.le hle).cell hu
    obtain ⟨c0, c1, c2, c3, c4⟩ := tgX (I := J) hs
    refine ⟨by omega, by omega, _, (by simpa [Addr.add] using hc 0 _ rfl), _, c1, bcase_of (fun h => ?_) (fun h => ?_)⟩
    · rw [any_hitB (f := fun n => n.toList == t.2.1.toList) hu h] at hR; exact hR J
    · exact ⟨xs.length - (k + 1), by omega, rfl, rfl, rfl, rfl, hle, rfl, k + 1, by rw [wrap_i64 (by omega) (by omega)]; rfl, by omega, rfl, by rw [any_snocB hu, hf]; exact h⟩
  · have : k = xs.length := by omega
    subst this
    rw [List.take_length] at hf
    rw [hf] at hR; exact hR J
theorem Matches_runs (t : Tg) (f : Fa) {I : IMem} {S : SH} (hf : FaIn I S f) : Runs Tryz.prog 13 #[vT t, vFa f] I S fun v _ T => v = .bool (matchT t f) ∧ T = S := by
  refine Runs.drop (search_Matches_fn _ _ _ _ _ _ _ _ _ _ _ _ _ _ _ _ _ _ ?_)
  unfold search_Matches search_Matches_b1 search_Matches_b2
  intro b2 b3
  have hT : Sub (tgB b2 t :: S) (faB b3 f :: tgB b2 t :: S) := (Sub.refl _).skip _
  have hF : Sub (faB b3 f :: (tgB b2 t :: S)) (faB b3 f :: tgB b2 t :: S) := Sub.refl _
  have hin : FaIn I (faB b3 f :: tgB b2 t :: S) f := hf.sub (((Sub.refl S).skip _).skip _)
  obtain ⟨c0, c1, c2, c3, c4⟩ := tgX (I := I) hT
  obtain ⟨d0, d1, d2, d3, d4⟩ := bA f (I := I) hF
  have back : Sub S (faB b3 f :: tgB b2 t :: S) := ((Sub.refl S).skip _).skip _
  refine ⟨_, c0, ?_⟩
  unfold search_Matches_b3
  refine bcase_beq (fun h0 => ?_) (fun h0 => ?_)
  · refine ⟨_, d0, fun b18 => (some_runs (xs := [f.cl]) row_s (by show 1 ≤ 9223372036854775807; decide) (hT.skip _)).mono ?_⟩
    rintro v J T hle ⟨rfl, rfl⟩
    exact ⟨_, rfl, S, back.skip _, by rw [matchT, if_pos h0]; simp, rfl⟩
  unfold search_Matches_b4
  refine bcase_beq (fun h1 => ?_) (fun h1 => ?_)
  · exact ⟨_, d1, _, c1, S, back, by rw [matchT, if_neg h0, if_pos h1], rfl⟩
  unfold search_Matches_b5
  refine bcase_beq (fun h2 => ?_) (fun h2 => ?_)
  · refine ⟨_, d1, fun b18 => (under_runs (xs := [f.nm]) row_s (by show 1 ≤ 9223372036854775807; decide) (hT.skip _)).mono ?_⟩
    rintro v J T hle ⟨rfl, rfl⟩
    exact ⟨_, rfl, S, back.skip _, by rw [matchT, if_neg h0, if_neg h1, if_pos h2]; simp, rfl⟩
  unfold search_Matches_b6
  refine bcase_beq (fun h3 => ?_) (fun h3 => ?_)
  · obtain ⟨r1, r2, r3⟩ := hin.a
    refine ⟨_, _, _, (show Cell I _ _ (.slice f.a.1 f.xa.length f.a.2.2) from by rw [← r2]; exact d2), ?_⟩
    refine (some_runs r1 r3 hT).mono ?_
    rintro v J T hle ⟨rfl, rfl⟩
    exact ⟨_, rfl, S, back, by rw [matchT, if_neg h0, if_neg h1, if_neg h2, if_pos h3], rfl⟩
  unfold search_Matches_b7
  refine bcase_beq (fun h4 => ?_) (fun h4 => ?_)
  · obtain ⟨r1, r2, r3⟩ := hin.s
    refine ⟨_, _, _, (show Cell I _ _ (.slice f.s.1 f.xs.length f.s.2.2) from by rw [← r2]; exact d3), ?_⟩
    exact name_loop (r := matchT t f) r1 r3 hT (fun J => ⟨S, back, rfl, rfl⟩) (by rw [matchT, if_neg h0, if_neg h1, if_neg h2, if_neg h3, if_pos h4])
  refine bcase_beq (fun h5 => ?_) (fun h5 => ?_)
  · obtain ⟨r1, r2, r3⟩ := hin.s
    refine ⟨_, _, _, (show Cell I _ _ (.slice f.s.1 f.xs.length f.s.2.2) from by rw [← r2]; exact d3), ?_⟩
    refine (under_runs r1 r3 hT).mono ?_
    rintro v J T hle ⟨rfl, rfl⟩
    exact ⟨_, rfl, S, back, by rw [matchT, if_neg h0, if_neg h1, if_neg h2, if_neg h3, if_neg h4, if_pos h5], rfl⟩
  unfold search_Matches_b11 search_Matches_b12
  refine ⟨_, c0, bcase_beq (fun h6 => ?_) (fun h6 => ⟨S, back, by rw [matchT, if_neg h0, if_neg h1, if_neg h2, if_neg h3, if_neg h4, if_neg h5, if_neg h6], rfl⟩)⟩
  obtain ⟨r1, r2, r3⟩ := hin.h
  refine ⟨_, _, _, (show Cell I _ _ (.slice f.h.1 f.xh.length f.h.2.2) from by rw [← r2]; exact d4), ?_⟩
  refine (some_runs r1 r3 hT).mono ?_
  rintro v J T hle ⟨rfl, rfl⟩
  exact ⟨_, rfl, S, back, by rw [matchT, if_neg h0, if_neg h1, if_neg h2, if_neg h3, if_neg h4, if_neg h5, if_pos h6], rfl⟩
end Go.Proofs.YtmlojdbahlfiaaaGreatDoor
/- What a target means. -/
namespace Go.Proofs.YtmlojdbahlfiaaaGreatDoor
open Go.Px
set_option linter.unusedVariables false
set_option linter.unusedSimpArgs false

/-- how many of a map's entries were not looked at -/
def unsn (E : Array MapEntry) (seen : Array Nat) : Nat := (E.toList.filter fun e => !seen.contains e.born).length
theorem unsn_lt {E : Array MapEntry} {seen : Array Nat} {e : MapEntry} (he : e ∈ E) (hn : seen.contains e.born = false) : unsn E (seen.push e.born) < unsn E seen := by
  have hsub : ∀ l : List MapEntry, (l.filter fun x => !(seen.push e.born).contains x.born).length ≤ (l.filter fun x => !seen.contains x.born).length ∧
      (e ∈ l → (l.filter fun x => !(seen.push e.born).contains x.born).length < (l.filter fun x => !seen.contains x.born).length) := by
    intro l
    induction l with
    | nil => exact ⟨Nat.le_refl _, fun h => by cases h⟩
    | cons x l ih =>
      have hx : (seen.push e.born).contains x.born = (seen.contains x.born || x.born == e.born) := by
        rw [Bool.eq_iff_iff]; simp [or_comm]
      rw [List.filter_cons, List.filter_cons, hx]
      by_cases h1 : seen.contains x.born = true
      · rw [h1]
        simp only [Bool.true_or, Bool.not_true, Bool.false_eq_true, if_false]
        refine ⟨ih.1, fun h => ?_⟩
        rcases List.mem_cons.1 h with rfl | h
        · rw [hn] at h1; cases h1
        · exact ih.2 h
      · have h1 : seen.contains x.born = false := by simpa using h1
        rw [h1]
        simp only [Bool.false_or, Bool.not_false, if_true, List.length_cons]
        by_cases h2 : x.born = e.born
        · rw [show (x.born == e.born) = true by simp [h2]]
          simp only [Bool.not_true, Bool.false_eq_true, if_false]
          exact ⟨by have := ih.1; omega, fun _ => by have := ih.1; omega⟩
        · rw [show (x.born == e.born) = false by simp [h2]]
          simp only [Bool.not_false, if_true, List.length_cons]
          refine ⟨by have := ih.1; omega, fun h => ?_⟩
          rcases List.mem_cons.1 h with rfl | h
          · exact absurd rfl h2
          · have := ih.2 h; omega
  exact (hsub E.toList).2 (by simpa using he)
def passB : ByteArray := ⟨#[114, 112, 122, 45, 112, 97, 115, 115, 116, 104, 114, 117]⟩
def dropB : ByteArray := ⟨#[114, 112, 122, 45, 100, 114, 111, 112]⟩
def tcpB : ByteArray := ⟨#[114, 112, 122, 45, 116, 99, 112, 45, 111, 110, 108, 121]⟩
def n5B : ByteArray := ⟨#[1, 42]⟩
def n2B : ByteArray := ⟨#[12, 114, 112, 122, 45, 112, 97, 115, 115, 116, 104, 114, 117]⟩
def n3B : ByteArray := ⟨#[8, 114, 112, 122, 45, 100, 114, 111, 112]⟩
def n6B : ByteArray := ⟨#[12, 114, 112, 122, 45, 116, 99, 112, 45, 111, 110, 108, 121]⟩
theorem mk4 : makeN [] ByteArray.empty = some ⟨#[]⟩ := rfl
theorem mk5 : makeN [starB] ByteArray.empty = some n5B := by decide +kernel
theorem mk2 : makeN [passB] ByteArray.empty = some n2B := by decide +kernel
theorem mk3 : makeN [dropB] ByteArray.empty = some n3B := by decide +kernel
theorem mk6 : makeN [tcpB] ByteArray.empty = some n6B := by decide +kernel
abbrev Tt := Int × ByteArray × Bool
def tgt2 (n : ByteArray) : Tt := if n.size > 2 ∧ n.extract 0 2 = n5B then (7, n.extract 2 n.size, true) else (7, n, false)
def tgtF (n : ByteArray) : Tt := if n = ⟨#[]⟩ then (4, ⟨#[]⟩, false) else if n = n5B then (5, ⟨#[]⟩, false) else if n = n2B then (2, ⟨#[]⟩, false) else if n = n3B then (3, ⟨#[]⟩, false) else if n = n6B then (6, ⟨#[]⟩, false) else tgt2 n
abbrev wE (b : Nat) (k : Int) (v : Value) : MapEntry := { key := .int .i64 k, val := v, born := b }
abbrev sl1 (b n : Nat) : Value := .slice (some ⟨b, 0, none⟩) n n
def wordsE (b2 b3 b4 b5 b6 : Nat) : Array MapEntry := #[wE 0 4 (sl1 b2 0), wE 1 5 (sl1 b3 1), wE 2 2 (sl1 b4 1), wE 3 3 (sl1 b5 1), wE 4 6 (sl1 b6 1)]
abbrev w1 (b : Nat) (s : ByteArray) : Nat × Obj := (b, .cells #[.string s] 9 (0, 0))
abbrev wordsH (r b2 b3 b4 b5 b6 : Nat) (S : SH) : SH := w1 b6 tcpB :: w1 b5 dropB :: w1 b4 passB :: w1 b3 starB :: (b2, .cells #[] 9 (0, 0)) :: (r, .map (wordsE b2 b3 b4 b5 b6) 5) :: S
theorem words_runs (I : IMem) (S : SH) : Runs Tryz.prog 116 #[] I S fun v _ T => ∃ r b2 b3 b4 b5 b6, v = .map (some r) ∧ T = wordsH r b2 b3 b4 b5 b6 S := by
  refine action_words_fn _ _ _ ?_
  unfold action_words
  intro r b2
  refine ⟨r, 1, _, _, _, _, rfl, rfl, rfl, fun b3 => ⟨r, 2, _, _, _, _, rfl, rfl, rfl, fun b4 => ⟨r, 3, _, _, _, _, rfl, rfl, rfl, fun b5 => ⟨r, 4, _, _, _, _, rfl, rfl, rfl, fun b6 => ⟨r, 5, _, _, _, _, rfl, rfl, rfl, ?_⟩⟩⟩⟩⟩
  exact ⟨r, b2, b3, b4, b5, b6, rfl, rfl⟩
abbrev acZ : List Value := [.int .i64 0, .string ⟨#[]⟩, .bool false, .slice none 0 0]
abbrev acB (b : Nat) (L : List Value) : Nat × Obj := (b, .cells L.toArray 71 (0, 0))
abbrev vAc (t : Tt) : Value := .agg #[.int .i64 t.1, .string t.2.1, .bool t.2.2, .slice none 0 0]
theorem put_ac {K : Int → ByteArray → Bool → Option Addr → Nat → Nat → SH → Prop} {b : Nat} {L : List Value} {F S : SH} {I : IMem} {k : Int} {t : ByteArray} {w : Bool} {p : Option Addr} {n c : Nat} (hL : L.length = 4) (hs : Sub (acB b L :: F) S) (h : ∀ T, Sub F T → K k t w p n c T) :
    StP S ⟨b, 0, none⟩ [.int .i64 k, .string t, .bool w, .slice p n c] fun S1 => ∃ u0, Cell I S1 ⟨b, 0, none⟩ (.int .i64 u0) ∧ ∃ u1, Cell I S1 ((⟨b, 0, none⟩ : Addr).add 1) (.string u1) ∧ ∃ u2, Cell I S1 ((⟨b, 0, none⟩ : Addr).add 2) (.bool u2) ∧
      ∃ u3 u3n u3c, Cell I S1 ((⟨b, 0, none⟩ : Addr).add 3) (.slice u3 u3n u3c) ∧ K u0 u1 u2 u3 u3n u3c S1 := by
  refine StP.among (L' := [.int .i64 k, .string t, .bool w, .slice p n c]) hs (by rw [hL]; exact Nat.le_refl 4) rfl ?_ ?_
  · rw [List.take_zero, List.drop_of_length_le (by rw [hL]; exact Nat.le_refl 4), List.append_nil, List.nil_append]
  intro T hT
  exact ⟨_, Cell.among hT rfl, _, Cell.at_ (add_mk _ _ _) (Cell.among hT rfl), _, Cell.at_ (add_mk _ _ _) (Cell.among hT rfl), _, _, _, Cell.at_ (add_mk _ _ _) (Cell.among hT rfl), h T hT.drop⟩
theorem row_0 {I : IMem} {S : SH} {b : Nat} : RowIn I S (some ⟨b, 0, none⟩) ([] : List ByteArray).length 1 elS [] := ⟨rfl, fun i x h => by simp at h⟩
theorem target_end (n : ByteArray) {b2 : Nat} {L : List Value} {S T : SH} {J : IMem} (hL : L.length = 4) (hs : Sub (acB b2 L :: S) T) :
    action_target_b4 (fun v _ T => ∃ S', Sub S' T ∧ v = vAc (tgt2 n) ∧ S' = S) n ⟨b2, 0, none⟩ J T := by
  unfold action_target_b4
  intro b27
  refine (Make_runs (ls := [starB]) row_s (by show 1 ≤ 140737488355328; decide)).mono ?_
  rintro v J2 T2 hle2 ⟨rfl, rfl⟩
  rw [mk5]
  refine ⟨_, _, rfl, ?_⟩
  have plain : ¬ (n.size > 2 ∧ n.extract 0 2 = n5B) → action_target_b5 (fun v _ T => ∃ S', Sub S' T ∧ v = vAc (tgt2 n) ∧ S' = S) n ⟨b2, 0, none⟩ false J2 (w1 b27 starB :: T) := by
    intro h
    unfold action_target_b5 action_target_b6
    refine bcase_f rfl (put_ac hL (hs.skip _) fun T' hT' => ⟨S, hT', ?_, rfl⟩)
    rw [tgt2, if_neg h]
  refine bcase_dec (fun h => ⟨by decide, by omega, ?_⟩) (fun h => plain (fun g => h (by have := g.1; omega)))
  by_cases he : n.extract 0 2 = n5B
  · unfold action_target_b5
    refine bcase_t (keq.2 he) ⟨by decide, by omega, put_ac hL (hs.skip _) fun T' hT' => ⟨S, hT', ?_, rfl⟩⟩
    rw [tgt2, if_pos ⟨by omega, he⟩]; rfl
  · have : ((n.extract 0 (2 : Int).toNat).toList == n5B.toList) = false := by rw [← Bool.not_eq_true, keq]; exact he
    rw [this]
    exact plain fun g => he g.2
theorem target_runs (n : ByteArray) (I : IMem) (S : SH) : Runs Tryz.prog 97 #[.string n] I S fun v _ T => v = vAc (tgtF n) ∧ T = S := by
  refine Runs.drop (action_target_fn _ _ _ _ ?_)
  unfold action_target action_target_b1
  intro bA
  refine (words_runs _ _).mono ?_
  rintro v J1 T1 hle1 ⟨r, b2, b3, b4, b5, b6, rfl, rfl⟩
  refine ⟨_, rfl, wordsE b2 b3 b4 b5 b6, 5, .inr (by simp), fun b10 => ?_⟩
  have hb : Sub (acB bA acZ :: S) (wordsH r b2 b3 b4 b5 b6 (acB bA acZ :: S)) := ((((((Sub.refl _).skip _).skip _).skip _).skip _).skip _).skip _
  generalize hT : wordsH r b2 b3 b4 b5 b6 (acB bA acZ :: S) = T1 at hb
  have hm : (r, Obj.map (wordsE b2 b3 b4 b5 b6) 5) ∈ T1 := by rw [← hT]; simp
  have rows : ∀ {J : IMem} {x : Nat × Obj}, RowIn J (x :: T1) (some ⟨b3, 0, none⟩) [starB].length 1 elS [starB] ∧ RowIn J (x :: T1) (some ⟨b4, 0, none⟩) [passB].length 1 elS [passB] ∧ RowIn J (x :: T1) (some ⟨b5, 0, none⟩) [dropB].length 1 elS [dropB] ∧ RowIn J (x :: T1) (some ⟨b6, 0, none⟩) [tcpB].length 1 elS [tcpB] := by
    intro J x
    rw [← hT]
    exact ⟨row_s.sub ((((Sub.refl _).skip _).skip _).skip _ |>.skip _), row_s.sub (((Sub.refl _).skip _).skip _ |>.skip _), row_s.sub ((Sub.refl _).skip _ |>.skip _), row_s.sub ((Sub.refl _).skip _)⟩
  unfold action_target_b2
  refine ⟨fun m n' x2 it J T => n' = n ∧ x2 = ⟨bA, 0, none⟩ ∧ it = ⟨b10, 0, none⟩ ∧ J1.le J ∧ ∃ seen : Array Nat, m = unsn (wordsE b2 b3 b4 b5 b6) seen ∧ (seen.contains 0 = true → n ≠ ⟨#[]⟩) ∧ (seen.contains 1 = true → n ≠ n5B) ∧ (seen.contains 2 = true → n ≠ n2B) ∧ (seen.contains 3 = true → n ≠ n3B) ∧ (seen.contains 4 = true → n ≠ n6B) ∧ T = (b10, .mapIter (some r) 5 seen 5) :: T1,
    unsn (wordsE b2 b3 b4 b5 b6) #[], ⟨rfl, rfl, rfl, IMem.le.refl J1, #[], rfl, by simp, by simp, by simp, by simp, by simp, rfl⟩, ?_⟩
  rintro m n' x2 it J T - ⟨rfl, rfl, rfl, hle, seen, rfl, h0, h1, h2, h3, h4, rfl⟩
  unfold action_target_l3
  have mem : ∀ {e : MapEntry}, e ∈ wordsE b2 b3 b4 b5 b6 → e = wE 0 4 (sl1 b2 0) ∨ e = wE 1 5 (sl1 b3 1) ∨ e = wE 2 2 (sl1 b4 1) ∨ e = wE 3 3 (sl1 b5 1) ∨ e = wE 4 6 (sl1 b6 1) := by
    intro e he
    simpa [wordsE] using he
  refine ⟨0, r, 5, seen, 5, wordsE b2 b3 b4 b5 b6, 5, rfl, rfl, .inr (List.mem_cons_of_mem _ hm), Nat.le_refl 5, fun e he => ?_, fun hall => ?_, fun e he hun => ?_⟩
  · rcases mem he with rfl | rfl | rfl | rfl | rfl <;> simp
  · have hn : tgtF n' = tgt2 n' := by
      rw [tgtF, if_neg (h0 (hall _ (by simp [wordsE] : wE 0 4 (sl1 b2 0) ∈ _))), if_neg (h1 (hall (wE 1 5 (sl1 b3 1)) (by simp [wordsE]))), if_neg (h2 (hall (wE 2 2 (sl1 b4 1)) (by simp [wordsE]))), if_neg (h3 (hall (wE 3 3 (sl1 b5 1)) (by simp [wordsE]))), if_neg (h4 (hall (wE 4 6 (sl1 b6 1)) (by simp [wordsE])))]
    rw [hn]
    exact target_end n' (L := acZ) rfl (hb.skip _)
  · have hlt := unsn_lt he hun
    unfold action_target_b7
    refine ⟨r, 5, seen.push e.born, e.born, wordsE b2 b3 b4 b5 b6, 5, e, rfl, List.mem_cons_self .., by simp, .inr (List.mem_cons_of_mem _ hm), ?_, ?_⟩
    · rcases mem he with rfl | rfl | rfl | rfl | rfl <;> rfl
    have push : ∀ i, (seen.push e.born).contains i = true → seen.contains i = true ∨ i = e.born := by
      intro i h
      have hx : (seen.push e.born).contains i = (seen.contains i || i == e.born) := by
        rw [Bool.eq_iff_iff]; simp [or_comm]
      rw [hx, Bool.or_eq_true] at h
      exact h.imp id (fun h => by simpa using h)
    have step : ∀ (k : Int) (b l : Nat) (ls : List ByteArray) (nme : ByteArray), l = ls.length → ls.length ≤ 1 → makeN ls ByteArray.empty = some nme → (∀ {J : IMem} {x : Nat × Obj}, RowIn J (x :: T1) (some ⟨b, 0, none⟩) ls.length 1 elS ls) → (n' = nme → tgtF n' = (k, ⟨#[]⟩, false)) →
        (n' ≠ nme → ((seen.push e.born).contains 0 = true → n' ≠ ⟨#[]⟩) ∧ ((seen.push e.born).contains 1 = true → n' ≠ n5B) ∧ ((seen.push e.born).contains 2 = true → n' ≠ n2B) ∧ ((seen.push e.born).contains 3 = true → n' ≠ n3B) ∧ ((seen.push e.born).contains 4 = true → n' ≠ n6B)) →
        action_target_b8 (fun n x2 it J T => ∃ m', m' < unsn (wordsE b2 b3 b4 b5 b6) seen ∧ (n = n' ∧ x2 = ⟨bA, 0, none⟩ ∧ it = ⟨b10, 0, none⟩ ∧ J1.le J ∧ ∃ seen : Array Nat, m' = unsn (wordsE b2 b3 b4 b5 b6) seen ∧ (seen.contains 0 = true → n' ≠ ⟨#[]⟩) ∧ (seen.contains 1 = true → n' ≠ n5B) ∧ (seen.contains 2 = true → n' ≠ n2B) ∧ (seen.contains 3 = true → n' ≠ n3B) ∧ (seen.contains 4 = true → n' ≠ n6B) ∧ T = (b10, .mapIter (some r) 5 seen 5) :: T1))
          (fun v J T => ∃ L, Sub L T ∧ v = vAc (tgtF n') ∧ L = S) n' ⟨bA, 0, none⟩ k (sl1 b l) ⟨b10, 0, none⟩ J ((b10, .mapIter (some r) 5 (seen.push e.born) 5) :: T1) := by
      intro k b l ls nme hl hl1 hmk hrow heq hne
      subst hl
      unfold action_target_b8
      refine (Make_runs (ls := ls) hrow (by omega)).mono ?_
      rintro v J2 T2 hle2 ⟨rfl, rfl⟩
      rw [hmk]
      refine ⟨_, _, rfl, bcase_of (fun h => ?_) (fun h => ?_)⟩
      · have hn := (keq.1 h).symm
        refine put_ac (L := acZ) rfl (hb.skip _) fun T' hT' => ⟨S, hT', ?_, rfl⟩
        rw [heq hn]
      · have hn : n' ≠ nme := fun e => by rw [keq.2 e.symm] at h; cases h
        obtain ⟨g0, g1, g2, g3, g4⟩ := hne hn
        exact ⟨_, hlt, rfl, rfl, rfl, hle.trans hle2, seen.push e.born, rfl, g0, g1, g2, g3, g4, rfl⟩
    rcases mem he with rfl | rfl | rfl | rfl | rfl
    · refine step 4 b2 0 [] ⟨#[]⟩ rfl (by decide) mk4 row_0 (fun h => by subst h; rfl) (fun hn => ⟨fun _ => hn, fun h => ?_, fun h => ?_, fun h => ?_, fun h => ?_⟩)
      · exact h1 ((push _ h).resolve_right (by simp))
      · exact h2 ((push _ h).resolve_right (by simp))
      · exact h3 ((push _ h).resolve_right (by simp))
      · exact h4 ((push _ h).resolve_right (by simp))
    · refine step 5 b3 1 [starB] n5B rfl (by decide) mk5 (fun {J x} => rows.1) (fun h => by subst h; decide +kernel) (fun hn => ⟨fun h => ?_, fun _ => hn, fun h => ?_, fun h => ?_, fun h => ?_⟩)
      · exact h0 ((push _ h).resolve_right (by simp))
      · exact h2 ((push _ h).resolve_right (by simp))
      · exact h3 ((push _ h).resolve_right (by simp))
      · exact h4 ((push _ h).resolve_right (by simp))
    · refine step 2 b4 1 [passB] n2B rfl (by decide) mk2 (fun {J x} => rows.2.1) (fun h => by subst h; decide +kernel) (fun hn => ⟨fun h => ?_, fun h => ?_, fun _ => hn, fun h => ?_, fun h => ?_⟩)
      · exact h0 ((push _ h).resolve_right (by simp))
      · exact h1 ((push _ h).resolve_right (by simp))
      · exact h3 ((push _ h).resolve_right (by simp))
      · exact h4 ((push _ h).resolve_right (by simp))
    · refine step 3 b5 1 [dropB] n3B rfl (by decide) mk3 (fun {J x} => rows.2.2.1) (fun h => by subst h; decide +kernel) (fun hn => ⟨fun h => ?_, fun h => ?_, fun h => ?_, fun _ => hn, fun h => ?_⟩)
      · exact h0 ((push _ h).resolve_right (by simp))
      · exact h1 ((push _ h).resolve_right (by simp))
      · exact h2 ((push _ h).resolve_right (by simp))
      · exact h4 ((push _ h).resolve_right (by simp))
    · refine step 6 b6 1 [tcpB] n6B rfl (by decide) mk6 (fun {J x} => rows.2.2.2) (fun h => by subst h; decide +kernel) (fun hn => ⟨fun h => ?_, fun h => ?_, fun h => ?_, fun h => ?_, fun _ => hn⟩)
      · exact h0 ((push _ h).resolve_right (by simp))
      · exact h1 ((push _ h).resolve_right (by simp))
      · exact h2 ((push _ h).resolve_right (by simp))
      · exact h3 ((push _ h).resolve_right (by simp))
end Go.Proofs.YtmlojdbahlfiaaaGreatDoor
/- What the records of a name do. -/
namespace Go.Proofs.YtmlojdbahlfiaaaGreatDoor
open Go.Px
set_option linter.unusedVariables false
set_option linter.unusedSimpArgs false

structure Av where
  k : Int
  t : ByteArray
  w : Bool
  rs : List Rc
def av0 : Av := ⟨0, ⟨#[]⟩, false, []⟩
def badR (n : Nat) (r : Rc) : Bool := bif r.2.1 == 5 then (bif decide (n > 1) then true else (bif r.2.1 == 6 then true else r.2.1 == 2)) else (bif r.2.1 == 6 then true else r.2.1 == 2)
def actF (rs : List Rc) : Option Av := if rs.any (badR rs.length) = true then none else match rs with
  | [] => none
  | r :: _ => if r.2.1 = 5 then some ⟨(tgtF r.2.2.2).1, (tgtF r.2.2.2).2.1, (tgtF r.2.2.2).2.2, []⟩ else some ⟨8, ⟨#[]⟩, false, rs⟩
abbrev vAv (a : Av) (p : Option Addr) (n c : Nat) : Value := .agg #[.int .i64 a.k, .string a.t, .bool a.w, .slice p n c]
abbrev encAv (a : Av) (p : Option Addr) (n c : Nat) : List Value := [.int .i64 a.k, .string a.t, .bool a.w, .slice p n c]
def AcR (a : Av) (b : Bool) (S : SH) (v : Value) (T : SH) : Prop := ∃ p n c own, v = .tuple #[vAv a p n c, .bool b] ∧ OwnZ (.slice p n c) a.rs own ∧ Sub (own ++ S) T
theorem any_snocR {xs : List Rc} {k : Nat} {x : Rc} {f : Rc → Bool} (h : xs[k]? = some x) : (xs.take (k + 1)).any f = ((xs.take k).any f || f x) := by
  rw [take_snoc h, List.any_append]; simp
theorem app_r {xs : List Rc} {r : Rc} {b : Nat} {v : Value} {S F own : SH} {I : IMem} {K : Option Addr → Nat → Nat → SH → Prop} (hs : Sub (own ++ F) S) (hv : OwnZ v xs own) (hl : xs.length ≤ 1000000000)
    (hK : ∀ p n c own' T, OwnZ (.slice p n c) (xs ++ [r]) own' → Sub (own' ++ F) T → K p n c T) :
    AppG 69 4 40 zR (some (.slice 69)) I ((b, .cells #[.string r.1, .int .u16 r.2.1, .int .u32 r.2.2.1, .string r.2.2.2] 69 (0, 0)) :: S) v (.slice (some ⟨b, 0, none⟩) 1 1) K := by
  obtain ⟨G, hG⟩ := hs.skip (b, .cells #[.string r.1, .int .u16 r.2.1, .int .u32 r.2.2.1, .string r.2.2.2] 69 (0, 0))
  exact AppG.own (xs := xs) (ys := [r]) (el := encR) encR_len encR_one rfl (by rw [List.append_assoc] at hG; exact hG) hv ⟨Rd.list (L := encR r) rfl (by simp [encR_len]), rfl⟩ (by simp only [List.length_singleton, maxLen]; omega) (by simp only [List.length_singleton]; omega)
    fun p n c own' h => hK p n c own' _ h ⟨G, by rw [List.append_assoc]⟩
theorem of_none {S T : SH} {b : Nat} {L : List Value} {J : IMem} {rs : List Rc} (hL : L.length = 4) (hs : Sub (acB b L :: S) T) (h : actF rs = none) : StP T ⟨b, 0, none⟩ [.int .i64 0, .string ⟨#[]⟩, .bool false, .slice none 0 0] fun S1 =>
    ∃ u0, Cell J S1 ⟨b, 0, none⟩ (.int .i64 u0) ∧ ∃ u1, Cell J S1 ((⟨b, 0, none⟩ : Addr).add 1) (.string u1) ∧ ∃ u2, Cell J S1 ((⟨b, 0, none⟩ : Addr).add 2) (.bool u2) ∧
      ∃ u3 u3n u3c, Cell J S1 ((⟨b, 0, none⟩ : Addr).add 3) (.slice u3 u3n u3c) ∧ AcR ((actF rs).getD av0) (actF rs).isSome S (.tuple #[.agg #[.int .i64 u0, .string u1, .bool u2, .slice u3 u3n u3c], .bool false]) S1 := by
  refine put_ac hL hs fun T' hT' => ?_
  rw [h]
  exact ⟨_, _, _, [], rfl, OwnR.nil, hT'⟩
theorem AOf_runs {rs : List Rc} {a : Option Addr} {c : Nat} {I : IMem} {S : SH} (hx : RowIn I S a rs.length 4 encR rs) (hl : rs.length ≤ 100000) :
    Runs Tryz.prog 62 #[.slice a rs.length c] I S fun v _ T => AcR ((actF rs).getD av0) (actF rs).isSome S v T := by
  refine action_Of_fn _ _ _ _ _ _ ?_
  unfold action_Of action_Of_b1 action_Of_b2
  intro bA
  refine ⟨fun m y yn yc x2 o on oc z zn zc q i J T => y = a ∧ yn = rs.length ∧ yc = c ∧ x2 = ⟨bA, 0, none⟩ ∧ z = a ∧ zn = rs.length ∧ zc = c ∧ q = (rs.length : Int) ∧ I.le J ∧ ∃ (k : Nat) (own : SH), i = (k : Int) ∧ k ≤ rs.length ∧ m = rs.length - k ∧ (rs.take k).any (badR rs.length) = false ∧ OwnZ (.slice o on oc) (rs.take k) own ∧ Sub (own ++ (acB bA acZ :: S)) T,
    rs.length, ⟨rfl, rfl, rfl, rfl, rfl, rfl, rfl, rfl, IMem.le.refl I, 0, [], rfl, Nat.zero_le _, rfl, rfl, OwnR.nil, Sub.refl _⟩, ?_⟩
  rintro m y yn yc x2 o on oc z zn zc q i J T - ⟨rfl, rfl, rfl, rfl, rfl, rfl, rfl, rfl, hle, k, own, rfl, hk, rfl, hf, ho, hs⟩
  have hrow : ∀ {T' : SH}, Sub S T' → RowIn J T' z rs.length 4 encR rs := fun h => (hx.le hle).sub h
  have hS : Sub S T := hs.right.drop
  unfold action_Of_l3
  refine bcase_dec (fun hg => ?_) (fun hg => ?_)
  · obtain ⟨r, hr⟩ := get_lt (xs := rs) (k := k) (by omega)
    obtain ⟨a', rfl, hc⟩ := (hrow hS).cell hr
    obtain ⟨c0, c1, c2, c3⟩ := CellsR hc
    unfold action_Of_b4
    refine ⟨by omega, by omega, _, c0, _, c1, _, c2, _, c3, fun b6 => StP.rec (x := r) ?_⟩
    have hR : Sub ((b6, Obj.cells (encR r).toArray 69 (0, 0)) :: T) ((b6, Obj.cells (encR r).toArray 69 (0, 0)) :: T) := Sub.refl _
    have bad : badR rs.length r = true → actF rs = none := fun h => by
      unfold actF
      rw [if_pos (List.any_eq_true.2 ⟨r, List.mem_of_getElem? hr, h⟩)]
    have go : ∀ (x : Bool), x = badR rs.length r → action_Of_b6 (fun y yn yc x2 o on oc z zn zc q i J T => ∃ m', m' < rs.length - k ∧ (y = some a' ∧ yn = rs.length ∧ yc = zc ∧ x2 = ⟨bA, 0, none⟩ ∧ z = some a' ∧ zn = rs.length ∧ zc = zc ∧ q = (rs.length : Int) ∧ I.le J ∧ ∃ (k : Nat) (own : SH), i = (k : Int) ∧ k ≤ rs.length ∧ m' = rs.length - k ∧ (rs.take k).any (badR rs.length) = false ∧ OwnZ (.slice o on oc) (rs.take k) own ∧ Sub (own ++ (acB bA acZ :: S)) T))
        (fun v _ T => AcR ((actF rs).getD av0) (actF rs).isSome S v T) (some a') rs.length zc ⟨bA, 0, none⟩ o on oc ⟨b6, 0, none⟩ (some a') rs.length zc (rs.length : Int) (k : Int) x J ((b6, Obj.cells (encR r).toArray 69 (0, 0)) :: T) := by
      intro x hxx
      unfold action_Of_b6
      refine bcase_of (fun h => ?_) (fun h => ?_)
      · exact of_none (L := acZ) rfl ((hs.right).skip _) (bad (hxx ▸ h))
      · unfold action_Of_b7 action_Of_b8
        refine ⟨_, Cell.at0 rfl, _, Cell.at0 rfl, _, Cell.at0 rfl, _, Cell.at0 rfl, fun b34 => app_r (r := r) (hs.skip _) ho (by rw [List.length_take]; omega) ?_⟩
        intro p n c own' T' ho' hT'
        rw [← take_snoc hr] at ho'
        exact ⟨rs.length - (k + 1), by omega, rfl, rfl, rfl, rfl, rfl, rfl, rfl, rfl, hle, k + 1, own', by rw [wrap_i64 (by omega) (by omega)]; rfl, by omega, rfl, by rw [any_snocR hr, hf, ← hxx, h]; rfl, ho', hT'⟩
    unfold action_Of_b5
    have cr : Cell J ((b6, Obj.cells (encR r).toArray 69 (0, 0)) :: T) ((⟨b6, 0, none⟩ : Addr).add 1) (.int .u16 r.2.1) := Cell.at_ (add_mk _ _ _) (Cell.at0 rfl)
    unfold badR at go
    refine ⟨_, cr, bcase_of (fun h5 => ?_) (fun h5 => ?_)⟩
    · rw [h5] at go
      refine bcase_of (fun h => go true (by rw [show decide (rs.length > 1) = true from decide_eq_true (by have := of_decide_eq_true h; omega)]; rfl)) (fun h => ⟨_, cr, bcase_of (fun h6 => go true ?_) (fun h6 => ⟨_, cr, go _ ?_⟩)⟩)
      · rw [show decide (rs.length > 1) = false from decide_eq_false (by have := of_decide_eq_false h; omega), h6]; rfl
      · rw [show decide (rs.length > 1) = false from decide_eq_false (by have := of_decide_eq_false h; omega), h6]; rfl
    · rw [h5] at go
      refine ⟨_, cr, bcase_of (fun h6 => go true ?_) (fun h6 => ⟨_, cr, go _ ?_⟩)⟩
      · rw [h6]; rfl
      · rw [h6]; rfl
  · have hke : k = rs.length := by omega
    subst hke
    rw [List.take_length] at hf ho
    unfold action_Of_b9
    have hB : Sub (acB bA acZ :: (own ++ S)) T := hs.re (by intro a; simp only [List.append_eq, cnt_cons, cnt_app]; omega)
    refine bcase_beq (fun h0 => ?_) (fun h0 => ?_)
    · refine of_none (L := acZ) rfl hs.right ?_
      have : rs = [] := List.eq_nil_of_length_eq_zero (by omega)
      rw [this]; rfl
    · obtain ⟨r, l, rfl⟩ : ∃ r l, rs = r :: l := by
        cases rs with
        | nil => exact absurd rfl h0
        | cons r l => exact ⟨r, l, rfl⟩
      obtain ⟨a', rfl, hc⟩ := (hrow hS).cell (i := 0) (x := r) rfl
      obtain ⟨c0, c1, c2, c3⟩ := CellsR hc
      have hact : actF (r :: l) = if r.2.1 = 5 then some ⟨(tgtF r.2.2.2).1, (tgtF r.2.2.2).2.1, (tgtF r.2.2.2).2.2, []⟩ else some ⟨8, ⟨#[]⟩, false, r :: l⟩ := by
        unfold actF
        rw [if_neg (by rw [hf]; exact Bool.false_ne_true)]
      have hpos : (0 : Int) < ((r :: l).length : Int) := by rw [List.length_cons]; omega
      refine ⟨by omega, hpos, _, c1, bcase_beq (fun h5 => ?_) (fun h5 => ?_)⟩
      · rw [hact, if_pos h5]
        refine ⟨by omega, hpos, _, c3, (target_runs _ _ _).mono ?_⟩
        rintro v J2 T2 hle2 ⟨rfl, rfl⟩
        refine ⟨_, _, _, _, _, _, rfl, put_ac (L := acZ) rfl hs.right fun T' hT' => ?_⟩
        exact ⟨_, _, _, [], rfl, OwnR.nil, hT'⟩
      · rw [hact, if_neg h5]
        refine put_ac (L := acZ) rfl hB fun T' hT' => ?_
        exact ⟨_, _, _, own, rfl, ho, hT'⟩
def keepO (k : Int) : Bool := bif k == 0 then true else (bif k == 8 then true else (bif k == 7 then true else (bif decide (k < 0) then true else decide (k > 8))))
def overF (a : Av) (k : Int) : Av := if keepO k = true then a else ⟨k, ⟨#[]⟩, false, []⟩
theorem Over_runs (a : Av) (p : Option Addr) (n c : Nat) (k : Int) (I : IMem) (S : SH) : Runs Tryz.prog 64 #[vAv a p n c, .int .i64 k] I S fun v _ T => v = (if keepO k = true then vAv a p n c else vAv (overF a k) none 0 0) ∧ T = S := by
  refine Runs.drop (action_Over_fn _ _ _ _ _ _ _ _ _ _ ?_)
  unfold action_Over action_Over_b1
  intro b2 b4
  have hB : Sub (acB b4 acZ :: (acB b2 (encAv a p n c) :: S)) (acB b4 acZ :: acB b2 (encAv a p n c) :: S) := Sub.refl _
  have hA : Sub (acB b2 (encAv a p n c) :: S) (acB b4 acZ :: acB b2 (encAv a p n c) :: S) := (Sub.refl _).skip _
  have go : ∀ x, x = keepO k → action_Over_b2 (fun v _ T => ∃ L, Sub L T ∧ v = (if keepO k = true then vAv a p n c else vAv (overF a k) none 0 0) ∧ L = S) k ⟨b2, 0, none⟩ ⟨b4, 0, none⟩ x I (acB b4 acZ :: acB b2 (encAv a p n c) :: S) := by
    intro x hx
    unfold action_Over_b2
    refine bcase_of (fun h => ?_) (fun h => ?_)
    · rw [if_pos (hx ▸ h)]
      refine ⟨_, Cell.among hA rfl, _, Cell.at_ (add_mk _ _ _) (Cell.among hA rfl), _, Cell.at_ (add_mk _ _ _) (Cell.among hA rfl), _, _, _, Cell.at_ (add_mk _ _ _) (Cell.among hA rfl), put_ac (L := acZ) rfl hB fun T hT => ⟨S, hT.drop, rfl, rfl⟩⟩
    · have hk : ¬ keepO k = true := by rw [← hx, h]; exact Bool.false_ne_true
      unfold action_Over_b3
      rw [if_neg hk]
      refine put_ac (L := acZ) rfl hB fun T hT => ⟨S, hT.drop, ?_, rfl⟩
      rw [overF, if_neg hk]
  refine bcase_of (fun h0 => go true (by rw [keepO, h0]; rfl)) (fun h0 => bcase_of (fun h1 => go true (by rw [keepO, h0, h1]; rfl)) (fun h1 => bcase_of (fun h2 => go true (by rw [keepO, h0, h1, h2]; rfl)) (fun h2 => bcase_of (fun h3 => go true (by rw [keepO, h0, h1, h2, h3]; rfl)) (fun h3 => go _ (by rw [keepO, h0, h1, h2, h3]; rfl)))))
end Go.Proofs.YtmlojdbahlfiaaaGreatDoor
/- What a name of a policy zone does. -/
namespace Go.Proofs.YtmlojdbahlfiaaaGreatDoor
open Go.Px
set_option linter.unusedVariables false
set_option linter.unusedSimpArgs false

structure Pl where
  o : ByteArray
  zn : Sl
  zs : List Rc
  live : Bool
  over : Int
abbrev encPl (p : Pl) : List Value := [.string p.o, .slice p.zn.1 p.zn.2.1 p.zn.2.2, .bool p.live, .int .i64 p.over]
abbrev vPl (p : Pl) : Value := .agg #[.string p.o, .slice p.zn.1 p.zn.2.1 p.zn.2.2, .bool p.live, .int .i64 p.over]
abbrev plB (b : Nat) (p : Pl) : Nat × Obj := (b, .cells (encPl p).toArray 61 (0, 0))
structure PlIn (I : IMem) (S : SH) (p : Pl) : Prop where
  row : RowIn I S p.zn.1 p.zs.length 4 encR p.zs
  len : p.zn.2.1 = p.zs.length
  few : p.zs.length ≤ 10000
theorem PlIn.keep {I J : IMem} {S T : SH} {p : Pl} (hk : Keep I S J T) (h : PlIn I S p) : PlIn J T p := ⟨h.row.keep hk, h.len, h.few⟩
theorem PlIn.sub {I : IMem} {S T : SH} {p : Pl} (hs : Sub S T) (h : PlIn I S p) : PlIn I T p := h.keep (hs.keep (IMem.le.refl I))
theorem PlIn.le {I J : IMem} {S : SH} {p : Pl} (hle : I.le J) (h : PlIn I S p) : PlIn J S p := h.keep ((Sub.refl S).keep hle)
noncomputable def nodeF (p : Pl) (n : ByteArray) : Option (Tg × Av) := if (stripN n p.o).2 = true then (match decF (stripN n p.o).1, actF (p.zs.filter (ofN n)) with
  | some t, some a => some (t, overF a p.over)
  | _, _ => none) else none
def NdR (r : Option (Tg × Av)) (S : SH) (v : Value) (T : SH) : Prop := ∃ p n c own, v = .tuple #[vT (r.getD (t0, av0)).1, vAv (r.getD (t0, av0)).2 p n c, .bool r.isSome] ∧ OwnZ (.slice p n c) (r.getD (t0, av0)).2.rs own ∧ Sub (own ++ S) T
theorem put_tg {K : SH → Prop} {b : Nat} {x t : Tg} {F S : SH} (hs : Sub (tgB b x :: F) S) (h : ∀ T, Sub (tgB b t :: F) T → K T) : StP S ⟨b, 0, none⟩ [.int .i64 t.1, .string t.2.1, .string t.2.2.1, .int .i64 t.2.2.2] K :=
  StP.among (L := elT x) (L' := elT t) hs (Nat.le_of_ble_eq_true rfl) rfl rfl h
theorem put_av {K : SH → Prop} {b : Nat} {L : List Value} {a : Av} {p : Option Addr} {n c : Nat} {F S : SH} (hL : L.length = 4) (hs : Sub (acB b L :: F) S) (h : ∀ T, Sub (acB b (encAv a p n c) :: F) T → K T) : StP S ⟨b, 0, none⟩ [.int .i64 a.k, .string a.t, .bool a.w, .slice p n c] K :=
  StP.among (L := L) (L' := encAv a p n c) hs (by rw [hL]; exact Nat.le_refl 4) rfl (by rw [List.take_zero, List.drop_of_length_le (by rw [hL]; exact Nat.le_refl 4), List.append_nil, List.nil_append]) h
theorem avX {I : IMem} {S F : SH} {b : Nat} {a : Av} {p : Option Addr} {n c : Nat} (hs : Sub (acB b (encAv a p n c) :: F) S) : Cell I S ⟨b, 0, none⟩ (.int .i64 a.k) ∧ Cell I S ((⟨b, 0, none⟩ : Addr).add 1) (.string a.t) ∧ Cell I S ((⟨b, 0, none⟩ : Addr).add 2) (.bool a.w) ∧ Cell I S ((⟨b, 0, none⟩ : Addr).add 3) (.slice p n c) :=
  ⟨Cell.among hs rfl, Cell.at_ (add_mk _ _ _) (Cell.among hs rfl), Cell.at_ (add_mk _ _ _) (Cell.among hs rfl), Cell.at_ (add_mk _ _ _) (Cell.among hs rfl)⟩
section
variable {b2 b4 b5 b9 b11 : Nat} {p : Pl} {t : Tg} {a : Av} {q : Option Addr} {n c : Nat} {own F S T : SH} {J : IMem}
theorem nd_none {r : Option (Tg × Av)} (hr : r = none) (hs : Sub (acB b5 acZ :: (tgB b4 t0 :: S)) T) : search_Node_b2 (fun v _ T => NdR r S v T) ⟨b2, 0, none⟩ ⟨b4, 0, none⟩ ⟨b5, 0, none⟩ ⟨b9, 0, none⟩ ⟨b11, 0, none⟩ true J T := by
  unfold search_Node_b2
  refine bcase_t rfl (put_tg (x := t0) (t := t0) (F := acB b5 acZ :: S) (hs.re (by intro a; simp only [cnt_cons]; omega)) fun T1 hT1 => put_av (L := acZ) (a := av0) (p := none) (n := 0) (c := 0) (F := tgB b4 t0 :: S) rfl (hT1.re (by intro a; simp only [cnt_cons]; omega)) fun T2 hT2 => ?_)
  obtain ⟨c0, c1, c2, _, c3⟩ := tgX (I := J) (hT2.re (by intro a; simp only [cnt_cons]; omega) : Sub (tgB b4 t0 :: (acB b5 (encAv av0 none 0 0) :: S)) T2)
  obtain ⟨d0, d1, d2, d3⟩ := avX (I := J) hT2
  refine ⟨_, c0, _, c1, _, c2, _, c3, _, d0, _, d1, _, d2, _, _, _, d3, ?_⟩
  rw [hr]
  exact ⟨_, _, _, [], rfl, OwnR.nil, hT2.drop.drop⟩
theorem nd_some {r : Option (Tg × Av)} (hr : r = some (t, overF a p.over)) (ho : OwnZ (.slice q n c) a.rs own) (hs : Sub (acB b11 (encAv a q n c) :: (tgB b9 t :: (acB b5 acZ :: (tgB b4 t0 :: (plB b2 p :: (own ++ S)))))) T) :
    search_Node_b3 (fun v _ T => NdR r S v T) ⟨b2, 0, none⟩ ⟨b4, 0, none⟩ ⟨b5, 0, none⟩ ⟨b9, 0, none⟩ ⟨b11, 0, none⟩ J T := by
  obtain ⟨c0, c1, c2, _, c3⟩ := tgX (I := J) hs.drop
  obtain ⟨d0, d1, d2, d3⟩ := avX (I := J) hs
  unfold search_Node_b3
  refine ⟨_, c0, _, c1, _, c2, _, c3, _, d0, _, d1, _, d2, _, _, _, d3, _, Cell.at_ (add_mk _ _ _) (Cell.among hs.drop.drop.drop.drop rfl), (Over_runs a q n c p.over _ _).mono ?_⟩
  rintro v J2 T2 hle2 ⟨rfl, rfl⟩
  have fin : ∀ (a' : Av) (q' : Option Addr) (n' c' : Nat) (own' : SH), overF a p.over = a' → OwnZ (.slice q' n' c') a'.rs own' → (∀ {X : SH}, Sub (own ++ S) X → Sub (own' ++ S) X) →
      StP T2 ⟨b4, 0, none⟩ [.int .i64 t.1, .string t.2.1, .string t.2.2.1, .int .i64 t.2.2.2] fun S1 => StP S1 ⟨b5, 0, none⟩ [.int .i64 a'.k, .string a'.t, .bool a'.w, .slice q' n' c'] fun S2 => search_Node_b4 (fun v _ T => NdR r S v T) ⟨b4, 0, none⟩ ⟨b5, 0, none⟩ true J2 S2 := by
    intro a' q' n' c' own' ha ho' hX
    refine put_tg (x := t0) (t := t) (F := acB b5 acZ :: (own ++ S)) ((hs.re (by intro a; simp only [cnt_cons, cnt_app, cnt_nil]; omega) : Sub (tgB b4 t0 :: (acB b5 acZ :: (own ++ S)) ++ [acB b11 (encAv a q n c), tgB b9 t, plB b2 p]) T2).left) fun T1 hT1 => put_av (L := acZ) (a := a') (F := tgB b4 t :: (own ++ S)) rfl (hT1.re (by intro a; simp only [cnt_cons, cnt_app]; omega)) fun T3 hT3 => ?_
    obtain ⟨c0, c1, c2, _, c3⟩ := tgX (I := J2) (hT3.re (by intro a; simp only [cnt_cons, cnt_app]; omega) : Sub (tgB b4 t :: (acB b5 (encAv a' q' n' c') :: (own ++ S))) T3)
    obtain ⟨d0, d1, d2, d3⟩ := avX (I := J2) hT3
    unfold search_Node_b4
    refine ⟨_, c0, _, c1, _, c2, _, c3, _, d0, _, d1, _, d2, _, _, _, d3, ?_⟩
    rw [hr, ha]
    exact ⟨_, _, _, own', rfl, ho', hX hT3.drop.drop⟩
  by_cases hk : keepO p.over = true
  · have e : overF a p.over = a := by rw [overF, if_pos hk]
    rw [if_pos hk]
    exact ⟨_, _, _, _, _, _, rfl, (Sub.refl _).keep hle2, fin a q n c own e ho id⟩
  · have e : overF a p.over = ⟨p.over, ⟨#[]⟩, false, []⟩ := by rw [overF, if_neg hk]
    rw [if_neg hk, e]
    exact ⟨_, _, _, _, _, _, rfl, (Sub.refl _).keep hle2, fin _ none 0 0 [] e OwnR.nil fun h => h.right⟩
end
theorem Node_runs (p : Pl) (nn : ByteArray) {I : IMem} {S : SH} (g : GL I) (hp : PlIn I S p) : Runs Tryz.prog 26 #[vPl p, .string nn] I S fun v _ T => NdR (nodeF p nn) S v T := by
  refine search_Node_fn _ _ _ _ _ _ _ _ _ _ ?_
  unfold search_Node
  intro b2 b4 b5
  refine ⟨_, Cell.tl (Cell.tl (Cell.at0 rfl)), (Strip_runs _ _ _ _).mono ?_⟩
  rintro v J1 T1 hle1 ⟨rfl, rfl⟩
  refine ⟨_, _, rfl, (Decode_runs _ (g.le hle1) _).mono ?_⟩
  rintro v J2 T2 hle2 ⟨rfl, rfl⟩
  have hres : ∃ t b, resT (decF (stripN nn p.o).1) = .tuple #[vT t, .bool b] ∧ (decF (stripN nn p.o).1 = if b = true then some t else none) := by
    cases decF (stripN nn p.o).1 with
    | none => exact ⟨t0, false, rfl, rfl⟩
    | some t => exact ⟨t, true, rfl, rfl⟩
  obtain ⟨t, b, hv, hd⟩ := hres
  rw [hv]
  have hle := hle1.trans hle2
  refine ⟨_, _, _, _, _, rfl, fun b9 => StP.all (vs := elT t) rfl rfl ⟨_, _, _, Cell.tl (Cell.tl (Cell.tl (Cell.at0 rfl))), ?_⟩⟩
  have hrow : RowIn J2 (tgB b9 t :: (acB b5 acZ :: (tgB b4 t0 :: (plB b2 p :: S)))) p.zn.1 p.zs.length 4 encR p.zs := (hp.row.le hle).sub ((((Sub.refl S).skip _).skip _).skip _ |>.skip _)
  have hat := At_runs (c := p.zn.2.2) (n := nn) hrow (by have := hp.few; omega)
  rw [← hp.len] at hat
  refine hat.mono ?_
  rintro v J3 T3 hle3 ⟨own1, ho1, hs3⟩
  obtain ⟨p1, c1, rfl⟩ := ho1.slice
  have hfl : (p.zs.filter (ofN nn)).length ≤ 10000 := Nat.le_trans (List.length_filter_le _ _) hp.few
  refine ⟨_, _, _, rfl, (AOf_runs ((ho1.row encR_len).sub hs3.left) (by omega)).mono ?_⟩
  rintro v J4 T4 hle4 ⟨q, n, c, own, rfl, ho, hs4⟩
  refine ⟨_, _, _, _, _, _, _, rfl, fun b11 => StP.all (vs := encAv ((actF (p.zs.filter (ofN nn))).getD av0) q n c) rfl rfl ?_⟩
  have hall : Sub (acB b11 (encAv ((actF (p.zs.filter (ofN nn))).getD av0) q n c) :: (tgB b9 t :: (acB b5 acZ :: (tgB b4 t0 :: (plB b2 p :: (own ++ S)))))) (acB b11 (encAv ((actF (p.zs.filter (ofN nn))).getD av0) q n c) :: T4) := by
    have h1 := ((Sub.refl own).both hs3.right).trans hs4
    exact (h1.cons (acB b11 (encAv ((actF (p.zs.filter (ofN nn))).getD av0) q n c))).re (by intro a; simp only [cnt_cons, cnt_app]; omega)
  have hnone : Sub (acB b5 acZ :: (tgB b4 t0 :: S)) (acB b11 (encAv ((actF (p.zs.filter (ofN nn))).getD av0) q n c) :: T4) := (hall.re (by intro a; simp only [cnt_cons, cnt_app, cnt_nil]; omega) : Sub ((acB b5 acZ :: (tgB b4 t0 :: S)) ++ (acB b11 (encAv ((actF (p.zs.filter (ofN nn))).getD av0) q n c) :: tgB b9 t :: plB b2 p :: own)) _).left
  unfold search_Node_b1
  refine bcase_not (bcase_of (fun h1 => bcase_not (bcase_of (fun h2 => ?_) (fun h2 => ?_))) (fun h1 => ?_))
  · rw [h2, if_pos rfl] at hd
    cases ha : actF (p.zs.filter (ofN nn)) with
    | none => exact nd_none (by rw [nodeF, if_pos h1, hd, ha]) (ha ▸ hnone)
    | some a =>
      unfold search_Node_b2
      refine bcase_f rfl (nd_some (t := t) (a := a) (p := p) (q := q) (n := n) (c := c) (own := own) (by rw [nodeF, if_pos h1, hd, ha]) ?_ ?_)
      · rw [ha] at ho; exact ho
      · rw [ha] at hall; exact hall
  · rw [h2, if_neg Bool.false_ne_true] at hd
    exact nd_none (by rw [nodeF, if_pos h1, hd]) hnone
  · exact nd_none (by rw [nodeF, if_neg (by rw [h1]; exact Bool.false_ne_true)]) hnone
end Go.Proofs.YtmlojdbahlfiaaaGreatDoor
/- Ranks: floats of small numbers stand as the numbers do. -/
namespace Go.Proofs.YtmlojdbahlfiaaaGreatDoor
open Go.Px
set_option linter.unusedVariables false
set_option linter.unusedSimpArgs false

def lenT (t : Tg) : Int := if (!(t.2.2.1.toList == (⟨#[]⟩ : ByteArray).toList)) = true then t.2.2.2 else (cntN t.2.1 : Int)
def rkI (t : Tg) : Int := if 0 ≤ t.1 ∧ t.1 ≤ 6 then IntKind.wrap .i64 (IntKind.wrap .i64 (IntKind.wrap .i64 (IntKind.wrap .i64 (t.1 * 256) + 256) - 1) - lenT t) else 1792
def elI9 (n : Int) : List Value := [.int .i64 n]
def stepsL : List Int := [0, 1, 2, 3, 4, 5, 6]
abbrev stB (b : Nat) : Nat × Obj := (b, .cells #[.int .i64 0, .int .i64 1, .int .i64 2, .int .i64 3, .int .i64 4, .int .i64 5, .int .i64 6] 28 (0, 0))
theorem steps_runs (I : IMem) (S : SH) : Runs Tryz.prog 99 #[] I S fun v _ T => ∃ b, v = .slice (some ⟨b, 0, none⟩) 7 7 ∧ T = stB b :: S := by
  refine rank_steps_fn _ _ _ ?_
  unfold rank_steps
  intro b1
  exact ⟨b1, rfl, rfl⟩
theorem stepsL_get {k : Nat} (h : k < 7) : stepsL[k]? = some (k : Int) := by
  match k, h with
  | 0, _ => rfl
  | 1, _ => rfl
  | 2, _ => rfl
  | 3, _ => rfl
  | 4, _ => rfl
  | 5, _ => rfl
  | 6, _ => rfl
theorem steps_row {I : IMem} {S : SH} {b : Nat} : RowIn I (stB b :: S) (some ⟨b, 0, none⟩) 7 1 elI9 stepsL :=
  (OwnR.row (e := 28) (el := elI9) (fun _ => rfl) (c := 7) (xs := stepsL) (own := [stB b]) (.inr ⟨b, 7, [], rfl, rfl, rfl, by decide⟩)).sub (Sub.left (L := [stB b]) (M := S) (Sub.refl _))
theorem ROf_runs (z : Int) (t : Tg) (I : IMem) (S : SH) : Runs Tryz.prog 66 #[.int .i64 z, vT t] I S fun v _ T => v = .complex .f64 (FloatKind.f64.nearest z) (FloatKind.f64.nearest (rkI t)) ∧ T = S := by
  refine Runs.drop (rank_Of_fn _ _ _ _ _ _ _ _ ?_)
  unfold rank_Of
  intro b3
  have hT : Sub (tgB b3 t :: S) (tgB b3 t :: S) := Sub.refl _
  refine ⟨_, Cell.at0 rfl, (Count_runs _ _ _).mono ?_⟩
  rintro v J T hle ⟨rfl, rfl⟩
  have go : ∀ (x : Int) (J : IMem), x = lenT t → rank_Of_b1 (fun v _ T => ∃ L, Sub L T ∧ v = .complex .f64 (FloatKind.f64.nearest z) (FloatKind.f64.nearest (rkI t)) ∧ L = S) z ⟨b3, 0, none⟩ x J (tgB b3 t :: S) := by
    intro x J hx
    unfold rank_Of_b1
    refine (steps_runs _ _).mono ?_
    rintro v J1 T1 hle1 ⟨b, rfl, rfl⟩
    refine ⟨_, _, _, rfl, ?_⟩
    unfold rank_Of_b2
    refine ⟨fun m z' p x' y yn yc q i J T => z' = z ∧ p = ⟨b3, 0, none⟩ ∧ x' = x ∧ y = some ⟨b, 0, none⟩ ∧ yn = 7 ∧ q = 7 ∧ T = stB b :: tgB b3 t :: S ∧ ∃ k : Nat, i = (k : Int) ∧ k ≤ 7 ∧ m = 7 - k ∧ (∀ j : Nat, j < k → t.1 ≠ (j : Int)),
      7, ⟨rfl, rfl, rfl, rfl, rfl, rfl, rfl, 0, rfl, Nat.zero_le _, rfl, fun j h => by omega⟩, ?_⟩
    rintro m z' p x' y yn yc q i J T - ⟨rfl, rfl, rfl, rfl, rfl, rfl, rfl, k, rfl, hk, rfl, hf⟩
    unfold rank_Of_l3
    refine bcase_dec (fun hg => ?_) (fun hg => ?_)
    · obtain ⟨a', ha, hc⟩ := (steps_row (I := J) (S := tgB b3 t :: S) (b := b)).cell (stepsL_get (k := k) (by omega))
      injection ha with ha
      subst ha
      refine ⟨by omega, by omega, _, (by simpa [Addr.add] using hc 0 _ rfl), _, Cell.tl (Cell.at0 rfl), bcase_beq (fun h => ?_) (fun h => ?_)⟩
      · refine ⟨S, ((Sub.refl S).skip _).skip _, ?_, rfl⟩
        rw [rkI, if_pos (by omega), hx, ← h]
      · exact ⟨7 - (k + 1), by omega, rfl, rfl, rfl, rfl, rfl, rfl, rfl, k + 1, by rw [wrap_i64 (by omega) (by omega)]; rfl, by omega, rfl, fun j hj => by
          by_cases e : j = k
          · subst e; exact fun e => h e.symm
          · exact hf j (by omega)⟩
    · have hke : k = 7 := by omega
      subst hke
      unfold rank_Of_b4
      refine (steps_runs _ _).mono ?_
      rintro v J2 T2 hle2 ⟨b', rfl, rfl⟩
      refine ⟨_, _, _, rfl, S, (((Sub.refl S).skip _).skip _).skip _, ?_, rfl⟩
      have h7 : ¬ (0 ≤ t.1 ∧ t.1 ≤ 6) := by
        rintro ⟨g1, g2⟩
        exact hf t.1.toNat (by omega) (by omega)
      rw [rkI, if_neg h7]; rfl
  refine ⟨_, rfl, _, Cell.at0 rfl, bcase_of (fun h => ⟨_, Cell.at0 rfl, go _ _ ?_⟩) (fun h => go _ _ ?_)⟩
  · rw [lenT, if_pos h]
  · rw [lenT, if_neg (by rw [h]; exact Bool.false_ne_true)]
abbrev fOrd (a b : Nat) : Option Ordering := FloatKind.f64.format.order a b
def btF (a b c d : Nat) : Bool := bif fOrd a c != some .eq then fOrd a c == some .lt else fOrd b d == some .lt
theorem Better_runs (a b c d : Nat) (I : IMem) (S : SH) : Runs Tryz.prog 67 #[.complex .f64 a b, .complex .f64 c d] I S fun v _ T => v = .bool (btF a b c d) ∧ T = S := by
  refine rank_Better_fn _ _ _ _ _ _ _ ?_
  unfold rank_Better btF
  refine bcase_of (fun h => ⟨by rw [h]; rfl, rfl⟩) (fun h => ⟨by rw [h]; rfl, rfl⟩)
/-! ### small numbers -/
theorem read_small : ∀ n : Fin 2048, Ieee.double.read (Ieee.double.nearest false n.val 0) = if n.val = 0 then .number false 0 (-1074) else .number false (n.val <<< (52 - n.val.log2)) (-((52 - n.val.log2 : Nat) : Int)) := by decide +kernel
theorem near_nat (n : Nat) : FloatKind.f64.nearest (n : Int) = Ieee.double.nearest false n 0 := by
  unfold FloatKind.nearest FloatKind.encode Ieee.Format.write
  have h1 : decide ((n : Int) < 0) = false := decide_eq_false (by omega)
  simp only [h1, Int.natAbs_natCast]
  rfl
theorem ord_small {a b : Nat} (ha : a < 2048) (hb : b < 2048) : fOrd (FloatKind.f64.nearest (a : Int)) (FloatKind.f64.nearest (b : Int)) = some (compare (a : Int) (b : Int)) := by
  have ra := read_small ⟨a, ha⟩
  have rb := read_small ⟨b, hb⟩
  dsimp only at ra rb
  show Ieee.Format.order Ieee.double _ _ = _
  unfold Ieee.Format.order
  rw [near_nat, near_nat, ra, rb]
  have key : ∀ (ka kb : Nat) (i j : Int) (m n : Nat), (m = 0 ∧ a = 0 ∨ m = a <<< ka ∧ i = -(ka : Int)) → (n = 0 ∧ b = 0 ∨ n = b <<< kb ∧ j = -(kb : Int)) → (Ieee.Datum.number false m i).order (.number false n j) = some (compare (a : Int) (b : Int)) := by
    intro ka kb i j m n hm hn
    unfold Ieee.Datum.order
    dsimp only
    unfold Ieee.signed
    simp only [Bool.false_eq_true, if_false, Nat.shiftLeft_eq]
    have hpos : (0 : Int) < 2 ^ (-(min i j)).toNat := Int.pow_pos (by decide)
    congr 1
    have cmp : ∀ (x y c : Int), 0 < c → compare (x * c) (y * c) = compare x y := by
      intro x y c hc
      rcases Int.lt_trichotomy x y with h | h | h
      · have : x * c < y * c := Int.mul_lt_mul_of_pos_right h hc
        rw [Int.compare_eq_lt.2 this, Int.compare_eq_lt.2 h]
      · subst h
        rw [Int.compare_eq_eq.2 rfl, Int.compare_eq_eq.2 rfl]
      · have : y * c < x * c := Int.mul_lt_mul_of_pos_right h hc
        rw [Int.compare_eq_gt.2 this, Int.compare_eq_gt.2 h]
    have e : ∀ (m a ka : Nat) (i base : Int), base ≤ i → (m = 0 ∧ a = 0 ∨ m = a <<< ka ∧ i = -(ka : Int)) → ((m * 2 ^ (i - base).toNat : Nat) : Int) = (a : Int) * 2 ^ (-base).toNat := by
      intro m a ka i base hb h
      rcases h with ⟨rfl, rfl⟩ | ⟨rfl, rfl⟩
      · simp
      · have hx : (-base).toNat = ka + (-(ka : Int) - base).toNat := by omega
        rw [hx, Nat.shiftLeft_eq, Nat.mul_assoc, ← Nat.pow_add]
        push_cast
        rfl
    rw [e m a ka i (min i j) (Int.min_le_left i j) hm, e n b kb j (min i j) (Int.min_le_right i j) hn]
    exact cmp _ _ _ hpos
  by_cases h0 : a = 0
  · subst h0
    by_cases h1 : b = 0
    · subst h1
      rw [if_pos rfl]
      exact key 0 0 _ _ 0 0 (.inl ⟨rfl, rfl⟩) (.inl ⟨rfl, rfl⟩)
    · rw [if_pos rfl, if_neg h1]
      exact key 0 (52 - b.log2) _ _ 0 _ (.inl ⟨rfl, rfl⟩) (.inr ⟨rfl, rfl⟩)
  · rw [if_neg h0]
    by_cases h1 : b = 0
    · subst h1
      rw [if_pos rfl]
      exact key (52 - a.log2) 0 _ _ _ 0 (.inr ⟨rfl, rfl⟩) (.inl ⟨rfl, rfl⟩)
    · rw [if_neg h1]
      exact key (52 - a.log2) (52 - b.log2) _ _ _ _ (.inr ⟨rfl, rfl⟩) (.inr ⟨rfl, rfl⟩)
theorem ord_eq {a b : Nat} (ha : a < 2048) (hb : b < 2048) : (fOrd (FloatKind.f64.nearest (a : Int)) (FloatKind.f64.nearest (b : Int)) == some .eq) = decide (a = b) := by
  rw [ord_small ha hb]
  rcases Nat.lt_trichotomy a b with h | h | h
  · rw [Int.compare_eq_lt.2 (by omega), decide_eq_false (by omega)]; rfl
  · rw [Int.compare_eq_eq.2 (by omega), decide_eq_true h]; rfl
  · rw [Int.compare_eq_gt.2 (by omega), decide_eq_false (by omega)]; rfl
theorem ord_lt {a b : Nat} (ha : a < 2048) (hb : b < 2048) : (fOrd (FloatKind.f64.nearest (a : Int)) (FloatKind.f64.nearest (b : Int)) == some .lt) = decide (a < b) := by
  rw [ord_small ha hb]
  rcases Nat.lt_trichotomy a b with h | h | h
  · rw [Int.compare_eq_lt.2 (by omega), decide_eq_true h]; rfl
  · rw [Int.compare_eq_eq.2 (by omega), decide_eq_false (by omega)]; rfl
  · rw [Int.compare_eq_gt.2 (by omega), decide_eq_false (by omega)]; rfl
/-- a trigger whose length is small -/
def SmT (t : Tg) : Prop := 0 ≤ t.1 ∧ t.1 ≤ 6 ∧ 0 ≤ lenT t ∧ lenT t ≤ 255
def rkN (t : Tg) : Nat := (t.1 * 256 + 255 - lenT t).toNat
theorem rkI_nat {t : Tg} (h : SmT t) : rkI t = (rkN t : Int) ∧ rkN t < 2048 := by
  obtain ⟨h1, h2, h3, h4⟩ := h
  unfold rkI rkN
  rw [if_pos ⟨h1, h2⟩, wrap_i64 (x := t.1 * 256) (by omega) (by omega), wrap_i64 (x := t.1 * 256 + 256) (by omega) (by omega), wrap_i64 (x := t.1 * 256 + 256 - 1) (by omega) (by omega), wrap_i64 (by omega) (by omega)]
  omega
/-- does a rank stand ahead of another one? -/
def rkLt (z z' : Nat) (t t' : Tg) : Bool := if z = z' then decide (rkN t < rkN t') else decide (z < z')
theorem bt_small {z z' : Nat} {t t' : Tg} (hz : z < 2048) (hz' : z' < 2048) (h : SmT t) (h' : SmT t') :
    btF (FloatKind.f64.nearest (z : Int)) (FloatKind.f64.nearest (rkI t)) (FloatKind.f64.nearest (z' : Int)) (FloatKind.f64.nearest (rkI t')) = rkLt z z' t t' := by
  obtain ⟨e1, l1⟩ := rkI_nat h
  obtain ⟨e2, l2⟩ := rkI_nat h'
  unfold btF rkLt
  have hne : (fOrd (FloatKind.f64.nearest (z : Int)) (FloatKind.f64.nearest (z' : Int)) != some .eq) = !decide (z = z') := by
    show (!(_ == _)) = _
    rw [ord_eq hz hz']
  rw [hne, e1, e2, ord_lt hz hz', ord_lt l1 l2]
  by_cases e : z = z'
  · rw [decide_eq_true e, if_pos e]; rfl
  · rw [decide_eq_false e, if_neg e]; rfl
theorem eq_small {z z' : Nat} {t t' : Tg} (hz : z < 2048) (hz' : z' < 2048) (h : SmT t) (h' : SmT t') :
    (Op.floatEq .f64 (FloatKind.f64.nearest (z : Int)) (FloatKind.f64.nearest (z' : Int)) && Op.floatEq .f64 (FloatKind.f64.nearest (rkI t)) (FloatKind.f64.nearest (rkI t'))) = decide (z = z' ∧ rkN t = rkN t') := by
  obtain ⟨e1, l1⟩ := rkI_nat h
  obtain ⟨e2, l2⟩ := rkI_nat h'
  have f1 : Op.floatEq .f64 (FloatKind.f64.nearest (z : Int)) (FloatKind.f64.nearest (z' : Int)) = decide (z = z') := ord_eq hz hz'
  have f2 : Op.floatEq .f64 (FloatKind.f64.nearest ((rkN t : Nat) : Int)) (FloatKind.f64.nearest ((rkN t' : Nat) : Int)) = decide (rkN t = rkN t') := ord_eq l1 l2
  rw [e1, e2, f1, f2]
  by_cases g1 : z = z' <;> by_cases g2 : rkN t = rkN t' <;> simp [g1, g2]
end Go.Proofs.YtmlojdbahlfiaaaGreatDoor
/- The policy that wins among all records. -/
namespace Go.Proofs.YtmlojdbahlfiaaaGreatDoor
open Go.Px
set_option linter.unusedVariables false
set_option linter.unusedSimpArgs false

/-! ### triggers that are read are small -/
theorem cnt_le (n : ByteArray) : cntN n ≤ 254 := by
  unfold cntN
  cases h : labN n with
  | none => exact Nat.zero_le _
  | some ls => exact (labs_ok h).1
theorem sm_name {k : Int} {n : ByteArray} (h0 : 0 ≤ k) (h1 : k ≤ 6) : SmT (k, n, ⟨#[]⟩, 0) := by
  have := cnt_le n
  have hl : lenT (k, n, ⟨#[]⟩, 0) = (cntN n : Int) := by
    unfold lenT
    dsimp only
    rw [show ((⟨#[]⟩ : ByteArray).toList == (⟨#[]⟩ : ByteArray).toList) = true from keq.2 rfl]
    rfl
  refine ⟨h0, h1, ?_, ?_⟩ <;> rw [hl] <;> omega
theorem named_sm {ls : List ByteArray} {ex wild : Int} {t : Tg} (he : 0 ≤ ex ∧ ex ≤ 6) (hw : 0 ≤ wild ∧ wild ≤ 6) (h : namedF ls ex wild = some t) : SmT t := by
  unfold namedF at h
  split at h
  · cases h
  · split at h
    · obtain ⟨n, _, rfl⟩ := Option.map_eq_some_iff.1 h; exact sm_name hw.1 hw.2
    · obtain ⟨n, _, rfl⟩ := Option.map_eq_some_iff.1 h; exact sm_name he.1 he.2
theorem kind_sm {w : ByteArray} {k : Int} (h : kindOf w = some k) : 0 ≤ k ∧ k ≤ 6 := by
  unfold kindOf at h
  split at h
  · injection h with h; omega
  · split at h
    · injection h with h; omega
    · split at h
      · injection h with h; omega
      · split at h
        · injection h with h; omega
        · cases h
theorem adr_may {ls : List ByteArray} {p : ByteArray × Int} (h : adrF ls = some p) : mayP p.1 p.2 := by
  unfold adrF at h
  split at h
  · rename_i hx
    injection h with h
    subst h
    exact hx.choose_spec.1
  · cases h
theorem sm_adr {k : Int} {a : ByteArray} {n : Int} (h0 : 0 ≤ k) (h1 : k ≤ 6) (h : mayP a n) : SmT (k, ⟨#[]⟩, a, n) := by
  obtain ⟨⟨h2, h3, h4⟩, _⟩ := h
  have hne : (a.toList == (⟨#[]⟩ : ByteArray).toList) = false := by
    rw [← Bool.not_eq_true, keq]
    rintro rfl
    rcases h2 with h2 | h2 <;> cases h2
  have hl : lenT (k, ⟨#[]⟩, a, n) = n := by
    unfold lenT
    dsimp only
    rw [hne]; rfl
  refine ⟨h0, h1, ?_, ?_⟩ <;> rw [hl]
  · exact h3
  · rcases h2 with h2 | h2 <;> rw [h2] at h4 <;> omega
theorem dec_sm {n : ByteArray} {t : Tg} (h : decF n = some t) : SmT t := by
  unfold decF at h
  split at h
  · cases h
  · unfold decL at h
    split at h
    · cases h
    · split at h
      · exact named_sm (by decide) (by decide) h
      · rename_i k hk
        have hk' := kind_sm hk
        split at h
        · exact named_sm (by decide) (by decide) h
        · obtain ⟨p, hp, rfl⟩ := Option.map_eq_some_iff.1 h
          exact sm_adr hk'.1 hk'.2 (adr_may hp)
theorem node_sm {p : Pl} {n : ByteArray} {t : Tg} {a : Av} (h : nodeF p n = some (t, a)) : SmT t := by
  unfold nodeF at h
  split at h
  · split at h
    · rename_i hd _
      injection h with h
      injection h with h1 _
      subst h1
      exact dec_sm hd
    · cases h
  · cases h
/-! ### the best one so far -/
abbrev Vd := Int × Tg × Av
def vd0 : Vd := (0, t0, av0)
abbrev encVd (v : Vd) (p : Option Addr) (n c : Nat) : List Value := [.int .i64 v.1, .int .i64 v.2.1.1, .string v.2.1.2.1, .string v.2.1.2.2.1, .int .i64 v.2.1.2.2.2, .int .i64 v.2.2.k, .string v.2.2.t, .bool v.2.2.w, .slice p n c]
abbrev vVd (v : Vd) (p : Option Addr) (n c : Nat) : Value := .agg #[.int .i64 v.1, .int .i64 v.2.1.1, .string v.2.1.2.1, .string v.2.1.2.2.1, .int .i64 v.2.1.2.2.2, .int .i64 v.2.2.k, .string v.2.2.t, .bool v.2.2.w, .slice p n c]
abbrev vdB (b : Nat) (v : Vd) (p : Option Addr) (n c : Nat) : Nat × Obj := (b, .cells (encVd v p n c).toArray 80 (0, 0))
/-- a trigger in a zone goes ahead of another one -/
def ahead (z z' : Nat) (t t' : Tg) : Bool := if z = z' ∧ rkN t = rkN t' then lessT t t' else rkLt z z' t t'
abbrev Bs := Option (Nat × Tg × Av)
def bsV (s : Bs) : Vd := match s with | none => vd0 | some (z, t, a) => ((z : Int), t, a)
structure BsOK (s : Bs) : Prop where
  ok : ∀ z t a, s = some (z, t, a) → z < 2048 ∧ SmT t
def bet (k : Nat) (t : Tg) (s : Bs) : Bool := match s with | none => true | some (z, t', _) => ahead k z t t'
theorem better_runs {k : Nat} {t : Tg} {s : Bs} {p : Option Addr} {n c : Nat} (hk : k < 2048) (ht : SmT t) (hs : BsOK s) (I : IMem) (S : SH) : Runs Tryz.prog 65 #[.int .i64 (k : Int), vT t, vVd (bsV s) p n c, .bool s.isSome] I S fun v _ T => v = .bool (bet k t s) ∧ T = S := by
  refine Runs.drop (search_better_fn _ _ _ _ _ _ _ _ _ _ _ _ _ _ _ _ _ _ _ _ ?_)
  unfold search_better
  intro b5 b6
  have hB : Sub (vdB b6 (bsV s) p n c :: (tgB b5 t :: S)) (vdB b6 (bsV s) p n c :: tgB b5 t :: S) := Sub.refl _
  have hA : Sub (tgB b5 t :: S) (vdB b6 (bsV s) p n c :: tgB b5 t :: S) := (Sub.refl _).skip _
  cases s with
  | none => exact bcase_t rfl ⟨S, hA.drop, rfl, rfl⟩
  | some x =>
    obtain ⟨z, t', a⟩ := x
    obtain ⟨hz, ht'⟩ := hs.ok z t' a rfl
    refine bcase_f rfl ?_
    obtain ⟨c0, c1, c2, _, c3⟩ := tgX (I := I) hA
    have d : ∀ {J : IMem} (j : Nat) (v : Value), (encVd (bsV (some (z, t', a))) p n c).toArray[j]? = some v → Cell J (vdB b6 (bsV (some (z, t', a))) p n c :: tgB b5 t :: S) ⟨b6, j, none⟩ v := fun j v h => Cell.at0 h
    unfold search_better_b1
    refine ⟨_, c0, _, c1, _, c2, _, c3, _, d 0 _ rfl, _, Cell.at_ (add_mk _ _ _) (d 1 _ rfl), _, Cell.at_ (add2 _ _ _ _) (d 2 _ rfl), _, Cell.at_ (add2 _ _ _ _) (d 3 _ rfl), _, Cell.at_ (add2 _ _ _ _) (d 4 _ rfl), (ROf_runs (k : Int) t _ _).mono ?_⟩
    rintro v J T hle ⟨rfl, rfl⟩
    refine ⟨_, _, rfl, Sub.keep hle (Sub.refl _), (ROf_runs (z : Int) t' _ _).mono ?_⟩
    rintro v J2 T2 hle2 ⟨rfl, rfl⟩
    refine ⟨_, _, rfl, ?_⟩
    unfold search_better_b2
    rw [eq_small hk hz ht ht']
    have hb : bet k t (some (z, t', a)) = ahead k z t t' := rfl
    refine bcase_not (bcase_dec (fun h => ?_) (fun h => ?_))
    · obtain ⟨c0, c1, c2, _, c3⟩ := tgX (I := J2) hA
      refine ⟨_, c0, _, c1, _, c2, _, c3, _, Cell.at_ (add_mk _ _ _) (d 1 _ rfl), _, Cell.at_ (add2 _ _ _ _) (d 2 _ rfl), _, Cell.at_ (add2 _ _ _ _) (d 3 _ rfl), _, Cell.at_ (add2 _ _ _ _) (d 4 _ rfl), (Less_runs t t' _ _).mono ?_⟩
      rintro v J3 T3 hle3 ⟨rfl, rfl⟩
      refine ⟨_, rfl, S, hA.drop, ?_, rfl⟩
      rw [hb, ahead, if_pos h]
    · refine (Better_runs _ _ _ _ _ _).mono ?_
      rintro v J3 T3 hle3 ⟨rfl, rfl⟩
      refine ⟨_, rfl, S, hA.drop, ?_, rfl⟩
      rw [hb, ahead, if_neg h, bt_small hk hz ht ht']
end Go.Proofs.YtmlojdbahlfiaaaGreatDoor
/- search.Of: the walk. -/
namespace Go.Proofs.YtmlojdbahlfiaaaGreatDoor
open Go.Px
set_option linter.unusedVariables false
set_option linter.unusedSimpArgs false

open Classical in
noncomputable def stepR (f : Fa) (k : Nat) (p : Pl) (st : Bs) (r : Rc) : Bs := match nodeF p r.1 with
  | some (t, a) => if a.k ≠ 1 ∧ matchT t f = true ∧ bet k t st = true then some (k, t, a) else st
  | none => st
noncomputable def polF (f : Fa) (k : Nat) (p : Pl) (st : Bs) : Bs := if p.live = true then p.zs.foldl (stepR f k p) st else st
noncomputable def ofF (f : Fa) : List Pl → Nat → Bs → Bs
  | [], _, st => st
  | p :: ps, k, st => ofF f ps (k + 1) (polF f k p st)
def VdR (st : Bs) (S : SH) (v : Value) (T : SH) : Prop := ∃ q n c own, v = .tuple #[vVd (bsV st) q n c, .bool st.isSome] ∧ OwnZ (.slice q n c) (bsV st).2.2.rs own ∧ Sub (own ++ S) T
theorem vdX {I : IMem} {S F : SH} {b : Nat} {v : Vd} {q : Option Addr} {n c : Nat} (hs : Sub (vdB b v q n c :: F) S) : ∀ (j : Nat) (u : Value), (encVd v q n c).toArray[j]? = some u → Cell I S ⟨b, j, none⟩ u := fun j u h => Cell.among hs h
abbrev oH (b3 b4 b6 : Nat) (st : Bs) (f : Fa) (q : Option Addr) (n c : Nat) (F : SH) : SH := vdB b6 (bsV st) q n c :: (vdB b4 vd0 none 0 0 :: (faB b3 f :: F))
/-- the search stands at a best one -/
def OfAt (b3 b4 b6 : Nat) (f : Fa) (st : Bs) (F T : SH) : Prop := ∃ q n c own, OwnZ (.slice q n c) (bsV st).2.2.rs own ∧ BsOK st ∧ Sub (own ++ oH b3 b4 b6 st f q n c F) T
section
variable {b3 b4 b6 b9 : Nat} {f : Fa} {st : Bs} {S T : SH} {I0 J : IMem} {p : Pl} {k : Nat}
theorem of_end (h : OfAt b3 b4 b6 f st S T) : search_Of_b11 (fun v _ T => VdR st S v T) ⟨b4, 0, none⟩ ⟨b6, 0, none⟩ st.isSome J T := by
  obtain ⟨q, n, c, own, ho, hok, hs⟩ := h
  have d := vdX (I := J) hs.right
  unfold search_Of_b11
  refine ⟨_, d 0 _ rfl, _, Cell.at_ (add_mk _ _ _) (d 1 _ rfl), _, Cell.at_ (add_mk _ _ _) (d 2 _ rfl), _, Cell.at_ (add_mk _ _ _) (d 3 _ rfl), _, Cell.at_ (add_mk _ _ _) (d 4 _ rfl), _, Cell.at_ (add_mk _ _ _) (d 5 _ rfl), _, Cell.at_ (add_mk _ _ _) (d 6 _ rfl), _, Cell.at_ (add_mk _ _ _) (d 7 _ rfl), _, _, _, Cell.at_ (add_mk _ _ _) (d 8 _ rfl), ?_⟩
  refine StP.among (e := 80) (L := encVd vd0 none 0 0) (L' := encVd (bsV st) q n c) (F := own ++ (vdB b6 (bsV st) q n c :: (faB b3 f :: S))) (hs.re (by intro a; simp only [vdB, List.append_eq, cnt_cons, cnt_app]; omega)) (Nat.le_of_ble_eq_true rfl) rfl rfl ?_
  intro T1 hT1
  have d := vdX (I := J) hT1
  refine ⟨_, d 0 _ rfl, _, Cell.at_ (add_mk _ _ _) (d 1 _ rfl), _, Cell.at_ (add_mk _ _ _) (d 2 _ rfl), _, Cell.at_ (add_mk _ _ _) (d 3 _ rfl), _, Cell.at_ (add_mk _ _ _) (d 4 _ rfl), _, Cell.at_ (add_mk _ _ _) (d 5 _ rfl), _, Cell.at_ (add_mk _ _ _) (d 6 _ rfl), _, Cell.at_ (add_mk _ _ _) (d 7 _ rfl), _, _, _, Cell.at_ (add_mk _ _ _) (d 8 _ rfl), ?_⟩
  exact ⟨q, n, c, own, rfl, ho, (hT1.drop.re (by intro a; simp only [List.append_eq, cnt_cons, cnt_app, cnt_nil]; omega) : Sub ((own ++ S) ++ [vdB b6 (bsV st) q n c, faB b3 f]) T1).left⟩
/-- one record -/
theorem of_rec {R : RT} {g3 : search_Of_t3} {g7 : search_Of_t7} {a0 : Option Addr} {n0 c0 : Nat} {q0 i0 : Int} {zp : Option Addr} {zc : Nat} {j : Nat} {r : Rc} (g : GL I0) (hle : I0.le J) (hf : FaIn I0 S f) (hp : PlIn I0 S p) (hk : k < 2048) (hj : p.zs[j]? = some r) (hzp : p.zn.1 = zp)
    (h : OfAt b3 b4 b6 f st (plB b9 p :: S) T)
    (hag : ∀ J' T' (st' : Bs), I0.le J' → st' = stepR f k p st r → OfAt b3 b4 b6 f st' (plB b9 p :: S) T' → g7 ⟨b3, 0, none⟩ ⟨b4, 0, none⟩ ⟨b6, 0, none⟩ st'.isSome (k : Int) ⟨b9, 0, none⟩ a0 n0 c0 q0 i0 zp p.zs.length zc (p.zs.length : Int) ((j + 1 : Nat) : Int) J' T') :
    search_Of_b8 g3 g7 R ⟨b3, 0, none⟩ ⟨b4, 0, none⟩ ⟨b6, 0, none⟩ st.isSome (k : Int) ⟨b9, 0, none⟩ a0 n0 c0 q0 i0 zp p.zs.length zc (p.zs.length : Int) (j : Int) J T := by
  obtain ⟨q, n, c, own, ho, hok, hs⟩ := h
  have hjl := lt_get hj
  have hfew := hp.few
  have hS : Sub S T := hs.right.drop.drop.drop.drop
  have hrow : RowIn J T p.zn.1 p.zs.length 4 encR p.zs := (hp.row.le hle).sub hS
  subst hzp
  obtain ⟨a', ha', hc⟩ := hrow.cell hj
  rw [ha']
  obtain ⟨c0', c1, c2, c3⟩ := CellsR hc
  unfold search_Of_b8
  refine ⟨by omega, by omega, _, c0', _, c1, _, c2, _, c3, fun b11 => StP.rec (x := r) ?_⟩
  have hP : Sub (plB b9 p :: S) ((b11, Obj.cells (encR r).toArray 69 (0, 0)) :: T) := hs.right.drop.drop.drop.skip _
  refine ⟨_, Cell.among hP rfl, _, _, _, Cell.at_ (add_mk _ _ _) (Cell.among hP rfl), _, Cell.at_ (add_mk _ _ _) (Cell.among hP rfl), _, Cell.at_ (add_mk _ _ _) (Cell.among hP rfl), _, Cell.at0 rfl, ?_⟩
  refine (Node_runs p r.1 (g.le hle) ((hp.le hle).sub hP.drop)).mono ?_
  rintro v J2 T2 hle2 ⟨q2, n2, c2', own2, rfl, ho2, hs2⟩
  have hleJ := hle.trans hle2
  refine ⟨_, _, _, _, _, _, _, _, _, _, _, rfl, fun b12 b13 => ?_⟩
  generalize hnd : nodeF p r.1 = nd at ho2
  have hbase : Sub (own2 ++ (own ++ oH b3 b4 b6 st f q n c (plB b9 p :: S))) T2 := (((Sub.refl own2).both (hs.skip (b11, Obj.cells (encR r).toArray 69 (0, 0))))).trans hs2
  refine put_tg (x := t0) (t := (nd.getD (t0, av0)).1) (F := acB b13 acZ :: T2) ((Sub.refl (acB b13 acZ :: (tgB b12 t0 :: T2))).re (by intro a; simp only [cnt_cons]; omega) : Sub (tgB b12 t0 :: (acB b13 acZ :: T2)) (acB b13 acZ :: (tgB b12 t0 :: T2))) fun T3 hT3 => put_av (L := acZ) (a := (nd.getD (t0, av0)).2) (p := q2) (n := n2) (c := c2') (F := tgB b12 (nd.getD (t0, av0)).1 :: T2) rfl (hT3.re (by intro a; simp only [cnt_cons]; omega)) fun T4 hT4 => ?_
  have hall : Sub (acB b13 (encAv (nd.getD (t0, av0)).2 q2 n2 c2') :: (tgB b12 (nd.getD (t0, av0)).1 :: (own2 ++ (own ++ oH b3 b4 b6 st f q n c (plB b9 p :: S))))) T4 := (hbase.cons (tgB b12 (nd.getD (t0, av0)).1)).cons (acB b13 (encAv (nd.getD (t0, av0)).2 q2 n2 c2')) |>.trans hT4
  -- nothing changes
  have stay : ∀ (J' : IMem), I0.le J' → stepR f k p st r = st → search_Of_b9 g3 g7 R ⟨b3, 0, none⟩ ⟨b4, 0, none⟩ ⟨b6, 0, none⟩ st.isSome (k : Int) ⟨b9, 0, none⟩ ⟨b12, 0, none⟩ ⟨b13, 0, none⟩ a0 n0 c0 q0 i0 p.zn.1 p.zs.length zc (p.zs.length : Int) (j : Int) false J' T4 := by
    intro J' hl' hst
    unfold search_Of_b9 search_Of_b10
    refine bcase_f rfl ?_
    rw [wrap_i64 (by omega) (by omega)]
    exact hag J' T4 st hl' hst.symm ⟨q, n, c, own, ho, hok, hall.drop.drop.right⟩
  rw [ha'] at stay hag
  cases nd with
  | none => exact bcase_f rfl (stay J2 hleJ (by rw [stepR, hnd]))
  | some x =>
    obtain ⟨t, a⟩ := x
    have hA : Sub (acB b13 (encAv a q2 n2 c2') :: (tgB b12 t :: (own2 ++ (own ++ oH b3 b4 b6 st f q n c (plB b9 p :: S))))) T4 := hall
    have hT : Sub (tgB b12 t :: (own2 ++ (own ++ oH b3 b4 b6 st f q n c (plB b9 p :: S)))) T4 := hA.drop
    have hV : Sub (oH b3 b4 b6 st f q n c (plB b9 p :: S)) T4 := hT.drop.right.right
    have hstep : stepR f k p st r = if a.k ≠ 1 ∧ matchT t f = true ∧ bet k t st = true then some (k, t, a) else st := by rw [stepR, hnd]
    obtain ⟨a0', a1, a2, a3⟩ := avX (I := J2) hA
    obtain ⟨e0, e1, e2, _, e3⟩ := tgX (I := J2) hT
    obtain ⟨f0, f1, f2, f3, f4⟩ := bA f (I := J2) hV.drop.drop
    refine bcase_t rfl ⟨_, a0', bcase_bne (fun hk1 => ?_) (fun hk1 => stay J2 hleJ (by rw [hstep, if_neg (fun h => h.1 hk1)]))⟩
    refine ⟨_, e0, _, e1, _, e2, _, e3, _, f0, _, f1, _, _, _, f2, _, _, _, f3, _, _, _, f4, (Matches_runs t f ((hf.le hleJ).sub hV.drop.drop.drop.drop)).mono ?_⟩
    rintro v J3 T5 hle3 ⟨rfl, rfl⟩
    have hleJ3 := hleJ.trans hle3
    refine ⟨_, rfl, bcase_of (fun hm => ?_) (fun hm => stay J3 hleJ3 (by rw [hstep, if_neg (fun h => by rw [hm] at h; cases h.2.1)]))⟩
    have d := vdX (I := J3) hV
    obtain ⟨e0, e1, e2, _, e3⟩ := tgX (I := J3) hT
    refine ⟨_, e0, _, e1, _, e2, _, e3, _, d 0 _ rfl, _, Cell.at_ (add_mk _ _ _) (d 1 _ rfl), _, Cell.at_ (add_mk _ _ _) (d 2 _ rfl), _, Cell.at_ (add_mk _ _ _) (d 3 _ rfl), _, Cell.at_ (add_mk _ _ _) (d 4 _ rfl), _, Cell.at_ (add_mk _ _ _) (d 5 _ rfl), _, Cell.at_ (add_mk _ _ _) (d 6 _ rfl), _, Cell.at_ (add_mk _ _ _) (d 7 _ rfl), _, _, _, Cell.at_ (add_mk _ _ _) (d 8 _ rfl), ?_⟩
    have hsm : SmT t := node_sm hnd
    refine (better_runs (p := q) (n := n) (c := c) hk hsm hok _ _).mono ?_
    rintro v J4 T6 hle4 ⟨rfl, rfl⟩
    have hleJ4 := hleJ3.trans hle4
    cases hb : bet k t st with
    | false => exact ⟨_, rfl, stay J4 hleJ4 (by rw [hstep, if_neg (fun h => by rw [hb] at h; cases h.2.2)])⟩
    | true =>
      refine ⟨_, rfl, ?_⟩
      have hnew : stepR f k p st r = some (k, t, a) := by rw [hstep, if_pos ⟨hk1, hm, hb⟩]
      obtain ⟨a0', a1, a2, a3⟩ := avX (I := J4) hA
      obtain ⟨e0, e1, e2, _, e3⟩ := tgX (I := J4) hT
      unfold search_Of_b9 search_Of_b10
      refine bcase_t rfl ⟨_, e0, _, e1, _, e2, _, e3, _, a0', _, a1, _, a2, _, _, _, a3, ?_⟩
      refine StP.among (e := 80) (L := encVd (bsV st) q n c) (L' := encVd ((k : Int), t, a) q2 n2 c2') (F := own2 ++ (vdB b4 vd0 none 0 0 :: (faB b3 f :: (plB b9 p :: S)))) ((hT.drop.re (by intro a; simp only [List.append_eq, cnt_cons, cnt_app]; omega) : Sub ((vdB b6 (bsV st) q n c :: (own2 ++ (vdB b4 vd0 none 0 0 :: (faB b3 f :: (plB b9 p :: S))))) ++ own) T6).left) (Nat.le_of_ble_eq_true rfl) rfl rfl ?_
      intro T7 hT7
      rw [wrap_i64 (by omega) (by omega)]
      exact hag J4 T7 (some (k, t, a)) hleJ4 hnew.symm ⟨q2, n2, c2', own2, ho2, ⟨fun z t' a' e => by injection e with e; injection e with e1 e; injection e with e2 e; subst e1; subst e2; exact ⟨hk, hsm⟩⟩, hT7.re (by intro a; simp only [vdB, List.append_eq, cnt_cons, cnt_app, bsV]; omega)⟩
end
end Go.Proofs.YtmlojdbahlfiaaaGreatDoor
/- search.Of. -/
namespace Go.Proofs.YtmlojdbahlfiaaaGreatDoor
open Go.Px
set_option linter.unusedVariables false
set_option linter.unusedSimpArgs false

theorem drop_get {α : Type} {xs : List α} {k : Nat} {x : α} (h : xs[k]? = some x) : xs.drop k = x :: xs.drop (k + 1) := by
  have hl := lt_get h
  rw [List.drop_eq_getElem_cons hl]
  rw [List.getElem?_eq_getElem hl] at h
  injection h with h
  rw [h]
section
variable {b3 b4 b6 b9 : Nat} {f : Fa} {st : Bs} {S T : SH} {I0 J : IMem} {p : Pl} {k : Nat}
/-- a zone's records -/
theorem of_zone {R : RT} {g3 : search_Of_t3} {a0 : Option Addr} {n0 c0 : Nat} {q0 i0 : Int} (g : GL I0) (hle : I0.le J) (hf : FaIn I0 S f) (hp : PlIn I0 S p) (hk : k < 2048) (h : OfAt b3 b4 b6 f st (plB b9 p :: S) T)
    (hag : ∀ J' T' (st' : Bs), I0.le J' → st' = p.zs.foldl (stepR f k p) st → OfAt b3 b4 b6 f st' (plB b9 p :: S) T' → search_Of_b5 g3 R ⟨b3, 0, none⟩ ⟨b4, 0, none⟩ ⟨b6, 0, none⟩ st'.isSome a0 n0 c0 q0 i0 J' T') :
    search_Of_b6 g3 R ⟨b3, 0, none⟩ ⟨b4, 0, none⟩ ⟨b6, 0, none⟩ st.isSome (k : Int) ⟨b9, 0, none⟩ a0 n0 c0 q0 i0 p.zn.1 p.zs.length p.zn.2.2 (p.zs.length : Int) 0 J T := by
  have hfew := hp.few
  unfold search_Of_b6
  refine ⟨fun m x3 x4 x6 hs k' x9 y yn yc q i z zn zc zq j J T => x3 = ⟨b3, 0, none⟩ ∧ x4 = ⟨b4, 0, none⟩ ∧ x6 = ⟨b6, 0, none⟩ ∧ k' = (k : Int) ∧ x9 = ⟨b9, 0, none⟩ ∧ y = a0 ∧ yn = n0 ∧ yc = c0 ∧ q = q0 ∧ i = i0 ∧ z = p.zn.1 ∧ zn = p.zs.length ∧ zq = (p.zs.length : Int) ∧ I0.le J ∧ ∃ (l : Nat) (st' : Bs), j = (l : Int) ∧ l ≤ p.zs.length ∧ m = p.zs.length - l ∧ hs = st'.isSome ∧ (p.zs.drop l).foldl (stepR f k p) st' = p.zs.foldl (stepR f k p) st ∧ OfAt b3 b4 b6 f st' (plB b9 p :: S) T,
    p.zs.length, ⟨rfl, rfl, rfl, rfl, rfl, rfl, rfl, rfl, rfl, rfl, rfl, rfl, rfl, hle, 0, st, rfl, Nat.zero_le _, rfl, rfl, rfl, h⟩, ?_⟩
  rintro m x3 x4 x6 hs k' x9 y yn yc q i z zn zc zq j J T - ⟨rfl, rfl, rfl, rfl, rfl, rfl, rfl, rfl, rfl, rfl, rfl, rfl, rfl, hle, l, st', rfl, hl, rfl, rfl, hfold, hat⟩
  unfold search_Of_l7
  refine bcase_dec (fun hg => ?_) (fun hg => ?_)
  · obtain ⟨r, hr⟩ := get_lt (xs := p.zs) (k := l) (by omega)
    refine of_rec g hle hf hp hk hr rfl hat ?_
    rintro J' T' st2 hle' rfl hat'
    refine ⟨p.zs.length - (l + 1), by omega, rfl, rfl, rfl, rfl, rfl, rfl, rfl, rfl, rfl, rfl, rfl, rfl, rfl, hle', l + 1, _, rfl, by omega, rfl, rfl, ?_, hat'⟩
    rw [← hfold, drop_get hr, List.foldl_cons]
  · have hke : l = p.zs.length := by omega
    subst hke
    rw [List.drop_length] at hfold
    exact hag J T st' hle hfold hat
end
theorem Of_runs {ps : List Pl} {a : Option Addr} {c : Nat} {f : Fa} {I : IMem} {S : SH} (g : GL I) (hf : FaIn I S f) (hx : RowIn I S a ps.length 4 encPl ps) (hps : ∀ p ∈ ps, PlIn I S p) (hl : ps.length ≤ 2000) :
    Runs Tryz.prog 30 #[.slice a ps.length c, vFa f] I S fun v _ T => VdR (ofF f ps 0 none) S v T := by
  refine search_Of_fn _ _ _ _ _ _ _ _ _ _ _ _ _ _ _ _ _ ?_
  unfold search_Of search_Of_b1 search_Of_b2
  intro b3 b4 b6
  have start : OfAt b3 b4 b6 f none S (vdB b6 vd0 none 0 0 :: (vdB b4 vd0 none 0 0 :: (faB b3 f :: S))) := ⟨none, 0, 0, [], OwnR.nil, ⟨fun z t a e => by cases e⟩, Sub.refl _⟩
  refine ⟨fun m x3 x4 x6 hs y yn yc q i J T => x3 = ⟨b3, 0, none⟩ ∧ x4 = ⟨b4, 0, none⟩ ∧ x6 = ⟨b6, 0, none⟩ ∧ y = a ∧ yn = ps.length ∧ q = (ps.length : Int) ∧ I.le J ∧ ∃ (k : Nat) (st : Bs), i = (k : Int) ∧ k ≤ ps.length ∧ m = ps.length - k ∧ hs = st.isSome ∧ ofF f (ps.drop k) k st = ofF f ps 0 none ∧ OfAt b3 b4 b6 f st S T,
    ps.length, ⟨rfl, rfl, rfl, rfl, rfl, rfl, IMem.le.refl I, 0, none, rfl, Nat.zero_le _, rfl, rfl, rfl, start⟩, ?_⟩
  rintro m x3 x4 x6 hs y yn yc q i J T - ⟨rfl, rfl, rfl, rfl, rfl, rfl, hle, k, st, rfl, hk, rfl, rfl, hof, hat⟩
  unfold search_Of_l3
  refine bcase_dec (fun hg => ?_) (fun hg => ?_)
  · obtain ⟨p, hp⟩ := get_lt (xs := ps) (k := k) (by omega)
    have hpm := hps p (List.mem_of_getElem? hp)
    obtain ⟨q0, n0, c0, own, ho, hok, hs⟩ := hat
    have hS : Sub S T := hs.right.drop.drop.drop
    obtain ⟨a', rfl, hc⟩ := ((hx.le hle).sub hS).cell hp
    have e0 : Cell J T (a'.add (k * 4)) (.string p.o) := by simpa [Addr.add] using hc 0 _ rfl
    rw [drop_get hp] at hof
    unfold search_Of_b4
    refine ⟨by omega, by omega, _, e0, _, _, _, hc 1 _ rfl, _, hc 2 _ rfl, _, hc 3 _ rfl, fun b9 => StP.all (vs := encPl p) rfl rfl ⟨_, Cell.at0 rfl, bcase_not (bcase_of (fun hl => ?_) (fun hl => ?_))⟩⟩
    · have hlen : p.zn.2.1 = p.zs.length := hpm.len
      refine ⟨_, p.zs.length, _, hlen ▸ (Cell.at0 (o := 1) rfl : Cell J (plB b9 p :: T) ⟨b9, 1, none⟩ (.slice p.zn.1 p.zn.2.1 p.zn.2.2)), ?_⟩
      refine of_zone (p := p) (st := st) (S := S) g hle hf hpm (by omega) ⟨q0, n0, c0, own, ho, hok, (hs.cons (plB b9 p)).re (by intro a; simp only [List.append_eq, cnt_cons, cnt_app]; omega)⟩ ?_
      rintro J' T' st' hle' hst' ⟨q1, n1, c1, own1, ho1, hok1, hs1⟩
      unfold search_Of_b5
      refine ⟨ps.length - (k + 1), by omega, rfl, rfl, rfl, rfl, rfl, rfl, hle', k + 1, st', by rw [wrap_i64 (by omega) (by omega)]; rfl, by omega, rfl, rfl, ?_, q1, n1, c1, own1, ho1, hok1, (hs1.re (by intro a; simp only [List.append_eq, cnt_cons, cnt_app, cnt_nil]; omega) : Sub ((own1 ++ oH b3 b4 b6 st' f q1 n1 c1 S) ++ [plB b9 p]) T').left⟩
      rw [← hof]
      show _ = ofF f (ps.drop (k + 1)) (k + 1) (polF f k p st)
      rw [polF, if_pos hl, hst']
    · unfold search_Of_b5
      refine ⟨ps.length - (k + 1), by omega, rfl, rfl, rfl, rfl, rfl, rfl, hle, k + 1, st, by rw [wrap_i64 (by omega) (by omega)]; rfl, by omega, rfl, rfl, ?_, q0, n0, c0, own, ho, hok, hs.skip _⟩
      rw [← hof]
      show _ = ofF f (ps.drop (k + 1)) (k + 1) (polF f k p st)
      rw [polF, if_neg (by rw [hl]; exact Bool.false_ne_true)]
  · have hke : k = ps.length := by omega
    subst hke
    rw [List.drop_length] at hof
    have hof : st = ofF f ps 0 none := hof
    rw [← hof]
    exact of_end hat
end Go.Proofs.YtmlojdbahlfiaaaGreatDoor
set_option linter.unusedVariables false
set_option maxRecDepth 8000
set_option maxHeartbeats 2000000
namespace Go.Proofs.YtmlojdbahlfiaaaGreatDoor
open Go.Px
def bolterlaw19_awake_b1 (R : RT) (x0 : Bool) (I : IMem) (S : SH) : Prop :=
  R (.bool x0) I S
def bolterlaw19_awake (R : RT) (I : IMem) (S : SH) : Prop :=
  ∀ b10 : Nat,
  Runs Tryz.prog 40 #[.slice (some ⟨b10, 0, none⟩) 1 1] I ((b10, .cells #[.string ⟨#[114, 112, 122]⟩] 9 (0, 0)) :: S) fun v I1 S1 => ∃ u0 u1, v = .tuple #[.string u0, .bool u1] ∧
  ∀ b15 : Nat,
  Runs Tryz.prog 40 #[.slice (some ⟨b15, 0, none⟩) 2 2] I1 ((b15, .cells #[.string ⟨#[101, 120]⟩, .string ⟨#[114, 112, 122]⟩] 9 (0, 0)) :: S1) fun v' I1' S1' => ∃ u2 u3, v' = .tuple #[.string u2, .bool u3] ∧
  ∀ b20 : Nat,
  Runs Tryz.prog 40 #[.slice (some ⟨b20, 0, none⟩) 1 1] I1' ((b20, .cells #[.string ⟨#[101, 120]⟩] 9 (0, 0)) :: S1') fun v'' I1'' S1'' => ∃ u4 u5, v'' = .tuple #[.string u4, .bool u5] ∧
  ∀ b28 : Nat,
  ∀ b30 : Nat,
  Runs Tryz.prog 30 #[.slice (some ⟨b30, 0, none⟩) 1 1, .agg #[.string ⟨#[]⟩, .string u4, .slice none 0 0, .slice none 0 0, .slice none 0 0]] I1'' ((b30, .cells #[.string u0, .slice (some ⟨b28, 0, none⟩) 1 1, .bool true, .int .i64 0] 61 (0, 0)) :: ((b28, .cells #[.string u2, .int .u16 5, .int .u32 0, .string ⟨#[]⟩] 69 (0, 0)) :: S1'')) fun v_r3 I1_r3 S1_r3 => ∃ u6 u7 u8 u9 ua ub uc ud ue uen uec uf, v_r3 = .tuple #[.agg #[.int .i64 u6, .int .i64 u7, .string u8, .string u9, .int .i64 ua, .int .i64 ub, .string uc, .bool ud, .slice ue uen uec], .bool uf] ∧
  ∀ b7 : Nat,
  StP ((b7, .cells #[.int .i64 0, .int .i64 0, .string ⟨#[]⟩, .string ⟨#[]⟩, .int .i64 0, .int .i64 0, .string ⟨#[]⟩, .bool false, .slice none 0 0] 80 (0, 0)) :: S1_r3) ⟨b7, 0, none⟩ [.int .i64 u6, .int .i64 u7, .string u8, .string u9, .int .i64 ua, .int .i64 ub, .string uc, .bool ud, .slice ue uen uec] fun S1_r4 =>
  bcase uf
    (∃ ug, Cell I1_r3 S1_r4 ⟨b7, 5, none⟩ (.int .i64 ug) ∧
    bcase (ug == (4 : Int))
      (∃ uh, Cell I1_r3 S1_r4 ⟨b7, 1, none⟩ (.int .i64 uh) ∧
      ∃ ui, Cell I1_r3 S1_r4 ⟨b7, 2, none⟩ (.string ui) ∧
      ∃ uj, Cell I1_r3 S1_r4 ⟨b7, 3, none⟩ (.string uj) ∧
      ∃ uk, Cell I1_r3 S1_r4 ⟨b7, 4, none⟩ (.int .i64 uk) ∧
      bolterlaw19_awake_b1 R (((uh : Int) == (1 : Int)) && (((ui : ByteArray) == (u4 : ByteArray)) && ((((uj : ByteArray) == (⟨#[]⟩ : ByteArray)) && (((uk : Int) == (0 : Int)) && true)) && true))) I1_r3 S1_r4)
      (bolterlaw19_awake_b1 R false I1_r3 S1_r4))
    (bolterlaw19_awake_b1 R false I1_r3 S1_r4)
theorem bolterlaw19_awake_fn (R : RT) (I : IMem) (S : SH) (h : bolterlaw19_awake R I S) : Runs Tryz.prog 11 #[] I S R := by
  refine Runs.of_wp (c := cd Tryz.f11) Tryz.func11 (by kernel_rfl) (by kernel_rfl) ?_
  refine cO 6 [kB 0] (bolterlaw19_awake_b1 R) h fun _ _ _ _ _ h => ?_
  exact pS h
abbrev bolterlaw19_Query_Facts_t4 := Addr → Addr → Addr → OA → Nat → Nat → Int → Int → PR
def bolterlaw19_Query_Facts_b7 (g4 : bolterlaw19_Query_Facts_t4) (R : RT) (x1 x2 x3 : Addr) (x21 : OA) (x21n x21c : Nat) (x22 x23 : Int) (I : IMem) (S : SH) : Prop :=
  g4 x1 x2 x3 x21 x21n x21c x22 (IntKind.wrap .i64 (x23 + (1 : Int))) I S
def bolterlaw19_Query_Facts_b6 (g4 : bolterlaw19_Query_Facts_t4) (R : RT) (x1 x2 x3 : Addr) (x4 : Int) (x5 : OA) (x5n x5c : Nat) (x21 : OA) (x21n x21c : Nat) (x22 x23 : Int) (x29 : Bool) (I : IMem) (S : SH) : Prop :=
  bcase x29
    (∃ u0 u0n u0c, Cell I S (x3.add 2) (.slice u0 u0n u0c) ∧
    ∃ u1, Cell I S x1 (.bool u1) ∧
    Runs Tryz.prog 35 #[.bool (u1 == ((x4.tmod (2 : Int)) == (0 : Int))), .slice x5 x5n x5c] I S fun v I1 S1 => ∃ u2, v = .string u2 ∧
    Keep I S I1 S1 ∧
    ∀ b40 : Nat,
    Keep I S I1 ((b40, .cells #[.string u2] 9 (0, 0)) :: S1) ∧
    AppG 9 1 16 [.string ⟨#[]⟩] (some (.slice 9)) I1 ((b40, .cells #[.string u2] 9 (0, 0)) :: S1) (.slice u0 u0n u0c) (.slice (some ⟨b40, 0, none⟩) 1 1) fun u3 u3n u3c S1' =>
    StP S1' (x3.add 2) [.slice u3 u3n u3c] fun S1'' =>
    bolterlaw19_Query_Facts_b7 g4 R x1 x2 x3 x21 x21n x21c x22 x23 I1 S1'')
    (bolterlaw19_Query_Facts_b7 g4 R x1 x2 x3 x21 x21n x21c x22 x23 I S)
def bolterlaw19_Query_Facts_b5 (g4 : bolterlaw19_Query_Facts_t4) (R : RT) (x1 x2 x3 : Addr) (x21 : OA) (x21n x21c : Nat) (x22 x23 : Int) (I : IMem) (S : SH) : Prop :=
  ptrP x21 fun u0 => (0 : Int) ≤ x23 ∧ x23 < (x21n : Int) ∧
  ∃ u1 u1n u1c, Cell I S (u0.add (x23.toNat * 1)) (.slice u1 u1n u1c) ∧
  bolterlaw19_Query_Facts_b6 g4 R x1 x2 x3 x23 u1 u1n u1c x21 x21n x21c x22 x23 (decide (x23 < (4 : Int))) I S
abbrev bolterlaw19_Query_Facts_t10 := Addr → Addr → Addr → OA → Nat → Nat → Int → Int → PR
def bolterlaw19_Query_Facts_b13 (g10 : bolterlaw19_Query_Facts_t10) (R : RT) (x1 x2 x3 : Addr) (x45 : OA) (x45n x45c : Nat) (x46 x47 : Int) (I : IMem) (S : SH) : Prop :=
  g10 x1 x2 x3 x45 x45n x45c x46 (IntKind.wrap .i64 (x47 + (1 : Int))) I S
def bolterlaw19_Query_Facts_b12 (g10 : bolterlaw19_Query_Facts_t10) (R : RT) (x1 x2 x3 : Addr) (x7 : OA) (x7n x7c : Nat) (x45 : OA) (x45n x45c : Nat) (x46 x47 : Int) (x53 : Bool) (I : IMem) (S : SH) : Prop :=
  bcase x53
    (∃ u0 u0n u0c, Cell I S (x3.add 3) (.slice u0 u0n u0c) ∧
    Runs Tryz.prog 12 #[.int .u8 1, .slice x7 x7n x7c, .bool false, .int .u8 0] I S fun v I1 S1 => ∃ u1 u2 u3 u4, v = .agg #[.int .i64 u1, .string u2, .string u3, .int .i64 u4] ∧
    Keep I S I1 S1 ∧
    ∀ b59 : Nat,
    Keep I S I1 ((b59, .cells #[.string u2] 29 (0, 0)) :: S1) ∧
    AppG 29 1 16 [.string ⟨#[]⟩] (some (.slice 29)) I1 ((b59, .cells #[.string u2] 29 (0, 0)) :: S1) (.slice u0 u0n u0c) (.slice (some ⟨b59, 0, none⟩) 1 1) fun u5 u5n u5c S1' =>
    StP S1' (x3.add 3) [.slice u5 u5n u5c] fun S1'' =>
    bolterlaw19_Query_Facts_b13 g10 R x1 x2 x3 x45 x45n x45c x46 x47 I1 S1'')
    (bolterlaw19_Query_Facts_b13 g10 R x1 x2 x3 x45 x45n x45c x46 x47 I S)
def bolterlaw19_Query_Facts_b11 (g10 : bolterlaw19_Query_Facts_t10) (R : RT) (x1 x2 x3 : Addr) (x45 : OA) (x45n x45c : Nat) (x46 x47 : Int) (I : IMem) (S : SH) : Prop :=
  ptrP x45 fun u0 => (0 : Int) ≤ x47 ∧ x47 < (x45n : Int) ∧
  ∃ u1 u1n u1c, Cell I S (u0.add (x47.toNat * 1)) (.slice u1 u1n u1c) ∧
  bolterlaw19_Query_Facts_b12 g10 R x1 x2 x3 u1 u1n u1c x45 x45n x45c x46 x47 (decide (x47 < (4 : Int))) I S
abbrev bolterlaw19_Query_Facts_t16 := Addr → Addr → Addr → OA → Nat → Nat → Int → Int → PR
def bolterlaw19_Query_Facts_b19 (g16 : bolterlaw19_Query_Facts_t16) (R : RT) (x1 x2 x3 : Addr) (x64 : OA) (x64n x64c : Nat) (x65 x66 : Int) (I : IMem) (S : SH) : Prop :=
  g16 x1 x2 x3 x64 x64n x64c x65 (IntKind.wrap .i64 (x66 + (1 : Int))) I S
def bolterlaw19_Query_Facts_b18 (g16 : bolterlaw19_Query_Facts_t16) (R : RT) (x1 x2 x3 : Addr) (x9 : OA) (x9n x9c : Nat) (x64 : OA) (x64n x64c : Nat) (x65 x66 : Int) (x72 : Bool) (I : IMem) (S : SH) : Prop :=
  bcase x72
    (∃ u0 u0n u0c, Cell I S (x3.add 4) (.slice u0 u0n u0c) ∧
    ∃ u1, Cell I S x1 (.bool u1) ∧
    Runs Tryz.prog 35 #[.bool u1, .slice x9 x9n x9c] I S fun v I1 S1 => ∃ u2, v = .string u2 ∧
    Keep I S I1 S1 ∧
    ∀ b79 : Nat,
    Keep I S I1 ((b79, .cells #[.string u2] 9 (0, 0)) :: S1) ∧
    AppG 9 1 16 [.string ⟨#[]⟩] (some (.slice 9)) I1 ((b79, .cells #[.string u2] 9 (0, 0)) :: S1) (.slice u0 u0n u0c) (.slice (some ⟨b79, 0, none⟩) 1 1) fun u3 u3n u3c S1' =>
    StP S1' (x3.add 4) [.slice u3 u3n u3c] fun S1'' =>
    bolterlaw19_Query_Facts_b19 g16 R x1 x2 x3 x64 x64n x64c x65 x66 I1 S1'')
    (bolterlaw19_Query_Facts_b19 g16 R x1 x2 x3 x64 x64n x64c x65 x66 I S)
def bolterlaw19_Query_Facts_b17 (g16 : bolterlaw19_Query_Facts_t16) (R : RT) (x1 x2 x3 : Addr) (x64 : OA) (x64n x64c : Nat) (x65 x66 : Int) (I : IMem) (S : SH) : Prop :=
  ptrP x64 fun u0 => (0 : Int) ≤ x66 ∧ x66 < (x64n : Int) ∧
  ∃ u1 u1n u1c, Cell I S (u0.add (x66.toNat * 1)) (.slice u1 u1n u1c) ∧
  bolterlaw19_Query_Facts_b18 g16 R x1 x2 x3 u1 u1n u1c x64 x64n x64c x65 x66 (decide (x66 < (4 : Int))) I S
def bolterlaw19_Query_Facts_b20 (R : RT) (x2 x3 : Addr) (I : IMem) (S : SH) : Prop :=
  ∃ u0, Cell I S x3 (.string u0) ∧
  ∃ u1, Cell I S (x3.add 1) (.string u1) ∧
  ∃ u2 u2n u2c, Cell I S (x3.add 2) (.slice u2 u2n u2c) ∧
  ∃ u3 u3n u3c, Cell I S (x3.add 3) (.slice u3 u3n u3c) ∧
  ∃ u4 u4n u4c, Cell I S (x3.add 4) (.slice u4 u4n u4c) ∧
  StP S x2 [.string u0, .string u1, .slice u2 u2n u2c, .slice u3 u3n u3c, .slice u4 u4n u4c] fun S1 =>
  ∃ u5, Cell I S1 x2 (.string u5) ∧
  ∃ u6, Cell I S1 (x2.add 1) (.string u6) ∧
  ∃ u7 u7n u7c, Cell I S1 (x2.add 2) (.slice u7 u7n u7c) ∧
  ∃ u8 u8n u8c, Cell I S1 (x2.add 3) (.slice u8 u8n u8c) ∧
  ∃ u9 u9n u9c, Cell I S1 (x2.add 4) (.slice u9 u9n u9c) ∧
  R (.agg #[.string u5, .string u6, .slice u7 u7n u7c, .slice u8 u8n u8c, .slice u9 u9n u9c]) I S1
def bolterlaw19_Query_Facts_l16 (g16 : bolterlaw19_Query_Facts_t16) (R : RT) (x1 x2 x3 : Addr) (x64 : OA) (x64n x64c : Nat) (x65 x66 : Int) (I : IMem) (S : SH) : Prop :=
  bcase (decide (x66 < x65))
    (bolterlaw19_Query_Facts_b17 g16 R x1 x2 x3 x64 x64n x64c x65 x66 I S)
    (bolterlaw19_Query_Facts_b20 R x2 x3 I S)
def bolterlaw19_Query_Facts_b15 (R : RT) (x1 x2 x3 : Addr) (x64 : OA) (x64n x64c : Nat) (x65 x66 : Int) (I : IMem) (S : SH) : Prop :=
  ∃ (Inv : Nat → bolterlaw19_Query_Facts_t16) (m : Nat), Inv m x1 x2 x3 x64 x64n x64c x65 x66 I S ∧
    ∀ (m : Nat) (x1 x2 x3 : Addr) (x64 : OA) (x64n x64c : Nat) (x65 x66 : Int) (J : IMem) (T : SH), I.le J → Inv m x1 x2 x3 x64 x64n x64c x65 x66 J T →
      bolterlaw19_Query_Facts_l16 (fun x1 x2 x3 x64 x64n x64c x65 x66 I S => ∃ m', m' < m ∧ Inv m' x1 x2 x3 x64 x64n x64c x65 x66 I S) R x1 x2 x3 x64 x64n x64c x65 x66 J T
def bolterlaw19_Query_Facts_b14 (R : RT) (x1 x2 x3 : Addr) (I : IMem) (S : SH) : Prop :=
  ∃ u0 u0n u0c, Cell I S (x1.add 5) (.slice u0 u0n u0c) ∧
  bolterlaw19_Query_Facts_b15 R x1 x2 x3 u0 u0n u0c (u0n : Int) 0 I S
def bolterlaw19_Query_Facts_l10 (g10 : bolterlaw19_Query_Facts_t10) (R : RT) (x1 x2 x3 : Addr) (x45 : OA) (x45n x45c : Nat) (x46 x47 : Int) (I : IMem) (S : SH) : Prop :=
  bcase (decide (x47 < x46))
    (bolterlaw19_Query_Facts_b11 g10 R x1 x2 x3 x45 x45n x45c x46 x47 I S)
    (bolterlaw19_Query_Facts_b14 R x1 x2 x3 I S)
def bolterlaw19_Query_Facts_b9 (R : RT) (x1 x2 x3 : Addr) (x45 : OA) (x45n x45c : Nat) (x46 x47 : Int) (I : IMem) (S : SH) : Prop :=
  ∃ (Inv : Nat → bolterlaw19_Query_Facts_t10) (m : Nat), Inv m x1 x2 x3 x45 x45n x45c x46 x47 I S ∧
    ∀ (m : Nat) (x1 x2 x3 : Addr) (x45 : OA) (x45n x45c : Nat) (x46 x47 : Int) (J : IMem) (T : SH), I.le J → Inv m x1 x2 x3 x45 x45n x45c x46 x47 J T →
      bolterlaw19_Query_Facts_l10 (fun x1 x2 x3 x45 x45n x45c x46 x47 I S => ∃ m', m' < m ∧ Inv m' x1 x2 x3 x45 x45n x45c x46 x47 I S) R x1 x2 x3 x45 x45n x45c x46 x47 J T
def bolterlaw19_Query_Facts_b8 (R : RT) (x1 x2 x3 : Addr) (I : IMem) (S : SH) : Prop :=
  ∃ u0 u0n u0c, Cell I S (x1.add 4) (.slice u0 u0n u0c) ∧
  bolterlaw19_Query_Facts_b9 R x1 x2 x3 u0 u0n u0c (u0n : Int) 0 I S
def bolterlaw19_Query_Facts_l4 (g4 : bolterlaw19_Query_Facts_t4) (R : RT) (x1 x2 x3 : Addr) (x21 : OA) (x21n x21c : Nat) (x22 x23 : Int) (I : IMem) (S : SH) : Prop :=
  bcase (decide (x23 < x22))
    (bolterlaw19_Query_Facts_b5 g4 R x1 x2 x3 x21 x21n x21c x22 x23 I S)
    (bolterlaw19_Query_Facts_b8 R x1 x2 x3 I S)
def bolterlaw19_Query_Facts_b3 (R : RT) (x1 x2 x3 : Addr) (x21 : OA) (x21n x21c : Nat) (x22 x23 : Int) (I : IMem) (S : SH) : Prop :=
  ∃ (Inv : Nat → bolterlaw19_Query_Facts_t4) (m : Nat), Inv m x1 x2 x3 x21 x21n x21c x22 x23 I S ∧
    ∀ (m : Nat) (x1 x2 x3 : Addr) (x21 : OA) (x21n x21c : Nat) (x22 x23 : Int) (J : IMem) (T : SH), I.le J → Inv m x1 x2 x3 x21 x21n x21c x22 x23 J T →
      bolterlaw19_Query_Facts_l4 (fun x1 x2 x3 x21 x21n x21c x22 x23 I S => ∃ m', m' < m ∧ Inv m' x1 x2 x3 x21 x21n x21c x22 x23 I S) R x1 x2 x3 x21 x21n x21c x22 x23 J T
def bolterlaw19_Query_Facts_b2 (R : RT) (x1 x2 x3 : Addr) (I : IMem) (S : SH) : Prop :=
  ∃ u0 u0n u0c, Cell I S (x1.add 3) (.slice u0 u0n u0c) ∧
  bolterlaw19_Query_Facts_b3 R x1 x2 x3 u0 u0n u0c (u0n : Int) 0 I S
def bolterlaw19_Query_Facts_b1 (R : RT) (x1 x2 : Addr) (I : IMem) (S : SH) : Prop :=
  ∃ u0, Cell I S x1 (.bool u0) ∧
  ∃ u1 u1n u1c, Cell I S (x1.add 1) (.slice u1 u1n u1c) ∧
  ∃ u2 u2n u2c, Cell I S (x1.add 2) (.slice u2 u2n u2c) ∧
  (Runs Tryz.prog 35 #[.bool u0, .slice u1 u1n u1c] I S fun v I1 S1 => ∃ u3, v = .string u3 ∧
  Keep I S I1 S1 ∧
  (Runs Tryz.prog 12 #[.int .u8 1, .slice u2 u2n u2c, .bool false, .int .u8 0] I1 S1 fun v' I1' S1' => ∃ u4 u5 u6 u7, v' = .agg #[.int .i64 u4, .string u5, .string u6, .int .i64 u7] ∧
  ∀ b3 : Nat,
  Keep I S I1' ((b3, .cells #[.string ⟨#[]⟩, .string ⟨#[]⟩, .slice none 0 0, .slice none 0 0, .slice none 0 0] 37 (0, 0)) :: S1') ∧
  StP ((b3, .cells #[.string ⟨#[]⟩, .string ⟨#[]⟩, .slice none 0 0, .slice none 0 0, .slice none 0 0] 37 (0, 0)) :: S1') ⟨b3, 0, none⟩ [.string u3, .string u5, .slice none 0 0, .slice none 0 0, .slice none 0 0] fun S1'' =>
  bolterlaw19_Query_Facts_b2 R x1 x2 ⟨b3, 0, none⟩ I1' S1'') ∧
  (∀ b3' : Nat,
  Keep I S I1 ((b3', .cells #[.string ⟨#[]⟩, .string ⟨#[]⟩, .slice none 0 0, .slice none 0 0, .slice none 0 0] 37 (0, 0)) :: S1) ∧
  Runs Tryz.prog 12 #[.int .u8 1, .slice u2 u2n u2c, .bool false, .int .u8 0] I1 ((b3', .cells #[.string ⟨#[]⟩, .string ⟨#[]⟩, .slice none 0 0, .slice none 0 0, .slice none 0 0] 37 (0, 0)) :: S1) fun v'' I1'' S1_r3 => ∃ u8 u9 ua ub, v'' = .agg #[.int .i64 u8, .string u9, .string ua, .int .i64 ub] ∧
  StP S1_r3 ⟨b3', 0, none⟩ [.string u3, .string u9, .slice none 0 0, .slice none 0 0, .slice none 0 0] fun S1_r4 =>
  bolterlaw19_Query_Facts_b2 R x1 x2 ⟨b3', 0, none⟩ I1'' S1_r4)) ∧
  (∀ b3'' : Nat,
  Keep I S I ((b3'', .cells #[.string ⟨#[]⟩, .string ⟨#[]⟩, .slice none 0 0, .slice none 0 0, .slice none 0 0] 37 (0, 0)) :: S) ∧
  Runs Tryz.prog 35 #[.bool u0, .slice u1 u1n u1c] I ((b3'', .cells #[.string ⟨#[]⟩, .string ⟨#[]⟩, .slice none 0 0, .slice none 0 0, .slice none 0 0] 37 (0, 0)) :: S) fun v_r3 I1_r3 S1_r5 => ∃ uc, v_r3 = .string uc ∧
  Keep I S I1_r3 S1_r5 ∧
  Runs Tryz.prog 12 #[.int .u8 1, .slice u2 u2n u2c, .bool false, .int .u8 0] I1_r3 S1_r5 fun v_r4 I1_r4 S1_r6 => ∃ ud ue uf ug, v_r4 = .agg #[.int .i64 ud, .string ue, .string uf, .int .i64 ug] ∧
  StP S1_r6 ⟨b3'', 0, none⟩ [.string uc, .string ue, .slice none 0 0, .slice none 0 0, .slice none 0 0] fun S1_r7 =>
  bolterlaw19_Query_Facts_b2 R x1 x2 ⟨b3'', 0, none⟩ I1_r4 S1_r7)
def bolterlaw19_Query_Facts (R : RT) (u0 : Bool) (u1 : OA) (u1n u1c : Nat) (u2 : OA) (u2n u2c : Nat) (u3 : OA) (u3n u3c : Nat) (u4 : OA) (u4n u4c : Nat) (u5 : OA) (u5n u5c : Nat) (I : IMem) (S : SH) : Prop :=
  ∀ b1 : Nat,
  ∀ b2 : Nat,
  bolterlaw19_Query_Facts_b1 R ⟨b1, 0, none⟩ ⟨b2, 0, none⟩ I ((b2, .cells #[.string ⟨#[]⟩, .string ⟨#[]⟩, .slice none 0 0, .slice none 0 0, .slice none 0 0] 37 (0, 0)) :: ((b1, .cells #[.bool u0, .slice u1 u1n u1c, .slice u2 u2n u2c, .slice u3 u3n u3c, .slice u4 u4n u4c, .slice u5 u5n u5c] 25 (0, 0)) :: S))
theorem bolterlaw19_Query_Facts_fn (R : RT) (u0 : Bool) (u1 : OA) (u1n u1c : Nat) (u2 : OA) (u2n u2c : Nat) (u3 : OA) (u3n u3c : Nat) (u4 : OA) (u4n u4c : Nat) (u5 : OA) (u5n u5c : Nat) (I : IMem) (S : SH) (h : bolterlaw19_Query_Facts R u0 u1 u1n u1c u2 u2n u2c u3 u3n u3c u4 u4n u4c u5 u5n u5c I S) : Runs Tryz.prog 14 #[.agg #[.bool u0, .slice u1 u1n u1c, .slice u2 u2n u2c, .slice u3 u3n u3c, .slice u4 u4n u4c, .slice u5 u5n u5c]] I S R := by
  refine Runs.of_wp (c := cd Tryz.f14) Tryz.func14 (by kernel_rfl) (by kernel_rfl) ?_
  refine cO 1 [kA 1, kA 2] (bolterlaw19_Query_Facts_b1 R) h fun _ _ _ _ _ _ h => ?_
  refine sO [kA 1, kA 2, kA 3] (bolterlaw19_Query_Facts_b2 R) (dR (tk 4 0 (.take 5 (.take 6 (.fork 4 (.fork 7 (.take 8 (.take 9 (.step 10 (.step 11 .done)))) 10 (.step 7 (.take 8 (.take 9 (.step 11 .done))))) 10 (.step 4 (.step 7 (.take 8 (.take 9 (.step 11 .done))))))))) [4, 7, 10, 11] h) fun _ _ _ _ _ _ _ h => ?_
  refine sO [kA 1, kA 2, kA 3] (bolterlaw19_Query_Facts_b8 R) ?_ fun _ _ _ _ _ _ _ h => ?_
  · refine cO 1 [kA 1, kA 2, kA 3, kL 21, kI .i64 22, kI .i64 23] (bolterlaw19_Query_Facts_b3 R) h fun _ _ _ _ _ _ _ _ _ _ _ _ h => ?_
    refine bK ?_
    obtain ⟨Vg4, mg4, h, hr⟩ := h
    refine lO [kA 1, kA 2, kA 3, kL 21, kI .i64 22, kI .i64 23] Vg4 mg4 h fun mg4 _ I S hle x1 x2 x3 x21 x21n x21c x22 x23 h => ?_
    have h := hr mg4 x1 x2 x3 x21 x21n x21c x22 x23 I S hle h
    refine cO 2 [kA 1, kA 2, kA 3, kL 21, kI .i64 22, kI .i64 23] (bolterlaw19_Query_Facts_b5 (fun x1 x2 x3 x21 x21n x21c x22 x23 I S => ∃ m', m' < mg4 ∧ Vg4 m' x1 x2 x3 x21 x21n x21c x22 x23 I S) R) h fun _ _ _ _ _ _ _ _ _ _ _ _ h => ?_
    refine sO [kA 1, kA 2, kA 3, kL 21, kI .i64 22, kI .i64 23] (bolterlaw19_Query_Facts_b7 (fun x1 x2 x3 x21 x21n x21c x22 x23 I S => ∃ m', m' < mg4 ∧ Vg4 m' x1 x2 x3 x21 x21n x21c x22 x23 I S) R) ?_ fun _ _ _ _ _ _ _ _ _ _ _ _ h => ?_
    · refine bK ?_
      refine cO 2 [kA 1, kA 2, kA 3, kI .i64 4, kL 5, kL 21, kI .i64 22, kI .i64 23, kB 29] (bolterlaw19_Query_Facts_b6 (fun x1 x2 x3 x21 x21n x21c x22 x23 I S => ∃ m', m' < mg4 ∧ Vg4 m' x1 x2 x3 x21 x21n x21c x22 x23 I S) R) h fun _ _ _ _ _ _ _ _ _ _ _ _ _ _ _ _ _ h => ?_
      exact cD h (fun h => dR (tk 9 0 (.step 9 (.step 10 (.step 11 (.take 12 (.step 13 .done)))))) [9, 10, 11, 13] h) fun h => pS h
    exact pS h
  refine sO [kA 1, kA 2, kA 3] (bolterlaw19_Query_Facts_b14 R) ?_ fun _ _ _ _ _ _ _ h => ?_
  · refine cO 1 [kA 1, kA 2, kA 3, kL 45, kI .i64 46, kI .i64 47] (bolterlaw19_Query_Facts_b9 R) h fun _ _ _ _ _ _ _ _ _ _ _ _ h => ?_
    refine bK ?_
    obtain ⟨Vg10, mg10, h, hr⟩ := h
    refine lO [kA 1, kA 2, kA 3, kL 45, kI .i64 46, kI .i64 47] Vg10 mg10 h fun mg10 _ I S hle x1 x2 x3 x45 x45n x45c x46 x47 h => ?_
    have h := hr mg10 x1 x2 x3 x45 x45n x45c x46 x47 I S hle h
    refine cO 2 [kA 1, kA 2, kA 3, kL 45, kI .i64 46, kI .i64 47] (bolterlaw19_Query_Facts_b11 (fun x1 x2 x3 x45 x45n x45c x46 x47 I S => ∃ m', m' < mg10 ∧ Vg10 m' x1 x2 x3 x45 x45n x45c x46 x47 I S) R) h fun _ _ _ _ _ _ _ _ _ _ _ _ h => ?_
    refine sO [kA 1, kA 2, kA 3, kL 45, kI .i64 46, kI .i64 47] (bolterlaw19_Query_Facts_b13 (fun x1 x2 x3 x45 x45n x45c x46 x47 I S => ∃ m', m' < mg10 ∧ Vg10 m' x1 x2 x3 x45 x45n x45c x46 x47 I S) R) ?_ fun _ _ _ _ _ _ _ _ _ _ _ _ h => ?_
    · refine bK ?_
      refine cO 2 [kA 1, kA 2, kA 3, kL 7, kL 45, kI .i64 46, kI .i64 47, kB 53] (bolterlaw19_Query_Facts_b12 (fun x1 x2 x3 x45 x45n x45c x46 x47 I S => ∃ m', m' < mg10 ∧ Vg10 m' x1 x2 x3 x45 x45n x45c x46 x47 I S) R) h fun _ _ _ _ _ _ _ _ _ _ _ _ _ _ _ _ h => ?_
      exact cD h (fun h => dR (tk 3 0 (.step 3 (.take 4 (.step 5 (.step 6 (.take 7 (.step 8 .done))))))) [3, 5, 6, 8] h) fun h => pS h
    exact pS h
  refine sO [kA 2, kA 3] (bolterlaw19_Query_Facts_b20 R) ?_ fun _ _ _ _ _ _ h => ?_
  · refine cO 1 [kA 1, kA 2, kA 3, kL 64, kI .i64 65, kI .i64 66] (bolterlaw19_Query_Facts_b15 R) h fun _ _ _ _ _ _ _ _ _ _ _ _ h => ?_
    refine bK ?_
    obtain ⟨Vg16, mg16, h, hr⟩ := h
    refine lO [kA 1, kA 2, kA 3, kL 64, kI .i64 65, kI .i64 66] Vg16 mg16 h fun mg16 _ I S hle x1 x2 x3 x64 x64n x64c x65 x66 h => ?_
    have h := hr mg16 x1 x2 x3 x64 x64n x64c x65 x66 I S hle h
    refine cO 2 [kA 1, kA 2, kA 3, kL 64, kI .i64 65, kI .i64 66] (bolterlaw19_Query_Facts_b17 (fun x1 x2 x3 x64 x64n x64c x65 x66 I S => ∃ m', m' < mg16 ∧ Vg16 m' x1 x2 x3 x64 x64n x64c x65 x66 I S) R) h fun _ _ _ _ _ _ _ _ _ _ _ _ h => ?_
    refine sO [kA 1, kA 2, kA 3, kL 64, kI .i64 65, kI .i64 66] (bolterlaw19_Query_Facts_b19 (fun x1 x2 x3 x64 x64n x64c x65 x66 I S => ∃ m', m' < mg16 ∧ Vg16 m' x1 x2 x3 x64 x64n x64c x65 x66 I S) R) ?_ fun _ _ _ _ _ _ _ _ _ _ _ _ h => ?_
    · refine bK ?_
      refine cO 2 [kA 1, kA 2, kA 3, kL 9, kL 64, kI .i64 65, kI .i64 66, kB 72] (bolterlaw19_Query_Facts_b18 (fun x1 x2 x3 x64 x64n x64c x65 x66 I S => ∃ m', m' < mg16 ∧ Vg16 m' x1 x2 x3 x64 x64n x64c x65 x66 I S) R) h fun _ _ _ _ _ _ _ _ _ _ _ _ _ _ _ _ h => ?_
      exact cD h (fun h => dR (tk 5 0 (.step 5 (.step 6 (.step 7 (.take 8 (.step 9 .done)))))) [5, 6, 7, 9] h) fun h => pS h
    exact pS h
  exact pS h
def bolterlaw19_matches_b5 (R : RT) (x4 : Bool) (I : IMem) (S : SH) : Prop :=
  R (.bool x4) I S
abbrev bolterlaw19_matches_t8 := Addr → OA → Nat → Nat → Int → Int → PR
def bolterlaw19_matches_b11 (g8 : bolterlaw19_matches_t8) (R : RT) (x2 : Addr) (x37 : OA) (x37n x37c : Nat) (x38 x39 : Int) (I : IMem) (S : SH) : Prop :=
  g8 x2 x37 x37n x37c x38 (IntKind.wrap .i64 (x39 + (1 : Int))) I S
def bolterlaw19_matches_b10 (g8 : bolterlaw19_matches_t8) (R : RT) (x2 : Addr) (x37 : OA) (x37n x37c : Nat) (x38 x39 : Int) (x68 : Bool) (I : IMem) (S : SH) : Prop :=
  bcase x68
    (R (.bool true) I S)
    (bolterlaw19_matches_b11 g8 R x2 x37 x37n x37c x38 x39 I S)
def bolterlaw19_matches_b9 (g8 : bolterlaw19_matches_t8) (R : RT) (x2 : Addr) (x37 : OA) (x37n x37c : Nat) (x38 x39 : Int) (I : IMem) (S : SH) : Prop :=
  ptrP x37 fun u0 => (0 : Int) ≤ x39 ∧ x39 < (x37n : Int) ∧
  ∃ u1, Cell I S (u0.add (x39.toNat * 1)) (.string u1) ∧
  ∃ u2, Cell I S x2 (.int .i64 u2) ∧
  bcase (u2 == (4 : Int))
    (∃ u3, Cell I S (x2.add 1) (.string u3) ∧
    bcase (u1.toList == u3.toList)
      (bolterlaw19_matches_b10 g8 R x2 x37 x37n x37c x38 x39 true I S)
      (∃ u4, Cell I S x2 (.int .i64 u4) ∧
      bcase (u4 == (5 : Int))
        (∃ u5, Cell I S (x2.add 1) (.string u5) ∧
        bcase (!(u1.toList == u5.toList))
          (∃ u6, Cell I S (x2.add 1) (.string u6) ∧
          Runs Tryz.prog 45 #[.string u1, .string u6] I S fun v I1 S1 => ∃ u7, v = .bool u7 ∧
          bolterlaw19_matches_b10 g8 R x2 x37 x37n x37c x38 x39 u7 I1 S1)
          (bolterlaw19_matches_b10 g8 R x2 x37 x37n x37c x38 x39 false I S))
        (bolterlaw19_matches_b10 g8 R x2 x37 x37n x37c x38 x39 false I S)))
    (∃ u8, Cell I S x2 (.int .i64 u8) ∧
    bcase (u8 == (5 : Int))
      (∃ u9, Cell I S (x2.add 1) (.string u9) ∧
      bcase (!(u1.toList == u9.toList))
        (∃ ua, Cell I S (x2.add 1) (.string ua) ∧
        Runs Tryz.prog 45 #[.string u1, .string ua] I S fun v' I1' S1' => ∃ ub, v' = .bool ub ∧
        bolterlaw19_matches_b10 g8 R x2 x37 x37n x37c x38 x39 ub I1' S1')
        (bolterlaw19_matches_b10 g8 R x2 x37 x37n x37c x38 x39 false I S))
      (bolterlaw19_matches_b10 g8 R x2 x37 x37n x37c x38 x39 false I S))
def bolterlaw19_matches_b12 (R : RT) (I : IMem) (S : SH) : Prop :=
  R (.bool false) I S
def bolterlaw19_matches_l8 (g8 : bolterlaw19_matches_t8) (R : RT) (x2 : Addr) (x37 : OA) (x37n x37c : Nat) (x38 x39 : Int) (I : IMem) (S : SH) : Prop :=
  bcase (decide (x39 < x38))
    (bolterlaw19_matches_b9 g8 R x2 x37 x37n x37c x38 x39 I S)
    (bolterlaw19_matches_b12 R I S)
def bolterlaw19_matches_b7 (R : RT) (x2 : Addr) (x37 : OA) (x37n x37c : Nat) (x38 x39 : Int) (I : IMem) (S : SH) : Prop :=
  ∃ (Inv : Nat → bolterlaw19_matches_t8) (m : Nat), Inv m x2 x37 x37n x37c x38 x39 I S ∧
    ∀ (m : Nat) (x2 : Addr) (x37 : OA) (x37n x37c : Nat) (x38 x39 : Int) (J : IMem) (T : SH), I.le J → Inv m x2 x37 x37n x37c x38 x39 J T →
      bolterlaw19_matches_l8 (fun x2 x37 x37n x37c x38 x39 I S => ∃ m', m' < m ∧ Inv m' x2 x37 x37n x37c x38 x39 I S) R x2 x37 x37n x37c x38 x39 J T
abbrev bolterlaw19_matches_t15 := Addr → OA → Nat → Nat → Int → Int → PR
def bolterlaw19_matches_b16 (R : RT) (I : IMem) (S : SH) : Prop :=
  R (.bool false) I S
def bolterlaw19_matches_l15 (g15 : bolterlaw19_matches_t15) (R : RT) (x2 : Addr) (x83 : OA) (x83n x83c : Nat) (x84 x85 : Int) (I : IMem) (S : SH) : Prop :=
  bcase (decide (x85 < x84))
    (ptrP x83 fun u0 => (0 : Int) ≤ x85 ∧ x85 < (x83n : Int) ∧
    ∃ u1, Cell I S (u0.add (x85.toNat * 1)) (.string u1) ∧
    ∃ u2, Cell I S (x2.add 2) (.string u2) ∧
    ∃ u3, Cell I S ((x2.add 2).add 1) (.int .i64 u3) ∧
    Runs Tryz.prog 43 #[.agg #[.string u2, .int .i64 u3], .string u1] I S fun v I1 S1 => ∃ u4, v = .bool u4 ∧
    bcase u4
      (R (.bool true) I1 S1)
      (g15 x2 x83 x83n x83c x84 (IntKind.wrap .i64 (x85 + (1 : Int))) I1 S1))
    (bolterlaw19_matches_b16 R I S)
def bolterlaw19_matches_b14 (R : RT) (x2 : Addr) (x83 : OA) (x83n x83c : Nat) (x84 x85 : Int) (I : IMem) (S : SH) : Prop :=
  ∃ (Inv : Nat → bolterlaw19_matches_t15) (m : Nat), Inv m x2 x83 x83n x83c x84 x85 I S ∧
    ∀ (m : Nat) (x2 : Addr) (x83 : OA) (x83n x83c : Nat) (x84 x85 : Int) (J : IMem) (T : SH), I.le J → Inv m x2 x83 x83n x83c x84 x85 J T →
      bolterlaw19_matches_l15 (fun x2 x83 x83n x83c x84 x85 I S => ∃ m', m' < m ∧ Inv m' x2 x83 x83n x83c x84 x85 I S) R x2 x83 x83n x83c x84 x85 J T
def bolterlaw19_matches_b13 (R : RT) (x2 : Addr) (x5 : OA) (x5n x5c : Nat) (I : IMem) (S : SH) : Prop :=
  bolterlaw19_matches_b14 R x2 x5 x5n x5c (x5n : Int) 0 I S
def bolterlaw19_matches_b6 (R : RT) (x2 x3 : Addr) (x5 : OA) (x5n x5c : Nat) (x11 : Int) (x33 : Bool) (I : IMem) (S : SH) : Prop :=
  bcase x33
    (∃ u0 u0n u0c, Cell I S (x3.add 3) (.slice u0 u0n u0c) ∧
    bolterlaw19_matches_b7 R x2 u0 u0n u0c (u0n : Int) 0 I S)
    (bcase (x11 == (0 : Int))
      (∃ u1, Cell I S x3 (.string u1) ∧
      ∀ b74 : Nat,
      bolterlaw19_matches_b13 R x2 (some ⟨b74, 0, none⟩) 1 1 I ((b74, .cells #[.string u1] 9 (0, 0)) :: S))
      (bcase (x11 == (3 : Int))
        (∃ u2 u2n u2c, Cell I S (x3.add 2) (.slice u2 u2n u2c) ∧
        bolterlaw19_matches_b13 R x2 u2 u2n u2c I S)
        (bcase (x11 == (6 : Int))
          (∃ u3 u3n u3c, Cell I S (x3.add 4) (.slice u3 u3n u3c) ∧
          bolterlaw19_matches_b13 R x2 u3 u3n u3c I S)
          (bolterlaw19_matches_b13 R x2 x5 x5n x5c I S))))
def bolterlaw19_matches_b4 (R : RT) (x2 x3 : Addr) (x5 : OA) (x5n x5c : Nat) (x11 : Int) (x19 : Bool) (I : IMem) (S : SH) : Prop :=
  bcase x19
    (∃ u0, Cell I S (x3.add 1) (.string u0) ∧
    ∃ u1, Cell I S (x2.add 1) (.string u1) ∧
    bcase (!(u0.toList == u1.toList))
      (∃ u2, Cell I S (x3.add 1) (.string u2) ∧
      ∃ u3, Cell I S (x2.add 1) (.string u3) ∧
      Runs Tryz.prog 45 #[.string u2, .string u3] I S fun v I1 S1 => ∃ u4, v = .bool u4 ∧
      bolterlaw19_matches_b5 R u4 I1 S1)
      (bolterlaw19_matches_b5 R false I S))
    (bcase (x11 == (4 : Int))
      (bolterlaw19_matches_b6 R x2 x3 x5 x5n x5c x11 (x11 == (4 : Int)) I S)
      (bolterlaw19_matches_b6 R x2 x3 x5 x5n x5c x11 (x11 == (5 : Int)) I S))
def bolterlaw19_matches_b3 (R : RT) (x2 x3 : Addr) (x5 : OA) (x5n x5c : Nat) (x11 : Int) (x12 : Bool) (I : IMem) (S : SH) : Prop :=
  bcase x12
    (∃ u0, Cell I S (x3.add 1) (.string u0) ∧
    ∃ u1, Cell I S (x2.add 1) (.string u1) ∧
    R (.bool (u0.toList == u1.toList)) I S)
    (bolterlaw19_matches_b4 R x2 x3 x5 x5n x5c x11 (x11 == (2 : Int)) I S)
def bolterlaw19_matches_b2 (R : RT) (x2 x3 : Addr) (x5 : OA) (x5n x5c : Nat) (x11 : Int) (I : IMem) (S : SH) : Prop :=
  bolterlaw19_matches_b3 R x2 x3 x5 x5n x5c x11 (x11 == (1 : Int)) I S
def bolterlaw19_matches_b1 (R : RT) (x2 x3 : Addr) (x5 : OA) (x5n x5c : Nat) (I : IMem) (S : SH) : Prop :=
  ∃ u0, Cell I S x2 (.int .i64 u0) ∧
  bolterlaw19_matches_b2 R x2 x3 x5 x5n x5c u0 I S
def bolterlaw19_matches (R : RT) (u0 : Int) (u1 u2 : ByteArray) (u3 : Int) (u4 u5 : ByteArray) (u6 : OA) (u6n u6c : Nat) (u7 : OA) (u7n u7c : Nat) (u8 : OA) (u8n u8c : Nat) (I : IMem) (S : SH) : Prop :=
  ∀ b2 : Nat,
  ∀ b3 : Nat,
  bolterlaw19_matches_b1 R ⟨b2, 0, none⟩ ⟨b3, 0, none⟩ none 0 0 I ((b3, .cells #[.string u4, .string u5, .slice u6 u6n u6c, .slice u7 u7n u7c, .slice u8 u8n u8c] 37 (0, 0)) :: ((b2, .cells #[.int .i64 u0, .string u1, .string u2, .int .i64 u3] 33 (0, 0)) :: S))
theorem bolterlaw19_matches_fn (R : RT) (u0 : Int) (u1 u2 : ByteArray) (u3 : Int) (u4 u5 : ByteArray) (u6 : OA) (u6n u6c : Nat) (u7 : OA) (u7n u7c : Nat) (u8 : OA) (u8n u8c : Nat) (I : IMem) (S : SH) (h : bolterlaw19_matches R u0 u1 u2 u3 u4 u5 u6 u6n u6c u7 u7n u7c u8 u8n u8c I S) : Runs Tryz.prog 15 #[.agg #[.int .i64 u0, .string u1, .string u2, .int .i64 u3], .agg #[.string u4, .string u5, .slice u6 u6n u6c, .slice u7 u7n u7c, .slice u8 u8n u8c]] I S R := by
  refine Runs.of_wp (c := cd Tryz.f15) Tryz.func15 (by kernel_rfl) (by kernel_rfl) ?_
  refine cO 2 [kA 2, kA 3, kL 5] (bolterlaw19_matches_b1 R) h fun _ _ _ _ _ _ _ _ _ h => ?_
  refine sO [kA 2, kL 5] (bolterlaw19_matches_b13 R) ?_ fun _ _ _ _ _ _ _ _ h => ?_
  · refine cO 1 [kA 2, kA 3, kL 5, kI .i64 11] (bolterlaw19_matches_b2 R) h fun _ _ _ _ _ _ _ _ _ _ h => ?_
    refine bK ?_
    refine cO 1 [kA 2, kA 3, kL 5, kI .i64 11, kB 12] (bolterlaw19_matches_b3 R) h fun _ _ _ _ _ _ _ _ _ _ _ h => ?_
    refine cD h (fun h => pS h) fun h => ?_
    refine cO 1 [kA 2, kA 3, kL 5, kI .i64 11, kB 19] (bolterlaw19_matches_b4 R) h fun _ _ _ _ _ _ _ _ _ _ _ h => ?_
    refine cD h (fun h => ?_) fun h => ?_
    · refine cO 1 [kB 4] (bolterlaw19_matches_b5 R) h fun _ _ _ _ _ h => ?_
      exact pS h
    refine cO 1 [kA 2, kA 3, kL 5, kI .i64 11, kB 33] (bolterlaw19_matches_b6 R) h fun _ _ _ _ _ _ _ _ _ _ _ h => ?_
    refine cD h (fun h => ?_) fun h => pS h
    refine sO [] (bolterlaw19_matches_b12 R) ?_ fun _ _ _ _ h => ?_
    · refine cO 1 [kA 2, kL 37, kI .i64 38, kI .i64 39] (bolterlaw19_matches_b7 R) h fun _ _ _ _ _ _ _ _ _ _ h => ?_
      refine bK ?_
      obtain ⟨Vg8, mg8, h, hr⟩ := h
      refine lO [kA 2, kL 37, kI .i64 38, kI .i64 39] Vg8 mg8 h fun mg8 _ I S hle x2 x37 x37n x37c x38 x39 h => ?_
      have h := hr mg8 x2 x37 x37n x37c x38 x39 I S hle h
      refine cO 2 [kA 2, kL 37, kI .i64 38, kI .i64 39] (bolterlaw19_matches_b9 (fun x2 x37 x37n x37c x38 x39 I S => ∃ m', m' < mg8 ∧ Vg8 m' x2 x37 x37n x37c x38 x39 I S) R) h fun _ _ _ _ _ _ _ _ _ _ h => ?_
      refine sO [kA 2, kL 37, kI .i64 38, kI .i64 39] (bolterlaw19_matches_b11 (fun x2 x37 x37n x37c x38 x39 I S => ∃ m', m' < mg8 ∧ Vg8 m' x2 x37 x37n x37c x38 x39 I S) R) ?_ fun _ _ _ _ _ _ _ _ _ _ h => ?_
      · refine bK ?_
        refine cO 2 [kA 2, kL 37, kI .i64 38, kI .i64 39, kB 68] (bolterlaw19_matches_b10 (fun x2 x37 x37n x37c x38 x39 I S => ∃ m', m' < mg8 ∧ Vg8 m' x2 x37 x37n x37c x38 x39 I S) R) h fun _ _ _ _ _ _ _ _ _ _ _ h => ?_
        exact pS h
      exact pS h
    exact pS h
  refine sO [] (bolterlaw19_matches_b16 R) ?_ fun _ _ _ _ h => ?_
  · refine cO 1 [kA 2, kL 83, kI .i64 84, kI .i64 85] (bolterlaw19_matches_b14 R) h fun _ _ _ _ _ _ _ _ _ _ h => ?_
    refine bK ?_
    obtain ⟨Vg15, mg15, h, hr⟩ := h
    refine lO [kA 2, kL 83, kI .i64 84, kI .i64 85] Vg15 mg15 h fun mg15 _ I S hle x2 x83 x83n x83c x84 x85 h => ?_
    have h := hr mg15 x2 x83 x83n x83c x84 x85 I S hle h
    exact pS h
  exact pS h
end Go.Proofs.YtmlojdbahlfiaaaGreatDoor
