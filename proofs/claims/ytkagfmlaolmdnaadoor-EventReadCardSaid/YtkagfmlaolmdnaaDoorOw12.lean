/- owner.address and owner.Address, of all lists of words. -/
import Derived.Test.YtkagfmlaolmdnaaDoorOw11
namespace Go.Proofs.YtkagfmlaolmdnaaDoor
open Go.Px
set_option linter.unusedVariables false
set_option linter.unusedSimpArgs false
set_option maxRecDepth 8000

theorem addr_rev4 {ad : ByteArray} (h : ad.size = 4) : (addrL ad).reverse = (fourL ad).reverse := by rw [addrL, if_pos h]
theorem addr_rev16 {ad : ByteArray} (h : ad.size = 16) : (addrL ad).reverse = (sixL (wordsB ad)).reverse := by rw [addrL, if_neg (by omega)]
theorem six_b8 {ls us : List ByteArray} {p : Option Addr} {c : Nat} {I : IMem} (g : GL I) {S T0 : SH} (hS : Sub S T0) (hu : RowIn I S p us.length 1 elS us) (hsz : ∀ l ∈ us, l.size ≤ 281474976710656) {F : SH} (hF : Sub F S)
    (hX : adX ls fun ad => ad.size = 16 ∧ us = (wordsB ad).map hexB) :
    owner_address_b8 (fun v _ T => adRes ls F v T) p us.length c none 0 0 I T0 := by
  unfold owner_address_b8 owner_address_b9
  refine bcase_bne (fun h => adRes.no (fun ad h1 h2 => ?_) (hF.trans hS)) (fun h => hexs_runs g hS hu (by omega) hsz hF hX)
  have h3 := congrArg List.length (hX ad h1 h2).2
  rw [List.length_map, (wordsB_ws ad).len] at h3
  omega
theorem address_runs {ls : List ByteArray} {a : Option Addr} {c : Nat} {I : IMem} (g : GL I) {S : SH} (hx : RowIn I S a ls.length 1 elS ls) (hl : ls.length * 16 ≤ 140737488355328) (hsz : ∀ l ∈ ls, l.size ≤ 281474976710656) :
    Runs Tryd.prog 42 #[.slice a ls.length c] I S fun v _ T => adRes ls S v T := by
  refine owner_address_fn _ _ _ _ _ _ ?_
  unfold owner_address
  refine (ClS_runs hx hl).mono ?_
  rintro v J T hle ⟨own, ho, hs⟩
  obtain ⟨p, d, rfl⟩ := ho.slice
  refine ⟨_, _, _, rfl, Runs.use hs (RevO_runs ho (by omega) J S) ?_⟩
  rintro v J1 T1 hle1 ⟨rfl, own1, ho1, rfl⟩
  refine ⟨rfl, ?_⟩
  have hlen : ls.reverse.length = ls.length := List.length_reverse
  have hsz' : ∀ l ∈ ls.reverse, l.size ≤ 281474976710656 := fun l h => hsz l (List.mem_reverse.1 h)
  have g1 := (g.le hle).le hle1
  rw [← hlen] at ho1
  rw [← hlen]
  generalize hrs : ls.reverse = rs at ho1 hsz' hlen
  have hrow : ∀ {K : IMem} {T : SH}, Sub (own1 ++ S) T → RowIn K T p rs.length 1 elS rs := fun hs => (OwnS.row ho1).sub hs.left
  have isix : adX ls (fun ad => ad.size = 16) → adX ls (fun ad => ad.size = 16 ∧ repl rs = (wordsB ad).map hexB) := by
    intro h ad h1 h2
    have h3 := h ad h1 h2
    refine ⟨h3, ?_⟩
    rw [← hrs, h2, addr_rev16 h3, six_repl]
  have six : ∀ (J : IMem) (T : SH), GL J → Sub (own1 ++ S) T → adX ls (fun ad => ad.size = 16) → owner_address_b6 (fun v _ T => adRes ls S v T) p rs.length d none 0 0 J T := by
    intro J T g hs hX
    unfold owner_address_b6
    refine (Index_runs zzB (hrow hs) (by omega)).mono ?_
    rintro v J1 T1 hle1 ⟨rfl, rfl⟩
    have hr0 := isix hX
    rw [idxS]
    have plain : repl rs = rs → owner_address_b8 (fun v _ T => adRes ls S v T) p rs.length d none 0 0 J1 T1 := by
      intro e
      refine six_b8 (S := own1 ++ S) (g.le hle1) hs (hrow (Sub.refl _)) hsz' (Sub.right (Sub.refl _)) ?_
      rw [← e]; exact hr0
    cases hi : rs.findIdx? (fun x => decide (zzB = x)) with
    | none =>
      unfold owner_address_b7
      exact ⟨_, rfl, bcase_f rfl (bcase_f rfl (plain (by rw [repl, hi])))⟩
    | some k =>
      have hi' := hi
      rw [List.findIdx?_eq_some_iff_getElem] at hi
      obtain ⟨hk, hzk, _⟩ := hi
      refine ⟨_, rfl, bcase_t (decide_eq_true (by dsimp only; omega)) ?_⟩
      dsimp only
      unfold owner_address_b7
      refine bcase_dec (fun h7 => ?_) (fun h7 => plain (by rw [repl, hi']; dsimp only; rw [if_neg (by omega)]))
      intro b57
      have hcnt : IntKind.wrap .i64 (9 - (rs.length : Int)) = ((9 - rs.length : Nat) : Int) := by rw [wrap_i64 (by omega) (by omega)]; omega
      rw [hcnt]
      have hz1 : RowIn J1 ((b57, .cells #[.string zB] 9 (0, 0)) :: T1) (some ⟨b57, 0, none⟩) 1 1 elS [zB] :=
        (OwnS.row (I := J1) (OwnS.mk (xs := [zB]) (g := b57) (cap := 1) (rest := []) rfl (by decide))).sub ((Sub.refl _).re (by intro a; simp only [cnt_cons, cnt_app, cnt_nil]; exact Nat.le_add_right _ _))
      refine (Repeat_runs (cnt := 9 - rs.length) (by omega) (by omega) hz1).mono ?_
      rintro v J2 T2 hle2 ⟨h, rfl, rfl⟩
      have hk1 : IntKind.wrap .i64 ((k : Int) + 1) = (k : Int) + 1 := wrap_i64 (by omega) (by omega)
      rw [hk1]
      rcases OwnS.cases ho1 with ⟨_, _, _, hnil, _⟩ | ⟨gb, rest, rfl, _, rfl, hcap, hcm⟩
      · rw [hnil] at hk; simp at hk
      have hsplit : rs = rs.take k ++ zzB :: rs.drop (k + 1) := by
        conv => lhs; rw [← List.take_append_drop k rs, List.drop_eq_getElem_cons hk]
        rw [← of_decide_eq_true hzk]
      have hyl : (rs.take k).length = k := by rw [List.length_take]; omega
      have hrep := Replace_runs (ys := rs.take k) (vs := List.replicate (9 - rs.length) zB) (ws := rs.drop (k + 1)) (z := zzB) (g := gb) (h := h) (c := d) (d := 9 - rs.length) (rest := rest)
        (by simp; omega) (by rw [← hsplit]; exact hcap) hcm (by rw [hyl]; simp; omega) J2 S
      rw [← hsplit, hyl, List.length_replicate] at hrep
      refine ⟨_, _, _, rfl, Runs.use ?_ hrep ?_⟩
      · have hst : Sub ([(gb, .cells (strL rs ++ rest).toArray 9 (0, 0))] ++ S) T1 := hs
        exact ((hst.skip (b57, .cells #[.string zB] 9 (0, 0))).cons (h, .cells (strL (List.replicate (9 - rs.length) zB)).toArray 9 (0, 0))).re (by intro a; simp only [cnt_cons, cnt_app, cnt_nil]; omega)
      · rintro v J3 T3 hle3 ⟨own3, ho3, hs3⟩
        obtain ⟨p3, c3, rfl⟩ := ho3.slice
        refine ⟨_, _, _, rfl, ?_⟩
        have e : repl rs = rs.take k ++ List.replicate (9 - rs.length) zB ++ rs.drop (k + 1) := by
          rw [repl, hi']; dsimp only; rw [if_pos (by omega)]
        rw [← e] at ho3 ⊢
        refine six_b8 (S := own3 ++ S) (((g.le hle1).le hle2).le hle3) hs3 ((OwnS.row ho3).sub (Sub.left (Sub.refl _))) ?_ (Sub.right (Sub.refl _)) hr0
        intro l hl
        rw [e] at hl
        rcases List.mem_append.1 hl with hl | hl
        · rcases List.mem_append.1 hl with hl | hl
          · exact hsz' l (List.mem_of_mem_take hl)
          · rw [(List.mem_replicate.1 hl).2]; decide
        · exact hsz' l (List.mem_of_mem_drop hl)
  unfold owner_address_b1
  refine bcase_beq (fun h4 => ?_) (fun h4 => ?_)
  · refine (Contains_runs zzB (hrow (Sub.refl _)) (by omega)).mono ?_
    rintro v J2 T2 hle2 ⟨rfl, rfl⟩
    refine ⟨_, rfl, ?_⟩
    unfold owner_address_b2
    refine bcase_not (bcase_of (fun hz => ?_) (fun hz => ?_))
    · refine six _ _ (g1.le hle2) (Sub.refl _) (fun ad h1 h2 => ?_)
      rcases h1 with h1 | h1
      · rw [← hrs, h2, addr_rev4 h1, four_has] at hz; cases hz
      · exact h1
    · refine decs_runs (S := own1 ++ S) (g1.le hle2) (Sub.refl _) (hrow (Sub.refl _)) (by omega) hsz' (Sub.right (Sub.refl _)) (fun ad h1 h2 => ?_)
      rcases h1 with h1 | h1
      · refine ⟨h1, fun k hk => ?_⟩
        rw [← hrs, h2, addr_rev4 h1]; exact fourR_at ad hk
      · have h5 := six_has ad
        rw [← addr_rev16 h1, ← h2, hrs] at h5
        rw [h5 (by omega)] at hz; cases hz
  · unfold owner_address_b2
    refine bcase_f rfl (six _ _ g1 (Sub.refl _) (fun ad h1 h2 => ?_))
    rcases h1 with h1 | h1
    · have := congrArg List.length hrs
      rw [h2, addr_rev4 h1] at this
      rw [four_rev] at this
      simp at this; omega
    · exact h1

/-! ### Address -/
def AdR (ls : List ByteArray) (v : Value) : Prop :=
  (∃ (a : ByteArray) (n : Int), mayP a n ∧ ls = pfxL a n ∧ v = .tuple #[.agg #[.string a, .int .i64 n], .bool true]) ∨ ((∀ a n, mayP a n → ls ≠ pfxL a n) ∧ v = .tuple #[.agg #[.string ⟨#[]⟩, .int .i64 0], .bool false])
theorem pfxL_may {a : ByteArray} {n : Int} (h : mayP a n) : pfxL a n = decB n.toNat :: addrL a := by rw [pfxL, if_pos (mayB_iff.2 h)]
theorem addrL_len (a : ByteArray) : 1 ≤ (addrL a).length := by
  rw [addrL]
  split
  · simp [fourL]
  · have hws := wordsB_ws a
    have hg := good_of hws.zlen
    simp only [goodZ, Bool.and_eq_true, decide_eq_true_eq] at hg
    obtain ⟨⟨⟨⟨⟨⟨⟨⟨⟨⟨⟨⟨⟨⟨-, -⟩, -⟩, -⟩, -⟩, -⟩, h1⟩, -⟩, -⟩, -⟩, -⟩, -⟩, -⟩, -⟩, -⟩ := hg
    have := congrArg List.length (six_rev hws)
    rw [List.length_reverse, List.length_map] at this
    omega
theorem Address_runs {ls : List ByteArray} {a : Option Addr} {c : Nat} {I : IMem} (g : GL I) {S : SH} (hx : RowIn I S a ls.length 1 elS ls) (hl : ls.length * 16 ≤ 140737488355328) (hlc : ls.length ≤ c) (hsz : ∀ l ∈ ls, l.size ≤ 281474976710656) :
    Runs Tryd.prog 17 #[.slice a ls.length c] I S fun v _ T => AdR ls v ∧ Sub S T := by
  refine owner_Address_fn _ _ _ _ _ _ ?_
  unfold owner_Address
  intro b2
  refine bcase_dec (fun h => ?_) (fun h => ?_)
  · refine StP.at0 (by decide) rfl ⟨_, Cell.at0 rfl, _, Cell.at0 rfl, .inr ⟨fun a n hm e => ?_, rfl⟩, (Sub.refl _).skip _⟩
    have h1 := congrArg List.length e
    have h2 := addrL_len a
    rw [pfxL_may hm, List.length_cons] at h1
    omega
  · obtain ⟨l0, hl0⟩ := get_lt (xs := ls) (k := 0) (by omega)
    obtain ⟨a', rfl, hc⟩ := strRow (hx.sub ((Sub.refl S).skip (b2, .cells #[.string ⟨#[]⟩, .int .i64 0] 24 (0, 0)))) hl0
    obtain ⟨l1, lr, rfl⟩ : ∃ l1 lr, ls = l1 :: lr := by
      cases ls with
      | nil => simp at hl0
      | cons x xs => exact ⟨x, xs, rfl⟩
    have e0 : l1 = l0 := Option.some.inj hl0
    subst e0
    refine ⟨by omega, by rw [List.length_cons]; omega, l1, hc, (dec_runs g l1 (hsz l1 (List.mem_cons_self ..)) 128 (by decide) _).mono ?_⟩
    rintro v J T hle ⟨n, ok, rfl, hn, hs⟩
    refine ⟨n, ok, rfl, by omega, by rw [List.length_cons]; omega, ?_⟩
    have e1 : (1 : Int).toNat = 1 := rfl
    rw [e1]
    have hrow2 := (hx.drop (j := 1) (by rw [List.length_cons]; omega) hlc)
    rw [List.drop_succ_cons, List.drop_zero, List.length_cons, Nat.add_sub_cancel] at hrow2
    rw [List.length_cons, Nat.add_sub_cancel]
    rw [List.length_cons] at hl hlc
    have hST : Sub S T := hs.drop
    refine (address_runs (g.le hle) ((hrow2.sub hST).le hle) (by omega) (fun l h => hsz l (List.mem_cons_of_mem _ h))).mono ?_
    rintro v J1 T1 hle1 ⟨s, is, rfl, hX, hs1⟩
    have hs2 : Sub ((b2, .cells #[.string ⟨#[]⟩, .int .i64 0] 24 (0, 0)) :: S) T1 := hs.trans hs1
    refine ⟨s, is, rfl, fun b8 => StP.at0 (Nat.le_refl 2) rfl ?_⟩
    have key : ∀ a m, mayP a m → l1 :: lr = pfxL a m → n = m ∧ ok = true ∧ s = a ∧ is = true := by
      intro a m hm e
      rw [pfxL_may hm] at e
      injection e with e2 e3
      obtain ⟨⟨h1, h2, h3⟩, _⟩ := hm
      obtain ⟨h4, h5⟩ := hn m.toNat (by omega) e2
      obtain ⟨h6, h7⟩ := hX a h1 e3
      exact ⟨by omega, h5, h6, h7⟩
    have no : (∀ a m, mayP a m → l1 :: lr ≠ pfxL a m) → ∀ (J2 : IMem) (T2 : SH), Sub ((b8, .cells #[.string s, .int .i64 n] 24 (0, 0)) :: (b2, .cells #[.string ⟨#[]⟩, .int .i64 0] 24 (0, 0)) :: S) T2 →
        owner_Address_b2 (fun v _ T => AdR (l1 :: lr) v ∧ Sub S T) ⟨b2, 0, none⟩ ⟨b8, 0, none⟩ true J2 T2 := by
      intro hno J2 T2 hs3
      unfold owner_Address_b2
      refine bcase_t rfl (StP.of_sub (hs3.drop) (StP.at0 (by decide) rfl ?_))
      intro T3 hs4
      exact ⟨_, hs4.cell' (Cell.at0 rfl), _, hs4.cell' (by rw [add_mk]; exact Cell.at0 rfl), .inr ⟨hno, rfl⟩, hs4.drop⟩
    have hs5 : Sub ((b8, .cells #[.string s, .int .i64 n] 24 (0, 0)) :: (b2, .cells #[.string ⟨#[]⟩, .int .i64 0] 24 (0, 0)) :: S) ((b8, .cells #[.string s, .int .i64 n] 24 (0, 0)) :: T1) := hs2.cons _
    unfold owner_Address_b1
    refine bcase_not (bcase_of (fun hok => bcase_not (bcase_of (fun his => ?_) (fun his => no (fun a m hm e => ?_) J1 _ hs5))) (fun hok => no (fun a m hm e => ?_) J1 _ hs5))
    · refine ⟨_, Cell.at0 rfl, _, Cell.at0 rfl, (Prefix_runs ((g.le hle).le hle1) s n _).mono ?_⟩
      rintro v J2 T2 hle2 ⟨own, ho, hs6⟩
      obtain ⟨p, d, rfl⟩ := ho.slice
      have hST2 : Sub ((b8, .cells #[.string s, .int .i64 n] 24 (0, 0)) :: (b2, .cells #[.string ⟨#[]⟩, .int .i64 0] 24 (0, 0)) :: S) T2 := hs5.trans hs6.right
      have hrow3 : RowIn J2 T2 (some a') (l1 :: lr).length 1 elS (l1 :: lr) := (((hx.le hle).le hle1).le hle2).sub (hST2.drop.drop)
      have hlp : (pfxL s n).length ≤ 4611686018427387904 := by
        rw [pfxL]
        split
        · rw [List.length_cons, addrL]
          split
          · simp [fourL]
          · have := sixL_len s; omega
        · simp
      refine ⟨_, _, _, rfl, (Equal_runs ((OwnS.row ho).sub hs6.left) hrow3 hlp).mono ?_⟩
      rintro v J3 T3 hle3 ⟨rfl, rfl⟩
      refine ⟨_, rfl, ?_⟩
      by_cases he : pfxL s n = l1 :: lr
      · rw [decide_eq_true he]
        have hm : mayP s n := by
          refine mayB_iff.1 ?_
          cases hb : mayB s n
          · rw [pfxL, hb] at he; simp at he
          · rfl
        unfold owner_Address_b2 owner_Address_b3
        refine bcase_f rfl ⟨_, hST2.cell' (Cell.at0 rfl), _, hST2.cell' (by rw [add_mk]; exact Cell.at0 rfl), ?_⟩
        refine StP.of_sub (hST2.drop) (StP.at0 (Nat.le_refl 2) rfl ?_)
        intro T4 hs7
        exact ⟨_, hs7.cell' (Cell.at0 rfl), _, hs7.cell' (by rw [add_mk]; exact Cell.at0 rfl), .inl ⟨s, n, hm, he.symm, rfl⟩, hs7.drop⟩
      · rw [decide_eq_false he]
        refine no (fun a m hm e => he ?_) J3 T3 hST2
        obtain ⟨k1, _, k2, _⟩ := key a m hm e
        rw [k1, k2]; exact e.symm
    · obtain ⟨_, _, _, k⟩ := key a m hm e
      rw [k] at his; cases his
    · obtain ⟨_, k, _, _⟩ := key a m hm e
      rw [k] at hok; cases hok
end Go.Proofs.YtkagfmlaolmdnaaDoor
