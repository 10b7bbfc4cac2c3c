/- Triggers as names: owner.Encode. -/
import Derived.Test.YtkagfmlaolmdnaaDoorOw14
namespace Go.Proofs.YtkagfmlaolmdnaaDoor
open Go.Px
set_option linter.unusedVariables false
set_option linter.unusedSimpArgs false
set_option maxRecDepth 8000

def wordK (k : Int) : ByteArray := if k = 0 then cB else if k = 3 then ipB else if k = 4 then ndB else if k = 6 then niB else ⟨#[]⟩
theorem kinds_at {I : IMem} {S : SH} {r : Nat} (h : (r, Obj.map kindsE 4) ∈ S) (k : Int) : ∃ b : Bool, MapAt I S (some r) (.int .i64) (.int .i64 k) (.string ⟨#[]⟩) (.string (wordK k)) b := by
  have key : ∀ b : Bool, ((∃ i, Instr.findNow (.int .i64) (.int .i64 k) kindsE.toList 0 = some (some (i, .string (wordK k))) ∧ b = true) ∨ (Instr.findNow (.int .i64) (.int .i64 k) kindsE.toList 0 = some none ∧ Value.string (wordK k) = .string ⟨#[]⟩ ∧ b = false)) →
      ∃ b : Bool, MapAt I S (some r) (.int .i64) (.int .i64 k) (.string ⟨#[]⟩) (.string (wordK k)) b := fun b hb => ⟨b, kindsE, ⟨4, .inr h⟩, hb⟩
  by_cases h0 : k = 0
  · subst h0; exact key true (.inl ⟨0, rfl, rfl⟩)
  by_cases h3 : k = 3
  · subst h3; exact key true (.inl ⟨1, rfl, rfl⟩)
  by_cases h4 : k = 4
  · subst h4; exact key true (.inl ⟨2, rfl, rfl⟩)
  by_cases h6 : k = 6
  · subst h6; exact key true (.inl ⟨3, rfl, rfl⟩)
  refine key false (.inr ⟨?_, ?_, rfl⟩)
  · have e : ∀ j : Int, k ≠ j → (k == j) = false := fun j hj => by simpa using hj
    simp [kindsE, kE, Instr.findNow, Instr.sameNow, e 0 h0, e 3 h3, e 4 h4, e 6 h6]
  · rw [wordK, if_neg h0, if_neg h3, if_neg h4, if_neg h6]
open Classical in
/-- the name of a trigger, by labels ahead of its word -/
noncomputable def encX (t : Tg) (xs : List ByteArray) (w : ByteArray) : Option ByteArray := match labN t.2.1 with
  | none => none
  | some _ => match makeN (if w = ⟨#[]⟩ then xs else xs ++ [w]) ByteArray.empty with
    | none => none
    | some m => if decF m = some t then some m else none
def encW (t : Tg) : ByteArray := if t.1 = 5 then ndB else wordK t.1
def encL (t : Tg) : List ByteArray := if t.1 = 0 ∨ t.1 = 3 ∨ t.1 = 6 then pfxL t.2.2.1 t.2.2.2 else if t.1 = 2 ∨ t.1 = 5 then starB :: (labN t.2.1).getD [] else (labN t.2.1).getD []
noncomputable def encF (t : Tg) : Option ByteArray := encX t (encL t) (encW t)
theorem tgCell {I : IMem} {S T : SH} {b : Nat} {t : Tg} (hs : Sub ((b, .cells (elT t).toArray 29 (0, 0)) :: S) T) : Cell I T ⟨b, 0, none⟩ (.int .i64 t.1) ∧ Cell I T ((⟨b, 0, none⟩ : Addr).add 1) (.string t.2.1) ∧
    Cell I T ((⟨b, 0, none⟩ : Addr).add 2) (.string t.2.2.1) ∧ Cell I T ((⟨b, 0, none⟩ : Addr).add 3) (.int .i64 t.2.2.2) := by
  obtain ⟨c0, c1, c2, c3⟩ := tgC (I := I) (S := S) (b := b) (t := t)
  exact ⟨hs.cell' c0, hs.cell' c1, hs.cell' c2, hs.cell' c3⟩
theorem tg_eq {a b : Tg} : (((a.1 : Int) == b.1) && ((a.2.1 == b.2.1) && ((((a.2.2.1 == b.2.2.1) && ((a.2.2.2 == b.2.2.2) && true)) && true)))) = true ↔ a = b := by
  obtain ⟨a1, a2, a3, a4⟩ := a
  obtain ⟨b1, b2, b3, b4⟩ := b
  simp only [Bool.and_eq_true, Bool.and_true, beq_iff_eq, ba_beq, Prod.mk.injEq]
theorem Encode_runs (t : Tg) {I : IMem} (g : GL I) (S : SH) : Runs Tryd.prog 21 #[vT t] I S fun v _ T => v = mkV (encF t) ∧ T = S := by
  refine Runs.drop (owner_Encode_fn _ _ _ _ _ _ _ ?_)
  unfold owner_Encode
  intro b1
  refine ⟨t.2.1, Cell.at0 rfl, (Labels_runs t.2.1 I _).mono ?_⟩
  rintro v J T hle ⟨own, hcase, hs⟩
  obtain ⟨ls, p, m, c, ok, rfl, ho, hll, hok, hls⟩ : ∃ (ls : List ByteArray) (p : Option Addr) (m c : Nat) (ok : Bool), v = .tuple #[.slice p m c, .bool ok] ∧ OwnS (.slice p m c) ls own ∧ ls.length ≤ 254 ∧ ok = (labN t.2.1).isSome ∧ ls = (labN t.2.1).getD [] := by
    rcases hcase with ⟨hl, rfl, rfl⟩ | ⟨ls, p, m, c, hl, rfl, ho⟩
    · exact ⟨[], none, 0, 0, false, rfl, OwnR.nil, by simp, by rw [hl]; rfl, by rw [hl]; rfl⟩
    · exact ⟨ls, p, m, c, true, rfl, ho, (labs_ok hl).1, by rw [hl]; rfl, by rw [hl]; rfl⟩
  have g1 := g.le hle
  refine ⟨_, _, _, _, rfl, ?_⟩
  -- the end
  have b7 : ∀ (xs : List ByteArray) (w : ByteArray) (us : List ByteArray) (p : Option Addr) (n c : Nat) (own : SH) (J : IMem) (T : SH), GL J → OwnS (.slice p n c) us own → us.length ≤ 1000 → us = (if w = ⟨#[]⟩ then xs else xs ++ [w]) → Sub (own ++ (b1, .cells (elT t).toArray 29 (0, 0)) :: S) T → encF t = encX t xs w →
      owner_Encode_b7 (fun v J T => ∃ L, Sub L T ∧ v = mkV (encF t) ∧ L = S) ⟨b1, 0, none⟩ p n c ok J T := by
    intro xs w us p n c own J T g ho hul hus hs he
    have hn := ho.len
    subst hn
    unfold owner_Encode_b7
    refine (Make_runs ((OwnS.row ho).sub hs.left) (by omega)).mono ?_
    rintro v J1 T1 hle1 ⟨rfl, rfl⟩
    have hsS : Sub S T1 := hs.right.drop
    have no : ∀ m : ByteArray, encF t = none → owner_Encode_b9 (fun v J T => ∃ L, Sub L T ∧ v = mkV (encF t) ∧ L = S) ⟨b1, 0, none⟩ m true J1 T1 := by
      intro m h
      unfold owner_Encode_b9
      exact bcase_t rfl ⟨S, hsS, by rw [h]; rfl, rfl⟩
    unfold owner_Encode_b8
    cases hl : labN t.2.1 with
    | none =>
      have h0 : encF t = none := by rw [he, encX, hl]
      have hokf : ok = false := by rw [hok, hl]; rfl
      subst hokf
      cases hm : makeN us ByteArray.empty with
      | none => exact ⟨_, _, rfl, bcase_t rfl (no _ h0)⟩
      | some m => exact ⟨_, _, rfl, bcase_t rfl (no _ h0)⟩
    | some ls0 =>
      have hokt : ok = true := by rw [hok, hl]; rfl
      subst hokt
      cases hm : makeN us ByteArray.empty with
      | none =>
        have h0 : encF t = none := by rw [he, encX, hl]; dsimp only; rw [← hus, hm]
        exact ⟨_, _, rfl, bcase_f rfl (no _ h0)⟩
      | some m =>
        refine ⟨_, _, rfl, bcase_f rfl ?_⟩
        unfold owner_Encode_b9 owner_Encode_b10
        refine bcase_f rfl ((Decode_runs m (g.le hle1) T1).mono ?_)
        rintro v J2 T2 hle2 ⟨rfl, rfl⟩
        cases hd : decF m with
        | none =>
          have h0 : encF t = none := by rw [he, encX, hl]; dsimp only; rw [← hus, hm]; dsimp only; rw [hd, if_neg (by simp)]
          refine ⟨_, _, _, _, _, rfl, fun b9 => StP.tg (x := t0) (t := t0) (bcase_t rfl ?_)⟩
          unfold owner_Encode_b11
          exact bcase_t rfl ⟨S, hsS.skip _, by rw [h0]; rfl, rfl⟩
        | some t' =>
          have h0 : encF t = if t' = t then some m else none := by
            rw [he, encX, hl]; dsimp only; rw [← hus, hm]; dsimp only; rw [hd]
            by_cases e : t' = t
            · rw [if_pos e, if_pos (by rw [e])]
            · rw [if_neg e, if_neg (fun h => e (Option.some.inj h))]
          refine ⟨_, _, _, _, _, rfl, fun b9 => StP.tg (x := t0) (t := t') (bcase_f rfl ?_)⟩
          obtain ⟨d0, d1, d2, d3⟩ := tgC (I := J2) (S := T2) (b := b9) (t := t')
          rw [add_mk] at d1 d2 d3
          have hs9 : Sub ((b1, .cells (elT t).toArray 29 (0, 0)) :: S) ((b9, .cells (elT t').toArray 29 (0, 0)) :: T2) := hs.right.skip _
          obtain ⟨c0, c1, c2, c3⟩ := tgCell (I := J2) hs9
          refine ⟨_, d0, _, d1, _, d2, _, d3, _, c0, _, c1, _, c2, _, c3, ?_⟩
          unfold owner_Encode_b11 owner_Encode_b12
          refine bcase_not (bcase_of (fun e => ⟨S, hs9.drop, ?_, rfl⟩) (fun e => ⟨S, hs9.drop, ?_, rfl⟩))
          · rw [h0, if_pos (tg_eq.1 e)]; rfl
          · rw [h0, if_neg (fun h => by rw [tg_eq.2 h] at e; cases e)]; rfl
  have b6 : ∀ (xs : List ByteArray) (w : ByteArray) (p : Option Addr) (n c : Nat) (own : SH) (J : IMem) (T : SH), GL J → OwnS (.slice p n c) xs own → xs.length ≤ 500 → Sub (own ++ (b1, .cells (elT t).toArray 29 (0, 0)) :: S) T → encF t = encX t xs w →
      owner_Encode_b6 (fun v J T => ∃ L, Sub L T ∧ v = mkV (encF t) ∧ L = S) ⟨b1, 0, none⟩ p n c ok w J T := by
    intro xs w p n c own J T g ho hxl hs he
    unfold owner_Encode_b6
    rw [ba_dec]
    refine bcase_not (bcase_dec (fun e => b7 xs w xs p n c own J T g ho (by omega) (by rw [if_pos e]) hs he) (fun e => ?_))
    intro b45
    refine AppS1 hs ho (by omega) ?_
    intro p' n' c' own' T' ho' hs'
    exact b7 xs w (xs ++ [w]) p' n' c' own' J T' g ho' (by simp; omega) (by rw [if_neg e]) hs' he
  have b5 : ∀ (xs : List ByteArray) (p : Option Addr) (n c : Nat) (own : SH) (J : IMem) (T : SH), GL J → OwnS (.slice p n c) xs own → xs.length ≤ 500 → Sub (own ++ (b1, .cells (elT t).toArray 29 (0, 0)) :: S) T → encL t = xs →
      owner_Encode_b5 (fun v J T => ∃ L, Sub L T ∧ v = mkV (encF t) ∧ L = S) ⟨b1, 0, none⟩ p n c ok (wordK t.1) J T := by
    intro xs p n c own J T g ho hxl hs he
    unfold owner_Encode_b5
    obtain ⟨c0, c1, c2, c3⟩ := tgCell (I := J) hs.right
    refine ⟨_, c0, bcase_beq (fun h5 => ?_) (fun h5 => ?_)⟩
    · refine (kinds_runs J T).mono ?_
      rintro v J1 T1 hle1 ⟨r, rfl, rfl⟩
      obtain ⟨b, hb⟩ := kinds_at (I := J1) (S := (r, .map kindsE 4) :: T) (List.mem_cons_self ..) 4
      refine ⟨_, rfl, ndB, b, hb, b6 xs ndB p n c own J1 _ (g.le hle1) ho hxl (hs.skip _) ?_⟩
      rw [encF, he, encW, if_pos h5]
    · refine b6 xs (wordK t.1) p n c own J _ g ho hxl hs ?_
      rw [encF, he, encW, if_neg h5]
  unfold owner_Encode_b1
  obtain ⟨c0, c1, c2, c3⟩ := tgCell (I := J) hs.right
  refine ⟨_, c0, (kinds_runs J T).mono ?_⟩
  rintro v J1 T1 hle1 ⟨r, rfl, rfl⟩
  obtain ⟨b, hb⟩ := kinds_at (I := J1) (S := (r, .map kindsE 4) :: T) (List.mem_cons_self ..) t.1
  have g2 := g1.le hle1
  have hs1 : Sub (own ++ (b1, .cells (elT t).toArray 29 (0, 0)) :: S) ((r, .map kindsE 4) :: T) := hs.skip _
  refine ⟨_, rfl, ⟨hle1, [(r, .map kindsE 4)], List.Perm.refl _⟩, _, b, hb, ?_⟩
  unfold owner_Encode_b2 owner_Encode_b3
  obtain ⟨d0, d1, d2, d3⟩ := tgCell (I := J1) hs1.right
  refine ⟨_, d0, ?_⟩
  have pre : (t.1 = 0 ∨ t.1 = 3 ∨ t.1 = 6) → owner_Encode_b4 (fun v J T => ∃ L, Sub L T ∧ v = mkV (encF t) ∧ L = S) ⟨b1, 0, none⟩ p m c ok (wordK t.1) t.1 true J1 ((r, .map kindsE 4) :: T) := by
    intro hk
    unfold owner_Encode_b4
    refine bcase_t rfl ⟨_, d2, _, by rw [add_mk] at d3 ⊢; rw [add_mk]; exact d3, (Prefix_runs g2 t.2.2.1 t.2.2.2 _).mono ?_⟩
    rintro v J2 T2 hle2 ⟨own2, ho2, hs2⟩
    obtain ⟨p2, c2, rfl⟩ := ho2.slice
    have hlp : (pfxL t.2.2.1 t.2.2.2).length ≤ 500 := by
      rw [pfxL]
      split
      · rw [List.length_cons, addrL]
        split
        · simp [fourL]
        · have := sixL_len t.2.2.1; omega
      · simp
    refine ⟨_, _, _, rfl, b5 _ p2 _ c2 own2 J2 T2 (g2.le hle2) ho2 hlp ?_ (by rw [encL, if_pos hk])⟩
    exact hs2.re (fun a => by have := hs1.right.cnt a; simp only [cnt_app, cnt_cons] at *; omega)
  have plain : ¬ (t.1 = 0 ∨ t.1 = 3 ∨ t.1 = 6) → owner_Encode_b4 (fun v J T => ∃ L, Sub L T ∧ v = mkV (encF t) ∧ L = S) ⟨b1, 0, none⟩ p m c ok (wordK t.1) t.1 false J1 ((r, .map kindsE 4) :: T) := by
    intro hk
    unfold owner_Encode_b4
    have star : (t.1 = 2 ∨ t.1 = 5) → owner_Encode_b13 (fun v J T => ∃ L, Sub L T ∧ v = mkV (encF t) ∧ L = S) ⟨b1, 0, none⟩ p m c ok (wordK t.1) true J1 ((r, .map kindsE 4) :: T) := by
      intro h2
      unfold owner_Encode_b13
      refine bcase_t rfl ?_
      intro b33
      have hm := ho.len
      subst hm
      have ho0 : OwnS (.slice (some ⟨b33, 0, none⟩) 1 1) [starB] [(b33, .cells #[.string starB] 9 (0, 0))] := OwnS.mk (xs := [starB]) (rest := []) rfl (by decide)
      refine AppSs (xs := [starB]) (ys := ls) (own := [(b33, .cells #[.string starB] 9 (0, 0))]) (F := (b1, .cells (elT t).toArray 29 (0, 0)) :: S) ((hs1.right).cons _) ho0 (((OwnS.row ho).sub hs1.left).sub ((Sub.refl _).skip _)) (by simp; omega) ?_
      intro p' n' c' own' T' ho' hs'
      refine b5 _ p' n' c' own' J1 T' g2 ho' (by simp; omega) hs' ?_
      rw [encL, if_neg hk, if_pos h2, ← hls]; rfl
    have rest : ¬ (t.1 = 2 ∨ t.1 = 5) → owner_Encode_b13 (fun v J T => ∃ L, Sub L T ∧ v = mkV (encF t) ∧ L = S) ⟨b1, 0, none⟩ p m c ok (wordK t.1) false J1 ((r, .map kindsE 4) :: T) := by
      intro h2
      unfold owner_Encode_b13
      refine bcase_f rfl (b5 ls p m c own J1 _ g2 ho (by omega) hs1 ?_)
      rw [encL, if_neg hk, if_neg h2, ← hls]
    refine bcase_f rfl (bcase_beq (fun e => ?_) (fun e => ?_))
    · rw [show (t.1 == (2 : Int)) = true by rw [e]; rfl]; exact star (.inl e)
    · by_cases e5 : t.1 = 5
      · rw [show (t.1 == (5 : Int)) = true by rw [e5]; rfl]; exact star (.inr e5)
      · rw [show (t.1 == (5 : Int)) = false by simpa using e5]; exact rest (by rintro (h | h); exact e h; exact e5 h)
  refine bcase_beq (fun e => ?_) (fun e => bcase_beq (fun e3 => ?_) (fun e3 => ?_))
  · rw [show (t.1 == (0 : Int)) = true by rw [e]; rfl]; exact pre (.inl e)
  · rw [show (t.1 == (3 : Int)) = true by rw [e3]; rfl]; exact pre (.inr (.inl e3))
  · by_cases e6 : t.1 = 6
    · rw [show (t.1 == (6 : Int)) = true by rw [e6]; rfl]; exact pre (.inr (.inr e6))
    · rw [show (t.1 == (6 : Int)) = false by simpa using e6]; exact plain (by rintro (h | h | h); exact e h; exact e3 h; exact e6 h)
end Go.Proofs.YtkagfmlaolmdnaaDoor
