/- Names as triggers, triggers as names: owner.Decode, owner.Encode. -/
import Derived.Test.YtkagfmlaolmdnaaDoorOw13
namespace Go.Proofs.YtkagfmlaolmdnaaDoor
open Go.Px
set_option linter.unusedVariables false
set_option linter.unusedSimpArgs false
set_option maxRecDepth 8000

def kindOf (w : ByteArray) : Option Int := if w = cB then some 0 else if w = ipB then some 3 else if w = ndB then some 4 else if w = niB then some 6 else none
noncomputable def decL (ls : List ByteArray) : Option Tg := match ls.getLast? with
  | none => none
  | some w => match kindOf w with
    | none => namedF ls 1 2
    | some k => if k = 4 then namedF ls.dropLast 4 5 else (adrF ls.dropLast).map fun p => (k, ⟨#[]⟩, p.1, p.2)
noncomputable def decF (n : ByteArray) : Option Tg := match labN n with
  | none => none
  | some ls => decL ls
theorem setT {b : Nat} {S T : SH} {I : IMem} {t x : Tg} {K : Value → SH → Prop} (hs : Sub ((b, .cells (elT x).toArray 29 (0, 0)) :: S) T) (h : ∀ T', Sub S T' → K (vT t) T') :
    StP T ⟨b, 0, none⟩ [.int .i64 t.1, .string t.2.1, .string t.2.2.1, .int .i64 t.2.2.2] fun S1 =>
      ∃ r0, Cell I S1 ⟨b, 0, none⟩ (.int .i64 r0) ∧ ∃ r1, Cell I S1 ((⟨b, 0, none⟩ : Addr).add 1) (.string r1) ∧ ∃ r2, Cell I S1 ((⟨b, 0, none⟩ : Addr).add 2) (.string r2) ∧ ∃ r3, Cell I S1 ((⟨b, 0, none⟩ : Addr).add 3) (.int .i64 r3) ∧
      K (.agg #[.int .i64 r0, .string r1, .string r2, .int .i64 r3]) S1 := by
  refine StP.of_sub hs (StP.tg (x := x) (t := t) ?_)
  intro T' hs'
  obtain ⟨c0, c1, c2, c3⟩ := tgC (I := I) (S := S) (b := b) (t := t)
  exact ⟨_, hs'.cell' c0, _, hs'.cell' c1, _, hs'.cell' c2, _, hs'.cell' c3, h T' hs'.drop⟩
theorem kE_mem {e : MapEntry} (h : e ∈ kindsE) : e = kE 0 0 cB ∨ e = kE 1 3 ipB ∨ e = kE 2 4 ndB ∨ e = kE 3 6 niB := by
  simpa [kindsE] using h
theorem labs_ok {n : ByteArray} {ls : List ByteArray} (h : labN n = some ls) : ls.length ≤ 254 ∧ ∀ l ∈ ls, l.size ≤ 63 := by
  obtain ⟨h1, h2, h3⟩ := labN_some h
  refine ⟨?_, fun l hl => (h2 l hl).hi⟩
  have := wire_len ls
  rw [h1, nm_size] at h3
  omega
theorem OwnS.cap {a : Option Addr} {n c : Nat} {xs : List ByteArray} {own : SH} (h : OwnS (.slice a n c) xs own) : xs.length ≤ c := by
  rcases OwnS.cases h with ⟨_, _, rfl, rfl, _⟩ | ⟨_, rest, _, _, _, hc, _⟩
  · exact Nat.le_refl 0
  · omega
theorem kind_not {w : ByteArray} (h1 : cB ≠ w) (h2 : ipB ≠ w) (h3 : ndB ≠ w) (h4 : niB ≠ w) : kindOf w = none := by
  rw [kindOf, if_neg (fun e => h1 e.symm), if_neg (fun e => h2 e.symm), if_neg (fun e => h3 e.symm), if_neg (fun e => h4 e.symm)]
theorem kind_c : kindOf cB = some 0 := by decide +kernel
theorem kind_ip : kindOf ipB = some 3 := by decide +kernel
theorem kind_nd : kindOf ndB = some 4 := by decide +kernel
theorem kind_ni : kindOf niB = some 6 := by decide +kernel
/-- how many kinds were not looked at -/
def unseen (seen : Array Nat) : Nat := (kindsE.toList.filter fun e => !seen.contains e.born).length
theorem unseen_lt {seen : Array Nat} {e : MapEntry} (he : e ∈ kindsE) (hn : seen.contains e.born = false) : unseen (seen.push e.born) < unseen seen := by
  have hsub : ∀ l : List MapEntry, (l.filter fun x => !(seen.push e.born).contains x.born).length ≤ (l.filter fun x => !seen.contains x.born).length ∧
      (e ∈ l → (l.filter fun x => !(seen.push e.born).contains x.born).length < (l.filter fun x => !seen.contains x.born).length) := by
    intro l
    induction l with
    | nil => exact ⟨Nat.le_refl _, fun h => by cases h⟩
    | cons x l ih =>
      have hx : (seen.push e.born).contains x.born = (seen.contains x.born || x.born == e.born) := by
        rw [Bool.eq_iff_iff]; simp [or_comm]
      rw [List.filter_cons, List.filter_cons, hx]
      by_cases h1 : seen.contains x.born = true
      · rw [h1]
        simp only [Bool.true_or, Bool.not_true, Bool.false_eq_true, if_false]
        refine ⟨ih.1, fun h => ?_⟩
        rcases List.mem_cons.1 h with rfl | h
        · rw [hn] at h1; cases h1
        · exact ih.2 h
      · have h1 : seen.contains x.born = false := by simpa using h1
        rw [h1]
        simp only [Bool.false_or, Bool.not_false, if_true, List.length_cons]
        by_cases h2 : x.born = e.born
        · rw [show (x.born == e.born) = true by simp [h2]]
          simp only [Bool.not_true, Bool.false_eq_true, if_false]
          exact ⟨by have := ih.1; omega, fun _ => by have := ih.1; omega⟩
        · rw [show (x.born == e.born) = false by simp [h2]]
          simp only [Bool.not_false, if_true, List.length_cons]
          refine ⟨by have := ih.1; omega, fun h => ?_⟩
          rcases List.mem_cons.1 h with rfl | h
          · exact absurd rfl h2
          · have := ih.2 h; omega
  exact (hsub kindsE.toList).2 (by simpa using he)
theorem Decode_runs (n : ByteArray) {I : IMem} (g : GL I) (S : SH) : Runs Tryd.prog 22 #[.string n] I S fun v _ T => v = resT (decF n) ∧ T = S := by
  refine Runs.drop (owner_Decode_fn _ _ _ _ ?_)
  unfold owner_Decode
  intro b2
  refine (Labels_runs n I _).mono ?_
  rintro v J T hle ⟨own, hcase, hs⟩
  have hsB : Sub ((b2, .cells (elT t0).toArray 29 (0, 0)) :: S) T := hs.right
  have none_ : ∀ (p : Option Addr) (m c : Nat), decF n = none → owner_Decode_b2 (fun v J T => ∃ L, Sub L T ∧ v = resT (decF n) ∧ L = S) ⟨b2, 0, none⟩ p m c true J T := by
    intro p m c h
    unfold owner_Decode_b2
    refine bcase_t rfl (setT (t := t0) (K := fun v T => ∃ L, Sub L T ∧ Value.tuple #[v, .bool false] = resT (decF n) ∧ L = S) hsB ?_)
    intro T' hs'
    exact ⟨S, hs', by rw [h]; rfl, rfl⟩
  unfold owner_Decode_b1
  rcases hcase with ⟨hl, rfl, rfl⟩ | ⟨ls, p, m, c, hl, rfl, ho⟩
  · exact ⟨_, _, _, _, rfl, bcase_t rfl (none_ _ _ _ (by rw [decF, hl]))⟩
  · refine ⟨_, _, _, _, rfl, bcase_f rfl ?_⟩
    have hdf : decF n = decL ls := by rw [decF, hl]
    obtain ⟨hll, hsz⟩ := labs_ok hl
    have hm := ho.len
    subst hm
    have hcap := OwnS.cap ho
    by_cases h0 : ls.length = 0
    · have : ls = [] := List.eq_nil_of_length_eq_zero h0
      rw [show ((ls.length : Int) == 0) = true by rw [h0]; rfl]
      exact none_ _ _ _ (by rw [hdf, this]; rfl)
    have hne : ((ls.length : Int) == 0) = false := by
      rw [beq_eq_false_iff_ne]; omega
    rw [hne]
    obtain ⟨w, hw⟩ := get_lt (xs := ls) (k := ls.length - 1) (by omega)
    have hlast : ls.getLast? = some w := by rw [List.getLast?_eq_getElem?]; exact hw
    have hrow : ∀ {K : IMem} {T : SH}, Sub (own ++ (b2, .cells (elT t0).toArray 29 (0, 0)) :: S) T → RowIn K T p ls.length 1 elS ls := fun hs => (OwnS.row ho).sub hs.left
    unfold owner_Decode_b2 owner_Decode_b3
    refine bcase_f rfl ?_
    rw [wrap_i64 (x := (ls.length : Int) - 1) (by omega) (by omega)]
    have e1 : ((ls.length : Int) - 1).toNat = ls.length - 1 := by omega
    rw [e1, slA_zero]
    obtain ⟨a', rfl, hc⟩ := strRow (hrow (K := J) hs) hw
    refine ⟨by omega, by omega, w, hc, by omega, by omega, ?_⟩
    rw [Nat.sub_zero, Nat.sub_zero]
    have hdl : ls.dropLast = ls.take (ls.length - 1) := List.dropLast_eq_take
    have hdll : ls.dropLast.length = ls.length - 1 := List.length_dropLast
    have hrow2 : ∀ {K : IMem} {T : SH}, Sub (own ++ (b2, .cells (elT t0).toArray 29 (0, 0)) :: S) T → RowIn K T (some a') ls.dropLast.length 1 elS ls.dropLast := by
      intro K T hs
      rw [hdll, hdl]
      exact (hrow hs).take (by omega)
    rw [← hdll]
    unfold owner_Decode_b4
    refine (kinds_runs J T).mono ?_
    rintro v J1 T1 hle1 ⟨r, rfl, rfl⟩
    refine ⟨_, rfl, kindsE, 4, .inr (List.mem_cons_self ..), fun b37 => ?_⟩
    unfold owner_Decode_b5
    refine ⟨fun m x2 l4 l4n l4c la re ren rec it J2 T2 => x2 = ⟨b2, 0, none⟩ ∧ l4 = some a' ∧ l4n = ls.length ∧ l4c = c ∧ la = w ∧ re = some a' ∧ ren = ls.dropLast.length ∧ rec = c ∧ it = ⟨b37, 0, none⟩ ∧ J1.le J2 ∧
        ∃ seen : Array Nat, m = unseen seen ∧ (∀ e ∈ kindsE, seen.contains e.born = true → e.val ≠ .string w) ∧ T2 = (b37, .mapIter (some r) 4 seen 4) :: (r, .map kindsE 4) :: T,
      unseen #[], ⟨rfl, rfl, rfl, rfl, rfl, rfl, rfl, rfl, rfl, IMem.le.refl J1, #[], rfl, fun e _ h => by simp at h, rfl⟩, ?_⟩
    rintro m x2 l4 l4n l4c la re ren rec it J2 T2 - ⟨rfl, rfl, rfl, rfl, rfl, rfl, rfl, rfl, rfl, hle2, seen, rfl, hseen, rfl⟩
    unfold owner_Decode_l6
    have hsT : ∀ sn : Array Nat, Sub (own ++ (b2, .cells (elT t0).toArray 29 (0, 0)) :: S) ((b37, .mapIter (some r) 4 sn 4) :: (r, .map kindsE 4) :: T) := fun sn => (hs.skip _).skip _
    refine ⟨0, r, 4, seen, 4, kindsE, 4, rfl, rfl, .inr (List.mem_cons_of_mem _ (List.mem_cons_self ..)), Nat.le_refl 4, fun e he => ?_, fun hall => ?_, fun e he hun => ?_⟩
    · rcases kE_mem he with rfl | rfl | rfl | rfl <;> decide
    · -- of no kind
      have hk : kindOf la = none := by
        refine kind_not ?_ ?_ ?_ ?_
        · exact fun e => hseen (kE 0 0 cB) (by simp [kindsE]) (hall _ (by simp [kindsE])) (by rw [← e]; rfl)
        · exact fun e => hseen (kE 1 3 ipB) (by simp [kindsE]) (hall _ (by simp [kindsE])) (by rw [← e]; rfl)
        · exact fun e => hseen (kE 2 4 ndB) (by simp [kindsE]) (hall _ (by simp [kindsE])) (by rw [← e]; rfl)
        · exact fun e => hseen (kE 3 6 niB) (by simp [kindsE]) (hall _ (by simp [kindsE])) (by rw [← e]; rfl)
      have hd : decF n = namedF ls 1 2 := by rw [hdf, decL, hlast]; dsimp only; rw [hk]
      unfold owner_Decode_b7
      refine (named_runs (ex := 1) (wild := 2) (by decide) (hrow (hsT seen)) (by omega) hcap).mono ?_
      rintro v J3 T3 hle3 ⟨rfl, rfl⟩
      rw [hd]
      have hsB3 : Sub ((b2, .cells (elT t0).toArray 29 (0, 0)) :: S) ((b37, .mapIter (some r) 4 seen 4) :: (r, .map kindsE 4) :: T) := (hsB.skip _).skip _
      cases hn : namedF ls 1 2 with
      | none => exact ⟨_, _, _, _, _, rfl, setT (t := t0) (K := fun v T => ∃ L, Sub L T ∧ Value.tuple #[v, .bool false] = resT none ∧ L = S) hsB3 fun T' hs' => ⟨S, hs', rfl, rfl⟩⟩
      | some t => exact ⟨_, _, _, _, _, rfl, setT (t := t) (K := fun v T => ∃ L, Sub L T ∧ Value.tuple #[v, .bool true] = resT (some t) ∧ L = S) hsB3 fun T' hs' => ⟨S, hs', rfl, rfl⟩⟩
    · unfold owner_Decode_b8
      have hlt := unseen_lt he hun
      have hsB3 : ∀ sn : Array Nat, Sub ((b2, .cells (elT t0).toArray 29 (0, 0)) :: S) ((b37, .mapIter (some r) 4 sn 4) :: (r, .map kindsE 4) :: T) := fun sn => (hsB.skip _).skip _
      have step : ∀ (k : Int) (x : ByteArray), e = kE e.born k x → kindOf x = some k → owner_Decode_b9 (fun x2 ls_4 ls_4n ls_4c last_6 rest_7 rest_7n rest_7c x37 I_1 S_1 => ∃ m', m' < unseen seen ∧ (x2 = ⟨b2, 0, none⟩ ∧ ls_4 = some a' ∧ ls_4n = ls.length ∧ ls_4c = rec ∧ last_6 = la ∧ rest_7 = some a' ∧ rest_7n = ls.dropLast.length ∧ rest_7c = rec ∧ x37 = ⟨b37, 0, none⟩ ∧ J1.le I_1 ∧
            ∃ seen : Array Nat, m' = unseen seen ∧ (∀ e ∈ kindsE, seen.contains e.born = true → e.val ≠ .string la) ∧ S_1 = (b37, .mapIter (some r) 4 seen 4) :: (r, .map kindsE 4) :: T))
          (fun v J T => ∃ L, Sub L T ∧ v = resT (decF n) ∧ L = S) ⟨b2, 0, none⟩ (some a') ls.length rec la (some a') ls.dropLast.length rec k x ⟨b37, 0, none⟩ J2 ((b37, .mapIter (some r) 4 (seen.push e.born) 4) :: (r, .map kindsE 4) :: T) := by
        intro k x hek hkx
        unfold owner_Decode_b9
        rw [ba_dec]
        refine bcase_not (bcase_dec (fun e2 => ?_) (fun e2 => ?_))
        · subst e2
          refine bcase_beq (fun h4 => ?_) (fun h4 => ?_)
          · subst h4
            have hd : decF n = namedF ls.dropLast 4 5 := by rw [hdf, decL, hlast]; dsimp only; rw [hkx]; rfl
            refine (named_runs (ex := 4) (wild := 5) (by decide) (hrow2 (hsT _)) (by omega) (by omega)).mono ?_
            rintro v J3 T3 hle3 ⟨rfl, rfl⟩
            rw [hd]
            cases hn : namedF ls.dropLast 4 5 with
            | none => exact ⟨_, _, _, _, _, rfl, setT (t := t0) (K := fun v T => ∃ L, Sub L T ∧ Value.tuple #[v, .bool false] = resT none ∧ L = S) (hsB3 _) fun T' hs' => ⟨S, hs', rfl, rfl⟩⟩
            | some t => exact ⟨_, _, _, _, _, rfl, setT (t := t) (K := fun v T => ∃ L, Sub L T ∧ Value.tuple #[v, .bool true] = resT (some t) ∧ L = S) (hsB3 _) fun T' hs' => ⟨S, hs', rfl, rfl⟩⟩
          · have hd : decF n = (adrF ls.dropLast).map fun p => (k, ⟨#[]⟩, p.1, p.2) := by rw [hdf, decL, hlast]; dsimp only; rw [hkx]; dsimp only; rw [if_neg h4]
            refine (Address_runs (((g.le hle).le hle1).le hle2) (hrow2 (hsT _)) (by omega) (by omega) (fun l h => by have := hsz l (List.dropLast_subset _ h); omega)).mono ?_
            rintro v J3 T3 hle3 ⟨hv, hs3⟩
            have hv := AdR_val hv
            subst hv
            rw [hd]
            have hs4 := (hsB3 (seen.push e.born)).trans hs3
            cases ha : adrF ls.dropLast with
            | none =>
              refine ⟨_, _, _, rfl, fun b10 => StP.at0 (by decide) rfl (bcase_t rfl ?_)⟩
              exact setT (t := t0) (K := fun v T => ∃ L, Sub L T ∧ Value.tuple #[v, .bool false] = resT none ∧ L = S) (hs4.skip _) fun T' hs' => ⟨S, hs', rfl, rfl⟩
            | some q =>
              refine ⟨_, _, _, rfl, fun b10 => StP.at0 (Nat.le_refl 2) rfl (bcase_f rfl ⟨_, Cell.at0 rfl, _, Cell.at0 rfl, ?_⟩)⟩
              exact setT (t := ((k, ⟨#[]⟩, q.1, q.2) : Tg)) (K := fun v T => ∃ L, Sub L T ∧ Value.tuple #[v, .bool true] = resT (some (k, ⟨#[]⟩, q.1, q.2)) ∧ L = S) (hs4.skip _) fun T' hs' => ⟨S, hs', rfl, rfl⟩
        · refine ⟨_, hlt, rfl, rfl, rfl, rfl, rfl, rfl, rfl, rfl, rfl, hle2, seen.push e.born, rfl, fun e' he' hc' => ?_, rfl⟩
          by_cases h5 : seen.contains e'.born = true
          · exact hseen e' he' h5
          · have h6 : e'.born = e.born := by
              have : e'.born ∈ seen.push e.born := by simpa using hc'
              rcases Array.mem_push.1 this with h | h
              · exact absurd (by simpa using h) h5
              · exact h
            have h7 : e' = e := by
              rcases kE_mem he with rfl | rfl | rfl | rfl <;> rcases kE_mem he' with rfl | rfl | rfl | rfl <;> first | rfl | (simp [kE] at h6; done)
            rw [h7, hek]
            intro h8
            exact e2 (Value.string.inj h8)
      rcases kE_mem he with rfl | rfl | rfl | rfl
      · exact ⟨r, 4, seen.push 0, 0, kindsE, 4, _, rfl, List.mem_cons_self .., by simp, .inr (List.mem_cons_of_mem _ (List.mem_cons_self ..)), rfl, step 0 cB rfl kind_c⟩
      · exact ⟨r, 4, seen.push 1, 1, kindsE, 4, _, rfl, List.mem_cons_self .., by simp, .inr (List.mem_cons_of_mem _ (List.mem_cons_self ..)), rfl, step 3 ipB rfl kind_ip⟩
      · exact ⟨r, 4, seen.push 2, 2, kindsE, 4, _, rfl, List.mem_cons_self .., by simp, .inr (List.mem_cons_of_mem _ (List.mem_cons_self ..)), rfl, step 4 ndB rfl kind_nd⟩
      · exact ⟨r, 4, seen.push 3, 3, kindsE, 4, _, rfl, List.mem_cons_self .., by simp, .inr (List.mem_cons_of_mem _ (List.mem_cons_self ..)), rfl, step 6 niB rfl kind_ni⟩
end Go.Proofs.YtkagfmlaolmdnaaDoor
