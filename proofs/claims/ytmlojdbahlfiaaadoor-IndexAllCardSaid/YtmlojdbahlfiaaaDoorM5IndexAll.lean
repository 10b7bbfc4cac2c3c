/- The plain law of the table: what Put, Get and Del make of a finite map. -/
import Derived.KernelRfl
import Derived.Test.YtmlojdbahlfiaaaDoorProg
import Derived.Test.YtmlojdbahlfiaaaDoorRows
import Derived.LaidLaws
import Derived.Lay
import Derived.Stop.LaidErr
import Derived.Lib.LaidTab
import Derived.ChangeVars
import Derived.MakeChecks
import Derived.Test.YtmlojdbahlfiaaaDoorM1IndexAll
import Derived.Test.YtmlojdbahlfiaaaDoorM2IndexAll
import Derived.Test.YtmlojdbahlfiaaaDoorM3IndexAll
import Derived.Test.YtmlojdbahlfiaaaDoorM4IndexAll
set_option linter.unusedVariables false
set_option linter.unusedSimpArgs false
namespace Go.Proofs.YtmlojdbahlfiaaaDoor.Tb
open Go.Px
variable {xm : Nat}

theorem rep_get {n i : Nat} {s : Slot} (h : (List.replicate n noSlot)[i]? = some s) : s = noSlot := by
  rw [List.getElem?_replicate] at h; split at h
  · injection h with h; exact h.symm
  · cases h
theorem rep_good (n : Nat) : Good (List.replicate n noSlot) := by
  refine ⟨fun i s h hl => ?_, fun i j s u hi hj hs => ?_, fun i s h hl => ?_, fun s hs => ?_⟩
  · rw [rep_get h] at hl; cases hl
  · rw [rep_get hi] at hs; cases hs
  · rw [rep_get h] at hl; cases hl
  · rw [List.eq_of_mem_replicate hs]; exact Nat.zero_le _
theorem rep_maps (n : Nat) : Maps (List.replicate n noSlot) (fun _ => none) := by
  intro k v
  constructor
  · intro h; cases h
  · rintro ⟨i, s, h, hl, _⟩; rw [rep_get h] at hl; cases hl
theorem rep_ne (n : Nat) : ne (List.replicate n noSlot) = 0 ∧ lv (List.replicate n noSlot) = 0 :=
  ⟨List.countP_eq_zero.2 fun s hs => by rw [List.eq_of_mem_replicate hs]; simp [Slot.nonE, noSlot], List.countP_eq_zero.2 fun s hs => by rw [List.eq_of_mem_replicate hs]; simp [noSlot]⟩

/-- to lay anew, one behind the other: words that are not there yet -/
theorem growM_ok : ∀ (old new : List Slot) (M : KV), Good new → Maps new M → lv new = ne new → ne new + lv old < new.length → small old →
    (∀ (i j : Nat) (s u : Slot), old[i]? = some s → old[j]? = some u → s.live = true → u.live = true → s.key = u.key → i = j) → (∀ s ∈ old, s.live = true → s.dead = true → False) → (∀ s ∈ old, s.live = true → M s.key = none) →
    ∃ fin, growM old new = some fin ∧ fin.length = new.length ∧ Good fin ∧ lv fin = ne fin ∧ ne fin = ne new + lv old ∧
      ∃ M', Maps fin M' ∧ ∀ k v, M' k = some v ↔ M k = some v ∨ ∃ s ∈ old, s.live = true ∧ s.key = k ∧ s.value = v
  | [], new, M, hg, hM, hln, hc, _, _, _, _ => ⟨new, rfl, rfl, hg, hln, by simp [lv], M, hM, fun k v => by simp⟩
  | s :: old, new, M, hg, hM, hln, hc, hsm, hun, hkd, hfr => by
    have hsm' : small old := fun u hu => hsm u (List.mem_cons_of_mem _ hu)
    have hun' : ∀ i j (s u : Slot), old[i]? = some s → old[j]? = some u → s.live = true → u.live = true → s.key = u.key → i = j := fun i j s' u hi hj h1 h2 h3 => by
      have := hun (i + 1) (j + 1) s' u (by simpa using hi) (by simpa using hj) h1 h2 h3; omega
    cases hl : s.live with
    | false =>
      have hlv : lv (s :: old) = lv old := by simp [lv, hl]
      obtain ⟨fin, h1, h2, h3, h4, h5, M', h6, h7⟩ := growM_ok old new M hg hM hln (by omega) hsm' hun' (fun u hu => hkd u (List.mem_cons_of_mem _ hu)) (fun u hu => hfr u (List.mem_cons_of_mem _ hu))
      refine ⟨fin, by simp only [growM, hl, Bool.false_eq_true, if_false]; exact h1, h2, h3, h4, by omega, M', h6, fun k v => ?_⟩
      rw [h7]
      constructor
      · rintro (h | ⟨u, hu, h⟩)
        · exact .inl h
        · exact .inr ⟨u, List.mem_cons_of_mem _ hu, h⟩
      · rintro (h | ⟨u, hu, h⟩)
        · exact .inl h
        · rcases List.mem_cons.1 hu with rfl | hu
          · rw [hl] at h; cases h.1
          · exact .inr ⟨u, hu, h⟩
    | true =>
      have hlv : lv (s :: old) = lv old + 1 := by simp [lv, hl]
      have hnone : M s.key = none := hfr s (List.mem_cons_self ..) hl
      have hab : ∀ (i : Nat) (u : Slot), new[i]? = some u → u.live = true → u.key = s.key → False := fun i u hi h1 h2 => by
        have := (hM s.key u.value).2 ⟨i, u, hi, h1, h2, rfl⟩
        rw [hnone] at this; cases this
      rcases find_total hg (by omega) s.key with ⟨i, u, _, hi, h1, h2⟩ | ⟨_, g, u, hf, hu, hul, hpre⟩
      · exact (hab i u hi h1 h2).elim
      · have hks := hsm s (List.mem_cons_self ..)
        have hud : u.dead = false := by
          cases hd : u.dead with
          | false => rfl
          | true =>
            exfalso
            -- more slots that are not empty than live ones
            have h1 := lv_set hu (⟨u.key, u.value, true, false⟩)
            have h2 := ne_set hu (⟨u.key, u.value, true, false⟩)
            simp [Slot.nonE, hul, hd] at h1 h2
            have h3 := ne_pos hu (by simp [Slot.nonE, hd])
            have h4 : lv (new.set (pos s.key new.length g) ⟨u.key, u.value, true, false⟩) ≤ ne (new.set (pos s.key new.length g) ⟨u.key, u.value, true, false⟩) := List.countP_mono_left fun x _ hx => by simp [Slot.nonE, hx]
            omega
        obtain ⟨hg', hM'⟩ := set_good hg hu hks s.value (fun h => by rw [hul] at h; cases h) (fun i u hi h1 h2 => (hab i u hi h1 h2).elim) ⟨g, rfl, hpre⟩
        have hsd : s.dead = false := by
          cases hd : s.dead with
          | false => rfl
          | true => exact (hkd s (List.mem_cons_self ..) hl hd).elim
        have e : (⟨s.key, s.value, true, false⟩ : Slot) = s := by
          obtain ⟨k, v, l, d⟩ := s
          dsimp only at hl hsd
          rw [hl, hsd]
        rw [e] at hg' hM'
        have hne' := ne_set hu s
        have hlv' := lv_set hu s
        simp only [Slot.nonE, hul, hud, hl, Bool.or_self, Bool.true_or, Bool.false_eq_true, if_false, if_true, Nat.sub_zero] at hne' hlv'
        have hlt := lt_of_get hu
        have hfresh : ∀ u ∈ old, u.live = true → (M.put s.key s.value) u.key = none := by
          intro u hu hul'
          simp only [KV.put]
          obtain ⟨i, hi⟩ := List.getElem?_of_mem hu
          rw [if_neg (fun he => by have := hun (i + 1) 0 u s (by simpa using hi) rfl hul' hl he; omega)]
          exact hfr u (List.mem_cons_of_mem _ hu) hul'
        obtain ⟨fin, h1, h2, h3, h4, h5, M', h6, h7⟩ := growM_ok old (new.set (pos s.key new.length g) s) (M.put s.key s.value) hg' (hM' M hM) (by omega) (by rw [List.length_set]; omega) hsm' hun' (fun u hu => hkd u (List.mem_cons_of_mem _ hu)) hfresh
        refine ⟨fin, ?_, by rw [h2, List.length_set], h3, h4, by omega, M', h6, fun k v => ?_⟩
        · simp only [growM, hl, if_true, hf]
          rw [if_pos (by omega)]
          exact h1
        · rw [h7]
          simp only [KV.put]
          constructor
          · rintro (h | ⟨u, hu, h⟩)
            · split at h
              · rename_i ek; injection h with h; exact .inr ⟨s, List.mem_cons_self .., hl, ek.symm, h⟩
              · exact .inl h
            · exact .inr ⟨u, List.mem_cons_of_mem _ hu, h⟩
          · rintro (h | ⟨u, hu, h⟩)
            · left
              rw [if_neg (fun ek => by rw [ek, hnone] at h; cases h)]
              exact h
            · rcases List.mem_cons.1 hu with rfl | hu
              · left; rw [if_pos h.2.1.symm, h.2.2]
              · exact .inr ⟨u, hu, h⟩

/-! ### the table as a whole; 'B': how many words there may be -/
def TI (B : Nat) (t : Tbl) (M : KV) : Prop :=
  (t.ss = [] ∧ t.live = 0 ∧ t.full = 0 ∧ M = fun _ => none) ∨
  (t.ss ≠ [] ∧ Good t.ss ∧ Maps t.ss M ∧ lv t.ss = t.live ∧ ne t.ss = t.full ∧ 2 * t.full ≤ t.ss.length ∧ 8 ≤ t.ss.length ∧ t.live ≤ B ∧ t.ss.length ≤ 8 + 4 * B)
theorem lv_le_ne (ss : List Slot) : lv ss ≤ ne ss := List.countP_mono_left fun x _ hx => by simp [Slot.nonE, hx]
theorem TI.ok {B : Nat} {t : Tbl} {M : KV} (h : TI B t M) (hB : B ≤ 1073741824) : t.Ok := by
  rcases h with ⟨h0, h1, h2, _⟩ | ⟨_, hg, _, h1, h2, h3, h4, h5, h6⟩
  · exact ⟨by omega, by omega, by rw [h0]; simp, by rw [h0]; intro s hs; cases hs⟩
  · exact ⟨by omega, by omega, by omega, hg.keys⟩

theorem grown_ok {B : Nat} {t : Tbl} {M : KV} (h : TI B t M) : ∃ t1, grownM t = some t1 ∧ t1.ss ≠ [] ∧ t1.live = t.live ∧ TI B t1 M ∧ 2 * (t1.full + 1) ≤ t1.ss.length ∧ (t1.ss.length = t.ss.length ∨ t1.ss.length = growN t.live) := by
  unfold grownM
  by_cases hgt : 2 * (t.full + 1) > t.ss.length
  · rw [if_pos hgt]
    have hN : 8 ≤ growN t.live ∧ 4 * t.live ≤ growN t.live ∧ growN t.live ≤ 8 + 4 * t.live ∧ 2 * (t.live + 1) ≤ growN t.live := by unfold growN; split <;> omega
    have hr := rep_ne (growN t.live)
    have hlen : (List.replicate (growN t.live) noSlot).length = growN t.live := by simp
    have key : ∀ (hg : Good t.ss) (hM : Maps t.ss M) (h1 : lv t.ss = t.live), ∃ fin, growM t.ss (List.replicate (growN t.live) noSlot) = some fin ∧ fin.length = growN t.live ∧ Good fin ∧ lv fin = t.live ∧ ne fin = t.live ∧ Maps fin M := by
      intro hg hM h1
      obtain ⟨fin, e1, e2, e3, e4, e5, M', e6, e7⟩ := growM_ok t.ss (List.replicate (growN t.live) noSlot) (fun _ => none) (rep_good _) (rep_maps _) (by omega) (by rw [hlen]; omega) hg.keys hg.uniq
        (fun s hs => by obtain ⟨i, hi⟩ := List.getElem?_of_mem hs; exact hg.kinds i s hi) (fun _ _ _ => rfl)
      refine ⟨fin, e1, by omega, e3, by omega, by omega, ?_⟩
      have : M' = M := by
        funext k
        have hk : ∀ v, M' k = some v ↔ M k = some v := by
          intro v
          rw [e7, hM]
          constructor
          · rintro (h | ⟨s, hs, h⟩)
            · cases h
            · obtain ⟨i, hi⟩ := List.getElem?_of_mem hs; exact ⟨i, s, hi, h⟩
          · rintro ⟨i, s, hi, h⟩; exact .inr ⟨s, List.mem_of_getElem? hi, h⟩
        cases h1 : M k with
        | none => cases h2 : M' k with
          | none => rfl
          | some v => have := (hk v).1 h2; rw [h1] at this; cases this
        | some v => exact (hk v).2 h1
      rw [← this]; exact e6
    have fin : ∀ fin, growM t.ss (List.replicate (growN t.live) noSlot) = some fin → fin.length = growN t.live → Good fin → lv fin = t.live → ne fin = t.live → Maps fin M → t.live ≤ B →
        ∃ t1, (growM t.ss (List.replicate (growN t.live) noSlot)).map (fun new => (⟨new, t.live, t.live⟩ : Tbl)) = some t1 ∧ t1.ss ≠ [] ∧ t1.live = t.live ∧ TI B t1 M ∧ 2 * (t1.full + 1) ≤ t1.ss.length ∧ (t1.ss.length = t.ss.length ∨ t1.ss.length = growN t.live) := by
      intro fin e1 e2 e3 e4 e5 e6 hB
      have hne : fin ≠ [] := fun h => by rw [h] at e2; simp at e2; omega
      exact ⟨⟨fin, t.live, t.live⟩, by rw [e1]; rfl, hne, rfl, .inr ⟨hne, e3, e6, e4, e5, by dsimp only; omega, by dsimp only; omega, hB, by dsimp only; omega⟩, by dsimp only; omega, .inr e2⟩
    rcases h with ⟨h0, h1, h2, h3⟩ | ⟨h0, hg, hM, h1, h2, h3, h4, h5, h6⟩
    · have hg0 : Good t.ss := by rw [h0]; exact ⟨fun i s h => by simp at h, fun i j s u h => by simp at h, fun i s h => by simp at h, fun s hs => by cases hs⟩
      have hM0 : Maps t.ss M := by
        rw [h3, h0]; intro k v
        constructor
        · intro h; cases h
        · rintro ⟨i, s, h, _⟩; simp at h
      obtain ⟨f, e1, e2, e3, e4, e5, e6⟩ := key hg0 hM0 (by rw [h0, h1]; rfl)
      exact fin f e1 e2 e3 e4 e5 e6 (by omega)
    · obtain ⟨f, e1, e2, e3, e4, e5, e6⟩ := key hg hM h1
      exact fin f e1 e2 e3 e4 e5 e6 h5
  · rw [if_neg hgt]
    have hne : t.ss ≠ [] := fun h0 => by rw [h0] at hgt; simp at hgt
    exact ⟨t, rfl, hne, rfl, h, by omega, .inl rfl⟩

theorem putM_ok {B B' : Nat} {t : Tbl} {M : KV} (h : TI B t M) (hBB : B ≤ B') (key : ByteArray) (v : Int) (hks : key.size ≤ 9223372036854775807) (hB : M key = none → t.live + 1 ≤ B') :
    ∃ t', putM t key v = some (t', (M key).isNone) ∧ TI B' t' (M.put key v) ∧ t'.live = (if (M key).isNone then t.live + 1 else t.live) ∧ (t'.ss.length = t.ss.length ∨ t'.ss.length = growN t.live) := by
  obtain ⟨t1, e1, e2, e3, e4, e5, e6⟩ := grown_ok h
  rcases e4 with ⟨h0, _⟩ | ⟨_, hg, hM, h1, h2, h3, h4, h5, h6⟩
  · exact absurd h0 e2
  have hf := find_total hg (by omega) key
  unfold putM
  rw [e1]
  simp only [Option.bind_some]
  unfold putAt
  rcases hf with ⟨i, s, hf, hi, hl, hk⟩ | ⟨hno, g, s, hf, hi, hl, hpre⟩
  · have hMk : M key = some s.value := (hM key _).2 ⟨i, s, hi, hl, hk, rfl⟩
    obtain ⟨d, hd, hd'⟩ := hg.reach i s hi hl
    rw [hk] at hd hd'
    obtain ⟨hg', hM'⟩ := set_good hg hi hks v (fun _ => hk) (fun j u hj hu hkk => hg.uniq j i u s hj hi hu hl (hkk.trans hk.symm)) ⟨d, hd, hd'⟩
    have a1 := ne_set hi (⟨key, v, true, false⟩)
    have a2 := lv_set hi (⟨key, v, true, false⟩)
    have a3 := lv_pos hi hl
    have a4 := lv_le_ne t1.ss
    simp [Slot.nonE, hl] at a1 a2
    rw [hf, hMk]
    simp only [Int.toNat_natCast, hi, if_true, Option.isNone_some]
    rw [if_pos (by omega)]
    refine ⟨_, rfl, .inr ⟨by simpa using e2, hg', hM' M hM, ?_, ?_, ?_, ?_, ?_, ?_⟩, ?_, ?_⟩ <;> (try dsimp only) <;> (try rw [List.length_set]) <;> (try simp) <;> omega
  · have hMk : M key = none := by
      cases hm : M key with
      | none => rfl
      | some x => obtain ⟨i, u, hiu, h1, h2, _⟩ := (hM key x).1 hm; exact (hno i u hiu h1 h2).elim
    obtain ⟨hg', hM'⟩ := set_good hg hi hks v (fun h => by rw [hl] at h; cases h) (fun j u hj hu hkk => (hno j u hj hu hkk).elim) ⟨g, rfl, hpre⟩
    have a1 := ne_set hi (⟨key, v, true, false⟩)
    have a2 := lv_set hi (⟨key, v, true, false⟩)
    have hB' := hB hMk
    rw [hf, hMk]
    simp only [Int.toNat_natCast, hi, Option.isNone_none, Bool.not_false, Bool.false_eq_true, if_false, if_true]
    rw [if_pos (by omega)]
    cases hd : s.dead with
    | true =>
      have a3 := ne_pos hi (by simp [Slot.nonE, hd])
      simp [Slot.nonE, hl, hd] at a1 a2
      refine ⟨_, rfl, .inr ⟨by simpa using e2, hg', hM' M hM, ?_, ?_, ?_, ?_, ?_, ?_⟩, ?_, ?_⟩ <;> (try dsimp only) <;> (try rw [List.length_set]) <;> (try simp) <;> omega
    | false =>
      simp [Slot.nonE, hl, hd] at a1 a2
      refine ⟨_, rfl, .inr ⟨by simpa using e2, hg', hM' M hM, ?_, ?_, ?_, ?_, ?_, ?_⟩, ?_, ?_⟩ <;> (try dsimp only) <;> (try rw [List.length_set]) <;> (try simp) <;> omega

theorem getM_ok {B : Nat} {t : Tbl} {M : KV} (h : TI B t M) (key : ByteArray) : getM t key = some ((M key).getD 0, (M key).isSome) := by
  unfold getM
  rcases h with ⟨h0, _, _, h3⟩ | ⟨h0, hg, hM, h1, h2, h3, h4, h5, h6⟩
  · rw [if_pos h0, h3]; rfl
  · rw [if_neg h0]
    rcases find_total hg (by omega) key with ⟨i, s, hf, hi, hl, hk⟩ | ⟨hno, g, s, hf, hi, hl, hpre⟩
    · have hMk : M key = some s.value := (hM key _).2 ⟨i, s, hi, hl, hk, rfl⟩
      rw [hf, hMk]
      simp [hi]
    · have hMk : M key = none := by
        cases hm : M key with
        | none => rfl
        | some x => obtain ⟨i, u, hiu, h1, h2, _⟩ := (hM key x).1 hm; exact (hno i u hiu h1 h2).elim
      rw [hf, hMk]
      simp

end Go.Proofs.YtmlojdbahlfiaaaDoor.Tb
/- The table's methods over a finite map; the document's examples; a word's place. -/
set_option linter.unusedVariables false
set_option linter.unusedSimpArgs false
namespace Go.Proofs.YtmlojdbahlfiaaaDoor.Tb
open Go.Px
variable {xm : Nat}

theorem Put_TI {B B' tb : Nat} {t : Tbl} {M : KV} {own : SH} (ho : TabO xm tb t own) (h : TI B t M) (hBB : B ≤ B') (hB30 : B' ≤ 1073741824) (key : ByteArray) (v : Int) (hks : key.size ≤ 9223372036854775807) (hB : M key = none → t.live + 1 ≤ B') (I : IMem) (F : SH) :
    Runs Tryd.prog 23 #[.pointer (some ⟨tb, 0, none⟩), .string key, .int .i64 v] I (own ++ F) fun w J T => w = .bool (M key).isNone ∧
      ∃ t' own', TabO xm tb t' own' ∧ TI B' t' (M.put key v) ∧ t'.live = (if (M key).isNone then t.live + 1 else t.live) ∧ (t'.ss.length = t.ss.length ∨ t'.ss.length = growN t.live) ∧ T = own' ++ F := by
  obtain ⟨t', e1, e2, e3, e4⟩ := putM_ok h hBB key v hks hB
  refine (Put_runs tb t t' own ho (h.ok (by omega)) ?_ key v _ hks e1 I F).mono ?_
  · intro t1 h1
    obtain ⟨t1', g1, g2, g3, g4, _⟩ := grown_ok h
    rw [h1] at g1; injection g1 with g1; subst g1
    exact ⟨g4.ok (by omega), g2⟩
  · rintro w J T hle ⟨rfl, own', ho', rfl⟩
    exact ⟨rfl, t', own', ho', e2, e3, e4, rfl⟩
theorem Get_TI {B tb : Nat} {t : Tbl} {M : KV} {own : SH} (ho : TabO xm tb t own) (h : TI B t M) (hB30 : B ≤ 1073741824) (key : ByteArray) (hks : key.size ≤ 9223372036854775807) (I : IMem) (F : SH) :
    Runs Tryd.prog 25 #[.pointer (some ⟨tb, 0, none⟩), .string key] I (own ++ F) fun w J T => w = .tuple #[.int .i64 ((M key).getD 0), .bool (M key).isSome] ∧ T = own ++ F :=
  Get_runs tb t own ho (h.ok hB30) key _ hks (getM_ok h key) I F
def noTbl : Tbl := ⟨[], 0, 0⟩
theorem noTbl_TI (B : Nat) : TI B noTbl (fun _ => none) := .inl ⟨rfl, rfl, rfl, rfl⟩
theorem noTbl_TabO (tb : Nat) : TabO xm tb noTbl [(tb, .cells #[.slice none 0 0, .int .i64 0, .int .i64 0, .map (some xm)] 71 (0, 0))] := .inl ⟨rfl, rfl⟩

end Go.Proofs.YtmlojdbahlfiaaaDoor.Tb
/- The trie's functions: May, common, Put, on trees of words. -/
set_option linter.unusedVariables false
set_option linter.unusedSimpArgs false
namespace Go.Proofs.YtmlojdbahlfiaaaDoor.Tr
open Go.Px

theorem lcp_at {a b : List Bool} {k : Nat} (h : k < lcp a b) : a[k]? = b[k]? := by
  have := congrArg (fun l : List Bool => l[k]?) (lcp_take a b)
  simpa [List.getElem?_take, h] using this
theorem sg_inj {a b : Bool} (h : ((sg a).toNat : Int) = ((sg b).toNat : Int)) : a = b := by revert h; cases a <;> cases b <;> decide
theorem common_runs (a b : List Bool) (hb : b.length ≤ 4611686018427387904) (I : IMem) (S : SH) :
    Runs Tryd.prog 41 #[.string (eb a), .string (eb b)] I S fun v J T => v = .int .i64 (lcp a b : Nat) ∧ J = I ∧ T = S := by
  refine trie_common_fn _ _ _ _ _ ?_
  refine ⟨fun m a' b' n J T => a' = eb a ∧ b' = eb b ∧ J = I ∧ T = S ∧ ∃ k : Nat, n = (k : Int) ∧ m + k = lcp a b, lcp a b, ⟨rfl, rfl, rfl, rfl, 0, rfl, rfl⟩, ?_⟩
  rintro m a' b' n J T _ ⟨rfl, rfl, rfl, rfl, k, rfl, hm⟩
  have hle := lcp_le a b
  have stop : k = lcp a b → trie_common_b3 (fun a_0 b_1 n_5 I S => ∃ m', m' < m ∧ a_0 = eb a ∧ b_1 = eb b ∧ I = J ∧ S = T ∧ ∃ k : Nat, n_5 = (k : Int) ∧ m' + k = lcp a b) (fun v J' T' => v = .int .i64 (lcp a b : Nat) ∧ J' = J ∧ T' = T) (eb a) (eb b) k false J T := fun h => ⟨by rw [h], rfl, rfl⟩
  refine bcase_dec (fun h1 => ?_) (fun h1 => ?_)
  · refine bcase_dec (fun h2 => ?_) (fun h2 => ?_)
    · rw [eb_size] at h1 h2
      have e1 : a[k]? = some (a[k]'(by omega)) := List.getElem?_eq_getElem _
      have e2 : b[k]? = some (b[k]'(by omega)) := List.getElem?_eq_getElem _
      generalize a[k]'(by omega) = x at e1
      generalize b[k]'(by omega) = y at e2
      refine ⟨sg x, by omega, by rw [eb_get]; simp [e1], sg y, by omega, by rw [eb_get]; simp [e2], ?_⟩
      by_cases hxy : x = y
      · subst hxy
        rw [show (((sg x).toNat : Int) == ((sg x).toNat : Int)) = true by simp]
        have : k ≠ lcp a b := fun h => lcp_ne a b x x (h ▸ e1) (h ▸ e2) rfl
        exact ⟨m - 1, by omega, rfl, rfl, rfl, rfl, k + 1, by rw [wrap_i64 (by omega) (by omega)]; rfl, by omega⟩
      · rw [show (((sg x).toNat : Int) == ((sg y).toNat : Int)) = false by rw [beq_eq_false_iff_ne]; exact fun h => hxy (sg_inj h)]
        refine stop ?_
        rcases Nat.lt_or_ge k (lcp a b) with h | h
        · have := lcp_at h; rw [e1, e2] at this; injection this with this; exact absurd this hxy
        · omega
    · rw [eb_size] at h2; exact stop (by omega)
  · rw [eb_size] at h1; exact stop (by omega)

theorem May_runs (s : ByteArray) (hs : s.size ≤ 4611686018427387904) (I : IMem) (S : SH) :
    Runs Tryd.prog 40 #[.string s] I S fun v J T => ∃ b, v = .bool b ∧ (b = true ↔ signs s ∧ s.size ≤ 128) ∧ J = I ∧ T = S := by
  refine trie_May_fn _ _ _ _ ?_
  refine ⟨fun m s' x5 x6 J T => s' = s ∧ x5 = (s.size : Int) ∧ J = I ∧ T = S ∧ ∃ k : Nat, x6 = (k : Int) ∧ m + k = s.size ∧ ∀ (i : Nat) (c : UInt8), i < k → s[i]? = some c → c = 48 ∨ c = 49, s.size, ⟨rfl, rfl, rfl, rfl, 0, rfl, rfl, fun i c h => absurd h (Nat.not_lt_zero _)⟩, ?_⟩
  rintro m s' x5 x6 J T _ ⟨rfl, rfl, rfl, rfl, k, rfl, hm, hall⟩
  refine bcase_dec (fun h1 => ?_) (fun h1 => ?_)
  · obtain ⟨c, hc⟩ : ∃ c, s'[k]? = some c := ⟨_, getElem?_pos s' k (by omega)⟩
    have bad : ¬ (c = 48 ∨ c = 49) → (∃ b, Value.bool false = .bool b ∧ (b = true ↔ signs s' ∧ s'.size ≤ 128) ∧ J = J ∧ T = T) := fun h => ⟨false, rfl, ⟨(fun h => by cases h), fun g => absurd (g.1 k c hc) h⟩, rfl, rfl⟩
    have good : c = 48 ∨ c = 49 → ∃ m', m' < m ∧ s' = s' ∧ (s'.size : Int) = (s'.size : Int) ∧ J = J ∧ T = T ∧ ∃ k' : Nat, IntKind.wrap .i64 ((k : Int) + 1) = (k' : Int) ∧ m' + k' = s'.size ∧ ∀ (i : Nat) (c : UInt8), i < k' → s'[i]? = some c → c = 48 ∨ c = 49 := fun h =>
      ⟨m - 1, by omega, rfl, rfl, rfl, rfl, k + 1, by rw [wrap_i64 (by omega) (by omega)]; rfl, by omega, fun i c' hi hc' => by
        rcases Nat.lt_or_ge i k with g | g
        · exact hall i c' g hc'
        · obtain rfl : i = k := by omega
          rw [hc] at hc'; injection hc' with hc'; exact hc' ▸ h⟩
    have e48 : ((c.toNat : Int) = 48) ↔ c = 48 := ⟨fun h => UInt8.toNat_inj.1 (by show c.toNat = 48; omega), fun h => by rw [h]; rfl⟩
    have e49 : ((c.toNat : Int) = 49) ↔ c = 49 := ⟨fun h => UInt8.toNat_inj.1 (by show c.toNat = 49; omega), fun h => by rw [h]; rfl⟩
    refine ⟨c, by omega, by simpa using hc, ?_⟩
    by_cases h48 : c = 48
    · rw [show ((c.toNat : Int) != 48) = false by simpa using e48.2 h48]
      exact good (.inl h48)
    · rw [show ((c.toNat : Int) != 48) = true by simpa using fun h => h48 (e48.1 h)]
      refine ⟨c, by omega, by simpa using hc, ?_⟩
      by_cases h49 : c = 49
      · rw [show ((c.toNat : Int) != 49) = false by simpa using e49.2 h49]
        exact good (.inr h49)
      · rw [show ((c.toNat : Int) != 49) = true by simpa using fun h => h49 (e49.1 h)]
        exact bad (fun h => h.elim h48 h49)
  · refine ⟨_, rfl, ?_, rfl, rfl⟩
    have hsg : signs s' := fun i c hc => hall i c (by
      rcases Nat.lt_or_ge i s'.size with h | h
      · omega
      · rw [getElem?_neg s' i (by omega)] at hc; cases hc) hc
    simp only [decide_eq_true_eq]
    exact ⟨fun h => ⟨hsg, by omega⟩, fun h => by omega⟩
theorem May_word (k : List Bool) (hk : k.length ≤ 128) (I : IMem) (S : SH) : Runs Tryd.prog 40 #[.string (eb k)] I S fun v J T => v = .bool true ∧ J = I ∧ T = S := by
  refine (May_runs (eb k) (by rw [eb_size]; omega) I S).mono ?_
  rintro v J T _ ⟨b, rfl, hb, rfl, rfl⟩
  rw [hb.2 ⟨eb_signs k, by rw [eb_size]; exact hk⟩]
  exact ⟨rfl, rfl, rfl⟩

/-! ### trees in memory -/
def nodO (b : Nat) (bits : List Bool) (w : Option Int) (pl pr : Option Addr) : Nat × Obj := (b, .cells #[.string (eb bits), .bool w.isSome, .int .i64 (w.getD 0), .pointer pl, .pointer pr] 115 (0, 0))
def trO (tb : Nat) (p : Option Addr) (n : Int) : Nat × Obj := (tb, .cells #[.pointer p, .int .i64 n] 111 (0, 0))
def Rep : Sh → Option Addr → SH → Prop
  | .nil, p, S => p = none ∧ S = []
  | .node bits w l r, p, S => ∃ b pl pr Sl Sr, p = some ⟨b, 0, none⟩ ∧ S = nodO b bits w pl pr :: (Sl ++ Sr) ∧ Rep l pl Sl ∧ Rep r pr Sr
/-- where a tree hangs, and where the size lies: a context -/
structure Ctx (J : IMem) (at_ sz : Addr) (G : Option Addr → Int → SH) : Prop where
  ra : ∀ p n, Cell J (G p n) at_ (.pointer p)
  rs : ∀ p n, Cell J (G p n) sz (.int .i64 n)
  wa : ∀ p n q K, K (G q n) → StP (G p n) at_ [.pointer q] K
  ws : ∀ p n m K, K (G p m) → StP (G p n) sz [.int .i64 m] K
theorem StP.appR {X S : SH} {a : Addr} {vs : List Value} {K : SH → Prop} (h : StP S a vs fun T => K (X ++ T)) : StP (X ++ S) a vs K := by
  induction X generalizing K with
  | nil => exact h
  | cons x X ih => exact StP.tl (ih h)
theorem Cell.appR {I : IMem} {X S : SH} {a : Addr} {v : Value} (h : Cell I S a v) : Cell I (X ++ S) a v := by
  induction X with
  | nil => exact h
  | cons x X ih => exact Cell.tl ih
def kid (b : Nat) (d : Bool) : Addr := ⟨b, bif d then 4 else 3, none⟩
theorem kid_eq (b : Nat) (d : Bool) : ((⟨b, 0, none⟩ : Addr).add 3).add ((IntKind.wrap .u8 (((sg d).toNat : Int) - (48 : Int))).toNat * 1) = kid b d := by cases d <;> rfl
theorem kid_in (d : Bool) : (0 : Int) ≤ IntKind.wrap .u8 (((sg d).toNat : Int) - (48 : Int)) ∧ IntKind.wrap .u8 (((sg d).toNat : Int) - (48 : Int)) < ((2 : Nat) : Int) := by cases d <;> decide
theorem Ctx.top (J : IMem) (tb : Nat) (F : SH) : Ctx J ⟨tb, 0, none⟩ ⟨tb, 1, none⟩ fun p n => trO tb p n :: F where
  ra p n := Cell.at0 rfl
  rs p n := Cell.at0 rfl
  wa p n q K h := StP.at0 (by simp) rfl h
  ws p n m K h := StP.at0 (by simp) rfl h
theorem Ctx.left {J : IMem} {at_ sz : Addr} {G : Option Addr → Int → SH} (h : Ctx J at_ sz G) (b : Nat) (bits : List Bool) (w : Option Int) (pr : Option Addr) (Sr : SH) :
    Ctx J (kid b false) sz fun p n => nodO b bits w p pr :: (Sr ++ G (some ⟨b, 0, none⟩) n) where
  ra p n := Cell.at0 rfl
  rs p n := Cell.tl (Cell.appR (h.rs _ n))
  wa p n q K hK := StP.at0 (by simp) rfl hK
  ws p n m K hK := StP.tl (StP.appR (h.ws _ n m _ hK))
theorem Ctx.right {J : IMem} {at_ sz : Addr} {G : Option Addr → Int → SH} (h : Ctx J at_ sz G) (b : Nat) (bits : List Bool) (w : Option Int) (pl : Option Addr) (Sl : SH) :
    Ctx J (kid b true) sz fun p n => nodO b bits w pl p :: (Sl ++ G (some ⟨b, 0, none⟩) n) where
  ra p n := Cell.at0 rfl
  rs p n := Cell.tl (Cell.appR (h.rs _ n))
  wa p n q K hK := StP.at0 (by simp) rfl hK
  ws p n m K hK := StP.tl (StP.appR (h.ws _ n m _ hK))

/-! ### Put -/
def putInv (R : Value → IMem → SH → Prop) (m : Nat) (t : Option Addr) (key : ByteArray) (v : Int) (at_ : Option Addr) (I : IMem) (S : SH) : Prop :=
  trie_Trie_Put_l2 (fun t key v at_ I S => ∃ m', ∃ _ : m' < m, putInv R m' t key v at_ I S) R t key v at_ I S
termination_by m
theorem putInv_eq (R : Value → IMem → SH → Prop) (m : Nat) (t : Option Addr) (key : ByteArray) (v : Int) (at_ : Option Addr) (I : IMem) (S : SH) : putInv R m t key v at_ I S =
    trie_Trie_Put_l2 (fun t key v at_ I S => ∃ m', m' < m ∧ putInv R m' t key v at_ I S) R t key v at_ I S := by
  rw [putInv]; simp only [exists_prop]
def PutAt (R : Value → IMem → SH → Prop) (tb : Nat) (t : Sh) (m : Nat) (k : List Bool) : Prop := ∀ (v : Int) (p : Option Addr) (S : SH) (at_ : Addr) (G : Option Addr → Int → SH) (n : Int) (J : IMem) (T : SH),
  k.length ≤ 128 → 0 ≤ n → n ≤ 4611686018427387904 → Ctx J at_ ⟨tb, 1, none⟩ G → Rep t p S → Sub (S ++ G p n) T →
  (∀ q S' T', Rep (t.put k v) q S' → Sub (S' ++ G q (n + if (t.find k).isSome then 0 else 1)) T' → R (.bool (t.find k).isNone) J T') → putInv R m (some ⟨tb, 0, none⟩) (eb k) v (some at_) J T
theorem put_nil (R : Value → IMem → SH → Prop) (tb m : Nat) (k : List Bool) : PutAt R tb .nil m k := by
  rintro v p S at_ G n J T hk hn0 hn hc ⟨rfl, rfl⟩ hs hR
  rw [putInv_eq]
  refine ⟨none, Sub.cell' hs (hc.ra none n), ?_⟩
  show ∀ b : Nat, _
  intro b
  refine StP.tl (StP.of_sub hs (hc.wa none n _ _ fun T' hs' => ?_))
  refine ⟨n, Cell.tl (Sub.cell' hs' (hc.rs _ n)), StP.tl (StP.of_sub hs' (hc.ws _ n _ _ fun T2 hs2 => ?_))⟩
  rw [wrap_i64 (by omega) (by omega)] at hs2
  exact hR _ [nodO b k (some v) none none] _ ⟨b, none, none, [], [], rfl, rfl, ⟨rfl, rfl⟩, ⟨rfl, rfl⟩⟩ (hs2.cons _)
theorem put_step {R : Value → IMem → SH → Prop} {tb m : Nat} {bits : List Bool} {w : Option Int} {l r : Sh} {k : List Bool} (hge : ¬ lcp bits k < bits.length)
    (hl : ∀ rest, k = bits ++ false :: rest → PutAt R tb l m (false :: rest)) (hr : ∀ rest, k = bits ++ true :: rest → PutAt R tb r m (true :: rest)) : PutAt R tb (.node bits w l r) (m + 1) k := by
  rintro v p S at_ G n J T hk hn0 hn hc ⟨b, pl, pr, Sl, Sr, rfl, rfl, hrl, hrr⟩ hs hR
  have hkk := lcp_full hge
  generalize hrest : k.drop bits.length = rest at hkk
  subst hkk
  rw [putInv_eq]
  refine ⟨some ⟨b, 0, none⟩, Sub.cell' hs (Cell.appR (hc.ra _ n)), ?_⟩
  refine ⟨eb bits, Sub.cell' hs (Cell.at0 rfl), (common_runs bits (bits ++ rest) (by omega) J T).mono ?_⟩
  rintro _ J' T' _ ⟨rfl, rfl, rfl⟩
  rw [lcp_append]
  refine ⟨_, rfl, eb bits, Sub.cell' hs (Cell.at0 rfl), ?_⟩
  rw [eb_size]
  refine bcase_dec (fun h => absurd h (by omega)) (fun _ => ?_)
  rw [trie_Trie_Put_b7, eb_size]
  rw [Sh.put, if_neg hge, hrest] at hR
  rw [Sh.find_app] at hR
  cases rest with
  | nil =>
    rw [show (((bits.length : Nat) : Int) == (((bits ++ ([] : List Bool)).length : Nat) : Int)) = true by simp]
    dsimp only at hR
    refine ⟨w.isSome, Sub.cell' hs (Cell.at0 rfl), ?_⟩
    have fin : ∀ n' T', Sub (nodO b bits w pl pr :: (Sl ++ Sr) ++ G (some ⟨b, 0, none⟩) n') T' → n' = (n + if w.isSome = true then 0 else 1) → trie_Trie_Put_b9 (fun t key v at_ I S => ∃ m', m' < m + 1 ∧ putInv R m' t key v at_ I S) R v (some ⟨b, 0, none⟩) (!w.isSome) J' T' := by
      rintro n' T' hs' rfl
      show StP T' ⟨b, 1, none⟩ [.bool true] fun S1 => StP S1 ⟨b, 2, none⟩ [.int .i64 v] fun S1' => R (.bool (!w.isSome)) J' S1'
      refine StP.of_sub hs' (StP.at0 (o := 1) (vs := [.bool true]) (by simp) rfl fun T2 hs2 => ?_)
      refine StP.of_sub hs2 (StP.at0 (o := 2) (vs := [.int .i64 v]) (by simp [setR]) rfl fun T3 hs3 => ?_)
      have := hR (some ⟨b, 0, none⟩) (nodO b bits (some v) pl pr :: (Sl ++ Sr)) T3 ⟨b, pl, pr, Sl, Sr, rfl, rfl, hrl, hrr⟩ hs3
      cases w <;> exact this
    cases w with
    | some x => exact fin n T' hs (by simp)
    | none =>
      refine ⟨n, Sub.cell' hs (Cell.appR (hc.rs _ n)), StP.of_sub hs (StP.appR (hc.ws _ n _ _ fun T2 hs2 => ?_))⟩
      rw [wrap_i64 (by omega) (by omega)] at hs2
      exact fin _ T2 hs2 rfl
  | cons d rest =>
    rw [show (((bits.length : Nat) : Int) == (((bits ++ d :: rest).length : Nat) : Int)) = false by simp; omega]
    dsimp only at hR
    refine ⟨sg d, by omega, by rw [eb_get]; simp, (kid_in d).1, (kid_in d).2, by omega, by rw [eb_size]; simp; omega, ?_⟩
    rw [kid_eq, eb_size, eb_extract, show List.drop (((bits.length : Nat) : Int).toNat) (List.take (bits ++ d :: rest).length (bits ++ d :: rest)) = d :: rest by rw [List.take_length]; simp]
    rw [List.length_append] at hk
    cases d with
    | false =>
      refine ⟨m, by omega, hl rest rfl v pl Sl (kid b false) _ n _ _ (by omega) hn0 hn (hc.left b bits w pr Sr) hrl (hs.perm ?_) ?_⟩
      · simp only [List.cons_append, List.append_assoc]
        exact List.perm_middle.symm
      · intro q S' T2 hq hs2
        refine hR _ _ T2 ⟨b, q, pr, S', Sr, rfl, rfl, hq, hrr⟩ (hs2.perm ?_)
        simp only [List.cons_append, List.append_assoc]
        exact List.perm_middle
    | true =>
      refine ⟨m, by omega, hr rest rfl v pr Sr (kid b true) _ n _ _ (by omega) hn0 hn (hc.right b bits w pl Sl) hrr (hs.perm ?_) ?_⟩
      · simp only [List.cons_append, List.append_assoc]
        refine List.Perm.trans (List.Perm.cons _ ?_) List.perm_middle.symm
        rw [← List.append_assoc, ← List.append_assoc]
        exact List.perm_append_comm.append_right _
      · intro q S' T2 hq hs2
        refine hR _ _ T2 ⟨b, pl, q, Sl, S', rfl, rfl, hrl, hq⟩ (hs2.perm ?_)
        simp only [List.cons_append, List.append_assoc]
        refine List.perm_middle.trans (List.Perm.cons _ ?_)
        rw [← List.append_assoc, ← List.append_assoc]
        exact List.perm_append_comm.append_right _
end Go.Proofs.YtmlojdbahlfiaaaDoor.Tr
/- The trie's functions: Put, Longest, Len, on trees of words. -/
set_option linter.unusedVariables false
set_option linter.unusedSimpArgs false
namespace Go.Proofs.YtmlojdbahlfiaaaDoor.Tr
open Go.Px

theorem put_split {R : Value → IMem → SH → Prop} {tb m : Nat} {bits : List Bool} {w : Option Int} {l r : Sh} {k : List Bool} (hlt : lcp bits k < bits.length) : PutAt R tb (.node bits w l r) (m + 2) k := by
  rintro v p S at_ G n J T hk hn0 hn hc ⟨b, pl, pr, Sl, Sr, rfl, rfl, hrl, hrr⟩ hs hR
  have hb : bits[lcp bits k]? = some bits[lcp bits k] := List.getElem?_eq_getElem hlt
  generalize bits[lcp bits k]'hlt = d at hb
  obtain ⟨e, hbe⟩ : ∃ e, bits.drop (lcp bits k) = d :: e := by
    have h := List.drop_eq_getElem_cons hlt
    rw [List.getElem?_eq_getElem hlt] at hb
    injection hb with hb
    exact ⟨_, hb ▸ h⟩
  have hn' : ∀ c rest, k.drop (lcp bits k) = c :: rest → c ≠ d := fun c rest h e => lcp_ne bits k d c hb (by rw [← List.head?_drop, h]; rfl) e.symm
  have htk := lcp_take bits k
  have hkk : k = bits.take (lcp bits k) ++ k.drop (lcp bits k) := by rw [htk, List.take_append_drop]
  have hpl : (bits.take (lcp bits k)).length = lcp bits k := by rw [List.length_take]; omega
  rw [Sh.find_lt hlt] at hR
  rw [Sh.put, if_pos hlt, hb] at hR
  rw [hbe] at hR
  have hi : n + (if (none : Option Int).isSome = true then 0 else 1) = n + 1 := by simp
  rw [hi] at hR
  have hkl := (lcp_le bits k).2
  rw [putInv_eq]
  refine ⟨some ⟨b, 0, none⟩, Sub.cell' hs (Cell.appR (hc.ra _ n)), ?_⟩
  refine ⟨eb bits, Sub.cell' hs (Cell.at0 rfl), (common_runs bits k (by omega) J T).mono ?_⟩
  rintro _ J' T' _ ⟨rfl, rfl, rfl⟩
  refine ⟨_, rfl, eb bits, Sub.cell' hs (Cell.at0 rfl), ?_⟩
  rw [eb_size]
  refine bcase_dec (fun h => ?_) (fun h => absurd h (by omega))
  refine ⟨eb bits, Sub.cell' hs (Cell.at0 rfl), by omega, by rw [eb_size]; omega, ?_⟩
  intro pb
  rw [eb_extract, show ((lcp bits k : Nat) : Int).toNat = lcp bits k by omega, List.drop_zero]
  generalize hp : bits.take (lcp bits k) = pre at *
  -- the part's cells
  have hs1 : Sub ((pb, Obj.cells #[.string (eb pre), .bool false, .int .i64 0, .pointer none, .pointer none] 115 (0, 0)) :: (nodO b bits w pl pr :: (Sl ++ Sr) ++ G (some ⟨b, 0, none⟩) n)) ((pb, Obj.cells #[.string (eb pre), .bool false, .int .i64 0, .pointer none, .pointer none] 115 (0, 0)) :: T') := hs.cons _
  refine ⟨eb bits, Sub.cell' hs1 (Cell.tl (Cell.at0 rfl)), sg d, by omega, by rw [eb_get, show ((lcp bits k : Nat) : Int).toNat = lcp bits k by omega, hb]; rfl, (kid_in d).1, (kid_in d).2, ?_⟩
  rw [kid_eq]
  refine StP.of_sub (K := fun S1 => trie_Trie_Put_b6 _ R _ _ _ _ _ _ _ _ S1) hs1 (StP.at0 (by cases d <;> simp) rfl fun T2 hs2 => ?_)
  refine ⟨eb bits, Sub.cell' hs2 (Cell.tl (Cell.at0 rfl)), by omega, by rw [eb_size]; omega, ?_⟩
  rw [eb_extract, show ((lcp bits k : Nat) : Int).toNat = lcp bits k by omega, eb_size, List.take_length, hbe]
  refine StP.of_sub hs2 (StP.tl (StP.at0 (o := 0) (vs := [.string (eb (d :: e))]) (by simp) rfl fun T3 hs3 => ?_))
  refine StP.of_sub hs3 (StP.tl (StP.tl (StP.appR (X := Sl ++ Sr) (hc.wa _ n (some ⟨pb, 0, none⟩) _ fun T4 hs4 => ?_))))
  -- from here on: the part, which needs no cut
  refine ⟨m + 1, by omega, ?_⟩
  have hng : ¬ lcp pre k < pre.length := by
    rw [hkk, lcp_append]; omega
  have kidnil : ∀ c rest, k = pre ++ c :: rest → c ≠ d := fun c rest h => hn' c rest (by rw [← hpl, h, List.drop_left])
  have hhas : (Sh.sub pre none d (.node (d :: e) w l r) .nil).find k = none := by
    rw [hkk, Sh.sub_find]
    cases hkd : k.drop (lcp bits k) with
    | nil => rfl
    | cons c rest => dsimp only; rw [if_neg (hn' c rest hkd)]; rfl
  have hput : (Sh.sub pre none d (.node (d :: e) w l r) .nil).put k v = match k.drop (lcp bits k) with
      | [] => Sh.sub pre (some v) d (.node (d :: e) w l r) .nil
      | c :: rest => Sh.sub pre none d (.node (d :: e) w l r) (.node (c :: rest) (some v) .nil .nil) := by
    have hdr : k.drop pre.length = k.drop (lcp bits k) := by rw [hpl]
    cases hkd : k.drop (lcp bits k) with
    | nil => cases d <;> simp only [Sh.sub, cond_true, cond_false, Sh.put, if_neg hng, hdr, hkd]
    | cons c rest =>
      have := hn' c rest hkd
      cases d <;> cases c <;> first | exact absurd rfl this | simp only [Sh.sub, cond_true, cond_false, Sh.put, if_neg hng, hdr, hkd]
  have fin : ∀ q S' T', Rep ((Sh.sub pre none d (.node (d :: e) w l r) .nil).put k v) q S' → Sub (S' ++ G q (n + if ((Sh.sub pre none d (.node (d :: e) w l r) .nil).find k).isSome then 0 else 1)) T' → R (.bool ((Sh.sub pre none d (.node (d :: e) w l r) .nil).find k).isNone) J' T' := by
    rw [hhas, hput, hi]
    intro q S' T' hq hs'
    refine hR q S' T' ?_ hs'
    revert hq
    cases k.drop (lcp bits k) <;> exact id
  cases d with
  | false =>
    refine put_step (w := none) (l := .node (false :: e) w l r) (r := .nil) hng (fun rest h => absurd rfl (kidnil _ _ h)) (fun rest _ => put_nil R tb m _) v _ ((pb, _) :: ((nodO b (false :: e) w pl pr :: (Sl ++ Sr)) ++ [])) at_ G n J' T4 hk hn0 hn hc
      ⟨pb, some ⟨b, 0, none⟩, none, _, [], rfl, rfl, ⟨b, pl, pr, Sl, Sr, rfl, rfl, hrl, hrr⟩, ⟨rfl, rfl⟩⟩ ?_ fin
    simp only [List.append_nil, List.nil_append, List.cons_append]
    exact hs4
  | true =>
    refine put_step (w := none) (l := .nil) (r := .node (true :: e) w l r) hng (fun rest _ => put_nil R tb m _) (fun rest h => absurd rfl (kidnil _ _ h)) v _ ((pb, _) :: ([] ++ (nodO b (true :: e) w pl pr :: (Sl ++ Sr)))) at_ G n J' T4 hk hn0 hn hc
      ⟨pb, none, some ⟨b, 0, none⟩, [], _, rfl, rfl, ⟨rfl, rfl⟩, ⟨b, pl, pr, Sl, Sr, rfl, rfl, hrl, hrr⟩⟩ ?_ fin
    simp only [List.append_nil, List.nil_append, List.cons_append]
    exact hs4

def Sh.ht : Sh → Nat
  | .nil => 0
  | .node _ _ l r => 2 + l.ht + r.ht
theorem put_ok (R : Value → IMem → SH → Prop) (tb : Nat) : ∀ (t : Sh) (m : Nat) (k : List Bool), t.ht ≤ m → PutAt R tb t m k
  | .nil, m, k, _ => put_nil R tb m k
  | .node bits w l r, m, k, h => by
    simp only [Sh.ht] at h
    by_cases hlt : lcp bits k < bits.length
    · have := put_split (R := R) (tb := tb) (m := m - 2) (w := w) (l := l) (r := r) hlt
      rwa [show m - 2 + 2 = m by omega] at this
    · have := put_step (R := R) (tb := tb) (m := m - 1) (w := w) (l := l) (r := r) hlt (fun rest _ => put_ok R tb l _ _ (by omega)) (fun rest _ => put_ok R tb r _ _ (by omega))
      rwa [show m - 1 + 1 = m by omega] at this

/-- a trie in memory -/
def TriO (tb : Nat) (t : Sh) (own : SH) : Prop := ∃ p S, Rep t p S ∧ own = S ++ [trO tb p (t.cnt : Nat)]
theorem Put_runs (tb : Nat) (t : Sh) (hw : t.wf) (hcnt : t.cnt ≤ 4611686018427387904) (own : SH) (ho : TriO tb t own) (k : List Bool) (hk : k.length ≤ 128) (v : Int) (I : IMem) (F : SH) :
    Runs Tryd.prog 21 #[.pointer (some ⟨tb, 0, none⟩), .string (eb k), .int .i64 v] I (own ++ F) fun x J T => x = .bool (t.find k).isNone ∧ ∃ own', TriO tb (t.put k v) own' ∧ T = own' ++ F := by
  obtain ⟨p, S, hr, rfl⟩ := ho
  refine Runs.drop (trie_Trie_Put_fn _ _ _ _ _ _ ?_)
  refine (May_word k hk _ _).mono ?_
  rintro _ J T _ ⟨rfl, rfl, rfl⟩
  refine ⟨true, rfl, ?_⟩
  refine ⟨putInv (fun x J T => ∃ L, Sub L T ∧ x = .bool (t.find k).isNone ∧ ∃ own', TriO tb (t.put k v) own' ∧ L = own' ++ F), t.ht, ?_, fun m t' key' v' at' J T _ h => by rw [putInv_eq] at h; exact h⟩
  refine put_ok _ tb t t.ht k (Nat.le_refl _) v p S ⟨tb, 0, none⟩ (fun p n => trO tb p n :: F) (t.cnt : Nat) J _ hk (by omega) (by omega) (Ctx.top J tb F) hr ?_ ?_
  · simp only [List.append_assoc, List.singleton_append]; exact Sub.refl _
  · intro q S' T' hq hs
    refine ⟨_, hs, rfl, S' ++ [trO tb q ((t.put k v).cnt : Nat)], ⟨q, S', hq, rfl⟩, ?_⟩
    rw [Sh.put_cnt t k v hw]
    simp only [List.append_assoc, List.singleton_append]
    congr 3
    cases (t.find k).isSome <;> simp
end Go.Proofs.YtmlojdbahlfiaaaDoor.Tr
/- The trie's functions: Longest, Get, Len, Nodes, on trees of words. -/
set_option linter.unusedVariables false
set_option linter.unusedSimpArgs false
namespace Go.Proofs.YtmlojdbahlfiaaaDoor.Tr
open Go.Px

def encL (b : Option (Int × Nat)) : Array Value := match b with
  | none => #[.int .i64 0, .int .i64 0, .bool false]
  | some (v, n) => #[.int .i64 v, .int .i64 (n : Nat), .bool true]
def walkInv (res : Option (Int × Nat)) (m : Nat) (key : ByteArray) (value length : Int) (is : Bool) (deep : Int) (n : Option Addr) (T : SH) : Prop :=
  ∃ (t : Sh) (k : List Bool) (S : SH) (d : Nat) (best : Option (Int × Nat)), key = eb k ∧ #[.int .i64 value, .int .i64 length, .bool is] = encL best ∧ deep = (d : Int) ∧ d + k.length ≤ 128 ∧ Rep t n S ∧ Sub S T ∧ t.walk k d best = res ∧ t.ht ≤ m
theorem encL_some {v n : Int} {is : Bool} {best : Option (Int × Nat)} (h : #[.int .i64 v, .int .i64 n, .bool is] = encL best) : Value.tuple #[.int .i64 v, .int .i64 n, .bool is] = .tuple (encL best) := by rw [h]
theorem Longest_runs (tb : Nat) (t : Sh) (own : SH) (ho : TriO tb t own) (k : List Bool) (hk : k.length ≤ 128) (I : IMem) (F : SH) :
    Runs Tryd.prog 27 #[.pointer (some ⟨tb, 0, none⟩), .string (eb k)] I (own ++ F) fun x J T => x = .tuple (encL (t.walk k 0 none)) ∧ T = own ++ F := by
  obtain ⟨p, S, hr, rfl⟩ := ho
  refine trie_Trie_Longest_fn _ _ _ _ _ ?_
  refine (May_word k hk _ _).mono ?_
  rintro _ J T _ ⟨rfl, rfl, rfl⟩
  refine ⟨true, rfl, p, ?_, ?_⟩
  · rw [List.append_assoc]; exact Cell.appR (Cell.at0 rfl)
  refine ⟨fun m key value length is deep n J' T => T = S ++ [trO tb p (t.cnt : Nat)] ++ F ∧ walkInv (t.walk k 0 none) m key value length is deep n T, t.ht,
    ⟨rfl, t, k, S, 0, none, rfl, rfl, rfl, by omega, hr, ⟨_, by rw [List.append_assoc]⟩, rfl, Nat.le_refl _⟩, ?_⟩
  generalize t.walk k 0 none = res
  generalize S ++ [trO tb p (t.cnt : Nat)] ++ F = TT
  rintro m key value length is deep n J' T _ ⟨hT, t', k', S', d, best, rfl, henc, rfl, hd, hrep, hsub, hwalk, hm⟩
  cases t' with
  | nil =>
    obtain ⟨rfl, rfl⟩ := hrep
    rw [Sh.walk] at hwalk
    subst hwalk
    exact ⟨encL_some henc, hT⟩
  | node bits w l r =>
    obtain ⟨b, pl, pr, Sl, Sr, rfl, rfl, hrl, hrr⟩ := hrep
    rw [Sh.walk_node] at hwalk
    refine ⟨eb bits, Sub.cell' hsub (Cell.at0 rfl), _, common_runs bits k' (by omega) _ _ |>.mono (fun v J T _ h => ⟨h.1, h.2.2⟩), eb bits, Sub.cell' hsub (Cell.at0 rfl), ?_⟩
    rw [eb_size]
    refine bcase_dec (fun hlt => ?_) (fun hge => ?_)
    · rw [if_pos (by omega)] at hwalk
      subst hwalk
      exact ⟨encL_some henc, hT⟩
    · rw [if_neg (by omega)] at hwalk
      have hkk := lcp_full (a := bits) (b := k') (by omega)
      generalize k'.drop bits.length = rest at *
      subst hkk
      rw [List.length_append] at hd
      refine ⟨eb bits, Sub.cell' hsub (Cell.at0 rfl), eb bits, Sub.cell' hsub (Cell.at0 rfl), by omega, by rw [eb_size, eb_size, List.length_append]; omega, ?_⟩
      rw [eb_size, eb_size, eb_extract, List.take_length, show ((bits.length : Nat) : Int).toNat = bits.length by omega, List.drop_left, wrap_i64 (by omega) (by omega)]
      refine ⟨w.isSome, Sub.cell' hsub (Cell.at0 rfl), ?_⟩
      have fin : ∀ value length is, #[.int .i64 value, .int .i64 length, .bool is] = encL (bestOf w (d + bits.length) best) → trie_Trie_Longest_b9 (fun key value length is deep n I S => ∃ m', m' < m ∧ S = TT ∧ walkInv res m' key value length is deep n S) (fun x J T => x = .tuple (encL res) ∧ T = TT) (eb rest) value length is ((d : Int) + (bits.length : Int)) (some ⟨b, 0, none⟩) J' T := by
        intro value length is he
        cases rest with
        | nil =>
          dsimp only at hwalk
          subst hwalk
          exact ⟨encL_some he, hT⟩
        | cons c rest =>
          rw [trie_Trie_Longest_b9, eb_size, show ((((c :: rest).length : Nat) : Int) == (0 : Int)) = false by simp; omega]
          refine ⟨sg c, by omega, by rw [eb_get]; simp, (kid_in c).1, (kid_in c).2, ?_⟩
          rw [kid_eq]
          simp only [Sh.ht] at hm
          simp only [List.length_cons] at hd
          cases c with
          | false => exact ⟨pl, Sub.cell' hsub (Cell.at0 rfl), m - 1, by omega, hT, l, false :: rest, Sl, d + bits.length, _, rfl, he, by omega, by simp only [List.length_cons]; omega, hrl, hsub.drop.left, hwalk, by omega⟩
          | true => exact ⟨pr, Sub.cell' hsub (Cell.at0 rfl), m - 1, by omega, hT, r, true :: rest, Sr, d + bits.length, _, rfl, he, by omega, by simp only [List.length_cons]; omega, hrr, hsub.drop.right, hwalk, by omega⟩
      cases w with
      | none => exact fin _ _ _ henc
      | some x => exact ⟨x, Sub.cell' hsub (Cell.at0 rfl), fin _ _ _ (by simp [encL, bestOf])⟩
end Go.Proofs.YtmlojdbahlfiaaaDoor.Tr
/- The trie's law on words that go on from one another: TrieDeep. -/
set_option linter.unusedVariables false
set_option linter.unusedSimpArgs false
namespace Go.Proofs.YtmlojdbahlfiaaaDoor.Tr
open Go.Px

theorem IsL.of {t : Sh} (hw : t.wf) (k : List Bool) : IsL t.find k (t.walk k 0 none) := by
  rcases Sh.walk_spec t k 0 none hw with ⟨e, h⟩ | ⟨v, n, e, h1, h2, h3⟩
  · exact ⟨fun _ => h, fun v n h' => by rw [e] at h'; cases h'⟩
  · rw [Nat.zero_add] at e
    exact ⟨(fun h' => by rw [e] at h'; cases h'), fun v' n' h' => by rw [e] at h'; injection h' with h'; injection h' with h4 h5; subst h4; subst h5; exact ⟨h1, h2, h3⟩⟩
theorem TriO.new (tb : Nat) : TriO tb .nil [(tb, .cells #[.pointer none, .int .i64 0] 111 (0, 0))] := ⟨none, [], ⟨rfl, rfl⟩, rfl⟩
def alt (n : Nat) : List Bool := (List.range n).map fun i => i % 2 == 1
theorem alt_len (n : Nat) : (alt n).length = n := by simp [alt]
structure Deep (t : Sh) (i : Nat) : Prop where
  wf : t.wf
  cnt : t.cnt = i
  has : ∀ j, t.find (alt j) = if 1 ≤ j ∧ j ≤ i then some ((j : Int) - 1) else none
theorem Deep.step {t : Sh} {i : Nat} (h : Deep t i) : Deep (t.put (alt (i + 1)) (i : Int)) (i + 1) where
  wf := Sh.put_wf _ _ _ h.wf
  cnt := by rw [Sh.put_cnt _ _ _ h.wf, h.cnt, h.has, if_neg (show ¬ (1 ≤ i + 1 ∧ i + 1 ≤ i) by omega)]; simp
  has j := by
    rw [Sh.put_find _ _ _ _ h.wf, h.has]
    by_cases hj : j = i + 1
    · rw [if_pos (show alt j = alt (i + 1) by rw [hj]), if_pos (show 1 ≤ j ∧ j ≤ i + 1 by omega)]; exact congrArg some (by omega)
    · rw [if_neg (fun e => hj (by have := congrArg List.length e; simpa [alt_len] using this))]
      by_cases h1 : 1 ≤ j ∧ j ≤ i
      · rw [if_pos h1, if_pos (by omega)]
      · rw [if_neg h1, if_neg (by omega)]
end Go.Proofs.YtmlojdbahlfiaaaDoor.Tr
/- The trie as plain Lean, part 2: words that are taken away; how deep a tree is. -/
set_option linter.unusedVariables false
set_option linter.unusedSimpArgs false
namespace Go.Proofs.YtmlojdbahlfiaaaDoor.Tr
open Go.Px

def Sh.len : Sh → Nat
  | .nil => 0
  | .node bits _ l r => bits.length + max l.len r.len
theorem Sh.put_len : ∀ (t : Sh) (k : List Bool) (v : Int), (t.put k v).len ≤ max t.len k.length
  | .nil, k, v => by simp [Sh.put, Sh.len]
  | .node bits w l r, k, v => by
    rw [Sh.put]
    have hle := lcp_le bits k
    split
    · rename_i hlt
      rw [List.getElem?_eq_getElem hlt]
      have h1 : (bits.drop (lcp bits k)).length = bits.length - lcp bits k := List.length_drop
      have h3 : (bits.take (lcp bits k)).length = lcp bits k := by rw [List.length_take]; omega
      cases hk : k.drop (lcp bits k) with
      | nil => cases bits[lcp bits k] <;> simp only [Sh.sub, cond_true, cond_false, Sh.len, h1, h3] <;> omega
      | cons c ks =>
        have h2 : (c :: ks).length = k.length - lcp bits k := by rw [← hk, List.length_drop]
        cases bits[lcp bits k] <;> simp only [Sh.sub, cond_true, cond_false, Sh.len, h1, h2, h3] <;> omega
    · rename_i hge
      have hkk := lcp_full hge
      generalize k.drop bits.length = rest at *
      subst hkk
      split
      · simp only [Sh.len]; omega
      · rename_i c rest
        have e1 := Sh.put_len l (c :: rest) v
        have e2 := Sh.put_len r (c :: rest) v
        rw [List.length_append]
        cases c <;> simp only [cond_true, cond_false, Sh.len] <;> omega
end Go.Proofs.YtmlojdbahlfiaaaDoor.Tr
/- The trie's functions: without, Del, Get, count, Nodes, on trees of words. -/
set_option linter.unusedVariables false
set_option linter.unusedSimpArgs false
namespace Go.Proofs.YtmlojdbahlfiaaaDoor.Tr
open Go.Px

end Go.Proofs.YtmlojdbahlfiaaaDoor.Tr
/- The trie's functions: Get, Del, words that may not be; the law's words; TrieWhole and TrieMay. -/
set_option linter.unusedVariables false
set_option linter.unusedSimpArgs false
namespace Go.Proofs.YtmlojdbahlfiaaaDoor.Tr
open Go.Px

/-! ### the law's words -/
end Go.Proofs.YtmlojdbahlfiaaaDoor.Tr
/- An index in memory; a place's trie. -/
namespace Go.Proofs.YtmlojdbahlfiaaaDoor
open Go.Px
set_option linter.unusedVariables false
set_option linter.unusedSimpArgs false
set_option maxRecDepth 8000

/-- a trie of a place -/
structure Te where
  k : Int
  s : Int
  b : Nat
  t : Tr.Sh
abbrev keyTe (k s : Int) : Value := .agg #[.int .i64 k, .int .i64 s]
abbrev enTe (i : Nat) (x : Te) : MapEntry := { key := keyTe x.k x.s, val := .pointer (some ⟨x.b, 0, none⟩), born := i }
def esOf (L : List Te) : Array MapEntry := (L.mapIdx enTe).toArray
def lookT (L : List Te) (k s : Int) : Option Te := L.find? fun x => x.k == k && x.s == s
theorem eq_place (a b c d : Int) : eqV Tryd.prog 4 84 (keyTe a b) (keyTe c d) = some ((a == c) && ((b == d) && true)) := by kernel_rfl
theorem find_es (k s : Int) : ∀ (L : List Te) (es : List MapEntry) (i : Nat), es.map (fun e => (e.key, e.val)) = L.map (fun x => (keyTe x.k x.s, Value.pointer (some ⟨x.b, 0, none⟩))) →
    (∃ x j, lookT L k s = some x ∧ findS Tryd.prog 84 (keyTe k s) es i = some (some (j, .pointer (some ⟨x.b, 0, none⟩)))) ∨ (lookT L k s = none ∧ findS Tryd.prog 84 (keyTe k s) es i = some none)
  | [], [], i, _ => .inr ⟨rfl, rfl⟩
  | [], e :: es, i, h => by simp at h
  | x :: L, [], i, h => by simp at h
  | x :: L, e :: es, i, h => by
    simp only [List.map_cons, List.cons.injEq, Prod.mk.injEq] at h
    obtain ⟨⟨h1, h2⟩, h3⟩ := h
    unfold findS lookT
    rw [h1, eq_place]
    by_cases hx : x.k = k ∧ x.s = s
    · have e1 : (x.k == k && x.s == s) = true := by simp [hx]
      have e2 : ((k == x.k) && ((s == x.s) && true)) = true := by simp [hx]
      rw [List.find?_cons, e1, e2]
      exact .inl ⟨x, i, rfl, by rw [h2]⟩
    · have e1 : (x.k == k && x.s == s) = false := by
        rw [Bool.and_eq_false_iff, beq_eq_false_iff_ne, beq_eq_false_iff_ne]; omega
      have e2 : ((k == x.k) && ((s == x.s) && true)) = false := by
        rw [Bool.and_true, Bool.and_eq_false_iff, beq_eq_false_iff_ne, beq_eq_false_iff_ne]; omega
      rw [List.find?_cons, e1, e2]
      exact find_es k s L es (i + 1) h3
theorem es_map : ∀ (L : List Te), (esOf L).toList.map (fun e => (e.key, e.val)) = L.map (fun x => (keyTe x.k x.s, Value.pointer (some ⟨x.b, 0, none⟩))) := fun L => by
  apply List.ext_getElem?
  intro i
  simp only [esOf, List.getElem?_map, List.getElem?_mapIdx]
  cases L[i]? <;> rfl
theorem es_snoc (L : List Te) (x : Te) : (esOf L).push (enTe L.length x) = esOf (L ++ [x]) := by
  unfold esOf
  apply Array.ext'
  simp [List.mapIdx_append]
theorem es_upd (L1 L2 : List Te) (x y : Te) (h : x.k = y.k) (h1 : x.s = y.s) (h2 : x.b = y.b) : esOf (L1 ++ x :: L2) = esOf (L1 ++ y :: L2) := by
  unfold esOf
  congr 1
  apply List.ext_getElem?
  intro i
  rw [List.getElem?_mapIdx, List.getElem?_mapIdx]
  rcases Nat.lt_trichotomy i L1.length with hi | hi | hi
  · rw [List.getElem?_append_left hi, List.getElem?_append_left hi]
  · subst hi
    rw [List.getElem?_append_right (Nat.le_refl _), List.getElem?_append_right (Nat.le_refl _), Nat.sub_self]
    simp [enTe, h, h1, h2]
  · rw [List.getElem?_append_right (by omega), List.getElem?_append_right (by omega)]
    obtain ⟨j, hj⟩ : ∃ j, i - L1.length = j + 1 := ⟨i - L1.length - 1, by omega⟩
    rw [hj]; rfl
/-! ### the tries' blocks -/
def TrsO : List Te → SH → Prop
  | [], own => own = []
  | x :: L, own => ∃ o1 o2, Tr.TriO x.b x.t o1 ∧ x.t.wf ∧ x.t.len ≤ 128 ∧ TrsO L o2 ∧ own = o1 ++ o2
theorem TrsO.snoc {x : Te} {o1 : SH} (h1 : Tr.TriO x.b x.t o1) (hw : x.t.wf) (hl : x.t.len ≤ 128) : ∀ {L : List Te} {own : SH}, TrsO L own → TrsO (L ++ [x]) (own ++ o1)
  | [], own, h => by
    have h : own = [] := h
    subst h
    exact ⟨o1, [], h1, hw, hl, rfl, by simp⟩
  | y :: L, own, h => by
    obtain ⟨oy, o2, hy, hyw, hyl, hL, rfl⟩ := h
    exact ⟨oy, o2 ++ o1, hy, hyw, hyl, TrsO.snoc h1 hw hl hL, by rw [List.append_assoc]⟩
theorem TrsO.split {k s : Int} {x : Te} : ∀ {L : List Te} {own : SH}, TrsO L own → lookT L k s = some x → ∃ L1 L2 oA ox oB, L = L1 ++ x :: L2 ∧ x.k = k ∧ x.s = s ∧ (∀ y ∈ L1, ¬ (y.k = k ∧ y.s = s)) ∧ TrsO L1 oA ∧ Tr.TriO x.b x.t ox ∧ x.t.wf ∧ x.t.len ≤ 128 ∧ TrsO L2 oB ∧ own = oA ++ (ox ++ oB)
  | [], own, h, hl => by cases hl
  | y :: L, own, h, hl => by
    obtain ⟨oy, o2, hy, hyw, hyl, hL, rfl⟩ := h
    unfold lookT at hl
    rw [List.find?_cons] at hl
    by_cases e : (y.k == k && y.s == s) = true
    · rw [e] at hl
      have hl : y = x := Option.some.inj hl
      subst hl
      rw [Bool.and_eq_true, beq_iff_eq, beq_iff_eq] at e
      exact ⟨[], L, [], oy, o2, rfl, e.1, e.2, fun z hz => (by cases hz), rfl, hy, hyw, hyl, hL, rfl⟩
    · rw [Bool.not_eq_true] at e
      rw [e] at hl
      obtain ⟨L1, L2, oA, ox, oB, rfl, h1, h2, hne, hA, hx, hxw, hxl, hB, rfl⟩ := TrsO.split hL hl
      refine ⟨y :: L1, L2, oy ++ oA, ox, oB, rfl, h1, h2, fun z hz => ?_, ⟨oy, oA, hy, hyw, hyl, hA, rfl⟩, hx, hxw, hxl, hB, by rw [List.append_assoc]⟩
      rcases List.mem_cons.1 hz with rfl | hz
      · rw [Bool.and_eq_false_iff, beq_eq_false_iff_ne, beq_eq_false_iff_ne] at e
        rintro ⟨g1, g2⟩
        rcases e with e | e
        · exact e g1
        · exact e g2
      · exact hne z hz
theorem TrsO.join {x : Te} {ox oB : SH} {L2 : List Te} (hx : Tr.TriO x.b x.t ox) (hw : x.t.wf) (hl : x.t.len ≤ 128) (hB : TrsO L2 oB) : ∀ {L1 : List Te} {oA : SH}, TrsO L1 oA → TrsO (L1 ++ x :: L2) (oA ++ (ox ++ oB))
  | [], oA, h => by
    have h : oA = [] := h
    subst h
    exact ⟨ox, oB, hx, hw, hl, hB, rfl⟩
  | y :: L, own, h => by
    obtain ⟨oy, o2, hy, hyw, hyl, hL, rfl⟩ := h
    exact ⟨oy, o2 ++ (ox ++ oB), hy, hyw, hyl, TrsO.join hx hw hl hB hL, by rw [List.append_assoc]⟩
/-! ### an index -/
def IxO (xb : Nat) (M : Tb.KV) (n : Nat) (L : List Te) (own : SH) : Prop := ∃ xm tb o1 o2, Tb.TabO xm xb tb o1 ∧ Tb.TI 1073741824 tb M ∧ tb.live = n ∧ (L.map fun x => (x.k, x.s)).Nodup ∧ TrsO L o2 ∧ own = o1 ++ ((xm, .map (esOf L) L.length) :: o2)
theorem tab_cell {xm xb : Nat} {tb : Tb.Tbl} {o1 F T : SH} (h : Tb.TabO xm xb tb o1) (hs : Sub (o1 ++ F) T) {I : IMem} : Cell I T ((⟨xb, 0, none⟩ : Addr).add 3) (.map (some xm)) := by
  refine Cell.at_ (add_mk _ _ _) ?_
  rcases h with ⟨_, rfl⟩ | ⟨sb, _, rfl⟩
  · exact Cell.among (F := F) hs rfl
  · exact Cell.among (F := Tb.sloB sb tb.ss :: F) hs rfl
theorem lookT_snoc {L : List Te} {k s : Int} {x : Te} (h : lookT L k s = none) (h1 : x.k = k) (h2 : x.s = s) : lookT (L ++ [x]) k s = some x := by
  unfold lookT at h ⊢
  rw [List.find?_append, h]
  simp [h1, h2]
theorem look_at {es : Array MapEntry} {L : List Te} {k s : Int} {I : IMem} {T : SH} {xm ck : Nat} (he : es = esOf L) (hm : MpC I T xm es ck) :
    (∃ x, lookT L k s = some x ∧ MapAtS Tryd.prog 84 I T (some xm) (keyTe k s) (.pointer none) (.pointer (some ⟨x.b, 0, none⟩)) true) ∨ (lookT L k s = none ∧ MapAtS Tryd.prog 84 I T (some xm) (keyTe k s) (.pointer none) (.pointer none) false) := by
  subst he
  rcases find_es k s L (esOf L).toList 0 (es_map L) with ⟨x, j, h1, h2⟩ | ⟨h1, h2⟩
  · exact .inl ⟨x, h1, _, ⟨ck, hm⟩, .inl ⟨j, h2, rfl⟩⟩
  · exact .inr ⟨h1, _, ⟨ck, hm⟩, .inr ⟨h2, rfl, rfl⟩⟩
theorem trie_runs {xb n : Nat} {M : Tb.KV} {L : List Te} {own F S : SH} {I : IMem} (t : Tg) (h : IxO xb M n L own) (hs : Sub (own ++ F) S) :
    Runs Tryd.prog 20 #[.pointer (some ⟨xb, 0, none⟩), vT t] I S fun v J T => ∃ L' own' x, v = .pointer (some ⟨x.b, 0, none⟩) ∧ lookT L' t.1 (t.2.2.1.size : Int) = some x ∧ (L' = L ∨ (lookT L t.1 (t.2.2.1.size : Int) = none ∧ x = ⟨t.1, (t.2.2.1.size : Int), x.b, .nil⟩ ∧ L' = L ++ [x])) ∧ IxO xb M n L' own' ∧ Sub (own' ++ F) T := by
  obtain ⟨xm, tb, o1, o2, hT, hI, hn, hnd, hL, rfl⟩ := h
  refine index_Index_trie_fn _ _ _ _ _ _ _ _ ?_
  unfold index_Index_trie
  intro b3
  refine ⟨_, Cell.at0 rfl, _, Cell.at0 rfl, fun b5 => StP.all (vs := [.int .i64 t.1, .int .i64 (t.2.2.1.size : Int)]) rfl rfl ?_⟩
  have hs1 : Sub ((b5, .cells #[.int .i64 t.1, .int .i64 (t.2.2.1.size : Int)] 84 (0, 0)) :: (o1 ++ ((xm, .map (esOf L) L.length) :: (o2 ++ F)))) ((b5, .cells #[.int .i64 t.1, .int .i64 (t.2.2.1.size : Int)] 84 (0, 0)) :: (b3, .cells (elT t).toArray 27 (0, 0)) :: S) :=
    ((hs.skip (b3, .cells (elT t).toArray 27 (0, 0))).cons (b5, .cells #[.int .i64 t.1, .int .i64 (t.2.2.1.size : Int)] 84 (0, 0))).re (by intro a; simp only [cnt_cons, cnt_app]; omega)
  have hc0 : ∀ {J : IMem} {T : SH} {G : SH}, Sub ((b5, .cells #[.int .i64 t.1, .int .i64 (t.2.2.1.size : Int)] 84 (0, 0)) :: G) T → Cell J T ⟨b5, 0, none⟩ (.int .i64 t.1) ∧ Cell J T ((⟨b5, 0, none⟩ : Addr).add 1) (.int .i64 (t.2.2.1.size : Int)) := fun hs => ⟨Cell.among hs rfl, Cell.at_ (add_mk _ _ _) (Cell.among hs rfl)⟩
  -- what is there is told
  have fin : ∀ (L' : List Te) (o2' : SH) (x : Te) (T : SH), lookT L' t.1 (t.2.2.1.size : Int) = some x → (L' = L ∨ (lookT L t.1 (t.2.2.1.size : Int) = none ∧ x = ⟨t.1, (t.2.2.1.size : Int), x.b, .nil⟩ ∧ L' = L ++ [x])) → (L'.map fun x => (x.k, x.s)).Nodup → TrsO L' o2' →
      Sub ((b5, .cells #[.int .i64 t.1, .int .i64 (t.2.2.1.size : Int)] 84 (0, 0)) :: (o1 ++ ((xm, .map (esOf L') L'.length) :: (o2' ++ F)))) T →
      index_Index_trie_b3 (fun v J T => ∃ L' own' x, v = .pointer (some ⟨x.b, 0, none⟩) ∧ lookT L' t.1 (t.2.2.1.size : Int) = some x ∧ (L' = L ∨ (lookT L t.1 (t.2.2.1.size : Int) = none ∧ x = ⟨t.1, (t.2.2.1.size : Int), x.b, .nil⟩ ∧ L' = L ++ [x])) ∧ IxO xb M n L' own' ∧ Sub (own' ++ F) T) (some ⟨xb, 0, none⟩) ⟨b5, 0, none⟩ I T := by
    intro L' o2' x T hx hL' hnd' hTr hsT
    unfold index_Index_trie_b3 index_Index_trie_b4
    obtain ⟨e0, e1⟩ := hc0 (J := I) hsT
    have hm : MpC I T xm (esOf L') L'.length := MpC.of_sub hsT.drop.right
    refine ⟨_, tab_cell hT hsT.drop, _, e0, _, e1, ?_⟩
    rcases look_at rfl hm (k := t.1) (s := (t.2.2.1.size : Int)) with ⟨y, hy, hat⟩ | ⟨hy, _⟩
    · rw [hx] at hy
      have hy := Option.some.inj hy
      subst hy
      exact ⟨_, true, hat, L', o1 ++ ((xm, .map (esOf L') L'.length) :: o2'), x, rfl, hx, hL', ⟨xm, tb, o1, o2', hT, hI, hn, hnd', hTr, rfl⟩, hsT.drop.re (by intro a; simp only [cnt_cons, cnt_app]; omega)⟩
    · rw [hx] at hy; cases hy
  unfold index_Index_trie_b1
  obtain ⟨e0, e1⟩ := hc0 (J := I) hs1
  have hm : MpC I _ xm (esOf L) L.length := MpC.of_sub hs1.drop.right
  refine ⟨_, tab_cell hT hs1.drop, _, e0, _, e1, ?_⟩
  unfold index_Index_trie_b2
  rcases look_at rfl hm (k := t.1) (s := (t.2.2.1.size : Int)) with ⟨y, hy, hat⟩ | ⟨hy, hat⟩
  · exact ⟨_, true, hat, bcase_f rfl (fin L o2 y _ hy (.inl rfl) hnd hL hs1)⟩
  · refine ⟨_, false, hat, bcase_t rfl ⟨_, tab_cell hT hs1.drop, _, e0, _, e1, fun b26 => ⟨((Sub.refl _).skip _).keep (IMem.le.refl I), ?_⟩⟩⟩
    have hs2 : Sub ((xm, .map (esOf L) L.length) :: ((b5, .cells #[.int .i64 t.1, .int .i64 (t.2.2.1.size : Int)] 84 (0, 0)) :: (o1 ++ (o2 ++ ((b26, .cells #[.pointer none, .int .i64 0] 111 (0, 0)) :: F))))) ((b26, .cells #[.pointer none, .int .i64 0] 111 (0, 0)) :: (b5, .cells #[.int .i64 t.1, .int .i64 (t.2.2.1.size : Int)] 84 (0, 0)) :: (b3, .cells (elT t).toArray 27 (0, 0)) :: S) :=
      (hs1.cons (b26, .cells #[.pointer none, .int .i64 0] 111 (0, 0))).re (by intro a; simp only [cnt_cons, cnt_app]; omega)
    obtain ⟨i, hi, hput⟩ := hs2.put (xm, .map ((esOf L).push (enTe L.length ⟨t.1, (t.2.2.1.size : Int), b26, .nil⟩)) (L.length + 1))
    rcases find_es t.1 (t.2.2.1.size : Int) L (esOf L).toList 0 (es_map L) with ⟨x, j, h1, h2⟩ | ⟨h1, h2⟩
    · rw [hy] at h1; cases h1
    · refine ⟨xm, i, esOf L, L.length, _, _, rfl, hi, .inr ⟨h2, rfl, rfl⟩, ?_⟩
      rw [es_snoc] at hput
      refine fin (L ++ [⟨t.1, (t.2.2.1.size : Int), b26, .nil⟩]) (o2 ++ [(b26, .cells #[.pointer none, .int .i64 0] 111 (0, 0))]) ⟨t.1, (t.2.2.1.size : Int), b26, .nil⟩ _ (lookT_snoc hy rfl rfl) (.inr ⟨hy, rfl, rfl⟩) ?_ (TrsO.snoc (x := ⟨t.1, (t.2.2.1.size : Int), b26, .nil⟩) (Tr.TriO.new b26) trivial (Nat.zero_le _) hL) ?_
      · rw [List.map_append, List.nodup_append]
        refine ⟨hnd, by simp, ?_⟩
        intro a ha c hc e
        simp at hc
        subst hc
        obtain ⟨y, hym, hye⟩ := List.mem_map.1 ha
        have : lookT L t.1 (t.2.2.1.size : Int) ≠ none := by
          unfold lookT
          rw [ne_eq, List.find?_eq_none]
          intro hall
          have := hall y hym
          rw [e] at hye
          injection hye with g1 g2
          rw [g1, g2] at this
          simp at this
        exact this hy
      · rw [List.length_append, List.length_singleton, ← es_snoc]
        exact Sub.re (M := (xm, .map ((esOf L).push (enTe L.length ⟨t.1, (t.2.2.1.size : Int), b26, .nil⟩)) (L.length + 1)) :: ((b5, .cells #[.int .i64 t.1, .int .i64 (t.2.2.1.size : Int)] 84 (0, 0)) :: (o1 ++ (o2 ++ ((b26, .cells #[.pointer none, .int .i64 0] 111 (0, 0)) :: F))))) (by rw [es_snoc]; exact hput) (by intro a; simp only [cnt_cons, cnt_app, cnt_nil]; omega)
end Go.Proofs.YtmlojdbahlfiaaaDoor
/- Which triggers have a name, and which: plain laws. -/
namespace Go.Proofs.YtmlojdbahlfiaaaDoor
open Go.Px
set_option linter.unusedVariables false
set_option linter.unusedSimpArgs false
set_option maxRecDepth 8000

theorem dgt_low : ∀ d : Fin 16, foldU (dgt d.val) = dgt d.val := by decide +kernel
theorem numL_dgt {b : Nat} (hb : b ≤ 16) (hb2 : 0 < b) : ∀ (f n : Nat), ∀ c ∈ numL f b n, foldU c = c
  | 0, n, c, h => by cases h
  | f + 1, n, c, h => by
    rw [numL] at h
    split at h
    · rename_i hn
      rw [List.mem_singleton.1 h]; exact dgt_low ⟨n, by omega⟩
    · rcases List.mem_append.1 h with h | h
      · exact numL_dgt hb hb2 f _ c h
      · rw [List.mem_singleton.1 h]; exact dgt_low ⟨n % b, by have := Nat.mod_lt n hb2; omega⟩
theorem low_of {l : List UInt8} (h : ∀ c ∈ l, foldU c = c) : foldB ⟨l.toArray⟩ = ⟨l.toArray⟩ := by
  refine bext ?_
  rw [fold_list]
  show List.map foldU l = l
  conv => rhs; rw [← List.map_id l]
  exact List.map_congr_left h
theorem dec_lab {m : Nat} (h : m ≤ 255) : IsLab (decB m) ∧ (decB m).size ≤ 4 := by
  have := decB_len h
  exact ⟨⟨by omega, by omega, low_of (numL_dgt (by decide) (by decide) 3 m)⟩, by omega⟩
theorem hex_lab (w : Nat) : IsLab (hexB w) ∧ (hexB w).size ≤ 4 := by
  have := hexB_len w
  exact ⟨⟨by omega, by omega, low_of (numL_dgt (by decide) (by decide) 4 w)⟩, by omega⟩
theorem zz_lab : IsLab zzB ∧ zzB.size ≤ 4 := ⟨⟨by decide, by decide, by decide +kernel⟩, by decide⟩
theorem addr_lab {a : ByteArray} : ∀ l ∈ addrL a, IsLab l ∧ l.size ≤ 4 := by
  intro l h
  rw [addrL] at h
  split at h
  · simp only [fourL, List.mem_cons, List.not_mem_nil, or_false] at h
    rcases h with rfl | rfl | rfl | rfl
    all_goals exact dec_lab (bat_le a _)
  · obtain ⟨o, _, rfl⟩ := List.mem_map.1 h
    cases o with
    | none => exact zz_lab
    | some k => exact hex_lab _
theorem pfx_lab {a : ByteArray} {n : Int} (h : mayP a n) : ∀ l ∈ pfxL a n, IsLab l ∧ l.size ≤ 4 := by
  rw [pfxL_may h]
  intro l hl
  rcases List.mem_cons.1 hl with rfl | hl
  · exact dec_lab (by obtain ⟨⟨h1, h2, h3⟩, _⟩ := h; omega)
  · exact addr_lab l hl
theorem pfx_len {a : ByteArray} {n : Int} : (pfxL a n).length ≤ 9 := by
  rw [pfxL]
  split
  · rw [addrL]
    split
    · simp [fourL]
    · have := sixL_len a
      simpa using this
  · simp
theorem word_lab {k : Int} (h : k = 0 ∨ k = 3 ∨ k = 6) : IsLab (wordK k) ∧ (wordK k).size ≤ 13 ∧ kindOf (wordK k) = some k ∧ wordK k ≠ ⟨#[]⟩ := by
  have hne : ∀ x : ByteArray, x.size ≠ 0 → x ≠ ⟨#[]⟩ := fun x h e => h (by rw [e]; rfl)
  rcases h with rfl | rfl | rfl
  all_goals exact ⟨⟨by decide +kernel, by decide +kernel, by decide +kernel⟩, by decide +kernel, by decide +kernel, hne _ (by decide +kernel)⟩
theorem encU_p {t : Tg} (h : GoodP t) : encU t = pfxL t.2.2.1 t.2.2.2 ++ [wordK t.1] := by
  have e : encW t = wordK t.1 := by rw [encW, if_neg (by have := h.kind; omega)]
  rw [encU, e, if_neg (word_lab h.kind).2.2.2, encL, if_pos h.kind]
theorem enc_p {t : Tg} (h : GoodP t) : (∀ l ∈ encU t, IsLab l) ∧ (nm (encU t)).size ≤ 254 ∧ encF t = some (nm (encU t)) := by
  have hw := word_lab h.kind
  have hlab : ∀ l ∈ encU t, IsLab l ∧ l.size ≤ 13 := by
    rw [encU_p h]
    intro l hl
    rcases List.mem_append.1 hl with hl | hl
    · have := pfx_lab h.may l hl; exact ⟨this.1, by omega⟩
    · rw [List.mem_singleton.1 hl]; exact ⟨hw.1, hw.2.1⟩
  have hs : (nm (encU t)).size ≤ 254 := by
    have h1 := nm_bound (b := 13) fun l hl => (hlab l hl).2
    have h2 : (encU t).length ≤ 10 := by rw [encU_p h, List.length_append, List.length_singleton]; have := pfx_len (a := t.2.2.1) (n := t.2.2.2); omega
    omega
  refine ⟨fun l hl => (hlab l hl).1, hs, enc_ok (ls := []) (by rw [h.name]; exact labN_empty) (fun l hl => (hlab l hl).1) hs ?_⟩
  rw [encU_p h, decL, List.getLast?_concat]
  dsimp only
  rw [hw.2.2.1]
  dsimp only
  rw [if_neg (by have := h.kind; omega), List.dropLast_concat, adrF_pfx h.may]
  obtain ⟨t1, t2, t3, t4⟩ := t
  have := h.name
  dsimp only at this ⊢
  rw [this]; rfl

/-- a label that is no word of owner's -/
structure LabP (l : ByteArray) : Prop where
  lab : IsLab l
  kind : kindOf l = none
  star : l ≠ starB
def preS (k : Int) : List ByteArray := if k = 2 ∨ k = 5 then [starB] else []
def sufS (k : Int) : List ByteArray := if k = 4 ∨ k = 5 then [ndB] else []
structure NameP (t : Tg) (ls : List ByteArray) : Prop where
  kind : t.1 = 1 ∨ t.1 = 2 ∨ t.1 = 4 ∨ t.1 = 5
  addr : t.2.2 = (⟨#[]⟩, 0)
  name : t.2.1 = nm ls
  labs : ∀ l ∈ ls, LabP l
  size : (nm ls).size ≤ 254
  some_ : t.1 = 1 ∨ t.1 = 4 → ls ≠ []
theorem star_lab : IsLab starB := ⟨by decide, by decide, by decide +kernel⟩
theorem nd_lab : IsLab ndB := ⟨by decide, by decide, by decide +kernel⟩
theorem nd_ne : ndB ≠ ⟨#[]⟩ := fun e => by have := congrArg ByteArray.size e; revert this; decide
theorem kind_star : kindOf starB = none := by decide +kernel
theorem encU_n {t : Tg} {ls : List ByteArray} (h : NameP t ls) : encU t = preS t.1 ++ ls ++ sufS t.1 := by
  have hl : labN t.2.1 = some ls := by rw [h.name]; exact labN_nm (fun l hl => (h.labs l hl).lab) h.size
  have e2 : encL t = preS t.1 ++ ls := by
    rw [encL, if_neg (by have := h.kind; omega), hl, preS]
    split <;> rfl
  rw [encU, e2]
  rcases h.kind with e | e | e | e
  · rw [show encW t = ⟨#[]⟩ by rw [encW, e]; rfl, if_pos rfl, show sufS t.1 = [] by rw [e]; rfl, List.append_nil]
  · rw [show encW t = ⟨#[]⟩ by rw [encW, e]; rfl, if_pos rfl, show sufS t.1 = [] by rw [e]; rfl, List.append_nil]
  · rw [show encW t = ndB by rw [encW, e]; rfl, if_neg nd_ne, show sufS t.1 = [ndB] by rw [e]; rfl]
  · rw [show encW t = ndB by rw [encW, e]; rfl, if_neg nd_ne, show sufS t.1 = [ndB] by rw [e]; rfl]
theorem pre_lab {k : Int} : ∀ l ∈ preS k, IsLab l := by
  intro l h
  rw [preS] at h
  split at h
  · rw [List.mem_singleton.1 h]; exact star_lab
  · cases h
theorem suf_lab {k : Int} : ∀ l ∈ sufS k, IsLab l := by
  intro l h
  rw [sufS] at h
  split at h
  · rw [List.mem_singleton.1 h]; exact nd_lab
  · cases h
theorem encU_nlab {t : Tg} {ls : List ByteArray} (h : NameP t ls) : ∀ l ∈ encU t, IsLab l := by
  rw [encU_n h]
  intro l hl
  rcases List.mem_append.1 hl with hl | hl
  · rcases List.mem_append.1 hl with hl | hl
    · exact pre_lab l hl
    · exact (h.labs l hl).lab
  · exact suf_lab l hl
theorem nm_sum (a b : List ByteArray) : (nm (a ++ b)).size = (nm a).size + (nm b).size := by
  rw [nm_size, nm_size, nm_size, wire_app, List.length_append]
theorem named_ex {ls : List ByteArray} {ex wild : Int} (hl : ∀ l ∈ ls, LabP l) (hs : (nm ls).size ≤ 254) (hne : ls ≠ []) : namedF ls ex wild = some (ex, nm ls, ⟨#[]⟩, 0) := by
  cases ls with
  | nil => exact absurd rfl hne
  | cons l r =>
    rw [namedF, if_neg (hl l (List.mem_cons_self ..)).star, makeN_ok (fun x hx => (hl x hx).lab) hs]; rfl
theorem named_wild {ls : List ByteArray} {ex wild : Int} (hl : ∀ l ∈ ls, LabP l) (hs : (nm ls).size ≤ 254) : namedF (starB :: ls) ex wild = some (wild, nm ls, ⟨#[]⟩, 0) := by
  rw [namedF, if_pos rfl, makeN_ok (fun x hx => (hl x hx).lab) hs]; rfl
theorem last_kind {ls : List ByteArray} (hl : ∀ l ∈ ls, kindOf l = none) (hne : ls ≠ []) : ∃ w, ls.getLast? = some w ∧ kindOf w = none :=
  ⟨ls.getLast hne, List.getLast?_eq_some_getLast hne, hl _ (List.getLast_mem hne)⟩
theorem dec_n {t : Tg} {ls : List ByteArray} (h : NameP t ls) : decL (encU t) = some t := by
  have ht : t = (t.1, nm ls, ⟨#[]⟩, 0) := by
    obtain ⟨t1, t2, t3, t4⟩ := t
    have h1 := h.name; have h2 := h.addr
    dsimp only at h1 h2 ⊢
    rw [h1, h2]
  rw [encU_n h]
  rcases h.kind with e | e | e | e
  · have hne := h.some_ (.inl e)
    rw [show preS t.1 = [] by rw [e]; rfl, show sufS t.1 = [] by rw [e]; rfl, List.append_nil, List.nil_append, decL]
    obtain ⟨w, hw, hk⟩ := last_kind (fun l hl => (h.labs l hl).kind) hne
    rw [hw]; dsimp only
    rw [hk]; dsimp only
    rw [named_ex h.labs h.size hne]
    conv => rhs; rw [ht, e]
  · rw [show preS t.1 = [starB] by rw [e]; rfl, show sufS t.1 = [] by rw [e]; rfl, List.append_nil, decL]
    obtain ⟨w, hw, hk⟩ := last_kind (ls := [starB] ++ ls) (fun l hl => by
      rcases List.mem_cons.1 hl with rfl | hl
      · exact kind_star
      · exact (h.labs l hl).kind) (by simp)
    rw [hw]; dsimp only
    rw [hk]; dsimp only
    rw [show [starB] ++ ls = starB :: ls by rfl, named_wild h.labs h.size]
    conv => rhs; rw [ht, e]
  · rw [show preS t.1 = [] by rw [e]; rfl, show sufS t.1 = [ndB] by rw [e]; rfl, List.nil_append, decL, List.getLast?_concat]
    dsimp only
    rw [kind_nd]; dsimp only
    rw [if_pos rfl, List.dropLast_concat, named_ex h.labs h.size (h.some_ (.inr e))]
    conv => rhs; rw [ht, e]
  · rw [show preS t.1 = [starB] by rw [e]; rfl, show sufS t.1 = [ndB] by rw [e]; rfl, decL, List.getLast?_concat]
    dsimp only
    rw [kind_nd]; dsimp only
    rw [if_pos rfl, List.dropLast_concat, show [starB] ++ ls = starB :: ls by rfl, named_wild h.labs h.size]
    conv => rhs; rw [ht, e]
theorem enc_n {t : Tg} {ls : List ByteArray} (h : NameP t ls) : encF t = if (nm (encU t)).size ≤ 254 then some (nm (encU t)) else none := by
  split
  · rename_i hs
    exact enc_ok (ls := ls) (by rw [h.name]; exact labN_nm (fun l hl => (h.labs l hl).lab) h.size) (encU_nlab h) hs (dec_n h)
  · exact enc_long (encU_nlab h) (by omega)
theorem wrd_p {l : ByteArray} (h : l ∈ wrdL) : LabP l := by
  have hne : ∀ x y : ByteArray, x.data.toList ≠ y.data.toList → x ≠ y := fun x y h e => h (by rw [e])
  refine ⟨(wrd_lab h).1, ?_, ?_⟩
  all_goals
    simp only [wrdL, List.mem_cons, List.not_mem_nil, or_false] at h
    rcases h with rfl | rfl | rfl | rfl | rfl
  all_goals first | decide +kernel | exact hne _ _ (by decide +kernel)
theorem good_name {t : Tg} (h : GoodN t) : ∃ ls, NameP t ls ∧ ls.length ≤ 5 ∧ ∀ l ∈ ls, l ∈ wrdL := by
  obtain ⟨ls, h1, h2, h3, h4⟩ := h.name
  refine ⟨ls, ⟨h.kind, h.addr, h3, fun l hl => wrd_p (h1 l hl), ?_, h4⟩, h2, h1⟩
  have := nm_bound (b := 3) fun l hm => (wrd_lab (h1 l hm)).2
  omega
theorem enc_good {t : Tg} (h : GoodP t ∨ GoodN t) : encF t = some (nm (encU t)) ∧ (∀ l ∈ encU t, IsLab l) ∧ (nm (encU t)).size ≤ 254 := by
  rcases h with h | h
  · obtain ⟨h1, h2, h3⟩ := enc_p h; exact ⟨h3, h1, h2⟩
  · obtain ⟨ls, hn, hl, hw⟩ := good_name h
    have hs : (nm (encU t)).size ≤ 254 := by
      rw [encU_n hn, nm_sum, nm_sum]
      have h1 := nm_bound (b := 3) fun l hm => (wrd_lab (hw l hm)).2
      have h2 : (nm (preS t.1)).size ≤ 2 := by rw [preS]; split <;> decide
      have h3 : (nm (sufS t.1)).size ≤ 12 := by rw [sufS]; split <;> decide
      omega
    exact ⟨by rw [enc_n hn, if_pos hs], encU_nlab hn, hs⟩

/-! ### bytes that come in; triggers of codes -/
def U8W (W : World) (s : Option Addr × Nat × Nat) : Prop := s.2.1 ≤ s.2.2 ∧ s.2.2 ≤ maxLen ∧ ∃ ys : List Int, SlIn (imW W) s.1 s.2.1 1 (fun x => [.int .u8 x]) ys ∧ ∀ y ∈ ys, (Lit.int .u8 y).wf = true
theorem u8_wf {x : Int} (h : (Lit.int .u8 x).wf = true) : 0 ≤ x ∧ x ≤ 255 := by
  simp only [Lit.wf, Bool.and_eq_true, decide_eq_true_eq] at h
  exact h
theorem u8_open {W : World} {a : Option Addr} {len cap : Nat} (h : U8W W (a, len, cap)) : ∃ ns : List Int, ns.length = len ∧ RowIn (imW W) [] a ns.length 1 elI8 ns ∧ ∀ x ∈ ns, 0 ≤ x ∧ x ≤ 255 := by
  obtain ⟨_, _, ns, hs, hw⟩ := h
  exact ⟨ns, hs.1, RowIn.of_slin (el := elI8) (fun _ => Nat.one_pos) hs, fun x hx => u8_wf (hw x hx)⟩
end Go.Proofs.YtmlojdbahlfiaaaDoor
/- An index as a map of triggers. -/
namespace Go.Proofs.YtmlojdbahlfiaaaDoor
open Go.Px
set_option linter.unusedVariables false
set_option linter.unusedSimpArgs false
set_option maxRecDepth 8000

theorem Runs_fr {P : Program} {f : FuncId} {args : Array Value} {I : IMem} {own F S : SH} {R : Value → SH → Prop} (hs : Sub (own ++ F) S) (h : ∀ F', Runs P f args I (own ++ F') fun v _ T => ∃ own', R v own' ∧ T = own' ++ F') :
    Runs P f args I S fun v _ T => ∃ own', R v own' ∧ Sub (own' ++ F) T := by
  obtain ⟨G, hG⟩ := hs
  refine (h (F ++ G)).use ⟨[], by rw [List.append_nil, ← List.append_assoc]; exact hG⟩ ?_
  rintro v J T hle ⟨own', hR, hs⟩
  exact ⟨own', hR, by rw [hs]; exact ⟨G, by rw [List.append_assoc]⟩⟩
/-! ### triggers that have names -/
def ipK (k : Int) : Bool := k == 0 || (k == 3 || k == 6)
def nmK (k : Int) : Prop := k = 1 ∨ k = 2 ∨ k = 4 ∨ k = 5
theorem ipK_iff {k : Int} : ipK k = true ↔ k = 0 ∨ k = 3 ∨ k = 6 := by unfold ipK; simp
theorem nmK_ip {k : Int} (h : nmK k) : ipK k = false := by
  rw [← Bool.not_eq_true, ipK_iff]; unfold nmK at h; omega
theorem named_shape {ls : List ByteArray} {ex wild : Int} {t : Tg} (h : namedF ls ex wild = some t) : (t.1 = ex ∨ t.1 = wild) ∧ t.2.2.1 = ⟨#[]⟩ ∧ t.2.2.2 = 0 := by
  unfold namedF at h
  split at h
  · cases h
  · split at h
    · obtain ⟨n, _, rfl⟩ := Option.map_eq_some_iff.1 h; exact ⟨.inr rfl, rfl, rfl⟩
    · obtain ⟨n, _, rfl⟩ := Option.map_eq_some_iff.1 h; exact ⟨.inl rfl, rfl, rfl⟩
theorem kind_shape {w : ByteArray} {k : Int} (h : kindOf w = some k) : k = 0 ∨ k = 3 ∨ k = 4 ∨ k = 6 := (kind_word h).2.1
theorem dec_shape {n : ByteArray} {t : Tg} (h : decF n = some t) : (ipK t.1 = true ∧ t.2.1 = ⟨#[]⟩ ∧ mayP t.2.2.1 t.2.2.2) ∨ (nmK t.1 ∧ t.2.2.1 = ⟨#[]⟩ ∧ t.2.2.2 = 0) := by
  unfold decF at h
  split at h
  · cases h
  · unfold decL at h
    split at h
    · cases h
    · split at h
      · obtain ⟨h1, h2, h3⟩ := named_shape h
        exact .inr ⟨by unfold nmK; omega, h2, h3⟩
      · rename_i k hk
        have hk' := kind_shape hk
        split at h
        · obtain ⟨h1, h2, h3⟩ := named_shape h
          exact .inr ⟨by unfold nmK; omega, h2, h3⟩
        · rename_i h4
          obtain ⟨p, hp, rfl⟩ := Option.map_eq_some_iff.1 h
          exact .inl ⟨ipK_iff.2 (by dsimp only; omega), rfl, adr_may hp⟩
theorem enc_shape {t : Tg} (h : encF t ≠ none) : (ipK t.1 = true ∧ t.2.1 = ⟨#[]⟩ ∧ mayP t.2.2.1 t.2.2.2) ∨ (nmK t.1 ∧ t.2.2.1 = ⟨#[]⟩ ∧ t.2.2.2 = 0) := by
  cases he : encF t with
  | none => exact absurd he h
  | some m => exact dec_shape (enc_dec he)
def wordB (k : Int) (n : ByteArray) : ByteArray := Utf8.encode (IntKind.wrap .i32 (IntKind.wrap .i64 ((97 : Int) + k))) ++ n
theorem word_enc {k : Int} (h : nmK k) : Utf8.encode (IntKind.wrap .i32 (IntKind.wrap .i64 ((97 : Int) + k))) = ⟨#[UInt8.ofNat (97 + k.toNat)]⟩ := by
  rcases h with rfl | rfl | rfl | rfl <;> decide +kernel
theorem word_inj {k k' : Int} {n n' : ByteArray} (h : nmK k) (h' : nmK k') (e : wordB k n = wordB k' n') : k = k' ∧ n = n' := by
  unfold wordB at e
  rw [word_enc h, word_enc h'] at e
  have e1 := congrArg (fun x : ByteArray => x.data.toList) e
  simp only [ByteArray.data_append, Array.toList_append] at e1
  injection e1 with e2 e3
  refine ⟨?_, ext_list e3⟩
  rcases h with rfl | rfl | rfl | rfl <;> rcases h' with rfl | rfl | rfl | rfl <;> first | rfl | (exact absurd e2 (by decide))
theorem Ip_runs (k : Int) (I : IMem) (S : SH) : Runs Tryd.prog 19 #[.int .i64 k] I S fun v _ T => v = .bool (ipK k) ∧ T = S := by
  refine index_ip_fn _ _ _ _ ?_
  unfold index_ip index_ip_b1
  exact bcase_of (fun h => ⟨by rw [ipK, h]; rfl, rfl⟩) (fun h => bcase_of (fun g => ⟨by rw [ipK, h, g]; rfl, rfl⟩) (fun g => ⟨by rw [ipK, h, g]; rfl, rfl⟩))
theorem Word_runs {k : Int} (h : nmK k) (n : ByteArray) (hn : n.size ≤ 1000000) (I : IMem) (S : SH) : Runs Tryd.prog 24 #[.int .i64 k, .string n] I S fun v _ T => v = .string (wordB k n) ∧ T = S := by
  refine index_word_fn _ _ _ _ _ ?_
  unfold index_word
  refine ⟨?_, rfl, rfl⟩
  rw [word_enc h]
  show ((1 + n.size : Nat) : Int) ≤ _
  omega
/-! ### lists of tries -/
def sumC (L : List Te) : Nat := (L.map (·.t.cnt)).sum
def shT (L : List Te) (k s : Int) : Tr.Sh := ((lookT L k s).map (·.t)).getD .nil
theorem sumC_mid (L1 L2 : List Te) (x : Te) : sumC (L1 ++ x :: L2) = sumC L1 + (x.t.cnt + sumC L2) := by unfold sumC; simp
theorem look_mid {L1 L2 : List Te} {k s : Int} {x y : Te} (hx : x.k = k ∧ x.s = s) (hy : y.k = k ∧ y.s = s) (h1 : ∀ z ∈ L1, ¬ (z.k = k ∧ z.s = s)) (k' s' : Int) :
    lookT (L1 ++ y :: L2) k' s' = if k' = k ∧ s' = s then some y else lookT (L1 ++ x :: L2) k' s' := by
  unfold lookT
  rw [List.find?_append, List.find?_append, List.find?_cons, List.find?_cons]
  by_cases e : k' = k ∧ s' = s
  · rw [if_pos e, e.1, e.2]
    have hn : L1.find? (fun z => z.k == k && z.s == s) = none := by
      rw [List.find?_eq_none]
      intro z hz
      simpa using h1 z hz
    rw [hn, hy.1, hy.2]
    simp
  · rw [if_neg e]
    have ex : (x.k == k' && x.s == s') = false := by rw [Bool.and_eq_false_iff, beq_eq_false_iff_ne, beq_eq_false_iff_ne]; omega
    have ey : (y.k == k' && y.s == s') = false := by rw [Bool.and_eq_false_iff, beq_eq_false_iff_ne, beq_eq_false_iff_ne]; omega
    rw [ex, ey]
theorem IxO.upd {xb n : Nat} {M : Tb.KV} {L : List Te} {own : SH} {k s : Int} {x : Te} (h : IxO xb M n L own) (hx : lookT L k s = some x) : ∃ ox rest, Tr.TriO x.b x.t ox ∧ x.t.wf ∧ x.t.len ≤ 128 ∧ (∀ F T, Sub (own ++ F) T → Sub (ox ++ (rest ++ F)) T) ∧ x.t.cnt ≤ sumC L ∧
    ∀ t' ox', Tr.TriO x.b t' ox' → t'.wf → t'.len ≤ 128 → ∃ L' own', IxO xb M n L' own' ∧ (∀ F T, Sub (ox' ++ (rest ++ F)) T → Sub (own' ++ F) T) ∧ (∀ k' s', shT L' k' s' = if k' = k ∧ s' = s then t' else shT L k' s') ∧ sumC L' + x.t.cnt = sumC L + t'.cnt := by
  obtain ⟨xm, tb, o1, o2, hT, hI, hn, hnd, hL, rfl⟩ := h
  obtain ⟨L1, L2, oA, ox, oB, rfl, h1, h2, hne, hA, hxO, hw, hl, hB, rfl⟩ := hL.split hx
  refine ⟨ox, o1 ++ ((xm, .map (esOf (L1 ++ x :: L2)) (L1 ++ x :: L2).length) :: (oA ++ oB)), hxO, hw, hl, fun F T hs => hs.re (by intro a; simp only [cnt_cons, cnt_app]; omega), by rw [sumC_mid]; omega, ?_⟩
  intro t' ox' ho' hw' hl'
  refine ⟨L1 ++ (⟨x.k, x.s, x.b, t'⟩ : Te) :: L2, o1 ++ ((xm, .map (esOf (L1 ++ x :: L2)) (L1 ++ x :: L2).length) :: (oA ++ (ox' ++ oB))), ⟨xm, tb, o1, oA ++ (ox' ++ oB), hT, hI, hn, ?_, TrsO.join (x := ⟨x.k, x.s, x.b, t'⟩) ho' hw' hl' hB hA, ?_⟩, fun F T hs => hs.re (by intro a; simp only [cnt_cons, cnt_app]; omega), fun k' s' => ?_, ?_⟩
  · simpa using hnd
  · rw [es_upd L1 L2 x ⟨x.k, x.s, x.b, t'⟩ rfl rfl rfl]; simp
  · unfold shT
    rw [look_mid (x := x) (y := ⟨x.k, x.s, x.b, t'⟩) ⟨h1, h2⟩ ⟨h1, h2⟩ hne]
    by_cases e : k' = k ∧ s' = s
    · rw [if_pos e, if_pos e]; rfl
    · rw [if_neg e, if_neg e]
  · rw [sumC_mid, sumC_mid]; dsimp only; omega
theorem IxO.tab {xb n : Nat} {M : Tb.KV} {L : List Te} {own : SH} (h : IxO xb M n L own) : ∃ xm tb o1 rest, Tb.TabO xm xb tb o1 ∧ Tb.TI 1073741824 tb M ∧ tb.live = n ∧ (∀ F T, Sub (own ++ F) T → Sub (o1 ++ (rest ++ F)) T) ∧
    ∀ M' tb' o1', Tb.TabO xm xb tb' o1' → Tb.TI 1073741824 tb' M' → ∃ own', IxO xb M' tb'.live L own' ∧ ∀ F T, Sub (o1' ++ (rest ++ F)) T → Sub (own' ++ F) T := by
  obtain ⟨xm, tb, o1, o2, hT, hI, hn, hnd, hL, rfl⟩ := h
  refine ⟨xm, tb, o1, (xm, .map (esOf L) L.length) :: o2, hT, hI, hn, fun F T hs => hs.re (by intro a; simp only [cnt_cons, cnt_app]; omega), fun M' tb' o1' hT' hI' => ?_⟩
  exact ⟨_, ⟨xm, tb', o1', o2, hT', hI', rfl, hnd, hL, rfl⟩, fun F T hs => hs.re (by intro a; simp only [cnt_cons, cnt_app]; omega)⟩
/-! ### the map of triggers -/
structure IxI (V : Tg → Option Int) (M : Tb.KV) (L : List Te) : Prop where
  bad : ∀ t, encF t = none → V t = none
  nam : ∀ w v, M w = some v ↔ ∃ t, ipK t.1 = false ∧ wordB t.1 t.2.1 = w ∧ V t = some v
  pre : ∀ k s l v, (shT L k s).find l = some v ↔ ∃ t, ipK t.1 = true ∧ t.1 = k ∧ (t.2.2.1.size : Int) = s ∧ bitsL t.2.2.1 t.2.2.2.toNat = l ∧ V t = some v
def IxS (xb : Nat) (V : Tg → Option Int) (n c : Nat) (own : SH) : Prop := ∃ M L, IxO xb M n L own ∧ IxI V M L ∧ c = n + sumC L
noncomputable def putV (V : Tg → Option Int) (t : Tg) (v : Int) : Tg → Option Int := if (encF t).isSome = true then fun u => if u = t then some v else V u else V
theorem IxI.enc {V : Tg → Option Int} {M : Tb.KV} {L : List Te} (h : IxI V M L) {t : Tg} {v : Int} (hv : V t = some v) : encF t ≠ none := fun e => by rw [h.bad t e] at hv; cases hv
theorem tg_nm {t u : Tg} (ht : encF t ≠ none) (hu : encF u ≠ none) (h1 : ipK t.1 = false) (h2 : ipK u.1 = false) (e : wordB t.1 t.2.1 = wordB u.1 u.2.1) : t = u := by
  rcases enc_shape ht with h | ⟨n1, a1, b1⟩
  · rw [h.1] at h1; cases h1
  · rcases enc_shape hu with h | ⟨n2, a2, b2⟩
    · rw [h.1] at h2; cases h2
    · obtain ⟨e1, e2⟩ := word_inj n1 n2 e
      exact Prod.ext e1 (Prod.ext e2 (Prod.ext (a1.trans a2.symm) (b1.trans b2.symm)))
theorem tg_pre {t u : Tg} (ht : encF t ≠ none) (hu : encF u ≠ none) (h1 : ipK t.1 = true) (h2 : ipK u.1 = true) (e1 : t.1 = u.1) (e2 : t.2.2.1.size = u.2.2.1.size) (e3 : bitsL t.2.2.1 t.2.2.2.toNat = bitsL u.2.2.1 u.2.2.2.toNat) : t = u := by
  rcases enc_shape ht with ⟨_, a1, ⟨⟨_, c1, _⟩, d1⟩⟩ | ⟨n1, _⟩
  · rcases enc_shape hu with ⟨_, a2, ⟨⟨_, c2, _⟩, d2⟩⟩ | ⟨n2, _⟩
    · have hl := congrArg List.length e3
      rw [bitsL_len, bitsL_len] at hl
      rw [← hl] at d2 e3
      have := may_inj d1 d2 e2 e3
      exact Prod.ext e1 (Prod.ext (a1.trans a2.symm) (Prod.ext this (by omega)))
    · rw [nmK_ip n2] at h2; cases h2
  · rw [nmK_ip n1] at h1; cases h1
theorem IxI.get_n {V : Tg → Option Int} {M : Tb.KV} {L : List Te} (h : IxI V M L) {t : Tg} (ht : encF t ≠ none) (h1 : ipK t.1 = false) : M (wordB t.1 t.2.1) = V t := by
  cases hv : V t with
  | some v => exact (h.nam _ _).2 ⟨t, h1, rfl, hv⟩
  | none =>
    cases hM : M (wordB t.1 t.2.1) with
    | none => rfl
    | some v =>
      obtain ⟨u, hu, e, hv'⟩ := (h.nam _ _).1 hM
      have := tg_nm (h.enc hv') ht hu h1 e
      rw [this, hv] at hv'; cases hv'
theorem IxI.get_p {V : Tg → Option Int} {M : Tb.KV} {L : List Te} (h : IxI V M L) {t : Tg} (ht : encF t ≠ none) (h1 : ipK t.1 = true) : (shT L t.1 (t.2.2.1.size : Int)).find (bitsL t.2.2.1 t.2.2.2.toNat) = V t := by
  cases hv : V t with
  | some v => exact (h.pre _ _ _ _).2 ⟨t, h1, rfl, rfl, rfl, hv⟩
  | none =>
    cases hM : (shT L t.1 (t.2.2.1.size : Int)).find (bitsL t.2.2.1 t.2.2.2.toNat) with
    | none => rfl
    | some v =>
      obtain ⟨u, hu, e1, e2, e3, hv'⟩ := (h.pre _ _ _ _).1 hM
      have := tg_pre (h.enc hv') ht hu h1 e1 (by omega) e3
      rw [this, hv] at hv'; cases hv'
/-- a trigger's number changes: a name's -/
theorem IxI.set_n {V V' : Tg → Option Int} {M M' : Tb.KV} {L : List Te} {t : Tg} {o : Option Int} (h : IxI V M L) (ht : encF t ≠ none) (h1 : ipK t.1 = false) (hV : ∀ u, V' u = if u = t then o else V u) (hM : ∀ w, M' w = if w = wordB t.1 t.2.1 then o else M w) : IxI V' M' L := by
  refine ⟨fun u hu => ?_, fun w v => ?_, fun k s l v => ?_⟩
  · rw [hV u, if_neg (fun e : u = t => ht (e ▸ hu)), h.bad u hu]
  · rw [hM]
    constructor
    · intro e
      by_cases hw : w = wordB t.1 t.2.1
      · rw [if_pos hw] at e
        exact ⟨t, h1, hw.symm, by rw [hV, if_pos rfl, e]⟩
      · rw [if_neg hw] at e
        obtain ⟨u, hu, e1, e2⟩ := (h.nam w v).1 e
        exact ⟨u, hu, e1, by rw [hV, if_neg (fun e3 => hw (by rw [← e1, e3])), e2]⟩
    · rintro ⟨u, hu, e1, e2⟩
      rw [hV] at e2
      by_cases hut : u = t
      · rw [if_pos hut] at e2
        rw [if_pos (by rw [← e1, hut]), e2]
      · rw [if_neg hut] at e2
        rw [if_neg (fun e3 => hut (tg_nm (h.enc e2) ht hu h1 (by rw [e1, e3])))]
        exact (h.nam w v).2 ⟨u, hu, e1, e2⟩
  · rw [h.pre]
    constructor
    · rintro ⟨u, hu, e⟩
      exact ⟨u, hu, e.1, e.2.1, e.2.2.1, by rw [hV, if_neg (fun e3 => by rw [e3, h1] at hu; cases hu)]; exact e.2.2.2⟩
    · rintro ⟨u, hu, e⟩
      exact ⟨u, hu, e.1, e.2.1, e.2.2.1, by have := e.2.2.2; rw [hV, if_neg (fun e3 => by rw [e3, h1] at hu; cases hu)] at this; exact this⟩
/-- a prefix's -/
theorem IxI.set_p {V V' : Tg → Option Int} {M : Tb.KV} {L L' : List Te} {t : Tg} {o : Option Int} (h : IxI V M L) (ht : encF t ≠ none) (h1 : ipK t.1 = true) (hV : ∀ u, V' u = if u = t then o else V u)
    (hL : ∀ k s l, (shT L' k s).find l = if (k = t.1 ∧ s = (t.2.2.1.size : Int)) ∧ l = bitsL t.2.2.1 t.2.2.2.toNat then o else (shT L k s).find l) : IxI V' M L' := by
  refine ⟨fun u hu => ?_, fun w v => ?_, fun k s l v => ?_⟩
  · rw [hV u, if_neg (fun e : u = t => ht (e ▸ hu)), h.bad u hu]
  · rw [h.nam]
    constructor
    · rintro ⟨u, hu, e1, e2⟩
      exact ⟨u, hu, e1, by rw [hV, if_neg (fun e3 => by rw [e3, h1] at hu; cases hu)]; exact e2⟩
    · rintro ⟨u, hu, e1, e2⟩
      exact ⟨u, hu, e1, by rw [hV, if_neg (fun e3 => by rw [e3, h1] at hu; cases hu)] at e2; exact e2⟩
  · rw [hL]
    constructor
    · intro e
      by_cases hw : (k = t.1 ∧ s = (t.2.2.1.size : Int)) ∧ l = bitsL t.2.2.1 t.2.2.2.toNat
      · rw [if_pos hw] at e
        exact ⟨t, h1, hw.1.1.symm, hw.1.2.symm, hw.2.symm, by rw [hV, if_pos rfl, e]⟩
      · rw [if_neg hw] at e
        obtain ⟨u, hu, e1, e2, e3, e4⟩ := (h.pre k s l v).1 e
        exact ⟨u, hu, e1, e2, e3, by rw [hV, if_neg (fun e5 => hw (by rw [← e1, ← e2, ← e3, e5]; exact ⟨⟨rfl, rfl⟩, rfl⟩)), e4]⟩
    · rintro ⟨u, hu, e1, e2, e3, e4⟩
      rw [hV] at e4
      by_cases hut : u = t
      · rw [if_pos hut] at e4
        rw [if_pos (by rw [← e1, ← e2, ← e3, hut]; exact ⟨⟨rfl, rfl⟩, rfl⟩), e4]
      · rw [if_neg hut] at e4
        rw [if_neg (fun e5 => hut (tg_pre (h.enc e4) ht hu h1 (by rw [e1, e5.1.1]) (by omega) (by rw [e3, e5.2])))]
        exact (h.pre k s l v).2 ⟨u, hu, e1, e2, e3, e4⟩
theorem IxI.look {V : Tg → Option Int} {M : Tb.KV} {L L' : List Te} (h : IxI V M L) (hL : ∀ k s, shT L' k s = shT L k s) : IxI V M L' := ⟨h.bad, h.nam, fun k s l v => by rw [hL]; exact h.pre k s l v⟩
theorem shT_snoc {L : List Te} {x : Te} (hx : x.t = .nil) (k s : Int) : shT (L ++ [x]) k s = shT L k s := by
  unfold shT lookT
  rw [List.find?_append]
  cases h : L.find? fun y => y.k == k && y.s == s with
  | some y => rfl
  | none =>
    rw [List.find?_cons]
    by_cases e : (x.k == k && x.s == s) = true
    · rw [e]; exact hx
    · rw [Bool.not_eq_true] at e
      rw [e]; rfl
theorem sumC_snoc {L : List Te} {x : Te} (hx : x.t = .nil) : sumC (L ++ [x]) = sumC L := by
  unfold sumC
  simp [hx, Tr.Sh.cnt]
end Go.Proofs.YtmlojdbahlfiaaaDoor
/- index.Of, Put, Del. -/
namespace Go.Proofs.YtmlojdbahlfiaaaDoor
open Go.Px
set_option linter.unusedVariables false
set_option linter.unusedSimpArgs false
set_option maxRecDepth 8000

theorem makeN_sz : ∀ (ls : List ByteArray) (acc m : ByteArray), acc.size ≤ 254 → makeN ls acc = some m → m.size ≤ 254
  | [], acc, m, h, e => by
    have e : some acc = some m := e
    injection e with e; rw [← e]; exact h
  | l :: ls, acc, m, h, e => by
    unfold makeN at e
    split at e
    · cases e
    · refine makeN_sz ls _ m ?_ e
      rw [ByteArray.size_append, ByteArray.size_push, foldB_size]
      omega
theorem dec_nsz {n : ByteArray} {t : Tg} (h : decF n = some t) : t.2.1.size ≤ 254 := by
  have nmd : ∀ {ls : List ByteArray} {ex wild : Int}, namedF ls ex wild = some t → t.2.1.size ≤ 254 := by
    intro ls ex wild h
    unfold namedF at h
    split at h
    · cases h
    · split at h
      · obtain ⟨n, hn, rfl⟩ := Option.map_eq_some_iff.1 h; exact makeN_sz _ _ _ (by decide) hn
      · obtain ⟨n, hn, rfl⟩ := Option.map_eq_some_iff.1 h; exact makeN_sz _ _ _ (by decide) hn
  unfold decF at h
  split at h
  · cases h
  · unfold decL at h
    split at h
    · cases h
    · split at h
      · exact nmd h
      · split at h
        · exact nmd h
        · obtain ⟨p, hp, rfl⟩ := Option.map_eq_some_iff.1 h
          exact Nat.zero_le _
theorem enc_nsz {t : Tg} (h : encF t ≠ none) : t.2.1.size ≤ 254 := by
  cases he : encF t with
  | none => exact absurd he h
  | some m => exact dec_nsz (enc_dec he)
theorem enc_mk (t : Tg) : ∃ m, mkV (encF t) = .tuple #[.string m, .bool (encF t).isSome] := by
  cases encF t with
  | none => exact ⟨_, rfl⟩
  | some m => exact ⟨_, rfl⟩
theorem IOf_runs (I : IMem) (S : SH) : Runs Tryd.prog 8 #[] I S fun v _ T => ∃ xb own, v = .pointer (some ⟨xb, 0, none⟩) ∧ IxS xb (fun _ => none) 0 0 own ∧ Sub (own ++ S) T := by
  refine index_Of_fn _ _ _ ?_
  unfold index_Of
  intro xm b3
  refine ⟨b3, [(b3, .cells #[.slice none 0 0, .int .i64 0, .int .i64 0, .map (some xm)] 71 (0, 0))] ++ ((xm, .map (esOf []) ([] : List Te).length) :: []), rfl, ⟨fun _ => none, [], ⟨xm, Tb.noTbl, _, [], Tb.noTbl_TabO b3, Tb.noTbl_TI _, rfl, List.nodup_nil, rfl, rfl⟩, ⟨fun _ _ => rfl, fun w v => ⟨fun h => (by cases h), fun ⟨_, _, _, h⟩ => (by cases h)⟩, fun k s l v => ⟨fun h => (by cases h), fun ⟨_, _, _, _, _, h⟩ => (by cases h)⟩⟩, rfl⟩, Sub.refl _⟩
/-- a trigger's block beside an index -/
abbrev tbB (b : Nat) (t : Tg) : Nat × Obj := (b, .cells (elT t).toArray 27 (0, 0))
def sNum (b : Bool) : Nat := if b = true then 1 else 0
theorem mid3 {a b : Nat × Obj} {own F S : SH} (h : Sub (own ++ F) S) : Sub (own ++ (a :: F)) (a :: S) := zc h where
  zc {own X T : SH} {x : Nat × Obj} (h : Sub (own ++ X) T) : Sub (own ++ (x :: X)) (x :: T) := (h.cons x).re (by intro a; simp only [cnt_cons, cnt_app]; omega)
theorem IPut_runs {xb n c : Nat} {V : Tg → Option Int} {own F S : SH} {I : IMem} (g : GL I) (h : IxS xb V n c own) (hs : Sub (own ++ F) S) (t : Tg) (v : Int) (hn : n + 1 ≤ 1073741824) (hc : c ≤ 1152921504606846976) :
    Runs Tryd.prog 12 #[.pointer (some ⟨xb, 0, none⟩), vT t, .int .i64 v] I S fun w _ T => w = .bool ((encF t).isSome && (V t).isNone) ∧ ∃ n' c' own', IxS xb (putV V t v) n' c' own' ∧
      n' = n + sNum ((encF t).isSome && (!ipK t.1 && (V t).isNone)) ∧ c' = c + sNum ((encF t).isSome && (V t).isNone) ∧ Sub (own' ++ F) T := by
  obtain ⟨M, L, hO, hI, rfl⟩ := h
  refine index_Index_Put_fn _ _ _ _ _ _ _ _ _ ?_
  unfold index_Index_Put
  intro b4
  refine ⟨_, Cell.at0 rfl, _, Cell.at0 rfl, _, Cell.at0 rfl, _, Cell.at0 rfl, (Encode_runs t g _).mono ?_⟩
  rintro w J1 T1 hle1 ⟨rfl, rfl⟩
  obtain ⟨m, hm⟩ := enc_mk t
  rw [hm]
  have hs1 : Sub (own ++ (tbB b4 t :: F)) (tbB b4 t :: S) := mid3.zc hs
  refine ⟨_, _, rfl, bcase_not (bcase_of (fun he => ?_) (fun he => ?_))⟩
  case refine_2 =>
    rw [he]
    refine ⟨rfl, n, n + sumC L, own, ⟨M, L, hO, ?_, rfl⟩, rfl, rfl, hs.skip _⟩
    unfold putV
    rw [if_neg (by rw [he]; exact Bool.false_ne_true)]
    exact hI
  have hen : encF t ≠ none := by intro e; rw [e] at he; cases he
  have hput : ∀ u, putV V t v u = if u = t then some v else V u := fun u => by unfold putV; rw [if_pos he]
  rw [he]
  obtain ⟨c0, c1, c2, c3, c4⟩ := tgX (I := J1) (hs1.right : Sub (tgB b4 t :: F) _)
  unfold index_Index_Put_b1
  refine ⟨_, c0, (Ip_runs _ _ _).mono ?_⟩
  rintro w J2 T2 hle2 ⟨rfl, rfl⟩
  refine ⟨_, rfl, ?_⟩
  obtain ⟨c0, c1, c2, c3, c4⟩ := tgX (I := J2) (hs1.right : Sub (tgB b4 t :: F) _)
  unfold index_Index_Put_b2
  refine bcase_of (fun hip => ?_) (fun hip => ?_)
  · -- a prefix
    obtain ⟨d0, d1, d2, d3, d4⟩ := tgX (I := J2) (Sub.refl (tgB b4 t :: F))
    have hmay : mayP t.2.2.1 t.2.2.2 := by
      rcases enc_shape hen with h | ⟨h, _⟩
      · exact h.2.2
      · rw [nmK_ip h] at hip; cases hip
    refine ⟨tgB b4 t :: F, (hs1.right).keep (IMem.le.refl J2), _, d0, _, d1, _, d2, _, d4, _, d2, _, d3, (trie_runs t hO hs1).mono ?_⟩
    rintro w J3 T3 hle3 ⟨L', own2, x, rfl, hx, hL', hO2, hs2⟩
    have hsh : ∀ k s, shT L' k s = shT L k s := by
      intro k s
      rcases hL' with rfl | ⟨_, hx0, rfl⟩
      · rfl
      · exact shT_snoc (by rw [hx0]) k s
    have hsum : sumC L' = sumC L := by
      rcases hL' with rfl | ⟨_, hx0, rfl⟩
      · rfl
      · exact sumC_snoc (by rw [hx0])
    have hI' := hI.look hsh
    refine ⟨_, rfl, hs2.right.keep hle3, (Key_runs hmay _ _).mono ?_⟩
    rintro w J4 T4 hle4 ⟨rfl, hs4⟩
    refine ⟨_, rfl, ?_⟩
    obtain ⟨ox, rest, hxO, hxw, hxl, hgo, hcx, hback⟩ := hO2.upd hx
    have hlen : (bitsL t.2.2.1 t.2.2.2.toNat).length ≤ 128 := by
      rw [bitsL_len]
      obtain ⟨⟨h1, h2, h3⟩, _⟩ := hmay
      omega
    refine (Runs_fr (R := fun w o => w = .bool (x.t.find (bitsL t.2.2.1 t.2.2.2.toNat)).isNone ∧ Tr.TriO x.b (x.t.put (bitsL t.2.2.1 t.2.2.2.toNat) v) o) (hgo _ _ (hs2.trans hs4)) (fun F' => (Tr.Put_runs x.b x.t hxw (by omega) ox hxO _ hlen v _ F').mono ?_)).mono ?_
    · rintro w J T hle ⟨rfl, o, ho, rfl⟩
      exact ⟨o, ⟨rfl, ho⟩, rfl⟩
    · rintro w J5 T5 hle5 ⟨o, ⟨rfl, ho⟩, hs5⟩
      have hfind : x.t.find (bitsL t.2.2.1 t.2.2.2.toNat) = V t := by
        rw [← hI'.get_p hen hip]
        unfold shT
        rw [hx]; rfl
      obtain ⟨L2, own3, hO3, hb3, hsh3, hsum3⟩ := hback _ _ ho (Tr.Sh.put_wf _ _ _ hxw) (Nat.le_trans (Tr.Sh.put_len _ _ _) (by omega))
      refine ⟨_, rfl, ?_⟩
      unfold index_Index_Put_b3
      rw [hfind]
      refine ⟨rfl, n, n + sumC L2, own3, ⟨M, L2, hO3, hI'.set_p (o := some v) hen hip hput ?_, rfl⟩, ?_, ?_, (hb3 _ _ hs5).re (by intro a; simp only [cnt_cons, cnt_app]; omega)⟩
      · intro k s l
        rw [hsh3]
        by_cases e : k = t.1 ∧ s = (t.2.2.1.size : Int)
        · rw [if_pos e, Tr.Sh.put_find _ _ _ _ hxw]
          by_cases e2 : l = bitsL t.2.2.1 t.2.2.2.toNat
          · rw [if_pos e2, if_pos ⟨e, e2⟩]
          · rw [if_neg e2, if_neg (fun h => e2 h.2), e.1, e.2]
            unfold shT
            rw [hx]; rfl
        · rw [if_neg e, if_neg (fun h => e h.1)]
      · rw [hip]; rfl
      · rw [Tr.Sh.put_cnt _ _ _ hxw, hfind] at hsum3
        rw [hsum] at hsum3
        cases hV : V t with
        | none => rw [hV] at hsum3; simp [sNum] at hsum3 ⊢; omega
        | some u => rw [hV] at hsum3; simp [sNum] at hsum3 ⊢; omega
  · -- a name
    have hnm : nmK t.1 := by
      rcases enc_shape hen with h | ⟨h, _⟩
      · rw [h.1] at hip; cases hip
      · exact h
    have hnz := enc_nsz hen
    unfold index_Index_Put_b4
    refine ⟨_, c0, _, c1, (Word_runs hnm _ (by omega) _ _).mono ?_⟩
    rintro w J3 T3 hle3 ⟨rfl, rfl⟩
    refine ⟨_, rfl, ?_⟩
    obtain ⟨xm, tb, o1, rest, hT, hTI, hlv, hgo, hback⟩ := hO.tab
    have hws : (wordB t.1 t.2.1).size ≤ 9223372036854775807 := by
      unfold wordB
      rw [word_enc hnm, ByteArray.size_append]
      show 1 + t.2.1.size ≤ _
      omega
    refine (Runs_fr (R := fun w o => w = .bool (M (wordB t.1 t.2.1)).isNone ∧ ∃ t', Tb.TabO xm xb t' o ∧ Tb.TI 1073741824 t' (M.put (wordB t.1 t.2.1) v) ∧ t'.live = (if (M (wordB t.1 t.2.1)).isNone then tb.live + 1 else tb.live)) (hgo _ _ hs1) (fun F' => (Tb.Put_TI hT hTI (Nat.le_refl _) (Nat.le_refl _) (wordB t.1 t.2.1) v hws (fun _ => by omega) _ F').mono ?_)).mono ?_
    · rintro w J T hle ⟨rfl, t', o, ho, hti, hl, _, rfl⟩
      exact ⟨o, ⟨rfl, t', ho, hti, hl⟩, rfl⟩
    · rintro w J5 T5 hle5 ⟨o, ⟨rfl, t', ho, hti, hl⟩, hs5⟩
      have hfind : M (wordB t.1 t.2.1) = V t := hI.get_n hen hip
      obtain ⟨own3, hO3, hb3⟩ := hback _ _ _ ho hti
      refine ⟨_, rfl, ?_⟩
      unfold index_Index_Put_b5
      rw [hfind] at hl ⊢
      refine ⟨rfl, t'.live, t'.live + sumC L, own3, ⟨_, L, hO3, hI.set_n (o := some v) hen hip hput (fun w => rfl), rfl⟩, ?_, ?_, (hb3 _ _ hs5).re (by intro a; simp only [cnt_cons, cnt_app]; omega)⟩
      · rw [hl, hip, hlv]
        cases V t <;> rfl
      · rw [hl, hlv]
        cases V t <;> simp [sNum] <;> omega
end Go.Proofs.YtmlojdbahlfiaaaDoor
/- index.Del, Len. -/
namespace Go.Proofs.YtmlojdbahlfiaaaDoor
open Go.Px
set_option linter.unusedVariables false
set_option linter.unusedSimpArgs false
set_option maxRecDepth 8000

/-! ### how many there are -/
end Go.Proofs.YtmlojdbahlfiaaaDoor
/- index.Name, index.Addr; the law's examples. -/
namespace Go.Proofs.YtmlojdbahlfiaaaDoor
open Go.Px
set_option linter.unusedVariables false
set_option linter.unusedSimpArgs false
set_option maxRecDepth 8000

abbrev tgN (k : Int) (n : ByteArray) : Tg := (k, n, ⟨#[]⟩, 0)
theorem IxI.word {V : Tg → Option Int} {M : Tb.KV} {L : List Te} (h : IxI V M L) {k : Int} (hk : nmK k) (n : ByteArray) : M (wordB k n) = V (tgN k n) := by
  by_cases he : encF (tgN k n) = none
  · rw [h.bad _ he]
    cases hM : M (wordB k n) with
    | none => rfl
    | some v =>
      obtain ⟨t, ht, e, hv⟩ := (h.nam _ _).1 hM
      have hen := h.enc hv
      rcases enc_shape hen with h1 | ⟨h1, h2, h3⟩
      · rw [h1.1] at ht; cases ht
      · obtain ⟨e1, e2⟩ := word_inj h1 hk e
        have : t = tgN k n := Prod.ext e1 (Prod.ext e2 (Prod.ext h2 h3))
        rw [this] at hen
        exact absurd he hen
  · exact h.get_n (t := tgN k n) he (nmK_ip hk)
def upV (V : Tg → Option Int) (wild : Int) : Nat → ByteArray × Bool → Option (Int × Tg)
  | 0, _ => none
  | f + 1, p => if p.2 = true then (match V (tgN wild p.1) with | some v => some (v, tgN wild p.1) | none => upV V wild f (parN p.1)) else none
def nameV (V : Tg → Option Int) (exact wild : Int) (n : ByteArray) : Option (Int × Tg) := match V (tgN exact n) with
  | some v => some (v, tgN exact n)
  | none => upV V wild (n.size + 1) (parN n)
abbrev resN (r : Option (Int × Tg)) : Value := .tuple #[.int .i64 (r.getD (0, t0)).1, vT (r.getD (0, t0)).2, .bool r.isSome]
theorem tget {xb n : Nat} {M : Tb.KV} {L : List Te} {own F S : SH} {I : IMem} (hO : IxO xb M n L own) (hs : Sub (own ++ F) S) (w : ByteArray) (hw : w.size ≤ 9223372036854775807) :
    Runs Tryd.prog 25 #[.pointer (some ⟨xb, 0, none⟩), .string w] I S fun v _ T => v = .tuple #[.int .i64 ((M w).getD 0), .bool (M w).isSome] ∧ Sub (own ++ F) T := by
  obtain ⟨xm, tb, o1, rest, hT, hTI, hlv, hgo, hback⟩ := hO.tab
  obtain ⟨G, hG⟩ := hs
  have hs2 : Sub (own ++ (F ++ G)) S := ⟨[], by rw [List.append_nil, ← List.append_assoc]; exact hG⟩
  obtain ⟨xm, tb, o1, o2, hT, hTI, hn, hnd, hL, rfl⟩ := hO
  have hs' : Sub (o1 ++ (((xm, .map (esOf L) L.length) :: o2) ++ F)) S := hs2.re (by intro a; simp only [cnt_cons, cnt_app]; omega)
  refine (Runs_fr (R := fun v o => v = .tuple #[.int .i64 ((M w).getD 0), .bool (M w).isSome] ∧ o = o1) hs' (fun F' => (Tb.Get_TI hT hTI (Nat.le_refl _) w hw _ F').mono ?_)).mono ?_
  · rintro v J T hle ⟨rfl, rfl⟩
    exact ⟨o1, ⟨rfl, rfl⟩, rfl⟩
  · rintro v J T hle ⟨o, ⟨rfl, ho⟩, hs3⟩
    rw [ho] at hs3
    exact ⟨rfl, hs3.re (by intro a; simp only [cnt_cons, cnt_app]; omega)⟩
theorem word_sz {k : Int} (h : nmK k) {n : ByteArray} (hn : n.size ≤ 1000000) : (wordB k n).size ≤ 9223372036854775807 := by
  unfold wordB
  rw [word_enc h, ByteArray.size_append]
  show 1 + n.size ≤ _
  omega
theorem name_hit {xb n c : Nat} {V : Tg → Option Int} {own F T : SH} {b9 : Nat} {x t : Tg} {v : Int} {J : IMem} (hs : Sub (own ++ (tgB b9 x :: F)) T) {R : RT} (hR : ∀ T', Sub (own ++ F) T' → R (.tuple #[.int .i64 v, vT t, .bool true]) J T') :
    StP T ⟨b9, 0, none⟩ [.int .i64 t.1, .string t.2.1, .string t.2.2.1, .int .i64 t.2.2.2] fun S1 => ∃ u0, Cell J S1 ⟨b9, 0, none⟩ (.int .i64 u0) ∧ ∃ u1, Cell J S1 ((⟨b9, 0, none⟩ : Addr).add 1) (.string u1) ∧ ∃ u2, Cell J S1 ((⟨b9, 0, none⟩ : Addr).add 2) (.string u2) ∧ ∃ u3, Cell J S1 ((⟨b9, 0, none⟩ : Addr).add 3) (.int .i64 u3) ∧ R (.tuple #[.int .i64 v, .agg #[.int .i64 u0, .string u1, .string u2, .int .i64 u3], .bool true]) J S1 := by
  refine put_tg (x := x) (t := t) (F := own ++ F) (hs.re (by intro a; simp only [cnt_cons, cnt_app]; omega)) fun T' hT' => ?_
  obtain ⟨c0, c1, c2, _, c3⟩ := tgX (I := J) hT'
  exact ⟨_, c0, _, c1, _, c2, _, c3, hR T' hT'.drop⟩
theorem IName_runs {xb n c : Nat} {V : Tg → Option Int} {own F S : SH} {I : IMem} (h : IxS xb V n c own) (hs : Sub (own ++ F) S) {exact_ wild : Int} (he : nmK exact_) (hw : nmK wild) (nn : ByteArray) (hn : nn.size ≤ 1000000) :
    Runs Tryd.prog 13 #[.pointer (some ⟨xb, 0, none⟩), .int .i64 exact_, .int .i64 wild, .string nn] I S fun v _ T => v = resN (nameV V exact_ wild nn) ∧ Sub (own ++ F) T := by
  obtain ⟨M, L, hO, hI, rfl⟩ := h
  refine index_Index_Name_fn _ _ _ _ _ _ _ ?_
  unfold index_Index_Name index_Index_Name_b1
  intro b9
  have hs1 : Sub (own ++ (tgB b9 t0 :: F)) ((b9, .cells #[.int .i64 0, .string ⟨#[]⟩, .string ⟨#[]⟩, .int .i64 0] 27 (0, 0)) :: S) := mid3.zc hs
  refine (Word_runs he nn hn _ _).mono ?_
  rintro v J1 T1 hle1 ⟨rfl, rfl⟩
  refine ⟨_, rfl, (tget hO hs1 _ (word_sz he hn)).mono ?_⟩
  rintro v J2 T2 hle2 ⟨rfl, hs2⟩
  refine ⟨_, _, rfl, ?_⟩
  unfold index_Index_Name_b2
  have hM := hI.word he nn
  rw [hM]
  cases hV : V (tgN exact_ nn) with
  | some v =>
    refine bcase_t rfl (name_hit (t := tgN exact_ nn) (n := n) (c := 0) (xb := xb) (V := V) (F := F) (own := own) (x := t0) (v := v) (R := fun v _ T => v = resN (nameV V exact_ wild nn) ∧ Sub (own ++ F) T) hs2 (fun T' hT' => ⟨?_, hT'⟩))
    rw [nameV, hV]; rfl
  | none =>
    have hnv : nameV V exact_ wild nn = upV V wild (nn.size + 1) (parN nn) := by rw [nameV, hV]
    rw [hnv]
    refine bcase_f rfl ?_
    unfold index_Index_Name_b3
    refine (Parent_runs nn _ _).mono ?_
    rintro v J3 T3 hle3 ⟨rfl, rfl⟩
    refine ⟨_, _, rfl, ?_⟩
    unfold index_Index_Name_b4
    refine ⟨fun m x0 x2 x9 up ok J T => x0 = some ⟨xb, 0, none⟩ ∧ x2 = wild ∧ x9 = ⟨b9, 0, none⟩ ∧ (ok = true → up.size < m) ∧ m ≤ 1000001 ∧ upV V wild m (up, ok) = upV V wild (nn.size + 1) (parN nn) ∧ Sub (own ++ (tgB b9 t0 :: F)) T,
      nn.size + 1, ⟨rfl, rfl, rfl, fun h => by have := parN_size h; omega, by omega, rfl, hs2⟩, ?_⟩
    rintro m x0 x2 x9 up ok J T - ⟨rfl, rfl, rfl, hup, hm, hres, hsT⟩
    rw [← hres]
    unfold index_Index_Name_l5
    refine bcase_of (fun hok => ?_) (fun hok => ?_)
    · subst hok
      have hlt := hup rfl
      obtain ⟨f, rfl⟩ : ∃ f, m = f + 1 := ⟨m - 1, by omega⟩
      have hun : upV V x2 (f + 1) (up, true) = match V (tgN x2 up) with | some v => some (v, tgN x2 up) | none => upV V x2 f (parN up) := by
        rw [upV]
        exact if_pos rfl
      unfold index_Index_Name_b6
      refine (Word_runs hw up (by omega) _ _).mono ?_
      rintro v J4 T4 hle4 ⟨rfl, rfl⟩
      refine ⟨_, rfl, (tget hO hsT _ (word_sz hw (by omega))).mono ?_⟩
      rintro v J5 T5 hle5 ⟨rfl, hs5⟩
      refine ⟨_, _, rfl, ?_⟩
      unfold index_Index_Name_b7
      rw [hI.word hw up]
      cases hV2 : V (tgN x2 up) with
      | some v =>
        refine bcase_t rfl (name_hit (t := tgN x2 up) (n := n) (c := 0) (xb := xb) (V := V) (F := F) (own := own) (x := t0) (v := v) (R := fun v _ T => v = resN (upV V x2 (f + 1) (up, true)) ∧ Sub (own ++ F) T) hs5 (fun T' hT' => ⟨?_, hT'⟩))
        rw [hun, hV2]; rfl
      | none =>
        refine bcase_f rfl ?_
        unfold index_Index_Name_b8
        refine (Parent_runs up _ _).mono ?_
        rintro v J6 T6 hle6 ⟨rfl, rfl⟩
        refine ⟨_, _, rfl, f, by omega, rfl, rfl, rfl, fun h => by have := parN_size h; omega, by omega, ?_, hs5⟩
        rw [hun, hV2]
    · subst hok
      unfold index_Index_Name_b9
      have hun : upV V x2 m (up, false) = none := by
        cases m with
        | zero => rfl
        | succ f => rfl
      rw [hun]
      refine put_tg (x := t0) (t := t0) (F := own ++ F) (hsT.re (by intro a; simp only [cnt_cons, cnt_app]; omega)) fun T' hT' => ?_
      obtain ⟨c0, c1, c2, _, c3⟩ := tgX (I := J) hT'
      exact ⟨_, c0, _, c1, _, c2, _, c3, rfl, hT'.drop⟩
/-! ### the law's examples -/
theorem V_put {V : Tg → Option Int} {t : Tg} {v : Int} (h : encF t ≠ none) (u : Tg) : putV V t v u = if u = t then some v else V u := by
  unfold putV
  rw [if_pos (by cases he : encF t with | none => exact absurd he h | some m => rfl)]
end Go.Proofs.YtmlojdbahlfiaaaDoor
/- The law's examples. -/
namespace Go.Proofs.YtmlojdbahlfiaaaDoor
open Go.Px
set_option linter.unusedVariables false
set_option linter.unusedSimpArgs false
set_option maxRecDepth 8000

def wEx : ByteArray := ⟨#[101, 120]⟩
def wB : ByteArray := ⟨#[98]⟩
def wA : ByteArray := ⟨#[97]⟩
theorem wr1 : ∀ l ∈ [wEx], l ∈ wrdL := by intro l hl; simp [wrdL, wEx] at *; simp [hl]
theorem wr2 : ∀ l ∈ [wB, wEx], l ∈ wrdL := by
  intro l hl
  rcases List.mem_cons.1 hl with rfl | hl
  · simp [wrdL, wB]
  · exact wr1 l hl
theorem wr3 : ∀ l ∈ [wA, wB, wEx], l ∈ wrdL := by
  intro l hl
  rcases List.mem_cons.1 hl with rfl | hl
  · simp [wrdL, wA]
  · exact wr2 l hl
theorem lab_of {us : List ByteArray} (h : ∀ l ∈ us, l ∈ wrdL) : ∀ l ∈ us, IsLab l := fun l hl => (wrd_p (h l hl)).1
theorem good_w {us : List ByteArray} (h : ∀ l ∈ us, l ∈ wrdL) (hl : us.length ≤ 5) : encF (tgN 2 (nm us)) ≠ none := by
  have hg : GoodN (tgN 2 (nm us)) := ⟨by show (2 : Int) = 1 ∨ (2 : Int) = 2 ∨ (2 : Int) = 4 ∨ (2 : Int) = 5; decide, rfl, us, h, hl, rfl, fun h => by rcases h with h | h <;> cases h⟩
  rw [(enc_good (.inr hg)).1]
  exact Option.some_ne_none _
theorem awake17_runs {I : IMem} (g : GL I) (S : SH) : Runs Tryd.prog 7 #[] I S fun v _ T => v = .bool true ∧ Sub S T := by
  refine bolterlaw17_awake_fn _ _ _ ?_
  unfold bolterlaw17_awake
  refine (IOf_runs I S).mono ?_
  rintro v J0 T0 hle0 ⟨xb, own0, rfl, hx0, hs0⟩
  refine ⟨_, rfl, bcase_f rfl fun b20 => ?_⟩
  refine (Make_runs (ls := [wEx]) (strs_row [wEx] (by decide)) (by decide)).mono ?_
  rintro v J1 T1 hle1 ⟨rfl, rfl⟩
  rw [wrd_make wr1 (by decide)]
  refine ⟨_, _, rfl, fun b25 => (Make_runs (ls := [wB, wEx]) (strs_row [wB, wEx] (by decide)) (by decide)).mono ?_⟩
  rintro v J2 T2 hle2 ⟨rfl, rfl⟩
  rw [wrd_make wr2 (by decide)]
  refine ⟨_, _, rfl, fun b30 => (Make_runs (ls := [wA, wB, wEx]) (strs_row [wA, wB, wEx] (by decide)) (by decide)).mono ?_⟩
  rintro v J3 T3 hle3 ⟨rfl, rfl⟩
  rw [wrd_make wr3 (by decide)]
  refine ⟨_, _, rfl, ?_⟩
  have hs1 : Sub (own0 ++ S) ((b30, Obj.cells (([wA, wB, wEx] : List ByteArray).flatMap elS).toArray 9 (0, 0)) :: (b25, Obj.cells (([wB, wEx] : List ByteArray).flatMap elS).toArray 9 (0, 0)) :: (b20, Obj.cells (([wEx] : List ByteArray).flatMap elS).toArray 9 (0, 0)) :: T0) := ((hs0.skip _).skip _).skip _
  have l3 := ((hle0.trans hle1).trans hle2).trans hle3
  refine (IPut_runs (g.le l3) hx0 hs1 (tgN 2 (nm [wEx])) 1 (by decide) (by decide)).mono ?_
  rintro v J4 T4 hle4 ⟨rfl, n1, c1, own1, hx1, hn1, hc1, hs2⟩
  refine ⟨_, rfl, (IPut_runs (g.le (l3.trans hle4)) hx1 hs2 (tgN 2 (nm [wB, wEx])) 2 (by rw [hn1]; unfold sNum; split <;> omega) (by rw [hc1]; unfold sNum; split <;> omega)).mono ?_⟩
  rintro v J5 T5 hle5 ⟨rfl, n2, c2, own2, hx2, hn2, hc2, hs3⟩
  have e1 := good_w wr1 (by decide)
  have e2 := good_w wr2 (by decide)
  have ne12 : nm [wB, wEx] ≠ nm [wEx] := fun e => by have := congrArg ByteArray.size e; revert this; decide
  have hV : ∀ u, putV (putV (fun _ => none) (tgN 2 (nm [wEx])) 1) (tgN 2 (nm [wB, wEx])) 2 u = if u = tgN 2 (nm [wB, wEx]) then some 2 else if u = tgN 2 (nm [wEx]) then some 1 else none := fun u => by
    rw [V_put e2, V_put e1]
  have hV1 : putV (fun _ => none) (tgN 2 (nm [wEx])) 1 (tgN 2 (nm [wB, wEx])) = none := by
    rw [V_put e1, if_neg (fun e => by injection e with _ e; injection e with e _; exact ne12 e)]
  have b1 : ((encF (tgN 2 (nm [wEx]))).isSome && ((none : Option Int)).isNone) = true := by
    cases h : encF (tgN 2 (nm [wEx])) with
    | none => exact absurd h e1
    | some m => rfl
  have b2 : ((encF (tgN 2 (nm [wB, wEx]))).isSome && ((none : Option Int)).isNone) = true := by
    cases h : encF (tgN 2 (nm [wB, wEx])) with
    | none => exact absurd h e2
    | some m => rfl
  rw [hV1, b2, b1]
  have p3 : parN (nm [wA, wB, wEx]) = (nm [wB, wEx], true) := parN_nm (lab_of wr3) (by decide)
  have p1 : parN (nm [wEx]) = (nm [], true) := parN_nm (lab_of wr1) (by decide)
  have p0 : parN (nm []) = (⟨#[]⟩, false) := rfl
  have k12 : ∀ a b : ByteArray, tgN 1 a ≠ tgN 2 b := fun a b e => by injection e with e _; cases e
  have nA : nameV (putV (putV (fun _ => none) (tgN 2 (nm [wEx])) 1) (tgN 2 (nm [wB, wEx])) 2) 1 2 (nm [wA, wB, wEx]) = some (2, tgN 2 (nm [wB, wEx])) := by
    unfold nameV
    rw [hV, if_neg (k12 _ _), if_neg (k12 _ _)]
    dsimp only
    rw [p3, upV]
    dsimp only
    rw [hV, if_pos rfl]
    rfl
  have nB : nameV (putV (putV (fun _ => none) (tgN 2 (nm [wEx])) 1) (tgN 2 (nm [wB, wEx])) 2) 1 2 (nm [wEx]) = none := by
    unfold nameV
    rw [hV, if_neg (k12 _ _), if_neg (k12 _ _)]
    dsimp only
    rw [p1, upV]
    dsimp only
    rw [if_pos rfl, hV, if_neg (fun e => by injection e with _ e; injection e with e _; have := congrArg ByteArray.size e; revert this; decide), if_neg (fun e => by injection e with _ e; injection e with e _; have := congrArg ByteArray.size e; revert this; decide)]
    dsimp only
    rw [p0]
    rfl
  refine ⟨_, rfl, (IName_runs hx2 hs3 (exact_ := 1) (wild := 2) (.inl rfl) (.inr (.inl rfl)) (nm [wA, wB, wEx]) (by decide)).mono ?_⟩
  rintro v J6 T6 hle6 ⟨rfl, hs4⟩
  rw [nA]
  refine ⟨_, _, _, _, _, _, rfl, fun b11 => StP.tg (x := t0) (t := tgN 2 (nm [wB, wEx])) ?_⟩
  have hs5 : Sub (own2 ++ (tgB b11 (tgN 2 (nm [wB, wEx])) :: S)) (tgB b11 (tgN 2 (nm [wB, wEx])) :: T6) := mid3.zc hs4
  refine (IName_runs hx2 hs5 (exact_ := 1) (wild := 2) (.inl rfl) (.inr (.inl rfl)) (nm [wEx]) (by decide)).mono ?_
  rintro v J7 T7 hle7 ⟨rfl, hs6⟩
  rw [nB]
  refine ⟨_, _, _, _, _, _, rfl, fun b14 => StP.tg (x := t0) (t := t0) ?_⟩
  refine bcase_t rfl (bcase_t rfl (bcase_t rfl ⟨_, Cell.tl (Cell.at_ rfl (Cell.among hs6.right rfl)), bcase_t (keq.2 rfl) (bcase_t rfl ?_)⟩))
  unfold bolterlaw17_awake_b1
  exact ⟨rfl, hs6.right.drop.skip _⟩
end Go.Proofs.YtmlojdbahlfiaaaDoor
set_option linter.unusedVariables false
set_option maxRecDepth 8000
set_option maxHeartbeats 2000000
namespace Go.Proofs.YtmlojdbahlfiaaaDoor
open Go.Px
end Go.Proofs.YtmlojdbahlfiaaaDoor
/- index.Addr; IndexNone: a trigger that has no name is not put in; nothing is found of what is no address. -/
namespace Go.Proofs.YtmlojdbahlfiaaaDoor
open Go.Px
set_option linter.unusedVariables false
set_option linter.unusedSimpArgs false
set_option maxRecDepth 8000

theorem cut_all (a : ByteArray) : cutB a (8 * a.size) = a := by
  have : a.data.toList.length = a.size := Array.length_toList
  apply ext_list
  show cutL a.data.toList (8 * a.size) = a.data.toList
  rw [cutL, this, Nat.sub_self]; rfl
def addrV (sh : Tr.Sh) (kind : Int) (a : ByteArray) : Option (Int × Tg) := if a.size = 4 ∨ a.size = 16 then (sh.walk (bitsL a (8 * a.size)) 0 none).map (fun p => (p.1, (kind, ⟨#[]⟩, cutB a p.2, (p.2 : Int)))) else none
theorem addr_zero {b7 : Nat} {x : Tg} {F T : SH} {J : IMem} {r : Option (Int × Tg)} (hr : r = none) {Q : Value → SH → Prop} (hs : Sub (tgB b7 x :: F) T) (hQ : ∀ T', Sub F T' → Q (resN r) T') :
    StP T ⟨b7, 0, none⟩ [.int .i64 0, .string ⟨#[]⟩, .string ⟨#[]⟩, .int .i64 0] fun S1 => ∃ u0, Cell J S1 ⟨b7, 0, none⟩ (.int .i64 u0) ∧ ∃ u1, Cell J S1 ((⟨b7, 0, none⟩ : Addr).add 1) (.string u1) ∧ ∃ u2, Cell J S1 ((⟨b7, 0, none⟩ : Addr).add 2) (.string u2) ∧ ∃ u3, Cell J S1 ((⟨b7, 0, none⟩ : Addr).add 3) (.int .i64 u3) ∧ Q (.tuple #[.int .i64 0, .agg #[.int .i64 u0, .string u1, .string u2, .int .i64 u3], .bool false]) S1 := by
  subst hr
  refine put_tg (x := x) (t := t0) hs fun T' hT' => ?_
  obtain ⟨c0, c1, c2, _, c3⟩ := tgX (I := J) hT'
  exact ⟨_, c0, _, c1, _, c2, _, c3, hQ T' hT'.drop⟩
theorem IAddr_runs {xb n c : Nat} {V : Tg → Option Int} {own F S : SH} {I : IMem} (h : IxS xb V n c own) (hs : Sub (own ++ F) S) (kind : Int) (a : ByteArray) (ha : a.size ≤ 140737488355328) :
    Runs Tryd.prog 14 #[.pointer (some ⟨xb, 0, none⟩), .int .i64 kind, .string a] I S fun v _ T => (∃ sh : Tr.Sh, sh.wf ∧ (∀ l u, sh.find l = some u ↔ ∃ t, ipK t.1 = true ∧ t.1 = kind ∧ (t.2.2.1.size : Int) = (a.size : Int) ∧ bitsL t.2.2.1 t.2.2.2.toNat = l ∧ V t = some u) ∧ v = resN (addrV sh kind a)) ∧ Sub (own ++ F) T := by
  obtain ⟨M, L, hO, hI, rfl⟩ := h
  have hO' := hO
  obtain ⟨xm, tb, o1, o2, hT, hTI, hn, hnd, hL, rfl⟩ := hO'
  have hspec : ∀ l u, (shT L kind (a.size : Int)).find l = some u ↔ ∃ t, ipK t.1 = true ∧ t.1 = kind ∧ (t.2.2.1.size : Int) = (a.size : Int) ∧ bitsL t.2.2.1 t.2.2.2.toNat = l ∧ V t = some u := fun l u => hI.pre kind _ l u
  have hwf : (shT L kind (a.size : Int)).wf := by
    unfold shT
    cases hx : lookT L kind (a.size : Int) with
    | none => exact trivial
    | some x =>
      obtain ⟨_, _, _, _, _, _, _, _, _, _, _, hw, _⟩ := hL.split hx
      exact hw
  refine index_Index_Addr_fn _ _ _ _ _ _ ?_
  unfold index_Index_Addr
  intro b7
  have hsB : Sub (tgB b7 t0 :: ((o1 ++ (xm, .map (esOf L) L.length) :: o2) ++ F)) ((b7, .cells #[.int .i64 0, .string ⟨#[]⟩, .string ⟨#[]⟩, .int .i64 0] 27 (0, 0)) :: S) := hs.cons _
  rw [wrap_i64 (by omega) (by omega)]
  refine (Cut_runs _ _ _ _).mono ?_
  rintro v J1 T1 hle1 ⟨rfl, rfl⟩
  have e8 : ((8 : Int) * (a.size : Int)).toNat = 8 * a.size := by omega
  have hcut : ∃ p q b, cutV a (8 * (a.size : Int)) = .tuple #[.agg #[.string p, .int .i64 q], .bool b] ∧ (b = true ↔ a.size = 4 ∨ a.size = 16) ∧ (b = true → p = a ∧ q = 8 * (a.size : Int)) := by
    unfold cutV
    by_cases hc : okC a (8 * (a.size : Int))
    · rw [if_pos hc]
      exact ⟨_, _, true, rfl, ⟨fun _ => hc.1, fun _ => rfl⟩, fun _ => ⟨by rw [e8, cut_all], rfl⟩⟩
    · rw [if_neg hc]
      exact ⟨_, _, false, rfl, ⟨fun h => (by cases h), fun h => absurd ⟨h, by omega, by omega⟩ hc⟩, fun h => (by cases h)⟩
  obtain ⟨p, q, b, hcv, hb, hpq⟩ := hcut
  rw [hcv]
  refine ⟨_, _, _, rfl, fun b9 => StP.all (vs := [.string p, .int .i64 q]) rfl rfl ?_⟩
  have hs2 : Sub (o1 ++ ((xm, .map (esOf L) L.length) :: (o2 ++ (tgB b7 t0 :: (pfB b9 p q :: F))))) (pfB b9 p q :: (b7, .cells #[.int .i64 0, .string ⟨#[]⟩, .string ⟨#[]⟩, .int .i64 0] 27 (0, 0)) :: S) :=
    (hsB.cons (pfB b9 p q)).re (by intro a; simp only [cnt_cons, cnt_app]; omega)
  have hm : MpC J1 _ xm (esOf L) L.length := MpC.of_sub hs2.right
  refine ⟨_, tab_cell hT hs2, ?_⟩
  have done : ∀ {T : SH}, Sub ((o1 ++ (xm, .map (esOf L) L.length) :: o2) ++ (pfB b9 p q :: F)) T → Sub ((o1 ++ (xm, .map (esOf L) L.length) :: o2) ++ F) T := fun h => (h.re (by intro a; simp only [cnt_cons, cnt_app, cnt_nil]; omega) : Sub (((o1 ++ (xm, .map (esOf L) L.length) :: o2) ++ F) ++ [pfB b9 p q]) _).left
  have hs3 : Sub (tgB b7 t0 :: ((o1 ++ (xm, .map (esOf L) L.length) :: o2) ++ (pfB b9 p q :: F))) (pfB b9 p q :: (b7, .cells #[.int .i64 0, .string ⟨#[]⟩, .string ⟨#[]⟩, .int .i64 0] 27 (0, 0)) :: S) := hs2.re (by intro a; simp only [cnt_cons, cnt_app]; omega)
  -- nothing
  have none2 : ∀ (x11 : OA), addrV (shT L kind (a.size : Int)) kind a = none → index_Index_Addr_b2 (fun v _ T => (∃ sh : Tr.Sh, sh.wf ∧ (∀ l u, sh.find l = some u ↔ ∃ t, ipK t.1 = true ∧ t.1 = kind ∧ (t.2.2.1.size : Int) = (a.size : Int) ∧ bitsL t.2.2.1 t.2.2.2.toNat = l ∧ V t = some u) ∧ v = resN (addrV sh kind a)) ∧ Sub ((o1 ++ (xm, .map (esOf L) L.length) :: o2) ++ F) T) kind a ⟨b7, 0, none⟩ ⟨b9, 0, none⟩ x11 true J1 (pfB b9 p q :: (b7, .cells #[.int .i64 0, .string ⟨#[]⟩, .string ⟨#[]⟩, .int .i64 0] 27 (0, 0)) :: S) := by
    intro x11 hr
    unfold index_Index_Addr_b2
    exact bcase_t rfl (addr_zero (x := t0) (r := none) rfl (Q := fun v T => (∃ sh : Tr.Sh, sh.wf ∧ (∀ l u, sh.find l = some u ↔ ∃ t, ipK t.1 = true ∧ t.1 = kind ∧ (t.2.2.1.size : Int) = (a.size : Int) ∧ bitsL t.2.2.1 t.2.2.2.toNat = l ∧ V t = some u) ∧ v = resN (addrV sh kind a)) ∧ Sub ((o1 ++ (xm, .map (esOf L) L.length) :: o2) ++ F) T) hs3 fun T' hT' => ⟨⟨_, hwf, hspec, by rw [hr]⟩, done hT'⟩)
  have bad : b = false → addrV (shT L kind (a.size : Int)) kind a = none := fun h => by
    unfold addrV
    rw [if_neg (fun g => by rw [hb.2 g] at h; cases h)]
  rcases look_at rfl hm (k := kind) (s := (a.size : Int)) with ⟨x, hx, hat⟩ | ⟨hx, hat⟩
  · refine ⟨_, true, hat, ?_⟩
    unfold index_Index_Addr_b1
    refine bcase_not (bcase_of (fun hbt => ?_) (fun hbf => none2 _ (bad hbf)))
    obtain ⟨rfl, rfl⟩ := hpq hbt
    have hsz := hb.1 hbt
    have hshx : shT L kind (p.size : Int) = x.t := by unfold shT; rw [hx]; rfl
    unfold index_Index_Addr_b2 index_Index_Addr_b3
    have hpf : Sub (pfB b9 p (8 * (p.size : Int)) :: (o1 ++ ((xm, .map (esOf L) L.length) :: (o2 ++ (tgB b7 t0 :: F))))) (pfB b9 p (8 * (p.size : Int)) :: (b7, .cells #[.int .i64 0, .string ⟨#[]⟩, .string ⟨#[]⟩, .int .i64 0] 27 (0, 0)) :: S) := hs2.re (by intro a; simp only [cnt_cons, cnt_app]; omega)
    refine bcase_f rfl ⟨_, Cell.among hpf rfl, _, Cell.at_ (add_mk _ _ _) (Cell.among hpf rfl), (Key_runs (a := p) (n := 8 * (p.size : Int)) ⟨⟨hsz, by omega, by omega⟩, by rw [e8, cut_all]⟩ _ _).mono ?_⟩
    rintro v J2 T2 hle2 ⟨rfl, hs4⟩
    rw [e8]
    obtain ⟨L1, L2, oA, ox, oB, hLL, _, _, _, hA, hxO, hxw, hxl, hB, rfl⟩ := hL.split hx
    have hs5 : Sub (ox ++ (o1 ++ ((xm, .map (esOf L) L.length) :: ((oA ++ oB) ++ (tgB b7 t0 :: (pfB b9 p (8 * (p.size : Int)) :: F)))))) T2 := (hs2.trans hs4).re (by intro a; simp only [cnt_cons, cnt_app]; omega)
    refine ⟨_, rfl, (Runs_fr (R := fun w o => w = .tuple (Tr.encL (x.t.walk (bitsL p (8 * p.size)) 0 none)) ∧ o = ox) hs5 (fun F' => (Tr.Longest_runs x.b x.t ox hxO (bitsL p (8 * p.size)) (by rw [bitsL_len]; omega) _ F').mono ?_)).mono ?_⟩
    · rintro w J T hle ⟨rfl, rfl⟩
      exact ⟨ox, ⟨rfl, rfl⟩, rfl⟩
    rintro w J3 T3 hle3 ⟨o, ⟨rfl, ho⟩, hs6⟩
    rw [ho] at hs6
    have hs7 : Sub (tgB b7 t0 :: ((o1 ++ (xm, .map (esOf L) L.length) :: (oA ++ (ox ++ oB))) ++ (pfB b9 p (8 * (p.size : Int)) :: F))) T3 := hs6.re (by intro a; simp only [cnt_cons, cnt_app]; omega)
    have hav : addrV (shT L kind (p.size : Int)) kind p = (x.t.walk (bitsL p (8 * p.size)) 0 none).map (fun q => (q.1, (kind, ⟨#[]⟩, cutB p q.2, (q.2 : Int)))) := by
      unfold addrV
      rw [if_pos hsz, hshx]
    have hIsL := Tr.IsL.of hxw (bitsL p (8 * p.size))
    cases hwk : x.t.walk (bitsL p (8 * p.size)) 0 none with
    | none =>
      rw [hwk] at hav
      have hr : addrV (shT L kind (p.size : Int)) kind p = none := hav
      refine ⟨_, _, _, rfl, bcase_t rfl ?_⟩
      exact addr_zero (x := t0) (r := none) rfl (Q := fun v T => (∃ sh : Tr.Sh, sh.wf ∧ (∀ l u, sh.find l = some u ↔ ∃ t, ipK t.1 = true ∧ t.1 = kind ∧ (t.2.2.1.size : Int) = (p.size : Int) ∧ bitsL t.2.2.1 t.2.2.2.toNat = l ∧ V t = some u) ∧ v = resN (addrV sh kind p)) ∧ Sub ((o1 ++ (xm, .map (esOf L) L.length) :: (oA ++ (ox ++ oB))) ++ F) T) hs7 fun T' hT' => ⟨⟨_, hwf, hspec, by rw [hr]⟩, done hT'⟩
    | some vn =>
      obtain ⟨v, m⟩ := vn
      rw [hwk] at hav hIsL
      have hml : m ≤ 8 * p.size := by have := (hIsL.yes v m rfl).1; rwa [bitsL_len] at this
      refine ⟨_, _, _, rfl, bcase_f rfl ((Cut_runs p (m : Int) _ _).mono ?_)⟩
      rintro w J4 T4 hle4 ⟨rfl, rfl⟩
      have hokm : okC p (m : Int) := ⟨hsz, by omega, by omega⟩
      rw [cutV, if_pos hokm, Int.toNat_natCast]
      refine ⟨_, _, _, rfl, fun b15 => StP.all (vs := [.string (cutB p m), .int .i64 (m : Int)]) rfl rfl ?_⟩
      unfold index_Index_Addr_b4 index_Index_Addr_b5
      refine ⟨_, Cell.at0 rfl, _, Cell.at_ (add_mk _ _ _) (Cell.at0 rfl), ?_⟩
      refine put_tg (x := t0) (t := (kind, ⟨#[]⟩, cutB p m, (m : Int))) (hs7.skip _) fun T' hT' => ?_
      obtain ⟨c0, c1, c2, _, c3⟩ := tgX (I := J4) hT'
      refine ⟨_, c0, _, c1, _, c2, _, c3, ⟨_, hwf, hspec, ?_⟩, done hT'.drop⟩
      rw [hav]; rfl
  · refine ⟨_, false, hat, ?_⟩
    have hr : addrV (shT L kind (a.size : Int)) kind a = none := by
      unfold addrV shT
      rw [hx]
      split <;> rfl
    unfold index_Index_Addr_b1
    exact bcase_not (bcase_of (fun _ => none2 _ hr) (fun _ => none2 _ hr))
theorem addr_none {sh : Tr.Sh} (hw : sh.wf) (h : ∀ l, sh.find l = none) (kind : Int) (a : ByteArray) : addrV sh kind a = none := by
  unfold addrV
  split
  · have := Tr.IsL.of hw (bitsL a (8 * a.size))
    cases hk : sh.walk (bitsL a (8 * a.size)) 0 none with
    | none => rfl
    | some p =>
      obtain ⟨v, m⟩ := p
      rw [hk] at this
      have := (this.yes v m rfl).2.1
      rw [h] at this; cases this
  · rfl
end Go.Proofs.YtmlojdbahlfiaaaDoor
/- The law's addresses and triggers by numbers: what they are. -/
namespace Go.Proofs.YtmlojdbahlfiaaaDoor
open Go.Px
set_option linter.unusedVariables false
set_option linter.unusedSimpArgs false
set_option maxRecDepth 8000

def bytF (n : Int) : UInt8 := match n.toNat % 6 with
  | 0 => 0
  | 1 => 1
  | 2 => 128
  | 3 => 255
  | 4 => 192
  | _ => UInt8.ofNat n.toNat
def adrG : List UInt8 → Nat → List Int → List UInt8
  | l, _, [] => l
  | l, k, n :: ns => adrG (if k < l.length then l.set (k * 7 % l.length) (bytF n) else l) (k + 1) ns
theorem adrG_cons (l : List UInt8) (k : Nat) (n : Int) (ns : List Int) : adrG l k (n :: ns) = adrG (if k < l.length then l.set (k * 7 % l.length) (bytF n) else l) (k + 1) ns := rfl
def adrS (six : Bool) (ns : List Int) : ByteArray := if six = true then ⟨(adrG (List.replicate 16 0) 0 ns).toArray⟩ else ⟨(adrG (List.replicate 4 0) 0 ns).toArray⟩
theorem adrG_len : ∀ (ns : List Int) (l : List UInt8) (k : Nat), (adrG l k ns).length = l.length
  | [], l, k => rfl
  | n :: ns, l, k => by
    unfold adrG
    rw [adrG_len ns]
    split
    · rw [List.length_set]
    · rfl
theorem adrS_size (six : Bool) (ns : List Int) : (adrS six ns).size = 4 ∨ (adrS six ns).size = 16 := by
  unfold adrS
  cases six
  · left
    show (adrG (List.replicate 4 0) 0 ns).toArray.size = 4
    rw [List.size_toArray, adrG_len]; rfl
  · right
    show (adrG (List.replicate 16 0) 0 ns).toArray.size = 16
    rw [List.size_toArray, adrG_len]; rfl
def wrdF (n : Int) : ByteArray := match n.toNat % 5 with
  | 0 => ⟨#[97]⟩
  | 1 => ⟨#[98]⟩
  | 2 => ⟨#[119, 119, 119]⟩
  | 3 => ⟨#[101, 120]⟩
  | _ => ⟨#[111, 114, 103]⟩
theorem wrdF_mem (n : Int) : wrdF n ∈ wrdL := by
  unfold wrdF
  split <;> simp [wrdL]
def trigG (k : Nat) (ns : List Int) (six : Bool) (bits : Int) : Tg :=
  if k = 0 ∨ k = 3 ∨ k = 6 then ((k : Int), ⟨#[]⟩, cutB (adrS six ns) (bits.toNat % (8 * (adrS six ns).size + 1)), ((bits.toNat % (8 * (adrS six ns).size + 1) : Nat) : Int))
  else ((k : Int), nm (if (ns.take 5).map wrdF = [] ∧ (k = 1 ∨ k = 4) then [⟨#[97]⟩] else (ns.take 5).map wrdF), ⟨#[]⟩, 0)
def trigF (kind : Int) (ns : List Int) (six : Bool) (bits : Int) : Tg := trigG (kind.toNat % 7) ns six bits
theorem AdrF_runs {ns : List Int} {a : Option Addr} {c : Nat} (six : Bool) {I : IMem} {S : SH} (hx : RowIn I S a ns.length 1 elI8 ns) (hl : ns.length ≤ 9223372036854775807) (hp : ∀ x ∈ ns, 0 ≤ x ∧ x ≤ 255) :
    Runs Tryd.prog 10 #[.bool six, .slice a ns.length c] I S fun v _ T => v = .string (adrS six ns) ∧ Sub S T := by
  refine bolterlaw12_Addr_fn _ _ _ _ _ _ _ ?_
  unfold bolterlaw12_Addr
  refine ⟨by decide, by decide, by decide, by decide, fun b8 => ?_⟩
  have body : ∀ (n g : Nat) (F : SH) (l0 : List UInt8), (n = 4 ∨ n = 16) → l0.length = n → Sub S F → bolterlaw12_Addr_b1 (fun v _ T => v = .string ⟨(adrG l0 0 ns).toArray⟩ ∧ Sub S T) a ns.length c (some ⟨g, 0, none⟩) n n I ((g, .cells (bytL l0).toArray 5 (0, 0)) :: F) := by
    intro n g F l0 hn hl0 hF
    unfold bolterlaw12_Addr_b1 bolterlaw12_Addr_b2
    refine ⟨fun m b bn bc x xn xc q i J T => b = some ⟨g, 0, none⟩ ∧ bn = n ∧ bc = n ∧ x = a ∧ xn = ns.length ∧ q = (ns.length : Int) ∧ I.le J ∧ ∃ (k : Nat) (l : List UInt8), i = (k : Int) ∧ k ≤ ns.length ∧ m = ns.length - k ∧ l.length = n ∧ adrG l k (ns.drop k) = adrG l0 0 ns ∧ Sub ((g, .cells (bytL l).toArray 5 (0, 0)) :: F) T,
      ns.length, ⟨rfl, rfl, rfl, rfl, rfl, rfl, IMem.le.refl I, 0, l0, rfl, Nat.zero_le _, rfl, hl0, rfl, Sub.refl _⟩, ?_⟩
    rintro m b bn bc x xn xc q i J T - ⟨rfl, rfl, rfl, rfl, rfl, rfl, hle, k, l, rfl, hk, rfl, hll, hG, hs⟩
    have hST : Sub S T := hF.trans hs.drop
    unfold bolterlaw12_Addr_l3
    refine bcase_dec (fun h => ?_) (fun h => ?_)
    · obtain ⟨x, hxk⟩ := get_lt (xs := ns) (k := k) (by omega)
      obtain ⟨a', rfl, hc⟩ := ((hx.sub hST).le hle).cell hxk
      have h0 := hc 0 (.int .u8 x) rfl
      have e0 : (a'.add (k * 1)).add 0 = a'.add (k * 1) := by simp [Addr.add]
      rw [e0] at h0
      have hxb := hp x (List.mem_of_getElem? hxk)
      unfold bolterlaw12_Addr_b4 bolterlaw12_Addr_b5
      refine ⟨by omega, by omega, x, h0, ?_⟩
      rw [drop_get hxk, adrG_cons] at hG
      have next : ∀ (T' : SH) (l' : List UInt8), l'.length = bc → adrG l' (k + 1) (ns.drop (k + 1)) = adrG l0 0 ns → Sub ((g, .cells (bytL l').toArray 5 (0, 0)) :: F) T' → bolterlaw12_Addr_b6 (fun b_5 b_5n b_5c x11 x11n x11c x12 x13 I_1 S_1 => ∃ m', m' < ns.length - k ∧ (b_5 = some ⟨g, 0, none⟩ ∧ b_5n = bc ∧ b_5c = bc ∧ x11 = some a' ∧ x11n = ns.length ∧ x12 = (ns.length : Int) ∧ I.le I_1 ∧ ∃ (k : Nat) (l : List UInt8), x13 = (k : Int) ∧ k ≤ ns.length ∧ m' = ns.length - k ∧ l.length = bc ∧ adrG l k (ns.drop k) = adrG l0 0 ns ∧ Sub ((g, .cells (bytL l).toArray 5 (0, 0)) :: F) S_1))
          (fun v _ T => v = .string ⟨(adrG l0 0 ns).toArray⟩ ∧ Sub S T) (some ⟨g, 0, none⟩) bc bc (some a') ns.length xc (ns.length : Int) (k : Int) J T' := by
        intro T' l' hl' hG' hs'
        unfold bolterlaw12_Addr_b6
        exact ⟨ns.length - (k + 1), by omega, rfl, rfl, rfl, rfl, rfl, rfl, hle, k + 1, l', by rw [wrap_i64 (by omega) (by omega)]; rfl, by omega, rfl, hl', hG', hs'⟩
      refine bcase_dec (fun hkb => ?_) (fun hkb => next T l hll (by rw [if_neg (by omega)] at hG; exact hG) hs)
      refine bcase_f (decide_eq_false (by omega)) ?_
      intro b29
      have e6 : x.tmod 6 = ((x.toNat % 6 : Nat) : Int) := by rw [Int.tmod_eq_emod_of_nonneg (by omega)]; omega
      have hr6 : x.toNat % 6 < 6 := Nat.mod_lt _ (by decide)
      have ek : (IntKind.wrap .i64 ((k : Int) * 7)).tmod (bc : Int) = ((k * 7 % bc : Nat) : Int) := by
        rw [wrap_i64 (by omega) (by omega), Int.tmod_eq_emod_of_nonneg (by omega)]
        have : (k : Int) * 7 = ((k * 7 : Nat) : Int) := by omega
        rw [this]; exact (Int.natCast_emod _ _).symm
      have hrb : k * 7 % bc < bc := Nat.mod_lt _ (by omega)
      rw [e6, ek]
      have hcell : Cell J ((b29, .cells #[.int .u8 0, .int .u8 1, .int .u8 128, .int .u8 255, .int .u8 192, .int .u8 x] 5 (0, 0)) :: T) ((⟨b29, 0, none⟩ : Addr).add (((x.toNat % 6 : Nat) : Int).toNat * 1)) (.int .u8 ((bytF x).toNat : Int)) := by
        rw [add_mk, Int.toNat_natCast, Nat.zero_add, Nat.mul_one]
        have hcx : ((UInt8.ofNat x.toNat).toNat : Int) = x := by rw [ofNatU (by omega)]; omega
        unfold bytF
        rcases (show x.toNat % 6 = 0 ∨ x.toNat % 6 = 1 ∨ x.toNat % 6 = 2 ∨ x.toNat % 6 = 3 ∨ x.toNat % 6 = 4 ∨ x.toNat % 6 = 5 by omega) with e | e | e | e | e | e <;> rw [e]
        · exact Cell.at0 rfl
        · exact Cell.at0 rfl
        · exact Cell.at0 rfl
        · exact Cell.at0 rfl
        · exact Cell.at0 rfl
        · show Cell _ _ _ (.int .u8 ((UInt8.ofNat x.toNat).toNat : Int)); rw [hcx]; exact Cell.at0 rfl
      obtain ⟨y, hyy, hy⟩ : ∃ y, y = bytF x ∧ Cell J ((b29, .cells #[.int .u8 0, .int .u8 1, .int .u8 128, .int .u8 255, .int .u8 192, .int .u8 x] 5 (0, 0)) :: T) ((⟨b29, 0, none⟩ : Addr).add (((x.toNat % 6 : Nat) : Int).toNat * 1)) (.int .u8 (y.toNat : Int)) := ⟨_, rfl, hcell⟩
      refine ⟨by omega, by omega, (y.toNat : Int), hy, by omega, by omega, ?_⟩
      have ea : (⟨g, 0, none⟩ : Addr).add (((k * 7 % bc : Nat) : Int).toNat * 1) = ⟨g, k * 7 % bc, none⟩ := by rw [add_mk]; congr 1; omega
      rw [ea]
      refine StP.tl (StP.of_sub hs (StP.list (o := k * 7 % bc) (by rw [bytL_len]; simp only [List.length_singleton]; omega) rfl ?_))
      intro T' hs'
      have hset := map_set_at (fun u : UInt8 => Value.int .u8 (u.toNat : Int)) (xs := l) (i := k * 7 % bc) (by omega) y []
      rw [List.append_nil, List.append_nil] at hset
      have hs2 : Sub ((g, .cells (bytL (l.set (k * 7 % bc) y)).toArray 5 (0, 0)) :: F) T' := by
        rw [bytL, ← hset]; exact hs'
      exact next _ (l.set (k * 7 % bc) y) (by rw [List.length_set, hll]) (by rw [if_pos (by omega), hll, ← hyy] at hG; exact hG) (hs2.skip _)
    · unfold bolterlaw12_Addr_b7
      have := BytesAt.list (I := J) (S := F) (g := g) (n := bc) (l := l) (rest := []) (e := 5) (fz := (0, 0)) hll.symm
      rw [List.append_nil] at this
      have hke : k = ns.length := by omega
      subst hke
      rw [List.drop_length] at hG
      have hG : l = adrG l0 0 ns := hG
      exact ⟨_, BytesAt.sub this hs, by rw [hG], hST⟩
  refine bcase_of (fun h6 => ⟨by decide, by decide, by decide, by decide, fun b10 => ?_⟩) (fun h6 => ?_)
  · rw [adrS, if_pos h6]; exact body 16 b10 _ (List.replicate 16 0) (.inr rfl) rfl ((Sub.refl S).skip _)
  · rw [adrS, if_neg (by rw [h6]; exact Bool.false_ne_true)]; exact body 4 b8 _ (List.replicate 4 0) (.inl rfl) rfl (Sub.refl S)

theorem TrigF_runs {ns : List Int} {a : Option Addr} {c : Nat} {kind bits : Int} (six : Bool) {I : IMem} {S : SH} (hx : RowIn I S a ns.length 1 elI8 ns) (hl : ns.length ≤ 9223372036854775807) (hp : ∀ x ∈ ns, 0 ≤ x ∧ x ≤ 255) (hk : 0 ≤ kind ∧ kind ≤ 255) (hb : 0 ≤ bits ∧ bits ≤ 255) :
    Runs Tryd.prog 9 #[.int .u8 kind, .slice a ns.length c, .bool six, .int .u8 bits] I S fun v _ T => (v = vT (trigF kind ns six bits) ∧ (GoodP (trigF kind ns six bits) ∨ GoodN (trigF kind ns six bits))) ∧ Sub S T := by
  refine bolterlaw13_Trigger_fn _ _ _ _ _ _ _ _ _ ?_
  unfold bolterlaw13_Trigger
  intro b8 b9
  have e7 : kind.tmod 7 = ((kind.toNat % 7 : Nat) : Int) := by rw [Int.tmod_eq_emod_of_nonneg hk.1]; omega
  have hr7 : kind.toNat % 7 < 7 := Nat.mod_lt _ (by decide)
  rw [e7, wrap_i64 (x := ((kind.toNat % 7 : Nat) : Int)) (by omega) (by omega)]
  have htr : trigF kind ns six bits = trigG (kind.toNat % 7) ns six bits := rfl
  rw [htr]
  clear htr
  generalize kind.toNat % 7 = k at hr7
  refine StP.tg (x := t0) (t := (((k : Int), ⟨#[]⟩, ⟨#[]⟩, 0) : Tg)) ?_
  have hs0 : Sub ((b9, .cells (elT ((k : Int), ⟨#[]⟩, ⟨#[]⟩, 0)).toArray 27 (0, 0)) :: (b8, .cells (elT t0).toArray 27 (0, 0)) :: S) ((b9, .cells (elT ((k : Int), ⟨#[]⟩, ⟨#[]⟩, 0)).toArray 27 (0, 0)) :: (b8, .cells (elT t0).toArray 27 (0, 0)) :: S) := Sub.refl _
  unfold bolterlaw13_Trigger_b1 bolterlaw13_Trigger_b2
  refine ⟨(k : Int), Cell.at0 rfl, ?_⟩
  have pre : (k = 0 ∨ k = 3 ∨ k = 6) → bolterlaw13_Trigger_b3 (fun v _ T => (v = vT (trigG k ns six bits) ∧ (GoodP (trigG k ns six bits) ∨ GoodN (trigG k ns six bits))) ∧ Sub S T) a ns.length c six bits ⟨b8, 0, none⟩ ⟨b9, 0, none⟩ true I ((b9, .cells (elT ((k : Int), ⟨#[]⟩, ⟨#[]⟩, 0)).toArray 27 (0, 0)) :: (b8, .cells (elT t0).toArray 27 (0, 0)) :: S) := by
    intro hk3
    unfold bolterlaw13_Trigger_b3
    refine bcase_t rfl ((AdrF_runs six (hx.sub (((Sub.refl S).skip _).skip _)) hl hp).mono ?_)
    rintro v J T hle ⟨rfl, hs⟩
    have hsz := adrS_size six ns
    have htg : trigG k ns six bits = ((k : Int), ⟨#[]⟩, cutB (adrS six ns) (bits.toNat % (8 * (adrS six ns).size + 1)), ((bits.toNat % (8 * (adrS six ns).size + 1) : Nat) : Int)) := by unfold trigG; rw [if_pos hk3]
    refine ⟨_, rfl, ?_⟩
    rw [htg]
    clear htg
    generalize adrS six ns = s at hsz
    have hw : IntKind.wrap .i64 (IntKind.wrap .i64 (8 * (s.size : Int)) + 1) = ((8 * s.size + 1 : Nat) : Int) := by
      rw [wrap_i64 (x := 8 * (s.size : Int)) (by omega) (by omega), wrap_i64 (by omega) (by omega)]; omega
    have hm : (IntKind.wrap .i64 bits).tmod ((8 * s.size + 1 : Nat) : Int) = ((bits.toNat % (8 * s.size + 1) : Nat) : Int) := by
      rw [wrap_i64 (by omega) (by omega), Int.tmod_eq_emod_of_nonneg hb.1]
      have : bits = ((bits.toNat : Nat) : Int) := by omega
      rw [this]; exact (Int.natCast_emod _ _).symm
    have hr : bits.toNat % (8 * s.size + 1) < 8 * s.size + 1 := Nat.mod_lt _ (by omega)
    rw [hw, hm]
    generalize bits.toNat % (8 * s.size + 1) = n at hr
    refine bcase_f (decide_eq_false (by omega)) ((Cut_runs s (n : Int) J T).mono ?_)
    rintro v J1 T1 hle1 ⟨rfl, rfl⟩
    have hok : okC s (n : Int) := ⟨hsz, by omega, by omega⟩
    rw [cutV, if_pos hok]
    refine ⟨_, _, _, rfl, ?_⟩
    rw [add_mk]
    refine StP.of_sub hs (StP.at0 (o := 2) (Nat.le_refl 4) rfl ?_)
    intro T' hs'
    refine retT (t := (((k : Int), ⟨#[]⟩, cutB s n, (n : Int)) : Tg)) (x := t0) (K := fun v T => (v = vT ((k : Int), ⟨#[]⟩, cutB s n, (n : Int)) ∧ (GoodP ((k : Int), ⟨#[]⟩, cutB s n, (n : Int)) ∨ GoodN ((k : Int), ⟨#[]⟩, cutB s n, (n : Int)))) ∧ Sub S T) hs' ?_
    intro T2 hs2
    refine ⟨⟨rfl, .inl ⟨by dsimp only; omega, rfl, ⟨?_, ?_⟩⟩⟩, hs2⟩
    · exact ⟨by rw [cutB_size]; exact hsz, by dsimp only; omega, by dsimp only; rw [cutB_size]; omega⟩
    · exact cutB_idem s n
  have nam : (k = 1 ∨ k = 2 ∨ k = 4 ∨ k = 5) → bolterlaw13_Trigger_b3 (fun v _ T => (v = vT (trigG k ns six bits) ∧ (GoodP (trigG k ns six bits) ∨ GoodN (trigG k ns six bits))) ∧ Sub S T) a ns.length c six bits ⟨b8, 0, none⟩ ⟨b9, 0, none⟩ false I ((b9, .cells (elT ((k : Int), ⟨#[]⟩, ⟨#[]⟩, 0)).toArray 27 (0, 0)) :: (b8, .cells (elT t0).toArray 27 (0, 0)) :: S) := by
    intro hk4
    unfold bolterlaw13_Trigger_b3 bolterlaw13_Trigger_b5 bolterlaw13_Trigger_b6
    refine bcase_f rfl ?_
    refine ⟨fun m x8 t9 o on oc x xn xc q i J T => x8 = ⟨b8, 0, none⟩ ∧ t9 = ⟨b9, 0, none⟩ ∧ x = a ∧ xn = ns.length ∧ q = (ns.length : Int) ∧ I.le J ∧ ∃ (j : Nat) (ls : List ByteArray) (own : SH), i = (j : Int) ∧ j ≤ ns.length ∧ m = ns.length - j ∧ OwnS (.slice o on oc) ls own ∧ ls = ((ns.take j).take 5).map wrdF ∧
        Sub (own ++ (b9, .cells (elT ((k : Int), ⟨#[]⟩, ⟨#[]⟩, 0)).toArray 27 (0, 0)) :: (b8, .cells (elT t0).toArray 27 (0, 0)) :: S) T,
      ns.length, ⟨rfl, rfl, rfl, rfl, rfl, IMem.le.refl I, 0, [], [], rfl, Nat.zero_le _, rfl, OwnR.nil, rfl, Sub.refl _⟩, ?_⟩
    rintro m x8 t9 o on oc x xn xc q i J T - ⟨rfl, rfl, rfl, rfl, rfl, hle, j, ls, own, rfl, hj, rfl, ho, hlseq, hs⟩
    have hls : ∀ l ∈ ls, l ∈ wrdL := fun l hl => by
      rw [hlseq] at hl
      obtain ⟨x, _, rfl⟩ := List.mem_map.1 hl
      exact wrdF_mem x
    have hll : ls.length ≤ 5 := by rw [hlseq, List.length_map, List.length_take]; omega
    have hon := ho.len
    subst hon
    unfold bolterlaw13_Trigger_l7
    refine bcase_dec (fun h => ?_) (fun h => ?_)
    · obtain ⟨x, hxk⟩ := get_lt (xs := ns) (k := j) (by omega)
      obtain ⟨a', rfl, hc⟩ := ((hx.sub hs.right.drop.drop).le hle).cell hxk
      have h0 := hc 0 (.int .u8 x) rfl
      have e0 : (a'.add (j * 1)).add 0 = a'.add (j * 1) := by simp [Addr.add]
      rw [e0] at h0
      have hxb := hp x (List.mem_of_getElem? hxk)
      refine ⟨by omega, by omega, x, h0, bcase_dec (fun h5 => ?_) (fun h5 => ?_)⟩
      · intro b30
        have e5 : x.tmod 5 = ((x.toNat % 5 : Nat) : Int) := by rw [Int.tmod_eq_emod_of_nonneg (by omega)]; omega
        have hr5 : x.toNat % 5 < 5 := Nat.mod_lt _ (by decide)
        rw [e5]
        have hcell : Cell J ((b30, .cells #[.string ⟨#[97]⟩, .string ⟨#[98]⟩, .string ⟨#[119, 119, 119]⟩, .string ⟨#[101, 120]⟩, .string ⟨#[111, 114, 103]⟩] 9 (0, 0)) :: T) ((⟨b30, 0, none⟩ : Addr).add (((x.toNat % 5 : Nat) : Int).toNat * 1)) (.string (wrdF x)) := by
          rw [add_mk, Int.toNat_natCast, Nat.zero_add, Nat.mul_one]
          unfold wrdF
          rcases (show x.toNat % 5 = 0 ∨ x.toNat % 5 = 1 ∨ x.toNat % 5 = 2 ∨ x.toNat % 5 = 3 ∨ x.toNat % 5 = 4 by omega) with e | e | e | e | e <;> rw [e] <;> exact Cell.at0 rfl
        have hlen : ls.length = min j 5 := by rw [hlseq, List.length_map, List.length_take, List.length_take]; omega
        refine ⟨by omega, by omega, _, hcell, fun b35 => AppS1 (hs.skip _) ho (by omega) ?_⟩
        intro p n' c' own' T' ho' hs'
        unfold bolterlaw13_Trigger_b8
        refine ⟨ns.length - (j + 1), by omega, rfl, rfl, rfl, rfl, rfl, hle, j + 1, ls ++ [wrdF x], own', by rw [wrap_i64 (by omega) (by omega)]; rfl, by omega, rfl, ho', ?_, hs'⟩
        have hj5 : j < 5 := by omega
        have e1 : (ns.take (j + 1)).take 5 = (ns.take j).take 5 ++ [x] := by
          rw [take_snoc hxk, List.take_of_length_le (l := ns.take j ++ [x]) (by rw [List.length_append, List.length_take, List.length_singleton]; omega), List.take_of_length_le (l := ns.take j) (by rw [List.length_take]; omega)]
        rw [e1, List.map_append, ← hlseq]
        rfl
      · unfold bolterlaw13_Trigger_b8
        refine ⟨ns.length - (j + 1), by omega, rfl, rfl, rfl, rfl, rfl, hle, j + 1, ls, own, by rw [wrap_i64 (by omega) (by omega)]; rfl, by omega, rfl, ho, ?_, hs⟩
        have hlen : ls.length = min j 5 := by rw [hlseq, List.length_map, List.length_take, List.length_take]; omega
        rw [hlseq, List.take_take, List.take_take, Nat.min_eq_left (by omega), Nat.min_eq_left (by omega)]
    · have hje : j = ns.length := by omega
      subst hje
      rw [List.take_length] at hlseq
      have fin : ∀ (us : List ByteArray) (p : Option Addr) (c' : Nat) (T' : SH), RowIn J T' p us.length 1 elS us → (∀ l ∈ us, l ∈ wrdL) → us.length ≤ 5 → (k = 1 ∨ k = 4 → us ≠ []) → trigG k ns six bits = ((k : Int), nm us, ⟨#[]⟩, 0) → Sub ((b9, .cells (elT ((k : Int), ⟨#[]⟩, ⟨#[]⟩, 0)).toArray 27 (0, 0)) :: (b8, .cells (elT t0).toArray 27 (0, 0)) :: S) T' →
          bolterlaw13_Trigger_b11 (fun v _ T => (v = vT (trigG k ns six bits) ∧ (GoodP (trigG k ns six bits) ∨ GoodN (trigG k ns six bits))) ∧ Sub S T) ⟨b8, 0, none⟩ ⟨b9, 0, none⟩ p us.length c' J T' := by
        intro us p c' T' hr hus hul hne htg hs'
        unfold bolterlaw13_Trigger_b11
        refine (Make_runs hr (by omega)).mono ?_
        rintro v J2 T2 hle2 ⟨rfl, rfl⟩
        rw [wrd_make hus hul]
        refine ⟨_, _, rfl, ?_⟩
        rw [add_mk]
        refine StP.of_sub hs' (StP.at0 (o := 1) (by show 1 + 1 ≤ 4; decide) rfl ?_)
        intro T3 hs3
        refine retT (t := (((k : Int), nm us, ⟨#[]⟩, 0) : Tg)) (x := t0) (K := fun v T => (v = vT (trigG k ns six bits) ∧ (GoodP (trigG k ns six bits) ∨ GoodN (trigG k ns six bits))) ∧ Sub S T) hs3 ?_
        intro T4 hs4
        rw [htg]
        exact ⟨⟨rfl, .inr ⟨by dsimp only; omega, rfl, us, hus, hul, rfl, fun h => hne (by dsimp only at h; omega)⟩⟩, hs4⟩
      have keep : (k = 1 ∨ k = 4 → ls ≠ []) → bolterlaw13_Trigger_b10 (fun v _ T => (v = vT (trigG k ns six bits) ∧ (GoodP (trigG k ns six bits) ∨ GoodN (trigG k ns six bits))) ∧ Sub S T) ⟨b8, 0, none⟩ ⟨b9, 0, none⟩ o ls.length oc false J T := by
        intro hne
        unfold bolterlaw13_Trigger_b10
        exact bcase_f rfl (fin ls o oc T ((OwnS.row ho).sub hs.left) hls hll hne (by unfold trigG; rw [if_neg (by omega), ← hlseq, if_neg (fun h => hne h.2 h.1)]) hs.right)
      have one : ls = [] → (k = 1 ∨ k = 4) → bolterlaw13_Trigger_b10 (fun v _ T => (v = vT (trigG k ns six bits) ∧ (GoodP (trigG k ns six bits) ∨ GoodN (trigG k ns six bits))) ∧ Sub S T) ⟨b8, 0, none⟩ ⟨b9, 0, none⟩ o ls.length oc true J T := by
        intro hnil hk14
        unfold bolterlaw13_Trigger_b10
        refine bcase_t rfl ?_
        intro b51
        refine fin [⟨#[97]⟩] _ 1 _ ?_ (fun l hl => by rw [List.mem_singleton.1 hl]; simp [wrdL]) (by decide) (fun _ h => by cases h) (by unfold trigG; rw [if_neg (by omega), ← hlseq, if_pos ⟨hnil, hk14⟩]) (hs.right.skip _)
        exact (OwnS.row (I := J) (OwnS.mk (xs := [⟨#[97]⟩]) (g := b51) (cap := 1) (rest := []) rfl (by decide))).sub ⟨T, List.Perm.refl _⟩
      unfold bolterlaw13_Trigger_b9
      obtain ⟨c0, _⟩ := tgCell (I := J) hs.right
      refine bcase_beq (fun h0 => ?_) (fun h0 => keep (fun _ e => h0 (by rw [e]; rfl)))
      refine ⟨_, c0, bcase_beq (fun h1 => one (List.eq_nil_of_length_eq_zero (by omega)) (.inl (by dsimp only at h1; omega))) (fun h1 => ⟨_, c0, ?_⟩)⟩
      dsimp only at h1 ⊢
      by_cases h4 : k = 4
      · rw [show ((k : Int) == 4) = true by rw [h4]; rfl]; exact one (List.eq_nil_of_length_eq_zero (by omega)) (.inr h4)
      · rw [show ((k : Int) == 4) = false by rw [beq_eq_false_iff_ne]; omega]; exact keep (fun h => by omega)
  refine bcase_beq (fun e => ?_) (fun e => bcase_beq (fun e3 => ?_) (fun e3 => ?_))
  · rw [show ((k : Int) == 0) = true by rw [e]; rfl]; exact pre (by omega)
  · rw [show ((k : Int) == 3) = true by rw [e3]; rfl]; exact pre (by omega)
  · by_cases e6 : k = 6
    · rw [show ((k : Int) == 6) = true by rw [e6]; rfl]; exact pre (by omega)
    · rw [show ((k : Int) == 6) = false by rw [beq_eq_false_iff_ne]; omega]; exact nam (by omega)
end Go.Proofs.YtmlojdbahlfiaaaDoor
/- Some bytes that come in. -/
namespace Go.Proofs.YtmlojdbahlfiaaaDoor
open Go.Px
set_option linter.unusedVariables false
set_option linter.unusedSimpArgs false

/-- some bytes, and a list of such -/
structure Sb where
  a : Sl
  ns : List Int
def SbIn (I : IMem) (S : SH) (x : Sb) : Prop := RowIn I S x.a.1 x.ns.length 1 elI8 x.ns ∧ x.a.2.1 = x.ns.length ∧ x.ns.length ≤ 9223372036854775807 ∧ ∀ v ∈ x.ns, 0 ≤ v ∧ v ≤ 255
theorem SbIn.keep {I J : IMem} {S T : SH} {x : Sb} (hk : Keep I S J T) (h : SbIn I S x) : SbIn J T x := ⟨h.1.keep hk, h.2⟩
theorem sb_of {W : World} {x : Sl} (h : U8W W x) : ∃ y : Sb, y.a = x ∧ SbIn (imW W) [] y := by
  have h2 := h
  obtain ⟨a, l, c⟩ := x
  obtain ⟨ns, e, hr, hb⟩ := u8_open h2
  have e : ns.length = l := e
  subst e
  have h3 : ns.length ≤ c ∧ c ≤ maxLen := ⟨h.1, h.2.1⟩
  exact ⟨⟨(a, ns.length, c), ns⟩, rfl, hr, rfl, by unfold maxLen at h3; show ns.length ≤ _; omega, hb⟩
end Go.Proofs.YtmlojdbahlfiaaaDoor
/- Triggers are in an order, and so is what goes ahead. -/
namespace Go.Proofs.YtmlojdbahlfiaaaDoor
open Go.Px
set_option linter.unusedVariables false
set_option linter.unusedSimpArgs false

/-! ### what goes ahead -/
end Go.Proofs.YtmlojdbahlfiaaaDoor
set_option linter.unusedVariables false
set_option maxRecDepth 8000
set_option maxHeartbeats 2000000
namespace Go.Proofs.YtmlojdbahlfiaaaDoor
open Go.Px
def bolterlaw17_IndexAll_b4 (R : RT) (x6 : Bool) (I : IMem) (S : SH) : Prop :=
  R (.bool x6) I S
def bolterlaw17_IndexAll_b3 (R : RT) (x1 : Bool) (x2 : OA) (x2n x2c : Nat) (x7 : OA) (x8 x9 : ByteArray) (x10 : Addr) (I : IMem) (S : SH) : Prop :=
  Runs Tryd.prog 13 #[.pointer x7, .int .i64 1, .int .i64 2, .string x8] I S fun v I1 S1 => ∃ u0 u1 u2 u3 u4 u5, v = .tuple #[.int .i64 u0, .agg #[.int .i64 u1, .string u2, .string u3, .int .i64 u4], .bool u5] ∧
  ∀ b13 : Nat,
  StP ((b13, .cells #[.int .i64 0, .string ⟨#[]⟩, .string ⟨#[]⟩, .int .i64 0] 27 (0, 0)) :: S1) ⟨b13, 0, none⟩ [.int .i64 u1, .string u2, .string u3, .int .i64 u4] fun S1' =>
  Runs Tryd.prog 14 #[.pointer x7, .int .i64 3, .string x9] I1 S1' fun v' I1' S1'' => ∃ u6 u7 u8 u9 ua ub, v' = .tuple #[.int .i64 u6, .agg #[.int .i64 u7, .string u8, .string u9, .int .i64 ua], .bool ub] ∧
  ∀ b16 : Nat,
  StP ((b16, .cells #[.int .i64 0, .string ⟨#[]⟩, .string ⟨#[]⟩, .int .i64 0] 27 (0, 0)) :: S1'') ⟨b16, 0, none⟩ [.int .i64 u7, .string u8, .string u9, .int .i64 ua] fun S1_r3 =>
  Runs Tryd.prog 13 #[.pointer x7, .int .i64 1, .int .i64 2, .string ⟨#[]⟩] I1' S1_r3 fun v'' I1'' S1_r4 => ∃ uc ud ue uf ug uh, v'' = .tuple #[.int .i64 uc, .agg #[.int .i64 ud, .string ue, .string uf, .int .i64 ug], .bool uh] ∧
  ∀ b19 : Nat,
  StP ((b19, .cells #[.int .i64 0, .string ⟨#[]⟩, .string ⟨#[]⟩, .int .i64 0] 27 (0, 0)) :: S1_r4) ⟨b19, 0, none⟩ [.int .i64 ud, .string ue, .string uf, .int .i64 ug] fun S1_r5 =>
  Runs Tryd.prog 10 #[.bool (!x1), .slice x2 x2n x2c] I1'' S1_r5 fun v_r3 I1_r3 S1_r6 => ∃ ui, v_r3 = .string ui ∧
  Runs Tryd.prog 14 #[.pointer x7, .int .i64 3, .string ui] I1_r3 S1_r6 fun v_r4 I1_r4 S1_r7 => ∃ uj uk ul um un uo, v_r4 = .tuple #[.int .i64 uj, .agg #[.int .i64 uk, .string ul, .string um, .int .i64 un], .bool uo] ∧
  ∀ b22 : Nat,
  StP ((b22, .cells #[.int .i64 0, .string ⟨#[]⟩, .string ⟨#[]⟩, .int .i64 0] 27 (0, 0)) :: S1_r7) ⟨b22, 0, none⟩ [.int .i64 uk, .string ul, .string um, .int .i64 un] fun S1_r8 =>
  bcase (u0 == (5 : Int))
    (∃ up, Cell I1_r4 S1_r8 ⟨b13, 0, none⟩ (.int .i64 up) ∧
    ∃ uq, Cell I1_r4 S1_r8 ⟨b13, 1, none⟩ (.string uq) ∧
    ∃ ur, Cell I1_r4 S1_r8 ⟨b13, 2, none⟩ (.string ur) ∧
    ∃ us, Cell I1_r4 S1_r8 ⟨b13, 3, none⟩ (.int .i64 us) ∧
    bcase (((up : Int) == (2 : Int)) && (((uq : ByteArray) == (⟨#[]⟩ : ByteArray)) && ((((ur : ByteArray) == (⟨#[]⟩ : ByteArray)) && (((us : Int) == (0 : Int)) && true)) && true)))
      (bcase u5
        (bcase (u6 == (6 : Int))
          (∃ ut, Cell I1_r4 S1_r8 ⟨b16, 2, none⟩ (.string ut) ∧
          ∃ uu, Cell I1_r4 S1_r8 ⟨b16, 3, none⟩ (.int .i64 uu) ∧
          ∃ uv, Cell I1_r4 S1_r8 x10 (.string uv) ∧
          ∃ uw, Cell I1_r4 S1_r8 (x10.add 1) (.int .i64 uw) ∧
          bcase (((ut : ByteArray) == (uv : ByteArray)) && (((uu : Int) == (uw : Int)) && true))
            (bcase ub
              (bcase (!uh)
                (bolterlaw17_IndexAll_b4 R (!uo) I1_r4 S1_r8)
                (bolterlaw17_IndexAll_b4 R false I1_r4 S1_r8))
              (bolterlaw17_IndexAll_b4 R false I1_r4 S1_r8))
            (bolterlaw17_IndexAll_b4 R false I1_r4 S1_r8))
          (bolterlaw17_IndexAll_b4 R false I1_r4 S1_r8))
        (bolterlaw17_IndexAll_b4 R false I1_r4 S1_r8))
      (bolterlaw17_IndexAll_b4 R false I1_r4 S1_r8))
    (bolterlaw17_IndexAll_b4 R false I1_r4 S1_r8)
def bolterlaw17_IndexAll_b2 (R : RT) (x1 : Bool) (x2 : OA) (x2n x2c : Nat) (x7 : OA) (x8 x9 : ByteArray) (x10 : Addr) (x48 : Bool) (I : IMem) (S : SH) : Prop :=
  bcase x48
    (R (.bool false) I S)
    (bolterlaw17_IndexAll_b3 R x1 x2 x2n x2c x7 x8 x9 x10 I S)
def bolterlaw17_IndexAll_b1 (R : RT) (x1 : Bool) (x2 : OA) (x2n x2c : Nat) (x7 : OA) (x8 x9 : ByteArray) (x10 : Addr) (I : IMem) (S : SH) : Prop :=
  Runs Tryd.prog 12 #[.pointer x7, .agg #[.int .i64 2, .string ⟨#[]⟩, .string ⟨#[]⟩, .int .i64 0], .int .i64 5] I S fun v I1 S1 => ∃ u0, v = .bool u0 ∧
  bcase (!u0)
    (bolterlaw17_IndexAll_b2 R x1 x2 x2n x2c x7 x8 x9 x10 true I1 S1)
    (∃ u1, Cell I1 S1 x10 (.string u1) ∧
    ∃ u2, Cell I1 S1 (x10.add 1) (.int .i64 u2) ∧
    Runs Tryd.prog 12 #[.pointer x7, .agg #[.int .i64 3, .string ⟨#[]⟩, .string u1, .int .i64 u2], .int .i64 6] I1 S1 fun v' I1' S1' => ∃ u3, v' = .bool u3 ∧
    bolterlaw17_IndexAll_b2 R x1 x2 x2n x2c x7 x8 x9 x10 (!u3) I1' S1')
def bolterlaw17_IndexAll (R : RT) (u0 : OA) (u0n u0c : Nat) (u1 : Bool) (u2 : OA) (u2n u2c : Nat) (I : IMem) (S : SH) : Prop :=
  Runs Tryd.prog 7 #[] I S fun v I1 S1 => ∃ u3, v = .bool u3 ∧
  bcase (!u3)
    (R (.bool false) I1 S1)
    (Runs Tryd.prog 8 #[] I1 S1 fun v' I1' S1' => ∃ u4, v' = .pointer u4 ∧
    Runs Tryd.prog 9 #[.int .u8 1, .slice u0 u0n u0c, .bool false, .int .u8 0] I1' S1' fun v'' I1'' S1'' => ∃ u5 u6 u7 u8, v'' = .agg #[.int .i64 u5, .string u6, .string u7, .int .i64 u8] ∧
    Runs Tryd.prog 10 #[.bool u1, .slice u2 u2n u2c] I1'' S1'' fun v_r3 I1_r3 S1_r3 => ∃ u9, v_r3 = .string u9 ∧
    Runs Tryd.prog 11 #[.string u9, .int .i64 0] I1_r3 S1_r3 fun v_r4 I1_r4 S1_r4 => ∃ ua ub uc, v_r4 = .tuple #[.agg #[.string ua, .int .i64 ub], .bool uc] ∧
    ∀ b10 : Nat,
    StP ((b10, .cells #[.string ⟨#[]⟩, .int .i64 0] 25 (0, 0)) :: S1_r4) ⟨b10, 0, none⟩ [.string ua, .int .i64 ub] fun S1_r5 =>
    bolterlaw17_IndexAll_b1 R u1 u2 u2n u2c u4 u6 u9 ⟨b10, 0, none⟩ I1_r4 S1_r5)
theorem bolterlaw17_IndexAll_fn (R : RT) (u0 : OA) (u0n u0c : Nat) (u1 : Bool) (u2 : OA) (u2n u2c : Nat) (I : IMem) (S : SH) (h : bolterlaw17_IndexAll R u0 u0n u0c u1 u2 u2n u2c I S) : Runs Tryd.prog 4 #[.slice u0 u0n u0c, .bool u1, .slice u2 u2n u2c] I S R := by
  refine Runs.of_wp (c := cd Tryd.f4) Tryd.func4 (by kernel_rfl) (by kernel_rfl) ?_
  refine cO 6 [kB 1, kL 2, kP 7, kS 8, kS 9, kA 10] (bolterlaw17_IndexAll_b1 R) h fun _ _ _ _ _ _ _ _ _ _ _ _ h => ?_
  refine sO [kB 1, kL 2, kP 7, kS 8, kS 9, kA 10] (bolterlaw17_IndexAll_b3 R) ?_ fun _ _ _ _ _ _ _ _ _ _ _ _ h => ?_
  · refine cO 1 [kB 1, kL 2, kP 7, kS 8, kS 9, kA 10, kB 48] (bolterlaw17_IndexAll_b2 R) h fun _ _ _ _ _ _ _ _ _ _ _ _ _ h => ?_
    exact pS h
  refine cO 5 [kB 6] (bolterlaw17_IndexAll_b4 R) h fun _ _ _ _ _ h => ?_
  exact pS h
end Go.Proofs.YtmlojdbahlfiaaaDoor
/- SearchLess: triggers that rank alike are in an order. -/
namespace Go.Proofs.YtmlojdbahlfiaaaDoor
open Go.Px
set_option linter.unusedVariables false
set_option linter.unusedSimpArgs false

end Go.Proofs.YtmlojdbahlfiaaaDoor
/- IndexAll: a wild trigger of the root fits all names but it, and a prefix of no bits all addresses as long. -/
namespace Go.Proofs.YtmlojdbahlfiaaaDoor
open Go.Px
set_option linter.unusedVariables false
set_option linter.unusedSimpArgs false
set_option maxRecDepth 8000

theorem adrS_sz (six : Bool) (ns : List Int) : (adrS six ns).size = if six = true then 16 else 4 := by
  unfold adrS
  cases six
  · show (adrG (List.replicate 4 0) 0 ns).toArray.size = 4
    rw [List.size_toArray, adrG_len]; rfl
  · show (adrG (List.replicate 16 0) 0 ns).toArray.size = 16
    rw [List.size_toArray, adrG_len]; rfl
section
variable {V : Tg → Option Int} {p : ByteArray}
abbrev allP (p : ByteArray) : Tg := (3, ⟨#[]⟩, p, 0)
def AllV (V : Tg → Option Int) (p : ByteArray) : Prop := ∀ u, V u = if u = allP p then some 6 else if u = tgN 2 ⟨#[]⟩ then some 5 else none
theorem all_1 (h : AllV V p) (n : ByteArray) : V (tgN 1 n) = none := by
  rw [h, if_neg (fun e => by injection e with e _; cases e), if_neg (fun e => by injection e with e _; cases e)]
theorem all_0 (h : AllV V p) : V (tgN 2 ⟨#[]⟩) = some 5 := by
  rw [h, if_neg (fun e => by injection e with e _; cases e), if_pos rfl]
theorem all_2 (h : AllV V p) {n : ByteArray} (hn : n ≠ ⟨#[]⟩) : V (tgN 2 n) = none := by
  rw [h, if_neg (fun e => by injection e with e _; cases e), if_neg (fun e => by injection e with _ e; injection e with e _; exact hn e)]
theorem all_up (h : AllV V p) : ∀ (ls : List ByteArray) (f : Nat), (∀ l ∈ ls, IsLab l) → (nm ls).size ≤ 254 → (nm ls).size < f → upV V 2 f (nm ls, true) = some (5, tgN 2 ⟨#[]⟩)
  | [], f, _, _, hf => by
    obtain ⟨g, rfl⟩ : ∃ g, f = g + 1 := ⟨f - 1, by omega⟩
    rw [upV, if_pos rfl, show V (tgN 2 ((nm [], true) : ByteArray × Bool).1) = some 5 from all_0 h]
    rfl
  | l :: ls, f, hl, hs, hf => by
    obtain ⟨g, rfl⟩ : ∃ g, f = g + 1 := ⟨f - 1, by omega⟩
    have hsz := nm_cons_size l ls
    rw [upV, if_pos rfl, show V (tgN 2 ((nm (l :: ls), true) : ByteArray × Bool).1) = none from all_2 h (fun e => by rw [show ((nm (l :: ls), true) : ByteArray × Bool).1 = nm (l :: ls) from rfl] at e; have e2 := congrArg ByteArray.size e; have e3 : (⟨#[]⟩ : ByteArray).size = 0 := rfl; omega)]
    dsimp only
    rw [parN_nm hl hs]
    exact all_up h ls g (fun x hx => hl x (List.mem_cons_of_mem _ hx)) (by omega) (by omega)
theorem all_name (h : AllV V p) {us : List ByteArray} (hu : ∀ l ∈ us, l ∈ wrdL) (hl : us.length ≤ 5) (hne : us ≠ []) : nameV V 1 2 (nm us) = some (5, tgN 2 ⟨#[]⟩) := by
  cases us with
  | nil => exact absurd rfl hne
  | cons l ls =>
    have hlab := lab_of hu
    have hb := nm_bound (b := 3) fun l hm => (wrd_lab (hu l hm)).2
    have hsz : (nm (l :: ls)).size ≤ 254 := by omega
    have hcs := nm_cons_size l ls
    unfold nameV
    rw [all_1 h]
    dsimp only
    rw [parN_nm hlab hsz]
    exact all_up h ls _ (fun x hx => hlab x (List.mem_cons_of_mem _ hx)) (by omega) (by omega)
theorem all_root (h : AllV V p) : nameV V 1 2 ⟨#[]⟩ = none := by
  unfold nameV
  rw [all_1 h]
  rfl
theorem all_addr (h : AllV V p) {sh : Tr.Sh} {a : ByteArray} (hw : sh.wf) (ha : a.size = 4 ∨ a.size = 16) (hp : p = cutB a 0)
    (hsp : ∀ l u, sh.find l = some u ↔ ∃ t, ipK t.1 = true ∧ t.1 = 3 ∧ (t.2.2.1.size : Int) = (a.size : Int) ∧ bitsL t.2.2.1 t.2.2.2.toNat = l ∧ V t = some u) : addrV sh 3 a = some (6, allP p) := by
  have hps : p.size = a.size := by rw [hp, cutB_size]
  have hVp : V (allP p) = some 6 := by rw [h, if_pos rfl]
  have h0 : sh.find [] = some 6 := (hsp [] 6).2 ⟨allP p, rfl, rfl, by show (p.size : Int) = _; rw [hps], rfl, hVp⟩
  have only : ∀ l u, sh.find l = some u → l = [] ∧ u = 6 := by
    intro l u hf
    obtain ⟨t, h1, h2, h3, h4, h5⟩ := (hsp l u).1 hf
    rw [h] at h5
    by_cases e : t = allP p
    · rw [if_pos e] at h5
      rw [e] at h4
      exact ⟨h4.symm, (Option.some.inj h5).symm⟩
    · rw [if_neg e] at h5
      by_cases e2 : t = tgN 2 ⟨#[]⟩
      · rw [e2] at h2; cases h2
      · rw [if_neg e2] at h5; cases h5
  unfold addrV
  rw [if_pos ha]
  have hI := Tr.IsL.of hw (bitsL a (8 * a.size))
  cases hk : sh.walk (bitsL a (8 * a.size)) 0 none with
  | none =>
    rw [hk] at hI
    have := hI.no rfl 0 (Nat.zero_le _)
    rw [List.take_zero, h0] at this; cases this
  | some q =>
    obtain ⟨v, m⟩ := q
    rw [hk] at hI
    obtain ⟨h1, h2, _⟩ := hI.yes v m rfl
    obtain ⟨e1, rfl⟩ := only _ _ h2
    have hm : m = 0 := by
      have := congrArg List.length e1
      rw [List.length_take] at this
      simp only [List.length_nil] at this
      rw [Nat.min_eq_left h1] at this
      exact this
    subst hm
    rw [hp]; rfl
theorem all_other (h : AllV V p) {sh : Tr.Sh} {a : ByteArray} (hw : sh.wf) (hp : p.size ≠ a.size)
    (hsp : ∀ l u, sh.find l = some u ↔ ∃ t, ipK t.1 = true ∧ t.1 = 3 ∧ (t.2.2.1.size : Int) = (a.size : Int) ∧ bitsL t.2.2.1 t.2.2.2.toNat = l ∧ V t = some u) : addrV sh 3 a = none := by
  refine addr_none hw (fun l => ?_) 3 a
  cases hf : sh.find l with
  | none => rfl
  | some u =>
    obtain ⟨t, h1, h2, h3, h4, h5⟩ := (hsp l u).1 hf
    rw [h] at h5
    by_cases e : t = allP p
    · rw [e] at h3
      have h3 : (p.size : Int) = (a.size : Int) := h3
      exact absurd (by omega) hp
    · rw [if_neg e] at h5
      by_cases e2 : t = tgN 2 ⟨#[]⟩
      · rw [e2] at h2; cases h2
      · rw [if_neg e2] at h5; cases h5
end
theorem all_runs {ns ms : Sb} {six : Bool} {I : IMem} {S : SH} (g : GL I) (hn : SbIn I S ns) (hm : SbIn I S ms) :
    Runs Tryd.prog 4 #[.slice ns.a.1 ns.a.2.1 ns.a.2.2, .bool six, .slice ms.a.1 ms.a.2.1 ms.a.2.2] I S fun v _ _ => v = .bool true := by
  obtain ⟨yr, yn, yl, yb⟩ := hn
  obtain ⟨zr, zn, zl, zb⟩ := hm
  rw [yn, zn]
  refine bolterlaw17_IndexAll_fn _ _ _ _ _ _ _ _ _ _ ?_
  unfold bolterlaw17_IndexAll
  refine (awake17_runs g _).mono ?_
  rintro v J0 T0 hle0 ⟨rfl, hs0⟩
  refine ⟨_, rfl, bcase_f rfl ((IOf_runs J0 T0).mono ?_)⟩
  rintro v J1 T1 hle1 ⟨xb, own, rfl, hx, hs1⟩
  have l1 := hle0.trans hle1
  have hs1' : Sub (own ++ S) T1 := (Sub.both (Sub.refl own) hs0).trans hs1
  refine ⟨_, rfl, (TrigF_runs (kind := 1) (bits := 0) false ((yr.sub hs1'.right).le l1) yl yb (by decide) (by decide)).mono ?_⟩
  rintro v J2 T2 hle2 ⟨⟨rfl, hgd⟩, hs2⟩
  have l2 := l1.trans hle2
  have hs2' := hs1'.trans hs2
  -- the name is not the root's
  have hk1 : (trigF 1 ns.ns false 0).1 = 1 := by unfold trigF trigG; rfl
  obtain ⟨us, hus, husl, hnm, hne⟩ : ∃ us : List ByteArray, (∀ l ∈ us, l ∈ wrdL) ∧ us.length ≤ 5 ∧ (trigF 1 ns.ns false 0).2.1 = nm us ∧ us ≠ [] := by
    rcases hgd with h | ⟨_, _, us, h3, h4, h5, h6⟩
    · have := h.kind; rw [hk1] at this; omega
    · exact ⟨us, h3, h4, h5, h6 (.inl hk1)⟩
  refine ⟨_, _, _, _, rfl, (AdrF_runs six ((zr.sub hs2'.right).le l2) zl zb).mono ?_⟩
  rintro v J3 T3 hle3 ⟨rfl, hs3⟩
  have l3 := l2.trans hle3
  have hs3' := hs2'.trans hs3
  have hasz := adrS_size six ms.ns
  generalize ha : adrS six ms.ns = a at hasz
  refine ⟨_, rfl, (Cut_runs a 0 _ _).mono ?_⟩
  rintro v J4 T4 hle4 ⟨rfl, rfl⟩
  have l4 := l3.trans hle4
  have hok : okC a 0 := ⟨hasz, by omega, by omega⟩
  rw [cutV, if_pos hok]
  refine ⟨_, _, _, rfl, fun b10 => StP.all (vs := [.string (cutB a 0), .int .i64 0]) rfl rfl ?_⟩
  have hs4 : Sub (own ++ (pfB b10 (cutB a 0) 0 :: S)) (pfB b10 (cutB a 0) 0 :: T4) := mid3.zc hs3'
  rw [hnm]
  have e1 : encF (tgN 2 ⟨#[]⟩) ≠ none := good_w (us := []) (fun l h => by cases h) (by decide)
  have e2 : encF (allP (cutB a 0)) ≠ none := by
    have hg : GoodP (allP (cutB a 0)) := ⟨.inr (.inl rfl), rfl, ⟨⟨by rw [cutB_size]; exact hasz, by show (0 : Int) ≤ 0; omega, by show (0 : Int) ≤ _; omega⟩, cutB_idem a 0⟩⟩
    rw [(enc_good (.inl hg)).1]
    exact Option.some_ne_none _
  have s1 : (encF (tgN 2 ⟨#[]⟩)).isSome = true := by cases h : encF (tgN 2 ⟨#[]⟩) with | none => exact absurd h e1 | some m => rfl
  have s2 : (encF (allP (cutB a 0))).isSome = true := by cases h : encF (allP (cutB a 0)) with | none => exact absurd h e2 | some m => rfl
  unfold bolterlaw17_IndexAll_b1
  refine (IPut_runs (g.le l4) hx hs4 (tgN 2 ⟨#[]⟩) 5 (by decide) (by decide)).mono ?_
  rintro v J5 T5 hle5 ⟨rfl, n1, c1, own1, hx1, hn1, hc1, hs5⟩
  rw [s1] at hn1 hc1 ⊢
  refine ⟨_, rfl, bcase_f rfl ⟨_, Cell.among hs5.right rfl, _, Cell.at_ (add_mk _ _ _) (Cell.among hs5.right rfl), ?_⟩⟩
  have l5 := l4.trans hle5
  refine (IPut_runs (g.le l5) hx1 hs5 (allP (cutB a 0)) 6 (by rw [hn1]; unfold sNum; split <;> omega) (by rw [hc1]; unfold sNum; split <;> omega)).mono ?_
  rintro v J6 T6 hle6 ⟨rfl, n2, c2, own2, hx2, hn2, hc2, hs6⟩
  have hV1 : ∀ u, putV (fun _ => none) (tgN 2 ⟨#[]⟩) 5 u = if u = tgN 2 ⟨#[]⟩ then some 5 else none := fun u => V_put e1 u
  have hAll : AllV (putV (putV (fun _ => none) (tgN 2 ⟨#[]⟩) 5) (allP (cutB a 0)) 6) (cutB a 0) := fun u => by rw [V_put e2, hV1]
  have hV1p : putV (fun _ => none) (tgN 2 ⟨#[]⟩) 5 (allP (cutB a 0)) = none := by rw [hV1, if_neg (fun e => by injection e with e _; cases e)]
  rw [s2, hV1p]
  refine ⟨_, rfl, ?_⟩
  unfold bolterlaw17_IndexAll_b2 bolterlaw17_IndexAll_b3
  have hus254 : (nm us).size ≤ 254 := by have := nm_bound (b := 3) fun l hm => (wrd_lab (hus l hm)).2; omega
  refine bcase_f rfl ((IName_runs hx2 hs6 (exact_ := 1) (wild := 2) (.inl rfl) (.inr (.inl rfl)) (nm us) (by omega)).mono ?_)
  rintro v J7 T7 hle7 ⟨rfl, hs7⟩
  rw [all_name hAll hus husl hne]
  refine ⟨_, _, _, _, _, _, rfl, fun b13 => StP.tg (x := t0) (t := tgN 2 ⟨#[]⟩) ?_⟩
  have hs8 : Sub (own2 ++ (tgB b13 (tgN 2 ⟨#[]⟩) :: pfB b10 (cutB a 0) 0 :: S)) (tgB b13 (tgN 2 ⟨#[]⟩) :: T7) := mid3.zc hs7
  refine (IAddr_runs hx2 hs8 3 a (by omega)).mono ?_
  rintro v J8 T8 hle8 ⟨⟨sh, hw, hsp, rfl⟩, hs9⟩
  rw [all_addr hAll hw hasz rfl hsp]
  refine ⟨_, _, _, _, _, _, rfl, fun b16 => StP.tg (x := t0) (t := allP (cutB a 0)) ?_⟩
  have hs10 : Sub (own2 ++ (tgB b16 (allP (cutB a 0)) :: tgB b13 (tgN 2 ⟨#[]⟩) :: pfB b10 (cutB a 0) 0 :: S)) (tgB b16 (allP (cutB a 0)) :: T8) := mid3.zc hs9
  refine (IName_runs hx2 hs10 (exact_ := 1) (wild := 2) (.inl rfl) (.inr (.inl rfl)) ⟨#[]⟩ (by decide)).mono ?_
  rintro v J9 T9 hle9 ⟨rfl, hs11⟩
  rw [all_root hAll]
  refine ⟨_, _, _, _, _, _, rfl, fun b19 => StP.tg (x := t0) (t := t0) ?_⟩
  have l9 := (((l5.trans hle6).trans hle7).trans hle8).trans hle9
  have hs12 := hs11.skip (tgB b19 t0)
  refine (AdrF_runs (!six) ((zr.sub hs12.right.drop.drop.drop).le l9) zl zb).mono ?_
  rintro v J10 T10 hle10 ⟨rfl, hs13⟩
  have hs14 := hs12.trans hs13
  refine ⟨_, rfl, (IAddr_runs hx2 hs14 3 (adrS (!six) ms.ns) (by have := adrS_size (!six) ms.ns; omega)).mono ?_⟩
  rintro v J11 T11 hle11 ⟨⟨sh2, hw2, hsp2, rfl⟩, hs15⟩
  rw [all_other hAll hw2 (by rw [cutB_size, ← ha, adrS_sz, adrS_sz]; cases six <;> simp) hsp2]
  refine ⟨_, _, _, _, _, _, rfl, fun b22 => StP.tg (x := t0) (t := t0) ?_⟩
  have hs16 := hs15.skip (tgB b22 t0)
  have hb13 := hs16.right.drop
  have hb16 := hs16.right
  have hb10 := hs16.right.drop.drop
  obtain ⟨c0, c1, c2, _, c3⟩ := tgX (I := J11) hb13
  obtain ⟨d0, d1, d2, _, d3⟩ := tgX (I := J11) hb16
  rw [add_mk] at c1 c2 c3 d1 d2 d3
  unfold bolterlaw17_IndexAll_b4
  refine bcase_t rfl ⟨_, c0, _, c1, _, c2, _, c3, bcase_t (by rw [ba_beq.2 rfl]; rfl) (bcase_t rfl (bcase_t rfl ⟨_, d2, _, d3, _, Cell.among hb10 rfl, _, Cell.at_ (add_mk _ _ _) (Cell.among hb10 rfl), bcase_t ?_ (bcase_t rfl (bcase_t rfl rfl))⟩))⟩
  rw [ba_beq.2 rfl]; rfl
theorem IndexAll_row (W : World) (g : GL (imW W)) (a0 : Option Addr) (l0 c0 : Nat) (six : Bool) (a2 : Option Addr) (l2 c2 : Nat) (w0 : U8W W (a0, l0, c0)) (z0 : l0 ≤ 140737488355328) (w2 : U8W W (a2, l2, c2)) (z2 : l2 ≤ 140737488355328) :
    Runs Tryd.prog 4 #[.slice a0 l0 c0, .bool six, .slice a2 l2 c2] (imW W) [] fun v _ _ => v = .bool true := by
  obtain ⟨y, ey, hy⟩ := sb_of w0
  obtain ⟨z, ez, hz⟩ := sb_of w2
  have := all_runs (six := six) g hy hz
  rw [ey, ez] at this
  exact this
end Go.Proofs.YtmlojdbahlfiaaaDoor
/- The listed variables: the tables and the two errors of strconv; a world where they lie so. -/
namespace Go.Proofs.YtmlojdbahlfiaaaDoor
open Go Go.Px Go.Lib Go.MakeChecks
set_option linter.unusedVariables false
set_option linter.unusedSimpArgs false
set_option maxRecDepth 100000

abbrev LaidL : List (String × DataW Unit) := [("math/bits.deBruijn32tab", Rows.laid_math_bits_deBruijn32tab), ("math/bits.deBruijn64tab", Rows.laid_math_bits_deBruijn64tab), ("internal/strconv.uint64pow10", Rows.laid_internal_strconv_uint64pow10), ("strconv.ErrRange", Rows.laid_strconv_ErrRange), ("strconv.ErrSyntax", Rows.laid_strconv_ErrSyntax)]
theorem ld_at {W : World} {n : String} {cs : Array Value} {g : Nat} (hg : Program.globalNamed Tryd.prog n = some g) (h : W.var? Tryd.prog n = some cs) : ∃ e fz, (imW W).at_ g = some (.cells cs e fz) := by
  simp only [World.var?, hg, Option.bind_some] at h
  split at h
  · rename_i cs' e fz he
    obtain rfl := Option.some.inj h
    exact ⟨e, fz, he⟩
  · cases h
theorem ld_err {W : World} {n : String} {d : DataW Unit} {r : List (String × DataW Unit)} {g : Nat} (h : laidMet Tryd.prog ((n, .iface "*errors.errorString" d) :: r) W)
    (hg : Program.globalNamed Tryd.prog n = some g) (ht : ((Tryd.prog).globals[g]?).map (·.type) = some 92) : ∃ u v, W.var? Tryd.prog n = some #[.iface u v] := by
  obtain ⟨ps, ⟨g0, t0, cs0, f0, p0, q0, hg0, ht0, hv0, hd0, _, e0⟩, _, hrows⟩ := h
  obtain rfl := Option.some.inj (hg.symm.trans hg0)
  obtain rfl := Option.some.inj (ht.symm.trans ht0)
  obtain ⟨l0⟩ := cs0
  obtain ⟨_, u, v, rfl, _⟩ := iface_of_trod (Tryd.underlying92) hd0
  exact ⟨u, v, hv0⟩
abbrev ld64 : List Int := [0, 1, 56, 2, 57, 49, 28, 3, 61, 58, 42, 50, 38, 29, 17, 4, 62, 47, 59, 36, 45, 43, 51, 22, 53, 39, 33, 30, 24, 18, 12, 5, 63, 55, 48, 27, 60, 41, 37, 16, 46, 35, 44, 21, 52, 32, 23, 11, 54, 26, 40, 15, 34, 20, 31, 10, 25, 14, 19, 9, 13, 8, 7, 6]
abbrev ldp : List Int := [1, 10, 100, 1000, 10000, 100000, 1000000, 10000000, 100000000, 1000000000, 10000000000, 100000000000, 1000000000000, 10000000000000, 100000000000000, 1000000000000000, 10000000000000000, 100000000000000000, 1000000000000000000, 10000000000000000000]
theorem GL_of_laid {W : World} (h : laidMet Tryd.prog LaidL W) : GL (imW W) := by
  have h1 : laidMet Tryd.prog (("math/bits.deBruijn64tab", tabData .u8 ld64) :: [("internal/strconv.uint64pow10", Rows.laid_internal_strconv_uint64pow10), ("strconv.ErrRange", Rows.laid_strconv_ErrRange), ("strconv.ErrSyntax", Rows.laid_strconv_ErrSyntax)]) W := h.tail
  have h2 : laidMet Tryd.prog (("internal/strconv.uint64pow10", tabData .u64 ldp) :: [("strconv.ErrRange", Rows.laid_strconv_ErrRange), ("strconv.ErrSyntax", Rows.laid_strconv_ErrSyntax)]) W := h1.tail
  have h3 := h2.tail
  have h4 := h3.tail
  have t1 := tabIs_of_head (P := Tryd.prog) (g := 4) (t := 201) (e := 5) (n := 64) (by kernel_rfl) (by kernel_rfl) (by kernel_rfl) (by kernel_rfl) (by kernel_rfl) (by kernel_rfl) h1
  have t2 := tabIs_of_head (P := Tryd.prog) (g := 0) (t := 181) (e := 157) (n := 20) (by kernel_rfl) (by kernel_rfl) (by kernel_rfl) (by kernel_rfl) (by kernel_rfl) (by kernel_rfl) h2
  obtain ⟨u0, v0, hv0⟩ := ld_err (g := 2) h3 (by kernel_rfl) (by kernel_rfl)
  obtain ⟨u1, v1, hv1⟩ := ld_err (g := 1) h4 (by kernel_rfl) (by kernel_rfl)
  obtain ⟨e1, f1, g1⟩ := ld_at (g := 4) (by kernel_rfl) t1
  obtain ⟨e2, f2, g2⟩ := ld_at (g := 0) (by kernel_rfl) t2
  obtain ⟨e3, f3, g3⟩ := ld_at (g := 2) (by kernel_rfl) hv0
  obtain ⟨e4, f4, g4⟩ := ld_at (g := 1) (by kernel_rfl) hv1
  exact ⟨⟨_, _, _, g2, rfl⟩, ⟨_, _, _, g1, rfl⟩, ⟨_, _, _, _, _, g4, rfl⟩, ⟨_, _, _, _, _, g3, rfl⟩⟩
/-- A world that meets the condition. -/
noncomputable def laidWorld (os : Os) : World := World.laidAll Tryd.prog os LaidL
theorem laidWorld_os (os : Os) : (laidWorld os).os = os := World.laidAll_os _ _ _
theorem laidWorld_met (os : Os) (args : Array Value) : laidMetH Tryd.prog LaidL ((laidWorld os).forCall (fun _ _ => 0) ⟨#[], args, []⟩).memory := by
  rw [laidMetH_plain _ _ _ (by kernel_rfl)]
  exact laidMet_laidAll args (by kernel_rfl) (by kernel_rfl)
theorem handle_of_laid {W : World} (h : laidMetH Tryd.prog LaidL W) : GL (imW W) := by
  rw [laidMetH_plain _ _ _ (by kernel_rfl)] at h
  exact GL_of_laid h
theorem laidWorld_shaped (os : Os) (args : Array Value) : ((laidWorld os).forCall (fun _ _ => 0) ⟨#[], args, []⟩).Shaped Tryd.prog :=
  World.shaped_of_ZipB (by kernel_rfl) (by kernel_rfl)
end Go.Proofs.YtmlojdbahlfiaaaDoor
