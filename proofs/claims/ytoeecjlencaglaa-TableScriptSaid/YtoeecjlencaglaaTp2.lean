/- The plain law of the table: what Put, Get and Del make of a finite map. -/
import Derived.Test.YtoeecjlencaglaaTp1
set_option linter.unusedVariables false
namespace Go.Proofs.Ytoeecjlencaglaa
open Go.Px

theorem rep_get {n i : Nat} {s : Slot} (h : (List.replicate n noSlot)[i]? = some s) : s = noSlot := by
  rw [List.getElem?_replicate] at h; split at h
  · injection h with h; exact h.symm
  · cases h
theorem rep_good (n : Nat) : Good (List.replicate n noSlot) := by
  refine ⟨fun i s h hl => ?_, fun i j s u hi hj hs => ?_, fun i s h hl => ?_, fun s hs => ?_⟩
  · rw [rep_get h] at hl; cases hl
  · rw [rep_get hi] at hs; cases hs
  · rw [rep_get h] at hl; cases hl
  · rw [List.eq_of_mem_replicate hs]; exact Nat.zero_le _
theorem rep_maps (n : Nat) : Maps (List.replicate n noSlot) (fun _ => none) := by
  intro k v
  constructor
  · intro h; cases h
  · rintro ⟨i, s, h, hl, _⟩; rw [rep_get h] at hl; cases hl
theorem rep_ne (n : Nat) : ne (List.replicate n noSlot) = 0 ∧ lv (List.replicate n noSlot) = 0 :=
  ⟨List.countP_eq_zero.2 fun s hs => by rw [List.eq_of_mem_replicate hs]; simp [Slot.nonE, noSlot], List.countP_eq_zero.2 fun s hs => by rw [List.eq_of_mem_replicate hs]; simp [noSlot]⟩

/-- to lay anew, one behind the other: words that are not there yet -/
theorem growM_ok : ∀ (old new : List Slot) (M : KV), Good new → Maps new M → lv new = ne new → ne new + lv old < new.length → small old →
    (∀ (i j : Nat) (s u : Slot), old[i]? = some s → old[j]? = some u → s.live = true → u.live = true → s.key = u.key → i = j) → (∀ s ∈ old, s.live = true → s.dead = true → False) → (∀ s ∈ old, s.live = true → M s.key = none) →
    ∃ fin, growM old new = some fin ∧ fin.length = new.length ∧ Good fin ∧ lv fin = ne fin ∧ ne fin = ne new + lv old ∧
      ∃ M', Maps fin M' ∧ ∀ k v, M' k = some v ↔ M k = some v ∨ ∃ s ∈ old, s.live = true ∧ s.key = k ∧ s.value = v
  | [], new, M, hg, hM, hln, hc, _, _, _, _ => ⟨new, rfl, rfl, hg, hln, by simp [lv], M, hM, fun k v => by simp⟩
  | s :: old, new, M, hg, hM, hln, hc, hsm, hun, hkd, hfr => by
    have hsm' : small old := fun u hu => hsm u (List.mem_cons_of_mem _ hu)
    have hun' : ∀ i j (s u : Slot), old[i]? = some s → old[j]? = some u → s.live = true → u.live = true → s.key = u.key → i = j := fun i j s' u hi hj h1 h2 h3 => by
      have := hun (i + 1) (j + 1) s' u (by simpa using hi) (by simpa using hj) h1 h2 h3; omega
    cases hl : s.live with
    | false =>
      have hlv : lv (s :: old) = lv old := by simp [lv, hl]
      obtain ⟨fin, h1, h2, h3, h4, h5, M', h6, h7⟩ := growM_ok old new M hg hM hln (by omega) hsm' hun' (fun u hu => hkd u (List.mem_cons_of_mem _ hu)) (fun u hu => hfr u (List.mem_cons_of_mem _ hu))
      refine ⟨fin, by simp only [growM, hl, Bool.false_eq_true, if_false]; exact h1, h2, h3, h4, by omega, M', h6, fun k v => ?_⟩
      rw [h7]
      constructor
      · rintro (h | ⟨u, hu, h⟩)
        · exact .inl h
        · exact .inr ⟨u, List.mem_cons_of_mem _ hu, h⟩
      · rintro (h | ⟨u, hu, h⟩)
        · exact .inl h
        · rcases List.mem_cons.1 hu with rfl | hu
          · rw [hl] at h; cases h.1
          · exact .inr ⟨u, hu, h⟩
    | true =>
      have hlv : lv (s :: old) = lv old + 1 := by simp [lv, hl]
      have hnone : M s.key = none := hfr s (List.mem_cons_self ..) hl
      have hab : ∀ (i : Nat) (u : Slot), new[i]? = some u → u.live = true → u.key = s.key → False := fun i u hi h1 h2 => by
        have := (hM s.key u.value).2 ⟨i, u, hi, h1, h2, rfl⟩
        rw [hnone] at this; cases this
      rcases find_total hg (by omega) s.key with ⟨i, u, _, hi, h1, h2⟩ | ⟨_, g, u, hf, hu, hul, hpre⟩
      · exact (hab i u hi h1 h2).elim
      · have hks := hsm s (List.mem_cons_self ..)
        have hud : u.dead = false := by
          cases hd : u.dead with
          | false => rfl
          | true =>
            exfalso
            -- more slots that are not empty than live ones
            have h1 := lv_set hu (⟨u.key, u.value, true, false⟩)
            have h2 := ne_set hu (⟨u.key, u.value, true, false⟩)
            simp [Slot.nonE, hul, hd] at h1 h2
            have h3 := ne_pos hu (by simp [Slot.nonE, hd])
            have h4 : lv (new.set (pos s.key new.length g) ⟨u.key, u.value, true, false⟩) ≤ ne (new.set (pos s.key new.length g) ⟨u.key, u.value, true, false⟩) := List.countP_mono_left fun x _ hx => by simp [Slot.nonE, hx]
            omega
        obtain ⟨hg', hM'⟩ := set_good hg hu hks s.value (fun h => by rw [hul] at h; cases h) (fun i u hi h1 h2 => (hab i u hi h1 h2).elim) ⟨g, rfl, hpre⟩
        have hsd : s.dead = false := by
          cases hd : s.dead with
          | false => rfl
          | true => exact (hkd s (List.mem_cons_self ..) hl hd).elim
        have e : (⟨s.key, s.value, true, false⟩ : Slot) = s := by
          obtain ⟨k, v, l, d⟩ := s
          dsimp only at hl hsd
          rw [hl, hsd]
        rw [e] at hg' hM'
        have hne' := ne_set hu s
        have hlv' := lv_set hu s
        simp only [Slot.nonE, hul, hud, hl, Bool.or_self, Bool.true_or, Bool.false_eq_true, if_false, if_true, Nat.sub_zero] at hne' hlv'
        have hlt := lt_of_get hu
        have hfresh : ∀ u ∈ old, u.live = true → (M.put s.key s.value) u.key = none := by
          intro u hu hul'
          simp only [KV.put]
          obtain ⟨i, hi⟩ := List.getElem?_of_mem hu
          rw [if_neg (fun he => by have := hun (i + 1) 0 u s (by simpa using hi) rfl hul' hl he; omega)]
          exact hfr u (List.mem_cons_of_mem _ hu) hul'
        obtain ⟨fin, h1, h2, h3, h4, h5, M', h6, h7⟩ := growM_ok old (new.set (pos s.key new.length g) s) (M.put s.key s.value) hg' (hM' M hM) (by omega) (by rw [List.length_set]; omega) hsm' hun' (fun u hu => hkd u (List.mem_cons_of_mem _ hu)) hfresh
        refine ⟨fin, ?_, by rw [h2, List.length_set], h3, h4, by omega, M', h6, fun k v => ?_⟩
        · simp only [growM, hl, if_true, hf]
          rw [if_pos (by omega)]
          exact h1
        · rw [h7]
          simp only [KV.put]
          constructor
          · rintro (h | ⟨u, hu, h⟩)
            · split at h
              · rename_i ek; injection h with h; exact .inr ⟨s, List.mem_cons_self .., hl, ek.symm, h⟩
              · exact .inl h
            · exact .inr ⟨u, List.mem_cons_of_mem _ hu, h⟩
          · rintro (h | ⟨u, hu, h⟩)
            · left
              rw [if_neg (fun ek => by rw [ek, hnone] at h; cases h)]
              exact h
            · rcases List.mem_cons.1 hu with rfl | hu
              · left; rw [if_pos h.2.1.symm, h.2.2]
              · exact .inr ⟨u, hu, h⟩

/-! ### the table as a whole; 'B': how many words there may be -/
def TI (B : Nat) (t : Tbl) (M : KV) : Prop :=
  (t.ss = [] ∧ t.live = 0 ∧ t.full = 0 ∧ M = fun _ => none) ∨
  (t.ss ≠ [] ∧ Good t.ss ∧ Maps t.ss M ∧ lv t.ss = t.live ∧ ne t.ss = t.full ∧ 2 * t.full ≤ t.ss.length ∧ 8 ≤ t.ss.length ∧ t.live ≤ B ∧ t.ss.length ≤ 8 + 4 * B)
theorem lv_le_ne (ss : List Slot) : lv ss ≤ ne ss := List.countP_mono_left fun x _ hx => by simp [Slot.nonE, hx]
theorem TI.live_le {B : Nat} {t : Tbl} {M : KV} (h : TI B t M) : t.live ≤ B ∧ t.live ≤ t.full := by
  rcases h with ⟨_, h1, h2, _⟩ | ⟨_, _, _, h1, h2, _, _, h3, _⟩
  · omega
  · have := lv_le_ne t.ss; omega
theorem TI.ok {B : Nat} {t : Tbl} {M : KV} (h : TI B t M) (hB : B ≤ 1073741824) : t.Ok := by
  rcases h with ⟨h0, h1, h2, _⟩ | ⟨_, hg, _, h1, h2, h3, h4, h5, h6⟩
  · exact ⟨by omega, by omega, by rw [h0]; simp, by rw [h0]; intro s hs; cases hs⟩
  · exact ⟨by omega, by omega, by omega, hg.keys⟩

theorem grown_ok {B : Nat} {t : Tbl} {M : KV} (h : TI B t M) : ∃ t1, grownM t = some t1 ∧ t1.ss ≠ [] ∧ t1.live = t.live ∧ TI B t1 M ∧ 2 * (t1.full + 1) ≤ t1.ss.length ∧ (t1.ss.length = t.ss.length ∨ t1.ss.length = growN t.live) := by
  unfold grownM
  by_cases hgt : 2 * (t.full + 1) > t.ss.length
  · rw [if_pos hgt]
    have hN : 8 ≤ growN t.live ∧ 4 * t.live ≤ growN t.live ∧ growN t.live ≤ 8 + 4 * t.live ∧ 2 * (t.live + 1) ≤ growN t.live := by unfold growN; split <;> omega
    have hr := rep_ne (growN t.live)
    have hlen : (List.replicate (growN t.live) noSlot).length = growN t.live := by simp
    have key : ∀ (hg : Good t.ss) (hM : Maps t.ss M) (h1 : lv t.ss = t.live), ∃ fin, growM t.ss (List.replicate (growN t.live) noSlot) = some fin ∧ fin.length = growN t.live ∧ Good fin ∧ lv fin = t.live ∧ ne fin = t.live ∧ Maps fin M := by
      intro hg hM h1
      obtain ⟨fin, e1, e2, e3, e4, e5, M', e6, e7⟩ := growM_ok t.ss (List.replicate (growN t.live) noSlot) (fun _ => none) (rep_good _) (rep_maps _) (by omega) (by rw [hlen]; omega) hg.keys hg.uniq
        (fun s hs => by obtain ⟨i, hi⟩ := List.getElem?_of_mem hs; exact hg.kinds i s hi) (fun _ _ _ => rfl)
      refine ⟨fin, e1, by omega, e3, by omega, by omega, ?_⟩
      have : M' = M := by
        funext k
        have hk : ∀ v, M' k = some v ↔ M k = some v := by
          intro v
          rw [e7, hM]
          constructor
          · rintro (h | ⟨s, hs, h⟩)
            · cases h
            · obtain ⟨i, hi⟩ := List.getElem?_of_mem hs; exact ⟨i, s, hi, h⟩
          · rintro ⟨i, s, hi, h⟩; exact .inr ⟨s, List.mem_of_getElem? hi, h⟩
        cases h1 : M k with
        | none => cases h2 : M' k with
          | none => rfl
          | some v => have := (hk v).1 h2; rw [h1] at this; cases this
        | some v => exact (hk v).2 h1
      rw [← this]; exact e6
    have fin : ∀ fin, growM t.ss (List.replicate (growN t.live) noSlot) = some fin → fin.length = growN t.live → Good fin → lv fin = t.live → ne fin = t.live → Maps fin M → t.live ≤ B →
        ∃ t1, (growM t.ss (List.replicate (growN t.live) noSlot)).map (fun new => (⟨new, t.live, t.live⟩ : Tbl)) = some t1 ∧ t1.ss ≠ [] ∧ t1.live = t.live ∧ TI B t1 M ∧ 2 * (t1.full + 1) ≤ t1.ss.length ∧ (t1.ss.length = t.ss.length ∨ t1.ss.length = growN t.live) := by
      intro fin e1 e2 e3 e4 e5 e6 hB
      have hne : fin ≠ [] := fun h => by rw [h] at e2; simp at e2; omega
      exact ⟨⟨fin, t.live, t.live⟩, by rw [e1]; rfl, hne, rfl, .inr ⟨hne, e3, e6, e4, e5, by dsimp only; omega, by dsimp only; omega, hB, by dsimp only; omega⟩, by dsimp only; omega, .inr e2⟩
    rcases h with ⟨h0, h1, h2, h3⟩ | ⟨h0, hg, hM, h1, h2, h3, h4, h5, h6⟩
    · have hg0 : Good t.ss := by rw [h0]; exact ⟨fun i s h => by simp at h, fun i j s u h => by simp at h, fun i s h => by simp at h, fun s hs => by cases hs⟩
      have hM0 : Maps t.ss M := by
        rw [h3, h0]; intro k v
        constructor
        · intro h; cases h
        · rintro ⟨i, s, h, _⟩; simp at h
      obtain ⟨f, e1, e2, e3, e4, e5, e6⟩ := key hg0 hM0 (by rw [h0, h1]; rfl)
      exact fin f e1 e2 e3 e4 e5 e6 (by omega)
    · obtain ⟨f, e1, e2, e3, e4, e5, e6⟩ := key hg hM h1
      exact fin f e1 e2 e3 e4 e5 e6 h5
  · rw [if_neg hgt]
    have hne : t.ss ≠ [] := fun h0 => by rw [h0] at hgt; simp at hgt
    exact ⟨t, rfl, hne, rfl, h, by omega, .inl rfl⟩

theorem putM_ok {B B' : Nat} {t : Tbl} {M : KV} (h : TI B t M) (hBB : B ≤ B') (key : ByteArray) (v : Int) (hks : key.size ≤ 9223372036854775807) (hB : M key = none → t.live + 1 ≤ B') :
    ∃ t', putM t key v = some (t', (M key).isNone) ∧ TI B' t' (M.put key v) ∧ t'.live = (if (M key).isNone then t.live + 1 else t.live) ∧ (t'.ss.length = t.ss.length ∨ t'.ss.length = growN t.live) := by
  obtain ⟨t1, e1, e2, e3, e4, e5, e6⟩ := grown_ok h
  rcases e4 with ⟨h0, _⟩ | ⟨_, hg, hM, h1, h2, h3, h4, h5, h6⟩
  · exact absurd h0 e2
  have hf := find_total hg (by omega) key
  unfold putM
  rw [e1]
  simp only [Option.bind_some]
  unfold putAt
  rcases hf with ⟨i, s, hf, hi, hl, hk⟩ | ⟨hno, g, s, hf, hi, hl, hpre⟩
  · have hMk : M key = some s.value := (hM key _).2 ⟨i, s, hi, hl, hk, rfl⟩
    obtain ⟨d, hd, hd'⟩ := hg.reach i s hi hl
    rw [hk] at hd hd'
    obtain ⟨hg', hM'⟩ := set_good hg hi hks v (fun _ => hk) (fun j u hj hu hkk => hg.uniq j i u s hj hi hu hl (hkk.trans hk.symm)) ⟨d, hd, hd'⟩
    have a1 := ne_set hi (⟨key, v, true, false⟩)
    have a2 := lv_set hi (⟨key, v, true, false⟩)
    have a3 := lv_pos hi hl
    have a4 := lv_le_ne t1.ss
    simp [Slot.nonE, hl] at a1 a2
    rw [hf, hMk]
    simp only [Int.toNat_natCast, hi, if_true, Option.isNone_some]
    rw [if_pos (by omega)]
    refine ⟨_, rfl, .inr ⟨by simpa using e2, hg', hM' M hM, ?_, ?_, ?_, ?_, ?_, ?_⟩, ?_, ?_⟩ <;> (try dsimp only) <;> (try rw [List.length_set]) <;> (try simp) <;> omega
  · have hMk : M key = none := by
      cases hm : M key with
      | none => rfl
      | some x => obtain ⟨i, u, hiu, h1, h2, _⟩ := (hM key x).1 hm; exact (hno i u hiu h1 h2).elim
    obtain ⟨hg', hM'⟩ := set_good hg hi hks v (fun h => by rw [hl] at h; cases h) (fun j u hj hu hkk => (hno j u hj hu hkk).elim) ⟨g, rfl, hpre⟩
    have a1 := ne_set hi (⟨key, v, true, false⟩)
    have a2 := lv_set hi (⟨key, v, true, false⟩)
    have hB' := hB hMk
    rw [hf, hMk]
    simp only [Int.toNat_natCast, hi, Option.isNone_none, Bool.not_false, Bool.false_eq_true, if_false, if_true]
    rw [if_pos (by omega)]
    cases hd : s.dead with
    | true =>
      have a3 := ne_pos hi (by simp [Slot.nonE, hd])
      simp [Slot.nonE, hl, hd] at a1 a2
      refine ⟨_, rfl, .inr ⟨by simpa using e2, hg', hM' M hM, ?_, ?_, ?_, ?_, ?_, ?_⟩, ?_, ?_⟩ <;> (try dsimp only) <;> (try rw [List.length_set]) <;> (try simp) <;> omega
    | false =>
      simp [Slot.nonE, hl, hd] at a1 a2
      refine ⟨_, rfl, .inr ⟨by simpa using e2, hg', hM' M hM, ?_, ?_, ?_, ?_, ?_, ?_⟩, ?_, ?_⟩ <;> (try dsimp only) <;> (try rw [List.length_set]) <;> (try simp) <;> omega

theorem getM_ok {B : Nat} {t : Tbl} {M : KV} (h : TI B t M) (key : ByteArray) : getM t key = some ((M key).getD 0, (M key).isSome) := by
  unfold getM
  rcases h with ⟨h0, _, _, h3⟩ | ⟨h0, hg, hM, h1, h2, h3, h4, h5, h6⟩
  · rw [if_pos h0, h3]; rfl
  · rw [if_neg h0]
    rcases find_total hg (by omega) key with ⟨i, s, hf, hi, hl, hk⟩ | ⟨hno, g, s, hf, hi, hl, hpre⟩
    · have hMk : M key = some s.value := (hM key _).2 ⟨i, s, hi, hl, hk, rfl⟩
      rw [hf, hMk]
      simp [hi]
    · have hMk : M key = none := by
        cases hm : M key with
        | none => rfl
        | some x => obtain ⟨i, u, hiu, h1, h2, _⟩ := (hM key x).1 hm; exact (hno i u hiu h1 h2).elim
      rw [hf, hMk]
      simp

theorem delM_ok {B : Nat} {t : Tbl} {M : KV} (h : TI B t M) (key : ByteArray) :
    ∃ t', delM t key = some (t', (M key).isSome) ∧ TI B t' (M.del key) ∧ t'.ss.length = t.ss.length ∧ ((M key).isSome = true → 0 < t.live) ∧ t'.live = (if (M key).isSome then t.live - 1 else t.live) := by
  unfold delM
  have nodel : M key = none → M.del key = M := fun hk => by
    funext k; simp only [KV.del]; split
    · rename_i e; subst e; exact hk.symm
    · rfl
  rcases h with ⟨h0, hl0, hf0, h3⟩ | ⟨h0, hg, hM, h1, h2, h3, h4, h5, h6⟩
  · have hMk : M key = none := by rw [h3]
    rw [if_pos h0, nodel hMk, hMk]
    exact ⟨t, rfl, .inl ⟨h0, hl0, hf0, h3⟩, rfl, (fun h => by cases h), rfl⟩
  · rw [if_neg h0]
    rcases find_total hg (by omega) key with ⟨i, s, hf, hi, hl, hk⟩ | ⟨hno, g, s, hf, hi, hl, hpre⟩
    · have hMk : M key = some s.value := (hM key _).2 ⟨i, s, hi, hl, hk, rfl⟩
      have hlt := lt_of_get hi
      obtain ⟨hg', hM'⟩ := tomb_good hg hi hl
      rw [hk] at hM'
      have a1 := ne_set hi (⟨⟨#[]⟩, 0, false, true⟩)
      have a2 := lv_set hi (⟨⟨#[]⟩, 0, false, true⟩)
      have a3 := lv_pos hi hl
      have a4 := ne_pos hi (by simp [Slot.nonE, hl])
      simp [Slot.nonE, hl] at a1 a2
      rw [hf, hMk]
      simp only [Int.toNat_natCast, if_true, Option.isSome_some]
      rw [if_pos (by omega)]
      refine ⟨_, rfl, .inr ⟨by simpa using h0, hg', hM' M hM, ?_, ?_, ?_, ?_, ?_, ?_⟩, ?_, ?_, ?_⟩ <;> (try dsimp only) <;> (try rw [List.length_set]) <;> (try simp) <;> omega
    · have hMk : M key = none := by
        cases hm : M key with
        | none => rfl
        | some x => obtain ⟨i, u, hiu, h1, h2, _⟩ := (hM key x).1 hm; exact (hno i u hiu h1 h2).elim
      rw [hf, hMk]
      simp only [Bool.false_eq_true, if_false, Option.isSome_none]
      exact ⟨t, rfl, by rw [nodel hMk]; exact .inr ⟨h0, hg, hM, h1, h2, h3, h4, h5, h6⟩, rfl, (fun h => by cases h), rfl⟩
end Go.Proofs.Ytoeecjlencaglaa
