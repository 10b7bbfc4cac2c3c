/- The plain law of the table: slots, open addressing, and what a finite map says. -/
import Derived.Test.YtoeecjlencaglaaTb4
import Derived.Laws.Strings
set_option linter.unusedVariables false
namespace Go.Proofs.Ytoeecjlencaglaa
open Go.Px

def Slot.nonE (s : Slot) : Bool := s.live || s.dead
def ne (ss : List Slot) : Nat := ss.countP Slot.nonE
def lv (ss : List Slot) : Nat := ss.countP Slot.live
def pos (key : ByteArray) (n d : Nat) : Nat := ((hashM key (n : Int)).toNat + d) % n
theorem pos_lt (key : ByteArray) {n : Nat} (hn : 0 < n) (d : Nat) : pos key n d < n := Nat.mod_lt _ hn
theorem pos_succ (key : ByteArray) (n d : Nat) : (pos key n d + 1) % n = pos key n (d + 1) := by simp [pos, Nat.add_assoc]
theorem pos_zero (key : ByteArray) {n : Nat} (hn : 0 < n) : pos key n 0 = (hashM key (n : Int)).toNat := by
  have := hashM_bd key hn
  unfold pos; rw [Nat.add_zero, Nat.mod_eq_of_lt (by omega)]
theorem pos_onto (key : ByteArray) {n : Nat} (hn : 0 < n) {i : Nat} (hi : i < n) : ∃ d, d < n ∧ pos key n d = i := by
  have h1 := (hashM_bd key hn).2
  have h0 := (hashM_bd key hn).1
  generalize hh : (hashM key (n : Int)).toNat = h at *
  have hlt : h < n := by omega
  refine ⟨(i + (n - h)) % n, Nat.mod_lt _ hn, ?_⟩
  unfold pos
  rw [hh, Nat.add_mod_mod, show h + (i + (n - h)) = i + n by omega, Nat.add_mod_right, Nat.mod_eq_of_lt hi]
theorem keq {a b : ByteArray} : (a.toList == b.toList) = true ↔ a = b := by
  simp only [ByteArray.toList_eq, beq_iff_eq]
  constructor
  · intro h; apply ByteArray.ext; exact Array.toList_inj.1 h
  · rintro rfl; rfl

structure Good (ss : List Slot) : Prop where
  kinds : ∀ (i : Nat) (s : Slot), ss[i]? = some s → s.live = true → s.dead = true → False
  uniq : ∀ (i j : Nat) (s u : Slot), ss[i]? = some s → ss[j]? = some u → s.live = true → u.live = true → s.key = u.key → i = j
  reach : ∀ (i : Nat) (s : Slot), ss[i]? = some s → s.live = true → ∃ d, pos s.key ss.length d = i ∧ ∀ d', d' < d → ∃ u : Slot, ss[pos s.key ss.length d']? = some u ∧ u.nonE = true
  keys : small ss

theorem find_spec {ss : List Slot} (hk : ∀ (i : Nat) (s : Slot), ss[i]? = some s → s.live = true → s.dead = true → False) (key : ByteArray) : ∀ (k d e : Nat) (free : Int), d ≤ e → e - d < k → (∃ s : Slot, ss[pos key ss.length e]? = some s ∧ s.nonE = false) →
    (∀ g, d ≤ g → g < e → ∃ s : Slot, ss[pos key ss.length g]? = some s ∧ s.nonE = true) →
    (∃ (g : Nat) (s : Slot), d ≤ g ∧ g < e ∧ ss[pos key ss.length g]? = some s ∧ s.live = true ∧ s.key = key ∧ findM ss key k (pos key ss.length d) free = some (((pos key ss.length g : Nat) : Int), true)) ∨
    ((∀ (g : Nat) (s : Slot), d ≤ g → g < e → ss[pos key ss.length g]? = some s → s.live = true → s.key = key → False) ∧
      ∃ r, findM ss key k (pos key ss.length d) free = some (r, false) ∧ (0 ≤ free → r = free) ∧
        (free < 0 → ∃ (g : Nat) (s : Slot), d ≤ g ∧ g ≤ e ∧ r = ((pos key ss.length g : Nat) : Int) ∧ ss[pos key ss.length g]? = some s ∧ s.live = false ∧ ∀ g', d ≤ g' → g' < g → ∃ u : Slot, ss[pos key ss.length g']? = some u ∧ u.nonE = true)) := by
  intro k
  induction k with
  | zero => intro d e free _ h; omega
  | succ k ih =>
    intro d e free hde hlt hE hN
    by_cases he : d = e
    · subst he
      obtain ⟨s, hs, hs0⟩ := hE
      simp only [Slot.nonE, Bool.or_eq_false_iff] at hs0
      refine .inr ⟨fun g s h1 h2 => by omega, ?_⟩
      simp only [findM, hs, hs0.1, hs0.2]
      by_cases hf : free < 0
      · exact ⟨_, by simp [hf], fun h => by omega, fun _ => ⟨d, s, Nat.le_refl _, Nat.le_refl _, rfl, hs, hs0.1, fun g' h1 h2 => by omega⟩⟩
      · exact ⟨free, by simp [hf], fun _ => rfl, fun h => absurd h hf⟩
    · obtain ⟨s, hs, hs1⟩ := hN d (Nat.le_refl _) (by omega)
      have again := fun free' => ih (d + 1) e free' (by omega) (by omega) hE (fun g h1 h2 => hN g (by omega) h2)
      simp only [findM, hs]
      by_cases hm : s.live = true ∧ (s.key.toList == key.toList) = true
      · rw [if_pos hm]
        exact .inl ⟨d, s, Nat.le_refl _, by omega, hs, hm.1, keq.1 hm.2, rfl⟩
      · rw [if_neg hm]
        have nom : s.live = true → s.key = key → False := fun h1 h2 => hm ⟨h1, keq.2 h2⟩
        rw [pos_succ]
        have left : ∀ free', (∃ (g : Nat) (s : Slot), d + 1 ≤ g ∧ g < e ∧ ss[pos key ss.length g]? = some s ∧ s.live = true ∧ s.key = key ∧ findM ss key k (pos key ss.length (d + 1)) free' = some (((pos key ss.length g : Nat) : Int), true)) →
            ∃ (g : Nat) (s : Slot), d ≤ g ∧ g < e ∧ ss[pos key ss.length g]? = some s ∧ s.live = true ∧ s.key = key ∧ findM ss key k (pos key ss.length (d + 1)) free' = some (((pos key ss.length g : Nat) : Int), true) :=
          fun _ ⟨g, s, h1, h2⟩ => ⟨g, s, by omega, h2⟩
        have none_ : (∀ (g : Nat) (s : Slot), d + 1 ≤ g → g < e → ss[pos key ss.length g]? = some s → s.live = true → s.key = key → False) → ∀ (g : Nat) (s : Slot), d ≤ g → g < e → ss[pos key ss.length g]? = some s → s.live = true → s.key = key → False := by
          intro h g u h1 h2 h3 h4 h5
          by_cases hg : g = d
          · subst hg; rw [hs] at h3; injection h3 with h3; subst h3; exact nom h4 h5
          · exact h g u (by omega) h2 h3 h4 h5
        by_cases hd : s.dead = true ∧ free < 0
        · rw [if_pos hd]
          have hl : s.live = false := by cases hlv : s.live with
            | false => rfl
            | true => exact (hk _ s hs hlv hd.1).elim
          rcases again ((pos key ss.length d : Nat) : Int) with h | ⟨h1, r, h2, h3, _⟩
          · exact .inl (left _ h)
          · exact .inr ⟨none_ h1, r, h2, fun h => by omega, fun _ => ⟨d, s, Nat.le_refl _, hde, h3 (by omega), hs, hl, fun g' h1 h2 => by omega⟩⟩
        · rw [if_neg hd]
          have hne : ¬ (s.live = false ∧ s.dead = false) := by
            rintro ⟨h1, h2⟩; simp [Slot.nonE, h1, h2] at hs1
          rw [if_neg hne]
          rcases again free with h | ⟨h1, r, h2, h3, h4⟩
          · exact .inl (left _ h)
          · refine .inr ⟨none_ h1, r, h2, h3, fun hf => ?_⟩
            obtain ⟨g, u, g1, g2, g3, g4, g5, g6⟩ := h4 hf
            refine ⟨g, u, by omega, g2, g3, g4, g5, fun g' h1 h2 => ?_⟩
            by_cases hg : g' = d
            · subst hg; exact ⟨s, hs, hs1⟩
            · exact g6 g' (by omega) h2

theorem empty_of_ne {ss : List Slot} (h : ne ss < ss.length) : ∃ (i : Nat) (s : Slot), ss[i]? = some s ∧ s.nonE = false := by
  unfold ne at h
  apply Classical.byContradiction
  intro hno
  have : ss.countP Slot.nonE = ss.length := List.countP_eq_length.2 fun s hs => by
    obtain ⟨i, hi⟩ := List.getElem?_of_mem hs
    cases hb : s.nonE with
    | true => rfl
    | false => exact absurd ⟨i, s, hi, hb⟩ hno
  omega

/-- what 'find' comes to -/
theorem find_total {ss : List Slot} (hg : Good ss) (hne : ne ss < ss.length) (key : ByteArray) :
    (∃ (i : Nat) (s : Slot), findF ss key = some ((i : Int), true) ∧ ss[i]? = some s ∧ s.live = true ∧ s.key = key) ∨
    ((∀ (i : Nat) (s : Slot), ss[i]? = some s → s.live = true → s.key = key → False) ∧ ∃ (g : Nat) (s : Slot), findF ss key = some (((pos key ss.length g : Nat) : Int), false) ∧ ss[pos key ss.length g]? = some s ∧ s.live = false ∧
      ∀ g', g' < g → ∃ u : Slot, ss[pos key ss.length g']? = some u ∧ u.nonE = true) := by
  have hn : 0 < ss.length := by omega
  obtain ⟨i0, s0, hi0, hs0⟩ := empty_of_ne hne
  have hi0l : i0 < ss.length := by
    rcases Nat.lt_or_ge i0 ss.length with h | h
    · exact h
    · rw [List.getElem?_eq_none h] at hi0; cases hi0
  obtain ⟨d0, hd0, hp0⟩ := pos_onto key hn hi0l
  let E : Nat → Prop := fun d => ∃ s : Slot, ss[pos key ss.length d]? = some s ∧ s.nonE = false
  have hE := leastOf_spec (p := E) ⟨d0, s0, by rw [hp0]; exact hi0, hs0⟩
  generalize leastOf E = e at hE
  obtain ⟨he, hmin⟩ := hE
  have hed : e ≤ d0 := hmin d0 ⟨s0, by rw [hp0]; exact hi0, hs0⟩
  have hbefore : ∀ g, 0 ≤ g → g < e → ∃ s : Slot, ss[pos key ss.length g]? = some s ∧ s.nonE = true := by
    intro g _ hge
    have hl := pos_lt key hn g
    refine ⟨_, List.getElem?_eq_getElem hl, ?_⟩
    cases hb : (ss[pos key ss.length g]).nonE with
    | true => rfl
    | false => have := hmin g ⟨_, List.getElem?_eq_getElem hl, hb⟩; omega
  have hz := pos_zero key hn
  rcases find_spec hg.kinds key ss.length 0 e (-1) (Nat.zero_le _) (by omega) he hbefore with ⟨g, s, _, h2, h3, h4, h5, h6⟩ | ⟨h1, r, h2, _, h4⟩
  · rw [hz] at h6
    exact .inl ⟨_, s, h6, h3, h4, h5⟩
  · rw [hz] at h2
    refine .inr ⟨fun i s hi hl hkk => ?_, ?_⟩
    · obtain ⟨d, hd, hdn⟩ := hg.reach i s hi hl
      rw [hkk] at hd hdn
      have hde : d < e := by
        rcases Nat.lt_or_ge d e with h | h
        · exact h
        · exfalso
          obtain ⟨se, hse, hse0⟩ := he
          by_cases hde : d = e
          · subst hde
            rw [hd, hi] at hse; injection hse with hse; subst hse
            simp [Slot.nonE, hl] at hse0
          · obtain ⟨u, hu, hu1⟩ := hdn e (by omega)
            rw [hse] at hu; injection hu with hu; subst hu
            rw [hse0] at hu1; cases hu1
      exact h1 d s (Nat.zero_le _) hde (by rw [hd]; exact hi) hl hkk
    · obtain ⟨g, s, _, _, e3, e4, e5, e6⟩ := h4 (by omega)
      exact ⟨g, s, by rw [← e3]; exact h2, e4, e5, fun g' hg' => e6 g' (Nat.zero_le _) hg'⟩

/-! ### a finite map -/
abbrev KV := ByteArray → Option Int
def Maps (ss : List Slot) (M : KV) : Prop := ∀ key v, M key = some v ↔ ∃ (i : Nat) (s : Slot), ss[i]? = some s ∧ s.live = true ∧ s.key = key ∧ s.value = v
def KV.put (M : KV) (key : ByteArray) (v : Int) : KV := fun k => if k = key then some v else M k
def KV.del (M : KV) (key : ByteArray) : KV := fun k => if k = key then none else M k
theorem lt_of_get {ss : List Slot} {i : Nat} {s : Slot} (h : ss[i]? = some s) : i < ss.length := by
  rcases Nat.lt_or_ge i ss.length with h' | h'
  · exact h'
  · rw [List.getElem?_eq_none h'] at h; cases h
theorem get_set {ss : List Slot} {a : Nat} {s0 new : Slot} (ha : ss[a]? = some s0) (j : Nat) : (ss.set a new)[j]? = if j = a then some new else ss[j]? := by
  rw [List.getElem?_set]
  by_cases h : a = j
  · subst h; simp [lt_of_get ha]
  · rw [if_neg h, if_neg (fun e => h e.symm)]

/-- a word is laid where it may be -/
theorem set_good {ss : List Slot} (hg : Good ss) {a : Nat} {s0 : Slot} (ha : ss[a]? = some s0) {key : ByteArray} (hks : key.size ≤ 9223372036854775807) (v : Int) (hold : s0.live = true → s0.key = key)
    (honly : ∀ (i : Nat) (s : Slot), ss[i]? = some s → s.live = true → s.key = key → i = a) (hreach : ∃ d, pos key ss.length d = a ∧ ∀ d', d' < d → ∃ u : Slot, ss[pos key ss.length d']? = some u ∧ u.nonE = true) :
    Good (ss.set a ⟨key, v, true, false⟩) ∧ ∀ M, Maps ss M → Maps (ss.set a ⟨key, v, true, false⟩) (M.put key v) := by
  have gs := fun j => get_set (new := ⟨key, v, true, false⟩) ha j
  have keep : ∀ (j : Nat) (u : Slot), ss[j]? = some u → u.nonE = true → ∃ u' : Slot, (ss.set a ⟨key, v, true, false⟩)[j]? = some u' ∧ u'.nonE = true := by
    intro j u hj hu
    rw [gs]; split
    · exact ⟨_, rfl, rfl⟩
    · exact ⟨u, hj, hu⟩
  refine ⟨⟨fun i s h hl hd => ?_, fun i j s u hi hj hs hu he => ?_, fun i s h hl => ?_, fun s hs => ?_⟩, fun M hM k x => ?_⟩
  · rw [gs] at h; split at h
    · injection h with h; subst h; cases hd
    · exact hg.kinds i s h hl hd
  · rw [gs] at hi hj
    split at hi
    · rename_i e1
      split at hj
      · rename_i e2; rw [e1, e2]
      · injection hi with hi; subst hi; rw [e1]; exact (honly j u hj hu he.symm).symm
    · split at hj
      · rename_i e2; injection hj with hj; subst hj; rw [e2]; exact honly i s hi hs he
      · exact hg.uniq i j s u hi hj hs hu he
  · rw [gs] at h; rw [List.length_set]
    split at h
    · rename_i e; injection h with h; subst h
      obtain ⟨d, h1, h2⟩ := hreach
      exact ⟨d, by rw [e]; exact h1, fun d' hd' => by obtain ⟨u, hu, hu1⟩ := h2 d' hd'; exact keep _ u hu hu1⟩
    · obtain ⟨d, h1, h2⟩ := hg.reach i s h hl
      exact ⟨d, h1, fun d' hd' => by obtain ⟨u, hu, hu1⟩ := h2 d' hd'; exact keep _ u hu hu1⟩
  · rcases List.mem_or_eq_of_mem_set hs with h | h
    · exact hg.keys s h
    · subst h; exact hks
  · simp only [KV.put]
    split
    · rename_i e; subst e
      constructor
      · intro h; injection h with h; subst h; exact ⟨a, _, by rw [gs, if_pos rfl], rfl, rfl, rfl⟩
      · rintro ⟨i, s, hi, h1, h2, h3⟩
        rw [gs] at hi; split at hi
        · injection hi with hi; subst hi; exact congrArg some h3
        · rename_i hne; exact absurd (honly i s hi h1 h2) hne
    · rename_i hne
      rw [hM]
      constructor
      · rintro ⟨i, s, hi, h1, h2, h3⟩
        refine ⟨i, s, ?_, h1, h2, h3⟩
        rw [gs, if_neg]
        · exact hi
        · rintro rfl; rw [ha] at hi; injection hi with hi; subst hi; exact hne (h2.symm.trans (hold h1))
      · rintro ⟨i, s, hi, h1, h2, h3⟩
        rw [gs] at hi; split at hi
        · injection hi with hi; subst hi; exact absurd h2.symm hne
        · exact ⟨i, s, hi, h1, h2, h3⟩

theorem tomb_good {ss : List Slot} (hg : Good ss) {a : Nat} {s0 : Slot} (ha : ss[a]? = some s0) (hl0 : s0.live = true) :
    Good (ss.set a ⟨⟨#[]⟩, 0, false, true⟩) ∧ ∀ M, Maps ss M → Maps (ss.set a ⟨⟨#[]⟩, 0, false, true⟩) (M.del s0.key) := by
  have gs := fun j => get_set (new := ⟨⟨#[]⟩, 0, false, true⟩) ha j
  have keep : ∀ (j : Nat) (u : Slot), ss[j]? = some u → u.nonE = true → ∃ u' : Slot, (ss.set a ⟨⟨#[]⟩, 0, false, true⟩)[j]? = some u' ∧ u'.nonE = true := by
    intro j u hj hu
    rw [gs]; split
    · exact ⟨_, rfl, rfl⟩
    · exact ⟨u, hj, hu⟩
  have old : ∀ {j : Nat} {s : Slot}, (ss.set a ⟨⟨#[]⟩, 0, false, true⟩)[j]? = some s → s.live = true → ss[j]? = some s ∧ j ≠ a := by
    intro j s h hl
    rw [gs] at h; split at h
    · injection h with h; subst h; cases hl
    · rename_i hne; exact ⟨h, hne⟩
  refine ⟨⟨fun i s h hl hd => hg.kinds i s (old h hl).1 hl hd, fun i j s u hi hj hs hu he => hg.uniq i j s u (old hi hs).1 (old hj hu).1 hs hu he, fun i s h hl => ?_, fun s hs => ?_⟩, fun M hM k x => ?_⟩
  · obtain ⟨d, h1, h2⟩ := hg.reach i s (old h hl).1 hl
    rw [List.length_set]
    exact ⟨d, h1, fun d' hd' => by obtain ⟨u, hu, hu1⟩ := h2 d' hd'; exact keep _ u hu hu1⟩
  · rcases List.mem_or_eq_of_mem_set hs with h | h
    · exact hg.keys s h
    · subst h; exact Nat.zero_le _
  · simp only [KV.del]
    split
    · rename_i e; subst e
      constructor
      · intro h; cases h
      · rintro ⟨i, s, hi, h1, h2, h3⟩
        obtain ⟨h4, h5⟩ := old hi h1
        exact absurd (hg.uniq i a s s0 h4 ha h1 hl0 h2) h5
    · rename_i hne
      rw [hM]
      constructor
      · rintro ⟨i, s, hi, h1, h2, h3⟩
        refine ⟨i, s, ?_, h1, h2, h3⟩
        rw [gs, if_neg]
        · exact hi
        · rintro rfl; rw [ha] at hi; injection hi with hi; subst hi; exact hne h2.symm
      · rintro ⟨i, s, hi, h1, h2, h3⟩
        exact ⟨i, s, (old hi h1).1, h1, h2, h3⟩
theorem ne_set {ss : List Slot} {a : Nat} {s0 : Slot} (ha : ss[a]? = some s0) (new : Slot) : ne (ss.set a new) = ne ss - (if s0.nonE then 1 else 0) + (if new.nonE then 1 else 0) := by
  have hl := lt_of_get ha
  rw [List.getElem?_eq_getElem hl] at ha; injection ha with ha
  rw [ne, List.countP_set hl, ha]; rfl
theorem lv_set {ss : List Slot} {a : Nat} {s0 : Slot} (ha : ss[a]? = some s0) (new : Slot) : lv (ss.set a new) = lv ss - (if s0.live then 1 else 0) + (if new.live then 1 else 0) := by
  have hl := lt_of_get ha
  rw [List.getElem?_eq_getElem hl] at ha; injection ha with ha
  rw [lv, List.countP_set hl, ha]; rfl
theorem ne_pos {ss : List Slot} {a : Nat} {s0 : Slot} (ha : ss[a]? = some s0) (h : s0.nonE = true) : 0 < ne ss := List.countP_pos_iff.2 ⟨s0, List.mem_of_getElem? ha, h⟩
theorem lv_pos {ss : List Slot} {a : Nat} {s0 : Slot} (ha : ss[a]? = some s0) (h : s0.live = true) : 0 < lv ss := List.countP_pos_iff.2 ⟨s0, List.mem_of_getElem? ha, h⟩
end Go.Proofs.Ytoeecjlencaglaa
