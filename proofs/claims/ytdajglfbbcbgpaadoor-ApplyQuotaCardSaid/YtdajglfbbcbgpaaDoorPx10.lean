/- Words for maps and for bytes that are read as words. -/
import Derived.Test.YtdajglfbbcbgpaaDoorPx9
namespace Go.Px
set_option linter.unusedVariables false
set_option linter.unusedSectionVars false
set_option linter.unusedSimpArgs false

def byV (s : ByteArray) : Array Value := (s.data.toList.map fun c => Value.int .u8 (c.toNat : Int)).toArray
theorem byV_get (s : ByteArray) (i : Nat) : (byV s)[i]? = (s[i]?).map fun c => Value.int .u8 (c.toNat : Int) := by
  unfold byV
  rw [List.getElem?_toArray, List.getElem?_map]
  congr 1
  by_cases h : i < s.size
  · rw [getElem?_pos s i h, List.getElem?_eq_getElem (by simpa using h)]; rfl
  · rw [getElem?_neg s i h, List.getElem?_eq_none (by simpa using h)]
theorem BytesAt.at0 {I : IMem} {S : SH} {b n : Nat} {e : TypeId} {fz : Nat × Nat} {cs : Array Value} (s : ByteArray) (hn : n = s.size) (h : cs = byV s) : BytesAt I ((b, .cells cs e fz) :: S) (some ⟨b, 0, none⟩) n s := by
  subst hn h
  refine ⟨rfl, fun i c hc => ?_⟩
  rw [add_mk, Nat.zero_add]
  exact Cell.at0 (by rw [byV_get, hc]; rfl)
theorem BytesAt.tl {I : IMem} {S : SH} {p : Option Addr} {n : Nat} {s : ByteArray} {q : Nat × Obj} (h : BytesAt I S p n s) : BytesAt I (q :: S) p n s := by
  cases p with
  | none => exact h
  | some a => exact ⟨h.1, fun i c hc => Cell.tl (h.2 i c hc)⟩

/-! ### maps -/
section
variable {κ υ : Type} [DecidableEq κ]
def look : List (κ × υ) → κ → Nat → Option (Nat × υ)
  | [], _, _ => none
  | (a, v) :: l, k, j => if k = a then some (j, v) else look l k (j + 1)
theorem look_some {k : κ} {v : υ} : ∀ {l : List (κ × υ)} {j i : Nat}, look l k j = some (i, v) → j ≤ i ∧ l[i - j]? = some (k, v)
  | [], j, i, h => by simp [look] at h
  | (a, u) :: l, j, i, h => by
    simp only [look] at h
    split at h
    · rename_i e; subst e
      injection h with h; injection h with h1 h2; subst h1; subst h2
      exact ⟨Nat.le_refl _, by simp⟩
    · obtain ⟨h1, h2⟩ := look_some h
      exact ⟨by omega, by rw [show i - j = (i - (j + 1)) + 1 by omega]; simpa using h2⟩
theorem look_none {k : κ} : ∀ {l : List (κ × υ)} {j : Nat}, look l k j = none → ∀ v, (k, v) ∉ l
  | [], j, h, v => by simp
  | (a, u) :: l, j, h, v => by
    simp only [look] at h
    split at h
    · cases h
    · rename_i e
      intro hm
      rcases List.mem_cons.1 hm with hm | hm
      · injection hm with h1 _; exact e h1
      · exact look_none h v hm
variable (kd : TypeDesc) (ek : κ → Value) (ew : υ → Value)
def KeyOK : Prop := ∀ a b : κ, Instr.sameNow kd (ek a) (ek b) = some (decide (a = b))
variable {kd ek ew}
theorem findNow_look (hk : KeyOK kd ek) (k : κ) : ∀ (l : List (κ × υ)) (es : List MapEntry) (j : Nat), es.map (fun e => (e.key, e.val)) = l.map (fun p => (ek p.1, ew p.2)) →
    Instr.findNow kd (ek k) es j = some ((look l k j).map fun p => (p.1, ew p.2))
  | [], [], j, _ => rfl
  | [], e :: es, j, h => by simp at h
  | p :: l, [], j, h => by simp at h
  | (a, v) :: l, e :: es, j, h => by
    simp only [List.map_cons, List.cons.injEq, Prod.mk.injEq] at h
    obtain ⟨⟨h1, h2⟩, h3⟩ := h
    unfold Instr.findNow
    rw [h1, hk]
    by_cases he : k = a
    · simp [look, he, h2]
    · simp only [look, he, decide_false, if_false]
      exact findNow_look hk k l es (j + 1) h3
/-- a map's entries, as a finite map of so many words -/
def MpI (ek : κ → Value) (ew : υ → Value) (es : Array MapEntry) (M : κ → Option υ) (n : Nat) : Prop :=
  ∃ l : List (κ × υ), es.toList.map (fun e => (e.key, e.val)) = l.map (fun p => (ek p.1, ew p.2)) ∧ (l.map (·.1)).Nodup ∧ (∀ k v, M k = some v ↔ (k, v) ∈ l) ∧ l.length = n
def fput (M : κ → Option υ) (k : κ) (v : υ) : κ → Option υ := fun x => if x = k then some v else M x
def fdel (M : κ → Option υ) (k : κ) : κ → Option υ := fun x => if x = k then none else M x
theorem MpI.nil : MpI ek ew #[] (fun _ => none) 0 := ⟨[], rfl, List.nodup_nil, fun k v => by simp, rfl⟩
theorem MpI.size {es : Array MapEntry} {M : κ → Option υ} {n : Nat} (h : MpI ek ew es M n) : es.size = n := by
  obtain ⟨l, h1, _, _, h4⟩ := h
  have := congrArg List.length h1
  simpa [h4] using this
theorem MpI.find (hk : KeyOK kd ek) {es : Array MapEntry} {M : κ → Option υ} {n : Nat} (h : MpI ek ew es M n) (k : κ) :
    (∃ i v, M k = some v ∧ Instr.findNow kd (ek k) es.toList 0 = some (some (i, ew v))) ∨ (M k = none ∧ Instr.findNow kd (ek k) es.toList 0 = some none) := by
  obtain ⟨l, h1, h2, h3, h4⟩ := h
  rw [findNow_look hk k l es.toList 0 h1]
  cases hl : look l k 0 with
  | none => exact .inr ⟨by cases hM : M k with
      | none => rfl
      | some v => exact absurd ((h3 k v).1 hM) (look_none hl v), rfl⟩
  | some p =>
    obtain ⟨i, v⟩ := p
    obtain ⟨_, hi⟩ := look_some hl
    exact .inl ⟨i, v, (h3 k v).2 (List.mem_of_getElem? hi), rfl⟩
theorem MapAt.of (hk : KeyOK kd ek) {I : IMem} {S : SH} {r clock : Nat} {es : Array MapEntry} {M : κ → Option υ} {n : Nat} (hc : MpC I S r es clock) (h : MpI ek ew es M n) (k : κ) (z : Value) :
    MapAt I S (some r) kd (ek k) z (match M k with | some v => ew v | none => z) (M k).isSome := by
  refine ⟨es, ⟨clock, hc⟩, ?_⟩
  rcases h.find hk k with ⟨i, v, hM, hf⟩ | ⟨hM, hf⟩
  · rw [hM]; exact .inl ⟨i, hf, rfl⟩
  · rw [hM]; exact .inr ⟨hf, rfl, rfl⟩
theorem mapSet_ok (hk : KeyOK kd ek) {clock : Nat} {es : Array MapEntry} {M : κ → Option υ} {n : Nat} (h : MpI ek ew es M n) (k : κ) (v : υ) :
    ∃ es' clock', mapSet kd (ek k) (ew v) es clock = some (es', clock') ∧ MpI ek ew es' (fput M k v) (n + if (M k).isSome then 0 else 1) := by
  obtain ⟨l, h1, h2, h3, h4⟩ := h
  unfold mapSet
  rw [findNow_look hk k l es.toList 0 h1]
  cases hl : look l k 0 with
  | none =>
    have hnone : M k = none := by
      cases hM : M k with
      | none => rfl
      | some u => exact absurd ((h3 k u).1 hM) (look_none hl u)
    refine ⟨_, _, rfl, l ++ [(k, v)], by simp [h1], ?_, fun x u => ?_, by simp [h4, hnone]⟩
    · rw [List.map_append, List.nodup_append]
      refine ⟨h2, by simp, ?_⟩
      intro a ha b hb
      simp at hb
      subst hb
      obtain ⟨p, hp, rfl⟩ := List.mem_map.1 ha
      intro e
      exact look_none hl p.2 (by rw [← e]; exact hp)
    · simp only [fput, List.mem_append, List.mem_singleton, Prod.mk.injEq]
      by_cases hx : x = k
      · subst hx
        simp only [if_true, true_and, Option.some.injEq]
        exact ⟨fun e => .inr e.symm, fun e => e.elim (fun hm => absurd hm (look_none hl u)) Eq.symm⟩
      · simp [hx, h3]
  | some p =>
    obtain ⟨i, u⟩ := p
    obtain ⟨_, hi⟩ := look_some hl
    simp only [Nat.sub_zero] at hi
    have hil : i < l.length := by
      rcases Nat.lt_or_ge i l.length with g | g
      · exact g
      · rw [List.getElem?_eq_none g] at hi; cases hi
    have hsome : M k = some u := (h3 k u).2 (List.mem_of_getElem? hi)
    refine ⟨_, _, rfl, l.set i (k, v), ?_, ?_, fun x w => ?_, by simp [h4, hsome]⟩
    · apply List.ext_getElem?
      intro j
      have hj := congrArg (fun z : List (Value × Value) => z[j]?) h1
      simp only [List.getElem?_map, Array.getElem?_toList] at hj
      simp only [List.getElem?_map, Array.getElem?_toList, Array.getElem?_modify, List.getElem?_set]
      by_cases hij : i = j
      · subst hij
        rw [List.getElem?_eq_getElem hil] at hj
        cases he : es[i]? with
        | none => rw [he] at hj; cases hj
        | some e => simp [hil]
      · simp [hij, hj]
    · have : (l.set i (k, v)).map (·.1) = l.map (·.1) := by
        rw [List.map_set]
        apply List.ext_getElem?
        intro j
        rw [List.getElem?_set]
        split
        · rename_i e; subst e
          split
          · rw [List.getElem?_map, hi]; rfl
          · rename_i hlt; rw [List.getElem?_eq_none (by simpa using hlt)]
        · rfl
      rw [this]; exact h2
    · have huniq : ∀ (j : Nat) (w : υ), l[j]? = some (k, w) → j = i := fun j w hj => by
        have e1 : (l.map (·.1))[j]? = some k := by simp [hj]
        have e2 : (l.map (·.1))[i]? = some k := by simp [hi]
        have hj' : j < (l.map (·.1)).length := (List.getElem?_eq_some_iff.1 e1).1
        have hi' : i < (l.map (·.1)).length := (List.getElem?_eq_some_iff.1 e2).1
        exact (List.getElem_inj h2).1 ((List.getElem?_eq_some_iff.1 e1).2.trans (List.getElem?_eq_some_iff.1 e2).2.symm)
      simp only [fput]
      by_cases hx : x = k
      · subst hx
        simp only [if_true, Option.some.injEq]
        constructor
        · rintro rfl; exact List.mem_of_getElem? (i := i) (by simp [hil])
        · intro hm
          obtain ⟨j, hj⟩ := List.getElem?_of_mem hm
          rw [List.getElem?_set] at hj
          split at hj
          · simp [hil] at hj; exact hj
          · rename_i hne; exact absurd (huniq j w hj).symm hne
      · simp only [hx, if_false, h3]
        constructor
        · intro hm
          obtain ⟨j, hj⟩ := List.getElem?_of_mem hm
          refine List.mem_of_getElem? (i := j) ?_
          rw [List.getElem?_set, if_neg (fun e => by subst e; rw [hi] at hj; injection hj with hj; injection hj with e1 _; exact hx e1.symm)]
          exact hj
        · intro hm
          obtain ⟨j, hj⟩ := List.getElem?_of_mem hm
          rw [List.getElem?_set] at hj
          split at hj
          · simp [hil] at hj; exact absurd hj.1.symm hx
          · exact List.mem_of_getElem? hj
theorem mapDel_ok (hk : KeyOK kd ek) {es : Array MapEntry} {M : κ → Option υ} {n : Nat} (h : MpI ek ew es M n) (k : κ) :
    ∃ es', mapDel kd (ek k) es = some es' ∧ MpI ek ew es' (fdel M k) (n - if (M k).isSome then 1 else 0) := by
  obtain ⟨l, h1, h2, h3, h4⟩ := h
  unfold mapDel
  rw [findNow_look hk k l es.toList 0 h1]
  cases hl : look l k 0 with
  | none =>
    have hnone : M k = none := by
      cases hM : M k with
      | none => rfl
      | some u => exact absurd ((h3 k u).1 hM) (look_none hl u)
    refine ⟨_, rfl, l, h1, h2, fun x u => ?_, by simp [h4, hnone]⟩
    simp only [fdel]
    by_cases hx : x = k
    · subst hx; simp only [if_true]; exact ⟨(fun e => by cases e), fun hm => absurd hm (look_none hl u)⟩
    · simp [hx, h3]
  | some p =>
    obtain ⟨i, u⟩ := p
    obtain ⟨_, hi⟩ := look_some hl
    simp only [Nat.sub_zero] at hi
    have hil : i < l.length := by
      rcases Nat.lt_or_ge i l.length with g | g
      · exact g
      · rw [List.getElem?_eq_none g] at hi; cases hi
    have hsome : M k = some u := (h3 k u).2 (List.mem_of_getElem? hi)
    have hes : i < es.size := by have := congrArg List.length h1; simp at this; omega
    refine ⟨_, rfl, l.eraseIdx i, ?_, ?_, fun x w => ?_, by rw [List.length_eraseIdx, if_pos hil, h4, hsome]; rfl⟩
    · have : (es.eraseIdxIfInBounds i).toList = es.toList.eraseIdx i := by simp [Array.eraseIdxIfInBounds, hes, Array.toList_eraseIdx]
      rw [this]
      have key : ∀ {α β : Type} (f : α → β) (xs : List α) (i : Nat), (xs.eraseIdx i).map f = (xs.map f).eraseIdx i := by
        intro α β f xs
        induction xs with
        | nil => intro i; simp
        | cons x xs ih => intro i; cases i with
          | zero => simp
          | succ i => simp [ih]
      rw [key, key, h1]
    · have key : ((l.eraseIdx i).map (·.1)).Sublist (l.map (·.1)) := (List.eraseIdx_sublist l i).map _
      exact key.nodup h2
    · have huniq : ∀ (j : Nat) (w : υ), l[j]? = some (k, w) → j = i := fun j w hj => by
        have e1 : (l.map (·.1))[j]? = some k := by simp [hj]
        have e2 : (l.map (·.1))[i]? = some k := by simp [hi]
        exact (List.getElem_inj h2).1 ((List.getElem?_eq_some_iff.1 e1).2.trans (List.getElem?_eq_some_iff.1 e2).2.symm)
      simp only [fdel]
      have hmem : (x, w) ∈ l.eraseIdx i ↔ ∃ j, j ≠ i ∧ l[j]? = some (x, w) := by rw [List.mem_eraseIdx_iff_getElem?]
      rw [hmem]
      by_cases hx : x = k
      · subst hx; simp only [if_true]; exact ⟨(fun e => by cases e), fun ⟨j, hj, he⟩ => absurd (huniq j w he) hj⟩
      · simp only [hx, if_false, h3]
        constructor
        · intro hm
          obtain ⟨j, hj⟩ := List.getElem?_of_mem hm
          exact ⟨j, fun e => by subst e; rw [hi] at hj; injection hj with hj; injection hj with e1 _; exact hx e1.symm, hj⟩
        · rintro ⟨j, _, hj⟩; exact List.mem_of_getElem? hj
theorem Sub.put {p : Nat × Obj} {L T : SH} (h : Sub (p :: L) T) (q : Nat × Obj) : ∃ i, T[i]? = some p ∧ Sub (q :: L) (T.set i q) := by
  obtain ⟨G, hp⟩ := h
  have hm : p ∈ T := hp.mem_iff.2 (by simp)
  obtain ⟨i, hi⟩ := List.getElem?_of_mem hm
  refine ⟨i, hi, G, ?_⟩
  have key : ∀ (A : SH) (i : Nat) (x y : Nat × Obj), A[i]? = some x → (y :: A).Perm (x :: A.set i y) := by
    intro A
    induction A with
    | nil => intro i x y h; simp at h
    | cons z A ih =>
      intro i x y h
      cases i with
      | zero => simp at h; subst h; exact List.Perm.swap ..
      | succ i =>
        simp at h
        have := ih i x y h
        exact (List.Perm.swap z y A).trans ((this.cons z).trans (List.Perm.swap x z _))
  have k1 := key T i p q hi
  have k2 : (p :: T.set i q).Perm (p :: (q :: (L ++ G))) := k1.symm.trans ((hp.cons q).trans (List.Perm.swap ..))
  exact List.Perm.cons_inv k2
theorem MpC.of_sub {I : IMem} {L T : SH} {r clock : Nat} {es : Array MapEntry} (h : Sub ((r, .map es clock) :: L) T) : MpC I T r es clock := by
  obtain ⟨G, hp⟩ := h
  exact .inr (hp.mem_iff.2 (by simp))
theorem MapSt.of (hk : KeyOK kd ek) {L T : SH} {r clock : Nat} {es : Array MapEntry} {M : κ → Option υ} {n : Nat} (hs : Sub ((r, .map es clock) :: L) T) (h : MpI ek ew es M n) (k : κ) (v : υ) {K : SH → Prop}
    (hK : ∀ es' clock' T', MpI ek ew es' (fput M k v) (n + if (M k).isSome then 0 else 1) → Sub ((r, .map es' clock') :: L) T' → K T') : MapSt T (some r) kd (ek k) (ew v) K := by
  obtain ⟨es', clock', h1, h2⟩ := mapSet_ok (clock := clock) hk h k v
  obtain ⟨i, hi, hs'⟩ := hs.put (r, .map es' clock')
  exact ⟨r, i, es, clock, es', clock', rfl, hi, h1, hK es' clock' _ h2 hs'⟩
theorem MapDl.of (hk : KeyOK kd ek) {L T : SH} {r clock : Nat} {es : Array MapEntry} {M : κ → Option υ} {n : Nat} (hs : Sub ((r, .map es clock) :: L) T) (h : MpI ek ew es M n) (k : κ) {K : SH → Prop}
    (hK : ∀ es' T', MpI ek ew es' (fdel M k) (n - if (M k).isSome then 1 else 0) → Sub ((r, .map es' clock) :: L) T' → K T') : MapDl T (some r) kd (ek k) K := by
  obtain ⟨es', h1, h2⟩ := mapDel_ok hk h k
  obtain ⟨i, hi, hs'⟩ := hs.put (r, .map es' clock)
  exact ⟨i, es, clock, es', hi, h1, hK es' _ h2 hs'⟩
theorem MapLen.of {I : IMem} {L T : SH} {r clock : Nat} {es : Array MapEntry} {M : κ → Option υ} {n : Nat} (hs : Sub ((r, .map es clock) :: L) T) (h : MpI ek ew es M n) : MapLen I T (some r) n := ⟨es, clock, MpC.of_sub hs, h.size.symm⟩
end
theorem str_key : KeyOK .string Value.string := fun a b => by
  show some (a == b) = _
  congr 1
  by_cases h : a = b
  · rw [ba_beq.2 h, decide_eq_true h]
  · rw [decide_eq_false h]
    cases hb : (a == b)
    · rfl
    · exact absurd (ba_beq.1 hb) h
end Go.Px
