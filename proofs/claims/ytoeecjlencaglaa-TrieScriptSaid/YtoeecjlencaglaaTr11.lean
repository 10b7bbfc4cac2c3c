/- Two trees that find the same are the same; TrieOrder and TrieGone. -/
import Derived.Test.YtoeecjlencaglaaTr8
import Derived.Test.YtoeecjlencaglaaPx9
set_option linter.unusedVariables false
namespace Go.Proofs.Ytoeecjlencaglaa
open Go.Px

theorem Sh.some_key : ∀ t : Sh, t.wf → t.isNil = false → ∃ k, t.find k ≠ none
  | .nil, _, h => by cases h
  | .node bits w l r, hw, _ => by
    obtain ⟨h1, h2, h3, h4, h5⟩ := hw
    cases w with
    | some x => exact ⟨bits ++ [], by rw [Sh.find_app]; exact fun h => by cases h⟩
    | none =>
      rcases h3 with h | ⟨h, _⟩
      · cases h
      · obtain ⟨k, hk⟩ := Sh.some_key l h4 h
        have hh : k.head? = some false := by
          rcases Classical.em (k.head? = some false) with g | g
          · exact g
          · exact absurd (Sh.starts_find h1 g) hk
        cases k with
        | nil => cases hh
        | cons c k =>
          injection hh with hh; subst hh
          exact ⟨bits ++ false :: k, by rw [Sh.find_app]; exact hk⟩
theorem Sh.nil_of {t : Sh} (hw : t.wf) (h : ∀ k, t.find k = none) : t = .nil := by
  cases ht : t.isNil with
  | false => obtain ⟨k, hk⟩ := Sh.some_key t hw ht; exact absurd (h k) hk
  | true => cases t with
    | nil => rfl
    | node => cases ht
theorem Sh.find_pre {bits : List Bool} {w : Option Int} {l r : Sh} {k : List Bool} (h : (Sh.node bits w l r).find k ≠ none) : ∃ rest, k = bits ++ rest := by
  rcases pre_cases bits k with g | g
  · exact absurd (Sh.find_lt g) h
  · exact g
/-- a word with which all words of a tree begin, its root's bits begin with -/
theorem Sh.pre_root {p bits : List Bool} {w : Option Int} {l r : Sh} (hw : (Sh.node bits w l r).wf) (h : ∀ k, (Sh.node bits w l r).find k ≠ none → ∃ rest, k = p ++ rest) : ∃ rest, bits = p ++ rest := by
  obtain ⟨h1, h2, h3, h4, h5⟩ := hw
  cases w with
  | some x =>
    obtain ⟨rest, hr⟩ := h (bits ++ []) (by rw [Sh.find_app]; exact fun h => by cases h)
    rw [List.append_nil] at hr; exact ⟨rest, hr⟩
  | none =>
    rcases h3 with g | ⟨g1, g2⟩
    · cases g
    · have kid : ∀ (u : Sh) (d : Bool), u.wf → u.isNil = false → u.starts d → (∀ k, (Sh.node bits none l r).find (bits ++ d :: k) = u.find (d :: k)) → ∃ k rest, bits ++ d :: k = p ++ rest := by
        intro u d hu hn hs hf
        obtain ⟨k, hk⟩ := Sh.some_key u hu hn
        have hh : k.head? = some d := by
          rcases Classical.em (k.head? = some d) with g | g
          · exact g
          · exact absurd (Sh.starts_find hs g) hk
        cases k with
        | nil => cases hh
        | cons c k =>
          injection hh with hh; subst hh
          obtain ⟨rest, hr⟩ := h (bits ++ c :: k) (by rw [hf]; exact hk)
          exact ⟨k, rest, hr⟩
      obtain ⟨k0, r0, e0⟩ := kid l false h4 g1 h1 (fun k => by rw [Sh.find_app]; rfl)
      obtain ⟨k1, r1, e1⟩ := kid r true h5 g2 h2 (fun k => by rw [Sh.find_app]; rfl)
      rcases List.append_eq_append_iff.1 e0 with ⟨a, ha, hb⟩ | ⟨a, ha, hb⟩
      · cases a with
        | nil => exact ⟨[], by rw [ha]; simp⟩
        | cons c a =>
          injection hb with hc _
          subst hc
          rw [ha] at e1
          rw [List.append_assoc, List.append_cancel_left_eq] at e1
          injection e1 with e _
          cases e
      · exact ⟨a, ha⟩
theorem Sh.unique : ∀ (t u : Sh), t.wf → u.wf → (∀ k, t.find k = u.find k) → t = u
  | .nil, u, _, hu, h => (Sh.nil_of hu (fun k => (h k).symm)).symm
  | .node bits w l r, u, ht, hu, h => by
    cases u with
    | nil => exact Sh.nil_of ht h
    | node bits' w' l' r' =>
      obtain ⟨a, ha⟩ := Sh.pre_root (p := bits) hu (fun k hk => Sh.find_pre (by rw [h]; exact hk))
      obtain ⟨b, hb⟩ := Sh.pre_root (p := bits') ht (fun k hk => Sh.find_pre (by rw [← h]; exact hk))
      have hab : bits' = bits := by
        have h1 := congrArg List.length ha
        have h2 := congrArg List.length hb
        rw [List.length_append] at h1 h2
        have : a = [] := List.length_eq_zero_iff.1 (by omega)
        rw [ha, this, List.append_nil]
      subst hab
      obtain ⟨h1, h2, _, h4, h5⟩ := ht
      obtain ⟨g1, g2, _, g4, g5⟩ := hu
      have hw : w = w' := by have := h (bits' ++ []); rw [Sh.find_app, Sh.find_app] at this; exact this
      have hl : l = l' := Sh.unique l l' h4 g4 (fun k => by
        rcases Classical.em (k.head? = some false) with g | g
        · cases k with
          | nil => cases g
          | cons c k => injection g with g; subst g; have := h (bits' ++ false :: k); rw [Sh.find_app, Sh.find_app] at this; exact this
        · rw [Sh.starts_find h1 g, Sh.starts_find g1 g])
      have hr : r = r' := Sh.unique r r' h5 g5 (fun k => by
        rcases Classical.em (k.head? = some true) with g | g
        · cases k with
          | nil => cases g
          | cons c k => injection g with g; subst g; have := h (bits' ++ true :: k); rw [Sh.find_app, Sh.find_app] at this; exact this
        · rw [Sh.starts_find h2 g, Sh.starts_find g2 g])
      rw [hw, hl, hr]

theorem snocInd {α : Type} {motive : List α → Prop} (nil : motive []) (append_singleton : ∀ (l : List α) (k : α), motive l → motive (l ++ [k])) (l : List α) : motive l := by
  have : ∀ l : List α, motive l.reverse := by
    intro l
    induction l with
    | nil => exact nil
    | cons a l ih => rw [List.reverse_cons]; exact append_singleton _ _ ih
  simpa using this l.reverse
/-- a tree of words, each with its number, later ones ahead -/
def putAll (l : List (List Bool × Int)) : Sh := l.foldl (fun t k => t.put k.1 k.2) .nil
theorem putAll_snoc (l : List (List Bool × Int)) (k : List Bool × Int) : putAll (l ++ [k]) = (putAll l).put k.1 k.2 := by simp [putAll]
theorem putAll_ok (l : List (List Bool × Int)) : (putAll l).wf ∧ (putAll l).cnt ≤ l.length ∧ ∀ B, (∀ k ∈ l, k.1.length ≤ B) → (putAll l).len ≤ B := by
  unfold putAll
  have : ∀ (l : List (List Bool × Int)) (t : Sh), t.wf → (l.foldl (fun t k => t.put k.1 k.2) t).wf ∧ (l.foldl (fun t k => t.put k.1 k.2) t).cnt ≤ t.cnt + l.length ∧ ∀ B, t.len ≤ B → (∀ k ∈ l, k.1.length ≤ B) → (l.foldl (fun t k => t.put k.1 k.2) t).len ≤ B := by
    intro l
    induction l with
    | nil => intro t h; exact ⟨h, Nat.le_refl _, fun B h _ => h⟩
    | cons k l ih =>
      intro t h
      obtain ⟨h1, h2, h3⟩ := ih (t.put k.1 k.2) (Sh.put_wf t k.1 k.2 h)
      have hc := Sh.put_cnt t k.1 k.2 h
      have hl := Sh.put_len t k.1 k.2
      refine ⟨h1, ?_, fun B hB hk => h3 B ?_ (fun k' hk' => hk k' (List.mem_cons_of_mem _ hk'))⟩
      · simp only [List.foldl_cons, List.length_cons]
        split at hc <;> omega
      · have := hk k (List.mem_cons_self ..)
        omega
  obtain ⟨h1, h2, h3⟩ := this l .nil trivial
  exact ⟨h1, by simpa [Sh.cnt] using h2, fun B hk => h3 B (Nat.zero_le _) hk⟩
theorem putAll_find (l : List (List Bool × Int)) (w : List Bool) : (putAll l).find w ≠ none ↔ ∃ v, (w, v) ∈ l := by
  induction l using snocInd with
  | nil => exact ⟨fun h => absurd rfl h, fun ⟨v, h⟩ => by simp at h⟩
  | append_singleton l k ih =>
    rw [putAll_snoc, Sh.put_find _ _ _ _ (putAll_ok l).1]
    by_cases hw : w = k.1
    · rw [if_pos hw]
      exact ⟨fun _ => ⟨k.2, by rw [hw]; simp⟩, fun _ h => by cases h⟩
    · rw [if_neg hw, ih]
      constructor
      · rintro ⟨v, h⟩; exact ⟨v, List.mem_append_left _ h⟩
      · rintro ⟨v, h⟩
        rcases List.mem_append.1 h with h | h
        · exact ⟨v, h⟩
        · simp at h; exact absurd (by rw [← h]) hw
theorem putAll_seven {l : List (List Bool × Int)} (hl : ∀ k ∈ l, k.2 = 7) (w : List Bool) : (putAll l).find w = none ∨ (putAll l).find w = some 7 := by
  induction l using snocInd with
  | nil => exact .inl rfl
  | append_singleton l k ih =>
    rw [putAll_snoc, Sh.put_find _ _ _ _ (putAll_ok l).1]
    split
    · exact .inr (by rw [hl k (by simp)])
    · exact ih (fun k hk => hl k (List.mem_append_left _ hk))
theorem putAll_perm {l l' : List (List Bool × Int)} (hl : ∀ k ∈ l, k.2 = 7) (hp : ∀ k, k ∈ l ↔ k ∈ l') : putAll l = putAll l' := by
  refine Sh.unique _ _ (putAll_ok l).1 (putAll_ok l').1 (fun k => ?_)
  have h1 := putAll_find l k
  have h2 := putAll_find l' k
  have hiff : (∃ v, (k, v) ∈ l) ↔ ∃ v, (k, v) ∈ l' := ⟨fun ⟨v, h⟩ => ⟨v, (hp _).1 h⟩, fun ⟨v, h⟩ => ⟨v, (hp _).2 h⟩⟩
  rcases putAll_seven hl k with e | e <;> rcases putAll_seven (l := l') (fun k hk => hl k ((hp k).2 hk)) k with e' | e'
  · rw [e, e']
  · exact absurd e ((h1.trans hiff).2 (h2.1 (by rw [e']; exact fun h => by cases h)))
  · exact absurd e' (h2.2 (hiff.1 (h1.1 (by rw [e]; exact fun h => by cases h))))
  · rw [e, e']
abbrev A16 := Int × Int × Int × Int
def e16 (x : A16) : List Value := [.int .u8 x.1, .int .u16 x.2.1, .int .u8 x.2.2.1, .int .i64 x.2.2.2]
def ok16 (x : A16) : Prop := (Lit.int .u8 x.1).wf = true ∧ (Lit.int .u16 x.2.1).wf = true ∧ (Lit.int .u8 x.2.2.1).wf = true ∧ (Lit.int .i64 x.2.2.2).wf = true
def key16 (x : A16) : List Bool := keyL x.2.1.toNat x.2.2.1.toNat
theorem key16_len (x : A16) : (key16 x).length ≤ 13 := keyL_len _ _
theorem Key16 {x : A16} (h : ok16 x) (I : IMem) (S : SH) : Runs Try.prog 27 #[.int .u16 x.2.1, .int .u8 x.2.2.1] I S fun v J T => v = .string (eb (key16 x)) ∧ J = I ∧ T = S := by
  obtain ⟨_, h1, h2, _⟩ := h
  have b1 : 0 ≤ x.2.1 ∧ x.2.1 ≤ 65535 := by simpa [Lit.wf, IntKind.min, IntKind.max, IntKind.signed, IntKind.bits] using h1
  have b2 : 0 ≤ x.2.2.1 ∧ x.2.2.1 ≤ 255 := by simpa [Lit.wf, IntKind.min, IntKind.max, IntKind.signed, IntKind.bits] using h2
  have := Key16_runs x.2.1.toNat x.2.2.1.toNat (by omega) (by omega) I S
  rwa [Int.toNat_of_nonneg b1.1, Int.toNat_of_nonneg b2.1] at this
theorem Key16' {x : A16} (h : ok16 x) (I : IMem) (S : SH) : Runs Try.prog 27 #[.int .u16 x.2.1, .int .u8 13] I S fun v J T => v = .string (eb (keyL x.2.1.toNat 13)) ∧ J = I ∧ T = S := by
  obtain ⟨_, h1, h2, _⟩ := h
  have b1 : 0 ≤ x.2.1 ∧ x.2.1 ≤ 65535 := by simpa [Lit.wf, IntKind.min, IntKind.max, IntKind.signed, IntKind.bits] using h1
  have := Key16_runs x.2.1.toNat 13 (by omega) (by omega) I S
  rwa [Int.toNat_of_nonneg b1.1] at this
end Go.Proofs.Ytoeecjlencaglaa
