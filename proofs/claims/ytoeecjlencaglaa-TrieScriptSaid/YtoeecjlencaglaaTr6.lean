/- The trie as plain Lean, part 2: words that are taken away; how deep a tree is. -/
import Derived.Test.YtoeecjlencaglaaTr1
set_option linter.unusedVariables false
namespace Go.Proofs.Ytoeecjlencaglaa
open Go.Px

def Sh.fix (bits : List Bool) : Option Int → Sh → Sh → Sh
  | some x, l, r => .node bits (some x) l r
  | none, .nil, .nil => .nil
  | none, .node b2 w2 l2 r2, .nil => .node (bits ++ b2) w2 l2 r2
  | none, .nil, .node b2 w2 l2 r2 => .node (bits ++ b2) w2 l2 r2
  | none, .node b2 w2 l2 r2, .node b3 w3 l3 r3 => .node bits none (.node b2 w2 l2 r2) (.node b3 w3 l3 r3)
def Sh.del : Sh → List Bool → Sh
  | .nil, _ => .nil
  | .node bits w l r, k => match k.drop bits.length with
    | [] => Sh.fix bits none l r
    | b :: rest => bif b then Sh.fix bits w l (r.del (b :: rest)) else Sh.fix bits w (l.del (b :: rest)) r
theorem Sh.fix_find (bits : List Bool) (w : Option Int) (l r : Sh) (hl : l.starts false) (hr : r.starts true) (k : List Bool) : (Sh.fix bits w l r).find k = (Sh.node bits w l r).find k := by
  have one : ∀ (b2 : List Bool) (w2 : Option Int) (l2 r2 : Sh) (d : Bool), b2.head? = some d → (Sh.node (bits ++ b2) w2 l2 r2).find k = (Sh.sub bits none d (.node b2 w2 l2 r2) .nil).find k := by
    intro b2 w2 l2 r2 d hd
    rcases pre_cases bits k with h | ⟨rest, rfl⟩
    · rw [Sh.find_lt (lcp_lt_app h), Sh.sub_find_lt h]
    · rw [Sh.find_shift, Sh.sub_find]
      cases rest with
      | nil => exact Sh.starts_find (b := d) (t := .node b2 w2 l2 r2) hd (by simp)
      | cons c rest =>
        dsimp only
        by_cases hc : c = d
        · rw [if_pos hc]
        · rw [if_neg hc, Sh.starts_find (b := d) (t := .node b2 w2 l2 r2) hd (by simpa using hc)]; rfl
  cases w with
  | some x => rfl
  | none =>
    cases l with
    | nil =>
      cases r with
      | nil =>
        rcases pre_cases bits k with h | ⟨rest, rfl⟩
        · rw [Sh.find_lt h]; rfl
        · rw [Sh.find_app]
          cases rest with
          | nil => rfl
          | cons b rest => cases b <;> rfl
      | node b2 w2 l2 r2 => exact one b2 w2 l2 r2 true hr
    | node b2 w2 l2 r2 =>
      cases r with
      | nil => exact one b2 w2 l2 r2 false hl
      | node b3 w3 l3 r3 => rfl
theorem Sh.fix_wf (bits : List Bool) (w : Option Int) (l r : Sh) (hl : l.starts false) (hr : r.starts true) (h1 : l.wf) (h2 : r.wf) : (Sh.fix bits w l r).wf := by
  cases w with
  | some x => exact ⟨hl, hr, .inl rfl, h1, h2⟩
  | none =>
    cases l <;> cases r
    · trivial
    · exact h2
    · exact h1
    · exact ⟨hl, hr, .inr ⟨rfl, rfl⟩, h1, h2⟩
theorem Sh.fix_starts {bits : List Bool} {b : Bool} (hb : bits.head? = some b) (w : Option Int) (l r : Sh) : (Sh.fix bits w l r).starts b := by
  have : ∀ c : List Bool, (bits ++ c).head? = some b := fun c => by cases bits with | nil => cases hb | cons x bits => exact hb
  cases w with
  | some x => exact hb
  | none => cases l <;> cases r <;> first | trivial | exact this _ | exact hb
theorem Sh.fix_cnt (bits : List Bool) (w : Option Int) (l r : Sh) : (Sh.fix bits w l r).cnt = (Sh.node bits w l r).cnt := by
  cases w with
  | some x => rfl
  | none => cases l <;> cases r <;> simp [Sh.fix, Sh.cnt]
theorem Sh.del_starts {b : Bool} {t : Sh} (h : t.starts b) (k : List Bool) : (t.del k).starts b := by
  cases t with
  | nil => trivial
  | node bits w l r =>
    rw [Sh.del]
    split
    · exact Sh.fix_starts h _ _ _
    · rename_i c _ _; cases c <;> exact Sh.fix_starts h _ _ _
theorem Sh.del_wf : ∀ (t : Sh) (k : List Bool), t.wf → (t.del k).wf
  | .nil, _, _ => trivial
  | .node bits w l r, k, hw => by
    obtain ⟨h1, h2, _, h4, h5⟩ := hw
    rw [Sh.del]
    split
    · exact Sh.fix_wf _ _ _ _ h1 h2 h4 h5
    · rename_i c rest _
      cases c
      · exact Sh.fix_wf _ _ _ _ (Sh.del_starts h1 _) h2 (Sh.del_wf l _ h4) h5
      · exact Sh.fix_wf _ _ _ _ h1 (Sh.del_starts h2 _) h4 (Sh.del_wf r _ h5)
theorem Sh.del_find : ∀ (t : Sh) (k : List Bool), t.wf → t.find k ≠ none → ∀ k', (t.del k).find k' = if k' = k then none else t.find k'
  | .nil, _, _, h, _ => absurd rfl h
  | .node bits w l r, k, hw, hf, k' => by
    obtain ⟨h1, h2, _, h4, h5⟩ := hw
    rcases pre_cases bits k with h | ⟨rest, rfl⟩
    · rw [Sh.find_lt h] at hf; exact absurd rfl hf
    rw [Sh.find_app] at hf
    rw [Sh.del, List.drop_left]
    have hout : ∀ (w' : Option Int) (x y : Sh), lcp bits k' < bits.length → (Sh.node bits w' x y).find k' = if k' = bits ++ rest then none else (Sh.node bits w l r).find k' := fun w' x y h => by
      rw [Sh.find_lt h, Sh.find_lt h]; split <;> rfl
    cases rest with
    | nil =>
      dsimp only
      rw [Sh.fix_find _ _ _ _ h1 h2]
      rcases pre_cases bits k' with h | ⟨rest', rfl⟩
      · exact hout _ _ _ h
      · rw [Sh.find_app, Sh.find_app]
        simp only [List.append_cancel_left_eq]
        cases rest' with
        | nil => rfl
        | cons c rest' => rw [if_neg (List.cons_ne_nil _ _)]
    | cons c rest =>
      dsimp only at hf ⊢
      cases c with
      | false =>
        simp only [cond_false] at hf ⊢
        rw [Sh.fix_find _ _ _ _ (Sh.del_starts h1 _) h2]
        rcases pre_cases bits k' with h | ⟨rest', rfl⟩
        · exact hout _ _ _ h
        · rw [Sh.find_app, Sh.find_app]
          simp only [List.append_cancel_left_eq]
          cases rest' with
          | nil => rw [if_neg (fun h => by cases h)]
          | cons d rest' =>
            cases d
            · exact Sh.del_find l (false :: rest) h4 hf (false :: rest')
            · rw [if_neg (by simp)]; rfl
      | true =>
        simp only [cond_true] at hf ⊢
        rw [Sh.fix_find _ _ _ _ h1 (Sh.del_starts h2 _)]
        rcases pre_cases bits k' with h | ⟨rest', rfl⟩
        · exact hout _ _ _ h
        · rw [Sh.find_app, Sh.find_app]
          simp only [List.append_cancel_left_eq]
          cases rest' with
          | nil => rw [if_neg (fun h => by cases h)]
          | cons d rest' =>
            cases d
            · rw [if_neg (by simp)]; rfl
            · exact Sh.del_find r (true :: rest) h5 hf (true :: rest')
theorem Sh.del_cnt : ∀ (t : Sh) (k : List Bool), t.find k ≠ none → (t.del k).cnt + 1 = t.cnt
  | .nil, _, h => absurd rfl h
  | .node bits w l r, k, hf => by
    rcases pre_cases bits k with h | ⟨rest, rfl⟩
    · rw [Sh.find_lt h] at hf; exact absurd rfl hf
    rw [Sh.find_app] at hf
    rw [Sh.del, List.drop_left]
    cases rest with
    | nil =>
      dsimp only at hf ⊢
      rw [Sh.fix_cnt]
      cases w with
      | none => exact absurd rfl hf
      | some x => simp [Sh.cnt]; omega
    | cons c rest =>
      cases c <;> dsimp only [cond_true, cond_false] at hf ⊢ <;> rw [Sh.fix_cnt]
      · have := Sh.del_cnt l _ hf; simp only [Sh.cnt]; omega
      · have := Sh.del_cnt r _ hf; simp only [Sh.cnt]; omega
def Sh.len : Sh → Nat
  | .nil => 0
  | .node bits _ l r => bits.length + max l.len r.len
theorem Sh.fix_len (bits : List Bool) (w : Option Int) (l r : Sh) : (Sh.fix bits w l r).len ≤ (Sh.node bits w l r).len := by
  cases w with
  | some x => exact Nat.le_refl _
  | none => cases l <;> cases r <;> simp [Sh.fix, Sh.len] <;> omega
theorem Sh.del_len : ∀ (t : Sh) (k : List Bool), (t.del k).len ≤ t.len
  | .nil, _ => Nat.le_refl _
  | .node bits w l r, k => by
    rw [Sh.del]
    split
    · exact Sh.fix_len _ _ _ _
    · rename_i c rest _
      have e1 := Sh.del_len l (c :: rest)
      have e2 := Sh.del_len r (c :: rest)
      cases c
      · refine Nat.le_trans (Sh.fix_len _ _ _ _) ?_
        simp only [Sh.len]; omega
      · refine Nat.le_trans (Sh.fix_len _ _ _ _) ?_
        simp only [Sh.len]; omega
theorem Sh.put_len : ∀ (t : Sh) (k : List Bool) (v : Int), (t.put k v).len ≤ max t.len k.length
  | .nil, k, v => by simp [Sh.put, Sh.len]
  | .node bits w l r, k, v => by
    rw [Sh.put]
    have hle := lcp_le bits k
    split
    · rename_i hlt
      rw [List.getElem?_eq_getElem hlt]
      have h1 : (bits.drop (lcp bits k)).length = bits.length - lcp bits k := List.length_drop
      have h3 : (bits.take (lcp bits k)).length = lcp bits k := by rw [List.length_take]; omega
      cases hk : k.drop (lcp bits k) with
      | nil => cases bits[lcp bits k] <;> simp only [Sh.sub, cond_true, cond_false, Sh.len, h1, h3] <;> omega
      | cons c ks =>
        have h2 : (c :: ks).length = k.length - lcp bits k := by rw [← hk, List.length_drop]
        cases bits[lcp bits k] <;> simp only [Sh.sub, cond_true, cond_false, Sh.len, h1, h2, h3] <;> omega
    · rename_i hge
      have hkk := lcp_full hge
      generalize k.drop bits.length = rest at *
      subst hkk
      split
      · simp only [Sh.len]; omega
      · rename_i c rest
        have e1 := Sh.put_len l (c :: rest) v
        have e2 := Sh.put_len r (c :: rest) v
        rw [List.length_append]
        cases c <;> simp only [cond_true, cond_false, Sh.len] <;> omega
end Go.Proofs.Ytoeecjlencaglaa
