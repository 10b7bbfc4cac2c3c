/- The trie as plain Lean: words of two signs, trees of them. -/
import Derived.Test.YtoeecjlencaglaaPx7
set_option linter.unusedVariables false
namespace Go.Proofs.Ytoeecjlencaglaa
open Go.Px

/-! ### words and their bytes -/
theorem dget (s : ByteArray) (k : Nat) : s.data.toList[k]? = s[k]? := by
  by_cases h : k < s.size
  · rw [getElem?_pos s k h, List.getElem?_eq_getElem (by simpa using h)]; rfl
  · rw [getElem?_neg s k h, List.getElem?_eq_none (by simpa using h)]
def sg (b : Bool) : UInt8 := bif b then 49 else 48
def eb (l : List Bool) : ByteArray := ⟨(l.map sg).toArray⟩
theorem eb_size (l : List Bool) : (eb l).size = l.length := by show (l.map sg).toArray.size = _; simp
theorem eb_get (l : List Bool) (i : Nat) : (eb l)[i]? = (l[i]?).map sg := by
  by_cases h : i < l.length
  · rw [getElem?_pos (eb l) i (by rw [eb_size]; exact h), List.getElem?_eq_getElem h]
    have : (l.map sg).toArray[i]'(by simpa using h) = sg l[i] := by simp
    exact congrArg some this
  · rw [getElem?_neg (eb l) i (by rw [eb_size]; exact h), List.getElem?_eq_none (by omega)]; rfl
theorem eb_inj {a b : List Bool} (h : eb a = eb b) : a = b := by
  have h1 : (a.map sg) = (b.map sg) := by
    have := congrArg (fun x : ByteArray => x.data.toList) h
    simpa [eb] using this
  exact (List.map_inj_right (by intro x y; cases x <;> cases y <;> simp [sg])).1 h1
theorem eb_extract (l : List Bool) (i j : Nat) : (eb l).extract i j = eb ((l.take j).drop i) := by
  apply ByteArray.ext
  show (eb l |>.extract i j).data = _
  rw [ByteArray.data_extract]
  simp [eb, List.extract_eq_take_drop, List.map_take, List.map_drop, List.drop_take]
theorem eb_append (a b : List Bool) : eb a ++ eb b = eb (a ++ b) := by
  apply ByteArray.ext
  rw [ByteArray.data_append]
  simp [eb]
theorem eb_nil : (⟨#[]⟩ : ByteArray) = eb [] := rfl
def signs (s : ByteArray) : Prop := ∀ (i : Nat) (c : UInt8), s[i]? = some c → c = 48 ∨ c = 49
theorem eb_signs (l : List Bool) : signs (eb l) := by
  intro i c h
  rw [eb_get] at h
  cases hl : l[i]? with
  | none => rw [hl] at h; cases h
  | some b => rw [hl] at h; injection h with h; subst h; cases b <;> simp [sg]
theorem signs_eb {s : ByteArray} (h : signs s) : ∃ l, s = eb l := by
  refine ⟨s.data.toList.map fun c => c == 49, ?_⟩
  apply ByteArray.ext
  show s.data = (List.map sg (List.map (fun c => c == 49) s.data.toList)).toArray
  rw [List.map_map]
  apply Array.ext'
  rw [List.toList_toArray]
  refine (List.map_id _).symm.trans (List.map_congr_left fun c hc => ?_)
  obtain ⟨i, hi, he⟩ := List.mem_iff_getElem.1 hc
  have hg : s[i]? = some c := by rw [← dget, List.getElem?_eq_getElem hi, he]
  rcases h i c hg with h | h <;> subst h <;> decide

/-! ### what two words have alike -/
def lcp : List Bool → List Bool → Nat
  | a :: as, b :: bs => if a = b then lcp as bs + 1 else 0
  | _, _ => 0
theorem lcp_nil (a : List Bool) : lcp a [] = 0 := by cases a <;> rfl
theorem lcp_le : ∀ a b : List Bool, lcp a b ≤ a.length ∧ lcp a b ≤ b.length
  | [], b => by simp [lcp]
  | a :: as, [] => by simp [lcp]
  | a :: as, b :: bs => by
    have := lcp_le as bs
    simp only [lcp, List.length_cons]; split <;> omega
theorem lcp_take : ∀ a b : List Bool, a.take (lcp a b) = b.take (lcp a b)
  | [], b => by simp [lcp]
  | a :: as, [] => by simp [lcp]
  | a :: as, b :: bs => by
    have := lcp_take as bs
    simp only [lcp]; split
    · rename_i h; subst h; simp [this]
    · simp
theorem lcp_ne : ∀ (a b : List Bool) (x y : Bool), a[lcp a b]? = some x → b[lcp a b]? = some y → x ≠ y
  | [], b, x, y, h, _ => by simp at h
  | a :: as, [], x, y, _, h => by simp at h
  | a :: as, b :: bs, x, y, h, g => by
    simp only [lcp] at h g
    split at h
    · rename_i e
      rw [if_pos e] at g
      exact lcp_ne as bs x y (by simpa using h) (by simpa using g)
    · rename_i e
      rw [if_neg e] at g
      simp at h g
      subst h; subst g; exact e
theorem lcp_full {a b : List Bool} (h : ¬ lcp a b < a.length) : b = a ++ b.drop a.length := by
  have h1 := (lcp_le a b).1
  have : lcp a b = a.length := by omega
  have h2 := lcp_take a b
  rw [this, List.take_length] at h2
  have h3 := List.take_append_drop a.length b
  rw [← h2] at h3; exact h3.symm
theorem lcp_append (a r : List Bool) : lcp a (a ++ r) = a.length := by
  induction a with
  | nil => simp [lcp]
  | cons x a ih => simp [lcp, ih]
theorem lcp_unique {a b : List Bool} {k : Nat} (ha : k ≤ a.length) (hb : k ≤ b.length) (ht : a.take k = b.take k) (hn : ∀ x y, a[k]? = some x → b[k]? = some y → x ≠ y) : lcp a b = k := by
  induction a generalizing b k with
  | nil => simp at ha; subst ha; rfl
  | cons x a ih =>
    cases b with
    | nil => simp at hb; subst hb; rfl
    | cons y b =>
      cases k with
      | zero => have := hn x y rfl rfl; simp [lcp, this]
      | succ k =>
        simp at ht ha hb
        simp only [lcp, if_pos ht.1]
        rw [ih ha hb ht.2 (fun x y h1 h2 => hn x y (by simpa using h1) (by simpa using h2))]

/-! ### trees -/
inductive Sh where
  | nil : Sh
  | node : List Bool → Option Int → Sh → Sh → Sh
def Sh.find : Sh → List Bool → Option Int
  | .nil, _ => none
  | .node bits v l r, k => if lcp bits k < bits.length then none else match k.drop bits.length with
    | [] => v
    | b :: rest => bif b then r.find (b :: rest) else l.find (b :: rest)
def Sh.nodes : Sh → Nat
  | .nil => 0
  | .node _ _ l r => 1 + l.nodes + r.nodes
def Sh.cnt : Sh → Nat
  | .nil => 0
  | .node _ v l r => (if v.isSome then 1 else 0) + l.cnt + r.cnt
def Sh.isNil : Sh → Bool
  | .nil => true
  | _ => false
def Sh.starts (b : Bool) : Sh → Prop
  | .nil => True
  | .node bits _ _ _ => bits.head? = some b
def Sh.wf : Sh → Prop
  | .nil => True
  | .node _ v l r => l.starts false ∧ r.starts true ∧ (v.isSome = true ∨ (l.isNil = false ∧ r.isNil = false)) ∧ l.wf ∧ r.wf
def Sh.sub (bits : List Bool) (v : Option Int) (b : Bool) (t u : Sh) : Sh := bif b then .node bits v u t else .node bits v t u
def Sh.put : Sh → List Bool → Int → Sh
  | .nil, k, v => .node k (some v) .nil .nil
  | .node bits w l r, k, v =>
    if lcp bits k < bits.length then
      (let n := Sh.node (bits.drop (lcp bits k)) w l r
       let part : Bool → Option Int → Sh → Sh := fun b x u => Sh.sub (bits.take (lcp bits k)) x b n u
       match bits[lcp bits k]?, k.drop (lcp bits k) with
       | some b, [] => part b (some v) .nil
       | some b, c :: rest => part b none (.node (c :: rest) (some v) .nil .nil)
       | none, _ => .nil)
    else match k.drop bits.length with
      | [] => .node bits (some v) l r
      | b :: rest => bif b then .node bits w l (r.put (b :: rest) v) else .node bits w (l.put (b :: rest) v) r
theorem Sh.find_lt {bits : List Bool} {v : Option Int} {l r : Sh} {k : List Bool} (h : lcp bits k < bits.length) : (Sh.node bits v l r).find k = none := by simp [Sh.find, h]
theorem Sh.find_app {bits : List Bool} {v : Option Int} {l r : Sh} (k : List Bool) : (Sh.node bits v l r).find (bits ++ k) = match k with
    | [] => v
    | b :: rest => bif b then r.find (b :: rest) else l.find (b :: rest) := by
  simp only [Sh.find, lcp_append, Nat.lt_irrefl, if_false, List.drop_left']
theorem Sh.starts_find {b : Bool} {t : Sh} (h : t.starts b) {k : List Bool} (hk : k.head? ≠ some b) : t.find k = none := by
  cases t with
  | nil => rfl
  | node bits v l r =>
    cases bits with
    | nil => cases h
    | cons x bits =>
      simp [Sh.starts] at h; subst h
      refine Sh.find_lt ?_
      cases k with
      | nil => simp [lcp]
      | cons y k => simp at hk; simp only [lcp, if_neg (fun e : x = y => hk e.symm)]; simp
theorem Sh.find_long {t : Sh} {k : List Bool} {v : Int} (h : t.find k = some v) : t.isNil = false := by cases t <;> first | rfl | cases h

/-- a word is what a node's bits begin, or it parts from them -/
theorem pre_cases (bits k : List Bool) : lcp bits k < bits.length ∨ ∃ rest, k = bits ++ rest := by
  by_cases h : lcp bits k < bits.length
  · exact .inl h
  · exact .inr ⟨_, lcp_full h⟩

theorem lcp_shift (p a b : List Bool) : lcp (p ++ a) (p ++ b) = p.length + lcp a b := by
  induction p with
  | nil => simp
  | cons x p ih => simp [lcp, ih]; omega
theorem Sh.find_shift (p q : List Bool) (w : Option Int) (l r : Sh) (k : List Bool) : (Sh.node (p ++ q) w l r).find (p ++ k) = (Sh.node q w l r).find k := by
  simp only [Sh.find, lcp_shift, List.length_append]
  rw [show (p ++ k).drop (p.length + q.length) = k.drop q.length by rw [List.drop_append, List.drop_eq_nil_of_le (by omega)]; simp]
  by_cases h : lcp q k < q.length
  · rw [if_pos h, if_pos (by omega)]
  · rw [if_neg h, if_neg (by omega)]
/-- a node cut in two -/
theorem Sh.sub_find (p : List Bool) (b : Bool) (x : Option Int) (n u : Sh) (rest : List Bool) :
    (Sh.sub p x b n u).find (p ++ rest) = match rest with | [] => x | c :: rest' => if c = b then n.find (c :: rest') else u.find (c :: rest') := by
  cases b <;> simp only [Sh.sub, cond_true, cond_false, Sh.find_app] <;> cases rest with
  | nil => rfl
  | cons c rest => cases c <;> rfl
theorem Sh.sub_find_lt {p : List Bool} {b : Bool} {x : Option Int} {n u : Sh} {k : List Bool} (h : lcp p k < p.length) : (Sh.sub p x b n u).find k = none := by
  cases b <;> exact Sh.find_lt h
theorem Sh.find_cut {b : Bool} {e : List Bool} {w : Option Int} {l r : Sh} {k : List Bool} (h : k.head? ≠ some b) : (Sh.node (b :: e) w l r).find k = none := by
  refine Sh.find_lt ?_
  cases k with
  | nil => simp [lcp]
  | cons y k => simp at h; simp only [lcp, if_neg (fun e : b = y => h e.symm)]; simp
theorem lcp_lt_app {p q k : List Bool} (h : lcp p k < p.length) : lcp (p ++ q) k < (p ++ q).length := by
  rcases pre_cases (p ++ q) k with g | ⟨r', rfl⟩
  · exact g
  · rw [List.append_assoc, lcp_append] at h; omega

theorem Sh.put_nil_find (k : List Bool) (v : Int) (k' : List Bool) : (Sh.nil.put k v).find k' = if k' = k then some v else none := by
  simp only [Sh.put]
  rcases pre_cases k k' with h | ⟨rest, rfl⟩
  · rw [Sh.find_lt h, if_neg]
    rintro rfl
    have := lcp_append k' []; simp at this; omega
  · rw [Sh.find_app]
    cases rest with
    | nil => simp
    | cons b rest => rw [if_neg (by simp)]; cases b <;> rfl
theorem Sh.put_find : ∀ (t : Sh) (k : List Bool) (v : Int) (k' : List Bool), t.wf → (t.put k v).find k' = if k' = k then some v else t.find k'
  | .nil, k, v, k', _ => Sh.put_nil_find k v k'
  | .node bits w l r, k, v, k', hw => by
    obtain ⟨h1, h2, _, h4, h5⟩ := hw
    rw [Sh.put]
    split
    · rename_i hlt
      obtain ⟨b, hb⟩ : ∃ b, bits[lcp bits k]? = some b := ⟨_, List.getElem?_eq_getElem hlt⟩
      obtain ⟨e, hbe⟩ : ∃ e, bits.drop (lcp bits k) = b :: e := by
        have h := List.drop_eq_getElem_cons hlt
        rw [List.getElem?_eq_getElem hlt] at hb
        injection hb with hb
        exact ⟨_, hb ▸ h⟩
      have hn := lcp_ne bits k b
      have hk := lcp_take bits k
      have hbits : bits = bits.take (lcp bits k) ++ b :: e := by rw [← hbe, List.take_append_drop]
      have hkk : k = bits.take (lcp bits k) ++ k.drop (lcp bits k) := by rw [hk, List.take_append_drop]
      have hn' : ∀ c rest, k.drop (lcp bits k) = c :: rest → c ≠ b := fun c rest h e => hn c hb (by rw [← List.head?_drop, h]; rfl) e.symm
      rw [hb, hbe]
      generalize k.drop (lcp bits k) = ks at *
      generalize bits.take (lcp bits k) = p at *
      subst hkk
      have hold : ∀ rest, (Sh.node bits w l r).find (p ++ rest) = (Sh.node (b :: e) w l r).find rest := fun rest => by rw [hbits, Sh.find_shift]
      have hout : lcp p k' < p.length → ∀ (x : Option Int) (u : Sh), (Sh.sub p x b (.node (b :: e) w l r) u).find k' = if k' = p ++ ks then some v else (Sh.node bits w l r).find k' := by
        intro h x u
        rw [Sh.sub_find_lt h, hbits, Sh.find_lt (lcp_lt_app h), if_neg]
        rintro rfl
        rw [lcp_append] at h; omega
      rcases pre_cases p k' with h | ⟨rest, rfl⟩
      · cases ks <;> exact hout h _ _
      · rw [hold]
        cases ks with
        | nil =>
          dsimp only
          rw [Sh.sub_find]
          simp only [List.append_cancel_left_eq]
          cases rest with
          | nil => rfl
          | cons c rest =>
            dsimp only
            rw [if_neg (List.cons_ne_nil c rest)]
            by_cases hc : c = b
            · rw [if_pos hc]
            · rw [if_neg hc, Sh.find_cut (k := c :: rest) (by simpa using hc)]; rfl
        | cons c ks =>
          have hcb := hn' c ks rfl
          dsimp only
          rw [Sh.sub_find]
          simp only [List.append_cancel_left_eq]
          cases rest with
          | nil => rw [if_neg (by simp), Sh.find_cut (by simp)]
          | cons d rest =>
            dsimp only
            by_cases hd : d = b
            · rw [if_pos hd, if_neg (by subst hd; simp; intro h; exact absurd h.symm hcb)]
            · rw [if_neg hd, Sh.find_cut (b := b) (e := e) (k := d :: rest) (by simpa using hd)]
              exact Sh.put_nil_find (c :: ks) v (d :: rest)
    · rename_i hge
      have hk := lcp_full hge
      generalize k.drop bits.length = rest at *
      subst hk
      have hother : ∀ (x y : Sh) (u : Option Int), lcp bits k' < bits.length → (Sh.node bits u x y).find k' = if k' = bits ++ rest then some v else (Sh.node bits w l r).find k' := by
        intro x y u h
        rw [Sh.find_lt h, Sh.find_lt h, if_neg]
        rintro rfl
        rw [lcp_append] at h; omega
      cases rest with
      | nil =>
        dsimp only
        rcases pre_cases bits k' with h | ⟨rest', rfl⟩
        · exact hother _ _ _ h
        · rw [Sh.find_app, Sh.find_app]
          cases rest' with
          | nil => simp
          | cons c rest' => simp
      | cons b rest =>
        dsimp only
        rcases pre_cases bits k' with h | ⟨rest', rfl⟩
        · cases b <;> exact hother _ _ _ h
        · cases b <;> simp only [cond_true, cond_false] <;> rw [Sh.find_app, Sh.find_app] <;> cases rest' with
          | nil => simp
          | cons c rest' =>
            simp only [List.append_cancel_left_eq]
            cases c <;> simp only [cond_true, cond_false, Sh.put_find _ _ _ _ h4, Sh.put_find _ _ _ _ h5] <;> first | rfl | (rw [if_neg (by simp)])
theorem Sh.put_starts {b : Bool} {t : Sh} {k : List Bool} {v : Int} (ht : t.starts b) (hk : k.head? = some b) : (t.put k v).starts b := by
  cases t with
  | nil => exact hk
  | node bits w l r =>
    cases bits with
    | nil => cases ht
    | cons x bits =>
      simp [Sh.starts] at ht; subst ht
      cases k with
      | nil => cases hk
      | cons y k =>
        simp at hk; subst hk
        rw [Sh.put]
        split
        · simp only [lcp, if_true, List.take_succ_cons, List.drop_succ_cons, List.getElem?_cons_succ]
          split
          · rename_i b' _ _; cases b' <;> rfl
          · rename_i b' _ _ _ _; cases b' <;> rfl
          · trivial
        · split
          · rfl
          · rename_i b' _ _; cases b' <;> rfl
theorem Sh.put_nonnil {t : Sh} {k : List Bool} {v : Int} : (t.put k v).isNil = false := by
  cases t with
  | nil => rfl
  | node bits w l r =>
    rw [Sh.put]
    split
    · rename_i h
      rw [List.getElem?_eq_getElem h]
      split
      · rename_i b' _ _; cases b' <;> rfl
      · rename_i b' _ _ _ _; cases b' <;> rfl
      · rename_i h; cases h
    · split
      · rfl
      · rename_i b' _ _; cases b' <;> rfl
theorem Sh.sub_wf {p : List Bool} {x : Option Int} {b : Bool} {n u : Sh} (hn : n.starts b) (hu : u.starts (!b)) (h : x.isSome = true ∨ (n.isNil = false ∧ u.isNil = false)) (h1 : n.wf) (h2 : u.wf) : (Sh.sub p x b n u).wf := by
  cases b
  · exact ⟨hn, hu, h, h1, h2⟩
  · exact ⟨hu, hn, h.imp id And.symm, h2, h1⟩
theorem Sh.put_wf : ∀ (t : Sh) (k : List Bool) (v : Int), t.wf → (t.put k v).wf
  | .nil, k, v, _ => ⟨trivial, trivial, .inl rfl, trivial, trivial⟩
  | .node bits w l r, k, v, hw => by
    obtain ⟨h1, h2, h3, h4, h5⟩ := hw
    rw [Sh.put]
    split
    · rename_i hlt
      have hb : bits[lcp bits k]? = some bits[lcp bits k] := List.getElem?_eq_getElem hlt
      have hs : (Sh.node (bits.drop (lcp bits k)) w l r).starts bits[lcp bits k] := by
        show (bits.drop (lcp bits k)).head? = _
        rw [List.head?_drop, hb]
      have hw : (Sh.node (bits.drop (lcp bits k)) w l r).wf := ⟨h1, h2, h3, h4, h5⟩
      rw [hb]
      cases hk : k.drop (lcp bits k) with
      | nil => exact Sh.sub_wf hs trivial (.inl rfl) hw trivial
      | cons c ks =>
        have hc := lcp_ne bits k _ c hb (by rw [← List.head?_drop, hk]; rfl)
        refine Sh.sub_wf hs ?_ (.inr ⟨rfl, rfl⟩) hw ⟨trivial, trivial, .inl rfl, trivial, trivial⟩
        show some c = some _
        revert hc
        cases bits[lcp bits k] <;> cases c <;> simp
    · split
      · exact ⟨h1, h2, .inl rfl, h4, h5⟩
      · rename_i b rest _
        cases b
        · exact ⟨Sh.put_starts h1 rfl, h2, h3.imp id (fun h => ⟨Sh.put_nonnil, h.2⟩), Sh.put_wf l _ v h4, h5⟩
        · exact ⟨h1, Sh.put_starts h2 rfl, h3.imp id (fun h => ⟨h.1, Sh.put_nonnil⟩), h4, Sh.put_wf r _ v h5⟩
theorem Sh.sub_cnt (p : List Bool) (x : Option Int) (b : Bool) (n u : Sh) : (Sh.sub p x b n u).cnt = (if x.isSome then 1 else 0) + n.cnt + u.cnt := by
  cases b <;> simp [Sh.sub, Sh.cnt]; omega
theorem Sh.put_cnt : ∀ (t : Sh) (k : List Bool) (v : Int), t.wf → (t.put k v).cnt = t.cnt + if (t.find k).isSome then 0 else 1
  | .nil, k, v, _ => by simp [Sh.put, Sh.cnt, Sh.find]
  | .node bits w l r, k, v, hw => by
    obtain ⟨h1, h2, h3, h4, h5⟩ := hw
    rw [Sh.put, Sh.find]
    split
    · rename_i hlt
      rw [List.getElem?_eq_getElem hlt]
      cases hk : k.drop (lcp bits k) with
      | nil => simp [Sh.sub_cnt, Sh.cnt]; omega
      | cons c ks => simp [Sh.sub_cnt, Sh.cnt]
    · split
      · cases w <;> simp [Sh.cnt]; omega
      · rename_i b rest _
        have e1 := Sh.put_cnt l (b :: rest) v h4
        have e2 := Sh.put_cnt r (b :: rest) v h5
        cases b <;> simp only [cond_true, cond_false, Sh.cnt] <;> omega
theorem Sh.nodes_le : ∀ t : Sh, t.wf → t.nodes ≤ 2 * t.cnt ∧ (t.isNil = false → t.nodes + 1 ≤ 2 * t.cnt)
  | .nil, _ => ⟨Nat.le_refl _, (fun h => by cases h)⟩
  | .node bits w l r, hw => by
    obtain ⟨_, _, h3, h4, h5⟩ := hw
    have a := Sh.nodes_le l h4
    have b := Sh.nodes_le r h5
    have : 1 + l.nodes + r.nodes + 1 ≤ 2 * ((if w.isSome then 1 else 0) + l.cnt + r.cnt) := by
      rcases h3 with h | ⟨h, g⟩
      · rw [if_pos h]; omega
      · have := a.2 h; have := b.2 g; omega
    exact ⟨by simp only [Sh.nodes, Sh.cnt]; omega, fun _ => by simp only [Sh.nodes, Sh.cnt]; omega⟩

/-! ### the longest -/
structure IsL (f : List Bool → Option Int) (k : List Bool) (res : Option (Int × Nat)) : Prop where
  no : res = none → ∀ n, n ≤ k.length → f (k.take n) = none
  yes : ∀ v n, res = some (v, n) → n ≤ k.length ∧ f (k.take n) = some v ∧ ∀ m, n < m → m ≤ k.length → f (k.take m) = none
def bestOf (v : Option Int) (n : Nat) (best : Option (Int × Nat)) : Option (Int × Nat) := match v with | some x => some (x, n) | none => best
def Sh.walk : Sh → List Bool → Nat → Option (Int × Nat) → Option (Int × Nat)
  | .nil, _, _, best => best
  | .node bits v l r, k, deep, best => if lcp bits k < bits.length then best else
    let best' := bestOf v (deep + bits.length) best
    match k.drop bits.length with
    | [] => best'
    | b :: rest => bif b then r.walk (b :: rest) (deep + bits.length) best' else l.walk (b :: rest) (deep + bits.length) best'
theorem Sh.walk_node (bits : List Bool) (v : Option Int) (l r : Sh) (k : List Bool) (deep : Nat) (best : Option (Int × Nat)) : (Sh.node bits v l r).walk k deep best = if lcp bits k < bits.length then best else
    match k.drop bits.length with
    | [] => (bestOf v (deep + bits.length) best)
    | b :: rest => bif b then r.walk (b :: rest) (deep + bits.length) (bestOf v (deep + bits.length) best) else l.walk (b :: rest) (deep + bits.length) (bestOf v (deep + bits.length) best) := rfl
def WalkSpec (t : Sh) (k : List Bool) (deep : Nat) (best res : Option (Int × Nat)) : Prop :=
    (res = best ∧ ∀ n, n ≤ k.length → t.find (k.take n) = none) ∨ (∃ v n, res = some (v, deep + n) ∧ n ≤ k.length ∧ t.find (k.take n) = some v ∧ ∀ m, n < m → m ≤ k.length → t.find (k.take m) = none)
theorem Sh.walk_spec : ∀ (t : Sh) (k : List Bool) (deep : Nat) (best : Option (Int × Nat)), t.wf → WalkSpec t k deep best (t.walk k deep best)
  | .nil, k, deep, best, _ => .inl ⟨rfl, fun _ _ => rfl⟩
  | .node bits v l r, k, deep, best, hw => by
    obtain ⟨h1, h2, _, h4, h5⟩ := hw
    rw [Sh.walk_node]
    split
    · rename_i hlt
      refine .inl ⟨rfl, fun n _ => Sh.find_lt ?_⟩
      rcases pre_cases bits (k.take n) with h | ⟨rest, h⟩
      · exact h
      · have := List.take_append_drop n k
        rw [h, List.append_assoc] at this
        rw [← this, lcp_append] at hlt; omega
    · rename_i hge
      have hk := lcp_full hge
      generalize hrest : k.drop bits.length = rest at *
      subst hk
      have short : ∀ n, n < bits.length → (Sh.node bits v l r).find ((bits ++ rest).take n) = none := fun n hn => Sh.find_lt (Nat.lt_of_le_of_lt (lcp_le _ _).2 (by rw [List.length_take]; omega))
      have at_ : ∀ n, (Sh.node bits v l r).find ((bits ++ rest).take (bits.length + n)) = match rest.take n with | [] => v | b :: rest => bif b then r.find (b :: rest) else l.find (b :: rest) := fun n => by
        rw [List.take_length_add_append, Sh.find_app]
      cases rest with
      | nil =>
        dsimp only
        have h0 := at_ 0
        cases v with
        | none => exact .inl ⟨rfl, fun n hn => by
            rcases Nat.lt_or_ge n bits.length with h | h
            · exact short n h
            · have : n = bits.length + 0 := by simp at hn; omega
              rw [this, h0]; rfl⟩
        | some x => exact .inr ⟨x, bits.length, rfl, by simp, by simpa using h0, fun m h1 h2 => by simp at h2; omega⟩
      | cons b rest =>
        dsimp only
        have h0 : (Sh.node bits v l r).find ((bits ++ b :: rest).take bits.length) = v := by simpa using at_ 0
        -- the kid that is walked on
        have key : ∀ (u : Sh) (res : Option (Int × Nat)), WalkSpec u (b :: rest) (deep + bits.length) (bestOf v (deep + bits.length) best) res →
            (∀ n, (Sh.node bits v l r).find ((bits ++ b :: rest).take (bits.length + n)) = if n = 0 then v else u.find ((b :: rest).take n)) → u.find [] = none → WalkSpec (.node bits v l r) (bits ++ b :: rest) deep best res := by
          intro u res hu hat hu0
          rcases hu with ⟨e, hn⟩ | ⟨x, n, e, hle, hf, hm⟩
          · have hno : ∀ n, bits.length < n → n ≤ (bits ++ b :: rest).length → (Sh.node bits v l r).find ((bits ++ b :: rest).take n) = none := fun n h1 h2 => by
              rw [List.length_append] at h2
              rw [show n = bits.length + (n - bits.length) by omega, hat, if_neg (by omega), hn _ (by omega)]
            cases v with
            | none => exact .inl ⟨e, fun n hn => by
                rcases Nat.lt_trichotomy n bits.length with h | h | h
                · exact short n h
                · rw [h, h0]
                · exact hno n h hn⟩
            | some x => exact .inr ⟨x, bits.length, e, by simp, h0, hno⟩
          · have hn0 : n ≠ 0 := fun h => by rw [h, List.take_zero, hu0] at hf; cases hf
            refine .inr ⟨x, bits.length + n, by rw [e, Nat.add_assoc], by rw [List.length_append]; omega, by rw [hat, if_neg hn0, hf], fun m h1 h2 => ?_⟩
            rw [List.length_append] at h2
            rw [show m = bits.length + (m - bits.length) by omega, hat, if_neg (by omega), hm _ (by omega) (by omega)]
        cases b
        · exact key l _ (Sh.walk_spec l _ _ _ h4) (fun n => by rw [at_]; cases n <;> rfl) (Sh.starts_find h1 (by simp))
        · exact key r _ (Sh.walk_spec r _ _ _ h5) (fun n => by rw [at_]; cases n <;> rfl) (Sh.starts_find h2 (by simp))
end Go.Proofs.Ytoeecjlencaglaa
