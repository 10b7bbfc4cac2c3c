/- ApplyBack. -/
import Derived.Test.YtdajglfbbcbgpaaDoorYa8
namespace Go.Proofs.YtdajglfbbcbgpaaDoor
open Go.Px
set_option linter.unusedVariables false

/-! ### a delta leads from a zone to another one -/
def notF (xs : List Rc) : List Rc := xs.filter fun r => !isSoa r
theorem mem_notF {xs : List Rc} {x : Rc} : x ∈ notF xs ↔ x ∈ xs ∧ isSoa x = false := by
  unfold notF
  rw [List.mem_filter, Bool.not_eq_true']
theorem notF_snoc {xs : List Rc} {k : Nat} {x : Rc} (h : xs[k]? = some x) : notF (xs.take (k + 1)) = notF (xs.take k) ++ (if isSoa x then [] else [x]) := by
  unfold notF
  rw [take_snoc h, List.filter_append]
  congr 1
  cases hp : isSoa x <;> simp [List.filter, hp]
theorem notF_len (xs : List Rc) : (notF xs).length ≤ xs.length := List.length_filter_le _ _
theorem SS.not {a : List Rc} (h : SS a) : SS (notF a) := h.sublist List.filter_sublist
structure ZoneOf (zs : List Rc) (s : Rc) : Prop where
  ss : SS zs
  soa : isSoa s = true
  mem : s ∈ zs
  one : ∀ x ∈ zs, isSoa x = true → x = s
theorem find_of {zs : List Rc} {s : Rc} (hs : isSoa s = true) (hm : s ∈ zs) (h1 : ∀ x ∈ zs, isSoa x = true → x = s) : zs.find? isSoa = some s := by
  cases h : zs.find? isSoa with
  | none => exact absurd hs (by have := List.find?_eq_none.1 h s hm; simpa using this)
  | some x => rw [h1 x (List.mem_of_find?_eq_some h) (List.find?_some h)]
theorem SS.nodup {xs : List Rc} (h : SS xs) : xs.Nodup := h.imp fun {a b} hab e => by subst e; exact lt_irr hab
theorem del_all : ∀ (rs zs : List Rc), SS zs → rs.Nodup → (∀ r ∈ rs, r ∈ zs) → ∃ ys, rs.foldl delO (some zs) = some ys ∧ SS ys ∧ ∀ x, x ∈ ys ↔ x ∈ zs ∧ x ∉ rs
  | [], zs, hz, _, _ => ⟨zs, rfl, hz, fun x => by simp⟩
  | r :: rs, zs, hz, hn, hm => by
    have hn' := List.nodup_cons.1 hn
    have e : delO (some zs) r = some (without zs r) := by
      show (if has zs r then _ else _) = _
      rw [if_pos (has_iff.2 (hm r (List.mem_cons_self ..)))]
    obtain ⟨ys, h1, h2, h3⟩ := del_all rs (without zs r) (hz.without r) hn'.2 fun x hx => mem_without.2 ⟨hm x (List.mem_cons_of_mem _ hx), fun e => by subst e; exact hn'.1 hx⟩
    refine ⟨ys, by rw [List.foldl_cons, e, h1], h2, fun x => ?_⟩
    rw [h3, mem_without, List.mem_cons]
    constructor
    · rintro ⟨⟨h4, h5⟩, h6⟩
      exact ⟨h4, fun h => h.elim h5 h6⟩
    · rintro ⟨h4, h5⟩
      exact ⟨⟨h4, fun e => h5 (.inl e)⟩, fun h => h5 (.inr h)⟩
theorem ins_all : ∀ (rs zs : List Rc), SS zs → rs.Nodup → (∀ r ∈ rs, r ∉ zs) → ∃ ys, rs.foldl insO (some zs) = some ys ∧ SS ys ∧ ∀ x, x ∈ ys ↔ x ∈ zs ∨ x ∈ rs
  | [], zs, hz, _, _ => ⟨zs, rfl, hz, fun x => by simp⟩
  | r :: rs, zs, hz, hn, hm => by
    have hn' := List.nodup_cons.1 hn
    have e : insO (some zs) r = some (insR zs r) := by
      show (if has zs r then _ else _) = _
      rw [has_false.2 (hm r (List.mem_cons_self ..)), if_neg Bool.false_ne_true]
    obtain ⟨ys, h1, h2, h3⟩ := ins_all rs (insR zs r) (insR_SS hz) hn'.2 fun x hx h => (insR_mem'.1 h).elim (hm x (List.mem_cons_of_mem _ hx)) (fun e => by subst e; exact hn'.1 hx)
    refine ⟨ys, by rw [List.foldl_cons, e, h1], h2, fun x => ?_⟩
    rw [h3, insR_mem', List.mem_cons, or_assoc]
theorem delta_leads {A B : List Rc} {s t : Rc} (ha : ZoneOf A s) (hb : ZoneOf B t) : deltaF A s t (notF (lessF A B)) (notF (lessF B A)) = (none, B) := by
  have hsn : s ∉ notF (lessF A B) := fun h => by
    have := (mem_notF.1 h).2
    rw [ha.soa] at this; cases this
  have htn : t ∉ notF (lessF B A) := fun h => by
    have := (mem_notF.1 h).2
    rw [hb.soa] at this; cases this
  obtain ⟨ys, h1, h2, h3⟩ := del_all (s :: notF (lessF A B)) A ha.ss (List.nodup_cons.2 ⟨hsn, SS.nodup (ha.ss.less B).not⟩) (fun r hr => by
    rcases List.mem_cons.1 hr with rfl | hr
    · exact ha.mem
    · exact (mem_less.1 (mem_notF.1 hr).1).1)
  have hys : ∀ x, x ∈ ys ↔ x ∈ A ∧ x ≠ s ∧ x ∉ notF (lessF A B) := fun x => by
    rw [h3, List.mem_cons]
    constructor
    · rintro ⟨h4, h5⟩
      exact ⟨h4, fun e => h5 (.inl e), fun e => h5 (.inr e)⟩
    · rintro ⟨h4, h5, h6⟩
      exact ⟨h4, fun h => h.elim h5 h6⟩
  have hnot : ∀ x, x ∈ ys → isSoa x = false := fun x hx => by
    cases hh : isSoa x with
    | false => rfl
    | true => exact absurd (ha.one x ((hys x).1 hx).1 hh) ((hys x).1 hx).2.1
  obtain ⟨zs, g1, g2, g3⟩ := ins_all (notF (lessF B A) ++ [t]) ys h2 (by
    rw [List.nodup_append]
    refine ⟨SS.nodup (hb.ss.less A).not, by simp, fun a h1 b h2 e => ?_⟩
    rw [List.mem_singleton] at h2
    subst h2; subst e; exact htn h1) (fun r hr h => by
    rcases List.mem_append.1 hr with hr | hr
    · exact (mem_less.1 (mem_notF.1 hr).1).2 ((hys r).1 h).1
    · rw [List.mem_singleton.1 hr] at h
      have := hnot t h
      rw [hb.soa] at this; cases this)
  have hz : zs = B := SS.ext g2 hb.ss fun x => by
    rw [g3, hys, List.mem_append, List.mem_singleton, mem_notF, mem_notF, mem_less, mem_less]
    constructor
    · rintro (⟨h4, h5, h6⟩ | ⟨⟨h4, _⟩, _⟩ | h4)
      · by_cases hx : x ∈ B
        · exact hx
        · refine absurd ⟨⟨h4, hx⟩, ?_⟩ h6
          cases hh : isSoa x with
          | false => rfl
          | true => exact absurd (ha.one x h4 hh) h5
      · exact h4
      · rw [h4]; exact hb.mem
    · intro hx
      cases hh : isSoa x with
      | true => exact .inr (.inr (hb.one x hx hh))
      | false =>
        by_cases hxa : x ∈ A
        · exact .inl ⟨hxa, (fun e => by rw [e, ha.soa] at hh; cases hh), fun h => h.1.2 hx⟩
        · exact .inr (.inl ⟨⟨hx, hxa⟩, rfl⟩)
  rw [deltaF, if_pos (find_of ha.soa ha.mem ha.one), h1, g1, hz]; rfl
theorem under_not (o : ByteArray) (r : Rc) : isSoa (underR false o r) = false := by
  unfold underR
  split
  · rfl
  · rename_i h
    exact beq_eq_false_iff_ne.2 h
theorem zone_of (o : ByteArray) (n : Int) (rs : List Rc) (most : Nat) : ZoneOf (zoneF o n rs most) (soaR o n) where
  ss := zoneF_SS _ _ _ _
  soa := soa_soa o n
  mem := mem_zoneF.2 (.inr rfl)
  one := fun x hx hs => by
    rcases mem_zoneF.1 hx with h | h
    · obtain ⟨r, _, rfl⟩ := List.mem_map.1 h
      rw [under_not] at hs; cases hs
    · exact h

/-! ### two appends, in whatever order -/
abbrev rB (b : Nat) (r : Rc) : Nat × Obj := (b, .cells #[.string r.1, .int .u16 r.2.1, .int .u32 r.2.2.1, .string r.2.2.2] 36 (0, 0))
theorem keep_of {I : IMem} {F T : SH} (h : Sub F T) : Keep I F I T := h.keep (IMem.le.refl I)
theorem App2 {xs ys : List Rc} {r : Rc} {A B : Option Addr} {n c m d : Nat} {S F own1 own2 : SH} {I : IMem} {K : Option Addr → Nat → Nat → Option Addr → Nat → Nat → SH → Prop} (hs : Sub (own1 ++ (own2 ++ F)) S) (h1 : OwnZ (.slice A n c) xs own1) (h2 : OwnZ (.slice B m d) ys own2) (l1 : xs.length ≤ 100000) (l2 : ys.length ≤ 100000)
    (hK : ∀ p n c q m d own1' own2' T, OwnZ (.slice p n c) (xs ++ [r]) own1' → OwnZ (.slice q m d) (ys ++ [r]) own2' → Sub (own1' ++ (own2' ++ F)) T → K p n c q m d T) :
    (∀ b, Keep I F I (rB b r :: S) ∧
      (AppG 36 4 40 zR (some (.slice 36)) I (rB b r :: S) (.slice A n c) (.slice (some ⟨b, 0, none⟩) 1 1) fun p n c S1 => Keep I F I S1 ∧ ∀ b2, Keep I F I (rB b2 r :: S1) ∧
        AppG 36 4 40 zR (some (.slice 36)) I (rB b2 r :: S1) (.slice B m d) (.slice (some ⟨b2, 0, none⟩) 1 1) fun q m d S2 => K p n c q m d S2) ∧
      (∀ b2, Keep I F I (rB b2 r :: rB b r :: S) ∧
        AppG 36 4 40 zR (some (.slice 36)) I (rB b2 r :: rB b r :: S) (.slice A n c) (.slice (some ⟨b, 0, none⟩) 1 1) fun p n c S1 => Keep I F I S1 ∧
        AppG 36 4 40 zR (some (.slice 36)) I S1 (.slice B m d) (.slice (some ⟨b2, 0, none⟩) 1 1) fun q m d S2 => K p n c q m d S2)) ∧
    (∀ b2, Keep I F I (rB b2 r :: S) ∧ ∀ b, Keep I F I (rB b r :: rB b2 r :: S) ∧
      AppG 36 4 40 zR (some (.slice 36)) I (rB b r :: rB b2 r :: S) (.slice A n c) (.slice (some ⟨b, 0, none⟩) 1 1) fun p n c S1 => Keep I F I S1 ∧
        AppG 36 4 40 zR (some (.slice 36)) I S1 (.slice B m d) (.slice (some ⟨b2, 0, none⟩) 1 1) fun q m d S2 => K p n c q m d S2) := by
  have hF : Sub F S := hs.right.right
  -- the second append, when the first one is made
  have two : ∀ (p : Option Addr) (n c : Nat) (own1' T : SH) (b2 : Nat), OwnZ (.slice p n c) (xs ++ [r]) own1' → Sub (own1' ++ (rB b2 r :: (own2 ++ F))) T → Keep I F I T ∧
      AppG 36 4 40 zR (some (.slice 36)) I T (.slice B m d) (.slice (some ⟨b2, 0, none⟩) 1 1) fun q m d S2 => K p n c q m d S2 := by
    intro p n c own1' T b2 ho hT
    refine ⟨keep_of (hT.right.drop.right), ?_⟩
    refine AppR (xs := ys) (ys := [r]) (own := own2) (F := own1' ++ F) ?_ h2 ((row_one r).sub hT.right) (by simp only [List.length_singleton]; omega) ?_
    · refine (hT.of_right ((Sub.refl _).skip _)).perm ?_
      rw [← List.append_assoc, ← List.append_assoc]
      exact List.Perm.append_right F List.perm_append_comm
    · intro q m d own2' T2 ho2 hs2
      refine hK p n c q m d own1' own2' T2 ho ho2 (hs2.perm ?_)
      rw [← List.append_assoc, ← List.append_assoc]
      exact List.Perm.append_right F List.perm_append_comm
  refine ⟨fun b => ⟨keep_of (hF.skip _), ?_, fun b2 => ⟨keep_of ((hF.skip _).skip _), ?_⟩⟩, fun b2 => ⟨keep_of (hF.skip _), fun b => ⟨keep_of ((hF.skip _).skip _), ?_⟩⟩⟩
  · refine AppZ (r := r) hs h1 (by omega) ?_
    intro p n c own1' T ho hT
    refine ⟨keep_of hT.right.right, fun b2 => ⟨keep_of (hT.right.right.skip _), ?_⟩⟩
    refine AppZ (r := r) (own := own2) (F := own1' ++ F) ?_ h2 (by omega) ?_
    · refine hT.perm ?_
      rw [← List.append_assoc, ← List.append_assoc]
      exact List.Perm.append_right F List.perm_append_comm
    · intro q m d own2' T2 ho2 hs2
      refine hK p n c q m d own1' own2' T2 ho ho2 (hs2.perm ?_)
      rw [← List.append_assoc, ← List.append_assoc]
      exact List.Perm.append_right F List.perm_append_comm
  · have hs' : Sub (own1 ++ (rB b2 r :: (own2 ++ F))) (rB b2 r :: rB b r :: S) := Sub.perm ((hs.skip (rB b r)).cons (rB b2 r)) List.perm_middle.symm
    refine AppR (xs := xs) (ys := [r]) hs' h1 ((row_one (b := b) (S := S) r).sub ((Sub.refl _).skip _)) (by simp only [List.length_singleton]; omega) ?_
    intro p n c own1' T ho hT
    exact two p n c own1' T b2 ho hT
  · have hs' : Sub (own1 ++ (rB b2 r :: (own2 ++ F))) (rB b2 r :: S) := Sub.perm (hs.cons (rB b2 r)) List.perm_middle.symm
    refine AppZ (r := r) hs' h1 (by omega) ?_
    intro p n c own1' T ho hT
    exact two p n c own1' T b2 ho hT
theorem front2 {A B C : SH} {x : Nat × Obj} : (A ++ (B ++ x :: C)).Perm (x :: (A ++ (B ++ C))) := (List.Perm.append_left A List.perm_middle).trans List.perm_middle
theorem front22 {A B C : SH} {x y : Nat × Obj} : (A ++ (B ++ x :: y :: C)).Perm (x :: y :: (A ++ (B ++ C))) := front2.trans (front2.cons x)
end Go.Proofs.YtdajglfbbcbgpaaDoor
