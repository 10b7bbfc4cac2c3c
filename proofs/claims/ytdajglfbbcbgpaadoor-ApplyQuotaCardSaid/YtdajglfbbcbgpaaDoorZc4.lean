/- Insertion into a zone, and what a zone has; the document's examples. -/
import Derived.Test.YtdajglfbbcbgpaaDoorZc3
namespace Go.Proofs.YtdajglfbbcbgpaaDoor
open Go.Px
set_option linter.unusedVariables false

abbrev Mono (xs : List Rc) (r : Rc) : Prop := ∀ (i j : Nat) (x y : Rc), i ≤ j → xs[i]? = some x → xs[j]? = some y → cmpR y r < 0 → cmpR x r < 0
theorem Has_runs {xs : List Rc} {a : Option Addr} {c : Nat} {r : Rc} {I : IMem} {S : SH} (hx : RowIn I S a xs.length 4 encR xs) (hl : xs.length ≤ 140737488355328) (hm : Mono xs r) :
    Runs Tryd.prog 14 #[.slice a xs.length c, vR r] I S fun v _ T => (∃ (k : Nat) (f : Bool), v = .bool f ∧ Below xs r k ∧ (f = true ↔ xs[k]? = some r)) ∧ T = S := by
  refine Runs.drop (zone_Has_fn _ _ _ _ _ _ _ _ _ _ ?_)
  unfold zone_Has
  intro b3
  refine ⟨_, Cell.at0 rfl, _, Cell.at0 rfl, _, Cell.at0 rfl, _, Cell.at0 rfl, ?_⟩
  refine (Search_runs (r := r) (hx.sub ((Sub.refl S).skip _)) hl hm).mono ?_
  rintro v J T hle ⟨⟨k, f, rfl, hb, hf⟩, rfl⟩
  exact ⟨_, _, rfl, S, (Sub.refl S).skip _, ⟨k, f, rfl, hb, hf⟩, rfl⟩
theorem ZInsert_runs {xs : List Rc} {a : Option Addr} {c : Nat} {r : Rc} {I : IMem} {S : SH} (hx : RowIn I S a xs.length 4 encR xs) (hl : (xs.length + 1) * 40 ≤ 140737488355328) (hm : Mono xs r) :
    Runs Tryd.prog 13 #[.slice a xs.length c, vR r] I S fun v _ T => ∃ k, Below xs r k ∧ ((xs[k]? = some r ∧ v = .tuple #[.slice none 0 0, .iface 43 (.int .i64 7)] ∧ Sub S T) ∨
      (xs[k]? ≠ some r ∧ ∃ p n d own', v = .tuple #[.slice p n d, .nilIface] ∧ OwnZ (.slice p n d) (xs.take k ++ r :: xs.drop k) own' ∧ Sub (own' ++ S) T)) := by
  refine zone_Insert_fn _ _ _ _ _ _ _ _ _ _ ?_
  unfold zone_Insert zone_Insert_b1 zone_Insert_b2
  intro b3
  refine ⟨_, Cell.at0 rfl, _, Cell.at0 rfl, _, Cell.at0 rfl, _, Cell.at0 rfl, ?_⟩
  have hsk : Sub S ((b3, Obj.cells #[.string r.1, .int .u16 r.2.1, .int .u32 r.2.2.1, .string r.2.2.2] 36 (0, 0)) :: S) := (Sub.refl S).skip _
  refine (Search_runs (r := r) (hx.sub hsk) (by omega) hm).mono ?_
  rintro v J T hle ⟨⟨k, f, rfl, hb, hf⟩, rfl⟩
  refine ⟨_, _, rfl, bcase_of (fun h => ⟨k, hb, .inl ⟨hf.1 h, rfl, hsk⟩⟩) (fun h => ?_)⟩
  have hne : xs[k]? ≠ some r := fun e => by rw [hf.2 e] at h; cases h
  refine ⟨_, Cell.at0 rfl, _, Cell.at0 rfl, _, Cell.at0 rfl, _, Cell.at0 rfl, ?_, ?_⟩
  · refine (Clone_runs ((hx.sub hsk).le hle) (by omega)).mono ?_
    rintro v J' T' hle' ⟨own1, ho, hsub⟩
    obtain ⟨p, c', rfl⟩ := ho.slice
    refine ⟨_, _, _, rfl, (hsub.right).keep hle', fun b20 => ?_⟩
    refine Runs.use (L := own1 ++ (b20, .cells (encR r).toArray 36 (0, 0)) :: S) ?_ (Insert_runs (r := r) ho hb.1 hl J' S) ?_
    · obtain ⟨G, hG⟩ := hsub
      exact ⟨(b3, Obj.cells #[.string r.1, .int .u16 r.2.1, .int .u32 r.2.2.1, .string r.2.2.2] 36 (0, 0)) :: G, by
        refine (hG.cons _).trans ?_
        simp only [List.append_assoc, List.cons_append]
        refine (List.perm_middle.symm).trans (List.Perm.append_left own1 (List.Perm.cons _ ?_))
        exact List.perm_middle.symm⟩
    · rintro v J'' T'' hle'' ⟨own', ho', hs'⟩
      obtain ⟨p', d, rfl⟩ := ho'.slice
      exact ⟨_, _, _, rfl, k, hb, .inr ⟨hne, _, _, _, own', rfl, ho', hs'⟩⟩
  · intro b20
    refine (Clone_runs ((hx.sub (hsk.skip _)).le hle) (by omega)).mono ?_
    rintro v J' T' hle' ⟨own1, ho, hsub⟩
    obtain ⟨p, c', rfl⟩ := ho.slice
    refine ⟨_, _, _, rfl, ((hsub.right).drop).keep hle', ?_⟩
    refine Runs.use (L := own1 ++ (b20, .cells (encR r).toArray 36 (0, 0)) :: S) ?_ (Insert_runs (r := r) ho hb.1 hl J' S) ?_
    · obtain ⟨G, hG⟩ := hsub
      exact ⟨(b3, Obj.cells #[.string r.1, .int .u16 r.2.1, .int .u32 r.2.2.1, .string r.2.2.2] 36 (0, 0)) :: G, by
        refine hG.trans ?_
        simp only [List.append_assoc, List.cons_append]
        refine List.Perm.append_left own1 (List.Perm.cons _ ?_)
        exact List.perm_middle.symm⟩
    · rintro v J'' T'' hle'' ⟨own', ho', hs'⟩
      obtain ⟨p', d, rfl⟩ := ho'.slice
      exact ⟨_, _, _, rfl, k, hb, .inr ⟨hne, _, _, _, own', rfl, ho', hs'⟩⟩

def exA : Rc := (⟨#[1, 97]⟩, 1, 0, ⟨#[]⟩)
def exB : Rc := (⟨#[1, 97]⟩, 16, 0, ⟨#[]⟩)
theorem exAB : cmpR exA exB = -1 := by decide +kernel
theorem exBA : cmpR exB exA = 1 := by decide +kernel
theorem awake_runs (I : IMem) (S : SH) : Runs Tryd.prog 9 #[] I S fun v _ T => v = .bool true ∧ T = S := by
  refine Runs.drop (bolterlaw08_awake_fn _ _ _ ?_)
  unfold bolterlaw08_awake bolterlaw08_awake_b1 bolterlaw08_awake_b2
  intro b1 b2
  refine StP.tl (StP.at0 (o := 0) (vs := encR exA) (by decide) rfl ?_)
  refine StP.at0 (o := 0) (vs := encR exB) (by decide) rfl ?_
  refine ⟨_, Cell.at0 rfl, _, Cell.at0 rfl, _, Cell.at0 rfl, _, Cell.at0 rfl, ?_⟩
  intro b9
  refine ⟨_, Cell.tl (Cell.tl (Cell.at0 rfl)), _, Cell.tl (Cell.tl (Cell.at0 rfl)), _, Cell.tl (Cell.tl (Cell.at0 rfl)), _, Cell.tl (Cell.tl (Cell.at0 rfl)), ?_⟩
  have hrow : OwnZ (.slice (some ⟨b9, 0, none⟩) 1 1) [exB] [(b9, .cells (encR exB).toArray 36 (0, 0))] := .inr ⟨b9, 1, [], rfl, rfl, by simp, by simp [maxLen]⟩
  refine (ZInsert_runs (xs := [exB]) (r := exA) ((hrow.row encR_len).sub ⟨_, List.Perm.refl _⟩) (by simp) ?_).mono ?_
  · intro i j x y hij hi hj h
    have hj0 : j = 0 := by
      rcases Nat.lt_or_ge j 1 with h | h
      · omega
      · rw [List.getElem?_eq_none (by simpa using h)] at hj; cases hj
    subst hj0
    obtain rfl : i = 0 := by omega
    simp at hi hj; subst hi; subst hj; exact h
  · rintro v J T hle ⟨k, ⟨hk, hb⟩, h⟩
    have hk0 : k = 0 := by
      rcases Nat.eq_zero_or_pos k with h | h
      · exact h
      · have := (hb 0 exB rfl).1 h
        rw [exBA] at this; cases this
    subst hk0
    rcases h with ⟨h, _⟩ | ⟨_, p, n, d, own', rfl, ho, hs⟩
    · simp at h
      have := exAB; rw [h, cmR.refl] at this; cases this
    · refine ⟨_, _, _, _, rfl, ?_⟩
      have hn := ho.len
      have hrow' := (ho.row encR_len (I := J)).sub hs.left
      simp only [List.take_zero, List.drop_zero, List.nil_append] at hrow' hn
      have hS := hs.right
      have hA1 : ∀ {o : Nat} {v : Value}, (encR exA)[o]? = some v → Cell J T ⟨b1, o, none⟩ v := fun h => Sub.cell hS (IMem.le.refl _) (Cell.tl (Cell.tl (Cell.at0 (by rw [show setR _ 0 (encR exA) = (encR exA).toArray from rfl, List.getElem?_toArray]; exact h))))
      have hB1 : ∀ {o : Nat} {v : Value}, (encR exB)[o]? = some v → Cell J T ⟨b2, o, none⟩ v := fun h => Sub.cell hS (IMem.le.refl _) (Cell.tl (Cell.at0 (by rw [show setR _ 0 (encR exB) = (encR exB).toArray from rfl, List.getElem?_toArray]; exact h)))
      subst hn
      refine ⟨_, hA1 rfl, _, hA1 rfl, _, hA1 rfl, _, hA1 rfl, _, hB1 rfl, _, hB1 rfl, _, hB1 rfl, _, hB1 rfl, _, Compare_runs exA exB _ _, ?_⟩
      rw [exAB]
      refine bcase_t rfl ⟨true, rfl, bcase_t rfl (bcase_t rfl ?_)⟩
      obtain ⟨a', rfl, hc⟩ := hrow'.cell (i := 0) (x := exA) rfl
      obtain ⟨c0, c1, c2, c3⟩ := CellsR hc
      refine ⟨by decide, by simp, _, c0, _, c1, _, c2, _, c3, _, hA1 rfl, _, hA1 rfl, _, hA1 rfl, _, hA1 rfl, bcase_t rfl ⟨_, hB1 rfl, _, hB1 rfl, _, hB1 rfl, _, hB1 rfl, ?_⟩⟩
      refine ⟨true, (Has_runs (xs := [exA, exB]) (r := exB) hrow' (by simp) ?_).mono ?_, S, ?_, rfl, rfl⟩
      · intro i j x y hij hi hj h
        have hj2 : j < 2 := by
          rcases Nat.lt_or_ge j 2 with h | h
          · exact h
          · rw [List.getElem?_eq_none (by simpa using h)] at hj; cases hj
        match j, hj2 with
        | 0, _ =>
          obtain rfl : i = 0 := by omega
          rw [hi] at hj; injection hj with hj; subst hj; exact h
        | 1, _ =>
          simp at hj; subst hj
          rw [cmR.refl] at h; omega
      · rintro v J' T' hle' ⟨⟨k, f, rfl, hbb, hf⟩, rfl⟩
        have h0 := (hbb.2 0 exA rfl).2 (by rw [exAB]; omega)
        have h1 : ¬ 1 < k := fun h => by
          have := (hbb.2 1 exB rfl).1 h
          rw [cmR.refl] at this; omega
        obtain rfl : k = 1 := by omega
        rw [hf.2 rfl]
        exact ⟨rfl, rfl⟩
      · exact ((hS.drop).drop).drop
end Go.Proofs.YtdajglfbbcbgpaaDoor
