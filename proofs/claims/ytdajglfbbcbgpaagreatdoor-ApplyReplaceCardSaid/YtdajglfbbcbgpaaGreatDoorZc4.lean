/- Insertion into a zone, and what a zone has; the document's examples. -/
import Derived.Test.YtdajglfbbcbgpaaGreatDoorZc3
namespace Go.Proofs.YtdajglfbbcbgpaaGreatDoor
open Go.Px
set_option linter.unusedVariables false

abbrev Mono (xs : List Rc) (r : Rc) : Prop := ∀ (i j : Nat) (x y : Rc), i ≤ j → xs[i]? = some x → xs[j]? = some y → cmpR y r < 0 → cmpR x r < 0
theorem ZInsert_runs {xs : List Rc} {a : Option Addr} {c : Nat} {r : Rc} {I : IMem} {S : SH} (hx : RowIn I S a xs.length 4 encR xs) (hl : (xs.length + 1) * 40 ≤ 140737488355328) (hm : Mono xs r) :
    Runs Tryz.prog 28 #[.slice a xs.length c, vR r] I S fun v _ T => ∃ k, Below xs r k ∧ ((xs[k]? = some r ∧ v = .tuple #[.slice none 0 0, .iface 40 (.int .i64 7)] ∧ Sub S T) ∨
      (xs[k]? ≠ some r ∧ ∃ p n d own', v = .tuple #[.slice p n d, .nilIface] ∧ OwnZ (.slice p n d) (xs.take k ++ r :: xs.drop k) own' ∧ Sub (own' ++ S) T)) := by
  refine zone_Insert_fn _ _ _ _ _ _ _ _ _ _ ?_
  unfold zone_Insert zone_Insert_b1 zone_Insert_b2
  intro b3
  refine ⟨_, Cell.at0 rfl, _, Cell.at0 rfl, _, Cell.at0 rfl, _, Cell.at0 rfl, ?_⟩
  have hsk : Sub S ((b3, Obj.cells #[.string r.1, .int .u16 r.2.1, .int .u32 r.2.2.1, .string r.2.2.2] 32 (0, 0)) :: S) := (Sub.refl S).skip _
  refine (Search_runs (r := r) (hx.sub hsk) (by omega) hm).mono ?_
  rintro v J T hle ⟨⟨k, f, rfl, hb, hf⟩, rfl⟩
  refine ⟨_, _, rfl, bcase_of (fun h => ⟨k, hb, .inl ⟨hf.1 h, rfl, hsk⟩⟩) (fun h => ?_)⟩
  have hne : xs[k]? ≠ some r := fun e => by rw [hf.2 e] at h; cases h
  refine ⟨_, Cell.at0 rfl, _, Cell.at0 rfl, _, Cell.at0 rfl, _, Cell.at0 rfl, ?_, ?_⟩
  · refine (Clone_runs ((hx.sub hsk).le hle) (by omega)).mono ?_
    rintro v J' T' hle' ⟨own1, ho, hsub⟩
    obtain ⟨p, c', rfl⟩ := ho.slice
    refine ⟨_, _, _, rfl, (hsub.right).keep hle', fun b20 => ?_⟩
    refine Runs.use (L := own1 ++ (b20, .cells (encR r).toArray 32 (0, 0)) :: S) ?_ (Insert_runs (r := r) ho hb.1 hl J' S) ?_
    · obtain ⟨G, hG⟩ := hsub
      exact ⟨(b3, Obj.cells #[.string r.1, .int .u16 r.2.1, .int .u32 r.2.2.1, .string r.2.2.2] 32 (0, 0)) :: G, by
        refine (hG.cons _).trans ?_
        simp only [List.append_assoc, List.cons_append]
        refine (List.perm_middle.symm).trans (List.Perm.append_left own1 (List.Perm.cons _ ?_))
        exact List.perm_middle.symm⟩
    · rintro v J'' T'' hle'' ⟨own', ho', hs'⟩
      obtain ⟨p', d, rfl⟩ := ho'.slice
      exact ⟨_, _, _, rfl, k, hb, .inr ⟨hne, _, _, _, own', rfl, ho', hs'⟩⟩
  · intro b20
    refine (Clone_runs ((hx.sub (hsk.skip _)).le hle) (by omega)).mono ?_
    rintro v J' T' hle' ⟨own1, ho, hsub⟩
    obtain ⟨p, c', rfl⟩ := ho.slice
    refine ⟨_, _, _, rfl, ((hsub.right).drop).keep hle', ?_⟩
    refine Runs.use (L := own1 ++ (b20, .cells (encR r).toArray 32 (0, 0)) :: S) ?_ (Insert_runs (r := r) ho hb.1 hl J' S) ?_
    · obtain ⟨G, hG⟩ := hsub
      exact ⟨(b3, Obj.cells #[.string r.1, .int .u16 r.2.1, .int .u32 r.2.2.1, .string r.2.2.2] 32 (0, 0)) :: G, by
        refine hG.trans ?_
        simp only [List.append_assoc, List.cons_append]
        refine List.Perm.append_left own1 (List.Perm.cons _ ?_)
        exact List.perm_middle.symm⟩
    · rintro v J'' T'' hle'' ⟨own', ho', hs'⟩
      obtain ⟨p', d, rfl⟩ := ho'.slice
      exact ⟨_, _, _, rfl, k, hb, .inr ⟨hne, _, _, _, own', rfl, ho', hs'⟩⟩

def exA : Rc := (⟨#[1, 97]⟩, 1, 0, ⟨#[]⟩)
def exB : Rc := (⟨#[1, 97]⟩, 16, 0, ⟨#[]⟩)
theorem exAB : cmpR exA exB = -1 := by decide +kernel
theorem exBA : cmpR exB exA = 1 := by decide +kernel
end Go.Proofs.YtdajglfbbcbgpaaGreatDoor
