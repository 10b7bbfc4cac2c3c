/- The table's methods that change it. -/
import Derived.Test.YtoeecjlencaglaaTb2
set_option linter.unusedVariables false
namespace Go.Proofs.Ytoeecjlencaglaa
open Go.Px

def noSlot : Slot := ⟨⟨#[]⟩, 0, false, false⟩
def findF (ss : List Slot) (key : ByteArray) : Option (Int × Bool) := findM ss key ss.length (hashM key (ss.length : Int)).toNat (-1)
structure Tbl where
  ss : List Slot
  live : Nat
  full : Nat
def TabO (tb : Nat) (t : Tbl) (own : SH) : Prop :=
  (t.ss = [] ∧ own = [tabB tb none 0 t.live t.full]) ∨ ∃ sb, t.ss ≠ [] ∧ own = [tabB tb (some ⟨sb, 0, none⟩) t.ss.length t.live t.full, sloB sb t.ss]
def growM : List Slot → List Slot → Option (List Slot)
  | [], new => some new
  | s :: r, new => if s.live = true then (match findF new s.key with
      | some (a, _) => if 0 ≤ a ∧ a < (new.length : Int) then growM r (new.set a.toNat s) else none
      | none => none)
    else growM r new
def small (ss : List Slot) : Prop := ∀ s ∈ ss, s.key.size ≤ 9223372036854775807

theorem grow_round {again : Option Addr → Option Addr → Nat → Nat → Int → Int → IMem → SH → Prop} {R : Value → IMem → SH → Prop} {tb nb : Nat} {oldA : Option Addr} {old new fin : List Slot} {live : Nat} {Old F T : SH} {J : IMem} {i oc : Nat}
    (hlen : new.length ≤ 1099511627776) (h0 : 0 < new.length) (hol : old.length ≤ 1099511627776) (hsm : small old)
    (hold : ∀ i s, old[i]? = some s → ∃ x, oldA = some x ∧ ∀ j v, j < 4 → (slotE s)[j]? = some v → Cell J Old ((x.add (i * 4)).add j) v)
    (hsub : Sub (tabB tb (some ⟨nb, 0, none⟩) new.length live live :: sloB nb new :: (Old ++ F)) T) (hi : i ≤ old.length) (hg : growM (old.drop i) new = some fin)
    (hag : ∀ J' S new', J.le J' → i < old.length → new'.length = new.length → Sub (tabB tb (some ⟨nb, 0, none⟩) new.length live live :: sloB nb new' :: (Old ++ F)) S → growM (old.drop (i + 1)) new' = some fin →
      again (some ⟨tb, 0, none⟩) oldA old.length oc (old.length : Int) ((i + 1 : Nat) : Int) J' S)
    (hR : i = old.length → new = fin → R (.tuple #[]) J T) : table_Table_grow_l4 again R (some ⟨tb, 0, none⟩) oldA old.length oc (old.length : Int) (i : Int) J T := by
  refine bcase_dec (fun hlt => ?_) (fun hge => ?_)
  · have hlt : i < old.length := by omega
    obtain ⟨s, hs⟩ : ∃ s, old[i]? = some s := ⟨_, List.getElem?_eq_getElem hlt⟩
    obtain ⟨x, rfl, hx⟩ := hold i s hs
    have hdrop : old.drop i = s :: old.drop (i + 1) := by
      rw [List.drop_eq_getElem_cons hlt]
      rw [List.getElem?_eq_getElem hlt] at hs; injection hs with hs; rw [hs]
    rw [hdrop] at hg
    have hksz : s.key.size ≤ 9223372036854775807 := hsm s (List.mem_of_getElem? hs)
    have c : ∀ j v, j < 4 → (slotE s)[j]? = some v → Cell J T ((x.add ((i : Int).toNat * 4)).add j) v := fun j v hj hv =>
      hsub.cell' (Cell.tl (Cell.tl (Cell.app (hx j v hj hv))))
    have b8 : ∀ J' S new', J.le J' → new'.length = new.length → Sub (tabB tb (some ⟨nb, 0, none⟩) new.length live live :: sloB nb new' :: (Old ++ F)) S → growM (old.drop (i + 1)) new' = some fin →
        table_Table_grow_b8 again R (some ⟨tb, 0, none⟩) (some x) old.length oc (old.length : Int) (i : Int) J' S := by
      intro J' S new' hle hn hS hg'
      have := hag J' S new' hle hlt hn hS hg'
      rw [table_Table_grow_b8, wrap_i64 (by omega) (by omega)]
      exact this
    refine ⟨by omega, by omega, _, c 0 _ (by omega) rfl, _, c 1 _ (by omega) rfl, _, c 2 _ (by omega) rfl, _, c 3 _ (by omega) rfl, fun b4 => StP.at0 (by simp) rfl ⟨_, Cell.at0 rfl, ?_⟩⟩
    obtain ⟨k0, v0, l0, d0⟩ := s
    dsimp only at hksz
    have hS : Sub (tabB tb (some ⟨nb, 0, none⟩) new.length live live :: sloB nb new :: (b4, Obj.cells #[.string k0, .int .i64 v0, .bool l0, .bool d0] 70 (0, 0)) :: (Old ++ F))
        ((b4, .cells (setR #[.string ⟨#[]⟩, .int .i64 0, .bool false, .bool false] 0 [.string k0, .int .i64 v0, .bool l0, .bool d0]) 70 (0, 0)) :: T) :=
      (hsub.cons (b4, Obj.cells #[.string k0, .int .i64 v0, .bool l0, .bool d0] 70 (0, 0))).perm ((List.Perm.swap ..).trans ((List.Perm.swap ..).cons _))
    generalize (b4, Obj.cells (setR #[.string ⟨#[]⟩, .int .i64 0, .bool false, .bool false] 0 [.string k0, .int .i64 v0, .bool l0, .bool d0]) 70 (0, 0)) :: T = S at hS ⊢
    cases l0 with
    | false =>
      exact b8 J S new (IMem.le.refl J) rfl (hS.perm ((((List.Perm.swap ..).symm.cons _).trans (List.Perm.swap ..)))).drop hg
    | true =>
      simp only [growM, if_true] at hg
      cases hf : findF new k0 with
      | none => rw [hf] at hg; cases hg
      | some r =>
        rw [hf] at hg
        obtain ⟨a, bb⟩ := r
        simp only at hg
        split at hg
        · rename_i hab
          refine ⟨_, hS.cell' (Cell.tl (Cell.tl (Cell.at0 rfl))), ?_⟩
          refine Runs.use hS (find_runs tb nb new live live k0 new.length (a, bb) h0 hlen hksz hf J _) ?_
          rintro v J' T' hle ⟨rfl, rfl⟩
          refine ⟨_, _, rfl, _, _, _, Cell.at0 rfl, _, Cell.tl (Cell.tl (Cell.at0 rfl)), _, Cell.tl (Cell.tl (Cell.at0 rfl)), _, Cell.tl (Cell.tl (Cell.at0 rfl)), _, Cell.tl (Cell.tl (Cell.at0 rfl)), hab.1, hab.2, ?_⟩
          have hai : a.toNat < new.length := by omega
          refine StP.tl (StP.row (x := ⟨k0, v0, true, d0⟩) slotE_len slotE_one hai (rowA_set slotE_len _ hai) ?_)
          refine b8 J' _ (new.set a.toNat ⟨k0, v0, true, d0⟩) hle (by simp) ?_ hg
          exact (Sub.refl _).perm ((((List.Perm.swap ..).symm.cons _).trans (List.Perm.swap ..))) |>.drop
        · cases hg
  · have : i = old.length := by omega
    subst this
    rw [List.drop_length] at hg
    injection hg with hg
    exact hR rfl hg

def growN (live : Nat) : Nat := if 4 * live > 8 then 4 * live else 8
theorem growN_pos (live : Nat) : 0 < growN live := by unfold growN; split <;> omega

theorem grow_runs (tb : Nat) (t : Tbl) (own : SH) (ho : TabO tb t own) (hl : t.live ≤ 17179869184) (hn : t.ss.length ≤ 1099511627776) (hsm : small t.ss) (fin : List Slot)
    (hg : growM t.ss (List.replicate (growN t.live) noSlot) = some fin) (I : IMem) (F : SH) :
    Runs Try.prog 34 #[.pointer (some ⟨tb, 0, none⟩)] I (own ++ F) fun v J T => v = .tuple #[] ∧ ∃ sb, T = tabB tb (some ⟨sb, 0, none⟩) fin.length t.live t.live :: sloB sb fin :: F := by
  refine Runs.drop (table_Table_grow_fn _ _ _ _ ?_)
  obtain ⟨oldA, Old, hown, hold⟩ : ∃ oldA Old, own = tabB tb oldA t.ss.length t.live t.full :: Old ∧
      ∀ i s, t.ss[i]? = some s → ∃ x, oldA = some x ∧ ∀ J j v, j < 4 → (slotE s)[j]? = some v → Cell J Old ((x.add (i * 4)).add j) v := by
    rcases ho with ⟨h1, h2⟩ | ⟨sb, h1, h2⟩
    · refine ⟨none, [], by rw [h2, h1]; rfl, fun i s h => by rw [h1] at h; simp at h⟩
    · exact ⟨some ⟨sb, 0, none⟩, [sloB sb t.ss], h2, fun i s h => ⟨_, rfl, fun J j v hj hv => Cell.row slotE_len h hj hv⟩⟩
  subst hown
  refine ⟨_, _, _, Cell.at0 rfl, _, Cell.at0 rfl, _, Cell.at0 rfl, ?_⟩
  have hN : (if (IntKind.wrap .i64 ((4 : Int) * (t.live : Int))) > (8 : Int) then (IntKind.wrap .i64 ((4 : Int) * (t.live : Int))) else (8 : Int)) = (growN t.live : Int) := by
    rw [wrap_i64 (by omega) (by omega)]; unfold growN; split <;> split <;> omega
  rw [hN]
  have hNb : growN t.live ≤ 1099511627776 := by unfold growN; split <;> omega
  have hNp := growN_pos t.live
  refine ⟨by omega, by omega, by omega, by omega, fun nb => ⟨(Sub.refl _).skip _ |>.keep (IMem.le.refl I), StP.tl (StP.at0 (by simp) rfl (StP.tl (StP.at0 (by simp [setR]) rfl ?_)))⟩⟩
  rw [Int.toNat_natCast]
  have hrep : (repV (growN t.live) [.string ⟨#[]⟩, .int .i64 0, .bool false, .bool false]).toArray = rowA slotE (List.replicate (growN t.live) noSlot) := rowA_rep (enc := slotE) _ noSlot
  rw [hrep]
  have hlen : (List.replicate (growN t.live) noSlot).length = growN t.live := by simp
  have start : Sub (tabB tb (some ⟨nb, 0, none⟩) (growN t.live) t.live t.live :: sloB nb (List.replicate (growN t.live) noSlot) :: (Old ++ F))
      ((nb, .cells (rowA slotE (List.replicate (growN t.live) noSlot)) 70 (0, 0)) :: (tb, .cells (setR (setR #[.slice oldA t.ss.length t.ss.length, .int .i64 t.live, .int .i64 t.full] 0 [.slice (some ⟨nb, 0, none⟩) (growN t.live) (growN t.live)]) (0 + 2) [.int .i64 t.live]) 38 (0, 0)) :: (Old ++ F)) :=
    (Sub.refl _).perm (List.Perm.swap ..)
  refine ⟨fun m t' x28 x28n x28c x29 x30 J T => t' = some ⟨tb, 0, none⟩ ∧ x28 = oldA ∧ x28n = t.ss.length ∧ x29 = (t.ss.length : Int) ∧ ∃ (i : Nat) (new : List Slot), x30 = (i : Int) ∧ i ≤ t.ss.length ∧ m + i = t.ss.length ∧ new.length = growN t.live ∧
    growM (t.ss.drop i) new = some fin ∧ Sub (tabB tb (some ⟨nb, 0, none⟩) (growN t.live) t.live t.live :: sloB nb new :: (Old ++ F)) T, t.ss.length, ⟨rfl, rfl, rfl, rfl, 0, _, rfl, Nat.zero_le _, rfl, hlen, hg, start⟩, ?_⟩
  rintro m t' x28 x28n x28c x29 x30 J T _ ⟨rfl, rfl, rfl, rfl, i, new, rfl, hi, hm, hnl, hg', hs⟩
  rw [← hnl] at hs
  refine grow_round (by omega) (by omega) hn hsm (fun i s h => by obtain ⟨x, hx, hc⟩ := hold i s h; exact ⟨x, hx, fun j v hj hv => hc _ j v hj hv⟩) hs hi hg' ?_ ?_
  · intro J' S new' _ hlt hn' hS hg''
    exact ⟨m - 1, by omega, rfl, rfl, rfl, rfl, i + 1, new', rfl, by omega, by omega, by omega, hg'', by rw [← hnl]; exact hS⟩
  · intro he hf
    subst hf
    exact ⟨_, (hs.perm ((List.perm_append_comm (l₁ := Old) (l₂ := F)).cons _ |>.cons _)).left (L := tabB tb (some ⟨nb, 0, none⟩) new.length t.live t.live :: sloB nb new :: F) (M := Old) |> (by simpa using ·), rfl, nb, rfl⟩

theorem Len_runs (tb : Nat) (t : Tbl) (own : SH) (ho : TabO tb t own) (I : IMem) (F : SH) :
    Runs Try.prog 24 #[.pointer (some ⟨tb, 0, none⟩)] I (own ++ F) fun v J T => v = .int .i64 (t.live : Int) ∧ T = own ++ F := by
  refine table_Table_Len_fn _ _ _ _ ?_
  rcases ho with ⟨h1, rfl⟩ | ⟨sb, h1, rfl⟩
  · exact ⟨_, Cell.at0 rfl, rfl, rfl⟩
  · exact ⟨_, Cell.at0 rfl, rfl, rfl⟩
theorem Slots_runs (tb : Nat) (t : Tbl) (own : SH) (ho : TabO tb t own) (I : IMem) (F : SH) :
    Runs Try.prog 26 #[.pointer (some ⟨tb, 0, none⟩)] I (own ++ F) fun v J T => v = .tuple #[.int .i64 (t.ss.length : Int), .int .i64 (t.full : Int)] ∧ T = own ++ F := by
  refine table_Table_Slots_fn _ _ _ _ ?_
  rcases ho with ⟨h1, rfl⟩ | ⟨sb, h1, rfl⟩
  · refine ⟨_, _, _, Cell.at0 rfl, _, Cell.at0 rfl, ?_⟩
    exact ⟨by rw [h1]; rfl, rfl⟩
  · exact ⟨_, _, _, Cell.at0 rfl, _, Cell.at0 rfl, rfl, rfl⟩
end Go.Proofs.Ytoeecjlencaglaa
