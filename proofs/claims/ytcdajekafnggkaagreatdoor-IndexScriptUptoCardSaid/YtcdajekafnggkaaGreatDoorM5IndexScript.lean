/- The table's methods that change it. -/
import Derived.Laws.Strings
import Derived.KernelRfl
import Derived.Test.YtcdajekafnggkaaGreatDoorProg
import Derived.Test.YtcdajekafnggkaaGreatDoorM1IndexScript
import Derived.Test.YtcdajekafnggkaaGreatDoorM2IndexScript
import Derived.Test.YtcdajekafnggkaaGreatDoorM3IndexScript
import Derived.Test.YtcdajekafnggkaaGreatDoorM4IndexScript
set_option linter.unusedVariables false
set_option linter.unusedSimpArgs false
namespace Go.Proofs.YtcdajekafnggkaaGreatDoor.Tb
open Go.Px
variable {xm : Nat}

def noSlot : Slot := ⟨⟨#[]⟩, 0, false, false⟩
def findF (ss : List Slot) (key : ByteArray) : Option (Int × Bool) := findM ss key ss.length (hashM key (ss.length : Int)).toNat (-1)
structure Tbl where
  ss : List Slot
  live : Nat
  full : Nat
def TabO (xm tb : Nat) (t : Tbl) (own : SH) : Prop :=
  (t.ss = [] ∧ own = [tabB xm tb none 0 t.live t.full]) ∨ ∃ sb, t.ss ≠ [] ∧ own = [tabB xm tb (some ⟨sb, 0, none⟩) t.ss.length t.live t.full, sloB sb t.ss]
def growM : List Slot → List Slot → Option (List Slot)
  | [], new => some new
  | s :: r, new => if s.live = true then (match findF new s.key with
      | some (a, _) => if 0 ≤ a ∧ a < (new.length : Int) then growM r (new.set a.toNat s) else none
      | none => none)
    else growM r new
def small (ss : List Slot) : Prop := ∀ s ∈ ss, s.key.size ≤ 9223372036854775807

theorem grow_round {again : Option Addr → Option Addr → Nat → Nat → Int → Int → IMem → SH → Prop} {R : Value → IMem → SH → Prop} {tb nb : Nat} {oldA : Option Addr} {old new fin : List Slot} {live : Nat} {Old F T : SH} {J : IMem} {i oc : Nat}
    (hlen : new.length ≤ 1099511627776) (h0 : 0 < new.length) (hol : old.length ≤ 1099511627776) (hsm : small old)
    (hold : ∀ i s, old[i]? = some s → ∃ x, oldA = some x ∧ ∀ j v, j < 4 → (slotE s)[j]? = some v → Cell J Old ((x.add (i * 4)).add j) v)
    (hsub : Sub (tabB xm tb (some ⟨nb, 0, none⟩) new.length live live :: sloB nb new :: (Old ++ F)) T) (hi : i ≤ old.length) (hg : growM (old.drop i) new = some fin)
    (hag : ∀ J' S new', J.le J' → i < old.length → new'.length = new.length → Sub (tabB xm tb (some ⟨nb, 0, none⟩) new.length live live :: sloB nb new' :: (Old ++ F)) S → growM (old.drop (i + 1)) new' = some fin →
      again (some ⟨tb, 0, none⟩) oldA old.length oc (old.length : Int) ((i + 1 : Nat) : Int) J' S)
    (hR : i = old.length → new = fin → R (.tuple #[]) J T) : table_Table_grow_l4 again R (some ⟨tb, 0, none⟩) oldA old.length oc (old.length : Int) (i : Int) J T := by
  refine bcase_dec (fun hlt => ?_) (fun hge => ?_)
  · have hlt : i < old.length := by omega
    obtain ⟨s, hs⟩ : ∃ s, old[i]? = some s := ⟨_, List.getElem?_eq_getElem hlt⟩
    obtain ⟨x, rfl, hx⟩ := hold i s hs
    have hdrop : old.drop i = s :: old.drop (i + 1) := by
      rw [List.drop_eq_getElem_cons hlt]
      rw [List.getElem?_eq_getElem hlt] at hs; injection hs with hs; rw [hs]
    rw [hdrop] at hg
    have hksz : s.key.size ≤ 9223372036854775807 := hsm s (List.mem_of_getElem? hs)
    have c : ∀ j v, j < 4 → (slotE s)[j]? = some v → Cell J T ((x.add ((i : Int).toNat * 4)).add j) v := fun j v hj hv =>
      hsub.cell' (Cell.tl (Cell.tl (Cell.app (hx j v hj hv))))
    have b8 : ∀ J' S new', J.le J' → new'.length = new.length → Sub (tabB xm tb (some ⟨nb, 0, none⟩) new.length live live :: sloB nb new' :: (Old ++ F)) S → growM (old.drop (i + 1)) new' = some fin →
        table_Table_grow_b8 again R (some ⟨tb, 0, none⟩) (some x) old.length oc (old.length : Int) (i : Int) J' S := by
      intro J' S new' hle hn hS hg'
      have := hag J' S new' hle hlt hn hS hg'
      rw [table_Table_grow_b8, wrap_i64 (by omega) (by omega)]
      exact this
    refine ⟨by omega, by omega, _, c 0 _ (by omega) rfl, _, c 1 _ (by omega) rfl, _, c 2 _ (by omega) rfl, _, c 3 _ (by omega) rfl, fun b4 => StP.at0 (by simp) rfl ⟨_, Cell.at0 rfl, ?_⟩⟩
    obtain ⟨k0, v0, l0, d0⟩ := s
    dsimp only at hksz
    have hS : Sub (tabB xm tb (some ⟨nb, 0, none⟩) new.length live live :: sloB nb new :: (b4, Obj.cells #[.string k0, .int .i64 v0, .bool l0, .bool d0] 106 (0, 0)) :: (Old ++ F))
        ((b4, .cells (setR #[.string ⟨#[]⟩, .int .i64 0, .bool false, .bool false] 0 [.string k0, .int .i64 v0, .bool l0, .bool d0]) 106 (0, 0)) :: T) :=
      (hsub.cons (b4, Obj.cells #[.string k0, .int .i64 v0, .bool l0, .bool d0] 106 (0, 0))).perm ((List.Perm.swap ..).trans ((List.Perm.swap ..).cons _))
    generalize (b4, Obj.cells (setR #[.string ⟨#[]⟩, .int .i64 0, .bool false, .bool false] 0 [.string k0, .int .i64 v0, .bool l0, .bool d0]) 106 (0, 0)) :: T = S at hS ⊢
    cases l0 with
    | false =>
      exact b8 J S new (IMem.le.refl J) rfl (hS.perm ((((List.Perm.swap ..).symm.cons _).trans (List.Perm.swap ..)))).drop hg
    | true =>
      simp only [growM, if_true] at hg
      cases hf : findF new k0 with
      | none => rw [hf] at hg; cases hg
      | some r =>
        rw [hf] at hg
        obtain ⟨a, bb⟩ := r
        simp only at hg
        split at hg
        · rename_i hab
          refine ⟨_, hS.cell' (Cell.tl (Cell.tl (Cell.at0 rfl))), ?_⟩
          refine Runs.use hS (find_runs tb nb new live live k0 new.length (a, bb) h0 hlen hksz hf J _) ?_
          rintro v J' T' hle ⟨rfl, rfl⟩
          refine ⟨_, _, rfl, _, _, _, Cell.at0 rfl, _, Cell.tl (Cell.tl (Cell.at0 rfl)), _, Cell.tl (Cell.tl (Cell.at0 rfl)), _, Cell.tl (Cell.tl (Cell.at0 rfl)), _, Cell.tl (Cell.tl (Cell.at0 rfl)), hab.1, hab.2, ?_⟩
          have hai : a.toNat < new.length := by omega
          refine StP.tl (StP.row (x := ⟨k0, v0, true, d0⟩) slotE_len slotE_one hai (rowA_set slotE_len _ hai) ?_)
          refine b8 J' _ (new.set a.toNat ⟨k0, v0, true, d0⟩) hle (by simp) ?_ hg
          exact (Sub.refl _).perm ((((List.Perm.swap ..).symm.cons _).trans (List.Perm.swap ..))) |>.drop
        · cases hg
  · have : i = old.length := by omega
    subst this
    rw [List.drop_length] at hg
    injection hg with hg
    exact hR rfl hg

def growN (live : Nat) : Nat := if 4 * live > 8 then 4 * live else 8
theorem growN_pos (live : Nat) : 0 < growN live := by unfold growN; split <;> omega

theorem grow_runs (tb : Nat) (t : Tbl) (own : SH) (ho : TabO xm tb t own) (hl : t.live ≤ 17179869184) (hn : t.ss.length ≤ 1099511627776) (hsm : small t.ss) (fin : List Slot)
    (hg : growM t.ss (List.replicate (growN t.live) noSlot) = some fin) (I : IMem) (F : SH) :
    Runs Tryz.prog 53 #[.pointer (some ⟨tb, 0, none⟩)] I (own ++ F) fun v J T => v = .tuple #[] ∧ ∃ sb, T = tabB xm tb (some ⟨sb, 0, none⟩) fin.length t.live t.live :: sloB sb fin :: F := by
  refine Runs.drop (table_Table_grow_fn _ _ _ _ ?_)
  obtain ⟨oldA, Old, hown, hold⟩ : ∃ oldA Old, own = tabB xm tb oldA t.ss.length t.live t.full :: Old ∧
      ∀ i s, t.ss[i]? = some s → ∃ x, oldA = some x ∧ ∀ J j v, j < 4 → (slotE s)[j]? = some v → Cell J Old ((x.add (i * 4)).add j) v := by
    rcases ho with ⟨h1, h2⟩ | ⟨sb, h1, h2⟩
    · refine ⟨none, [], by rw [h2, h1]; rfl, fun i s h => by rw [h1] at h; simp at h⟩
    · exact ⟨some ⟨sb, 0, none⟩, [sloB sb t.ss], h2, fun i s h => ⟨_, rfl, fun J j v hj hv => Cell.row slotE_len h hj hv⟩⟩
  subst hown
  refine ⟨_, _, _, Cell.at0 rfl, _, Cell.at0 rfl, _, Cell.at0 rfl, ?_⟩
  have hN : (if (IntKind.wrap .i64 ((4 : Int) * (t.live : Int))) > (8 : Int) then (IntKind.wrap .i64 ((4 : Int) * (t.live : Int))) else (8 : Int)) = (growN t.live : Int) := by
    rw [wrap_i64 (by omega) (by omega)]; unfold growN; split <;> split <;> omega
  rw [hN]
  have hNb : growN t.live ≤ 1099511627776 := by unfold growN; split <;> omega
  have hNp := growN_pos t.live
  refine ⟨by omega, by omega, by omega, by omega, fun nb => ⟨(Sub.refl _).skip _ |>.keep (IMem.le.refl I), StP.tl (StP.at0 (by simp) rfl (StP.tl (StP.at0 (by simp [setR]) rfl ?_)))⟩⟩
  rw [Int.toNat_natCast]
  have hrep : (repV (growN t.live) [.string ⟨#[]⟩, .int .i64 0, .bool false, .bool false]).toArray = rowA slotE (List.replicate (growN t.live) noSlot) := rowA_rep (enc := slotE) _ noSlot
  rw [hrep]
  have hlen : (List.replicate (growN t.live) noSlot).length = growN t.live := by simp
  have start : Sub (tabB xm tb (some ⟨nb, 0, none⟩) (growN t.live) t.live t.live :: sloB nb (List.replicate (growN t.live) noSlot) :: (Old ++ F))
      ((nb, .cells (rowA slotE (List.replicate (growN t.live) noSlot)) 106 (0, 0)) :: (tb, .cells (setR (setR #[.slice oldA t.ss.length t.ss.length, .int .i64 t.live, .int .i64 t.full, .map (some xm)] 0 [.slice (some ⟨nb, 0, none⟩) (growN t.live) (growN t.live)]) (0 + 2) [.int .i64 t.live]) 61 (0, 0)) :: (Old ++ F)) :=
    (Sub.refl _).perm (List.Perm.swap ..)
  refine ⟨fun m t' x28 x28n x28c x29 x30 J T => t' = some ⟨tb, 0, none⟩ ∧ x28 = oldA ∧ x28n = t.ss.length ∧ x29 = (t.ss.length : Int) ∧ ∃ (i : Nat) (new : List Slot), x30 = (i : Int) ∧ i ≤ t.ss.length ∧ m + i = t.ss.length ∧ new.length = growN t.live ∧
    growM (t.ss.drop i) new = some fin ∧ Sub (tabB xm tb (some ⟨nb, 0, none⟩) (growN t.live) t.live t.live :: sloB nb new :: (Old ++ F)) T, t.ss.length, ⟨rfl, rfl, rfl, rfl, 0, _, rfl, Nat.zero_le _, rfl, hlen, hg, start⟩, ?_⟩
  rintro m t' x28 x28n x28c x29 x30 J T _ ⟨rfl, rfl, rfl, rfl, i, new, rfl, hi, hm, hnl, hg', hs⟩
  rw [← hnl] at hs
  refine grow_round (by omega) (by omega) hn hsm (fun i s h => by obtain ⟨x, hx, hc⟩ := hold i s h; exact ⟨x, hx, fun j v hj hv => hc _ j v hj hv⟩) hs hi hg' ?_ ?_
  · intro J' S new' _ hlt hn' hS hg''
    exact ⟨m - 1, by omega, rfl, rfl, rfl, rfl, i + 1, new', rfl, by omega, by omega, by omega, hg'', by rw [← hnl]; exact hS⟩
  · intro he hf
    subst hf
    exact ⟨_, (hs.perm ((List.perm_append_comm (l₁ := Old) (l₂ := F)).cons _ |>.cons _)).left (L := tabB xm tb (some ⟨nb, 0, none⟩) new.length t.live t.live :: sloB nb new :: F) (M := Old) |> (by simpa using ·), rfl, nb, rfl⟩

theorem Len_runs (tb : Nat) (t : Tbl) (own : SH) (ho : TabO xm tb t own) (I : IMem) (F : SH) :
    Runs Tryz.prog 27 #[.pointer (some ⟨tb, 0, none⟩)] I (own ++ F) fun v J T => v = .int .i64 (t.live : Int) ∧ T = own ++ F := by
  refine table_Table_Len_fn _ _ _ _ ?_
  rcases ho with ⟨h1, rfl⟩ | ⟨sb, h1, rfl⟩
  · exact ⟨_, Cell.at0 rfl, rfl, rfl⟩
  · exact ⟨_, Cell.at0 rfl, rfl, rfl⟩
end Go.Proofs.YtcdajekafnggkaaGreatDoor.Tb
/- The table's methods: Put, Get, Del. -/
set_option linter.unusedVariables false
set_option linter.unusedSimpArgs false
namespace Go.Proofs.YtcdajekafnggkaaGreatDoor.Tb
open Go.Px
variable {xm : Nat}

def grownM (t : Tbl) : Option Tbl := if 2 * (t.full + 1) > t.ss.length then (growM t.ss (List.replicate (growN t.live) noSlot)).map fun new => ⟨new, t.live, t.live⟩ else some t
def putAt (t : Tbl) (key : ByteArray) (value : Int) : Option (Tbl × Bool) := match findF t.ss key with
  | none => none
  | some (a, is) => match t.ss[a.toNat]? with
    | none => none
    | some s => if 0 ≤ a then some (⟨t.ss.set a.toNat ⟨key, value, true, false⟩, if is then t.live else t.live + 1, if is then t.full else if s.dead then t.full else t.full + 1⟩, !is) else none
def putM (t : Tbl) (key : ByteArray) (value : Int) : Option (Tbl × Bool) := (grownM t).bind fun t => putAt t key value
def getM (t : Tbl) (key : ByteArray) : Option (Int × Bool) := if t.ss = [] then some (0, false) else match findF t.ss key with
  | none => none
  | some (a, is) => if is then (match t.ss[a.toNat]? with | some s => if 0 ≤ a then some (s.value, true) else none | none => none) else some (0, false)
def delM (t : Tbl) (key : ByteArray) : Option (Tbl × Bool) := if t.ss = [] then some (t, false) else match findF t.ss key with
  | none => none
  | some (a, is) => if is then (if 0 ≤ a ∧ a < (t.ss.length : Int) then some (⟨t.ss.set a.toNat ⟨⟨#[]⟩, 0, false, true⟩, t.live - 1, t.full⟩, true) else none) else some (t, false)

def TabS (xm tb sb : Nat) (t : Tbl) (F : SH) : SH := tabB xm tb (some ⟨sb, 0, none⟩) t.ss.length t.live t.full :: sloB sb t.ss :: F
structure Tbl.Ok (t : Tbl) : Prop where
  live : t.live ≤ 17179869184
  full : t.full ≤ 17179869184
  len : t.ss.length ≤ 1099511627776
  keys : small t.ss

theorem put_b3 {R : Value → IMem → SH → Prop} {tb sb : Nat} {t t' : Tbl} {key : ByteArray} {value : Int} {r : Bool} {I : IMem} {F : SH} (ht : t.ss ≠ []) (hok : t.Ok) (hk : key.size ≤ 9223372036854775807)
    (h : putAt t key value = some (t', r)) (hR : ∀ J, I.le J → R (.bool r) J (TabS xm tb sb t' F)) : table_Table_Put_b3 R (some ⟨tb, 0, none⟩) key value I (TabS xm tb sb t F) := by
  have hpos : 0 < t.ss.length := List.length_pos_iff.2 ht
  have hl := hok.live
  have hfu := hok.full
  unfold putAt at h
  split at h
  · cases h
  · rename_i a is hf
    split at h
    · cases h
    · rename_i s hs
      split at h
      · rename_i ha
        injection h with h
        injection h with h1 h2
        have hlt : a.toNat < t.ss.length := by
          rcases Nat.lt_or_ge a.toNat t.ss.length with h | h
          · exact h
          · rw [List.getElem?_eq_none h] at hs; cases hs
        refine (find_runs tb sb t.ss t.live t.full key t.ss.length (a, is) hpos hok.len hk hf I F).mono ?_
        rintro v J T hle ⟨rfl, rfl⟩
        refine ⟨_, _, rfl, ?_⟩
        have b4 : ∀ (live full : Nat) , t' = ⟨t.ss.set a.toNat ⟨key, value, true, false⟩, live, full⟩ → table_Table_Put_b4 R (some ⟨tb, 0, none⟩) key value a is J (tabB xm tb (some ⟨sb, 0, none⟩) t.ss.length live full :: sloB sb t.ss :: F) := by
          intro live full e
          refine ⟨_, _, _, Cell.at0 rfl, by omega, by omega, StP.tl (StP.row (x := ⟨key, value, true, false⟩) slotE_len slotE_one hlt (rowA_set slotE_len _ hlt) ?_)⟩
          rw [h2]
          have := hR J hle
          rw [e] at this
          simpa [TabS, tabB, sloB] using this
        cases is with
        | true => exact b4 t.live t.full (by rw [← h1]; simp)
        | false =>
          refine ⟨_, Cell.at0 rfl, StP.at0 (by simp) rfl ⟨_, _, _, Cell.at0 rfl, by omega, by omega, _, Cell.tl (Cell.row slotE_len hs (by omega) rfl), ?_⟩⟩
          have e1 : IntKind.wrap .i64 ((t.live : Int) + 1) = ((t.live + 1 : Nat) : Int) := by rw [wrap_i64 (by omega) (by omega)]; rfl
          have e2 : IntKind.wrap .i64 ((t.full : Int) + 1) = ((t.full + 1 : Nat) : Int) := by rw [wrap_i64 (by omega) (by omega)]; rfl
          dsimp only at h1 ⊢
          rw [e1]
          cases hd : s.dead with
          | true => exact b4 (t.live + 1) t.full (by rw [← h1]; simp [hd])
          | false =>
            refine ⟨_, Cell.at0 rfl, StP.at0 (by simp [setR]) rfl ?_⟩
            rw [e2]
            exact b4 (t.live + 1) (t.full + 1) (by rw [← h1]; simp [hd])
      · cases h

theorem Put_runs (tb : Nat) (t t' : Tbl) (own : SH) (ho : TabO xm tb t own) (hok : t.Ok) (hg : ∀ t1, grownM t = some t1 → t1.Ok ∧ t1.ss ≠ []) (key : ByteArray) (value : Int) (r : Bool) (hk : key.size ≤ 9223372036854775807)
    (h : putM t key value = some (t', r)) (I : IMem) (F : SH) :
    Runs Tryz.prog 26 #[.pointer (some ⟨tb, 0, none⟩), .string key, .int .i64 value] I (own ++ F) fun v J T => v = .bool r ∧ ∃ own', TabO xm tb t' own' ∧ T = own' ++ F := by
  have hl := hok.live
  have hfu := hok.full
  have hne : ∀ t1, grownM t = some t1 → putAt t1 key value = some (t', r) → t'.ss ≠ [] := by
    intro t1 h1 h2
    have := (hg t1 h1).2
    unfold putAt at h2
    split at h2
    · cases h2
    · split at h2
      · cases h2
      · split at h2
        · injection h2 with h2; injection h2 with h2 _; rw [← h2]; simpa using this
        · cases h2
  obtain ⟨t1, h1, h2⟩ := Option.bind_eq_some_iff.1 h
  have fin : ∀ sb J, (fun v J T => v = .bool r ∧ ∃ own', TabO xm tb t' own' ∧ T = own' ++ F : Value → IMem → SH → Prop) (.bool r) J (TabS xm tb sb t' F) := fun sb J => ⟨rfl, _, .inr ⟨sb, hne t1 h1 h2, rfl⟩, rfl⟩
  refine table_Table_Put_fn _ _ _ _ _ _ ?_
  obtain ⟨oldA, own0, hown⟩ : ∃ oldA own0, own = tabB xm tb oldA t.ss.length t.live t.full :: own0 := by
    rcases ho with ⟨h1, h2⟩ | ⟨sb, h1, h2⟩
    · exact ⟨none, [], by rw [h2, h1]; rfl⟩
    · exact ⟨_, _, h2⟩
  have c0 : Cell I (own ++ F) ⟨tb, 2, none⟩ (.int .i64 (t.full : Int)) := by rw [hown]; exact Cell.at0 rfl
  have c1 : Cell I (own ++ F) ⟨tb, 0, none⟩ (.slice oldA t.ss.length t.ss.length) := by rw [hown]; exact Cell.at0 rfl
  refine ⟨_, c0, _, _, _, c1, ?_⟩
  rw [wrap_i64 (x := (t.full : Int) + 1) (by omega) (by omega), wrap_i64 (by omega) (by omega)]
  refine bcase_dec (fun hgt => ?_) (fun hle => ?_)
  · unfold grownM at h1
    rw [if_pos (by omega)] at h1
    obtain ⟨fin', hgm, rfl⟩ := Option.map_eq_some_iff.1 h1
    refine (grow_runs tb t own ho hl hok.len hok.keys fin' hgm I F).mono ?_
    rintro v J T hle ⟨rfl, sb, rfl⟩
    obtain ⟨ok1, ne1⟩ := hg _ (by unfold grownM; rw [if_pos (by omega), hgm]; rfl)
    exact ⟨rfl, put_b3 (sb := sb) (F := F) ne1 ok1 hk h2 (fun J' _ => fin sb J')⟩
  · unfold grownM at h1
    rw [if_neg (by omega)] at h1
    injection h1 with h1
    subst h1
    rcases ho with ⟨e1, e2⟩ | ⟨sb, e1, e2⟩
    · rw [e1] at hle; simp at hle; omega
    · rw [e2]
      exact put_b3 (sb := sb) (F := F) e1 hok hk h2 (fun J' _ => fin sb J')

theorem Get_runs (tb : Nat) (t : Tbl) (own : SH) (ho : TabO xm tb t own) (hok : t.Ok) (key : ByteArray) (r : Int × Bool) (hk : key.size ≤ 9223372036854775807) (h : getM t key = some r) (I : IMem) (F : SH) :
    Runs Tryz.prog 30 #[.pointer (some ⟨tb, 0, none⟩), .string key] I (own ++ F) fun v J T => v = .tuple #[.int .i64 r.1, .bool r.2] ∧ T = own ++ F := by
  refine table_Table_Get_fn _ _ _ _ _ ?_
  unfold getM at h
  rcases ho with ⟨e1, rfl⟩ | ⟨sb, e1, rfl⟩
  · rw [if_pos e1] at h
    injection h with h; subst h
    refine ⟨_, _, _, Cell.at0 rfl, rfl, rfl⟩
  · rw [if_neg e1] at h
    have hpos : 0 < t.ss.length := List.length_pos_iff.2 e1
    refine ⟨_, _, _, Cell.at0 rfl, bcase_beq (fun h0 => by omega) (fun _ => ?_)⟩
    split at h
    · cases h
    · rename_i a is hf
      refine (find_runs tb sb t.ss t.live t.full key t.ss.length (a, is) hpos hok.len hk hf I F).mono ?_
      rintro v J T hle ⟨rfl, rfl⟩
      refine ⟨_, _, rfl, ?_⟩
      cases is with
      | false => simp at h; subst h; exact ⟨rfl, rfl⟩
      | true =>
        simp only [if_true] at h
        split at h
        · rename_i s hs
          split at h
          · rename_i ha
            injection h with h; subst h
            have hlt : a.toNat < t.ss.length := by
              rcases Nat.lt_or_ge a.toNat t.ss.length with h | h
              · exact h
              · rw [List.getElem?_eq_none h] at hs; cases hs
            exact ⟨_, _, _, Cell.at0 rfl, by omega, by dsimp only; omega, _, Cell.tl (Cell.row slotE_len hs (by omega) rfl), rfl, rfl⟩
          · cases h
        · cases h

theorem Del_runs (tb : Nat) (t t' : Tbl) (own : SH) (ho : TabO xm tb t own) (hok : t.Ok) (key : ByteArray) (r : Bool) (hk : key.size ≤ 9223372036854775807) (hlv : r = true → 0 < t.live) (h : delM t key = some (t', r)) (I : IMem) (F : SH) :
    Runs Tryz.prog 23 #[.pointer (some ⟨tb, 0, none⟩), .string key] I (own ++ F) fun v J T => v = .bool r ∧ ∃ own', TabO xm tb t' own' ∧ T = own' ++ F := by
  have hl := hok.live
  refine table_Table_Del_fn _ _ _ _ _ ?_
  unfold delM at h
  rcases ho with ⟨e1, rfl⟩ | ⟨sb, e1, rfl⟩
  · rw [if_pos e1] at h
    injection h with h; injection h with h1 h2; subst h1; subst h2
    exact ⟨_, _, _, Cell.at0 rfl, rfl, _, .inl ⟨e1, rfl⟩, rfl⟩
  · rw [if_neg e1] at h
    have hpos : 0 < t.ss.length := List.length_pos_iff.2 e1
    refine ⟨_, _, _, Cell.at0 rfl, bcase_beq (fun h0 => by omega) (fun _ => ?_)⟩
    split at h
    · cases h
    · rename_i a is hf
      refine (find_runs tb sb t.ss t.live t.full key t.ss.length (a, is) hpos hok.len hk hf I F).mono ?_
      rintro v J T hle ⟨rfl, rfl⟩
      refine ⟨_, _, rfl, ?_⟩
      cases is with
      | false => simp at h; obtain ⟨rfl, rfl⟩ := h; exact ⟨rfl, _, .inr ⟨sb, e1, rfl⟩, rfl⟩
      | true =>
        simp only [if_true] at h
        split at h
        · rename_i hab
          injection h with h; injection h with h1 h2; subst h1; subst h2
          have hlt : a.toNat < t.ss.length := by omega
          have h1 := hlv rfl
          refine ⟨_, _, _, Cell.at0 rfl, hab.1, hab.2, StP.tl (StP.row (x := ⟨⟨#[]⟩, 0, false, true⟩) slotE_len slotE_one hlt (rowA_set slotE_len _ hlt) ?_)⟩
          refine ⟨_, Cell.at0 rfl, StP.at0 (by simp) rfl ?_⟩
          have e : IntKind.wrap .i64 ((t.live : Int) - 1) = ((t.live - 1 : Nat) : Int) := by rw [wrap_i64 (by omega) (by omega)]; omega
          rw [e]
          refine ⟨rfl, _, .inr ⟨sb, by simpa using e1, rfl⟩, ?_⟩
          simp [tabB, sloB]
          rfl
        · cases h
end Go.Proofs.YtcdajekafnggkaaGreatDoor.Tb
/- The plain law of the table: slots, open addressing, and what a finite map says. -/
set_option linter.unusedVariables false
set_option linter.unusedSimpArgs false
namespace Go.Proofs.YtcdajekafnggkaaGreatDoor.Tb
open Go.Px
variable {xm : Nat}

def Slot.nonE (s : Slot) : Bool := s.live || s.dead
def ne (ss : List Slot) : Nat := ss.countP Slot.nonE
def lv (ss : List Slot) : Nat := ss.countP Slot.live
def pos (key : ByteArray) (n d : Nat) : Nat := ((hashM key (n : Int)).toNat + d) % n
theorem pos_lt (key : ByteArray) {n : Nat} (hn : 0 < n) (d : Nat) : pos key n d < n := Nat.mod_lt _ hn
theorem pos_succ (key : ByteArray) (n d : Nat) : (pos key n d + 1) % n = pos key n (d + 1) := by simp [pos, Nat.add_assoc]
theorem pos_zero (key : ByteArray) {n : Nat} (hn : 0 < n) : pos key n 0 = (hashM key (n : Int)).toNat := by
  have := hashM_bd key hn
  unfold pos; rw [Nat.add_zero, Nat.mod_eq_of_lt (by omega)]
theorem pos_onto (key : ByteArray) {n : Nat} (hn : 0 < n) {i : Nat} (hi : i < n) : ∃ d, d < n ∧ pos key n d = i := by
  have h1 := (hashM_bd key hn).2
  have h0 := (hashM_bd key hn).1
  generalize hh : (hashM key (n : Int)).toNat = h at *
  have hlt : h < n := by omega
  refine ⟨(i + (n - h)) % n, Nat.mod_lt _ hn, ?_⟩
  unfold pos
  rw [hh, Nat.add_mod_mod, show h + (i + (n - h)) = i + n by omega, Nat.add_mod_right, Nat.mod_eq_of_lt hi]
theorem keq {a b : ByteArray} : (a.toList == b.toList) = true ↔ a = b := by
  simp only [ByteArray.toList_eq, beq_iff_eq]
  constructor
  · intro h; apply ByteArray.ext; exact Array.toList_inj.1 h
  · rintro rfl; rfl

structure Good (ss : List Slot) : Prop where
  kinds : ∀ (i : Nat) (s : Slot), ss[i]? = some s → s.live = true → s.dead = true → False
  uniq : ∀ (i j : Nat) (s u : Slot), ss[i]? = some s → ss[j]? = some u → s.live = true → u.live = true → s.key = u.key → i = j
  reach : ∀ (i : Nat) (s : Slot), ss[i]? = some s → s.live = true → ∃ d, pos s.key ss.length d = i ∧ ∀ d', d' < d → ∃ u : Slot, ss[pos s.key ss.length d']? = some u ∧ u.nonE = true
  keys : small ss

theorem find_spec {ss : List Slot} (hk : ∀ (i : Nat) (s : Slot), ss[i]? = some s → s.live = true → s.dead = true → False) (key : ByteArray) : ∀ (k d e : Nat) (free : Int), d ≤ e → e - d < k → (∃ s : Slot, ss[pos key ss.length e]? = some s ∧ s.nonE = false) →
    (∀ g, d ≤ g → g < e → ∃ s : Slot, ss[pos key ss.length g]? = some s ∧ s.nonE = true) →
    (∃ (g : Nat) (s : Slot), d ≤ g ∧ g < e ∧ ss[pos key ss.length g]? = some s ∧ s.live = true ∧ s.key = key ∧ findM ss key k (pos key ss.length d) free = some (((pos key ss.length g : Nat) : Int), true)) ∨
    ((∀ (g : Nat) (s : Slot), d ≤ g → g < e → ss[pos key ss.length g]? = some s → s.live = true → s.key = key → False) ∧
      ∃ r, findM ss key k (pos key ss.length d) free = some (r, false) ∧ (0 ≤ free → r = free) ∧
        (free < 0 → ∃ (g : Nat) (s : Slot), d ≤ g ∧ g ≤ e ∧ r = ((pos key ss.length g : Nat) : Int) ∧ ss[pos key ss.length g]? = some s ∧ s.live = false ∧ ∀ g', d ≤ g' → g' < g → ∃ u : Slot, ss[pos key ss.length g']? = some u ∧ u.nonE = true)) := by
  intro k
  induction k with
  | zero => intro d e free _ h; omega
  | succ k ih =>
    intro d e free hde hlt hE hN
    by_cases he : d = e
    · subst he
      obtain ⟨s, hs, hs0⟩ := hE
      simp only [Slot.nonE, Bool.or_eq_false_iff] at hs0
      refine .inr ⟨fun g s h1 h2 => by omega, ?_⟩
      simp only [findM, hs, hs0.1, hs0.2]
      by_cases hf : free < 0
      · exact ⟨_, by simp [hf], fun h => by omega, fun _ => ⟨d, s, Nat.le_refl _, Nat.le_refl _, rfl, hs, hs0.1, fun g' h1 h2 => by omega⟩⟩
      · exact ⟨free, by simp [hf], fun _ => rfl, fun h => absurd h hf⟩
    · obtain ⟨s, hs, hs1⟩ := hN d (Nat.le_refl _) (by omega)
      have again := fun free' => ih (d + 1) e free' (by omega) (by omega) hE (fun g h1 h2 => hN g (by omega) h2)
      simp only [findM, hs]
      by_cases hm : s.live = true ∧ (s.key.toList == key.toList) = true
      · rw [if_pos hm]
        exact .inl ⟨d, s, Nat.le_refl _, by omega, hs, hm.1, keq.1 hm.2, rfl⟩
      · rw [if_neg hm]
        have nom : s.live = true → s.key = key → False := fun h1 h2 => hm ⟨h1, keq.2 h2⟩
        rw [pos_succ]
        have left : ∀ free', (∃ (g : Nat) (s : Slot), d + 1 ≤ g ∧ g < e ∧ ss[pos key ss.length g]? = some s ∧ s.live = true ∧ s.key = key ∧ findM ss key k (pos key ss.length (d + 1)) free' = some (((pos key ss.length g : Nat) : Int), true)) →
            ∃ (g : Nat) (s : Slot), d ≤ g ∧ g < e ∧ ss[pos key ss.length g]? = some s ∧ s.live = true ∧ s.key = key ∧ findM ss key k (pos key ss.length (d + 1)) free' = some (((pos key ss.length g : Nat) : Int), true) :=
          fun _ ⟨g, s, h1, h2⟩ => ⟨g, s, by omega, h2⟩
        have none_ : (∀ (g : Nat) (s : Slot), d + 1 ≤ g → g < e → ss[pos key ss.length g]? = some s → s.live = true → s.key = key → False) → ∀ (g : Nat) (s : Slot), d ≤ g → g < e → ss[pos key ss.length g]? = some s → s.live = true → s.key = key → False := by
          intro h g u h1 h2 h3 h4 h5
          by_cases hg : g = d
          · subst hg; rw [hs] at h3; injection h3 with h3; subst h3; exact nom h4 h5
          · exact h g u (by omega) h2 h3 h4 h5
        by_cases hd : s.dead = true ∧ free < 0
        · rw [if_pos hd]
          have hl : s.live = false := by cases hlv : s.live with
            | false => rfl
            | true => exact (hk _ s hs hlv hd.1).elim
          rcases again ((pos key ss.length d : Nat) : Int) with h | ⟨h1, r, h2, h3, _⟩
          · exact .inl (left _ h)
          · exact .inr ⟨none_ h1, r, h2, fun h => by omega, fun _ => ⟨d, s, Nat.le_refl _, hde, h3 (by omega), hs, hl, fun g' h1 h2 => by omega⟩⟩
        · rw [if_neg hd]
          have hne : ¬ (s.live = false ∧ s.dead = false) := by
            rintro ⟨h1, h2⟩; simp [Slot.nonE, h1, h2] at hs1
          rw [if_neg hne]
          rcases again free with h | ⟨h1, r, h2, h3, h4⟩
          · exact .inl (left _ h)
          · refine .inr ⟨none_ h1, r, h2, h3, fun hf => ?_⟩
            obtain ⟨g, u, g1, g2, g3, g4, g5, g6⟩ := h4 hf
            refine ⟨g, u, by omega, g2, g3, g4, g5, fun g' h1 h2 => ?_⟩
            by_cases hg : g' = d
            · subst hg; exact ⟨s, hs, hs1⟩
            · exact g6 g' (by omega) h2

theorem empty_of_ne {ss : List Slot} (h : ne ss < ss.length) : ∃ (i : Nat) (s : Slot), ss[i]? = some s ∧ s.nonE = false := by
  unfold ne at h
  apply Classical.byContradiction
  intro hno
  have : ss.countP Slot.nonE = ss.length := List.countP_eq_length.2 fun s hs => by
    obtain ⟨i, hi⟩ := List.getElem?_of_mem hs
    cases hb : s.nonE with
    | true => rfl
    | false => exact absurd ⟨i, s, hi, hb⟩ hno
  omega

/-- what 'find' comes to -/
theorem find_total {ss : List Slot} (hg : Good ss) (hne : ne ss < ss.length) (key : ByteArray) :
    (∃ (i : Nat) (s : Slot), findF ss key = some ((i : Int), true) ∧ ss[i]? = some s ∧ s.live = true ∧ s.key = key) ∨
    ((∀ (i : Nat) (s : Slot), ss[i]? = some s → s.live = true → s.key = key → False) ∧ ∃ (g : Nat) (s : Slot), findF ss key = some (((pos key ss.length g : Nat) : Int), false) ∧ ss[pos key ss.length g]? = some s ∧ s.live = false ∧
      ∀ g', g' < g → ∃ u : Slot, ss[pos key ss.length g']? = some u ∧ u.nonE = true) := by
  have hn : 0 < ss.length := by omega
  obtain ⟨i0, s0, hi0, hs0⟩ := empty_of_ne hne
  have hi0l : i0 < ss.length := by
    rcases Nat.lt_or_ge i0 ss.length with h | h
    · exact h
    · rw [List.getElem?_eq_none h] at hi0; cases hi0
  obtain ⟨d0, hd0, hp0⟩ := pos_onto key hn hi0l
  let E : Nat → Prop := fun d => ∃ s : Slot, ss[pos key ss.length d]? = some s ∧ s.nonE = false
  have hE := leastOf_spec (p := E) ⟨d0, s0, by rw [hp0]; exact hi0, hs0⟩
  generalize leastOf E = e at hE
  obtain ⟨he, hmin⟩ := hE
  have hed : e ≤ d0 := hmin d0 ⟨s0, by rw [hp0]; exact hi0, hs0⟩
  have hbefore : ∀ g, 0 ≤ g → g < e → ∃ s : Slot, ss[pos key ss.length g]? = some s ∧ s.nonE = true := by
    intro g _ hge
    have hl := pos_lt key hn g
    refine ⟨_, List.getElem?_eq_getElem hl, ?_⟩
    cases hb : (ss[pos key ss.length g]).nonE with
    | true => rfl
    | false => have := hmin g ⟨_, List.getElem?_eq_getElem hl, hb⟩; omega
  have hz := pos_zero key hn
  rcases find_spec hg.kinds key ss.length 0 e (-1) (Nat.zero_le _) (by omega) he hbefore with ⟨g, s, _, h2, h3, h4, h5, h6⟩ | ⟨h1, r, h2, _, h4⟩
  · rw [hz] at h6
    exact .inl ⟨_, s, h6, h3, h4, h5⟩
  · rw [hz] at h2
    refine .inr ⟨fun i s hi hl hkk => ?_, ?_⟩
    · obtain ⟨d, hd, hdn⟩ := hg.reach i s hi hl
      rw [hkk] at hd hdn
      have hde : d < e := by
        rcases Nat.lt_or_ge d e with h | h
        · exact h
        · exfalso
          obtain ⟨se, hse, hse0⟩ := he
          by_cases hde : d = e
          · subst hde
            rw [hd, hi] at hse; injection hse with hse; subst hse
            simp [Slot.nonE, hl] at hse0
          · obtain ⟨u, hu, hu1⟩ := hdn e (by omega)
            rw [hse] at hu; injection hu with hu; subst hu
            rw [hse0] at hu1; cases hu1
      exact h1 d s (Nat.zero_le _) hde (by rw [hd]; exact hi) hl hkk
    · obtain ⟨g, s, _, _, e3, e4, e5, e6⟩ := h4 (by omega)
      exact ⟨g, s, by rw [← e3]; exact h2, e4, e5, fun g' hg' => e6 g' (Nat.zero_le _) hg'⟩

/-! ### a finite map -/
abbrev KV := ByteArray → Option Int
def Maps (ss : List Slot) (M : KV) : Prop := ∀ key v, M key = some v ↔ ∃ (i : Nat) (s : Slot), ss[i]? = some s ∧ s.live = true ∧ s.key = key ∧ s.value = v
def KV.put (M : KV) (key : ByteArray) (v : Int) : KV := fun k => if k = key then some v else M k
def KV.del (M : KV) (key : ByteArray) : KV := fun k => if k = key then none else M k
theorem lt_of_get {ss : List Slot} {i : Nat} {s : Slot} (h : ss[i]? = some s) : i < ss.length := by
  rcases Nat.lt_or_ge i ss.length with h' | h'
  · exact h'
  · rw [List.getElem?_eq_none h'] at h; cases h
theorem get_set {ss : List Slot} {a : Nat} {s0 new : Slot} (ha : ss[a]? = some s0) (j : Nat) : (ss.set a new)[j]? = if j = a then some new else ss[j]? := by
  rw [List.getElem?_set]
  by_cases h : a = j
  · subst h; simp [lt_of_get ha]
  · rw [if_neg h, if_neg (fun e => h e.symm)]

/-- a word is laid where it may be -/
theorem set_good {ss : List Slot} (hg : Good ss) {a : Nat} {s0 : Slot} (ha : ss[a]? = some s0) {key : ByteArray} (hks : key.size ≤ 9223372036854775807) (v : Int) (hold : s0.live = true → s0.key = key)
    (honly : ∀ (i : Nat) (s : Slot), ss[i]? = some s → s.live = true → s.key = key → i = a) (hreach : ∃ d, pos key ss.length d = a ∧ ∀ d', d' < d → ∃ u : Slot, ss[pos key ss.length d']? = some u ∧ u.nonE = true) :
    Good (ss.set a ⟨key, v, true, false⟩) ∧ ∀ M, Maps ss M → Maps (ss.set a ⟨key, v, true, false⟩) (M.put key v) := by
  have gs := fun j => get_set (new := ⟨key, v, true, false⟩) ha j
  have keep : ∀ (j : Nat) (u : Slot), ss[j]? = some u → u.nonE = true → ∃ u' : Slot, (ss.set a ⟨key, v, true, false⟩)[j]? = some u' ∧ u'.nonE = true := by
    intro j u hj hu
    rw [gs]; split
    · exact ⟨_, rfl, rfl⟩
    · exact ⟨u, hj, hu⟩
  refine ⟨⟨fun i s h hl hd => ?_, fun i j s u hi hj hs hu he => ?_, fun i s h hl => ?_, fun s hs => ?_⟩, fun M hM k x => ?_⟩
  · rw [gs] at h; split at h
    · injection h with h; subst h; cases hd
    · exact hg.kinds i s h hl hd
  · rw [gs] at hi hj
    split at hi
    · rename_i e1
      split at hj
      · rename_i e2; rw [e1, e2]
      · injection hi with hi; subst hi; rw [e1]; exact (honly j u hj hu he.symm).symm
    · split at hj
      · rename_i e2; injection hj with hj; subst hj; rw [e2]; exact honly i s hi hs he
      · exact hg.uniq i j s u hi hj hs hu he
  · rw [gs] at h; rw [List.length_set]
    split at h
    · rename_i e; injection h with h; subst h
      obtain ⟨d, h1, h2⟩ := hreach
      exact ⟨d, by rw [e]; exact h1, fun d' hd' => by obtain ⟨u, hu, hu1⟩ := h2 d' hd'; exact keep _ u hu hu1⟩
    · obtain ⟨d, h1, h2⟩ := hg.reach i s h hl
      exact ⟨d, h1, fun d' hd' => by obtain ⟨u, hu, hu1⟩ := h2 d' hd'; exact keep _ u hu hu1⟩
  · rcases List.mem_or_eq_of_mem_set hs with h | h
    · exact hg.keys s h
    · subst h; exact hks
  · simp only [KV.put]
    split
    · rename_i e; subst e
      constructor
      · intro h; injection h with h; subst h; exact ⟨a, _, by rw [gs, if_pos rfl], rfl, rfl, rfl⟩
      · rintro ⟨i, s, hi, h1, h2, h3⟩
        rw [gs] at hi; split at hi
        · injection hi with hi; subst hi; exact congrArg some h3
        · rename_i hne; exact absurd (honly i s hi h1 h2) hne
    · rename_i hne
      rw [hM]
      constructor
      · rintro ⟨i, s, hi, h1, h2, h3⟩
        refine ⟨i, s, ?_, h1, h2, h3⟩
        rw [gs, if_neg]
        · exact hi
        · rintro rfl; rw [ha] at hi; injection hi with hi; subst hi; exact hne (h2.symm.trans (hold h1))
      · rintro ⟨i, s, hi, h1, h2, h3⟩
        rw [gs] at hi; split at hi
        · injection hi with hi; subst hi; exact absurd h2.symm hne
        · exact ⟨i, s, hi, h1, h2, h3⟩

theorem tomb_good {ss : List Slot} (hg : Good ss) {a : Nat} {s0 : Slot} (ha : ss[a]? = some s0) (hl0 : s0.live = true) :
    Good (ss.set a ⟨⟨#[]⟩, 0, false, true⟩) ∧ ∀ M, Maps ss M → Maps (ss.set a ⟨⟨#[]⟩, 0, false, true⟩) (M.del s0.key) := by
  have gs := fun j => get_set (new := ⟨⟨#[]⟩, 0, false, true⟩) ha j
  have keep : ∀ (j : Nat) (u : Slot), ss[j]? = some u → u.nonE = true → ∃ u' : Slot, (ss.set a ⟨⟨#[]⟩, 0, false, true⟩)[j]? = some u' ∧ u'.nonE = true := by
    intro j u hj hu
    rw [gs]; split
    · exact ⟨_, rfl, rfl⟩
    · exact ⟨u, hj, hu⟩
  have old : ∀ {j : Nat} {s : Slot}, (ss.set a ⟨⟨#[]⟩, 0, false, true⟩)[j]? = some s → s.live = true → ss[j]? = some s ∧ j ≠ a := by
    intro j s h hl
    rw [gs] at h; split at h
    · injection h with h; subst h; cases hl
    · rename_i hne; exact ⟨h, hne⟩
  refine ⟨⟨fun i s h hl hd => hg.kinds i s (old h hl).1 hl hd, fun i j s u hi hj hs hu he => hg.uniq i j s u (old hi hs).1 (old hj hu).1 hs hu he, fun i s h hl => ?_, fun s hs => ?_⟩, fun M hM k x => ?_⟩
  · obtain ⟨d, h1, h2⟩ := hg.reach i s (old h hl).1 hl
    rw [List.length_set]
    exact ⟨d, h1, fun d' hd' => by obtain ⟨u, hu, hu1⟩ := h2 d' hd'; exact keep _ u hu hu1⟩
  · rcases List.mem_or_eq_of_mem_set hs with h | h
    · exact hg.keys s h
    · subst h; exact Nat.zero_le _
  · simp only [KV.del]
    split
    · rename_i e; subst e
      constructor
      · intro h; cases h
      · rintro ⟨i, s, hi, h1, h2, h3⟩
        obtain ⟨h4, h5⟩ := old hi h1
        exact absurd (hg.uniq i a s s0 h4 ha h1 hl0 h2) h5
    · rename_i hne
      rw [hM]
      constructor
      · rintro ⟨i, s, hi, h1, h2, h3⟩
        refine ⟨i, s, ?_, h1, h2, h3⟩
        rw [gs, if_neg]
        · exact hi
        · rintro rfl; rw [ha] at hi; injection hi with hi; subst hi; exact hne h2.symm
      · rintro ⟨i, s, hi, h1, h2, h3⟩
        exact ⟨i, s, (old hi h1).1, h1, h2, h3⟩
theorem ne_set {ss : List Slot} {a : Nat} {s0 : Slot} (ha : ss[a]? = some s0) (new : Slot) : ne (ss.set a new) = ne ss - (if s0.nonE then 1 else 0) + (if new.nonE then 1 else 0) := by
  have hl := lt_of_get ha
  rw [List.getElem?_eq_getElem hl] at ha; injection ha with ha
  rw [ne, List.countP_set hl, ha]; rfl
theorem lv_set {ss : List Slot} {a : Nat} {s0 : Slot} (ha : ss[a]? = some s0) (new : Slot) : lv (ss.set a new) = lv ss - (if s0.live then 1 else 0) + (if new.live then 1 else 0) := by
  have hl := lt_of_get ha
  rw [List.getElem?_eq_getElem hl] at ha; injection ha with ha
  rw [lv, List.countP_set hl, ha]; rfl
theorem ne_pos {ss : List Slot} {a : Nat} {s0 : Slot} (ha : ss[a]? = some s0) (h : s0.nonE = true) : 0 < ne ss := List.countP_pos_iff.2 ⟨s0, List.mem_of_getElem? ha, h⟩
theorem lv_pos {ss : List Slot} {a : Nat} {s0 : Slot} (ha : ss[a]? = some s0) (h : s0.live = true) : 0 < lv ss := List.countP_pos_iff.2 ⟨s0, List.mem_of_getElem? ha, h⟩
end Go.Proofs.YtcdajekafnggkaaGreatDoor.Tb
/- The plain law of the table: what Put, Get and Del make of a finite map. -/
set_option linter.unusedVariables false
set_option linter.unusedSimpArgs false
namespace Go.Proofs.YtcdajekafnggkaaGreatDoor.Tb
open Go.Px
variable {xm : Nat}

theorem rep_get {n i : Nat} {s : Slot} (h : (List.replicate n noSlot)[i]? = some s) : s = noSlot := by
  rw [List.getElem?_replicate] at h; split at h
  · injection h with h; exact h.symm
  · cases h
theorem rep_good (n : Nat) : Good (List.replicate n noSlot) := by
  refine ⟨fun i s h hl => ?_, fun i j s u hi hj hs => ?_, fun i s h hl => ?_, fun s hs => ?_⟩
  · rw [rep_get h] at hl; cases hl
  · rw [rep_get hi] at hs; cases hs
  · rw [rep_get h] at hl; cases hl
  · rw [List.eq_of_mem_replicate hs]; exact Nat.zero_le _
theorem rep_maps (n : Nat) : Maps (List.replicate n noSlot) (fun _ => none) := by
  intro k v
  constructor
  · intro h; cases h
  · rintro ⟨i, s, h, hl, _⟩; rw [rep_get h] at hl; cases hl
theorem rep_ne (n : Nat) : ne (List.replicate n noSlot) = 0 ∧ lv (List.replicate n noSlot) = 0 :=
  ⟨List.countP_eq_zero.2 fun s hs => by rw [List.eq_of_mem_replicate hs]; simp [Slot.nonE, noSlot], List.countP_eq_zero.2 fun s hs => by rw [List.eq_of_mem_replicate hs]; simp [noSlot]⟩

/-- to lay anew, one behind the other: words that are not there yet -/
theorem growM_ok : ∀ (old new : List Slot) (M : KV), Good new → Maps new M → lv new = ne new → ne new + lv old < new.length → small old →
    (∀ (i j : Nat) (s u : Slot), old[i]? = some s → old[j]? = some u → s.live = true → u.live = true → s.key = u.key → i = j) → (∀ s ∈ old, s.live = true → s.dead = true → False) → (∀ s ∈ old, s.live = true → M s.key = none) →
    ∃ fin, growM old new = some fin ∧ fin.length = new.length ∧ Good fin ∧ lv fin = ne fin ∧ ne fin = ne new + lv old ∧
      ∃ M', Maps fin M' ∧ ∀ k v, M' k = some v ↔ M k = some v ∨ ∃ s ∈ old, s.live = true ∧ s.key = k ∧ s.value = v
  | [], new, M, hg, hM, hln, hc, _, _, _, _ => ⟨new, rfl, rfl, hg, hln, by simp [lv], M, hM, fun k v => by simp⟩
  | s :: old, new, M, hg, hM, hln, hc, hsm, hun, hkd, hfr => by
    have hsm' : small old := fun u hu => hsm u (List.mem_cons_of_mem _ hu)
    have hun' : ∀ i j (s u : Slot), old[i]? = some s → old[j]? = some u → s.live = true → u.live = true → s.key = u.key → i = j := fun i j s' u hi hj h1 h2 h3 => by
      have := hun (i + 1) (j + 1) s' u (by simpa using hi) (by simpa using hj) h1 h2 h3; omega
    cases hl : s.live with
    | false =>
      have hlv : lv (s :: old) = lv old := by simp [lv, hl]
      obtain ⟨fin, h1, h2, h3, h4, h5, M', h6, h7⟩ := growM_ok old new M hg hM hln (by omega) hsm' hun' (fun u hu => hkd u (List.mem_cons_of_mem _ hu)) (fun u hu => hfr u (List.mem_cons_of_mem _ hu))
      refine ⟨fin, by simp only [growM, hl, Bool.false_eq_true, if_false]; exact h1, h2, h3, h4, by omega, M', h6, fun k v => ?_⟩
      rw [h7]
      constructor
      · rintro (h | ⟨u, hu, h⟩)
        · exact .inl h
        · exact .inr ⟨u, List.mem_cons_of_mem _ hu, h⟩
      · rintro (h | ⟨u, hu, h⟩)
        · exact .inl h
        · rcases List.mem_cons.1 hu with rfl | hu
          · rw [hl] at h; cases h.1
          · exact .inr ⟨u, hu, h⟩
    | true =>
      have hlv : lv (s :: old) = lv old + 1 := by simp [lv, hl]
      have hnone : M s.key = none := hfr s (List.mem_cons_self ..) hl
      have hab : ∀ (i : Nat) (u : Slot), new[i]? = some u → u.live = true → u.key = s.key → False := fun i u hi h1 h2 => by
        have := (hM s.key u.value).2 ⟨i, u, hi, h1, h2, rfl⟩
        rw [hnone] at this; cases this
      rcases find_total hg (by omega) s.key with ⟨i, u, _, hi, h1, h2⟩ | ⟨_, g, u, hf, hu, hul, hpre⟩
      · exact (hab i u hi h1 h2).elim
      · have hks := hsm s (List.mem_cons_self ..)
        have hud : u.dead = false := by
          cases hd : u.dead with
          | false => rfl
          | true =>
            exfalso
            -- more slots that are not empty than live ones
            have h1 := lv_set hu (⟨u.key, u.value, true, false⟩)
            have h2 := ne_set hu (⟨u.key, u.value, true, false⟩)
            simp [Slot.nonE, hul, hd] at h1 h2
            have h3 := ne_pos hu (by simp [Slot.nonE, hd])
            have h4 : lv (new.set (pos s.key new.length g) ⟨u.key, u.value, true, false⟩) ≤ ne (new.set (pos s.key new.length g) ⟨u.key, u.value, true, false⟩) := List.countP_mono_left fun x _ hx => by simp [Slot.nonE, hx]
            omega
        obtain ⟨hg', hM'⟩ := set_good hg hu hks s.value (fun h => by rw [hul] at h; cases h) (fun i u hi h1 h2 => (hab i u hi h1 h2).elim) ⟨g, rfl, hpre⟩
        have hsd : s.dead = false := by
          cases hd : s.dead with
          | false => rfl
          | true => exact (hkd s (List.mem_cons_self ..) hl hd).elim
        have e : (⟨s.key, s.value, true, false⟩ : Slot) = s := by
          obtain ⟨k, v, l, d⟩ := s
          dsimp only at hl hsd
          rw [hl, hsd]
        rw [e] at hg' hM'
        have hne' := ne_set hu s
        have hlv' := lv_set hu s
        simp only [Slot.nonE, hul, hud, hl, Bool.or_self, Bool.true_or, Bool.false_eq_true, if_false, if_true, Nat.sub_zero] at hne' hlv'
        have hlt := lt_of_get hu
        have hfresh : ∀ u ∈ old, u.live = true → (M.put s.key s.value) u.key = none := by
          intro u hu hul'
          simp only [KV.put]
          obtain ⟨i, hi⟩ := List.getElem?_of_mem hu
          rw [if_neg (fun he => by have := hun (i + 1) 0 u s (by simpa using hi) rfl hul' hl he; omega)]
          exact hfr u (List.mem_cons_of_mem _ hu) hul'
        obtain ⟨fin, h1, h2, h3, h4, h5, M', h6, h7⟩ := growM_ok old (new.set (pos s.key new.length g) s) (M.put s.key s.value) hg' (hM' M hM) (by omega) (by rw [List.length_set]; omega) hsm' hun' (fun u hu => hkd u (List.mem_cons_of_mem _ hu)) hfresh
        refine ⟨fin, ?_, by rw [h2, List.length_set], h3, h4, by omega, M', h6, fun k v => ?_⟩
        · simp only [growM, hl, if_true, hf]
          rw [if_pos (by omega)]
          exact h1
        · rw [h7]
          simp only [KV.put]
          constructor
          · rintro (h | ⟨u, hu, h⟩)
            · split at h
              · rename_i ek; injection h with h; exact .inr ⟨s, List.mem_cons_self .., hl, ek.symm, h⟩
              · exact .inl h
            · exact .inr ⟨u, List.mem_cons_of_mem _ hu, h⟩
          · rintro (h | ⟨u, hu, h⟩)
            · left
              rw [if_neg (fun ek => by rw [ek, hnone] at h; cases h)]
              exact h
            · rcases List.mem_cons.1 hu with rfl | hu
              · left; rw [if_pos h.2.1.symm, h.2.2]
              · exact .inr ⟨u, hu, h⟩

/-! ### the table as a whole; 'B': how many words there may be -/
def TI (B : Nat) (t : Tbl) (M : KV) : Prop :=
  (t.ss = [] ∧ t.live = 0 ∧ t.full = 0 ∧ M = fun _ => none) ∨
  (t.ss ≠ [] ∧ Good t.ss ∧ Maps t.ss M ∧ lv t.ss = t.live ∧ ne t.ss = t.full ∧ 2 * t.full ≤ t.ss.length ∧ 8 ≤ t.ss.length ∧ t.live ≤ B ∧ t.ss.length ≤ 8 + 4 * B)
theorem lv_le_ne (ss : List Slot) : lv ss ≤ ne ss := List.countP_mono_left fun x _ hx => by simp [Slot.nonE, hx]
theorem TI.ok {B : Nat} {t : Tbl} {M : KV} (h : TI B t M) (hB : B ≤ 1073741824) : t.Ok := by
  rcases h with ⟨h0, h1, h2, _⟩ | ⟨_, hg, _, h1, h2, h3, h4, h5, h6⟩
  · exact ⟨by omega, by omega, by rw [h0]; simp, by rw [h0]; intro s hs; cases hs⟩
  · exact ⟨by omega, by omega, by omega, hg.keys⟩

theorem grown_ok {B : Nat} {t : Tbl} {M : KV} (h : TI B t M) : ∃ t1, grownM t = some t1 ∧ t1.ss ≠ [] ∧ t1.live = t.live ∧ TI B t1 M ∧ 2 * (t1.full + 1) ≤ t1.ss.length ∧ (t1.ss.length = t.ss.length ∨ t1.ss.length = growN t.live) := by
  unfold grownM
  by_cases hgt : 2 * (t.full + 1) > t.ss.length
  · rw [if_pos hgt]
    have hN : 8 ≤ growN t.live ∧ 4 * t.live ≤ growN t.live ∧ growN t.live ≤ 8 + 4 * t.live ∧ 2 * (t.live + 1) ≤ growN t.live := by unfold growN; split <;> omega
    have hr := rep_ne (growN t.live)
    have hlen : (List.replicate (growN t.live) noSlot).length = growN t.live := by simp
    have key : ∀ (hg : Good t.ss) (hM : Maps t.ss M) (h1 : lv t.ss = t.live), ∃ fin, growM t.ss (List.replicate (growN t.live) noSlot) = some fin ∧ fin.length = growN t.live ∧ Good fin ∧ lv fin = t.live ∧ ne fin = t.live ∧ Maps fin M := by
      intro hg hM h1
      obtain ⟨fin, e1, e2, e3, e4, e5, M', e6, e7⟩ := growM_ok t.ss (List.replicate (growN t.live) noSlot) (fun _ => none) (rep_good _) (rep_maps _) (by omega) (by rw [hlen]; omega) hg.keys hg.uniq
        (fun s hs => by obtain ⟨i, hi⟩ := List.getElem?_of_mem hs; exact hg.kinds i s hi) (fun _ _ _ => rfl)
      refine ⟨fin, e1, by omega, e3, by omega, by omega, ?_⟩
      have : M' = M := by
        funext k
        have hk : ∀ v, M' k = some v ↔ M k = some v := by
          intro v
          rw [e7, hM]
          constructor
          · rintro (h | ⟨s, hs, h⟩)
            · cases h
            · obtain ⟨i, hi⟩ := List.getElem?_of_mem hs; exact ⟨i, s, hi, h⟩
          · rintro ⟨i, s, hi, h⟩; exact .inr ⟨s, List.mem_of_getElem? hi, h⟩
        cases h1 : M k with
        | none => cases h2 : M' k with
          | none => rfl
          | some v => have := (hk v).1 h2; rw [h1] at this; cases this
        | some v => exact (hk v).2 h1
      rw [← this]; exact e6
    have fin : ∀ fin, growM t.ss (List.replicate (growN t.live) noSlot) = some fin → fin.length = growN t.live → Good fin → lv fin = t.live → ne fin = t.live → Maps fin M → t.live ≤ B →
        ∃ t1, (growM t.ss (List.replicate (growN t.live) noSlot)).map (fun new => (⟨new, t.live, t.live⟩ : Tbl)) = some t1 ∧ t1.ss ≠ [] ∧ t1.live = t.live ∧ TI B t1 M ∧ 2 * (t1.full + 1) ≤ t1.ss.length ∧ (t1.ss.length = t.ss.length ∨ t1.ss.length = growN t.live) := by
      intro fin e1 e2 e3 e4 e5 e6 hB
      have hne : fin ≠ [] := fun h => by rw [h] at e2; simp at e2; omega
      exact ⟨⟨fin, t.live, t.live⟩, by rw [e1]; rfl, hne, rfl, .inr ⟨hne, e3, e6, e4, e5, by dsimp only; omega, by dsimp only; omega, hB, by dsimp only; omega⟩, by dsimp only; omega, .inr e2⟩
    rcases h with ⟨h0, h1, h2, h3⟩ | ⟨h0, hg, hM, h1, h2, h3, h4, h5, h6⟩
    · have hg0 : Good t.ss := by rw [h0]; exact ⟨fun i s h => by simp at h, fun i j s u h => by simp at h, fun i s h => by simp at h, fun s hs => by cases hs⟩
      have hM0 : Maps t.ss M := by
        rw [h3, h0]; intro k v
        constructor
        · intro h; cases h
        · rintro ⟨i, s, h, _⟩; simp at h
      obtain ⟨f, e1, e2, e3, e4, e5, e6⟩ := key hg0 hM0 (by rw [h0, h1]; rfl)
      exact fin f e1 e2 e3 e4 e5 e6 (by omega)
    · obtain ⟨f, e1, e2, e3, e4, e5, e6⟩ := key hg hM h1
      exact fin f e1 e2 e3 e4 e5 e6 h5
  · rw [if_neg hgt]
    have hne : t.ss ≠ [] := fun h0 => by rw [h0] at hgt; simp at hgt
    exact ⟨t, rfl, hne, rfl, h, by omega, .inl rfl⟩

theorem putM_ok {B B' : Nat} {t : Tbl} {M : KV} (h : TI B t M) (hBB : B ≤ B') (key : ByteArray) (v : Int) (hks : key.size ≤ 9223372036854775807) (hB : M key = none → t.live + 1 ≤ B') :
    ∃ t', putM t key v = some (t', (M key).isNone) ∧ TI B' t' (M.put key v) ∧ t'.live = (if (M key).isNone then t.live + 1 else t.live) ∧ (t'.ss.length = t.ss.length ∨ t'.ss.length = growN t.live) := by
  obtain ⟨t1, e1, e2, e3, e4, e5, e6⟩ := grown_ok h
  rcases e4 with ⟨h0, _⟩ | ⟨_, hg, hM, h1, h2, h3, h4, h5, h6⟩
  · exact absurd h0 e2
  have hf := find_total hg (by omega) key
  unfold putM
  rw [e1]
  simp only [Option.bind_some]
  unfold putAt
  rcases hf with ⟨i, s, hf, hi, hl, hk⟩ | ⟨hno, g, s, hf, hi, hl, hpre⟩
  · have hMk : M key = some s.value := (hM key _).2 ⟨i, s, hi, hl, hk, rfl⟩
    obtain ⟨d, hd, hd'⟩ := hg.reach i s hi hl
    rw [hk] at hd hd'
    obtain ⟨hg', hM'⟩ := set_good hg hi hks v (fun _ => hk) (fun j u hj hu hkk => hg.uniq j i u s hj hi hu hl (hkk.trans hk.symm)) ⟨d, hd, hd'⟩
    have a1 := ne_set hi (⟨key, v, true, false⟩)
    have a2 := lv_set hi (⟨key, v, true, false⟩)
    have a3 := lv_pos hi hl
    have a4 := lv_le_ne t1.ss
    simp [Slot.nonE, hl] at a1 a2
    rw [hf, hMk]
    simp only [Int.toNat_natCast, hi, if_true, Option.isNone_some]
    rw [if_pos (by omega)]
    refine ⟨_, rfl, .inr ⟨by simpa using e2, hg', hM' M hM, ?_, ?_, ?_, ?_, ?_, ?_⟩, ?_, ?_⟩ <;> (try dsimp only) <;> (try rw [List.length_set]) <;> (try simp) <;> omega
  · have hMk : M key = none := by
      cases hm : M key with
      | none => rfl
      | some x => obtain ⟨i, u, hiu, h1, h2, _⟩ := (hM key x).1 hm; exact (hno i u hiu h1 h2).elim
    obtain ⟨hg', hM'⟩ := set_good hg hi hks v (fun h => by rw [hl] at h; cases h) (fun j u hj hu hkk => (hno j u hj hu hkk).elim) ⟨g, rfl, hpre⟩
    have a1 := ne_set hi (⟨key, v, true, false⟩)
    have a2 := lv_set hi (⟨key, v, true, false⟩)
    have hB' := hB hMk
    rw [hf, hMk]
    simp only [Int.toNat_natCast, hi, Option.isNone_none, Bool.not_false, Bool.false_eq_true, if_false, if_true]
    rw [if_pos (by omega)]
    cases hd : s.dead with
    | true =>
      have a3 := ne_pos hi (by simp [Slot.nonE, hd])
      simp [Slot.nonE, hl, hd] at a1 a2
      refine ⟨_, rfl, .inr ⟨by simpa using e2, hg', hM' M hM, ?_, ?_, ?_, ?_, ?_, ?_⟩, ?_, ?_⟩ <;> (try dsimp only) <;> (try rw [List.length_set]) <;> (try simp) <;> omega
    | false =>
      simp [Slot.nonE, hl, hd] at a1 a2
      refine ⟨_, rfl, .inr ⟨by simpa using e2, hg', hM' M hM, ?_, ?_, ?_, ?_, ?_, ?_⟩, ?_, ?_⟩ <;> (try dsimp only) <;> (try rw [List.length_set]) <;> (try simp) <;> omega

theorem getM_ok {B : Nat} {t : Tbl} {M : KV} (h : TI B t M) (key : ByteArray) : getM t key = some ((M key).getD 0, (M key).isSome) := by
  unfold getM
  rcases h with ⟨h0, _, _, h3⟩ | ⟨h0, hg, hM, h1, h2, h3, h4, h5, h6⟩
  · rw [if_pos h0, h3]; rfl
  · rw [if_neg h0]
    rcases find_total hg (by omega) key with ⟨i, s, hf, hi, hl, hk⟩ | ⟨hno, g, s, hf, hi, hl, hpre⟩
    · have hMk : M key = some s.value := (hM key _).2 ⟨i, s, hi, hl, hk, rfl⟩
      rw [hf, hMk]
      simp [hi]
    · have hMk : M key = none := by
        cases hm : M key with
        | none => rfl
        | some x => obtain ⟨i, u, hiu, h1, h2, _⟩ := (hM key x).1 hm; exact (hno i u hiu h1 h2).elim
      rw [hf, hMk]
      simp

theorem delM_ok {B : Nat} {t : Tbl} {M : KV} (h : TI B t M) (key : ByteArray) :
    ∃ t', delM t key = some (t', (M key).isSome) ∧ TI B t' (M.del key) ∧ t'.ss.length = t.ss.length ∧ ((M key).isSome = true → 0 < t.live) ∧ t'.live = (if (M key).isSome then t.live - 1 else t.live) := by
  unfold delM
  have nodel : M key = none → M.del key = M := fun hk => by
    funext k; simp only [KV.del]; split
    · rename_i e; subst e; exact hk.symm
    · rfl
  rcases h with ⟨h0, hl0, hf0, h3⟩ | ⟨h0, hg, hM, h1, h2, h3, h4, h5, h6⟩
  · have hMk : M key = none := by rw [h3]
    rw [if_pos h0, nodel hMk, hMk]
    exact ⟨t, rfl, .inl ⟨h0, hl0, hf0, h3⟩, rfl, (fun h => by cases h), rfl⟩
  · rw [if_neg h0]
    rcases find_total hg (by omega) key with ⟨i, s, hf, hi, hl, hk⟩ | ⟨hno, g, s, hf, hi, hl, hpre⟩
    · have hMk : M key = some s.value := (hM key _).2 ⟨i, s, hi, hl, hk, rfl⟩
      have hlt := lt_of_get hi
      obtain ⟨hg', hM'⟩ := tomb_good hg hi hl
      rw [hk] at hM'
      have a1 := ne_set hi (⟨⟨#[]⟩, 0, false, true⟩)
      have a2 := lv_set hi (⟨⟨#[]⟩, 0, false, true⟩)
      have a3 := lv_pos hi hl
      have a4 := ne_pos hi (by simp [Slot.nonE, hl])
      simp [Slot.nonE, hl] at a1 a2
      rw [hf, hMk]
      simp only [Int.toNat_natCast, if_true, Option.isSome_some]
      rw [if_pos (by omega)]
      refine ⟨_, rfl, .inr ⟨by simpa using h0, hg', hM' M hM, ?_, ?_, ?_, ?_, ?_, ?_⟩, ?_, ?_, ?_⟩ <;> (try dsimp only) <;> (try rw [List.length_set]) <;> (try simp) <;> omega
    · have hMk : M key = none := by
        cases hm : M key with
        | none => rfl
        | some x => obtain ⟨i, u, hiu, h1, h2, _⟩ := (hM key x).1 hm; exact (hno i u hiu h1 h2).elim
      rw [hf, hMk]
      simp only [Bool.false_eq_true, if_false, Option.isSome_none]
      exact ⟨t, rfl, by rw [nodel hMk]; exact .inr ⟨h0, hg, hM, h1, h2, h3, h4, h5, h6⟩, rfl, (fun h => by cases h), rfl⟩
end Go.Proofs.YtcdajekafnggkaaGreatDoor.Tb
/- The table's methods over a finite map; the document's examples; a word's place. -/
set_option linter.unusedVariables false
set_option linter.unusedSimpArgs false
namespace Go.Proofs.YtcdajekafnggkaaGreatDoor.Tb
open Go.Px
variable {xm : Nat}

theorem Put_TI {B B' tb : Nat} {t : Tbl} {M : KV} {own : SH} (ho : TabO xm tb t own) (h : TI B t M) (hBB : B ≤ B') (hB30 : B' ≤ 1073741824) (key : ByteArray) (v : Int) (hks : key.size ≤ 9223372036854775807) (hB : M key = none → t.live + 1 ≤ B') (I : IMem) (F : SH) :
    Runs Tryz.prog 26 #[.pointer (some ⟨tb, 0, none⟩), .string key, .int .i64 v] I (own ++ F) fun w J T => w = .bool (M key).isNone ∧
      ∃ t' own', TabO xm tb t' own' ∧ TI B' t' (M.put key v) ∧ t'.live = (if (M key).isNone then t.live + 1 else t.live) ∧ (t'.ss.length = t.ss.length ∨ t'.ss.length = growN t.live) ∧ T = own' ++ F := by
  obtain ⟨t', e1, e2, e3, e4⟩ := putM_ok h hBB key v hks hB
  refine (Put_runs tb t t' own ho (h.ok (by omega)) ?_ key v _ hks e1 I F).mono ?_
  · intro t1 h1
    obtain ⟨t1', g1, g2, g3, g4, _⟩ := grown_ok h
    rw [h1] at g1; injection g1 with g1; subst g1
    exact ⟨g4.ok (by omega), g2⟩
  · rintro w J T hle ⟨rfl, own', ho', rfl⟩
    exact ⟨rfl, t', own', ho', e2, e3, e4, rfl⟩
theorem Get_TI {B tb : Nat} {t : Tbl} {M : KV} {own : SH} (ho : TabO xm tb t own) (h : TI B t M) (hB30 : B ≤ 1073741824) (key : ByteArray) (hks : key.size ≤ 9223372036854775807) (I : IMem) (F : SH) :
    Runs Tryz.prog 30 #[.pointer (some ⟨tb, 0, none⟩), .string key] I (own ++ F) fun w J T => w = .tuple #[.int .i64 ((M key).getD 0), .bool (M key).isSome] ∧ T = own ++ F :=
  Get_runs tb t own ho (h.ok hB30) key _ hks (getM_ok h key) I F
theorem Del_TI {B tb : Nat} {t : Tbl} {M : KV} {own : SH} (ho : TabO xm tb t own) (h : TI B t M) (hB30 : B ≤ 1073741824) (key : ByteArray) (hks : key.size ≤ 9223372036854775807) (I : IMem) (F : SH) :
    Runs Tryz.prog 23 #[.pointer (some ⟨tb, 0, none⟩), .string key] I (own ++ F) fun w J T => w = .bool (M key).isSome ∧
      ∃ t' own', TabO xm tb t' own' ∧ TI B t' (M.del key) ∧ t'.ss.length = t.ss.length ∧ t'.live = (if (M key).isSome then t.live - 1 else t.live) ∧ T = own' ++ F := by
  obtain ⟨t', e1, e2, e3, e4, e5⟩ := delM_ok h key
  refine (Del_runs tb t t' own ho (h.ok hB30) key _ hks e4 e1 I F).mono ?_
  rintro w J T hle ⟨rfl, own', ho', rfl⟩
  exact ⟨rfl, t', own', ho', e2, e3, e5, rfl⟩
def noTbl : Tbl := ⟨[], 0, 0⟩
theorem noTbl_TI (B : Nat) : TI B noTbl (fun _ => none) := .inl ⟨rfl, rfl, rfl, rfl⟩
theorem noTbl_TabO (tb : Nat) : TabO xm tb noTbl [(tb, .cells #[.slice none 0 0, .int .i64 0, .int .i64 0, .map (some xm)] 61 (0, 0))] := .inl ⟨rfl, rfl⟩

end Go.Proofs.YtcdajekafnggkaaGreatDoor.Tb
/- The trie's functions: May, common, Put, on trees of words. -/
set_option linter.unusedVariables false
set_option linter.unusedSimpArgs false
namespace Go.Proofs.YtcdajekafnggkaaGreatDoor.Tr
open Go.Px

theorem lcp_at {a b : List Bool} {k : Nat} (h : k < lcp a b) : a[k]? = b[k]? := by
  have := congrArg (fun l : List Bool => l[k]?) (lcp_take a b)
  simpa [List.getElem?_take, h] using this
theorem sg_inj {a b : Bool} (h : ((sg a).toNat : Int) = ((sg b).toNat : Int)) : a = b := by revert h; cases a <;> cases b <;> decide
theorem common_runs (a b : List Bool) (hb : b.length ≤ 4611686018427387904) (I : IMem) (S : SH) :
    Runs Tryz.prog 52 #[.string (eb a), .string (eb b)] I S fun v J T => v = .int .i64 (lcp a b : Nat) ∧ J = I ∧ T = S := by
  refine trie_common_fn _ _ _ _ _ ?_
  refine ⟨fun m a' b' n J T => a' = eb a ∧ b' = eb b ∧ J = I ∧ T = S ∧ ∃ k : Nat, n = (k : Int) ∧ m + k = lcp a b, lcp a b, ⟨rfl, rfl, rfl, rfl, 0, rfl, rfl⟩, ?_⟩
  rintro m a' b' n J T _ ⟨rfl, rfl, rfl, rfl, k, rfl, hm⟩
  have hle := lcp_le a b
  have stop : k = lcp a b → trie_common_b3 (fun a_0 b_1 n_5 I S => ∃ m', m' < m ∧ a_0 = eb a ∧ b_1 = eb b ∧ I = J ∧ S = T ∧ ∃ k : Nat, n_5 = (k : Int) ∧ m' + k = lcp a b) (fun v J' T' => v = .int .i64 (lcp a b : Nat) ∧ J' = J ∧ T' = T) (eb a) (eb b) k false J T := fun h => ⟨by rw [h], rfl, rfl⟩
  refine bcase_dec (fun h1 => ?_) (fun h1 => ?_)
  · refine bcase_dec (fun h2 => ?_) (fun h2 => ?_)
    · rw [eb_size] at h1 h2
      have e1 : a[k]? = some (a[k]'(by omega)) := List.getElem?_eq_getElem _
      have e2 : b[k]? = some (b[k]'(by omega)) := List.getElem?_eq_getElem _
      generalize a[k]'(by omega) = x at e1
      generalize b[k]'(by omega) = y at e2
      refine ⟨sg x, by omega, by rw [eb_get]; simp [e1], sg y, by omega, by rw [eb_get]; simp [e2], ?_⟩
      by_cases hxy : x = y
      · subst hxy
        rw [show (((sg x).toNat : Int) == ((sg x).toNat : Int)) = true by simp]
        have : k ≠ lcp a b := fun h => lcp_ne a b x x (h ▸ e1) (h ▸ e2) rfl
        exact ⟨m - 1, by omega, rfl, rfl, rfl, rfl, k + 1, by rw [wrap_i64 (by omega) (by omega)]; rfl, by omega⟩
      · rw [show (((sg x).toNat : Int) == ((sg y).toNat : Int)) = false by rw [beq_eq_false_iff_ne]; exact fun h => hxy (sg_inj h)]
        refine stop ?_
        rcases Nat.lt_or_ge k (lcp a b) with h | h
        · have := lcp_at h; rw [e1, e2] at this; injection this with this; exact absurd this hxy
        · omega
    · rw [eb_size] at h2; exact stop (by omega)
  · rw [eb_size] at h1; exact stop (by omega)

theorem May_runs (s : ByteArray) (hs : s.size ≤ 4611686018427387904) (I : IMem) (S : SH) :
    Runs Tryz.prog 51 #[.string s] I S fun v J T => ∃ b, v = .bool b ∧ (b = true ↔ signs s ∧ s.size ≤ 128) ∧ J = I ∧ T = S := by
  refine trie_May_fn _ _ _ _ ?_
  refine ⟨fun m s' x5 x6 J T => s' = s ∧ x5 = (s.size : Int) ∧ J = I ∧ T = S ∧ ∃ k : Nat, x6 = (k : Int) ∧ m + k = s.size ∧ ∀ (i : Nat) (c : UInt8), i < k → s[i]? = some c → c = 48 ∨ c = 49, s.size, ⟨rfl, rfl, rfl, rfl, 0, rfl, rfl, fun i c h => absurd h (Nat.not_lt_zero _)⟩, ?_⟩
  rintro m s' x5 x6 J T _ ⟨rfl, rfl, rfl, rfl, k, rfl, hm, hall⟩
  refine bcase_dec (fun h1 => ?_) (fun h1 => ?_)
  · obtain ⟨c, hc⟩ : ∃ c, s'[k]? = some c := ⟨_, getElem?_pos s' k (by omega)⟩
    have bad : ¬ (c = 48 ∨ c = 49) → (∃ b, Value.bool false = .bool b ∧ (b = true ↔ signs s' ∧ s'.size ≤ 128) ∧ J = J ∧ T = T) := fun h => ⟨false, rfl, ⟨(fun h => by cases h), fun g => absurd (g.1 k c hc) h⟩, rfl, rfl⟩
    have good : c = 48 ∨ c = 49 → ∃ m', m' < m ∧ s' = s' ∧ (s'.size : Int) = (s'.size : Int) ∧ J = J ∧ T = T ∧ ∃ k' : Nat, IntKind.wrap .i64 ((k : Int) + 1) = (k' : Int) ∧ m' + k' = s'.size ∧ ∀ (i : Nat) (c : UInt8), i < k' → s'[i]? = some c → c = 48 ∨ c = 49 := fun h =>
      ⟨m - 1, by omega, rfl, rfl, rfl, rfl, k + 1, by rw [wrap_i64 (by omega) (by omega)]; rfl, by omega, fun i c' hi hc' => by
        rcases Nat.lt_or_ge i k with g | g
        · exact hall i c' g hc'
        · obtain rfl : i = k := by omega
          rw [hc] at hc'; injection hc' with hc'; exact hc' ▸ h⟩
    have e48 : ((c.toNat : Int) = 48) ↔ c = 48 := ⟨fun h => UInt8.toNat_inj.1 (by show c.toNat = 48; omega), fun h => by rw [h]; rfl⟩
    have e49 : ((c.toNat : Int) = 49) ↔ c = 49 := ⟨fun h => UInt8.toNat_inj.1 (by show c.toNat = 49; omega), fun h => by rw [h]; rfl⟩
    refine ⟨c, by omega, by simpa using hc, ?_⟩
    by_cases h48 : c = 48
    · rw [show ((c.toNat : Int) != 48) = false by simpa using e48.2 h48]
      exact good (.inl h48)
    · rw [show ((c.toNat : Int) != 48) = true by simpa using fun h => h48 (e48.1 h)]
      refine ⟨c, by omega, by simpa using hc, ?_⟩
      by_cases h49 : c = 49
      · rw [show ((c.toNat : Int) != 49) = false by simpa using e49.2 h49]
        exact good (.inr h49)
      · rw [show ((c.toNat : Int) != 49) = true by simpa using fun h => h49 (e49.1 h)]
        exact bad (fun h => h.elim h48 h49)
  · refine ⟨_, rfl, ?_, rfl, rfl⟩
    have hsg : signs s' := fun i c hc => hall i c (by
      rcases Nat.lt_or_ge i s'.size with h | h
      · omega
      · rw [getElem?_neg s' i (by omega)] at hc; cases hc) hc
    simp only [decide_eq_true_eq]
    exact ⟨fun h => ⟨hsg, by omega⟩, fun h => by omega⟩
theorem May_word (k : List Bool) (hk : k.length ≤ 128) (I : IMem) (S : SH) : Runs Tryz.prog 51 #[.string (eb k)] I S fun v J T => v = .bool true ∧ J = I ∧ T = S := by
  refine (May_runs (eb k) (by rw [eb_size]; omega) I S).mono ?_
  rintro v J T _ ⟨b, rfl, hb, rfl, rfl⟩
  rw [hb.2 ⟨eb_signs k, by rw [eb_size]; exact hk⟩]
  exact ⟨rfl, rfl, rfl⟩

/-! ### trees in memory -/
def nodO (b : Nat) (bits : List Bool) (w : Option Int) (pl pr : Option Addr) : Nat × Obj := (b, .cells #[.string (eb bits), .bool w.isSome, .int .i64 (w.getD 0), .pointer pl, .pointer pr] 110 (0, 0))
def trO (tb : Nat) (p : Option Addr) (n : Int) : Nat × Obj := (tb, .cells #[.pointer p, .int .i64 n] 100 (0, 0))
def Rep : Sh → Option Addr → SH → Prop
  | .nil, p, S => p = none ∧ S = []
  | .node bits w l r, p, S => ∃ b pl pr Sl Sr, p = some ⟨b, 0, none⟩ ∧ S = nodO b bits w pl pr :: (Sl ++ Sr) ∧ Rep l pl Sl ∧ Rep r pr Sr
/-- where a tree hangs, and where the size lies: a context -/
structure Ctx (J : IMem) (at_ sz : Addr) (G : Option Addr → Int → SH) : Prop where
  ra : ∀ p n, Cell J (G p n) at_ (.pointer p)
  rs : ∀ p n, Cell J (G p n) sz (.int .i64 n)
  wa : ∀ p n q K, K (G q n) → StP (G p n) at_ [.pointer q] K
  ws : ∀ p n m K, K (G p m) → StP (G p n) sz [.int .i64 m] K
theorem StP.appR {X S : SH} {a : Addr} {vs : List Value} {K : SH → Prop} (h : StP S a vs fun T => K (X ++ T)) : StP (X ++ S) a vs K := by
  induction X generalizing K with
  | nil => exact h
  | cons x X ih => exact StP.tl (ih h)
theorem Cell.appR {I : IMem} {X S : SH} {a : Addr} {v : Value} (h : Cell I S a v) : Cell I (X ++ S) a v := by
  induction X with
  | nil => exact h
  | cons x X ih => exact Cell.tl ih
def kid (b : Nat) (d : Bool) : Addr := ⟨b, bif d then 4 else 3, none⟩
theorem kid_eq (b : Nat) (d : Bool) : ((⟨b, 0, none⟩ : Addr).add 3).add ((IntKind.wrap .u8 (((sg d).toNat : Int) - (48 : Int))).toNat * 1) = kid b d := by cases d <;> rfl
theorem kid_in (d : Bool) : (0 : Int) ≤ IntKind.wrap .u8 (((sg d).toNat : Int) - (48 : Int)) ∧ IntKind.wrap .u8 (((sg d).toNat : Int) - (48 : Int)) < ((2 : Nat) : Int) := by cases d <;> decide
theorem Ctx.top (J : IMem) (tb : Nat) (F : SH) : Ctx J ⟨tb, 0, none⟩ ⟨tb, 1, none⟩ fun p n => trO tb p n :: F where
  ra p n := Cell.at0 rfl
  rs p n := Cell.at0 rfl
  wa p n q K h := StP.at0 (by simp) rfl h
  ws p n m K h := StP.at0 (by simp) rfl h
theorem Ctx.left {J : IMem} {at_ sz : Addr} {G : Option Addr → Int → SH} (h : Ctx J at_ sz G) (b : Nat) (bits : List Bool) (w : Option Int) (pr : Option Addr) (Sr : SH) :
    Ctx J (kid b false) sz fun p n => nodO b bits w p pr :: (Sr ++ G (some ⟨b, 0, none⟩) n) where
  ra p n := Cell.at0 rfl
  rs p n := Cell.tl (Cell.appR (h.rs _ n))
  wa p n q K hK := StP.at0 (by simp) rfl hK
  ws p n m K hK := StP.tl (StP.appR (h.ws _ n m _ hK))
theorem Ctx.right {J : IMem} {at_ sz : Addr} {G : Option Addr → Int → SH} (h : Ctx J at_ sz G) (b : Nat) (bits : List Bool) (w : Option Int) (pl : Option Addr) (Sl : SH) :
    Ctx J (kid b true) sz fun p n => nodO b bits w pl p :: (Sl ++ G (some ⟨b, 0, none⟩) n) where
  ra p n := Cell.at0 rfl
  rs p n := Cell.tl (Cell.appR (h.rs _ n))
  wa p n q K hK := StP.at0 (by simp) rfl hK
  ws p n m K hK := StP.tl (StP.appR (h.ws _ n m _ hK))

/-! ### Put -/
def putInv (R : Value → IMem → SH → Prop) (m : Nat) (t : Option Addr) (key : ByteArray) (v : Int) (at_ : Option Addr) (I : IMem) (S : SH) : Prop :=
  trie_Trie_Put_l2 (fun t key v at_ I S => ∃ m', ∃ _ : m' < m, putInv R m' t key v at_ I S) R t key v at_ I S
termination_by m
theorem putInv_eq (R : Value → IMem → SH → Prop) (m : Nat) (t : Option Addr) (key : ByteArray) (v : Int) (at_ : Option Addr) (I : IMem) (S : SH) : putInv R m t key v at_ I S =
    trie_Trie_Put_l2 (fun t key v at_ I S => ∃ m', m' < m ∧ putInv R m' t key v at_ I S) R t key v at_ I S := by
  rw [putInv]; simp only [exists_prop]
def PutAt (R : Value → IMem → SH → Prop) (tb : Nat) (t : Sh) (m : Nat) (k : List Bool) : Prop := ∀ (v : Int) (p : Option Addr) (S : SH) (at_ : Addr) (G : Option Addr → Int → SH) (n : Int) (J : IMem) (T : SH),
  k.length ≤ 128 → 0 ≤ n → n ≤ 4611686018427387904 → Ctx J at_ ⟨tb, 1, none⟩ G → Rep t p S → Sub (S ++ G p n) T →
  (∀ q S' T', Rep (t.put k v) q S' → Sub (S' ++ G q (n + if (t.find k).isSome then 0 else 1)) T' → R (.bool (t.find k).isNone) J T') → putInv R m (some ⟨tb, 0, none⟩) (eb k) v (some at_) J T
theorem put_nil (R : Value → IMem → SH → Prop) (tb m : Nat) (k : List Bool) : PutAt R tb .nil m k := by
  rintro v p S at_ G n J T hk hn0 hn hc ⟨rfl, rfl⟩ hs hR
  rw [putInv_eq]
  refine ⟨none, Sub.cell' hs (hc.ra none n), ?_⟩
  show ∀ b : Nat, _
  intro b
  refine StP.tl (StP.of_sub hs (hc.wa none n _ _ fun T' hs' => ?_))
  refine ⟨n, Cell.tl (Sub.cell' hs' (hc.rs _ n)), StP.tl (StP.of_sub hs' (hc.ws _ n _ _ fun T2 hs2 => ?_))⟩
  rw [wrap_i64 (by omega) (by omega)] at hs2
  exact hR _ [nodO b k (some v) none none] _ ⟨b, none, none, [], [], rfl, rfl, ⟨rfl, rfl⟩, ⟨rfl, rfl⟩⟩ (hs2.cons _)
theorem put_step {R : Value → IMem → SH → Prop} {tb m : Nat} {bits : List Bool} {w : Option Int} {l r : Sh} {k : List Bool} (hge : ¬ lcp bits k < bits.length)
    (hl : ∀ rest, k = bits ++ false :: rest → PutAt R tb l m (false :: rest)) (hr : ∀ rest, k = bits ++ true :: rest → PutAt R tb r m (true :: rest)) : PutAt R tb (.node bits w l r) (m + 1) k := by
  rintro v p S at_ G n J T hk hn0 hn hc ⟨b, pl, pr, Sl, Sr, rfl, rfl, hrl, hrr⟩ hs hR
  have hkk := lcp_full hge
  generalize hrest : k.drop bits.length = rest at hkk
  subst hkk
  rw [putInv_eq]
  refine ⟨some ⟨b, 0, none⟩, Sub.cell' hs (Cell.appR (hc.ra _ n)), ?_⟩
  refine ⟨eb bits, Sub.cell' hs (Cell.at0 rfl), (common_runs bits (bits ++ rest) (by omega) J T).mono ?_⟩
  rintro _ J' T' _ ⟨rfl, rfl, rfl⟩
  rw [lcp_append]
  refine ⟨_, rfl, eb bits, Sub.cell' hs (Cell.at0 rfl), ?_⟩
  rw [eb_size]
  refine bcase_dec (fun h => absurd h (by omega)) (fun _ => ?_)
  rw [trie_Trie_Put_b7, eb_size]
  rw [Sh.put, if_neg hge, hrest] at hR
  rw [Sh.find_app] at hR
  cases rest with
  | nil =>
    rw [show (((bits.length : Nat) : Int) == (((bits ++ ([] : List Bool)).length : Nat) : Int)) = true by simp]
    dsimp only at hR
    refine ⟨w.isSome, Sub.cell' hs (Cell.at0 rfl), ?_⟩
    have fin : ∀ n' T', Sub (nodO b bits w pl pr :: (Sl ++ Sr) ++ G (some ⟨b, 0, none⟩) n') T' → n' = (n + if w.isSome = true then 0 else 1) → trie_Trie_Put_b9 (fun t key v at_ I S => ∃ m', m' < m + 1 ∧ putInv R m' t key v at_ I S) R v (some ⟨b, 0, none⟩) (!w.isSome) J' T' := by
      rintro n' T' hs' rfl
      show StP T' ⟨b, 1, none⟩ [.bool true] fun S1 => StP S1 ⟨b, 2, none⟩ [.int .i64 v] fun S1' => R (.bool (!w.isSome)) J' S1'
      refine StP.of_sub hs' (StP.at0 (o := 1) (vs := [.bool true]) (by simp) rfl fun T2 hs2 => ?_)
      refine StP.of_sub hs2 (StP.at0 (o := 2) (vs := [.int .i64 v]) (by simp [setR]) rfl fun T3 hs3 => ?_)
      have := hR (some ⟨b, 0, none⟩) (nodO b bits (some v) pl pr :: (Sl ++ Sr)) T3 ⟨b, pl, pr, Sl, Sr, rfl, rfl, hrl, hrr⟩ hs3
      cases w <;> exact this
    cases w with
    | some x => exact fin n T' hs (by simp)
    | none =>
      refine ⟨n, Sub.cell' hs (Cell.appR (hc.rs _ n)), StP.of_sub hs (StP.appR (hc.ws _ n _ _ fun T2 hs2 => ?_))⟩
      rw [wrap_i64 (by omega) (by omega)] at hs2
      exact fin _ T2 hs2 rfl
  | cons d rest =>
    rw [show (((bits.length : Nat) : Int) == (((bits ++ d :: rest).length : Nat) : Int)) = false by simp; omega]
    dsimp only at hR
    refine ⟨sg d, by omega, by rw [eb_get]; simp, (kid_in d).1, (kid_in d).2, by omega, by rw [eb_size]; simp; omega, ?_⟩
    rw [kid_eq, eb_size, eb_extract, show List.drop (((bits.length : Nat) : Int).toNat) (List.take (bits ++ d :: rest).length (bits ++ d :: rest)) = d :: rest by rw [List.take_length]; simp]
    rw [List.length_append] at hk
    cases d with
    | false =>
      refine ⟨m, by omega, hl rest rfl v pl Sl (kid b false) _ n _ _ (by omega) hn0 hn (hc.left b bits w pr Sr) hrl (hs.perm ?_) ?_⟩
      · simp only [List.cons_append, List.append_assoc]
        exact List.perm_middle.symm
      · intro q S' T2 hq hs2
        refine hR _ _ T2 ⟨b, q, pr, S', Sr, rfl, rfl, hq, hrr⟩ (hs2.perm ?_)
        simp only [List.cons_append, List.append_assoc]
        exact List.perm_middle
    | true =>
      refine ⟨m, by omega, hr rest rfl v pr Sr (kid b true) _ n _ _ (by omega) hn0 hn (hc.right b bits w pl Sl) hrr (hs.perm ?_) ?_⟩
      · simp only [List.cons_append, List.append_assoc]
        refine List.Perm.trans (List.Perm.cons _ ?_) List.perm_middle.symm
        rw [← List.append_assoc, ← List.append_assoc]
        exact List.perm_append_comm.append_right _
      · intro q S' T2 hq hs2
        refine hR _ _ T2 ⟨b, pl, q, Sl, S', rfl, rfl, hrl, hq⟩ (hs2.perm ?_)
        simp only [List.cons_append, List.append_assoc]
        refine List.perm_middle.trans (List.Perm.cons _ ?_)
        rw [← List.append_assoc, ← List.append_assoc]
        exact List.perm_append_comm.append_right _
end Go.Proofs.YtcdajekafnggkaaGreatDoor.Tr
/- The trie's functions: Put, Longest, Len, on trees of words. -/
set_option linter.unusedVariables false
set_option linter.unusedSimpArgs false
namespace Go.Proofs.YtcdajekafnggkaaGreatDoor.Tr
open Go.Px

theorem put_split {R : Value → IMem → SH → Prop} {tb m : Nat} {bits : List Bool} {w : Option Int} {l r : Sh} {k : List Bool} (hlt : lcp bits k < bits.length) : PutAt R tb (.node bits w l r) (m + 2) k := by
  rintro v p S at_ G n J T hk hn0 hn hc ⟨b, pl, pr, Sl, Sr, rfl, rfl, hrl, hrr⟩ hs hR
  have hb : bits[lcp bits k]? = some bits[lcp bits k] := List.getElem?_eq_getElem hlt
  generalize bits[lcp bits k]'hlt = d at hb
  obtain ⟨e, hbe⟩ : ∃ e, bits.drop (lcp bits k) = d :: e := by
    have h := List.drop_eq_getElem_cons hlt
    rw [List.getElem?_eq_getElem hlt] at hb
    injection hb with hb
    exact ⟨_, hb ▸ h⟩
  have hn' : ∀ c rest, k.drop (lcp bits k) = c :: rest → c ≠ d := fun c rest h e => lcp_ne bits k d c hb (by rw [← List.head?_drop, h]; rfl) e.symm
  have htk := lcp_take bits k
  have hkk : k = bits.take (lcp bits k) ++ k.drop (lcp bits k) := by rw [htk, List.take_append_drop]
  have hpl : (bits.take (lcp bits k)).length = lcp bits k := by rw [List.length_take]; omega
  rw [Sh.find_lt hlt] at hR
  rw [Sh.put, if_pos hlt, hb] at hR
  rw [hbe] at hR
  have hi : n + (if (none : Option Int).isSome = true then 0 else 1) = n + 1 := by simp
  rw [hi] at hR
  have hkl := (lcp_le bits k).2
  rw [putInv_eq]
  refine ⟨some ⟨b, 0, none⟩, Sub.cell' hs (Cell.appR (hc.ra _ n)), ?_⟩
  refine ⟨eb bits, Sub.cell' hs (Cell.at0 rfl), (common_runs bits k (by omega) J T).mono ?_⟩
  rintro _ J' T' _ ⟨rfl, rfl, rfl⟩
  refine ⟨_, rfl, eb bits, Sub.cell' hs (Cell.at0 rfl), ?_⟩
  rw [eb_size]
  refine bcase_dec (fun h => ?_) (fun h => absurd h (by omega))
  refine ⟨eb bits, Sub.cell' hs (Cell.at0 rfl), by omega, by rw [eb_size]; omega, ?_⟩
  intro pb
  rw [eb_extract, show ((lcp bits k : Nat) : Int).toNat = lcp bits k by omega, List.drop_zero]
  generalize hp : bits.take (lcp bits k) = pre at *
  -- the part's cells
  have hs1 : Sub ((pb, Obj.cells #[.string (eb pre), .bool false, .int .i64 0, .pointer none, .pointer none] 110 (0, 0)) :: (nodO b bits w pl pr :: (Sl ++ Sr) ++ G (some ⟨b, 0, none⟩) n)) ((pb, Obj.cells #[.string (eb pre), .bool false, .int .i64 0, .pointer none, .pointer none] 110 (0, 0)) :: T') := hs.cons _
  refine ⟨eb bits, Sub.cell' hs1 (Cell.tl (Cell.at0 rfl)), sg d, by omega, by rw [eb_get, show ((lcp bits k : Nat) : Int).toNat = lcp bits k by omega, hb]; rfl, (kid_in d).1, (kid_in d).2, ?_⟩
  rw [kid_eq]
  refine StP.of_sub (K := fun S1 => trie_Trie_Put_b6 _ R _ _ _ _ _ _ _ _ S1) hs1 (StP.at0 (by cases d <;> simp) rfl fun T2 hs2 => ?_)
  refine ⟨eb bits, Sub.cell' hs2 (Cell.tl (Cell.at0 rfl)), by omega, by rw [eb_size]; omega, ?_⟩
  rw [eb_extract, show ((lcp bits k : Nat) : Int).toNat = lcp bits k by omega, eb_size, List.take_length, hbe]
  refine StP.of_sub hs2 (StP.tl (StP.at0 (o := 0) (vs := [.string (eb (d :: e))]) (by simp) rfl fun T3 hs3 => ?_))
  refine StP.of_sub hs3 (StP.tl (StP.tl (StP.appR (X := Sl ++ Sr) (hc.wa _ n (some ⟨pb, 0, none⟩) _ fun T4 hs4 => ?_))))
  -- from here on: the part, which needs no cut
  refine ⟨m + 1, by omega, ?_⟩
  have hng : ¬ lcp pre k < pre.length := by
    rw [hkk, lcp_append]; omega
  have kidnil : ∀ c rest, k = pre ++ c :: rest → c ≠ d := fun c rest h => hn' c rest (by rw [← hpl, h, List.drop_left])
  have hhas : (Sh.sub pre none d (.node (d :: e) w l r) .nil).find k = none := by
    rw [hkk, Sh.sub_find]
    cases hkd : k.drop (lcp bits k) with
    | nil => rfl
    | cons c rest => dsimp only; rw [if_neg (hn' c rest hkd)]; rfl
  have hput : (Sh.sub pre none d (.node (d :: e) w l r) .nil).put k v = match k.drop (lcp bits k) with
      | [] => Sh.sub pre (some v) d (.node (d :: e) w l r) .nil
      | c :: rest => Sh.sub pre none d (.node (d :: e) w l r) (.node (c :: rest) (some v) .nil .nil) := by
    have hdr : k.drop pre.length = k.drop (lcp bits k) := by rw [hpl]
    cases hkd : k.drop (lcp bits k) with
    | nil => cases d <;> simp only [Sh.sub, cond_true, cond_false, Sh.put, if_neg hng, hdr, hkd]
    | cons c rest =>
      have := hn' c rest hkd
      cases d <;> cases c <;> first | exact absurd rfl this | simp only [Sh.sub, cond_true, cond_false, Sh.put, if_neg hng, hdr, hkd]
  have fin : ∀ q S' T', Rep ((Sh.sub pre none d (.node (d :: e) w l r) .nil).put k v) q S' → Sub (S' ++ G q (n + if ((Sh.sub pre none d (.node (d :: e) w l r) .nil).find k).isSome then 0 else 1)) T' → R (.bool ((Sh.sub pre none d (.node (d :: e) w l r) .nil).find k).isNone) J' T' := by
    rw [hhas, hput, hi]
    intro q S' T' hq hs'
    refine hR q S' T' ?_ hs'
    revert hq
    cases k.drop (lcp bits k) <;> exact id
  cases d with
  | false =>
    refine put_step (w := none) (l := .node (false :: e) w l r) (r := .nil) hng (fun rest h => absurd rfl (kidnil _ _ h)) (fun rest _ => put_nil R tb m _) v _ ((pb, _) :: ((nodO b (false :: e) w pl pr :: (Sl ++ Sr)) ++ [])) at_ G n J' T4 hk hn0 hn hc
      ⟨pb, some ⟨b, 0, none⟩, none, _, [], rfl, rfl, ⟨b, pl, pr, Sl, Sr, rfl, rfl, hrl, hrr⟩, ⟨rfl, rfl⟩⟩ ?_ fin
    simp only [List.append_nil, List.nil_append, List.cons_append]
    exact hs4
  | true =>
    refine put_step (w := none) (l := .nil) (r := .node (true :: e) w l r) hng (fun rest _ => put_nil R tb m _) (fun rest h => absurd rfl (kidnil _ _ h)) v _ ((pb, _) :: ([] ++ (nodO b (true :: e) w pl pr :: (Sl ++ Sr)))) at_ G n J' T4 hk hn0 hn hc
      ⟨pb, none, some ⟨b, 0, none⟩, [], _, rfl, rfl, ⟨rfl, rfl⟩, ⟨b, pl, pr, Sl, Sr, rfl, rfl, hrl, hrr⟩⟩ ?_ fin
    simp only [List.append_nil, List.nil_append, List.cons_append]
    exact hs4

def Sh.ht : Sh → Nat
  | .nil => 0
  | .node _ _ l r => 2 + l.ht + r.ht
theorem put_ok (R : Value → IMem → SH → Prop) (tb : Nat) : ∀ (t : Sh) (m : Nat) (k : List Bool), t.ht ≤ m → PutAt R tb t m k
  | .nil, m, k, _ => put_nil R tb m k
  | .node bits w l r, m, k, h => by
    simp only [Sh.ht] at h
    by_cases hlt : lcp bits k < bits.length
    · have := put_split (R := R) (tb := tb) (m := m - 2) (w := w) (l := l) (r := r) hlt
      rwa [show m - 2 + 2 = m by omega] at this
    · have := put_step (R := R) (tb := tb) (m := m - 1) (w := w) (l := l) (r := r) hlt (fun rest _ => put_ok R tb l _ _ (by omega)) (fun rest _ => put_ok R tb r _ _ (by omega))
      rwa [show m - 1 + 1 = m by omega] at this

/-- a trie in memory -/
def TriO (tb : Nat) (t : Sh) (own : SH) : Prop := ∃ p S, Rep t p S ∧ own = S ++ [trO tb p (t.cnt : Nat)]
theorem Put_runs (tb : Nat) (t : Sh) (hw : t.wf) (hcnt : t.cnt ≤ 4611686018427387904) (own : SH) (ho : TriO tb t own) (k : List Bool) (hk : k.length ≤ 128) (v : Int) (I : IMem) (F : SH) :
    Runs Tryz.prog 25 #[.pointer (some ⟨tb, 0, none⟩), .string (eb k), .int .i64 v] I (own ++ F) fun x J T => x = .bool (t.find k).isNone ∧ ∃ own', TriO tb (t.put k v) own' ∧ T = own' ++ F := by
  obtain ⟨p, S, hr, rfl⟩ := ho
  refine Runs.drop (trie_Trie_Put_fn _ _ _ _ _ _ ?_)
  refine (May_word k hk _ _).mono ?_
  rintro _ J T _ ⟨rfl, rfl, rfl⟩
  refine ⟨true, rfl, ?_⟩
  refine ⟨putInv (fun x J T => ∃ L, Sub L T ∧ x = .bool (t.find k).isNone ∧ ∃ own', TriO tb (t.put k v) own' ∧ L = own' ++ F), t.ht, ?_, fun m t' key' v' at' J T _ h => by rw [putInv_eq] at h; exact h⟩
  refine put_ok _ tb t t.ht k (Nat.le_refl _) v p S ⟨tb, 0, none⟩ (fun p n => trO tb p n :: F) (t.cnt : Nat) J _ hk (by omega) (by omega) (Ctx.top J tb F) hr ?_ ?_
  · simp only [List.append_assoc, List.singleton_append]; exact Sub.refl _
  · intro q S' T' hq hs
    refine ⟨_, hs, rfl, S' ++ [trO tb q ((t.put k v).cnt : Nat)], ⟨q, S', hq, rfl⟩, ?_⟩
    rw [Sh.put_cnt t k v hw]
    simp only [List.append_assoc, List.singleton_append]
    congr 3
    cases (t.find k).isSome <;> simp
end Go.Proofs.YtcdajekafnggkaaGreatDoor.Tr
/- The trie's functions: Longest, Get, Len, Nodes, on trees of words. -/
set_option linter.unusedVariables false
set_option linter.unusedSimpArgs false
namespace Go.Proofs.YtcdajekafnggkaaGreatDoor.Tr
open Go.Px

def encL (b : Option (Int × Nat)) : Array Value := match b with
  | none => #[.int .i64 0, .int .i64 0, .bool false]
  | some (v, n) => #[.int .i64 v, .int .i64 (n : Nat), .bool true]
def walkInv (res : Option (Int × Nat)) (m : Nat) (key : ByteArray) (value length : Int) (is : Bool) (deep : Int) (n : Option Addr) (T : SH) : Prop :=
  ∃ (t : Sh) (k : List Bool) (S : SH) (d : Nat) (best : Option (Int × Nat)), key = eb k ∧ #[.int .i64 value, .int .i64 length, .bool is] = encL best ∧ deep = (d : Int) ∧ d + k.length ≤ 128 ∧ Rep t n S ∧ Sub S T ∧ t.walk k d best = res ∧ t.ht ≤ m
theorem encL_some {v n : Int} {is : Bool} {best : Option (Int × Nat)} (h : #[.int .i64 v, .int .i64 n, .bool is] = encL best) : Value.tuple #[.int .i64 v, .int .i64 n, .bool is] = .tuple (encL best) := by rw [h]
theorem Longest_runs (tb : Nat) (t : Sh) (own : SH) (ho : TriO tb t own) (k : List Bool) (hk : k.length ≤ 128) (I : IMem) (F : SH) :
    Runs Tryz.prog 34 #[.pointer (some ⟨tb, 0, none⟩), .string (eb k)] I (own ++ F) fun x J T => x = .tuple (encL (t.walk k 0 none)) ∧ T = own ++ F := by
  obtain ⟨p, S, hr, rfl⟩ := ho
  refine trie_Trie_Longest_fn _ _ _ _ _ ?_
  refine (May_word k hk _ _).mono ?_
  rintro _ J T _ ⟨rfl, rfl, rfl⟩
  refine ⟨true, rfl, p, ?_, ?_⟩
  · rw [List.append_assoc]; exact Cell.appR (Cell.at0 rfl)
  refine ⟨fun m key value length is deep n J' T => T = S ++ [trO tb p (t.cnt : Nat)] ++ F ∧ walkInv (t.walk k 0 none) m key value length is deep n T, t.ht,
    ⟨rfl, t, k, S, 0, none, rfl, rfl, rfl, by omega, hr, ⟨_, by rw [List.append_assoc]⟩, rfl, Nat.le_refl _⟩, ?_⟩
  generalize t.walk k 0 none = res
  generalize S ++ [trO tb p (t.cnt : Nat)] ++ F = TT
  rintro m key value length is deep n J' T _ ⟨hT, t', k', S', d, best, rfl, henc, rfl, hd, hrep, hsub, hwalk, hm⟩
  cases t' with
  | nil =>
    obtain ⟨rfl, rfl⟩ := hrep
    rw [Sh.walk] at hwalk
    subst hwalk
    exact ⟨encL_some henc, hT⟩
  | node bits w l r =>
    obtain ⟨b, pl, pr, Sl, Sr, rfl, rfl, hrl, hrr⟩ := hrep
    rw [Sh.walk_node] at hwalk
    refine ⟨eb bits, Sub.cell' hsub (Cell.at0 rfl), _, common_runs bits k' (by omega) _ _ |>.mono (fun v J T _ h => ⟨h.1, h.2.2⟩), eb bits, Sub.cell' hsub (Cell.at0 rfl), ?_⟩
    rw [eb_size]
    refine bcase_dec (fun hlt => ?_) (fun hge => ?_)
    · rw [if_pos (by omega)] at hwalk
      subst hwalk
      exact ⟨encL_some henc, hT⟩
    · rw [if_neg (by omega)] at hwalk
      have hkk := lcp_full (a := bits) (b := k') (by omega)
      generalize k'.drop bits.length = rest at *
      subst hkk
      rw [List.length_append] at hd
      refine ⟨eb bits, Sub.cell' hsub (Cell.at0 rfl), eb bits, Sub.cell' hsub (Cell.at0 rfl), by omega, by rw [eb_size, eb_size, List.length_append]; omega, ?_⟩
      rw [eb_size, eb_size, eb_extract, List.take_length, show ((bits.length : Nat) : Int).toNat = bits.length by omega, List.drop_left, wrap_i64 (by omega) (by omega)]
      refine ⟨w.isSome, Sub.cell' hsub (Cell.at0 rfl), ?_⟩
      have fin : ∀ value length is, #[.int .i64 value, .int .i64 length, .bool is] = encL (bestOf w (d + bits.length) best) → trie_Trie_Longest_b9 (fun key value length is deep n I S => ∃ m', m' < m ∧ S = TT ∧ walkInv res m' key value length is deep n S) (fun x J T => x = .tuple (encL res) ∧ T = TT) (eb rest) value length is ((d : Int) + (bits.length : Int)) (some ⟨b, 0, none⟩) J' T := by
        intro value length is he
        cases rest with
        | nil =>
          dsimp only at hwalk
          subst hwalk
          exact ⟨encL_some he, hT⟩
        | cons c rest =>
          rw [trie_Trie_Longest_b9, eb_size, show ((((c :: rest).length : Nat) : Int) == (0 : Int)) = false by simp; omega]
          refine ⟨sg c, by omega, by rw [eb_get]; simp, (kid_in c).1, (kid_in c).2, ?_⟩
          rw [kid_eq]
          simp only [Sh.ht] at hm
          simp only [List.length_cons] at hd
          cases c with
          | false => exact ⟨pl, Sub.cell' hsub (Cell.at0 rfl), m - 1, by omega, hT, l, false :: rest, Sl, d + bits.length, _, rfl, he, by omega, by simp only [List.length_cons]; omega, hrl, hsub.drop.left, hwalk, by omega⟩
          | true => exact ⟨pr, Sub.cell' hsub (Cell.at0 rfl), m - 1, by omega, hT, r, true :: rest, Sr, d + bits.length, _, rfl, he, by omega, by simp only [List.length_cons]; omega, hrr, hsub.drop.right, hwalk, by omega⟩
      cases w with
      | none => exact fin _ _ _ henc
      | some x => exact ⟨x, Sub.cell' hsub (Cell.at0 rfl), fin _ _ _ (by simp [encL, bestOf])⟩
theorem Len_runs (tb : Nat) (t : Sh) (own : SH) (ho : TriO tb t own) (I : IMem) (F : SH) :
    Runs Tryz.prog 28 #[.pointer (some ⟨tb, 0, none⟩)] I (own ++ F) fun x J T => x = .int .i64 (t.cnt : Nat) ∧ T = own ++ F := by
  obtain ⟨p, S, hr, rfl⟩ := ho
  refine trie_Trie_Len_fn _ _ _ _ ?_
  exact ⟨_, by rw [List.append_assoc]; exact Cell.appR (Cell.at0 rfl), rfl, rfl⟩
end Go.Proofs.YtcdajekafnggkaaGreatDoor.Tr
/- The trie's law on words that go on from one another: TrieDeep. -/
set_option linter.unusedVariables false
set_option linter.unusedSimpArgs false
namespace Go.Proofs.YtcdajekafnggkaaGreatDoor.Tr
open Go.Px

theorem IsL.of {t : Sh} (hw : t.wf) (k : List Bool) : IsL t.find k (t.walk k 0 none) := by
  rcases Sh.walk_spec t k 0 none hw with ⟨e, h⟩ | ⟨v, n, e, h1, h2, h3⟩
  · exact ⟨fun _ => h, fun v n h' => by rw [e] at h'; cases h'⟩
  · rw [Nat.zero_add] at e
    exact ⟨(fun h' => by rw [e] at h'; cases h'), fun v' n' h' => by rw [e] at h'; injection h' with h'; injection h' with h4 h5; subst h4; subst h5; exact ⟨h1, h2, h3⟩⟩
theorem TriO.new (tb : Nat) : TriO tb .nil [(tb, .cells #[.pointer none, .int .i64 0] 100 (0, 0))] := ⟨none, [], ⟨rfl, rfl⟩, rfl⟩
def alt (n : Nat) : List Bool := (List.range n).map fun i => i % 2 == 1
theorem alt_len (n : Nat) : (alt n).length = n := by simp [alt]
structure Deep (t : Sh) (i : Nat) : Prop where
  wf : t.wf
  cnt : t.cnt = i
  has : ∀ j, t.find (alt j) = if 1 ≤ j ∧ j ≤ i then some ((j : Int) - 1) else none
theorem Deep.step {t : Sh} {i : Nat} (h : Deep t i) : Deep (t.put (alt (i + 1)) (i : Int)) (i + 1) where
  wf := Sh.put_wf _ _ _ h.wf
  cnt := by rw [Sh.put_cnt _ _ _ h.wf, h.cnt, h.has, if_neg (show ¬ (1 ≤ i + 1 ∧ i + 1 ≤ i) by omega)]; simp
  has j := by
    rw [Sh.put_find _ _ _ _ h.wf, h.has]
    by_cases hj : j = i + 1
    · rw [if_pos (show alt j = alt (i + 1) by rw [hj]), if_pos (show 1 ≤ j ∧ j ≤ i + 1 by omega)]; exact congrArg some (by omega)
    · rw [if_neg (fun e => hj (by have := congrArg List.length e; simpa [alt_len] using this))]
      by_cases h1 : 1 ≤ j ∧ j ≤ i
      · rw [if_pos h1, if_pos (by omega)]
      · rw [if_neg h1, if_neg (by omega)]
end Go.Proofs.YtcdajekafnggkaaGreatDoor.Tr
/- The trie as plain Lean, part 2: words that are taken away; how deep a tree is. -/
set_option linter.unusedVariables false
set_option linter.unusedSimpArgs false
namespace Go.Proofs.YtcdajekafnggkaaGreatDoor.Tr
open Go.Px

def Sh.fix (bits : List Bool) : Option Int → Sh → Sh → Sh
  | some x, l, r => .node bits (some x) l r
  | none, .nil, .nil => .nil
  | none, .node b2 w2 l2 r2, .nil => .node (bits ++ b2) w2 l2 r2
  | none, .nil, .node b2 w2 l2 r2 => .node (bits ++ b2) w2 l2 r2
  | none, .node b2 w2 l2 r2, .node b3 w3 l3 r3 => .node bits none (.node b2 w2 l2 r2) (.node b3 w3 l3 r3)
def Sh.del : Sh → List Bool → Sh
  | .nil, _ => .nil
  | .node bits w l r, k => match k.drop bits.length with
    | [] => Sh.fix bits none l r
    | b :: rest => bif b then Sh.fix bits w l (r.del (b :: rest)) else Sh.fix bits w (l.del (b :: rest)) r
theorem Sh.fix_find (bits : List Bool) (w : Option Int) (l r : Sh) (hl : l.starts false) (hr : r.starts true) (k : List Bool) : (Sh.fix bits w l r).find k = (Sh.node bits w l r).find k := by
  have one : ∀ (b2 : List Bool) (w2 : Option Int) (l2 r2 : Sh) (d : Bool), b2.head? = some d → (Sh.node (bits ++ b2) w2 l2 r2).find k = (Sh.sub bits none d (.node b2 w2 l2 r2) .nil).find k := by
    intro b2 w2 l2 r2 d hd
    rcases pre_cases bits k with h | ⟨rest, rfl⟩
    · rw [Sh.find_lt (lcp_lt_app h), Sh.sub_find_lt h]
    · rw [Sh.find_shift, Sh.sub_find]
      cases rest with
      | nil => exact Sh.starts_find (b := d) (t := .node b2 w2 l2 r2) hd (by simp)
      | cons c rest =>
        dsimp only
        by_cases hc : c = d
        · rw [if_pos hc]
        · rw [if_neg hc, Sh.starts_find (b := d) (t := .node b2 w2 l2 r2) hd (by simpa using hc)]; rfl
  cases w with
  | some x => rfl
  | none =>
    cases l with
    | nil =>
      cases r with
      | nil =>
        rcases pre_cases bits k with h | ⟨rest, rfl⟩
        · rw [Sh.find_lt h]; rfl
        · rw [Sh.find_app]
          cases rest with
          | nil => rfl
          | cons b rest => cases b <;> rfl
      | node b2 w2 l2 r2 => exact one b2 w2 l2 r2 true hr
    | node b2 w2 l2 r2 =>
      cases r with
      | nil => exact one b2 w2 l2 r2 false hl
      | node b3 w3 l3 r3 => rfl
theorem Sh.fix_wf (bits : List Bool) (w : Option Int) (l r : Sh) (hl : l.starts false) (hr : r.starts true) (h1 : l.wf) (h2 : r.wf) : (Sh.fix bits w l r).wf := by
  cases w with
  | some x => exact ⟨hl, hr, .inl rfl, h1, h2⟩
  | none =>
    cases l <;> cases r
    · trivial
    · exact h2
    · exact h1
    · exact ⟨hl, hr, .inr ⟨rfl, rfl⟩, h1, h2⟩
theorem Sh.fix_starts {bits : List Bool} {b : Bool} (hb : bits.head? = some b) (w : Option Int) (l r : Sh) : (Sh.fix bits w l r).starts b := by
  have : ∀ c : List Bool, (bits ++ c).head? = some b := fun c => by cases bits with | nil => cases hb | cons x bits => exact hb
  cases w with
  | some x => exact hb
  | none => cases l <;> cases r <;> first | trivial | exact this _ | exact hb
theorem Sh.fix_cnt (bits : List Bool) (w : Option Int) (l r : Sh) : (Sh.fix bits w l r).cnt = (Sh.node bits w l r).cnt := by
  cases w with
  | some x => rfl
  | none => cases l <;> cases r <;> simp [Sh.fix, Sh.cnt]
theorem Sh.del_starts {b : Bool} {t : Sh} (h : t.starts b) (k : List Bool) : (t.del k).starts b := by
  cases t with
  | nil => trivial
  | node bits w l r =>
    rw [Sh.del]
    split
    · exact Sh.fix_starts h _ _ _
    · rename_i c _ _; cases c <;> exact Sh.fix_starts h _ _ _
theorem Sh.del_wf : ∀ (t : Sh) (k : List Bool), t.wf → (t.del k).wf
  | .nil, _, _ => trivial
  | .node bits w l r, k, hw => by
    obtain ⟨h1, h2, _, h4, h5⟩ := hw
    rw [Sh.del]
    split
    · exact Sh.fix_wf _ _ _ _ h1 h2 h4 h5
    · rename_i c rest _
      cases c
      · exact Sh.fix_wf _ _ _ _ (Sh.del_starts h1 _) h2 (Sh.del_wf l _ h4) h5
      · exact Sh.fix_wf _ _ _ _ h1 (Sh.del_starts h2 _) h4 (Sh.del_wf r _ h5)
theorem Sh.del_find : ∀ (t : Sh) (k : List Bool), t.wf → t.find k ≠ none → ∀ k', (t.del k).find k' = if k' = k then none else t.find k'
  | .nil, _, _, h, _ => absurd rfl h
  | .node bits w l r, k, hw, hf, k' => by
    obtain ⟨h1, h2, _, h4, h5⟩ := hw
    rcases pre_cases bits k with h | ⟨rest, rfl⟩
    · rw [Sh.find_lt h] at hf; exact absurd rfl hf
    rw [Sh.find_app] at hf
    rw [Sh.del, List.drop_left]
    have hout : ∀ (w' : Option Int) (x y : Sh), lcp bits k' < bits.length → (Sh.node bits w' x y).find k' = if k' = bits ++ rest then none else (Sh.node bits w l r).find k' := fun w' x y h => by
      rw [Sh.find_lt h, Sh.find_lt h]; split <;> rfl
    cases rest with
    | nil =>
      dsimp only
      rw [Sh.fix_find _ _ _ _ h1 h2]
      rcases pre_cases bits k' with h | ⟨rest', rfl⟩
      · exact hout _ _ _ h
      · rw [Sh.find_app, Sh.find_app]
        simp only [List.append_cancel_left_eq]
        cases rest' with
        | nil => rfl
        | cons c rest' => rw [if_neg (List.cons_ne_nil _ _)]
    | cons c rest =>
      dsimp only at hf ⊢
      cases c with
      | false =>
        simp only [cond_false] at hf ⊢
        rw [Sh.fix_find _ _ _ _ (Sh.del_starts h1 _) h2]
        rcases pre_cases bits k' with h | ⟨rest', rfl⟩
        · exact hout _ _ _ h
        · rw [Sh.find_app, Sh.find_app]
          simp only [List.append_cancel_left_eq]
          cases rest' with
          | nil => rw [if_neg (fun h => by cases h)]
          | cons d rest' =>
            cases d
            · exact Sh.del_find l (false :: rest) h4 hf (false :: rest')
            · rw [if_neg (by simp)]; rfl
      | true =>
        simp only [cond_true] at hf ⊢
        rw [Sh.fix_find _ _ _ _ h1 (Sh.del_starts h2 _)]
        rcases pre_cases bits k' with h | ⟨rest', rfl⟩
        · exact hout _ _ _ h
        · rw [Sh.find_app, Sh.find_app]
          simp only [List.append_cancel_left_eq]
          cases rest' with
          | nil => rw [if_neg (fun h => by cases h)]
          | cons d rest' =>
            cases d
            · rw [if_neg (by simp)]; rfl
            · exact Sh.del_find r (true :: rest) h5 hf (true :: rest')
theorem Sh.del_cnt : ∀ (t : Sh) (k : List Bool), t.find k ≠ none → (t.del k).cnt + 1 = t.cnt
  | .nil, _, h => absurd rfl h
  | .node bits w l r, k, hf => by
    rcases pre_cases bits k with h | ⟨rest, rfl⟩
    · rw [Sh.find_lt h] at hf; exact absurd rfl hf
    rw [Sh.find_app] at hf
    rw [Sh.del, List.drop_left]
    cases rest with
    | nil =>
      dsimp only at hf ⊢
      rw [Sh.fix_cnt]
      cases w with
      | none => exact absurd rfl hf
      | some x => simp [Sh.cnt]; omega
    | cons c rest =>
      cases c <;> dsimp only [cond_true, cond_false] at hf ⊢ <;> rw [Sh.fix_cnt]
      · have := Sh.del_cnt l _ hf; simp only [Sh.cnt]; omega
      · have := Sh.del_cnt r _ hf; simp only [Sh.cnt]; omega
def Sh.len : Sh → Nat
  | .nil => 0
  | .node bits _ l r => bits.length + max l.len r.len
theorem Sh.fix_len (bits : List Bool) (w : Option Int) (l r : Sh) : (Sh.fix bits w l r).len ≤ (Sh.node bits w l r).len := by
  cases w with
  | some x => exact Nat.le_refl _
  | none => cases l <;> cases r <;> simp [Sh.fix, Sh.len] <;> omega
theorem Sh.del_len : ∀ (t : Sh) (k : List Bool), (t.del k).len ≤ t.len
  | .nil, _ => Nat.le_refl _
  | .node bits w l r, k => by
    rw [Sh.del]
    split
    · exact Sh.fix_len _ _ _ _
    · rename_i c rest _
      have e1 := Sh.del_len l (c :: rest)
      have e2 := Sh.del_len r (c :: rest)
      cases c
      · refine Nat.le_trans (Sh.fix_len _ _ _ _) ?_
        simp only [Sh.len]; omega
      · refine Nat.le_trans (Sh.fix_len _ _ _ _) ?_
        simp only [Sh.len]; omega
theorem Sh.put_len : ∀ (t : Sh) (k : List Bool) (v : Int), (t.put k v).len ≤ max t.len k.length
  | .nil, k, v => by simp [Sh.put, Sh.len]
  | .node bits w l r, k, v => by
    rw [Sh.put]
    have hle := lcp_le bits k
    split
    · rename_i hlt
      rw [List.getElem?_eq_getElem hlt]
      have h1 : (bits.drop (lcp bits k)).length = bits.length - lcp bits k := List.length_drop
      have h3 : (bits.take (lcp bits k)).length = lcp bits k := by rw [List.length_take]; omega
      cases hk : k.drop (lcp bits k) with
      | nil => cases bits[lcp bits k] <;> simp only [Sh.sub, cond_true, cond_false, Sh.len, h1, h3] <;> omega
      | cons c ks =>
        have h2 : (c :: ks).length = k.length - lcp bits k := by rw [← hk, List.length_drop]
        cases bits[lcp bits k] <;> simp only [Sh.sub, cond_true, cond_false, Sh.len, h1, h2, h3] <;> omega
    · rename_i hge
      have hkk := lcp_full hge
      generalize k.drop bits.length = rest at *
      subst hkk
      split
      · simp only [Sh.len]; omega
      · rename_i c rest
        have e1 := Sh.put_len l (c :: rest) v
        have e2 := Sh.put_len r (c :: rest) v
        rw [List.length_append]
        cases c <;> simp only [cond_true, cond_false, Sh.len] <;> omega
end Go.Proofs.YtcdajekafnggkaaGreatDoor.Tr
/- The trie's functions: without, Del, Get, count, Nodes, on trees of words. -/
set_option linter.unusedVariables false
set_option linter.unusedSimpArgs false
namespace Go.Proofs.YtcdajekafnggkaaGreatDoor.Tr
open Go.Px

theorem without_b3 {R : Value → IMem → SH → Prop} {b : Nat} {bits : List Bool} {w : Option Int} {l r : Sh} {pl pr : Option Addr} {Sl Sr F : SH} {J : IMem} {T : SH} (hl : Rep l pl Sl) (hr : Rep r pr Sr)
    (hlen : (Sh.node bits w l r).len ≤ 4611686018427387904) (hs : Sub (nodO b bits w pl pr :: (Sl ++ Sr) ++ F) T) (hR : ∀ q S' T', Rep (Sh.fix bits w l r) q S' → Sub (S' ++ F) T' → R (.pointer q) J T') : trie_without_b3 R (some ⟨b, 0, none⟩) J T := by
  have c0 : ∀ (o : Nat) (v : Value), (nodO b bits w pl pr).2 = (nodO b bits w pl pr).2 → (#[.string (eb bits), .bool w.isSome, .int .i64 (w.getD 0), .pointer pl, .pointer pr] : Array Value)[o]? = some v → Cell J T ⟨b, o, none⟩ v := fun o v _ h => Sub.cell' hs (Cell.at0 h)
  have k0 : Cell J T ⟨b, 3, none⟩ (.pointer pl) := c0 3 _ rfl rfl
  have k1 : Cell J T ⟨b, 4, none⟩ (.pointer pr) := c0 4 _ rfl rfl
  have kb : Cell J T ⟨b, 0, none⟩ (.string (eb bits)) := c0 0 _ rfl rfl
  refine ⟨w.isSome, c0 1 _ rfl rfl, ?_⟩
  cases w with
  | some x => exact hR (some ⟨b, 0, none⟩) (nodO b bits (some x) pl pr :: (Sl ++ Sr)) T ⟨b, pl, pr, Sl, Sr, rfl, rfl, hl, hr⟩ hs
  | none =>
    refine ⟨by omega, by omega, pl, k0, ?_⟩
    cases l with
    | nil =>
      obtain ⟨rfl, rfl⟩ := hl
      refine ⟨by omega, by omega, none, k0, by omega, by omega, pr, k1, ?_⟩
      cases r with
      | nil =>
        obtain ⟨rfl, rfl⟩ := hr
        exact hR none [] T ⟨rfl, rfl⟩ hs.drop
      | node b2 w2 l2 r2 =>
        obtain ⟨rb, pl2, pr2, Sl2, Sr2, rfl, rfl, hl2, hr2⟩ := hr
        simp only [Sh.len] at hlen
        have kr : Cell J T ⟨rb, 0, none⟩ (.string (eb b2)) := Sub.cell' hs (Cell.tl (Cell.at0 rfl))
        refine ⟨by omega, by omega, _, k1, _, kb, by omega, by omega, _, k1, _, kr, by rw [eb_size, eb_size]; omega, ?_⟩
        rw [eb_append]
        refine StP.of_sub hs (StP.tl (StP.at0 (o := 0) (vs := [.string (eb (bits ++ b2))]) (by simp) rfl fun T2 hs2 => ?_))
        refine ⟨by omega, by omega, some ⟨rb, 0, none⟩, Sub.cell' hs2 (Cell.at0 rfl), ?_⟩
        exact hR (some ⟨rb, 0, none⟩) (nodO rb (bits ++ b2) w2 pl2 pr2 :: (Sl2 ++ Sr2)) T2 ⟨rb, pl2, pr2, Sl2, Sr2, rfl, rfl, hl2, hr2⟩ hs2.drop
    | node b2 w2 l2 r2 =>
      obtain ⟨lb, pl2, pr2, Sl2, Sr2, rfl, rfl, hl2, hr2⟩ := hl
      refine ⟨by omega, by omega, pr, k1, ?_⟩
      cases r with
      | node b3 w3 l3 r3 =>
        have hr' := hr
        obtain ⟨rb, pl3, pr3, Sl3, Sr3, rfl, hSr, hl3, hr3⟩ := hr'
        exact hR (some ⟨b, 0, none⟩) (nodO b bits none _ _ :: ((nodO lb b2 w2 pl2 pr2 :: (Sl2 ++ Sr2)) ++ Sr)) T ⟨b, _, _, _, Sr, rfl, rfl, ⟨lb, pl2, pr2, Sl2, Sr2, rfl, rfl, hl2, hr2⟩, hr⟩ hs
      | nil =>
        obtain ⟨rfl, rfl⟩ := hr
        simp only [Sh.len] at hlen
        have kl : Cell J T ⟨lb, 0, none⟩ (.string (eb b2)) := Sub.cell' hs (Cell.tl (Cell.at0 rfl))
        refine ⟨by omega, by omega, _, k0, ?_⟩
        refine ⟨by omega, by omega, _, k0, _, kb, by omega, by omega, _, k0, _, kl, by rw [eb_size, eb_size]; omega, ?_⟩
        rw [eb_append]
        refine StP.of_sub hs (StP.tl (StP.at0 (o := 0) (vs := [.string (eb (bits ++ b2))]) (by simp) rfl fun T2 hs2 => ?_))
        refine ⟨by omega, by omega, some ⟨lb, 0, none⟩, Sub.cell' hs2 (Cell.at0 rfl), ?_⟩
        refine hR (some ⟨lb, 0, none⟩) (nodO lb (bits ++ b2) w2 pl2 pr2 :: (Sl2 ++ Sr2)) T2 ⟨lb, pl2, pr2, Sl2, Sr2, rfl, rfl, hl2, hr2⟩ ?_
        have := hs2.drop
        change Sub (nodO lb (bits ++ b2) w2 pl2 pr2 :: ((Sl2 ++ Sr2) ++ [] ++ F)) T2 at this
        rw [List.append_nil] at this
        exact this

theorem without_runs : ∀ (t : Sh) (k : List Bool) (p : Option Addr) (S F : SH) (I : IMem), t.find k ≠ none → t.len ≤ 4611686018427387904 → Rep t p S →
    Runs Tryz.prog 47 #[.pointer p, .string (eb k)] I (S ++ F) fun x J T => ∃ q S', x = .pointer q ∧ Rep (t.del k) q S' ∧ T = S' ++ F
  | .nil, k, p, S, F, I, hf, _, _ => absurd rfl hf
  | .node bits w l r, k, p, S, F, I, hf, hlen, ⟨b, pl, pr, Sl, Sr, hp, hS, hl, hr⟩ => by
    subst hp hS
    rcases pre_cases bits k with h | ⟨rest, rfl⟩
    · rw [Sh.find_lt h] at hf; exact absurd rfl hf
    rw [Sh.find_app] at hf
    refine Runs.drop (trie_without_fn _ _ _ _ _ ?_)
    refine ⟨eb bits, Cell.at0 rfl, by omega, by rw [eb_size, eb_size, List.length_append]; omega, ?_⟩
    rw [eb_size, eb_size, eb_extract, List.take_length, show ((bits.length : Nat) : Int).toNat = bits.length by omega, List.drop_left, Sh.del, List.drop_left, trie_without_b1, eb_size]
    cases rest with
    | nil =>
      show StP _ ⟨b, 1, none⟩ [.bool false] fun S1 => StP S1 ⟨b, 2, none⟩ [.int .i64 0] fun S1' => trie_without_b3 _ (some ⟨b, 0, none⟩) I S1'
      refine StP.at0 (o := 1) (vs := [.bool false]) (by simp) rfl (StP.at0 (o := 2) (vs := [.int .i64 0]) (by simp [setR]) rfl ?_)
      refine without_b3 (b := b) (bits := bits) (w := none) (F := F) hl hr ?_ (Sub.refl _) ?_
      · simpa only [Sh.len] using hlen
      · intro q S' T' hq hs
        exact ⟨_, hs, q, S', rfl, hq, rfl⟩
    | cons c rest =>
      rw [show ((((c :: rest).length : Nat) : Int) == (0 : Int)) = false by simp; omega]
      refine ⟨sg c, by omega, by rw [eb_get]; simp, ?_⟩
      dsimp only at hf ⊢
      simp only [Sh.len] at hlen
      cases c with
      | false =>
        refine ⟨(kid_in false).1, (kid_in false).2, pl, Cell.at0 rfl, ?_⟩
        refine Runs.perm (S' := Sl ++ (nodO b bits w pl pr :: (Sr ++ F))) (by simp only [List.cons_append, List.append_assoc]; exact List.perm_middle.symm) ?_
        refine (without_runs l (false :: rest) pl Sl _ I hf (by omega) hl).mono ?_
        rintro _ J T _ ⟨q, S', rfl, hq, rfl⟩
        refine ⟨q, rfl, (kid_in false).1, (kid_in false).2, StP.appR (StP.at0 (o := 3) (vs := [.pointer q]) (by simp) rfl ?_)⟩
        refine without_b3 (b := b) (bits := bits) (w := w) (pl := q) (pr := pr) (F := F) hq hr ?_ ⟨[], ?_⟩ ?_
        · have := Sh.del_len l (false :: rest)
          simp only [Sh.len]; omega
        · simp only [List.append_nil, List.cons_append, List.append_assoc]; exact List.perm_middle
        · intro q' S'' T' hq' hs
          exact ⟨_, hs, q', S'', rfl, hq', rfl⟩
      | true =>
        refine ⟨(kid_in true).1, (kid_in true).2, pr, Cell.at0 rfl, ?_⟩
        have hperm : ∀ (X : SH) (n : Nat × Obj), (n :: (Sl ++ X) ++ F).Perm (X ++ (n :: (Sl ++ F))) := fun X n => by
          simp only [List.cons_append, List.append_assoc]
          refine List.Perm.trans (List.Perm.cons _ ?_) List.perm_middle.symm
          rw [← List.append_assoc, ← List.append_assoc]
          exact List.perm_append_comm.append_right _
        refine Runs.perm (S' := Sr ++ (nodO b bits w pl pr :: (Sl ++ F))) (hperm _ _) ?_
        refine (without_runs r (true :: rest) pr Sr _ I hf (by omega) hr).mono ?_
        rintro _ J T _ ⟨q, S', rfl, hq, rfl⟩
        refine ⟨q, rfl, (kid_in true).1, (kid_in true).2, StP.appR (StP.at0 (o := 4) (vs := [.pointer q]) (by simp) rfl ?_)⟩
        refine without_b3 (b := b) (bits := bits) (w := w) (pl := pl) (pr := q) (F := F) hl hq ?_ ⟨[], ?_⟩ ?_
        · have := Sh.del_len r (true :: rest)
          simp only [Sh.len]; omega
        · rw [List.append_nil]; exact (hperm S' (nodO b bits w pl q)).symm
        · intro q' S'' T' hq' hs
          exact ⟨_, hs, q', S'', rfl, hq', rfl⟩
end Go.Proofs.YtcdajekafnggkaaGreatDoor.Tr
/- The trie's functions: Get, Del, words that may not be; the law's words; TrieWhole and TrieMay. -/
set_option linter.unusedVariables false
set_option linter.unusedSimpArgs false
namespace Go.Proofs.YtcdajekafnggkaaGreatDoor.Tr
open Go.Px

def getV (o : Option Int) : Value := .tuple #[.int .i64 (o.getD 0), .bool o.isSome]
theorem Get_runs (tb : Nat) (t : Sh) (hw : t.wf) (own : SH) (ho : TriO tb t own) (k : List Bool) (hk : k.length ≤ 128) (I : IMem) (F : SH) :
    Runs Tryz.prog 46 #[.pointer (some ⟨tb, 0, none⟩), .string (eb k)] I (own ++ F) fun x J T => x = getV (t.find k) ∧ T = own ++ F := by
  refine trie_Trie_Get_fn _ _ _ _ _ ?_
  refine (Longest_runs tb t own ho k hk I F).mono ?_
  rintro _ J T _ ⟨rfl, rfl⟩
  obtain ⟨hno, hyes⟩ := IsL.of hw k
  generalize t.walk k 0 none = res at hno hyes
  cases res with
  | none =>
    have := hno rfl k.length (Nat.le_refl _)
    rw [List.take_length] at this
    exact ⟨_, _, _, rfl, by rw [this]; rfl, rfl⟩
  | some r =>
    obtain ⟨v, n⟩ := r
    obtain ⟨h1, h2, h3⟩ := hyes v n rfl
    refine ⟨_, _, _, rfl, ?_⟩
    show bcase (((n : Nat) : Int) != ((eb k).size : Int)) _ _
    rw [eb_size]
    refine bcase_bne (fun h => ?_) (fun h => ?_)
    · have := h3 k.length (by omega) (Nat.le_refl _)
      rw [List.take_length] at this
      exact ⟨by rw [this]; rfl, rfl⟩
    · obtain rfl : n = k.length := by omega
      rw [List.take_length] at h2
      exact ⟨by rw [h2]; rfl, rfl⟩
theorem Del_runs (tb : Nat) (t : Sh) (hw : t.wf) (hlen : t.len ≤ 4611686018427387904) (hcnt : t.cnt ≤ 4611686018427387904) (own : SH) (ho : TriO tb t own) (k : List Bool) (hk : k.length ≤ 128) (I : IMem) (F : SH) :
    Runs Tryz.prog 21 #[.pointer (some ⟨tb, 0, none⟩), .string (eb k)] I (own ++ F) fun x J T => x = .bool (t.find k).isSome ∧ ∃ own', TriO tb (if (t.find k).isSome then t.del k else t) own' ∧ T = own' ++ F := by
  refine trie_Trie_Del_fn _ _ _ _ _ ?_
  refine (Get_runs tb t hw own ho k hk I F).mono ?_
  rintro _ J T _ ⟨rfl, rfl⟩
  refine ⟨_, _, rfl, ?_⟩
  cases hf : t.find k with
  | none => exact ⟨rfl, own, ho, rfl⟩
  | some v =>
    obtain ⟨p, S, hr, rfl⟩ := ho
    have hc := Sh.del_cnt t k (by rw [hf]; exact fun h => by cases h)
    refine ⟨p, by rw [List.append_assoc]; exact Cell.appR (Cell.at0 rfl), ?_⟩
    rw [List.append_assoc]
    refine (without_runs t k p S _ J (by rw [hf]; exact fun h => by cases h) hlen hr).mono ?_
    rintro _ J2 T2 _ ⟨q, S', rfl, hq, rfl⟩
    refine ⟨q, rfl, StP.appR (StP.at0 (o := 0) (vs := [.pointer q]) (by simp) rfl ?_)⟩
    refine ⟨(t.cnt : Nat), Cell.appR (Cell.at0 rfl), StP.appR (StP.at0 (o := 1) (vs := [.int .i64 (IntKind.wrap .i64 (((t.cnt : Nat) : Int) - 1))]) (by simp [setR]) rfl ?_)⟩
    refine ⟨rfl, S' ++ [trO tb q ((t.del k).cnt : Nat)], ⟨q, S', hq, rfl⟩, ?_⟩
    rw [wrap_i64 (by omega) (by omega), show ((t.cnt : Nat) : Int) - 1 = ((t.del k).cnt : Nat) by omega, List.append_assoc]
    rfl
/-! ### the law's words -/
end Go.Proofs.YtcdajekafnggkaaGreatDoor.Tr
/- An index in memory; a place's trie. -/
namespace Go.Proofs.YtcdajekafnggkaaGreatDoor
open Go.Px
set_option linter.unusedVariables false
set_option linter.unusedSimpArgs false
set_option maxRecDepth 8000

/-- a trie of a place -/
structure Te where
  k : Int
  s : Int
  b : Nat
  t : Tr.Sh
abbrev keyTe (k s : Int) : Value := .agg #[.int .i64 k, .int .i64 s]
abbrev enTe (i : Nat) (x : Te) : MapEntry := { key := keyTe x.k x.s, val := .pointer (some ⟨x.b, 0, none⟩), born := i }
def esOf (L : List Te) : Array MapEntry := (L.mapIdx enTe).toArray
def lookT (L : List Te) (k s : Int) : Option Te := L.find? fun x => x.k == k && x.s == s
theorem eq_place (a b c d : Int) : eqV Tryz.prog 4 71 (keyTe a b) (keyTe c d) = some ((a == c) && ((b == d) && true)) := by kernel_rfl
theorem find_es (k s : Int) : ∀ (L : List Te) (es : List MapEntry) (i : Nat), es.map (fun e => (e.key, e.val)) = L.map (fun x => (keyTe x.k x.s, Value.pointer (some ⟨x.b, 0, none⟩))) →
    (∃ x j, lookT L k s = some x ∧ findS Tryz.prog 71 (keyTe k s) es i = some (some (j, .pointer (some ⟨x.b, 0, none⟩)))) ∨ (lookT L k s = none ∧ findS Tryz.prog 71 (keyTe k s) es i = some none)
  | [], [], i, _ => .inr ⟨rfl, rfl⟩
  | [], e :: es, i, h => by simp at h
  | x :: L, [], i, h => by simp at h
  | x :: L, e :: es, i, h => by
    simp only [List.map_cons, List.cons.injEq, Prod.mk.injEq] at h
    obtain ⟨⟨h1, h2⟩, h3⟩ := h
    unfold findS lookT
    rw [h1, eq_place]
    by_cases hx : x.k = k ∧ x.s = s
    · have e1 : (x.k == k && x.s == s) = true := by simp [hx]
      have e2 : ((k == x.k) && ((s == x.s) && true)) = true := by simp [hx]
      rw [List.find?_cons, e1, e2]
      exact .inl ⟨x, i, rfl, by rw [h2]⟩
    · have e1 : (x.k == k && x.s == s) = false := by
        rw [Bool.and_eq_false_iff, beq_eq_false_iff_ne, beq_eq_false_iff_ne]; omega
      have e2 : ((k == x.k) && ((s == x.s) && true)) = false := by
        rw [Bool.and_true, Bool.and_eq_false_iff, beq_eq_false_iff_ne, beq_eq_false_iff_ne]; omega
      rw [List.find?_cons, e1, e2]
      exact find_es k s L es (i + 1) h3
theorem es_map : ∀ (L : List Te), (esOf L).toList.map (fun e => (e.key, e.val)) = L.map (fun x => (keyTe x.k x.s, Value.pointer (some ⟨x.b, 0, none⟩))) := fun L => by
  apply List.ext_getElem?
  intro i
  simp only [esOf, List.getElem?_map, List.getElem?_mapIdx]
  cases L[i]? <;> rfl
theorem es_snoc (L : List Te) (x : Te) : (esOf L).push (enTe L.length x) = esOf (L ++ [x]) := by
  unfold esOf
  apply Array.ext'
  simp [List.mapIdx_append]
theorem es_upd (L1 L2 : List Te) (x y : Te) (h : x.k = y.k) (h1 : x.s = y.s) (h2 : x.b = y.b) : esOf (L1 ++ x :: L2) = esOf (L1 ++ y :: L2) := by
  unfold esOf
  congr 1
  apply List.ext_getElem?
  intro i
  rw [List.getElem?_mapIdx, List.getElem?_mapIdx]
  rcases Nat.lt_trichotomy i L1.length with hi | hi | hi
  · rw [List.getElem?_append_left hi, List.getElem?_append_left hi]
  · subst hi
    rw [List.getElem?_append_right (Nat.le_refl _), List.getElem?_append_right (Nat.le_refl _), Nat.sub_self]
    simp [enTe, h, h1, h2]
  · rw [List.getElem?_append_right (by omega), List.getElem?_append_right (by omega)]
    obtain ⟨j, hj⟩ : ∃ j, i - L1.length = j + 1 := ⟨i - L1.length - 1, by omega⟩
    rw [hj]; rfl
/-! ### the tries' blocks -/
def TrsO : List Te → SH → Prop
  | [], own => own = []
  | x :: L, own => ∃ o1 o2, Tr.TriO x.b x.t o1 ∧ x.t.wf ∧ x.t.len ≤ 128 ∧ TrsO L o2 ∧ own = o1 ++ o2
theorem TrsO.snoc {x : Te} {o1 : SH} (h1 : Tr.TriO x.b x.t o1) (hw : x.t.wf) (hl : x.t.len ≤ 128) : ∀ {L : List Te} {own : SH}, TrsO L own → TrsO (L ++ [x]) (own ++ o1)
  | [], own, h => by
    have h : own = [] := h
    subst h
    exact ⟨o1, [], h1, hw, hl, rfl, by simp⟩
  | y :: L, own, h => by
    obtain ⟨oy, o2, hy, hyw, hyl, hL, rfl⟩ := h
    exact ⟨oy, o2 ++ o1, hy, hyw, hyl, TrsO.snoc h1 hw hl hL, by rw [List.append_assoc]⟩
theorem TrsO.split {k s : Int} {x : Te} : ∀ {L : List Te} {own : SH}, TrsO L own → lookT L k s = some x → ∃ L1 L2 oA ox oB, L = L1 ++ x :: L2 ∧ x.k = k ∧ x.s = s ∧ (∀ y ∈ L1, ¬ (y.k = k ∧ y.s = s)) ∧ TrsO L1 oA ∧ Tr.TriO x.b x.t ox ∧ x.t.wf ∧ x.t.len ≤ 128 ∧ TrsO L2 oB ∧ own = oA ++ (ox ++ oB)
  | [], own, h, hl => by cases hl
  | y :: L, own, h, hl => by
    obtain ⟨oy, o2, hy, hyw, hyl, hL, rfl⟩ := h
    unfold lookT at hl
    rw [List.find?_cons] at hl
    by_cases e : (y.k == k && y.s == s) = true
    · rw [e] at hl
      have hl : y = x := Option.some.inj hl
      subst hl
      rw [Bool.and_eq_true, beq_iff_eq, beq_iff_eq] at e
      exact ⟨[], L, [], oy, o2, rfl, e.1, e.2, fun z hz => (by cases hz), rfl, hy, hyw, hyl, hL, rfl⟩
    · rw [Bool.not_eq_true] at e
      rw [e] at hl
      obtain ⟨L1, L2, oA, ox, oB, rfl, h1, h2, hne, hA, hx, hxw, hxl, hB, rfl⟩ := TrsO.split hL hl
      refine ⟨y :: L1, L2, oy ++ oA, ox, oB, rfl, h1, h2, fun z hz => ?_, ⟨oy, oA, hy, hyw, hyl, hA, rfl⟩, hx, hxw, hxl, hB, by rw [List.append_assoc]⟩
      rcases List.mem_cons.1 hz with rfl | hz
      · rw [Bool.and_eq_false_iff, beq_eq_false_iff_ne, beq_eq_false_iff_ne] at e
        rintro ⟨g1, g2⟩
        rcases e with e | e
        · exact e g1
        · exact e g2
      · exact hne z hz
theorem TrsO.join {x : Te} {ox oB : SH} {L2 : List Te} (hx : Tr.TriO x.b x.t ox) (hw : x.t.wf) (hl : x.t.len ≤ 128) (hB : TrsO L2 oB) : ∀ {L1 : List Te} {oA : SH}, TrsO L1 oA → TrsO (L1 ++ x :: L2) (oA ++ (ox ++ oB))
  | [], oA, h => by
    have h : oA = [] := h
    subst h
    exact ⟨ox, oB, hx, hw, hl, hB, rfl⟩
  | y :: L, own, h => by
    obtain ⟨oy, o2, hy, hyw, hyl, hL, rfl⟩ := h
    exact ⟨oy, o2 ++ (ox ++ oB), hy, hyw, hyl, TrsO.join hx hw hl hB hL, by rw [List.append_assoc]⟩
/-! ### an index -/
def IxO (xb : Nat) (M : Tb.KV) (n : Nat) (L : List Te) (own : SH) : Prop := ∃ xm tb o1 o2, Tb.TabO xm xb tb o1 ∧ Tb.TI 1073741824 tb M ∧ tb.live = n ∧ (L.map fun x => (x.k, x.s)).Nodup ∧ TrsO L o2 ∧ own = o1 ++ ((xm, .map (esOf L) L.length) :: o2)
theorem tab_cell {xm xb : Nat} {tb : Tb.Tbl} {o1 F T : SH} (h : Tb.TabO xm xb tb o1) (hs : Sub (o1 ++ F) T) {I : IMem} : Cell I T ((⟨xb, 0, none⟩ : Addr).add 3) (.map (some xm)) := by
  refine Cell.at_ (add_mk _ _ _) ?_
  rcases h with ⟨_, rfl⟩ | ⟨sb, _, rfl⟩
  · exact Cell.among (F := F) hs rfl
  · exact Cell.among (F := Tb.sloB sb tb.ss :: F) hs rfl
theorem lookT_snoc {L : List Te} {k s : Int} {x : Te} (h : lookT L k s = none) (h1 : x.k = k) (h2 : x.s = s) : lookT (L ++ [x]) k s = some x := by
  unfold lookT at h ⊢
  rw [List.find?_append, h]
  simp [h1, h2]
theorem look_at {es : Array MapEntry} {L : List Te} {k s : Int} {I : IMem} {T : SH} {xm ck : Nat} (he : es = esOf L) (hm : MpC I T xm es ck) :
    (∃ x, lookT L k s = some x ∧ MapAtS Tryz.prog 71 I T (some xm) (keyTe k s) (.pointer none) (.pointer (some ⟨x.b, 0, none⟩)) true) ∨ (lookT L k s = none ∧ MapAtS Tryz.prog 71 I T (some xm) (keyTe k s) (.pointer none) (.pointer none) false) := by
  subst he
  rcases find_es k s L (esOf L).toList 0 (es_map L) with ⟨x, j, h1, h2⟩ | ⟨h1, h2⟩
  · exact .inl ⟨x, h1, _, ⟨ck, hm⟩, .inl ⟨j, h2, rfl⟩⟩
  · exact .inr ⟨h1, _, ⟨ck, hm⟩, .inr ⟨h2, rfl, rfl⟩⟩
theorem trie_runs {xb n : Nat} {M : Tb.KV} {L : List Te} {own F S : SH} {I : IMem} (t : Tg) (h : IxO xb M n L own) (hs : Sub (own ++ F) S) :
    Runs Tryz.prog 20 #[.pointer (some ⟨xb, 0, none⟩), vT t] I S fun v J T => ∃ L' own' x, v = .pointer (some ⟨x.b, 0, none⟩) ∧ lookT L' t.1 (t.2.2.1.size : Int) = some x ∧ (L' = L ∨ (lookT L t.1 (t.2.2.1.size : Int) = none ∧ x = ⟨t.1, (t.2.2.1.size : Int), x.b, .nil⟩ ∧ L' = L ++ [x])) ∧ IxO xb M n L' own' ∧ Sub (own' ++ F) T := by
  obtain ⟨xm, tb, o1, o2, hT, hI, hn, hnd, hL, rfl⟩ := h
  refine index_Index_trie_fn _ _ _ _ _ _ _ _ ?_
  unfold index_Index_trie
  intro b3
  refine ⟨_, Cell.at0 rfl, _, Cell.at0 rfl, fun b5 => StP.all (vs := [.int .i64 t.1, .int .i64 (t.2.2.1.size : Int)]) rfl rfl ?_⟩
  have hs1 : Sub ((b5, .cells #[.int .i64 t.1, .int .i64 (t.2.2.1.size : Int)] 71 (0, 0)) :: (o1 ++ ((xm, .map (esOf L) L.length) :: (o2 ++ F)))) ((b5, .cells #[.int .i64 t.1, .int .i64 (t.2.2.1.size : Int)] 71 (0, 0)) :: (b3, .cells (elT t).toArray 35 (0, 0)) :: S) :=
    ((hs.skip (b3, .cells (elT t).toArray 35 (0, 0))).cons (b5, .cells #[.int .i64 t.1, .int .i64 (t.2.2.1.size : Int)] 71 (0, 0))).re (by intro a; simp only [cnt_cons, cnt_app]; omega)
  have hc0 : ∀ {J : IMem} {T : SH} {G : SH}, Sub ((b5, .cells #[.int .i64 t.1, .int .i64 (t.2.2.1.size : Int)] 71 (0, 0)) :: G) T → Cell J T ⟨b5, 0, none⟩ (.int .i64 t.1) ∧ Cell J T ((⟨b5, 0, none⟩ : Addr).add 1) (.int .i64 (t.2.2.1.size : Int)) := fun hs => ⟨Cell.among hs rfl, Cell.at_ (add_mk _ _ _) (Cell.among hs rfl)⟩
  -- what is there is told
  have fin : ∀ (L' : List Te) (o2' : SH) (x : Te) (T : SH), lookT L' t.1 (t.2.2.1.size : Int) = some x → (L' = L ∨ (lookT L t.1 (t.2.2.1.size : Int) = none ∧ x = ⟨t.1, (t.2.2.1.size : Int), x.b, .nil⟩ ∧ L' = L ++ [x])) → (L'.map fun x => (x.k, x.s)).Nodup → TrsO L' o2' →
      Sub ((b5, .cells #[.int .i64 t.1, .int .i64 (t.2.2.1.size : Int)] 71 (0, 0)) :: (o1 ++ ((xm, .map (esOf L') L'.length) :: (o2' ++ F)))) T →
      index_Index_trie_b3 (fun v J T => ∃ L' own' x, v = .pointer (some ⟨x.b, 0, none⟩) ∧ lookT L' t.1 (t.2.2.1.size : Int) = some x ∧ (L' = L ∨ (lookT L t.1 (t.2.2.1.size : Int) = none ∧ x = ⟨t.1, (t.2.2.1.size : Int), x.b, .nil⟩ ∧ L' = L ++ [x])) ∧ IxO xb M n L' own' ∧ Sub (own' ++ F) T) (some ⟨xb, 0, none⟩) ⟨b5, 0, none⟩ I T := by
    intro L' o2' x T hx hL' hnd' hTr hsT
    unfold index_Index_trie_b3 index_Index_trie_b4
    obtain ⟨e0, e1⟩ := hc0 (J := I) hsT
    have hm : MpC I T xm (esOf L') L'.length := MpC.of_sub hsT.drop.right
    refine ⟨_, tab_cell hT hsT.drop, _, e0, _, e1, ?_⟩
    rcases look_at rfl hm (k := t.1) (s := (t.2.2.1.size : Int)) with ⟨y, hy, hat⟩ | ⟨hy, _⟩
    · rw [hx] at hy
      have hy := Option.some.inj hy
      subst hy
      exact ⟨_, true, hat, L', o1 ++ ((xm, .map (esOf L') L'.length) :: o2'), x, rfl, hx, hL', ⟨xm, tb, o1, o2', hT, hI, hn, hnd', hTr, rfl⟩, hsT.drop.re (by intro a; simp only [cnt_cons, cnt_app]; omega)⟩
    · rw [hx] at hy; cases hy
  unfold index_Index_trie_b1
  obtain ⟨e0, e1⟩ := hc0 (J := I) hs1
  have hm : MpC I _ xm (esOf L) L.length := MpC.of_sub hs1.drop.right
  refine ⟨_, tab_cell hT hs1.drop, _, e0, _, e1, ?_⟩
  unfold index_Index_trie_b2
  rcases look_at rfl hm (k := t.1) (s := (t.2.2.1.size : Int)) with ⟨y, hy, hat⟩ | ⟨hy, hat⟩
  · exact ⟨_, true, hat, bcase_f rfl (fin L o2 y _ hy (.inl rfl) hnd hL hs1)⟩
  · refine ⟨_, false, hat, bcase_t rfl ⟨_, tab_cell hT hs1.drop, _, e0, _, e1, fun b26 => ⟨((Sub.refl _).skip _).keep (IMem.le.refl I), ?_⟩⟩⟩
    have hs2 : Sub ((xm, .map (esOf L) L.length) :: ((b5, .cells #[.int .i64 t.1, .int .i64 (t.2.2.1.size : Int)] 71 (0, 0)) :: (o1 ++ (o2 ++ ((b26, .cells #[.pointer none, .int .i64 0] 100 (0, 0)) :: F))))) ((b26, .cells #[.pointer none, .int .i64 0] 100 (0, 0)) :: (b5, .cells #[.int .i64 t.1, .int .i64 (t.2.2.1.size : Int)] 71 (0, 0)) :: (b3, .cells (elT t).toArray 35 (0, 0)) :: S) :=
      (hs1.cons (b26, .cells #[.pointer none, .int .i64 0] 100 (0, 0))).re (by intro a; simp only [cnt_cons, cnt_app]; omega)
    obtain ⟨i, hi, hput⟩ := hs2.put (xm, .map ((esOf L).push (enTe L.length ⟨t.1, (t.2.2.1.size : Int), b26, .nil⟩)) (L.length + 1))
    rcases find_es t.1 (t.2.2.1.size : Int) L (esOf L).toList 0 (es_map L) with ⟨x, j, h1, h2⟩ | ⟨h1, h2⟩
    · rw [hy] at h1; cases h1
    · refine ⟨xm, i, esOf L, L.length, _, _, rfl, hi, .inr ⟨h2, rfl, rfl⟩, ?_⟩
      rw [es_snoc] at hput
      refine fin (L ++ [⟨t.1, (t.2.2.1.size : Int), b26, .nil⟩]) (o2 ++ [(b26, .cells #[.pointer none, .int .i64 0] 100 (0, 0))]) ⟨t.1, (t.2.2.1.size : Int), b26, .nil⟩ _ (lookT_snoc hy rfl rfl) (.inr ⟨hy, rfl, rfl⟩) ?_ (TrsO.snoc (x := ⟨t.1, (t.2.2.1.size : Int), b26, .nil⟩) (Tr.TriO.new b26) trivial (Nat.zero_le _) hL) ?_
      · rw [List.map_append, List.nodup_append]
        refine ⟨hnd, by simp, ?_⟩
        intro a ha c hc e
        simp at hc
        subst hc
        obtain ⟨y, hym, hye⟩ := List.mem_map.1 ha
        have : lookT L t.1 (t.2.2.1.size : Int) ≠ none := by
          unfold lookT
          rw [ne_eq, List.find?_eq_none]
          intro hall
          have := hall y hym
          rw [e] at hye
          injection hye with g1 g2
          rw [g1, g2] at this
          simp at this
        exact this hy
      · rw [List.length_append, List.length_singleton, ← es_snoc]
        exact Sub.re (M := (xm, .map ((esOf L).push (enTe L.length ⟨t.1, (t.2.2.1.size : Int), b26, .nil⟩)) (L.length + 1)) :: ((b5, .cells #[.int .i64 t.1, .int .i64 (t.2.2.1.size : Int)] 71 (0, 0)) :: (o1 ++ (o2 ++ ((b26, .cells #[.pointer none, .int .i64 0] 100 (0, 0)) :: F))))) (by rw [es_snoc]; exact hput) (by intro a; simp only [cnt_cons, cnt_app, cnt_nil]; omega)
end Go.Proofs.YtcdajekafnggkaaGreatDoor
/- Which triggers have a name, and which: plain laws. -/
namespace Go.Proofs.YtcdajekafnggkaaGreatDoor
open Go.Px
set_option linter.unusedVariables false
set_option linter.unusedSimpArgs false
set_option maxRecDepth 8000

theorem dgt_low : ∀ d : Fin 16, foldU (dgt d.val) = dgt d.val := by decide +kernel
theorem numL_dgt {b : Nat} (hb : b ≤ 16) (hb2 : 0 < b) : ∀ (f n : Nat), ∀ c ∈ numL f b n, foldU c = c
  | 0, n, c, h => by cases h
  | f + 1, n, c, h => by
    rw [numL] at h
    split at h
    · rename_i hn
      rw [List.mem_singleton.1 h]; exact dgt_low ⟨n, by omega⟩
    · rcases List.mem_append.1 h with h | h
      · exact numL_dgt hb hb2 f _ c h
      · rw [List.mem_singleton.1 h]; exact dgt_low ⟨n % b, by have := Nat.mod_lt n hb2; omega⟩
theorem low_of {l : List UInt8} (h : ∀ c ∈ l, foldU c = c) : foldB ⟨l.toArray⟩ = ⟨l.toArray⟩ := by
  refine bext ?_
  rw [fold_list]
  show List.map foldU l = l
  conv => rhs; rw [← List.map_id l]
  exact List.map_congr_left h
theorem dec_lab {m : Nat} (h : m ≤ 255) : IsLab (decB m) ∧ (decB m).size ≤ 4 := by
  have := decB_len h
  exact ⟨⟨by omega, by omega, low_of (numL_dgt (by decide) (by decide) 3 m)⟩, by omega⟩
theorem hex_lab (w : Nat) : IsLab (hexB w) ∧ (hexB w).size ≤ 4 := by
  have := hexB_len w
  exact ⟨⟨by omega, by omega, low_of (numL_dgt (by decide) (by decide) 4 w)⟩, by omega⟩
theorem zz_lab : IsLab zzB ∧ zzB.size ≤ 4 := ⟨⟨by decide, by decide, by decide +kernel⟩, by decide⟩
theorem addr_lab {a : ByteArray} : ∀ l ∈ addrL a, IsLab l ∧ l.size ≤ 4 := by
  intro l h
  rw [addrL] at h
  split at h
  · simp only [fourL, List.mem_cons, List.not_mem_nil, or_false] at h
    rcases h with rfl | rfl | rfl | rfl
    all_goals exact dec_lab (bat_le a _)
  · obtain ⟨o, _, rfl⟩ := List.mem_map.1 h
    cases o with
    | none => exact zz_lab
    | some k => exact hex_lab _
theorem pfx_lab {a : ByteArray} {n : Int} (h : mayP a n) : ∀ l ∈ pfxL a n, IsLab l ∧ l.size ≤ 4 := by
  rw [pfxL_may h]
  intro l hl
  rcases List.mem_cons.1 hl with rfl | hl
  · exact dec_lab (by obtain ⟨⟨h1, h2, h3⟩, _⟩ := h; omega)
  · exact addr_lab l hl
theorem pfx_len {a : ByteArray} {n : Int} : (pfxL a n).length ≤ 9 := by
  rw [pfxL]
  split
  · rw [addrL]
    split
    · simp [fourL]
    · have := sixL_len a
      simpa using this
  · simp
theorem word_lab {k : Int} (h : k = 0 ∨ k = 3 ∨ k = 6) : IsLab (wordK k) ∧ (wordK k).size ≤ 13 ∧ kindOf (wordK k) = some k ∧ wordK k ≠ ⟨#[]⟩ := by
  have hne : ∀ x : ByteArray, x.size ≠ 0 → x ≠ ⟨#[]⟩ := fun x h e => h (by rw [e]; rfl)
  rcases h with rfl | rfl | rfl
  all_goals exact ⟨⟨by decide +kernel, by decide +kernel, by decide +kernel⟩, by decide +kernel, by decide +kernel, hne _ (by decide +kernel)⟩
theorem encU_p {t : Tg} (h : GoodP t) : encU t = pfxL t.2.2.1 t.2.2.2 ++ [wordK t.1] := by
  have e : encW t = wordK t.1 := by rw [encW, if_neg (by have := h.kind; omega)]
  rw [encU, e, if_neg (word_lab h.kind).2.2.2, encL, if_pos h.kind]
theorem enc_p {t : Tg} (h : GoodP t) : (∀ l ∈ encU t, IsLab l) ∧ (nm (encU t)).size ≤ 254 ∧ encF t = some (nm (encU t)) := by
  have hw := word_lab h.kind
  have hlab : ∀ l ∈ encU t, IsLab l ∧ l.size ≤ 13 := by
    rw [encU_p h]
    intro l hl
    rcases List.mem_append.1 hl with hl | hl
    · have := pfx_lab h.may l hl; exact ⟨this.1, by omega⟩
    · rw [List.mem_singleton.1 hl]; exact ⟨hw.1, hw.2.1⟩
  have hs : (nm (encU t)).size ≤ 254 := by
    have h1 := nm_bound (b := 13) fun l hl => (hlab l hl).2
    have h2 : (encU t).length ≤ 10 := by rw [encU_p h, List.length_append, List.length_singleton]; have := pfx_len (a := t.2.2.1) (n := t.2.2.2); omega
    omega
  refine ⟨fun l hl => (hlab l hl).1, hs, enc_ok (ls := []) (by rw [h.name]; exact labN_empty) (fun l hl => (hlab l hl).1) hs ?_⟩
  rw [encU_p h, decL, List.getLast?_concat]
  dsimp only
  rw [hw.2.2.1]
  dsimp only
  rw [if_neg (by have := h.kind; omega), List.dropLast_concat, adrF_pfx h.may]
  obtain ⟨t1, t2, t3, t4⟩ := t
  have := h.name
  dsimp only at this ⊢
  rw [this]; rfl

/-- a label that is no word of owner's -/
structure LabP (l : ByteArray) : Prop where
  lab : IsLab l
  kind : kindOf l = none
  star : l ≠ starB
def preS (k : Int) : List ByteArray := if k = 2 ∨ k = 5 then [starB] else []
def sufS (k : Int) : List ByteArray := if k = 4 ∨ k = 5 then [ndB] else []
structure NameP (t : Tg) (ls : List ByteArray) : Prop where
  kind : t.1 = 1 ∨ t.1 = 2 ∨ t.1 = 4 ∨ t.1 = 5
  addr : t.2.2 = (⟨#[]⟩, 0)
  name : t.2.1 = nm ls
  labs : ∀ l ∈ ls, LabP l
  size : (nm ls).size ≤ 254
  some_ : t.1 = 1 ∨ t.1 = 4 → ls ≠ []
theorem star_lab : IsLab starB := ⟨by decide, by decide, by decide +kernel⟩
theorem nd_lab : IsLab ndB := ⟨by decide, by decide, by decide +kernel⟩
theorem nd_ne : ndB ≠ ⟨#[]⟩ := fun e => by have := congrArg ByteArray.size e; revert this; decide
theorem kind_star : kindOf starB = none := by decide +kernel
theorem encU_n {t : Tg} {ls : List ByteArray} (h : NameP t ls) : encU t = preS t.1 ++ ls ++ sufS t.1 := by
  have hl : labN t.2.1 = some ls := by rw [h.name]; exact labN_nm (fun l hl => (h.labs l hl).lab) h.size
  have e2 : encL t = preS t.1 ++ ls := by
    rw [encL, if_neg (by have := h.kind; omega), hl, preS]
    split <;> rfl
  rw [encU, e2]
  rcases h.kind with e | e | e | e
  · rw [show encW t = ⟨#[]⟩ by rw [encW, e]; rfl, if_pos rfl, show sufS t.1 = [] by rw [e]; rfl, List.append_nil]
  · rw [show encW t = ⟨#[]⟩ by rw [encW, e]; rfl, if_pos rfl, show sufS t.1 = [] by rw [e]; rfl, List.append_nil]
  · rw [show encW t = ndB by rw [encW, e]; rfl, if_neg nd_ne, show sufS t.1 = [ndB] by rw [e]; rfl]
  · rw [show encW t = ndB by rw [encW, e]; rfl, if_neg nd_ne, show sufS t.1 = [ndB] by rw [e]; rfl]
theorem pre_lab {k : Int} : ∀ l ∈ preS k, IsLab l := by
  intro l h
  rw [preS] at h
  split at h
  · rw [List.mem_singleton.1 h]; exact star_lab
  · cases h
theorem suf_lab {k : Int} : ∀ l ∈ sufS k, IsLab l := by
  intro l h
  rw [sufS] at h
  split at h
  · rw [List.mem_singleton.1 h]; exact nd_lab
  · cases h
theorem encU_nlab {t : Tg} {ls : List ByteArray} (h : NameP t ls) : ∀ l ∈ encU t, IsLab l := by
  rw [encU_n h]
  intro l hl
  rcases List.mem_append.1 hl with hl | hl
  · rcases List.mem_append.1 hl with hl | hl
    · exact pre_lab l hl
    · exact (h.labs l hl).lab
  · exact suf_lab l hl
theorem nm_sum (a b : List ByteArray) : (nm (a ++ b)).size = (nm a).size + (nm b).size := by
  rw [nm_size, nm_size, nm_size, wire_app, List.length_append]
theorem named_ex {ls : List ByteArray} {ex wild : Int} (hl : ∀ l ∈ ls, LabP l) (hs : (nm ls).size ≤ 254) (hne : ls ≠ []) : namedF ls ex wild = some (ex, nm ls, ⟨#[]⟩, 0) := by
  cases ls with
  | nil => exact absurd rfl hne
  | cons l r =>
    rw [namedF, if_neg (hl l (List.mem_cons_self ..)).star, makeN_ok (fun x hx => (hl x hx).lab) hs]; rfl
theorem named_wild {ls : List ByteArray} {ex wild : Int} (hl : ∀ l ∈ ls, LabP l) (hs : (nm ls).size ≤ 254) : namedF (starB :: ls) ex wild = some (wild, nm ls, ⟨#[]⟩, 0) := by
  rw [namedF, if_pos rfl, makeN_ok (fun x hx => (hl x hx).lab) hs]; rfl
theorem last_kind {ls : List ByteArray} (hl : ∀ l ∈ ls, kindOf l = none) (hne : ls ≠ []) : ∃ w, ls.getLast? = some w ∧ kindOf w = none :=
  ⟨ls.getLast hne, List.getLast?_eq_some_getLast hne, hl _ (List.getLast_mem hne)⟩
theorem dec_n {t : Tg} {ls : List ByteArray} (h : NameP t ls) : decL (encU t) = some t := by
  have ht : t = (t.1, nm ls, ⟨#[]⟩, 0) := by
    obtain ⟨t1, t2, t3, t4⟩ := t
    have h1 := h.name; have h2 := h.addr
    dsimp only at h1 h2 ⊢
    rw [h1, h2]
  rw [encU_n h]
  rcases h.kind with e | e | e | e
  · have hne := h.some_ (.inl e)
    rw [show preS t.1 = [] by rw [e]; rfl, show sufS t.1 = [] by rw [e]; rfl, List.append_nil, List.nil_append, decL]
    obtain ⟨w, hw, hk⟩ := last_kind (fun l hl => (h.labs l hl).kind) hne
    rw [hw]; dsimp only
    rw [hk]; dsimp only
    rw [named_ex h.labs h.size hne]
    conv => rhs; rw [ht, e]
  · rw [show preS t.1 = [starB] by rw [e]; rfl, show sufS t.1 = [] by rw [e]; rfl, List.append_nil, decL]
    obtain ⟨w, hw, hk⟩ := last_kind (ls := [starB] ++ ls) (fun l hl => by
      rcases List.mem_cons.1 hl with rfl | hl
      · exact kind_star
      · exact (h.labs l hl).kind) (by simp)
    rw [hw]; dsimp only
    rw [hk]; dsimp only
    rw [show [starB] ++ ls = starB :: ls by rfl, named_wild h.labs h.size]
    conv => rhs; rw [ht, e]
  · rw [show preS t.1 = [] by rw [e]; rfl, show sufS t.1 = [ndB] by rw [e]; rfl, List.nil_append, decL, List.getLast?_concat]
    dsimp only
    rw [kind_nd]; dsimp only
    rw [if_pos rfl, List.dropLast_concat, named_ex h.labs h.size (h.some_ (.inr e))]
    conv => rhs; rw [ht, e]
  · rw [show preS t.1 = [starB] by rw [e]; rfl, show sufS t.1 = [ndB] by rw [e]; rfl, decL, List.getLast?_concat]
    dsimp only
    rw [kind_nd]; dsimp only
    rw [if_pos rfl, List.dropLast_concat, show [starB] ++ ls = starB :: ls by rfl, named_wild h.labs h.size]
    conv => rhs; rw [ht, e]
theorem enc_n {t : Tg} {ls : List ByteArray} (h : NameP t ls) : encF t = if (nm (encU t)).size ≤ 254 then some (nm (encU t)) else none := by
  split
  · rename_i hs
    exact enc_ok (ls := ls) (by rw [h.name]; exact labN_nm (fun l hl => (h.labs l hl).lab) h.size) (encU_nlab h) hs (dec_n h)
  · exact enc_long (encU_nlab h) (by omega)
theorem wrd_p {l : ByteArray} (h : l ∈ wrdL) : LabP l := by
  have hne : ∀ x y : ByteArray, x.data.toList ≠ y.data.toList → x ≠ y := fun x y h e => h (by rw [e])
  refine ⟨(wrd_lab h).1, ?_, ?_⟩
  all_goals
    simp only [wrdL, List.mem_cons, List.not_mem_nil, or_false] at h
    rcases h with rfl | rfl | rfl | rfl | rfl
  all_goals first | decide +kernel | exact hne _ _ (by decide +kernel)
theorem good_name {t : Tg} (h : GoodN t) : ∃ ls, NameP t ls ∧ ls.length ≤ 5 ∧ ∀ l ∈ ls, l ∈ wrdL := by
  obtain ⟨ls, h1, h2, h3, h4⟩ := h.name
  refine ⟨ls, ⟨h.kind, h.addr, h3, fun l hl => wrd_p (h1 l hl), ?_, h4⟩, h2, h1⟩
  have := nm_bound (b := 3) fun l hm => (wrd_lab (h1 l hm)).2
  omega
theorem enc_good {t : Tg} (h : GoodP t ∨ GoodN t) : encF t = some (nm (encU t)) ∧ (∀ l ∈ encU t, IsLab l) ∧ (nm (encU t)).size ≤ 254 := by
  rcases h with h | h
  · obtain ⟨h1, h2, h3⟩ := enc_p h; exact ⟨h3, h1, h2⟩
  · obtain ⟨ls, hn, hl, hw⟩ := good_name h
    have hs : (nm (encU t)).size ≤ 254 := by
      rw [encU_n hn, nm_sum, nm_sum]
      have h1 := nm_bound (b := 3) fun l hm => (wrd_lab (hw l hm)).2
      have h2 : (nm (preS t.1)).size ≤ 2 := by rw [preS]; split <;> decide
      have h3 : (nm (sufS t.1)).size ≤ 12 := by rw [sufS]; split <;> decide
      omega
    exact ⟨by rw [enc_n hn, if_pos hs], encU_nlab hn, hs⟩

/-! ### bytes that come in; triggers of codes -/
def U8W (W : World) (s : Option Addr × Nat × Nat) : Prop := s.2.1 ≤ s.2.2 ∧ s.2.2 ≤ maxLen ∧ ∃ ys : List Int, SlIn (imW W) s.1 s.2.1 1 (fun x => [.int .u8 x]) ys ∧ ∀ y ∈ ys, (Lit.int .u8 y).wf = true
theorem u8_wf {x : Int} (h : (Lit.int .u8 x).wf = true) : 0 ≤ x ∧ x ≤ 255 := by
  simp only [Lit.wf, Bool.and_eq_true, decide_eq_true_eq] at h
  exact h
theorem u8_open {W : World} {a : Option Addr} {len cap : Nat} (h : U8W W (a, len, cap)) : ∃ ns : List Int, ns.length = len ∧ RowIn (imW W) [] a ns.length 1 elI8 ns ∧ ∀ x ∈ ns, 0 ≤ x ∧ x ≤ 255 := by
  obtain ⟨_, _, ns, hs, hw⟩ := h
  exact ⟨ns, hs.1, RowIn.of_slin (el := elI8) (fun _ => Nat.one_pos) hs, fun x hx => u8_wf (hw x hx)⟩
end Go.Proofs.YtcdajekafnggkaaGreatDoor
/- An index as a map of triggers. -/
namespace Go.Proofs.YtcdajekafnggkaaGreatDoor
open Go.Px
set_option linter.unusedVariables false
set_option linter.unusedSimpArgs false
set_option maxRecDepth 8000

theorem Runs_fr {P : Program} {f : FuncId} {args : Array Value} {I : IMem} {own F S : SH} {R : Value → SH → Prop} (hs : Sub (own ++ F) S) (h : ∀ F', Runs P f args I (own ++ F') fun v _ T => ∃ own', R v own' ∧ T = own' ++ F') :
    Runs P f args I S fun v _ T => ∃ own', R v own' ∧ Sub (own' ++ F) T := by
  obtain ⟨G, hG⟩ := hs
  refine (h (F ++ G)).use ⟨[], by rw [List.append_nil, ← List.append_assoc]; exact hG⟩ ?_
  rintro v J T hle ⟨own', hR, hs⟩
  exact ⟨own', hR, by rw [hs]; exact ⟨G, by rw [List.append_assoc]⟩⟩
/-! ### triggers that have names -/
def ipK (k : Int) : Bool := k == 0 || (k == 3 || k == 6)
def nmK (k : Int) : Prop := k = 1 ∨ k = 2 ∨ k = 4 ∨ k = 5
theorem ipK_iff {k : Int} : ipK k = true ↔ k = 0 ∨ k = 3 ∨ k = 6 := by unfold ipK; simp
theorem nmK_ip {k : Int} (h : nmK k) : ipK k = false := by
  rw [← Bool.not_eq_true, ipK_iff]; unfold nmK at h; omega
theorem named_shape {ls : List ByteArray} {ex wild : Int} {t : Tg} (h : namedF ls ex wild = some t) : (t.1 = ex ∨ t.1 = wild) ∧ t.2.2.1 = ⟨#[]⟩ ∧ t.2.2.2 = 0 := by
  unfold namedF at h
  split at h
  · cases h
  · split at h
    · obtain ⟨n, _, rfl⟩ := Option.map_eq_some_iff.1 h; exact ⟨.inr rfl, rfl, rfl⟩
    · obtain ⟨n, _, rfl⟩ := Option.map_eq_some_iff.1 h; exact ⟨.inl rfl, rfl, rfl⟩
theorem kind_shape {w : ByteArray} {k : Int} (h : kindOf w = some k) : k = 0 ∨ k = 3 ∨ k = 4 ∨ k = 6 := (kind_word h).2.1
theorem dec_shape {n : ByteArray} {t : Tg} (h : decF n = some t) : (ipK t.1 = true ∧ t.2.1 = ⟨#[]⟩ ∧ mayP t.2.2.1 t.2.2.2) ∨ (nmK t.1 ∧ t.2.2.1 = ⟨#[]⟩ ∧ t.2.2.2 = 0) := by
  unfold decF at h
  split at h
  · cases h
  · unfold decL at h
    split at h
    · cases h
    · split at h
      · obtain ⟨h1, h2, h3⟩ := named_shape h
        exact .inr ⟨by unfold nmK; omega, h2, h3⟩
      · rename_i k hk
        have hk' := kind_shape hk
        split at h
        · obtain ⟨h1, h2, h3⟩ := named_shape h
          exact .inr ⟨by unfold nmK; omega, h2, h3⟩
        · rename_i h4
          obtain ⟨p, hp, rfl⟩ := Option.map_eq_some_iff.1 h
          exact .inl ⟨ipK_iff.2 (by dsimp only; omega), rfl, adr_may hp⟩
theorem enc_shape {t : Tg} (h : encF t ≠ none) : (ipK t.1 = true ∧ t.2.1 = ⟨#[]⟩ ∧ mayP t.2.2.1 t.2.2.2) ∨ (nmK t.1 ∧ t.2.2.1 = ⟨#[]⟩ ∧ t.2.2.2 = 0) := by
  cases he : encF t with
  | none => exact absurd he h
  | some m => exact dec_shape (enc_dec he)
def wordB (k : Int) (n : ByteArray) : ByteArray := Utf8.encode (IntKind.wrap .i32 (IntKind.wrap .i64 ((97 : Int) + k))) ++ n
theorem word_enc {k : Int} (h : nmK k) : Utf8.encode (IntKind.wrap .i32 (IntKind.wrap .i64 ((97 : Int) + k))) = ⟨#[UInt8.ofNat (97 + k.toNat)]⟩ := by
  rcases h with rfl | rfl | rfl | rfl <;> decide +kernel
theorem word_inj {k k' : Int} {n n' : ByteArray} (h : nmK k) (h' : nmK k') (e : wordB k n = wordB k' n') : k = k' ∧ n = n' := by
  unfold wordB at e
  rw [word_enc h, word_enc h'] at e
  have e1 := congrArg (fun x : ByteArray => x.data.toList) e
  simp only [ByteArray.data_append, Array.toList_append] at e1
  injection e1 with e2 e3
  refine ⟨?_, ext_list e3⟩
  rcases h with rfl | rfl | rfl | rfl <;> rcases h' with rfl | rfl | rfl | rfl <;> first | rfl | (exact absurd e2 (by decide))
theorem Ip_runs (k : Int) (I : IMem) (S : SH) : Runs Tryz.prog 19 #[.int .i64 k] I S fun v _ T => v = .bool (ipK k) ∧ T = S := by
  refine index_ip_fn _ _ _ _ ?_
  unfold index_ip index_ip_b1
  exact bcase_of (fun h => ⟨by rw [ipK, h]; rfl, rfl⟩) (fun h => bcase_of (fun g => ⟨by rw [ipK, h, g]; rfl, rfl⟩) (fun g => ⟨by rw [ipK, h, g]; rfl, rfl⟩))
theorem Word_runs {k : Int} (h : nmK k) (n : ByteArray) (hn : n.size ≤ 1000000) (I : IMem) (S : SH) : Runs Tryz.prog 24 #[.int .i64 k, .string n] I S fun v _ T => v = .string (wordB k n) ∧ T = S := by
  refine index_word_fn _ _ _ _ _ ?_
  unfold index_word
  refine ⟨?_, rfl, rfl⟩
  rw [word_enc h]
  show ((1 + n.size : Nat) : Int) ≤ _
  omega
/-! ### lists of tries -/
def sumC (L : List Te) : Nat := (L.map (·.t.cnt)).sum
def shT (L : List Te) (k s : Int) : Tr.Sh := ((lookT L k s).map (·.t)).getD .nil
theorem sumC_mid (L1 L2 : List Te) (x : Te) : sumC (L1 ++ x :: L2) = sumC L1 + (x.t.cnt + sumC L2) := by unfold sumC; simp
theorem look_mid {L1 L2 : List Te} {k s : Int} {x y : Te} (hx : x.k = k ∧ x.s = s) (hy : y.k = k ∧ y.s = s) (h1 : ∀ z ∈ L1, ¬ (z.k = k ∧ z.s = s)) (k' s' : Int) :
    lookT (L1 ++ y :: L2) k' s' = if k' = k ∧ s' = s then some y else lookT (L1 ++ x :: L2) k' s' := by
  unfold lookT
  rw [List.find?_append, List.find?_append, List.find?_cons, List.find?_cons]
  by_cases e : k' = k ∧ s' = s
  · rw [if_pos e, e.1, e.2]
    have hn : L1.find? (fun z => z.k == k && z.s == s) = none := by
      rw [List.find?_eq_none]
      intro z hz
      simpa using h1 z hz
    rw [hn, hy.1, hy.2]
    simp
  · rw [if_neg e]
    have ex : (x.k == k' && x.s == s') = false := by rw [Bool.and_eq_false_iff, beq_eq_false_iff_ne, beq_eq_false_iff_ne]; omega
    have ey : (y.k == k' && y.s == s') = false := by rw [Bool.and_eq_false_iff, beq_eq_false_iff_ne, beq_eq_false_iff_ne]; omega
    rw [ex, ey]
theorem IxO.upd {xb n : Nat} {M : Tb.KV} {L : List Te} {own : SH} {k s : Int} {x : Te} (h : IxO xb M n L own) (hx : lookT L k s = some x) : ∃ ox rest, Tr.TriO x.b x.t ox ∧ x.t.wf ∧ x.t.len ≤ 128 ∧ (∀ F T, Sub (own ++ F) T → Sub (ox ++ (rest ++ F)) T) ∧ x.t.cnt ≤ sumC L ∧
    ∀ t' ox', Tr.TriO x.b t' ox' → t'.wf → t'.len ≤ 128 → ∃ L' own', IxO xb M n L' own' ∧ (∀ F T, Sub (ox' ++ (rest ++ F)) T → Sub (own' ++ F) T) ∧ (∀ k' s', shT L' k' s' = if k' = k ∧ s' = s then t' else shT L k' s') ∧ sumC L' + x.t.cnt = sumC L + t'.cnt := by
  obtain ⟨xm, tb, o1, o2, hT, hI, hn, hnd, hL, rfl⟩ := h
  obtain ⟨L1, L2, oA, ox, oB, rfl, h1, h2, hne, hA, hxO, hw, hl, hB, rfl⟩ := hL.split hx
  refine ⟨ox, o1 ++ ((xm, .map (esOf (L1 ++ x :: L2)) (L1 ++ x :: L2).length) :: (oA ++ oB)), hxO, hw, hl, fun F T hs => hs.re (by intro a; simp only [cnt_cons, cnt_app]; omega), by rw [sumC_mid]; omega, ?_⟩
  intro t' ox' ho' hw' hl'
  refine ⟨L1 ++ (⟨x.k, x.s, x.b, t'⟩ : Te) :: L2, o1 ++ ((xm, .map (esOf (L1 ++ x :: L2)) (L1 ++ x :: L2).length) :: (oA ++ (ox' ++ oB))), ⟨xm, tb, o1, oA ++ (ox' ++ oB), hT, hI, hn, ?_, TrsO.join (x := ⟨x.k, x.s, x.b, t'⟩) ho' hw' hl' hB hA, ?_⟩, fun F T hs => hs.re (by intro a; simp only [cnt_cons, cnt_app]; omega), fun k' s' => ?_, ?_⟩
  · simpa using hnd
  · rw [es_upd L1 L2 x ⟨x.k, x.s, x.b, t'⟩ rfl rfl rfl]; simp
  · unfold shT
    rw [look_mid (x := x) (y := ⟨x.k, x.s, x.b, t'⟩) ⟨h1, h2⟩ ⟨h1, h2⟩ hne]
    by_cases e : k' = k ∧ s' = s
    · rw [if_pos e, if_pos e]; rfl
    · rw [if_neg e, if_neg e]
  · rw [sumC_mid, sumC_mid]; dsimp only; omega
theorem IxO.tab {xb n : Nat} {M : Tb.KV} {L : List Te} {own : SH} (h : IxO xb M n L own) : ∃ xm tb o1 rest, Tb.TabO xm xb tb o1 ∧ Tb.TI 1073741824 tb M ∧ tb.live = n ∧ (∀ F T, Sub (own ++ F) T → Sub (o1 ++ (rest ++ F)) T) ∧
    ∀ M' tb' o1', Tb.TabO xm xb tb' o1' → Tb.TI 1073741824 tb' M' → ∃ own', IxO xb M' tb'.live L own' ∧ ∀ F T, Sub (o1' ++ (rest ++ F)) T → Sub (own' ++ F) T := by
  obtain ⟨xm, tb, o1, o2, hT, hI, hn, hnd, hL, rfl⟩ := h
  refine ⟨xm, tb, o1, (xm, .map (esOf L) L.length) :: o2, hT, hI, hn, fun F T hs => hs.re (by intro a; simp only [cnt_cons, cnt_app]; omega), fun M' tb' o1' hT' hI' => ?_⟩
  exact ⟨_, ⟨xm, tb', o1', o2, hT', hI', rfl, hnd, hL, rfl⟩, fun F T hs => hs.re (by intro a; simp only [cnt_cons, cnt_app]; omega)⟩
/-! ### the map of triggers -/
structure IxI (V : Tg → Option Int) (M : Tb.KV) (L : List Te) : Prop where
  bad : ∀ t, encF t = none → V t = none
  nam : ∀ w v, M w = some v ↔ ∃ t, ipK t.1 = false ∧ wordB t.1 t.2.1 = w ∧ V t = some v
  pre : ∀ k s l v, (shT L k s).find l = some v ↔ ∃ t, ipK t.1 = true ∧ t.1 = k ∧ (t.2.2.1.size : Int) = s ∧ bitsL t.2.2.1 t.2.2.2.toNat = l ∧ V t = some v
def IxS (xb : Nat) (V : Tg → Option Int) (n c : Nat) (own : SH) : Prop := ∃ M L, IxO xb M n L own ∧ IxI V M L ∧ c = n + sumC L
noncomputable def putV (V : Tg → Option Int) (t : Tg) (v : Int) : Tg → Option Int := if (encF t).isSome = true then fun u => if u = t then some v else V u else V
def delV (V : Tg → Option Int) (t : Tg) : Tg → Option Int := fun u => if u = t then none else V u
theorem IxI.enc {V : Tg → Option Int} {M : Tb.KV} {L : List Te} (h : IxI V M L) {t : Tg} {v : Int} (hv : V t = some v) : encF t ≠ none := fun e => by rw [h.bad t e] at hv; cases hv
theorem tg_nm {t u : Tg} (ht : encF t ≠ none) (hu : encF u ≠ none) (h1 : ipK t.1 = false) (h2 : ipK u.1 = false) (e : wordB t.1 t.2.1 = wordB u.1 u.2.1) : t = u := by
  rcases enc_shape ht with h | ⟨n1, a1, b1⟩
  · rw [h.1] at h1; cases h1
  · rcases enc_shape hu with h | ⟨n2, a2, b2⟩
    · rw [h.1] at h2; cases h2
    · obtain ⟨e1, e2⟩ := word_inj n1 n2 e
      exact Prod.ext e1 (Prod.ext e2 (Prod.ext (a1.trans a2.symm) (b1.trans b2.symm)))
theorem tg_pre {t u : Tg} (ht : encF t ≠ none) (hu : encF u ≠ none) (h1 : ipK t.1 = true) (h2 : ipK u.1 = true) (e1 : t.1 = u.1) (e2 : t.2.2.1.size = u.2.2.1.size) (e3 : bitsL t.2.2.1 t.2.2.2.toNat = bitsL u.2.2.1 u.2.2.2.toNat) : t = u := by
  rcases enc_shape ht with ⟨_, a1, ⟨⟨_, c1, _⟩, d1⟩⟩ | ⟨n1, _⟩
  · rcases enc_shape hu with ⟨_, a2, ⟨⟨_, c2, _⟩, d2⟩⟩ | ⟨n2, _⟩
    · have hl := congrArg List.length e3
      rw [bitsL_len, bitsL_len] at hl
      rw [← hl] at d2 e3
      have := may_inj d1 d2 e2 e3
      exact Prod.ext e1 (Prod.ext (a1.trans a2.symm) (Prod.ext this (by omega)))
    · rw [nmK_ip n2] at h2; cases h2
  · rw [nmK_ip n1] at h1; cases h1
theorem IxI.get_n {V : Tg → Option Int} {M : Tb.KV} {L : List Te} (h : IxI V M L) {t : Tg} (ht : encF t ≠ none) (h1 : ipK t.1 = false) : M (wordB t.1 t.2.1) = V t := by
  cases hv : V t with
  | some v => exact (h.nam _ _).2 ⟨t, h1, rfl, hv⟩
  | none =>
    cases hM : M (wordB t.1 t.2.1) with
    | none => rfl
    | some v =>
      obtain ⟨u, hu, e, hv'⟩ := (h.nam _ _).1 hM
      have := tg_nm (h.enc hv') ht hu h1 e
      rw [this, hv] at hv'; cases hv'
theorem IxI.get_p {V : Tg → Option Int} {M : Tb.KV} {L : List Te} (h : IxI V M L) {t : Tg} (ht : encF t ≠ none) (h1 : ipK t.1 = true) : (shT L t.1 (t.2.2.1.size : Int)).find (bitsL t.2.2.1 t.2.2.2.toNat) = V t := by
  cases hv : V t with
  | some v => exact (h.pre _ _ _ _).2 ⟨t, h1, rfl, rfl, rfl, hv⟩
  | none =>
    cases hM : (shT L t.1 (t.2.2.1.size : Int)).find (bitsL t.2.2.1 t.2.2.2.toNat) with
    | none => rfl
    | some v =>
      obtain ⟨u, hu, e1, e2, e3, hv'⟩ := (h.pre _ _ _ _).1 hM
      have := tg_pre (h.enc hv') ht hu h1 e1 (by omega) e3
      rw [this, hv] at hv'; cases hv'
/-- a trigger's number changes: a name's -/
theorem IxI.set_n {V V' : Tg → Option Int} {M M' : Tb.KV} {L : List Te} {t : Tg} {o : Option Int} (h : IxI V M L) (ht : encF t ≠ none) (h1 : ipK t.1 = false) (hV : ∀ u, V' u = if u = t then o else V u) (hM : ∀ w, M' w = if w = wordB t.1 t.2.1 then o else M w) : IxI V' M' L := by
  refine ⟨fun u hu => ?_, fun w v => ?_, fun k s l v => ?_⟩
  · rw [hV u, if_neg (fun e : u = t => ht (e ▸ hu)), h.bad u hu]
  · rw [hM]
    constructor
    · intro e
      by_cases hw : w = wordB t.1 t.2.1
      · rw [if_pos hw] at e
        exact ⟨t, h1, hw.symm, by rw [hV, if_pos rfl, e]⟩
      · rw [if_neg hw] at e
        obtain ⟨u, hu, e1, e2⟩ := (h.nam w v).1 e
        exact ⟨u, hu, e1, by rw [hV, if_neg (fun e3 => hw (by rw [← e1, e3])), e2]⟩
    · rintro ⟨u, hu, e1, e2⟩
      rw [hV] at e2
      by_cases hut : u = t
      · rw [if_pos hut] at e2
        rw [if_pos (by rw [← e1, hut]), e2]
      · rw [if_neg hut] at e2
        rw [if_neg (fun e3 => hut (tg_nm (h.enc e2) ht hu h1 (by rw [e1, e3])))]
        exact (h.nam w v).2 ⟨u, hu, e1, e2⟩
  · rw [h.pre]
    constructor
    · rintro ⟨u, hu, e⟩
      exact ⟨u, hu, e.1, e.2.1, e.2.2.1, by rw [hV, if_neg (fun e3 => by rw [e3, h1] at hu; cases hu)]; exact e.2.2.2⟩
    · rintro ⟨u, hu, e⟩
      exact ⟨u, hu, e.1, e.2.1, e.2.2.1, by have := e.2.2.2; rw [hV, if_neg (fun e3 => by rw [e3, h1] at hu; cases hu)] at this; exact this⟩
/-- a prefix's -/
theorem IxI.set_p {V V' : Tg → Option Int} {M : Tb.KV} {L L' : List Te} {t : Tg} {o : Option Int} (h : IxI V M L) (ht : encF t ≠ none) (h1 : ipK t.1 = true) (hV : ∀ u, V' u = if u = t then o else V u)
    (hL : ∀ k s l, (shT L' k s).find l = if (k = t.1 ∧ s = (t.2.2.1.size : Int)) ∧ l = bitsL t.2.2.1 t.2.2.2.toNat then o else (shT L k s).find l) : IxI V' M L' := by
  refine ⟨fun u hu => ?_, fun w v => ?_, fun k s l v => ?_⟩
  · rw [hV u, if_neg (fun e : u = t => ht (e ▸ hu)), h.bad u hu]
  · rw [h.nam]
    constructor
    · rintro ⟨u, hu, e1, e2⟩
      exact ⟨u, hu, e1, by rw [hV, if_neg (fun e3 => by rw [e3, h1] at hu; cases hu)]; exact e2⟩
    · rintro ⟨u, hu, e1, e2⟩
      exact ⟨u, hu, e1, by rw [hV, if_neg (fun e3 => by rw [e3, h1] at hu; cases hu)] at e2; exact e2⟩
  · rw [hL]
    constructor
    · intro e
      by_cases hw : (k = t.1 ∧ s = (t.2.2.1.size : Int)) ∧ l = bitsL t.2.2.1 t.2.2.2.toNat
      · rw [if_pos hw] at e
        exact ⟨t, h1, hw.1.1.symm, hw.1.2.symm, hw.2.symm, by rw [hV, if_pos rfl, e]⟩
      · rw [if_neg hw] at e
        obtain ⟨u, hu, e1, e2, e3, e4⟩ := (h.pre k s l v).1 e
        exact ⟨u, hu, e1, e2, e3, by rw [hV, if_neg (fun e5 => hw (by rw [← e1, ← e2, ← e3, e5]; exact ⟨⟨rfl, rfl⟩, rfl⟩)), e4]⟩
    · rintro ⟨u, hu, e1, e2, e3, e4⟩
      rw [hV] at e4
      by_cases hut : u = t
      · rw [if_pos hut] at e4
        rw [if_pos (by rw [← e1, ← e2, ← e3, hut]; exact ⟨⟨rfl, rfl⟩, rfl⟩), e4]
      · rw [if_neg hut] at e4
        rw [if_neg (fun e5 => hut (tg_pre (h.enc e4) ht hu h1 (by rw [e1, e5.1.1]) (by omega) (by rw [e3, e5.2])))]
        exact (h.pre k s l v).2 ⟨u, hu, e1, e2, e3, e4⟩
theorem IxI.look {V : Tg → Option Int} {M : Tb.KV} {L L' : List Te} (h : IxI V M L) (hL : ∀ k s, shT L' k s = shT L k s) : IxI V M L' := ⟨h.bad, h.nam, fun k s l v => by rw [hL]; exact h.pre k s l v⟩
theorem shT_snoc {L : List Te} {x : Te} (hx : x.t = .nil) (k s : Int) : shT (L ++ [x]) k s = shT L k s := by
  unfold shT lookT
  rw [List.find?_append]
  cases h : L.find? fun y => y.k == k && y.s == s with
  | some y => rfl
  | none =>
    rw [List.find?_cons]
    by_cases e : (x.k == k && x.s == s) = true
    · rw [e]; exact hx
    · rw [Bool.not_eq_true] at e
      rw [e]; rfl
theorem sumC_snoc {L : List Te} {x : Te} (hx : x.t = .nil) : sumC (L ++ [x]) = sumC L := by
  unfold sumC
  simp [hx, Tr.Sh.cnt]
end Go.Proofs.YtcdajekafnggkaaGreatDoor
/- index.Of, Put, Del. -/
namespace Go.Proofs.YtcdajekafnggkaaGreatDoor
open Go.Px
set_option linter.unusedVariables false
set_option linter.unusedSimpArgs false
set_option maxRecDepth 8000

theorem makeN_sz : ∀ (ls : List ByteArray) (acc m : ByteArray), acc.size ≤ 254 → makeN ls acc = some m → m.size ≤ 254
  | [], acc, m, h, e => by
    have e : some acc = some m := e
    injection e with e; rw [← e]; exact h
  | l :: ls, acc, m, h, e => by
    unfold makeN at e
    split at e
    · cases e
    · refine makeN_sz ls _ m ?_ e
      rw [ByteArray.size_append, ByteArray.size_push, foldB_size]
      omega
theorem dec_nsz {n : ByteArray} {t : Tg} (h : decF n = some t) : t.2.1.size ≤ 254 := by
  have nmd : ∀ {ls : List ByteArray} {ex wild : Int}, namedF ls ex wild = some t → t.2.1.size ≤ 254 := by
    intro ls ex wild h
    unfold namedF at h
    split at h
    · cases h
    · split at h
      · obtain ⟨n, hn, rfl⟩ := Option.map_eq_some_iff.1 h; exact makeN_sz _ _ _ (by decide) hn
      · obtain ⟨n, hn, rfl⟩ := Option.map_eq_some_iff.1 h; exact makeN_sz _ _ _ (by decide) hn
  unfold decF at h
  split at h
  · cases h
  · unfold decL at h
    split at h
    · cases h
    · split at h
      · exact nmd h
      · split at h
        · exact nmd h
        · obtain ⟨p, hp, rfl⟩ := Option.map_eq_some_iff.1 h
          exact Nat.zero_le _
theorem enc_nsz {t : Tg} (h : encF t ≠ none) : t.2.1.size ≤ 254 := by
  cases he : encF t with
  | none => exact absurd he h
  | some m => exact dec_nsz (enc_dec he)
theorem enc_mk (t : Tg) : ∃ m, mkV (encF t) = .tuple #[.string m, .bool (encF t).isSome] := by
  cases encF t with
  | none => exact ⟨_, rfl⟩
  | some m => exact ⟨_, rfl⟩
theorem IOf_runs (I : IMem) (S : SH) : Runs Tryz.prog 5 #[] I S fun v _ T => ∃ xb own, v = .pointer (some ⟨xb, 0, none⟩) ∧ IxS xb (fun _ => none) 0 0 own ∧ Sub (own ++ S) T := by
  refine index_Of_fn _ _ _ ?_
  unfold index_Of
  intro xm b3
  refine ⟨b3, [(b3, .cells #[.slice none 0 0, .int .i64 0, .int .i64 0, .map (some xm)] 61 (0, 0))] ++ ((xm, .map (esOf []) ([] : List Te).length) :: []), rfl, ⟨fun _ => none, [], ⟨xm, Tb.noTbl, _, [], Tb.noTbl_TabO b3, Tb.noTbl_TI _, rfl, List.nodup_nil, rfl, rfl⟩, ⟨fun _ _ => rfl, fun w v => ⟨fun h => (by cases h), fun ⟨_, _, _, h⟩ => (by cases h)⟩, fun k s l v => ⟨fun h => (by cases h), fun ⟨_, _, _, _, _, h⟩ => (by cases h)⟩⟩, rfl⟩, Sub.refl _⟩
/-- a trigger's block beside an index -/
abbrev tbB (b : Nat) (t : Tg) : Nat × Obj := (b, .cells (elT t).toArray 35 (0, 0))
def sNum (b : Bool) : Nat := if b = true then 1 else 0
theorem mid3 {a b : Nat × Obj} {own F S : SH} (h : Sub (own ++ F) S) : Sub (own ++ (a :: F)) (a :: S) := zc h where
  zc {own X T : SH} {x : Nat × Obj} (h : Sub (own ++ X) T) : Sub (own ++ (x :: X)) (x :: T) := (h.cons x).re (by intro a; simp only [cnt_cons, cnt_app]; omega)
theorem IPut_runs {xb n c : Nat} {V : Tg → Option Int} {own F S : SH} {I : IMem} (g : GL I) (h : IxS xb V n c own) (hs : Sub (own ++ F) S) (t : Tg) (v : Int) (hn : n + 1 ≤ 1073741824) (hc : c ≤ 1152921504606846976) :
    Runs Tryz.prog 8 #[.pointer (some ⟨xb, 0, none⟩), vT t, .int .i64 v] I S fun w _ T => w = .bool ((encF t).isSome && (V t).isNone) ∧ ∃ n' c' own', IxS xb (putV V t v) n' c' own' ∧
      n' = n + sNum ((encF t).isSome && (!ipK t.1 && (V t).isNone)) ∧ c' = c + sNum ((encF t).isSome && (V t).isNone) ∧ Sub (own' ++ F) T := by
  obtain ⟨M, L, hO, hI, rfl⟩ := h
  refine index_Index_Put_fn _ _ _ _ _ _ _ _ _ ?_
  unfold index_Index_Put
  intro b4
  refine ⟨_, Cell.at0 rfl, _, Cell.at0 rfl, _, Cell.at0 rfl, _, Cell.at0 rfl, (Encode_runs t g _).mono ?_⟩
  rintro w J1 T1 hle1 ⟨rfl, rfl⟩
  obtain ⟨m, hm⟩ := enc_mk t
  rw [hm]
  have hs1 : Sub (own ++ (tbB b4 t :: F)) (tbB b4 t :: S) := mid3.zc hs
  refine ⟨_, _, rfl, bcase_not (bcase_of (fun he => ?_) (fun he => ?_))⟩
  case refine_2 =>
    rw [he]
    refine ⟨rfl, n, n + sumC L, own, ⟨M, L, hO, ?_, rfl⟩, rfl, rfl, hs.skip _⟩
    unfold putV
    rw [if_neg (by rw [he]; exact Bool.false_ne_true)]
    exact hI
  have hen : encF t ≠ none := by intro e; rw [e] at he; cases he
  have hput : ∀ u, putV V t v u = if u = t then some v else V u := fun u => by unfold putV; rw [if_pos he]
  rw [he]
  obtain ⟨c0, c1, c2, c3, c4⟩ := tgX (I := J1) (hs1.right : Sub (tgB b4 t :: F) _)
  unfold index_Index_Put_b1
  refine ⟨_, c0, (Ip_runs _ _ _).mono ?_⟩
  rintro w J2 T2 hle2 ⟨rfl, rfl⟩
  refine ⟨_, rfl, ?_⟩
  obtain ⟨c0, c1, c2, c3, c4⟩ := tgX (I := J2) (hs1.right : Sub (tgB b4 t :: F) _)
  unfold index_Index_Put_b2
  refine bcase_of (fun hip => ?_) (fun hip => ?_)
  · -- a prefix
    obtain ⟨d0, d1, d2, d3, d4⟩ := tgX (I := J2) (Sub.refl (tgB b4 t :: F))
    have hmay : mayP t.2.2.1 t.2.2.2 := by
      rcases enc_shape hen with h | ⟨h, _⟩
      · exact h.2.2
      · rw [nmK_ip h] at hip; cases hip
    refine ⟨tgB b4 t :: F, (hs1.right).keep (IMem.le.refl J2), _, d0, _, d1, _, d2, _, d4, _, d2, _, d3, (trie_runs t hO hs1).mono ?_⟩
    rintro w J3 T3 hle3 ⟨L', own2, x, rfl, hx, hL', hO2, hs2⟩
    have hsh : ∀ k s, shT L' k s = shT L k s := by
      intro k s
      rcases hL' with rfl | ⟨_, hx0, rfl⟩
      · rfl
      · exact shT_snoc (by rw [hx0]) k s
    have hsum : sumC L' = sumC L := by
      rcases hL' with rfl | ⟨_, hx0, rfl⟩
      · rfl
      · exact sumC_snoc (by rw [hx0])
    have hI' := hI.look hsh
    refine ⟨_, rfl, hs2.right.keep hle3, (Key_runs hmay _ _).mono ?_⟩
    rintro w J4 T4 hle4 ⟨rfl, hs4⟩
    refine ⟨_, rfl, ?_⟩
    obtain ⟨ox, rest, hxO, hxw, hxl, hgo, hcx, hback⟩ := hO2.upd hx
    have hlen : (bitsL t.2.2.1 t.2.2.2.toNat).length ≤ 128 := by
      rw [bitsL_len]
      obtain ⟨⟨h1, h2, h3⟩, _⟩ := hmay
      omega
    refine (Runs_fr (R := fun w o => w = .bool (x.t.find (bitsL t.2.2.1 t.2.2.2.toNat)).isNone ∧ Tr.TriO x.b (x.t.put (bitsL t.2.2.1 t.2.2.2.toNat) v) o) (hgo _ _ (hs2.trans hs4)) (fun F' => (Tr.Put_runs x.b x.t hxw (by omega) ox hxO _ hlen v _ F').mono ?_)).mono ?_
    · rintro w J T hle ⟨rfl, o, ho, rfl⟩
      exact ⟨o, ⟨rfl, ho⟩, rfl⟩
    · rintro w J5 T5 hle5 ⟨o, ⟨rfl, ho⟩, hs5⟩
      have hfind : x.t.find (bitsL t.2.2.1 t.2.2.2.toNat) = V t := by
        rw [← hI'.get_p hen hip]
        unfold shT
        rw [hx]; rfl
      obtain ⟨L2, own3, hO3, hb3, hsh3, hsum3⟩ := hback _ _ ho (Tr.Sh.put_wf _ _ _ hxw) (Nat.le_trans (Tr.Sh.put_len _ _ _) (by omega))
      refine ⟨_, rfl, ?_⟩
      unfold index_Index_Put_b3
      rw [hfind]
      refine ⟨rfl, n, n + sumC L2, own3, ⟨M, L2, hO3, hI'.set_p (o := some v) hen hip hput ?_, rfl⟩, ?_, ?_, (hb3 _ _ hs5).re (by intro a; simp only [cnt_cons, cnt_app]; omega)⟩
      · intro k s l
        rw [hsh3]
        by_cases e : k = t.1 ∧ s = (t.2.2.1.size : Int)
        · rw [if_pos e, Tr.Sh.put_find _ _ _ _ hxw]
          by_cases e2 : l = bitsL t.2.2.1 t.2.2.2.toNat
          · rw [if_pos e2, if_pos ⟨e, e2⟩]
          · rw [if_neg e2, if_neg (fun h => e2 h.2), e.1, e.2]
            unfold shT
            rw [hx]; rfl
        · rw [if_neg e, if_neg (fun h => e h.1)]
      · rw [hip]; rfl
      · rw [Tr.Sh.put_cnt _ _ _ hxw, hfind] at hsum3
        rw [hsum] at hsum3
        cases hV : V t with
        | none => rw [hV] at hsum3; simp [sNum] at hsum3 ⊢; omega
        | some u => rw [hV] at hsum3; simp [sNum] at hsum3 ⊢; omega
  · -- a name
    have hnm : nmK t.1 := by
      rcases enc_shape hen with h | ⟨h, _⟩
      · rw [h.1] at hip; cases hip
      · exact h
    have hnz := enc_nsz hen
    unfold index_Index_Put_b4
    refine ⟨_, c0, _, c1, (Word_runs hnm _ (by omega) _ _).mono ?_⟩
    rintro w J3 T3 hle3 ⟨rfl, rfl⟩
    refine ⟨_, rfl, ?_⟩
    obtain ⟨xm, tb, o1, rest, hT, hTI, hlv, hgo, hback⟩ := hO.tab
    have hws : (wordB t.1 t.2.1).size ≤ 9223372036854775807 := by
      unfold wordB
      rw [word_enc hnm, ByteArray.size_append]
      show 1 + t.2.1.size ≤ _
      omega
    refine (Runs_fr (R := fun w o => w = .bool (M (wordB t.1 t.2.1)).isNone ∧ ∃ t', Tb.TabO xm xb t' o ∧ Tb.TI 1073741824 t' (M.put (wordB t.1 t.2.1) v) ∧ t'.live = (if (M (wordB t.1 t.2.1)).isNone then tb.live + 1 else tb.live)) (hgo _ _ hs1) (fun F' => (Tb.Put_TI hT hTI (Nat.le_refl _) (Nat.le_refl _) (wordB t.1 t.2.1) v hws (fun _ => by omega) _ F').mono ?_)).mono ?_
    · rintro w J T hle ⟨rfl, t', o, ho, hti, hl, _, rfl⟩
      exact ⟨o, ⟨rfl, t', ho, hti, hl⟩, rfl⟩
    · rintro w J5 T5 hle5 ⟨o, ⟨rfl, t', ho, hti, hl⟩, hs5⟩
      have hfind : M (wordB t.1 t.2.1) = V t := hI.get_n hen hip
      obtain ⟨own3, hO3, hb3⟩ := hback _ _ _ ho hti
      refine ⟨_, rfl, ?_⟩
      unfold index_Index_Put_b5
      rw [hfind] at hl ⊢
      refine ⟨rfl, t'.live, t'.live + sumC L, own3, ⟨_, L, hO3, hI.set_n (o := some v) hen hip hput (fun w => rfl), rfl⟩, ?_, ?_, (hb3 _ _ hs5).re (by intro a; simp only [cnt_cons, cnt_app]; omega)⟩
      · rw [hl, hip, hlv]
        cases V t <;> rfl
      · rw [hl, hlv]
        cases V t <;> simp [sNum] <;> omega
end Go.Proofs.YtcdajekafnggkaaGreatDoor
/- index.Del, Len. -/
namespace Go.Proofs.YtcdajekafnggkaaGreatDoor
open Go.Px
set_option linter.unusedVariables false
set_option linter.unusedSimpArgs false
set_option maxRecDepth 8000

theorem IDel_runs {xb n c : Nat} {V : Tg → Option Int} {own F S : SH} {I : IMem} (g : GL I) (h : IxS xb V n c own) (hs : Sub (own ++ F) S) (t : Tg) (hc : c ≤ 1152921504606846976) :
    Runs Tryz.prog 7 #[.pointer (some ⟨xb, 0, none⟩), vT t] I S fun w _ T => w = .bool (V t).isSome ∧ ∃ n' c' own', IxS xb (delV V t) n' c' own' ∧
      n' + sNum (!ipK t.1 && (V t).isSome) = n ∧ c' + sNum (V t).isSome = c ∧ Sub (own' ++ F) T := by
  obtain ⟨M, L, hO, hI, rfl⟩ := h
  refine index_Index_Del_fn _ _ _ _ _ _ _ _ ?_
  unfold index_Index_Del
  intro b4
  refine ⟨_, Cell.at0 rfl, _, Cell.at0 rfl, _, Cell.at0 rfl, _, Cell.at0 rfl, (Encode_runs t g _).mono ?_⟩
  rintro w J1 T1 hle1 ⟨rfl, rfl⟩
  obtain ⟨m, hm⟩ := enc_mk t
  rw [hm]
  have hs1 : Sub (own ++ (tbB b4 t :: F)) (tbB b4 t :: S) := mid3.zc hs
  refine ⟨_, _, rfl, bcase_not (bcase_of (fun he => ?_) (fun he => ?_))⟩
  case refine_2 =>
    have hen : encF t = none := by cases h : encF t with
      | none => rfl
      | some m => rw [h] at he; cases he
    have hV := hI.bad t hen
    have hdel : delV V t = V := by
      funext u
      unfold delV
      by_cases e : u = t
      · rw [if_pos e, e, hV]
      · rw [if_neg e]
    rw [hV, hdel]
    exact ⟨rfl, n, n + sumC L, own, ⟨M, L, hO, hI, rfl⟩, by simp [sNum], rfl, hs.skip _⟩
  have hen : encF t ≠ none := by intro e; rw [e] at he; cases he
  have hput : ∀ u, delV V t u = if u = t then none else V u := fun u => rfl
  obtain ⟨c0, c1, c2, c3, c4⟩ := tgX (I := J1) (hs1.right : Sub (tgB b4 t :: F) _)
  unfold index_Index_Del_b1
  refine ⟨_, c0, (Ip_runs _ _ _).mono ?_⟩
  rintro w J2 T2 hle2 ⟨rfl, rfl⟩
  refine ⟨_, rfl, ?_⟩
  obtain ⟨c0, c1, c2, c3, c4⟩ := tgX (I := J2) (hs1.right : Sub (tgB b4 t :: F) _)
  unfold index_Index_Del_b2
  refine bcase_of (fun hip => ?_) (fun hip => ?_)
  · obtain ⟨d0, d1, d2, d3, d4⟩ := tgX (I := J2) (Sub.refl (tgB b4 t :: F))
    have hmay : mayP t.2.2.1 t.2.2.2 := by
      rcases enc_shape hen with h | ⟨h, _⟩
      · exact h.2.2
      · rw [nmK_ip h] at hip; cases hip
    refine ⟨tgB b4 t :: F, (hs1.right).keep (IMem.le.refl J2), _, d0, _, d1, _, d2, _, d4, _, d2, _, d3, (trie_runs t hO hs1).mono ?_⟩
    rintro w J3 T3 hle3 ⟨L', own2, x, rfl, hx, hL', hO2, hs2⟩
    have hsh : ∀ k s, shT L' k s = shT L k s := by
      intro k s
      rcases hL' with rfl | ⟨_, hx0, rfl⟩
      · rfl
      · exact shT_snoc (by rw [hx0]) k s
    have hsum : sumC L' = sumC L := by
      rcases hL' with rfl | ⟨_, hx0, rfl⟩
      · rfl
      · exact sumC_snoc (by rw [hx0])
    have hI' := hI.look hsh
    refine ⟨_, rfl, hs2.right.keep hle3, (Key_runs hmay _ _).mono ?_⟩
    rintro w J4 T4 hle4 ⟨rfl, hs4⟩
    refine ⟨_, rfl, ?_⟩
    obtain ⟨ox, rest, hxO, hxw, hxl, hgo, hcx, hback⟩ := hO2.upd hx
    have hlen : (bitsL t.2.2.1 t.2.2.2.toNat).length ≤ 128 := by
      rw [bitsL_len]
      obtain ⟨⟨h1, h2, h3⟩, _⟩ := hmay
      omega
    generalize hb : bitsL t.2.2.1 t.2.2.2.toNat = bs at hlen
    refine (Runs_fr (R := fun w o => w = .bool (x.t.find bs).isSome ∧ Tr.TriO x.b (if (x.t.find bs).isSome then x.t.del bs else x.t) o) (hgo _ _ (hs2.trans hs4)) (fun F' => (Tr.Del_runs x.b x.t hxw (by omega) (by omega) ox hxO _ hlen _ F').mono ?_)).mono ?_
    · rintro w J T hle ⟨rfl, o, ho, rfl⟩
      exact ⟨o, ⟨rfl, ho⟩, rfl⟩
    · rintro w J5 T5 hle5 ⟨o, ⟨rfl, ho⟩, hs5⟩
      have hfind : x.t.find bs = V t := by
        rw [← hI'.get_p hen hip, hb]
        unfold shT
        rw [hx]; rfl
      have hw' : (if (x.t.find bs).isSome then x.t.del bs else x.t).wf := by
        split
        · exact Tr.Sh.del_wf _ _ hxw
        · exact hxw
      have hl' : (if (x.t.find bs).isSome then x.t.del bs else x.t).len ≤ 128 := by
        split
        · exact Nat.le_trans (Tr.Sh.del_len _ _) hxl
        · exact hxl
      obtain ⟨L2, own3, hO3, hb3, hsh3, hsum3⟩ := hback _ _ ho hw' hl'
      refine ⟨_, rfl, ?_⟩
      unfold index_Index_Del_b3
      refine ⟨by rw [hfind], n, n + sumC L2, own3, ⟨M, L2, hO3, hI'.set_p (o := none) hen hip hput ?_, rfl⟩, ?_, ?_, (hb3 _ _ hs5).re (by intro a; simp only [cnt_cons, cnt_app]; omega)⟩
      · intro k s l
        rw [hsh3, hb]
        by_cases e : k = t.1 ∧ s = (t.2.2.1.size : Int)
        · rw [if_pos e]
          have hxx : shT L' k s = x.t := by rw [e.1, e.2]; unfold shT; rw [hx]; rfl
          rw [hxx]
          by_cases hsm : (x.t.find bs).isSome = true
          · rw [if_pos hsm, Tr.Sh.del_find _ _ hxw (fun e => by rw [e] at hsm; cases hsm)]
            by_cases e2 : l = bs
            · rw [if_pos e2, if_pos ⟨e, e2⟩]
            · rw [if_neg e2, if_neg (fun h => e2 h.2)]
          · rw [if_neg hsm]
            by_cases e2 : l = bs
            · rw [if_pos ⟨e, e2⟩, e2]
              cases h : x.t.find bs with
              | none => rfl
              | some u => rw [h] at hsm; exact absurd rfl hsm
            · rw [if_neg (fun h => e2 h.2)]
        · rw [if_neg e, if_neg (fun h => e h.1)]
      · rw [hip]; simp [sNum]
      · rw [hfind, hsum] at hsum3
        cases hV : V t with
        | none => rw [hV] at hsum3; simp [sNum] at hsum3 ⊢; omega
        | some u =>
          rw [hV] at hsum3
          have := Tr.Sh.del_cnt x.t bs (by rw [hfind, hV]; simp)
          simp [sNum] at hsum3 ⊢; omega
  · have hnm : nmK t.1 := by
      rcases enc_shape hen with h | ⟨h, _⟩
      · rw [h.1] at hip; cases hip
      · exact h
    have hnz := enc_nsz hen
    unfold index_Index_Del_b4
    refine ⟨_, c0, _, c1, (Word_runs hnm _ (by omega) _ _).mono ?_⟩
    rintro w J3 T3 hle3 ⟨rfl, rfl⟩
    refine ⟨_, rfl, ?_⟩
    obtain ⟨xm, tb, o1, rest, hT, hTI, hlv, hgo, hback⟩ := hO.tab
    have hws : (wordB t.1 t.2.1).size ≤ 9223372036854775807 := by
      unfold wordB
      rw [word_enc hnm, ByteArray.size_append]
      show 1 + t.2.1.size ≤ _
      omega
    refine (Runs_fr (R := fun w o => w = .bool (M (wordB t.1 t.2.1)).isSome ∧ ∃ t', Tb.TabO xm xb t' o ∧ Tb.TI 1073741824 t' (M.del (wordB t.1 t.2.1)) ∧ t'.live = (if (M (wordB t.1 t.2.1)).isSome then tb.live - 1 else tb.live)) (hgo _ _ hs1) (fun F' => (Tb.Del_TI hT hTI (Nat.le_refl _) (wordB t.1 t.2.1) hws _ F').mono ?_)).mono ?_
    · rintro w J T hle ⟨rfl, t', o, ho, hti, _, hl, rfl⟩
      exact ⟨o, ⟨rfl, t', ho, hti, hl⟩, rfl⟩
    · rintro w J5 T5 hle5 ⟨o, ⟨rfl, t', ho, hti, hl⟩, hs5⟩
      have hfind : M (wordB t.1 t.2.1) = V t := hI.get_n hen hip
      obtain ⟨own3, hO3, hb3⟩ := hback _ _ _ ho hti
      have hlive : (V t).isSome = true → 1 ≤ tb.live := by
        intro hv
        rcases hTI with ⟨_, _, _, h0⟩ | ⟨_, _, hM, h1, _⟩
        · rw [h0] at hfind
          rw [← hfind] at hv; cases hv
        · obtain ⟨v, hv⟩ := Option.isSome_iff_exists.1 hv
          obtain ⟨i, s, hi, hsl, _, _⟩ := (hM _ _).1 (hfind.trans hv)
          rw [← h1]
          exact List.countP_pos_iff.2 ⟨s, List.mem_of_getElem? hi, hsl⟩
      refine ⟨_, rfl, ?_⟩
      unfold index_Index_Del_b5
      rw [hfind] at hl ⊢
      refine ⟨rfl, t'.live, t'.live + sumC L, own3, ⟨_, L, hO3, hI.set_n (o := none) hen hip hput (fun w => rfl), rfl⟩, ?_, ?_, (hb3 _ _ hs5).re (by intro a; simp only [cnt_cons, cnt_app]; omega)⟩
      · rw [hl, hip]
        cases hV : V t with
        | none => simp [sNum, hlv]
        | some u => have := hlive (by rw [hV]; rfl); simp [sNum]; omega
      · rw [hl]
        cases hV : V t with
        | none => simp [sNum, hlv]
        | some u => have := hlive (by rw [hV]; rfl); simp [sNum]; omega
/-! ### how many there are -/
def remC : Nat → List Te → Array Nat → Nat
  | _, [], _ => 0
  | k, x :: L, s => (if s.contains k = true then 0 else x.t.cnt) + remC (k + 1) L s
theorem remC_all : ∀ (L : List Te) (k : Nat) (s : Array Nat), (∀ i, i < L.length → s.contains (k + i) = true) → remC k L s = 0
  | [], k, s, h => rfl
  | x :: L, k, s, h => by
    unfold remC
    rw [if_pos (show s.contains k = true from h 0 (by simp)), remC_all L (k + 1) s (fun i hi => by have := h (i + 1) (by simp; omega); rwa [show k + (i + 1) = k + 1 + i by omega] at this)]
theorem remC_nil : ∀ (L : List Te) (k : Nat), remC k L #[] = sumC L
  | [], k => rfl
  | x :: L, k => by
    unfold remC
    rw [if_neg (by simp), remC_nil L (k + 1)]
    unfold sumC; simp
theorem has_push (s : Array Nat) (j i : Nat) : (s.push j).contains i = (s.contains i || i == j) := by rw [Bool.eq_iff_iff]; simp [or_comm]
theorem remC_far : ∀ (L : List Te) (k : Nat) (s : Array Nat) (j : Nat), j < k → remC k L (s.push j) = remC k L s
  | [], k, s, j, h => rfl
  | x :: L, k, s, j, h => by
    unfold remC
    rw [remC_far L (k + 1) s j (by omega), has_push, show (k == j) = false by rw [beq_eq_false_iff_ne]; omega, Bool.or_false]
theorem remC_push : ∀ (L : List Te) (k i : Nat) (s : Array Nat) (x : Te), L[i]? = some x → s.contains (k + i) = false → remC k L s = x.t.cnt + remC k L (s.push (k + i))
  | [], k, i, s, x, h, _ => by simp at h
  | y :: L, k, 0, s, x, h, hn => by
    have h : y = x := Option.some.inj h
    subst h
    unfold remC
    rw [show k + 0 = k from rfl] at hn ⊢
    rw [hn, has_push, hn, beq_self_eq_true, remC_far L (k + 1) s k (by omega)]
    simp
  | y :: L, k, i + 1, s, x, h, hn => by
    unfold remC
    have h' : L[i]? = some x := h
    rw [show k + (i + 1) = k + 1 + i by omega] at hn ⊢
    rw [remC_push L (k + 1) i s x h' hn, has_push, show (k == k + 1 + i) = false by rw [beq_eq_false_iff_ne]; omega, Bool.or_false]
    omega
theorem es_mem {L : List Te} {e : MapEntry} (h : e ∈ esOf L) : ∃ i x, L[i]? = some x ∧ e = enTe i x := by
  unfold esOf at h
  rw [List.mem_toArray] at h
  obtain ⟨i, hi, he⟩ := List.mem_iff_getElem.1 h
  rw [List.length_mapIdx] at hi
  rw [List.getElem_mapIdx] at he
  exact ⟨i, L[i], List.getElem?_eq_getElem hi, he.symm⟩
theorem es_find {L : List Te} {i : Nat} {x : Te} (h : L[i]? = some x) : (esOf L).find? (·.born == i) = some (enTe i x) := by
  have key : ∀ (L : List Te) (k i : Nat) (x : Te), L[i]? = some x → (L.mapIdx fun j y => enTe (k + j) y).find? (·.born == k + i) = some (enTe (k + i) x) := by
    intro L
    induction L with
    | nil => intro k i x h; simp at h
    | cons y L ih =>
      intro k i x h
      rw [List.mapIdx_cons, List.find?_cons]
      cases i with
      | zero =>
        have h : y = x := Option.some.inj h
        subst h
        simp
      | succ i =>
        have h : L[i]? = some x := h
        have := ih (k + 1) i x h
        rw [show ((enTe (k + 0) y).born == k + (i + 1)) = false by simp [enTe]]
        rw [show (fun j (y : Te) => enTe (k + (j + 1)) y) = fun j y => enTe (k + 1 + j) y from funext fun j => funext fun y => by rw [show k + (j + 1) = k + 1 + j by omega], show k + (i + 1) = k + 1 + i by omega]
        exact this
  have := key L 0 i x h
  simp only [Nat.zero_add] at this
  unfold esOf
  rw [List.find?_toArray]
  exact this
theorem ILen_runs {xb n c : Nat} {V : Tg → Option Int} {own F S : SH} {I : IMem} (h : IxS xb V n c own) (hs : Sub (own ++ F) S) (hc : c ≤ 1152921504606846976) :
    Runs Tryz.prog 9 #[.pointer (some ⟨xb, 0, none⟩)] I S fun w _ T => w = .int .i64 (c : Int) ∧ Sub (own ++ F) T := by
  obtain ⟨M, L, hO, hI, rfl⟩ := h
  refine index_Index_Len_fn _ _ _ _ ?_
  unfold index_Index_Len
  have hO' := hO
  obtain ⟨xm, tb, o1, o2, hT, hTI, hn, hnd, hL, rfl⟩ := hO'
  have hs' : Sub (o1 ++ ((xm, .map (esOf L) L.length) :: (o2 ++ F))) S := hs.re (by intro a; simp only [cnt_cons, cnt_app]; omega)
  refine (Runs_fr (R := fun w o => w = .int .i64 (n : Int) ∧ o = o1) hs' (fun F' => (Tb.Len_runs xb tb o1 hT _ F').mono ?_)).mono ?_
  · rintro w J T hle ⟨rfl, rfl⟩
    exact ⟨o1, ⟨by rw [hn], rfl⟩, rfl⟩
  rintro w J1 T1 hle1 ⟨o, ⟨rfl, ho⟩, hs1⟩
  rw [ho] at hs1
  refine ⟨_, rfl, ?_⟩
  unfold index_Index_Len_b1
  refine ⟨_, tab_cell hT hs1, ?_⟩
  refine ⟨esOf L, L.length, MpC.of_sub hs1.right, fun b14 => ?_⟩
  unfold index_Index_Len_b2
  refine ⟨fun m x3 x14 J T => x14 = ⟨b14, 0, none⟩ ∧ J1.le J ∧ ∃ seen : Array Nat, m = unsn (esOf L) seen ∧ x3 = ((n + (sumC L - remC 0 L seen) : Nat) : Int) ∧ remC 0 L seen ≤ sumC L ∧ Sub ((b14, .mapIter (some xm) L.length seen L.length) :: (o1 ++ ((xm, .map (esOf L) L.length) :: (o2 ++ F)))) T,
    unsn (esOf L) #[], ⟨rfl, IMem.le.refl J1, #[], rfl, by rw [remC_nil, Nat.sub_self]; rfl, by rw [remC_nil]; exact Nat.le_refl _, hs1.cons _⟩, ?_⟩
  rintro m x3 x14 J T - ⟨rfl, hle, seen, rfl, rfl, hrem, hsT⟩
  unfold index_Index_Len_l3
  have hm : MpC J T xm (esOf L) L.length := MpC.of_sub hsT.drop.right
  obtain ⟨i0, hi0, hset⟩ := hsT.put (b14, Obj.mapIter (some xm) L.length seen L.length)
  refine ⟨i0, xm, L.length, seen, L.length, esOf L, L.length, rfl, hi0, hm, Nat.le_refl _, fun e he => ?_, fun hall => ?_, fun e he hun => ?_⟩
  · obtain ⟨i, x, hx, rfl⟩ := es_mem he
    exact lt_get hx
  · unfold index_Index_Len_b4
    have : remC 0 L seen = 0 := remC_all L 0 seen (fun i hi => by
      rw [Nat.zero_add]
      have hx : L[i]? = some L[i] := List.getElem?_eq_getElem hi
      refine hall (enTe i L[i]) ?_
      unfold esOf
      rw [List.mem_toArray, List.mem_iff_getElem]
      exact ⟨i, by rw [List.length_mapIdx]; exact hi, by rw [List.getElem_mapIdx]⟩)
    rw [this, Nat.sub_zero]
    exact ⟨rfl, hsT.drop.re (by intro a; simp only [cnt_cons, cnt_app]; omega)⟩
  · obtain ⟨i, x, hx, rfl⟩ := es_mem he
    have hun : seen.contains i = false := hun
    have hlt := unsn_lt he hun
    obtain ⟨i1, hi1, hset1⟩ := hsT.put (b14, Obj.mapIter (some xm) L.length (seen.push i) L.length)
    have hii : i1 = i1 := rfl
    have hset2 : Sub ((b14, Obj.mapIter (some xm) L.length (seen.push i) L.length) :: (o1 ++ ((xm, .map (esOf L) L.length) :: (o2 ++ F)))) (T.set i0 (b14, Obj.mapIter (some xm) L.length (seen.push i) L.length)) := by
      obtain ⟨G, hG⟩ := hset
      have hp : T.Perm ((b14, Obj.mapIter (some xm) L.length seen L.length) :: ((o1 ++ ((xm, .map (esOf L) L.length) :: (o2 ++ F))) ++ G)) := by
        have e : T.set i0 (b14, Obj.mapIter (some xm) L.length seen L.length) = T := by
          apply List.ext_getElem?
          intro j
          rw [List.getElem?_set]
          split
          · rename_i e; subst e
            split
            · exact hi0.symm
            · rename_i h; rw [List.getElem?_eq_none (by omega)]
          · rfl
        rw [e] at hG
        exact hG
      have key : ∀ (A : SH) (i : Nat) (x y : Nat × Obj), A[i]? = some x → (y :: A).Perm (x :: A.set i y) := by
        intro A
        induction A with
        | nil => intro i x y h; simp at h
        | cons z A ih =>
          intro i x y h
          cases i with
          | zero => simp at h; subst h; exact List.Perm.swap ..
          | succ i =>
            simp at h
            have := ih i x y h
            exact (List.Perm.swap z y A).trans ((this.cons z).trans (List.Perm.swap x z _))
      refine ⟨G, ?_⟩
      have k1 := key T i0 _ (b14, Obj.mapIter (some xm) L.length (seen.push i) L.length) hi0
      exact List.Perm.cons_inv (k1.symm.trans ((hp.cons _).trans (List.Perm.swap ..)))
    unfold index_Index_Len_b5
    have hm2 : MpC J _ xm (esOf L) L.length := MpC.of_sub hset2.drop.right
    have hmem : (b14, Obj.mapIter (some xm) L.length (seen.push i) L.length) ∈ T.set i0 (b14, Obj.mapIter (some xm) L.length (seen.push i) L.length) := by
      obtain ⟨G, hG⟩ := hset2
      exact hG.mem_iff.2 (by simp)
    refine ⟨xm, L.length, seen.push i, i, esOf L, L.length, enTe i x, rfl, hmem, by simp, hm2, es_find hx, ?_⟩
    unfold index_Index_Len_b6
    -- the trie's own
    have hlook : lookT L x.k x.s = some x := by
      unfold lookT
      obtain ⟨L1, L2, hLL, hl1⟩ : ∃ L1 L2, L = L1 ++ x :: L2 ∧ L1.length = i := ⟨L.take i, L.drop (i + 1), by
        have hil := lt_get hx
        have e : L[i] = x := by rw [List.getElem?_eq_getElem hil] at hx; exact Option.some.inj hx
        rw [← e, List.getElem_cons_drop, List.take_append_drop], by rw [List.length_take]; have := lt_get hx; omega⟩
      rw [hLL, List.find?_append]
      have hno : L1.find? (fun z => z.k == x.k && z.s == x.s) = none := by
        rw [List.find?_eq_none]
        intro z hz hzz
        rw [Bool.and_eq_true, beq_iff_eq, beq_iff_eq] at hzz
        rw [hLL, List.map_append, List.nodup_append] at hnd
        exact hnd.2.2 (z.k, z.s) (List.mem_map.2 ⟨z, hz, rfl⟩) (x.k, x.s) (by simp) (by rw [hzz.1, hzz.2])
      rw [hno]
      simp
    obtain ⟨L1, L2, oA, ox, oB, hLL, _, _, _, hA, hxO, hxw, hxl, hB, rfl⟩ := hL.split hlook
    refine (Runs_fr (R := fun w o => w = .int .i64 (x.t.cnt : Int) ∧ o = ox) (F := (b14, Obj.mapIter (some xm) L.length (seen.push i) L.length) :: (o1 ++ ((xm, .map (esOf L) L.length) :: ((oA ++ oB) ++ F)))) (hset2.re (by intro a; simp only [cnt_cons, cnt_app]; omega)) (fun F' => (Tr.Len_runs x.b x.t ox hxO _ F').mono ?_)).mono ?_
    · rintro w J T hle ⟨rfl, rfl⟩
      exact ⟨ox, ⟨rfl, rfl⟩, rfl⟩
    rintro w J3 T3 hle3 ⟨o, ⟨rfl, ho⟩, hs3⟩
    rw [ho] at hs3
    have hp := remC_push L 0 i seen x hx (by rw [Nat.zero_add]; exact hun)
    rw [Nat.zero_add] at hp
    refine ⟨_, rfl, _, hlt, rfl, hle.trans hle3, seen.push i, rfl, ?_, by omega, hs3.re (by intro a; simp only [cnt_cons, cnt_app]; omega)⟩
    rw [wrap_i64 (by omega) (by omega)]
    omega
end Go.Proofs.YtcdajekafnggkaaGreatDoor
/- index.Name, index.Addr; the law's examples. -/
namespace Go.Proofs.YtcdajekafnggkaaGreatDoor
open Go.Px
set_option linter.unusedVariables false
set_option linter.unusedSimpArgs false
set_option maxRecDepth 8000

abbrev tgN (k : Int) (n : ByteArray) : Tg := (k, n, ⟨#[]⟩, 0)
theorem IxI.word {V : Tg → Option Int} {M : Tb.KV} {L : List Te} (h : IxI V M L) {k : Int} (hk : nmK k) (n : ByteArray) : M (wordB k n) = V (tgN k n) := by
  by_cases he : encF (tgN k n) = none
  · rw [h.bad _ he]
    cases hM : M (wordB k n) with
    | none => rfl
    | some v =>
      obtain ⟨t, ht, e, hv⟩ := (h.nam _ _).1 hM
      have hen := h.enc hv
      rcases enc_shape hen with h1 | ⟨h1, h2, h3⟩
      · rw [h1.1] at ht; cases ht
      · obtain ⟨e1, e2⟩ := word_inj h1 hk e
        have : t = tgN k n := Prod.ext e1 (Prod.ext e2 (Prod.ext h2 h3))
        rw [this] at hen
        exact absurd he hen
  · exact h.get_n (t := tgN k n) he (nmK_ip hk)
def upV (V : Tg → Option Int) (wild : Int) : Nat → ByteArray × Bool → Option (Int × Tg)
  | 0, _ => none
  | f + 1, p => if p.2 = true then (match V (tgN wild p.1) with | some v => some (v, tgN wild p.1) | none => upV V wild f (parN p.1)) else none
def nameV (V : Tg → Option Int) (exact wild : Int) (n : ByteArray) : Option (Int × Tg) := match V (tgN exact n) with
  | some v => some (v, tgN exact n)
  | none => upV V wild (n.size + 1) (parN n)
abbrev resN (r : Option (Int × Tg)) : Value := .tuple #[.int .i64 (r.getD (0, t0)).1, vT (r.getD (0, t0)).2, .bool r.isSome]
theorem tget {xb n : Nat} {M : Tb.KV} {L : List Te} {own F S : SH} {I : IMem} (hO : IxO xb M n L own) (hs : Sub (own ++ F) S) (w : ByteArray) (hw : w.size ≤ 9223372036854775807) :
    Runs Tryz.prog 30 #[.pointer (some ⟨xb, 0, none⟩), .string w] I S fun v _ T => v = .tuple #[.int .i64 ((M w).getD 0), .bool (M w).isSome] ∧ Sub (own ++ F) T := by
  obtain ⟨xm, tb, o1, rest, hT, hTI, hlv, hgo, hback⟩ := hO.tab
  obtain ⟨G, hG⟩ := hs
  have hs2 : Sub (own ++ (F ++ G)) S := ⟨[], by rw [List.append_nil, ← List.append_assoc]; exact hG⟩
  obtain ⟨xm, tb, o1, o2, hT, hTI, hn, hnd, hL, rfl⟩ := hO
  have hs' : Sub (o1 ++ (((xm, .map (esOf L) L.length) :: o2) ++ F)) S := hs2.re (by intro a; simp only [cnt_cons, cnt_app]; omega)
  refine (Runs_fr (R := fun v o => v = .tuple #[.int .i64 ((M w).getD 0), .bool (M w).isSome] ∧ o = o1) hs' (fun F' => (Tb.Get_TI hT hTI (Nat.le_refl _) w hw _ F').mono ?_)).mono ?_
  · rintro v J T hle ⟨rfl, rfl⟩
    exact ⟨o1, ⟨rfl, rfl⟩, rfl⟩
  · rintro v J T hle ⟨o, ⟨rfl, ho⟩, hs3⟩
    rw [ho] at hs3
    exact ⟨rfl, hs3.re (by intro a; simp only [cnt_cons, cnt_app]; omega)⟩
theorem word_sz {k : Int} (h : nmK k) {n : ByteArray} (hn : n.size ≤ 1000000) : (wordB k n).size ≤ 9223372036854775807 := by
  unfold wordB
  rw [word_enc h, ByteArray.size_append]
  show 1 + n.size ≤ _
  omega
theorem name_hit {xb n c : Nat} {V : Tg → Option Int} {own F T : SH} {b9 : Nat} {x t : Tg} {v : Int} {J : IMem} (hs : Sub (own ++ (tgB b9 x :: F)) T) {R : RT} (hR : ∀ T', Sub (own ++ F) T' → R (.tuple #[.int .i64 v, vT t, .bool true]) J T') :
    StP T ⟨b9, 0, none⟩ [.int .i64 t.1, .string t.2.1, .string t.2.2.1, .int .i64 t.2.2.2] fun S1 => ∃ u0, Cell J S1 ⟨b9, 0, none⟩ (.int .i64 u0) ∧ ∃ u1, Cell J S1 ((⟨b9, 0, none⟩ : Addr).add 1) (.string u1) ∧ ∃ u2, Cell J S1 ((⟨b9, 0, none⟩ : Addr).add 2) (.string u2) ∧ ∃ u3, Cell J S1 ((⟨b9, 0, none⟩ : Addr).add 3) (.int .i64 u3) ∧ R (.tuple #[.int .i64 v, .agg #[.int .i64 u0, .string u1, .string u2, .int .i64 u3], .bool true]) J S1 := by
  refine put_tg (x := x) (t := t) (F := own ++ F) (hs.re (by intro a; simp only [cnt_cons, cnt_app]; omega)) fun T' hT' => ?_
  obtain ⟨c0, c1, c2, _, c3⟩ := tgX (I := J) hT'
  exact ⟨_, c0, _, c1, _, c2, _, c3, hR T' hT'.drop⟩
theorem IName_runs {xb n c : Nat} {V : Tg → Option Int} {own F S : SH} {I : IMem} (h : IxS xb V n c own) (hs : Sub (own ++ F) S) {exact_ wild : Int} (he : nmK exact_) (hw : nmK wild) (nn : ByteArray) (hn : nn.size ≤ 1000000) :
    Runs Tryz.prog 12 #[.pointer (some ⟨xb, 0, none⟩), .int .i64 exact_, .int .i64 wild, .string nn] I S fun v _ T => v = resN (nameV V exact_ wild nn) ∧ Sub (own ++ F) T := by
  obtain ⟨M, L, hO, hI, rfl⟩ := h
  refine index_Index_Name_fn _ _ _ _ _ _ _ ?_
  unfold index_Index_Name index_Index_Name_b1
  intro b9
  have hs1 : Sub (own ++ (tgB b9 t0 :: F)) ((b9, .cells #[.int .i64 0, .string ⟨#[]⟩, .string ⟨#[]⟩, .int .i64 0] 35 (0, 0)) :: S) := mid3.zc hs
  refine (Word_runs he nn hn _ _).mono ?_
  rintro v J1 T1 hle1 ⟨rfl, rfl⟩
  refine ⟨_, rfl, (tget hO hs1 _ (word_sz he hn)).mono ?_⟩
  rintro v J2 T2 hle2 ⟨rfl, hs2⟩
  refine ⟨_, _, rfl, ?_⟩
  unfold index_Index_Name_b2
  have hM := hI.word he nn
  rw [hM]
  cases hV : V (tgN exact_ nn) with
  | some v =>
    refine bcase_t rfl (name_hit (t := tgN exact_ nn) (n := n) (c := 0) (xb := xb) (V := V) (F := F) (own := own) (x := t0) (v := v) (R := fun v _ T => v = resN (nameV V exact_ wild nn) ∧ Sub (own ++ F) T) hs2 (fun T' hT' => ⟨?_, hT'⟩))
    rw [nameV, hV]; rfl
  | none =>
    have hnv : nameV V exact_ wild nn = upV V wild (nn.size + 1) (parN nn) := by rw [nameV, hV]
    rw [hnv]
    refine bcase_f rfl ?_
    unfold index_Index_Name_b3
    refine (Parent_runs nn _ _).mono ?_
    rintro v J3 T3 hle3 ⟨rfl, rfl⟩
    refine ⟨_, _, rfl, ?_⟩
    unfold index_Index_Name_b4
    refine ⟨fun m x0 x2 x9 up ok J T => x0 = some ⟨xb, 0, none⟩ ∧ x2 = wild ∧ x9 = ⟨b9, 0, none⟩ ∧ (ok = true → up.size < m) ∧ m ≤ 1000001 ∧ upV V wild m (up, ok) = upV V wild (nn.size + 1) (parN nn) ∧ Sub (own ++ (tgB b9 t0 :: F)) T,
      nn.size + 1, ⟨rfl, rfl, rfl, fun h => by have := parN_size h; omega, by omega, rfl, hs2⟩, ?_⟩
    rintro m x0 x2 x9 up ok J T - ⟨rfl, rfl, rfl, hup, hm, hres, hsT⟩
    rw [← hres]
    unfold index_Index_Name_l5
    refine bcase_of (fun hok => ?_) (fun hok => ?_)
    · subst hok
      have hlt := hup rfl
      obtain ⟨f, rfl⟩ : ∃ f, m = f + 1 := ⟨m - 1, by omega⟩
      have hun : upV V x2 (f + 1) (up, true) = match V (tgN x2 up) with | some v => some (v, tgN x2 up) | none => upV V x2 f (parN up) := by
        rw [upV]
        exact if_pos rfl
      unfold index_Index_Name_b6
      refine (Word_runs hw up (by omega) _ _).mono ?_
      rintro v J4 T4 hle4 ⟨rfl, rfl⟩
      refine ⟨_, rfl, (tget hO hsT _ (word_sz hw (by omega))).mono ?_⟩
      rintro v J5 T5 hle5 ⟨rfl, hs5⟩
      refine ⟨_, _, rfl, ?_⟩
      unfold index_Index_Name_b7
      rw [hI.word hw up]
      cases hV2 : V (tgN x2 up) with
      | some v =>
        refine bcase_t rfl (name_hit (t := tgN x2 up) (n := n) (c := 0) (xb := xb) (V := V) (F := F) (own := own) (x := t0) (v := v) (R := fun v _ T => v = resN (upV V x2 (f + 1) (up, true)) ∧ Sub (own ++ F) T) hs5 (fun T' hT' => ⟨?_, hT'⟩))
        rw [hun, hV2]; rfl
      | none =>
        refine bcase_f rfl ?_
        unfold index_Index_Name_b8
        refine (Parent_runs up _ _).mono ?_
        rintro v J6 T6 hle6 ⟨rfl, rfl⟩
        refine ⟨_, _, rfl, f, by omega, rfl, rfl, rfl, fun h => by have := parN_size h; omega, by omega, ?_, hs5⟩
        rw [hun, hV2]
    · subst hok
      unfold index_Index_Name_b9
      have hun : upV V x2 m (up, false) = none := by
        cases m with
        | zero => rfl
        | succ f => rfl
      rw [hun]
      refine put_tg (x := t0) (t := t0) (F := own ++ F) (hsT.re (by intro a; simp only [cnt_cons, cnt_app]; omega)) fun T' hT' => ?_
      obtain ⟨c0, c1, c2, _, c3⟩ := tgX (I := J) hT'
      exact ⟨_, c0, _, c1, _, c2, _, c3, rfl, hT'.drop⟩
/-! ### the law's examples -/
theorem V_put {V : Tg → Option Int} {t : Tg} {v : Int} (h : encF t ≠ none) (u : Tg) : putV V t v u = if u = t then some v else V u := by
  unfold putV
  rw [if_pos (by cases he : encF t with | none => exact absurd he h | some m => rfl)]
end Go.Proofs.YtcdajekafnggkaaGreatDoor
/- The law's examples. -/
namespace Go.Proofs.YtcdajekafnggkaaGreatDoor
open Go.Px
set_option linter.unusedVariables false
set_option linter.unusedSimpArgs false
set_option maxRecDepth 8000

def wEx : ByteArray := ⟨#[101, 120]⟩
def wB : ByteArray := ⟨#[98]⟩
def wA : ByteArray := ⟨#[97]⟩
theorem wr1 : ∀ l ∈ [wEx], l ∈ wrdL := by intro l hl; simp [wrdL, wEx] at *; simp [hl]
theorem wr2 : ∀ l ∈ [wB, wEx], l ∈ wrdL := by
  intro l hl
  rcases List.mem_cons.1 hl with rfl | hl
  · simp [wrdL, wB]
  · exact wr1 l hl
theorem wr3 : ∀ l ∈ [wA, wB, wEx], l ∈ wrdL := by
  intro l hl
  rcases List.mem_cons.1 hl with rfl | hl
  · simp [wrdL, wA]
  · exact wr2 l hl
theorem lab_of {us : List ByteArray} (h : ∀ l ∈ us, l ∈ wrdL) : ∀ l ∈ us, IsLab l := fun l hl => (wrd_p (h l hl)).1
theorem good_w {us : List ByteArray} (h : ∀ l ∈ us, l ∈ wrdL) (hl : us.length ≤ 5) : encF (tgN 2 (nm us)) ≠ none := by
  have hg : GoodN (tgN 2 (nm us)) := ⟨by show (2 : Int) = 1 ∨ (2 : Int) = 2 ∨ (2 : Int) = 4 ∨ (2 : Int) = 5; decide, rfl, us, h, hl, rfl, fun h => by rcases h with h | h <;> cases h⟩
  rw [(enc_good (.inr hg)).1]
  exact Option.some_ne_none _
theorem awake17_runs {I : IMem} (g : GL I) (S : SH) : Runs Tryz.prog 4 #[] I S fun v _ T => v = .bool true ∧ Sub S T := by
  refine bolterlaw17_awake_fn _ _ _ ?_
  unfold bolterlaw17_awake
  refine (IOf_runs I S).mono ?_
  rintro v J0 T0 hle0 ⟨xb, own0, rfl, hx0, hs0⟩
  refine ⟨_, rfl, bcase_f rfl fun b20 => ?_⟩
  refine (Make_runs (ls := [wEx]) (strs_row [wEx] (by decide)) (by decide)).mono ?_
  rintro v J1 T1 hle1 ⟨rfl, rfl⟩
  rw [wrd_make wr1 (by decide)]
  refine ⟨_, _, rfl, fun b25 => (Make_runs (ls := [wB, wEx]) (strs_row [wB, wEx] (by decide)) (by decide)).mono ?_⟩
  rintro v J2 T2 hle2 ⟨rfl, rfl⟩
  rw [wrd_make wr2 (by decide)]
  refine ⟨_, _, rfl, fun b30 => (Make_runs (ls := [wA, wB, wEx]) (strs_row [wA, wB, wEx] (by decide)) (by decide)).mono ?_⟩
  rintro v J3 T3 hle3 ⟨rfl, rfl⟩
  rw [wrd_make wr3 (by decide)]
  refine ⟨_, _, rfl, ?_⟩
  have hs1 : Sub (own0 ++ S) ((b30, Obj.cells (([wA, wB, wEx] : List ByteArray).flatMap elS).toArray 9 (0, 0)) :: (b25, Obj.cells (([wB, wEx] : List ByteArray).flatMap elS).toArray 9 (0, 0)) :: (b20, Obj.cells (([wEx] : List ByteArray).flatMap elS).toArray 9 (0, 0)) :: T0) := ((hs0.skip _).skip _).skip _
  have l3 := ((hle0.trans hle1).trans hle2).trans hle3
  refine (IPut_runs (g.le l3) hx0 hs1 (tgN 2 (nm [wEx])) 1 (by decide) (by decide)).mono ?_
  rintro v J4 T4 hle4 ⟨rfl, n1, c1, own1, hx1, hn1, hc1, hs2⟩
  refine ⟨_, rfl, (IPut_runs (g.le (l3.trans hle4)) hx1 hs2 (tgN 2 (nm [wB, wEx])) 2 (by rw [hn1]; unfold sNum; split <;> omega) (by rw [hc1]; unfold sNum; split <;> omega)).mono ?_⟩
  rintro v J5 T5 hle5 ⟨rfl, n2, c2, own2, hx2, hn2, hc2, hs3⟩
  have e1 := good_w wr1 (by decide)
  have e2 := good_w wr2 (by decide)
  have ne12 : nm [wB, wEx] ≠ nm [wEx] := fun e => by have := congrArg ByteArray.size e; revert this; decide
  have hV : ∀ u, putV (putV (fun _ => none) (tgN 2 (nm [wEx])) 1) (tgN 2 (nm [wB, wEx])) 2 u = if u = tgN 2 (nm [wB, wEx]) then some 2 else if u = tgN 2 (nm [wEx]) then some 1 else none := fun u => by
    rw [V_put e2, V_put e1]
  have hV1 : putV (fun _ => none) (tgN 2 (nm [wEx])) 1 (tgN 2 (nm [wB, wEx])) = none := by
    rw [V_put e1, if_neg (fun e => by injection e with _ e; injection e with e _; exact ne12 e)]
  have b1 : ((encF (tgN 2 (nm [wEx]))).isSome && ((none : Option Int)).isNone) = true := by
    cases h : encF (tgN 2 (nm [wEx])) with
    | none => exact absurd h e1
    | some m => rfl
  have b2 : ((encF (tgN 2 (nm [wB, wEx]))).isSome && ((none : Option Int)).isNone) = true := by
    cases h : encF (tgN 2 (nm [wB, wEx])) with
    | none => exact absurd h e2
    | some m => rfl
  rw [hV1, b2, b1]
  have p3 : parN (nm [wA, wB, wEx]) = (nm [wB, wEx], true) := parN_nm (lab_of wr3) (by decide)
  have p1 : parN (nm [wEx]) = (nm [], true) := parN_nm (lab_of wr1) (by decide)
  have p0 : parN (nm []) = (⟨#[]⟩, false) := rfl
  have k12 : ∀ a b : ByteArray, tgN 1 a ≠ tgN 2 b := fun a b e => by injection e with e _; cases e
  have nA : nameV (putV (putV (fun _ => none) (tgN 2 (nm [wEx])) 1) (tgN 2 (nm [wB, wEx])) 2) 1 2 (nm [wA, wB, wEx]) = some (2, tgN 2 (nm [wB, wEx])) := by
    unfold nameV
    rw [hV, if_neg (k12 _ _), if_neg (k12 _ _)]
    dsimp only
    rw [p3, upV]
    dsimp only
    rw [hV, if_pos rfl]
    rfl
  have nB : nameV (putV (putV (fun _ => none) (tgN 2 (nm [wEx])) 1) (tgN 2 (nm [wB, wEx])) 2) 1 2 (nm [wEx]) = none := by
    unfold nameV
    rw [hV, if_neg (k12 _ _), if_neg (k12 _ _)]
    dsimp only
    rw [p1, upV]
    dsimp only
    rw [if_pos rfl, hV, if_neg (fun e => by injection e with _ e; injection e with e _; have := congrArg ByteArray.size e; revert this; decide), if_neg (fun e => by injection e with _ e; injection e with e _; have := congrArg ByteArray.size e; revert this; decide)]
    dsimp only
    rw [p0]
    rfl
  refine ⟨_, rfl, (IName_runs hx2 hs3 (exact_ := 1) (wild := 2) (.inl rfl) (.inr (.inl rfl)) (nm [wA, wB, wEx]) (by decide)).mono ?_⟩
  rintro v J6 T6 hle6 ⟨rfl, hs4⟩
  rw [nA]
  refine ⟨_, _, _, _, _, _, rfl, fun b11 => StP.tg (x := t0) (t := tgN 2 (nm [wB, wEx])) ?_⟩
  have hs5 : Sub (own2 ++ (tgB b11 (tgN 2 (nm [wB, wEx])) :: S)) (tgB b11 (tgN 2 (nm [wB, wEx])) :: T6) := mid3.zc hs4
  refine (IName_runs hx2 hs5 (exact_ := 1) (wild := 2) (.inl rfl) (.inr (.inl rfl)) (nm [wEx]) (by decide)).mono ?_
  rintro v J7 T7 hle7 ⟨rfl, hs6⟩
  rw [nB]
  refine ⟨_, _, _, _, _, _, rfl, fun b14 => StP.tg (x := t0) (t := t0) ?_⟩
  refine bcase_t rfl (bcase_t rfl (bcase_t rfl ⟨_, Cell.tl (Cell.at_ rfl (Cell.among hs6.right rfl)), bcase_t (keq.2 rfl) (bcase_t rfl ?_)⟩))
  unfold bolterlaw17_awake_b1
  exact ⟨rfl, hs6.right.drop.skip _⟩
end Go.Proofs.YtcdajekafnggkaaGreatDoor
set_option linter.unusedVariables false
set_option maxRecDepth 8000
set_option maxHeartbeats 2000000
namespace Go.Proofs.YtcdajekafnggkaaGreatDoor
open Go.Px
abbrev bolterlaw17_IndexScript_t3 := OA → Nat → Nat → OA → Option Nat → OA → Nat → Nat → Int → Int → PR
abbrev bolterlaw17_IndexScript_t8 := OA → Nat → Nat → OA → Option Nat → Addr → OA → Nat → Nat → Int → Int → OA → Nat → Nat → Int → Int → PR
abbrev bolterlaw17_IndexScript_t14 := OA → Nat → Nat → OA → Option Nat → Addr → ByteArray → ByteArray → OA → Nat → Nat → Int → Int → OA → Nat → Nat → Int → Int → OA → Nat → Nat → Int → Int → PR
def bolterlaw17_IndexScript_b17 (g3 : bolterlaw17_IndexScript_t3) (g8 : bolterlaw17_IndexScript_t8) (g14 : bolterlaw17_IndexScript_t14) (R : RT) (x1 : OA) (x1n x1c : Nat) (x5 : OA) (x6 : Option Nat) (x8 : Addr) (x14 x15 : ByteArray) (x36 : OA) (x36n x36c : Nat) (x37 x38 : Int) (x87 : OA) (x87n x87c : Nat) (x88 x89 : Int) (x108 : OA) (x108n x108c : Nat) (x109 x110 : Int) (I : IMem) (S : SH) : Prop :=
  g14 x1 x1n x1c x5 x6 x8 x14 x15 x36 x36n x36c x37 x38 x87 x87n x87c x88 x89 x108 x108n x108c x109 (IntKind.wrap .i64 (x110 + (1 : Int))) I S
def bolterlaw17_IndexScript_b16 (g3 : bolterlaw17_IndexScript_t3) (g8 : bolterlaw17_IndexScript_t8) (g14 : bolterlaw17_IndexScript_t14) (R : RT) (x1 : OA) (x1n x1c : Nat) (x5 : OA) (x6 : Option Nat) (x8 : Addr) (x14 x15 : ByteArray) (x36 : OA) (x36n x36c : Nat) (x37 x38 : Int) (x87 : OA) (x87n x87c : Nat) (x88 x89 : Int) (x108 : OA) (x108n x108c : Nat) (x109 x110 : Int) (x149 : Bool) (I : IMem) (S : SH) : Prop :=
  bcase x149
    (R (.bool false) I S)
    (bolterlaw17_IndexScript_b17 g3 g8 g14 R x1 x1n x1c x5 x6 x8 x14 x15 x36 x36n x36c x37 x38 x87 x87n x87c x88 x89 x108 x108n x108c x109 x110 I S)
def bolterlaw17_IndexScript_b15 (g3 : bolterlaw17_IndexScript_t3) (g8 : bolterlaw17_IndexScript_t8) (g14 : bolterlaw17_IndexScript_t14) (R : RT) (x1 : OA) (x1n x1c : Nat) (x5 : OA) (x6 : Option Nat) (x8 : Addr) (x14 x15 : ByteArray) (x36 : OA) (x36n x36c : Nat) (x37 x38 : Int) (x87 : OA) (x87n x87c : Nat) (x88 x89 : Int) (x108 : OA) (x108n x108c : Nat) (x109 x110 : Int) (I : IMem) (S : SH) : Prop :=
  ptrP x108 fun u0 => (0 : Int) ≤ x110 ∧ x110 < (x108n : Int) ∧
  ∃ u1, Cell I S (u0.add (x110.toNat * 2)) (.int .i64 u1) ∧
  ∃ u2, Cell I S ((u0.add (x110.toNat * 2)).add 1) (.int .i64 u2) ∧
  ∀ b17 : Nat,
  StP ((b17, .cells #[.int .i64 0, .int .i64 0] 43 (0, 0)) :: S) ⟨b17, 0, none⟩ [.int .i64 u1, .int .i64 u2] fun S1 =>
  (0 : Int) ≤ (0 : Int) ∧ (0 : Int) < ((2 : Nat) : Int) ∧
  ∃ u3, Cell I S1 ((⟨b17, 0, none⟩ : Addr).add ((0 : Int).toNat * 1)) (.int .i64 u3) ∧
  (0 : Int) ≤ (1 : Int) ∧ (1 : Int) < ((2 : Nat) : Int) ∧
  ∃ u4, Cell I S1 ((⟨b17, 0, none⟩ : Addr).add ((1 : Int).toNat * 1)) (.int .i64 u4) ∧
  Runs Tryz.prog 12 #[.pointer x5, .int .i64 u3, .int .i64 u4, .string x14] I S1 fun v I1 S1' => ∃ u5 u6 u7 u8 u9 ua, v = .tuple #[.int .i64 u5, .agg #[.int .i64 u6, .string u7, .string u8, .int .i64 u9], .bool ua] ∧
  ∀ b19 : Nat,
  StP ((b19, .cells #[.int .i64 0, .string ⟨#[]⟩, .string ⟨#[]⟩, .int .i64 0] 35 (0, 0)) :: S1') ⟨b19, 0, none⟩ [.int .i64 u6, .string u7, .string u8, .int .i64 u9] fun S1'' =>
  (0 : Int) ≤ (0 : Int) ∧ (0 : Int) < ((2 : Nat) : Int) ∧
  ∃ ub, Cell I1 S1'' ((⟨b17, 0, none⟩ : Addr).add ((0 : Int).toNat * 1)) (.int .i64 ub) ∧
  (0 : Int) ≤ (1 : Int) ∧ (1 : Int) < ((2 : Nat) : Int) ∧
  ∃ uc, Cell I1 S1'' ((⟨b17, 0, none⟩ : Addr).add ((1 : Int).toNat * 1)) (.int .i64 uc) ∧
  Runs Tryz.prog 14 #[.int .i64 ub, .int .i64 uc, .string x14] I1 S1'' fun v' I1' S1_r3 => ∃ ud, v' = ud ∧
  Runs Tryz.prog 13 #[.map x6, ud] I1' S1_r3 fun v'' I1'' S1_r4 => ∃ ue uf ug uh ui uj, v'' = .tuple #[.int .i64 ue, .agg #[.int .i64 uf, .string ug, .string uh, .int .i64 ui], .bool uj] ∧
  ∀ b22 : Nat,
  StP ((b22, .cells #[.int .i64 0, .string ⟨#[]⟩, .string ⟨#[]⟩, .int .i64 0] 35 (0, 0)) :: S1_r4) ⟨b22, 0, none⟩ [.int .i64 uf, .string ug, .string uh, .int .i64 ui] fun S1_r5 =>
  bcase (u5 != ue)
    (bolterlaw17_IndexScript_b16 g3 g8 g14 R x1 x1n x1c x5 x6 x8 x14 x15 x36 x36n x36c x37 x38 x87 x87n x87c x88 x89 x108 x108n x108c x109 x110 true I1'' S1_r5)
    (∃ uk, Cell I1'' S1_r5 ⟨b19, 0, none⟩ (.int .i64 uk) ∧
    ∃ ul, Cell I1'' S1_r5 ⟨b19, 1, none⟩ (.string ul) ∧
    ∃ um, Cell I1'' S1_r5 ⟨b19, 2, none⟩ (.string um) ∧
    ∃ un, Cell I1'' S1_r5 ⟨b19, 3, none⟩ (.int .i64 un) ∧
    ∃ uo, Cell I1'' S1_r5 ⟨b22, 0, none⟩ (.int .i64 uo) ∧
    ∃ up, Cell I1'' S1_r5 ⟨b22, 1, none⟩ (.string up) ∧
    ∃ uq, Cell I1'' S1_r5 ⟨b22, 2, none⟩ (.string uq) ∧
    ∃ ur, Cell I1'' S1_r5 ⟨b22, 3, none⟩ (.int .i64 ur) ∧
    bcase (!(((uk : Int) == (uo : Int)) && (((ul : ByteArray) == (up : ByteArray)) && ((((um : ByteArray) == (uq : ByteArray)) && (((un : Int) == (ur : Int)) && true)) && true))))
      (bolterlaw17_IndexScript_b16 g3 g8 g14 R x1 x1n x1c x5 x6 x8 x14 x15 x36 x36n x36c x37 x38 x87 x87n x87c x88 x89 x108 x108n x108c x109 x110 true I1'' S1_r5)
      (bolterlaw17_IndexScript_b16 g3 g8 g14 R x1 x1n x1c x5 x6 x8 x14 x15 x36 x36n x36c x37 x38 x87 x87n x87c x88 x89 x108 x108n x108c x109 x110 (!(ua == uj)) I1'' S1_r5))
abbrev bolterlaw17_IndexScript_t20 := OA → Nat → Nat → OA → Option Nat → Addr → ByteArray → OA → Nat → Nat → Int → Int → OA → Nat → Nat → Int → Int → OA → Nat → Nat → Int → Int → PR
def bolterlaw17_IndexScript_b23 (g3 : bolterlaw17_IndexScript_t3) (g8 : bolterlaw17_IndexScript_t8) (g20 : bolterlaw17_IndexScript_t20) (R : RT) (x1 : OA) (x1n x1c : Nat) (x5 : OA) (x6 : Option Nat) (x8 : Addr) (x15 : ByteArray) (x36 : OA) (x36n x36c : Nat) (x37 x38 : Int) (x87 : OA) (x87n x87c : Nat) (x88 x89 : Int) (x151 : OA) (x151n x151c : Nat) (x152 x153 : Int) (I : IMem) (S : SH) : Prop :=
  g20 x1 x1n x1c x5 x6 x8 x15 x36 x36n x36c x37 x38 x87 x87n x87c x88 x89 x151 x151n x151c x152 (IntKind.wrap .i64 (x153 + (1 : Int))) I S
def bolterlaw17_IndexScript_b22 (g3 : bolterlaw17_IndexScript_t3) (g8 : bolterlaw17_IndexScript_t8) (g20 : bolterlaw17_IndexScript_t20) (R : RT) (x1 : OA) (x1n x1c : Nat) (x5 : OA) (x6 : Option Nat) (x8 : Addr) (x15 : ByteArray) (x36 : OA) (x36n x36c : Nat) (x37 x38 : Int) (x87 : OA) (x87n x87c : Nat) (x88 x89 : Int) (x151 : OA) (x151n x151c : Nat) (x152 x153 : Int) (x186 : Bool) (I : IMem) (S : SH) : Prop :=
  bcase x186
    (R (.bool false) I S)
    (bolterlaw17_IndexScript_b23 g3 g8 g20 R x1 x1n x1c x5 x6 x8 x15 x36 x36n x36c x37 x38 x87 x87n x87c x88 x89 x151 x151n x151c x152 x153 I S)
def bolterlaw17_IndexScript_b21 (g3 : bolterlaw17_IndexScript_t3) (g8 : bolterlaw17_IndexScript_t8) (g20 : bolterlaw17_IndexScript_t20) (R : RT) (x1 : OA) (x1n x1c : Nat) (x5 : OA) (x6 : Option Nat) (x8 : Addr) (x15 : ByteArray) (x36 : OA) (x36n x36c : Nat) (x37 x38 : Int) (x87 : OA) (x87n x87c : Nat) (x88 x89 : Int) (x151 : OA) (x151n x151c : Nat) (x152 x153 : Int) (I : IMem) (S : SH) : Prop :=
  ptrP x151 fun u0 => (0 : Int) ≤ x153 ∧ x153 < (x151n : Int) ∧
  ∃ u1, Cell I S (u0.add (x153.toNat * 1)) (.int .i64 u1) ∧
  Runs Tryz.prog 15 #[.pointer x5, .int .i64 u1, .string x15] I S fun v I1 S1 => ∃ u2 u3 u4 u5 u6 u7, v = .tuple #[.int .i64 u2, .agg #[.int .i64 u3, .string u4, .string u5, .int .i64 u6], .bool u7] ∧
  ∀ b27 : Nat,
  StP ((b27, .cells #[.int .i64 0, .string ⟨#[]⟩, .string ⟨#[]⟩, .int .i64 0] 35 (0, 0)) :: S1) ⟨b27, 0, none⟩ [.int .i64 u3, .string u4, .string u5, .int .i64 u6] fun S1' =>
  Runs Tryz.prog 16 #[.int .i64 u1, .string x15] I1 S1' fun v' I1' S1'' => ∃ u8, v' = u8 ∧
  Runs Tryz.prog 13 #[.map x6, u8] I1' S1'' fun v'' I1'' S1_r3 => ∃ u9 ua ub uc ud ue, v'' = .tuple #[.int .i64 u9, .agg #[.int .i64 ua, .string ub, .string uc, .int .i64 ud], .bool ue] ∧
  ∀ b30 : Nat,
  StP ((b30, .cells #[.int .i64 0, .string ⟨#[]⟩, .string ⟨#[]⟩, .int .i64 0] 35 (0, 0)) :: S1_r3) ⟨b30, 0, none⟩ [.int .i64 ua, .string ub, .string uc, .int .i64 ud] fun S1_r4 =>
  bcase (u2 != u9)
    (bolterlaw17_IndexScript_b22 g3 g8 g20 R x1 x1n x1c x5 x6 x8 x15 x36 x36n x36c x37 x38 x87 x87n x87c x88 x89 x151 x151n x151c x152 x153 true I1'' S1_r4)
    (∃ uf, Cell I1'' S1_r4 ⟨b27, 0, none⟩ (.int .i64 uf) ∧
    ∃ ug, Cell I1'' S1_r4 ⟨b27, 1, none⟩ (.string ug) ∧
    ∃ uh, Cell I1'' S1_r4 ⟨b27, 2, none⟩ (.string uh) ∧
    ∃ ui, Cell I1'' S1_r4 ⟨b27, 3, none⟩ (.int .i64 ui) ∧
    ∃ uj, Cell I1'' S1_r4 ⟨b30, 0, none⟩ (.int .i64 uj) ∧
    ∃ uk, Cell I1'' S1_r4 ⟨b30, 1, none⟩ (.string uk) ∧
    ∃ ul, Cell I1'' S1_r4 ⟨b30, 2, none⟩ (.string ul) ∧
    ∃ um, Cell I1'' S1_r4 ⟨b30, 3, none⟩ (.int .i64 um) ∧
    bcase (!(((uf : Int) == (uj : Int)) && (((ug : ByteArray) == (uk : ByteArray)) && ((((uh : ByteArray) == (ul : ByteArray)) && (((ui : Int) == (um : Int)) && true)) && true))))
      (bolterlaw17_IndexScript_b22 g3 g8 g20 R x1 x1n x1c x5 x6 x8 x15 x36 x36n x36c x37 x38 x87 x87n x87c x88 x89 x151 x151n x151c x152 x153 true I1'' S1_r4)
      (bolterlaw17_IndexScript_b22 g3 g8 g20 R x1 x1n x1c x5 x6 x8 x15 x36 x36n x36c x37 x38 x87 x87n x87c x88 x89 x151 x151n x151c x152 x153 (!(u7 == ue)) I1'' S1_r4))
def bolterlaw17_IndexScript_b24 (g3 : bolterlaw17_IndexScript_t3) (g8 : bolterlaw17_IndexScript_t8) (R : RT) (x1 : OA) (x1n x1c : Nat) (x5 : OA) (x6 : Option Nat) (x8 : Addr) (x36 : OA) (x36n x36c : Nat) (x37 x38 : Int) (x87 : OA) (x87n x87c : Nat) (x88 x89 : Int) (I : IMem) (S : SH) : Prop :=
  g8 x1 x1n x1c x5 x6 x8 x36 x36n x36c x37 x38 x87 x87n x87c x88 (IntKind.wrap .i64 (x89 + (1 : Int))) I S
def bolterlaw17_IndexScript_l20 (g3 : bolterlaw17_IndexScript_t3) (g8 : bolterlaw17_IndexScript_t8) (g20 : bolterlaw17_IndexScript_t20) (R : RT) (x1 : OA) (x1n x1c : Nat) (x5 : OA) (x6 : Option Nat) (x8 : Addr) (x15 : ByteArray) (x36 : OA) (x36n x36c : Nat) (x37 x38 : Int) (x87 : OA) (x87n x87c : Nat) (x88 x89 : Int) (x151 : OA) (x151n x151c : Nat) (x152 x153 : Int) (I : IMem) (S : SH) : Prop :=
  bcase (decide (x153 < x152))
    (bolterlaw17_IndexScript_b21 g3 g8 g20 R x1 x1n x1c x5 x6 x8 x15 x36 x36n x36c x37 x38 x87 x87n x87c x88 x89 x151 x151n x151c x152 x153 I S)
    (bolterlaw17_IndexScript_b24 g3 g8 R x1 x1n x1c x5 x6 x8 x36 x36n x36c x37 x38 x87 x87n x87c x88 x89 I S)
def bolterlaw17_IndexScript_b19 (g3 : bolterlaw17_IndexScript_t3) (g8 : bolterlaw17_IndexScript_t8) (R : RT) (x1 : OA) (x1n x1c : Nat) (x5 : OA) (x6 : Option Nat) (x8 : Addr) (x15 : ByteArray) (x36 : OA) (x36n x36c : Nat) (x37 x38 : Int) (x87 : OA) (x87n x87c : Nat) (x88 x89 : Int) (x151 : OA) (x151n x151c : Nat) (x152 x153 : Int) (I : IMem) (S : SH) : Prop :=
  ∃ (Inv : Nat → bolterlaw17_IndexScript_t20) (m : Nat), Inv m x1 x1n x1c x5 x6 x8 x15 x36 x36n x36c x37 x38 x87 x87n x87c x88 x89 x151 x151n x151c x152 x153 I S ∧
    ∀ (m : Nat) (x1 : OA) (x1n x1c : Nat) (x5 : OA) (x6 : Option Nat) (x8 : Addr) (x15 : ByteArray) (x36 : OA) (x36n x36c : Nat) (x37 x38 : Int) (x87 : OA) (x87n x87c : Nat) (x88 x89 : Int) (x151 : OA) (x151n x151c : Nat) (x152 x153 : Int) (J : IMem) (T : SH), I.le J → Inv m x1 x1n x1c x5 x6 x8 x15 x36 x36n x36c x37 x38 x87 x87n x87c x88 x89 x151 x151n x151c x152 x153 J T →
      bolterlaw17_IndexScript_l20 g3 g8 (fun x1 x1n x1c x5 x6 x8 x15 x36 x36n x36c x37 x38 x87 x87n x87c x88 x89 x151 x151n x151c x152 x153 I S => ∃ m', m' < m ∧ Inv m' x1 x1n x1c x5 x6 x8 x15 x36 x36n x36c x37 x38 x87 x87n x87c x88 x89 x151 x151n x151c x152 x153 I S) R x1 x1n x1c x5 x6 x8 x15 x36 x36n x36c x37 x38 x87 x87n x87c x88 x89 x151 x151n x151c x152 x153 J T
def bolterlaw17_IndexScript_b18 (g3 : bolterlaw17_IndexScript_t3) (g8 : bolterlaw17_IndexScript_t8) (R : RT) (x1 : OA) (x1n x1c : Nat) (x5 : OA) (x6 : Option Nat) (x8 : Addr) (x15 : ByteArray) (x36 : OA) (x36n x36c : Nat) (x37 x38 : Int) (x87 : OA) (x87n x87c : Nat) (x88 x89 : Int) (I : IMem) (S : SH) : Prop :=
  ∀ b151 : Nat,
  bolterlaw17_IndexScript_b19 g3 g8 R x1 x1n x1c x5 x6 x8 x15 x36 x36n x36c x37 x38 x87 x87n x87c x88 x89 (some ⟨b151, 0, none⟩) 3 3 (3 : Int) 0 I ((b151, .cells #[.int .i64 0, .int .i64 3, .int .i64 6] 30 (0, 0)) :: S)
def bolterlaw17_IndexScript_l14 (g3 : bolterlaw17_IndexScript_t3) (g8 : bolterlaw17_IndexScript_t8) (g14 : bolterlaw17_IndexScript_t14) (R : RT) (x1 : OA) (x1n x1c : Nat) (x5 : OA) (x6 : Option Nat) (x8 : Addr) (x14 x15 : ByteArray) (x36 : OA) (x36n x36c : Nat) (x37 x38 : Int) (x87 : OA) (x87n x87c : Nat) (x88 x89 : Int) (x108 : OA) (x108n x108c : Nat) (x109 x110 : Int) (I : IMem) (S : SH) : Prop :=
  bcase (decide (x110 < x109))
    (bolterlaw17_IndexScript_b15 g3 g8 g14 R x1 x1n x1c x5 x6 x8 x14 x15 x36 x36n x36c x37 x38 x87 x87n x87c x88 x89 x108 x108n x108c x109 x110 I S)
    (bolterlaw17_IndexScript_b18 g3 g8 R x1 x1n x1c x5 x6 x8 x15 x36 x36n x36c x37 x38 x87 x87n x87c x88 x89 I S)
def bolterlaw17_IndexScript_b13 (g3 : bolterlaw17_IndexScript_t3) (g8 : bolterlaw17_IndexScript_t8) (R : RT) (x1 : OA) (x1n x1c : Nat) (x5 : OA) (x6 : Option Nat) (x8 : Addr) (x14 x15 : ByteArray) (x36 : OA) (x36n x36c : Nat) (x37 x38 : Int) (x87 : OA) (x87n x87c : Nat) (x88 x89 : Int) (x108 : OA) (x108n x108c : Nat) (x109 x110 : Int) (I : IMem) (S : SH) : Prop :=
  ∃ (Inv : Nat → bolterlaw17_IndexScript_t14) (m : Nat), Inv m x1 x1n x1c x5 x6 x8 x14 x15 x36 x36n x36c x37 x38 x87 x87n x87c x88 x89 x108 x108n x108c x109 x110 I S ∧
    ∀ (m : Nat) (x1 : OA) (x1n x1c : Nat) (x5 : OA) (x6 : Option Nat) (x8 : Addr) (x14 x15 : ByteArray) (x36 : OA) (x36n x36c : Nat) (x37 x38 : Int) (x87 : OA) (x87n x87c : Nat) (x88 x89 : Int) (x108 : OA) (x108n x108c : Nat) (x109 x110 : Int) (J : IMem) (T : SH), I.le J → Inv m x1 x1n x1c x5 x6 x8 x14 x15 x36 x36n x36c x37 x38 x87 x87n x87c x88 x89 x108 x108n x108c x109 x110 J T →
      bolterlaw17_IndexScript_l14 g3 g8 (fun x1 x1n x1c x5 x6 x8 x14 x15 x36 x36n x36c x37 x38 x87 x87n x87c x88 x89 x108 x108n x108c x109 x110 I S => ∃ m', m' < m ∧ Inv m' x1 x1n x1c x5 x6 x8 x14 x15 x36 x36n x36c x37 x38 x87 x87n x87c x88 x89 x108 x108n x108c x109 x110 I S) R x1 x1n x1c x5 x6 x8 x14 x15 x36 x36n x36c x37 x38 x87 x87n x87c x88 x89 x108 x108n x108c x109 x110 J T
def bolterlaw17_IndexScript_b12 (g3 : bolterlaw17_IndexScript_t3) (g8 : bolterlaw17_IndexScript_t8) (R : RT) (x1 : OA) (x1n x1c : Nat) (x5 : OA) (x6 : Option Nat) (x8 : Addr) (x14 x15 : ByteArray) (x36 : OA) (x36n x36c : Nat) (x37 x38 : Int) (x87 : OA) (x87n x87c : Nat) (x88 x89 : Int) (I : IMem) (S : SH) : Prop :=
  ∀ b108 : Nat,
  bolterlaw17_IndexScript_b13 g3 g8 R x1 x1n x1c x5 x6 x8 x14 x15 x36 x36n x36c x37 x38 x87 x87n x87c x88 x89 (some ⟨b108, 0, none⟩) 2 2 (2 : Int) 0 I ((b108, .cells #[.int .i64 1, .int .i64 2, .int .i64 4, .int .i64 5] 43 (0, 0)) :: S)
def bolterlaw17_IndexScript_b11 (g3 : bolterlaw17_IndexScript_t3) (g8 : bolterlaw17_IndexScript_t8) (R : RT) (x1 : OA) (x1n x1c : Nat) (x5 : OA) (x6 : Option Nat) (x8 x13 : Addr) (x14 : ByteArray) (x36 : OA) (x36n x36c : Nat) (x37 x38 : Int) (x87 : OA) (x87n x87c : Nat) (x88 x89 : Int) (I : IMem) (S : SH) : Prop :=
  ∃ u0, Cell I S (x13.add 3) (.bool u0) ∧
  ∃ u1 u1n u1c, Cell I S (x13.add 2) (.slice u1 u1n u1c) ∧
  Runs Tryz.prog 11 #[.bool u0, .slice u1 u1n u1c] I S fun v I1 S1 => ∃ u2, v = .string u2 ∧
  bolterlaw17_IndexScript_b12 g3 g8 R x1 x1n x1c x5 x6 x8 x14 u2 x36 x36n x36c x37 x38 x87 x87n x87c x88 x89 I1 S1
def bolterlaw17_IndexScript_b10 (g3 : bolterlaw17_IndexScript_t3) (g8 : bolterlaw17_IndexScript_t8) (R : RT) (x1 : OA) (x1n x1c : Nat) (x5 : OA) (x6 : Option Nat) (x8 x13 : Addr) (x36 : OA) (x36n x36c : Nat) (x37 x38 : Int) (x87 : OA) (x87n x87c : Nat) (x88 x89 : Int) (I : IMem) (S : SH) : Prop :=
  ∃ F1 : SH, Keep I F1 I S ∧
  ∃ u0 u0n u0c, Cell I F1 (x13.add 2) (.slice u0 u0n u0c) ∧
  ∃ u1 u1n u1c, Cell I F1 (x8.add 2) (.slice u1 u1n u1c) ∧
  AppG 5 1 1 [.int .u8 0] (some (.slice 5)) I S (.slice none 0 0) (.slice u0 u0n u0c) fun u2 u2n u2c S1 =>
  Keep I F1 I S1 ∧
  AppG 5 1 1 [.int .u8 0] (some (.slice 5)) I S1 (.slice u2 u2n u2c) (.slice u1 u1n u1c) fun u3 u3n u3c S1' =>
  Runs Tryz.prog 10 #[.int .u8 1, .slice u3 u3n u3c, .bool false, .int .u8 0] I S1' fun v I1 S1'' => ∃ u4 u5 u6 u7, v = .agg #[.int .i64 u4, .string u5, .string u6, .int .i64 u7] ∧
  bolterlaw17_IndexScript_b11 g3 g8 R x1 x1n x1c x5 x6 x8 x13 u5 x36 x36n x36c x37 x38 x87 x87n x87c x88 x89 I1 S1''
def bolterlaw17_IndexScript_b9 (g3 : bolterlaw17_IndexScript_t3) (g8 : bolterlaw17_IndexScript_t8) (R : RT) (x1 : OA) (x1n x1c : Nat) (x5 : OA) (x6 : Option Nat) (x8 : Addr) (x36 : OA) (x36n x36c : Nat) (x37 x38 : Int) (x87 : OA) (x87n x87c : Nat) (x88 x89 : Int) (I : IMem) (S : SH) : Prop :=
  ptrP x87 fun u0 => (0 : Int) ≤ x89 ∧ x89 < (x87n : Int) ∧
  ∃ u1, Cell I S (u0.add (x89.toNat * 6)) (.int .u8 u1) ∧
  ∃ u2, Cell I S ((u0.add (x89.toNat * 6)).add 1) (.int .u8 u2) ∧
  ∃ u3 u3n u3c, Cell I S ((u0.add (x89.toNat * 6)).add 2) (.slice u3 u3n u3c) ∧
  ∃ u4, Cell I S ((u0.add (x89.toNat * 6)).add 3) (.bool u4) ∧
  ∃ u5, Cell I S ((u0.add (x89.toNat * 6)).add 4) (.int .u8 u5) ∧
  ∃ u6, Cell I S ((u0.add (x89.toNat * 6)).add 5) (.int .i64 u6) ∧
  ∀ b13 : Nat,
  StP ((b13, .cells #[.int .u8 0, .int .u8 0, .slice none 0 0, .bool false, .int .u8 0, .int .i64 0] 29 (0, 0)) :: S) ⟨b13, 0, none⟩ [.int .u8 u1, .int .u8 u2, .slice u3 u3n u3c, .bool u4, .int .u8 u5, .int .i64 u6] fun S1 =>
  bolterlaw17_IndexScript_b10 g3 g8 R x1 x1n x1c x5 x6 x8 ⟨b13, 0, none⟩ x36 x36n x36c x37 x38 x87 x87n x87c x88 x89 I S1
def bolterlaw17_IndexScript_b25 (g3 : bolterlaw17_IndexScript_t3) (R : RT) (x1 : OA) (x1n x1c : Nat) (x5 : OA) (x6 : Option Nat) (x36 : OA) (x36n x36c : Nat) (x37 x38 : Int) (I : IMem) (S : SH) : Prop :=
  g3 x1 x1n x1c x5 x6 x36 x36n x36c x37 (IntKind.wrap .i64 (x38 + (1 : Int))) I S
def bolterlaw17_IndexScript_l8 (g3 : bolterlaw17_IndexScript_t3) (g8 : bolterlaw17_IndexScript_t8) (R : RT) (x1 : OA) (x1n x1c : Nat) (x5 : OA) (x6 : Option Nat) (x8 : Addr) (x36 : OA) (x36n x36c : Nat) (x37 x38 : Int) (x87 : OA) (x87n x87c : Nat) (x88 x89 : Int) (I : IMem) (S : SH) : Prop :=
  bcase (decide (x89 < x88))
    (bolterlaw17_IndexScript_b9 g3 g8 R x1 x1n x1c x5 x6 x8 x36 x36n x36c x37 x38 x87 x87n x87c x88 x89 I S)
    (bolterlaw17_IndexScript_b25 g3 R x1 x1n x1c x5 x6 x36 x36n x36c x37 x38 I S)
def bolterlaw17_IndexScript_b7 (g3 : bolterlaw17_IndexScript_t3) (R : RT) (x1 : OA) (x1n x1c : Nat) (x5 : OA) (x6 : Option Nat) (x8 : Addr) (x36 : OA) (x36n x36c : Nat) (x37 x38 : Int) (x87 : OA) (x87n x87c : Nat) (x88 x89 : Int) (I : IMem) (S : SH) : Prop :=
  ∃ (Inv : Nat → bolterlaw17_IndexScript_t8) (m : Nat), Inv m x1 x1n x1c x5 x6 x8 x36 x36n x36c x37 x38 x87 x87n x87c x88 x89 I S ∧
    ∀ (m : Nat) (x1 : OA) (x1n x1c : Nat) (x5 : OA) (x6 : Option Nat) (x8 : Addr) (x36 : OA) (x36n x36c : Nat) (x37 x38 : Int) (x87 : OA) (x87n x87c : Nat) (x88 x89 : Int) (J : IMem) (T : SH), I.le J → Inv m x1 x1n x1c x5 x6 x8 x36 x36n x36c x37 x38 x87 x87n x87c x88 x89 J T →
      bolterlaw17_IndexScript_l8 g3 (fun x1 x1n x1c x5 x6 x8 x36 x36n x36c x37 x38 x87 x87n x87c x88 x89 I S => ∃ m', m' < m ∧ Inv m' x1 x1n x1c x5 x6 x8 x36 x36n x36c x37 x38 x87 x87n x87c x88 x89 I S) R x1 x1n x1c x5 x6 x8 x36 x36n x36c x37 x38 x87 x87n x87c x88 x89 J T
def bolterlaw17_IndexScript_b6 (g3 : bolterlaw17_IndexScript_t3) (R : RT) (x1 : OA) (x1n x1c : Nat) (x5 : OA) (x6 : Option Nat) (x8 : Addr) (x36 : OA) (x36n x36c : Nat) (x37 x38 : Int) (I : IMem) (S : SH) : Prop :=
  (0 : Int) ≤ (if (6 : Int) < (x1n : Int) then (6 : Int) else (x1n : Int)) ∧ (if (6 : Int) < (x1n : Int) then (6 : Int) else (x1n : Int)) ≤ ((x1c : Nat) : Int) ∧
  (0 : Int) ≤ (if (6 : Int) < (x1n : Int) then (6 : Int) else (x1n : Int)) ∧ (if (6 : Int) < (x1n : Int) then (6 : Int) else (x1n : Int)) ≤ (((if (6 : Int) < (x1n : Int) then (6 : Int) else (x1n : Int)).toNat : Nat) : Int) ∧
  ∃ u7, Cell I S x8 (.int .u8 u7) ∧
  ∃ u8, Cell I S (x8.add 1) (.int .u8 u8) ∧
  ∃ u9 u9n u9c, Cell I S (x8.add 2) (.slice u9 u9n u9c) ∧
  ∃ ua, Cell I S (x8.add 3) (.bool ua) ∧
  ∃ ub, Cell I S (x8.add 4) (.int .u8 ub) ∧
  ∃ uc, Cell I S (x8.add 5) (.int .i64 uc) ∧
  ∀ b86' : Nat,
  AppG 29 6 48 [.int .u8 0, .int .u8 0, .slice none 0 0, .bool false, .int .u8 0, .int .i64 0] (some (.slice 29)) I ((b86', .cells #[.int .u8 u7, .int .u8 u8, .slice u9 u9n u9c, .bool ua, .int .u8 ub, .int .i64 uc] 29 (0, 0)) :: S) (.slice (slA x1 ((if (6 : Int) < (x1n : Int) then (6 : Int) else (x1n : Int)).toNat) 0 6) ((if (6 : Int) < (x1n : Int) then (6 : Int) else (x1n : Int)).toNat - 0) ((if (6 : Int) < (x1n : Int) then (6 : Int) else (x1n : Int)).toNat - 0)) (.slice (some ⟨b86', 0, none⟩) 1 1) fun ud udn udc S1' =>
  bolterlaw17_IndexScript_b7 g3 R x1 x1n x1c x5 x6 x8 x36 x36n x36c x37 x38 ud udn udc (udn : Int) 0 I S1'
def bolterlaw17_IndexScript_b5 (g3 : bolterlaw17_IndexScript_t3) (R : RT) (x1 : OA) (x1n x1c : Nat) (x5 : OA) (x6 : Option Nat) (x8 : Addr) (x36 : OA) (x36n x36c : Nat) (x37 x38 : Int) (I : IMem) (S : SH) : Prop :=
  Runs Tryz.prog 9 #[.pointer x5] I S fun v I1 S1 => ∃ u0, v = .int .i64 u0 ∧
  ∃ u1 : Nat, MapLen I1 S1 x6 u1 ∧
  bcase (u0 != (u1 : Int))
    (R (.bool false) I1 S1)
    (bolterlaw17_IndexScript_b6 g3 R x1 x1n x1c x5 x6 x8 x36 x36n x36c x37 x38 I1 S1)
def bolterlaw17_IndexScript_b4 (g3 : bolterlaw17_IndexScript_t3) (R : RT) (x1 : OA) (x1n x1c : Nat) (x5 : OA) (x6 : Option Nat) (x36 : OA) (x36n x36c : Nat) (x37 x38 : Int) (I : IMem) (S : SH) : Prop :=
  ptrP x36 fun u0 => (0 : Int) ≤ x38 ∧ x38 < (x36n : Int) ∧
  ∃ u1, Cell I S (u0.add (x38.toNat * 6)) (.int .u8 u1) ∧
  ∃ u2, Cell I S ((u0.add (x38.toNat * 6)).add 1) (.int .u8 u2) ∧
  ∃ u3 u3n u3c, Cell I S ((u0.add (x38.toNat * 6)).add 2) (.slice u3 u3n u3c) ∧
  ∃ u4, Cell I S ((u0.add (x38.toNat * 6)).add 3) (.bool u4) ∧
  ∃ u5, Cell I S ((u0.add (x38.toNat * 6)).add 4) (.int .u8 u5) ∧
  ∃ u6, Cell I S ((u0.add (x38.toNat * 6)).add 5) (.int .i64 u6) ∧
  ∀ b8 : Nat,
  StP ((b8, .cells #[.int .u8 0, .int .u8 0, .slice none 0 0, .bool false, .int .u8 0, .int .i64 0] 29 (0, 0)) :: S) ⟨b8, 0, none⟩ [.int .u8 u1, .int .u8 u2, .slice u3 u3n u3c, .bool u4, .int .u8 u5, .int .i64 u6] fun S1 =>
  ∃ u7, Cell I S1 ⟨b8, 0, none⟩ (.int .u8 u7) ∧
  ∃ u8, Cell I S1 ⟨b8, 1, none⟩ (.int .u8 u8) ∧
  ∃ u9 u9n u9c, Cell I S1 ⟨b8, 2, none⟩ (.slice u9 u9n u9c) ∧
  ∃ ua, Cell I S1 ⟨b8, 3, none⟩ (.bool ua) ∧
  ∃ ub, Cell I S1 ⟨b8, 4, none⟩ (.int .u8 ub) ∧
  ∃ uc, Cell I S1 ⟨b8, 5, none⟩ (.int .i64 uc) ∧
  Runs Tryz.prog 6 #[.agg #[.int .u8 u7, .int .u8 u8, .slice u9 u9n u9c, .bool ua, .int .u8 ub, .int .i64 uc]] I S1 fun v I1 S1' => ∃ ud ue uf ug, v = .agg #[.int .i64 ud, .string ue, .string uf, .int .i64 ug] ∧
  ∀ b9 : Nat,
  StP ((b9, .cells #[.int .i64 0, .string ⟨#[]⟩, .string ⟨#[]⟩, .int .i64 0] 35 (0, 0)) :: S1') ⟨b9, 0, none⟩ [.int .i64 ud, .string ue, .string uf, .int .i64 ug] fun S1'' =>
  ∃ uh, Cell I1 S1'' ⟨b9, 0, none⟩ (.int .i64 uh) ∧
  ∃ ui, Cell I1 S1'' ⟨b9, 1, none⟩ (.string ui) ∧
  ∃ uj, Cell I1 S1'' ⟨b9, 2, none⟩ (.string uj) ∧
  ∃ uk, Cell I1 S1'' ⟨b9, 3, none⟩ (.int .i64 uk) ∧
  ∃ ul, ∃ um : Bool, MapAtS Tryz.prog 35 I1 S1'' x6 (.agg #[.int .i64 uh, .string ui, .string uj, .int .i64 uk]) (.int .i64 0) (.int .i64 ul) um ∧
  ∃ un, Cell I1 S1'' ⟨b8, 0, none⟩ (.int .u8 un) ∧
  bcase ((un.tmod (3 : Int)) == (2 : Int))
    (∃ uo, Cell I1 S1'' ⟨b9, 0, none⟩ (.int .i64 uo) ∧
    ∃ up, Cell I1 S1'' ⟨b9, 1, none⟩ (.string up) ∧
    ∃ uq, Cell I1 S1'' ⟨b9, 2, none⟩ (.string uq) ∧
    ∃ ur, Cell I1 S1'' ⟨b9, 3, none⟩ (.int .i64 ur) ∧
    Runs Tryz.prog 7 #[.pointer x5, .agg #[.int .i64 uo, .string up, .string uq, .int .i64 ur]] I1 S1'' fun v' I1' S1_r3 => ∃ us, v' = .bool us ∧
    bcase (!(us == um))
      (R (.bool false) I1' S1_r3)
      (∃ ut, Cell I1' S1_r3 ⟨b9, 0, none⟩ (.int .i64 ut) ∧
      ∃ uu, Cell I1' S1_r3 ⟨b9, 1, none⟩ (.string uu) ∧
      ∃ uv, Cell I1' S1_r3 ⟨b9, 2, none⟩ (.string uv) ∧
      ∃ uw, Cell I1' S1_r3 ⟨b9, 3, none⟩ (.int .i64 uw) ∧
      MapDlS Tryz.prog 35 S1_r3 x6 (.agg #[.int .i64 ut, .string uu, .string uv, .int .i64 uw]) fun S1_r4 =>
      bolterlaw17_IndexScript_b5 g3 R x1 x1n x1c x5 x6 ⟨b8, 0, none⟩ x36 x36n x36c x37 x38 I1' S1_r4))
    (∃ ux, Cell I1 S1'' ⟨b9, 0, none⟩ (.int .i64 ux) ∧
    ∃ uy, Cell I1 S1'' ⟨b9, 1, none⟩ (.string uy) ∧
    ∃ uz, Cell I1 S1'' ⟨b9, 2, none⟩ (.string uz) ∧
    ∃ u10, Cell I1 S1'' ⟨b9, 3, none⟩ (.int .i64 u10) ∧
    ∃ u11, Cell I1 S1'' ⟨b8, 5, none⟩ (.int .i64 u11) ∧
    Runs Tryz.prog 8 #[.pointer x5, .agg #[.int .i64 ux, .string uy, .string uz, .int .i64 u10], .int .i64 u11] I1 S1'' fun v'' I1'' S1_r5 => ∃ u12, v'' = .bool u12 ∧
    bcase (u12 == um)
      (R (.bool false) I1'' S1_r5)
      (∃ u13, Cell I1'' S1_r5 ⟨b9, 0, none⟩ (.int .i64 u13) ∧
      ∃ u14, Cell I1'' S1_r5 ⟨b9, 1, none⟩ (.string u14) ∧
      ∃ u15, Cell I1'' S1_r5 ⟨b9, 2, none⟩ (.string u15) ∧
      ∃ u16, Cell I1'' S1_r5 ⟨b9, 3, none⟩ (.int .i64 u16) ∧
      ∃ u17, Cell I1'' S1_r5 ⟨b8, 5, none⟩ (.int .i64 u17) ∧
      MapStS Tryz.prog 35 S1_r5 x6 (.agg #[.int .i64 u13, .string u14, .string u15, .int .i64 u16]) (.int .i64 u17) fun S1_r6 =>
      bolterlaw17_IndexScript_b5 g3 R x1 x1n x1c x5 x6 ⟨b8, 0, none⟩ x36 x36n x36c x37 x38 I1'' S1_r6))
def bolterlaw17_IndexScript_b26 (R : RT) (I : IMem) (S : SH) : Prop :=
  R (.bool true) I S
def bolterlaw17_IndexScript_l3 (g3 : bolterlaw17_IndexScript_t3) (R : RT) (x1 : OA) (x1n x1c : Nat) (x5 : OA) (x6 : Option Nat) (x36 : OA) (x36n x36c : Nat) (x37 x38 : Int) (I : IMem) (S : SH) : Prop :=
  bcase (decide (x38 < x37))
    (bolterlaw17_IndexScript_b4 g3 R x1 x1n x1c x5 x6 x36 x36n x36c x37 x38 I S)
    (bolterlaw17_IndexScript_b26 R I S)
def bolterlaw17_IndexScript_b2 (R : RT) (x1 : OA) (x1n x1c : Nat) (x5 : OA) (x6 : Option Nat) (x36 : OA) (x36n x36c : Nat) (x37 x38 : Int) (I : IMem) (S : SH) : Prop :=
  ∃ (Inv : Nat → bolterlaw17_IndexScript_t3) (m : Nat), Inv m x1 x1n x1c x5 x6 x36 x36n x36c x37 x38 I S ∧
    ∀ (m : Nat) (x1 : OA) (x1n x1c : Nat) (x5 : OA) (x6 : Option Nat) (x36 : OA) (x36n x36c : Nat) (x37 x38 : Int) (J : IMem) (T : SH), I.le J → Inv m x1 x1n x1c x5 x6 x36 x36n x36c x37 x38 J T →
      bolterlaw17_IndexScript_l3 (fun x1 x1n x1c x5 x6 x36 x36n x36c x37 x38 I S => ∃ m', m' < m ∧ Inv m' x1 x1n x1c x5 x6 x36 x36n x36c x37 x38 I S) R x1 x1n x1c x5 x6 x36 x36n x36c x37 x38 J T
def bolterlaw17_IndexScript_b1 (R : RT) (x0 : OA) (x0n x0c : Nat) (x1 : OA) (x1n x1c : Nat) (x5 : OA) (x6 : Option Nat) (I : IMem) (S : SH) : Prop :=
  bolterlaw17_IndexScript_b2 R x1 x1n x1c x5 x6 x0 x0n x0c (x0n : Int) 0 I S
def bolterlaw17_IndexScript (R : RT) (u0 : OA) (u0n u0c : Nat) (u1 : OA) (u1n u1c : Nat) (I : IMem) (S : SH) : Prop :=
  Runs Tryz.prog 4 #[] I S fun v I1 S1 => ∃ u2, v = .bool u2 ∧
  bcase (!u2)
    (R (.bool false) I1 S1)
    (Runs Tryz.prog 5 #[] I1 S1 fun v' I1' S1' => ∃ u3, v' = .pointer u3 ∧
    ∀ u4 : Nat,
    bolterlaw17_IndexScript_b1 R u0 u0n u0c u1 u1n u1c u3 (some u4) I1' ((u4, .map #[] 0) :: S1'))
theorem bolterlaw17_IndexScript_fn (R : RT) (u0 : OA) (u0n u0c : Nat) (u1 : OA) (u1n u1c : Nat) (I : IMem) (S : SH) (h : bolterlaw17_IndexScript R u0 u0n u0c u1 u1n u1c I S) : Runs Tryz.prog 3 #[.slice u0 u0n u0c, .slice u1 u1n u1c] I S R := by
  refine Runs.of_wp (c := cd Tryz.f3) Tryz.func3 (by kernel_rfl) (by kernel_rfl) ?_
  refine cO 4 [kL 0, kL 1, kP 5, kM 6] (bolterlaw17_IndexScript_b1 R) h fun _ _ _ _ _ _ _ _ _ _ _ _ h => ?_
  refine sO [] (bolterlaw17_IndexScript_b26 R) ?_ fun _ _ _ _ h => ?_
  · refine cO 1 [kL 1, kP 5, kM 6, kL 36, kI .i64 37, kI .i64 38] (bolterlaw17_IndexScript_b2 R) h fun _ _ _ _ _ _ _ _ _ _ _ _ _ _ h => ?_
    refine bK ?_
    obtain ⟨Vg3, mg3, h, hr⟩ := h
    refine lO [kL 1, kP 5, kM 6, kL 36, kI .i64 37, kI .i64 38] Vg3 mg3 h fun mg3 _ I S hle x1 x1n x1c x5 x6 x36 x36n x36c x37 x38 h => ?_
    have h := hr mg3 x1 x1n x1c x5 x6 x36 x36n x36c x37 x38 I S hle h
    refine cO 2 [kL 1, kP 5, kM 6, kL 36, kI .i64 37, kI .i64 38] (bolterlaw17_IndexScript_b4 (fun x1 x1n x1c x5 x6 x36 x36n x36c x37 x38 I S => ∃ m', m' < mg3 ∧ Vg3 m' x1 x1n x1c x5 x6 x36 x36n x36c x37 x38 I S) R) h fun _ _ _ _ _ _ _ _ _ _ _ _ _ _ h => ?_
    refine sO [kL 1, kP 5, kM 6, kL 36, kI .i64 37, kI .i64 38] (bolterlaw17_IndexScript_b25 (fun x1 x1n x1c x5 x6 x36 x36n x36c x37 x38 I S => ∃ m', m' < mg3 ∧ Vg3 m' x1 x1n x1c x5 x6 x36 x36n x36c x37 x38 I S) R) ?_ fun _ _ _ _ _ _ _ _ _ _ _ _ _ _ h => ?_
    · refine bK ?_
      refine cO 4 [kL 1, kP 5, kM 6, kA 8, kL 36, kI .i64 37, kI .i64 38] (bolterlaw17_IndexScript_b5 (fun x1 x1n x1c x5 x6 x36 x36n x36c x37 x38 I S => ∃ m', m' < mg3 ∧ Vg3 m' x1 x1n x1c x5 x6 x36 x36n x36c x37 x38 I S) R) h fun _ _ _ _ _ _ _ _ _ _ _ _ _ _ _ h => ?_
      refine cO 1 [kL 1, kP 5, kM 6, kA 8, kL 36, kI .i64 37, kI .i64 38] (bolterlaw17_IndexScript_b6 (fun x1 x1n x1c x5 x6 x36 x36n x36c x37 x38 I S => ∃ m', m' < mg3 ∧ Vg3 m' x1 x1n x1c x5 x6 x36 x36n x36c x37 x38 I S) R) h fun _ _ _ _ _ _ _ _ _ _ _ _ _ _ _ h => ?_
      refine sO [kL 1, kP 5, kM 6, kA 8, kL 36, kI .i64 37, kI .i64 38, kL 87, kI .i64 88, kI .i64 89] (bolterlaw17_IndexScript_b7 (fun x1 x1n x1c x5 x6 x36 x36n x36c x37 x38 I S => ∃ m', m' < mg3 ∧ Vg3 m' x1 x1n x1c x5 x6 x36 x36n x36c x37 x38 I S) R) (dR (tk 9 0 (.take 12 (.step 9 (.step 10 (.take 11 .done))))) [9, 10] h) fun _ _ _ _ _ _ _ _ _ _ _ _ _ _ _ _ _ _ _ _ h => ?_
      refine bK ?_
      obtain ⟨Vg8, mg8, h, hr⟩ := h
      refine lO [kL 1, kP 5, kM 6, kA 8, kL 36, kI .i64 37, kI .i64 38, kL 87, kI .i64 88, kI .i64 89] Vg8 mg8 h fun mg8 _ I S hle x1 x1n x1c x5 x6 x8 x36 x36n x36c x37 x38 x87 x87n x87c x88 x89 h => ?_
      have h := hr mg8 x1 x1n x1c x5 x6 x8 x36 x36n x36c x37 x38 x87 x87n x87c x88 x89 I S hle h
      refine cO 2 [kL 1, kP 5, kM 6, kA 8, kL 36, kI .i64 37, kI .i64 38, kL 87, kI .i64 88, kI .i64 89] (bolterlaw17_IndexScript_b9 (fun x1 x1n x1c x5 x6 x36 x36n x36c x37 x38 I S => ∃ m', m' < mg3 ∧ Vg3 m' x1 x1n x1c x5 x6 x36 x36n x36c x37 x38 I S) (fun x1 x1n x1c x5 x6 x8 x36 x36n x36c x37 x38 x87 x87n x87c x88 x89 I S => ∃ m', m' < mg8 ∧ Vg8 m' x1 x1n x1c x5 x6 x8 x36 x36n x36c x37 x38 x87 x87n x87c x88 x89 I S) R) h fun _ _ _ _ _ _ _ _ _ _ _ _ _ _ _ _ _ _ _ _ h => ?_
      refine sO [kL 1, kP 5, kM 6, kA 8, kL 36, kI .i64 37, kI .i64 38, kL 87, kI .i64 88, kI .i64 89] (bolterlaw17_IndexScript_b24 (fun x1 x1n x1c x5 x6 x36 x36n x36c x37 x38 I S => ∃ m', m' < mg3 ∧ Vg3 m' x1 x1n x1c x5 x6 x36 x36n x36c x37 x38 I S) (fun x1 x1n x1c x5 x6 x8 x36 x36n x36c x37 x38 x87 x87n x87c x88 x89 I S => ∃ m', m' < mg8 ∧ Vg8 m' x1 x1n x1c x5 x6 x8 x36 x36n x36c x37 x38 x87 x87n x87c x88 x89 I S) R) ?_ fun _ _ _ _ _ _ _ _ _ _ _ _ _ _ _ _ _ _ _ _ h => ?_
      · refine bK ?_
        refine cO 1 [kL 1, kP 5, kM 6, kA 8, kA 13, kL 36, kI .i64 37, kI .i64 38, kL 87, kI .i64 88, kI .i64 89] (bolterlaw17_IndexScript_b10 (fun x1 x1n x1c x5 x6 x36 x36n x36c x37 x38 I S => ∃ m', m' < mg3 ∧ Vg3 m' x1 x1n x1c x5 x6 x36 x36n x36c x37 x38 I S) (fun x1 x1n x1c x5 x6 x8 x36 x36n x36c x37 x38 x87 x87n x87c x88 x89 I S => ∃ m', m' < mg8 ∧ Vg8 m' x1 x1n x1c x5 x6 x8 x36 x36n x36c x37 x38 x87 x87n x87c x88 x89 I S) R) h fun _ _ _ _ _ _ _ _ _ _ _ _ _ _ _ _ _ _ _ _ _ h => ?_
        refine sO [kL 1, kP 5, kM 6, kA 8, kA 13, kS 14, kL 36, kI .i64 37, kI .i64 38, kL 87, kI .i64 88, kI .i64 89] (bolterlaw17_IndexScript_b11 (fun x1 x1n x1c x5 x6 x36 x36n x36c x37 x38 I S => ∃ m', m' < mg3 ∧ Vg3 m' x1 x1n x1c x5 x6 x36 x36n x36c x37 x38 I S) (fun x1 x1n x1c x5 x6 x8 x36 x36n x36c x37 x38 x87 x87n x87c x88 x89 I S => ∃ m', m' < mg8 ∧ Vg8 m' x1 x1n x1c x5 x6 x8 x36 x36n x36c x37 x38 x87 x87n x87c x88 x89 I S) R) (dF (.take 0 (.take 1 (.take 3 (.take 4 (.step 2 (.step 5 (.step 6 (.take 7 (.take 8 .done))))))))) [2, 5, 6] h) fun _ _ _ _ _ _ _ _ _ _ _ _ _ _ _ _ _ _ _ _ _ _ h => ?_
        refine cO 1 [kL 1, kP 5, kM 6, kA 8, kS 14, kS 15, kL 36, kI .i64 37, kI .i64 38, kL 87, kI .i64 88, kI .i64 89] (bolterlaw17_IndexScript_b12 (fun x1 x1n x1c x5 x6 x36 x36n x36c x37 x38 I S => ∃ m', m' < mg3 ∧ Vg3 m' x1 x1n x1c x5 x6 x36 x36n x36c x37 x38 I S) (fun x1 x1n x1c x5 x6 x8 x36 x36n x36c x37 x38 x87 x87n x87c x88 x89 I S => ∃ m', m' < mg8 ∧ Vg8 m' x1 x1n x1c x5 x6 x8 x36 x36n x36c x37 x38 x87 x87n x87c x88 x89 I S) R) h fun _ _ _ _ _ _ _ _ _ _ _ _ _ _ _ _ _ _ _ _ _ _ h => ?_
        refine sO [kL 1, kP 5, kM 6, kA 8, kS 15, kL 36, kI .i64 37, kI .i64 38, kL 87, kI .i64 88, kI .i64 89] (bolterlaw17_IndexScript_b18 (fun x1 x1n x1c x5 x6 x36 x36n x36c x37 x38 I S => ∃ m', m' < mg3 ∧ Vg3 m' x1 x1n x1c x5 x6 x36 x36n x36c x37 x38 I S) (fun x1 x1n x1c x5 x6 x8 x36 x36n x36c x37 x38 x87 x87n x87c x88 x89 I S => ∃ m', m' < mg8 ∧ Vg8 m' x1 x1n x1c x5 x6 x8 x36 x36n x36c x37 x38 x87 x87n x87c x88 x89 I S) R) ?_ fun _ _ _ _ _ _ _ _ _ _ _ _ _ _ _ _ _ _ _ _ _ h => ?_
        · refine cO 1 [kL 1, kP 5, kM 6, kA 8, kS 14, kS 15, kL 36, kI .i64 37, kI .i64 38, kL 87, kI .i64 88, kI .i64 89, kL 108, kI .i64 109, kI .i64 110] (bolterlaw17_IndexScript_b13 (fun x1 x1n x1c x5 x6 x36 x36n x36c x37 x38 I S => ∃ m', m' < mg3 ∧ Vg3 m' x1 x1n x1c x5 x6 x36 x36n x36c x37 x38 I S) (fun x1 x1n x1c x5 x6 x8 x36 x36n x36c x37 x38 x87 x87n x87c x88 x89 I S => ∃ m', m' < mg8 ∧ Vg8 m' x1 x1n x1c x5 x6 x8 x36 x36n x36c x37 x38 x87 x87n x87c x88 x89 I S) R) h fun _ _ _ _ _ _ _ _ _ _ _ _ _ _ _ _ _ _ _ _ _ _ _ _ _ _ _ h => ?_
          refine bK ?_
          obtain ⟨Vg14, mg14, h, hr⟩ := h
          refine lO [kL 1, kP 5, kM 6, kA 8, kS 14, kS 15, kL 36, kI .i64 37, kI .i64 38, kL 87, kI .i64 88, kI .i64 89, kL 108, kI .i64 109, kI .i64 110] Vg14 mg14 h fun mg14 _ I S hle x1 x1n x1c x5 x6 x8 x14 x15 x36 x36n x36c x37 x38 x87 x87n x87c x88 x89 x108 x108n x108c x109 x110 h => ?_
          have h := hr mg14 x1 x1n x1c x5 x6 x8 x14 x15 x36 x36n x36c x37 x38 x87 x87n x87c x88 x89 x108 x108n x108c x109 x110 I S hle h
          refine cO 2 [kL 1, kP 5, kM 6, kA 8, kS 14, kS 15, kL 36, kI .i64 37, kI .i64 38, kL 87, kI .i64 88, kI .i64 89, kL 108, kI .i64 109, kI .i64 110] (bolterlaw17_IndexScript_b15 (fun x1 x1n x1c x5 x6 x36 x36n x36c x37 x38 I S => ∃ m', m' < mg3 ∧ Vg3 m' x1 x1n x1c x5 x6 x36 x36n x36c x37 x38 I S) (fun x1 x1n x1c x5 x6 x8 x36 x36n x36c x37 x38 x87 x87n x87c x88 x89 I S => ∃ m', m' < mg8 ∧ Vg8 m' x1 x1n x1c x5 x6 x8 x36 x36n x36c x37 x38 x87 x87n x87c x88 x89 I S) (fun x1 x1n x1c x5 x6 x8 x14 x15 x36 x36n x36c x37 x38 x87 x87n x87c x88 x89 x108 x108n x108c x109 x110 I S => ∃ m', m' < mg14 ∧ Vg14 m' x1 x1n x1c x5 x6 x8 x14 x15 x36 x36n x36c x37 x38 x87 x87n x87c x88 x89 x108 x108n x108c x109 x110 I S) R) h fun _ _ _ _ _ _ _ _ _ _ _ _ _ _ _ _ _ _ _ _ _ _ _ _ _ _ _ h => ?_
          refine sO [kL 1, kP 5, kM 6, kA 8, kS 14, kS 15, kL 36, kI .i64 37, kI .i64 38, kL 87, kI .i64 88, kI .i64 89, kL 108, kI .i64 109, kI .i64 110] (bolterlaw17_IndexScript_b17 (fun x1 x1n x1c x5 x6 x36 x36n x36c x37 x38 I S => ∃ m', m' < mg3 ∧ Vg3 m' x1 x1n x1c x5 x6 x36 x36n x36c x37 x38 I S) (fun x1 x1n x1c x5 x6 x8 x36 x36n x36c x37 x38 x87 x87n x87c x88 x89 I S => ∃ m', m' < mg8 ∧ Vg8 m' x1 x1n x1c x5 x6 x8 x36 x36n x36c x37 x38 x87 x87n x87c x88 x89 I S) (fun x1 x1n x1c x5 x6 x8 x14 x15 x36 x36n x36c x37 x38 x87 x87n x87c x88 x89 x108 x108n x108c x109 x110 I S => ∃ m', m' < mg14 ∧ Vg14 m' x1 x1n x1c x5 x6 x8 x14 x15 x36 x36n x36c x37 x38 x87 x87n x87c x88 x89 x108 x108n x108c x109 x110 I S) R) ?_ fun _ _ _ _ _ _ _ _ _ _ _ _ _ _ _ _ _ _ _ _ _ _ _ _ _ _ _ h => ?_
          · refine bK ?_
            refine cO 4 [kL 1, kP 5, kM 6, kA 8, kS 14, kS 15, kL 36, kI .i64 37, kI .i64 38, kL 87, kI .i64 88, kI .i64 89, kL 108, kI .i64 109, kI .i64 110, kB 149] (bolterlaw17_IndexScript_b16 (fun x1 x1n x1c x5 x6 x36 x36n x36c x37 x38 I S => ∃ m', m' < mg3 ∧ Vg3 m' x1 x1n x1c x5 x6 x36 x36n x36c x37 x38 I S) (fun x1 x1n x1c x5 x6 x8 x36 x36n x36c x37 x38 x87 x87n x87c x88 x89 I S => ∃ m', m' < mg8 ∧ Vg8 m' x1 x1n x1c x5 x6 x8 x36 x36n x36c x37 x38 x87 x87n x87c x88 x89 I S) (fun x1 x1n x1c x5 x6 x8 x14 x15 x36 x36n x36c x37 x38 x87 x87n x87c x88 x89 x108 x108n x108c x109 x110 I S => ∃ m', m' < mg14 ∧ Vg14 m' x1 x1n x1c x5 x6 x8 x14 x15 x36 x36n x36c x37 x38 x87 x87n x87c x88 x89 x108 x108n x108c x109 x110 I S) R) h fun _ _ _ _ _ _ _ _ _ _ _ _ _ _ _ _ _ _ _ _ _ _ _ _ _ _ _ _ h => ?_
            exact pS h
          exact pS h
        refine cO 1 [kL 1, kP 5, kM 6, kA 8, kS 15, kL 36, kI .i64 37, kI .i64 38, kL 87, kI .i64 88, kI .i64 89, kL 151, kI .i64 152, kI .i64 153] (bolterlaw17_IndexScript_b19 (fun x1 x1n x1c x5 x6 x36 x36n x36c x37 x38 I S => ∃ m', m' < mg3 ∧ Vg3 m' x1 x1n x1c x5 x6 x36 x36n x36c x37 x38 I S) (fun x1 x1n x1c x5 x6 x8 x36 x36n x36c x37 x38 x87 x87n x87c x88 x89 I S => ∃ m', m' < mg8 ∧ Vg8 m' x1 x1n x1c x5 x6 x8 x36 x36n x36c x37 x38 x87 x87n x87c x88 x89 I S) R) h fun _ _ _ _ _ _ _ _ _ _ _ _ _ _ _ _ _ _ _ _ _ _ _ _ _ _ h => ?_
        refine bK ?_
        obtain ⟨Vg20, mg20, h, hr⟩ := h
        refine lO [kL 1, kP 5, kM 6, kA 8, kS 15, kL 36, kI .i64 37, kI .i64 38, kL 87, kI .i64 88, kI .i64 89, kL 151, kI .i64 152, kI .i64 153] Vg20 mg20 h fun mg20 _ I S hle x1 x1n x1c x5 x6 x8 x15 x36 x36n x36c x37 x38 x87 x87n x87c x88 x89 x151 x151n x151c x152 x153 h => ?_
        have h := hr mg20 x1 x1n x1c x5 x6 x8 x15 x36 x36n x36c x37 x38 x87 x87n x87c x88 x89 x151 x151n x151c x152 x153 I S hle h
        refine cO 2 [kL 1, kP 5, kM 6, kA 8, kS 15, kL 36, kI .i64 37, kI .i64 38, kL 87, kI .i64 88, kI .i64 89, kL 151, kI .i64 152, kI .i64 153] (bolterlaw17_IndexScript_b21 (fun x1 x1n x1c x5 x6 x36 x36n x36c x37 x38 I S => ∃ m', m' < mg3 ∧ Vg3 m' x1 x1n x1c x5 x6 x36 x36n x36c x37 x38 I S) (fun x1 x1n x1c x5 x6 x8 x36 x36n x36c x37 x38 x87 x87n x87c x88 x89 I S => ∃ m', m' < mg8 ∧ Vg8 m' x1 x1n x1c x5 x6 x8 x36 x36n x36c x37 x38 x87 x87n x87c x88 x89 I S) (fun x1 x1n x1c x5 x6 x8 x15 x36 x36n x36c x37 x38 x87 x87n x87c x88 x89 x151 x151n x151c x152 x153 I S => ∃ m', m' < mg20 ∧ Vg20 m' x1 x1n x1c x5 x6 x8 x15 x36 x36n x36c x37 x38 x87 x87n x87c x88 x89 x151 x151n x151c x152 x153 I S) R) h fun _ _ _ _ _ _ _ _ _ _ _ _ _ _ _ _ _ _ _ _ _ _ _ _ _ _ h => ?_
        refine sO [kL 1, kP 5, kM 6, kA 8, kS 15, kL 36, kI .i64 37, kI .i64 38, kL 87, kI .i64 88, kI .i64 89, kL 151, kI .i64 152, kI .i64 153] (bolterlaw17_IndexScript_b23 (fun x1 x1n x1c x5 x6 x36 x36n x36c x37 x38 I S => ∃ m', m' < mg3 ∧ Vg3 m' x1 x1n x1c x5 x6 x36 x36n x36c x37 x38 I S) (fun x1 x1n x1c x5 x6 x8 x36 x36n x36c x37 x38 x87 x87n x87c x88 x89 I S => ∃ m', m' < mg8 ∧ Vg8 m' x1 x1n x1c x5 x6 x8 x36 x36n x36c x37 x38 x87 x87n x87c x88 x89 I S) (fun x1 x1n x1c x5 x6 x8 x15 x36 x36n x36c x37 x38 x87 x87n x87c x88 x89 x151 x151n x151c x152 x153 I S => ∃ m', m' < mg20 ∧ Vg20 m' x1 x1n x1c x5 x6 x8 x15 x36 x36n x36c x37 x38 x87 x87n x87c x88 x89 x151 x151n x151c x152 x153 I S) R) ?_ fun _ _ _ _ _ _ _ _ _ _ _ _ _ _ _ _ _ _ _ _ _ _ _ _ _ _ h => ?_
        · refine bK ?_
          refine cO 4 [kL 1, kP 5, kM 6, kA 8, kS 15, kL 36, kI .i64 37, kI .i64 38, kL 87, kI .i64 88, kI .i64 89, kL 151, kI .i64 152, kI .i64 153, kB 186] (bolterlaw17_IndexScript_b22 (fun x1 x1n x1c x5 x6 x36 x36n x36c x37 x38 I S => ∃ m', m' < mg3 ∧ Vg3 m' x1 x1n x1c x5 x6 x36 x36n x36c x37 x38 I S) (fun x1 x1n x1c x5 x6 x8 x36 x36n x36c x37 x38 x87 x87n x87c x88 x89 I S => ∃ m', m' < mg8 ∧ Vg8 m' x1 x1n x1c x5 x6 x8 x36 x36n x36c x37 x38 x87 x87n x87c x88 x89 I S) (fun x1 x1n x1c x5 x6 x8 x15 x36 x36n x36c x37 x38 x87 x87n x87c x88 x89 x151 x151n x151c x152 x153 I S => ∃ m', m' < mg20 ∧ Vg20 m' x1 x1n x1c x5 x6 x8 x15 x36 x36n x36c x37 x38 x87 x87n x87c x88 x89 x151 x151n x151c x152 x153 I S) R) h fun _ _ _ _ _ _ _ _ _ _ _ _ _ _ _ _ _ _ _ _ _ _ _ _ _ _ _ h => ?_
          exact pS h
        exact pS h
      exact pS h
    exact pS h
  exact pS h
end Go.Proofs.YtcdajekafnggkaaGreatDoor
/- index.Addr; IndexNone: a trigger that has no name is not put in; nothing is found of what is no address. -/
namespace Go.Proofs.YtcdajekafnggkaaGreatDoor
open Go.Px
set_option linter.unusedVariables false
set_option linter.unusedSimpArgs false
set_option maxRecDepth 8000

theorem cut_all (a : ByteArray) : cutB a (8 * a.size) = a := by
  have : a.data.toList.length = a.size := Array.length_toList
  apply ext_list
  show cutL a.data.toList (8 * a.size) = a.data.toList
  rw [cutL, this, Nat.sub_self]; rfl
def addrV (sh : Tr.Sh) (kind : Int) (a : ByteArray) : Option (Int × Tg) := if a.size = 4 ∨ a.size = 16 then (sh.walk (bitsL a (8 * a.size)) 0 none).map (fun p => (p.1, (kind, ⟨#[]⟩, cutB a p.2, (p.2 : Int)))) else none
theorem addr_zero {b7 : Nat} {x : Tg} {F T : SH} {J : IMem} {r : Option (Int × Tg)} (hr : r = none) {Q : Value → SH → Prop} (hs : Sub (tgB b7 x :: F) T) (hQ : ∀ T', Sub F T' → Q (resN r) T') :
    StP T ⟨b7, 0, none⟩ [.int .i64 0, .string ⟨#[]⟩, .string ⟨#[]⟩, .int .i64 0] fun S1 => ∃ u0, Cell J S1 ⟨b7, 0, none⟩ (.int .i64 u0) ∧ ∃ u1, Cell J S1 ((⟨b7, 0, none⟩ : Addr).add 1) (.string u1) ∧ ∃ u2, Cell J S1 ((⟨b7, 0, none⟩ : Addr).add 2) (.string u2) ∧ ∃ u3, Cell J S1 ((⟨b7, 0, none⟩ : Addr).add 3) (.int .i64 u3) ∧ Q (.tuple #[.int .i64 0, .agg #[.int .i64 u0, .string u1, .string u2, .int .i64 u3], .bool false]) S1 := by
  subst hr
  refine put_tg (x := x) (t := t0) hs fun T' hT' => ?_
  obtain ⟨c0, c1, c2, _, c3⟩ := tgX (I := J) hT'
  exact ⟨_, c0, _, c1, _, c2, _, c3, hQ T' hT'.drop⟩
theorem IAddr_runs {xb n c : Nat} {V : Tg → Option Int} {own F S : SH} {I : IMem} (h : IxS xb V n c own) (hs : Sub (own ++ F) S) (kind : Int) (a : ByteArray) (ha : a.size ≤ 140737488355328) :
    Runs Tryz.prog 15 #[.pointer (some ⟨xb, 0, none⟩), .int .i64 kind, .string a] I S fun v _ T => (∃ sh : Tr.Sh, sh.wf ∧ (∀ l u, sh.find l = some u ↔ ∃ t, ipK t.1 = true ∧ t.1 = kind ∧ (t.2.2.1.size : Int) = (a.size : Int) ∧ bitsL t.2.2.1 t.2.2.2.toNat = l ∧ V t = some u) ∧ v = resN (addrV sh kind a)) ∧ Sub (own ++ F) T := by
  obtain ⟨M, L, hO, hI, rfl⟩ := h
  have hO' := hO
  obtain ⟨xm, tb, o1, o2, hT, hTI, hn, hnd, hL, rfl⟩ := hO'
  have hspec : ∀ l u, (shT L kind (a.size : Int)).find l = some u ↔ ∃ t, ipK t.1 = true ∧ t.1 = kind ∧ (t.2.2.1.size : Int) = (a.size : Int) ∧ bitsL t.2.2.1 t.2.2.2.toNat = l ∧ V t = some u := fun l u => hI.pre kind _ l u
  have hwf : (shT L kind (a.size : Int)).wf := by
    unfold shT
    cases hx : lookT L kind (a.size : Int) with
    | none => exact trivial
    | some x =>
      obtain ⟨_, _, _, _, _, _, _, _, _, _, _, hw, _⟩ := hL.split hx
      exact hw
  refine index_Index_Addr_fn _ _ _ _ _ _ ?_
  unfold index_Index_Addr
  intro b7
  have hsB : Sub (tgB b7 t0 :: ((o1 ++ (xm, .map (esOf L) L.length) :: o2) ++ F)) ((b7, .cells #[.int .i64 0, .string ⟨#[]⟩, .string ⟨#[]⟩, .int .i64 0] 35 (0, 0)) :: S) := hs.cons _
  rw [wrap_i64 (by omega) (by omega)]
  refine (Cut_runs _ _ _ _).mono ?_
  rintro v J1 T1 hle1 ⟨rfl, rfl⟩
  have e8 : ((8 : Int) * (a.size : Int)).toNat = 8 * a.size := by omega
  have hcut : ∃ p q b, cutV a (8 * (a.size : Int)) = .tuple #[.agg #[.string p, .int .i64 q], .bool b] ∧ (b = true ↔ a.size = 4 ∨ a.size = 16) ∧ (b = true → p = a ∧ q = 8 * (a.size : Int)) := by
    unfold cutV
    by_cases hc : okC a (8 * (a.size : Int))
    · rw [if_pos hc]
      exact ⟨_, _, true, rfl, ⟨fun _ => hc.1, fun _ => rfl⟩, fun _ => ⟨by rw [e8, cut_all], rfl⟩⟩
    · rw [if_neg hc]
      exact ⟨_, _, false, rfl, ⟨fun h => (by cases h), fun h => absurd ⟨h, by omega, by omega⟩ hc⟩, fun h => (by cases h)⟩
  obtain ⟨p, q, b, hcv, hb, hpq⟩ := hcut
  rw [hcv]
  refine ⟨_, _, _, rfl, fun b9 => StP.all (vs := [.string p, .int .i64 q]) rfl rfl ?_⟩
  have hs2 : Sub (o1 ++ ((xm, .map (esOf L) L.length) :: (o2 ++ (tgB b7 t0 :: (pfB b9 p q :: F))))) (pfB b9 p q :: (b7, .cells #[.int .i64 0, .string ⟨#[]⟩, .string ⟨#[]⟩, .int .i64 0] 35 (0, 0)) :: S) :=
    (hsB.cons (pfB b9 p q)).re (by intro a; simp only [cnt_cons, cnt_app]; omega)
  have hm : MpC J1 _ xm (esOf L) L.length := MpC.of_sub hs2.right
  refine ⟨_, tab_cell hT hs2, ?_⟩
  have done : ∀ {T : SH}, Sub ((o1 ++ (xm, .map (esOf L) L.length) :: o2) ++ (pfB b9 p q :: F)) T → Sub ((o1 ++ (xm, .map (esOf L) L.length) :: o2) ++ F) T := fun h => (h.re (by intro a; simp only [cnt_cons, cnt_app, cnt_nil]; omega) : Sub (((o1 ++ (xm, .map (esOf L) L.length) :: o2) ++ F) ++ [pfB b9 p q]) _).left
  have hs3 : Sub (tgB b7 t0 :: ((o1 ++ (xm, .map (esOf L) L.length) :: o2) ++ (pfB b9 p q :: F))) (pfB b9 p q :: (b7, .cells #[.int .i64 0, .string ⟨#[]⟩, .string ⟨#[]⟩, .int .i64 0] 35 (0, 0)) :: S) := hs2.re (by intro a; simp only [cnt_cons, cnt_app]; omega)
  -- nothing
  have none2 : ∀ (x11 : OA), addrV (shT L kind (a.size : Int)) kind a = none → index_Index_Addr_b2 (fun v _ T => (∃ sh : Tr.Sh, sh.wf ∧ (∀ l u, sh.find l = some u ↔ ∃ t, ipK t.1 = true ∧ t.1 = kind ∧ (t.2.2.1.size : Int) = (a.size : Int) ∧ bitsL t.2.2.1 t.2.2.2.toNat = l ∧ V t = some u) ∧ v = resN (addrV sh kind a)) ∧ Sub ((o1 ++ (xm, .map (esOf L) L.length) :: o2) ++ F) T) kind a ⟨b7, 0, none⟩ ⟨b9, 0, none⟩ x11 true J1 (pfB b9 p q :: (b7, .cells #[.int .i64 0, .string ⟨#[]⟩, .string ⟨#[]⟩, .int .i64 0] 35 (0, 0)) :: S) := by
    intro x11 hr
    unfold index_Index_Addr_b2
    exact bcase_t rfl (addr_zero (x := t0) (r := none) rfl (Q := fun v T => (∃ sh : Tr.Sh, sh.wf ∧ (∀ l u, sh.find l = some u ↔ ∃ t, ipK t.1 = true ∧ t.1 = kind ∧ (t.2.2.1.size : Int) = (a.size : Int) ∧ bitsL t.2.2.1 t.2.2.2.toNat = l ∧ V t = some u) ∧ v = resN (addrV sh kind a)) ∧ Sub ((o1 ++ (xm, .map (esOf L) L.length) :: o2) ++ F) T) hs3 fun T' hT' => ⟨⟨_, hwf, hspec, by rw [hr]⟩, done hT'⟩)
  have bad : b = false → addrV (shT L kind (a.size : Int)) kind a = none := fun h => by
    unfold addrV
    rw [if_neg (fun g => by rw [hb.2 g] at h; cases h)]
  rcases look_at rfl hm (k := kind) (s := (a.size : Int)) with ⟨x, hx, hat⟩ | ⟨hx, hat⟩
  · refine ⟨_, true, hat, ?_⟩
    unfold index_Index_Addr_b1
    refine bcase_not (bcase_of (fun hbt => ?_) (fun hbf => none2 _ (bad hbf)))
    obtain ⟨rfl, rfl⟩ := hpq hbt
    have hsz := hb.1 hbt
    have hshx : shT L kind (p.size : Int) = x.t := by unfold shT; rw [hx]; rfl
    unfold index_Index_Addr_b2 index_Index_Addr_b3
    have hpf : Sub (pfB b9 p (8 * (p.size : Int)) :: (o1 ++ ((xm, .map (esOf L) L.length) :: (o2 ++ (tgB b7 t0 :: F))))) (pfB b9 p (8 * (p.size : Int)) :: (b7, .cells #[.int .i64 0, .string ⟨#[]⟩, .string ⟨#[]⟩, .int .i64 0] 35 (0, 0)) :: S) := hs2.re (by intro a; simp only [cnt_cons, cnt_app]; omega)
    refine bcase_f rfl ⟨_, Cell.among hpf rfl, _, Cell.at_ (add_mk _ _ _) (Cell.among hpf rfl), (Key_runs (a := p) (n := 8 * (p.size : Int)) ⟨⟨hsz, by omega, by omega⟩, by rw [e8, cut_all]⟩ _ _).mono ?_⟩
    rintro v J2 T2 hle2 ⟨rfl, hs4⟩
    rw [e8]
    obtain ⟨L1, L2, oA, ox, oB, hLL, _, _, _, hA, hxO, hxw, hxl, hB, rfl⟩ := hL.split hx
    have hs5 : Sub (ox ++ (o1 ++ ((xm, .map (esOf L) L.length) :: ((oA ++ oB) ++ (tgB b7 t0 :: (pfB b9 p (8 * (p.size : Int)) :: F)))))) T2 := (hs2.trans hs4).re (by intro a; simp only [cnt_cons, cnt_app]; omega)
    refine ⟨_, rfl, (Runs_fr (R := fun w o => w = .tuple (Tr.encL (x.t.walk (bitsL p (8 * p.size)) 0 none)) ∧ o = ox) hs5 (fun F' => (Tr.Longest_runs x.b x.t ox hxO (bitsL p (8 * p.size)) (by rw [bitsL_len]; omega) _ F').mono ?_)).mono ?_⟩
    · rintro w J T hle ⟨rfl, rfl⟩
      exact ⟨ox, ⟨rfl, rfl⟩, rfl⟩
    rintro w J3 T3 hle3 ⟨o, ⟨rfl, ho⟩, hs6⟩
    rw [ho] at hs6
    have hs7 : Sub (tgB b7 t0 :: ((o1 ++ (xm, .map (esOf L) L.length) :: (oA ++ (ox ++ oB))) ++ (pfB b9 p (8 * (p.size : Int)) :: F))) T3 := hs6.re (by intro a; simp only [cnt_cons, cnt_app]; omega)
    have hav : addrV (shT L kind (p.size : Int)) kind p = (x.t.walk (bitsL p (8 * p.size)) 0 none).map (fun q => (q.1, (kind, ⟨#[]⟩, cutB p q.2, (q.2 : Int)))) := by
      unfold addrV
      rw [if_pos hsz, hshx]
    have hIsL := Tr.IsL.of hxw (bitsL p (8 * p.size))
    cases hwk : x.t.walk (bitsL p (8 * p.size)) 0 none with
    | none =>
      rw [hwk] at hav
      have hr : addrV (shT L kind (p.size : Int)) kind p = none := hav
      refine ⟨_, _, _, rfl, bcase_t rfl ?_⟩
      exact addr_zero (x := t0) (r := none) rfl (Q := fun v T => (∃ sh : Tr.Sh, sh.wf ∧ (∀ l u, sh.find l = some u ↔ ∃ t, ipK t.1 = true ∧ t.1 = kind ∧ (t.2.2.1.size : Int) = (p.size : Int) ∧ bitsL t.2.2.1 t.2.2.2.toNat = l ∧ V t = some u) ∧ v = resN (addrV sh kind p)) ∧ Sub ((o1 ++ (xm, .map (esOf L) L.length) :: (oA ++ (ox ++ oB))) ++ F) T) hs7 fun T' hT' => ⟨⟨_, hwf, hspec, by rw [hr]⟩, done hT'⟩
    | some vn =>
      obtain ⟨v, m⟩ := vn
      rw [hwk] at hav hIsL
      have hml : m ≤ 8 * p.size := by have := (hIsL.yes v m rfl).1; rwa [bitsL_len] at this
      refine ⟨_, _, _, rfl, bcase_f rfl ((Cut_runs p (m : Int) _ _).mono ?_)⟩
      rintro w J4 T4 hle4 ⟨rfl, rfl⟩
      have hokm : okC p (m : Int) := ⟨hsz, by omega, by omega⟩
      rw [cutV, if_pos hokm, Int.toNat_natCast]
      refine ⟨_, _, _, rfl, fun b15 => StP.all (vs := [.string (cutB p m), .int .i64 (m : Int)]) rfl rfl ?_⟩
      unfold index_Index_Addr_b4 index_Index_Addr_b5
      refine ⟨_, Cell.at0 rfl, _, Cell.at_ (add_mk _ _ _) (Cell.at0 rfl), ?_⟩
      refine put_tg (x := t0) (t := (kind, ⟨#[]⟩, cutB p m, (m : Int))) (hs7.skip _) fun T' hT' => ?_
      obtain ⟨c0, c1, c2, _, c3⟩ := tgX (I := J4) hT'
      refine ⟨_, c0, _, c1, _, c2, _, c3, ⟨_, hwf, hspec, ?_⟩, done hT'.drop⟩
      rw [hav]; rfl
  · refine ⟨_, false, hat, ?_⟩
    have hr : addrV (shT L kind (a.size : Int)) kind a = none := by
      unfold addrV shT
      rw [hx]
      split <;> rfl
    unfold index_Index_Addr_b1
    exact bcase_not (bcase_of (fun _ => none2 _ hr) (fun _ => none2 _ hr))
end Go.Proofs.YtcdajekafnggkaaGreatDoor
