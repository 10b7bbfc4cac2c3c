/- The table's methods: Put, Get, Del. -/
import Derived.Test.YtoeecjlencaglaaTb3
set_option linter.unusedVariables false
namespace Go.Proofs.Ytoeecjlencaglaa
open Go.Px

def grownM (t : Tbl) : Option Tbl := if 2 * (t.full + 1) > t.ss.length then (growM t.ss (List.replicate (growN t.live) noSlot)).map fun new => ⟨new, t.live, t.live⟩ else some t
def putAt (t : Tbl) (key : ByteArray) (value : Int) : Option (Tbl × Bool) := match findF t.ss key with
  | none => none
  | some (a, is) => match t.ss[a.toNat]? with
    | none => none
    | some s => if 0 ≤ a then some (⟨t.ss.set a.toNat ⟨key, value, true, false⟩, if is then t.live else t.live + 1, if is then t.full else if s.dead then t.full else t.full + 1⟩, !is) else none
def putM (t : Tbl) (key : ByteArray) (value : Int) : Option (Tbl × Bool) := (grownM t).bind fun t => putAt t key value
def getM (t : Tbl) (key : ByteArray) : Option (Int × Bool) := if t.ss = [] then some (0, false) else match findF t.ss key with
  | none => none
  | some (a, is) => if is then (match t.ss[a.toNat]? with | some s => if 0 ≤ a then some (s.value, true) else none | none => none) else some (0, false)
def delM (t : Tbl) (key : ByteArray) : Option (Tbl × Bool) := if t.ss = [] then some (t, false) else match findF t.ss key with
  | none => none
  | some (a, is) => if is then (if 0 ≤ a ∧ a < (t.ss.length : Int) then some (⟨t.ss.set a.toNat ⟨⟨#[]⟩, 0, false, true⟩, t.live - 1, t.full⟩, true) else none) else some (t, false)

def TabS (tb sb : Nat) (t : Tbl) (F : SH) : SH := tabB tb (some ⟨sb, 0, none⟩) t.ss.length t.live t.full :: sloB sb t.ss :: F
structure Tbl.Ok (t : Tbl) : Prop where
  live : t.live ≤ 17179869184
  full : t.full ≤ 17179869184
  len : t.ss.length ≤ 1099511627776
  keys : small t.ss

theorem put_b3 {R : Value → IMem → SH → Prop} {tb sb : Nat} {t t' : Tbl} {key : ByteArray} {value : Int} {r : Bool} {I : IMem} {F : SH} (ht : t.ss ≠ []) (hok : t.Ok) (hk : key.size ≤ 9223372036854775807)
    (h : putAt t key value = some (t', r)) (hR : ∀ J, I.le J → R (.bool r) J (TabS tb sb t' F)) : table_Table_Put_b3 R (some ⟨tb, 0, none⟩) key value I (TabS tb sb t F) := by
  have hpos : 0 < t.ss.length := List.length_pos_iff.2 ht
  have hl := hok.live
  have hfu := hok.full
  unfold putAt at h
  split at h
  · cases h
  · rename_i a is hf
    split at h
    · cases h
    · rename_i s hs
      split at h
      · rename_i ha
        injection h with h
        injection h with h1 h2
        have hlt : a.toNat < t.ss.length := by
          rcases Nat.lt_or_ge a.toNat t.ss.length with h | h
          · exact h
          · rw [List.getElem?_eq_none h] at hs; cases hs
        refine (find_runs tb sb t.ss t.live t.full key t.ss.length (a, is) hpos hok.len hk hf I F).mono ?_
        rintro v J T hle ⟨rfl, rfl⟩
        refine ⟨_, _, rfl, ?_⟩
        have b4 : ∀ (live full : Nat) , t' = ⟨t.ss.set a.toNat ⟨key, value, true, false⟩, live, full⟩ → table_Table_Put_b4 R (some ⟨tb, 0, none⟩) key value a is J (tabB tb (some ⟨sb, 0, none⟩) t.ss.length live full :: sloB sb t.ss :: F) := by
          intro live full e
          refine ⟨_, _, _, Cell.at0 rfl, by omega, by omega, StP.tl (StP.row (x := ⟨key, value, true, false⟩) slotE_len slotE_one hlt (rowA_set slotE_len _ hlt) ?_)⟩
          rw [h2]
          have := hR J hle
          rw [e] at this
          simpa [TabS, tabB, sloB] using this
        cases is with
        | true => exact b4 t.live t.full (by rw [← h1]; simp)
        | false =>
          refine ⟨_, Cell.at0 rfl, StP.at0 (by simp) rfl ⟨_, _, _, Cell.at0 rfl, by omega, by omega, _, Cell.tl (Cell.row slotE_len hs (by omega) rfl), ?_⟩⟩
          have e1 : IntKind.wrap .i64 ((t.live : Int) + 1) = ((t.live + 1 : Nat) : Int) := by rw [wrap_i64 (by omega) (by omega)]; rfl
          have e2 : IntKind.wrap .i64 ((t.full : Int) + 1) = ((t.full + 1 : Nat) : Int) := by rw [wrap_i64 (by omega) (by omega)]; rfl
          dsimp only at h1 ⊢
          rw [e1]
          cases hd : s.dead with
          | true => exact b4 (t.live + 1) t.full (by rw [← h1]; simp [hd])
          | false =>
            refine ⟨_, Cell.at0 rfl, StP.at0 (by simp [setR]) rfl ?_⟩
            rw [e2]
            exact b4 (t.live + 1) (t.full + 1) (by rw [← h1]; simp [hd])
      · cases h

theorem Put_runs (tb : Nat) (t t' : Tbl) (own : SH) (ho : TabO tb t own) (hok : t.Ok) (hg : ∀ t1, grownM t = some t1 → t1.Ok ∧ t1.ss ≠ []) (key : ByteArray) (value : Int) (r : Bool) (hk : key.size ≤ 9223372036854775807)
    (h : putM t key value = some (t', r)) (I : IMem) (F : SH) :
    Runs Try.prog 21 #[.pointer (some ⟨tb, 0, none⟩), .string key, .int .i64 value] I (own ++ F) fun v J T => v = .bool r ∧ ∃ own', TabO tb t' own' ∧ T = own' ++ F := by
  have hl := hok.live
  have hfu := hok.full
  have hne : ∀ t1, grownM t = some t1 → putAt t1 key value = some (t', r) → t'.ss ≠ [] := by
    intro t1 h1 h2
    have := (hg t1 h1).2
    unfold putAt at h2
    split at h2
    · cases h2
    · split at h2
      · cases h2
      · split at h2
        · injection h2 with h2; injection h2 with h2 _; rw [← h2]; simpa using this
        · cases h2
  obtain ⟨t1, h1, h2⟩ := Option.bind_eq_some_iff.1 h
  have fin : ∀ sb J, (fun v J T => v = .bool r ∧ ∃ own', TabO tb t' own' ∧ T = own' ++ F : Value → IMem → SH → Prop) (.bool r) J (TabS tb sb t' F) := fun sb J => ⟨rfl, _, .inr ⟨sb, hne t1 h1 h2, rfl⟩, rfl⟩
  refine table_Table_Put_fn _ _ _ _ _ _ ?_
  obtain ⟨oldA, own0, hown⟩ : ∃ oldA own0, own = tabB tb oldA t.ss.length t.live t.full :: own0 := by
    rcases ho with ⟨h1, h2⟩ | ⟨sb, h1, h2⟩
    · exact ⟨none, [], by rw [h2, h1]; rfl⟩
    · exact ⟨_, _, h2⟩
  have c0 : Cell I (own ++ F) ⟨tb, 2, none⟩ (.int .i64 (t.full : Int)) := by rw [hown]; exact Cell.at0 rfl
  have c1 : Cell I (own ++ F) ⟨tb, 0, none⟩ (.slice oldA t.ss.length t.ss.length) := by rw [hown]; exact Cell.at0 rfl
  refine ⟨_, c0, _, _, _, c1, ?_⟩
  rw [wrap_i64 (x := (t.full : Int) + 1) (by omega) (by omega), wrap_i64 (by omega) (by omega)]
  refine bcase_dec (fun hgt => ?_) (fun hle => ?_)
  · unfold grownM at h1
    rw [if_pos (by omega)] at h1
    obtain ⟨fin', hgm, rfl⟩ := Option.map_eq_some_iff.1 h1
    refine (grow_runs tb t own ho hl hok.len hok.keys fin' hgm I F).mono ?_
    rintro v J T hle ⟨rfl, sb, rfl⟩
    obtain ⟨ok1, ne1⟩ := hg _ (by unfold grownM; rw [if_pos (by omega), hgm]; rfl)
    exact ⟨rfl, put_b3 (sb := sb) (F := F) ne1 ok1 hk h2 (fun J' _ => fin sb J')⟩
  · unfold grownM at h1
    rw [if_neg (by omega)] at h1
    injection h1 with h1
    subst h1
    rcases ho with ⟨e1, e2⟩ | ⟨sb, e1, e2⟩
    · rw [e1] at hle; simp at hle; omega
    · rw [e2]
      exact put_b3 (sb := sb) (F := F) e1 hok hk h2 (fun J' _ => fin sb J')

theorem Get_runs (tb : Nat) (t : Tbl) (own : SH) (ho : TabO tb t own) (hok : t.Ok) (key : ByteArray) (r : Int × Bool) (hk : key.size ≤ 9223372036854775807) (h : getM t key = some r) (I : IMem) (F : SH) :
    Runs Try.prog 23 #[.pointer (some ⟨tb, 0, none⟩), .string key] I (own ++ F) fun v J T => v = .tuple #[.int .i64 r.1, .bool r.2] ∧ T = own ++ F := by
  refine table_Table_Get_fn _ _ _ _ _ ?_
  unfold getM at h
  rcases ho with ⟨e1, rfl⟩ | ⟨sb, e1, rfl⟩
  · rw [if_pos e1] at h
    injection h with h; subst h
    refine ⟨_, _, _, Cell.at0 rfl, rfl, rfl⟩
  · rw [if_neg e1] at h
    have hpos : 0 < t.ss.length := List.length_pos_iff.2 e1
    refine ⟨_, _, _, Cell.at0 rfl, bcase_beq (fun h0 => by omega) (fun _ => ?_)⟩
    split at h
    · cases h
    · rename_i a is hf
      refine (find_runs tb sb t.ss t.live t.full key t.ss.length (a, is) hpos hok.len hk hf I F).mono ?_
      rintro v J T hle ⟨rfl, rfl⟩
      refine ⟨_, _, rfl, ?_⟩
      cases is with
      | false => simp at h; subst h; exact ⟨rfl, rfl⟩
      | true =>
        simp only [if_true] at h
        split at h
        · rename_i s hs
          split at h
          · rename_i ha
            injection h with h; subst h
            have hlt : a.toNat < t.ss.length := by
              rcases Nat.lt_or_ge a.toNat t.ss.length with h | h
              · exact h
              · rw [List.getElem?_eq_none h] at hs; cases hs
            exact ⟨_, _, _, Cell.at0 rfl, by omega, by dsimp only; omega, _, Cell.tl (Cell.row slotE_len hs (by omega) rfl), rfl, rfl⟩
          · cases h
        · cases h

theorem Del_runs (tb : Nat) (t t' : Tbl) (own : SH) (ho : TabO tb t own) (hok : t.Ok) (key : ByteArray) (r : Bool) (hk : key.size ≤ 9223372036854775807) (hlv : r = true → 0 < t.live) (h : delM t key = some (t', r)) (I : IMem) (F : SH) :
    Runs Try.prog 22 #[.pointer (some ⟨tb, 0, none⟩), .string key] I (own ++ F) fun v J T => v = .bool r ∧ ∃ own', TabO tb t' own' ∧ T = own' ++ F := by
  have hl := hok.live
  refine table_Table_Del_fn _ _ _ _ _ ?_
  unfold delM at h
  rcases ho with ⟨e1, rfl⟩ | ⟨sb, e1, rfl⟩
  · rw [if_pos e1] at h
    injection h with h; injection h with h1 h2; subst h1; subst h2
    exact ⟨_, _, _, Cell.at0 rfl, rfl, _, .inl ⟨e1, rfl⟩, rfl⟩
  · rw [if_neg e1] at h
    have hpos : 0 < t.ss.length := List.length_pos_iff.2 e1
    refine ⟨_, _, _, Cell.at0 rfl, bcase_beq (fun h0 => by omega) (fun _ => ?_)⟩
    split at h
    · cases h
    · rename_i a is hf
      refine (find_runs tb sb t.ss t.live t.full key t.ss.length (a, is) hpos hok.len hk hf I F).mono ?_
      rintro v J T hle ⟨rfl, rfl⟩
      refine ⟨_, _, rfl, ?_⟩
      cases is with
      | false => simp at h; obtain ⟨rfl, rfl⟩ := h; exact ⟨rfl, _, .inr ⟨sb, e1, rfl⟩, rfl⟩
      | true =>
        simp only [if_true] at h
        split at h
        · rename_i hab
          injection h with h; injection h with h1 h2; subst h1; subst h2
          have hlt : a.toNat < t.ss.length := by omega
          have h1 := hlv rfl
          refine ⟨_, _, _, Cell.at0 rfl, hab.1, hab.2, StP.tl (StP.row (x := ⟨⟨#[]⟩, 0, false, true⟩) slotE_len slotE_one hlt (rowA_set slotE_len _ hlt) ?_)⟩
          refine ⟨_, Cell.at0 rfl, StP.at0 (by simp) rfl ?_⟩
          have e : IntKind.wrap .i64 ((t.live : Int) - 1) = ((t.live - 1 : Nat) : Int) := by rw [wrap_i64 (by omega) (by omega)]; omega
          rw [e]
          refine ⟨rfl, _, .inr ⟨sb, by simpa using e1, rfl⟩, ?_⟩
          simp [tabB, sloB]
          rfl
        · cases h
end Go.Proofs.Ytoeecjlencaglaa
