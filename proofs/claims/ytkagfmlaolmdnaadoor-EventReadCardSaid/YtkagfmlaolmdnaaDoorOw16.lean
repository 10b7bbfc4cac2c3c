/- Triggers and names lead to each other: plain laws. -/
import Derived.Test.YtkagfmlaolmdnaaDoorOw15
namespace Go.Proofs.YtkagfmlaolmdnaaDoor
open Go.Px
set_option linter.unusedVariables false
set_option linter.unusedSimpArgs false
set_option maxRecDepth 8000

theorem makeN_fwd : ∀ (ls : List ByteArray) (acc : ByteArray), (∀ l ∈ ls, IsLab l) → acc.size + (nm ls).size ≤ 254 → makeN ls acc = some (acc ++ nm ls)
  | [], acc, _, _ => by
    rw [makeN]
    congr 1
    exact bext (by simp [nm, wire])
  | l :: ls, acc, h, hs => by
    have h1 := h l (List.mem_cons_self ..)
    have hsz := nm_cons_size l ls
    have hlo := h1.lo; have hhi := h1.hi
    rw [makeN, if_neg (by omega)]
    have hp : (acc.push (UInt8.ofNat l.size)).size = acc.size + 1 := ByteArray.size_push
    rw [h1.low, makeN_fwd ls _ (fun x hx => h x (List.mem_cons_of_mem _ hx)) (by rw [app_size, hp]; omega)]
    congr 1
    refine bext ?_
    simp [nm_list, wire_cons, ByteArray.data_push]
theorem makeN_ok {ls : List ByteArray} (h : ∀ l ∈ ls, IsLab l) (hs : (nm ls).size ≤ 254) : makeN ls ByteArray.empty = some (nm ls) := by
  have := makeN_fwd ls ByteArray.empty h (by have : ByteArray.empty.size = 0 := rfl; omega)
  rw [this]
  congr 1
theorem makeN_low {ls : List ByteArray} {m : ByteArray} (h : ∀ l ∈ ls, IsLab l) (hm : makeN ls ByteArray.empty = some m) : m = nm ls ∧ (nm ls).size ≤ 254 := by
  have h1 := (makeN_nm hm).1
  have h2 : ls.map foldB = ls := by
    have : ls.map foldB = ls.map id := List.map_congr_left fun l hl => (h l hl).low
    rw [this, List.map_id]
  rw [h2] at h1
  have h3 : m = nm ls := by rw [h1]; exact bext (by simp)
  exact ⟨h3, by rw [← h3]; exact makeN_size (by decide) hm⟩
theorem labN_empty : labN ⟨#[]⟩ = some [] := by
  have := labN_nm (ls := []) (fun l h => by cases h) (by decide)
  exact this
/-- the whole name's labels -/
def encU (t : Tg) : List ByteArray := if encW t = ⟨#[]⟩ then encL t else encL t ++ [encW t]
theorem enc_ok {t : Tg} {ls : List ByteArray} (hn : labN t.2.1 = some ls) (hu : ∀ l ∈ encU t, IsLab l) (hs : (nm (encU t)).size ≤ 254) (hd : decL (encU t) = some t) : encF t = some (nm (encU t)) := by
  rw [encF, encX, hn]
  dsimp only
  have e : (if encW t = ⟨#[]⟩ then encL t else encL t ++ [encW t]) = encU t := rfl
  rw [e, makeN_ok hu hs]
  dsimp only
  rw [if_pos]
  rw [decF, labN_nm hu hs]
  exact hd
theorem enc_long {t : Tg} (hu : ∀ l ∈ encU t, IsLab l) (hs : 254 < (nm (encU t)).size) : encF t = none := by
  rw [encF, encX]
  cases labN t.2.1 with
  | none => rfl
  | some ls =>
    dsimp only
    have e : (if encW t = ⟨#[]⟩ then encL t else encL t ++ [encW t]) = encU t := rfl
    rw [e]
    cases hm : makeN (encU t) ByteArray.empty with
    | none => rfl
    | some m => have := (makeN_low hu hm).2; omega
theorem enc_dec {t : Tg} {m : ByteArray} (h : encF t = some m) : decF m = some t := by
  rw [encF, encX] at h
  split at h
  · cases h
  · split at h
    · cases h
    · split at h
      · rename_i hd
        rw [← Option.some.inj h]; exact hd
      · cases h
theorem kind_word {w : ByteArray} {k : Int} (h : kindOf w = some k) : wordK k = w ∧ (k = 0 ∨ k = 3 ∨ k = 4 ∨ k = 6) ∧ w ≠ ⟨#[]⟩ := by
  have hne : ∀ x : ByteArray, x.size ≠ 0 → x ≠ ⟨#[]⟩ := fun x h e => h (by rw [e]; rfl)
  rw [kindOf] at h
  split at h
  · rename_i e; rw [← Option.some.inj h, e]; exact ⟨rfl, .inl rfl, hne _ (by decide)⟩
  · split at h
    · rename_i e; rw [← Option.some.inj h, e]; exact ⟨rfl, .inr (.inl rfl), hne _ (by decide)⟩
    · split at h
      · rename_i e; rw [← Option.some.inj h, e]; exact ⟨rfl, .inr (.inr (.inl rfl)), hne _ (by decide)⟩
      · split at h
        · rename_i e; rw [← Option.some.inj h, e]; exact ⟨rfl, .inr (.inr (.inr rfl)), hne _ (by decide)⟩
        · cases h
theorem last_split {α : Type} {ls : List α} {w : α} (h : ls.getLast? = some w) : ls = ls.dropLast ++ [w] := by
  rw [List.getLast?_eq_some_iff] at h
  obtain ⟨ys, rfl⟩ := h
  simp
theorem named_some {ls : List ByteArray} {ex wild : Int} {t : Tg} (hl : ∀ l ∈ ls, IsLab l) (h : namedF ls ex wild = some t) :
    (∃ r, ls = starB :: r ∧ t = (wild, nm r, ⟨#[]⟩, 0) ∧ labN (nm r) = some r) ∨ (t = (ex, nm ls, ⟨#[]⟩, 0) ∧ labN (nm ls) = some ls) := by
  cases ls with
  | nil => cases h
  | cons l r =>
    rw [namedF] at h
    split at h
    · rename_i e
      obtain ⟨m, hm, rfl⟩ := Option.map_eq_some_iff.1 h
      have hr : ∀ x ∈ r, IsLab x := fun x hx => hl x (List.mem_cons_of_mem _ hx)
      obtain ⟨h1, h2⟩ := makeN_low hr hm
      exact .inl ⟨r, by rw [e], by rw [h1], labN_nm hr h2⟩
    · obtain ⟨m, hm, rfl⟩ := Option.map_eq_some_iff.1 h
      obtain ⟨h1, h2⟩ := makeN_low hl hm
      exact .inr ⟨by rw [h1], labN_nm hl h2⟩
theorem dec_enc {n : ByteArray} {t : Tg} (h : decF n = some t) : encF t = some n := by
  have hdn := h
  rw [decF] at h
  cases hl : labN n with
  | none => rw [hl] at h; cases h
  | some ls =>
    rw [hl] at h
    dsimp only at h
    obtain ⟨hn, hlab, hsz⟩ := labN_some hl
    have fin : encU t = ls → (∃ l0, labN t.2.1 = some l0) → encF t = some n := by
      rintro he ⟨l0, h0⟩
      rw [hn, ← he]
      rw [hn] at hsz
      exact enc_ok h0 (by rw [he]; exact hlab) (by rw [he]; exact hsz) (by rw [he]; exact h)
    rw [decL] at h
    cases hw : ls.getLast? with
    | none => rw [hw] at h; cases h
    | some w =>
      rw [hw] at h
      dsimp only at h
      have hsp := last_split hw
      cases hk : kindOf w with
      | none =>
        rw [hk] at h
        rcases named_some hlab h with ⟨r, hr, rfl, hlr⟩ | ⟨rfl, hlr⟩
        · exact fin (by rw [encU, if_pos (by rfl), encL, if_neg (by simp), if_pos (.inl rfl)]; dsimp only; rw [hlr, hr]; rfl) ⟨_, hlr⟩
        · exact fin (by rw [encU, if_pos (by rfl), encL, if_neg (by simp), if_neg (by simp)]; dsimp only; rw [hlr]; rfl) ⟨_, hlr⟩
      | some k =>
        rw [hk] at h
        dsimp only at h
        obtain ⟨hwk, hk4, hwne⟩ := kind_word hk
        have hlab2 : ∀ l ∈ ls.dropLast, IsLab l := fun l hl => hlab l (List.dropLast_subset _ hl)
        by_cases h4 : k = 4
        · rw [if_pos h4] at h
          subst h4
          have hnd : w = ndB := hwk.symm
          have ndne : ndB ≠ ⟨#[]⟩ := by rw [← hnd]; exact hwne
          rcases named_some hlab2 h with ⟨r, hr, rfl, hlr⟩ | ⟨rfl, hlr⟩
          · refine fin ?_ ⟨_, hlr⟩
            have e : encW ((5, nm r, ⟨#[]⟩, 0) : Tg) = ndB := rfl
            rw [encU, e, if_neg ndne, encL, if_neg (by simp), if_pos (.inr rfl)]; dsimp only
            rw [hlr]
            conv => rhs; rw [hsp, hr, hnd]
            rfl
          · refine fin ?_ ⟨_, hlr⟩
            have e : encW ((4, nm ls.dropLast, ⟨#[]⟩, 0) : Tg) = ndB := rfl
            rw [encU, e, if_neg ndne, encL, if_neg (by simp), if_neg (by simp)]; dsimp only
            rw [hlr]
            conv => rhs; rw [hsp, hnd]
            rfl
        · rw [if_neg h4] at h
          obtain ⟨p, hp, rfl⟩ := Option.map_eq_some_iff.1 h
          obtain ⟨hm, hpl⟩ := adrF_some hp
          refine fin ?_ ⟨_, labN_empty⟩
          have hk3 : k = 0 ∨ k = 3 ∨ k = 6 := by omega
          have e : encW ((k, ⟨#[]⟩, p.1, p.2) : Tg) = w := by
            rw [encW, if_neg (by dsimp only; omega)]; exact hwk
          rw [encU, e, if_neg hwne, encL, if_pos hk3]; dsimp only
          conv => rhs; rw [hsp]
          rw [← hpl]
end Go.Proofs.YtkagfmlaolmdnaaDoor
