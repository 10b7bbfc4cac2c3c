/- Which blocks lie in a heap, by counting. -/
import Derived.Test.YtkagfmlaolmdnaaDoorPx11
namespace Go.Px
set_option linter.unusedVariables false

open Classical in
/-- a block is this one -/
noncomputable def iv (a x : Nat × Obj) : Nat := if x = a then 1 else 0
noncomputable def cnt (a : Nat × Obj) : SH → Nat
  | [] => 0
  | x :: L => iv a x + cnt a L
theorem cnt_nil (a : Nat × Obj) : cnt a [] = 0 := rfl
theorem cnt_cons (a x : Nat × Obj) (L : SH) : cnt a (x :: L) = iv a x + cnt a L := rfl
theorem cnt_app (a : Nat × Obj) : ∀ (L M : SH), cnt a (L ++ M) = cnt a L + cnt a M
  | [], M => by rw [List.nil_append, cnt_nil, Nat.zero_add]
  | x :: L, M => by rw [List.cons_append, cnt_cons, cnt_cons, cnt_app a L M, Nat.add_assoc]
theorem cnt_perm {a : Nat × Obj} {L M : SH} (h : L.Perm M) : cnt a L = cnt a M := by
  induction h with
  | nil => rfl
  | cons x _ ih => rw [cnt_cons, cnt_cons, ih]
  | swap x y l => rw [cnt_cons, cnt_cons, cnt_cons, cnt_cons]; omega
  | trans _ _ ih1 ih2 => rw [ih1, ih2]
theorem iv_self (x : Nat × Obj) : iv x x = 1 := by unfold iv; rw [if_pos rfl]
theorem cnt_pos {a : Nat × Obj} : ∀ {T : SH}, 0 < cnt a T → ∃ A B, T = A ++ a :: B
  | [], h => by rw [cnt_nil] at h; omega
  | x :: T, h => by
    by_cases e : x = a
    · exact ⟨[], T, by rw [e]; rfl⟩
    · have : iv a x = 0 := by unfold iv; rw [if_neg e]
      rw [cnt_cons, this, Nat.zero_add] at h
      obtain ⟨A, B, rfl⟩ := cnt_pos h
      exact ⟨x :: A, B, rfl⟩
theorem Sub.cnt {L T : SH} (h : Sub L T) (a : Nat × Obj) : cnt a L ≤ cnt a T := by
  obtain ⟨G, hp⟩ := h
  rw [cnt_perm hp, cnt_app]; omega
theorem sub_of : ∀ {L T : SH}, (∀ a, Go.Px.cnt a L ≤ Go.Px.cnt a T) → Sub L T
  | [], T, _ => ⟨T, by simp⟩
  | x :: L, T, h => by
    have hx := h x
    rw [cnt_cons, iv_self] at hx
    obtain ⟨A, B, rfl⟩ := cnt_pos (show 0 < Go.Px.cnt x T by omega)
    have h2 : Sub L (A ++ B) := sub_of fun a => by
      have := h a
      rw [cnt_cons, cnt_app, cnt_cons] at this
      rw [cnt_app]; omega
    obtain ⟨G, hG⟩ := h2
    exact ⟨G, List.perm_middle.trans (hG.cons x)⟩
/-- from one heap to another one -/
theorem Sub.re {L M T : SH} (h : Sub M T) (g : ∀ a, Go.Px.cnt a L ≤ Go.Px.cnt a M) : Sub L T := (sub_of g).trans h
end Go.Px
