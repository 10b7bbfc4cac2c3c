/- Three-way comparisons, one behind the other; records and their order. -/
import Derived.Test.YtdajglfbbcbgpaaDoorPx10
import Derived.Laws.Strings
namespace Go.Px
set_option linter.unusedVariables false

theorem bl_irrefl : ∀ x, Op.bytesLess x x = false
  | [] => rfl
  | a :: x => by simp [Op.bytesLess, bl_irrefl x]
theorem bl_tri : ∀ x y, Op.bytesLess x y = true ∨ x = y ∨ Op.bytesLess y x = true
  | [], [] => .inr (.inl rfl)
  | [], _ :: _ => .inl rfl
  | _ :: _, [] => .inr (.inr rfl)
  | a :: x, b :: y => by
    simp only [Op.bytesLess, Bool.or_eq_true, decide_eq_true_eq, Bool.and_eq_true, beq_iff_eq, List.cons.injEq]
    by_cases h : a = b
    · subst h
      rcases bl_tri x y with g | g | g
      · exact .inl (.inr ⟨rfl, g⟩)
      · exact .inr (.inl ⟨rfl, g⟩)
      · exact .inr (.inr (.inr ⟨rfl, g⟩))
    · have : a < b ∨ b < a := by
        rw [UInt8.lt_iff_toNat_lt, UInt8.lt_iff_toNat_lt]
        have : a.toNat ≠ b.toNat := fun e => h (UInt8.toNat_inj.1 e)
        omega
      rcases this with g | g
      · exact .inl (.inl g)
      · exact .inr (.inr (.inl g))
theorem bl_trans : ∀ {x y z}, Op.bytesLess x y = true → Op.bytesLess y z = true → Op.bytesLess x z = true
  | _, [], _, h, _ => by simp [Op.bytesLess] at h
  | _, _ :: _, [], _, h => by simp [Op.bytesLess] at h
  | [], _ :: _, _ :: _, _, _ => rfl
  | a :: x, b :: y, c :: z, h, g => by
    simp only [Op.bytesLess, Bool.or_eq_true, decide_eq_true_eq, Bool.and_eq_true, beq_iff_eq] at h g ⊢
    rw [UInt8.lt_iff_toNat_lt] at h g ⊢
    rcases h with h | ⟨rfl, h⟩
    · rcases g with g | ⟨rfl, g⟩
      · exact .inl (by omega)
      · exact .inl h
    · rcases g with g | ⟨rfl, g⟩
      · exact .inl g
      · exact .inr ⟨rfl, bl_trans h g⟩

structure Cm {α : Type} (c : α → α → Int) : Prop where
  vals : ∀ a b, c a b = -1 ∨ c a b = 0 ∨ c a b = 1
  refl : ∀ a, c a a = 0
  anti : ∀ a b, c b a = -(c a b)
  eq : ∀ a b, c a b = 0 → a = b
  trans : ∀ a b d, c a b < 0 → c b d < 0 → c a d < 0
def lexC {α β : Type} (c : α → α → Int) (d : β → β → Int) (p q : α × β) : Int := if c p.1 q.1 = 0 then d p.2 q.2 else c p.1 q.1
theorem Cm.lex {α β : Type} {c : α → α → Int} {d : β → β → Int} (hc : Cm c) (hd : Cm d) : Cm (lexC c d) where
  vals a b := by unfold lexC; split <;> first | exact hd.vals _ _ | exact hc.vals _ _
  refl a := by unfold lexC; rw [if_pos (hc.refl _)]; exact hd.refl _
  anti a b := by
    unfold lexC
    have := hc.anti a.1 b.1
    by_cases h : c a.1 b.1 = 0
    · rw [if_pos h, if_pos (by omega)]; exact hd.anti _ _
    · rw [if_neg h, if_neg (by omega)]; exact this
  eq a b h := by
    unfold lexC at h
    split at h
    · rename_i h1; exact Prod.ext (hc.eq _ _ h1) (hd.eq _ _ h)
    · exact absurd h ‹_›
  trans a b e h g := by
    unfold lexC at h g ⊢
    split at h
    · rename_i h1
      have := hc.eq _ _ h1
      rw [this]
      split at g
      · rename_i h2; rw [if_pos h2]; exact hd.trans _ _ _ h g
      · rename_i h2; rw [if_neg h2]; exact g
    · rename_i h1
      split at g
      · rename_i h2
        have := hc.eq _ _ h2
        rw [← this, if_neg h1]; exact h
      · rename_i h2
        have := hc.trans _ _ _ h g
        rw [if_neg (by omega)]; exact this
theorem Cm.le_trans {α : Type} {c : α → α → Int} (hc : Cm c) {a b d : α} (h : c a b ≤ 0) (g : c b d ≤ 0) : c a d ≤ 0 := by
  by_cases h1 : c a b = 0
  · rw [hc.eq _ _ h1]; exact g
  · by_cases h2 : c b d = 0
    · rw [← hc.eq _ _ h2]; exact h
    · have := hc.trans a b d (by omega) (by omega); omega

def ltB (a b : ByteArray) : Bool := Op.bytesLess a.toList b.toList
def cmpB (a b : ByteArray) : Int := if ltB a b then -1 else if ltB b a then 1 else 0
def cmpI (a b : Int) : Int := if a < b then -1 else if b < a then 1 else 0
theorem toList_inj {a b : ByteArray} (h : a.toList = b.toList) : a = b := by
  rw [ByteArray.toList_eq, ByteArray.toList_eq] at h
  exact ByteArray.ext (Array.toList_inj.1 h)
theorem keq {a b : ByteArray} : (a.toList == b.toList) = true ↔ a = b := by
  rw [beq_iff_eq]; exact ⟨toList_inj, fun h => by rw [h]⟩
theorem cmB : Cm cmpB where
  vals a b := by unfold cmpB; split <;> first | exact .inl rfl | (split <;> first | exact .inr (.inr rfl) | exact .inr (.inl rfl))
  refl a := by simp [cmpB, ltB, bl_irrefl]
  anti a b := by
    unfold cmpB ltB
    rcases bl_tri a.toList b.toList with h | h | h
    · have : Op.bytesLess b.toList a.toList = false := by
        cases hb : Op.bytesLess b.toList a.toList with
        | false => rfl
        | true => have := bl_trans h hb; rw [bl_irrefl] at this; cases this
      simp [h, this]
    · rw [h]; simp [bl_irrefl]
    · have : Op.bytesLess a.toList b.toList = false := by
        cases hb : Op.bytesLess a.toList b.toList with
        | false => rfl
        | true => have := bl_trans h hb; rw [bl_irrefl] at this; cases this
      simp [h, this]
  eq a b h := by
    unfold cmpB ltB at h
    rcases bl_tri a.toList b.toList with g | g | g
    · simp [g] at h
    · exact toList_inj g
    · split at h <;> first | (simp at h; done) | (simp [g] at h)
  trans a b d h g := by
    have key : ∀ x y : ByteArray, cmpB x y < 0 ↔ Op.bytesLess x.toList y.toList = true := fun x y => by
      unfold cmpB ltB
      split
      · simp [*]
      · split <;> simp [*]
    rw [key] at *
    exact bl_trans h g
theorem cmI : Cm cmpI where
  vals a b := by unfold cmpI; split <;> first | exact .inl rfl | (split <;> first | exact .inr (.inr rfl) | exact .inr (.inl rfl))
  refl a := by simp [cmpI]
  anti a b := by unfold cmpI; split <;> split <;> first | omega | (split <;> omega) | skip
  eq a b h := by unfold cmpI at h; split at h <;> first | omega | (split at h <;> omega)
  trans a b d h g := by
    have key : ∀ x y : Int, cmpI x y < 0 ↔ x < y := fun x y => by
      unfold cmpI
      split
      · simp [*]
      · split <;> simp [*]
    rw [key] at *
    omega

/-- a record: its name, type, TTL and data -/
abbrev Rc := ByteArray × Int × Int × ByteArray
def encR (r : Rc) : List Value := [.string r.1, .int .u16 r.2.1, .int .u32 r.2.2.1, .string r.2.2.2]
theorem encR_len (r : Rc) : (encR r).length = 4 := rfl
theorem encR_one (r : Rc) : (encR r).all one = true := rfl
def keyR (r : Rc) : ByteArray × Int × ByteArray × Int := (r.1, r.2.1, r.2.2.2, r.2.2.1)
def cmpR (a b : Rc) : Int := lexC cmpB (lexC cmpI (lexC cmpB cmpI)) (keyR a) (keyR b)
theorem cmR : Cm cmpR := by
  have h : Cm (lexC cmpB (lexC cmpI (lexC cmpB cmpI))) := cmB.lex (cmI.lex (cmB.lex cmI))
  refine ⟨fun a b => h.vals _ _, fun a => h.refl _, fun a b => h.anti _ _, fun a b e => ?_, fun a b d => h.trans _ _ _⟩
  have := h.eq _ _ e
  obtain ⟨a1, a2, a3, a4⟩ := a
  obtain ⟨b1, b2, b3, b4⟩ := b
  simp only [keyR, Prod.mk.injEq] at this
  obtain ⟨rfl, rfl, rfl, rfl⟩ := this
  rfl
end Go.Px
