/- A symbolic heap over the model's worlds, and what it is worth: frames as functions, memory as blocks that stay as they are and blocks that are owned. -/
import Derived.Calls
import Derived.Tactics
import Derived.Deep.Quiet
import Derived.Deep.LoopGhost
import Derived.ScopeJumps
import Derived.KernelRfl
namespace Go.Px
set_option linter.unusedVariables false

abbrev Fr := Nat → Value
def upd (l : Fr) (d : Nat) (v : Value) : Fr := fun i => bif Nat.beq i d then v else l i
theorem beq_ne {i d : Nat} (h : i ≠ d) : Nat.beq i d = false := by
  cases hb : Nat.beq i d
  · rfl
  · exact absurd (Nat.eq_of_beq_eq_true hb) h
theorem upd_eta {l : Fr} {d : Nat} {v : Value} (h : l d = v) : l = upd l d v := by
  funext i
  simp only [upd]
  cases hb : Nat.beq i d
  · rfl
  · have := Nat.eq_of_beq_eq_true hb; subst this; exact h
theorem upd_at (l : Fr) (d : Nat) (v : Value) (i : Nat) : upd l d v i = if i = d then v else l i := by
  simp only [upd]
  by_cases h : i = d
  · subst h; simp
  · rw [if_neg h, beq_ne h]; rfl

def ev (l : Fr) : Operand → Value
  | .tmp t => l t
  | .const v => v
  | .global g => .pointer (some ⟨g, 0, none⟩)
  | .func f => .func (.func f) #[] #[]

structure FrOK (n : Nat) (l : Fr) (a : Act) : Prop where
  size : a.tmps.size = n
  defers : a.defers = []
  at_ : ∀ i, a.tmps.getD i undef = l i

theorem FrOK.eval {n : Nat} {l : Fr} {a : Act} (h : FrOK n l a) : a.eval = ev l := by
  funext x
  cases x <;> simp [Act.eval, ev, h.at_]

theorem FrOK.put {n : Nat} {l : Fr} {a : Act} (h : FrOK n l a) {d : Nat} (hd : d < n) (v : Value) : FrOK n (upd l d v) (a.put (some d) v) := by
  refine ⟨by simp [Act.put, h.size], by simp [Act.put, h.defers], fun i => ?_⟩
  rw [upd_at]
  have := h.at_ i
  have hs := h.size
  simp only [Act.put]
  by_cases hi : i = d
  · subst hi
    rw [if_pos rfl]
    simp [Array.getD, hs, hd]
  · rw [if_neg hi, ← this]
    simp only [Array.getD, Array.size_setIfInBounds]
    split
    · rename_i hlt
      rw [Array.getInternal_eq_getElem, Array.getInternal_eq_getElem, Array.getElem_setIfInBounds]
      rw [if_neg (fun e => hi e.symm)]
    · rfl

structure IMem where
  at_ : Nat → Option Obj
  os : Os
  tape : Nat → Question → Nat
  out : Array (Nat × ByteArray)
  dr : Nat

structure IMem.le (I J : IMem) : Prop where
  at_ : ∀ b o, I.at_ b = some o → J.at_ b = some o
  os : J.os = I.os
  tape : J.tape = I.tape
  out : J.out = I.out
  dr : J.dr = I.dr

theorem IMem.le.refl (I : IMem) : I.le I := ⟨fun _ _ h => h, rfl, rfl, rfl, rfl⟩
theorem IMem.le.trans {I J K : IMem} (h : I.le J) (g : J.le K) : I.le K := ⟨fun b o e => g.at_ b o (h.at_ b o e), g.os.trans h.os, g.tape.trans h.tape, g.out.trans h.out, g.dr.trans h.dr⟩

abbrev SH := List (Nat × Obj)

structure Sat (I : IMem) (S : SH) (w : World) : Prop where
  os : w.os = I.os
  tape : w.tape = I.tape
  out : w.output = I.out
  dr : I.dr ≤ w.drawn
  im : ∀ b o, I.at_ b = some o → w.heap[b]? = some o
  own : ∀ p ∈ S, w.heap[p.1]? = some p.2
  apart : ∀ p ∈ S, I.at_ p.1 = none
  nodup : (S.map (·.1)).Nodup

theorem Sat.drew {I : IMem} {S : SH} {w : World} (h : Sat I S w) : Sat I S { w with drawn := w.drawn + 1 } := ⟨h.os, h.tape, h.out, Nat.le_succ_of_le h.dr, h.im, h.own, h.apart, h.nodup⟩

/-- a new block -/
theorem Sat.new {I : IMem} {S : SH} {w : World} (h : Sat I S w) (o : Obj) : Sat I ((w.heap.size, o) :: S) { w with heap := w.heap.push o } := by
  have hlt : ∀ b o', w.heap[b]? = some o' → b ≠ w.heap.size ∧ (w.heap.push o)[b]? = some o' := by
    intro b o' hb
    have : b < w.heap.size := by
      rcases Nat.lt_or_ge b w.heap.size with h | h
      · exact h
      · rw [Array.getElem?_eq_none h] at hb; cases hb
    exact ⟨by omega, by rw [Array.getElem?_push, if_neg (by omega)]; exact hb⟩
  refine ⟨h.os, h.tape, h.out, h.dr, fun b o' hb => (hlt b o' (h.im b o' hb)).2, fun p hp => ?_, fun p hp => ?_, ?_⟩
  · rcases List.mem_cons.1 hp with rfl | hp
    · simp
    · exact (hlt _ _ (h.own p hp)).2
  · rcases List.mem_cons.1 hp with rfl | hp
    · cases hn : I.at_ w.heap.size with
      | none => rfl
      | some o' => exact absurd rfl (hlt _ _ (h.im _ _ hn)).1
    · exact h.apart p hp
  · simp only [List.map_cons, List.nodup_cons]
    refine ⟨fun hm => ?_, h.nodup⟩
    obtain ⟨p, hp, he⟩ := List.mem_map.1 hm
    exact (hlt _ _ (h.own p hp)).1 he

theorem Sat.perm {I : IMem} {S T : SH} {w : World} (h : Sat I S w) (hp : S.Perm T) : Sat I T w :=
  ⟨h.os, h.tape, h.out, h.dr, h.im, fun p hm => h.own p (hp.mem_iff.2 hm), fun p hm => h.apart p (hp.mem_iff.2 hm), (hp.map _).nodup_iff.1 h.nodup⟩
theorem Sat.drop {I : IMem} {S T : SH} {w : World} (h : Sat I (S ++ T) w) : Sat I T w :=
  ⟨h.os, h.tape, h.out, h.dr, h.im, fun p hm => h.own p (List.mem_append_right _ hm), fun p hm => h.apart p (List.mem_append_right _ hm), by
    have := h.nodup; rw [List.map_append] at this; exact (List.nodup_append.1 this).2.1⟩
theorem Sat.tail {I : IMem} {p : Nat × Obj} {T : SH} {w : World} (h : Sat I (p :: T) w) : Sat I T w := Sat.drop (S := [p]) h

def IMem.add (I : IMem) (b : Nat) (o : Obj) : IMem := { I with at_ := fun i => if i = b then some o else I.at_ i }
/-- an owned block is published: from now on it stays as it is -/
theorem Sat.publish {I : IMem} {b : Nat} {o : Obj} {T : SH} {w : World} (h : Sat I ((b, o) :: T) w) : Sat (I.add b o) T w ∧ I.le (I.add b o) := by
  have hb : I.at_ b = none := h.apart (b, o) (List.mem_cons_self ..)
  refine ⟨⟨h.os, h.tape, h.out, h.dr, fun i o' hi => ?_, h.tail.own, fun p hp => ?_, h.tail.nodup⟩, ⟨fun i o' hi => ?_, rfl, rfl, rfl, rfl⟩⟩
  · simp only [IMem.add] at hi
    split at hi
    · rename_i e; subst e; injection hi with hi; subst hi; exact h.own (i, o) (List.mem_cons_self ..)
    · exact h.im i o' hi
  · simp only [IMem.add]
    have hn := h.nodup
    simp only [List.map_cons, List.nodup_cons] at hn
    rw [if_neg (fun e : p.1 = b => hn.1 (e ▸ List.mem_map_of_mem hp))]
    exact h.tail.apart p hp
  · simp only [IMem.add]
    split
    · rename_i e; subst e; rw [hb] at hi; cases hi
    · exact hi

/-- what a call does -/
def Runs (P : Program) (f : FuncId) (args : Array Value) (I : IMem) (S : SH) (R : Value → IMem → SH → Prop) : Prop :=
  ∀ w, Sat I S w → Calls P f args w (fun e w' => ∃ v J T, e = .returned v ∧ I.le J ∧ Sat J T w' ∧ R v J T)
theorem Runs.mono {P : Program} {f : FuncId} {args : Array Value} {I : IMem} {S : SH} {R R' : Value → IMem → SH → Prop} (h : Runs P f args I S R)
    (hr : ∀ v J T, I.le J → R v J T → R' v J T) : Runs P f args I S R' :=
  fun w hw => (h w hw).mono fun _ _ ⟨v, J, T, he, hl, hs, hR⟩ => ⟨v, J, T, he, hl, hs, hr v J T hl hR⟩
theorem Runs.perm {P : Program} {f : FuncId} {args : Array Value} {I : IMem} {S S' : SH} {R : Value → IMem → SH → Prop} (hp : S.Perm S') (h : Runs P f args I S' R) : Runs P f args I S R :=
  fun w hw => h w (hw.perm hp)
/-- what is owned beyond a call's need, given away -/
theorem Runs.weaken {P : Program} {f : FuncId} {args : Array Value} {I : IMem} {S S' : SH} {R : Value → IMem → SH → Prop} (hp : ∀ w, Sat I S w → Sat I S' w) (h : Runs P f args I S' R) : Runs P f args I S R :=
  fun w hw => h w (hp w hw)

/-- what code does -/
def WP (P : Program) (n : Nat) (c : Code) (Q : Exit → Fr → IMem → SH → Prop) (l : Fr) (I : IMem) (S : SH) : Prop :=
  ∀ w a, Sat I S w → FrOK n l a → c.wp P (fun e a' w' => ∃ l' J T, FrOK n l' a' ∧ I.le J ∧ Sat J T w' ∧ Q e l' J T) a w

section
variable {P : Program} {n : Nat} {Q Q' : Exit → Fr → IMem → SH → Prop} {l : Fr} {I : IMem} {S : SH}

theorem WP.mono {c : Code} (h : WP P n c Q l I S) (hq : ∀ e l' J T, I.le J → Q e l' J T → Q' e l' J T) : WP P n c Q' l I S :=
  fun w a hw ha => wp_mono (h w a hw ha) fun _ _ _ ⟨l', J, T, h1, h2, h3, h4⟩ => ⟨l', J, T, h1, h2, h3, hq _ _ _ _ h2 h4⟩

def QThen (K : Fr → IMem → SH → Prop) (Q : Exit → Fr → IMem → SH → Prop) : Exit → Fr → IMem → SH → Prop
  | .normal => K
  | e => Q e
theorem WP.seq {x y : Code} (h : WP P n x (QThen (fun l J T => WP P n y Q l J T) Q) l I S) : WP P n (.seq x y) Q l I S := by
  intro w a hw ha
  refine wp_seq (wp_mono (h w a hw ha) ?_)
  rintro e a' w' ⟨l', J, T, h1, h2, h3, h4⟩
  cases e with
  | normal => exact wp_mono (h4 w' a' h3 h1) fun _ _ _ ⟨l'', J', T', g1, g2, g3, g4⟩ => ⟨l'', J', T', g1, h2.trans g2, g3, g4⟩
  | _ => exact ⟨l', J, T, h1, h2, h3, h4⟩

def QBlock (id : Nat) (Q : Exit → Fr → IMem → SH → Prop) : Exit → Fr → IMem → SH → Prop
  | .exit id' => match Nat.beq id' id with
    | true => Q .normal
    | false => Q (.exit id')
  | e => Q e
theorem WP.block {id : Nat} {c : Code} (h : WP P n c (QBlock id Q) l I S) : WP P n (.block id c) Q l I S := by
  intro w a hw ha
  refine wp_block (wp_mono (h w a hw ha) ?_)
  rintro e a' w' ⟨l', J, T, h1, h2, h3, h4⟩
  cases e with
  | exit id' =>
    simp only [QBlock] at h4
    simp only [Exit.inBlock]
    split
    · rename_i e; subst e; rw [show Nat.beq id' id' = true by simp] at h4; exact ⟨l', J, T, h1, h2, h3, h4⟩
    · rename_i e; rw [beq_ne e] at h4; exact ⟨l', J, T, h1, h2, h3, h4⟩
  | _ => exact ⟨l', J, T, h1, h2, h3, h4⟩

theorem WP.loop {c : Code} (Inv : Nat → Fr → IMem → SH → Prop) (m : Nat) (h0 : Inv m l I S)
    (round : ∀ m l J T, I.le J → Inv m l J T → WP P n c (QThen (fun l' J' T' => ∃ m', m' < m ∧ Inv m' l' J' T') Q) l J T) : WP P n (.loop c) Q l I S := by
  intro w a hw ha
  refine wp_loop_ghost (fun m a w => ∃ l J T, FrOK n l a ∧ I.le J ∧ Sat J T w ∧ Inv m l J T) m ⟨l, I, S, ha, IMem.le.refl I, hw, h0⟩ ?_
  rintro m a w ⟨l, J, T, h1, h2, h3, h4⟩
  refine wp_mono (round m l J T h2 h4 w a h3 h1) ?_
  rintro e a' w' ⟨l', J', T', g1, g2, g3, g4⟩
  cases e with
  | normal =>
    obtain ⟨m', hlt, hI⟩ := g4
    exact ⟨m', hlt, l', J', T', g1, h2.trans g2, g3, hI⟩
  | _ => exact ⟨l', J', T', g1, h2.trans g2, g3, g4⟩

/-- a scope whose code jumps to one label -/
def QJump (t : Nat) (K : Fr → IMem → SH → Prop) (Q : Exit → Fr → IMem → SH → Prop) : Exit → Fr → IMem → SH → Prop
  | .goto t' => fun l J T => t' = t ∧ K l J T
  | e => Q e
theorem WP.scope {c rest : Code} (t : Nat) (hf : findLabel c t = some rest) (Inv : Nat → Fr → IMem → SH → Prop)
    (first : WP P n c (QJump t (fun l J T => ∃ m, Inv m l J T) Q) l I S)
    (round : ∀ m l J T, I.le J → Inv m l J T → WP P n rest (QJump t (fun l' J' T' => ∃ m', m' < m ∧ Inv m' l' J' T') Q) l J T) : WP P n (.scope c) Q l I S := by
  intro w a hw ha
  let G : Nat → Act → World → Prop := fun m a w => ∃ l J T, FrOK n l a ∧ I.le J ∧ Sat J T w ∧ Inv m l J T
  refine wp_scope_jumps t (fun a w => ∃ m, G m a w) (fun a w => leastOf (fun m => G m a w)) hf ?_ ?_
  · refine wp_mono (first w a hw ha) ?_
    rintro e a' w' ⟨l', J', T', g1, g2, g3, g4⟩
    cases e with
    | goto t' =>
      obtain ⟨ht, m, hI⟩ := g4
      exact ⟨ht, m, l', J', T', g1, g2, g3, hI⟩
    | _ => exact ⟨l', J', T', g1, g2, g3, g4⟩
  · rintro a w hG
    have hs := (leastOf_spec (p := fun m => G m a w) hG)
    obtain ⟨l, J, T, h1, h2, h3, h4⟩ := hs.1
    refine wp_mono (round _ l J T h2 h4 w a h3 h1) ?_
    rintro e a' w' ⟨l', J', T', g1, g2, g3, g4⟩
    cases e with
    | goto t' =>
      obtain ⟨ht, m', hlt, hI⟩ := g4
      have hG' : G m' a' w' := ⟨l', J', T', g1, h2.trans g2, g3, hI⟩
      exact ⟨ht, ⟨m', hG'⟩, Nat.lt_of_le_of_lt ((leastOf_spec (p := fun m => G m a' w') ⟨m', hG'⟩).2 m' hG') hlt⟩
    | _ => exact ⟨l', J', T', g1, h2.trans g2, g3, g4⟩
/-- a scope that no jump leaves towards its label -/
theorem WP.scope_straight {c : Code} (h : WP P n c (fun | .goto _ => fun _ _ _ => False | e => Q e) l I S) : WP P n (.scope c) Q l I S := by
  intro w a hw ha
  refine wp_scope_straight (wp_mono (h w a hw ha) ?_)
  rintro e a' w' ⟨l', J, T, h1, h2, h3, h4⟩
  cases e with
  | goto t => exact h4.elim
  | _ => exact ⟨l', J, T, h1, h2, h3, h4⟩
end
end Go.Px
