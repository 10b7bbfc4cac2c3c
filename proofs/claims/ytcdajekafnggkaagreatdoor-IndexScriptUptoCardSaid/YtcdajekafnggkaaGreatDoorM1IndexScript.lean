/- A symbolic heap over the model's worlds, and what it is worth: frames as functions, memory as blocks that stay as they are and blocks that are owned. -/
import Derived.Calls
import Derived.Tactics
import Derived.Deep.Quiet
import Derived.Deep.LoopGhost
import Derived.ScopeJumps
import Derived.KernelRfl
import Derived.Maps.AppendAt
import Derived.Deep.AppendSrc
import Derived.Lib.ConvBytes
import Derived.Laws.MakeOwn
import Derived.Orders
import Derived.Below
namespace Go.Px
set_option linter.unusedVariables false

abbrev Fr := Nat → Value
def upd (l : Fr) (d : Nat) (v : Value) : Fr := fun i => bif Nat.beq i d then v else l i
theorem beq_ne {i d : Nat} (h : i ≠ d) : Nat.beq i d = false := by
  cases hb : Nat.beq i d
  · rfl
  · exact absurd (Nat.eq_of_beq_eq_true hb) h
theorem upd_eta {l : Fr} {d : Nat} {v : Value} (h : l d = v) : l = upd l d v := by
  funext i
  simp only [upd]
  cases hb : Nat.beq i d
  · rfl
  · have := Nat.eq_of_beq_eq_true hb; subst this; exact h
theorem upd_at (l : Fr) (d : Nat) (v : Value) (i : Nat) : upd l d v i = if i = d then v else l i := by
  simp only [upd]
  by_cases h : i = d
  · subst h; simp
  · rw [if_neg h, beq_ne h]; rfl

def ev (l : Fr) : Operand → Value
  | .tmp t => l t
  | .const v => v
  | .global g => .pointer (some ⟨g, 0, none⟩)
  | .func f => .func (.func f) #[] #[]

structure FrOK (n : Nat) (l : Fr) (a : Act) : Prop where
  size : a.tmps.size = n
  defers : a.defers = []
  at_ : ∀ i, a.tmps.getD i undef = l i

theorem FrOK.eval {n : Nat} {l : Fr} {a : Act} (h : FrOK n l a) : a.eval = ev l := by
  funext x
  cases x <;> simp [Act.eval, ev, h.at_]

theorem FrOK.put {n : Nat} {l : Fr} {a : Act} (h : FrOK n l a) {d : Nat} (hd : d < n) (v : Value) : FrOK n (upd l d v) (a.put (some d) v) := by
  refine ⟨by simp [Act.put, h.size], by simp [Act.put, h.defers], fun i => ?_⟩
  rw [upd_at]
  have := h.at_ i
  have hs := h.size
  simp only [Act.put]
  by_cases hi : i = d
  · subst hi
    rw [if_pos rfl]
    simp [Array.getD, hs, hd]
  · rw [if_neg hi, ← this]
    simp only [Array.getD, Array.size_setIfInBounds]
    split
    · rename_i hlt
      rw [Array.getInternal_eq_getElem, Array.getInternal_eq_getElem, Array.getElem_setIfInBounds]
      rw [if_neg (fun e => hi e.symm)]
    · rfl

structure IMem where
  at_ : Nat → Option Obj
  os : Os
  tape : Nat → Question → Nat
  out : Array (Nat × ByteArray)
  dr : Nat

structure IMem.le (I J : IMem) : Prop where
  at_ : ∀ b o, I.at_ b = some o → J.at_ b = some o
  os : J.os = I.os
  tape : J.tape = I.tape
  out : J.out = I.out
  dr : J.dr = I.dr

theorem IMem.le.refl (I : IMem) : I.le I := ⟨fun _ _ h => h, rfl, rfl, rfl, rfl⟩
theorem IMem.le.trans {I J K : IMem} (h : I.le J) (g : J.le K) : I.le K := ⟨fun b o e => g.at_ b o (h.at_ b o e), g.os.trans h.os, g.tape.trans h.tape, g.out.trans h.out, g.dr.trans h.dr⟩

abbrev SH := List (Nat × Obj)

structure Sat (I : IMem) (S : SH) (w : World) : Prop where
  os : w.os = I.os
  tape : w.tape = I.tape
  out : w.output = I.out
  dr : I.dr ≤ w.drawn
  im : ∀ b o, I.at_ b = some o → w.heap[b]? = some o
  own : ∀ p ∈ S, w.heap[p.1]? = some p.2
  apart : ∀ p ∈ S, I.at_ p.1 = none
  nodup : (S.map (·.1)).Nodup

theorem Sat.drew {I : IMem} {S : SH} {w : World} (h : Sat I S w) : Sat I S { w with drawn := w.drawn + 1 } := ⟨h.os, h.tape, h.out, Nat.le_succ_of_le h.dr, h.im, h.own, h.apart, h.nodup⟩

/-- a new block -/
theorem Sat.new {I : IMem} {S : SH} {w : World} (h : Sat I S w) (o : Obj) : Sat I ((w.heap.size, o) :: S) { w with heap := w.heap.push o } := by
  have hlt : ∀ b o', w.heap[b]? = some o' → b ≠ w.heap.size ∧ (w.heap.push o)[b]? = some o' := by
    intro b o' hb
    have : b < w.heap.size := by
      rcases Nat.lt_or_ge b w.heap.size with h | h
      · exact h
      · rw [Array.getElem?_eq_none h] at hb; cases hb
    exact ⟨by omega, by rw [Array.getElem?_push, if_neg (by omega)]; exact hb⟩
  refine ⟨h.os, h.tape, h.out, h.dr, fun b o' hb => (hlt b o' (h.im b o' hb)).2, fun p hp => ?_, fun p hp => ?_, ?_⟩
  · rcases List.mem_cons.1 hp with rfl | hp
    · simp
    · exact (hlt _ _ (h.own p hp)).2
  · rcases List.mem_cons.1 hp with rfl | hp
    · cases hn : I.at_ w.heap.size with
      | none => rfl
      | some o' => exact absurd rfl (hlt _ _ (h.im _ _ hn)).1
    · exact h.apart p hp
  · simp only [List.map_cons, List.nodup_cons]
    refine ⟨fun hm => ?_, h.nodup⟩
    obtain ⟨p, hp, he⟩ := List.mem_map.1 hm
    exact (hlt _ _ (h.own p hp)).1 he

theorem Sat.perm {I : IMem} {S T : SH} {w : World} (h : Sat I S w) (hp : S.Perm T) : Sat I T w :=
  ⟨h.os, h.tape, h.out, h.dr, h.im, fun p hm => h.own p (hp.mem_iff.2 hm), fun p hm => h.apart p (hp.mem_iff.2 hm), (hp.map _).nodup_iff.1 h.nodup⟩
theorem Sat.drop {I : IMem} {S T : SH} {w : World} (h : Sat I (S ++ T) w) : Sat I T w :=
  ⟨h.os, h.tape, h.out, h.dr, h.im, fun p hm => h.own p (List.mem_append_right _ hm), fun p hm => h.apart p (List.mem_append_right _ hm), by
    have := h.nodup; rw [List.map_append] at this; exact (List.nodup_append.1 this).2.1⟩
theorem Sat.tail {I : IMem} {p : Nat × Obj} {T : SH} {w : World} (h : Sat I (p :: T) w) : Sat I T w := Sat.drop (S := [p]) h

def IMem.add (I : IMem) (b : Nat) (o : Obj) : IMem := { I with at_ := fun i => if i = b then some o else I.at_ i }
/-- what a call does -/
def Runs (P : Program) (f : FuncId) (args : Array Value) (I : IMem) (S : SH) (R : Value → IMem → SH → Prop) : Prop :=
  ∀ w, Sat I S w → Calls P f args w (fun e w' => ∃ v J T, e = .returned v ∧ I.le J ∧ Sat J T w' ∧ R v J T)
theorem Runs.mono {P : Program} {f : FuncId} {args : Array Value} {I : IMem} {S : SH} {R R' : Value → IMem → SH → Prop} (h : Runs P f args I S R)
    (hr : ∀ v J T, I.le J → R v J T → R' v J T) : Runs P f args I S R' :=
  fun w hw => (h w hw).mono fun _ _ ⟨v, J, T, he, hl, hs, hR⟩ => ⟨v, J, T, he, hl, hs, hr v J T hl hR⟩
theorem Runs.perm {P : Program} {f : FuncId} {args : Array Value} {I : IMem} {S S' : SH} {R : Value → IMem → SH → Prop} (hp : S.Perm S') (h : Runs P f args I S' R) : Runs P f args I S R :=
  fun w hw => h w (hw.perm hp)
/-- what is owned beyond a call's need, given away -/
theorem Runs.weaken {P : Program} {f : FuncId} {args : Array Value} {I : IMem} {S S' : SH} {R : Value → IMem → SH → Prop} (hp : ∀ w, Sat I S w → Sat I S' w) (h : Runs P f args I S' R) : Runs P f args I S R :=
  fun w hw => h w (hp w hw)

/-- what code does -/
def WP (P : Program) (n : Nat) (c : Code) (Q : Exit → Fr → IMem → SH → Prop) (l : Fr) (I : IMem) (S : SH) : Prop :=
  ∀ w a, Sat I S w → FrOK n l a → c.wp P (fun e a' w' => ∃ l' J T, FrOK n l' a' ∧ I.le J ∧ Sat J T w' ∧ Q e l' J T) a w

section
variable {P : Program} {n : Nat} {Q Q' : Exit → Fr → IMem → SH → Prop} {l : Fr} {I : IMem} {S : SH}

theorem WP.mono {c : Code} (h : WP P n c Q l I S) (hq : ∀ e l' J T, I.le J → Q e l' J T → Q' e l' J T) : WP P n c Q' l I S :=
  fun w a hw ha => wp_mono (h w a hw ha) fun _ _ _ ⟨l', J, T, h1, h2, h3, h4⟩ => ⟨l', J, T, h1, h2, h3, hq _ _ _ _ h2 h4⟩

def QThen (K : Fr → IMem → SH → Prop) (Q : Exit → Fr → IMem → SH → Prop) : Exit → Fr → IMem → SH → Prop
  | .normal => K
  | e => Q e
theorem WP.seq {x y : Code} (h : WP P n x (QThen (fun l J T => WP P n y Q l J T) Q) l I S) : WP P n (.seq x y) Q l I S := by
  intro w a hw ha
  refine wp_seq (wp_mono (h w a hw ha) ?_)
  rintro e a' w' ⟨l', J, T, h1, h2, h3, h4⟩
  cases e with
  | normal => exact wp_mono (h4 w' a' h3 h1) fun _ _ _ ⟨l'', J', T', g1, g2, g3, g4⟩ => ⟨l'', J', T', g1, h2.trans g2, g3, g4⟩
  | _ => exact ⟨l', J, T, h1, h2, h3, h4⟩

def QBlock (id : Nat) (Q : Exit → Fr → IMem → SH → Prop) : Exit → Fr → IMem → SH → Prop
  | .exit id' => match Nat.beq id' id with
    | true => Q .normal
    | false => Q (.exit id')
  | e => Q e
theorem WP.block {id : Nat} {c : Code} (h : WP P n c (QBlock id Q) l I S) : WP P n (.block id c) Q l I S := by
  intro w a hw ha
  refine wp_block (wp_mono (h w a hw ha) ?_)
  rintro e a' w' ⟨l', J, T, h1, h2, h3, h4⟩
  cases e with
  | exit id' =>
    simp only [QBlock] at h4
    simp only [Exit.inBlock]
    split
    · rename_i e; subst e; rw [show Nat.beq id' id' = true by simp] at h4; exact ⟨l', J, T, h1, h2, h3, h4⟩
    · rename_i e; rw [beq_ne e] at h4; exact ⟨l', J, T, h1, h2, h3, h4⟩
  | _ => exact ⟨l', J, T, h1, h2, h3, h4⟩

theorem WP.loop {c : Code} (Inv : Nat → Fr → IMem → SH → Prop) (m : Nat) (h0 : Inv m l I S)
    (round : ∀ m l J T, I.le J → Inv m l J T → WP P n c (QThen (fun l' J' T' => ∃ m', m' < m ∧ Inv m' l' J' T') Q) l J T) : WP P n (.loop c) Q l I S := by
  intro w a hw ha
  refine wp_loop_ghost (fun m a w => ∃ l J T, FrOK n l a ∧ I.le J ∧ Sat J T w ∧ Inv m l J T) m ⟨l, I, S, ha, IMem.le.refl I, hw, h0⟩ ?_
  rintro m a w ⟨l, J, T, h1, h2, h3, h4⟩
  refine wp_mono (round m l J T h2 h4 w a h3 h1) ?_
  rintro e a' w' ⟨l', J', T', g1, g2, g3, g4⟩
  cases e with
  | normal =>
    obtain ⟨m', hlt, hI⟩ := g4
    exact ⟨m', hlt, l', J', T', g1, h2.trans g2, g3, hI⟩
  | _ => exact ⟨l', J', T', g1, h2.trans g2, g3, g4⟩

/-- a scope whose code jumps to one label -/
def QJump (t : Nat) (K : Fr → IMem → SH → Prop) (Q : Exit → Fr → IMem → SH → Prop) : Exit → Fr → IMem → SH → Prop
  | .goto t' => fun l J T => t' = t ∧ K l J T
  | e => Q e
theorem WP.scope {c rest : Code} (t : Nat) (hf : findLabel c t = some rest) (Inv : Nat → Fr → IMem → SH → Prop)
    (first : WP P n c (QJump t (fun l J T => ∃ m, Inv m l J T) Q) l I S)
    (round : ∀ m l J T, I.le J → Inv m l J T → WP P n rest (QJump t (fun l' J' T' => ∃ m', m' < m ∧ Inv m' l' J' T') Q) l J T) : WP P n (.scope c) Q l I S := by
  intro w a hw ha
  let G : Nat → Act → World → Prop := fun m a w => ∃ l J T, FrOK n l a ∧ I.le J ∧ Sat J T w ∧ Inv m l J T
  refine wp_scope_jumps t (fun a w => ∃ m, G m a w) (fun a w => leastOf (fun m => G m a w)) hf ?_ ?_
  · refine wp_mono (first w a hw ha) ?_
    rintro e a' w' ⟨l', J', T', g1, g2, g3, g4⟩
    cases e with
    | goto t' =>
      obtain ⟨ht, m, hI⟩ := g4
      exact ⟨ht, m, l', J', T', g1, g2, g3, hI⟩
    | _ => exact ⟨l', J', T', g1, g2, g3, g4⟩
  · rintro a w hG
    have hs := (leastOf_spec (p := fun m => G m a w) hG)
    obtain ⟨l, J, T, h1, h2, h3, h4⟩ := hs.1
    refine wp_mono (round _ l J T h2 h4 w a h3 h1) ?_
    rintro e a' w' ⟨l', J', T', g1, g2, g3, g4⟩
    cases e with
    | goto t' =>
      obtain ⟨ht, m', hlt, hI⟩ := g4
      have hG' : G m' a' w' := ⟨l', J', T', g1, h2.trans g2, g3, hI⟩
      exact ⟨ht, ⟨m', hG'⟩, Nat.lt_of_le_of_lt ((leastOf_spec (p := fun m => G m a' w') ⟨m', hG'⟩).2 m' hG') hlt⟩
    | _ => exact ⟨l', J', T', g1, h2.trans g2, g3, g4⟩
end
end Go.Px
/- What one operation asks and gives, as a proposition over frames and symbolic heaps; and that it is right. -/
namespace Go.Px
set_option linter.unusedVariables false
set_option linter.unusedSimpArgs false

def bcase (t : Bool) (A B : Prop) : Prop := match t with
  | true => A
  | false => B
theorem bcase_of {t : Bool} {A B : Prop} (h1 : t = true → A) (h2 : t = false → B) : bcase t A B := by cases t <;> simp_all [bcase]
theorem bcase_t {t : Bool} {A B : Prop} (h : t = true) (h1 : A) : bcase t A B := by subst h; exact h1
theorem bcase_f {t : Bool} {A B : Prop} (h : t = false) (h1 : B) : bcase t A B := by subst h; exact h1
theorem bcase_dec {p : Prop} [Decidable p] {A B : Prop} (h1 : p → A) (h2 : ¬ p → B) : bcase (decide p) A B :=
  bcase_of (fun h => h1 (of_decide_eq_true h)) (fun h => h2 (of_decide_eq_false h))
theorem bcase_beq {α : Type} [BEq α] [LawfulBEq α] {x y : α} {A B : Prop} (h1 : x = y → A) (h2 : x ≠ y → B) : bcase (x == y) A B :=
  bcase_of (fun h => h1 (eq_of_beq h)) (fun h => h2 (fun e => by subst e; simp at h))
theorem bcase_bne {α : Type} [BEq α] [LawfulBEq α] {x y : α} {A B : Prop} (h1 : x ≠ y → A) (h2 : x = y → B) : bcase (x != y) A B :=
  bcase_of (fun h => h1 (by simpa using h)) (fun h => h2 (by simpa using h))
theorem bcase_not {t : Bool} {A B : Prop} (h : bcase t B A) : bcase (!t) A B := by cases t <;> exact h

def putP (n : Nat) (d : Option Tmp) (v : Value) (K : Fr → IMem → SH → Prop) (l : Fr) (I : IMem) (S : SH) : Prop := match d with
  | none => K l I S
  | some d => match Nat.blt d n with
    | true => K (upd l d v) I S
    | false => False

def eval0 {α : Type} (P : Program) : Sem α → Option α
  | .pure a => some a
  | .program k => eval0 P (k P)
  | _ => none
theorem run_of_eval0 {α : Type} {P : Program} {w : World} : ∀ {s : Sem α} {a : α}, eval0 P s = some a → s.run P w = .ok a w
  | .pure b, a, h => by simp [eval0] at h; subst h; rfl
  | .program k, a, h => by simp only [eval0] at h; simp only [Sem.run]; exact run_of_eval0 h
  | .load .., _, h => by simp [eval0] at h
  | .store .., _, h => by simp [eval0] at h
  | .new .., _, h => by simp [eval0] at h
  | .shape .., _, h => by simp [eval0] at h
  | .freeze .., _, h => by simp [eval0] at h
  | .frozen .., _, h => by simp [eval0] at h
  | .getObj .., _, h => by simp [eval0] at h
  | .setObj .., _, h => by simp [eval0] at h
  | .choose .., _, h => by simp [eval0] at h
  | .sys .., _, h => by simp [eval0] at h
  | .mark .., _, h => by simp [eval0] at h
  | .halt .., _, h => by simp [eval0] at h

/-! ### kinds of cells -/
inductive Sc where
  | bool | int (k : IntKind) | str | ptr | slice | map | flt | cpx | other
def scD : TypeDesc → Sc
  | .bool => .bool
  | .int k => .int k
  | .string => .str
  | .pointer _ => .ptr
  | .unsafePointer => .ptr
  | .slice _ => .slice
  | .map .. => .map
  | .float .f64 => .flt
  | .complex .f64 => .cpx
  | _ => .other
def exS : Sc → (Value → Prop) → Prop
  | .bool, K => ∃ b, K (.bool b)
  | .int k, K => ∃ n, K (.int k n)
  | .str, K => ∃ s, K (.string s)
  | .ptr, K => ∃ p, K (.pointer p)
  | .slice, K => ∃ p n c, K (.slice p n c)
  | .map, K => ∃ r, K (.map r)
  | .flt, K => ∃ n, K (.float .f64 n)
  | .cpx, K => ∃ a b, K (.complex .f64 a b)
  | .other, K => ∃ v, K v
theorem exS_elim {s : Sc} {K : Value → Prop} (h : exS s K) : ∃ v, K v := by
  cases s <;> simp only [exS] at h
  case slice => obtain ⟨p, n, c, h⟩ := h; exact ⟨_, h⟩
  case cpx => obtain ⟨a, b, h⟩ := h; exact ⟨_, h⟩
  all_goals (obtain ⟨x, h⟩ := h; exact ⟨_, h⟩)
def exL : List Sc → (List Value → Prop) → Prop
  | [], K => K []
  | s :: ss, K => exS s fun v => exL ss fun vs => K (v :: vs)
theorem exL_elim : ∀ {ss : List Sc} {K : List Value → Prop}, exL ss K → ∃ vs, K vs
  | [], _, h => ⟨[], h⟩
  | s :: ss, K, h => by
    obtain ⟨v, h⟩ := exS_elim h
    obtain ⟨vs, h⟩ := exL_elim h
    exact ⟨_, h⟩
def flat (P : Program) : Nat → TypeId → List Sc
  | 0, _ => []
  | d + 1, t => match P.underlying t with
    | some (.struct fs) => fs.toList.flatMap fun f => flat P d f.type
    | some (.array n e) => (List.replicate n (flat P d e)).flatten
    | some u => [scD u]
    | none => []
def exTy (P : Program) (t : TypeId) (K : Value → Prop) : Prop := match P.underlying t with
  | some (.struct _) => exL (flat P 6 t) fun vs => K (.agg vs.toArray)
  | some (.array _ _) => exL (flat P 6 t) fun vs => K (.agg vs.toArray)
  | some d => exS (scD d) K
  | none => ∃ v, K v
theorem exTy_elim {P : Program} {t : TypeId} {K : Value → Prop} (h : exTy P t K) : ∃ v, K v := by
  unfold exTy at h
  split at h
  · obtain ⟨vs, h⟩ := exL_elim h; exact ⟨_, h⟩
  · obtain ⟨vs, h⟩ := exL_elim h; exact ⟨_, h⟩
  · exact exS_elim h
  · exact h
def exTs (P : Program) : List TypeId → (List Value → Prop) → Prop
  | [], K => K []
  | t :: ts, K => exTy P t fun v => exTs P ts fun vs => K (v :: vs)
theorem exTs_elim {P : Program} : ∀ {ts : List TypeId} {K : List Value → Prop}, exTs P ts K → ∃ vs, K vs
  | [], _, h => ⟨[], h⟩
  | t :: ts, K, h => by
    obtain ⟨v, h⟩ := exTy_elim h
    obtain ⟨vs, h⟩ := exTs_elim h
    exact ⟨_, h⟩
def asTy (P : Program) (t : TypeId) (v : Value) (K : Value → Prop) : Prop := match P.underlying t with
  | some (.tuple ts) => exTs P ts.toList fun vs => v = .tuple vs.toArray ∧ K (.tuple vs.toArray)
  | _ => exTy P t fun u => v = u ∧ K u
theorem asTy_elim {P : Program} {t : TypeId} {v : Value} {K : Value → Prop} (h : asTy P t v K) : K v := by
  unfold asTy at h
  split at h
  · obtain ⟨vs, hv, h⟩ := exTs_elim h; rw [hv]; exact h
  · obtain ⟨u, hv, h⟩ := exTy_elim h; rw [hv]; exact h

/-! ### memory -/
def Cell (I : IMem) (S : SH) (a : Addr) (v : Value) : Prop :=
  a.spot = none ∧ ∃ cs e fz, (I.at_ a.block = some (.cells cs e fz) ∨ (a.block, Obj.cells cs e fz) ∈ S) ∧ cs[a.off]? = some v
theorem Cell.run {I : IMem} {S : SH} {a : Addr} {v : Value} {w : World} (h : Cell I S a v) (hw : Sat I S w) : w.cell? a = some v := by
  obtain ⟨hs, cs, e, fz, hb, hv⟩ := h
  have : w.heap[a.block]? = some (.cells cs e fz) := by
    rcases hb with hb | hb
    · exact hw.im _ _ hb
    · exact hw.own _ hb
  simp [World.cell?, this, hs, hv]
def LdL (I : IMem) (S : SH) (a : Addr) : Nat → List Sc → (List Value → Prop) → Prop
  | _, [], K => K []
  | i, s :: ss, K => exS s fun v => Cell I S (a.add i) v ∧ LdL I S a (i + 1) ss fun vs => K (v :: vs)
def LdP (P : Program) (t : TypeId) (I : IMem) (S : SH) (a : Addr) (K : Value → Prop) : Prop := match P.underlying t with
  | some (.struct _) => (match Nat.beq (flat P 6 t).length (P.cellsOf t) with | true => LdL I S a 0 (flat P 6 t) fun vs => K (.agg vs.toArray) | false => False)
  | some (.array _ _) => (match Nat.beq (flat P 6 t).length (P.cellsOf t) with | true => LdL I S a 0 (flat P 6 t) fun vs => K (.agg vs.toArray) | false => False)
  | some d => exS (scD d) fun v => Cell I S a v ∧ K v
  | none => False
theorem LdL_elim {I : IMem} {S : SH} {a : Addr} : ∀ {ss : List Sc} {i : Nat} {K : List Value → Prop}, LdL I S a i ss K → ∃ vs, vs.length = ss.length ∧ (∀ j v, vs[j]? = some v → Cell I S (a.add (i + j)) v) ∧ K vs
  | [], i, K, h => ⟨[], rfl, fun j v h => by simp at h, h⟩
  | s :: ss, i, K, h => by
    obtain ⟨v, hc, h⟩ := exS_elim h
    obtain ⟨vs, hl, hcs, h⟩ := LdL_elim h
    refine ⟨v :: vs, by simp [hl], fun j u hj => ?_, h⟩
    cases j with
    | zero => simp at hj; subst hj; exact hc
    | succ j => simp at hj; rw [show i + (j + 1) = i + 1 + j by omega]; exact hcs j u hj
theorem run_loadCells {P : Program} {w : World} {a : Addr} : ∀ (vs : List Value) (i : Nat) (acc : Array Value), (∀ j v, vs[j]? = some v → w.cell? (a.add (i + j)) = some v) →
    (loadCellsFrom a i vs.length acc).run P w = .ok (acc ++ vs.toArray) w
  | [], i, acc, h => by simp [loadCellsFrom]
  | v :: vs, i, acc, h => by
    have h0 := h 0 v rfl
    have ih := run_loadCells (P := P) vs (i + 1) (acc.push v) (fun j u hj => by rw [show i + 1 + j = i + (j + 1) by omega]; exact h (j + 1) u (by simpa using hj))
    simp only [Nat.add_zero] at h0
    simp [loadCellsFrom, load, Sem.run, h0, ih]
def aggB : TypeDesc → Bool
  | .struct _ => true
  | .array _ _ => true
  | _ => false
theorem run_isAgg {P : Program} {w : World} {t : TypeId} {d : TypeDesc} (h : P.underlying t = some d) : (isAgg t).run P w = .ok (aggB d) w := by
  have : (underlying t).run P w = .ok d w := by simp [underlying, program, Sem.run, h]
  simp only [isAgg, Sem.run_bind, this, Result.andThen_ok]
  cases d <;> rfl
theorem info_of_underlying {P : Program} {t : TypeId} {d : TypeDesc} (h : P.underlying t = some d) : ∃ i, P.info? t = some i ∧ P.cellsOf t = i.size := by
  unfold Program.underlying at h
  cases hi : P.info? t with
  | none => rw [hi] at h; cases h
  | some i => exact ⟨i, rfl, by simp [Program.cellsOf, hi]⟩
theorem run_sizeOf {P : Program} {w : World} {t : TypeId} {i : TypeInfo} (h : P.info? t = some i) : (sizeOf t).run P w = .ok i.size w := by
  simp [sizeOf, typeInfo, program, Sem.run, h]
theorem LdP.run {P : Program} {t : TypeId} {I : IMem} {S : SH} {a : Addr} {K : Value → Prop} (h : LdP P t I S a K) :
    ∃ v, (∀ w, Sat I S w → (Instr.loadAt t (.pointer (some a))).run P w = .ok v w) ∧ K v := by
  have hload : ∀ v w, w.cell? a = some v → (load a).run P w = .ok v w := fun v w hv => by simp [load, Sem.run, hv]
  have big : ∀ d, P.underlying t = some d → aggB d = true → (flat P 6 t).length = P.cellsOf t →
      LdL I S a 0 (flat P 6 t) (fun vs => K (.agg vs.toArray)) → ∃ v, (∀ w, Sat I S w → (Instr.loadAt t (.pointer (some a))).run P w = .ok v w) ∧ K v := by
    intro d hd hag hlen hl
    obtain ⟨vs, hvl, hc, hK⟩ := LdL_elim hl
    obtain ⟨i, hi, hsz⟩ := info_of_underlying hd
    refine ⟨.agg vs.toArray, fun w hw => ?_, hK⟩
    have hr := run_loadCells (P := P) (w := w) (a := a) vs 0 #[] (fun j v hj => (hc j v hj).run hw)
    simp only [Instr.loadAt, Instr.sureAddr, loadVar, Sem.run_bind, Sem.run_pure, Result.andThen_ok, run_isAgg hd, hag, if_true, run_sizeOf hi, loadCells]
    rw [← hsz, ← hlen, ← hvl, hr]
    simp
  unfold LdP at h
  split at h
  · rename_i fs hd
    split at h
    · rename_i hb; exact big _ hd rfl (Nat.eq_of_beq_eq_true hb) h
    · exact h.elim
  · rename_i n e hd
    split at h
    · rename_i hb; exact big _ hd rfl (Nat.eq_of_beq_eq_true hb) h
    · exact h.elim
  · rename_i d h1 h2 hd
    obtain ⟨v, hc, hK⟩ := exS_elim h
    refine ⟨v, fun w hw => ?_, hK⟩
    have hag : aggB d = false := by
      cases d <;> first | rfl | exact absurd rfl (h1 _) | exact absurd rfl (h2 _ _)
    simp only [Instr.loadAt, Instr.sureAddr, loadVar, Sem.run_bind, Sem.run_pure, Result.andThen_ok, run_isAgg hd, hag, Bool.false_eq_true, if_false, hload v w (hc.run hw)]
  · exact h.elim

/-- a load from a package-level variable of an interface type: what it holds is not nil -/
def LdX (P : Program) (x : Operand) (t : TypeId) (I : IMem) (S : SH) (a : Addr) (K : Value → Prop) : Prop := match x with
  | .global _ => (match P.underlying t with
    | some (.interface _) => ∃ ti v, Cell I S a (.iface ti v) ∧ K (.iface ti v)
    | _ => LdP P t I S a K)
  | _ => LdP P t I S a K
theorem LdX.ld {P : Program} {x : Operand} {t : TypeId} {I : IMem} {S : SH} {a : Addr} {K : Value → Prop} (h : LdX P x t I S a K) : LdP P t I S a K := by
  unfold LdX at h
  split at h
  · split at h
    · rename_i ms hu
      obtain ⟨ti, v, hc, hK⟩ := h
      unfold LdP
      rw [hu]
      exact ⟨_, hc, hK⟩
    · exact h
  · exact h
theorem LdX.run {P : Program} {x : Operand} {t : TypeId} {I : IMem} {S : SH} {a : Addr} {K : Value → Prop} (h : LdX P x t I S a K) :
    ∃ v, (∀ w, Sat I S w → (Instr.loadAt t (.pointer (some a))).run P w = .ok v w) ∧ K v := h.ld.run

def one : Value → Bool
  | .agg _ | .tuple _ => false
  | _ => true
def setR (cs : Array Value) (o : Nat) : List Value → Array Value
  | [] => cs
  | v :: vs => setR (cs.setIfInBounds o v) (o + 1) vs
theorem setR_size : ∀ (vs : List Value) (cs : Array Value) (o : Nat), (setR cs o vs).size = cs.size
  | [], _, _ => rfl
  | v :: vs, cs, o => by simp [setR, setR_size vs]
def StP (S : SH) (a : Addr) (vs : List Value) (K : SH → Prop) : Prop :=
  ∃ i cs e fz, a.spot = none ∧ S[i]? = some (a.block, .cells cs e fz) ∧ a.off + vs.length ≤ cs.size ∧ (fz.2 ≤ fz.1 ∨ a.off + vs.length ≤ fz.1 ∨ fz.2 ≤ a.off) ∧ vs.all one = true ∧
    K (S.set i (a.block, .cells (setR cs a.off vs) e fz))

theorem Sat.set {I : IMem} {S : SH} {w : World} (h : Sat I S w) {i : Nat} {b : Nat} {o o' : Obj} (hi : S[i]? = some (b, o)) {w' : World} (hos : w'.os = w.os) (ht : w'.tape = w.tape) (hout : w'.output = w.output)
    (hb : w'.heap[b]? = some o') (hrest : ∀ b', b' ≠ b → w'.heap[b']? = w.heap[b']?) (hdr : w'.drawn = w.drawn) : Sat I (S.set i (b, o')) w' := by
  have hil : i < S.length := by
    rcases Nat.lt_or_ge i S.length with h | h
    · exact h
    · rw [List.getElem?_eq_none h] at hi; cases hi
  have hSi : S[i] = (b, o) := by rw [List.getElem?_eq_getElem hil] at hi; injection hi
  have hmap : (S.set i (b, o')).map (·.1) = S.map (·.1) := by
    rw [List.map_set]
    have : (S.map (·.1))[i]? = some b := by simp [hi]
    apply List.ext_getElem?
    intro j
    rw [List.getElem?_set]
    split
    · rename_i e; subst e; simp [hil, hSi]
    · rfl
  have hIb : I.at_ b = none := h.apart (b, o) (hSi ▸ List.getElem_mem hil)
  refine ⟨hos.trans h.os, ht.trans h.tape, hout.trans h.out, by rw [hdr]; exact h.dr, fun b' o'' hb' => ?_, fun p hp => ?_, fun p hp => ?_, by rw [hmap]; exact h.nodup⟩
  · rw [hrest b' (fun e => by subst e; rw [hIb] at hb'; cases hb')]; exact h.im _ _ hb'
  · obtain ⟨j, hj, hjp⟩ := List.mem_iff_getElem.1 hp
    simp only [List.length_set] at hj
    rw [List.getElem_set] at hjp
    split at hjp
    · subst hjp; exact hb
    · rename_i hne
      have hpm : p ∈ S := hjp ▸ List.getElem_mem hj
      have : p.1 ≠ b := by
        intro e
        have h1 : (S.map (·.1))[j]'(by simpa using hj) = p.1 := by simp [hjp]
        have h2 : (S.map (·.1))[i]'(by simpa using hil) = b := by simp [hSi]
        exact hne ((List.getElem_inj h.nodup).1 (h2.trans (e.symm.trans h1.symm)))
      rw [hrest _ this]; exact h.own p hpm
  · have : p.1 ∈ (S.set i (b, o')).map (·.1) := List.mem_map_of_mem hp
    rw [hmap] at this
    obtain ⟨q, hq, he⟩ := List.mem_map.1 this
    rw [← he]; exact h.apart q hq

theorem run_storeCells {P : Program} {b : Nat} {e : TypeId} {fz : Nat × Nat} {o : Nat} : ∀ (vs : List Value) (i : Nat) (cs : Array Value) (w : World), w.heap[b]? = some (.cells cs e fz) → o + i + vs.length ≤ cs.size →
    (fz.2 ≤ fz.1 ∨ o + i + vs.length ≤ fz.1 ∨ fz.2 ≤ o + i) → vs.all one = true →
    ∃ w', (storeCells ⟨b, o, none⟩ vs i).run P w = .ok () w' ∧ w'.os = w.os ∧ w'.tape = w.tape ∧ w'.output = w.output ∧ w'.heap[b]? = some (.cells (setR cs (o + i) vs) e fz) ∧ (∀ b', b' ≠ b → w'.heap[b']? = w.heap[b']?) ∧ w'.drawn = w.drawn
  | [], i, cs, w, hb, _, _, _ => ⟨w, by simp [storeCells], rfl, rfl, rfl, by simpa [setR] using hb, fun _ _ => rfl, rfl⟩
  | v :: vs, i, cs, w, hb, hlen, hfz, hone => by
    simp only [List.length_cons] at hlen hfz
    simp only [List.all_cons, Bool.and_eq_true] at hone
    have ha : (⟨b, o, none⟩ : Addr).add i = ⟨b, o + i, none⟩ := by
      unfold Addr.add; split
      · rename_i h; subst h; rfl
      · rfl
    have hc : w.cell? ⟨b, o + i, none⟩ = some (cs[o + i]'(by omega)) := by simp [World.cell?, hb]
    have hf : w.frozen? ⟨b, o + i, none⟩ = false := by
      simp only [World.frozen?, hb, Bool.and_eq_false_iff, decide_eq_false_iff_not]; omega
    have hst : (store (⟨b, o + i, none⟩ : Addr) v).run P w = .ok () (w.setCell ⟨b, o + i, none⟩ v) := by
      cases v <;> first | (simp [one] at hone; done) | simp [store, Sem.run, hc, hf]
    have hlt : b < w.heap.size := by
      rcases Nat.lt_or_ge b w.heap.size with h | h
      · exact h
      · rw [Array.getElem?_eq_none h] at hb; cases hb
    have hb' : (w.setCell ⟨b, o + i, none⟩ v).heap[b]? = some (.cells (cs.setIfInBounds (o + i) v) e fz) := by
      simp only [World.setCell]
      rw [Array.getElem?_modify]
      simp [hb]
    have hr' : ∀ b', b' ≠ b → (w.setCell ⟨b, o + i, none⟩ v).heap[b']? = w.heap[b']? := by
      intro b' hne
      simp only [World.setCell]
      rw [Array.getElem?_modify, if_neg (fun e => hne e.symm)]
    obtain ⟨w', h1, h2, h3, h4, h5, h6, h7⟩ := run_storeCells (P := P) (o := o) vs (i + 1) (cs.setIfInBounds (o + i) v) (w.setCell ⟨b, o + i, none⟩ v) hb' (by simp; omega) (by omega) hone.2
    refine ⟨w', ?_, h2, h3, h4, ?_, fun b' hne => (h6 b' hne).trans (hr' b' hne), h7⟩
    · simp only [storeCells, ha, Sem.run_bind, hst, Result.andThen_ok, h1]
    · rw [h5]; rfl

theorem StP.run {P : Program} {t : TypeId} {d : TypeDesc} {I : IMem} {S : SH} {a : Addr} {v : Value} {K : SH → Prop} {w : World} (hd : P.underlying t = some d) (hsz : v.cells.size = P.cellsOf t)
    (h : StP S a v.cells.toList K) (hw : Sat I S w) : ∃ T w', (Instr.storeAt t (.pointer (some a)) v).run P w = .ok () w' ∧ Sat I T w' ∧ K T := by
  obtain ⟨i, cs, e, fz, hs, hi, hlen, hfz, hone, hK⟩ := h
  obtain ⟨b, o, sp⟩ := a
  dsimp only at hs; subst hs
  have hb := hw.own (b, .cells cs e fz) (List.mem_of_getElem? hi)
  obtain ⟨w', h1, h2, h3, h4, h5, h6, h7⟩ := run_storeCells (P := P) (o := o) v.cells.toList 0 cs w hb (by simpa using hlen) (by simpa using hfz) hone
  obtain ⟨inf, hinf, hcs⟩ := info_of_underlying hd
  refine ⟨_, w', ?_, hw.set hi h2 h3 h4 h5 h6 h7, hK⟩
  simp only [Instr.storeAt, Instr.sureAddr, storeVar, Sem.run_bind, Sem.run_pure, Result.andThen_ok, run_sizeOf hinf]
  rw [if_neg (by rw [hsz, hcs]; simp)]
  simpa using h1
end Go.Px
/- Operations: what each asks and gives; soundness against the model's own operations. -/
namespace Go.Px
set_option linter.unusedVariables false
set_option linter.unusedSimpArgs false

/-! ### slices that the call owns; what is read -/
def Rd (I : IMem) (S : SH) (sz : Nat) (x : Value) (m : Nat) (vs : List Value) : Prop :=
  ∃ A c, x = .slice A m c ∧ vs.length = m * sz ∧ ∀ j u, vs[j]? = some u → ∃ a, A = some a ∧ Cell I S (a.add j) u
theorem one_oneCell {v : Value} (h : one v = true) : v.oneCell' = true := by cases v <;> first | rfl | simp [one] at h

/-! ### operations that build -/
def fillS (P : Program) (fs : List Field) : Array Value → List (Nat × Value) → Option (Array Value)
  | cs, [] => some cs
  | cs, (i, v) :: r => match fs[i]? with
    | none => none
    | some f => match Nat.beq v.cells.size (P.cellsOf f.type) && Nat.ble (f.offset + v.cells.size) cs.size with
      | true => fillS P fs (setR cs f.offset v.cells.toList) r
      | false => none
def fillA (sz : Nat) : Array Value → List (Nat × Value) → Option (Array Value)
  | cs, [] => some cs
  | cs, (i, v) :: r => match Nat.beq v.cells.size sz && Nat.ble (i * sz + v.cells.size) cs.size with
    | true => fillA sz (setR cs (i * sz) v.cells.toList) r
    | false => none
def evs (l : Fr) (parts : Array (Nat × Operand)) : List (Nat × Value) := parts.toList.map fun p => (p.1, ev l p.2)
def repV (n : Nat) (z : List Value) : List Value := match n with
  | 0 => []
  | n + 1 => z ++ repV n z

theorem foldl_setR : ∀ (vs : List Value) (k off : Nat) (cs : Array Value), (vs.zipIdx k).foldl (fun cs (p : Value × Nat) => cs.setIfInBounds (off + p.2) p.1) cs = setR cs (off + k) vs
  | [], _, _, _ => rfl
  | v :: vs, k, off, cs => by
    simp only [List.zipIdx_cons, List.foldl_cons, setR]
    rw [foldl_setR vs (k + 1) off]; rfl
theorem fold_setR (v : Value) (off : Nat) (cs : Array Value) : v.cells.zipIdx.foldl (fun cs (x : Value × Nat) => match x with | (c, j) => cs.setIfInBounds (off + j) c) cs = setR cs off v.cells.toList := by
  rw [← Array.foldl_toList]
  simp only [Array.toList_zipIdx]
  exact foldl_setR _ 0 off cs
theorem fillS_ok {P : Program} {fs : List Field} {place : Nat → Option (Nat × Nat)} (hp : ∀ i f, fs[i]? = some f → place i = some (f.offset, P.cellsOf f.type)) :
    ∀ (parts : List (Nat × Value)) (cs out : Array Value), fillS P fs cs parts = some out → Instr.fill place cs parts = some out
  | [], cs, out, h => by simpa [fillS, Instr.fill] using h
  | (i, v) :: r, cs, out, h => by
    simp only [fillS] at h
    split at h
    · cases h
    · rename_i f hf
      split at h
      · rename_i hb
        simp only [Bool.and_eq_true] at hb
        have h1 := Nat.eq_of_beq_eq_true hb.1
        have h2 := Nat.le_of_ble_eq_true hb.2
        simp only [Instr.fill, hp i f hf]
        have hc : (v.cells.size ≠ P.cellsOf f.type || decide (f.offset + v.cells.size > cs.size)) = false := by simp [h1]; omega
        rw [if_neg (by rw [hc]; simp)]
        rw [fold_setR]
        exact fillS_ok hp r _ out h
      · cases h
theorem fillA_ok {sz : Nat} : ∀ (parts : List (Nat × Value)) (cs out : Array Value), fillA sz cs parts = some out → Instr.fill (fun i => some (i * sz, sz)) cs parts = some out
  | [], cs, out, h => by simpa [fillA, Instr.fill] using h
  | (i, v) :: r, cs, out, h => by
    simp only [fillA] at h
    split at h
    · rename_i hb
      simp only [Bool.and_eq_true] at hb
      have h1 := Nat.eq_of_beq_eq_true hb.1
      have h2 := Nat.le_of_ble_eq_true hb.2
      simp only [Instr.fill]
      have hc : (v.cells.size ≠ sz || decide (i * sz + v.cells.size > cs.size)) = false := by simp [h1]; omega
      rw [if_neg (by rw [hc]; simp)]
      rw [fold_setR]
      exact fillA_ok r _ out h
    · cases h
theorem repV_get : ∀ (n : Nat) (z : List Value) (i : Nat), i < n * z.length → (repV n z)[i]? = some (z[i % z.length]!)
  | 0, z, i, h => by simp at h
  | n + 1, z, i, h => by
    rw [Nat.succ_mul] at h
    simp only [repV]
    have hz : 0 < z.length := by
      rcases Nat.eq_zero_or_pos z.length with e | e
      · rw [e] at h; simp at h
      · exact e
    rw [List.getElem?_append]
    split
    · rename_i hlt; rw [Nat.mod_eq_of_lt hlt]; simp [hlt]
    · rename_i hge
      rw [repV_get n z (i - z.length) (by omega)]
      rw [Nat.mod_eq_sub_mod (by omega : z.length ≤ i)]
theorem repV_length : ∀ (n : Nat) (z : List Value), (repV n z).length = n * z.length
  | 0, z => by simp [repV]
  | n + 1, z => by rw [Nat.succ_mul]; simp only [repV, List.length_append, repV_length n z]; omega
theorem repV_eq (n : Nat) (z : Array Value) : ((Array.range (n * z.size)).map fun i => z[i % z.size]!) = (repV n z.toList).toArray := by
  apply Array.ext_getElem?
  intro i
  simp only [Array.getElem?_map, List.getElem?_toArray]
  rcases Nat.lt_or_ge i (n * z.size) with h | h
  · have h0 : 0 < z.size := by
      rcases Nat.eq_zero_or_pos z.size with e | e
      · rw [e] at h; simp at h
      · exact e
    have h1 := Nat.mod_lt i h0
    rw [repV_get n z.toList i (by simpa using h), Array.getElem?_range, if_pos h, Option.map_some]
    rw [getElem!_pos z _ h1, getElem!_pos z.toList _ (by simpa using h1)]
    simp
  · rw [List.getElem?_eq_none (by rw [repV_length]; simpa using h)]
    simp [h]

/-! ### append, whatever the slice and whatever is appended; copy -/
def SrcP (td : Option TypeDesc) (sz : Nat) (z : List Value) (I : IMem) (S : SH) (x : Value) (m : Nat) (vs : List Value) : Prop := match td with
  | some .string => ∃ s, x = .string s ∧ m = s.size ∧ vs = byteCells s ∧ sz = 1
  | some (.int _) => ∃ k, x = .int k (m : Int) ∧ vs = repV m z
  | some (.slice _) => Rd I S sz x m vs ∧ vs.all one = true
  | _ => False
def AppG (e : TypeId) (sz bytes : Nat) (z : List Value) (td : Option TypeDesc) (I : IMem) (S : SH) (s x : Value) (K : Option Addr → Nat → Nat → SH → Prop) : Prop :=
  ∃ S' G S'' A n cap m xs vs, S.Perm S' ∧ S'.Perm (G ++ S'') ∧ s = .slice A n cap ∧ SrcP td sz z I S x m vs ∧ n + m ≤ maxLen ∧ (n + m) * bytes ≤ 140737488355328 ∧
    (n + m ≤ cap → (vs = [] ∧ K A (n + m) cap S') ∨ ∃ a, A = some a ∧ StP S' (a.add (n * sz)) vs fun T => K A (n + m) cap T) ∧
    (cap < n + m → Rd I S sz s n xs ∧ ∀ g c, n + m ≤ c → c ≤ maxLen → K (some ⟨g, 0, none⟩) (n + m) c ((g, .cells (xs ++ vs ++ repV (c - (n + m)) z).toArray e (0, 0)) :: S''))
def CpyP (sz : Nat) (I : IMem) (S : SH) (d x : Value) (K : Nat → SH → Prop) : Prop := match d, x with
  | .slice A dl _, .slice B sl c => ∃ vs, Rd I S sz (.slice B (min sl dl) c) (min sl dl) vs ∧ vs.all one = true ∧ ((vs = [] ∧ K (min sl dl) S) ∨ ∃ a, A = some a ∧ StP S a vs fun T => K (min sl dl) T)
  | .slice A dl _, .string s => (min s.size dl = 0 ∧ K 0 S) ∨ ∃ a, A = some a ∧ StP S a (byteCells (s.extract 0 (min s.size dl))) fun T => K (min s.size dl) T
  | _, _ => False


theorem app_room_src {P : Program} {w w' : World} {t tx ty e : TypeId} {i : TypeInfo} {A : Option Addr} {n cap m : Nat} {x : Value} {vs : List Value} (ht : P.underlying t = some (.slice e)) (hi : P.info? e = some i)
    (hs : Src P i.size tx x m vs w) (hroom : n + m ≤ cap) (hst : ∀ a, A = some a → (storeCells (a.add (n * i.size)) vs).run P w = .ok () w') (hno : A = none → w' = w) :
    (Builtin.append_ #[t, tx] ty #[.slice A n cap, x]).run P w = .ok (.slice A (n + m) cap) w' := by
  rcases hs.kind with ⟨e', hk⟩ | hk
  all_goals
    cases A with
    | none => rw [hno rfl]; simp [Builtin.append_, run_underlying ht, run_underlying hk, sizeOf, typeInfo, hi, hs.len, hroom, hs.cells]
    | some a =>
      have := hst a rfl
      simp [Builtin.append_, run_underlying ht, run_underlying hk, sizeOf, typeInfo, hi, hs.len, hroom, hs.cells, this]
theorem zeroCells_repV (z : Array Value) (m : Nat) : Builtin.zeroCells z m = (repV m z.toList).toArray := repV_eq m z
theorem asInt_int (k : IntKind) (j : Int) : asInt (.int k j) = pure j := rfl
theorem wrap64 {x : Int} (h1 : -9223372036854775808 ≤ x) (h2 : x ≤ 9223372036854775807) : IntKind.wrap .i64 x = x := by
  simp only [IntKind.wrap, IntKind.bits, IntKind.signed]; simp; omega
theorem app_room_int {P : Program} {w w' : World} {t tx ty e : TypeId} {i : TypeInfo} {z : Value} {k k' : IntKind} {A : Option Addr} {n cap m : Nat} (ht : P.underlying t = some (.slice e)) (hi : P.info? e = some i) (hz : i.zero = some z) (hzs : z.cells.size = i.size)
    (hk : P.underlying tx = some (.int k')) (h63 : m ≤ 9223372036854775807) (hby : m * i.bytes ≤ 281474976710656) (hroom : n + m ≤ cap)
    (hst : ∀ a, A = some a → (storeCells (a.add (n * i.size)) (repV m z.cells.toList)).run P w = .ok () w') (hno : A = none → w' = w) :
    (Builtin.append_ #[t, tx] ty #[.slice A n cap, .int k (m : Int)]).run P w = .ok (.slice A (n + m) cap) w' := by
  have hw : IntKind.wrap .i64 (m : Int) = (m : Int) := wrap64 (by omega) (by omega)
  have h1 : ¬ ((m : Int) < 0) := by omega
  have h2 : ¬ (281474976710656 < (m : Int) * (i.bytes : Int)) := by
    have : ((m * i.bytes : Nat) : Int) ≤ ((281474976710656 : Nat) : Int) := Int.ofNat_le.2 hby
    rw [Int.natCast_mul] at this; omega
  have hz0 : m * i.size = 0 → repV m z.cells.toList = [] := fun h => List.eq_nil_of_length_eq_zero (by rw [repV_length]; simpa [hzs] using h)
  by_cases h0 : m * i.size = 0
  · have hn := hz0 h0
    rw [hn] at hst
    have h0' : (m = 0 ∨ i.size = 0) := Nat.mul_eq_zero.1 h0
    cases A with
    | none => rw [hno rfl]; simp [Builtin.append_, run_underlying ht, run_underlying hk, sizeOf, typeInfo, hi, asInt_int, hw, h1, h2, hroom, h0', h0, zeroValue, hz]
    | some a =>
      have := hst a rfl
      have hw' : w' = w := by simpa [storeCells] using this.symm
      subst hw'
      simp [Builtin.append_, run_underlying ht, run_underlying hk, sizeOf, typeInfo, hi, asInt_int, hw, h1, h2, hroom, h0', h0, zeroValue, hz, storeCells]
  · have h0' : ¬ (m = 0 ∨ i.size = 0) := fun h => h0 (Nat.mul_eq_zero.2 h)
    cases A with
    | none => rw [hno rfl]; simp [Builtin.append_, run_underlying ht, run_underlying hk, sizeOf, typeInfo, hi, asInt_int, hw, h1, h2, hroom, h0', h0, zeroValue, hz]
    | some a =>
      have := hst a rfl
      simp [Builtin.append_, run_underlying ht, run_underlying hk, sizeOf, typeInfo, hi, asInt_int, hw, h1, h2, hroom, h0', h0, zeroValue, hz, zeroCells_repV, this]
theorem app_grow_int {P : Program} {w : World} {t tx ty e : TypeId} {i : TypeInfo} {z : Value} {k k' : IntKind} {A : Option Addr} {n cap m : Nat} {olds : List Value} (ht : P.underlying t = some (.slice e)) (hi : P.info? e = some i) (hz : i.zero = some z) (hzs : z.cells.size = i.size)
    (hk : P.underlying tx = some (.int k')) (hold : (Builtin.firstCells i.size n (.slice A n cap)).run P w.drew = .ok olds.toArray w.drew) (hg : cap < n + m) (h63 : ((n + m : Nat) : Int) ≤ 9223372036854775807) (hby : m * i.bytes ≤ 281474976710656)
    (hfit : Builtin.nextslicecap (n + m) cap * i.bytes ≤ 281474976710656) :
    (Builtin.append_ #[t, tx] ty #[.slice A n cap, .int k (m : Int)]).run P w =
      .ok (.slice (some ⟨w.heap.size, 0, none⟩) (n + m) (grownCap w (n + m) cap e)) (w.drew.alloc (.cells ((olds ++ repV m z.cells.toList).toArray ++ Builtin.zeroCells z.cells (grownCap w (n + m) cap e - (n + m))) e)) := by
  have hw : IntKind.wrap .i64 (m : Int) = (m : Int) := wrap64 (by omega) (by omega)
  have h1 : ¬ ((m : Int) < 0) := by omega
  have h2 : ¬ (281474976710656 < (m : Int) * (i.bytes : Int)) := by
    have : ((m * i.bytes : Nat) : Int) ≤ ((281474976710656 : Nat) : Int) := Int.ofNat_le.2 hby
    rw [Int.natCast_mul] at this; omega
  have hn : ¬ (n + m ≤ cap) := by omega
  have h63' : ¬ (9223372036854775807 < ((n : Int) + (m : Int))) := by omega
  have h48' : ¬ (281474976710656 < Builtin.nextslicecap (n + m) cap * i.bytes) := by omega
  have hz0 : m * i.size = 0 → repV m z.cells.toList = [] := fun h => List.eq_nil_of_length_eq_zero (by rw [repV_length]; simpa [hzs] using h)
  by_cases h0 : m * i.size = 0
  · have hr := hz0 h0
    rw [hr]
    have h0' : (m = 0 ∨ i.size = 0) := Nat.mul_eq_zero.1 h0
    (simp [Builtin.append_, run_underlying ht, run_underlying hk, sizeOf, typeInfo, zeroValue, hi, hz, asInt_int, hw, h1, h2, hn, h63', h48', Question.forced, hold, newRow, grownCap, h0', h0, zeroCells_repV])
  · have h0' : ¬ (m = 0 ∨ i.size = 0) := fun h => h0 (Nat.mul_eq_zero.2 h)
    simp [Builtin.append_, run_underlying ht, run_underlying hk, sizeOf, typeInfo, zeroValue, hi, hz, asInt_int, hw, h1, h2, hn, h63', h48', Question.forced, hold, newRow, grownCap, h0', h0, zeroCells_repV]
theorem Rd.first {P : Program} {I : IMem} {S : SH} {sz : Nat} {A : Option Addr} {n c : Nat} {xs : List Value} (h : Rd I S sz (.slice A n c) n xs) {w : World} (hw : Sat I S w) : (Builtin.firstCells sz n (.slice A n c)).run P w = .ok xs.toArray w := by
  obtain ⟨A', c', he, hl, hrd⟩ := h
  injection he with h1 h2 h3; subst h1; subst h3
  cases A with
  | none =>
    have hm : xs = [] := by
      rcases Nat.eq_zero_or_pos xs.length with h0 | h0
      · exact List.eq_nil_of_length_eq_zero h0
      · obtain ⟨a, ha, _⟩ := hrd 0 xs[0] (List.getElem?_eq_getElem h0); cases ha
    subst hm; rfl
  | some a =>
    exact run_firstCells_some w sz n a n c xs hl fun j u hj => by
      obtain ⟨a', ha, hc⟩ := hrd j u hj
      injection ha with ha; subst ha
      exact hc.run hw
theorem Rd.src {P : Program} {I : IMem} {S : SH} {sz : Nat} {x : Value} {m : Nat} {vs : List Value} {tx e' : TypeId} (hk : P.underlying tx = some (.slice e')) (h : Rd I S sz x m vs) (h1 : vs.all one = true) {w : World} (hw : Sat I S w) (hp : 0 < sz) : Src P sz tx x m vs w := by
  obtain ⟨A, c, rfl, hl, hrd⟩ := h
  cases A with
  | none =>
    have hm : vs = [] := by
      rcases Nat.eq_zero_or_pos vs.length with h0 | h0
      · exact List.eq_nil_of_length_eq_zero h0
      · obtain ⟨a, ha, _⟩ := hrd 0 vs[0] (List.getElem?_eq_getElem h0); cases ha
    subst hm
    have : m = 0 := by
      rcases Nat.mul_eq_zero.1 hl.symm with h | h
      · exact h
      · omega
    subst this
    exact Src.ofNil w hk c
  | some a =>
    exact Src.ofSlice w hk a m c vs hl (fun j u hj => by
      obtain ⟨a', ha, hc⟩ := hrd j u hj
      injection ha with ha; subst ha
      exact hc.run hw) (fun u hu => one_oneCell (List.all_eq_true.1 h1 u hu))
theorem StP.runC {P : Program} {I : IMem} {S : SH} {a : Addr} {vs : List Value} {K : SH → Prop} {w : World} (h : StP S a vs K) (hw : Sat I S w) : ∃ T w', (storeCells a vs).run P w = .ok () w' ∧ Sat I T w' ∧ K T := by
  obtain ⟨i, cs, e, fz, hs, hi, hlen, hfz, hone, hK⟩ := h
  obtain ⟨b, o, sp⟩ := a
  dsimp only at hs; subst hs
  have hb := hw.own (b, .cells cs e fz) (List.mem_of_getElem? hi)
  obtain ⟨w', h1, h2, h3, h4, h5, h6, h7⟩ := run_storeCells (P := P) (o := o) vs 0 cs w hb (by simpa using hlen) (by simpa using hfz) hone
  exact ⟨_, w', h1, hw.set hi h2 h3 h4 h5 h6 h7, hK⟩
theorem AppG.run {P : Program} {t tx ty e : TypeId} {i : TypeInfo} {z : Value} {I : IMem} {S : SH} {s x : Value} {K : Option Addr → Nat → Nat → SH → Prop} {w : World} (ht : P.underlying t = some (.slice e)) (hi : P.info? e = some i)
    (hz : i.zero = some z) (hzs : z.cells.size = i.size) (hsz : 0 < i.size) (h : AppG e i.size i.bytes z.cells.toList (P.underlying tx) I S s x K) (hw : Sat I S w) :
    ∃ p n c w' T, (Builtin.append_ #[t, tx] ty #[s, x]).run P w = .ok (.slice p n c) w' ∧ Sat I T w' ∧ K p n c T := by
  obtain ⟨S', G, S'', A, n, cap, m, xs, vs, hp, hp2, rfl, hsrc, hmx, hby, hroom, hgrow⟩ := h
  have hw1 := hw.perm hp
  have hm63 : n + m ≤ 9223372036854775807 := by simp only [maxLen] at hmx; omega
  -- the two arms, for either kind of what is appended
  have room : ∀ (w' : World), n + m ≤ cap → (∀ a, A = some a → (storeCells (a.add (n * i.size)) vs).run P w = .ok () w') → (A = none → w' = w) → (Builtin.append_ #[t, tx] ty #[.slice A n cap, x]).run P w = .ok (.slice A (n + m) cap) w' := by
    intro w' hr hst hno
    unfold SrcP at hsrc
    split at hsrc
    · rename_i hk
      obtain ⟨b, rfl, rfl, rfl, h1⟩ := hsrc
      exact app_room_src ht hi (by rw [h1]; exact Src.ofString w hk b) hr hst hno
    · rename_i k' hk
      obtain ⟨k, rfl, rfl⟩ := hsrc
      refine app_room_int ht hi hz hzs hk (by omega) ?_ hr hst hno
      have := Nat.mul_le_mul_right i.bytes (show m ≤ n + m by omega); omega
    · rename_i e' hk
      exact app_room_src ht hi (hsrc.1.src hk hsrc.2 hw hsz) hr hst hno
    · exact hsrc.elim
  by_cases hr : n + m ≤ cap
  · rcases hroom hr with ⟨hv, hK⟩ | ⟨a, rfl, hst⟩
    · subst hv
      exact ⟨_, _, _, w, S', room w hr (fun a _ => by simp [storeCells]) (fun _ => rfl), hw1, hK⟩
    · obtain ⟨T, w', h1, h2, h3⟩ := hst.runC (P := P) hw1
      exact ⟨_, _, _, w', T, room w' hr (fun a' ha => by injection ha with ha; subst ha; exact h1) (fun h => by cases h), h2, h3⟩
  · obtain ⟨hold, hK⟩ := hgrow (by omega)
    have hfit : Builtin.nextslicecap (n + m) cap * i.bytes ≤ 281474976710656 := growslice_fits (by omega) hby
    have ho := hold.first (P := P) (w := w.drew) hw.drew
    have hge := grownCap_ge w (n + m) cap e
    have hcm : grownCap w (n + m) cap e ≤ maxLen := grownCap_le_maxLen w (n + m) cap e hmx
    have hres : (Builtin.append_ #[t, tx] ty #[.slice A n cap, x]).run P w = .ok (.slice (some ⟨w.heap.size, 0, none⟩) (n + m) (grownCap w (n + m) cap e)) (w.drew.alloc (.cells ((xs ++ vs).toArray ++ Builtin.zeroCells z.cells (grownCap w (n + m) cap e - (n + m))) e)) := by
      unfold SrcP at hsrc
      split at hsrc
      · rename_i hk
        obtain ⟨b, rfl, rfl, rfl, h1⟩ := hsrc
        exact run_append_grow_src w t tx ty e i z ht hi hz A n cap xs ho (.string b) _ _ (by rw [h1]; exact Src.ofString w hk b) (by omega) (by omega) hfit
      · rename_i k' hk
        obtain ⟨k, rfl, rfl⟩ := hsrc
        refine app_grow_int ht hi hz hzs hk ho (by omega) (by omega) ?_ hfit
        have := Nat.mul_le_mul_right i.bytes (show m ≤ n + m by omega); omega
      · rename_i e' hk
        exact run_append_grow_src w t tx ty e i z ht hi hz A n cap xs ho x m vs (hsrc.1.src hk hsrc.2 hw hsz) (by omega) (by omega) hfit
      · exact hsrc.elim
    refine ⟨_, _, _, _, _, hres, (hw1.perm hp2).drop.drew.new _, ?_⟩
    have := hK w.heap.size (grownCap w (n + m) cap e) hge hcm
    rw [zeroCells_repV, List.append_toArray]
    exact this
theorem CpyP.run {P : Program} {dT sT ty e : TypeId} {i : TypeInfo} {I : IMem} {S : SH} {d x : Value} {K : Nat → SH → Prop} {w : World} (hu : P.underlying dT = some (.slice e)) (hi : P.info? e = some i) (h : CpyP i.size I S d x K) (hw : Sat I S w) :
    ∃ (m : Nat) (w' : World) (T : SH), (Builtin.copy_ #[dT, sT] ty #[d, x]).run P w = .ok (.int .i64 (m : Int)) w' ∧ Sat I T w' ∧ K m T := by
  unfold CpyP at h
  split at h
  · rename_i A dl dc B sl c
    obtain ⟨vs, hrd, h1, hK⟩ := h
    have hf : (Builtin.firstCells i.size (min sl dl) (.slice B sl c)).run P w = .ok vs.toArray w := by
      have := hrd.first (P := P) hw
      cases B <;> exact this
    rcases hK with ⟨rfl, hK⟩ | ⟨a, rfl, hst⟩
    · refine ⟨_, w, S, ?_, hw, hK⟩
      cases A <;> simp [Builtin.copy_, run_underlying hu, Builtin.lenOf, run_sizeOf hi, hf, storeCells, goInt]
    · obtain ⟨T, w', h1, h2, h3⟩ := hst.runC (P := P) hw
      refine ⟨_, w', T, ?_, h2, h3⟩
      simp [Builtin.copy_, run_underlying hu, Builtin.lenOf, run_sizeOf hi, hf, h1, goInt]
  · rename_i A dl dc s
    have hf : ∀ n w, (Builtin.firstCells i.size n (.string s)).run P w = .ok (byteCells (s.extract 0 n)).toArray w := by
      intro n w
      simp only [Builtin.firstCells, Sem.run_pure, byteCells]
      congr 1
      apply Array.ext'
      simp
    rcases h with ⟨h0, hK⟩ | ⟨a, rfl, hst⟩
    · refine ⟨0, w, S, ?_, hw, hK⟩
      have he : byteCells (s.extract 0 0) = [] := by simp [byteCells]
      have he2 : byteCells ByteArray.empty = [] := rfl
      have h0' : Nat.min s.size dl = 0 := h0
      cases A <;> simp [Builtin.copy_, run_underlying hu, Builtin.lenOf, run_sizeOf hi, h0', hf, he, he2, storeCells, goInt]
    · obtain ⟨T, w', h1, h2, h3⟩ := hst.runC (P := P) hw
      refine ⟨_, w', T, ?_, h2, h3⟩
      have hf' := hf (min s.size dl) w
      simp [Builtin.copy_, run_underlying hu, Builtin.lenOf, run_sizeOf hi, hf', h1, goInt]
  · exact h.elim

/-! ### bounds -/
def BndP (o : Option Value) (dflt ub : Nat) (K : Nat → Prop) : Prop := match o with
  | none => K dflt
  | some (.int _ i) => 0 ≤ i ∧ i ≤ (ub : Int) ∧ K i.toNat
  | _ => False
def slA (a : Option Addr) (m l size : Nat) : Option Addr := if m = l then a else a.map (·.add (l * size))
theorem slA_zero (a : Option Addr) (m size : Nat) : slA a m 0 size = a := by
  unfold slA; split
  · rfl
  · cases a <;> simp [Addr.add]
theorem BndP.run {P : Program} {o : Option Value} {d ub : Nat} {K : Nat → Prop} {code : BoundsCode} (h : BndP o d ub K) :
    ∃ n, (∀ w, (match o with | some v => Instr.sliceBound v ub code | none => pure d).run P w = .ok n w) ∧ K n := by
  unfold BndP at h
  split at h
  · exact ⟨d, fun _ => rfl, h⟩
  · rename_i k i
    exact ⟨i.toNat, fun w => by simp [Instr.sliceBound, asIntOf, h.1, h.2.1], h.2.2⟩
  · exact h.elim

/-! ### the cases -/
abbrev ptrP (p : Option Addr) (K : Addr → Prop) : Prop := match p with
  | some a => K a
  | none => False
theorem ptrP_elim {p : Option Addr} {K : Addr → Prop} (h : ptrP p K) : ∃ a, p = some a ∧ K a := by
  cases p with
  | none => exact h.elim
  | some a => exact ⟨a, rfl, h⟩
abbrev mapP (p : Option Nat) (K : Nat → Prop) : Prop := match p with
  | some m => K m
  | none => False
theorem mapP_elim {p : Option Nat} {K : Nat → Prop} (h : mapP p K) : ∃ a, p = some a ∧ K a := by
  cases p with
  | none => exact h.elim
  | some a => exact ⟨a, rfl, h⟩
def iand (k : IntKind) (x y : Int) : Int := k.wrap ((BitVec.ofInt k.bits x &&& BitVec.ofInt k.bits y).toNat : Int)
def ior (k : IntKind) (x y : Int) : Int := k.wrap ((BitVec.ofInt k.bits x ||| BitVec.ofInt k.bits y).toNat : Int)
def ibic (k : IntKind) (x y : Int) : Int := k.wrap ((BitVec.ofInt k.bits x &&& ~~~BitVec.ofInt k.bits y).toNat : Int)
def callable (P : Program) (f : FuncId) : Bool := match P.funcs[f]? with
  | some fn => !(fn.name == "runtime.NumGoroutine") && fn.body.isSome
  | none => false
/-- a call that Go's library answers by itself -/
def RunsX (P : Program) (f : FuncId) (args : Array Value) (I : IMem) (S : SH) (R : Value → IMem → SH → Prop) : Prop :=
  ∀ w, Sat I S w → ∃ v w' J T, (callFunc f args).run P w = .ok (.value v) w' ∧ I.le J ∧ Sat J T w' ∧ R v J T
def isNilI : Value → Option Bool
  | .nilIface => some true
  | .iface _ _ => some false
  | _ => none
def MaxL (k : IntKind) : Int → List Value → Option Int
  | x, [] => some x
  | x, .int _ y :: r => MaxL k (if y > x then y else x) r
  | _, _ => none
def MinL (k : IntKind) : Int → List Value → Option Int
  | x, [] => some x
  | x, .int _ y :: r => MinL k (if y < x then y else x) r
  | _, _ => none

def eqS : TypeDesc → Value → Value → Option Bool
  | .bool, .bool a, .bool b => some (a == b)
  | .int _, .int k a, .int k' b => (match decide (k = k') with | true => some (a == b) | false => none)
  | .string, .string a, .string b => some (a == b)
  | _, _, _ => none
def partV (P : Program) (t : TypeId) (xs : Array Value) (off : Nat) : Option Value := match P.underlying t with
  | none => none
  | some d => (match aggB d with
    | true => some (.agg (xs.extract off (off + P.cellsOf t)))
    | false => xs[off]?)
def eqFs (P : Program) (r : TypeId → Value → Value → Option Bool) (xs ys : Array Value) : List Field → Option Bool
  | [] => some true
  | f :: fs => match decide (f.name = "_"), partV P f.type xs f.offset, partV P f.type ys f.offset with
    | false, some x, some y => (match r f.type x y, eqFs P r xs ys fs with | some b, some c => some (b && c) | _, _ => none)
    | _, _, _ => none
def eqV (P : Program) : Nat → TypeId → Value → Value → Option Bool
  | 0, _, _, _ => none
  | n + 1, t, x, y => match P.underlying t with
    | none => none
    | some d => (match d, x, y with
      | .struct fs, .agg xs, .agg ys => (match P.stoodInHeld t with
        | false => eqFs P (eqV P n) xs ys fs.toList
        | true => none)
      | d, x, y => eqS d x y)
def BinM (P : Program) (op : BinOp) (t : TypeId) (xo yo : Operand) (x y : Value) (K : Value → Prop) : Prop :=
  match op, x, y with
  | .quo, .int k a, .int k' b => bcase (decide (b = 0)) False (match decide (k = k') with | true => K (.int k (k.wrap (a.tdiv b))) | false => False)
  | .rem, .int k a, .int k' b => bcase (decide (b = 0)) False (match decide (k = k') with | true => K (.int k (a.tmod b)) | false => False)
  | .shl, .int k a, .int _ b => bcase (decide (b < 0)) False (K (.int k (k.wrap (a * 2 ^ (min b.toNat k.bits)))))
  | .shr, .int k a, .int _ b => bcase (decide (b < 0)) False (K (.int k (a.fdiv (2 ^ (min b.toNat k.bits)))))
  | .add, .string a, .string b => ((a.size + b.size : Nat) : Int) ≤ 9223372036854775807 ∧ K (.string (a ++ b))
  | .eql, .pointer p, .pointer none => (match P.underlying t with | some (.pointer _) => K (.bool p.isNone) | _ => False)
  | .neq, .pointer p, .pointer none => (match P.underlying t with | some (.pointer _) => K (.bool (!p.isNone)) | _ => False)
  | .eql, .pointer p, .pointer (some b) => (match P.underlying t with | some (.pointer e) => (match Nat.beq (P.cellsOf e) 0 with | false => p = some b ∧ K (.bool true) | true => False) | _ => False)
  | .neq, .pointer p, .pointer (some b) => (match P.underlying t with | some (.pointer e) => (match Nat.beq (P.cellsOf e) 0 with | false => p = some b ∧ K (.bool false) | true => False) | _ => False)
  | .eql, .slice p _ _, .slice none _ _ => (match P.underlying t with | some (.slice _) => K (.bool p.isNone) | _ => False)
  | .neq, .slice p _ _, .slice none _ _ => (match P.underlying t with | some (.slice _) => K (.bool (!p.isNone)) | _ => False)
  | .eql, .map p, .map none => (match P.underlying t with | some (.map _ _) => K (.bool p.isNone) | _ => False)
  | .neq, .map p, .map none => (match P.underlying t with | some (.map _ _) => K (.bool (!p.isNone)) | _ => False)
  | .eql, .agg xs, .agg ys => (match P.underlying t with
    | some (.struct fs) => (match !P.eqGuardType P.depth t, eqV P 4 t (.agg xs) (.agg ys) with | true, some b => K (.bool b) | _, _ => False)
    | _ => False)
  | .neq, .agg xs, .agg ys => (match P.underlying t with
    | some (.struct fs) => (match !P.eqGuardType P.depth t, eqV P 4 t (.agg xs) (.agg ys) with | true, some b => K (.bool (!b)) | _, _ => False)
    | _ => False)
  | op, x, y => (match eval0 P (do eqGuard op t xo yo x y; binOp op t x y) with | some v => K v | none => False)
/-- an error of a number: is it that one? -/
def eqI (P : Program) (x : Value) (ty : TypeId) (vy : Value) : Option Bool := match x with
  | .nilIface => some false
  | .iface tx vx => (match Nat.beq tx ty with
    | false => some false
    | true => (match (P.info? ty).map (·.comparable), P.underlying ty, vx, vy with
      | some true, some (.int _), .int k a, .int k' b => (match decide (k = k') with | true => some (a == b) | false => none)
      | _, _, _, _ => none))
  | _ => none
def BinP (P : Program) (op : BinOp) (t : TypeId) (xo yo : Operand) (x y : Value) (K : Value → Prop) : Prop :=
  match y with
  | .nilIface => (match op with
    | .eql => (match yo, P.underlying t with | .const _, some (.interface _) => ∃ b, isNilI x = some b ∧ K (.bool b) | _, _ => False)
    | .neq => (match yo, P.underlying t with | .const _, some (.interface _) => ∃ b, isNilI x = some b ∧ K (.bool !b) | _, _ => False)
    | _ => False)
  | .iface ty vy => (match op with
    | .eql => (match P.underlying t with | some (.interface _) => ∃ b, eqI P x ty vy = some b ∧ K (.bool b) | _ => False)
    | .neq => (match P.underlying t with | some (.interface _) => ∃ b, eqI P x ty vy = some b ∧ K (.bool !b) | _ => False)
    | _ => False)
  | y => BinM P op t xo yo x y K

/-! ### maps, and bytes read as words -/
def keyD : TypeDesc → Bool
  | .int _ | .string | .bool => true
  | _ => false
def lkV (ok : Bool) (v : Value) (b : Bool) : Value := match ok with | true => .tuple #[v, .bool b] | false => v
def MpC (I : IMem) (S : SH) (r : Nat) (es : Array MapEntry) (clock : Nat) : Prop := I.at_ r = some (.map es clock) ∨ (r, Obj.map es clock) ∈ S
/-- what a map has by a key -/
def MapAt (I : IMem) (S : SH) (m : Option Nat) (kd : TypeDesc) (key z v : Value) (b : Bool) : Prop := ∃ es : Array MapEntry, (match m with | none => es = #[] | some r => ∃ clock, MpC I S r es clock) ∧
  ((∃ i, Instr.findNow kd key es.toList 0 = some (some (i, v)) ∧ b = true) ∨ (Instr.findNow kd key es.toList 0 = some none ∧ v = z ∧ b = false))
def MapLen (I : IMem) (S : SH) (m : Option Nat) (c : Nat) : Prop := match m with | none => c = 0 | some r => ∃ es clock, MpC I S r es clock ∧ c = es.size
def mapSet (kd : TypeDesc) (key val : Value) (es : Array MapEntry) (clock : Nat) : Option (Array MapEntry × Nat) := match Instr.findNow kd key es.toList 0 with
  | some (some (i, _)) => some (es.modify i fun e => { e with key, val }, clock)
  | some none => some (es.push { key, val, born := clock }, clock + 1)
  | none => none
def mapDel (kd : TypeDesc) (key : Value) (es : Array MapEntry) : Option (Array MapEntry) := match Instr.findNow kd key es.toList 0 with
  | some (some (i, _)) => some (es.eraseIdxIfInBounds i)
  | some none => some es
  | none => none
def MapSt (S : SH) (m : Option Nat) (kd : TypeDesc) (key val : Value) (K : SH → Prop) : Prop := ∃ r i es clock es' clock', m = some r ∧ S[i]? = some (r, .map es clock) ∧ mapSet kd key val es clock = some (es', clock') ∧ K (S.set i (r, .map es' clock'))
def MapDl (S : SH) (m : Option Nat) (kd : TypeDesc) (key : Value) (K : SH → Prop) : Prop := match m with
  | none => K S
  | some r => ∃ i es clock es', S[i]? = some (r, .map es clock) ∧ mapDel kd key es = some es' ∧ K (S.set i (r, .map es' clock))
/-! maps by structs -/
def chkFs (P : Program) (r : TypeId → Value → Bool) (xs : Array Value) : List Field → Bool
  | [] => true
  | f :: fs => match decide (f.name = "_"), partV P f.type xs f.offset with
    | false, some x => r f.type x && chkFs P r xs fs
    | _, _ => false
def chkV (P : Program) : Nat → TypeId → Value → Bool
  | 0, _, _ => false
  | n + 1, t, v => match P.underlying t with
    | none => false
    | some d => (match d, v with
      | .struct fs, .agg xs => chkFs P (chkV P n) xs fs.toList
      | .int _, _ => true
      | .string, _ => true
      | .bool, _ => true
      | _, _ => false)
def isSt : TypeDesc → Bool
  | .struct _ => true
  | _ => false
def findS (P : Program) (t : TypeId) (k : Value) : List MapEntry → Nat → Option (Option (Nat × Value))
  | [], _ => some none
  | e :: es, i => match eqV P 4 t k e.key with
    | some true => some (some (i, e.val))
    | some false => findS P t k es (i + 1)
    | none => none
def MapAtS (P : Program) (t : TypeId) (I : IMem) (S : SH) (m : Option Nat) (key z v : Value) (b : Bool) : Prop := ∃ es : Array MapEntry, (match m with | none => es = #[] | some r => ∃ clock, MpC I S r es clock) ∧
  ((∃ i, findS P t key es.toList 0 = some (some (i, v)) ∧ b = true) ∨ (findS P t key es.toList 0 = some none ∧ v = z ∧ b = false))
def MapStS (P : Program) (t : TypeId) (S : SH) (m : Option Nat) (key val : Value) (K : SH → Prop) : Prop := ∃ r i es clock es' clock', m = some r ∧ S[i]? = some (r, .map es clock) ∧
  ((∃ j u, findS P t key es.toList 0 = some (some (j, u)) ∧ (es[j]?).map (·.key) = some key ∧ Instr.sameBits 10000 key key = true ∧ es' = es.modify j (fun e => { e with key, val }) ∧ clock' = clock) ∨
    (findS P t key es.toList 0 = some none ∧ es' = es.push { key, val, born := clock } ∧ clock' = clock + 1)) ∧ K (S.set i (r, .map es' clock'))
def MapDlS (P : Program) (t : TypeId) (S : SH) (m : Option Nat) (key : Value) (K : SH → Prop) : Prop := match m with
  | none => K S
  | some r => ∃ i es clock es', S[i]? = some (r, .map es clock) ∧ ((∃ j u, findS P t key es.toList 0 = some (some (j, u)) ∧ es' = es.eraseIdxIfInBounds j) ∨ (findS P t key es.toList 0 = some none ∧ es' = es)) ∧ K (S.set i (r, .map es' clock))
/-- one step of a range over a map that nobody changes meanwhile -/
def NxP (I : IMem) (S : SH) (a : Addr) (K0 : Prop) (K1 : Value → Value → SH → Prop) : Prop :=
  ∃ i m since seen last es clock, a.off = 0 ∧ S[i]? = some (a.block, .mapIter (some m) since seen last) ∧ MpC I S m es clock ∧ since ≤ last ∧ (∀ e ∈ es, e.born < since) ∧
    ((∀ e ∈ es, seen.contains e.born = true) → K0) ∧ ∀ e ∈ es, seen.contains e.born = false → K1 e.key e.val (S.set i (a.block, .mapIter (some m) since (seen.push e.born) clock))
/-- what a range over a map stands at -/
def EnP (I : IMem) (S : SH) (a : Addr) (K : Value → Value → Prop) : Prop :=
  ∃ m since seen stamp es clock e, a.off = 0 ∧ (a.block, Obj.mapIter (some m) since seen clock) ∈ S ∧ seen.back? = some stamp ∧ MpC I S m es clock ∧ es.find? (·.born == stamp) = some e ∧ K e.key e.val
def BytesAt (I : IMem) (S : SH) (p : Option Addr) (n : Nat) (s : ByteArray) : Prop := match p with
  | none => s = ByteArray.empty
  | some a => s.size = n ∧ ∀ (i : Nat) (c : UInt8), s[i]? = some c → Cell I S (a.add i) (.int .u8 (c.toNat : Int))
/-! ### pointers of no type, and bytes made and seen -/
def BlkAt (I : IMem) (S : SH) (b : Nat) (cs : Array Value) (e : TypeId) : Prop := ∃ fz, I.at_ b = some (.cells cs e fz) ∨ (b, Obj.cells cs e fz) ∈ S
def frz (fz : Nat × Nat) (o n : Nat) : Nat × Nat := if fz.1 == fz.2 then (o, o + n) else (min fz.1 o, max fz.2 (o + n))
def UsP (P : Program) (u : TypeId) (I : IMem) (S : SH) (p : Option Addr) (m : Int) (K : ByteArray → SH → Prop) : Prop :=
  (m = 0 ∧ K ByteArray.empty S) ∨ ∃ a i cs e fz s, p = some a ∧ 0 < m ∧ m ≤ 9223372036854775807 ∧ S[i]? = some (a.block, .cells cs e fz) ∧ liesAt P P.depth e (cs.size / P.cellsOf e) a.off u m.toNat = true ∧
    BytesAt I S (some a) m.toNat s ∧ K s (S.set i (a.block, .cells cs e (frz fz a.off m.toNat)))
def ClrP (z : List Value) (S : SH) (p : Option Addr) (n : Nat) (K : SH → Prop) : Prop := (n = 0 ∧ K S) ∨ ∃ a, p = some a ∧ n ≠ 0 ∧ StP S a (repV n z) K
def PreOp (P : Program) (n : Nat) (o : Oper) (K : Fr → IMem → SH → Prop) (l : Fr) (I : IMem) (S : SH) : Prop :=
  match o.op with
  | .move x => putP n o.dst (ev l x) K l I S
  | .assign x => putP n o.dst (ev l x) K l I S
  | .load t x => (match ev l x with | .pointer (some a) => LdX P x t I S a fun v => putP n o.dst v K l I S | _ => False)
  | .store t x y => (match ev l x, P.underlying t with
    | .pointer (some a), some _ => (match Nat.beq (ev l y).cells.size (P.cellsOf t) with | true => StP S a (ev l y).cells.toList fun T => putP n o.dst undef K l I T | false => False)
    | _, _ => False)
  | .alloc t => (match (P.info? t).bind (·.zero) with | some z => ∀ b, putP n o.dst (.pointer (some ⟨b, 0, none⟩)) K l I ((b, .cells z.cells t (0, 0)) :: S) | none => False)
  | .box t x => ∀ b, putP n o.dst (.pointer (some ⟨b, 0, none⟩)) K l I ((b, .cells (ev l x).cells t (0, 0)) :: S)
  | .nilCheck x => (match ev l x with
    | .pointer p => ptrP p fun a => putP n o.dst (.pointer (some a)) K l I S
    | .func (.func f) fs cs => putP n o.dst (.func (.func f) fs cs) K l I S
    | _ => False)
  | .build t parts => (match P.underlying t, (P.info? t).bind (·.zero) with
    | some (.struct fs), some z => (match fs.toList.all (fun f => (P.info? f.type).isSome), fillS P fs.toList z.cells (evs l parts) with | true, some cs => putP n o.dst (.agg cs) K l I S | _, _ => False)
    | some (.array _ e), some z => (match P.info? e with | some ie => (match fillA ie.size z.cells (evs l parts) with | some cs => putP n o.dst (.agg cs) K l I S | none => False) | none => False)
    | _, _ => False)
  | .buildSlice t len parts => (match P.underlying t with
    | some (.slice e) => (match P.info? e with
      | some i => (match i.zero with
        | some z => (match Nat.beq z.cells.size i.size && Nat.ble (len * i.size) 16777216 with
          | true => (match fillA i.size (repV len z.cells.toList).toArray (evs l parts) with
            | some cs => ∀ b, putP n o.dst (.slice (some ⟨b, 0, none⟩) len len) K l I ((b, .cells cs e (0, 0)) :: S)
            | none => False)
          | false => False)
        | none => False)
      | none => False)
    | _ => False)
  | .makeSlice t x y => (match P.underlying t, ev l x, ev l y with
    | some (.slice e), .int _ len, .int _ cap => (match P.info? e with
      | some i => (match i.zero with
        | some z => (match Nat.beq z.cells.size i.size with
          | true => 0 ≤ len ∧ len ≤ cap ∧ cap ≤ 9223372036854775807 ∧ i.bytes * cap ≤ 281474976710656 ∧
            ∀ b, putP n o.dst (.slice (some ⟨b, 0, none⟩) len.toNat cap.toNat) K l I ((b, .cells (repV cap.toNat z.cells.toList).toArray e (0, 0)) :: S)
          | false => False)
        | none => False)
      | none => False)
    | _, _, _ => False)
  | .indexAddr t x ix => (match P.underlying t, ev l x, ev l ix with
    | some (.slice e), .slice base len _, .int _ i => (match P.info? e with
      | some inf => ptrP base fun a => 0 ≤ i ∧ i < (len : Int) ∧ putP n o.dst (.pointer (some (a.add (i.toNat * inf.size)))) K l I S
      | none => False)
    | some (.array len e), .pointer (some a), .int _ i => (match P.info? e with
      | some inf => 0 ≤ i ∧ i < (len : Int) ∧ putP n o.dst (.pointer (some (a.add (i.toNat * inf.size)))) K l I S
      | none => False)
    | _, _, _ => False)
  | .index t x ix => (match P.underlying t, ev l x, ev l ix with
    | some .string, .string s, .int _ i => ∃ c : UInt8, 0 ≤ i ∧ s[i.toNat]? = some c ∧ putP n o.dst (.int .u8 (c.toNat : Int)) K l I S
    | _, _, _ => (match eval0 P (execOp (ev l) o) with | some (.value v) => putP n o.dst v K l I S | _ => False))
  | .slice t x lo hi mx => (match P.underlying t, ev l x, mx with
    | some .string, .string s, none => BndP (hi.map (ev l)) s.size s.size fun h => BndP (lo.map (ev l)) 0 h fun j => putP n o.dst (.string (s.extract j h)) K l I S
    | some (.slice e), .slice a len cap, none => (match P.info? e with
      | some inf => BndP (hi.map (ev l)) len cap fun h => BndP (lo.map (ev l)) 0 h fun j => putP n o.dst (.slice (slA a cap j inf.size) (h - j) (cap - j)) K l I S
      | none => False)
    | some (.slice e), .slice a len cap, some mx => (match P.info? e, hi with
      | some inf, some hi => BndP (some (ev l mx)) 0 cap fun m => BndP (some (ev l hi)) 0 m fun h => BndP (lo.map (ev l)) 0 h fun j => putP n o.dst (.slice (slA a m j inf.size) (h - j) (m - j)) K l I S
      | _, _ => False)
    | some (.array ln e), .pointer (some a), none => (match P.info? e with
      | some inf => BndP (hi.map (ev l)) ln ln fun h => BndP (lo.map (ev l)) 0 h fun j => putP n o.dst (.slice (slA (some a) ln j inf.size) (h - j) (ln - j)) K l I S
      | none => False)
    | _, _, _ => False)
  | .makeMap t none => ∀ r, putP n o.dst (.map (some r)) K l I ((r, .map #[] 0) :: S)
  | .makeMap t (some x) => (match P.underlying t, ev l x with
    | some (.map _ _), .int _ _ => ∀ r, putP n o.dst (.map (some r)) K l I ((r, .map #[] 0) :: S)
    | _, _ => False)
  | .range t x => (match P.underlying t, ev l x with
    | some (.map _ _), .map mm => mapP mm fun m => ∃ es clock, MpC I S m es clock ∧ ∀ b, putP n o.dst (.pointer (some ⟨b, 0, none⟩)) K l I ((b, .mapIter (some m) clock #[] clock) :: S)
    | _, _ => False)
  | .next it false => (match ev l it with
    | .pointer (some a) => NxP I S a (putP n o.dst (.tuple #[.bool false]) K l I S) fun k v T => putP n o.dst (.tuple #[.bool true, k, v]) K l I T
    | _ => False)
  | .entry it => (match ev l it with
    | .pointer (some a) => EnP I S a fun k v => putP n o.dst (.tuple #[k, v]) K l I S
    | _ => False)
  | .insert t m k v => (match P.underlying t, ev l m with
    | some (.map kt _), .map m => (match P.underlying kt with
      | some kd => (match keyD kd with
        | true => MapSt S m kd (ev l k) (ev l v) fun T => putP n o.dst undef K l I T
        | false => False)
      | none => False)
    | _, _ => False)
  | .lookup t x ix ok => (match P.underlying t, ev l x with
    | some (.map kt et), .map m => (match P.underlying kt, (P.info? et).bind (·.zero) with
      | some kd, some z => (match keyD kd with
        | true => exTy P et fun v => ∃ b : Bool, MapAt I S m kd (ev l ix) z v b ∧ putP n o.dst (lkV ok v b) K l I S
        | false => (match isSt kd && chkV P 4 kt (ev l ix) with
          | true => exTy P et fun v => ∃ b : Bool, MapAtS P kt I S m (ev l ix) z v b ∧ putP n o.dst (lkV ok v b) K l I S
          | false => False))
      | _, _ => False)
    | _, _ => False)
  | .mapUpdate t m k v => (match P.underlying t, ev l m with
    | some (.map kt _), .map m => (match P.underlying kt with
      | some kd => (match keyD kd with
        | true => MapSt S m kd (ev l k) (ev l v) fun T => putP n o.dst undef K l I T
        | false => (match isSt kd && chkV P 4 kt (ev l k) with
          | true => MapStS P kt S m (ev l k) (ev l v) fun T => putP n o.dst undef K l I T
          | false => False))
      | none => False)
    | _, _ => False)
  | .convert s d x => (match P.underlying s, P.underlying d with
    | some (.slice e), some .string => (match P.underlying e, ev l x with
      | some (.int .u8), .slice p m _ => ∃ s : ByteArray, BytesAt I S p m s ∧ putP n o.dst (.string s) K l I S
      | _, _ => False)
    | some (.pointer t), some .unsafePointer => (match ev l x with
      | .pointer p => (match Nat.beq (P.cellsOf t) 0 with
        | false => ptrP p fun a => ∃ cs e, BlkAt I S a.block cs e ∧ a.off < cs.size ∧ putP n o.dst (.pointer (some a)) K l I S
        | true => False)
      | _ => False)
    | some .unsafePointer, some (.pointer t) => (match ev l x with
      | .pointer p => (match Nat.beq (P.cellsOf t) 0 with
        | false => ptrP p fun a => ∃ cs e, BlkAt I S a.block cs e ∧ liesAt P P.depth e (cs.size / P.cellsOf e) a.off t 1 = true ∧ putP n o.dst (.pointer (some a)) K l I S
        | true => False)
      | _ => False)
    | some .string, some (.slice e) => (match P.underlying e, ev l x with
      | some (.int .u8), .string s => s.size ≤ maxLen ∧ ∀ g c : Nat, s.size ≤ c → c ≤ maxLen → putP n o.dst (.slice (some ⟨g, 0, none⟩) s.size c) K l I ((g, .cells (byteCells s ++ repV (c - s.size) [.int .u8 0]).toArray e (c, c + 1)) :: S)
      | _, _ => False)
    | _, _ => (match eval0 P (execOp (ev l) o) with | some (.value v) => putP n o.dst v K l I S | _ => False))
  | .binOp op t x y _ => BinP P op t x y (ev l x) (ev l y) fun v => putP n o.dst v K l I S
  | .call c => (match c.callee, c.argTypes.toList, c.args.toList with
    | .value f, _, args => (match ev l f with
      | .func (.func fid) fs cs => (match callable P fid with
        | true => Runs P fid (fs.toList ++ args.map (ev l) ++ cs.toList).toArray I S fun v J T => asTy P o.type v fun v => putP n o.dst v K l J T
        | false => RunsX P fid (fs.toList ++ args.map (ev l) ++ cs.toList).toArray I S fun v J T => asTy P o.type v fun v => putP n o.dst v K l J T)
      | _ => False)
    | .builtin .len, [t], [x] => (match P.underlying t, ev l x with
      | some .string, .string s => putP n o.dst (.int .i64 (s.size : Int)) K l I S
      | some (.slice _), .slice _ m _ => putP n o.dst (.int .i64 (m : Int)) K l I S
      | some (.map _ _), .map m => ∃ c : Nat, MapLen I S m c ∧ putP n o.dst (.int .i64 (c : Int)) K l I S
      | _, _ => False)
    | .builtin .delete, [t, _], [x, k] => (match P.underlying t, ev l x with
      | some (.map kt _), .map m => (match P.underlying kt with
        | some kd => (match keyD kd with
          | true => MapDl S m kd (ev l k) fun T => putP n o.dst (.tuple #[]) K l I T
          | false => (match isSt kd && chkV P 4 kt (ev l k) with
            | true => MapDlS P kt S m (ev l k) fun T => putP n o.dst (.tuple #[]) K l I T
            | false => False))
        | none => False)
      | _, _ => False)
    | .builtin .cap, [t], [x] => (match P.underlying t, ev l x with
      | some (.slice _), .slice _ _ m => putP n o.dst (.int .i64 (m : Int)) K l I S
      | _, _ => False)
    | .builtin .max, _, x :: rest => (match ev l x with
      | .int k a => (match MaxL k a (rest.map (ev l)) with | some m => putP n o.dst (.int k m) K l I S | none => False)
      | _ => False)
    | .builtin .min, _, x :: rest => (match ev l x with
      | .int k a => (match MinL k a (rest.map (ev l)) with | some m => putP n o.dst (.int k m) K l I S | none => False)
      | _ => False)
    | .builtin .append, [t, t'], [s, x] => (match P.underlying t with
      | some (.slice e) => (match P.info? e with
        | some i => (match i.zero with
          | some z => (match Nat.beq z.cells.size i.size && Nat.blt 0 i.size with
            | true => AppG e i.size i.bytes z.cells.toList (P.underlying t') I S (ev l s) (ev l x) fun p m c T => putP n o.dst (.slice p m c) K l I T
            | false => False)
          | none => False)
        | none => False)
      | _ => False)
    | .builtin .unsafeSliceData, [t], [x] => (match P.underlying t, ev l x with
      | some (.slice _), .slice p _ c => (p.isSome = true → c ≠ 0) ∧ putP n o.dst (.pointer p) K l I S
      | _, _ => False)
    | .builtin .unsafeString, [t, _], [x, y] => (match P.underlying t, ev l x, ev l y with
      | some (.pointer u), .pointer p, .int _ m => UsP P u I S p m fun s T => putP n o.dst (.string s) K l I T
      | _, _, _ => False)
    | .builtin .clear, [t], [x] => (match P.underlying t, ev l x with
      | some (.slice e), .slice p m _ => (match (P.info? e).bind (·.zero) with
        | some z => ClrP z.cells.toList S p m fun T => putP n o.dst (.tuple #[]) K l I T
        | none => False)
      | _, _ => False)
    | .builtin .copy, [t, _], [d, x] => (match P.underlying t with
      | some (.slice e) => (match P.info? e with
        | some i => CpyP i.size I S (ev l d) (ev l x) fun m T => putP n o.dst (.int .i64 (m : Int)) K l I T
        | none => False)
      | _ => False)
    | .builtin .complex, _, _ => (match eval0 P (execOp (ev l) o) with | some (.value v) => putP n o.dst v K l I S | _ => False)
    | .builtin .real, _, _ => (match eval0 P (execOp (ev l) o) with | some (.value v) => putP n o.dst v K l I S | _ => False)
    | .builtin .imag, _, _ => (match eval0 P (execOp (ev l) o) with | some (.value v) => putP n o.dst v K l I S | _ => False)
    | _, _, _ => False)
  | _ => (match eval0 P (execOp (ev l) o) with | some (.value v) => putP n o.dst v K l I S | _ => False)

/-! ### soundness -/
def NX (n : Nat) (I : IMem) (K : Fr → IMem → SH → Prop) (a : Act) (w : World) : Prop := ∃ l J T, FrOK n l a ∧ I.le J ∧ Sat J T w ∧ K l J T
theorem putP.nx {n : Nat} {d : Option Tmp} {v : Value} {K : Fr → IMem → SH → Prop} {l : Fr} {I J : IMem} {T : SH} {a : Act} {w : World} (h : putP n d v K l J T) (ha : FrOK n l a) (hle : I.le J) (hw : Sat J T w) :
    NX n I K (a.put d v) w := by
  cases d with
  | none => exact ⟨l, J, T, ha, hle, hw, h⟩
  | some d =>
    simp only [putP] at h
    split at h
    · rename_i hb
      exact ⟨_, J, T, ha.put (by simpa using hb) v, hle, hw, h⟩
    · exact h.elim

section
variable {P : Program} {n : Nat} {o : Oper} {K : Fr → IMem → SH → Prop} {l : Fr} {I : IMem} {S : SH} {a : Act} {w : World} {Q : Exit → Act → World → Prop}
theorem wp_value {v : Value} {w' : World} {T : SH} (hr : (execOp (ev l) o).run P w = .ok (.value v) w') (h : putP n o.dst v K l I T) (hw : Sat I T w') (ha : FrOK n l a) : o.wp P a w (NX n I K) Q := by
  simp only [Oper.wp, ha.eval, hr, Oper.upon]
  exact h.nx ha (IMem.le.refl I) hw
theorem wp_skip' {w' : World} {T : SH} (hr : (execOp (ev l) o).run P w = .ok .skip w') (h : putP n o.dst undef K l I T) (hw : Sat I T w') (ha : FrOK n l a) : o.wp P a w (NX n I K) Q := by
  simp only [Oper.wp, ha.eval, hr, Oper.upon]
  exact h.nx ha (IMem.le.refl I) hw
theorem wp_pure (h : match eval0 P (execOp (ev l) o) with | some (.value v) => putP n o.dst v K l I S | _ => False) (hw : Sat I S w) (ha : FrOK n l a) : o.wp P a w (NX n I K) Q := by
  split at h
  · rename_i v he
    exact wp_value (run_of_eval0 he) h hw ha
  · exact h.elim
theorem wp_enter {f : FuncId} {args : Array Value} (hr : (execOp (ev l) o).run P w = .ok (.enter f args) w) (h : Runs P f args I S fun v J T => asTy P o.type v fun v => putP n o.dst v K l J T) (hw : Sat I S w) (ha : FrOK n l a) :
    o.wp P a w (NX n I K) Q := by
  simp only [Oper.wp, ha.eval, hr, Oper.upon]
  refine (h w hw).mono ?_
  rintro e w' ⟨v, J, T, rfl, hle, hs, hv⟩
  exact (asTy_elim hv).nx ha hle hs
end
end Go.Px
/- The soundness of an operation's proposition. -/
namespace Go.Px
set_option linter.unusedVariables false
set_option linter.unusedSimpArgs false

section
variable {P : Program} {n : Nat} {o : Oper} {K : Fr → IMem → SH → Prop} {l : Fr} {I : IMem} {S : SH} {a : Act} {w : World} {Q : Exit → Act → World → Prop}

theorem run_equal {t : TypeId} {x y : Value} {b : Bool} (h : ∀ d, (Op.equalIn (d + 1) t x y).run P w = .ok b w) : (Op.equal t x y).run P w = .ok b w := h 9999
theorem run_eqlB {t : TypeId} {xo yo : Operand} {x y : Value} {b : Bool} (hg : (eqGuard .eql t xo yo x y).run P w = .ok () w) (hb : binOp .eql t x y = (do pure (.bool (← Op.equal t x y))))
    (h : ∀ d, (Op.equalIn (d + 1) t x y).run P w = .ok b w) : (do eqGuard .eql t xo yo x y; binOp .eql t x y : Sem Value).run P w = .ok (.bool b) w := by
  simp only [Sem.run_bind, hg, Result.andThen_ok, hb, run_equal h, Sem.run_pure]
theorem run_neqB {t : TypeId} {xo yo : Operand} {x y : Value} {b : Bool} (hg : (eqGuard .neq t xo yo x y).run P w = .ok () w) (hb : binOp .neq t x y = (do pure (.bool (!(← Op.equal t x y)))))
    (h : ∀ d, (Op.equalIn (d + 1) t x y).run P w = .ok b w) : (do eqGuard .neq t xo yo x y; binOp .neq t x y : Sem Value).run P w = .ok (.bool !b) w := by
  simp only [Sem.run_bind, hg, Result.andThen_ok, hb, run_equal h, Sem.run_pure]
theorem eqIn_ptr {t e : TypeId} {p : Option Addr} (hu : P.underlying t = some (.pointer e)) (d : Nat) : (Op.equalIn (d + 1) t (.pointer p) (.pointer none)).run P w = .ok p.isNone w := by
  cases p <;> simp [Op.equalIn, run_underlying hu]
theorem eqIn_sl {t e : TypeId} {p : Option Addr} {a b c d' : Nat} (hu : P.underlying t = some (.slice e)) (d : Nat) : (Op.equalIn (d + 1) t (.slice p a b) (.slice none c d')).run P w = .ok p.isNone w := by
  cases p <;> simp [Op.equalIn, run_underlying hu]
theorem eqIn_map {t k e : TypeId} {p : Option Nat} (hu : P.underlying t = some (.map k e)) (d : Nat) : (Op.equalIn (d + 1) t (.map p) (.map none)).run P w = .ok p.isNone w := by
  cases p <;> simp [Op.equalIn, run_underlying hu]
theorem eqIn_if {t : TypeId} {ms : Array (String × TypeId)} {x : Value} {b : Bool} (hu : P.underlying t = some (.interface ms)) (hb : isNilI x = some b) (d : Nat) : (Op.equalIn (d + 1) t x .nilIface).run P w = .ok b w := by
  cases x <;> simp [isNilI] at hb <;> subst hb <;> simp [Op.equalIn, run_underlying hu]

theorem guard_if {op : BinOp} {t : TypeId} {xo : Operand} {c : Value} {x : Value} {b : Bool} (ho : op = .eql ∨ op = .neq) (hb : isNilI x = some b) : (eqGuard op t xo (.const c) x .nilIface).run P w = .ok () w := by
  rcases ho with rfl | rfl <;> cases x <;> first | (simp [isNilI] at hb; done) | (cases xo <;> simp [eqGuard])
theorem eql_if {t : TypeId} {x : Value} {b : Bool} (hb : isNilI x = some b) : binOp .eql t x .nilIface = (do pure (.bool (← Op.equal t x .nilIface))) := by
  cases x <;> first | (simp [isNilI] at hb; done) | rfl
theorem neq_if {t : TypeId} {x : Value} {b : Bool} (hb : isNilI x = some b) : binOp .neq t x .nilIface = (do pure (.bool (!(← Op.equal t x .nilIface)))) := by
  cases x <;> first | (simp [isNilI] at hb; done) | rfl

theorem eqIn_sc {P : Program} {w : World} {t : TypeId} {td : TypeDesc} {x y : Value} {b : Bool} (hu : P.underlying t = some td) (h : eqS td x y = some b) (d : Nat) : (Op.equalIn (d + 1) t x y).run P w = .ok b w := by
  unfold eqS at h
  split at h
  · injection h with h; subst h; simp [Op.equalIn, run_underlying hu]
  · split at h
    · rename_i hk; have hk := of_decide_eq_true hk; subst hk
      injection h with h; subst h; simp [Op.equalIn, run_underlying hu]
    · cases h
  · injection h with h; subst h; simp [Op.equalIn, run_underlying hu]
  · cases h
theorem run_partV {P : Program} {w : World} {t : TypeId} {xs : Array Value} {off : Nat} {x : Value} (h : partV P t xs off = some x) : (part t xs off).run P w = .ok x w := by
  unfold partV at h
  split at h
  · cases h
  · rename_i d hu
    obtain ⟨i, hi, hsz⟩ := info_of_underlying hu
    split at h
    · rename_i ha
      injection h with h; subst h
      simp [part, run_isAgg hu, ha, run_sizeOf hi, hsz]
    · rename_i ha
      simp [part, run_isAgg hu, ha, h]
theorem eqIn_struct {P : Program} {w : World} {t : TypeId} {fs : Array Field} {xs ys : Array Value} {b : Bool} {r : TypeId → Value → Value → Option Bool} {d : Nat} (hr : ∀ t x y c, r t x y = some c → (Op.equalIn d t x y).run P w = .ok c w)
    (hu : P.underlying t = some (.struct fs)) (hs : P.stoodInHeld t = false) (h : eqFs P r xs ys fs.toList = some b) :
    (Op.equalIn (d + 1) t (.agg xs) (.agg ys)).run P w = .ok b w := by
  unfold Op.equalIn
  simp only [Sem.run_bind, run_underlying hu, Result.andThen_ok]
  rw [← Array.forIn_toList]
  have hp : (program).run P w = .ok P w := rfl
  simp only [hp, Result.andThen_ok, hs, Bool.false_eq_true, if_false]
  have loop : ∀ (body : Field → Option Bool × Unit → Sem (ForInStep (Option Bool × Unit))) (hbody : ∀ (f : Field) (s : Option Bool × Unit) (x y : Value) (c : Bool), f.name ≠ "_" → partV P f.type xs f.offset = some x → partV P f.type ys f.offset = some y → r f.type x y = some c →
      (body f s).run P w = .ok (if c then .yield (none, ()) else .done (some false, ())) w), ∀ (l : List Field) (b : Bool), eqFs P r xs ys l = some b → (forIn l (none, ()) body : Sem (Option Bool × Unit)).run P w = .ok (if b then none else some false, ()) w := by
    intro body hbody l
    induction l with
    | nil => intro b h; simp [eqFs] at h; subst h; simp
    | cons f l ih =>
      intro b h
      unfold eqFs at h
      split at h
      · rename_i x y hn hx hy
        split at h
        · rename_i c c' hc hc'
          injection h with h; subst h
          have hb := hbody f (none, ()) x y c (of_decide_eq_false hn) hx hy hc
          simp only [List.forIn_cons, Sem.run_bind, hb, Result.andThen_ok]
          cases c
          · simp
          · simp only [if_true, ih c' hc']; simp
        · cases h
      · cases h
  rw [Sem.run_bind, loop _ ?_ fs.toList b h]
  · cases b <;> simp
  · intro f s x y c hn hx hy hc
    simp only [if_pos hn, Sem.run_bind, run_partV hx, run_partV hy, Result.andThen_ok, hr _ _ _ _ hc]
    cases c <;> rfl
theorem eqIn_V {P : Program} {w : World} : ∀ (n : Nat) (t : TypeId) (x y : Value) (b : Bool) (d : Nat), eqV P n t x y = some b → (Op.equalIn (d + n) t x y).run P w = .ok b w
  | 0, _, _, _, _, _, h => by simp [eqV] at h
  | n + 1, t, x, y, b, d, h => by
    unfold eqV at h
    split at h
    · cases h
    · rename_i td hu
      split at h
      · rename_i fs xs ys
        split at h
        · rename_i hs
          exact eqIn_struct (d := d + n) (fun t x y c hc => eqIn_V n t x y c d hc) hu hs h
        · cases h
      · exact eqIn_sc hu h (d + n)
theorem run_eqSt {op : BinOp} {t : TypeId} {xo yo : Operand} {xs ys : Array Value} {b : Bool} (ho : op = .eql ∨ op = .neq) (hs : (!P.eqGuardType P.depth t) = true) (h : eqV P 4 t (.agg xs) (.agg ys) = some b) (w : World) :
    (do eqGuard op t xo yo (.agg xs) (.agg ys); binOp op t (.agg xs) (.agg ys) : Sem Value).run P w = .ok (.bool (match op with | .eql => b | _ => !b)) w := by
  simp only [Bool.not_eq_true'] at hs
  have he : (Op.equal t (.agg xs) (.agg ys)).run P w = .ok b w := eqIn_V 4 t _ _ b 9996 h
  have hg : (eqGuard op t xo yo (.agg xs) (.agg ys)).run P w = .ok () w := by
    have hp : (program).run P w = .ok P w := rfl
    rcases ho with rfl | rfl <;> simp [eqGuard, hp, hs]
  rcases ho with rfl | rfl
  · have : binOp .eql t (.agg xs) (.agg ys) = (do pure (.bool (← Op.equal t (.agg xs) (.agg ys)))) := rfl
    simp only [Sem.run_bind, hg, Result.andThen_ok, this, he, Sem.run_pure]
  · have : binOp .neq t (.agg xs) (.agg ys) = (do pure (.bool (!(← Op.equal t (.agg xs) (.agg ys))))) := rfl
    simp only [Sem.run_bind, hg, Result.andThen_ok, this, he, Sem.run_pure]
theorem eqIn_ptr2 {t e : TypeId} {a : Addr} (hu : P.underlying t = some (.pointer e)) (hz : P.cellsOf e ≠ 0) (d : Nat) : (Op.equalIn (d + 1) t (.pointer (some a)) (.pointer (some a))).run P w = .ok true w := by
  cases hi : P.info? e with
  | none => simp [Program.cellsOf, hi] at hz
  | some i =>
    have hz' : i.size ≠ 0 := by rwa [Program.cellsOf, hi] at hz
    simp [Op.equalIn, run_underlying hu, run_sizeOf hi, hz', sameAddr]
theorem BinM.run {op : BinOp} {t : TypeId} {xo yo : Operand} {x y : Value} {K : Value → Prop} (h : BinM P op t xo yo x y K) : ∃ v, (∀ w, (do eqGuard op t xo yo x y; binOp op t x y : Sem Value).run P w = .ok v w) ∧ K v := by
  unfold BinM at h
  split at h
  case h_1 k a k' b =>
    by_cases hb : b = 0
    · rw [decide_eq_true hb] at h; exact h.elim
    · rw [decide_eq_false hb] at h
      simp only [bcase] at h
      split at h
      · rename_i hk; have hk := of_decide_eq_true hk; subst hk
        exact ⟨_, fun w => by simp [eqGuard, binOp, Op.intDiv, hb], h⟩
      · exact h.elim
  case h_2 k a k' b =>
    by_cases hb : b = 0
    · rw [decide_eq_true hb] at h; exact h.elim
    · rw [decide_eq_false hb] at h
      simp only [bcase] at h
      split at h
      · rename_i hk; have hk := of_decide_eq_true hk; subst hk
        exact ⟨_, fun w => by simp [eqGuard, binOp, Op.intDiv, hb], h⟩
      · exact h.elim
  case h_3 k a k' b =>
    by_cases hb : b < 0
    · rw [decide_eq_true hb] at h; exact h.elim
    · rw [decide_eq_false hb] at h
      exact ⟨_, fun w => by simp [eqGuard, binOp, Op.shift, hb], h⟩
  case h_4 k a k' b =>
    by_cases hb : b < 0
    · rw [decide_eq_true hb] at h; exact h.elim
    · rw [decide_eq_false hb] at h
      exact ⟨_, fun w => by simp [eqGuard, binOp, Op.shift, hb], h⟩
  case h_5 a b =>
    obtain ⟨h1, h⟩ := h
    have hm : IntKind.i64.max = 9223372036854775807 := by decide
    have hc : ¬ (((a.size + b.size : Nat) : Int) > IntKind.i64.max) := by rw [hm]; omega
    refine ⟨_, fun w => ?_, h⟩
    simp only [eqGuard, binOp, Op.stringOp, hc, if_false]
    simp
  case h_6 =>
    split at h
    · rename_i hu
      exact ⟨_, fun w => run_eqlB rfl rfl (eqIn_ptr hu), h⟩
    · exact h.elim
  case h_7 =>
    split at h
    · rename_i hu
      exact ⟨_, fun w => run_neqB rfl rfl (eqIn_ptr hu), h⟩
    · exact h.elim
  case h_8 =>
    split at h
    · rename_i e hu
      split at h
      · rename_i hz
        obtain ⟨rfl, h⟩ := h
        exact ⟨_, fun w => run_eqlB rfl rfl (eqIn_ptr2 hu (Nat.ne_of_beq_eq_false hz)), h⟩
      · exact h.elim
    · exact h.elim
  case h_9 =>
    split at h
    · rename_i e hu
      split at h
      · rename_i hz
        obtain ⟨rfl, h⟩ := h
        exact ⟨_, fun w => run_neqB rfl rfl (eqIn_ptr2 hu (Nat.ne_of_beq_eq_false hz)), h⟩
      · exact h.elim
    · exact h.elim
  case h_10 =>
    split at h
    · rename_i hu
      exact ⟨_, fun w => run_eqlB rfl rfl (eqIn_sl hu), h⟩
    · exact h.elim
  case h_11 =>
    split at h
    · rename_i hu
      exact ⟨_, fun w => run_neqB rfl rfl (eqIn_sl hu), h⟩
    · exact h.elim
  case h_12 =>
    split at h
    · rename_i hu
      exact ⟨_, fun w => run_eqlB rfl rfl (eqIn_map hu), h⟩
    · exact h.elim
  case h_13 =>
    split at h
    · rename_i hu
      exact ⟨_, fun w => run_neqB rfl rfl (eqIn_map hu), h⟩
    · exact h.elim
  case h_14 =>
    split at h
    · rename_i fs hu
      split at h
      · rename_i b hs hb
        exact ⟨_, fun w => run_eqSt (.inl rfl) hs hb w, h⟩
      · exact h.elim
    · exact h.elim
  case h_15 =>
    split at h
    · rename_i fs hu
      split at h
      · rename_i b hs hb
        exact ⟨_, fun w => run_eqSt (.inr rfl) hs hb w, h⟩
      · exact h.elim
    · exact h.elim
  case h_16 =>
    split at h
    · rename_i v he
      exact ⟨v, fun w => run_of_eval0 he, h⟩
    · exact h.elim

theorem eqIn_I {t ty : TypeId} {ms : Array (String × TypeId)} {x vy : Value} {b : Bool} (hu : P.underlying t = some (.interface ms)) (hb : eqI P x ty vy = some b) (d : Nat) : (Op.equalIn (d + 2) t x (.iface ty vy)).run P w = .ok b w := by
  cases x <;> simp only [eqI] at hb <;> first | (cases hb; done) | skip
  case nilIface => injection hb with hb; subst hb; simp [Op.equalIn, run_underlying hu]
  case iface tx vx =>
    split at hb
    · rename_i hne
      injection hb with hb; subst hb
      have hne := Nat.ne_of_beq_eq_false hne
      simp [Op.equalIn, run_underlying hu, hne]
    · rename_i he
      have he := Nat.eq_of_beq_eq_true he; subst he
      split at hb
      · rename_i k a k' c hcm huy
        split at hb
        · rename_i hk
          have hk := of_decide_eq_true hk; subst hk
          injection hb with hb; subst hb
          obtain ⟨i, hi, hic⟩ := Option.map_eq_some_iff.1 hcm
          have hti : (typeInfo tx).run P w = .ok i w := by simp [typeInfo, program, Sem.run, hi]
          unfold Op.equalIn
          simp only [Sem.run_bind, run_underlying hu, Result.andThen_ok, ne_eq, not_true_eq_false, if_false, hti, hic, Bool.not_true, Bool.false_eq_true]
          simp [Op.equalIn, run_underlying huy]
        · cases hb
      · cases hb
theorem guard_I {op : BinOp} {t ty : TypeId} {xo yo : Operand} {x vy : Value} : (eqGuard op t xo yo x (.iface ty vy)).run P w = .ok () w := by
  cases op <;> cases x <;> simp [eqGuard]
theorem eql_I {t ty : TypeId} {x vy : Value} {b : Bool} (hb : eqI P x ty vy = some b) : binOp .eql t x (.iface ty vy) = (do pure (.bool (← Op.equal t x (.iface ty vy)))) := by
  cases x <;> first | (simp [eqI] at hb; done) | rfl
theorem neq_I {t ty : TypeId} {x vy : Value} {b : Bool} (hb : eqI P x ty vy = some b) : binOp .neq t x (.iface ty vy) = (do pure (.bool (!(← Op.equal t x (.iface ty vy))))) := by
  cases x <;> first | (simp [eqI] at hb; done) | rfl
theorem run_equal2 {t : TypeId} {x y : Value} {b : Bool} (h : ∀ d, (Op.equalIn (d + 2) t x y).run P w = .ok b w) : (Op.equal t x y).run P w = .ok b w := h 9998
theorem BinP.run {op : BinOp} {t : TypeId} {xo yo : Operand} {x y : Value} {K : Value → Prop} (h : BinP P op t xo yo x y K) : ∃ v, (∀ w, (do eqGuard op t xo yo x y; binOp op t x y : Sem Value).run P w = .ok v w) ∧ K v := by
  unfold BinP at h
  split at h
  · split at h
    · split at h
      · rename_i c ms _ hu
        obtain ⟨b, hb, h⟩ := h
        exact ⟨_, fun w => run_eqlB (guard_if (.inl rfl) hb) (eql_if hb) (eqIn_if hu hb), h⟩
      · exact h.elim
    · split at h
      · rename_i c ms _ hu
        obtain ⟨b, hb, h⟩ := h
        exact ⟨_, fun w => run_neqB (guard_if (.inr rfl) hb) (neq_if hb) (eqIn_if hu hb), h⟩
      · exact h.elim
    · exact h.elim
  · split at h
    · split at h
      · rename_i ms hu
        obtain ⟨b, hb, h⟩ := h
        refine ⟨_, fun w => ?_, h⟩
        simp only [Sem.run_bind, guard_I, Result.andThen_ok, eql_I hb, run_equal2 (eqIn_I (w := w) hu hb), Sem.run_pure]
      · exact h.elim
    · split at h
      · rename_i ms hu
        obtain ⟨b, hb, h⟩ := h
        refine ⟨_, fun w => ?_, h⟩
        simp only [Sem.run_bind, guard_I, Result.andThen_ok, neq_I hb, run_equal2 (eqIn_I (w := w) hu hb), Sem.run_pure]
      · exact h.elim
    · exact h.elim
  · exact BinM.run h

theorem maxL_run {k : IntKind} : ∀ (vs : List Value) (x m : Int), MaxL k x vs = some m → (vs.foldlM Builtin.max2 (.int k x)).run P w = .ok (.int k m) w
  | [], x, m, h => by simp [MaxL] at h; subst h; rfl
  | v :: vs, x, m, h => by
    cases v <;> first | (simp [MaxL] at h; done) | skip
    rename_i k' y
    simp only [MaxL] at h
    have ih := maxL_run vs _ m h
    simp only [List.foldlM_cons, Builtin.max2, Sem.run_bind, Sem.run_pure, Result.andThen_ok, ih]
theorem minL_run {k : IntKind} : ∀ (vs : List Value) (x m : Int), MinL k x vs = some m → (vs.foldlM Builtin.min2 (.int k x)).run P w = .ok (.int k m) w
  | [], x, m, h => by simp [MinL] at h; subst h; rfl
  | v :: vs, x, m, h => by
    cases v <;> first | (simp [MinL] at h; done) | skip
    rename_i k' y
    simp only [MinL] at h
    have ih := minL_run vs _ m h
    simp only [List.foldlM_cons, Builtin.min2, Sem.run_bind, Sem.run_pure, Result.andThen_ok, ih]

theorem run_places {fs : Array Field} : ∀ (l : List Field) (out : List (Nat × Nat)), (∀ f ∈ l, (P.info? f.type).isSome = true) →
    (l.mapM fun f => (do pure (f.offset, ← sizeOf f.type) : Sem (Nat × Nat))).run P w = .ok (l.map fun f => (f.offset, P.cellsOf f.type)) w
  | [], _, _ => by simp
  | f :: l, out, h => by
    have h0 := h f (List.mem_cons_self ..)
    obtain ⟨i, hi⟩ := Option.isSome_iff_exists.1 h0
    have ih := run_places (fs := fs) l out (fun f hf => h f (List.mem_cons_of_mem _ hf))
    have hc : P.cellsOf f.type = i.size := by simp [Program.cellsOf, hi]
    simp only [List.mapM_cons, Sem.run_bind, run_sizeOf hi, Result.andThen_ok, Sem.run_pure, ih, List.map_cons, hc]

theorem map_evs (l : Fr) (parts : Array (Nat × Operand)) : (parts.map fun (p : Nat × Operand) => match p with | (i, x) => (i, ev l x)) = (evs l parts).toArray := by
  rw [evs]; exact (Array.toArray_toList (xs := parts.map _)).symm.trans (by simp)


theorem run_placesA {fs : Array Field} (h : ∀ f ∈ fs.toList, (P.info? f.type).isSome = true) :
    (fs.mapM fun f => (do pure (f.offset, ← sizeOf f.type) : Sem (Nat × Nat))).run P w = .ok (fs.map fun f => (f.offset, P.cellsOf f.type)) w := by
  have := run_places (P := P) (w := w) (fs := fs) fs.toList [] h
  obtain ⟨l⟩ := fs
  dsimp only at this
  simp only [List.mapM_toArray, Sem.run_map, this, Result.andThen_ok, List.map_toArray]
theorem run_build {t : TypeId} {parts : Array (Nat × Operand)} {fs : Array Field} {i : TypeInfo} {z : Value} {cs : Array Value} (ho : o.op = .build t parts) (hu : P.underlying t = some (.struct fs)) (hi : P.info? t = some i)
    (hiz : i.zero = some z) (hall : ∀ f ∈ fs.toList, (P.info? f.type).isSome = true) (hf : fillS P fs.toList z.cells (evs l parts) = some cs) : (execOp (ev l) o).run P w = .ok (.value (.agg cs)) w := by
  have hfill : ∀ place : Nat → Option (Nat × Nat), (∀ i f, fs.toList[i]? = some f → place i = some (f.offset, P.cellsOf f.type)) → Instr.fill place z.cells (evs l parts) = some cs := fun place hp => fillS_ok hp _ _ _ hf
  have hp : (fs.mapM fun f => Prod.mk f.offset <$> sizeOf f.type).run P w = .ok (fs.map fun f => (f.offset, P.cellsOf f.type)) w := by simpa using run_placesA (P := P) (w := w) hall
  have h1 := hfill (fun x => Option.map (fun f => (f.offset, P.cellsOf f.type)) fs[x]?) (fun i f hf => by simp at hf; simp [hf])
  simp [execOp, ho, Instr.build, zeroValue, typeInfo, program, Sem.run, hi, hiz, run_underlying hu, hp, map_evs, h1]
theorem run_buildA {t e : TypeId} {parts : Array (Nat × Operand)} {m : Nat} {i ie : TypeInfo} {z : Value} {cs : Array Value} (ho : o.op = .build t parts) (hu : P.underlying t = some (.array m e)) (hi : P.info? t = some i)
    (hiz : i.zero = some z) (hie : P.info? e = some ie) (hf : fillA ie.size z.cells (evs l parts) = some cs) : (execOp (ev l) o).run P w = .ok (.value (.agg cs)) w := by
  have hfill := fillA_ok _ _ _ hf
  simp [execOp, ho, Instr.build, zeroValue, typeInfo, program, Sem.run, hi, hiz, run_underlying hu, run_sizeOf hie, map_evs, hfill]
theorem run_buildSlice {t e : TypeId} {len : Nat} {parts : Array (Nat × Operand)} {i : TypeInfo} {z : Value} {cs : Array Value} (ho : o.op = .buildSlice t len parts) (hu : P.underlying t = some (.slice e)) (hi : P.info? e = some i)
    (hz : i.zero = some z) (h1 : z.cells.size = i.size) (h2 : len * i.size ≤ 16777216) (hf : fillA i.size (repV len z.cells.toList).toArray (evs l parts) = some cs) :
    (execOp (ev l) o).run P w = .ok (.value (.slice (some ⟨w.heap.size, 0, none⟩) len len)) { w with heap := w.heap.push (.cells cs e (0, 0)) } := by
  have hfill := fillA_ok _ _ _ hf
  rw [← repV_eq, h1] at hfill
  have h2' : ¬ (len * i.size > 2 ^ 24) := by omega
  by_cases h0 : len * i.size = 0
  · have e0 : Array.range 0 = #[] := rfl
    rw [h0, e0] at hfill
    rw [Array.map_empty] at hfill
    simp [execOp, ho, Instr.buildSlice, run_underlying hu, run_sizeOf hi, h0, map_evs, newRow, newObj, Sem.run, hfill, e0]
  · simp [execOp, ho, Instr.buildSlice, run_underlying hu, run_sizeOf hi, h0, h2', map_evs, newRow, newObj, Sem.run, zeroValue, typeInfo, program, hi, hz, h1, hfill]
theorem run_makeSl {t e : TypeId} {x y : Operand} {k k' : IntKind} {len cap : Int} {i : TypeInfo} {z : Value} (ho : o.op = .makeSlice t x y) (hu : P.underlying t = some (.slice e)) (hx : ev l x = .int k len) (hy : ev l y = .int k' cap)
    (hi : P.info? e = some i) (hz : i.zero = some z) (hb : z.cells.size = i.size) (h0 : 0 ≤ len) (h1 : len ≤ cap) (h2 : cap ≤ 9223372036854775807) (h3 : i.bytes * cap ≤ 281474976710656) :
    (execOp (ev l) o).run P w = .ok (.value (.slice (some ⟨w.heap.size, 0, none⟩) len.toNat cap.toNat)) { w with heap := w.heap.push (.cells (repV cap.toNat z.cells.toList).toArray e (0, 0)) } := by
  have hr := run_make (P := P) w t e i z hu hi hz k k' len cap h0 h1 h3 h2
  have he : madeCells z.cells (cap.toNat * i.size) = (repV cap.toNat z.cells.toList).toArray := by
    have := repV_eq cap.toNat z.cells
    rw [hb] at this
    rw [← this, madeCells, hb]
  rw [he] at hr
  simp only [execOp, ho, hx, hy, Sem.run_bind, hr, Result.andThen_ok, Sem.run_pure]
  rfl
theorem run_bounds {isS : Bool} {len cap : Nat} {lo hi : Option Value} {n1 n2 : Nat}
    (hr1 : (match hi with | some v => Instr.sliceBound v cap (if isS then .sliceAcap else .sliceAlen) | none => pure len : Sem Nat).run P w = .ok n1 w)
    (hr2 : (match lo with | some v => Instr.sliceBound v n1 .sliceB | none => pure 0 : Sem Nat).run P w = .ok n2 w) :
    (Instr.sliceBounds isS len cap lo hi none).run P w = .ok (n2, n1, cap) w := by
  unfold Instr.sliceBounds
  cases hi with
  | none =>
    have : len = n1 := by simpa using hr1
    subst this
    cases lo with
    | none => have : 0 = n2 := by simpa using hr2
              subst this; simp
    | some v => simp only [Sem.run_bind, Sem.run_pure, Result.andThen_ok, Option.isSome_none, Bool.false_eq_true, if_false] at hr2 ⊢; rw [hr2]; simp
  | some u =>
    cases lo with
    | none => have : 0 = n2 := by simpa using hr2
              subst this
              simp only [Sem.run_bind, Sem.run_pure, Result.andThen_ok] at hr1 ⊢; rw [hr1]; simp
    | some v => simp only [Sem.run_bind, Sem.run_pure, Result.andThen_ok, Option.isSome_none, Bool.false_eq_true, if_false] at hr1 hr2 ⊢; rw [hr1]; simp only [Result.andThen_ok]; rw [hr2]; simp
theorem run_slStr {t : TypeId} {x : Operand} {lo hi : Option Operand} {s : ByteArray} {n1 n2 : Nat} (ho : o.op = .slice t x lo hi none) (hu : P.underlying t = some .string) (hx : ev l x = .string s)
    (hr1 : (match hi.map (ev l) with | some v => Instr.sliceBound v s.size .sliceAlen | none => pure s.size).run P w = .ok n1 w)
    (hr2 : (match lo.map (ev l) with | some v => Instr.sliceBound v n1 .sliceB | none => pure 0).run P w = .ok n2 w) : (execOp (ev l) o).run P w = .ok (.value (.string (s.extract n2 n1))) w := by
  have hb := run_bounds (P := P) (w := w) (isS := false) (by simpa using hr1) hr2
  simp [execOp, ho, Instr.sliceAt, run_underlying hu, Instr.slice, hx, hb]
theorem run_slSl {t e : TypeId} {x : Operand} {lo hi : Option Operand} {ad : Option Addr} {len cap : Nat} {inf : TypeInfo} {n1 n2 : Nat} (ho : o.op = .slice t x lo hi none) (hu : P.underlying t = some (.slice e)) (hx : ev l x = .slice ad len cap)
    (hinf : P.info? e = some inf)
    (hr1 : (match hi.map (ev l) with | some v => Instr.sliceBound v cap .sliceAcap | none => pure len).run P w = .ok n1 w)
    (hr2 : (match lo.map (ev l) with | some v => Instr.sliceBound v n1 .sliceB | none => pure 0).run P w = .ok n2 w) :
    (execOp (ev l) o).run P w = .ok (.value (.slice (slA ad cap n2 inf.size) (n1 - n2) (cap - n2))) w := by
  have hb := run_bounds (P := P) (w := w) (isS := true) (by simpa using hr1) hr2
  simp [execOp, ho, Instr.sliceAt, run_underlying hu, Instr.slice, hx, hb, run_sizeOf hinf, slA]

theorem run_slAr {t e : TypeId} {x : Operand} {lo hi : Option Operand} {ad : Addr} {len : Nat} {inf : TypeInfo} {n1 n2 : Nat} (ho : o.op = .slice t x lo hi none) (hu : P.underlying t = some (.array len e)) (hx : ev l x = .pointer (some ad))
    (hinf : P.info? e = some inf)
    (hr1 : (match hi.map (ev l) with | some v => Instr.sliceBound v len .sliceAlen | none => pure len).run P w = .ok n1 w)
    (hr2 : (match lo.map (ev l) with | some v => Instr.sliceBound v n1 .sliceB | none => pure 0).run P w = .ok n2 w) :
    (execOp (ev l) o).run P w = .ok (.value (.slice (slA (some ad) len n2 inf.size) (n1 - n2) (len - n2))) w := by
  have hb := run_bounds (P := P) (w := w) (isS := false) (by simpa using hr1) hr2
  simp [execOp, ho, Instr.sliceAt, run_underlying hu, Instr.sureAddr, hx, hb, run_sizeOf hinf, slA]
  split <;> rfl

theorem run_slMx {t e : TypeId} {x mx hi : Operand} {lo : Option Operand} {ad : Option Addr} {len cap : Nat} {inf : TypeInfo} {n0 n1 n2 : Nat} (ho : o.op = .slice t x lo (some hi) (some mx)) (hu : P.underlying t = some (.slice e)) (hx : ev l x = .slice ad len cap)
    (hinf : P.info? e = some inf) (hr0 : (Instr.sliceBound (ev l mx) cap .slice3Acap).run P w = .ok n0 w) (hr1 : (Instr.sliceBound (ev l hi) n0 .slice3B).run P w = .ok n1 w)
    (hr2 : (match lo.map (ev l) with | some v => Instr.sliceBound v n1 .slice3C | none => pure 0).run P w = .ok n2 w) :
    (execOp (ev l) o).run P w = .ok (.value (.slice (slA ad n0 n2 inf.size) (n1 - n2) (n0 - n2))) w := by
  have hb : (Instr.sliceBounds true len cap (lo.map (ev l)) (some (ev l hi)) (some (ev l mx))).run P w = .ok (n2, n1, n0) w := by
    unfold Instr.sliceBounds
    cases lo with
    | none =>
      have : 0 = n2 := by simpa using hr2
      subst this
      simp [hr0, hr1]
    | some v => simp at hr2; simp [hr0, hr1, hr2]
  simp [execOp, ho, Instr.sliceAt, run_underlying hu, Instr.slice, hx, hb, run_sizeOf hinf, slA]

/-- operations that read the heap (loads and calls apart) -/
def mapT (P : Program) (t : TypeId) : Bool := match P.underlying t with | some (.map _ _) => true | _ => false
def rdB (P : Program) : Op → Bool
  | .lookup .. => true
  | .convert s d _ => (match P.underlying s, P.underlying d with | some (.slice _), some .string => true | some (.pointer _), some .unsafePointer => true | some .unsafePointer, some (.pointer _) => true | _, _ => false)
  | .call { callee := .builtin .len, argTypes, .. } => argTypes.toList.any (mapT P)
  | _ => false
/-- operations that leave the world alone, and ask nothing of it -/
def quietB (P : Program) (op : Op) : Bool := match rdB P op with
  | true => false
  | false => match op with
    | .move _ | .assign _ | .nilCheck _ | .build .. | .indexAddr .. | .index .. | .slice .. | .binOp .. | .unOp .. | .extract .. | .field .. | .fieldAddr .. | .pick .. | .makeInterface .. => true
    | .convert s d _ => (match P.underlying s, P.underlying d with | some .string, some (.slice _) => false | _, _ => true)
    | .call { callee := .builtin b, .. } => match b with
      | .len | .cap | .max | .min | .unsafeSliceData | .complex | .real | .imag => true
      | _ => false
    | _ => false
theorem BlkAt.run {b : Nat} {cs : Array Value} {e : TypeId} (h : BlkAt I S b cs e) (hw : Sat I S w) : w.shape? b = some (e, cs.size) := by
  obtain ⟨fz, h⟩ := h
  have : w.heap[b]? = some (.cells cs e fz) := by
    rcases h with h | h
    · exact hw.im _ _ h
    · exact hw.own _ h
  simp [World.shape?, this]
theorem run_view {b : Nat} {x : TypeId × Nat} (h : w.shape? b = some x) : (viewAt b).run P w = .ok none w := by
  simp [viewAt, shape, Sem.run, h]
theorem run_toUnsafe {s d t : TypeId} {ad : Addr} {cs : Array Value} {e : TypeId} (hs : P.underlying s = some (.pointer t)) (hd : P.underlying d = some .unsafePointer) (ht : P.cellsOf t ≠ 0) (hi : ∃ i, P.info? t = some i) (hb : BlkAt I S ad.block cs e) (ho : ad.off < cs.size) (hw : Sat I S w) :
    (convert s d (.pointer (some ad))).run P w = .ok (.pointer (some ad)) w := by
  have h1 := hb.run hw
  obtain ⟨i, hi⟩ := hi
  have hz : i.size ≠ 0 := by rwa [Program.cellsOf, hi] at ht
  have h2 : (Conv.seenAt ad).run P w = .ok ad w := by simp [Conv.seenAt, run_view h1]
  have h3 : (cellsIn ad.block).run P w = .ok (some cs.size) w := by simp [cellsIn, shape, Sem.run, h1]
  have h4 : ¬ (cs.size ≤ ad.off) := by omega
  simp [convert, run_underlying hs, run_underlying hd, Conv.unsafePointer, h2, h3, run_sizeOf hi, hz, h4]
theorem run_ofUnsafe {s d t : TypeId} {ad : Addr} {cs : Array Value} {e : TypeId} (hs : P.underlying s = some .unsafePointer) (hd : P.underlying d = some (.pointer t)) (ht : P.cellsOf t ≠ 0) (hi : ∃ i, P.info? t = some i) (hb : BlkAt I S ad.block cs e)
    (hl : liesAt P P.depth e (cs.size / P.cellsOf e) ad.off t 1 = true) (hw : Sat I S w) : (convert s d (.pointer (some ad))).run P w = .ok (.pointer (some ad)) w := by
  have h1 := hb.run hw
  obtain ⟨i, hi⟩ := hi
  have hz : i.size ≠ 0 := by rwa [Program.cellsOf, hi] at ht
  have h2 : (Conv.seenAt ad).run P w = .ok ad w := by simp [Conv.seenAt, run_view h1]
  have h3 : (variablesAt ad t 1).run P w = .ok true w := by simp [variablesAt, program, shape, Sem.run, h1, hl]
  simp [convert, run_underlying hs, run_underlying hd, Conv.unsafePointer, h2, h3, run_sizeOf hi, hz]
theorem info_of_cells {t : TypeId} (h : P.cellsOf t ≠ 0) : ∃ i, P.info? t = some i := by
  cases hi : P.info? t with
  | none => simp [Program.cellsOf, hi] at h
  | some i => exact ⟨i, rfl⟩
theorem MpC.run {r : Nat} {es : Array MapEntry} {clock : Nat} (h : MpC I S r es clock) (hw : Sat I S w) : w.heap[r]? = some (.map es clock) := by
  rcases h with h | h
  · exact hw.im _ _ h
  · exact hw.own _ h
theorem run_checkKey' {kt : TypeId} {kd : TypeDesc} {k : Value} {e : Bool} (hu : P.underlying kt = some kd) (hk : keyD kd = true) (n : Nat) : (Instr.checkKey e (n + 1) kt k).run P w = .ok () w := by
  simp only [Instr.checkKey, Sem.run_bind, run_underlying hu, Result.andThen_ok]
  cases kd <;> first | (simp [keyD] at hk; done) | simp
theorem run_checkKey {kt : TypeId} {kd : TypeDesc} {k : Value} {e : Bool} (hu : P.underlying kt = some kd) (hk : keyD kd = true) : (Instr.checkKey e 10000 kt k).run P w = .ok () w := run_checkKey' hu hk 9999
theorem run_findKey {kt : TypeId} {kd : TypeDesc} {k : Value} {es : List MapEntry} {r : Option (Nat × Value)} (hu : P.underlying kt = some kd) (h : Instr.findNow kd k es 0 = some r) : (Instr.findKey kt k es).run P w = .ok r w := by
  simp only [Instr.findKey, Sem.run_bind, run_underlying hu, Result.andThen_ok, h, Sem.run_pure]
theorem run_zero {t : TypeId} {z : Value} (h : (P.info? t).bind (·.zero) = some z) : (zeroValue t).run P w = .ok z w := by
  obtain ⟨i, hi, hz⟩ := Option.bind_eq_some_iff.1 h
  simp [zeroValue, typeInfo, program, Sem.run, hi, hz]
theorem run_lookup {t kt et : TypeId} {kd : TypeDesc} {m : Option Nat} {k z v : Value} {ok b : Bool} (hu : P.underlying t = some (.map kt et)) (hk : P.underlying kt = some kd) (hz : (P.info? et).bind (·.zero) = some z) (hkd : keyD kd = true)
    (h : MapAt I S m kd k z v b) (hw : Sat I S w) : (Instr.lookup t (.map m) k ok).run P w = .ok (lkV ok v b) w := by
  obtain ⟨es, hm, hf⟩ := h
  have tail : ∀ es' : Array MapEntry, es' = es → (do
      Instr.checkKey es'.isEmpty 10000 kt k
      let (v, ok') ← match ← Instr.findKey kt k es'.toList with
        | some (_, v) => pure (v, true)
        | none => pure (← zeroValue et, false)
      pure (if ok then .tuple #[v, .bool ok'] else v) : Sem Value).run P w = .ok (lkV ok v b) w := by
    rintro _ rfl
    rcases hf with ⟨i, hf, rfl⟩ | ⟨hf, rfl, rfl⟩
    · simp only [Sem.run_bind, run_checkKey hk hkd, Result.andThen_ok, run_findKey hk hf, Sem.run_pure]
      cases ok <;> rfl
    · simp only [Sem.run_bind, run_checkKey hk hkd, Result.andThen_ok, run_findKey hk hf, Sem.run_pure, run_zero hz]
      cases ok <;> rfl
  unfold Instr.lookup
  simp only [Sem.run_bind, run_underlying hu, Result.andThen_ok]
  cases m with
  | none =>
    subst hm
    have := tail #[] rfl
    simp only [Sem.run_bind, Sem.run_pure, Result.andThen_ok] at this ⊢
    exact this
  | some r =>
    obtain ⟨clock, hc⟩ := hm
    have hg : (getObj r).run P w = .ok (.map es clock) w := by simp [getObj, Sem.run, hc.run hw]
    have := tail es rfl
    simp only [Sem.run_bind, Sem.run_pure, Result.andThen_ok, hg] at this ⊢
    exact this
theorem chkFs_run {r : TypeId → Value → Bool} {e : Bool} {d : Nat} {xs : Array Value} (hr : ∀ t x, r t x = true → (Instr.checkKey e d t x).run P w = .ok () w) : ∀ {fs : List Field}, chkFs P r xs fs = true →
    (forIn fs PUnit.unit (fun f _ => (do if f.name ≠ "_" then Instr.checkKey e d f.type (← part f.type xs f.offset)
                                         pure (ForInStep.yield PUnit.unit) : Sem (ForInStep PUnit)))).run P w = .ok PUnit.unit w
  | [], _ => by simp
  | f :: fs, h => by
    unfold chkFs at h
    split at h
    · rename_i x hn hx
      simp only [Bool.and_eq_true] at h
      have hn' : f.name ≠ "_" := of_decide_eq_false hn
      rw [List.forIn_cons]
      simp only [if_pos hn', Sem.run_bind, run_partV hx, Result.andThen_ok, hr _ _ h.1, Sem.run_pure]
      exact chkFs_run hr h.2
    · cases h
theorem chkV_run {e : Bool} : ∀ (n : Nat) {t : TypeId} {v : Value} (d : Nat), chkV P n t v = true → (Instr.checkKey e (d + n) t v).run P w = .ok () w
  | 0, _, _, _, h => by simp [chkV] at h
  | n + 1, t, v, d, h => by
    unfold chkV at h
    split at h
    · cases h
    · rename_i td hu
      rw [show d + (n + 1) = (d + n) + 1 by omega]
      unfold Instr.checkKey
      simp only [Sem.run_bind, run_underlying hu, Result.andThen_ok]
      split at h
      · rename_i fs xs
        have := chkFs_run (P := P) (w := w) (e := e) (d := d + n) (fun t x hx => chkV_run n d hx) h
        simp only [← Array.forIn_toList] at this ⊢
        simpa using this
      all_goals first | rfl | (cases h; done) | (simp; done)
theorem run_checkS {kt : TypeId} {k : Value} {e : Bool} (h : chkV P 4 kt k = true) : (Instr.checkKey e 10000 kt k).run P w = .ok () w := chkV_run 4 9996 h
theorem run_asking {t : TypeId} {k : Value} : ∀ {es : List MapEntry} {i : Nat} {r : Option (Nat × Value)}, findS P t k es i = some r → (Instr.findAsking t k es i).run P w = .ok r w
  | [], i, r, h => by injection h with h; subst h; rfl
  | e :: es, i, r, h => by
    unfold findS at h
    unfold Instr.findAsking
    split at h
    · rename_i hq
      injection h with h; subst h
      have he : (Op.equal t k e.key).run P w = .ok true w := eqIn_V 4 t _ _ true 9996 hq
      simp only [Sem.run_bind, he, Result.andThen_ok, if_true, Sem.run_pure]
    · rename_i hq
      have he : (Op.equal t k e.key).run P w = .ok false w := eqIn_V 4 t _ _ false 9996 hq
      simp only [Sem.run_bind, he, Result.andThen_ok, Bool.false_eq_true, if_false]
      exact run_asking h
    · cases h
theorem run_findS {kt : TypeId} {kd : TypeDesc} {k : Value} {es : List MapEntry} {r : Option (Nat × Value)} (hu : P.underlying kt = some kd) (hs : isSt kd = true) (h : findS P kt k es 0 = some r) : (Instr.findKey kt k es).run P w = .ok r w := by
  simp only [Instr.findKey, Sem.run_bind, run_underlying hu, Result.andThen_ok]
  cases es with
  | nil => injection h with h; subst h; rfl
  | cons e es =>
    have : Instr.findNow kd k (e :: es) 0 = none := by
      cases kd <;> first | (cases hs; done) | rfl
    rw [this]
    exact run_asking h
theorem run_lookupS {t kt et : TypeId} {kd : TypeDesc} {m : Option Nat} {k z v : Value} {ok b : Bool} (hu : P.underlying t = some (.map kt et)) (hk : P.underlying kt = some kd) (hz : (P.info? et).bind (·.zero) = some z) (hs : isSt kd = true) (hc : chkV P 4 kt k = true)
    (h : MapAtS P kt I S m k z v b) (hw : Sat I S w) : (Instr.lookup t (.map m) k ok).run P w = .ok (lkV ok v b) w := by
  obtain ⟨es, hm, hf⟩ := h
  have tail : ∀ es' : Array MapEntry, es' = es → (do
      Instr.checkKey es'.isEmpty 10000 kt k
      let (v, ok') ← match ← Instr.findKey kt k es'.toList with
        | some (_, v) => pure (v, true)
        | none => pure (← zeroValue et, false)
      pure (if ok then .tuple #[v, .bool ok'] else v) : Sem Value).run P w = .ok (lkV ok v b) w := by
    rintro _ rfl
    rcases hf with ⟨i, hf, rfl⟩ | ⟨hf, rfl, rfl⟩
    · simp only [Sem.run_bind, run_checkS hc, Result.andThen_ok, run_findS hk hs hf, Sem.run_pure]
      cases ok <;> rfl
    · simp only [Sem.run_bind, run_checkS hc, Result.andThen_ok, run_findS hk hs hf, Sem.run_pure, run_zero hz]
      cases ok <;> rfl
  unfold Instr.lookup
  simp only [Sem.run_bind, run_underlying hu, Result.andThen_ok]
  cases m with
  | none =>
    subst hm
    have := tail #[] rfl
    simp only [Sem.run_bind, Sem.run_pure, Result.andThen_ok] at this ⊢
    exact this
  | some r =>
    obtain ⟨clock, hc⟩ := hm
    have hg : (getObj r).run P w = .ok (.map es clock) w := by simp [getObj, Sem.run, hc.run hw]
    have := tail es rfl
    simp only [Sem.run_bind, Sem.run_pure, Result.andThen_ok, hg] at this ⊢
    exact this
theorem run_bytes {p : Option Addr} {m c : Nat} {s : ByteArray} (h : BytesAt I S p m s) (hw : Sat I S w) : (Conv.bytesToString (.slice p m c)).run P w = .ok (.string s) w := by
  cases p with
  | none =>
    have : s = ByteArray.empty := h
    subst this; simp [Conv.bytesToString]
  | some a =>
    obtain ⟨rfl, hc⟩ := h
    have hcells : (loadCells a s.size).run P w = .ok (s.data.toList.map fun c => Value.int .u8 (c.toNat : Int)).toArray w := by
      have := run_loadCells (P := P) (w := w) (a := a) (s.data.toList.map fun c => Value.int .u8 (c.toNat : Int)) 0 #[] (fun j v hj => by
        rw [List.getElem?_map] at hj
        obtain ⟨c, hc', rfl⟩ := Option.map_eq_some_iff.1 hj
        rw [Nat.zero_add]
        refine (hc j c ?_).run hw
        by_cases hlt : j < s.size
        · rw [getElem?_pos s j hlt, ← hc', List.getElem?_eq_getElem (by simpa using hlt)]; rfl
        · rw [List.getElem?_eq_none (by simpa using hlt)] at hc'; cases hc')
      simpa [loadCells] using this
    have loop : ∀ (f : Value → ByteArray → Sem (ForInStep ByteArray)), (∀ (c : UInt8) s, f (.int .u8 (c.toNat : Int)) s = pure (ForInStep.yield (s.push (UInt8.ofNat (c.toNat : Int).toNat)))) →
        ∀ (l : List UInt8) (acc : ByteArray), (forIn (l.map fun c => Value.int .u8 (c.toNat : Int)) acc f : Sem ByteArray).run P w = .ok ⟨acc.data ++ l.toArray⟩ w := by
      intro f hf l
      induction l with
      | nil => intro acc; simp
      | cons c l ih =>
        intro acc
        simp only [List.map_cons, List.forIn_cons, Sem.run_bind, Sem.run_pure, Result.andThen_ok, hf]
        rw [ih]
        congr 1
        apply ByteArray.ext
        simp [ByteArray.push]
    simp only [Conv.bytesToString, Sem.run_bind, hcells, Result.andThen_ok]
    rw [List.forIn_toArray, loop _ (fun c s => rfl)]
    simp only [Result.andThen_ok, Sem.run_pure]
    congr 2
    apply ByteArray.ext
    simp
theorem val_rd (hq : rdB P o.op = true) (h : PreOp P n o K l I S) : ∃ v, (∀ w, Sat I S w → (execOp (ev l) o).run P w = .ok (.value v) w) ∧ putP n o.dst v K l I S := by
  unfold PreOp at h
  split at h
  all_goals first
    | (rename_i ho; rw [ho] at hq; cases hq; done)
    | skip
  · rename_i t x ix ok ho -- lookup
    split at h
    · rename_i kt et m hu hx
      split at h
      · rename_i kd z hk hz
        split at h
        · rename_i hkd
          obtain ⟨v, b, hm, hp⟩ := exTy_elim h
          exact ⟨_, fun w hw => by simp only [execOp, ho, hx, Sem.run_bind, run_lookup hu hk hz hkd hm hw, Result.andThen_ok, Sem.run_pure], hp⟩
        · split at h
          · rename_i hb
            simp only [Bool.and_eq_true] at hb
            obtain ⟨v, b, hm, hp⟩ := exTy_elim h
            exact ⟨_, fun w hw => by simp only [execOp, ho, hx, Sem.run_bind, run_lookupS hu hk hz hb.1 hb.2 hm hw, Result.andThen_ok, Sem.run_pure], hp⟩
          · exact h.elim
      · exact h.elim
    · exact h.elim
  · rename_i sr d x ho -- convert
    split at h
    · rename_i e hs hd
      split at h
      · rename_i p m c he hx
        obtain ⟨s, hb, hp⟩ := h
        exact ⟨_, fun w hw => by simp only [execOp, ho, hx, convert, Sem.run_bind, run_underlying hs, run_underlying hd, run_underlying he, run_bytes hb hw, Result.andThen_ok, Sem.run_pure], hp⟩
      · exact h.elim
    · rename_i t hs hd
      split at h
      · rename_i p hx
        split at h
        · rename_i hz
          obtain ⟨ad, rfl, cs, e, hb, hlt, hp⟩ := ptrP_elim h
          have hz := Nat.ne_of_beq_eq_false hz
          exact ⟨_, fun w hw => by simp only [execOp, ho, hx, Sem.run_bind, run_toUnsafe hs hd hz (info_of_cells hz) hb hlt hw, Result.andThen_ok, Sem.run_pure], hp⟩
        · exact h.elim
      · exact h.elim
    · rename_i t hs hd
      split at h
      · rename_i p hx
        split at h
        · rename_i hz
          obtain ⟨ad, rfl, cs, e, hb, hlt, hp⟩ := ptrP_elim h
          have hz := Nat.ne_of_beq_eq_false hz
          exact ⟨_, fun w hw => by simp only [execOp, ho, hx, Sem.run_bind, run_ofUnsafe hs hd hz (info_of_cells hz) hb hlt hw, Result.andThen_ok, Sem.run_pure], hp⟩
        · exact h.elim
      · exact h.elim
    · rename_i e hs hd
      rw [ho] at hq
      simp [rdB, hs, hd] at hq
    · rename_i hno hno2 hno3 hno4
      rw [ho] at hq
      unfold rdB at hq
      dsimp only at hq
      split at hq
      · rename_i e hs hd; exact absurd hd (hno _ hs)
      · rename_i e hs hd; exact absurd hd (hno2 _ hs)
      · rename_i e hs hd; exact absurd hd (hno3 _ hs)
      · cases hq
  · rename_i c ho -- call
    obtain ⟨callee, ⟨args⟩, ⟨argTypes⟩⟩ := c
    dsimp only at h
    rw [ho] at hq
    split at h
    · cases hq
    · rename_i t x
      split at h
      · rename_i s hu hx; simp [rdB, mapT, hu] at hq
      · rename_i e _ m _ hu hx; simp [rdB, mapT, hu] at hq
      · rename_i kt et m hu hx
        obtain ⟨c, hl, hp⟩ := h
        refine ⟨_, fun w hw => ?_, hp⟩
        cases m with
        | none =>
          have : c = 0 := hl
          subst this
          simp [execOp, ho, resolve, invoke, builtin, Builtin.len_, hx, run_underlying hu, goInt]
        | some r =>
          obtain ⟨es, clock, hc, rfl⟩ := hl
          simp [execOp, ho, resolve, invoke, builtin, Builtin.len_, hx, run_underlying hu, goInt, getObj, Sem.run, hc.run hw]
      · exact h.elim
    all_goals first | exact h.elim | (simp [rdB] at hq; done)
  · unfold rdB at hq
    split at hq
    · rename_i ho; exact absurd (‹∀ (t : TypeId) (x ix : Operand) (ok : Bool), o.op = Op.lookup t x ix ok → False› _ _ _ _ ho) id
    · rename_i ho; exact absurd (‹∀ (s d : TypeId) (x : Operand), o.op = Op.convert s d x → False› _ _ _ ho) id
    · rename_i ho; exact absurd (‹∀ (c : Call), o.op = Op.call c → False› _ ho) id
    · cases hq
/-! ### maps that change -/
theorem findNow_spec {kd : TypeDesc} {k : Value} : ∀ {es : List MapEntry} {j i : Nat} {v : Value}, Instr.findNow kd k es j = some (some (i, v)) → ∃ e, j ≤ i ∧ es[i - j]? = some e ∧ Instr.sameNow kd k e.key = some true ∧ e.val = v
  | [], j, i, v, h => by simp [Instr.findNow] at h
  | e :: es, j, i, v, h => by
    unfold Instr.findNow at h
    split at h
    · rename_i hs
      injection h with h; injection h with h; injection h with h1 h2
      subst h1
      exact ⟨e, Nat.le_refl _, by simp, hs, h2⟩
    · obtain ⟨e', h1, h2, h3⟩ := findNow_spec h
      exact ⟨e', by omega, by rw [show i - j = (i - (j + 1)) + 1 by omega]; simpa using h2, h3⟩
    · cases h
theorem ba_beq {a b : ByteArray} : (a == b) = true ↔ a = b := by
  constructor
  · intro h
    apply ByteArray.ext
    exact eq_of_beq (α := Array UInt8) h
  · rintro rfl
    exact beq_self_eq_true (α := Array UInt8) a.data
theorem sameNow_bits {kd : TypeDesc} {k k' : Value} (h : Instr.sameNow kd k k' = some true) (n : Nat) : Instr.sameBits n k' k = true := by
  unfold Instr.sameNow at h
  split at h
  · split at h
    · rename_i e; subst e
      injection h with h
      have := eq_of_beq h
      subst this
      simp [Instr.sameBits]
    · cases h
  · injection h with h
    have := ba_beq.1 h
    subst this
    simp only [Instr.sameBits]
    exact ba_beq.2 rfl
  · injection h with h
    have := eq_of_beq h
    subst this
    simp [Instr.sameBits]
  · cases h
theorem run_setMap {r i : Nat} {es es' : Array MapEntry} {clock clock' : Nat} (hi : S[i]? = some (r, .map es clock)) (hw : Sat I S w) : ∃ w', (setObj r (.map es' clock')).run P w = .ok () w' ∧ Sat I (S.set i (r, .map es' clock')) w' := by
  have hr := hw.own _ (List.mem_of_getElem? hi)
  dsimp only at hr
  refine ⟨{ w with heap := w.heap.setIfInBounds r (.map es' clock') }, by simp [setObj, Sem.run, hr], hw.set hi rfl rfl rfl ?_ ?_ rfl⟩
  · have : r < w.heap.size := by
      rcases Nat.lt_or_ge r w.heap.size with h | h
      · exact h
      · rw [Array.getElem?_eq_none h] at hr; cases hr
    simp [this]
  · intro b' hb
    show (w.heap.setIfInBounds r (.map es' clock'))[b']? = _
    rw [Array.getElem?_setIfInBounds, if_neg (fun e => hb e.symm)]
theorem run_getMap {r i : Nat} {es : Array MapEntry} {clock : Nat} (hi : S[i]? = some (r, .map es clock)) (hw : Sat I S w) : (getObj r).run P w = .ok (.map es clock) w := by
  have hr := hw.own _ (List.mem_of_getElem? hi)
  dsimp only at hr
  simp [getObj, Sem.run, hr]
theorem run_setIter {r i : Nat} {m : Option Nat} {a b : Nat} {sn : Array Nat} {o' : Obj} (hi : S[i]? = some (r, .mapIter m a sn b)) (hw : Sat I S w) : ∃ w', (setObj r o').run P w = .ok () w' ∧ Sat I (S.set i (r, o')) w' := by
  have hr := hw.own _ (List.mem_of_getElem? hi)
  dsimp only at hr
  refine ⟨{ w with heap := w.heap.setIfInBounds r o' }, by simp [setObj, Sem.run, hr], hw.set hi rfl rfl rfl ?_ ?_ rfl⟩
  · have : r < w.heap.size := by
      rcases Nat.lt_or_ge r w.heap.size with h | h
      · exact h
      · rw [Array.getElem?_eq_none h] at hr; cases hr
    simp [this]
  · intro b' hb
    show (w.heap.setIfInBounds r o')[b']? = _
    rw [Array.getElem?_setIfInBounds, if_neg (fun e => hb e.symm)]
theorem NxP.run {ad : Addr} {K0 : Prop} {K1 : Value → Value → SH → Prop} {ty : TypeId} (h : NxP I S ad K0 K1) (hw : Sat I S w) :
    ∃ v w' T, (Instr.next (.pointer (some ad)) false ty).run P w = .ok v w' ∧ Sat I T w' ∧ ((v = .tuple #[.bool false] ∧ T = S ∧ K0) ∨ ∃ k u, v = .tuple #[.bool true, k, u] ∧ K1 k u T) := by
  obtain ⟨i, m, since, seen, last, es, clock, h0, hi, hm, hl, hb, hK0, hK1⟩ := h
  obtain ⟨blk, off, sp⟩ := ad
  dsimp only at h0 hi; subst h0
  have hr := hw.own _ (List.mem_of_getElem? hi)
  dsimp only at hr
  have hg : (getObj blk).run P w = .ok (.mapIter (some m) since seen last) w := by simp [getObj, Sem.run, hr]
  have hgm : (getObj m).run P w = .ok (.map es clock) w := by simp [getObj, Sem.run, hm.run hw]
  have hold : (es.filter fun e => !seen.contains e.born).filter (·.born < since) = es.filter fun e => !seen.contains e.born := by
    apply Array.filter_eq_self.2
    intro e he
    simp only [Array.mem_filter] at he
    simpa using hb e he.1
  have hnew : (es.filter fun e => !seen.contains e.born).filter (·.born ≥ since) = #[] := by
    apply Array.eq_empty_of_size_eq_zero
    rw [Array.size_eq_zero_iff, Array.filter_eq_empty_iff]
    intro e he
    simp only [Array.mem_filter] at he
    have := hb e he.1
    simp; omega
  have hno : (!seen.isEmpty && !es.isEmpty && es.all (·.born ≥ last)) = false := by
    cases hes : es.isEmpty with
    | true => simp
    | false =>
      have hne : 0 < es.size := by
        rcases Nat.eq_zero_or_pos es.size with h | h
        · simp [Array.isEmpty, h] at hes
        · exact h
      have h1 : es.all (·.born ≥ last) = false := by
        rw [Array.all_eq_false]
        refine ⟨0, hne, ?_⟩
        have := hb es[0] (Array.getElem_mem hne)
        simp; omega
      simp [h1]
  cases hle : (es.filter fun e => !seen.contains e.born).isEmpty with
  | true =>
    have hall : ∀ e ∈ es, seen.contains e.born = true := by
      have := Array.isEmpty_iff.1 hle
      rw [Array.filter_eq_empty_iff] at this
      intro e he
      simpa using this e he
    refine ⟨.tuple #[.bool false], w, S, ?_, hw, .inl ⟨rfl, rfl, hK0 hall⟩⟩
    simp only [Instr.next, Sem.run_bind, hg, hgm, Result.andThen_ok, hno, hold, hnew, hle, Bool.false_eq_true, if_false, if_true, Sem.run_pure, Array.append_empty]
    have hem := Array.isEmpty_iff.1 hle
    rw [hem]
    simp [choose, Sem.run, Question.forced]
  | false =>
    have hpos : 0 < (es.filter fun e => !seen.contains e.born).size := by
      rcases Nat.eq_zero_or_pos (es.filter fun e => !seen.contains e.born).size with h | h
      · rw [Array.eq_empty_of_size_eq_zero h] at hle; cases hle
      · exact h
    have hch : ∀ c, 0 < c → ∃ j w', (choose (.mapNext c)).run P w = .ok j w' ∧ j < c ∧ (w' = w ∨ w' = { w with drawn := w.drawn + 1 }) := by
      intro c hc
      by_cases hf : c ≤ 1
      · exact ⟨0, w, by simp [choose, Sem.run, Question.forced, hf], hc, .inl rfl⟩
      · exact ⟨w.tape w.drawn (.mapNext c) % c, { w with drawn := w.drawn + 1 }, by simp [choose, Sem.run, Question.forced, hf, Question.cut], Nat.mod_lt _ hc, .inr rfl⟩
    obtain ⟨j, w1, hj, hjl, hw1⟩ := hch _ hpos
    have hs1 : Sat I S w1 := by rcases hw1 with rfl | rfl; exact hw; exact hw.drew
    have hmem := Array.getElem_mem hjl
    simp only [Array.mem_filter, Bool.not_eq_true'] at hmem
    obtain ⟨w', h1, h2⟩ := run_setIter (P := P) (o' := .mapIter (some m) since (seen.push ((es.filter fun e => !seen.contains e.born)[j]).born) clock) hi hs1
    refine ⟨_, w', _, ?_, h2, .inr ⟨_, _, rfl, hK1 _ hmem.1 hmem.2⟩⟩
    have hcs : (((es.filter fun e => !seen.contains e.born).map some).size) = (es.filter fun e => !seen.contains e.born).size := by simp
    simp only [Instr.next, Sem.run_bind, hg, hgm, Result.andThen_ok, hno, hold, hnew, hle, Bool.false_eq_true, if_false, Sem.run_pure, Array.append_empty, Array.empty_append, hcs, hj]
    have hget : ((es.filter fun e => !seen.contains e.born).map some)[j]? = some (some ((es.filter fun e => !seen.contains e.born)[j])) := by simp [hjl]
    rw [hget]
    simp only [Sem.run_bind, h1, Result.andThen_ok, Sem.run_pure]
theorem run_mapUpdate {t kt et : TypeId} {kd : TypeDesc} {m : Option Nat} {k v : Value} {K : SH → Prop} (hu : P.underlying t = some (.map kt et)) (hk : P.underlying kt = some kd) (hkd : keyD kd = true) (h : MapSt S m kd k v K) (hw : Sat I S w) :
    ∃ T w', (Instr.mapUpdate t (.map m) k v).run P w = .ok () w' ∧ Sat I T w' ∧ K T := by
  obtain ⟨r, i, es, clock, es', clock', rfl, hi, hs, hK⟩ := h
  obtain ⟨w', h1, h2⟩ := run_setMap (P := P) (es' := es') (clock' := clock') hi hw
  refine ⟨_, w', ?_, h2, hK⟩
  unfold mapSet at hs
  split at hs
  · rename_i j u hf
    injection hs with hs
    injection hs with e1 e2
    subst e1; subst e2
    obtain ⟨e, _, he, hsame, _⟩ := findNow_spec hf
    have hk' : (Instr.keyThatStays (((es[j]?).map (·.key)).getD k) k).run P w = .ok k w := by
      have hej : es[j]? = some e := by simpa using he
      rw [hej]
      unfold Instr.keyThatStays
      rw [if_pos (by simpa using sameNow_bits hsame _)]
      rfl
    simp only [Instr.mapUpdate, Sem.run_bind, run_underlying hu, Result.andThen_ok, run_getMap hi hw, run_checkKey hk hkd, run_findKey hk hf, hk']
    exact h1
  · rename_i hf
    injection hs with hs
    injection hs with e1 e2
    subst e1; subst e2
    simp only [Instr.mapUpdate, Sem.run_bind, run_underlying hu, Result.andThen_ok, run_getMap hi hw, run_checkKey hk hkd, run_findKey hk hf]
    exact h1
  · cases hs
theorem run_delete {t t2 ty kt et : TypeId} {kd : TypeDesc} {m : Option Nat} {k : Value} {K : SH → Prop} (hu : P.underlying t = some (.map kt et)) (hk : P.underlying kt = some kd) (hkd : keyD kd = true) (h : MapDl S m kd k K) (hw : Sat I S w) :
    ∃ T w', (Builtin.delete_ #[t, t2] ty #[.map m, k]).run P w = .ok (.tuple #[]) w' ∧ Sat I T w' ∧ K T := by
  cases m with
  | none => exact ⟨S, w, by simp [Builtin.delete_, run_underlying hu, run_checkKey hk hkd], hw, h⟩
  | some r =>
    obtain ⟨i, es, clock, es', hi, hd, hK⟩ := h
    obtain ⟨w', h1, h2⟩ := run_setMap (P := P) (es' := es') (clock' := clock) hi hw
    refine ⟨_, w', ?_, h2, hK⟩
    unfold mapDel at hd
    split at hd
    · rename_i j u hf
      injection hd with hd; subst hd
      simp [Builtin.delete_, run_underlying hu, run_checkKey hk hkd, run_getMap hi hw, run_findKey hk hf, h1]
    · rename_i hf
      injection hd with hd; subst hd
      simp [Builtin.delete_, run_underlying hu, run_checkKey hk hkd, run_getMap hi hw, run_findKey hk hf, h1]
    · cases hd
theorem run_mapUpdateS {t kt et : TypeId} {kd : TypeDesc} {m : Option Nat} {k v : Value} {K : SH → Prop} (hu : P.underlying t = some (.map kt et)) (hk : P.underlying kt = some kd) (hs : isSt kd = true) (hc : chkV P 4 kt k = true) (h : MapStS P kt S m k v K) (hw : Sat I S w) :
    ∃ T w', (Instr.mapUpdate t (.map m) k v).run P w = .ok () w' ∧ Sat I T w' ∧ K T := by
  obtain ⟨r, i, es, clock, es', clock', rfl, hi, hq, hK⟩ := h
  obtain ⟨w', h1, h2⟩ := run_setMap (P := P) (es' := es') (clock' := clock') hi hw
  refine ⟨_, w', ?_, h2, hK⟩
  rcases hq with ⟨j, u, hf, hkey, hsb, rfl, rfl⟩ | ⟨hf, rfl, rfl⟩
  · have hk' : (Instr.keyThatStays (((es[j]?).map (·.key)).getD k) k).run P w = .ok k w := by
      rw [hkey]
      unfold Instr.keyThatStays
      rw [if_pos (by simpa using hsb)]
      rfl
    simp only [Instr.mapUpdate, Sem.run_bind, run_underlying hu, Result.andThen_ok, run_getMap hi hw, run_checkS hc, run_findS hk hs hf, hk']
    exact h1
  · simp only [Instr.mapUpdate, Sem.run_bind, run_underlying hu, Result.andThen_ok, run_getMap hi hw, run_checkS hc, run_findS hk hs hf]
    exact h1
theorem run_deleteS {t t2 ty kt et : TypeId} {kd : TypeDesc} {m : Option Nat} {k : Value} {K : SH → Prop} (hu : P.underlying t = some (.map kt et)) (hk : P.underlying kt = some kd) (hs : isSt kd = true) (hc : chkV P 4 kt k = true) (h : MapDlS P kt S m k K) (hw : Sat I S w) :
    ∃ T w', (Builtin.delete_ #[t, t2] ty #[.map m, k]).run P w = .ok (.tuple #[]) w' ∧ Sat I T w' ∧ K T := by
  cases m with
  | none => exact ⟨S, w, by simp [Builtin.delete_, run_underlying hu, run_checkS hc], hw, h⟩
  | some r =>
    obtain ⟨i, es, clock, es', hi, hq, hK⟩ := h
    obtain ⟨w', h1, h2⟩ := run_setMap (P := P) (es' := es') (clock' := clock) hi hw
    refine ⟨_, w', ?_, h2, hK⟩
    rcases hq with ⟨j, u, hf, rfl⟩ | ⟨hf, rfl⟩
    · simp [Builtin.delete_, run_underlying hu, run_checkS hc, run_getMap hi hw, run_findS hk hs hf, h1]
    · simp [Builtin.delete_, run_underlying hu, run_checkS hc, run_getMap hi hw, run_findS hk hs hf, h1]
theorem run_sdNone {at' : Array TypeId} {ty : TypeId} {m c : Nat} : (Builtin.unsafeSliceData_ at' ty #[.slice none m c]).run P w = .ok (.pointer none) w := rfl
theorem run_sdSome {at' : Array TypeId} {ty : TypeId} {m c : Nat} {ad : Addr} (hc : c ≠ 0) : (Builtin.unsafeSliceData_ at' ty #[.slice (some ad) m c]).run P w = .ok (.pointer (some ad)) w := by
  show (if c ≠ 0 then (pure (Value.pointer (some ad)) : Sem Value) else _).run P w = _
  rw [if_pos hc]; rfl
theorem val_pure (h : match eval0 P (execOp (ev l) o) with | some (.value v) => putP n o.dst v K l I S | _ => False) :
    ∃ v, (∀ w, (execOp (ev l) o).run P w = .ok (.value v) w) ∧ putP n o.dst v K l I S := by
  split at h
  · rename_i v he
    exact ⟨v, fun w => run_of_eval0 he, h⟩
  · exact h.elim
theorem PreOp.val (hq : quietB P o.op = true) (h : PreOp P n o K l I S) : ∃ v, (∀ w, (execOp (ev l) o).run P w = .ok (.value v) w) ∧ putP n o.dst v K l I S := by
  unfold PreOp at h
  split at h
  · rename_i x ho -- move
    exact ⟨_, fun w => by simp [execOp, ho], h⟩
  · rename_i x ho
    exact ⟨_, fun w => by simp [execOp, ho], h⟩
  · rename_i ho; rw [ho] at hq; cases hq
  · rename_i ho; rw [ho] at hq; cases hq
  · rename_i ho; rw [ho] at hq; cases hq
  · rename_i ho; rw [ho] at hq; cases hq
  · rename_i x ho -- nilCheck
    split at h
    · rename_i p hx
      obtain ⟨ad, rfl, h⟩ := ptrP_elim h
      exact ⟨_, fun w => by simp [execOp, ho, hx], h⟩
    · rename_i f fs cs hx
      exact ⟨_, fun w => by simp [execOp, ho, hx], h⟩
    · exact h.elim
  · rename_i t parts ho -- build
    split at h
    · rename_i fs z hu hz
      split at h
      · rename_i cs hall hf
        obtain ⟨i, hi, hiz⟩ := Option.bind_eq_some_iff.1 hz
        exact ⟨_, fun w => run_build ho hu hi hiz (fun f hm => List.all_eq_true.1 hall f hm) hf, h⟩
      · exact h.elim
    · rename_i m e z hu hz
      split at h
      · rename_i ie hie
        split at h
        · rename_i cs hf
          obtain ⟨i, hi, hiz⟩ := Option.bind_eq_some_iff.1 hz
          exact ⟨_, fun w => run_buildA ho hu hi hiz hie hf, h⟩
        · exact h.elim
      · exact h.elim
    · exact h.elim
  · rename_i ho; rw [ho] at hq; cases hq
  · rename_i ho; rw [ho] at hq; cases hq
  · rename_i t x ix ho -- indexAddr
    split at h
    · rename_i e base len _ k i hu hx hix
      split at h
      · rename_i inf hinf
        obtain ⟨ad, rfl, h0, h1, h⟩ := ptrP_elim h
        exact ⟨_, fun w => by simp [execOp, ho, Instr.indexAt, asIntOf, hx, hix, run_underlying hu, h0, h1, run_sizeOf hinf], h⟩
      · exact h.elim
    · rename_i len e ad k i hu hx hix
      split at h
      · rename_i inf hinf
        obtain ⟨h0, h1, h⟩ := h
        exact ⟨_, fun w => by simp [execOp, ho, Instr.indexAt, Instr.sureAddr, asIntOf, hx, hix, run_underlying hu, h0, h1, run_sizeOf hinf], h⟩
      · exact h.elim
    · exact h.elim
  · rename_i t x ix ho -- index
    split at h
    · rename_i s k i hu hx hix
      obtain ⟨c, h0, hc, h⟩ := h
      exact ⟨_, fun w => by simp [execOp, ho, Instr.index, asIntOf, hx, hix, run_underlying hu, h0, hc], h⟩
    · exact val_pure h
  · rename_i t x lo hi mx ho -- slice
    split at h
    · rename_i s hu hx
      obtain ⟨n1, hr1, h⟩ := BndP.run (P := P) (code := .sliceAlen) h
      obtain ⟨n2, hr2, h⟩ := BndP.run (P := P) (code := .sliceB) h
      exact ⟨_, fun w => run_slStr ho hu hx (hr1 w) (hr2 w), h⟩
    · rename_i e ad len cap hu hx
      split at h
      · rename_i inf hinf
        obtain ⟨n1, hr1, h⟩ := BndP.run (P := P) (code := .sliceAcap) h
        obtain ⟨n2, hr2, h⟩ := BndP.run (P := P) (code := .sliceB) h
        exact ⟨_, fun w => run_slSl ho hu hx hinf (hr1 w) (hr2 w), h⟩
      · exact h.elim
    · rename_i e ad len cap mx hu hx
      split at h
      · rename_i inf hi hinf
        obtain ⟨n0, hr0, h⟩ := BndP.run (P := P) (code := .slice3Acap) h
        obtain ⟨n1, hr1, h⟩ := BndP.run (P := P) (code := .slice3B) h
        obtain ⟨n2, hr2, h⟩ := BndP.run (P := P) (code := .slice3C) h
        exact ⟨_, fun w => run_slMx ho hu hx hinf (hr0 w) (hr1 w) (hr2 w), h⟩
      · exact h.elim
    · rename_i ln e ad hu hx
      split at h
      · rename_i inf hinf
        obtain ⟨n1, hr1, h⟩ := BndP.run (P := P) (code := .sliceAlen) h
        obtain ⟨n2, hr2, h⟩ := BndP.run (P := P) (code := .sliceB) h
        exact ⟨_, fun w => run_slAr ho hu hx hinf (hr1 w) (hr2 w), h⟩
      · exact h.elim
    · exact h.elim
  · rename_i ho; rw [ho] at hq; cases hq
  · rename_i ho; rw [ho] at hq; cases hq
  · rename_i ho; rw [ho] at hq; cases hq
  · rename_i ho; rw [ho] at hq; cases hq
  · rename_i ho; rw [ho] at hq; cases hq
  · rename_i ho; rw [ho] at hq; cases hq
  · rename_i ho; rw [ho] at hq; cases hq
  · rename_i ho; rw [ho] at hq; cases hq
  · rename_i sr d x ho -- convert
    rw [ho] at hq
    split at h
    · rename_i e hs hd
      simp [quietB, rdB, hs, hd] at hq
    · rename_i e hs hd
      simp [quietB, rdB, hs, hd] at hq
    · rename_i e hs hd
      simp [quietB, rdB, hs, hd] at hq
    · rename_i e hs hd
      simp [quietB, rdB, hs, hd] at hq
    · exact val_pure h
  · rename_i op t x y t' ho -- binOp
    obtain ⟨v, hr, hK⟩ := BinP.run (P := P) h
    exact ⟨v, fun w => by simp only [execOp, ho, Sem.run_bind, hr, Result.andThen_ok, Sem.run_pure], hK⟩
  · rename_i c ho -- call
    obtain ⟨callee, ⟨args⟩, ⟨argTypes⟩⟩ := c
    dsimp only at h
    split at h
    · rw [ho] at hq; cases hq
    · rename_i t x
      split at h
      · rename_i s hu hx
        exact ⟨_, fun w => by simp [execOp, ho, resolve, invoke, builtin, Builtin.len_, hx, run_underlying hu, goInt], h⟩
      · rename_i e _ m _ hu hx
        exact ⟨_, fun w => by simp [execOp, ho, resolve, invoke, builtin, Builtin.len_, hx, run_underlying hu, goInt], h⟩
      · rename_i hu hx
        rw [ho] at hq
        simp [quietB, rdB, mapT, hu] at hq
      · exact h.elim
    · rw [ho] at hq; cases hq
    · rename_i t x
      split at h
      · rename_i e _ _ m hu hx
        exact ⟨_, fun w => by simp [execOp, ho, resolve, invoke, builtin, Builtin.cap_, hx, run_underlying hu, goInt], h⟩
      · exact h.elim
    · rename_i x rest
      split at h
      · rename_i k b hx
        split at h
        · rename_i m hm
          refine ⟨_, fun w => ?_, h⟩
          have := maxL_run (P := P) (w := w) _ _ _ hm
          simp only [execOp, ho, resolve, invoke, builtin, Builtin.max_, Sem.run_bind, Sem.run_pure, Result.andThen_ok, List.map_toArray, List.map_cons, hx, this]
        · exact h.elim
      · exact h.elim
    · rename_i x rest
      split at h
      · rename_i k b hx
        split at h
        · rename_i m hm
          refine ⟨_, fun w => ?_, h⟩
          have := minL_run (P := P) (w := w) _ _ _ hm
          simp only [execOp, ho, resolve, invoke, builtin, Builtin.min_, Sem.run_bind, Sem.run_pure, Result.andThen_ok, List.map_toArray, List.map_cons, hx, this]
        · exact h.elim
      · exact h.elim
    · rw [ho] at hq; cases hq
    · rename_i t x
      split at h
      · rename_i e p _ c hu hx
        obtain ⟨hc, hp⟩ := h
        refine ⟨_, fun w => ?_, hp⟩
        cases p with
        | none => simp only [execOp, ho, resolve, invoke, builtin, Sem.run_bind, Sem.run_pure, Result.andThen_ok, List.map_toArray, List.map_cons, List.map_nil, hx, run_sdNone]
        | some ad => simp only [execOp, ho, resolve, invoke, builtin, Sem.run_bind, Sem.run_pure, Result.andThen_ok, List.map_toArray, List.map_cons, List.map_nil, hx, run_sdSome (hc rfl)]
      · exact h.elim
    · rw [ho] at hq; cases hq
    · rw [ho] at hq; cases hq
    · rw [ho] at hq; cases hq
    · exact val_pure h
    · exact val_pure h
    · exact val_pure h
    · exact h.elim
  · exact val_pure h

/-- operations that leave the world alone -/
def stillB (P : Program) (op : Op) : Bool := quietB P op || rdB P op
theorem PreOp.still (hq : stillB P o.op = true) (h : PreOp P n o K l I S) : ∃ v, (∀ w, Sat I S w → (execOp (ev l) o).run P w = .ok (.value v) w) ∧ putP n o.dst v K l I S := by
  cases hr : rdB P o.op with
  | true => exact val_rd hr h
  | false =>
    obtain ⟨v, hv, hp⟩ := h.val (by simpa [stillB, hr] using hq)
    exact ⟨v, fun w _ => hv w, hp⟩
theorem run_loadBytes {n : Nat} {ad : Addr} {s : ByteArray} {acc : ByteArray} (hsp : ad.spot = none) (hn : s.size = n) (h : ∀ (i : Nat) (c : UInt8), s[i]? = some c → w.cell? (ad.add i) = some (.int .u8 (c.toNat : Int))) :
    (loadBytes ad acc n).run P w = .ok (acc ++ s) w := by
  have key : ∀ (k : Nat) (acc : ByteArray) (j : Nat), j + k = n → (loadBytes (ad.add j) acc k).run P w = .ok (acc ++ s.extract j n) w := by
    intro k
    induction k with
    | zero =>
      intro acc j hj
      have : s.extract j n = ByteArray.empty := by
        apply ByteArray.ext
        simp [ByteArray.data_extract]
        omega
      rw [this]
      simp [loadBytes]
    | succ k ih =>
      intro acc j hj
      have hlt : j < s.size := by omega
      have hc := h j _ (getElem?_pos s j hlt)
      have hl : (load (ad.add j)).run P w = .ok (.int .u8 ((s[j]'hlt).toNat : Int)) w := by simp [load, Sem.run, hc]
      simp only [loadBytes, Sem.run_bind, hl, Result.andThen_ok]
      have hadd : (ad.add j).add 1 = ad.add (j + 1) := by
        obtain ⟨b, o, sp⟩ := ad
        dsimp only at hsp; subst hsp
        have e : ∀ k, (⟨b, o, none⟩ : Addr).add k = ⟨b, o + k, none⟩ := fun k => by
          unfold Addr.add; split
          · rename_i h; subst h; rfl
          · rfl
        rw [e, e]
        have e' : (⟨b, o + j, none⟩ : Addr).add 1 = ⟨b, o + j + 1, none⟩ := rfl
        rw [e', Nat.add_assoc]
      rw [hadd, ih _ (j + 1) (by omega)]
      congr 1
      have hx : s.extract j n = ByteArray.empty.push (s[j]'hlt) ++ s.extract (j + 1) n := by
        apply ByteArray.ext
        simp only [ByteArray.data_extract, ByteArray.data_append, ByteArray.data_push]
        apply Array.ext'
        simp only [Array.toList_extract, Array.toList_append, Array.toList_push, ByteArray.data_empty, List.extract_eq_take_drop, List.nil_append]
        have hd : s.data.toList.drop j = s[j]'hlt :: s.data.toList.drop (j + 1) := by
          rw [List.drop_eq_getElem_cons (by simpa using hlt)]; rfl
        rw [hd, show n - j = (n - (j + 1)) + 1 by omega, List.take_succ_cons]
        rfl
      rw [hx]
      have hb : (s[j]'hlt).toNat.toUInt8 = s[j]'hlt := by simp
      apply ByteArray.ext
      simp [ByteArray.data_append, ByteArray.data_push, hb]
  have := key n acc 0 (by omega)
  have e0 : ad.add 0 = ad := rfl
  rw [e0] at this
  rw [this]
  have : s.extract 0 n = s := by rw [← hn]; exact ByteArray.extract_zero_size
  rw [this]
theorem UsP.run {t t' ty u : TypeId} {k : IntKind} {p : Option Addr} {m : Int} {K : ByteArray → SH → Prop} (hu : P.underlying t = some (.pointer u)) (h : UsP P u I S p m K) (hw : Sat I S w) :
    ∃ s w' T, (Builtin.unsafeString_ #[t, t'] ty #[.pointer p, .int k m]).run P w = .ok (.string s) w' ∧ Sat I T w' ∧ K s T := by
  rcases h with ⟨rfl, hK⟩ | ⟨ad, i, cs, e, fz, s, rfl, h0, h1, hi, hl, hb, hK⟩
  · refine ⟨_, w, S, ?_, hw, hK⟩
    have e : Builtin.unsafeString_ #[t, t'] ty #[.pointer p, .int k 0] = (asInt (.int k 0) >>= fun n => _) := rfl
    rw [e, Sem.run_bind, asInt_int, Sem.run_pure, Result.andThen_ok]
    cases p <;> simp
  · have hown := hw.own _ (List.mem_of_getElem? hi)
    dsimp only at hown
    have hsh : w.shape? ad.block = some (e, cs.size) := by simp [World.shape?, hown]
    have hva : (variablesAt ad u m.toNat).run P w = .ok true w := by simp [variablesAt, program, shape, Sem.run, hsh, hl]
    have hel : (elemOf t).run P w = .ok u w := by simp [elemOf, run_underlying hu]
    obtain ⟨hbs, hbc⟩ := hb
    have hpos : 0 < s.size := by omega
    have hsp : ad.spot = none := by
      obtain ⟨h, _⟩ := hbc 0 _ (getElem?_pos s 0 hpos)
      exact h
    have hld := run_loadBytes (P := P) (w := w) (acc := ByteArray.empty) hsp hbs (fun i c hc => (hbc i c hc).run hw)
    have hn0 : ¬ (m = 0) := by omega
    have hn1 : ¬ (m < 0) := by omega
    have hn2 : ¬ (m > 9223372036854775807) := by omega
    refine ⟨s, w.freeze ad m.toNat, _, ?_, hw.set (w' := w.freeze ad m.toNat) hi ?_ ?_ ?_ ?_ ?_ (by simp only [World.freeze]; split <;> rfl), hK⟩
    · have e : Builtin.unsafeString_ #[t, t'] ty #[.pointer (some ad), .int k m] = (asInt (.int k m) >>= fun n => _) := rfl
      rw [e, Sem.run_bind, asInt_int, Sem.run_pure, Result.andThen_ok]
      simp [hn0, hn1, hn2, hva, hel, hld, freeze, Sem.run]
    all_goals (have hn3 : m.toNat ≠ 0 := by omega)
    · simp [World.freeze, hn3]
    · simp [World.freeze, hn3]
    · simp [World.freeze, hn3]
    · simp only [World.freeze, hn3, if_false]
      rw [Array.getElem?_modify, if_pos rfl, hown]
      rfl
    · intro b' hne
      simp only [World.freeze, hn3, if_false]
      rw [Array.getElem?_modify, if_neg (fun e => hne e.symm)]
theorem ClrP.run {t ty e : TypeId} {i : TypeInfo} {z : Value} {p : Option Addr} {m c : Nat} {K : SH → Prop} (hu : P.underlying t = some (.slice e)) (hi : P.info? e = some i) (hz : i.zero = some z) (h : ClrP z.cells.toList S p m K) (hw : Sat I S w) :
    ∃ w' T, (Builtin.clear_ #[t] ty #[.slice p m c]).run P w = .ok (.tuple #[]) w' ∧ Sat I T w' ∧ K T := by
  rcases h with ⟨rfl, hK⟩ | ⟨ad, rfl, hm, hst⟩
  · refine ⟨w, S, ?_, hw, hK⟩
    cases p <;> simp [Builtin.clear_, run_underlying hu]
  · obtain ⟨T, w', h1, h2, h3⟩ := hst.runC (P := P) hw
    refine ⟨w', T, ?_, h2, h3⟩
    obtain ⟨k, rfl⟩ : ∃ k, m = k + 1 := ⟨m - 1, by omega⟩
    have hzc := zeroCells_repV z.cells (k + 1)
    simp [Builtin.clear_, run_underlying hu, zeroValue, typeInfo, hi, hz, hzc, h1]
theorem call_sound {c : Call} (ho : o.op = .call c) (h : match c.callee, c.argTypes.toList, c.args.toList with
    | .value f, _, args => (match ev l f with
      | .func (.func fid) fs cs => (match callable P fid with
        | true => Runs P fid (fs.toList ++ args.map (ev l) ++ cs.toList).toArray I S fun v J T => asTy P o.type v fun v => putP n o.dst v K l J T
        | false => RunsX P fid (fs.toList ++ args.map (ev l) ++ cs.toList).toArray I S fun v J T => asTy P o.type v fun v => putP n o.dst v K l J T)
      | _ => False)
    | .builtin .len, [t], [x] => (match P.underlying t, ev l x with
      | some .string, .string s => putP n o.dst (.int .i64 (s.size : Int)) K l I S
      | some (.slice _), .slice _ m _ => putP n o.dst (.int .i64 (m : Int)) K l I S
      | some (.map _ _), .map m => ∃ c : Nat, MapLen I S m c ∧ putP n o.dst (.int .i64 (c : Int)) K l I S
      | _, _ => False)
    | .builtin .delete, [t, _], [x, k] => (match P.underlying t, ev l x with
      | some (.map kt _), .map m => (match P.underlying kt with
        | some kd => (match keyD kd with
          | true => MapDl S m kd (ev l k) fun T => putP n o.dst (.tuple #[]) K l I T
          | false => (match isSt kd && chkV P 4 kt (ev l k) with
            | true => MapDlS P kt S m (ev l k) fun T => putP n o.dst (.tuple #[]) K l I T
            | false => False))
        | none => False)
      | _, _ => False)
    | .builtin .cap, [t], [x] => (match P.underlying t, ev l x with
      | some (.slice _), .slice _ _ m => putP n o.dst (.int .i64 (m : Int)) K l I S
      | _, _ => False)
    | .builtin .max, _, x :: rest => (match ev l x with
      | .int k a => (match MaxL k a (rest.map (ev l)) with | some m => putP n o.dst (.int k m) K l I S | none => False)
      | _ => False)
    | .builtin .min, _, x :: rest => (match ev l x with
      | .int k a => (match MinL k a (rest.map (ev l)) with | some m => putP n o.dst (.int k m) K l I S | none => False)
      | _ => False)
    | .builtin .append, [t, t'], [s, x] => (match P.underlying t with
      | some (.slice e) => (match P.info? e with
        | some i => (match i.zero with
          | some z => (match Nat.beq z.cells.size i.size && Nat.blt 0 i.size with
            | true => AppG e i.size i.bytes z.cells.toList (P.underlying t') I S (ev l s) (ev l x) fun p m c T => putP n o.dst (.slice p m c) K l I T
            | false => False)
          | none => False)
        | none => False)
      | _ => False)
    | .builtin .unsafeSliceData, [t], [x] => (match P.underlying t, ev l x with
      | some (.slice _), .slice p _ c => (p.isSome = true → c ≠ 0) ∧ putP n o.dst (.pointer p) K l I S
      | _, _ => False)
    | .builtin .unsafeString, [t, _], [x, y] => (match P.underlying t, ev l x, ev l y with
      | some (.pointer u), .pointer p, .int _ m => UsP P u I S p m fun s T => putP n o.dst (.string s) K l I T
      | _, _, _ => False)
    | .builtin .clear, [t], [x] => (match P.underlying t, ev l x with
      | some (.slice e), .slice p m _ => (match (P.info? e).bind (·.zero) with
        | some z => ClrP z.cells.toList S p m fun T => putP n o.dst (.tuple #[]) K l I T
        | none => False)
      | _, _ => False)
    | .builtin .copy, [t, _], [d, x] => (match P.underlying t with
      | some (.slice e) => (match P.info? e with
        | some i => CpyP i.size I S (ev l d) (ev l x) fun m T => putP n o.dst (.int .i64 (m : Int)) K l I T
        | none => False)
      | _ => False)
    | .builtin .complex, _, _ => (match eval0 P (execOp (ev l) o) with | some (.value v) => putP n o.dst v K l I S | _ => False)
    | .builtin .real, _, _ => (match eval0 P (execOp (ev l) o) with | some (.value v) => putP n o.dst v K l I S | _ => False)
    | .builtin .imag, _, _ => (match eval0 P (execOp (ev l) o) with | some (.value v) => putP n o.dst v K l I S | _ => False)
    | _, _, _ => False) (hw : Sat I S w) (ha : FrOK n l a) : o.wp P a w (NX n I K) Q := by
  obtain ⟨callee, ⟨args⟩, ⟨argTypes⟩⟩ := c
  dsimp only at h
  split at h
  · rename_i f _ _
    split at h
    · rename_i fid fs cs hf
      split at h
      · rename_i hc
        refine wp_enter ?_ h hw ha
        unfold callable at hc
        split at hc
        · rename_i fn hfn
          simp only [Bool.and_eq_true, Bool.not_eq_true'] at hc
          have hb : fn.body.isNone = false := by cases hbd : fn.body <;> simp [hbd] at hc ⊢
          have hca : fs ++ (args.map (ev l)).toArray ++ cs = (fs.toList ++ args.map (ev l) ++ cs.toList).toArray := by simp
          simp only [execOp, ho, resolve, hf, Deferred.ofValue, Sem.run_bind, Sem.run_pure, Result.andThen_ok, invoke, List.map_toArray, hca]
          simp only [callFunc, program, Sem.run, Sem.run_bind, Result.andThen_ok, hfn, hc.1, hb, Bool.false_eq_true, if_false, Sem.run_pure]
        · cases hc
      · obtain ⟨v, w', J, T, hr, hle, hs, hv⟩ := h w hw
        have hca : fs ++ (args.map (ev l)).toArray ++ cs = (fs.toList ++ args.map (ev l) ++ cs.toList).toArray := by simp
        have hx : (execOp (ev l) o).run P w = .ok (.value v) w' := by
          simp only [execOp, ho, resolve, hf, Deferred.ofValue, Sem.run_bind, Sem.run_pure, Result.andThen_ok, invoke, List.map_toArray, hca, hr]
        simp only [Oper.wp, ha.eval, hx, Oper.upon]
        exact (asTy_elim hv).nx ha hle hs
    · exact h.elim
  · rename_i t x
    split at h
    · rename_i s hu hx
      refine wp_value ?_ h hw ha
      simp [execOp, ho, resolve, invoke, builtin, Builtin.len_, hx, run_underlying hu, goInt]
    · rename_i e _ m _ hu hx
      refine wp_value ?_ h hw ha
      simp [execOp, ho, resolve, invoke, builtin, Builtin.len_, hx, run_underlying hu, goInt]
    · rename_i kt et m hu hx
      obtain ⟨c, hl, hp⟩ := h
      refine wp_value ?_ hp hw ha
      cases m with
      | none =>
        have : c = 0 := hl
        subst this
        simp [execOp, ho, resolve, invoke, builtin, Builtin.len_, hx, run_underlying hu, goInt]
      | some r =>
        obtain ⟨es, clock, hc, rfl⟩ := hl
        simp [execOp, ho, resolve, invoke, builtin, Builtin.len_, hx, run_underlying hu, goInt, getObj, Sem.run, hc.run hw]
    · exact h.elim
  · rename_i t t2 x k
    split at h
    · rename_i kt et m hu hx
      split at h
      · rename_i kd hk
        split at h
        · rename_i hkd
          obtain ⟨T, w', hr, hs, hK⟩ := run_delete (t2 := t2) (ty := o.type) hu hk hkd h hw
          refine wp_value ?_ hK hs ha
          simp only [execOp, ho, resolve, invoke, builtin, Sem.run_bind, Sem.run_pure, Result.andThen_ok, List.map_toArray, List.map_cons, List.map_nil, hx, hr]
        · split at h
          · rename_i hb
            simp only [Bool.and_eq_true] at hb
            obtain ⟨T, w', hr, hs, hK⟩ := run_deleteS (t2 := t2) (ty := o.type) hu hk hb.1 hb.2 h hw
            refine wp_value ?_ hK hs ha
            simp only [execOp, ho, resolve, invoke, builtin, Sem.run_bind, Sem.run_pure, Result.andThen_ok, List.map_toArray, List.map_cons, List.map_nil, hx, hr]
          · exact h.elim
      · exact h.elim
    · exact h.elim
  · rename_i t x
    split at h
    · rename_i e _ _ m hu hx
      refine wp_value ?_ h hw ha
      simp [execOp, ho, resolve, invoke, builtin, Builtin.cap_, hx, run_underlying hu, goInt]
    · exact h.elim
  · rename_i x rest
    split at h
    · rename_i k b hx
      split at h
      · rename_i m hm
        refine wp_value ?_ h hw ha
        have := maxL_run (P := P) (w := w) _ _ _ hm
        simp only [execOp, ho, resolve, invoke, builtin, Builtin.max_, Sem.run_bind, Sem.run_pure, Result.andThen_ok, List.map_toArray, List.map_cons, hx, this]
      · exact h.elim
    · exact h.elim
  · rename_i x rest
    split at h
    · rename_i k b hx
      split at h
      · rename_i m hm
        refine wp_value ?_ h hw ha
        have := minL_run (P := P) (w := w) _ _ _ hm
        simp only [execOp, ho, resolve, invoke, builtin, Builtin.min_, Sem.run_bind, Sem.run_pure, Result.andThen_ok, List.map_toArray, List.map_cons, hx, this]
      · exact h.elim
    · exact h.elim
  · rename_i t t' s x
    split at h
    · rename_i e hu
      split at h
      · rename_i i hi
        split at h
        · rename_i z hz
          split at h
          · rename_i hb
            simp only [Bool.and_eq_true] at hb
            obtain ⟨p, m, cc, w', T, hr, hs, hK⟩ := AppG.run (P := P) (ty := o.type) hu hi hz (Nat.eq_of_beq_eq_true hb.1) (by simpa using hb.2) h hw
            refine wp_value ?_ hK hs ha
            simp only [execOp, ho, resolve, invoke, builtin, Sem.run_bind, Sem.run_pure, Result.andThen_ok, List.map_toArray, List.map_cons, List.map_nil, hr]
          · exact h.elim
        · exact h.elim
      · exact h.elim
    · exact h.elim
  · rename_i t x
    split at h
    · rename_i e p _ c hu hx
      obtain ⟨hc, hp⟩ := h
      refine wp_value ?_ hp hw ha
      cases p with
      | none => simp only [execOp, ho, resolve, invoke, builtin, Sem.run_bind, Sem.run_pure, Result.andThen_ok, List.map_toArray, List.map_cons, List.map_nil, hx, run_sdNone]
      | some ad => simp only [execOp, ho, resolve, invoke, builtin, Sem.run_bind, Sem.run_pure, Result.andThen_ok, List.map_toArray, List.map_cons, List.map_nil, hx, run_sdSome (hc rfl)]
    · exact h.elim
  · rename_i t t' x y
    split at h
    · rename_i u p k m hu hx hy
      obtain ⟨s, w', T, hr, hs, hK⟩ := UsP.run (t' := t') (ty := o.type) (k := k) hu h hw
      refine wp_value ?_ hK hs ha
      simp only [execOp, ho, resolve, invoke, builtin, Sem.run_bind, Sem.run_pure, Result.andThen_ok, List.map_toArray, List.map_cons, List.map_nil, hx, hy, hr]
    · exact h.elim
  · rename_i t x
    split at h
    · rename_i e p m cc hu hx
      split at h
      · rename_i z hz
        obtain ⟨i, hi, hiz⟩ := Option.bind_eq_some_iff.1 hz
        obtain ⟨w', T, hr, hs, hK⟩ := ClrP.run (c := cc) (ty := o.type) hu hi hiz h hw
        refine wp_value ?_ hK hs ha
        simp only [execOp, ho, resolve, invoke, builtin, Sem.run_bind, Sem.run_pure, Result.andThen_ok, List.map_toArray, List.map_cons, List.map_nil, hx, hr]
      · exact h.elim
    · exact h.elim
  · rename_i t t' d x
    split at h
    · rename_i e hu
      split at h
      · rename_i i hi
        obtain ⟨m, w', T, hr, hs, hK⟩ := CpyP.run (P := P) (sT := t') (ty := o.type) hu hi h hw
        refine wp_value ?_ hK hs ha
        simp only [execOp, ho, resolve, invoke, builtin, Sem.run_bind, Sem.run_pure, Result.andThen_ok, List.map_toArray, List.map_cons, List.map_nil, hr]
      · exact h.elim
    · exact h.elim
  · exact wp_pure h hw ha
  · exact wp_pure h hw ha
  · exact wp_pure h hw ha
  · exact h.elim

theorem PreOp.sound (h : PreOp P n o K l I S) (hw : Sat I S w) (ha : FrOK n l a) : o.wp P a w (NX n I K) Q := by
  by_cases hq : quietB P o.op = true
  · obtain ⟨v, hr, hK⟩ := h.val hq
    exact wp_value (hr w) hK hw ha
  by_cases hrd : rdB P o.op = true
  · obtain ⟨v, hr, hK⟩ := val_rd hrd h
    exact wp_value (hr w hw) hK hw ha
  unfold PreOp at h
  split at h
  · rename_i x ho; rw [ho] at hq; exact absurd rfl hq
  · rename_i x ho; rw [ho] at hq; exact absurd rfl hq
  · rename_i t x ho -- load
    split at h
    · rename_i ad hx
      obtain ⟨v, hr, hK⟩ := h.run
      exact wp_value (by simp [execOp, ho, hx, hr w hw]) hK hw ha
    · exact h.elim
  · rename_i t x y ho -- store
    split at h
    · rename_i ad d hx hd
      split at h
      · rename_i hb
        obtain ⟨T, w', hr, hs, hK⟩ := StP.run hd (Nat.eq_of_beq_eq_true hb) h hw
        exact wp_skip' (by simp [execOp, ho, hx, hr]) hK hs ha
      · exact h.elim
    · exact h.elim
  · rename_i t ho -- alloc
    split at h
    · rename_i z hz
      obtain ⟨i, hi, hiz⟩ := Option.bind_eq_some_iff.1 hz
      refine wp_value (T := (w.heap.size, .cells z.cells t (0, 0)) :: S) (w' := { w with heap := w.heap.push (.cells z.cells t (0, 0)) }) ?_ (h _) (hw.new _) ha
      simp [execOp, ho, Instr.alloc, zeroValue, typeInfo, program, Sem.run, hi, hiz, newVar, newRow, newObj]
    · exact h.elim
  · rename_i t x ho -- box
    refine wp_value (T := (w.heap.size, .cells (ev l x).cells t (0, 0)) :: S) (w' := { w with heap := w.heap.push (.cells (ev l x).cells t (0, 0)) }) ?_ (h _) (hw.new _) ha
    simp [execOp, ho, Instr.box, newVar, newRow, newObj, Sem.run]
  · rename_i ho; rw [ho] at hq; exact absurd rfl hq
  · rename_i ho; rw [ho] at hq; exact absurd rfl hq
  · rename_i t len parts ho -- buildSlice
    split at h
    · rename_i e hu
      split at h
      · rename_i i hi
        split at h
        · rename_i z hz
          split at h
          · rename_i hb
            split at h
            · rename_i cs hf
              simp only [Bool.and_eq_true] at hb
              have h1 := Nat.eq_of_beq_eq_true hb.1
              have h2 := Nat.le_of_ble_eq_true hb.2
              refine wp_value (T := (w.heap.size, .cells cs e (0, 0)) :: S) (w' := { w with heap := w.heap.push (.cells cs e (0, 0)) }) ?_ (h _) (hw.new _) ha
              exact run_buildSlice ho hu hi hz h1 h2 hf
            · exact h.elim
          · exact h.elim
        · exact h.elim
      · exact h.elim
    · exact h.elim
  · rename_i t x y ho -- makeSlice
    split at h
    · rename_i e _ len _ cap hu hx hy
      split at h
      · rename_i i hi
        split at h
        · rename_i z hz
          split at h
          · rename_i hb
            obtain ⟨h0, h1, h2, h3, h⟩ := h
            exact wp_value (run_makeSl ho hu hx hy hi hz (Nat.eq_of_beq_eq_true hb) h0 h1 h2 h3) (h w.heap.size) (hw.new _) ha
          · exact h.elim
        · exact h.elim
      · exact h.elim
    · exact h.elim
  · rename_i ho; rw [ho] at hq; exact absurd rfl hq
  · rename_i ho; rw [ho] at hq; exact absurd rfl hq
  · rename_i ho; rw [ho] at hq; exact absurd rfl hq
  · rename_i t ho -- makeMap
    refine wp_value (T := (w.heap.size, .map #[] 0) :: S) (w' := { w with heap := w.heap.push (.map #[] 0) }) ?_ (h _) (hw.new _) ha
    simp [execOp, ho, Instr.makeMap, newObj, Sem.run]
  · rename_i t x ho -- makeMap of a size
    split at h
    · rename_i hu hx
      refine wp_value (T := (w.heap.size, .map #[] 0) :: S) (w' := { w with heap := w.heap.push (.map #[] 0) }) ?_ (h _) (hw.new _) ha
      simp [execOp, ho, Instr.makeMap, newObj, Sem.run, hx, run_underlying hu, asInt_int]
    · exact h.elim
  · rename_i t x ho -- range
    split at h
    · rename_i mm hu hx
      obtain ⟨m, rfl, es, clock, hm, h⟩ := mapP_elim h
      refine wp_value (T := (w.heap.size, .mapIter (some m) clock #[] clock) :: S) (w' := { w with heap := w.heap.push (.mapIter (some m) clock #[] clock) }) ?_ (h _) (hw.new _) ha
      have hgm : (getObj m).run P w = .ok (.map es clock) w := by simp [getObj, Sem.run, hm.run hw]
      simp [execOp, ho, Instr.range, newObj, Sem.run, hx, run_underlying hu, hgm]
    · exact h.elim
  · rename_i it ho -- next
    split at h
    · rename_i ad hx
      obtain ⟨v, w', T, hr, hs, hv⟩ := NxP.run (P := P) (ty := o.type) h hw
      rcases hv with ⟨rfl, rfl, hK⟩ | ⟨k, u, rfl, hK⟩
      · exact wp_value (by simp [execOp, ho, hx, hr]) hK hs ha
      · exact wp_value (by simp [execOp, ho, hx, hr]) hK hs ha
    · exact h.elim
  · rename_i it ho -- entry
    split at h
    · rename_i ad hx
      obtain ⟨m, since, seen, stamp, es, clock, e, h0, hi, hb, hm, he, hK⟩ := h
      have hr : (Instr.entry (.pointer (some ad))).run P w = .ok (.tuple #[e.key, e.val]) w := by
        obtain ⟨blk, off, sp⟩ := ad
        dsimp only at h0 hi; subst h0
        have hg : (getObj blk).run P w = .ok (.mapIter (some m) since seen clock) w := by
          have := hw.own _ hi; dsimp only at this; simp [getObj, Sem.run, this]
        have hgm : (getObj m).run P w = .ok (.map es clock) w := by simp [getObj, Sem.run, hm.run hw]
        simp [Instr.entry, hg, hgm, hb, he]
      exact wp_value (by simp [execOp, ho, hx, hr]) hK hw ha
    · exact h.elim
  · rename_i t m k v ho -- insert
    split at h
    · rename_i kt et m hu hx
      split at h
      · rename_i kd hk
        split at h
        · rename_i hkd
          obtain ⟨T, w', hr, hs, hK⟩ := run_mapUpdate hu hk hkd h hw
          exact wp_skip' (by simp [execOp, ho, hx, hr]) hK hs ha
        · exact h.elim
      · exact h.elim
    · exact h.elim
  · rename_i ho; rw [ho] at hrd; exact absurd rfl hrd
  · rename_i t m k v ho -- mapUpdate
    split at h
    · rename_i kt et m hu hx
      split at h
      · rename_i kd hk
        split at h
        · rename_i hkd
          obtain ⟨T, w', hr, hs, hK⟩ := run_mapUpdate hu hk hkd h hw
          exact wp_skip' (by simp [execOp, ho, hx, hr]) hK hs ha
        · split at h
          · rename_i hb
            simp only [Bool.and_eq_true] at hb
            obtain ⟨T, w', hr, hs, hK⟩ := run_mapUpdateS hu hk hb.1 hb.2 h hw
            exact wp_skip' (by simp [execOp, ho, hx, hr]) hK hs ha
          · exact h.elim
      · exact h.elim
    · exact h.elim
  · rename_i sr d x ho -- convert
    rw [ho] at hq hrd
    split at h
    · rename_i e hs hd; simp [rdB, hs, hd] at hrd
    · rename_i e hs hd; simp [rdB, hs, hd] at hrd
    · rename_i e hs hd; simp [rdB, hs, hd] at hrd
    · rename_i e hs hd
      split at h
      · rename_i s he hx
        obtain ⟨hm, h⟩ := h
        have hr := Lib.run_convert_string_bytes w sr d e s hs hd he
        have hge := grownCap_ge w s.size 0 e
        have hcm := grownCap_le_maxLen w s.size 0 e hm
        have hcells : Lib.bytesCells w e s = (byteCells s ++ repV (grownCap w s.size 0 e - s.size) [.int .u8 0]).toArray := by
          have hrep : ∀ k, repV k [Value.int .u8 0] = List.replicate k (.int .u8 0) := by
            intro k; induction k with
            | zero => rfl
            | succ k ih => rw [repV, ih]; rfl
          apply Array.ext'
          simp [Lib.bytesCells, byteCells, hrep]
        have hsize : (Lib.bytesCells w e s).size = grownCap w s.size 0 e := by
          rw [hcells]; simp [byteCells_length, repV_length]; omega
        refine wp_value (T := (w.heap.size, .cells (byteCells s ++ repV (grownCap w s.size 0 e - s.size) [.int .u8 0]).toArray e (grownCap w s.size 0 e, grownCap w s.size 0 e + 1)) :: S) (w' := Lib.bytesWorld w e s) ?_ (h _ _ hge hcm) ?_ ha
        · simp only [execOp, ho, hx, Sem.run_bind, hr, Result.andThen_ok, Sem.run_pure]
        · have hnew := Lib.bytesWorld_at_new w e s
          rw [hsize, hcells] at hnew
          have lt : ∀ b o, w.heap[b]? = some o → b < w.heap.size := by
            intro b o hb
            rcases Nat.lt_or_ge b w.heap.size with h | h
            · exact h
            · rw [Array.getElem?_eq_none h] at hb; cases hb
          have old : ∀ b o, w.heap[b]? = some o → (Lib.bytesWorld w e s).heap[b]? = some o := fun b o hb => by rw [Lib.bytesWorld_at_old w e s b (lt b o hb)]; exact hb
          refine ⟨hw.os, hw.tape, hw.out, Nat.le_trans hw.dr (by show w.drawn ≤ ((w.drew.alloc _).freeze _ 1).drawn; rw [World.freeze, if_neg (by decide)]; exact Nat.le_succ _), fun b o hb => old _ _ (hw.im b o hb), fun p hp => ?_, fun p hp => ?_, ?_⟩
          · rcases List.mem_cons.1 hp with rfl | hp
            · exact hnew
            · exact old _ _ (hw.own p hp)
          · rcases List.mem_cons.1 hp with rfl | hp
            · cases hn : I.at_ w.heap.size with
              | none => rfl
              | some o => have := lt _ _ (hw.im _ _ hn); omega
            · exact hw.apart p hp
          · simp only [List.map_cons, List.nodup_cons]
            refine ⟨fun hm => ?_, hw.nodup⟩
            obtain ⟨p, hp, he⟩ := List.mem_map.1 hm
            have := lt _ _ (hw.own p hp); omega
      · exact h.elim
    · rename_i h1 h2 h3 h4
      exfalso
      simp only [quietB, hrd] at hq
      first | exact hq trivial | (split at hq <;> first | exact absurd ‹_› (h4 _ ‹_›) | exact absurd rfl hq)
  · rename_i ho; rw [ho] at hq; exact absurd rfl hq
  · rename_i c ho -- call
    exact call_sound ho h hw ha
  · exact wp_pure h hw ha
end
end Go.Px
/- Code: straight pieces as propositions; regions whose order is open; a function's call. -/
namespace Go.Px
set_option linter.unusedVariables false
set_option linter.unusedSimpArgs false

/-- in a region that looks at a map's entry, a struct that is taken out of the entry comes in letters -/
def extB (P : Program) (ops : Array Oper) (o : Oper) : Bool := match ops[0]?, o.op with
  | some p, .extract _ _ => (match p.op with
    | .entry _ => (match P.underlying o.type with | some (.struct _) => true | _ => false)
    | _ => false)
  | _, _ => false
def PreOpE (P : Program) (n : Nat) (ops : Array Oper) (o : Oper) (K : Fr → IMem → SH → Prop) (l : Fr) (I : IMem) (S : SH) : Prop := match extB P ops o with
  | false => PreOp P n o K l I S
  | true => match eval0 P (execOp (ev l) o) with
    | some (.value v) => asTy P o.type v fun v => putP n o.dst v K l I S
    | _ => False
theorem PreOpE.pre {P : Program} {n : Nat} {ops : Array Oper} {o : Oper} {K : Fr → IMem → SH → Prop} {l : Fr} {I : IMem} {S : SH} (h : PreOpE P n ops o K l I S) : PreOp P n o K l I S := by
  unfold PreOpE at h
  split at h
  · exact h
  · rename_i hb
    unfold extB at hb
    split at hb
    · rename_i p t ix h1 h2
      unfold PreOp
      rw [h2]
      dsimp only
      split at h
      · rename_i v hv; first | exact asTy_elim h | (rw [hv]; exact asTy_elim h)
      · exact h.elim
    · cases hb

/-- guards: the case where the guard holds, and where not, each with the guard's slot written out -/
def PreOps (P : Program) (n : Nat) (ops : Array Oper) : List Oper → (Fr → IMem → SH → Prop) → Fr → IMem → SH → Prop
  | [], K, l, I, S => K l I S
  | o :: rest, K, l, I, S => match o.guard with
    | none => PreOpE P n ops o (PreOps P n ops rest K) l I S
    | some (j, b) => match (ops[j]?).bind (·.dst) with
      | some d => (match l d with
        | .bool t => bcase t
            (match b with | true => PreOpE P n ops o (PreOps P n ops rest K) (upd l d (.bool true)) I S | false => putP n o.dst undef (PreOps P n ops rest K) (upd l d (.bool true)) I S)
            (match b with | true => putP n o.dst undef (PreOps P n ops rest K) (upd l d (.bool false)) I S | false => PreOpE P n ops o (PreOps P n ops rest K) (upd l d (.bool false)) I S)
        | .tuple _ => putP n o.dst undef (PreOps P n ops rest K) l I S
        | _ => False)
      | none => False

section
variable {P : Program} {n : Nat} {Q : Exit → Fr → IMem → SH → Prop} {l : Fr} {I : IMem} {S : SH} {a : Act} {w : World} {ops : Array Oper}

theorem yielded_fr (ha : FrOK n l a) {j d : Nat} (hd : (ops[j]?).bind (·.dst) = some d) : yielded ops a.tmps j = (match l d with | .bool b => some b | _ => none) := by
  unfold yielded
  rw [hd]
  simp only [Option.bind_some]
  have h := ha.at_ d
  by_cases hlt : d < a.tmps.size
  · have : a.tmps[d]? = some (l d) := by
      rw [Array.getElem?_eq_getElem hlt]
      simp only [Array.getD, hlt, dite_true] at h
      rw [← h]; rfl
    rw [this]
    cases l d <;> rfl
  · have h2 : a.tmps[d]? = none := Array.getElem?_eq_none (by omega)
    have h3 : l d = undef := by rw [← h]; simp [Array.getD, hlt]
    rw [h2, h3]; rfl

/-- what a guard comes to -/
theorem guard_split {o : Oper} {K1 K2 : Fr → Prop} (ha : FrOK n l a)
    (h : match o.guard with
      | none => K1 l
      | some (j, b) => match (ops[j]?).bind (·.dst) with
        | some d => (match l d with
          | .bool t => bcase t (match b with | true => K1 (upd l d (.bool true)) | false => K2 (upd l d (.bool true))) (match b with | true => K2 (upd l d (.bool false)) | false => K1 (upd l d (.bool false)))
          | .tuple _ => K2 l
          | _ => False)
        | none => False) : (Region.wanted o (yielded ops a.tmps) = true ∧ K1 l) ∨ (Region.wanted o (yielded ops a.tmps) = false ∧ K2 l) := by
  cases hg : o.guard with
  | none => simp only [hg] at h; exact .inl ⟨by simp [Region.wanted, hg], h⟩
  | some g =>
    obtain ⟨j, b⟩ := g
    simp only [hg] at h
    split at h
    · rename_i d hd
      have hy := yielded_fr (ops := ops) ha hd
      split at h
      · rename_i t ht
        rw [ht] at hy
        have e := upd_eta ht
        cases t <;> cases b <;> simp only [bcase] at h <;> rw [← e] at h
        · exact .inl ⟨by simp [Region.wanted, hg, hy], h⟩
        · exact .inr ⟨by simp [Region.wanted, hg, hy], h⟩
        · exact .inr ⟨by simp [Region.wanted, hg, hy], h⟩
        · exact .inl ⟨by simp [Region.wanted, hg, hy], h⟩
      · rename_i vs ht
        rw [ht] at hy
        exact .inr ⟨by simp [Region.wanted, hg, hy], h⟩
      · exact h.elim
    · exact h.elim

theorem PreOps.sound {Q' : Exit → Act → World → Prop} : ∀ (L : List Oper) (K : Fr → IMem → SH → Prop) (l : Fr) (I : IMem) (S : SH) (a : Act) (w : World), PreOps P n ops L K l I S → Sat I S w → FrOK n l a →
    (∀ a w, NX n I K a w → Q' .normal a w) → wpList P ops Q' L a w
  | [], K, l, I, S, a, w, h, hw, ha, hQ => hQ a w ⟨l, I, S, ha, IMem.le.refl I, hw, h⟩
  | o :: L, K, l, I, S, a, w, h, hw, ha, hQ => by
    have hk : ∀ (J : IMem), I.le J → ∀ a w, NX n J K a w → Q' .normal a w := fun J hJ a w ⟨l, J', T, h1, h2, h3, h4⟩ => hQ a w ⟨l, J', T, h1, hJ.trans h2, h3, h4⟩
    simp only [PreOps] at h
    rcases guard_split (o := o) (ops := ops) (K1 := fun l => PreOpE P n ops o (PreOps P n ops L K) l I S) (K2 := fun l => putP n o.dst undef (PreOps P n ops L K) l I S) ha h with ⟨hwn, h⟩ | ⟨hwn, h⟩
    · unfold wpList
      rw [if_pos hwn]
      refine .inl (Oper.wp_mono ?_ (PreOp.sound (Q := Q') h.pre hw ha))
      rintro a' w' ⟨l', J, T, h1, h2, h3, h4⟩
      exact PreOps.sound L K l' J T a' w' h4 h3 h1 (hk J h2)
    · unfold wpList
      rw [if_neg (by rw [hwn]; simp)]
      obtain ⟨l', J, T, h1, h2, h3, h4⟩ := putP.nx (w := w) h ha (IMem.le.refl I) hw
      exact PreOps.sound L K l' J T _ w h4 h3 h1 (hk J h2)

theorem WP.region {id : Nat} (h : PreOps P n ops ops.toList (Q .normal) l I S) : WP P n (.region id ops false) Q l I S :=
  fun w a hw ha => wp_region_list (PreOps.sound ops.toList _ l I S a w h hw ha fun _ _ h => h)

/-! ### straight code -/
def Pre (P : Program) (n : Nat) : Code → (Exit → Fr → IMem → SH → Prop) → Fr → IMem → SH → Prop
  | .skip, Q => Q .normal
  | .label _, Q => Q .normal
  | .region id ops d, Q => (match d with | false => PreOps P n ops ops.toList (Q .normal) | true => WP P n (.region id ops true) Q)
  | .seq x y, Q => Pre P n x (QThen (Pre P n y Q) Q)
  | .cond c x y, Q => fun l I S => (match ev l c with | .bool t => bcase t (Pre P n x Q l I S) (Pre P n y Q l I S) | _ => False)
  | .block id c, Q => Pre P n c (QBlock id Q)
  | .exit id, Q => Q (.exit id)
  | .goto t, Q => Q (.goto t)
  | .ret, Q => Q .ret
  | .loop c, Q => WP P n (.loop c) Q
  | .scope c, Q => WP P n (.scope c) Q
  | .rangeFunc f ps x y, Q => WP P n (.rangeFunc f ps x y) Q
  | .refuse _, _ => fun _ _ _ => False

theorem WP.of_q {c : Code} {e : Exit} (hc : ∀ (Q' : Exit → Act → World → Prop) a w, Q' e a w → c.wp P Q' a w) (h : Q e l I S) : WP P n c Q l I S :=
  fun w a hw ha => hc _ a w ⟨l, I, S, ha, IMem.le.refl I, hw, h⟩
theorem WP.cond {c : Operand} {x y : Code} {t : Bool} (hc : ev l c = .bool t) (h : bcase t (WP P n x Q l I S) (WP P n y Q l I S)) : WP P n (.cond c x y) Q l I S := by
  intro w a hw ha
  refine Go.wp_cond (t := t) (by rw [ha.eval]; exact hc) ?_
  cases t
  · exact h w a hw ha
  · exact h w a hw ha
theorem Pre.sound : ∀ (c : Code) (Q : Exit → Fr → IMem → SH → Prop) (l : Fr) (I : IMem) (S : SH), Pre P n c Q l I S → WP P n c Q l I S
  | .skip, Q, l, I, S, h => WP.of_q (fun _ _ _ h => wp_skip h) h
  | .label _, Q, l, I, S, h => WP.of_q (fun _ _ _ h => wp_label h) h
  | .region id ops d, Q, l, I, S, h => by
    cases d
    · exact WP.region h
    · exact h
  | .seq x y, Q, l, I, S, h => by
    refine WP.seq ((Pre.sound x _ l I S h).mono ?_)
    intro e l' J T hle hq
    cases e with
    | normal => exact Pre.sound y Q l' J T hq
    | _ => exact hq
  | .cond c x y, Q, l, I, S, h => by
    simp only [Pre] at h
    split at h
    · rename_i t ht
      refine WP.cond ht ?_
      cases t
      · exact Pre.sound y Q l I S h
      · exact Pre.sound x Q l I S h
    · exact h.elim
  | .block id c, Q, l, I, S, h => WP.block (Pre.sound c _ l I S h)
  | .exit id, Q, l, I, S, h => WP.of_q (fun _ _ _ h => wp_exit h) h
  | .goto t, Q, l, I, S, h => WP.of_q (fun _ _ _ h => wp_goto h) h
  | .ret, Q, l, I, S, h => WP.of_q (fun _ _ _ h => wp_ret h) h
  | .loop c, Q, l, I, S, h => h
  | .scope c, Q, l, I, S, h => h
  | .rangeFunc .., Q, l, I, S, h => h
  | .refuse _, Q, l, I, S, h => h.elim

def PreCut (P : Program) (n : Nat) (Y : Fr → IMem → SH → Prop) : Nat → Code → (Exit → Fr → IMem → SH → Prop) → Fr → IMem → SH → Prop
  | 0, _, _ => Y
  | k + 1, .seq x y, Q => Pre P n x (QThen (PreCut P n Y k y Q) Q)
  | _ + 1, c, Q => Pre P n c Q
def dropSeq : Nat → Code → Code
  | 0, c => c
  | k + 1, .seq _ y => dropSeq k y
  | _ + 1, _ => .skip
theorem WP.cut (k : Nat) {c : Code} (Y : Fr → IMem → SH → Prop) (h : PreCut P n Y k c Q l I S) (hY : ∀ l J T, I.le J → Y l J T → WP P n (dropSeq k c) Q l J T) : WP P n c Q l I S := by
  induction k generalizing c l I S with
  | zero => exact hY l I S (IMem.le.refl I) h
  | succ k ih =>
    have other : (∀ x y, c ≠ .seq x y) → WP P n c Q l I S := fun hne => by
      cases c <;> first | exact absurd rfl (hne _ _) | exact Pre.sound _ _ _ _ _ h
    cases c with
    | seq x y =>
      refine WP.seq ((Pre.sound x _ l I S h).mono ?_)
      intro e l' J T hle hq
      cases e with
      | normal => exact ih hq fun l'' J' T' hle' hy => hY l'' J' T' (hle.trans hle') hy
      | _ => exact hq
    | _ => exact other (fun _ _ h => by cases h)

/-! ### what a function hands back -/
def RetP (P : Program) : List ResultVar → Fr → IMem → SH → (List Value → Prop) → Prop
  | [], _, _, _, K => K []
  | .tmp t :: rs, l, I, S, K => RetP P rs l I S fun vs => K (l t :: vs)
  | .cell a t :: rs, l, I, S, K => (match l a with | .pointer (some ad) => LdP P t I S ad fun v => RetP P rs l I S fun vs => K (v :: vs) | _ => False)
def retV : List Value → Value
  | [v] => v
  | vs => .tuple vs.toArray
def QRet (P : Program) (rs : List ResultVar) (R : Value → IMem → SH → Prop) : Exit → Fr → IMem → SH → Prop
  | .normal => fun l I S => RetP P rs l I S fun vs => R (retV vs) I S
  | .ret => fun l I S => RetP P rs l I S fun vs => R (retV vs) I S
  | _ => fun _ _ _ => False
def resOne (tmps : Array Value) : ResultVar → Sem Value
  | .tmp t => pure (tmps.getD t undef)
  | .cell a t => do loadVar t (← asAddr (tmps.getD a undef))
theorem RetP.run (hw : Sat I S w) (ha : FrOK n l a) : ∀ (rs : List ResultVar) (K : List Value → Prop), RetP P rs l I S K → ∃ vs, (rs.mapM (resOne a.tmps)).run P w = .ok vs w ∧ K vs
  | [], K, h => ⟨[], by simp, h⟩
  | .tmp t :: rs, K, h => by
    obtain ⟨vs, hr, hK⟩ := RetP.run hw ha rs _ h
    refine ⟨l t :: vs, ?_, hK⟩
    simp only [List.mapM_cons, resOne, Sem.run_bind, Sem.run_pure, Result.andThen_ok, hr, ha.at_]
  | .cell ad t :: rs, K, h => by
    simp only [RetP] at h
    split at h
    · rename_i ad' hl
      obtain ⟨v, hr0, h⟩ := LdP.run h
      have hr0 := hr0 w hw
      obtain ⟨vs, hr, hK⟩ := RetP.run hw ha rs _ h
      refine ⟨v :: vs, ?_, hK⟩
      simp only [Instr.loadAt, Instr.sureAddr, Sem.run_bind, Sem.run_pure, Result.andThen_ok] at hr0
      simp only [List.mapM_cons, resOne, Sem.run_bind, Sem.run_pure, Result.andThen_ok, hr, ha.at_, hl, asAddr, hr0]
    · exact h.elim
theorem run_results {fn : Func} {tmps : Array Value} {vs : List Value} (h : (fn.results.toList.mapM (resOne tmps)).run P w = .ok vs w) : (results fn tmps).run P w = .ok (retV vs) w := by
  have e : results fn tmps = (do let vs ← fn.results.mapM (resOne tmps); pure (if h : vs.size = 1 then vs[0] else .tuple vs)) := by
    unfold results
    congr 1
  rw [e]
  generalize fn.results = rs at h
  obtain ⟨rs⟩ := rs
  simp only at h
  simp only [List.mapM_toArray, Sem.run_bind, Sem.run_map, h, Result.andThen_ok, Sem.run_pure]
  rcases vs with _ | ⟨v, _ | ⟨u, vs⟩⟩ <;> simp [retV]

def fr0 (args : List Value) : Fr := fun i => args.getD i undef
theorem Runs.of_wp {f : FuncId} {fn : Func} {c : Code} {args : List Value} {R : Value → IMem → SH → Prop} (hf : P.funcs[f]? = some fn) (hb : fn.body = some c) (hn : Nat.ble args.length fn.ntmps = true)
    (h : WP P fn.ntmps c (QRet P fn.results.toList R) (fr0 args) I S) : Runs P f args.toArray I S R := by
  intro w hw
  have hle := Nat.le_of_ble_eq_true hn
  refine calls_of_wp hf hb (wp_mono (h w _ hw ?_) ?_)
  · refine ⟨by simp; omega, rfl, fun i => ?_⟩
    simp only [fr0, Array.getD_eq_getD_getElem?, List.getD_eq_getElem?_getD, Array.getElem?_append, List.size_toArray, List.getElem?_toArray]
    split
    · rfl
    · rename_i hlt
      rw [List.getElem?_eq_none (by omega), Array.getElem?_replicate]
      split <;> rfl
  · rintro e a' w' ⟨l', J, T, h1, h2, h3, h4⟩
    have fin : RetP P fn.results.toList l' J T (fun vs => R (retV vs) J T) → bodyPost P fn (fun e w' => ∃ v J T, e = .returned v ∧ I.le J ∧ Sat J T w' ∧ R v J T) .ret a' w' := fun h4 => by
      obtain ⟨vs, hr, hR⟩ := RetP.run h3 h1 _ _ h4
      exact ⟨h1.defers, _, run_results hr, _, J, T, rfl, h2, h3, hR⟩
    cases e with
    | normal => exact fin h4
    | ret => exact fin h4
    | _ => exact h4.elim

/-! ### regions whose order is open, and whose operations leave the heap as it is -/
def exV (P : Program) (t : TypeId) (K : Value → Prop) : Prop := match P.underlying t with
  | some (.tuple ts) => exTs P ts.toList fun vs => K (.tuple vs.toArray)
  | _ => exTy P t K
theorem exV_elim {t : TypeId} {K : Value → Prop} (h : exV P t K) : ∃ v, K v := by
  unfold exV at h
  split at h
  · obtain ⟨vs, h⟩ := exTs_elim h; exact ⟨_, h⟩
  · exact exTy_elim h
def QOp (P : Program) (n : Nat) (o : Oper) (K : Fr → Prop) (l : Fr) (I : IMem) (S : SH) : Prop := match o.op with
  | .load t x => (match ev l x with | .pointer (some a) => LdX P x t I S a fun v => putP n o.dst v (fun l _ _ => K l) l I S | _ => False)
  | .call c => (match c.callee with
    | .value f => (match ev l f with
      | .func (.func fid) fs cs => (match callable P fid with
        | true => exV P o.type fun v => Runs P fid (fs.toList ++ c.args.toList.map (ev l) ++ cs.toList).toArray I S (fun v' _ T => v' = v ∧ T = S) ∧ putP n o.dst v (fun l _ _ => K l) l I S
        | false => False)
      | _ => False)
    | _ => (match stillB P o.op with | true => PreOp P n o (fun l _ _ => K l) l I S | false => False))
  | _ => (match stillB P o.op with | true => PreOp P n o (fun l _ _ => K l) l I S | false => False)
def PreQ (P : Program) (n : Nat) (ops : Array Oper) (I : IMem) (S : SH) : List Oper → (Fr → Prop) → Fr → Prop
  | [], K, l => K l
  | o :: rest, K, l => match o.guard with
    | none => QOp P n o (PreQ P n ops I S rest K) l I S
    | some (j, b) => match (ops[j]?).bind (·.dst) with
      | some d => (match l d with
        | .bool t => bcase t
            (match b with | true => QOp P n o (PreQ P n ops I S rest K) (upd l d (.bool true)) I S | false => putP n o.dst undef (fun l _ _ => PreQ P n ops I S rest K l) (upd l d (.bool true)) I S)
            (match b with | true => putP n o.dst undef (fun l _ _ => PreQ P n ops I S rest K l) (upd l d (.bool false)) I S | false => QOp P n o (PreQ P n ops I S rest K) (upd l d (.bool false)) I S)
        | .tuple _ => putP n o.dst undef (fun l _ _ => PreQ P n ops I S rest K l) l I S
        | _ => False)
      | none => False

theorem Sat.weaken {J : IMem} (h : Sat J S w) (hle : I.le J) : Sat I S w := by
  refine ⟨h.os.trans hle.os, h.tape.trans hle.tape, h.out.trans hle.out, by rw [← hle.dr]; exact h.dr, fun b o hb => h.im b o (hle.at_ b o hb), h.own, fun p hp => ?_, h.nodup⟩
  cases hn : I.at_ p.1 with
  | none => rfl
  | some o =>
    have := hle.at_ _ _ hn
    rw [h.apart p hp] at this
    cases this

theorem putP.act {d : Option Tmp} {v : Value} {K : Fr → IMem → SH → Prop} (h : putP n d v K l I S) (ha : FrOK n l a) : ∃ l', FrOK n l' (a.put d v) ∧ K l' I S := by
  cases d with
  | none => exact ⟨l, ha, h⟩
  | some d =>
    simp only [putP] at h
    split at h
    · rename_i hb
      exact ⟨_, ha.put (by simpa using hb) v, h⟩
    · exact h.elim

theorem QOp.quiet {o : Oper} {K : Fr → Prop} (h : QOp P n o K l I S) (ha : FrOK n l a) : o.quiet P a (Sat I S) (fun a' => ∃ l', FrOK n l' a' ∧ K l') := by
  have fin : ∀ v, putP n o.dst v (fun l _ _ => K l) l I S → ∃ l', FrOK n l' (a.put o.dst v) ∧ K l' := fun v hp => hp.act ha
  have small : (match stillB P o.op with | true => PreOp P n o (fun l _ _ => K l) l I S | false => False) → o.quiet P a (Sat I S) (fun a' => ∃ l', FrOK n l' a' ∧ K l') := fun h => by
    split at h
    · rename_i hq
      obtain ⟨v, hr, hK⟩ := h.still hq
      exact ⟨v, fun w hw => by simp only [Oper.quietAt, ha.eval, hr w hw, Oper.quietUpon, and_self], fin v hK⟩
    · exact h.elim
  unfold QOp at h
  split at h
  · rename_i t x ho
    split at h
    · rename_i ad hx
      obtain ⟨v, hr, hp⟩ := LdX.run h
      exact ⟨v, fun w hw => by simp [Oper.quietAt, ha.eval, execOp, ho, hx, hr w hw, Oper.quietUpon], fin v hp⟩
    · exact h.elim
  · rename_i c ho
    split at h
    · rename_i f hf
      split at h
      · rename_i fid fs cs hfv
        split at h
        · rename_i hc
          obtain ⟨v, hfn, hp⟩ := exV_elim h
          refine ⟨v, fun w hw => ?_, fin v hp⟩
          unfold callable at hc
          split at hc
          · rename_i fn hfn'
            simp only [Bool.and_eq_true, Bool.not_eq_true'] at hc
            have hb : fn.body.isNone = false := by cases hbd : fn.body <;> simp [hbd] at hc ⊢
            have hr : (execOp a.eval o).run P w = .ok (.enter fid (fs.toList ++ c.args.toList.map (ev l) ++ cs.toList).toArray) w := by
              have hca : fs ++ (c.args.toList.map (ev l)).toArray ++ cs = (fs.toList ++ c.args.toList.map (ev l) ++ cs.toList).toArray := by
                apply Array.ext'; simp
              have hargs : c.args.map (ev l) = (c.args.toList.map (ev l)).toArray := by rw [← Array.toList_map]
              rw [ha.eval]
              simp only [execOp, ho, resolve, hf, hfv, Deferred.ofValue, Sem.run_bind, Sem.run_pure, Result.andThen_ok, invoke, hargs, hca]
              simp only [callFunc, program, Sem.run, Sem.run_bind, Result.andThen_ok, hfn', hc.1, hb, Bool.false_eq_true, if_false, Sem.run_pure]
            simp only [Oper.quietAt, hr, Oper.quietUpon, true_and]
            refine (hfn w hw).mono ?_
            rintro e w' ⟨v', J, T, rfl, hle, hs, rfl, rfl⟩
            exact ⟨rfl, hs.weaken hle⟩
          · cases hc
        · exact h.elim
      · exact h.elim
    · exact small h
  · exact small h
theorem wpQuiet_mono' {C : World → Prop} {K K' : Act → Prop} (h : ∀ a, K a → K' a) : ∀ (L : List Oper) (a : Act), wpQuiet P ops C K L a → wpQuiet P ops C K' L a
  | [], a, hh => h a hh
  | o :: L, a, hh => by
    simp only [wpQuiet] at hh ⊢
    split
    · rename_i hw
      rw [if_pos hw] at hh
      exact Oper.quiet_mono (fun a' => wpQuiet_mono' h L a') hh
    · rename_i hw
      rw [if_neg hw] at hh
      exact wpQuiet_mono' h L _ hh
theorem PreQ.sound : ∀ (L : List Oper) (K : Fr → Prop) (l : Fr) (a : Act), PreQ P n ops I S L K l → FrOK n l a → wpQuiet P ops (Sat I S) (fun a' => ∃ l', FrOK n l' a' ∧ K l') L a
  | [], K, l, a, h, ha => ⟨l, ha, h⟩
  | o :: L, K, l, a, h, ha => by
    simp only [PreQ] at h
    simp only [wpQuiet]
    rcases guard_split (o := o) (ops := ops) (K1 := fun l => QOp P n o (PreQ P n ops I S L K) l I S) (K2 := fun l => putP n o.dst undef (fun l _ _ => PreQ P n ops I S L K l) l I S) ha h with ⟨hwn, h⟩ | ⟨hwn, h⟩
    · rw [if_pos hwn]
      obtain ⟨v, hv, l', hl', hK⟩ := h.quiet ha
      exact ⟨v, hv, PreQ.sound L K l' _ hK hl'⟩
    · rw [if_neg (by rw [hwn]; simp)]
      obtain ⟨l', hl', hK⟩ := h.act ha
      exact PreQ.sound L K l' _ hK hl'
theorem WP.quiet {id : Nat} (hm : P.follows .mixedOrders = true) (hB : Region.lexB .any ops = true) (h : PreQ P n ops I S ops.toList (fun l => Q .normal l I S) l) : WP P n (.region id ops true) Q l I S := by
  intro w a hw ha
  refine wp_region_quiet (C := Sat I S) hm hB hw.drew ?_
  have := PreQ.sound ops.toList (fun l => Q .normal l I S) l a h ha
  refine wpQuiet_mono' (fun a' ⟨l', hl', hq⟩ w' hw' => ?_) _ _ this
  exact ⟨l', I, S, hl', IMem.le.refl I, hw', hq⟩

/-! ### pieces of code, by their places -/
def seqL : Code → Code
  | .seq x _ => x
  | c => c
def seqR : Code → Code
  | .seq _ y => y
  | c => c
def loopB : Code → Code
  | .loop c => c
  | c => c
def scopeB : Code → Code
  | .scope c => c
  | c => c
def blockB : Code → Code
  | .block _ c => c
  | c => c
def blockId : Code → Nat
  | .block i _ => i
  | _ => 0
def condT : Code → Code
  | .cond _ x _ => x
  | c => c
def condF : Code → Code
  | .cond _ _ y => y
  | c => c
def condC : Code → Operand
  | .cond c _ _ => c
  | _ => .tmp 0
def regOps : Code → Array Oper
  | .region _ ops _ => ops
  | _ => #[]
def regId : Code → Nat
  | .region i _ _ => i
  | _ => 0
theorem WP.seqY {c : Code} (hc : c = .seq (seqL c) (seqR c)) (Y : Fr → IMem → SH → Prop) (h1 : WP P n (seqL c) (QThen Y Q) l I S) (h2 : ∀ l J T, I.le J → Y l J T → WP P n (seqR c) Q l J T) : WP P n c Q l I S := by
  rw [hc]
  refine WP.seq (h1.mono ?_)
  intro e l' J T hle hq
  cases e with
  | normal => exact h2 l' J T hle hq
  | _ => exact hq
theorem WP.block' {c : Code} (hc : c = .block (blockId c) (blockB c)) (h : WP P n (blockB c) (QBlock (blockId c) Q) l I S) : WP P n c Q l I S := by
  rw [hc]; exact WP.block h
theorem WP.loop' {c : Code} (hc : c = .loop (loopB c)) (Inv : Nat → Fr → IMem → SH → Prop) (m : Nat) (h0 : Inv m l I S)
    (round : ∀ m l J T, I.le J → Inv m l J T → WP P n (loopB c) (QThen (fun l' J' T' => ∃ m', m' < m ∧ Inv m' l' J' T') Q) l J T) : WP P n c Q l I S := by
  rw [hc]; exact WP.loop Inv m h0 round
theorem WP.cond' {c : Code} (hc : c = .cond (condC c) (condT c) (condF c)) {t : Bool} (ht : ev l (condC c) = .bool t) {A B : Prop} (h : bcase t A B) (hA : A → WP P n (condT c) Q l I S) (hB : B → WP P n (condF c) Q l I S) : WP P n c Q l I S := by
  rw [hc]
  refine WP.cond ht ?_
  cases t
  · exact hB h
  · exact hA h
theorem WP.quiet' {c : Code} (hc : c = .region (regId c) (regOps c) true) (hm : P.follows .mixedOrders = true) (hB : Region.lexB .any (regOps c) = true)
    (h : PreQ P n (regOps c) I S (regOps c).toList (fun l => Q .normal l I S) l) : WP P n c Q l I S := by
  rw [hc]; exact WP.quiet hm hB h
theorem WP.scope' {c : Code} (k : Nat) (t : Nat) (hc : c = .scope (scopeB c)) (hl : dropSeq k (scopeB c) = .seq (.label t) (seqR (dropSeq k (scopeB c))))
    (hf : findLabel (scopeB c) t = some (.seq .skip (seqR (dropSeq k (scopeB c))))) (Inv : Nat → Fr → IMem → SH → Prop)
    (first : PreCut P n (fun l J T => ∃ m, Inv m l J T) k (scopeB c) (QJump t (fun l J T => ∃ m, Inv m l J T) Q) l I S)
    (round : ∀ m l J T, I.le J → Inv m l J T → WP P n (seqR (dropSeq k (scopeB c))) (QJump t (fun l' J' T' => ∃ m', m' < m ∧ Inv m' l' J' T') Q) l J T) : WP P n c Q l I S := by
  rw [hc]
  refine WP.scope t hf Inv ?_ ?_
  · refine WP.cut k (fun l J T => ∃ m, Inv m l J T) first ?_
    · rintro l' J T hle ⟨m, hI⟩
      rw [hl]
      refine WP.seq (WP.of_q (e := .normal) (fun _ _ _ h => wp_label h) ?_)
      refine (round m l' J T hle hI).mono ?_
      intro e l'' J' T' _ h
      cases e with
      | goto t' => obtain ⟨ht, m', _, hI'⟩ := h; exact ⟨ht, m', hI'⟩
      | _ => exact h
  · intro m l' J T hle hI
    exact WP.seq (WP.of_q (e := .normal) (fun _ _ _ h => wp_skip h) (round m l' J T hle hI))
/-! ### values of a kind -/
def asI : IntKind → Value → (Int → Prop) → Prop
  | .i8, .int .i8 n, K => K n
  | .i16, .int .i16 n, K => K n
  | .i32, .int .i32 n, K => K n
  | .i64, .int .i64 n, K => K n
  | .u8, .int .u8 n, K => K n
  | .u16, .int .u16 n, K => K n
  | .u32, .int .u32 n, K => K n
  | .u64, .int .u64 n, K => K n
  | _, _, _ => False
theorem asI_e {k : IntKind} {v : Value} {K : Int → Prop} (h : asI k v K) : ∃ n, v = .int k n ∧ K n := by
  cases v with
  | int k' n => cases k <;> cases k' <;> first | exact ⟨n, rfl, h⟩ | exact h.elim
  | _ => cases k <;> exact h.elim
def asB (v : Value) (K : Bool → Prop) : Prop := match v with
  | .bool b => K b
  | _ => False
theorem asB_e {v : Value} {K : Bool → Prop} (h : asB v K) : ∃ b, v = .bool b ∧ K b := by cases v <;> first | exact ⟨_, rfl, h⟩ | exact h.elim
def asStr (v : Value) (K : ByteArray → Prop) : Prop := match v with
  | .string b => K b
  | _ => False
theorem asStr_e {v : Value} {K : ByteArray → Prop} (h : asStr v K) : ∃ b, v = .string b ∧ K b := by cases v <;> first | exact ⟨_, rfl, h⟩ | exact h.elim
def asPtr (v : Value) (K : Option Addr → Prop) : Prop := match v with
  | .pointer b => K b
  | _ => False
theorem asPtr_e {v : Value} {K : Option Addr → Prop} (h : asPtr v K) : ∃ b, v = .pointer b ∧ K b := by cases v <;> first | exact ⟨_, rfl, h⟩ | exact h.elim
def asAdr (v : Value) (K : Addr → Prop) : Prop := match v with
  | .pointer (some b) => K b
  | _ => False
theorem asAdr_e {v : Value} {K : Addr → Prop} (h : asAdr v K) : ∃ b, v = .pointer (some b) ∧ K b := by
  cases v with
  | pointer p => cases p with
    | none => exact h.elim
    | some a => exact ⟨_, rfl, h⟩
  | _ => exact h.elim
def asSl (v : Value) (K : Option Addr → Nat → Nat → Prop) : Prop := match v with
  | .slice p n c => K p n c
  | _ => False
theorem asSl_e {v : Value} {K : Option Addr → Nat → Nat → Prop} (h : asSl v K) : ∃ p n c, v = .slice p n c ∧ K p n c := by cases v <;> first | exact ⟨_, _, _, rfl, h⟩ | exact h.elim
def asMap (v : Value) (K : Option Nat → Prop) : Prop := match v with
  | .map b => K b
  | _ => False
theorem asMap_e {v : Value} {K : Option Nat → Prop} (h : asMap v K) : ∃ b, v = .map b ∧ K b := by cases v <;> first | exact ⟨_, rfl, h⟩ | exact h.elim
def asV (v : Value) (K : Value → Prop) : Prop := K v
def asF (f : FuncId) (v : Value) (K : Prop) : Prop := match v with
  | .func (.func g) ⟨[]⟩ ⟨[]⟩ => (match Nat.beq g f with | true => K | false => False)
  | _ => False
theorem asF_e {f : FuncId} {v : Value} {K : Prop} (h : asF f v K) : v = .func (.func f) #[] #[] ∧ K := by
  unfold asF at h
  split at h
  · split at h
    · rename_i hb; have := Nat.eq_of_beq_eq_true hb; subst this; exact ⟨rfl, h⟩
    · exact h.elim
  · exact h.elim
end
end Go.Px
/- Regions whose order is open, with operations that change the heap: the quiet ones may be taken first. -/
namespace Go.Px
set_option linter.unusedVariables false
set_option linter.unusedSimpArgs false

def Keep (I0 : IMem) (S0 : SH) (J : IMem) (T : SH) : Prop := I0.le J ∧ ∃ T', T.Perm (T' ++ S0)
theorem Keep.refl (I : IMem) (S : SH) : Keep I S I S := ⟨IMem.le.refl I, [], List.Perm.refl _⟩
theorem Keep.cons {I0 J : IMem} {S0 T : SH} (h : Keep I0 S0 J T) (p : Nat × Obj) : Keep I0 S0 J (p :: T) := ⟨h.1, p :: h.2.choose, by simpa using h.2.choose_spec⟩
theorem Keep.of {I0 J : IMem} {S0 : SH} (h : I0.le J) (T' : SH) : Keep I0 S0 J (T' ++ S0) := ⟨h, T', List.Perm.refl _⟩

def classB (P : Program) (o : Oper) : Bool := match o.op with
  | .load .. => true
  | .call { callee := .value _, .. } => true
  | op => rdB P op
/-- is 'i' ahead of 'j', by edges? -/
def ancB (ops : Array Oper) : Nat → Nat → Nat → Bool
  | 0, _, _ => false
  | f + 1, j, i => match ops[j]? with
    | some o => o.after.toList.any fun e => Region.binds .any e && (Nat.beq e.on i || ancB ops f e.on i)
    | none => false
/-- all that reads is ahead of 'j' -/
def lateB (P : Program) (ops : Array Oper) (eff : List Nat) (j : Nat) : Bool := (List.range ops.size).all fun i => match ops[i]? with
  | some o => !classB P o || eff.contains i || ancB ops ops.size j i
  | none => true

section
variable {P : Program} {n : Nat} {ops : Array Oper} {eff : List Nat} {I0 : IMem} {S0 : SH} {Q : Exit → Act → World → Prop}

/-- one value, and a world that is as good -/
def YK (P : Program) (ops : Array Oper) (o : Oper) (v : Value) (a : Act) (J : IMem) (T : SH) : Prop :=
  (Region.wanted o (yielded ops a.tmps) = true ∧ ∀ w, Sat J T w → o.quietAt P a (Sat J T) w v) ∨ (Region.wanted o (yielded ops a.tmps) = false ∧ v = undef)
def QC (P : Program) (ops : Array Oper) (I0 : IMem) (S0 : SH) (o : Oper) (v : Value) (a : Act) : Prop :=
  (Region.wanted o (yielded ops a.tmps) = true ∧ ∀ J T, (classB P o = true → Keep I0 S0 J T) → ∀ w, Sat J T w → o.quietAt P a (Sat J T) w v) ∨ (Region.wanted o (yielded ops a.tmps) = false ∧ v = undef)
def AnyK (P : Program) (ops : Array Oper) (eff : List Nat) (I0 : IMem) (S0 : SH) (Q : Exit → Act → World → Prop) : Nat → Array Bool → Act → IMem → SH → Prop
  | 0, listed, a, J, T => Region.ready .any ops listed = [] ∧ ∀ w, Sat J T w → Q .normal a w
  | k + 1, listed, a, J, T => (Region.ready .any ops listed = [] → ∀ w, Sat J T w → Q .normal a w) ∧ ∀ j ∈ Region.ready .any ops listed, ∀ o, ops[j]? = some o →
    (eff.contains j = true → ∀ w, Sat J T w → wpOp P ops Q j (fun a' w' => ∃ J' T', Sat J' T' w' ∧ (lateB P ops eff j = true ∨ Keep I0 S0 J' T') ∧ AnyK P ops eff I0 S0 Q k (listed.setIfInBounds j true) a' J' T') a w) ∧
    (eff.contains j = false → ∃ v, YK P ops o v a J T ∧ AnyK P ops eff I0 S0 Q k (listed.setIfInBounds j true) (a.put o.dst v) J T)

theorem wpOp_of_YK {o : Oper} {j : Nat} (hj : ops[j]? = some o) {v : Value} {a : Act} {J : IMem} {T : SH} {w : World} (hw : Sat J T w) (h : YK P ops o v a J T) {K : Act → World → Prop} (hK : ∀ w', Sat J T w' → K (a.put o.dst v) w') :
    wpOp P ops Q j K a w := by
  unfold wpOp
  simp only [hj]
  rcases h with ⟨hwn, hv⟩ | ⟨hwn, rfl⟩
  · simp only [hwn, if_true]
    refine .inl ?_
    exact Oper.wp_of_quiet (C := Sat J T) (K := fun a' => a' = a.put o.dst v) hw (fun a' w' hw' e => by subst e; exact hK w' hw') ⟨v, hv, rfl⟩
  · simp only [hwn, Bool.false_eq_true, if_false]
    exact hK w hw

theorem AnyK.wp : ∀ (k : Nat) (listed : Array Bool) (a : Act) (J : IMem) (T : SH) (w : World), Sat J T w → AnyK P ops eff I0 S0 Q k listed a J T → wpAny P .any ops Q k listed a w
  | 0, listed, a, J, T, w, hw, h => ⟨h.1, h.2 w hw⟩
  | k + 1, listed, a, J, T, w, hw, h => by
    refine ⟨fun h0 => h.1 h0 w hw, fun j hj => ?_⟩
    obtain ⟨_, o, ho, _⟩ := mem_ready.1 hj
    obtain ⟨h1, h2⟩ := h.2 j hj o ho
    cases he : eff.contains j with
    | true => exact wpOp_mono (fun a' w' ⟨J', T', hs, _, hA⟩ => AnyK.wp k _ a' J' T' w' hs hA) (h1 he w hw)
    | false =>
      obtain ⟨v, hy, hA⟩ := h2 he
      exact wpOp_of_YK ho hw hy fun w' hw' => AnyK.wp k _ _ J T w' hw' hA

/-- a put of a slot that an operation neither reads nor writes -/
theorem wpOp_put_any {j : Nat} {oi oj : Oper} {v : Value} (hj : ops[j]? = some oj) (hap : oi.apart ops oj = true) (hsj : ∀ cs b, oj.op ≠ .select cs b)
    (hQ : ∀ c a w, Q (.panic c) (a.put oi.dst v) w → Q (.panic c) a w) {K : Act → World → Prop} {a : Act} {w : World} (R : Act → Prop) (hR : R a) (keep : ∀ a u, R a → R (a.put oj.dst u))
    (keepD : ∀ a d, R a → R { a with defers := d :: a.defers }) (h : wpOp P ops Q j K (a.put oi.dst v) w) : wpOp P ops Q j (fun a' w' => R a' ∧ K (a'.put oi.dst v) w') a w := by
  obtain ⟨h1, h2, h3⟩ := Oper.apart_spec hap
  unfold wpOp at *
  simp only [hj] at *
  rw [wanted_put oj a oi.dst v h1] at h
  split
  · rename_i hw
    simp only [hw, if_true] at h
    rcases h with h | ⟨hasks, hlets⟩
    case inr => exact .inr ⟨by unfold Oper.asks at *; rw [execOp_put oj hsj a oi.dst v h1] at hasks; exact hasks, hlets⟩
    refine .inl ?_
    unfold Oper.wp at *
    rw [execOp_put oj hsj a oi.dst v h1] at h
    generalize (execOp a.eval oj).run P w = r at *
    cases r with
    | ok nx w' =>
      cases nx <;> simp only [Oper.upon] at h ⊢
      case value u => exact ⟨keep a u hR, by rw [← Act.put_comm a v u h2]; exact h⟩
      case skip => exact ⟨keep a _ hR, by rw [← Act.put_comm a v undef h2]; exact h⟩
      case defer d =>
        refine ⟨keep _ _ (keepD _ d hR), ?_⟩
        rw [← Act.put_comm _ v undef h2, ← Act.put_defers]
        exact h
      case enter f args =>
        refine Calls.mono h fun e w'' he => ?_
        cases e with
        | returned u => exact ⟨keep a u hR, by rw [← Act.put_comm a v u h2]; exact he⟩
        | panicked c => exact hQ _ _ _ he
        | outgrown => exact he
      case row row args => exact Rows.mono h fun u w'' he => ⟨keep a u hR, by rw [← Act.put_comm a v u h2]; exact he⟩
    | halt x w' =>
      cases x <;> simp only [Oper.upon] at h ⊢
      case panic u => exact hQ _ _ _ h
  · rename_i hw
    simp only [hw] at h
    exact ⟨keep a _ hR, by rw [← Act.put_comm a v undef h2]; exact h⟩

def Closed (ops : Array Oper) (listed : Array Bool) : Prop := ∀ j o, ops[j]? = some o → listed.getD j false = true → ∀ e ∈ o.after, Region.binds .any e = true → listed.getD e.on false = true
theorem Closed.set {listed : Array Bool} (h : Closed ops listed) {i : Nat} (hi : i ∈ Region.ready .any ops listed) : Closed ops (listed.setIfInBounds i true) := by
  intro j o ho hl e he hb
  obtain ⟨_, oi, hoi, hall⟩ := mem_ready.1 hi
  by_cases hij : i = j
  · subst hij
    rw [ho] at hoi; injection hoi with hoi; subst hoi
    exact getD_set_true (hall e he hb)
  · rw [getD_set_ne false hij] at hl
    exact getD_set_true (h j o ho hl e he hb)
theorem anc_listed {listed : Array Bool} (h : Closed ops listed) {i : Nat} : ∀ (f j : Nat) (o : Oper), ops[j]? = some o → (∀ e ∈ o.after, Region.binds .any e = true → listed.getD e.on false = true) → ancB ops f j i = true → listed.getD i false = true
  | 0, _, _, _, _, hn => by simp [ancB] at hn
  | f + 1, j, o, ho, hall, hn => by
    simp only [ancB, ho, List.any_eq_true, Bool.and_eq_true, Bool.or_eq_true] at hn
    obtain ⟨e, he, hb, hn⟩ := hn
    have hl := hall e (by simpa using he) hb
    rcases hn with hn | hn
    · have := Nat.eq_of_beq_eq_true hn; rw [← this]; exact hl
    · cases ho' : ops[e.on]? with
      | none => cases f <;> simp [ancB, ho'] at hn
      | some o' => exact anc_listed h f e.on o' ho' (fun e' he' hb' => h e.on o' ho' hl e' he' hb') hn

theorem AnyK.take {i : Nat} {oi : Oper} {v : Value} (hi : ops[i]? = some oi) (hsel : ∀ (j : Nat) (o : Oper) cs b, ops[j]? = some o → o.op ≠ .select cs b) (hne : eff.contains i = false)
    (hQ : ∀ c a w, Q (.panic c) (a.put oi.dst v) w → Q (.panic c) a w) :
    ∀ (k : Nat) (listed : Array Bool) (a : Act) (J : IMem) (T : SH), Closed ops listed →
      (∀ j oj, ops[j]? = some oj → j ≠ i → listed.getD j true = false → (∀ e ∈ oj.after, Region.binds .any e = true → e.on ≠ i) → oi.apart ops oj = true) →
      i ∈ Region.ready .any ops listed → QC P ops I0 S0 oi v a → (classB P oi = true → Keep I0 S0 J T) →
      AnyK P ops eff I0 S0 Q k (listed.setIfInBounds i true) (a.put oi.dst v) J T → AnyK P ops eff I0 S0 Q (k + 1) listed a J T := by
  intro k
  have yk : ∀ {a J T}, QC P ops I0 S0 oi v a → (classB P oi = true → Keep I0 S0 J T) → YK P ops oi v a J T := fun hq hk => by
    rcases hq with ⟨h1, h2⟩ | h
    · exact .inl ⟨h1, h2 _ _ hk⟩
    · exact .inr h
  induction k with
  | zero =>
    intro listed a J T hcl hfree hr hq hk H
    refine ⟨fun h => (by rw [h] at hr; cases hr), fun j hj o ho => ?_⟩
    by_cases hji : j = i
    · subst hji
      rw [hi] at ho; injection ho with ho; subst ho
      exact ⟨fun h => (by rw [hne] at h; cases h), fun _ => ⟨v, yk hq hk, H⟩⟩
    · have := ready_mono hj hji
      rw [H.1] at this
      cases this
  | succ k ih =>
    intro listed a J T hcl hfree hr hq hk H
    refine ⟨fun h => (by rw [h] at hr; cases hr), fun j hj oj hoj => ?_⟩
    by_cases hji : j = i
    · subst hji
      rw [hi] at hoj; injection hoj with hoj; subst hoj
      exact ⟨fun h => (by rw [hne] at h; cases h), fun _ => ⟨v, yk hq hk, H⟩⟩
    · obtain ⟨hjun, oj', hoj', hall⟩ := mem_ready.1 hj
      rw [hoj] at hoj'; injection hoj' with hoj'; subst hoj'
      have h0 := (mem_ready.1 hr).1
      have hiun : listed.getD i false = false := by
        rcases Nat.lt_or_ge i listed.size with h' | h'
        · simp [h'] at h0 ⊢; exact h0
        · simp [Array.getElem?_eq_none h']
      have hnot : ∀ e ∈ oj.after, Region.binds .any e = true → e.on ≠ i := fun e he hb heq => by
        have h1 := hall e he hb
        rw [heq, hiun] at h1; cases h1
      have hap := hfree j oj hoj hji hjun hnot
      obtain ⟨p1, p2, p3⟩ := Oper.apart_spec hap
      have hcl' := hcl.set hj
      have hr' := ready_mono hr (Ne.symm hji)
      have hfree' : ∀ k ok, ops[k]? = some ok → k ≠ i → (listed.setIfInBounds j true).getD k true = false →
          (∀ e ∈ ok.after, Region.binds .any e = true → e.on ≠ i) → oi.apart ops ok = true := fun k ok hk hki hun hno => by
        refine hfree k ok hk hki ?_ hno
        by_cases hjk : j = k
        · subst hjk; exact hjun
        · rw [getD_set_ne true hjk] at hun; exact hun
      have qkeep : ∀ a u, QC P ops I0 S0 oi v a → QC P ops I0 S0 oi v (a.put oj.dst u) := fun a u hq => by
        unfold QC Oper.quietAt at *
        rw [execOp_put oi (fun cs b => hsel i oi cs b hi) a oj.dst u p3, wanted_put oi a oj.dst u p3]
        exact hq
      have H2 := H.2 j (ready_mono hj hji) oj hoj
      refine ⟨fun he w hw => ?_, fun he => ?_⟩
      · have h1 := wpOp_put_any hoj hap (fun cs b => hsel j oj cs b hoj) hQ (QC P ops I0 S0 oi v) hq qkeep (fun a d hq => hq) (H2.1 he w hw)
        refine wpOp_mono ?_ h1
        rintro a' w' ⟨hq', J', T', hs, hlate, hA⟩
        refine ⟨J', T', hs, hlate, ih _ a' J' T' hcl' hfree' hr' hq' (fun hc => ?_) (by rw [Array.setIfInBounds_comm _ _ hji]; exact hA)⟩
        rcases hlate with hl | hl
        · exfalso
          have hl' := List.all_eq_true.1 hl i (List.mem_range.2 (Array.getElem?_eq_some_iff.1 hi).1)
          simp only [hi, hc, hne, Bool.not_true, Bool.false_or] at hl'
          have := anc_listed hcl _ j oj hoj hall hl'
          rw [hiun] at this; cases this
        · exact hl
      · obtain ⟨u, hy, hA⟩ := H2.2 he
        refine ⟨u, ?_, ih _ _ J T hcl' hfree' hr' (qkeep a u hq) hk ?_⟩
        · unfold YK Oper.quietAt at *
          rw [execOp_put oj (fun cs b => hsel j oj cs b hoj) a oi.dst v p1, wanted_put oj a oi.dst v p1] at hy
          exact hy
        · rw [Array.setIfInBounds_comm _ _ hji, ← Act.put_comm a v u p2]
          exact hA

theorem getD_replicate_false' (m j : Nat) : (Array.replicate m false).getD j false = false := by
  rcases Nat.lt_or_ge j m with h | h
  · simp [h]
  · simp [h]
/-! ### a plan for such a region -/
inductive Mv where
  | done
  | take (i : Nat) (m : Mv)
  | step (j : Nat) (m : Mv)
  | fork (j : Nat) (m : Mv) (j' : Nat) (m' : Mv)
  | fork3 (j : Nat) (m : Mv) (j' : Nat) (m' : Mv) (k : Nat) (n : Mv)
def Mv.len : Mv → Nat
  | .done => 0
  | .take _ m => m.len + 1
  | .step _ m => m.len + 1
  | .fork _ m _ _ => m.len + 1
  | .fork3 _ m _ _ _ _ => m.len + 1
def mvOK (P : Program) (ops : Array Oper) (eff : List Nat) : Mv → Bool → Array Bool → Bool
  | .done, _, listed => (Region.ready .any ops listed).isEmpty
  | .take i m, op, listed => !eff.contains i && (Region.ready .any ops listed).contains i && Region.free .any ops listed i && (match ops[i]? with | some o => !classB P o || op | none => false) &&
    mvOK P ops eff m op (listed.setIfInBounds i true)
  | .step j m, op, listed => eff.contains j && (Region.ready .any ops listed == [j]) && mvOK P ops eff m (op && !lateB P ops eff j) (listed.setIfInBounds j true)
  | .fork j m j' m', op, listed => eff.contains j && eff.contains j' && (Region.ready .any ops listed == [j, j']) && Nat.beq m.len m'.len &&
    mvOK P ops eff m (op && !lateB P ops eff j) (listed.setIfInBounds j true) && mvOK P ops eff m' (op && !lateB P ops eff j') (listed.setIfInBounds j' true)
  | .fork3 j m j' m' k n, op, listed => eff.contains j && eff.contains j' && eff.contains k && (Region.ready .any ops listed == [j, j', k]) && Nat.beq m.len m'.len && Nat.beq m.len n.len &&
    mvOK P ops eff m (op && !lateB P ops eff j) (listed.setIfInBounds j true) && mvOK P ops eff m' (op && !lateB P ops eff j') (listed.setIfInBounds j' true) && mvOK P ops eff n (op && !lateB P ops eff k) (listed.setIfInBounds k true)
def QOpC (P : Program) (n : Nat) (o : Oper) (K : Fr → Prop) (l : Fr) (I : IMem) (S : SH) : Prop := match o.op with
  | .load t x => (match ev l x with | .pointer (some a) => LdX P x t I S a fun v => putP n o.dst v (fun l _ _ => K l) l I S | _ => False)
  | .call c => (match c.callee with
    | .value f => (match ev l f with
      | .func (.func fid) fs cs => (match callable P fid with
        | true => exV P o.type fun v => (∀ J T, I.le J → Runs P fid (fs.toList ++ c.args.toList.map (ev l) ++ cs.toList).toArray J (T ++ S) (fun v' _ T' => v' = v ∧ T' = T ++ S)) ∧ putP n o.dst v (fun l _ _ => K l) l I S
        | false => False)
      | _ => False)
    | _ => (match stillB P o.op with | true => PreOp P n o (fun l _ _ => K l) l I S | false => False))
  | _ => (match stillB P o.op with | true => PreOp P n o (fun l _ _ => K l) l I S | false => False)
def keepK (P : Program) (ops : Array Oper) (eff : List Nat) (I0 : IMem) (S0 : SH) (j : Nat) (K : Fr → IMem → SH → Prop) (l : Fr) (J' : IMem) (T' : SH) : Prop := match lateB P ops eff j with | true => K l J' T' | false => Keep I0 S0 J' T' ∧ K l J' T'
def stepP (P : Program) (n : Nat) (ops : Array Oper) (eff : List Nat) (I0 : IMem) (S0 : SH) (j : Nat) (K : Fr → IMem → SH → Prop) (l : Fr) (J : IMem) (T : SH) : Prop := match ops[j]? with
  | some o => (match o.guard with
    | none => PreOp P n o (keepK P ops eff I0 S0 j K) l J T
    | some (g, b) => match (ops[g]?).bind (·.dst) with
      | some d => (match l d with
        | .bool t => bcase t
            (match b with | true => PreOp P n o (keepK P ops eff I0 S0 j K) (upd l d (.bool true)) J T | false => putP n o.dst undef (keepK P ops eff I0 S0 j K) (upd l d (.bool true)) J T)
            (match b with | true => putP n o.dst undef (keepK P ops eff I0 S0 j K) (upd l d (.bool false)) J T | false => PreOp P n o (keepK P ops eff I0 S0 j K) (upd l d (.bool false)) J T)
        | .tuple _ => putP n o.dst undef (keepK P ops eff I0 S0 j K) l J T
        | _ => False)
      | none => False)
  | none => False
def DrP (P : Program) (n : Nat) (ops : Array Oper) (eff : List Nat) (I0 : IMem) (S0 : SH) (K : Fr → IMem → SH → Prop) : Mv → Fr → IMem → SH → Prop
  | .done, l, J, T => K l J T
  | .take i m, l, J, T => match ops[i]? with
    | some o => (match o.guard with
      | none => QOpC P n o (fun l => DrP P n ops eff I0 S0 K m l J T) l I0 S0
      | some (j, b) => match (ops[j]?).bind (·.dst) with
        | some d => (match l d with
          | .bool t => bcase t
              (match b with | true => QOpC P n o (fun l => DrP P n ops eff I0 S0 K m l J T) (upd l d (.bool true)) I0 S0 | false => putP n o.dst undef (fun l _ _ => DrP P n ops eff I0 S0 K m l J T) (upd l d (.bool true)) I0 S0)
              (match b with | true => putP n o.dst undef (fun l _ _ => DrP P n ops eff I0 S0 K m l J T) (upd l d (.bool false)) I0 S0 | false => QOpC P n o (fun l => DrP P n ops eff I0 S0 K m l J T) (upd l d (.bool false)) I0 S0)
          | .tuple _ => putP n o.dst undef (fun l _ _ => DrP P n ops eff I0 S0 K m l J T) l I0 S0
          | _ => False)
        | none => False)
    | none => False
  | .step j m, l, J, T => stepP P n ops eff I0 S0 j (DrP P n ops eff I0 S0 K m) l J T
  | .fork j m j' m', l, J, T => stepP P n ops eff I0 S0 j (DrP P n ops eff I0 S0 K m) l J T ∧ stepP P n ops eff I0 S0 j' (DrP P n ops eff I0 S0 K m') l J T
  | .fork3 j m j' m' k q, l, J, T => stepP P n ops eff I0 S0 j (DrP P n ops eff I0 S0 K m) l J T ∧ stepP P n ops eff I0 S0 j' (DrP P n ops eff I0 S0 K m') l J T ∧ stepP P n ops eff I0 S0 k (DrP P n ops eff I0 S0 K q) l J T

theorem Cell.mono {I J : IMem} {S T : SH} {a : Addr} {v : Value} (h : Cell I S a v) (hk : Keep I S J T) : Cell J T a v := by
  obtain ⟨hs, cs, e, fz, hb, hv⟩ := h
  refine ⟨hs, cs, e, fz, ?_, hv⟩
  rcases hb with hb | hb
  · exact .inl (hk.1.at_ _ _ hb)
  · obtain ⟨T', hp⟩ := hk.2
    exact .inr (hp.mem_iff.2 (List.mem_append_right _ hb))

theorem Sat.of_keep {I J : IMem} {S T : SH} {w : World} (hw : Sat J T w) (hk : Keep I S J T) : Sat I S w := by
  obtain ⟨T', hp⟩ := hk.2
  exact (hw.perm hp).drop.weaken hk.1

theorem QOpC.qc {o : Oper} {K : Fr → Prop} {l : Fr} {a : Act} (hwn : Region.wanted o (yielded ops a.tmps) = true) (h : QOpC P n o K l I0 S0) (ha : FrOK n l a) : ∃ v, QC P ops I0 S0 o v a ∧ ∃ l', FrOK n l' (a.put o.dst v) ∧ K l' := by
  have small : (match stillB P o.op with | true => PreOp P n o (fun l _ _ => K l) l I0 S0 | false => False) → ∃ v, QC P ops I0 S0 o v a ∧ ∃ l', FrOK n l' (a.put o.dst v) ∧ K l' := fun h => by
    split at h
    · rename_i hq
      cases hrd : rdB P o.op with
      | true =>
        obtain ⟨v, hr, hK⟩ := val_rd hrd h
        have hc : classB P o = true := by
          unfold classB
          split <;> first | rfl | exact hrd
        refine ⟨v, .inl ⟨hwn, fun J T hk w hw => ?_⟩, hK.act ha⟩
        simp only [Oper.quietAt, ha.eval, hr w (hw.of_keep (hk hc)), Oper.quietUpon, and_self]
      | false =>
        obtain ⟨v, hr, hK⟩ := h.val (by simpa [stillB, hrd] using hq)
        exact ⟨v, .inl ⟨hwn, fun J T _ w _ => by simp only [Oper.quietAt, ha.eval, hr w, Oper.quietUpon, and_self]⟩, hK.act ha⟩
    · exact h.elim
  unfold QOpC at h
  split at h
  · rename_i t x ho
    split at h
    · rename_i ad hx
      obtain ⟨v, hr, hp⟩ := LdX.run h
      have hc : classB P o = true := by simp [classB, ho]
      refine ⟨v, .inl ⟨hwn, fun J T hk w hw => ?_⟩, hp.act ha⟩
      simp [Oper.quietAt, ha.eval, execOp, ho, hx, hr w (hw.of_keep (hk hc)), Oper.quietUpon]
    · exact h.elim
  · rename_i c ho
    split at h
    · rename_i f hf
      split at h
      · rename_i fid fs cs hfv
        split at h
        · rename_i hc
          obtain ⟨v, hfn, hp⟩ := exV_elim h
          have hcl : classB P o = true := by
            obtain ⟨cal, ar, at'⟩ := c
            dsimp only at hf; subst hf
            simp [classB, ho]
          refine ⟨v, .inl ⟨hwn, fun J T hk w hw => ?_⟩, hp.act ha⟩
          unfold callable at hc
          split at hc
          · rename_i fn hfn'
            simp only [Bool.and_eq_true, Bool.not_eq_true'] at hc
            have hb : fn.body.isNone = false := by cases hbd : fn.body <;> simp [hbd] at hc ⊢
            have hr : (execOp a.eval o).run P w = .ok (.enter fid (fs.toList ++ c.args.toList.map (ev l) ++ cs.toList).toArray) w := by
              have hca : fs ++ (c.args.toList.map (ev l)).toArray ++ cs = (fs.toList ++ c.args.toList.map (ev l) ++ cs.toList).toArray := by
                apply Array.ext'; simp
              have hargs : c.args.map (ev l) = (c.args.toList.map (ev l)).toArray := by rw [← Array.toList_map]
              rw [ha.eval]
              simp only [execOp, ho, resolve, hf, hfv, Deferred.ofValue, Sem.run_bind, Sem.run_pure, Result.andThen_ok, invoke, hargs, hca]
              simp only [callFunc, program, Sem.run, Sem.run_bind, Result.andThen_ok, hfn', hc.1, hb, Bool.false_eq_true, if_false, Sem.run_pure]
            obtain ⟨hle, T', hpm⟩ := hk hcl
            simp only [Oper.quietAt, hr, Oper.quietUpon, true_and]
            refine (hfn J T' hle w (hw.perm hpm)).mono ?_
            rintro e w' ⟨v', J', T'', rfl, hle', hs, rfl, rfl⟩
            exact ⟨rfl, (hs.weaken hle').perm hpm.symm⟩
          · cases hc
        · exact h.elim
      · exact h.elim
    · exact small h
  · exact small h

theorem DrP.sound (hs : Region.noSelect ops = true) {K : Fr → IMem → SH → Prop} (hQ : ∀ l J T a w, FrOK n l a → I0.le J → Sat J T w → K l J T → Q .normal a w) (hQp : ∀ c a w, ¬ Q (.panic c) a w) :
    ∀ (m : Mv) (op : Bool) (listed : Array Bool) (l : Fr) (a : Act) (J : IMem) (T : SH), mvOK P ops eff m op listed = true → (op = true → Keep I0 S0 J T) → I0.le J → Closed ops listed → FrOK n l a →
      DrP P n ops eff I0 S0 K m l J T → AnyK P ops eff I0 S0 Q m.len listed a J T := by
  have step : ∀ (m : Mv) (j : Nat) (k : Nat) (op : Bool) (listed : Array Bool) (l : Fr) (a : Act) (J : IMem) (T : SH), k = m.len → eff.contains j = true → j ∈ Region.ready .any ops listed → I0.le J → Closed ops listed → FrOK n l a →
      (∀ l a J' T', (op && !lateB P ops eff j = true → Keep I0 S0 J' T') → I0.le J' → FrOK n l a → DrP P n ops eff I0 S0 K m l J' T' → AnyK P ops eff I0 S0 Q m.len (listed.setIfInBounds j true) a J' T') →
      stepP P n ops eff I0 S0 j (DrP P n ops eff I0 S0 K m) l J T → ∀ o, ops[j]? = some o →
      (eff.contains j = true → ∀ w, Sat J T w → wpOp P ops Q j (fun a' w' => ∃ J' T', Sat J' T' w' ∧ (lateB P ops eff j = true ∨ Keep I0 S0 J' T') ∧ AnyK P ops eff I0 S0 Q k (listed.setIfInBounds j true) a' J' T') a w) ∧
      (eff.contains j = false → ∃ v, YK P ops o v a J T ∧ AnyK P ops eff I0 S0 Q k (listed.setIfInBounds j true) (a.put o.dst v) J T) := by
    intro m j k op listed l a J T hk he hr hle hcl ha ih h o ho
    subst hk
    refine ⟨fun _ w hw => ?_, fun hf => by rw [he] at hf; cases hf⟩
    unfold stepP at h
    simp only [ho] at h
    have fin : ∀ a' w', NX n J (keepK P ops eff I0 S0 j (DrP P n ops eff I0 S0 K m)) a' w' → ∃ J' T', Sat J' T' w' ∧ (lateB P ops eff j = true ∨ Keep I0 S0 J' T') ∧ AnyK P ops eff I0 S0 Q m.len (listed.setIfInBounds j true) a' J' T' := by
      rintro a' w' ⟨l', J', T', h1, h2, h3, h4⟩
      unfold keepK at h4
      cases hl : lateB P ops eff j with
      | true =>
        rw [hl] at h4
        exact ⟨J', T', h3, .inl rfl, ih l' a' J' T' (fun hh => by simp [hl] at hh) (hle.trans h2) h1 h4⟩
      | false =>
        rw [hl] at h4
        exact ⟨J', T', h3, .inr h4.1, ih l' a' J' T' (fun _ => h4.1) (hle.trans h2) h1 h4.2⟩
    unfold wpOp
    simp only [ho]
    rcases guard_split (o := o) (ops := ops) (K1 := fun l => PreOp P n o (keepK P ops eff I0 S0 j (DrP P n ops eff I0 S0 K m)) l J T) (K2 := fun l => putP n o.dst undef (keepK P ops eff I0 S0 j (DrP P n ops eff I0 S0 K m)) l J T) ha h with ⟨hwn, h⟩ | ⟨hwn, h⟩
    · rw [if_pos hwn]
      exact .inl (Oper.wp_mono fin (PreOp.sound (Q := Q) h hw ha))
    · rw [if_neg (by rw [hwn]; simp)]
      exact fin _ _ (h.nx ha (IMem.le.refl J) hw)
  intro m
  induction m with
  | done =>
    intro op listed l a J T hok hk hle hcl ha h
    exact ⟨List.isEmpty_iff.1 hok, fun w hw => hQ l J T a w ha hle hw h⟩
  | take i m ih =>
    intro op listed l a J T hok hk hle hcl ha h
    simp only [mvOK, Bool.and_eq_true, Bool.not_eq_true', Mv.len] at hok ⊢
    obtain ⟨⟨⟨⟨he, hr⟩, hf⟩, hc⟩, hm⟩ := hok
    have hr' : i ∈ Region.ready .any ops listed := by simpa using hr
    cases ho : ops[i]? with
    | none => rw [ho] at hc; cases hc
    | some o =>
      rw [ho] at hc
      simp only [DrP, ho] at h
      have hcls : classB P o = true → Keep I0 S0 J T := fun hb => hk (by simpa [hb] using hc)
      have fin : ∀ v, QC P ops I0 S0 o v a → (∃ l', FrOK n l' (a.put o.dst v) ∧ DrP P n ops eff I0 S0 K m l' J T) → AnyK P ops eff I0 S0 Q (m.len + 1) listed a J T := fun v hqc ⟨l', hl', hd⟩ =>
        AnyK.take ho (Region.noSelect_spec hs) he (fun c a w hp => absurd hp (hQp c _ w)) m.len listed a J T hcl (Region.free_spec ho hf) hr' hqc hcls (ih op _ l' _ J T hm hk hle (hcl.set hr') hl' hd)
      rcases guard_split (o := o) (ops := ops) (K1 := fun l => QOpC P n o (fun l => DrP P n ops eff I0 S0 K m l J T) l I0 S0) (K2 := fun l => putP n o.dst undef (fun l _ _ => DrP P n ops eff I0 S0 K m l J T) l I0 S0) ha h with ⟨hwn, h⟩ | ⟨hwn, h⟩
      · obtain ⟨v, hqc, hd⟩ := h.qc hwn ha
        exact fin v hqc hd
      · exact fin undef (.inr ⟨hwn, rfl⟩) (h.act ha)
  | step j m ih =>
    intro op listed l a J T hok hk hle hcl ha h
    simp only [mvOK, Bool.and_eq_true, Mv.len, beq_iff_eq] at hok ⊢
    obtain ⟨⟨he, hr⟩, hm⟩ := hok
    have hr' : j ∈ Region.ready .any ops listed := by rw [hr]; simp
    refine ⟨fun h0 => (by rw [hr] at h0; cases h0), fun j' hj' o ho => ?_⟩
    rw [hr] at hj'
    simp at hj'; subst hj'
    exact step m j' m.len op listed l a J T rfl he hr' hle hcl ha (fun l a J' T' hk' hle' ha' hd => ih _ _ l a J' T' hm (by simpa using hk') hle' (hcl.set hr') ha' hd) h o ho
  | fork j m j' m' ih ih' =>
    intro op listed l a J T hok hk hle hcl ha h
    simp only [mvOK, Bool.and_eq_true, Mv.len, beq_iff_eq] at hok ⊢
    obtain ⟨⟨⟨⟨⟨he, he'⟩, hr⟩, hlen⟩, hm⟩, hm'⟩ := hok
    have hlen := Nat.eq_of_beq_eq_true hlen
    have hr1 : j ∈ Region.ready .any ops listed := by rw [hr]; simp
    have hr2 : j' ∈ Region.ready .any ops listed := by rw [hr]; simp
    refine ⟨fun h0 => (by rw [hr] at h0; cases h0), fun i hi o ho => ?_⟩
    rw [hr] at hi
    simp at hi
    rcases hi with rfl | rfl
    · exact step m i m.len op listed l a J T rfl he hr1 hle hcl ha (fun l a J' T' hk' hle' ha' hd => ih _ _ l a J' T' hm (by simpa using hk') hle' (hcl.set hr1) ha' hd) h.1 o ho
    · exact step m' i m.len op listed l a J T hlen he' hr2 hle hcl ha (fun l a J' T' hk' hle' ha' hd => ih' _ _ l a J' T' hm' (by simpa using hk') hle' (hcl.set hr2) ha' hd) h.2 o ho
  | fork3 j m j' m' k q ih ih' ih2 =>
    intro op listed l a J T hok hk hle hcl ha h
    simp only [mvOK, Bool.and_eq_true, Mv.len, beq_iff_eq] at hok ⊢
    obtain ⟨⟨⟨⟨⟨⟨⟨⟨he, he'⟩, he2⟩, hr⟩, hlen⟩, hlen2⟩, hm⟩, hm'⟩, hm2⟩ := hok
    have hlen := Nat.eq_of_beq_eq_true hlen
    have hlen2 := Nat.eq_of_beq_eq_true hlen2
    have hr1 : j ∈ Region.ready .any ops listed := by rw [hr]; simp
    have hr2 : j' ∈ Region.ready .any ops listed := by rw [hr]; simp
    have hr3 : k ∈ Region.ready .any ops listed := by rw [hr]; simp
    refine ⟨fun h0 => (by rw [hr] at h0; cases h0), fun i hi o ho => ?_⟩
    rw [hr] at hi
    simp at hi
    rcases hi with rfl | rfl | rfl
    · exact step m i m.len op listed l a J T rfl he hr1 hle hcl ha (fun l a J' T' hk' hle' ha' hd => ih _ _ l a J' T' hm (by simpa using hk') hle' (hcl.set hr1) ha' hd) h.1 o ho
    · exact step m' i m.len op listed l a J T hlen he' hr2 hle hcl ha (fun l a J' T' hk' hle' ha' hd => ih' _ _ l a J' T' hm' (by simpa using hk') hle' (hcl.set hr2) ha' hd) h.2.1 o ho
    · exact step q i m.len op listed l a J T hlen2 he2 hr3 hle hcl ha (fun l a J' T' hk' hle' ha' hd => ih2 _ _ l a J' T' hm2 (by simpa using hk') hle' (hcl.set hr3) ha' hd) h.2.2 o ho

theorem WP.draw' {Q : Exit → Fr → IMem → SH → Prop} {l : Fr} {I : IMem} {S : SH} {c : Code} (m : Mv) (eff : List Nat) (hc : c = .region (regId c) (regOps c) true) (hm : P.follows .mixedOrders = true) (hs : Region.noSelect (regOps c) = true)
    (hl : Nat.beq m.len (regOps c).size = true) (hok : mvOK P (regOps c) eff m true (Array.replicate (regOps c).size false) = true) (h : DrP P n (regOps c) eff I S (Q .normal) m l I S) : WP P n c Q l I S := by
  rw [hc]
  intro w a hw ha
  refine wp_mono (Q := fun e a' w' => e = .normal ∧ ∃ l' J T, FrOK n l' a' ∧ I.le J ∧ Sat J T w' ∧ Q e l' J T) (wp_region_any hm (AnyK.wp (eff := eff) (I0 := I) (S0 := S) _ _ a I S _ hw.drew ?_)) (fun e a w h => h.2)
  have := DrP.sound (P := P) (ops := regOps c) (eff := eff) (I0 := I) (S0 := S) (Q := fun e a' w' => e = .normal ∧ ∃ l' J T, FrOK n l' a' ∧ I.le J ∧ Sat J T w' ∧ Q e l' J T) hs (K := Q .normal)
    (fun l J T a w h1 h2 h3 h4 => ⟨rfl, l, J, T, h1, h2, h3, h4⟩) (fun c a w h => by cases h.1) m true _ l a I S hok (fun _ => Keep.refl I S) (IMem.le.refl I) ?_ ha h
  · rw [Nat.eq_of_beq_eq_true hl] at this
    exact this
  · intro j o _ hlj
    rw [getD_replicate_false'] at hlj
    cases hlj
/-- the same, where a part of the heap is kept -/
theorem WP.drawF {Q : Exit → Fr → IMem → SH → Prop} {l : Fr} {I : IMem} {S : SH} {c : Code} (m : Mv) (eff : List Nat) (hc : c = .region (regId c) (regOps c) true) (hm : P.follows .mixedOrders = true) (hs : Region.noSelect (regOps c) = true)
    (hl : Nat.beq m.len (regOps c).size = true) (hok : mvOK P (regOps c) eff m true (Array.replicate (regOps c).size false) = true) (h : ∃ F : SH, Keep I F I S ∧ DrP P n (regOps c) eff I F (Q .normal) m l I S) : WP P n c Q l I S := by
  obtain ⟨F, hF, h⟩ := h
  rw [hc]
  intro w a hw ha
  refine wp_mono (Q := fun e a' w' => e = .normal ∧ ∃ l' J T, FrOK n l' a' ∧ I.le J ∧ Sat J T w' ∧ Q e l' J T) (wp_region_any hm (AnyK.wp (eff := eff) (I0 := I) (S0 := F) _ _ a I S _ hw.drew ?_)) (fun e a w h => h.2)
  have := DrP.sound (P := P) (ops := regOps c) (eff := eff) (I0 := I) (S0 := F) (Q := fun e a' w' => e = .normal ∧ ∃ l' J T, FrOK n l' a' ∧ I.le J ∧ Sat J T w' ∧ Q e l' J T) hs (K := Q .normal)
    (fun l J T a w h1 h2 h3 h4 => ⟨rfl, l, J, T, h1, h2, h3, h4⟩) (fun c a w h => by cases h.1) m true _ l a I S hok (fun _ => hF) (IMem.le.refl I) ?_ ha h
  · rw [Nat.eq_of_beq_eq_true hl] at this
    exact this
  · intro j o _ hlj
    rw [getD_replicate_false'] at hlj
    cases hlj
end
end Go.Px
/- Words for proofs over printed functions: what is owned among more, rows of structs, numbers in range. -/
namespace Go.Px
set_option linter.unusedVariables false

def Sub (L T : SH) : Prop := ∃ G, T.Perm (L ++ G)
theorem Sub.refl (L : SH) : Sub L L := ⟨[], by simp⟩
theorem Sub.cons {L T : SH} (h : Sub L T) (p : Nat × Obj) : Sub (p :: L) (p :: T) := let ⟨G, hp⟩ := h; ⟨G, hp.cons p⟩
theorem Sub.skip {L T : SH} (h : Sub L T) (p : Nat × Obj) : Sub L (p :: T) := let ⟨G, hp⟩ := h; ⟨p :: G, (hp.cons p).trans List.perm_middle.symm⟩
theorem Sub.perm {L L' T : SH} (h : Sub L T) (hp : L.Perm L') : Sub L' T := let ⟨G, hg⟩ := h; ⟨G, hg.trans (hp.append_right G)⟩
theorem Sub.trans {L M T : SH} (h : Sub L M) (g : Sub M T) : Sub L T := by
  obtain ⟨G, hp⟩ := h
  obtain ⟨G', hp'⟩ := g
  exact ⟨G ++ G', by rw [← List.append_assoc]; exact hp'.trans (hp.append_right G')⟩
theorem Sub.drop {p : Nat × Obj} {L T : SH} (h : Sub (p :: L) T) : Sub L T := let ⟨G, hp⟩ := h; ⟨p :: G, hp.trans List.perm_middle.symm⟩
theorem Sub.left {L M T : SH} (h : Sub (L ++ M) T) : Sub L T := let ⟨G, hp⟩ := h; ⟨M ++ G, by rw [← List.append_assoc]; exact hp⟩
theorem Sub.right {L M T : SH} (h : Sub (L ++ M) T) : Sub M T := Sub.left (h.perm List.perm_append_comm)
theorem Sub.keep {I J : IMem} {L T : SH} (hle : I.le J) (h : Sub L T) : Keep I L J T := let ⟨G, hp⟩ := h; ⟨hle, G, hp.trans List.perm_append_comm⟩
theorem Keep.sub {I J : IMem} {L T : SH} (h : Keep I L J T) : Sub L T := let ⟨_, G, hp⟩ := h; ⟨G, hp.trans List.perm_append_comm⟩
theorem Sub.sat {I : IMem} {L T : SH} {w : World} (h : Sub L T) (hw : Sat I T w) : Sat I L w := let ⟨G, hp⟩ := h; (hw.perm (hp.trans List.perm_append_comm)).drop
theorem Sub.cell {I J : IMem} {L T : SH} {a : Addr} {v : Value} (h : Sub L T) (hle : I.le J) (hc : Cell I L a v) : Cell J T a v := hc.mono (h.keep hle)
theorem Sub.cell' {I : IMem} {L T : SH} {a : Addr} {v : Value} (h : Sub L T) (hc : Cell I L a v) : Cell I T a v := h.cell (IMem.le.refl I) hc

theorem Runs.sub {P : Program} {f : FuncId} {args : Array Value} {I : IMem} {L T : SH} {R : Value → IMem → SH → Prop} (h : Sub L T) (hr : Runs P f args I L R) : Runs P f args I T R := fun w hw => hr w (h.sat hw)
/-- a call, from what is owned among more -/
theorem Runs.use {P : Program} {f : FuncId} {args : Array Value} {I : IMem} {L T : SH} {R R' : Value → IMem → SH → Prop} (hs : Sub L T) (h : Runs P f args I L R) (hr : ∀ v J T, I.le J → R v J T → R' v J T) : Runs P f args I T R' :=
  (h.mono hr).sub hs
/-- at the end one may forget what is owned besides -/
theorem Runs.drop {P : Program} {f : FuncId} {args : Array Value} {I : IMem} {S : SH} {R : Value → IMem → SH → Prop} (h : Runs P f args I S fun v J T => ∃ L, Sub L T ∧ R v J L) : Runs P f args I S R :=
  fun w hw => (h w hw).mono fun _ _ ⟨v, J, T, he, hle, hs, L, hsub, hR⟩ => ⟨v, J, L, he, hle, hsub.sat hs, hR⟩
theorem add_mk (b o k : Nat) : (⟨b, o, none⟩ : Addr).add k = ⟨b, o + k, none⟩ := by
  unfold Addr.add; split
  · rename_i h; subst h; rfl
  · rfl
theorem add_add (a : Addr) (h : a.spot = none) (i j : Nat) : (a.add i).add j = a.add (i + j) := by
  obtain ⟨b, o, s⟩ := a
  dsimp only at h; subst h
  rw [add_mk, add_mk, add_mk, Nat.add_assoc]

theorem Cell.at0 {I : IMem} {S : SH} {b o : Nat} {cs : Array Value} {e : TypeId} {fz : Nat × Nat} {v : Value} (h : cs[o]? = some v) : Cell I ((b, .cells cs e fz) :: S) ⟨b, o, none⟩ v :=
  ⟨rfl, cs, e, fz, .inr (List.mem_cons_self ..), h⟩
theorem Cell.tl {I : IMem} {S : SH} {a : Addr} {v : Value} {p : Nat × Obj} (h : Cell I S a v) : Cell I (p :: S) a v := by
  obtain ⟨hs, cs, e, fz, hb, hv⟩ := h
  exact ⟨hs, cs, e, fz, hb.imp id (List.mem_cons_of_mem p), hv⟩
theorem Cell.app {I : IMem} {S G : SH} {a : Addr} {v : Value} (h : Cell I S a v) : Cell I (S ++ G) a v := by
  obtain ⟨hs, cs, e, fz, hb, hv⟩ := h
  exact ⟨hs, cs, e, fz, hb.imp id (List.mem_append_left G), hv⟩
theorem Cell.im {I : IMem} {S : SH} {b o : Nat} {cs : Array Value} {e : TypeId} {fz : Nat × Nat} {v : Value} (hb : I.at_ b = some (.cells cs e fz)) (h : cs[o]? = some v) : Cell I S ⟨b, o, none⟩ v :=
  ⟨rfl, cs, e, fz, .inl hb, h⟩
theorem Cell.le {I J : IMem} {S : SH} {a : Addr} {v : Value} (hle : I.le J) (h : Cell I S a v) : Cell J S a v := h.mono ⟨hle, [], List.Perm.refl _⟩

theorem StP.at0 {S : SH} {b o : Nat} {cs : Array Value} {e : TypeId} {vs : List Value} {K : SH → Prop} (hl : o + vs.length ≤ cs.size) (ho : vs.all one = true) (h : K ((b, .cells (setR cs o vs) e (0, 0)) :: S)) :
    StP ((b, .cells cs e (0, 0)) :: S) ⟨b, o, none⟩ vs K := ⟨0, cs, e, (0, 0), rfl, rfl, hl, .inl (Nat.le_refl _), ho, h⟩
theorem StP.tl {S : SH} {a : Addr} {vs : List Value} {K : SH → Prop} {p : Nat × Obj} (h : StP S a vs fun T => K (p :: T)) : StP (p :: S) a vs K :=
  let ⟨i, cs, e, fz, h1, h2, h3, h4, h5, h6⟩ := h; ⟨i + 1, cs, e, fz, h1, by simpa using h2, h3, h4, h5, by simpa using h6⟩
theorem StP.of_sub {L T : SH} {a : Addr} {vs : List Value} {K : SH → Prop} (hs : Sub L T) (h : StP L a vs fun L' => ∀ T', Sub L' T' → K T') : StP T a vs K := by
  obtain ⟨i, cs, e, fz, h1, h2, h3, h4, h5, h6⟩ := h
  obtain ⟨G, hp⟩ := hs
  have hm : (a.block, Obj.cells cs e fz) ∈ T := hp.mem_iff.2 (List.mem_append_left _ (List.mem_of_getElem? h2))
  obtain ⟨k, hk⟩ := List.getElem?_of_mem hm
  refine ⟨k, cs, e, fz, h1, hk, h3, h4, h5, h6 _ ⟨G, ?_⟩⟩
  -- both are the same list but for one entry
  have key : ∀ (A : SH) (i : Nat) (x y : Nat × Obj), A[i]? = some x → (y :: A).Perm (x :: A.set i y) := by
    intro A
    induction A with
    | nil => intro i x y h; simp at h
    | cons z A ih =>
      intro i x y h
      cases i with
      | zero => simp at h; subst h; exact List.Perm.swap ..
      | succ i =>
        simp at h
        have := ih i x y h
        exact (List.Perm.swap z y A).trans ((this.cons z).trans (List.Perm.swap x z _))
  have k1 := key T k _ (a.block, Obj.cells (setR cs a.off vs) e fz) hk
  have k2 := key L i _ (a.block, Obj.cells (setR cs a.off vs) e fz) h2
  have k3 : ((a.block, Obj.cells cs e fz) :: T.set k (a.block, Obj.cells (setR cs a.off vs) e fz)).Perm ((a.block, Obj.cells cs e fz) :: (L.set i (a.block, Obj.cells (setR cs a.off vs) e fz) ++ G)) :=
    k1.symm.trans ((hp.cons _).trans (k2.append_right G))
  exact List.Perm.cons_inv k3

/-! ### numbers in range -/
theorem wrap_i64 {x : Int} (h1 : -9223372036854775808 ≤ x) (h2 : x ≤ 9223372036854775807) : IntKind.wrap .i64 x = x := by
  simp only [IntKind.wrap, IntKind.bits, IntKind.signed]; simp; omega
theorem wrap_u8 {x : Int} (h1 : 0 ≤ x) (h2 : x ≤ 255) : IntKind.wrap .u8 x = x := by
  simp only [IntKind.wrap, IntKind.bits, IntKind.signed]; simp; omega
theorem wrap_u32 {x : Int} (h1 : 0 ≤ x) (h2 : x ≤ 4294967295) : IntKind.wrap .u32 x = x := by
  simp only [IntKind.wrap, IntKind.bits, IntKind.signed]; simp; omega
theorem wrap_u64 {x : Int} (h1 : 0 ≤ x) (h2 : x ≤ 18446744073709551615) : IntKind.wrap .u64 x = x := by
  simp only [IntKind.wrap, IntKind.bits, IntKind.signed]; simp; omega
theorem wrap_u8_eq (x : Int) : IntKind.wrap .u8 x = x % 256 := by simp [IntKind.wrap, IntKind.bits, IntKind.signed]
theorem wrap_u32_eq (x : Int) : IntKind.wrap .u32 x = x % 4294967296 := by simp [IntKind.wrap, IntKind.bits, IntKind.signed]
theorem wrap_u64_eq (x : Int) : IntKind.wrap .u64 x = x % 18446744073709551616 := by simp [IntKind.wrap, IntKind.bits, IntKind.signed]

/-! ### rows of structs -/
section
variable {α : Type} {enc : α → List Value} {sz : Nat}
def rowA (enc : α → List Value) (xs : List α) : Array Value := (xs.flatMap enc).toArray
theorem flatMap_len (he : ∀ x, (enc x).length = sz) : ∀ xs : List α, (xs.flatMap enc).length = xs.length * sz
  | [] => by simp
  | x :: xs => by simp only [List.flatMap_cons, List.length_append, he, flatMap_len he xs, List.length_cons, Nat.succ_mul]; omega
theorem rowA_size (he : ∀ x, (enc x).length = sz) (xs : List α) : (rowA enc xs).size = xs.length * sz := by simp [rowA, flatMap_len he]
theorem flatMap_get (he : ∀ x, (enc x).length = sz) : ∀ (xs : List α) (i j : Nat) (x : α), xs[i]? = some x → j < sz → (xs.flatMap enc)[i * sz + j]? = (enc x)[j]?
  | [], i, j, x, h, _ => by simp at h
  | y :: xs, 0, j, x, h, hj => by
    simp at h; subst h
    simp only [List.flatMap_cons, Nat.zero_mul, Nat.zero_add]
    rw [List.getElem?_append_left (by rw [he]; exact hj)]
  | y :: xs, i + 1, j, x, h, hj => by
    simp at h
    simp only [List.flatMap_cons]
    rw [List.getElem?_append_right (by rw [he, Nat.succ_mul]; omega), he, show (i + 1) * sz + j - sz = i * sz + j by rw [Nat.succ_mul]; omega]
    exact flatMap_get he xs i j x h hj
theorem rowA_get (he : ∀ x, (enc x).length = sz) {xs : List α} {i j : Nat} {x : α} (h : xs[i]? = some x) (hj : j < sz) : (rowA enc xs)[i * sz + j]? = (enc x)[j]? := by
  rw [rowA, List.getElem?_toArray]; exact flatMap_get he xs i j x h hj
theorem Cell.row (he : ∀ x, (enc x).length = sz) {I : IMem} {S : SH} {b : Nat} {e : TypeId} {fz : Nat × Nat} {xs : List α} {i j : Nat} {x : α} {v : Value} (hx : xs[i]? = some x) (hj : j < sz) (hv : (enc x)[j]? = some v) :
    Cell I ((b, .cells (rowA enc xs) e fz) :: S) (((⟨b, 0, none⟩ : Addr).add (i * sz)).add j) v := by
  rw [add_mk, add_mk, Nat.zero_add]
  exact Cell.at0 ((rowA_get he hx hj).trans hv)
theorem StP.row (he : ∀ x, (enc x).length = sz) (h1 : ∀ x, (enc x).all one = true) {S : SH} {b : Nat} {e : TypeId} {xs : List α} {i : Nat} {x : α} {K : SH → Prop} (hi : i < xs.length)
    (hset : setR (rowA enc xs) (i * sz) (enc x) = rowA enc (xs.set i x)) (h : K ((b, .cells (rowA enc (xs.set i x)) e (0, 0)) :: S)) :
    StP ((b, .cells (rowA enc xs) e (0, 0)) :: S) ((⟨b, 0, none⟩ : Addr).add (i * sz)) (enc x) K := by
  rw [add_mk, Nat.zero_add]
  refine StP.at0 ?_ (h1 x) ?_
  · rw [he, rowA_size he, ← Nat.succ_mul]; exact Nat.mul_le_mul_right _ hi
  · rw [hset]; exact h
theorem setR_list : ∀ (vs cs : List Value) (o : Nat), o + vs.length ≤ cs.length → setR cs.toArray o vs = (cs.take o ++ vs ++ cs.drop (o + vs.length)).toArray
  | [], cs, o, _ => by simp [setR]
  | v :: vs, cs, o, h => by
    simp only [List.length_cons] at h
    have : cs.toArray.setIfInBounds o v = (cs.set o v).toArray := by simp
    rw [setR, this, setR_list vs (cs.set o v) (o + 1) (by simp; omega)]
    congr 1
    rw [List.take_set, List.drop_set_of_lt (by omega)]
    rw [List.take_succ_eq_append_getElem (by omega : o < cs.length)]
    rw [List.set_append_right _ _ (by simp; omega)]
    have h1 : o - (List.take o cs).length = 0 := by simp; omega
    rw [h1]
    simp only [List.set_cons_zero, List.append_assoc, List.cons_append, List.nil_append, List.length_cons]
    rw [show o + 1 + vs.length = o + (vs.length + 1) by omega]
theorem rowA_set (he : ∀ x, (enc x).length = sz) : ∀ {xs : List α} {i : Nat} (y : α), i < xs.length → setR (rowA enc xs) (i * sz) (enc y) = rowA enc (xs.set i y) := by
  intro xs i y hi
  rw [rowA, setR_list _ _ _ (by rw [flatMap_len he, he, ← Nat.succ_mul]; exact Nat.mul_le_mul_right _ hi), rowA]
  congr 1
  rw [he]
  induction xs generalizing i with
  | nil => simp at hi
  | cons x xs ih =>
    cases i with
    | zero =>
      simp only [Nat.zero_mul, List.take_zero, List.nil_append, Nat.zero_add, List.set_cons_zero, List.flatMap_cons]
      rw [List.drop_append, he, List.drop_eq_nil_of_le (by rw [he]; exact Nat.le_refl _), Nat.sub_self]; simp
    | succ i =>
      have := @ih i (by simpa using hi)
      simp only [List.flatMap_cons, List.set_cons_succ]
      rw [← this, Nat.succ_mul, Nat.add_comm (i * sz) sz]
      rw [List.take_append, he, List.take_of_length_le (by rw [he]; omega), show sz + i * sz - sz = i * sz by omega]
      rw [List.drop_append, he, List.drop_eq_nil_of_le (by rw [he]; omega), show sz + i * sz + sz - sz = i * sz + sz by omega]
      simp only [List.nil_append, List.append_assoc, Nat.add_comm (i * sz) sz]
theorem rowA_rep (n : Nat) (x : α) : (repV n (enc x)).toArray = rowA enc (List.replicate n x) := by
  unfold rowA
  congr 1
  induction n with
  | zero => rfl
  | succ n ih => simp only [repV, List.replicate_succ, List.flatMap_cons, ih]
end
end Go.Px
/- From what a call does to what the model's rows ask. -/
namespace Go.Px
open Go.RowKit
def imW (W : World) : IMem := ⟨fun b => W.heap[b]?, W.os, W.tape, W.output, W.drawn⟩
theorem imW_sat (W : World) : Sat (imW W) [] W := ⟨rfl, rfl, rfl, Nat.le_refl _, fun _ _ h => h, (fun _ h => by cases h), (fun _ h => by cases h), List.nodup_nil⟩
theorem Runs.below {P : Program} {f : FuncId} {args : Array Value} {W : World} {u : Value} (h : Runs P f args (imW W) [] fun v _ _ => v = u) : Calls P f args W fun e W' => e = .returned u ∧ Below W.heap.size W W' := by
  refine (h W (imW_sat W)).mono ?_
  rintro e W' ⟨v, J, T, rfl, hle, hs, rfl⟩
  have hb : ∀ i, i < W.heap.size → W'.heap[i]? = W.heap[i]? := fun i hi => by
    have h1 : (imW W).at_ i = some W.heap[i] := Array.getElem?_eq_getElem hi
    rw [hs.im i _ (hle.at_ i _ h1), Array.getElem?_eq_getElem hi]
  refine ⟨rfl, hs.os.trans hle.os, hs.tape.trans hle.tape, hs.out.trans hle.out, ?_, fun i hi => hb i hi⟩
  rcases Nat.lt_or_ge W'.heap.size W.heap.size with hlt | hge
  · have := hb W'.heap.size hlt
    rw [Array.getElem?_eq_none (Nat.le_refl _), Array.getElem?_eq_getElem hlt] at this
    cases this
  · exact hge
end Go.Px
