/- What one operation asks and gives, as a proposition over frames and symbolic heaps; and that it is right. -/
import Derived.Test.YtdajglfbbcbgpaaDoorPx1
namespace Go.Px
set_option linter.unusedVariables false
set_option linter.unusedSimpArgs false

def bcase (t : Bool) (A B : Prop) : Prop := match t with
  | true => A
  | false => B
theorem bcase_of {t : Bool} {A B : Prop} (h1 : t = true → A) (h2 : t = false → B) : bcase t A B := by cases t <;> simp_all [bcase]
theorem bcase_t {t : Bool} {A B : Prop} (h : t = true) (h1 : A) : bcase t A B := by subst h; exact h1
theorem bcase_f {t : Bool} {A B : Prop} (h : t = false) (h1 : B) : bcase t A B := by subst h; exact h1
theorem bcase_dec {p : Prop} [Decidable p] {A B : Prop} (h1 : p → A) (h2 : ¬ p → B) : bcase (decide p) A B :=
  bcase_of (fun h => h1 (of_decide_eq_true h)) (fun h => h2 (of_decide_eq_false h))
theorem bcase_beq {α : Type} [BEq α] [LawfulBEq α] {x y : α} {A B : Prop} (h1 : x = y → A) (h2 : x ≠ y → B) : bcase (x == y) A B :=
  bcase_of (fun h => h1 (eq_of_beq h)) (fun h => h2 (fun e => by subst e; simp at h))
theorem bcase_bne {α : Type} [BEq α] [LawfulBEq α] {x y : α} {A B : Prop} (h1 : x ≠ y → A) (h2 : x = y → B) : bcase (x != y) A B :=
  bcase_of (fun h => h1 (by simpa using h)) (fun h => h2 (by simpa using h))
theorem bcase_not {t : Bool} {A B : Prop} (h : bcase t B A) : bcase (!t) A B := by cases t <;> exact h

def putP (n : Nat) (d : Option Tmp) (v : Value) (K : Fr → IMem → SH → Prop) (l : Fr) (I : IMem) (S : SH) : Prop := match d with
  | none => K l I S
  | some d => match Nat.blt d n with
    | true => K (upd l d v) I S
    | false => False

def eval0 {α : Type} (P : Program) : Sem α → Option α
  | .pure a => some a
  | .program k => eval0 P (k P)
  | _ => none
theorem run_of_eval0 {α : Type} {P : Program} {w : World} : ∀ {s : Sem α} {a : α}, eval0 P s = some a → s.run P w = .ok a w
  | .pure b, a, h => by simp [eval0] at h; subst h; rfl
  | .program k, a, h => by simp only [eval0] at h; simp only [Sem.run]; exact run_of_eval0 h
  | .load .., _, h => by simp [eval0] at h
  | .store .., _, h => by simp [eval0] at h
  | .new .., _, h => by simp [eval0] at h
  | .shape .., _, h => by simp [eval0] at h
  | .freeze .., _, h => by simp [eval0] at h
  | .frozen .., _, h => by simp [eval0] at h
  | .getObj .., _, h => by simp [eval0] at h
  | .setObj .., _, h => by simp [eval0] at h
  | .choose .., _, h => by simp [eval0] at h
  | .sys .., _, h => by simp [eval0] at h
  | .mark .., _, h => by simp [eval0] at h
  | .halt .., _, h => by simp [eval0] at h

/-! ### kinds of cells -/
inductive Sc where
  | bool | int (k : IntKind) | str | ptr | slice | map | other
def scD : TypeDesc → Sc
  | .bool => .bool
  | .int k => .int k
  | .string => .str
  | .pointer _ => .ptr
  | .unsafePointer => .ptr
  | .slice _ => .slice
  | .map .. => .map
  | _ => .other
def exS : Sc → (Value → Prop) → Prop
  | .bool, K => ∃ b, K (.bool b)
  | .int k, K => ∃ n, K (.int k n)
  | .str, K => ∃ s, K (.string s)
  | .ptr, K => ∃ p, K (.pointer p)
  | .slice, K => ∃ p n c, K (.slice p n c)
  | .map, K => ∃ r, K (.map r)
  | .other, K => ∃ v, K v
theorem exS_elim {s : Sc} {K : Value → Prop} (h : exS s K) : ∃ v, K v := by
  cases s <;> simp only [exS] at h
  case slice => obtain ⟨p, n, c, h⟩ := h; exact ⟨_, h⟩
  all_goals (obtain ⟨x, h⟩ := h; exact ⟨_, h⟩)
def exL : List Sc → (List Value → Prop) → Prop
  | [], K => K []
  | s :: ss, K => exS s fun v => exL ss fun vs => K (v :: vs)
theorem exL_elim : ∀ {ss : List Sc} {K : List Value → Prop}, exL ss K → ∃ vs, K vs
  | [], _, h => ⟨[], h⟩
  | s :: ss, K, h => by
    obtain ⟨v, h⟩ := exS_elim h
    obtain ⟨vs, h⟩ := exL_elim h
    exact ⟨_, h⟩
def flat (P : Program) : Nat → TypeId → List Sc
  | 0, _ => []
  | d + 1, t => match P.underlying t with
    | some (.struct fs) => fs.toList.flatMap fun f => flat P d f.type
    | some (.array n e) => (List.replicate n (flat P d e)).flatten
    | some u => [scD u]
    | none => []
def exTy (P : Program) (t : TypeId) (K : Value → Prop) : Prop := match P.underlying t with
  | some (.struct _) => exL (flat P 6 t) fun vs => K (.agg vs.toArray)
  | some (.array _ _) => exL (flat P 6 t) fun vs => K (.agg vs.toArray)
  | some d => exS (scD d) K
  | none => ∃ v, K v
theorem exTy_elim {P : Program} {t : TypeId} {K : Value → Prop} (h : exTy P t K) : ∃ v, K v := by
  unfold exTy at h
  split at h
  · obtain ⟨vs, h⟩ := exL_elim h; exact ⟨_, h⟩
  · obtain ⟨vs, h⟩ := exL_elim h; exact ⟨_, h⟩
  · exact exS_elim h
  · exact h
def exTs (P : Program) : List TypeId → (List Value → Prop) → Prop
  | [], K => K []
  | t :: ts, K => exTy P t fun v => exTs P ts fun vs => K (v :: vs)
theorem exTs_elim {P : Program} : ∀ {ts : List TypeId} {K : List Value → Prop}, exTs P ts K → ∃ vs, K vs
  | [], _, h => ⟨[], h⟩
  | t :: ts, K, h => by
    obtain ⟨v, h⟩ := exTy_elim h
    obtain ⟨vs, h⟩ := exTs_elim h
    exact ⟨_, h⟩
def asTy (P : Program) (t : TypeId) (v : Value) (K : Value → Prop) : Prop := match P.underlying t with
  | some (.tuple ts) => exTs P ts.toList fun vs => v = .tuple vs.toArray ∧ K (.tuple vs.toArray)
  | _ => exTy P t fun u => v = u ∧ K u
theorem asTy_elim {P : Program} {t : TypeId} {v : Value} {K : Value → Prop} (h : asTy P t v K) : K v := by
  unfold asTy at h
  split at h
  · obtain ⟨vs, hv, h⟩ := exTs_elim h; rw [hv]; exact h
  · obtain ⟨u, hv, h⟩ := exTy_elim h; rw [hv]; exact h

/-! ### memory -/
def Cell (I : IMem) (S : SH) (a : Addr) (v : Value) : Prop :=
  a.spot = none ∧ ∃ cs e fz, (I.at_ a.block = some (.cells cs e fz) ∨ (a.block, Obj.cells cs e fz) ∈ S) ∧ cs[a.off]? = some v
theorem Cell.run {I : IMem} {S : SH} {a : Addr} {v : Value} {w : World} (h : Cell I S a v) (hw : Sat I S w) : w.cell? a = some v := by
  obtain ⟨hs, cs, e, fz, hb, hv⟩ := h
  have : w.heap[a.block]? = some (.cells cs e fz) := by
    rcases hb with hb | hb
    · exact hw.im _ _ hb
    · exact hw.own _ hb
  simp [World.cell?, this, hs, hv]
def LdL (I : IMem) (S : SH) (a : Addr) : Nat → List Sc → (List Value → Prop) → Prop
  | _, [], K => K []
  | i, s :: ss, K => exS s fun v => Cell I S (a.add i) v ∧ LdL I S a (i + 1) ss fun vs => K (v :: vs)
def LdP (P : Program) (t : TypeId) (I : IMem) (S : SH) (a : Addr) (K : Value → Prop) : Prop := match P.underlying t with
  | some (.struct _) => (match Nat.beq (flat P 6 t).length (P.cellsOf t) with | true => LdL I S a 0 (flat P 6 t) fun vs => K (.agg vs.toArray) | false => False)
  | some (.array _ _) => (match Nat.beq (flat P 6 t).length (P.cellsOf t) with | true => LdL I S a 0 (flat P 6 t) fun vs => K (.agg vs.toArray) | false => False)
  | some d => exS (scD d) fun v => Cell I S a v ∧ K v
  | none => False
theorem LdL_elim {I : IMem} {S : SH} {a : Addr} : ∀ {ss : List Sc} {i : Nat} {K : List Value → Prop}, LdL I S a i ss K → ∃ vs, vs.length = ss.length ∧ (∀ j v, vs[j]? = some v → Cell I S (a.add (i + j)) v) ∧ K vs
  | [], i, K, h => ⟨[], rfl, fun j v h => by simp at h, h⟩
  | s :: ss, i, K, h => by
    obtain ⟨v, hc, h⟩ := exS_elim h
    obtain ⟨vs, hl, hcs, h⟩ := LdL_elim h
    refine ⟨v :: vs, by simp [hl], fun j u hj => ?_, h⟩
    cases j with
    | zero => simp at hj; subst hj; exact hc
    | succ j => simp at hj; rw [show i + (j + 1) = i + 1 + j by omega]; exact hcs j u hj
theorem run_loadCells {P : Program} {w : World} {a : Addr} : ∀ (vs : List Value) (i : Nat) (acc : Array Value), (∀ j v, vs[j]? = some v → w.cell? (a.add (i + j)) = some v) →
    (loadCellsFrom a i vs.length acc).run P w = .ok (acc ++ vs.toArray) w
  | [], i, acc, h => by simp [loadCellsFrom]
  | v :: vs, i, acc, h => by
    have h0 := h 0 v rfl
    have ih := run_loadCells (P := P) vs (i + 1) (acc.push v) (fun j u hj => by rw [show i + 1 + j = i + (j + 1) by omega]; exact h (j + 1) u (by simpa using hj))
    simp only [Nat.add_zero] at h0
    simp [loadCellsFrom, load, Sem.run, h0, ih]
def aggB : TypeDesc → Bool
  | .struct _ => true
  | .array _ _ => true
  | _ => false
theorem run_isAgg {P : Program} {w : World} {t : TypeId} {d : TypeDesc} (h : P.underlying t = some d) : (isAgg t).run P w = .ok (aggB d) w := by
  have : (underlying t).run P w = .ok d w := by simp [underlying, program, Sem.run, h]
  simp only [isAgg, Sem.run_bind, this, Result.andThen_ok]
  cases d <;> rfl
theorem info_of_underlying {P : Program} {t : TypeId} {d : TypeDesc} (h : P.underlying t = some d) : ∃ i, P.info? t = some i ∧ P.cellsOf t = i.size := by
  unfold Program.underlying at h
  cases hi : P.info? t with
  | none => rw [hi] at h; cases h
  | some i => exact ⟨i, rfl, by simp [Program.cellsOf, hi]⟩
theorem run_sizeOf {P : Program} {w : World} {t : TypeId} {i : TypeInfo} (h : P.info? t = some i) : (sizeOf t).run P w = .ok i.size w := by
  simp [sizeOf, typeInfo, program, Sem.run, h]
theorem LdP.run {P : Program} {t : TypeId} {I : IMem} {S : SH} {a : Addr} {K : Value → Prop} (h : LdP P t I S a K) :
    ∃ v, (∀ w, Sat I S w → (Instr.loadAt t (.pointer (some a))).run P w = .ok v w) ∧ K v := by
  have hload : ∀ v w, w.cell? a = some v → (load a).run P w = .ok v w := fun v w hv => by simp [load, Sem.run, hv]
  have big : ∀ d, P.underlying t = some d → aggB d = true → (flat P 6 t).length = P.cellsOf t →
      LdL I S a 0 (flat P 6 t) (fun vs => K (.agg vs.toArray)) → ∃ v, (∀ w, Sat I S w → (Instr.loadAt t (.pointer (some a))).run P w = .ok v w) ∧ K v := by
    intro d hd hag hlen hl
    obtain ⟨vs, hvl, hc, hK⟩ := LdL_elim hl
    obtain ⟨i, hi, hsz⟩ := info_of_underlying hd
    refine ⟨.agg vs.toArray, fun w hw => ?_, hK⟩
    have hr := run_loadCells (P := P) (w := w) (a := a) vs 0 #[] (fun j v hj => (hc j v hj).run hw)
    simp only [Instr.loadAt, Instr.sureAddr, loadVar, Sem.run_bind, Sem.run_pure, Result.andThen_ok, run_isAgg hd, hag, if_true, run_sizeOf hi, loadCells]
    rw [← hsz, ← hlen, ← hvl, hr]
    simp
  unfold LdP at h
  split at h
  · rename_i fs hd
    split at h
    · rename_i hb; exact big _ hd rfl (Nat.eq_of_beq_eq_true hb) h
    · exact h.elim
  · rename_i n e hd
    split at h
    · rename_i hb; exact big _ hd rfl (Nat.eq_of_beq_eq_true hb) h
    · exact h.elim
  · rename_i d h1 h2 hd
    obtain ⟨v, hc, hK⟩ := exS_elim h
    refine ⟨v, fun w hw => ?_, hK⟩
    have hag : aggB d = false := by
      cases d <;> first | rfl | exact absurd rfl (h1 _) | exact absurd rfl (h2 _ _)
    simp only [Instr.loadAt, Instr.sureAddr, loadVar, Sem.run_bind, Sem.run_pure, Result.andThen_ok, run_isAgg hd, hag, Bool.false_eq_true, if_false, hload v w (hc.run hw)]
  · exact h.elim

/-- a load from a package-level variable of an interface type: what it holds is not nil -/
def LdX (P : Program) (x : Operand) (t : TypeId) (I : IMem) (S : SH) (a : Addr) (K : Value → Prop) : Prop := match x with
  | .global _ => (match P.underlying t with
    | some (.interface _) => ∃ ti v, Cell I S a (.iface ti v) ∧ K (.iface ti v)
    | _ => LdP P t I S a K)
  | _ => LdP P t I S a K
theorem LdX.ld {P : Program} {x : Operand} {t : TypeId} {I : IMem} {S : SH} {a : Addr} {K : Value → Prop} (h : LdX P x t I S a K) : LdP P t I S a K := by
  unfold LdX at h
  split at h
  · split at h
    · rename_i ms hu
      obtain ⟨ti, v, hc, hK⟩ := h
      unfold LdP
      rw [hu]
      exact ⟨_, hc, hK⟩
    · exact h
  · exact h
theorem LdX.run {P : Program} {x : Operand} {t : TypeId} {I : IMem} {S : SH} {a : Addr} {K : Value → Prop} (h : LdX P x t I S a K) :
    ∃ v, (∀ w, Sat I S w → (Instr.loadAt t (.pointer (some a))).run P w = .ok v w) ∧ K v := h.ld.run

def one : Value → Bool
  | .agg _ | .tuple _ => false
  | _ => true
def setR (cs : Array Value) (o : Nat) : List Value → Array Value
  | [] => cs
  | v :: vs => setR (cs.setIfInBounds o v) (o + 1) vs
theorem setR_size : ∀ (vs : List Value) (cs : Array Value) (o : Nat), (setR cs o vs).size = cs.size
  | [], _, _ => rfl
  | v :: vs, cs, o => by simp [setR, setR_size vs]
def StP (S : SH) (a : Addr) (vs : List Value) (K : SH → Prop) : Prop :=
  ∃ i cs e fz, a.spot = none ∧ S[i]? = some (a.block, .cells cs e fz) ∧ a.off + vs.length ≤ cs.size ∧ (fz.2 ≤ fz.1 ∨ a.off + vs.length ≤ fz.1 ∨ fz.2 ≤ a.off) ∧ vs.all one = true ∧
    K (S.set i (a.block, .cells (setR cs a.off vs) e fz))

theorem Sat.set {I : IMem} {S : SH} {w : World} (h : Sat I S w) {i : Nat} {b : Nat} {o o' : Obj} (hi : S[i]? = some (b, o)) {w' : World} (hos : w'.os = w.os) (ht : w'.tape = w.tape) (hout : w'.output = w.output)
    (hb : w'.heap[b]? = some o') (hrest : ∀ b', b' ≠ b → w'.heap[b']? = w.heap[b']?) (hdr : w'.drawn = w.drawn) : Sat I (S.set i (b, o')) w' := by
  have hil : i < S.length := by
    rcases Nat.lt_or_ge i S.length with h | h
    · exact h
    · rw [List.getElem?_eq_none h] at hi; cases hi
  have hSi : S[i] = (b, o) := by rw [List.getElem?_eq_getElem hil] at hi; injection hi
  have hmap : (S.set i (b, o')).map (·.1) = S.map (·.1) := by
    rw [List.map_set]
    have : (S.map (·.1))[i]? = some b := by simp [hi]
    apply List.ext_getElem?
    intro j
    rw [List.getElem?_set]
    split
    · rename_i e; subst e; simp [hil, hSi]
    · rfl
  have hIb : I.at_ b = none := h.apart (b, o) (hSi ▸ List.getElem_mem hil)
  refine ⟨hos.trans h.os, ht.trans h.tape, hout.trans h.out, by rw [hdr]; exact h.dr, fun b' o'' hb' => ?_, fun p hp => ?_, fun p hp => ?_, by rw [hmap]; exact h.nodup⟩
  · rw [hrest b' (fun e => by subst e; rw [hIb] at hb'; cases hb')]; exact h.im _ _ hb'
  · obtain ⟨j, hj, hjp⟩ := List.mem_iff_getElem.1 hp
    simp only [List.length_set] at hj
    rw [List.getElem_set] at hjp
    split at hjp
    · subst hjp; exact hb
    · rename_i hne
      have hpm : p ∈ S := hjp ▸ List.getElem_mem hj
      have : p.1 ≠ b := by
        intro e
        have h1 : (S.map (·.1))[j]'(by simpa using hj) = p.1 := by simp [hjp]
        have h2 : (S.map (·.1))[i]'(by simpa using hil) = b := by simp [hSi]
        exact hne ((List.getElem_inj h.nodup).1 (h2.trans (e.symm.trans h1.symm)))
      rw [hrest _ this]; exact h.own p hpm
  · have : p.1 ∈ (S.set i (b, o')).map (·.1) := List.mem_map_of_mem hp
    rw [hmap] at this
    obtain ⟨q, hq, he⟩ := List.mem_map.1 this
    rw [← he]; exact h.apart q hq

theorem run_storeCells {P : Program} {b : Nat} {e : TypeId} {fz : Nat × Nat} {o : Nat} : ∀ (vs : List Value) (i : Nat) (cs : Array Value) (w : World), w.heap[b]? = some (.cells cs e fz) → o + i + vs.length ≤ cs.size →
    (fz.2 ≤ fz.1 ∨ o + i + vs.length ≤ fz.1 ∨ fz.2 ≤ o + i) → vs.all one = true →
    ∃ w', (storeCells ⟨b, o, none⟩ vs i).run P w = .ok () w' ∧ w'.os = w.os ∧ w'.tape = w.tape ∧ w'.output = w.output ∧ w'.heap[b]? = some (.cells (setR cs (o + i) vs) e fz) ∧ (∀ b', b' ≠ b → w'.heap[b']? = w.heap[b']?) ∧ w'.drawn = w.drawn
  | [], i, cs, w, hb, _, _, _ => ⟨w, by simp [storeCells], rfl, rfl, rfl, by simpa [setR] using hb, fun _ _ => rfl, rfl⟩
  | v :: vs, i, cs, w, hb, hlen, hfz, hone => by
    simp only [List.length_cons] at hlen hfz
    simp only [List.all_cons, Bool.and_eq_true] at hone
    have ha : (⟨b, o, none⟩ : Addr).add i = ⟨b, o + i, none⟩ := by
      unfold Addr.add; split
      · rename_i h; subst h; rfl
      · rfl
    have hc : w.cell? ⟨b, o + i, none⟩ = some (cs[o + i]'(by omega)) := by simp [World.cell?, hb]
    have hf : w.frozen? ⟨b, o + i, none⟩ = false := by
      simp only [World.frozen?, hb, Bool.and_eq_false_iff, decide_eq_false_iff_not]; omega
    have hst : (store (⟨b, o + i, none⟩ : Addr) v).run P w = .ok () (w.setCell ⟨b, o + i, none⟩ v) := by
      cases v <;> first | (simp [one] at hone; done) | simp [store, Sem.run, hc, hf]
    have hlt : b < w.heap.size := by
      rcases Nat.lt_or_ge b w.heap.size with h | h
      · exact h
      · rw [Array.getElem?_eq_none h] at hb; cases hb
    have hb' : (w.setCell ⟨b, o + i, none⟩ v).heap[b]? = some (.cells (cs.setIfInBounds (o + i) v) e fz) := by
      simp only [World.setCell]
      rw [Array.getElem?_modify]
      simp [hb]
    have hr' : ∀ b', b' ≠ b → (w.setCell ⟨b, o + i, none⟩ v).heap[b']? = w.heap[b']? := by
      intro b' hne
      simp only [World.setCell]
      rw [Array.getElem?_modify, if_neg (fun e => hne e.symm)]
    obtain ⟨w', h1, h2, h3, h4, h5, h6, h7⟩ := run_storeCells (P := P) (o := o) vs (i + 1) (cs.setIfInBounds (o + i) v) (w.setCell ⟨b, o + i, none⟩ v) hb' (by simp; omega) (by omega) hone.2
    refine ⟨w', ?_, h2, h3, h4, ?_, fun b' hne => (h6 b' hne).trans (hr' b' hne), h7⟩
    · simp only [storeCells, ha, Sem.run_bind, hst, Result.andThen_ok, h1]
    · rw [h5]; rfl

theorem StP.run {P : Program} {t : TypeId} {d : TypeDesc} {I : IMem} {S : SH} {a : Addr} {v : Value} {K : SH → Prop} {w : World} (hd : P.underlying t = some d) (hsz : v.cells.size = P.cellsOf t)
    (h : StP S a v.cells.toList K) (hw : Sat I S w) : ∃ T w', (Instr.storeAt t (.pointer (some a)) v).run P w = .ok () w' ∧ Sat I T w' ∧ K T := by
  obtain ⟨i, cs, e, fz, hs, hi, hlen, hfz, hone, hK⟩ := h
  obtain ⟨b, o, sp⟩ := a
  dsimp only at hs; subst hs
  have hb := hw.own (b, .cells cs e fz) (List.mem_of_getElem? hi)
  obtain ⟨w', h1, h2, h3, h4, h5, h6, h7⟩ := run_storeCells (P := P) (o := o) v.cells.toList 0 cs w hb (by simpa using hlen) (by simpa using hfz) hone
  obtain ⟨inf, hinf, hcs⟩ := info_of_underlying hd
  refine ⟨_, w', ?_, hw.set hi h2 h3 h4 h5 h6 h7, hK⟩
  simp only [Instr.storeAt, Instr.sureAddr, storeVar, Sem.run_bind, Sem.run_pure, Result.andThen_ok, run_sizeOf hinf]
  rw [if_neg (by rw [hsz, hcs]; simp)]
  simpa using h1
end Go.Px
