/- What a slice that is read as data holds. -/
import Derived.ChangeArms
import Derived.SizedLaws
import Derived.Test.YtcdajekafnggkaaGreatDoorProg
import Derived.Test.YtcdajekafnggkaaGreatDoorM1IndexScript
namespace Go.Px
set_option linter.unusedVariables false
section
variable {H : Type} {enc : TypeId × Value → H} {P : Program} {W : World} {sp : Nat → Bool} {held : Bool} {n : Nat} {t : TypeId} {c : Value} {x : DataW H × List MemPlace}
theorem trod_int {k : IntKind} (hu : P.underlying t = some (.int k)) (h : DataW.trod enc P W 0 sp held n t [c] = some x) : ∃ m, c = .int k m ∧ (Lit.int k m).wf = true := by
  cases n with
  | zero => simp [DataW.trod] at h
  | succ n =>
    unfold DataW.trod at h
    rw [hu] at h
    split at h <;> simp_all
theorem trod_bool (hu : P.underlying t = some .bool) (h : DataW.trod enc P W 0 sp held n t [c] = some x) : ∃ m, c = .bool m := by
  cases n with
  | zero => simp [DataW.trod] at h
  | succ n =>
    unfold DataW.trod at h
    rw [hu] at h
    split at h <;> simp_all
theorem trod_sl {E : TypeId} (hu : P.underlying t = some (.slice E)) (h : DataW.trod enc P W 0 sp held n t [c] = some x) : ∃ a len cap, c = .slice a len cap ∧ DataW.Trod enc P W 0 sp held t (.slice a len cap) x.1 x.2 := by
  rcases DataW.trod_slice hu h with ⟨hc, _⟩ | ⟨a', len', cap', elems, rest, n', _, hc, _⟩
  · injection hc with hc; subst hc
    exact ⟨_, _, _, rfl, n, h⟩
  · injection hc with hc; subst hc
    exact ⟨_, _, _, rfl, n, h⟩
theorem trod_len {d : TypeDesc} {cs : List Value} (hu : P.underlying t = some d) (hd : aggB d = false) (h : DataW.trod enc P W 0 sp held n t cs = some x) : ∃ c, cs = [c] := by
  cases n with
  | zero => simp [DataW.trod] at h
  | succ n =>
    unfold DataW.trod at h
    rw [hu] at h
    split at h <;> first | exact ⟨_, rfl⟩ | (simp_all [aggB]; done)
theorem exists_list {α : Type} {Q : Nat → α → Prop} : ∀ {n : Nat}, (∀ i, i < n → ∃ x, Q i x) → ∃ xs : List α, xs.length = n ∧ ∀ i x, xs[i]? = some x → Q i x
  | 0, _ => ⟨[], rfl, fun i x h => by simp at h⟩
  | n + 1, h => by
    obtain ⟨xs, hl, hx⟩ := exists_list (n := n) (fun i hi => h i (by omega))
    obtain ⟨y, hy⟩ := h n (by omega)
    refine ⟨xs ++ [y], by simp [hl], fun i x hi => ?_⟩
    rcases Nat.lt_trichotomy i xs.length with g | g | g
    · rw [List.getElem?_append_left g] at hi; exact hx i x hi
    · rw [List.getElem?_append_right (by omega), g, Nat.sub_self] at hi
      simp at hi; subst hi; rw [g, hl]; exact hy
    · rw [List.getElem?_eq_none (by simp; omega)] at hi; cases hi
/-- a slice that stays as it is: its elements -/
def SlIn {α : Type} (I : IMem) (a : Option Addr) (len sz : Nat) (el : α → List Value) (xs : List α) : Prop :=
  xs.length = len ∧ ∀ i x, xs[i]? = some x → ∃ a', a = some a' ∧ ∀ j v, (el x)[j]? = some v → Cell I [] ((a'.add (i * sz)).add j) v
theorem SlIn.cell {α : Type} {I : IMem} {a : Option Addr} {len sz : Nat} {el : α → List Value} {xs : List α} (h : SlIn I a len sz el xs) {i : Nat} {x : α} (hx : xs[i]? = some x) : ∃ a', a = some a' ∧ ∀ J T, I.le J → ∀ j v, (el x)[j]? = some v → Cell J T ((a'.add (i * sz)).add j) v := by
  obtain ⟨a', ha, hc⟩ := h.2 i x hx
  exact ⟨a', ha, fun J T hle j v hj => Sub.cell ⟨T, List.Perm.refl _⟩ hle (hc j v hj)⟩
theorem cell_im {a : Addr} {v : Value} (h : W.cell? a = some v) : Cell (imW W) [] a v := by
  unfold World.cell? at h
  split at h
  · rename_i cs e fz hb
    split at h
    · cases h
    · rename_i hs
      exact ⟨by cases hsp : a.spot with | none => rfl | some s => rw [hsp] at hs; exact absurd rfl hs, cs, e, fz, .inl hb, h⟩
  · cases h
end
end Go.Px
/- Function values that bear one pointer, two or three. -/
namespace Go.Px
set_option linter.unusedVariables false

def asFA (f : FuncId) (v : Value) (K : Addr → Prop) : Prop := match v with
  | .func (.func g) ⟨[]⟩ ⟨[.pointer (some a)]⟩ => (match Nat.beq g f with | true => K a | false => False)
  | _ => False
theorem asFA_e {f : FuncId} {v : Value} {K : Addr → Prop} (h : asFA f v K) : ∃ a, v = .func (.func f) #[] #[.pointer (some a)] ∧ K a := by
  unfold asFA at h
  split at h
  · split at h
    · rename_i hb; have := Nat.eq_of_beq_eq_true hb; subst this; exact ⟨_, rfl, h⟩
    · exact h.elim
  · exact h.elim
def asFB (f : FuncId) (v : Value) (K : Addr → Addr → Prop) : Prop := match v with
  | .func (.func g) ⟨[]⟩ ⟨[.pointer (some a), .pointer (some b)]⟩ => (match Nat.beq g f with | true => K a b | false => False)
  | _ => False
theorem asFB_e {f : FuncId} {v : Value} {K : Addr → Addr → Prop} (h : asFB f v K) : ∃ a b, v = .func (.func f) #[] #[.pointer (some a), .pointer (some b)] ∧ K a b := by
  unfold asFB at h
  split at h
  · split at h
    · rename_i hb; have := Nat.eq_of_beq_eq_true hb; subst this; exact ⟨_, _, rfl, h⟩
    · exact h.elim
  · exact h.elim
def asFC (f : FuncId) (v : Value) (K : Addr → Addr → Addr → Prop) : Prop := match v with
  | .func (.func g) ⟨[]⟩ ⟨[.pointer (some a), .pointer (some b), .pointer (some c)]⟩ => (match Nat.beq g f with | true => K a b c | false => False)
  | _ => False
theorem asFC_e {f : FuncId} {v : Value} {K : Addr → Addr → Addr → Prop} (h : asFC f v K) : ∃ a b c, v = .func (.func f) #[] #[.pointer (some a), .pointer (some b), .pointer (some c)] ∧ K a b c := by
  unfold asFC at h
  split at h
  · split at h
    · rename_i hb; have := Nat.eq_of_beq_eq_true hb; subst this; exact ⟨_, _, _, rfl, h⟩
    · exact h.elim
  · exact h.elim
end Go.Px
/- Short forms for printed functions: what a frame holds is read by one word. -/
namespace Go.Px
set_option linter.unusedVariables false
abbrev OA := Option Addr
abbrev RT := Value → IMem → SH → Prop
abbrev PR := IMem → SH → Prop
/-- operations one behind the other, from a place on -/
def tk : Nat → Nat → Mv → Mv
  | 0, _, m => m
  | k + 1, i, m => .take i (tk k (i + 1) m)
/-- kinds of values -/
inductive Sk where
  | i (k : IntKind)
  | b
  | s
  | p
  | a
  | m
  | v
  | l
  | f (q : FuncId)
  | fa (q : FuncId)
  | fb (q : FuncId)
  | fc (q : FuncId)
  | x
  | z
inductive Kd where
  | c (k : Sk)
  | g (es : List Sk)
abbrev kI (k : IntKind) (i : Nat) : Nat × Kd := (i, .c (.i k))
abbrev kB (i : Nat) : Nat × Kd := (i, .c .b)
abbrev kS (i : Nat) : Nat × Kd := (i, .c .s)
abbrev kP (i : Nat) : Nat × Kd := (i, .c .p)
abbrev kA (i : Nat) : Nat × Kd := (i, .c .a)
abbrev kM (i : Nat) : Nat × Kd := (i, .c .m)
abbrev kV (i : Nat) : Nat × Kd := (i, .c .v)
abbrev kL (i : Nat) : Nat × Kd := (i, .c .l)
abbrev kFB (q : FuncId) (i : Nat) : Nat × Kd := (i, .c (.fb q))
abbrev kFC (q : FuncId) (i : Nat) : Nat × Kd := (i, .c (.fc q))
noncomputable def cd (f : Func) : Code := f.body.getD .skip
@[reducible] def ST : Sk → Type → Type
  | .i _, X => Int → X
  | .b, X => Bool → X
  | .s, X => ByteArray → X
  | .p, X => Option Addr → X
  | .a, X => Addr → X
  | .m, X => Option Nat → X
  | .v, X => Value → X
  | .l, X => Option Addr → Nat → Nat → X
  | .f _, X => X
  | .fa _, X => Addr → X
  | .fb _, X => Addr → Addr → X
  | .fc _, X => Addr → Addr → Addr → X
  | .x, X => Nat → X
  | .z, X => Nat → Nat → X
@[reducible] def SG : List Sk → Type → Type
  | [], X => X
  | k :: r, X => ST k (SG r X)
@[reducible] def CT : List (Nat × Kd) → Type
  | [] => IMem → SH → Prop
  | (_, .c k) :: r => ST k (CT r)
  | (_, .g es) :: r => SG es (CT r)
def asX (v : Value) (K : Nat → Prop) : Prop := match v with
  | .float .f64 b => K b
  | _ => False
theorem asX_e {v : Value} {K : Nat → Prop} (h : asX v K) : ∃ b, v = .float .f64 b ∧ K b := by
  cases v with
  | float k b => cases k <;> first | exact ⟨_, rfl, h⟩ | exact h.elim
  | _ => exact h.elim
def asZ (v : Value) (K : Nat → Nat → Prop) : Prop := match v with
  | .complex .f64 a b => K a b
  | _ => False
theorem asZ_e {v : Value} {K : Nat → Nat → Prop} (h : asZ v K) : ∃ a b, v = .complex .f64 a b ∧ K a b := by
  cases v with
  | complex k a b => cases k <;> first | exact ⟨_, _, rfl, h⟩ | exact h.elim
  | _ => exact h.elim
def rS {X : Type} : (k : Sk) → Value → ST k X → (X → Prop) → Prop
  | .i k, v, K, G => asI k v fun n => G (K n)
  | .b, v, K, G => asB v fun n => G (K n)
  | .s, v, K, G => asStr v fun n => G (K n)
  | .p, v, K, G => asPtr v fun n => G (K n)
  | .a, v, K, G => asAdr v fun n => G (K n)
  | .m, v, K, G => asMap v fun n => G (K n)
  | .v, v, K, G => asV v fun n => G (K n)
  | .l, v, K, G => asSl v fun p n c => G (K p n c)
  | .f q, v, K, G => asF q v (G K)
  | .fa q, v, K, G => asFA q v fun n => G (K n)
  | .fb q, v, K, G => asFB q v fun a b => G (K a b)
  | .fc q, v, K, G => asFC q v fun a b c => G (K a b c)
  | .x, v, K, G => asX v fun n => G (K n)
  | .z, v, K, G => asZ v fun a b => G (K a b)
def asAg (v : Value) (K : List Value → Prop) : Prop := match v with
  | .agg cs => K cs.toList
  | _ => False
theorem asAg_e {v : Value} {K : List Value → Prop} (h : asAg v K) : ∃ cs, v = .agg cs ∧ K cs.toList := by cases v <;> first | exact ⟨_, rfl, h⟩ | exact h.elim
def rG {X : Type} : (es : List Sk) → List Value → SG es X → (X → Prop) → Prop
  | [], [], K, G => G K
  | k :: r, v :: vs, K, G => rS k v K fun K' => rG r vs K' G
  | _, _, _, _ => False
/-- a block's proposition at what a frame holds -/
def rd : (ks : List (Nat × Kd)) → CT ks → Fr → IMem → SH → Prop
  | [], K, _, I, S => K I S
  | (i, .c k) :: r, K, l, I, S => rS k (l i) K fun K' => rd r K' l I S
  | (i, .g es) :: r, K, l, I, S => asAg (l i) fun cs => rG es cs K fun K' => rd r K' l I S
def OS {X : Type} : (k : Sk) → ST k X → (X → Value → Prop) → Prop
  | .i k, K, G => ∀ n, G (K n) (.int k n)
  | .b, K, G => ∀ n, G (K n) (.bool n)
  | .s, K, G => ∀ n, G (K n) (.string n)
  | .p, K, G => ∀ n, G (K n) (.pointer n)
  | .a, K, G => ∀ n, G (K n) (.pointer (some n))
  | .m, K, G => ∀ n, G (K n) (.map n)
  | .v, K, G => ∀ n, G (K n) n
  | .l, K, G => ∀ p n c, G (K p n c) (.slice p n c)
  | .f q, K, G => G K (.func (.func q) #[] #[])
  | .fa q, K, G => ∀ n, G (K n) (.func (.func q) #[] #[.pointer (some n)])
  | .fb q, K, G => ∀ a b, G (K a b) (.func (.func q) #[] #[.pointer (some a), .pointer (some b)])
  | .fc q, K, G => ∀ a b c, G (K a b c) (.func (.func q) #[] #[.pointer (some a), .pointer (some b), .pointer (some c)])
  | .x, K, G => ∀ n, G (K n) (.float .f64 n)
  | .z, K, G => ∀ a b, G (K a b) (.complex .f64 a b)
def OG {X : Type} : (es : List Sk) → SG es X → (X → List Value → Prop) → Prop
  | [], K, G => G K []
  | k :: r, K, G => OS k K fun K' v => OG r K' fun K'' vs => G K'' (v :: vs)
def OT : (ks : List (Nat × Kd)) → CT ks → Fr → (Fr → Prop) → IMem → SH → Prop
  | [], K, l, G, I, S => K I S → G l
  | (i, .c k) :: r, K, l, G, I, S => OS k K fun K' v => OT r K' (upd l i v) G I S
  | (i, .g es) :: r, K, l, G, I, S => OG es K fun K' vs => OT r K' (upd l i (.agg vs.toArray)) G I S
theorem rS.op {X : Type} {G : Prop} {H : X → Prop} {M : X → Value → Prop} : ∀ {k : Sk} {v : Value} {K : ST k X}, rS k v K H → OS k K M → (∀ K', H K' → M K' v → G) → G
  | .i _, v, K, h, g, o => by obtain ⟨n, e, h'⟩ := asI_e h; subst e; exact o _ h' (g n)
  | .b, v, K, h, g, o => by obtain ⟨n, e, h'⟩ := asB_e h; subst e; exact o _ h' (g n)
  | .s, v, K, h, g, o => by obtain ⟨n, e, h'⟩ := asStr_e h; subst e; exact o _ h' (g n)
  | .p, v, K, h, g, o => by obtain ⟨n, e, h'⟩ := asPtr_e h; subst e; exact o _ h' (g n)
  | .a, v, K, h, g, o => by obtain ⟨n, e, h'⟩ := asAdr_e h; subst e; exact o _ h' (g n)
  | .m, v, K, h, g, o => by obtain ⟨n, e, h'⟩ := asMap_e h; subst e; exact o _ h' (g n)
  | .v, v, K, h, g, o => o _ h (g v)
  | .l, v, K, h, g, o => by obtain ⟨p, n, c, e, h'⟩ := asSl_e h; subst e; exact o _ h' (g p n c)
  | .f _, v, K, h, g, o => by obtain ⟨e, h'⟩ := asF_e h; subst e; exact o _ h' g
  | .fa _, v, K, h, g, o => by obtain ⟨n, e, h'⟩ := asFA_e h; subst e; exact o _ h' (g n)
  | .fb _, v, K, h, g, o => by obtain ⟨a, b, e, h'⟩ := asFB_e h; subst e; exact o _ h' (g a b)
  | .fc _, v, K, h, g, o => by obtain ⟨a, b, c, e, h'⟩ := asFC_e h; subst e; exact o _ h' (g a b c)
  | .x, v, K, h, g, o => by obtain ⟨n, e, h'⟩ := asX_e h; subst e; exact o _ h' (g n)
  | .z, v, K, h, g, o => by obtain ⟨a, b, e, h'⟩ := asZ_e h; subst e; exact o _ h' (g a b)
theorem rG.op {X : Type} {G : Prop} {H : X → Prop} : ∀ {es : List Sk} {vs : List Value} {K : SG es X} {M : X → List Value → Prop}, rG es vs K H → OG es K M → (∀ K', H K' → M K' vs → G) → G
  | [], [], K, M, h, g, o => o _ h g
  | [], _ :: _, K, M, h, g, o => h.elim
  | _ :: _, [], K, M, h, g, o => h.elim
  | k :: r, v :: vs, K, M, h, g, o => rS.op h g fun K' h' g' => rG.op h' g' o
theorem OT.op : ∀ {ks : List (Nat × Kd)} {K : CT ks} {l : Fr} {G : Fr → Prop} {I : IMem} {S : SH}, rd ks K l I S → OT ks K l G I S → G l
  | [], K, l, G, I, S, h, g => g h
  | (i, .c k) :: r, K, l, G, I, S, h, g => rS.op h g fun K' h' g' => by
    rw [← upd_eta (l := l) (d := i) rfl] at g'
    exact OT.op h' g'
  | (i, .g es) :: r, K, l, G, I, S, h, g => by
    obtain ⟨cs, e, h⟩ := asAg_e h
    refine rG.op h g fun K' h' g' => ?_
    rw [show cs.toList.toArray = cs from rfl, ← upd_eta (l := l) (d := i) e] at g'
    exact OT.op h' g'
section
variable {P : Program} {n : Nat} {c : Code} {Q : Exit → Fr → IMem → SH → Prop} {l : Fr} {I : IMem} {S : SH} {A B : Prop}
theorem op {ks : List (Nat × Kd)} {K : CT ks} (h : rd ks K l I S) (g : OT ks K l (fun l => WP P n c Q l I S) I S) : WP P n c Q l I S := OT.op h g
theorem pS (h : A) (e : A = Pre P n c Q l I S := by kernel_rfl) : WP P n c Q l I S := Pre.sound _ _ _ _ _ (cast e h)
theorem bK (h : WP P n (blockB c) (QBlock (blockId c) Q) l I S) (hc : c = .block (blockId c) (blockB c) := by kernel_rfl) : WP P n c Q l I S := WP.block' hc h
theorem cD {t : Bool} (h : bcase t A B) (hA : A → WP P n (condT c) Q l I S) (hB : B → WP P n (condF c) Q l I S) (hc : c = .cond (condC c) (condT c) (condF c) := by kernel_rfl) (ht : ev l (condC c) = .bool t := by kernel_rfl) : WP P n c Q l I S := WP.cond' hc ht h hA hB
theorem qT (h : A) (hc : c = .region (regId c) (regOps c) true := by kernel_rfl) (hm : P.follows .mixedOrders = true := by kernel_rfl) (hB : Region.lexB .any (regOps c) = true := by kernel_rfl)
    (e : A = PreQ P n (regOps c) I S (regOps c).toList (fun l => Q .normal l I S) l := by kernel_rfl) : WP P n c Q l I S := WP.quiet' hc hm hB (cast e h)
theorem dR (m : Mv) (eff : List Nat) (h : A) (hc : c = .region (regId c) (regOps c) true := by kernel_rfl) (hm : P.follows .mixedOrders = true := by kernel_rfl) (hs : Region.noSelect (regOps c) = true := by kernel_rfl)
    (hl : Nat.beq m.len (regOps c).size = true := by kernel_rfl) (hok : mvOK P (regOps c) eff m true (Array.replicate (regOps c).size false) = true := by kernel_rfl) (e : A = DrP P n (regOps c) eff I S (Q .normal) m l I S := by kernel_rfl) : WP P n c Q l I S := WP.draw' m eff hc hm hs hl hok (cast e h)
theorem dF (m : Mv) (eff : List Nat) (h : A) (hc : c = .region (regId c) (regOps c) true := by kernel_rfl) (hm : P.follows .mixedOrders = true := by kernel_rfl) (hs : Region.noSelect (regOps c) = true := by kernel_rfl)
    (hl : Nat.beq m.len (regOps c).size = true := by kernel_rfl) (hok : mvOK P (regOps c) eff m true (Array.replicate (regOps c).size false) = true := by kernel_rfl) (e : A = (∃ F : SH, Keep I F I S ∧ DrP P n (regOps c) eff I F (Q .normal) m l I S) := by kernel_rfl) : WP P n c Q l I S := WP.drawF m eff hc hm hs hl hok (cast e h)
theorem cO (k : Nat) (ks : List (Nat × Kd)) (K : CT ks) (h : A) (g : ∀ l J T, I.le J → OT ks K l (fun l => WP P n (dropSeq k c) Q l J T) J T) (e : A = PreCut P n (rd ks K) k c Q l I S := by kernel_rfl) : WP P n c Q l I S := WP.cut k (rd ks K) (cast e h) fun l J T hle h => OT.op h (g l J T hle)
theorem sO (ks : List (Nat × Kd)) (K : CT ks) (h1 : WP P n (seqL c) (QThen (rd ks K) Q) l I S) (g : ∀ l J T, I.le J → OT ks K l (fun l => WP P n (seqR c) Q l J T) J T) (hc : c = .seq (seqL c) (seqR c) := by kernel_rfl) : WP P n c Q l I S := WP.seqY hc (rd ks K) h1 fun l J T hle h => OT.op h (g l J T hle)
theorem lO (ks : List (Nat × Kd)) (V : Nat → CT ks) (m : Nat) (h0 : A) (g : ∀ m l J T, I.le J → OT ks (V m) l (fun l => WP P n (loopB c) (QThen (fun l' J' T' => ∃ m', m' < m ∧ rd ks (V m') l' J' T') Q) l J T) J T) (hc : c = .loop (loopB c) := by kernel_rfl) (e : A = rd ks (V m) l I S := by kernel_rfl) : WP P n c Q l I S :=
  WP.loop' hc (fun m => rd ks (V m)) m (cast e h0) fun m l J T hle h => OT.op h (g m l J T hle)
end
end Go.Px
set_option linter.unusedVariables false
set_option maxRecDepth 8000
set_option maxHeartbeats 2000000
namespace Go.Proofs.YtcdajekafnggkaaGreatDoor
open Go.Px
def strT1_69c1 : ByteArray := ⟨#[48, 49, 50, 51, 52, 53, 54, 55, 56, 57, 97, 98, 99, 100, 101, 102, 103, 104, 105, 106, 107, 108, 109, 110, 111, 112, 113, 114, 115, 116, 117, 118, 119, 120, 121, 122]⟩
def strT1_7034 : ByteArray := ⟨#[48, 48, 48, 49, 48, 50, 48, 51, 48, 52, 48, 53, 48, 54, 48, 55, 48, 56, 48, 57, 49, 48, 49, 49, 49, 50, 49, 51, 49, 52, 49, 53, 49, 54, 49, 55, 49, 56, 49, 57, 50, 48, 50, 49, 50, 50, 50, 51, 50, 52, 50, 53, 50, 54, 50, 55, 50, 56, 50, 57, 51, 48, 51, 49, 51, 50, 51, 51, 51, 52, 51, 53, 51, 54, 51, 55, 51, 56, 51, 57, 52, 48, 52, 49, 52, 50, 52, 51, 52, 52, 52, 53, 52, 54, 52, 55, 52, 56, 52, 57, 53, 48, 53, 49, 53, 50, 53, 51, 53, 52, 53, 53, 53, 54, 53, 55, 53, 56, 53, 57, 54, 48, 54, 49, 54, 50, 54, 51, 54, 52, 54, 53, 54, 54, 54, 55, 54, 56, 54, 57, 55, 48, 55, 49, 55, 50, 55, 51, 55, 52, 55, 53, 55, 54, 55, 55, 55, 56, 55, 57, 56, 48, 56, 49, 56, 50, 56, 51, 56, 52, 56, 53, 56, 54, 56, 55, 56, 56, 56, 57, 57, 48, 57, 49, 57, 50, 57, 51, 57, 52, 57, 53, 57, 54, 57, 55, 57, 56, 57, 57]⟩
def strT1_2a39 : ByteArray := ⟨#[0, 1, 2, 2, 3, 3, 3, 3, 4, 4, 4, 4, 4, 4, 4, 4, 5, 5, 5, 5, 5, 5, 5, 5, 5, 5, 5, 5, 5, 5, 5, 5, 6, 6, 6, 6, 6, 6, 6, 6, 6, 6, 6, 6, 6, 6, 6, 6, 6, 6, 6, 6, 6, 6, 6, 6, 6, 6, 6, 6, 6, 6, 6, 6, 7, 7, 7, 7, 7, 7, 7, 7, 7, 7, 7, 7, 7, 7, 7, 7, 7, 7, 7, 7, 7, 7, 7, 7, 7, 7, 7, 7, 7, 7, 7, 7, 7, 7, 7, 7, 7, 7, 7, 7, 7, 7, 7, 7, 7, 7, 7, 7, 7, 7, 7, 7, 7, 7, 7, 7, 7, 7, 7, 7, 7, 7, 7, 7, 8, 8, 8, 8, 8, 8, 8, 8, 8, 8, 8, 8, 8, 8, 8, 8, 8, 8, 8, 8, 8, 8, 8, 8, 8, 8, 8, 8, 8, 8, 8, 8, 8, 8, 8, 8, 8, 8, 8, 8, 8, 8, 8, 8, 8, 8, 8, 8, 8, 8, 8, 8, 8, 8, 8, 8, 8, 8, 8, 8, 8, 8, 8, 8, 8, 8, 8, 8, 8, 8, 8, 8, 8, 8, 8, 8, 8, 8, 8, 8, 8, 8, 8, 8, 8, 8, 8, 8, 8, 8, 8, 8, 8, 8, 8, 8, 8, 8, 8, 8, 8, 8, 8, 8, 8, 8, 8, 8, 8, 8, 8, 8, 8, 8, 8, 8, 8, 8, 8, 8, 8, 8, 8, 8, 8, 8, 8, 8]⟩
def strconv_Itoa (R : RT) (u0 : Int) (I : IMem) (S : SH) : Prop :=
  Runs Tryz.prog 65 #[.int .i64 u0] I S fun v I1 S1 => ∃ u1, v = .string u1 ∧
  R (.string u1) I1 S1
theorem strconv_Itoa_fn (R : RT) (u0 : Int) (I : IMem) (S : SH) (h : strconv_Itoa R u0 I S) : Runs Tryz.prog 58 #[.int .i64 u0] I S R := by
  refine Runs.of_wp (c := cd Tryz.f58) Tryz.func58 (by kernel_rfl) (by kernel_rfl) ?_
  exact pS h
def strconv_Itoa_2 (R : RT) (u0 : Int) (I : IMem) (S : SH) : Prop :=
  Runs Tryz.prog 71 #[.int .i64 u0, .int .i64 10] I S fun v I1 S1 => ∃ u1, v = .string u1 ∧
  R (.string u1) I1 S1
theorem strconv_Itoa_2_fn (R : RT) (u0 : Int) (I : IMem) (S : SH) (h : strconv_Itoa_2 R u0 I S) : Runs Tryz.prog 65 #[.int .i64 u0] I S R := by
  refine Runs.of_wp (c := cd Tryz.f65) Tryz.func65 (by kernel_rfl) (by kernel_rfl) ?_
  exact pS h
def strconv_FormatInt (R : RT) (u0 u1 : Int) (I : IMem) (S : SH) : Prop :=
  Runs Tryz.prog 71 #[.int .i64 u0, .int .i64 u1] I S fun v I1 S1 => ∃ u2, v = .string u2 ∧
  R (.string u2) I1 S1
theorem strconv_FormatInt_fn (R : RT) (u0 u1 : Int) (I : IMem) (S : SH) (h : strconv_FormatInt R u0 u1 I S) : Runs Tryz.prog 66 #[.int .i64 u0, .int .i64 u1] I S R := by
  refine Runs.of_wp (c := cd Tryz.f66) Tryz.func66 (by kernel_rfl) (by kernel_rfl) ?_
  exact pS h
def strconv_FormatInt_2_b5 (R : RT) (x0 : Int) (x5 : Addr) (x6 : Int) (I : IMem) (S : SH) : Prop :=
  Runs Tryz.prog 80 #[.int .u64 x6] I S fun v I1 S1 => ∃ u0, v = .int .i64 u0 ∧
  (0 : Int) ≤ (IntKind.wrap .i64 ((1 : Int) + u0)) ∧ (IntKind.wrap .i64 ((1 : Int) + u0)) ≤ ((24 : Nat) : Int) ∧
  (0 : Int) ≤ (1 : Int) ∧ (1 : Int) ≤ (((IntKind.wrap .i64 ((1 : Int) + u0)).toNat : Nat) : Int) ∧
  Runs Tryz.prog 81 #[.slice (slA (some x5) 24 ((1 : Int).toNat) 1) ((IntKind.wrap .i64 ((1 : Int) + u0)).toNat - (1 : Int).toNat) (24 - (1 : Int).toNat), .int .u64 x6] I1 S1 fun v' I1' S1' => v' = .tuple #[] ∧
  bcase (decide (x0 < (0 : Int)))
    ((0 : Int) ≤ (0 : Int) ∧ (0 : Int) < ((24 : Nat) : Int) ∧
    StP S1' (x5.add ((0 : Int).toNat * 1)) [.int .u8 45] fun S1'' =>
    (0 : Int) ≤ (IntKind.wrap .i64 ((1 : Int) + u0)) ∧ (IntKind.wrap .i64 ((1 : Int) + u0)) ≤ ((24 : Nat) : Int) ∧
    ∃ u1 : ByteArray, BytesAt I1' S1'' (slA (some x5) 24 0 1) ((IntKind.wrap .i64 ((1 : Int) + u0)).toNat - 0) u1 ∧
    R (.string u1) I1' S1'')
    ((0 : Int) ≤ (IntKind.wrap .i64 ((1 : Int) + u0)) ∧ (IntKind.wrap .i64 ((1 : Int) + u0)) ≤ ((24 : Nat) : Int) ∧
    (0 : Int) ≤ (1 : Int) ∧ (1 : Int) ≤ (((IntKind.wrap .i64 ((1 : Int) + u0)).toNat : Nat) : Int) ∧
    ∃ u2 : ByteArray, BytesAt I1' S1' (slA (some x5) 24 ((1 : Int).toNat) 1) ((IntKind.wrap .i64 ((1 : Int) + u0)).toNat - (1 : Int).toNat) u2 ∧
    R (.string u2) I1' S1')
def strconv_FormatInt_2_b4 (R : RT) (x0 : Int) (I : IMem) (S : SH) : Prop :=
  ∀ b5 : Nat,
  bcase (decide (x0 < (0 : Int)))
    (strconv_FormatInt_2_b5 R x0 ⟨b5, 0, none⟩ (IntKind.wrap .u64 (0 - (IntKind.wrap .u64 x0))) I ((b5, .cells #[.int .u8 0, .int .u8 0, .int .u8 0, .int .u8 0, .int .u8 0, .int .u8 0, .int .u8 0, .int .u8 0, .int .u8 0, .int .u8 0, .int .u8 0, .int .u8 0, .int .u8 0, .int .u8 0, .int .u8 0, .int .u8 0, .int .u8 0, .int .u8 0, .int .u8 0, .int .u8 0, .int .u8 0, .int .u8 0, .int .u8 0, .int .u8 0] 137 (0, 0)) :: S))
    (strconv_FormatInt_2_b5 R x0 ⟨b5, 0, none⟩ (IntKind.wrap .u64 x0) I ((b5, .cells #[.int .u8 0, .int .u8 0, .int .u8 0, .int .u8 0, .int .u8 0, .int .u8 0, .int .u8 0, .int .u8 0, .int .u8 0, .int .u8 0, .int .u8 0, .int .u8 0, .int .u8 0, .int .u8 0, .int .u8 0, .int .u8 0, .int .u8 0, .int .u8 0, .int .u8 0, .int .u8 0, .int .u8 0, .int .u8 0, .int .u8 0, .int .u8 0] 137 (0, 0)) :: S))
def strconv_FormatInt_2_b3 (R : RT) (x0 : Int) (x17 : Bool) (I : IMem) (S : SH) : Prop :=
  bcase x17
    (Runs Tryz.prog 79 #[.int .i64 x0] I S fun v I1 S1 => ∃ u0, v = .string u0 ∧
    R (.string u0) I1 S1)
    (strconv_FormatInt_2_b4 R x0 I S)
def strconv_FormatInt_2_b6 (R : RT) (x0 x1 : Int) (I : IMem) (S : SH) : Prop :=
  Runs Tryz.prog 82 #[.slice none 0 0, .int .u64 (IntKind.wrap .u64 x0), .int .i64 x1, .bool (decide (x0 < (0 : Int))), .bool false] I S fun v I1 S1 => ∃ u0 u0n u0c u1, v = .tuple #[.slice u0 u0n u0c, .string u1] ∧
  R (.string u1) I1 S1
def strconv_FormatInt_2_b2 (R : RT) (x0 x1 : Int) (x11 : Bool) (I : IMem) (S : SH) : Prop :=
  bcase x11
    (bcase (decide ((0 : Int) ≤ x0))
      (strconv_FormatInt_2_b3 R x0 (decide (x0 < (100 : Int))) I S)
      (strconv_FormatInt_2_b3 R x0 false I S))
    (strconv_FormatInt_2_b6 R x0 x1 I S)
def strconv_FormatInt_2_b1 (R : RT) (x0 x1 : Int) (I : IMem) (S : SH) : Prop :=
  strconv_FormatInt_2_b2 R x0 x1 (x1 == (10 : Int)) I S
def strconv_FormatInt_2 (R : RT) (u0 u1 : Int) (I : IMem) (S : SH) : Prop :=
  strconv_FormatInt_2_b1 R u0 u1 I S
theorem strconv_FormatInt_2_fn (R : RT) (u0 u1 : Int) (I : IMem) (S : SH) (h : strconv_FormatInt_2 R u0 u1 I S) : Runs Tryz.prog 71 #[.int .i64 u0, .int .i64 u1] I S R := by
  refine Runs.of_wp (c := cd Tryz.f71) Tryz.func71 (by kernel_rfl) (by kernel_rfl) ?_
  refine cO 1 [kI .i64 0, kI .i64 1] (strconv_FormatInt_2_b1 R) h fun _ _ _ _ _ _ h => ?_
  refine sO [kI .i64 0, kI .i64 1] (strconv_FormatInt_2_b6 R) ?_ fun _ _ _ _ _ _ h => ?_
  · refine cO 1 [kI .i64 0, kI .i64 1, kB 11] (strconv_FormatInt_2_b2 R) h fun _ _ _ _ _ _ _ h => ?_
    refine cD h (fun h => ?_) fun h => pS h
    refine sO [kI .i64 0] (strconv_FormatInt_2_b4 R) ?_ fun _ _ _ _ _ h => ?_
    · refine cO 1 [kI .i64 0, kB 17] (strconv_FormatInt_2_b3 R) h fun _ _ _ _ _ _ h => ?_
      exact pS h
    refine cO 3 [kI .i64 0, kA 5, kI .u64 6] (strconv_FormatInt_2_b5 R) h fun _ _ _ _ _ _ _ h => ?_
    exact pS h
  exact pS h
def strconv_small (R : RT) (u0 : Int) (I : IMem) (S : SH) : Prop :=
  bcase (decide (u0 < (10 : Int)))
    ((0 : Int) ≤ (IntKind.wrap .i64 (u0 + (1 : Int))) ∧ (IntKind.wrap .i64 (u0 + (1 : Int))) ≤ ((strT1_69c1.size : Nat) : Int) ∧
    (0 : Int) ≤ u0 ∧ u0 ≤ (((IntKind.wrap .i64 (u0 + (1 : Int))).toNat : Nat) : Int) ∧
    R (.string (strT1_69c1.extract u0.toNat ((IntKind.wrap .i64 (u0 + (1 : Int))).toNat))) I S)
    ((0 : Int) ≤ (IntKind.wrap .i64 ((IntKind.wrap .i64 (u0 * (2 : Int))) + (2 : Int))) ∧ (IntKind.wrap .i64 ((IntKind.wrap .i64 (u0 * (2 : Int))) + (2 : Int))) ≤ ((strT1_7034.size : Nat) : Int) ∧
    (0 : Int) ≤ (IntKind.wrap .i64 (u0 * (2 : Int))) ∧ (IntKind.wrap .i64 (u0 * (2 : Int))) ≤ (((IntKind.wrap .i64 ((IntKind.wrap .i64 (u0 * (2 : Int))) + (2 : Int))).toNat : Nat) : Int) ∧
    R (.string (strT1_7034.extract ((IntKind.wrap .i64 (u0 * (2 : Int))).toNat) ((IntKind.wrap .i64 ((IntKind.wrap .i64 (u0 * (2 : Int))) + (2 : Int))).toNat))) I S)
theorem strconv_small_fn (R : RT) (u0 : Int) (I : IMem) (S : SH) (h : strconv_small R u0 I S) : Runs Tryz.prog 79 #[.int .i64 u0] I S R := by
  refine Runs.of_wp (c := cd Tryz.f79) Tryz.func79 (by kernel_rfl) (by kernel_rfl) ?_
  exact pS h
def strconv_numDigits (R : RT) (u0 : Int) (I : IMem) (S : SH) : Prop :=
  Runs Tryz.prog 93 #[.int .u64 u0] I S fun v I1 S1 => ∃ u1, v = .int .i64 u1 ∧
  Runs Tryz.prog 92 #[.int .i64 u1] I1 S1 fun v' I1' S1' => ∃ u2, v' = .int .i64 u2 ∧
  (0 : Int) ≤ u2 ∧ u2 < ((20 : Nat) : Int) ∧
  ∃ u3, Cell I1' S1' ((⟨0, 0, none⟩ : Addr).add (u2.toNat * 1)) (.int .u64 u3) ∧
  Runs Tryz.prog 94 #[.bool (decide (u0 ≥ u3))] I1' S1' fun v'' I1'' S1'' => ∃ u4, v'' = .int .i64 u4 ∧
  R (.int .i64 (IntKind.wrap .i64 (u2 + u4))) I1'' S1''
theorem strconv_numDigits_fn (R : RT) (u0 : Int) (I : IMem) (S : SH) (h : strconv_numDigits R u0 I S) : Runs Tryz.prog 80 #[.int .u64 u0] I S R := by
  refine Runs.of_wp (c := cd Tryz.f80) Tryz.func80 (by kernel_rfl) (by kernel_rfl) ?_
  exact pS h
abbrev strconv_formatBase10_t2 := OA → Nat → Nat → Int → Int → PR
def strconv_formatBase10_b8 (g2 : strconv_formatBase10_t2) (R : RT) (x0 : OA) (x0n x0c : Nat) (x1 x4 : Int) (I : IMem) (S : SH) : Prop :=
  g2 x0 x0n x0c x1 (IntKind.wrap .i64 (x4 - (8 : Int))) I S
def strconv_formatBase10_b7 (g2 : strconv_formatBase10_t2) (R : RT) (x0 : OA) (x0n x0c : Nat) (x1 x4 x10 : Int) (I : IMem) (S : SH) : Prop :=
  ∃ u0 : UInt8, (0 : Int) ≤ (IntKind.wrap .u32 (x10 + (1 : Int))) ∧ strT1_7034[(IntKind.wrap .u32 (x10 + (1 : Int))).toNat]? = some u0 ∧
  ∃ u1 : UInt8, (0 : Int) ≤ x10 ∧ strT1_7034[x10.toNat]? = some u1 ∧
  ptrP x0 fun u2 => (0 : Int) ≤ (IntKind.wrap .i64 (x4 - (7 : Int))) ∧ (IntKind.wrap .i64 (x4 - (7 : Int))) < (x0n : Int) ∧
  StP S (u2.add ((IntKind.wrap .i64 (x4 - (7 : Int))).toNat * 1)) [.int .u8 (u0.toNat : Int)] fun S1 =>
  ptrP x0 fun u3 => (0 : Int) ≤ (IntKind.wrap .i64 (x4 - (8 : Int))) ∧ (IntKind.wrap .i64 (x4 - (8 : Int))) < (x0n : Int) ∧
  StP S1 (u3.add ((IntKind.wrap .i64 (x4 - (8 : Int))).toNat * 1)) [.int .u8 (u1.toNat : Int)] fun S1' =>
  strconv_formatBase10_b8 g2 R x0 x0n x0c x1 x4 I S1'
def strconv_formatBase10_b6 (g2 : strconv_formatBase10_t2) (R : RT) (x0 : OA) (x0n x0c : Nat) (x1 x4 x10 x11 : Int) (I : IMem) (S : SH) : Prop :=
  ∃ u0 : UInt8, (0 : Int) ≤ (IntKind.wrap .u32 (x11 + (1 : Int))) ∧ strT1_7034[(IntKind.wrap .u32 (x11 + (1 : Int))).toNat]? = some u0 ∧
  ∃ u1 : UInt8, (0 : Int) ≤ x11 ∧ strT1_7034[x11.toNat]? = some u1 ∧
  ptrP x0 fun u2 => (0 : Int) ≤ (IntKind.wrap .i64 (x4 - (5 : Int))) ∧ (IntKind.wrap .i64 (x4 - (5 : Int))) < (x0n : Int) ∧
  StP S (u2.add ((IntKind.wrap .i64 (x4 - (5 : Int))).toNat * 1)) [.int .u8 (u0.toNat : Int)] fun S1 =>
  ptrP x0 fun u3 => (0 : Int) ≤ (IntKind.wrap .i64 (x4 - (6 : Int))) ∧ (IntKind.wrap .i64 (x4 - (6 : Int))) < (x0n : Int) ∧
  StP S1 (u3.add ((IntKind.wrap .i64 (x4 - (6 : Int))).toNat * 1)) [.int .u8 (u1.toNat : Int)] fun S1' =>
  strconv_formatBase10_b7 g2 R x0 x0n x0c x1 x4 x10 I S1'
def strconv_formatBase10_b5 (g2 : strconv_formatBase10_t2) (R : RT) (x0 : OA) (x0n x0c : Nat) (x1 x4 x8 x10 x11 : Int) (I : IMem) (S : SH) : Prop :=
  ∃ u0 : UInt8, (0 : Int) ≤ (IntKind.wrap .u32 (x8 + (1 : Int))) ∧ strT1_7034[(IntKind.wrap .u32 (x8 + (1 : Int))).toNat]? = some u0 ∧
  ∃ u1 : UInt8, (0 : Int) ≤ x8 ∧ strT1_7034[x8.toNat]? = some u1 ∧
  ptrP x0 fun u2 => (0 : Int) ≤ (IntKind.wrap .i64 (x4 - (3 : Int))) ∧ (IntKind.wrap .i64 (x4 - (3 : Int))) < (x0n : Int) ∧
  StP S (u2.add ((IntKind.wrap .i64 (x4 - (3 : Int))).toNat * 1)) [.int .u8 (u0.toNat : Int)] fun S1 =>
  ptrP x0 fun u3 => (0 : Int) ≤ (IntKind.wrap .i64 (x4 - (4 : Int))) ∧ (IntKind.wrap .i64 (x4 - (4 : Int))) < (x0n : Int) ∧
  StP S1 (u3.add ((IntKind.wrap .i64 (x4 - (4 : Int))).toNat * 1)) [.int .u8 (u1.toNat : Int)] fun S1' =>
  strconv_formatBase10_b6 g2 R x0 x0n x0c x1 x4 x10 x11 I S1'
def strconv_formatBase10_b4 (g2 : strconv_formatBase10_t2) (R : RT) (x0 : OA) (x0n x0c : Nat) (x1 x4 x8 x9 x10 x11 : Int) (I : IMem) (S : SH) : Prop :=
  ∃ u0 : UInt8, (0 : Int) ≤ (IntKind.wrap .u32 (x9 + (1 : Int))) ∧ strT1_7034[(IntKind.wrap .u32 (x9 + (1 : Int))).toNat]? = some u0 ∧
  ∃ u1 : UInt8, (0 : Int) ≤ x9 ∧ strT1_7034[x9.toNat]? = some u1 ∧
  ptrP x0 fun u2 => (0 : Int) ≤ (IntKind.wrap .i64 (x4 - (1 : Int))) ∧ (IntKind.wrap .i64 (x4 - (1 : Int))) < (x0n : Int) ∧
  StP S (u2.add ((IntKind.wrap .i64 (x4 - (1 : Int))).toNat * 1)) [.int .u8 (u0.toNat : Int)] fun S1 =>
  ptrP x0 fun u3 => (0 : Int) ≤ (IntKind.wrap .i64 (x4 - (2 : Int))) ∧ (IntKind.wrap .i64 (x4 - (2 : Int))) < (x0n : Int) ∧
  StP S1 (u3.add ((IntKind.wrap .i64 (x4 - (2 : Int))).toNat * 1)) [.int .u8 (u1.toNat : Int)] fun S1' =>
  strconv_formatBase10_b5 g2 R x0 x0n x0c x1 x4 x8 x10 x11 I S1'
def strconv_formatBase10_b3 (g2 : strconv_formatBase10_t2) (R : RT) (x0 : OA) (x0n x0c : Nat) (x1 x4 : Int) (I : IMem) (S : SH) : Prop :=
  strconv_formatBase10_b4 g2 R x0 x0n x0c (IntKind.wrap .u64 (x1.tdiv (100000000 : Int))) x4 (IntKind.wrap .u32 ((IntKind.wrap .u32 (((IntKind.wrap .u32 (x1.tmod (100000000 : Int))).tmod (10000 : Int)).tdiv (100 : Int))) * (2 : Int))) (IntKind.wrap .u32 ((((IntKind.wrap .u32 (x1.tmod (100000000 : Int))).tmod (10000 : Int)).tmod (100 : Int)) * (2 : Int))) (IntKind.wrap .u32 ((IntKind.wrap .u32 ((IntKind.wrap .u32 ((IntKind.wrap .u32 (x1.tmod (100000000 : Int))).tdiv (10000 : Int))).tdiv (100 : Int))) * (2 : Int))) (IntKind.wrap .u32 (((IntKind.wrap .u32 ((IntKind.wrap .u32 (x1.tmod (100000000 : Int))).tdiv (10000 : Int))).tmod (100 : Int)) * (2 : Int))) I S
def strconv_formatBase10_b19 (R : RT) (x0 : OA) (x0n x0c : Nat) (x4 x12 : Int) (I : IMem) (S : SH) : Prop :=
  bcase (decide (x4 > (0 : Int)))
    (ptrP x0 fun u0 => (0 : Int) ≤ (0 : Int) ∧ (0 : Int) < (x0n : Int) ∧
    StP S (u0.add ((0 : Int).toNat * 1)) [.int .u8 (IntKind.wrap .u8 (IntKind.wrap .u32 ((48 : Int) + x12)))] fun S1 =>
    R (.tuple #[]) I S1)
    (R (.tuple #[]) I S)
def strconv_formatBase10_b18 (R : RT) (x0 : OA) (x0n x0c : Nat) (x4 x12 : Int) (I : IMem) (S : SH) : Prop :=
  strconv_formatBase10_b19 R x0 x0n x0c (IntKind.wrap .i64 (x4 - (2 : Int))) x12 I S
def strconv_formatBase10_b17 (R : RT) (x0 : OA) (x0n x0c : Nat) (x4 x12 x16 : Int) (I : IMem) (S : SH) : Prop :=
  ∃ u0 : UInt8, (0 : Int) ≤ (IntKind.wrap .u32 (x16 + (1 : Int))) ∧ strT1_7034[(IntKind.wrap .u32 (x16 + (1 : Int))).toNat]? = some u0 ∧
  ∃ u1 : UInt8, (0 : Int) ≤ x16 ∧ strT1_7034[x16.toNat]? = some u1 ∧
  ptrP x0 fun u2 => (0 : Int) ≤ (IntKind.wrap .i64 (x4 - (1 : Int))) ∧ (IntKind.wrap .i64 (x4 - (1 : Int))) < (x0n : Int) ∧
  StP S (u2.add ((IntKind.wrap .i64 (x4 - (1 : Int))).toNat * 1)) [.int .u8 (u0.toNat : Int)] fun S1 =>
  ptrP x0 fun u3 => (0 : Int) ≤ (IntKind.wrap .i64 (x4 - (2 : Int))) ∧ (IntKind.wrap .i64 (x4 - (2 : Int))) < (x0n : Int) ∧
  StP S1 (u3.add ((IntKind.wrap .i64 (x4 - (2 : Int))).toNat * 1)) [.int .u8 (u1.toNat : Int)] fun S1' =>
  strconv_formatBase10_b18 R x0 x0n x0c x4 x12 I S1'
def strconv_formatBase10_b16 (R : RT) (x0 : OA) (x0n x0c : Nat) (x4 x12 : Int) (x139 : Bool) (I : IMem) (S : SH) : Prop :=
  bcase x139
    (strconv_formatBase10_b17 R x0 x0n x0c x4 (IntKind.wrap .u32 (x12.tdiv (100 : Int))) (IntKind.wrap .u32 ((x12.tmod (100 : Int)) * (2 : Int))) I S)
    (strconv_formatBase10_b19 R x0 x0n x0c x4 x12 I S)
def strconv_formatBase10_b15 (R : RT) (x0 : OA) (x0n x0c : Nat) (x4 x12 : Int) (I : IMem) (S : SH) : Prop :=
  strconv_formatBase10_b16 R x0 x0n x0c x4 x12 (decide (x4 ≥ (2 : Int))) I S
def strconv_formatBase10_b14 (R : RT) (x0 : OA) (x0n x0c : Nat) (x4 x12 : Int) (I : IMem) (S : SH) : Prop :=
  strconv_formatBase10_b15 R x0 x0n x0c (IntKind.wrap .i64 (x4 - (4 : Int))) x12 I S
def strconv_formatBase10_b13 (R : RT) (x0 : OA) (x0n x0c : Nat) (x4 x12 x14 : Int) (I : IMem) (S : SH) : Prop :=
  ∃ u0 : UInt8, (0 : Int) ≤ (IntKind.wrap .u32 (x14 + (1 : Int))) ∧ strT1_7034[(IntKind.wrap .u32 (x14 + (1 : Int))).toNat]? = some u0 ∧
  ∃ u1 : UInt8, (0 : Int) ≤ x14 ∧ strT1_7034[x14.toNat]? = some u1 ∧
  ptrP x0 fun u2 => (0 : Int) ≤ (IntKind.wrap .i64 (x4 - (3 : Int))) ∧ (IntKind.wrap .i64 (x4 - (3 : Int))) < (x0n : Int) ∧
  StP S (u2.add ((IntKind.wrap .i64 (x4 - (3 : Int))).toNat * 1)) [.int .u8 (u0.toNat : Int)] fun S1 =>
  ptrP x0 fun u3 => (0 : Int) ≤ (IntKind.wrap .i64 (x4 - (4 : Int))) ∧ (IntKind.wrap .i64 (x4 - (4 : Int))) < (x0n : Int) ∧
  StP S1 (u3.add ((IntKind.wrap .i64 (x4 - (4 : Int))).toNat * 1)) [.int .u8 (u1.toNat : Int)] fun S1' =>
  strconv_formatBase10_b14 R x0 x0n x0c x4 x12 I S1'
def strconv_formatBase10_b12 (R : RT) (x0 : OA) (x0n x0c : Nat) (x4 x12 x14 x15 : Int) (I : IMem) (S : SH) : Prop :=
  ∃ u0 : UInt8, (0 : Int) ≤ (IntKind.wrap .u32 (x15 + (1 : Int))) ∧ strT1_7034[(IntKind.wrap .u32 (x15 + (1 : Int))).toNat]? = some u0 ∧
  ∃ u1 : UInt8, (0 : Int) ≤ x15 ∧ strT1_7034[x15.toNat]? = some u1 ∧
  ptrP x0 fun u2 => (0 : Int) ≤ (IntKind.wrap .i64 (x4 - (1 : Int))) ∧ (IntKind.wrap .i64 (x4 - (1 : Int))) < (x0n : Int) ∧
  StP S (u2.add ((IntKind.wrap .i64 (x4 - (1 : Int))).toNat * 1)) [.int .u8 (u0.toNat : Int)] fun S1 =>
  ptrP x0 fun u3 => (0 : Int) ≤ (IntKind.wrap .i64 (x4 - (2 : Int))) ∧ (IntKind.wrap .i64 (x4 - (2 : Int))) < (x0n : Int) ∧
  StP S1 (u3.add ((IntKind.wrap .i64 (x4 - (2 : Int))).toNat * 1)) [.int .u8 (u1.toNat : Int)] fun S1' =>
  strconv_formatBase10_b13 R x0 x0n x0c x4 x12 x14 I S1'
def strconv_formatBase10_b11 (R : RT) (x0 : OA) (x0n x0c : Nat) (x4 x12 : Int) (x99 : Bool) (I : IMem) (S : SH) : Prop :=
  bcase x99
    (strconv_formatBase10_b12 R x0 x0n x0c x4 (IntKind.wrap .u32 (x12.tdiv (10000 : Int))) (IntKind.wrap .u32 ((IntKind.wrap .u32 ((x12.tmod (10000 : Int)).tdiv (100 : Int))) * (2 : Int))) (IntKind.wrap .u32 (((x12.tmod (10000 : Int)).tmod (100 : Int)) * (2 : Int))) I S)
    (strconv_formatBase10_b15 R x0 x0n x0c x4 x12 I S)
def strconv_formatBase10_b10 (R : RT) (x0 : OA) (x0n x0c : Nat) (x4 x12 : Int) (I : IMem) (S : SH) : Prop :=
  strconv_formatBase10_b11 R x0 x0n x0c x4 x12 (decide (x4 ≥ (4 : Int))) I S
def strconv_formatBase10_b9 (R : RT) (x0 : OA) (x0n x0c : Nat) (x1 x4 : Int) (I : IMem) (S : SH) : Prop :=
  strconv_formatBase10_b10 R x0 x0n x0c x4 (IntKind.wrap .u32 x1) I S
def strconv_formatBase10_l2 (g2 : strconv_formatBase10_t2) (R : RT) (x0 : OA) (x0n x0c : Nat) (x1 x4 : Int) (I : IMem) (S : SH) : Prop :=
  bcase (decide (x4 ≥ (8 : Int)))
    (strconv_formatBase10_b3 g2 R x0 x0n x0c x1 x4 I S)
    (strconv_formatBase10_b9 R x0 x0n x0c x1 x4 I S)
def strconv_formatBase10_b1 (R : RT) (x0 : OA) (x0n x0c : Nat) (x1 x4 : Int) (I : IMem) (S : SH) : Prop :=
  ∃ (Inv : Nat → strconv_formatBase10_t2) (m : Nat), Inv m x0 x0n x0c x1 x4 I S ∧
    ∀ (m : Nat) (x0 : OA) (x0n x0c : Nat) (x1 x4 : Int) (J : IMem) (T : SH), I.le J → Inv m x0 x0n x0c x1 x4 J T →
      strconv_formatBase10_l2 (fun x0 x0n x0c x1 x4 I S => ∃ m', m' < m ∧ Inv m' x0 x0n x0c x1 x4 I S) R x0 x0n x0c x1 x4 J T
def strconv_formatBase10 (R : RT) (u0 : OA) (u0n u0c : Nat) (u1 : Int) (I : IMem) (S : SH) : Prop :=
  strconv_formatBase10_b1 R u0 u0n u0c u1 (u0n : Int) I S
theorem strconv_formatBase10_fn (R : RT) (u0 : OA) (u0n u0c : Nat) (u1 : Int) (I : IMem) (S : SH) (h : strconv_formatBase10 R u0 u0n u0c u1 I S) : Runs Tryz.prog 81 #[.slice u0 u0n u0c, .int .u64 u1] I S R := by
  refine Runs.of_wp (c := cd Tryz.f81) Tryz.func81 (by kernel_rfl) (by kernel_rfl) ?_
  refine cO 1 [kL 0, kI .u64 1, kI .i64 4] (strconv_formatBase10_b1 R) h fun _ _ _ _ _ _ _ _ _ h => ?_
  refine sO [kL 0, kI .u64 1, kI .i64 4] (strconv_formatBase10_b9 R) ?_ fun _ _ _ _ _ _ _ _ _ h => ?_
  · refine bK ?_
    obtain ⟨Vg2, mg2, h, hr⟩ := h
    refine lO [kL 0, kI .u64 1, kI .i64 4] Vg2 mg2 h fun mg2 _ I S hle x0 x0n x0c x1 x4 h => ?_
    have h := hr mg2 x0 x0n x0c x1 x4 I S hle h
    refine cO 1 [kL 0, kI .u64 1, kI .i64 4] (strconv_formatBase10_b3 (fun x0 x0n x0c x1 x4 I S => ∃ m', m' < mg2 ∧ Vg2 m' x0 x0n x0c x1 x4 I S) R) h fun _ _ _ _ _ _ _ _ _ h => ?_
    refine bK ?_
    refine cO 5 [kL 0, kI .u64 1, kI .i64 4, kI .u32 8, kI .u32 9, kI .u32 10, kI .u32 11] (strconv_formatBase10_b4 (fun x0 x0n x0c x1 x4 I S => ∃ m', m' < mg2 ∧ Vg2 m' x0 x0n x0c x1 x4 I S) R) h fun _ _ _ _ _ _ _ _ _ _ _ _ _ h => ?_
    refine sO [kL 0, kI .u64 1, kI .i64 4, kI .u32 8, kI .u32 10, kI .u32 11] (strconv_formatBase10_b5 (fun x0 x0n x0c x1 x4 I S => ∃ m', m' < mg2 ∧ Vg2 m' x0 x0n x0c x1 x4 I S) R) (dR (tk 12 0 (.step 12 (.take 13 (.step 14 .done)))) [12, 14] h) fun _ _ _ _ _ _ _ _ _ _ _ _ h => ?_
    refine sO [kL 0, kI .u64 1, kI .i64 4, kI .u32 10, kI .u32 11] (strconv_formatBase10_b6 (fun x0 x0n x0c x1 x4 I S => ∃ m', m' < mg2 ∧ Vg2 m' x0 x0n x0c x1 x4 I S) R) (dR (tk 12 0 (.step 12 (.take 13 (.step 14 .done)))) [12, 14] h) fun _ _ _ _ _ _ _ _ _ _ _ h => ?_
    refine sO [kL 0, kI .u64 1, kI .i64 4, kI .u32 10] (strconv_formatBase10_b7 (fun x0 x0n x0c x1 x4 I S => ∃ m', m' < mg2 ∧ Vg2 m' x0 x0n x0c x1 x4 I S) R) (dR (tk 12 0 (.step 12 (.take 13 (.step 14 .done)))) [12, 14] h) fun _ _ _ _ _ _ _ _ _ _ h => ?_
    refine sO [kL 0, kI .u64 1, kI .i64 4] (strconv_formatBase10_b8 (fun x0 x0n x0c x1 x4 I S => ∃ m', m' < mg2 ∧ Vg2 m' x0 x0n x0c x1 x4 I S) R) (dR (tk 12 0 (.step 12 (.take 13 (.step 14 .done)))) [12, 14] h) fun _ _ _ _ _ _ _ _ _ h => ?_
    exact pS h
  refine cO 1 [kL 0, kI .i64 4, kI .u32 12] (strconv_formatBase10_b10 R) h fun _ _ _ _ _ _ _ _ _ h => ?_
  refine sO [kL 0, kI .i64 4, kI .u32 12] (strconv_formatBase10_b15 R) ?_ fun _ _ _ _ _ _ _ _ _ h => ?_
  · refine cO 1 [kL 0, kI .i64 4, kI .u32 12, kB 99] (strconv_formatBase10_b11 R) h fun _ _ _ _ _ _ _ _ _ _ h => ?_
    refine cD h (fun h => ?_) fun h => pS h
    refine cO 3 [kL 0, kI .i64 4, kI .u32 12, kI .u32 14, kI .u32 15] (strconv_formatBase10_b12 R) h fun _ _ _ _ _ _ _ _ _ _ _ h => ?_
    refine sO [kL 0, kI .i64 4, kI .u32 12, kI .u32 14] (strconv_formatBase10_b13 R) (dR (tk 12 0 (.step 12 (.take 13 (.step 14 .done)))) [12, 14] h) fun _ _ _ _ _ _ _ _ _ _ h => ?_
    refine sO [kL 0, kI .i64 4, kI .u32 12] (strconv_formatBase10_b14 R) (dR (tk 12 0 (.step 12 (.take 13 (.step 14 .done)))) [12, 14] h) fun _ _ _ _ _ _ _ _ _ h => ?_
    exact pS h
  refine sO [kL 0, kI .i64 4, kI .u32 12] (strconv_formatBase10_b19 R) ?_ fun _ _ _ _ _ _ _ _ _ h => ?_
  · refine cO 1 [kL 0, kI .i64 4, kI .u32 12, kB 139] (strconv_formatBase10_b16 R) h fun _ _ _ _ _ _ _ _ _ _ h => ?_
    refine cD h (fun h => ?_) fun h => pS h
    refine cO 2 [kL 0, kI .i64 4, kI .u32 12, kI .u32 16] (strconv_formatBase10_b17 R) h fun _ _ _ _ _ _ _ _ _ _ h => ?_
    refine sO [kL 0, kI .i64 4, kI .u32 12] (strconv_formatBase10_b18 R) (dR (tk 12 0 (.step 12 (.take 13 (.step 14 .done)))) [12, 14] h) fun _ _ _ _ _ _ _ _ _ h => ?_
    exact pS h
  exact pS h
abbrev strconv_formatBits_t7 := OA → Nat → Nat → Int → Bool → Bool → OA → Nat → Nat → ByteArray → Addr → Int → Int → Int → Int → PR
def strconv_formatBits_b10 (R : RT) (x0 : OA) (x0n x0c : Nat) (x4 : Bool) (x10 : OA) (x10n x10c : Nat) (x11 : ByteArray) (x12 : Addr) (x13 : Int) (I : IMem) (S : SH) : Prop :=
  bcase x4
    ((0 : Int) ≤ x13 ∧ x13 ≤ ((65 : Nat) : Int) ∧
    AppG 5 1 1 [.int .u8 0] (some (.slice 5)) I S (.slice x0 x0n x0c) (.slice (slA (some x12) 65 x13.toNat 1) (65 - x13.toNat) (65 - x13.toNat)) fun u0 u0n u0c S1 =>
    R (.tuple #[.slice u0 u0n u0c, .string x11]) I S1)
    ((0 : Int) ≤ x13 ∧ x13 ≤ ((65 : Nat) : Int) ∧
    ∃ u1 : ByteArray, BytesAt I S (slA (some x12) 65 x13.toNat 1) (65 - x13.toNat) u1 ∧
    R (.tuple #[.slice x10 x10n x10c, .string u1]) I S)
def strconv_formatBits_b9 (R : RT) (x0 : OA) (x0n x0c : Nat) (x3 x4 : Bool) (x10 : OA) (x10n x10c : Nat) (x11 : ByteArray) (x12 : Addr) (x13 : Int) (I : IMem) (S : SH) : Prop :=
  bcase x3
    ((0 : Int) ≤ (IntKind.wrap .i64 (x13 - (1 : Int))) ∧ (IntKind.wrap .i64 (x13 - (1 : Int))) < ((65 : Nat) : Int) ∧
    StP S (x12.add ((IntKind.wrap .i64 (x13 - (1 : Int))).toNat * 1)) [.int .u8 45] fun S1 =>
    strconv_formatBits_b10 R x0 x0n x0c x4 x10 x10n x10c x11 x12 (IntKind.wrap .i64 (x13 - (1 : Int))) I S1)
    (strconv_formatBits_b10 R x0 x0n x0c x4 x10 x10n x10c x11 x12 x13 I S)
def strconv_formatBits_b8 (R : RT) (x0 : OA) (x0n x0c : Nat) (x1 : Int) (x3 x4 : Bool) (x10 : OA) (x10n x10c : Nat) (x11 : ByteArray) (x12 : Addr) (x13 : Int) (I : IMem) (S : SH) : Prop :=
  ∃ u0 : UInt8, (0 : Int) ≤ x1 ∧ strT1_69c1[x1.toNat]? = some u0 ∧
  (0 : Int) ≤ (IntKind.wrap .i64 (x13 - (1 : Int))) ∧ (IntKind.wrap .i64 (x13 - (1 : Int))) < ((65 : Nat) : Int) ∧
  StP S (x12.add ((IntKind.wrap .i64 (x13 - (1 : Int))).toNat * 1)) [.int .u8 (u0.toNat : Int)] fun S1 =>
  strconv_formatBits_b9 R x0 x0n x0c x3 x4 x10 x10n x10c x11 x12 (IntKind.wrap .i64 (x13 - (1 : Int))) I S1
def strconv_formatBits_l7 (g7 : strconv_formatBits_t7) (R : RT) (x0 : OA) (x0n x0c : Nat) (x1 : Int) (x3 x4 : Bool) (x10 : OA) (x10n x10c : Nat) (x11 : ByteArray) (x12 : Addr) (x13 x14 x15 x16 : Int) (I : IMem) (S : SH) : Prop :=
  bcase (decide (x1 ≥ x15))
    (∃ u0 : UInt8, (0 : Int) ≤ (iand .u64 x1 x16) ∧ strT1_69c1[(iand .u64 x1 x16).toNat]? = some u0 ∧
    (0 : Int) ≤ (IntKind.wrap .i64 (x13 - (1 : Int))) ∧ (IntKind.wrap .i64 (x13 - (1 : Int))) < ((65 : Nat) : Int) ∧
    StP S (x12.add ((IntKind.wrap .i64 (x13 - (1 : Int))).toNat * 1)) [.int .u8 (u0.toNat : Int)] fun S1 =>
    bcase (decide (x14 < 0)) False (g7 x0 x0n x0c (x1.fdiv (2 ^ (min x14.toNat (IntKind.bits .u64)))) x3 x4 x10 x10n x10c x11 x12 (IntKind.wrap .i64 (x13 - (1 : Int))) x14 x15 x16 I S1))
    (strconv_formatBits_b8 R x0 x0n x0c x1 x3 x4 x10 x10n x10c x11 x12 x13 I S)
def strconv_formatBits_b6 (R : RT) (x0 : OA) (x0n x0c : Nat) (x1 : Int) (x3 x4 : Bool) (x10 : OA) (x10n x10c : Nat) (x11 : ByteArray) (x12 : Addr) (x13 x14 x15 x16 : Int) (I : IMem) (S : SH) : Prop :=
  ∃ (Inv : Nat → strconv_formatBits_t7) (m : Nat), Inv m x0 x0n x0c x1 x3 x4 x10 x10n x10c x11 x12 x13 x14 x15 x16 I S ∧
    ∀ (m : Nat) (x0 : OA) (x0n x0c : Nat) (x1 : Int) (x3 x4 : Bool) (x10 : OA) (x10n x10c : Nat) (x11 : ByteArray) (x12 : Addr) (x13 x14 x15 x16 : Int) (J : IMem) (T : SH), I.le J → Inv m x0 x0n x0c x1 x3 x4 x10 x10n x10c x11 x12 x13 x14 x15 x16 J T →
      strconv_formatBits_l7 (fun x0 x0n x0c x1 x3 x4 x10 x10n x10c x11 x12 x13 x14 x15 x16 I S => ∃ m', m' < m ∧ Inv m' x0 x0n x0c x1 x3 x4 x10 x10n x10c x11 x12 x13 x14 x15 x16 I S) R x0 x0n x0c x1 x3 x4 x10 x10n x10c x11 x12 x13 x14 x15 x16 J T
abbrev strconv_formatBits_t12 := OA → Nat → Nat → Int → Bool → Bool → OA → Nat → Nat → ByteArray → Addr → Int → Int → PR
def strconv_formatBits_b13 (R : RT) (x0 : OA) (x0n x0c : Nat) (x1 : Int) (x3 x4 : Bool) (x10 : OA) (x10n x10c : Nat) (x11 : ByteArray) (x12 : Addr) (x13 : Int) (I : IMem) (S : SH) : Prop :=
  ∃ u0 : UInt8, (0 : Int) ≤ x1 ∧ strT1_69c1[x1.toNat]? = some u0 ∧
  (0 : Int) ≤ (IntKind.wrap .i64 (x13 - (1 : Int))) ∧ (IntKind.wrap .i64 (x13 - (1 : Int))) < ((65 : Nat) : Int) ∧
  StP S (x12.add ((IntKind.wrap .i64 (x13 - (1 : Int))).toNat * 1)) [.int .u8 (u0.toNat : Int)] fun S1 =>
  strconv_formatBits_b9 R x0 x0n x0c x3 x4 x10 x10n x10c x11 x12 (IntKind.wrap .i64 (x13 - (1 : Int))) I S1
def strconv_formatBits_l12 (g12 : strconv_formatBits_t12) (R : RT) (x0 : OA) (x0n x0c : Nat) (x1 : Int) (x3 x4 : Bool) (x10 : OA) (x10n x10c : Nat) (x11 : ByteArray) (x12 : Addr) (x13 x17 : Int) (I : IMem) (S : SH) : Prop :=
  bcase (decide (x1 ≥ x17))
    (bcase (decide (x17 = 0)) False (∃ u0 : UInt8, (0 : Int) ≤ (IntKind.wrap .u64 (x1 - (IntKind.wrap .u64 ((IntKind.wrap .u64 (x1.tdiv x17)) * x17)))) ∧ strT1_69c1[(IntKind.wrap .u64 (x1 - (IntKind.wrap .u64 ((IntKind.wrap .u64 (x1.tdiv x17)) * x17)))).toNat]? = some u0 ∧
    (0 : Int) ≤ (IntKind.wrap .i64 (x13 - (1 : Int))) ∧ (IntKind.wrap .i64 (x13 - (1 : Int))) < ((65 : Nat) : Int) ∧
    StP S (x12.add ((IntKind.wrap .i64 (x13 - (1 : Int))).toNat * 1)) [.int .u8 (u0.toNat : Int)] fun S1 =>
    g12 x0 x0n x0c (IntKind.wrap .u64 (x1.tdiv x17)) x3 x4 x10 x10n x10c x11 x12 (IntKind.wrap .i64 (x13 - (1 : Int))) x17 I S1))
    (strconv_formatBits_b13 R x0 x0n x0c x1 x3 x4 x10 x10n x10c x11 x12 x13 I S)
def strconv_formatBits_b11 (R : RT) (x0 : OA) (x0n x0c : Nat) (x1 : Int) (x3 x4 : Bool) (x10 : OA) (x10n x10c : Nat) (x11 : ByteArray) (x12 : Addr) (x13 x17 : Int) (I : IMem) (S : SH) : Prop :=
  ∃ (Inv : Nat → strconv_formatBits_t12) (m : Nat), Inv m x0 x0n x0c x1 x3 x4 x10 x10n x10c x11 x12 x13 x17 I S ∧
    ∀ (m : Nat) (x0 : OA) (x0n x0c : Nat) (x1 : Int) (x3 x4 : Bool) (x10 : OA) (x10n x10c : Nat) (x11 : ByteArray) (x12 : Addr) (x13 x17 : Int) (J : IMem) (T : SH), I.le J → Inv m x0 x0n x0c x1 x3 x4 x10 x10n x10c x11 x12 x13 x17 J T →
      strconv_formatBits_l12 (fun x0 x0n x0c x1 x3 x4 x10 x10n x10c x11 x12 x13 x17 I S => ∃ m', m' < m ∧ Inv m' x0 x0n x0c x1 x3 x4 x10 x10n x10c x11 x12 x13 x17 I S) R x0 x0n x0c x1 x3 x4 x10 x10n x10c x11 x12 x13 x17 J T
def strconv_formatBits_b5 (R : RT) (x0 : OA) (x0n x0c : Nat) (x1 x2 : Int) (x3 x4 : Bool) (x10 : OA) (x10n x10c : Nat) (x11 : ByteArray) (x12 : Addr) (x13 : Int) (x34 : Bool) (I : IMem) (S : SH) : Prop :=
  bcase x34
    (Runs Tryz.prog 96 #[.int .u64 (IntKind.wrap .u64 x2)] I S fun v I1 S1 => ∃ u0, v = .int .i64 u0 ∧
    strconv_formatBits_b6 R x0 x0n x0c x1 x3 x4 x10 x10n x10c x11 x12 x13 (IntKind.wrap .u64 u0) (IntKind.wrap .u64 x2) (IntKind.wrap .u64 ((IntKind.wrap .u64 x2) - (1 : Int))) I1 S1)
    (strconv_formatBits_b11 R x0 x0n x0c x1 x3 x4 x10 x10n x10c x11 x12 x13 (IntKind.wrap .u64 x2) I S)
def strconv_formatBits_b4 (R : RT) (x0 : OA) (x0n x0c : Nat) (x1 x2 : Int) (x3 x4 : Bool) (x10 : OA) (x10n x10c : Nat) (x11 : ByteArray) (x12 : Addr) (x13 : Int) (I : IMem) (S : SH) : Prop :=
  Runs Tryz.prog 95 #[.int .i64 x2] I S fun v I1 S1 => ∃ u0, v = .bool u0 ∧
  strconv_formatBits_b5 R x0 x0n x0c x1 x2 x3 x4 x10 x10n x10c x11 x12 x13 u0 I1 S1
def strconv_formatBits_b3 (R : RT) (x0 : OA) (x0n x0c : Nat) (x1 x2 : Int) (x3 x4 : Bool) (x10 : OA) (x10n x10c : Nat) (x11 : ByteArray) (I : IMem) (S : SH) : Prop :=
  ∀ b12 : Nat,
  bcase x3
    (strconv_formatBits_b4 R x0 x0n x0c (IntKind.wrap .u64 (0 - x1)) x2 x3 x4 x10 x10n x10c x11 ⟨b12, 0, none⟩ 65 I ((b12, .cells #[.int .u8 0, .int .u8 0, .int .u8 0, .int .u8 0, .int .u8 0, .int .u8 0, .int .u8 0, .int .u8 0, .int .u8 0, .int .u8 0, .int .u8 0, .int .u8 0, .int .u8 0, .int .u8 0, .int .u8 0, .int .u8 0, .int .u8 0, .int .u8 0, .int .u8 0, .int .u8 0, .int .u8 0, .int .u8 0, .int .u8 0, .int .u8 0, .int .u8 0, .int .u8 0, .int .u8 0, .int .u8 0, .int .u8 0, .int .u8 0, .int .u8 0, .int .u8 0, .int .u8 0, .int .u8 0, .int .u8 0, .int .u8 0, .int .u8 0, .int .u8 0, .int .u8 0, .int .u8 0, .int .u8 0, .int .u8 0, .int .u8 0, .int .u8 0, .int .u8 0, .int .u8 0, .int .u8 0, .int .u8 0, .int .u8 0, .int .u8 0, .int .u8 0, .int .u8 0, .int .u8 0, .int .u8 0, .int .u8 0, .int .u8 0, .int .u8 0, .int .u8 0, .int .u8 0, .int .u8 0, .int .u8 0, .int .u8 0, .int .u8 0, .int .u8 0, .int .u8 0] 154 (0, 0)) :: S))
    (strconv_formatBits_b4 R x0 x0n x0c x1 x2 x3 x4 x10 x10n x10c x11 ⟨b12, 0, none⟩ 65 I ((b12, .cells #[.int .u8 0, .int .u8 0, .int .u8 0, .int .u8 0, .int .u8 0, .int .u8 0, .int .u8 0, .int .u8 0, .int .u8 0, .int .u8 0, .int .u8 0, .int .u8 0, .int .u8 0, .int .u8 0, .int .u8 0, .int .u8 0, .int .u8 0, .int .u8 0, .int .u8 0, .int .u8 0, .int .u8 0, .int .u8 0, .int .u8 0, .int .u8 0, .int .u8 0, .int .u8 0, .int .u8 0, .int .u8 0, .int .u8 0, .int .u8 0, .int .u8 0, .int .u8 0, .int .u8 0, .int .u8 0, .int .u8 0, .int .u8 0, .int .u8 0, .int .u8 0, .int .u8 0, .int .u8 0, .int .u8 0, .int .u8 0, .int .u8 0, .int .u8 0, .int .u8 0, .int .u8 0, .int .u8 0, .int .u8 0, .int .u8 0, .int .u8 0, .int .u8 0, .int .u8 0, .int .u8 0, .int .u8 0, .int .u8 0, .int .u8 0, .int .u8 0, .int .u8 0, .int .u8 0, .int .u8 0, .int .u8 0, .int .u8 0, .int .u8 0, .int .u8 0, .int .u8 0] 154 (0, 0)) :: S))
def strconv_formatBits_b2 (R : RT) (x0 : OA) (x0n x0c : Nat) (x1 x2 : Int) (x3 x4 : Bool) (x10 : OA) (x10n x10c : Nat) (x11 : ByteArray) (x28 : Bool) (I : IMem) (S : SH) : Prop :=
  bcase x28
    (False)
    (strconv_formatBits_b3 R x0 x0n x0c x1 x2 x3 x4 x10 x10n x10c x11 I S)
def strconv_formatBits_b1 (R : RT) (x0 : OA) (x0n x0c : Nat) (x1 x2 : Int) (x3 x4 : Bool) (x10 : OA) (x10n x10c : Nat) (x11 : ByteArray) (I : IMem) (S : SH) : Prop :=
  bcase (decide (x2 < (2 : Int)))
    (strconv_formatBits_b2 R x0 x0n x0c x1 x2 x3 x4 x10 x10n x10c x11 true I S)
    (bcase (x2 == (10 : Int))
      (strconv_formatBits_b2 R x0 x0n x0c x1 x2 x3 x4 x10 x10n x10c x11 true I S)
      (strconv_formatBits_b2 R x0 x0n x0c x1 x2 x3 x4 x10 x10n x10c x11 (decide (x2 > (36 : Int))) I S))
def strconv_formatBits (R : RT) (u0 : OA) (u0n u0c : Nat) (u1 u2 : Int) (u3 u4 : Bool) (I : IMem) (S : SH) : Prop :=
  strconv_formatBits_b1 R u0 u0n u0c u1 u2 u3 u4 none 0 0 ⟨#[]⟩ I S
theorem strconv_formatBits_fn (R : RT) (u0 : OA) (u0n u0c : Nat) (u1 u2 : Int) (u3 u4 : Bool) (I : IMem) (S : SH) (h : strconv_formatBits R u0 u0n u0c u1 u2 u3 u4 I S) : Runs Tryz.prog 82 #[.slice u0 u0n u0c, .int .u64 u1, .int .i64 u2, .bool u3, .bool u4] I S R := by
  refine Runs.of_wp (c := cd Tryz.f82) Tryz.func82 (by kernel_rfl) (by kernel_rfl) ?_
  refine cO 1 [kL 0, kI .u64 1, kI .i64 2, kB 3, kB 4, kL 10, kS 11] (strconv_formatBits_b1 R) h fun _ _ _ _ _ _ _ _ _ _ _ _ _ _ _ h => ?_
  refine sO [kL 0, kI .u64 1, kI .i64 2, kB 3, kB 4, kL 10, kS 11] (strconv_formatBits_b3 R) ?_ fun _ _ _ _ _ _ _ _ _ _ _ _ _ _ _ h => ?_
  · refine cO 1 [kL 0, kI .u64 1, kI .i64 2, kB 3, kB 4, kL 10, kS 11, kB 28] (strconv_formatBits_b2 R) h fun _ _ _ _ _ _ _ _ _ _ _ _ _ _ _ _ h => ?_
    exact pS h
  refine cO 3 [kL 0, kI .u64 1, kI .i64 2, kB 3, kB 4, kL 10, kS 11, kA 12, kI .i64 13] (strconv_formatBits_b4 R) h fun _ _ _ _ _ _ _ _ _ _ _ _ _ _ _ _ _ h => ?_
  refine sO [kL 0, kB 3, kB 4, kL 10, kS 11, kA 12, kI .i64 13] (strconv_formatBits_b9 R) ?_ fun _ _ _ _ _ _ _ _ _ _ _ _ _ _ _ h => ?_
  · refine cO 1 [kL 0, kI .u64 1, kI .i64 2, kB 3, kB 4, kL 10, kS 11, kA 12, kI .i64 13, kB 34] (strconv_formatBits_b5 R) h fun _ _ _ _ _ _ _ _ _ _ _ _ _ _ _ _ _ _ h => ?_
    refine cD h (fun h => ?_) fun h => ?_
    · refine cO 3 [kL 0, kI .u64 1, kB 3, kB 4, kL 10, kS 11, kA 12, kI .i64 13, kI .u64 14, kI .u64 15, kI .u64 16] (strconv_formatBits_b6 R) h fun _ _ _ _ _ _ _ _ _ _ _ _ _ _ _ _ _ _ _ h => ?_
      refine sO [kL 0, kI .u64 1, kB 3, kB 4, kL 10, kS 11, kA 12, kI .i64 13] (strconv_formatBits_b8 R) ?_ fun _ _ _ _ _ _ _ _ _ _ _ _ _ _ _ _ h => ?_
      · refine bK ?_
        obtain ⟨Vg7, mg7, h, hr⟩ := h
        refine lO [kL 0, kI .u64 1, kB 3, kB 4, kL 10, kS 11, kA 12, kI .i64 13, kI .u64 14, kI .u64 15, kI .u64 16] Vg7 mg7 h fun mg7 _ I S hle x0 x0n x0c x1 x3 x4 x10 x10n x10c x11 x12 x13 x14 x15 x16 h => ?_
        have h := hr mg7 x0 x0n x0c x1 x3 x4 x10 x10n x10c x11 x12 x13 x14 x15 x16 I S hle h
        exact pS h
      exact pS h
    refine cO 1 [kL 0, kI .u64 1, kB 3, kB 4, kL 10, kS 11, kA 12, kI .i64 13, kI .u64 17] (strconv_formatBits_b11 R) h fun _ _ _ _ _ _ _ _ _ _ _ _ _ _ _ _ _ h => ?_
    refine sO [kL 0, kI .u64 1, kB 3, kB 4, kL 10, kS 11, kA 12, kI .i64 13] (strconv_formatBits_b13 R) ?_ fun _ _ _ _ _ _ _ _ _ _ _ _ _ _ _ _ h => ?_
    · refine bK ?_
      obtain ⟨Vg12, mg12, h, hr⟩ := h
      refine lO [kL 0, kI .u64 1, kB 3, kB 4, kL 10, kS 11, kA 12, kI .i64 13, kI .u64 17] Vg12 mg12 h fun mg12 _ I S hle x0 x0n x0c x1 x3 x4 x10 x10n x10c x11 x12 x13 x17 h => ?_
      have h := hr mg12 x0 x0n x0c x1 x3 x4 x10 x10n x10c x11 x12 x13 x17 I S hle h
      exact pS h
    exact pS h
  refine cO 1 [kL 0, kB 4, kL 10, kS 11, kA 12, kI .i64 13] (strconv_formatBits_b10 R) h fun _ _ _ _ _ _ _ _ _ _ _ _ _ _ h => ?_
  exact pS h
def strconv_isPowerOfTwo (R : RT) (u0 : Int) (I : IMem) (S : SH) : Prop :=
  R (.bool ((iand .i64 u0 (IntKind.wrap .i64 (u0 - (1 : Int)))) == (0 : Int))) I S
theorem strconv_isPowerOfTwo_fn (R : RT) (u0 : Int) (I : IMem) (S : SH) (h : strconv_isPowerOfTwo R u0 I S) : Runs Tryz.prog 95 #[.int .i64 u0] I S R := by
  refine Runs.of_wp (c := cd Tryz.f95) Tryz.func95 (by kernel_rfl) (by kernel_rfl) ?_
  exact pS h
def bits_TrailingZeros (R : RT) (u0 : Int) (I : IMem) (S : SH) : Prop :=
  Runs Tryz.prog 108 #[.int .u64 u0] I S fun v I1 S1 => ∃ u1, v = .int .i64 u1 ∧
  R (.int .i64 u1) I1 S1
theorem bits_TrailingZeros_fn (R : RT) (u0 : Int) (I : IMem) (S : SH) (h : bits_TrailingZeros R u0 I S) : Runs Tryz.prog 96 #[.int .u64 u0] I S R := by
  refine Runs.of_wp (c := cd Tryz.f96) Tryz.func96 (by kernel_rfl) (by kernel_rfl) ?_
  exact pS h
def bits_TrailingZeros64 (R : RT) (u0 : Int) (I : IMem) (S : SH) : Prop :=
  bcase (u0 == (0 : Int))
    (R (.int .i64 64) I S)
    ((0 : Int) ≤ ((IntKind.wrap .u64 ((iand .u64 u0 (IntKind.wrap .u64 (0 - u0))) * (285870213051353865 : Int))).fdiv (2 ^ (min (58 : Int).toNat (IntKind.bits .u64)))) ∧ ((IntKind.wrap .u64 ((iand .u64 u0 (IntKind.wrap .u64 (0 - u0))) * (285870213051353865 : Int))).fdiv (2 ^ (min (58 : Int).toNat (IntKind.bits .u64)))) < ((64 : Nat) : Int) ∧
    ∃ u1, Cell I S ((⟨4, 0, none⟩ : Addr).add (((IntKind.wrap .u64 ((iand .u64 u0 (IntKind.wrap .u64 (0 - u0))) * (285870213051353865 : Int))).fdiv (2 ^ (min (58 : Int).toNat (IntKind.bits .u64)))).toNat * 1)) (.int .u8 u1) ∧
    R (.int .i64 (IntKind.wrap .i64 u1)) I S)
theorem bits_TrailingZeros64_fn (R : RT) (u0 : Int) (I : IMem) (S : SH) (h : bits_TrailingZeros64 R u0 I S) : Runs Tryz.prog 108 #[.int .u64 u0] I S R := by
  refine Runs.of_wp (c := cd Tryz.f108) Tryz.func108 (by kernel_rfl) (by kernel_rfl) ?_
  exact pS h
def strconv_log10Pow2 (R : RT) (u0 : Int) (I : IMem) (S : SH) : Prop :=
  R (.int .i64 ((IntKind.wrap .i64 (u0 * (78913 : Int))).fdiv (2 ^ (min (18 : Int).toNat (IntKind.bits .i64))))) I S
theorem strconv_log10Pow2_fn (R : RT) (u0 : Int) (I : IMem) (S : SH) (h : strconv_log10Pow2 R u0 I S) : Runs Tryz.prog 92 #[.int .i64 u0] I S R := by
  refine Runs.of_wp (c := cd Tryz.f92) Tryz.func92 (by kernel_rfl) (by kernel_rfl) ?_
  exact pS h
def bits_Len64_b3 (R : RT) (x0 x2 : Int) (I : IMem) (S : SH) : Prop :=
  ∃ u0 : UInt8, (0 : Int) ≤ (IntKind.wrap .u8 x0) ∧ strT1_2a39[(IntKind.wrap .u8 x0).toNat]? = some u0 ∧
  R (.int .i64 (IntKind.wrap .i64 (x2 + (IntKind.wrap .i64 (u0.toNat : Int))))) I S
def bits_Len64_b2 (R : RT) (x0 x2 : Int) (I : IMem) (S : SH) : Prop :=
  bcase (decide (x0 ≥ (256 : Int)))
    (bits_Len64_b3 R (x0.fdiv (2 ^ (min (8 : Int).toNat (IntKind.bits .u64)))) (IntKind.wrap .i64 (x2 + (8 : Int))) I S)
    (bits_Len64_b3 R x0 x2 I S)
def bits_Len64_b1 (R : RT) (x0 x2 : Int) (I : IMem) (S : SH) : Prop :=
  bcase (decide (x0 ≥ (65536 : Int)))
    (bits_Len64_b2 R (x0.fdiv (2 ^ (min (16 : Int).toNat (IntKind.bits .u64)))) (IntKind.wrap .i64 (x2 + (16 : Int))) I S)
    (bits_Len64_b2 R x0 x2 I S)
def bits_Len64 (R : RT) (u0 : Int) (I : IMem) (S : SH) : Prop :=
  bcase (decide (u0 ≥ (4294967296 : Int)))
    (bits_Len64_b1 R (u0.fdiv (2 ^ (min (32 : Int).toNat (IntKind.bits .u64)))) 32 I S)
    (bits_Len64_b1 R u0 0 I S)
theorem bits_Len64_fn (R : RT) (u0 : Int) (I : IMem) (S : SH) (h : bits_Len64 R u0 I S) : Runs Tryz.prog 93 #[.int .u64 u0] I S R := by
  refine Runs.of_wp (c := cd Tryz.f93) Tryz.func93 (by kernel_rfl) (by kernel_rfl) ?_
  refine cO 2 [kI .u64 0, kI .i64 2] (bits_Len64_b1 R) h fun _ _ _ _ _ _ h => ?_
  refine cO 1 [kI .u64 0, kI .i64 2] (bits_Len64_b2 R) h fun _ _ _ _ _ _ h => ?_
  refine cO 1 [kI .u64 0, kI .i64 2] (bits_Len64_b3 R) h fun _ _ _ _ _ _ h => ?_
  exact pS h
def strconv_bool2_int (R : RT) (u0 : Bool) (I : IMem) (S : SH) : Prop :=
  bcase u0
    (R (.int .i64 1) I S)
    (R (.int .i64 0) I S)
theorem strconv_bool2_int_fn (R : RT) (u0 : Bool) (I : IMem) (S : SH) (h : strconv_bool2_int R u0 I S) : Runs Tryz.prog 94 #[.bool u0] I S R := by
  refine Runs.of_wp (c := cd Tryz.f94) Tryz.func94 (by kernel_rfl) (by kernel_rfl) ?_
  exact pS h
def strconv_Atoi (R : RT) (u0 : ByteArray) (I : IMem) (S : SH) : Prop :=
  Runs Tryz.prog 83 #[.string u0] I S fun v I1 S1 => ∃ u1 u2, v = .tuple #[.int .i64 u1, u2] ∧
  ∃ nl, isNilI u2 = some nl ∧
  bcase (!nl)
    (Runs Tryz.prog 84 #[.string ⟨#[65, 116, 111, 105]⟩, .string u0, .int .i64 0, .int .i64 0, u2] I1 S1 fun v' I1' S1' => ∃ u3, v' = u3 ∧
    R (.tuple #[.int .i64 u1, u3]) I1' S1')
    (R (.tuple #[.int .i64 u1, .nilIface]) I1 S1)
theorem strconv_Atoi_fn (R : RT) (u0 : ByteArray) (I : IMem) (S : SH) (h : strconv_Atoi R u0 I S) : Runs Tryz.prog 72 #[.string u0] I S R := by
  refine Runs.of_wp (c := cd Tryz.f72) Tryz.func72 (by kernel_rfl) (by kernel_rfl) ?_
  exact pS h
abbrev strconv_Atoi_2_t8 := ByteArray → Int → OA → Nat → Nat → Int → Int → PR
def strconv_Atoi_2_b10 (R : RT) (x6 : Int) (I : IMem) (S : SH) : Prop :=
  R (.tuple #[.int .i64 x6, .nilIface]) I S
def strconv_Atoi_2_b9 (R : RT) (x5 : ByteArray) (x6 : Int) (I : IMem) (S : SH) : Prop :=
  ∃ u0 : UInt8, (0 : Int) ≤ (0 : Int) ∧ x5[(0 : Int).toNat]? = some u0 ∧
  bcase ((u0.toNat : Int) == (45 : Int))
    (strconv_Atoi_2_b10 R (IntKind.wrap .i64 (0 - x6)) I S)
    (strconv_Atoi_2_b10 R x6 I S)
def strconv_Atoi_2_l8 (g8 : strconv_Atoi_2_t8) (R : RT) (x5 : ByteArray) (x6 : Int) (x47 : OA) (x47n x47c : Nat) (x48 x49 : Int) (I : IMem) (S : SH) : Prop :=
  bcase (decide (x49 < x48))
    (ptrP x47 fun u0 => (0 : Int) ≤ x49 ∧ x49 < (x47n : Int) ∧
    ∃ u1, Cell I S (u0.add (x49.toNat * 1)) (.int .u8 u1) ∧
    bcase (decide ((IntKind.wrap .u8 (u1 - (48 : Int))) > (9 : Int)))
      (R (.tuple #[.int .i64 0, (.iface 157 (.int .i64 2))]) I S)
      (g8 x5 (IntKind.wrap .i64 ((IntKind.wrap .i64 (x6 * (10 : Int))) + (IntKind.wrap .i64 (IntKind.wrap .u8 (u1 - (48 : Int)))))) x47 x47n x47c x48 (IntKind.wrap .i64 (x49 + (1 : Int))) I S))
    (strconv_Atoi_2_b9 R x5 x6 I S)
def strconv_Atoi_2_b7 (R : RT) (x5 : ByteArray) (x6 : Int) (x47 : OA) (x47n x47c : Nat) (x48 x49 : Int) (I : IMem) (S : SH) : Prop :=
  ∃ (Inv : Nat → strconv_Atoi_2_t8) (m : Nat), Inv m x5 x6 x47 x47n x47c x48 x49 I S ∧
    ∀ (m : Nat) (x5 : ByteArray) (x6 : Int) (x47 : OA) (x47n x47c : Nat) (x48 x49 : Int) (J : IMem) (T : SH), I.le J → Inv m x5 x6 x47 x47n x47c x48 x49 J T →
      strconv_Atoi_2_l8 (fun x5 x6 x47 x47n x47c x48 x49 I S => ∃ m', m' < m ∧ Inv m' x5 x6 x47 x47n x47c x48 x49 I S) R x5 x6 x47 x47n x47c x48 x49 J T
def strconv_Atoi_2_b6 (R : RT) (x0 x5 : ByteArray) (x6 : Int) (I : IMem) (S : SH) : Prop :=
  x0.size ≤ maxLen ∧ ∀ b47 c47 : Nat, x0.size ≤ c47 → c47 ≤ maxLen →
  strconv_Atoi_2_b7 R x5 x6 (some ⟨b47, 0, none⟩) x0.size c47 ((x0.size : Nat) : Int) 0 I ((b47, .cells (byteCells x0 ++ repV (c47 - x0.size) [.int .u8 0]).toArray 5 (c47, c47 + 1)) :: S)
def strconv_Atoi_2_b5 (R : RT) (x0 x5 : ByteArray) (I : IMem) (S : SH) : Prop :=
  strconv_Atoi_2_b6 R x0 x5 0 I S
def strconv_Atoi_2_b4 (R : RT) (x0 x5 : ByteArray) (x39 : Bool) (I : IMem) (S : SH) : Prop :=
  bcase x39
    ((0 : Int) ≤ (1 : Int) ∧ (1 : Int) ≤ ((x0.size : Nat) : Int) ∧
    bcase (decide (((x0.extract ((1 : Int).toNat) x0.size).size : Int) < (1 : Int)))
      (R (.tuple #[.int .i64 0, (.iface 157 (.int .i64 2))]) I S)
      (strconv_Atoi_2_b5 R (x0.extract ((1 : Int).toNat) x0.size) x5 I S))
    (strconv_Atoi_2_b5 R x0 x5 I S)
def strconv_Atoi_2_b3 (R : RT) (x0 x5 : ByteArray) (I : IMem) (S : SH) : Prop :=
  ∃ u0 : UInt8, (0 : Int) ≤ (0 : Int) ∧ x0[(0 : Int).toNat]? = some u0 ∧
  bcase ((u0.toNat : Int) == (45 : Int))
    (strconv_Atoi_2_b4 R x0 x5 true I S)
    (∃ u1 : UInt8, (0 : Int) ≤ (0 : Int) ∧ x0[(0 : Int).toNat]? = some u1 ∧
    strconv_Atoi_2_b4 R x0 x5 ((u1.toNat : Int) == (43 : Int)) I S)
def strconv_Atoi_2_b11 (R : RT) (x0 : ByteArray) (I : IMem) (S : SH) : Prop :=
  Runs Tryz.prog 97 #[.string x0, .int .i64 10, .int .i64 0] I S fun v I1 S1 => ∃ u0 u1, v = .tuple #[.int .i64 u0, u1] ∧
  R (.tuple #[.int .i64 u0, u1]) I1 S1
def strconv_Atoi_2_b2 (R : RT) (x0 : ByteArray) (x30 : Bool) (I : IMem) (S : SH) : Prop :=
  bcase x30
    (strconv_Atoi_2_b3 R x0 x0 I S)
    (strconv_Atoi_2_b11 R x0 I S)
def strconv_Atoi_2_b1 (R : RT) (x0 : ByteArray) (x4 : Int) (I : IMem) (S : SH) : Prop :=
  bcase (decide ((0 : Int) < x4))
    (strconv_Atoi_2_b2 R x0 (decide (x4 < (19 : Int))) I S)
    (strconv_Atoi_2_b2 R x0 false I S)
def strconv_Atoi_2 (R : RT) (u0 : ByteArray) (I : IMem) (S : SH) : Prop :=
  strconv_Atoi_2_b1 R u0 (u0.size : Int) I S
theorem strconv_Atoi_2_fn (R : RT) (u0 : ByteArray) (I : IMem) (S : SH) (h : strconv_Atoi_2 R u0 I S) : Runs Tryz.prog 83 #[.string u0] I S R := by
  refine Runs.of_wp (c := cd Tryz.f83) Tryz.func83 (by kernel_rfl) (by kernel_rfl) ?_
  refine cO 2 [kS 0, kI .i64 4] (strconv_Atoi_2_b1 R) h fun _ _ _ _ _ _ h => ?_
  refine sO [kS 0] (strconv_Atoi_2_b11 R) ?_ fun _ _ _ _ _ h => ?_
  · refine cO 1 [kS 0, kB 30] (strconv_Atoi_2_b2 R) h fun _ _ _ _ _ _ h => ?_
    refine cD h (fun h => ?_) fun h => pS h
    refine cO 1 [kS 0, kS 5] (strconv_Atoi_2_b3 R) h fun _ _ _ _ _ _ h => ?_
    refine sO [kS 0, kS 5] (strconv_Atoi_2_b5 R) ?_ fun _ _ _ _ _ _ h => ?_
    · refine cO 1 [kS 0, kS 5, kB 39] (strconv_Atoi_2_b4 R) h fun _ _ _ _ _ _ _ h => ?_
      exact pS h
    refine cO 1 [kS 0, kS 5, kI .i64 6] (strconv_Atoi_2_b6 R) h fun _ _ _ _ _ _ _ h => ?_
    refine sO [kS 5, kI .i64 6] (strconv_Atoi_2_b9 R) ?_ fun _ _ _ _ _ _ h => ?_
    · refine cO 1 [kS 5, kI .i64 6, kL 47, kI .i64 48, kI .i64 49] (strconv_Atoi_2_b7 R) h fun _ _ _ _ _ _ _ _ _ _ _ h => ?_
      refine bK ?_
      obtain ⟨Vg8, mg8, h, hr⟩ := h
      refine lO [kS 5, kI .i64 6, kL 47, kI .i64 48, kI .i64 49] Vg8 mg8 h fun mg8 _ I S hle x5 x6 x47 x47n x47c x48 x49 h => ?_
      have h := hr mg8 x5 x6 x47 x47n x47c x48 x49 I S hle h
      exact pS h
    refine cO 1 [kI .i64 6] (strconv_Atoi_2_b10 R) h fun _ _ _ _ _ h => ?_
    exact pS h
  exact pS h
def strconv_toError (R : RT) (u0 u1 : ByteArray) (u2 u3 : Int) (u4 : Value) (I : IMem) (S : SH) : Prop :=
  ∃ ei, eqI Tryz.prog u4 157 (.int .i64 2) = some ei ∧
  bcase ei
    (Runs Tryz.prog 98 #[.string u0, .string u1] I S fun v I1 S1 => ∃ u5, v = .pointer u5 ∧
    R (.iface 160 (.pointer u5)) I1 S1)
    (∃ ei', eqI Tryz.prog u4 157 (.int .i64 1) = some ei' ∧
    bcase ei'
      (Runs Tryz.prog 99 #[.string u0, .string u1] I S fun v' I1' S1' => ∃ u6, v' = .pointer u6 ∧
      R (.iface 160 (.pointer u6)) I1' S1')
      (∃ ei'', eqI Tryz.prog u4 157 (.int .i64 3) = some ei'' ∧
      bcase ei''
        (Runs Tryz.prog 100 #[.string u0, .string u1, .int .i64 u2] I S fun v'' I1'' S1'' => ∃ u7, v'' = .pointer u7 ∧
        R (.iface 160 (.pointer u7)) I1'' S1'')
        (∃ ei_r3, eqI Tryz.prog u4 157 (.int .i64 4) = some ei_r3 ∧
        bcase ei_r3
          (Runs Tryz.prog 101 #[.string u0, .string u1, .int .i64 u3] I S fun v_r3 I1_r3 S1_r3 => ∃ u8, v_r3 = .pointer u8 ∧
          R (.iface 160 (.pointer u8)) I1_r3 S1_r3)
          (R u4 I S))))
theorem strconv_toError_fn (R : RT) (u0 u1 : ByteArray) (u2 u3 : Int) (u4 : Value) (I : IMem) (S : SH) (h : strconv_toError R u0 u1 u2 u3 u4 I S) : Runs Tryz.prog 84 #[.string u0, .string u1, .int .i64 u2, .int .i64 u3, u4] I S R := by
  refine Runs.of_wp (c := cd Tryz.f84) Tryz.func84 (by kernel_rfl) (by kernel_rfl) ?_
  exact pS h
def strconv_ParseUint (R : RT) (u0 : ByteArray) (u1 u2 : Int) (I : IMem) (S : SH) : Prop :=
  Runs Tryz.prog 105 #[.string u0, .int .i64 u1, .int .i64 u2] I S fun v I1 S1 => ∃ u3 u4, v = .tuple #[.int .u64 u3, u4] ∧
  ∃ nl, isNilI u4 = some nl ∧
  bcase (!nl)
    (Runs Tryz.prog 84 #[.string ⟨#[80, 97, 114, 115, 101, 85, 105, 110, 116]⟩, .string u0, .int .i64 u1, .int .i64 u2, u4] I1 S1 fun v' I1' S1' => ∃ u5, v' = u5 ∧
    R (.tuple #[.int .u64 u3, u5]) I1' S1')
    (R (.tuple #[.int .u64 u3, .nilIface]) I1 S1)
theorem strconv_ParseUint_fn (R : RT) (u0 : ByteArray) (u1 u2 : Int) (I : IMem) (S : SH) (h : strconv_ParseUint R u0 u1 u2 I S) : Runs Tryz.prog 90 #[.string u0, .int .i64 u1, .int .i64 u2] I S R := by
  refine Runs.of_wp (c := cd Tryz.f90) Tryz.func90 (by kernel_rfl) (by kernel_rfl) ?_
  exact pS h
abbrev strconv_ParseUint_2_t9 := Int → Bool → ByteArray → Int → Int → Bool → Int → OA → Nat → Nat → Int → Int → PR
def strconv_ParseUint_2_b13 (g9 : strconv_ParseUint_2_t9) (R : RT) (x1 : Int) (x8 : Bool) (x9 : ByteArray) (x10 x11 : Int) (x12 : Bool) (x13 : Int) (x99 : OA) (x99n x99c : Nat) (x100 x101 : Int) (I : IMem) (S : SH) : Prop :=
  g9 x1 x8 x9 x10 x11 x12 x13 x99 x99n x99c x100 (IntKind.wrap .i64 (x101 + (1 : Int))) I S
def strconv_ParseUint_2_b18 (g9 : strconv_ParseUint_2_t9) (R : RT) (x1 : Int) (x8 : Bool) (x9 : ByteArray) (x10 x11 : Int) (x12 : Bool) (x17 : Int) (x99 : OA) (x99n x99c : Nat) (x100 x101 : Int) (I : IMem) (S : SH) : Prop :=
  strconv_ParseUint_2_b13 g9 R x1 x8 x9 x10 x11 x12 x17 x99 x99n x99c x100 x101 I S
def strconv_ParseUint_2_b17 (g9 : strconv_ParseUint_2_t9) (R : RT) (x1 : Int) (x8 : Bool) (x9 : ByteArray) (x10 x11 : Int) (x12 : Bool) (x17 : Int) (x99 : OA) (x99n x99c : Nat) (x100 x101 : Int) (x159 : Bool) (I : IMem) (S : SH) : Prop :=
  bcase x159
    (R (.tuple #[.int .u64 x11, (.iface 157 (.int .i64 1))]) I S)
    (strconv_ParseUint_2_b18 g9 R x1 x8 x9 x10 x11 x12 x17 x99 x99n x99c x100 x101 I S)
def strconv_ParseUint_2_b16 (g9 : strconv_ParseUint_2_t9) (R : RT) (x1 : Int) (x8 : Bool) (x9 : ByteArray) (x10 x11 : Int) (x12 : Bool) (x13 x17 : Int) (x99 : OA) (x99n x99c : Nat) (x100 x101 : Int) (I : IMem) (S : SH) : Prop :=
  bcase (decide (x17 < x13))
    (strconv_ParseUint_2_b17 g9 R x1 x8 x9 x10 x11 x12 x17 x99 x99n x99c x100 x101 true I S)
    (strconv_ParseUint_2_b17 g9 R x1 x8 x9 x10 x11 x12 x17 x99 x99n x99c x100 x101 (decide (x17 > x11)) I S)
def strconv_ParseUint_2_b15 (g9 : strconv_ParseUint_2_t9) (R : RT) (x1 : Int) (x8 : Bool) (x9 : ByteArray) (x10 x11 : Int) (x12 : Bool) (x13 x16 : Int) (x99 : OA) (x99n x99c : Nat) (x100 x101 : Int) (I : IMem) (S : SH) : Prop :=
  bcase (decide (x16 ≥ (IntKind.wrap .u8 x1)))
    (R (.tuple #[.int .u64 0, (.iface 157 (.int .i64 2))]) I S)
    (bcase (decide (x13 ≥ x10))
      (R (.tuple #[.int .u64 x11, (.iface 157 (.int .i64 1))]) I S)
      (strconv_ParseUint_2_b16 g9 R x1 x8 x9 x10 x11 x12 (IntKind.wrap .u64 (x13 * (IntKind.wrap .u64 x1))) (IntKind.wrap .u64 ((IntKind.wrap .u64 (x13 * (IntKind.wrap .u64 x1))) + (IntKind.wrap .u64 x16))) x99 x99n x99c x100 x101 I S))
def strconv_ParseUint_2_b19 (g9 : strconv_ParseUint_2_t9) (R : RT) (x1 : Int) (x8 : Bool) (x9 : ByteArray) (x10 x11 : Int) (x12 : Bool) (x13 x15 : Int) (x99 : OA) (x99n x99c : Nat) (x100 x101 : Int) (x121 : Bool) (I : IMem) (S : SH) : Prop :=
  bcase x121
    (Runs Tryz.prog 111 #[.int .u8 x15] I S fun v I1 S1 => ∃ u0, v = .int .u8 u0 ∧
    strconv_ParseUint_2_b15 g9 R x1 x8 x9 x10 x11 x12 x13 (IntKind.wrap .u8 ((IntKind.wrap .u8 (u0 - (97 : Int))) + (10 : Int))) x99 x99n x99c x100 x101 I1 S1)
    (R (.tuple #[.int .u64 0, (.iface 157 (.int .i64 2))]) I S)
def strconv_ParseUint_2_b14 (g9 : strconv_ParseUint_2_t9) (R : RT) (x1 : Int) (x8 : Bool) (x9 : ByteArray) (x10 x11 : Int) (x12 : Bool) (x13 x15 : Int) (x99 : OA) (x99n x99c : Nat) (x100 x101 : Int) (x112 : Bool) (I : IMem) (S : SH) : Prop :=
  bcase x112
    (strconv_ParseUint_2_b15 g9 R x1 x8 x9 x10 x11 x12 x13 (IntKind.wrap .u8 (x15 - (48 : Int))) x99 x99n x99c x100 x101 I S)
    (Runs Tryz.prog 111 #[.int .u8 x15] I S fun v I1 S1 => ∃ u0, v = .int .u8 u0 ∧
    bcase (decide ((97 : Int) ≤ u0))
      (Runs Tryz.prog 111 #[.int .u8 x15] I1 S1 fun v' I1' S1' => ∃ u1, v' = .int .u8 u1 ∧
      strconv_ParseUint_2_b19 g9 R x1 x8 x9 x10 x11 x12 x13 x15 x99 x99n x99c x100 x101 (decide (u1 ≤ (122 : Int))) I1' S1')
      (strconv_ParseUint_2_b19 g9 R x1 x8 x9 x10 x11 x12 x13 x15 x99 x99n x99c x100 x101 false I1 S1))
def strconv_ParseUint_2_b12 (g9 : strconv_ParseUint_2_t9) (R : RT) (x1 : Int) (x8 : Bool) (x9 : ByteArray) (x10 x11 : Int) (x12 : Bool) (x13 x15 : Int) (x99 : OA) (x99n x99c : Nat) (x100 x101 : Int) (x106 : Bool) (I : IMem) (S : SH) : Prop :=
  bcase x106
    (strconv_ParseUint_2_b13 g9 R x1 x8 x9 x10 x11 true x13 x99 x99n x99c x100 x101 I S)
    (bcase (decide ((48 : Int) ≤ x15))
      (strconv_ParseUint_2_b14 g9 R x1 x8 x9 x10 x11 x12 x13 x15 x99 x99n x99c x100 x101 (decide (x15 ≤ (57 : Int))) I S)
      (strconv_ParseUint_2_b14 g9 R x1 x8 x9 x10 x11 x12 x13 x15 x99 x99n x99c x100 x101 false I S))
def strconv_ParseUint_2_b11 (g9 : strconv_ParseUint_2_t9) (R : RT) (x1 : Int) (x8 : Bool) (x9 : ByteArray) (x10 x11 : Int) (x12 : Bool) (x13 x15 : Int) (x99 : OA) (x99n x99c : Nat) (x100 x101 : Int) (I : IMem) (S : SH) : Prop :=
  bcase (x15 == (95 : Int))
    (strconv_ParseUint_2_b12 g9 R x1 x8 x9 x10 x11 x12 x13 x15 x99 x99n x99c x100 x101 x8 I S)
    (strconv_ParseUint_2_b12 g9 R x1 x8 x9 x10 x11 x12 x13 x15 x99 x99n x99c x100 x101 false I S)
def strconv_ParseUint_2_b10 (g9 : strconv_ParseUint_2_t9) (R : RT) (x1 : Int) (x8 : Bool) (x9 : ByteArray) (x10 x11 : Int) (x12 : Bool) (x13 : Int) (x99 : OA) (x99n x99c : Nat) (x100 x101 : Int) (I : IMem) (S : SH) : Prop :=
  ptrP x99 fun u0 => (0 : Int) ≤ x101 ∧ x101 < (x99n : Int) ∧
  ∃ u1, Cell I S (u0.add (x101.toNat * 1)) (.int .u8 u1) ∧
  strconv_ParseUint_2_b11 g9 R x1 x8 x9 x10 x11 x12 x13 u1 x99 x99n x99c x100 x101 I S
def strconv_ParseUint_2_b22 (R : RT) (x13 : Int) (I : IMem) (S : SH) : Prop :=
  R (.tuple #[.int .u64 x13, .nilIface]) I S
def strconv_ParseUint_2_b21 (R : RT) (x13 : Int) (x169 : Bool) (I : IMem) (S : SH) : Prop :=
  bcase x169
    (R (.tuple #[.int .u64 0, (.iface 157 (.int .i64 2))]) I S)
    (strconv_ParseUint_2_b22 R x13 I S)
def strconv_ParseUint_2_b20 (R : RT) (x9 : ByteArray) (x12 : Bool) (x13 : Int) (I : IMem) (S : SH) : Prop :=
  bcase x12
    (Runs Tryz.prog 112 #[.string x9] I S fun v I1 S1 => ∃ u0, v = .bool u0 ∧
    strconv_ParseUint_2_b21 R x13 (!u0) I1 S1)
    (strconv_ParseUint_2_b21 R x13 false I S)
def strconv_ParseUint_2_l9 (g9 : strconv_ParseUint_2_t9) (R : RT) (x1 : Int) (x8 : Bool) (x9 : ByteArray) (x10 x11 : Int) (x12 : Bool) (x13 : Int) (x99 : OA) (x99n x99c : Nat) (x100 x101 : Int) (I : IMem) (S : SH) : Prop :=
  bcase (decide (x101 < x100))
    (strconv_ParseUint_2_b10 g9 R x1 x8 x9 x10 x11 x12 x13 x99 x99n x99c x100 x101 I S)
    (strconv_ParseUint_2_b20 R x9 x12 x13 I S)
def strconv_ParseUint_2_b8 (R : RT) (x1 : Int) (x8 : Bool) (x9 : ByteArray) (x10 x11 : Int) (x12 : Bool) (x13 : Int) (x99 : OA) (x99n x99c : Nat) (x100 x101 : Int) (I : IMem) (S : SH) : Prop :=
  ∃ (Inv : Nat → strconv_ParseUint_2_t9) (m : Nat), Inv m x1 x8 x9 x10 x11 x12 x13 x99 x99n x99c x100 x101 I S ∧
    ∀ (m : Nat) (x1 : Int) (x8 : Bool) (x9 : ByteArray) (x10 x11 : Int) (x12 : Bool) (x13 : Int) (x99 : OA) (x99n x99c : Nat) (x100 x101 : Int) (J : IMem) (T : SH), I.le J → Inv m x1 x8 x9 x10 x11 x12 x13 x99 x99n x99c x100 x101 J T →
      strconv_ParseUint_2_l9 (fun x1 x8 x9 x10 x11 x12 x13 x99 x99n x99c x100 x101 I S => ∃ m', m' < m ∧ Inv m' x1 x8 x9 x10 x11 x12 x13 x99 x99n x99c x100 x101 I S) R x1 x8 x9 x10 x11 x12 x13 x99 x99n x99c x100 x101 J T
def strconv_ParseUint_2_b7 (R : RT) (x0 : ByteArray) (x1 : Int) (x8 : Bool) (x9 : ByteArray) (x10 x11 : Int) (x12 : Bool) (x13 : Int) (I : IMem) (S : SH) : Prop :=
  x0.size ≤ maxLen ∧ ∀ b99 c99 : Nat, x0.size ≤ c99 → c99 ≤ maxLen →
  strconv_ParseUint_2_b8 R x1 x8 x9 x10 x11 x12 x13 (some ⟨b99, 0, none⟩) x0.size c99 ((x0.size : Nat) : Int) 0 I ((b99, .cells (byteCells x0 ++ repV (c99 - x0.size) [.int .u8 0]).toArray 5 (c99, c99 + 1)) :: S)
def strconv_ParseUint_2_b6 (R : RT) (x0 : ByteArray) (x1 x2 : Int) (x8 : Bool) (x9 : ByteArray) (x10 : Int) (I : IMem) (S : SH) : Prop :=
  bcase (decide ((IntKind.wrap .u64 x2) < 0)) False (strconv_ParseUint_2_b7 R x0 x1 x8 x9 x10 (IntKind.wrap .u64 ((IntKind.wrap .u64 ((1 : Int) * 2 ^ (min (IntKind.wrap .u64 x2).toNat (IntKind.bits .u64)))) - (1 : Int))) false 0 I S)
def strconv_ParseUint_2_b5 (R : RT) (x0 : ByteArray) (x1 x2 : Int) (x8 : Bool) (x9 : ByteArray) (I : IMem) (S : SH) : Prop :=
  bcase (x1 == (10 : Int))
    (strconv_ParseUint_2_b6 R x0 x1 x2 x8 x9 1844674407370955162 I S)
    (bcase (x1 == (16 : Int))
      (strconv_ParseUint_2_b6 R x0 x1 x2 x8 x9 1152921504606846976 I S)
      (bcase (decide ((IntKind.wrap .u64 x1) = 0)) False (strconv_ParseUint_2_b6 R x0 x1 x2 x8 x9 (IntKind.wrap .u64 ((IntKind.wrap .u64 ((18446744073709551615 : Int).tdiv (IntKind.wrap .u64 x1))) + (1 : Int))) I S)))
def strconv_ParseUint_2_b23 (R : RT) (x0 : ByteArray) (x1 x2 : Int) (x8 : Bool) (x9 : ByteArray) (x83 : Bool) (I : IMem) (S : SH) : Prop :=
  bcase x83
    (R (.tuple #[.int .u64 0, (.iface 157 (.int .i64 4))]) I S)
    (strconv_ParseUint_2_b5 R x0 x1 x2 x8 x9 I S)
def strconv_ParseUint_2_b4 (R : RT) (x0 : ByteArray) (x1 x2 : Int) (x8 : Bool) (x9 : ByteArray) (x77 : Bool) (I : IMem) (S : SH) : Prop :=
  bcase x77
    (strconv_ParseUint_2_b5 R x0 x1 64 x8 x9 I S)
    (bcase (decide (x2 < (0 : Int)))
      (strconv_ParseUint_2_b23 R x0 x1 x2 x8 x9 true I S)
      (strconv_ParseUint_2_b23 R x0 x1 x2 x8 x9 (decide (x2 > (64 : Int))) I S))
def strconv_ParseUint_2_b3 (R : RT) (x0 : ByteArray) (x1 x2 : Int) (x8 : Bool) (x9 : ByteArray) (I : IMem) (S : SH) : Prop :=
  strconv_ParseUint_2_b4 R x0 x1 x2 x8 x9 (x2 == (0 : Int)) I S
def strconv_ParseUint_2_b28 (R : RT) (x0 : ByteArray) (x2 : Int) (x8 : Bool) (x9 : ByteArray) (x64 : Bool) (I : IMem) (S : SH) : Prop :=
  bcase x64
    ((0 : Int) ≤ (2 : Int) ∧ (2 : Int) ≤ ((x0.size : Nat) : Int) ∧
    strconv_ParseUint_2_b3 R (x0.extract ((2 : Int).toNat) x0.size) 16 x2 x8 x9 I S)
    ((0 : Int) ≤ (1 : Int) ∧ (1 : Int) ≤ ((x0.size : Nat) : Int) ∧
    strconv_ParseUint_2_b3 R (x0.extract ((1 : Int).toNat) x0.size) 8 x2 x8 x9 I S)
def strconv_ParseUint_2_b27 (R : RT) (x0 : ByteArray) (x2 : Int) (x8 : Bool) (x9 : ByteArray) (x52 : Bool) (I : IMem) (S : SH) : Prop :=
  bcase x52
    ((0 : Int) ≤ (2 : Int) ∧ (2 : Int) ≤ ((x0.size : Nat) : Int) ∧
    strconv_ParseUint_2_b3 R (x0.extract ((2 : Int).toNat) x0.size) 8 x2 x8 x9 I S)
    (bcase (decide ((x0.size : Int) ≥ (3 : Int)))
      (∃ u0 : UInt8, (0 : Int) ≤ (1 : Int) ∧ x0[(1 : Int).toNat]? = some u0 ∧
      Runs Tryz.prog 111 #[.int .u8 (u0.toNat : Int)] I S fun v I1 S1 => ∃ u1, v = .int .u8 u1 ∧
      strconv_ParseUint_2_b28 R x0 x2 x8 x9 (u1 == (120 : Int)) I1 S1)
      (strconv_ParseUint_2_b28 R x0 x2 x8 x9 false I S))
def strconv_ParseUint_2_b26 (R : RT) (x0 : ByteArray) (x2 : Int) (x8 : Bool) (x9 : ByteArray) (x40 : Bool) (I : IMem) (S : SH) : Prop :=
  bcase x40
    ((0 : Int) ≤ (2 : Int) ∧ (2 : Int) ≤ ((x0.size : Nat) : Int) ∧
    strconv_ParseUint_2_b3 R (x0.extract ((2 : Int).toNat) x0.size) 2 x2 x8 x9 I S)
    (bcase (decide ((x0.size : Int) ≥ (3 : Int)))
      (∃ u0 : UInt8, (0 : Int) ≤ (1 : Int) ∧ x0[(1 : Int).toNat]? = some u0 ∧
      Runs Tryz.prog 111 #[.int .u8 (u0.toNat : Int)] I S fun v I1 S1 => ∃ u1, v = .int .u8 u1 ∧
      strconv_ParseUint_2_b27 R x0 x2 x8 x9 (u1 == (111 : Int)) I1 S1)
      (strconv_ParseUint_2_b27 R x0 x2 x8 x9 false I S))
def strconv_ParseUint_2_b25 (R : RT) (x0 : ByteArray) (x1 x2 : Int) (x8 : Bool) (x9 : ByteArray) (x37 : Bool) (I : IMem) (S : SH) : Prop :=
  bcase x37
    (bcase (decide ((x0.size : Int) ≥ (3 : Int)))
      (∃ u0 : UInt8, (0 : Int) ≤ (1 : Int) ∧ x0[(1 : Int).toNat]? = some u0 ∧
      Runs Tryz.prog 111 #[.int .u8 (u0.toNat : Int)] I S fun v I1 S1 => ∃ u1, v = .int .u8 u1 ∧
      strconv_ParseUint_2_b26 R x0 x2 x8 x9 (u1 == (98 : Int)) I1 S1)
      (strconv_ParseUint_2_b26 R x0 x2 x8 x9 false I S))
    (strconv_ParseUint_2_b3 R x0 x1 x2 x8 x9 I S)
def strconv_ParseUint_2_b24 (R : RT) (x0 : ByteArray) (x2 : Int) (x8 : Bool) (x9 : ByteArray) (x32 : Bool) (I : IMem) (S : SH) : Prop :=
  bcase x32
    (∃ u0 : UInt8, (0 : Int) ≤ (0 : Int) ∧ x0[(0 : Int).toNat]? = some u0 ∧
    strconv_ParseUint_2_b25 R x0 10 x2 x8 x9 ((u0.toNat : Int) == (48 : Int)) I S)
    (R (.tuple #[.int .u64 0, (.iface 157 (.int .i64 3))]) I S)
def strconv_ParseUint_2_b2 (R : RT) (x0 : ByteArray) (x1 x2 : Int) (x8 : Bool) (x9 : ByteArray) (x25 : Bool) (I : IMem) (S : SH) : Prop :=
  bcase x25
    (strconv_ParseUint_2_b3 R x0 x1 x2 x8 x9 I S)
    (strconv_ParseUint_2_b24 R x0 x2 x8 x9 (x1 == (0 : Int)) I S)
def strconv_ParseUint_2_b1 (R : RT) (x0 : ByteArray) (x1 x2 : Int) (x8 : Bool) (x9 : ByteArray) (I : IMem) (S : SH) : Prop :=
  bcase (decide ((2 : Int) ≤ x1))
    (strconv_ParseUint_2_b2 R x0 x1 x2 x8 x9 (decide (x1 ≤ (36 : Int))) I S)
    (strconv_ParseUint_2_b2 R x0 x1 x2 x8 x9 false I S)
def strconv_ParseUint_2 (R : RT) (u0 : ByteArray) (u1 u2 : Int) (I : IMem) (S : SH) : Prop :=
  bcase (u0.toList == (⟨#[]⟩ : ByteArray).toList)
    (R (.tuple #[.int .u64 0, (.iface 157 (.int .i64 2))]) I S)
    (strconv_ParseUint_2_b1 R u0 u1 u2 (u1 == (0 : Int)) u0 I S)
theorem strconv_ParseUint_2_fn (R : RT) (u0 : ByteArray) (u1 u2 : Int) (I : IMem) (S : SH) (h : strconv_ParseUint_2 R u0 u1 u2 I S) : Runs Tryz.prog 105 #[.string u0, .int .i64 u1, .int .i64 u2] I S R := by
  refine Runs.of_wp (c := cd Tryz.f105) Tryz.func105 (by kernel_rfl) (by kernel_rfl) ?_
  refine cO 4 [kS 0, kI .i64 1, kI .i64 2, kB 8, kS 9] (strconv_ParseUint_2_b1 R) h fun _ _ _ _ _ _ _ _ _ h => ?_
  refine sO [kS 0, kI .i64 1, kI .i64 2, kB 8, kS 9] (strconv_ParseUint_2_b3 R) ?_ fun _ _ _ _ _ _ _ _ _ h => ?_
  · refine bK ?_
    refine cO 1 [kS 0, kI .i64 1, kI .i64 2, kB 8, kS 9, kB 25] (strconv_ParseUint_2_b2 R) h fun _ _ _ _ _ _ _ _ _ _ h => ?_
    refine cD h (fun h => pS h) fun h => ?_
    refine cO 1 [kS 0, kI .i64 2, kB 8, kS 9, kB 32] (strconv_ParseUint_2_b24 R) h fun _ _ _ _ _ _ _ _ _ h => ?_
    refine cD h (fun h => ?_) fun h => pS h
    refine cO 2 [kS 0, kI .i64 1, kI .i64 2, kB 8, kS 9, kB 37] (strconv_ParseUint_2_b25 R) h fun _ _ _ _ _ _ _ _ _ _ h => ?_
    refine cD h (fun h => ?_) fun h => pS h
    refine bK ?_
    refine cO 1 [kS 0, kI .i64 2, kB 8, kS 9, kB 40] (strconv_ParseUint_2_b26 R) h fun _ _ _ _ _ _ _ _ _ h => ?_
    refine cD h (fun h => pS h) fun h => ?_
    refine cO 1 [kS 0, kI .i64 2, kB 8, kS 9, kB 52] (strconv_ParseUint_2_b27 R) h fun _ _ _ _ _ _ _ _ _ h => ?_
    refine cD h (fun h => pS h) fun h => ?_
    refine cO 1 [kS 0, kI .i64 2, kB 8, kS 9, kB 64] (strconv_ParseUint_2_b28 R) h fun _ _ _ _ _ _ _ _ _ h => ?_
    exact pS h
  refine sO [kS 0, kI .i64 1, kI .i64 2, kB 8, kS 9] (strconv_ParseUint_2_b5 R) ?_ fun _ _ _ _ _ _ _ _ _ h => ?_
  · refine cO 1 [kS 0, kI .i64 1, kI .i64 2, kB 8, kS 9, kB 77] (strconv_ParseUint_2_b4 R) h fun _ _ _ _ _ _ _ _ _ _ h => ?_
    refine cD h (fun h => pS h) fun h => ?_
    refine cO 1 [kS 0, kI .i64 1, kI .i64 2, kB 8, kS 9, kB 83] (strconv_ParseUint_2_b23 R) h fun _ _ _ _ _ _ _ _ _ _ h => ?_
    exact pS h
  refine cO 2 [kS 0, kI .i64 1, kI .i64 2, kB 8, kS 9, kI .u64 10] (strconv_ParseUint_2_b6 R) h fun _ _ _ _ _ _ _ _ _ _ h => ?_
  refine cO 3 [kS 0, kI .i64 1, kB 8, kS 9, kI .u64 10, kI .u64 11, kB 12, kI .u64 13] (strconv_ParseUint_2_b7 R) h fun _ _ _ _ _ _ _ _ _ _ _ _ h => ?_
  refine sO [kS 9, kB 12, kI .u64 13] (strconv_ParseUint_2_b20 R) ?_ fun _ _ _ _ _ _ _ h => ?_
  · refine cO 1 [kI .i64 1, kB 8, kS 9, kI .u64 10, kI .u64 11, kB 12, kI .u64 13, kL 99, kI .i64 100, kI .i64 101] (strconv_ParseUint_2_b8 R) h fun _ _ _ _ _ _ _ _ _ _ _ _ _ _ _ _ h => ?_
    refine bK ?_
    obtain ⟨Vg9, mg9, h, hr⟩ := h
    refine lO [kI .i64 1, kB 8, kS 9, kI .u64 10, kI .u64 11, kB 12, kI .u64 13, kL 99, kI .i64 100, kI .i64 101] Vg9 mg9 h fun mg9 _ I S hle x1 x8 x9 x10 x11 x12 x13 x99 x99n x99c x100 x101 h => ?_
    have h := hr mg9 x1 x8 x9 x10 x11 x12 x13 x99 x99n x99c x100 x101 I S hle h
    refine cO 2 [kI .i64 1, kB 8, kS 9, kI .u64 10, kI .u64 11, kB 12, kI .u64 13, kL 99, kI .i64 100, kI .i64 101] (strconv_ParseUint_2_b10 (fun x1 x8 x9 x10 x11 x12 x13 x99 x99n x99c x100 x101 I S => ∃ m', m' < mg9 ∧ Vg9 m' x1 x8 x9 x10 x11 x12 x13 x99 x99n x99c x100 x101 I S) R) h fun _ _ _ _ _ _ _ _ _ _ _ _ _ _ _ _ h => ?_
    refine sO [kI .i64 1, kB 8, kS 9, kI .u64 10, kI .u64 11, kB 12, kI .u64 13, kL 99, kI .i64 100, kI .i64 101] (strconv_ParseUint_2_b13 (fun x1 x8 x9 x10 x11 x12 x13 x99 x99n x99c x100 x101 I S => ∃ m', m' < mg9 ∧ Vg9 m' x1 x8 x9 x10 x11 x12 x13 x99 x99n x99c x100 x101 I S) R) ?_ fun _ _ _ _ _ _ _ _ _ _ _ _ _ _ _ _ h => ?_
    · refine bK ?_
      refine cO 2 [kI .i64 1, kB 8, kS 9, kI .u64 10, kI .u64 11, kB 12, kI .u64 13, kI .u8 15, kL 99, kI .i64 100, kI .i64 101] (strconv_ParseUint_2_b11 (fun x1 x8 x9 x10 x11 x12 x13 x99 x99n x99c x100 x101 I S => ∃ m', m' < mg9 ∧ Vg9 m' x1 x8 x9 x10 x11 x12 x13 x99 x99n x99c x100 x101 I S) R) h fun _ _ _ _ _ _ _ _ _ _ _ _ _ _ _ _ _ h => ?_
      refine sO [kI .i64 1, kB 8, kS 9, kI .u64 10, kI .u64 11, kB 12, kI .u64 13, kI .u8 16, kL 99, kI .i64 100, kI .i64 101] (strconv_ParseUint_2_b15 (fun x1 x8 x9 x10 x11 x12 x13 x99 x99n x99c x100 x101 I S => ∃ m', m' < mg9 ∧ Vg9 m' x1 x8 x9 x10 x11 x12 x13 x99 x99n x99c x100 x101 I S) R) ?_ fun _ _ _ _ _ _ _ _ _ _ _ _ _ _ _ _ _ h => ?_
      · refine bK ?_
        refine cO 1 [kI .i64 1, kB 8, kS 9, kI .u64 10, kI .u64 11, kB 12, kI .u64 13, kI .u8 15, kL 99, kI .i64 100, kI .i64 101, kB 106] (strconv_ParseUint_2_b12 (fun x1 x8 x9 x10 x11 x12 x13 x99 x99n x99c x100 x101 I S => ∃ m', m' < mg9 ∧ Vg9 m' x1 x8 x9 x10 x11 x12 x13 x99 x99n x99c x100 x101 I S) R) h fun _ _ _ _ _ _ _ _ _ _ _ _ _ _ _ _ _ _ h => ?_
        refine cD h (fun h => pS h) fun h => ?_
        refine cO 1 [kI .i64 1, kB 8, kS 9, kI .u64 10, kI .u64 11, kB 12, kI .u64 13, kI .u8 15, kL 99, kI .i64 100, kI .i64 101, kB 112] (strconv_ParseUint_2_b14 (fun x1 x8 x9 x10 x11 x12 x13 x99 x99n x99c x100 x101 I S => ∃ m', m' < mg9 ∧ Vg9 m' x1 x8 x9 x10 x11 x12 x13 x99 x99n x99c x100 x101 I S) R) h fun _ _ _ _ _ _ _ _ _ _ _ _ _ _ _ _ _ _ h => ?_
        refine cD h (fun h => pS h) fun h => ?_
        refine cO 1 [kI .i64 1, kB 8, kS 9, kI .u64 10, kI .u64 11, kB 12, kI .u64 13, kI .u8 15, kL 99, kI .i64 100, kI .i64 101, kB 121] (strconv_ParseUint_2_b19 (fun x1 x8 x9 x10 x11 x12 x13 x99 x99n x99c x100 x101 I S => ∃ m', m' < mg9 ∧ Vg9 m' x1 x8 x9 x10 x11 x12 x13 x99 x99n x99c x100 x101 I S) R) h fun _ _ _ _ _ _ _ _ _ _ _ _ _ _ _ _ _ _ h => ?_
        exact pS h
      refine cO 4 [kI .i64 1, kB 8, kS 9, kI .u64 10, kI .u64 11, kB 12, kI .u64 13, kI .u64 17, kL 99, kI .i64 100, kI .i64 101] (strconv_ParseUint_2_b16 (fun x1 x8 x9 x10 x11 x12 x13 x99 x99n x99c x100 x101 I S => ∃ m', m' < mg9 ∧ Vg9 m' x1 x8 x9 x10 x11 x12 x13 x99 x99n x99c x100 x101 I S) R) h fun _ _ _ _ _ _ _ _ _ _ _ _ _ _ _ _ _ h => ?_
      refine sO [kI .i64 1, kB 8, kS 9, kI .u64 10, kI .u64 11, kB 12, kI .u64 17, kL 99, kI .i64 100, kI .i64 101] (strconv_ParseUint_2_b18 (fun x1 x8 x9 x10 x11 x12 x13 x99 x99n x99c x100 x101 I S => ∃ m', m' < mg9 ∧ Vg9 m' x1 x8 x9 x10 x11 x12 x13 x99 x99n x99c x100 x101 I S) R) ?_ fun _ _ _ _ _ _ _ _ _ _ _ _ _ _ _ _ h => ?_
      · refine cO 1 [kI .i64 1, kB 8, kS 9, kI .u64 10, kI .u64 11, kB 12, kI .u64 17, kL 99, kI .i64 100, kI .i64 101, kB 159] (strconv_ParseUint_2_b17 (fun x1 x8 x9 x10 x11 x12 x13 x99 x99n x99c x100 x101 I S => ∃ m', m' < mg9 ∧ Vg9 m' x1 x8 x9 x10 x11 x12 x13 x99 x99n x99c x100 x101 I S) R) h fun _ _ _ _ _ _ _ _ _ _ _ _ _ _ _ _ _ h => ?_
        exact pS h
      exact pS h
    exact pS h
  refine sO [kI .u64 13] (strconv_ParseUint_2_b22 R) ?_ fun _ _ _ _ _ h => ?_
  · refine cO 1 [kI .u64 13, kB 169] (strconv_ParseUint_2_b21 R) h fun _ _ _ _ _ _ h => ?_
    exact pS h
  exact pS h
def strconv_FormatUint (R : RT) (u0 u1 : Int) (I : IMem) (S : SH) : Prop :=
  Runs Tryz.prog 106 #[.int .u64 u0, .int .i64 u1] I S fun v I1 S1 => ∃ u2, v = .string u2 ∧
  R (.string u2) I1 S1
theorem strconv_FormatUint_fn (R : RT) (u0 u1 : Int) (I : IMem) (S : SH) (h : strconv_FormatUint R u0 u1 I S) : Runs Tryz.prog 91 #[.int .u64 u0, .int .i64 u1] I S R := by
  refine Runs.of_wp (c := cd Tryz.f91) Tryz.func91 (by kernel_rfl) (by kernel_rfl) ?_
  exact pS h
def strconv_FormatUint_2 (R : RT) (u0 u1 : Int) (I : IMem) (S : SH) : Prop :=
  bcase (u1 == (10 : Int))
    (bcase (decide (u0 < (100 : Int)))
      (Runs Tryz.prog 79 #[.int .i64 (IntKind.wrap .i64 u0)] I S fun v I1 S1 => ∃ u2, v = .string u2 ∧
      R (.string u2) I1 S1)
      (∀ b5 : Nat,
      Runs Tryz.prog 80 #[.int .u64 u0] I ((b5, .cells #[.int .u8 0, .int .u8 0, .int .u8 0, .int .u8 0, .int .u8 0, .int .u8 0, .int .u8 0, .int .u8 0, .int .u8 0, .int .u8 0, .int .u8 0, .int .u8 0, .int .u8 0, .int .u8 0, .int .u8 0, .int .u8 0, .int .u8 0, .int .u8 0, .int .u8 0, .int .u8 0, .int .u8 0, .int .u8 0, .int .u8 0, .int .u8 0] 137 (0, 0)) :: S) fun v' I1' S1' => ∃ u3, v' = .int .i64 u3 ∧
      (0 : Int) ≤ u3 ∧ u3 ≤ ((24 : Nat) : Int) ∧
      Runs Tryz.prog 81 #[.slice (slA (some ⟨b5, 0, none⟩) 24 0 1) (u3.toNat - 0) (24 - 0), .int .u64 u0] I1' S1' fun v'' I1'' S1'' => v'' = .tuple #[] ∧
      (0 : Int) ≤ u3 ∧ u3 ≤ ((24 : Nat) : Int) ∧
      ∃ u4 : ByteArray, BytesAt I1'' S1'' (slA (some ⟨b5, 0, none⟩) 24 0 1) (u3.toNat - 0) u4 ∧
      R (.string u4) I1'' S1''))
    (Runs Tryz.prog 82 #[.slice none 0 0, .int .u64 u0, .int .i64 u1, .bool false, .bool false] I S fun v_r3 I1_r3 S1_r3 => ∃ u5 u5n u5c u6, v_r3 = .tuple #[.slice u5 u5n u5c, .string u6] ∧
    R (.string u6) I1_r3 S1_r3)
theorem strconv_FormatUint_2_fn (R : RT) (u0 u1 : Int) (I : IMem) (S : SH) (h : strconv_FormatUint_2 R u0 u1 I S) : Runs Tryz.prog 106 #[.int .u64 u0, .int .i64 u1] I S R := by
  refine Runs.of_wp (c := cd Tryz.f106) Tryz.func106 (by kernel_rfl) (by kernel_rfl) ?_
  exact pS h
def strconv_ParseInt_b11 (R : RT) (x11 : Int) (I : IMem) (S : SH) : Prop :=
  R (.tuple #[.int .i64 x11, .nilIface]) I S
def strconv_ParseInt_b10 (R : RT) (x8 : Bool) (x9 : Int) (I : IMem) (S : SH) : Prop :=
  bcase x8
    (strconv_ParseInt_b11 R (IntKind.wrap .i64 (0 - (IntKind.wrap .i64 x9))) I S)
    (strconv_ParseInt_b11 R (IntKind.wrap .i64 x9) I S)
def strconv_ParseInt_b9 (R : RT) (x8 : Bool) (x9 x10 : Int) (x62 : Bool) (I : IMem) (S : SH) : Prop :=
  bcase x62
    (R (.tuple #[.int .i64 (IntKind.wrap .i64 (0 - (IntKind.wrap .i64 x10))), (.iface 157 (.int .i64 1))]) I S)
    (strconv_ParseInt_b10 R x8 x9 I S)
def strconv_ParseInt_b8 (R : RT) (x8 : Bool) (x9 x10 : Int) (I : IMem) (S : SH) : Prop :=
  bcase x8
    (strconv_ParseInt_b9 R x8 x9 x10 (decide (x9 > x10)) I S)
    (strconv_ParseInt_b9 R x8 x9 x10 false I S)
def strconv_ParseInt_b7 (R : RT) (x8 : Bool) (x9 x10 : Int) (x52 : Bool) (I : IMem) (S : SH) : Prop :=
  bcase x52
    (R (.tuple #[.int .i64 (IntKind.wrap .i64 (IntKind.wrap .u64 (x10 - (1 : Int)))), (.iface 157 (.int .i64 1))]) I S)
    (strconv_ParseInt_b8 R x8 x9 x10 I S)
def strconv_ParseInt_b6 (R : RT) (x8 : Bool) (x9 x10 : Int) (I : IMem) (S : SH) : Prop :=
  bcase (!x8)
    (strconv_ParseInt_b7 R x8 x9 x10 (decide (x9 ≥ x10)) I S)
    (strconv_ParseInt_b7 R x8 x9 x10 false I S)
def strconv_ParseInt_b5 (R : RT) (x2 : Int) (x8 : Bool) (x9 : Int) (I : IMem) (S : SH) : Prop :=
  bcase (decide ((IntKind.wrap .u64 (IntKind.wrap .i64 (x2 - (1 : Int)))) < 0)) False (strconv_ParseInt_b6 R x8 x9 (IntKind.wrap .u64 ((1 : Int) * 2 ^ (min (IntKind.wrap .u64 (IntKind.wrap .i64 (x2 - (1 : Int)))).toNat (IntKind.bits .u64)))) I S)
def strconv_ParseInt_b4 (R : RT) (x2 : Int) (x8 : Bool) (x9 : Int) (I : IMem) (S : SH) : Prop :=
  bcase (x2 == (0 : Int))
    (strconv_ParseInt_b5 R 64 x8 x9 I S)
    (strconv_ParseInt_b5 R x2 x8 x9 I S)
def strconv_ParseInt_b3 (R : RT) (x2 : Int) (x7 : Value) (x8 : Bool) (x9 : Int) (x38 : Bool) (I : IMem) (S : SH) : Prop :=
  bcase x38
    (R (.tuple #[.int .i64 0, x7]) I S)
    (strconv_ParseInt_b4 R x2 x8 x9 I S)
def strconv_ParseInt_b2 (R : RT) (x2 : Int) (x7 : Value) (x8 : Bool) (x9 : Int) (I : IMem) (S : SH) : Prop :=
  ∃ nl, isNilI x7 = some nl ∧
  bcase (!nl)
    (∃ ei, eqI Tryz.prog x7 157 (.int .i64 1) = some ei ∧
    strconv_ParseInt_b3 R x2 x7 x8 x9 (!ei) I S)
    (strconv_ParseInt_b3 R x2 x7 x8 x9 false I S)
def strconv_ParseInt_b1 (R : RT) (x0 : ByteArray) (x1 x2 : Int) (x8 : Bool) (I : IMem) (S : SH) : Prop :=
  Runs Tryz.prog 105 #[.string x0, .int .i64 x1, .int .i64 x2] I S fun v I1 S1 => ∃ u0 u1, v = .tuple #[.int .u64 u0, u1] ∧
  strconv_ParseInt_b2 R x2 u1 x8 u0 I1 S1
def strconv_ParseInt (R : RT) (u0 : ByteArray) (u1 u2 : Int) (I : IMem) (S : SH) : Prop :=
  bcase (u0.toList == (⟨#[]⟩ : ByteArray).toList)
    (R (.tuple #[.int .i64 0, (.iface 157 (.int .i64 2))]) I S)
    (∃ u3 : UInt8, (0 : Int) ≤ (0 : Int) ∧ u0[(0 : Int).toNat]? = some u3 ∧
    bcase ((u3.toNat : Int) == (43 : Int))
      ((0 : Int) ≤ (1 : Int) ∧ (1 : Int) ≤ ((u0.size : Nat) : Int) ∧
      strconv_ParseInt_b1 R (u0.extract ((1 : Int).toNat) u0.size) u1 u2 false I S)
      (bcase ((u3.toNat : Int) == (45 : Int))
        ((0 : Int) ≤ (1 : Int) ∧ (1 : Int) ≤ ((u0.size : Nat) : Int) ∧
        strconv_ParseInt_b1 R (u0.extract ((1 : Int).toNat) u0.size) u1 u2 true I S)
        (strconv_ParseInt_b1 R u0 u1 u2 false I S)))
theorem strconv_ParseInt_fn (R : RT) (u0 : ByteArray) (u1 u2 : Int) (I : IMem) (S : SH) (h : strconv_ParseInt R u0 u1 u2 I S) : Runs Tryz.prog 97 #[.string u0, .int .i64 u1, .int .i64 u2] I S R := by
  refine Runs.of_wp (c := cd Tryz.f97) Tryz.func97 (by kernel_rfl) (by kernel_rfl) ?_
  refine cO 4 [kS 0, kI .i64 1, kI .i64 2, kB 8] (strconv_ParseInt_b1 R) h fun _ _ _ _ _ _ _ _ h => ?_
  refine cO 2 [kI .i64 2, kV 7, kB 8, kI .u64 9] (strconv_ParseInt_b2 R) h fun _ _ _ _ _ _ _ _ h => ?_
  refine sO [kI .i64 2, kB 8, kI .u64 9] (strconv_ParseInt_b4 R) ?_ fun _ _ _ _ _ _ _ h => ?_
  · refine cO 1 [kI .i64 2, kV 7, kB 8, kI .u64 9, kB 38] (strconv_ParseInt_b3 R) h fun _ _ _ _ _ _ _ _ _ h => ?_
    exact pS h
  refine cO 1 [kI .i64 2, kB 8, kI .u64 9] (strconv_ParseInt_b5 R) h fun _ _ _ _ _ _ _ h => ?_
  refine cO 1 [kB 8, kI .u64 9, kI .u64 10] (strconv_ParseInt_b6 R) h fun _ _ _ _ _ _ _ h => ?_
  refine sO [kB 8, kI .u64 9, kI .u64 10] (strconv_ParseInt_b8 R) ?_ fun _ _ _ _ _ _ _ h => ?_
  · refine cO 1 [kB 8, kI .u64 9, kI .u64 10, kB 52] (strconv_ParseInt_b7 R) h fun _ _ _ _ _ _ _ _ h => ?_
    exact pS h
  refine sO [kB 8, kI .u64 9] (strconv_ParseInt_b10 R) ?_ fun _ _ _ _ _ _ h => ?_
  · refine cO 1 [kB 8, kI .u64 9, kI .u64 10, kB 62] (strconv_ParseInt_b9 R) h fun _ _ _ _ _ _ _ _ h => ?_
    exact pS h
  refine cO 2 [kI .i64 11] (strconv_ParseInt_b11 R) h fun _ _ _ _ _ h => ?_
  exact pS h
def strconv_syntaxError_b2 (R : RT) (x4 : OA) (I : IMem) (S : SH) : Prop :=
  R (.pointer x4) I S
def strconv_syntaxError_b1 (R : RT) (x0 x1 : ByteArray) (I : IMem) (S : SH) : Prop :=
  ∃ u0 u1, Cell I S ⟨1, 0, none⟩ (.iface u0 u1) ∧
  Runs Tryz.prog 109 #[.string x1] I S fun v I1 S1 => ∃ u2, v = .string u2 ∧
  Keep I S I1 S1 ∧
  ∀ b10 : Nat,
  strconv_syntaxError_b2 R (some ⟨b10, 0, none⟩) I1 ((b10, .cells #[.string x0, .string u2, (.iface u0 u1)] 170 (0, 0)) :: S1)
def strconv_syntaxError (R : RT) (u0 u1 : ByteArray) (I : IMem) (S : SH) : Prop :=
  strconv_syntaxError_b1 R u0 u1 I S
theorem strconv_syntaxError_fn (R : RT) (u0 u1 : ByteArray) (I : IMem) (S : SH) (h : strconv_syntaxError R u0 u1 I S) : Runs Tryz.prog 98 #[.string u0, .string u1] I S R := by
  refine Runs.of_wp (c := cd Tryz.f98) Tryz.func98 (by kernel_rfl) (by kernel_rfl) ?_
  refine cO 1 [kS 0, kS 1] (strconv_syntaxError_b1 R) h fun _ _ _ _ _ _ h => ?_
  refine sO [kP 4] (strconv_syntaxError_b2 R) (dR (.take 0 (.take 1 (.take 3 (.step 2 (.take 4 (.step 5 (.take 6 .done))))))) [2, 5] h) fun _ _ _ _ _ h => ?_
  exact pS h
def strconv_rangeError_b2 (R : RT) (x4 : OA) (I : IMem) (S : SH) : Prop :=
  R (.pointer x4) I S
def strconv_rangeError_b1 (R : RT) (x0 x1 : ByteArray) (I : IMem) (S : SH) : Prop :=
  ∃ u0 u1, Cell I S ⟨2, 0, none⟩ (.iface u0 u1) ∧
  Runs Tryz.prog 109 #[.string x1] I S fun v I1 S1 => ∃ u2, v = .string u2 ∧
  Keep I S I1 S1 ∧
  ∀ b10 : Nat,
  strconv_rangeError_b2 R (some ⟨b10, 0, none⟩) I1 ((b10, .cells #[.string x0, .string u2, (.iface u0 u1)] 170 (0, 0)) :: S1)
def strconv_rangeError (R : RT) (u0 u1 : ByteArray) (I : IMem) (S : SH) : Prop :=
  strconv_rangeError_b1 R u0 u1 I S
theorem strconv_rangeError_fn (R : RT) (u0 u1 : ByteArray) (I : IMem) (S : SH) (h : strconv_rangeError R u0 u1 I S) : Runs Tryz.prog 99 #[.string u0, .string u1] I S R := by
  refine Runs.of_wp (c := cd Tryz.f99) Tryz.func99 (by kernel_rfl) (by kernel_rfl) ?_
  refine cO 1 [kS 0, kS 1] (strconv_rangeError_b1 R) h fun _ _ _ _ _ _ h => ?_
  refine sO [kP 4] (strconv_rangeError_b2 R) (dR (.take 0 (.take 1 (.take 3 (.step 2 (.take 4 (.step 5 (.take 6 .done))))))) [2, 5] h) fun _ _ _ _ _ h => ?_
  exact pS h
def stringslite_Clone (R : RT) (u0 : ByteArray) (I : IMem) (S : SH) : Prop :=
  bcase ((u0.size : Int) == (0 : Int))
    (R (.string ⟨#[]⟩) I S)
    ((0 : Int) ≤ (u0.size : Int) ∧ (u0.size : Int) ≤ (u0.size : Int) ∧ (u0.size : Int) ≤ 9223372036854775807 ∧ (1 : Int) * (u0.size : Int) ≤ 281474976710656 ∧ ∀ b9 : Nat,
    CpyP 1 I ((b9, .cells (repV (u0.size : Int).toNat [.int .u8 0]).toArray 5 (0, 0)) :: S) (.slice (some ⟨b9, 0, none⟩) ((u0.size : Int).toNat) ((u0.size : Int).toNat)) (.string u0) fun u1 S1 =>
    ptrP (some ⟨b9, 0, none⟩) fun u2 => (0 : Int) ≤ (0 : Int) ∧ (0 : Int) < ((u0.size : Int).toNat : Int) ∧
    UsP Tryz.prog 5 I S1 (some (u2.add ((0 : Int).toNat * 1))) (((u0.size : Int).toNat : Nat) : Int) fun u3 S1' =>
    R (.string u3) I S1')
theorem stringslite_Clone_fn (R : RT) (u0 : ByteArray) (I : IMem) (S : SH) (h : stringslite_Clone R u0 I S) : Runs Tryz.prog 109 #[.string u0] I S R := by
  refine Runs.of_wp (c := cd Tryz.f109) Tryz.func109 (by kernel_rfl) (by kernel_rfl) ?_
  exact pS h
def strconv_lower (R : RT) (u0 : Int) (I : IMem) (S : SH) : Prop :=
  R (.int .u8 (ior .u8 u0 (32 : Int))) I S
theorem strconv_lower_fn (R : RT) (u0 : Int) (I : IMem) (S : SH) (h : strconv_lower R u0 I S) : Runs Tryz.prog 111 #[.int .u8 u0] I S R := by
  refine Runs.of_wp (c := cd Tryz.f111) Tryz.func111 (by kernel_rfl) (by kernel_rfl) ?_
  exact pS h
def bits_Mul (R : RT) (u0 u1 : Int) (I : IMem) (S : SH) : Prop :=
  Runs Tryz.prog 103 #[.int .u64 u0, .int .u64 u1] I S fun v I1 S1 => ∃ u2 u3, v = .tuple #[.int .u64 u2, .int .u64 u3] ∧
  R (.tuple #[.int .u64 u2, .int .u64 u3]) I1 S1
theorem bits_Mul_fn (R : RT) (u0 u1 : Int) (I : IMem) (S : SH) (h : bits_Mul R u0 u1 I S) : Runs Tryz.prog 85 #[.int .u64 u0, .int .u64 u1] I S R := by
  refine Runs.of_wp (c := cd Tryz.f85) Tryz.func85 (by kernel_rfl) (by kernel_rfl) ?_
  exact pS h
end Go.Proofs.YtcdajekafnggkaaGreatDoor
set_option linter.unusedVariables false
set_option maxRecDepth 8000
set_option maxHeartbeats 2000000
namespace Go.Proofs.YtcdajekafnggkaaGreatDoor
open Go.Px
def owner_Prefix (R : RT) (u0 : ByteArray) (u1 : Int) (I : IMem) (S : SH) : Prop :=
  ∀ b1 : Nat,
  ∃ u2, Cell I ((b1, .cells #[.string u0, .int .i64 u1] 33 (0, 0)) :: S) ⟨b1, 0, none⟩ (.string u2) ∧
  ∃ u3, Cell I ((b1, .cells #[.string u0, .int .i64 u1] 33 (0, 0)) :: S) ⟨b1, 1, none⟩ (.int .i64 u3) ∧
  Runs Tryz.prog 48 #[.agg #[.string u2, .int .i64 u3]] I ((b1, .cells #[.string u0, .int .i64 u1] 33 (0, 0)) :: S) fun v I1 S1 => ∃ u4, v = .bool u4 ∧
  bcase (!u4)
    (R (.slice none 0 0) I1 S1)
    (∃ u5, Cell I1 S1 ⟨b1, 1, none⟩ (.int .i64 u5) ∧
    Runs Tryz.prog 58 #[.int .i64 u5] I1 S1 fun v' I1' S1' => ∃ u6, v' = .string u6 ∧
    ∀ b10 : Nat,
    ∃ u7, Cell I1' ((b10, .cells #[.string u6] 9 (0, 0)) :: S1') ⟨b1, 0, none⟩ (.string u7) ∧
    bcase ((u7.size : Int) == (4 : Int))
      (∃ u8, Cell I1' ((b10, .cells #[.string u6] 9 (0, 0)) :: S1') ⟨b1, 0, none⟩ (.string u8) ∧
      Runs Tryz.prog 59 #[.string u8] I1' ((b10, .cells #[.string u6] 9 (0, 0)) :: S1') fun v'' I1'' S1'' => ∃ u9 u9n u9c, v'' = .slice u9 u9n u9c ∧
      AppG 9 1 16 [.string ⟨#[]⟩] (some (.slice 9)) I1'' S1'' (.slice (some ⟨b10, 0, none⟩) 1 1) (.slice u9 u9n u9c) fun ua uan uac S1_r3 =>
      R (.slice ua uan uac) I1'' S1_r3)
      (∃ ub, Cell I1' ((b10, .cells #[.string u6] 9 (0, 0)) :: S1') ⟨b1, 0, none⟩ (.string ub) ∧
      Runs Tryz.prog 60 #[.string ub] I1' ((b10, .cells #[.string u6] 9 (0, 0)) :: S1') fun v_r3 I1_r3 S1_r4 => ∃ uc ucn ucc, v_r3 = .slice uc ucn ucc ∧
      AppG 9 1 16 [.string ⟨#[]⟩] (some (.slice 9)) I1_r3 S1_r4 (.slice (some ⟨b10, 0, none⟩) 1 1) (.slice uc ucn ucc) fun ud udn udc S1_r5 =>
      R (.slice ud udn udc) I1_r3 S1_r5))
theorem owner_Prefix_fn (R : RT) (u0 : ByteArray) (u1 : Int) (I : IMem) (S : SH) (h : owner_Prefix R u0 u1 I S) : Runs Tryz.prog 44 #[.agg #[.string u0, .int .i64 u1]] I S R := by
  refine Runs.of_wp (c := cd Tryz.f44) Tryz.func44 (by kernel_rfl) (by kernel_rfl) ?_
  exact pS h
def owner_Address_b3 (R : RT) (x2 x8 : Addr) (I : IMem) (S : SH) : Prop :=
  ∃ u0, Cell I S x8 (.string u0) ∧
  ∃ u1, Cell I S (x8.add 1) (.int .i64 u1) ∧
  StP S x2 [.string u0, .int .i64 u1] fun S1 =>
  ∃ u2, Cell I S1 x2 (.string u2) ∧
  ∃ u3, Cell I S1 (x2.add 1) (.int .i64 u3) ∧
  R (.tuple #[.agg #[.string u2, .int .i64 u3], .bool true]) I S1
def owner_Address_b2 (R : RT) (x2 x8 : Addr) (x41 : Bool) (I : IMem) (S : SH) : Prop :=
  bcase x41
    (StP S x2 [.string ⟨#[]⟩, .int .i64 0] fun S1 =>
    ∃ u0, Cell I S1 x2 (.string u0) ∧
    ∃ u1, Cell I S1 (x2.add 1) (.int .i64 u1) ∧
    R (.tuple #[.agg #[.string u0, .int .i64 u1], .bool false]) I S1)
    (owner_Address_b3 R x2 x8 I S)
def owner_Address_b1 (R : RT) (x0 : OA) (x0n x0c : Nat) (x2 : Addr) (x5 x7 : Bool) (x8 : Addr) (I : IMem) (S : SH) : Prop :=
  bcase (!x5)
    (owner_Address_b2 R x2 x8 true I S)
    (bcase (!x7)
      (owner_Address_b2 R x2 x8 true I S)
      (∃ u0, Cell I S x8 (.string u0) ∧
      ∃ u1, Cell I S (x8.add 1) (.int .i64 u1) ∧
      Runs Tryz.prog 44 #[.agg #[.string u0, .int .i64 u1]] I S fun v I1 S1 => ∃ u2 u2n u2c, v = .slice u2 u2n u2c ∧
      Runs Tryz.prog 70 #[.slice u2 u2n u2c, .slice x0 x0n x0c] I1 S1 fun v' I1' S1' => ∃ u3, v' = .bool u3 ∧
      owner_Address_b2 R x2 x8 (!u3) I1' S1'))
def owner_Address (R : RT) (u0 : OA) (u0n u0c : Nat) (I : IMem) (S : SH) : Prop :=
  ∀ b2 : Nat,
  bcase (decide ((u0n : Int) < (2 : Int)))
    (StP ((b2, .cells #[.string ⟨#[]⟩, .int .i64 0] 33 (0, 0)) :: S) ⟨b2, 0, none⟩ [.string ⟨#[]⟩, .int .i64 0] fun S1 =>
    ∃ u1, Cell I S1 ⟨b2, 0, none⟩ (.string u1) ∧
    ∃ u2, Cell I S1 ⟨b2, 1, none⟩ (.int .i64 u2) ∧
    R (.tuple #[.agg #[.string u1, .int .i64 u2], .bool false]) I S1)
    (ptrP u0 fun u3 => (0 : Int) ≤ (0 : Int) ∧ (0 : Int) < (u0n : Int) ∧
    ∃ u4, Cell I ((b2, .cells #[.string ⟨#[]⟩, .int .i64 0] 33 (0, 0)) :: S) (u3.add ((0 : Int).toNat * 1)) (.string u4) ∧
    Runs Tryz.prog 68 #[.string u4, .int .i64 128] I ((b2, .cells #[.string ⟨#[]⟩, .int .i64 0] 33 (0, 0)) :: S) fun v I1 S1' => ∃ u5 u6, v = .tuple #[.int .i64 u5, .bool u6] ∧
    (0 : Int) ≤ (1 : Int) ∧ (1 : Int) ≤ ((u0n : Nat) : Int) ∧
    Runs Tryz.prog 69 #[.slice (slA u0 u0c ((1 : Int).toNat) 1) (u0n - (1 : Int).toNat) (u0c - (1 : Int).toNat)] I1 S1' fun v' I1' S1'' => ∃ u7 u8, v' = .tuple #[.string u7, .bool u8] ∧
    ∀ b8 : Nat,
    StP ((b8, .cells #[.string ⟨#[]⟩, .int .i64 0] 33 (0, 0)) :: S1'') ⟨b8, 0, none⟩ [.string u7, .int .i64 u5] fun S1_r3 =>
    owner_Address_b1 R u0 u0n u0c ⟨b2, 0, none⟩ u6 u8 ⟨b8, 0, none⟩ I1' S1_r3)
theorem owner_Address_fn (R : RT) (u0 : OA) (u0n u0c : Nat) (I : IMem) (S : SH) (h : owner_Address R u0 u0n u0c I S) : Runs Tryz.prog 62 #[.slice u0 u0n u0c] I S R := by
  refine Runs.of_wp (c := cd Tryz.f62) Tryz.func62 (by kernel_rfl) (by kernel_rfl) ?_
  refine cO 5 [kL 0, kA 2, kB 5, kB 7, kA 8] (owner_Address_b1 R) h fun _ _ _ _ _ _ _ _ _ _ _ h => ?_
  refine sO [kA 2, kA 8] (owner_Address_b3 R) ?_ fun _ _ _ _ _ _ h => ?_
  · refine cO 1 [kA 2, kA 8, kB 41] (owner_Address_b2 R) h fun _ _ _ _ _ _ _ h => ?_
    exact pS h
  exact pS h
def prefix_May_b1 (R : RT) (x2 : Bool) (I : IMem) (S : SH) : Prop :=
  R (.bool x2) I S
def prefix_May (R : RT) (u0 : ByteArray) (u1 : Int) (I : IMem) (S : SH) : Prop :=
  ∀ b1 : Nat,
  ∃ u2, Cell I ((b1, .cells #[.string u0, .int .i64 u1] 33 (0, 0)) :: S) ⟨b1, 0, none⟩ (.string u2) ∧
  ∃ u3, Cell I ((b1, .cells #[.string u0, .int .i64 u1] 33 (0, 0)) :: S) ⟨b1, 1, none⟩ (.int .i64 u3) ∧
  Runs Tryz.prog 29 #[.string u2, .int .i64 u3] I ((b1, .cells #[.string u0, .int .i64 u1] 33 (0, 0)) :: S) fun v I1 S1 => ∃ u4 u5 u6, v = .tuple #[.agg #[.string u4, .int .i64 u5], .bool u6] ∧
  ∀ b3 : Nat,
  StP ((b3, .cells #[.string ⟨#[]⟩, .int .i64 0] 33 (0, 0)) :: S1) ⟨b3, 0, none⟩ [.string u4, .int .i64 u5] fun S1' =>
  bcase u6
    (∃ u7, Cell I1 S1' ⟨b3, 0, none⟩ (.string u7) ∧
    ∃ u8, Cell I1 S1' ⟨b3, 1, none⟩ (.int .i64 u8) ∧
    ∃ u9, Cell I1 S1' ⟨b1, 0, none⟩ (.string u9) ∧
    ∃ ua, Cell I1 S1' ⟨b1, 1, none⟩ (.int .i64 ua) ∧
    prefix_May_b1 R (((u7 : ByteArray) == (u9 : ByteArray)) && (((u8 : Int) == (ua : Int)) && true)) I1 S1')
    (prefix_May_b1 R false I1 S1')
theorem prefix_May_fn (R : RT) (u0 : ByteArray) (u1 : Int) (I : IMem) (S : SH) (h : prefix_May R u0 u1 I S) : Runs Tryz.prog 48 #[.agg #[.string u0, .int .i64 u1]] I S R := by
  refine Runs.of_wp (c := cd Tryz.f48) Tryz.func48 (by kernel_rfl) (by kernel_rfl) ?_
  refine cO 3 [kB 2] (prefix_May_b1 R) h fun _ _ _ _ _ h => ?_
  exact pS h
abbrev prefix_Cut_t6 := ByteArray → Int → Addr → OA → Nat → Nat → Int → PR
def prefix_Cut_b8 (g6 : prefix_Cut_t6) (R : RT) (x0 : ByteArray) (x1 : Int) (x4 : Addr) (x6 : OA) (x6n x6c : Nat) (x7 : Int) (I : IMem) (S : SH) : Prop :=
  g6 x0 x1 x4 x6 x6n x6c (IntKind.wrap .i64 (x7 + (1 : Int))) I S
def prefix_Cut_b7 (g6 : prefix_Cut_t6) (R : RT) (x0 : ByteArray) (x1 : Int) (x4 : Addr) (x6 : OA) (x6n x6c : Nat) (x7 : Int) (I : IMem) (S : SH) : Prop :=
  ptrP x6 fun u0 => (0 : Int) ≤ (IntKind.wrap .i64 (x7.tdiv (8 : Int))) ∧ (IntKind.wrap .i64 (x7.tdiv (8 : Int))) < (x6n : Int) ∧
  ∃ u1, Cell I S (u0.add ((IntKind.wrap .i64 (x7.tdiv (8 : Int))).toNat * 1)) (.int .u8 u1) ∧
  bcase (decide ((IntKind.wrap .i64 ((7 : Int) - (x7.tmod (8 : Int)))) < 0)) False (ptrP x6 fun u2 => (0 : Int) ≤ (IntKind.wrap .i64 (x7.tdiv (8 : Int))) ∧ (IntKind.wrap .i64 (x7.tdiv (8 : Int))) < (x6n : Int) ∧
  StP S (u2.add ((IntKind.wrap .i64 (x7.tdiv (8 : Int))).toNat * 1)) [.int .u8 (ibic .u8 u1 (IntKind.wrap .u8 ((1 : Int) * 2 ^ (min (IntKind.wrap .i64 ((7 : Int) - (x7.tmod (8 : Int)))).toNat (IntKind.bits .u8)))))] fun S1 =>
  prefix_Cut_b8 g6 R x0 x1 x4 x6 x6n x6c x7 I S1)
def prefix_Cut_b9 (R : RT) (x1 : Int) (x4 : Addr) (x6 : OA) (x6n x6c : Nat) (I : IMem) (S : SH) : Prop :=
  ∃ u0 : ByteArray, BytesAt I S x6 x6n u0 ∧
  StP S x4 [.string u0, .int .i64 x1] fun S1 =>
  ∃ u1, Cell I S1 x4 (.string u1) ∧
  ∃ u2, Cell I S1 (x4.add 1) (.int .i64 u2) ∧
  R (.tuple #[.agg #[.string u1, .int .i64 u2], .bool true]) I S1
def prefix_Cut_l6 (g6 : prefix_Cut_t6) (R : RT) (x0 : ByteArray) (x1 : Int) (x4 : Addr) (x6 : OA) (x6n x6c : Nat) (x7 : Int) (I : IMem) (S : SH) : Prop :=
  bcase (decide (x7 < (IntKind.wrap .i64 ((8 : Int) * (x0.size : Int)))))
    (prefix_Cut_b7 g6 R x0 x1 x4 x6 x6n x6c x7 I S)
    (prefix_Cut_b9 R x1 x4 x6 x6n x6c I S)
def prefix_Cut_b5 (R : RT) (x0 : ByteArray) (x1 : Int) (x4 : Addr) (x6 : OA) (x6n x6c : Nat) (x7 : Int) (I : IMem) (S : SH) : Prop :=
  ∃ (Inv : Nat → prefix_Cut_t6) (m : Nat), Inv m x0 x1 x4 x6 x6n x6c x7 I S ∧
    ∀ (m : Nat) (x0 : ByteArray) (x1 : Int) (x4 : Addr) (x6 : OA) (x6n x6c : Nat) (x7 : Int) (J : IMem) (T : SH), I.le J → Inv m x0 x1 x4 x6 x6n x6c x7 J T →
      prefix_Cut_l6 (fun x0 x1 x4 x6 x6n x6c x7 I S => ∃ m', m' < m ∧ Inv m' x0 x1 x4 x6 x6n x6c x7 I S) R x0 x1 x4 x6 x6n x6c x7 J T
def prefix_Cut_b4 (R : RT) (x0 : ByteArray) (x1 : Int) (x4 : Addr) (x6 : OA) (x6n x6c : Nat) (I : IMem) (S : SH) : Prop :=
  prefix_Cut_b5 R x0 x1 x4 x6 x6n x6c x1 I S
def prefix_Cut_b3 (R : RT) (x0 : ByteArray) (x1 : Int) (x4 : Addr) (I : IMem) (S : SH) : Prop :=
  x0.size ≤ maxLen ∧ ∀ b24 c24 : Nat, x0.size ≤ c24 → c24 ≤ maxLen →
  prefix_Cut_b4 R x0 x1 x4 (some ⟨b24, 0, none⟩) x0.size c24 I ((b24, .cells (byteCells x0 ++ repV (c24 - x0.size) [.int .u8 0]).toArray 5 (c24, c24 + 1)) :: S)
def prefix_Cut_b2 (R : RT) (x0 : ByteArray) (x1 : Int) (x4 : Addr) (x21 : Bool) (I : IMem) (S : SH) : Prop :=
  bcase x21
    (StP S x4 [.string ⟨#[]⟩, .int .i64 0] fun S1 =>
    ∃ u0, Cell I S1 x4 (.string u0) ∧
    ∃ u1, Cell I S1 (x4.add 1) (.int .i64 u1) ∧
    R (.tuple #[.agg #[.string u0, .int .i64 u1], .bool false]) I S1)
    (prefix_Cut_b3 R x0 x1 x4 I S)
def prefix_Cut_b1 (R : RT) (x0 : ByteArray) (x1 : Int) (x4 : Addr) (I : IMem) (S : SH) : Prop :=
  Runs Tryz.prog 54 #[.string x0] I S fun v I1 S1 => ∃ u0, v = .bool u0 ∧
  bcase (!u0)
    (prefix_Cut_b2 R x0 x1 x4 true I1 S1)
    (bcase (decide (x1 < (0 : Int)))
      (prefix_Cut_b2 R x0 x1 x4 true I1 S1)
      (prefix_Cut_b2 R x0 x1 x4 (decide (x1 > (IntKind.wrap .i64 ((8 : Int) * (x0.size : Int))))) I1 S1))
def prefix_Cut (R : RT) (u0 : ByteArray) (u1 : Int) (I : IMem) (S : SH) : Prop :=
  ∀ b4 : Nat,
  prefix_Cut_b1 R u0 u1 ⟨b4, 0, none⟩ I ((b4, .cells #[.string ⟨#[]⟩, .int .i64 0] 33 (0, 0)) :: S)
theorem prefix_Cut_fn (R : RT) (u0 : ByteArray) (u1 : Int) (I : IMem) (S : SH) (h : prefix_Cut R u0 u1 I S) : Runs Tryz.prog 29 #[.string u0, .int .i64 u1] I S R := by
  refine Runs.of_wp (c := cd Tryz.f29) Tryz.func29 (by kernel_rfl) (by kernel_rfl) ?_
  refine cO 1 [kS 0, kI .i64 1, kA 4] (prefix_Cut_b1 R) h fun _ _ _ _ _ _ _ h => ?_
  refine sO [kS 0, kI .i64 1, kA 4] (prefix_Cut_b3 R) ?_ fun _ _ _ _ _ _ _ h => ?_
  · refine cO 1 [kS 0, kI .i64 1, kA 4, kB 21] (prefix_Cut_b2 R) h fun _ _ _ _ _ _ _ _ h => ?_
    exact pS h
  refine cO 1 [kS 0, kI .i64 1, kA 4, kL 6] (prefix_Cut_b4 R) h fun _ _ _ _ _ _ _ _ _ _ h => ?_
  refine sO [kI .i64 1, kA 4, kL 6] (prefix_Cut_b9 R) ?_ fun _ _ _ _ _ _ _ _ _ h => ?_
  · refine cO 1 [kS 0, kI .i64 1, kA 4, kL 6, kI .i64 7] (prefix_Cut_b5 R) h fun _ _ _ _ _ _ _ _ _ _ _ h => ?_
    refine bK ?_
    obtain ⟨Vg6, mg6, h, hr⟩ := h
    refine lO [kS 0, kI .i64 1, kA 4, kL 6, kI .i64 7] Vg6 mg6 h fun mg6 _ I S hle x0 x1 x4 x6 x6n x6c x7 h => ?_
    have h := hr mg6 x0 x1 x4 x6 x6n x6c x7 I S hle h
    refine cO 1 [kS 0, kI .i64 1, kA 4, kL 6, kI .i64 7] (prefix_Cut_b7 (fun x0 x1 x4 x6 x6n x6c x7 I S => ∃ m', m' < mg6 ∧ Vg6 m' x0 x1 x4 x6 x6n x6c x7 I S) R) h fun _ _ _ _ _ _ _ _ _ _ _ h => ?_
    refine sO [kS 0, kI .i64 1, kA 4, kL 6, kI .i64 7] (prefix_Cut_b8 (fun x0 x1 x4 x6 x6n x6c x7 I S => ∃ m', m' < mg6 ∧ Vg6 m' x0 x1 x4 x6 x6n x6c x7 I S) R) (bK (dR (tk 11 0 (.step 11 .done)) [11] h)) fun _ _ _ _ _ _ _ _ _ _ _ h => ?_
    exact pS h
  exact pS h
def prefix_Address_b1 (R : RT) (x2 : Bool) (I : IMem) (S : SH) : Prop :=
  R (.bool x2) I S
def prefix_Address (R : RT) (u0 : ByteArray) (I : IMem) (S : SH) : Prop :=
  bcase ((u0.size : Int) == (4 : Int))
    (prefix_Address_b1 R true I S)
    (prefix_Address_b1 R ((u0.size : Int) == (16 : Int)) I S)
theorem prefix_Address_fn (R : RT) (u0 : ByteArray) (I : IMem) (S : SH) (h : prefix_Address R u0 I S) : Runs Tryz.prog 54 #[.string u0] I S R := by
  refine Runs.of_wp (c := cd Tryz.f54) Tryz.func54 (by kernel_rfl) (by kernel_rfl) ?_
  refine cO 2 [kB 2] (prefix_Address_b1 R) h fun _ _ _ _ _ h => ?_
  exact pS h
abbrev owner_four_t3 := ByteArray → OA → Nat → Nat → Int → PR
def owner_four_b4 (R : RT) (x3 : OA) (x3n x3c : Nat) (I : IMem) (S : SH) : Prop :=
  R (.slice x3 x3n x3c) I S
def owner_four_l3 (g3 : owner_four_t3) (R : RT) (x0 : ByteArray) (x3 : OA) (x3n x3c : Nat) (x4 : Int) (I : IMem) (S : SH) : Prop :=
  bcase (decide (x4 ≥ (0 : Int)))
    (∃ u0 : UInt8, (0 : Int) ≤ x4 ∧ x0[x4.toNat]? = some u0 ∧
    Runs Tryz.prog 58 #[.int .i64 (IntKind.wrap .i64 (u0.toNat : Int))] I S fun v I1 S1 => ∃ u1, v = .string u1 ∧
    ∀ b15 : Nat,
    AppG 9 1 16 [.string ⟨#[]⟩] (some (.slice 9)) I1 ((b15, .cells #[.string u1] 9 (0, 0)) :: S1) (.slice x3 x3n x3c) (.slice (some ⟨b15, 0, none⟩) 1 1) fun u2 u2n u2c S1' =>
    g3 x0 u2 u2n u2c (IntKind.wrap .i64 (x4 - (1 : Int))) I1 S1')
    (owner_four_b4 R x3 x3n x3c I S)
def owner_four_b2 (R : RT) (x0 : ByteArray) (x3 : OA) (x3n x3c : Nat) (x4 : Int) (I : IMem) (S : SH) : Prop :=
  ∃ (Inv : Nat → owner_four_t3) (m : Nat), Inv m x0 x3 x3n x3c x4 I S ∧
    ∀ (m : Nat) (x0 : ByteArray) (x3 : OA) (x3n x3c : Nat) (x4 : Int) (J : IMem) (T : SH), I.le J → Inv m x0 x3 x3n x3c x4 J T →
      owner_four_l3 (fun x0 x3 x3n x3c x4 I S => ∃ m', m' < m ∧ Inv m' x0 x3 x3n x3c x4 I S) R x0 x3 x3n x3c x4 J T
def owner_four_b1 (R : RT) (x0 : ByteArray) (x3 : OA) (x3n x3c : Nat) (I : IMem) (S : SH) : Prop :=
  owner_four_b2 R x0 x3 x3n x3c 3 I S
def owner_four (R : RT) (u0 : ByteArray) (I : IMem) (S : SH) : Prop :=
  owner_four_b1 R u0 none 0 0 I S
theorem owner_four_fn (R : RT) (u0 : ByteArray) (I : IMem) (S : SH) (h : owner_four R u0 I S) : Runs Tryz.prog 59 #[.string u0] I S R := by
  refine Runs.of_wp (c := cd Tryz.f59) Tryz.func59 (by kernel_rfl) (by kernel_rfl) ?_
  refine cO 2 [kS 0, kL 3] (owner_four_b1 R) h fun _ _ _ _ _ _ _ _ h => ?_
  refine sO [kL 3] (owner_four_b4 R) ?_ fun _ _ _ _ _ _ _ h => ?_
  · refine cO 1 [kS 0, kL 3, kI .i64 4] (owner_four_b2 R) h fun _ _ _ _ _ _ _ _ _ h => ?_
    refine bK ?_
    obtain ⟨Vg3, mg3, h, hr⟩ := h
    refine lO [kS 0, kL 3, kI .i64 4] Vg3 mg3 h fun mg3 _ I S hle x0 x3 x3n x3c x4 h => ?_
    have h := hr mg3 x0 x3 x3n x3c x4 I S hle h
    exact pS h
  exact pS h
abbrev owner_six_t3 := ByteArray → OA → Nat → Nat → Int → Int → PR
def owner_six_b6 (g3 : owner_six_t3) (R : RT) (x0 : ByteArray) (x3 : OA) (x3n x3c : Nat) (x13 x14 : Int) (I : IMem) (S : SH) : Prop :=
  g3 x0 x3 x3n x3c x13 (IntKind.wrap .i64 (x14 + (1 : Int))) I S
def owner_six_b5 (g3 : owner_six_t3) (R : RT) (x0 : ByteArray) (x3 : OA) (x3n x3c : Nat) (x4 x13 x14 : Int) (I : IMem) (S : SH) : Prop :=
  ∃ u0 : UInt8, (0 : Int) ≤ (IntKind.wrap .i64 ((2 : Int) * x4)) ∧ x0[(IntKind.wrap .i64 ((2 : Int) * x4)).toNat]? = some u0 ∧
  ∃ u1 : UInt8, (0 : Int) ≤ (IntKind.wrap .i64 ((IntKind.wrap .i64 ((2 : Int) * x4)) + (1 : Int))) ∧ x0[(IntKind.wrap .i64 ((IntKind.wrap .i64 ((2 : Int) * x4)) + (1 : Int))).toNat]? = some u1 ∧
  ptrP x3 fun u2 => (0 : Int) ≤ x4 ∧ x4 < (x3n : Int) ∧
  StP S (u2.add (x4.toNat * 1)) [.int .i64 (ior .i64 (IntKind.wrap .i64 ((IntKind.wrap .i64 (u0.toNat : Int)) * 2 ^ (min (8 : Int).toNat (IntKind.bits .i64)))) (IntKind.wrap .i64 (u1.toNat : Int)))] fun S1 =>
  owner_six_b6 g3 R x0 x3 x3n x3c x13 x14 I S1
def owner_six_b4 (g3 : owner_six_t3) (R : RT) (x0 : ByteArray) (x3 : OA) (x3n x3c : Nat) (x13 x14 : Int) (I : IMem) (S : SH) : Prop :=
  owner_six_b5 g3 R x0 x3 x3n x3c x14 x13 x14 I S
abbrev owner_six_t10 := OA → Nat → Nat → Int → Int → Int → PR
abbrev owner_six_t13 := OA → Nat → Nat → Int → Int → Int → Int → PR
def owner_six_b15 (g10 : owner_six_t10) (g13 : owner_six_t13) (R : RT) (x3 : OA) (x3n x3c : Nat) (x5 x6 x7 x8 : Int) (I : IMem) (S : SH) : Prop :=
  g13 x3 x3n x3c x5 x6 x7 (IntKind.wrap .i64 (x8 + (1 : Int))) I S
def owner_six_b17 (g10 : owner_six_t10) (R : RT) (x3 : OA) (x3n x3c : Nat) (x5 x6 x7 : Int) (I : IMem) (S : SH) : Prop :=
  g10 x3 x3n x3c x5 x6 (IntKind.wrap .i64 (x7 + (1 : Int))) I S
def owner_six_b16 (g10 : owner_six_t10) (R : RT) (x3 : OA) (x3n x3c : Nat) (x5 x6 x7 x8 : Int) (I : IMem) (S : SH) : Prop :=
  bcase (decide (x8 > x6))
    (owner_six_b17 g10 R x3 x3n x3c x7 x8 x7 I S)
    (owner_six_b17 g10 R x3 x3n x3c x5 x6 x7 I S)
def owner_six_b14 (g10 : owner_six_t10) (g13 : owner_six_t13) (R : RT) (x3 : OA) (x3n x3c : Nat) (x5 x6 x7 x8 : Int) (x50 : Bool) (I : IMem) (S : SH) : Prop :=
  bcase x50
    (owner_six_b15 g10 g13 R x3 x3n x3c x5 x6 x7 x8 I S)
    (owner_six_b16 g10 R x3 x3n x3c x5 x6 x7 x8 I S)
def owner_six_l13 (g10 : owner_six_t10) (g13 : owner_six_t13) (R : RT) (x3 : OA) (x3n x3c : Nat) (x5 x6 x7 x8 : Int) (I : IMem) (S : SH) : Prop :=
  bcase (decide ((IntKind.wrap .i64 (x7 + x8)) < (8 : Int)))
    (ptrP x3 fun u0 => (0 : Int) ≤ (IntKind.wrap .i64 (x7 + x8)) ∧ (IntKind.wrap .i64 (x7 + x8)) < (x3n : Int) ∧
    ∃ u1, Cell I S (u0.add ((IntKind.wrap .i64 (x7 + x8)).toNat * 1)) (.int .i64 u1) ∧
    owner_six_b14 g10 g13 R x3 x3n x3c x5 x6 x7 x8 (u1 == (0 : Int)) I S)
    (owner_six_b14 g10 g13 R x3 x3n x3c x5 x6 x7 x8 false I S)
def owner_six_b12 (g10 : owner_six_t10) (R : RT) (x3 : OA) (x3n x3c : Nat) (x5 x6 x7 x8 : Int) (I : IMem) (S : SH) : Prop :=
  ∃ (Inv : Nat → owner_six_t13) (m : Nat), Inv m x3 x3n x3c x5 x6 x7 x8 I S ∧
    ∀ (m : Nat) (x3 : OA) (x3n x3c : Nat) (x5 x6 x7 x8 : Int) (J : IMem) (T : SH), I.le J → Inv m x3 x3n x3c x5 x6 x7 x8 J T →
      owner_six_l13 g10 (fun x3 x3n x3c x5 x6 x7 x8 I S => ∃ m', m' < m ∧ Inv m' x3 x3n x3c x5 x6 x7 x8 I S) R x3 x3n x3c x5 x6 x7 x8 J T
def owner_six_b11 (g10 : owner_six_t10) (R : RT) (x3 : OA) (x3n x3c : Nat) (x5 x6 x7 : Int) (I : IMem) (S : SH) : Prop :=
  owner_six_b12 g10 R x3 x3n x3c x5 x6 x7 0 I S
abbrev owner_six_t21 := OA → Nat → Nat → Int → Int → OA → Nat → Nat → Int → PR
def owner_six_b22 (g21 : owner_six_t21) (R : RT) (x3 : OA) (x3n x3c : Nat) (x5 x6 : Int) (x9 : OA) (x9n x9c : Nat) (x10 : Int) (I : IMem) (S : SH) : Prop :=
  g21 x3 x3n x3c x5 x6 x9 x9n x9c (IntKind.wrap .i64 (x10 + (1 : Int))) I S
def owner_six_b23 (R : RT) (x9 : OA) (x9n x9c : Nat) (I : IMem) (S : SH) : Prop :=
  Runs Tryz.prog 67 #[.slice x9 x9n x9c] I S fun v I1 S1 => v = .tuple #[] ∧
  R (.slice x9 x9n x9c) I1 S1
def owner_six_l21 (g21 : owner_six_t21) (R : RT) (x3 : OA) (x3n x3c : Nat) (x5 x6 : Int) (x9 : OA) (x9n x9c : Nat) (x10 : Int) (I : IMem) (S : SH) : Prop :=
  bcase (decide (x10 < (8 : Int)))
    (bcase (x10 == x5)
      (∀ b66 : Nat,
      AppG 9 1 16 [.string ⟨#[]⟩] (some (.slice 9)) I ((b66, .cells #[.string ⟨#[122, 122]⟩] 9 (0, 0)) :: S) (.slice x9 x9n x9c) (.slice (some ⟨b66, 0, none⟩) 1 1) fun u0 u0n u0c S1 =>
      owner_six_b22 g21 R x3 x3n x3c x5 x6 u0 u0n u0c (IntKind.wrap .i64 (x10 + (IntKind.wrap .i64 (x6 - (1 : Int))))) I S1)
      (ptrP x3 fun u1 => (0 : Int) ≤ x10 ∧ x10 < (x3n : Int) ∧
      ∃ u2, Cell I S (u1.add (x10.toNat * 1)) (.int .i64 u2) ∧
      Runs Tryz.prog 66 #[.int .i64 u2, .int .i64 16] I S fun v I1 S1' => ∃ u3, v = .string u3 ∧
      ∀ b78 : Nat,
      AppG 9 1 16 [.string ⟨#[]⟩] (some (.slice 9)) I1 ((b78, .cells #[.string u3] 9 (0, 0)) :: S1') (.slice x9 x9n x9c) (.slice (some ⟨b78, 0, none⟩) 1 1) fun u4 u4n u4c S1'' =>
      owner_six_b22 g21 R x3 x3n x3c x5 x6 u4 u4n u4c x10 I1 S1''))
    (owner_six_b23 R x9 x9n x9c I S)
def owner_six_b20 (R : RT) (x3 : OA) (x3n x3c : Nat) (x5 x6 : Int) (x9 : OA) (x9n x9c : Nat) (x10 : Int) (I : IMem) (S : SH) : Prop :=
  ∃ (Inv : Nat → owner_six_t21) (m : Nat), Inv m x3 x3n x3c x5 x6 x9 x9n x9c x10 I S ∧
    ∀ (m : Nat) (x3 : OA) (x3n x3c : Nat) (x5 x6 : Int) (x9 : OA) (x9n x9c : Nat) (x10 : Int) (J : IMem) (T : SH), I.le J → Inv m x3 x3n x3c x5 x6 x9 x9n x9c x10 J T →
      owner_six_l21 (fun x3 x3n x3c x5 x6 x9 x9n x9c x10 I S => ∃ m', m' < m ∧ Inv m' x3 x3n x3c x5 x6 x9 x9n x9c x10 I S) R x3 x3n x3c x5 x6 x9 x9n x9c x10 J T
def owner_six_b19 (R : RT) (x3 : OA) (x3n x3c : Nat) (x5 x6 : Int) (x9 : OA) (x9n x9c : Nat) (I : IMem) (S : SH) : Prop :=
  owner_six_b20 R x3 x3n x3c x5 x6 x9 x9n x9c 0 I S
def owner_six_b18 (R : RT) (x3 : OA) (x3n x3c : Nat) (x5 x6 : Int) (I : IMem) (S : SH) : Prop :=
  owner_six_b19 R x3 x3n x3c x5 x6 none 0 0 I S
def owner_six_l10 (g10 : owner_six_t10) (R : RT) (x3 : OA) (x3n x3c : Nat) (x5 x6 x7 : Int) (I : IMem) (S : SH) : Prop :=
  bcase (decide (x7 < (8 : Int)))
    (owner_six_b11 g10 R x3 x3n x3c x5 x6 x7 I S)
    (owner_six_b18 R x3 x3n x3c x5 x6 I S)
def owner_six_b9 (R : RT) (x3 : OA) (x3n x3c : Nat) (x5 x6 x7 : Int) (I : IMem) (S : SH) : Prop :=
  ∃ (Inv : Nat → owner_six_t10) (m : Nat), Inv m x3 x3n x3c x5 x6 x7 I S ∧
    ∀ (m : Nat) (x3 : OA) (x3n x3c : Nat) (x5 x6 x7 : Int) (J : IMem) (T : SH), I.le J → Inv m x3 x3n x3c x5 x6 x7 J T →
      owner_six_l10 (fun x3 x3n x3c x5 x6 x7 I S => ∃ m', m' < m ∧ Inv m' x3 x3n x3c x5 x6 x7 I S) R x3 x3n x3c x5 x6 x7 J T
def owner_six_b8 (R : RT) (x3 : OA) (x3n x3c : Nat) (x5 x6 : Int) (I : IMem) (S : SH) : Prop :=
  owner_six_b9 R x3 x3n x3c x5 x6 0 I S
def owner_six_b7 (R : RT) (x3 : OA) (x3n x3c : Nat) (I : IMem) (S : SH) : Prop :=
  owner_six_b8 R x3 x3n x3c (-1) 1 I S
def owner_six_l3 (g3 : owner_six_t3) (R : RT) (x0 : ByteArray) (x3 : OA) (x3n x3c : Nat) (x13 x14 : Int) (I : IMem) (S : SH) : Prop :=
  bcase (decide (x14 < x13))
    (owner_six_b4 g3 R x0 x3 x3n x3c x13 x14 I S)
    (owner_six_b7 R x3 x3n x3c I S)
def owner_six_b2 (R : RT) (x0 : ByteArray) (x3 : OA) (x3n x3c : Nat) (x13 x14 : Int) (I : IMem) (S : SH) : Prop :=
  ∃ (Inv : Nat → owner_six_t3) (m : Nat), Inv m x0 x3 x3n x3c x13 x14 I S ∧
    ∀ (m : Nat) (x0 : ByteArray) (x3 : OA) (x3n x3c : Nat) (x13 x14 : Int) (J : IMem) (T : SH), I.le J → Inv m x0 x3 x3n x3c x13 x14 J T →
      owner_six_l3 (fun x0 x3 x3n x3c x13 x14 I S => ∃ m', m' < m ∧ Inv m' x0 x3 x3n x3c x13 x14 I S) R x0 x3 x3n x3c x13 x14 J T
def owner_six_b1 (R : RT) (x0 : ByteArray) (x3 : OA) (x3n x3c : Nat) (I : IMem) (S : SH) : Prop :=
  owner_six_b2 R x0 x3 x3n x3c (x3n : Int) 0 I S
def owner_six (R : RT) (u0 : ByteArray) (I : IMem) (S : SH) : Prop :=
  (0 : Int) ≤ 8 ∧ (8 : Int) ≤ 8 ∧ (8 : Int) ≤ 9223372036854775807 ∧ (8 : Int) * 8 ≤ 281474976710656 ∧ ∀ b11 : Nat,
  owner_six_b1 R u0 (some ⟨b11, 0, none⟩) 8 8 I ((b11, .cells #[.int .i64 0, .int .i64 0, .int .i64 0, .int .i64 0, .int .i64 0, .int .i64 0, .int .i64 0, .int .i64 0] 3 (0, 0)) :: S)
theorem owner_six_fn (R : RT) (u0 : ByteArray) (I : IMem) (S : SH) (h : owner_six R u0 I S) : Runs Tryz.prog 60 #[.string u0] I S R := by
  refine Runs.of_wp (c := cd Tryz.f60) Tryz.func60 (by kernel_rfl) (by kernel_rfl) ?_
  refine cO 2 [kS 0, kL 3] (owner_six_b1 R) h fun _ _ _ _ _ _ _ _ h => ?_
  refine sO [kL 3] (owner_six_b7 R) ?_ fun _ _ _ _ _ _ _ h => ?_
  · refine cO 1 [kS 0, kL 3, kI .i64 13, kI .i64 14] (owner_six_b2 R) h fun _ _ _ _ _ _ _ _ _ _ h => ?_
    refine bK ?_
    obtain ⟨Vg3, mg3, h, hr⟩ := h
    refine lO [kS 0, kL 3, kI .i64 13, kI .i64 14] Vg3 mg3 h fun mg3 _ I S hle x0 x3 x3n x3c x13 x14 h => ?_
    have h := hr mg3 x0 x3 x3n x3c x13 x14 I S hle h
    refine cO 2 [kS 0, kL 3, kI .i64 13, kI .i64 14] (owner_six_b4 (fun x0 x3 x3n x3c x13 x14 I S => ∃ m', m' < mg3 ∧ Vg3 m' x0 x3 x3n x3c x13 x14 I S) R) h fun _ _ _ _ _ _ _ _ _ _ h => ?_
    refine sO [kS 0, kL 3, kI .i64 13, kI .i64 14] (owner_six_b6 (fun x0 x3 x3n x3c x13 x14 I S => ∃ m', m' < mg3 ∧ Vg3 m' x0 x3 x3n x3c x13 x14 I S) R) ?_ fun _ _ _ _ _ _ _ _ _ _ h => ?_
    · refine bK ?_
      refine cO 1 [kS 0, kL 3, kI .i64 4, kI .i64 13, kI .i64 14] (owner_six_b5 (fun x0 x3 x3n x3c x13 x14 I S => ∃ m', m' < mg3 ∧ Vg3 m' x0 x3 x3n x3c x13 x14 I S) R) h fun _ _ _ _ _ _ _ _ _ _ _ h => ?_
      exact dR (tk 16 0 (.step 16 .done)) [16] h
    exact pS h
  refine cO 1 [kL 3, kI .i64 5, kI .i64 6] (owner_six_b8 R) h fun _ _ _ _ _ _ _ _ _ h => ?_
  refine sO [kL 3, kI .i64 5, kI .i64 6] (owner_six_b18 R) ?_ fun _ _ _ _ _ _ _ _ _ h => ?_
  · refine cO 1 [kL 3, kI .i64 5, kI .i64 6, kI .i64 7] (owner_six_b9 R) h fun _ _ _ _ _ _ _ _ _ _ h => ?_
    refine bK ?_
    obtain ⟨Vg10, mg10, h, hr⟩ := h
    refine lO [kL 3, kI .i64 5, kI .i64 6, kI .i64 7] Vg10 mg10 h fun mg10 _ I S hle x3 x3n x3c x5 x6 x7 h => ?_
    have h := hr mg10 x3 x3n x3c x5 x6 x7 I S hle h
    refine cO 1 [kL 3, kI .i64 5, kI .i64 6, kI .i64 7] (owner_six_b11 (fun x3 x3n x3c x5 x6 x7 I S => ∃ m', m' < mg10 ∧ Vg10 m' x3 x3n x3c x5 x6 x7 I S) R) h fun _ _ _ _ _ _ _ _ _ _ h => ?_
    refine sO [kL 3, kI .i64 5, kI .i64 6, kI .i64 7] (owner_six_b17 (fun x3 x3n x3c x5 x6 x7 I S => ∃ m', m' < mg10 ∧ Vg10 m' x3 x3n x3c x5 x6 x7 I S) R) ?_ fun _ _ _ _ _ _ _ _ _ _ h => ?_
    · refine bK ?_
      refine cO 1 [kL 3, kI .i64 5, kI .i64 6, kI .i64 7, kI .i64 8] (owner_six_b12 (fun x3 x3n x3c x5 x6 x7 I S => ∃ m', m' < mg10 ∧ Vg10 m' x3 x3n x3c x5 x6 x7 I S) R) h fun _ _ _ _ _ _ _ _ _ _ _ h => ?_
      refine sO [kL 3, kI .i64 5, kI .i64 6, kI .i64 7, kI .i64 8] (owner_six_b16 (fun x3 x3n x3c x5 x6 x7 I S => ∃ m', m' < mg10 ∧ Vg10 m' x3 x3n x3c x5 x6 x7 I S) R) ?_ fun _ _ _ _ _ _ _ _ _ _ _ h => ?_
      · refine bK ?_
        obtain ⟨Vg13, mg13, h, hr⟩ := h
        refine lO [kL 3, kI .i64 5, kI .i64 6, kI .i64 7, kI .i64 8] Vg13 mg13 h fun mg13 _ I S hle x3 x3n x3c x5 x6 x7 x8 h => ?_
        have h := hr mg13 x3 x3n x3c x5 x6 x7 x8 I S hle h
        refine sO [kL 3, kI .i64 5, kI .i64 6, kI .i64 7, kI .i64 8] (owner_six_b15 (fun x3 x3n x3c x5 x6 x7 I S => ∃ m', m' < mg10 ∧ Vg10 m' x3 x3n x3c x5 x6 x7 I S) (fun x3 x3n x3c x5 x6 x7 x8 I S => ∃ m', m' < mg13 ∧ Vg13 m' x3 x3n x3c x5 x6 x7 x8 I S) R) ?_ fun _ _ _ _ _ _ _ _ _ _ _ h => ?_
        · refine cO 1 [kL 3, kI .i64 5, kI .i64 6, kI .i64 7, kI .i64 8, kB 50] (owner_six_b14 (fun x3 x3n x3c x5 x6 x7 I S => ∃ m', m' < mg10 ∧ Vg10 m' x3 x3n x3c x5 x6 x7 I S) (fun x3 x3n x3c x5 x6 x7 x8 I S => ∃ m', m' < mg13 ∧ Vg13 m' x3 x3n x3c x5 x6 x7 x8 I S) R) h fun _ _ _ _ _ _ _ _ _ _ _ _ h => ?_
          exact pS h
        exact pS h
      exact pS h
    exact pS h
  refine cO 1 [kL 3, kI .i64 5, kI .i64 6, kL 9] (owner_six_b19 R) h fun _ _ _ _ _ _ _ _ _ _ _ _ h => ?_
  refine sO [kL 9] (owner_six_b23 R) ?_ fun _ _ _ _ _ _ _ h => ?_
  · refine cO 1 [kL 3, kI .i64 5, kI .i64 6, kL 9, kI .i64 10] (owner_six_b20 R) h fun _ _ _ _ _ _ _ _ _ _ _ _ _ h => ?_
    refine bK ?_
    obtain ⟨Vg21, mg21, h, hr⟩ := h
    refine lO [kL 3, kI .i64 5, kI .i64 6, kL 9, kI .i64 10] Vg21 mg21 h fun mg21 _ I S hle x3 x3n x3c x5 x6 x9 x9n x9c x10 h => ?_
    have h := hr mg21 x3 x3n x3c x5 x6 x9 x9n x9c x10 I S hle h
    refine cO 2 [kL 3, kI .i64 5, kI .i64 6, kL 9, kI .i64 10] (owner_six_b22 (fun x3 x3n x3c x5 x6 x9 x9n x9c x10 I S => ∃ m', m' < mg21 ∧ Vg21 m' x3 x3n x3c x5 x6 x9 x9n x9c x10 I S) R) h fun _ _ _ _ _ _ _ _ _ _ _ _ _ h => ?_
    exact pS h
  exact pS h
def owner_decimal_b1 (R : RT) (x4 : Int) (x5 : Bool) (I : IMem) (S : SH) : Prop :=
  R (.tuple #[.int .i64 x4, .bool x5]) I S
def owner_decimal (R : RT) (u0 : ByteArray) (u1 : Int) (I : IMem) (S : SH) : Prop :=
  Runs Tryz.prog 72 #[.string u0] I S fun v I1 S1 => ∃ u2 u3, v = .tuple #[.int .i64 u2, u3] ∧
  ∃ nl, isNilI u3 = some nl ∧
  bcase nl
    (bcase (decide (u2 ≥ (0 : Int)))
      (bcase (decide (u2 ≤ u1))
        (Runs Tryz.prog 58 #[.int .i64 u2] I1 S1 fun v' I1' S1' => ∃ u4, v' = .string u4 ∧
        owner_decimal_b1 R u2 (u4.toList == u0.toList) I1' S1')
        (owner_decimal_b1 R u2 false I1 S1))
      (owner_decimal_b1 R u2 false I1 S1))
    (owner_decimal_b1 R u2 false I1 S1)
theorem owner_decimal_fn (R : RT) (u0 : ByteArray) (u1 : Int) (I : IMem) (S : SH) (h : owner_decimal R u0 u1 I S) : Runs Tryz.prog 68 #[.string u0, .int .i64 u1] I S R := by
  refine Runs.of_wp (c := cd Tryz.f68) Tryz.func68 (by kernel_rfl) (by kernel_rfl) ?_
  refine cO 3 [kI .i64 4, kB 5] (owner_decimal_b1 R) h fun _ _ _ _ _ _ h => ?_
  exact pS h
abbrev owner_address_t4 := OA → Nat → Nat → OA → Nat → Nat → Int → Int → PR
def owner_address_b5 (R : RT) (x4 : OA) (x4n x4c : Nat) (I : IMem) (S : SH) : Prop :=
  ∃ u0 : ByteArray, BytesAt I S x4 x4n u0 ∧
  R (.tuple #[.string u0, .bool true]) I S
def owner_address_l4 (g4 : owner_address_t4) (R : RT) (x4 : OA) (x4n x4c : Nat) (x27 : OA) (x27n x27c : Nat) (x28 x29 : Int) (I : IMem) (S : SH) : Prop :=
  bcase (decide (x29 < x28))
    (ptrP x27 fun u0 => (0 : Int) ≤ x29 ∧ x29 < (x27n : Int) ∧
    ∃ u1, Cell I S (u0.add (x29.toNat * 1)) (.string u1) ∧
    Runs Tryz.prog 68 #[.string u1, .int .i64 255] I S fun v I1 S1 => ∃ u2 u3, v = .tuple #[.int .i64 u2, .bool u3] ∧
    bcase (!u3)
      (R (.tuple #[.string ⟨#[]⟩, .bool false]) I1 S1)
      (∀ b43 : Nat,
      AppG 5 1 1 [.int .u8 0] (some (.slice 5)) I1 ((b43, .cells #[.int .u8 (IntKind.wrap .u8 u2)] 5 (0, 0)) :: S1) (.slice x4 x4n x4c) (.slice (some ⟨b43, 0, none⟩) 1 1) fun u4 u4n u4c S1' =>
      g4 u4 u4n u4c x27 x27n x27c x28 (IntKind.wrap .i64 (x29 + (1 : Int))) I1 S1'))
    (owner_address_b5 R x4 x4n x4c I S)
def owner_address_b3 (R : RT) (x4 : OA) (x4n x4c : Nat) (x27 : OA) (x27n x27c : Nat) (x28 x29 : Int) (I : IMem) (S : SH) : Prop :=
  ∃ (Inv : Nat → owner_address_t4) (m : Nat), Inv m x4 x4n x4c x27 x27n x27c x28 x29 I S ∧
    ∀ (m : Nat) (x4 : OA) (x4n x4c : Nat) (x27 : OA) (x27n x27c : Nat) (x28 x29 : Int) (J : IMem) (T : SH), I.le J → Inv m x4 x4n x4c x27 x27n x27c x28 x29 J T →
      owner_address_l4 (fun x4 x4n x4c x27 x27n x27c x28 x29 I S => ∃ m', m' < m ∧ Inv m' x4 x4n x4c x27 x27n x27c x28 x29 I S) R x4 x4n x4c x27 x27n x27c x28 x29 J T
abbrev owner_address_t11 := OA → Nat → Nat → OA → Nat → Nat → Int → Int → PR
def owner_address_b12 (R : RT) (x4 : OA) (x4n x4c : Nat) (I : IMem) (S : SH) : Prop :=
  ∃ u0 : ByteArray, BytesAt I S x4 x4n u0 ∧
  R (.tuple #[.string u0, .bool true]) I S
def owner_address_l11 (g11 : owner_address_t11) (R : RT) (x4 : OA) (x4n x4c : Nat) (x71 : OA) (x71n x71c : Nat) (x72 x73 : Int) (I : IMem) (S : SH) : Prop :=
  bcase (decide (x73 < x72))
    (ptrP x71 fun u0 => (0 : Int) ≤ x73 ∧ x73 < (x71n : Int) ∧
    ∃ u1, Cell I S (u0.add (x73.toNat * 1)) (.string u1) ∧
    Runs Tryz.prog 78 #[.string u1] I S fun v I1 S1 => ∃ u2 u3, v = .tuple #[.int .i64 u2, .bool u3] ∧
    bcase (!u3)
      (R (.tuple #[.string ⟨#[]⟩, .bool false]) I1 S1)
      (∀ b90 : Nat,
      AppG 5 1 1 [.int .u8 0] (some (.slice 5)) I1 ((b90, .cells #[.int .u8 (IntKind.wrap .u8 (u2.fdiv (2 ^ (min (8 : Int).toNat (IntKind.bits .i64))))), .int .u8 (IntKind.wrap .u8 u2)] 5 (0, 0)) :: S1) (.slice x4 x4n x4c) (.slice (some ⟨b90, 0, none⟩) 2 2) fun u4 u4n u4c S1' =>
      g11 u4 u4n u4c x71 x71n x71c x72 (IntKind.wrap .i64 (x73 + (1 : Int))) I1 S1'))
    (owner_address_b12 R x4 x4n x4c I S)
def owner_address_b10 (R : RT) (x4 : OA) (x4n x4c : Nat) (x71 : OA) (x71n x71c : Nat) (x72 x73 : Int) (I : IMem) (S : SH) : Prop :=
  ∃ (Inv : Nat → owner_address_t11) (m : Nat), Inv m x4 x4n x4c x71 x71n x71c x72 x73 I S ∧
    ∀ (m : Nat) (x4 : OA) (x4n x4c : Nat) (x71 : OA) (x71n x71c : Nat) (x72 x73 : Int) (J : IMem) (T : SH), I.le J → Inv m x4 x4n x4c x71 x71n x71c x72 x73 J T →
      owner_address_l11 (fun x4 x4n x4c x71 x71n x71c x72 x73 I S => ∃ m', m' < m ∧ Inv m' x4 x4n x4c x71 x71n x71c x72 x73 I S) R x4 x4n x4c x71 x71n x71c x72 x73 J T
def owner_address_b9 (R : RT) (x0 : OA) (x0n x0c : Nat) (x4 : OA) (x4n x4c : Nat) (I : IMem) (S : SH) : Prop :=
  owner_address_b10 R x4 x4n x4c x0 x0n x0c (x0n : Int) 0 I S
def owner_address_b8 (R : RT) (x0 : OA) (x0n x0c : Nat) (x4 : OA) (x4n x4c : Nat) (I : IMem) (S : SH) : Prop :=
  bcase ((x0n : Int) != (8 : Int))
    (R (.tuple #[.string ⟨#[]⟩, .bool false]) I S)
    (owner_address_b9 R x0 x0n x0c x4 x4n x4c I S)
def owner_address_b7 (R : RT) (x0 : OA) (x0n x0c : Nat) (x4 : OA) (x4n x4c : Nat) (x9 : Int) (x56 : Bool) (I : IMem) (S : SH) : Prop :=
  bcase x56
    (∀ b57 : Nat,
    Runs Tryz.prog 76 #[.slice (some ⟨b57, 0, none⟩) 1 1, .int .i64 (IntKind.wrap .i64 ((9 : Int) - (x0n : Int)))] I ((b57, .cells #[.string ⟨#[48]⟩] 9 (0, 0)) :: S) fun v I1 S1 => ∃ u0 u0n u0c, v = .slice u0 u0n u0c ∧
    Runs Tryz.prog 77 #[.slice x0 x0n x0c, .int .i64 x9, .int .i64 (IntKind.wrap .i64 (x9 + (1 : Int))), .slice u0 u0n u0c] I1 S1 fun v' I1' S1' => ∃ u1 u1n u1c, v' = .slice u1 u1n u1c ∧
    owner_address_b8 R u1 u1n u1c x4 x4n x4c I1' S1')
    (owner_address_b8 R x0 x0n x0c x4 x4n x4c I S)
def owner_address_b6 (R : RT) (x0 : OA) (x0n x0c : Nat) (x4 : OA) (x4n x4c : Nat) (I : IMem) (S : SH) : Prop :=
  Runs Tryz.prog 75 #[.slice x0 x0n x0c, .string ⟨#[122, 122]⟩] I S fun v I1 S1 => ∃ u0, v = .int .i64 u0 ∧
  bcase (decide (u0 ≥ (0 : Int)))
    (owner_address_b7 R x0 x0n x0c x4 x4n x4c u0 (decide ((x0n : Int) ≤ (7 : Int))) I1 S1)
    (owner_address_b7 R x0 x0n x0c x4 x4n x4c u0 false I1 S1)
def owner_address_b2 (R : RT) (x0 : OA) (x0n x0c : Nat) (x4 : OA) (x4n x4c : Nat) (x26 : Bool) (I : IMem) (S : SH) : Prop :=
  bcase x26
    (owner_address_b3 R x4 x4n x4c x0 x0n x0c (x0n : Int) 0 I S)
    (owner_address_b6 R x0 x0n x0c x4 x4n x4c I S)
def owner_address_b1 (R : RT) (x0 : OA) (x0n x0c : Nat) (x4 : OA) (x4n x4c : Nat) (I : IMem) (S : SH) : Prop :=
  bcase ((x0n : Int) == (4 : Int))
    (Runs Tryz.prog 74 #[.slice x0 x0n x0c, .string ⟨#[122, 122]⟩] I S fun v I1 S1 => ∃ u0, v = .bool u0 ∧
    owner_address_b2 R x0 x0n x0c x4 x4n x4c (!u0) I1 S1)
    (owner_address_b2 R x0 x0n x0c x4 x4n x4c false I S)
def owner_address (R : RT) (u0 : OA) (u0n u0c : Nat) (I : IMem) (S : SH) : Prop :=
  Runs Tryz.prog 73 #[.slice u0 u0n u0c] I S fun v I1 S1 => ∃ u1 u1n u1c, v = .slice u1 u1n u1c ∧
  Runs Tryz.prog 67 #[.slice u1 u1n u1c] I1 S1 fun v' I1' S1' => v' = .tuple #[] ∧
  owner_address_b1 R u1 u1n u1c none 0 0 I1' S1'
theorem owner_address_fn (R : RT) (u0 : OA) (u0n u0c : Nat) (I : IMem) (S : SH) (h : owner_address R u0 u0n u0c I S) : Runs Tryz.prog 69 #[.slice u0 u0n u0c] I S R := by
  refine Runs.of_wp (c := cd Tryz.f69) Tryz.func69 (by kernel_rfl) (by kernel_rfl) ?_
  refine cO 4 [kL 0, kL 4] (owner_address_b1 R) h fun _ _ _ _ _ _ _ _ _ _ h => ?_
  refine sO [kL 0, kL 4] (owner_address_b6 R) ?_ fun _ _ _ _ _ _ _ _ _ _ h => ?_
  · refine cO 1 [kL 0, kL 4, kB 26] (owner_address_b2 R) h fun _ _ _ _ _ _ _ _ _ _ _ h => ?_
    refine cD h (fun h => ?_) fun h => pS h
    refine sO [kL 4] (owner_address_b5 R) ?_ fun _ _ _ _ _ _ _ h => ?_
    · refine cO 1 [kL 4, kL 27, kI .i64 28, kI .i64 29] (owner_address_b3 R) h fun _ _ _ _ _ _ _ _ _ _ _ _ h => ?_
      refine bK ?_
      obtain ⟨Vg4, mg4, h, hr⟩ := h
      refine lO [kL 4, kL 27, kI .i64 28, kI .i64 29] Vg4 mg4 h fun mg4 _ I S hle x4 x4n x4c x27 x27n x27c x28 x29 h => ?_
      have h := hr mg4 x4 x4n x4c x27 x27n x27c x28 x29 I S hle h
      exact pS h
    exact pS h
  refine sO [kL 0, kL 4] (owner_address_b8 R) ?_ fun _ _ _ _ _ _ _ _ _ _ h => ?_
  · refine cO 2 [kL 0, kL 4, kI .i64 9, kB 56] (owner_address_b7 R) h fun _ _ _ _ _ _ _ _ _ _ _ _ h => ?_
    exact pS h
  refine cO 1 [kL 0, kL 4] (owner_address_b9 R) h fun _ _ _ _ _ _ _ _ _ _ h => ?_
  refine sO [kL 4] (owner_address_b12 R) ?_ fun _ _ _ _ _ _ _ h => ?_
  · refine cO 1 [kL 4, kL 71, kI .i64 72, kI .i64 73] (owner_address_b10 R) h fun _ _ _ _ _ _ _ _ _ _ _ _ h => ?_
    refine bK ?_
    obtain ⟨Vg11, mg11, h, hr⟩ := h
    refine lO [kL 4, kL 71, kI .i64 72, kI .i64 73] Vg11 mg11 h fun mg11 _ I S hle x4 x4n x4c x71 x71n x71c x72 x73 h => ?_
    have h := hr mg11 x4 x4n x4c x71 x71n x71c x72 x73 I S hle h
    exact pS h
  exact pS h
abbrev slices_Equal__string_string_t3 := OA → Nat → Nat → OA → Nat → Nat → Int → Int → PR
def slices_Equal__string_string_b7 (g3 : slices_Equal__string_string_t3) (R : RT) (x0 : OA) (x0n x0c : Nat) (x1 : OA) (x1n x1c : Nat) (x12 x13 : Int) (I : IMem) (S : SH) : Prop :=
  g3 x0 x0n x0c x1 x1n x1c x12 (IntKind.wrap .i64 (x13 + (1 : Int))) I S
def slices_Equal__string_string_b6 (g3 : slices_Equal__string_string_t3) (R : RT) (x0 : OA) (x0n x0c : Nat) (x1 : OA) (x1n x1c : Nat) (x12 x13 : Int) (x24 : Bool) (I : IMem) (S : SH) : Prop :=
  bcase x24
    (R (.bool false) I S)
    (slices_Equal__string_string_b7 g3 R x0 x0n x0c x1 x1n x1c x12 x13 I S)
def slices_Equal__string_string_b5 (g3 : slices_Equal__string_string_t3) (R : RT) (x0 : OA) (x0n x0c : Nat) (x1 : OA) (x1n x1c : Nat) (x5 x12 x13 : Int) (I : IMem) (S : SH) : Prop :=
  ptrP x0 fun u0 => (0 : Int) ≤ x5 ∧ x5 < (x0n : Int) ∧
  ∃ u1, Cell I S (u0.add (x5.toNat * 1)) (.string u1) ∧
  ptrP x1 fun u2 => (0 : Int) ≤ x5 ∧ x5 < (x1n : Int) ∧
  ∃ u3, Cell I S (u2.add (x5.toNat * 1)) (.string u3) ∧
  slices_Equal__string_string_b6 g3 R x0 x0n x0c x1 x1n x1c x12 x13 (!(u1.toList == u3.toList)) I S
def slices_Equal__string_string_b4 (g3 : slices_Equal__string_string_t3) (R : RT) (x0 : OA) (x0n x0c : Nat) (x1 : OA) (x1n x1c : Nat) (x12 x13 : Int) (I : IMem) (S : SH) : Prop :=
  slices_Equal__string_string_b5 g3 R x0 x0n x0c x1 x1n x1c x13 x12 x13 I S
def slices_Equal__string_string_b8 (R : RT) (I : IMem) (S : SH) : Prop :=
  R (.bool true) I S
def slices_Equal__string_string_l3 (g3 : slices_Equal__string_string_t3) (R : RT) (x0 : OA) (x0n x0c : Nat) (x1 : OA) (x1n x1c : Nat) (x12 x13 : Int) (I : IMem) (S : SH) : Prop :=
  bcase (decide (x13 < x12))
    (slices_Equal__string_string_b4 g3 R x0 x0n x0c x1 x1n x1c x12 x13 I S)
    (slices_Equal__string_string_b8 R I S)
def slices_Equal__string_string_b2 (R : RT) (x0 : OA) (x0n x0c : Nat) (x1 : OA) (x1n x1c : Nat) (x12 x13 : Int) (I : IMem) (S : SH) : Prop :=
  ∃ (Inv : Nat → slices_Equal__string_string_t3) (m : Nat), Inv m x0 x0n x0c x1 x1n x1c x12 x13 I S ∧
    ∀ (m : Nat) (x0 : OA) (x0n x0c : Nat) (x1 : OA) (x1n x1c : Nat) (x12 x13 : Int) (J : IMem) (T : SH), I.le J → Inv m x0 x0n x0c x1 x1n x1c x12 x13 J T →
      slices_Equal__string_string_l3 (fun x0 x0n x0c x1 x1n x1c x12 x13 I S => ∃ m', m' < m ∧ Inv m' x0 x0n x0c x1 x1n x1c x12 x13 I S) R x0 x0n x0c x1 x1n x1c x12 x13 J T
def slices_Equal__string_string_b1 (R : RT) (x0 : OA) (x0n x0c : Nat) (x1 : OA) (x1n x1c : Nat) (I : IMem) (S : SH) : Prop :=
  slices_Equal__string_string_b2 R x0 x0n x0c x1 x1n x1c (x0n : Int) 0 I S
def slices_Equal__string_string (R : RT) (u0 : OA) (u0n u0c : Nat) (u1 : OA) (u1n u1c : Nat) (I : IMem) (S : SH) : Prop :=
  bcase ((u0n : Int) != (u1n : Int))
    (R (.bool false) I S)
    (slices_Equal__string_string_b1 R u0 u0n u0c u1 u1n u1c I S)
theorem slices_Equal__string_string_fn (R : RT) (u0 : OA) (u0n u0c : Nat) (u1 : OA) (u1n u1c : Nat) (I : IMem) (S : SH) (h : slices_Equal__string_string R u0 u0n u0c u1 u1n u1c I S) : Runs Tryz.prog 70 #[.slice u0 u0n u0c, .slice u1 u1n u1c] I S R := by
  refine Runs.of_wp (c := cd Tryz.f70) Tryz.func70 (by kernel_rfl) (by kernel_rfl) ?_
  refine cO 2 [kL 0, kL 1] (slices_Equal__string_string_b1 R) h fun _ _ _ _ _ _ _ _ _ _ h => ?_
  refine sO [] (slices_Equal__string_string_b8 R) ?_ fun _ _ _ _ h => ?_
  · refine cO 1 [kL 0, kL 1, kI .i64 12, kI .i64 13] (slices_Equal__string_string_b2 R) h fun _ _ _ _ _ _ _ _ _ _ _ _ h => ?_
    refine bK ?_
    obtain ⟨Vg3, mg3, h, hr⟩ := h
    refine lO [kL 0, kL 1, kI .i64 12, kI .i64 13] Vg3 mg3 h fun mg3 _ I S hle x0 x0n x0c x1 x1n x1c x12 x13 h => ?_
    have h := hr mg3 x0 x0n x0c x1 x1n x1c x12 x13 I S hle h
    refine cO 2 [kL 0, kL 1, kI .i64 12, kI .i64 13] (slices_Equal__string_string_b4 (fun x0 x0n x0c x1 x1n x1c x12 x13 I S => ∃ m', m' < mg3 ∧ Vg3 m' x0 x0n x0c x1 x1n x1c x12 x13 I S) R) h fun _ _ _ _ _ _ _ _ _ _ _ _ h => ?_
    refine sO [kL 0, kL 1, kI .i64 12, kI .i64 13] (slices_Equal__string_string_b7 (fun x0 x0n x0c x1 x1n x1c x12 x13 I S => ∃ m', m' < mg3 ∧ Vg3 m' x0 x0n x0c x1 x1n x1c x12 x13 I S) R) ?_ fun _ _ _ _ _ _ _ _ _ _ _ _ h => ?_
    · refine bK ?_
      refine cO 1 [kL 0, kL 1, kI .i64 5, kI .i64 12, kI .i64 13] (slices_Equal__string_string_b5 (fun x0 x0n x0c x1 x1n x1c x12 x13 I S => ∃ m', m' < mg3 ∧ Vg3 m' x0 x0n x0c x1 x1n x1c x12 x13 I S) R) h fun _ _ _ _ _ _ _ _ _ _ _ _ _ h => ?_
      refine sO [kL 0, kL 1, kI .i64 12, kI .i64 13, kB 24] (slices_Equal__string_string_b6 (fun x0 x0n x0c x1 x1n x1c x12 x13 I S => ∃ m', m' < mg3 ∧ Vg3 m' x0 x0n x0c x1 x1n x1c x12 x13 I S) R) (qT h) fun _ _ _ _ _ _ _ _ _ _ _ _ _ h => ?_
      exact pS h
    exact pS h
  exact pS h
def owner_kinds (R : RT) (I : IMem) (S : SH) : Prop :=
  ∀ u0 : Nat,
  MapSt ((u0, .map #[] 0) :: S) (some u0) (.int .i64) (.int .i64 0) (.string ⟨#[114, 112, 122, 45, 99, 108, 105, 101, 110, 116, 45, 105, 112]⟩) fun S1 =>
  MapSt S1 (some u0) (.int .i64) (.int .i64 3) (.string ⟨#[114, 112, 122, 45, 105, 112]⟩) fun S1' =>
  MapSt S1' (some u0) (.int .i64) (.int .i64 4) (.string ⟨#[114, 112, 122, 45, 110, 115, 100, 110, 97, 109, 101]⟩) fun S1'' =>
  MapSt S1'' (some u0) (.int .i64) (.int .i64 6) (.string ⟨#[114, 112, 122, 45, 110, 115, 105, 112]⟩) fun S1_r3 =>
  R (.map (some u0)) I S1_r3
theorem owner_kinds_fn (R : RT) (I : IMem) (S : SH) (h : owner_kinds R I S) : Runs Tryz.prog 43 #[] I S R := by
  refine Runs.of_wp (c := cd Tryz.f43) Tryz.func43 (by kernel_rfl) (by kernel_rfl) ?_
  exact pS h
def owner_named_b6 (R : RT) (x6 : Addr) (x8 : Int) (x9 : ByteArray) (I : IMem) (S : SH) : Prop :=
  StP S x6 [.int .i64 x8, .string x9, .string ⟨#[]⟩, .int .i64 0] fun S1 =>
  ∃ u0, Cell I S1 x6 (.int .i64 u0) ∧
  ∃ u1, Cell I S1 (x6.add 1) (.string u1) ∧
  ∃ u2, Cell I S1 (x6.add 2) (.string u2) ∧
  ∃ u3, Cell I S1 (x6.add 3) (.int .i64 u3) ∧
  R (.tuple #[.agg #[.int .i64 u0, .string u1, .string u2, .int .i64 u3], .bool true]) I S1
def owner_named_b5 (R : RT) (x6 : Addr) (x8 : Int) (x9 : ByteArray) (x40 : Bool) (I : IMem) (S : SH) : Prop :=
  bcase x40
    (StP S x6 [.int .i64 0, .string ⟨#[]⟩, .string ⟨#[]⟩, .int .i64 0] fun S1 =>
    ∃ u0, Cell I S1 x6 (.int .i64 u0) ∧
    ∃ u1, Cell I S1 (x6.add 1) (.string u1) ∧
    ∃ u2, Cell I S1 (x6.add 2) (.string u2) ∧
    ∃ u3, Cell I S1 (x6.add 3) (.int .i64 u3) ∧
    R (.tuple #[.agg #[.int .i64 u0, .string u1, .string u2, .int .i64 u3], .bool false]) I S1)
    (owner_named_b6 R x6 x8 x9 I S)
def owner_named_b4 (R : RT) (x0 : OA) (x0n x0c : Nat) (x1 : Int) (x6 : Addr) (x8 : Int) (x9 : ByteArray) (x10 : Bool) (I : IMem) (S : SH) : Prop :=
  bcase (!x10)
    (owner_named_b5 R x6 x8 x9 true I S)
    (bcase ((x0n : Int) == (0 : Int))
      (owner_named_b5 R x6 x8 x9 (x8 == x1) I S)
      (owner_named_b5 R x6 x8 x9 false I S))
def owner_named_b3 (R : RT) (x0 : OA) (x0n x0c : Nat) (x1 : Int) (x6 : Addr) (x8 : Int) (I : IMem) (S : SH) : Prop :=
  Runs Tryz.prog 17 #[.slice x0 x0n x0c] I S fun v I1 S1 => ∃ u0 u1, v = .tuple #[.string u0, .bool u1] ∧
  owner_named_b4 R x0 x0n x0c x1 x6 x8 u0 u1 I1 S1
def owner_named_b2 (R : RT) (x0 : OA) (x0n x0c : Nat) (x1 x2 : Int) (x6 : Addr) (x8 : Int) (x20 : Bool) (I : IMem) (S : SH) : Prop :=
  bcase x20
    ((0 : Int) ≤ (1 : Int) ∧ (1 : Int) ≤ ((x0n : Nat) : Int) ∧
    owner_named_b3 R (slA x0 x0c ((1 : Int).toNat) 1) (x0n - (1 : Int).toNat) (x0c - (1 : Int).toNat) x1 x6 x2 I S)
    (owner_named_b3 R x0 x0n x0c x1 x6 x8 I S)
def owner_named_b1 (R : RT) (x0 : OA) (x0n x0c : Nat) (x1 x2 : Int) (x6 : Addr) (x8 : Int) (I : IMem) (S : SH) : Prop :=
  bcase (decide ((x0n : Int) > (0 : Int)))
    (ptrP x0 fun u0 => (0 : Int) ≤ (0 : Int) ∧ (0 : Int) < (x0n : Int) ∧
    ∃ u1, Cell I S (u0.add ((0 : Int).toNat * 1)) (.string u1) ∧
    owner_named_b2 R x0 x0n x0c x1 x2 x6 x8 (u1.toList == (⟨#[42]⟩ : ByteArray).toList) I S)
    (owner_named_b2 R x0 x0n x0c x1 x2 x6 x8 false I S)
def owner_named (R : RT) (u0 : OA) (u0n u0c : Nat) (u1 u2 : Int) (I : IMem) (S : SH) : Prop :=
  ∀ b6 : Nat,
  owner_named_b1 R u0 u0n u0c u1 u2 ⟨b6, 0, none⟩ u1 I ((b6, .cells #[.int .i64 0, .string ⟨#[]⟩, .string ⟨#[]⟩, .int .i64 0] 35 (0, 0)) :: S)
theorem owner_named_fn (R : RT) (u0 : OA) (u0n u0c : Nat) (u1 u2 : Int) (I : IMem) (S : SH) (h : owner_named R u0 u0n u0c u1 u2 I S) : Runs Tryz.prog 61 #[.slice u0 u0n u0c, .int .i64 u1, .int .i64 u2] I S R := by
  refine Runs.of_wp (c := cd Tryz.f61) Tryz.func61 (by kernel_rfl) (by kernel_rfl) ?_
  refine cO 2 [kL 0, kI .i64 1, kI .i64 2, kA 6, kI .i64 8] (owner_named_b1 R) h fun _ _ _ _ _ _ _ _ _ _ _ h => ?_
  refine sO [kL 0, kI .i64 1, kA 6, kI .i64 8] (owner_named_b3 R) ?_ fun _ _ _ _ _ _ _ _ _ _ h => ?_
  · refine cO 1 [kL 0, kI .i64 1, kI .i64 2, kA 6, kI .i64 8, kB 20] (owner_named_b2 R) h fun _ _ _ _ _ _ _ _ _ _ _ _ h => ?_
    exact cD h (fun h => qT h) fun h => pS h
  refine cO 1 [kL 0, kI .i64 1, kA 6, kI .i64 8, kS 9, kB 10] (owner_named_b4 R) h fun _ _ _ _ _ _ _ _ _ _ _ _ h => ?_
  refine sO [kA 6, kI .i64 8, kS 9] (owner_named_b6 R) ?_ fun _ _ _ _ _ _ _ h => ?_
  · refine cO 1 [kA 6, kI .i64 8, kS 9, kB 40] (owner_named_b5 R) h fun _ _ _ _ _ _ _ _ h => ?_
    exact pS h
  exact pS h
def owner_hex_b1 (R : RT) (x2 : Int) (x3 : Bool) (I : IMem) (S : SH) : Prop :=
  R (.tuple #[.int .i64 x2, .bool x3]) I S
def owner_hex (R : RT) (u0 : ByteArray) (I : IMem) (S : SH) : Prop :=
  Runs Tryz.prog 90 #[.string u0, .int .i64 16, .int .i64 16] I S fun v I1 S1 => ∃ u1 u2, v = .tuple #[.int .u64 u1, u2] ∧
  ∃ nl, isNilI u2 = some nl ∧
  bcase nl
    (Runs Tryz.prog 91 #[.int .u64 u1, .int .i64 16] I1 S1 fun v' I1' S1' => ∃ u3, v' = .string u3 ∧
    owner_hex_b1 R (IntKind.wrap .i64 u1) (u3.toList == u0.toList) I1' S1')
    (owner_hex_b1 R (IntKind.wrap .i64 u1) false I1 S1)
theorem owner_hex_fn (R : RT) (u0 : ByteArray) (I : IMem) (S : SH) (h : owner_hex R u0 I S) : Runs Tryz.prog 78 #[.string u0] I S R := by
  refine Runs.of_wp (c := cd Tryz.f78) Tryz.func78 (by kernel_rfl) (by kernel_rfl) ?_
  refine cO 3 [kI .i64 2, kB 3] (owner_hex_b1 R) h fun _ _ _ _ _ _ h => ?_
  exact pS h
abbrev slices_Reverse__string_string_t2 := OA → Nat → Nat → Int → Int → PR
def slices_Reverse__string_string_b4 (g2 : slices_Reverse__string_string_t2) (R : RT) (x0 : OA) (x0n x0c : Nat) (x2 x3 : Int) (I : IMem) (S : SH) : Prop :=
  g2 x0 x0n x0c (IntKind.wrap .i64 (x2 + (1 : Int))) (IntKind.wrap .i64 (x3 - (1 : Int))) I S
def slices_Reverse__string_string_b3 (g2 : slices_Reverse__string_string_t2) (R : RT) (x0 : OA) (x0n x0c : Nat) (x2 x3 : Int) (I : IMem) (S : SH) : Prop :=
  ptrP x0 fun u0 => (0 : Int) ≤ x3 ∧ x3 < (x0n : Int) ∧
  ∃ u1, Cell I S (u0.add (x3.toNat * 1)) (.string u1) ∧
  ptrP x0 fun u2 => (0 : Int) ≤ x2 ∧ x2 < (x0n : Int) ∧
  ∃ u3, Cell I S (u2.add (x2.toNat * 1)) (.string u3) ∧
  ptrP x0 fun u4 => (0 : Int) ≤ x2 ∧ x2 < (x0n : Int) ∧
  StP S (u4.add (x2.toNat * 1)) [.string u1] fun S1 =>
  ptrP x0 fun u5 => (0 : Int) ≤ x3 ∧ x3 < (x0n : Int) ∧
  StP S1 (u5.add (x3.toNat * 1)) [.string u3] fun S1' =>
  slices_Reverse__string_string_b4 g2 R x0 x0n x0c x2 x3 I S1'
def slices_Reverse__string_string_l2 (g2 : slices_Reverse__string_string_t2) (R : RT) (x0 : OA) (x0n x0c : Nat) (x2 x3 : Int) (I : IMem) (S : SH) : Prop :=
  bcase (decide (x2 < x3))
    (slices_Reverse__string_string_b3 g2 R x0 x0n x0c x2 x3 I S)
    (R (.tuple #[]) I S)
def slices_Reverse__string_string_b1 (R : RT) (x0 : OA) (x0n x0c : Nat) (x2 x3 : Int) (I : IMem) (S : SH) : Prop :=
  ∃ (Inv : Nat → slices_Reverse__string_string_t2) (m : Nat), Inv m x0 x0n x0c x2 x3 I S ∧
    ∀ (m : Nat) (x0 : OA) (x0n x0c : Nat) (x2 x3 : Int) (J : IMem) (T : SH), I.le J → Inv m x0 x0n x0c x2 x3 J T →
      slices_Reverse__string_string_l2 (fun x0 x0n x0c x2 x3 I S => ∃ m', m' < m ∧ Inv m' x0 x0n x0c x2 x3 I S) R x0 x0n x0c x2 x3 J T
def slices_Reverse__string_string (R : RT) (u0 : OA) (u0n u0c : Nat) (I : IMem) (S : SH) : Prop :=
  slices_Reverse__string_string_b1 R u0 u0n u0c 0 (IntKind.wrap .i64 ((u0n : Int) - (1 : Int))) I S
theorem slices_Reverse__string_string_fn (R : RT) (u0 : OA) (u0n u0c : Nat) (I : IMem) (S : SH) (h : slices_Reverse__string_string R u0 u0n u0c I S) : Runs Tryz.prog 67 #[.slice u0 u0n u0c] I S R := by
  refine Runs.of_wp (c := cd Tryz.f67) Tryz.func67 (by kernel_rfl) (by kernel_rfl) ?_
  refine cO 1 [kL 0, kI .i64 2, kI .i64 3] (slices_Reverse__string_string_b1 R) h fun _ _ _ _ _ _ _ _ _ h => ?_
  refine bK ?_
  obtain ⟨Vg2, mg2, h, hr⟩ := h
  refine lO [kL 0, kI .i64 2, kI .i64 3] Vg2 mg2 h fun mg2 _ I S hle x0 x0n x0c x2 x3 h => ?_
  have h := hr mg2 x0 x0n x0c x2 x3 I S hle h
  refine cO 1 [kL 0, kI .i64 2, kI .i64 3] (slices_Reverse__string_string_b3 (fun x0 x0n x0c x2 x3 I S => ∃ m', m' < mg2 ∧ Vg2 m' x0 x0n x0c x2 x3 I S) R) h fun _ _ _ _ _ _ _ _ _ h => ?_
  refine sO [kL 0, kI .i64 2, kI .i64 3] (slices_Reverse__string_string_b4 (fun x0 x0n x0c x2 x3 I S => ∃ m', m' < mg2 ∧ Vg2 m' x0 x0n x0c x2 x3 I S) R) (bK (dR (tk 13 0 (.step 13 (.take 14 (.step 15 .done)))) [13, 15] h)) fun _ _ _ _ _ _ _ _ _ h => ?_
  exact pS h
def slices_Clone__string_string (R : RT) (u0 : OA) (u0n u0c : Nat) (I : IMem) (S : SH) : Prop :=
  bcase ((u0 : Option Addr).isNone)
    (R (.slice none 0 0) I S)
    (∀ b5 : Nat,
    AppG 9 1 16 [.string ⟨#[]⟩] (some (.slice 9)) I ((b5, .cells #[] 9 (0, 0)) :: S) (.slice (some ⟨b5, 0, none⟩) 0 0) (.slice u0 u0n u0c) fun u1 u1n u1c S1 =>
    R (.slice u1 u1n u1c) I S1)
theorem slices_Clone__string_string_fn (R : RT) (u0 : OA) (u0n u0c : Nat) (I : IMem) (S : SH) (h : slices_Clone__string_string R u0 u0n u0c I S) : Runs Tryz.prog 73 #[.slice u0 u0n u0c] I S R := by
  refine Runs.of_wp (c := cd Tryz.f73) Tryz.func73 (by kernel_rfl) (by kernel_rfl) ?_
  exact pS h
def slices_Contains__string_string (R : RT) (u0 : OA) (u0n u0c : Nat) (u1 : ByteArray) (I : IMem) (S : SH) : Prop :=
  Runs Tryz.prog 75 #[.slice u0 u0n u0c, .string u1] I S fun v I1 S1 => ∃ u2, v = .int .i64 u2 ∧
  R (.bool (decide (u2 ≥ (0 : Int)))) I1 S1
theorem slices_Contains__string_string_fn (R : RT) (u0 : OA) (u0n u0c : Nat) (u1 : ByteArray) (I : IMem) (S : SH) (h : slices_Contains__string_string R u0 u0n u0c u1 I S) : Runs Tryz.prog 74 #[.slice u0 u0n u0c, .string u1] I S R := by
  refine Runs.of_wp (c := cd Tryz.f74) Tryz.func74 (by kernel_rfl) (by kernel_rfl) ?_
  exact pS h
abbrev slices_Index__string_string_t3 := OA → Nat → Nat → ByteArray → Int → Int → PR
def slices_Index__string_string_b4 (R : RT) (I : IMem) (S : SH) : Prop :=
  R (.int .i64 (-1)) I S
def slices_Index__string_string_l3 (g3 : slices_Index__string_string_t3) (R : RT) (x0 : OA) (x0n x0c : Nat) (x1 : ByteArray) (x7 x8 : Int) (I : IMem) (S : SH) : Prop :=
  bcase (decide (x8 < x7))
    (ptrP x0 fun u0 => (0 : Int) ≤ x8 ∧ x8 < (x0n : Int) ∧
    ∃ u1, Cell I S (u0.add (x8.toNat * 1)) (.string u1) ∧
    bcase (x1.toList == u1.toList)
      (R (.int .i64 x8) I S)
      (g3 x0 x0n x0c x1 x7 (IntKind.wrap .i64 (x8 + (1 : Int))) I S))
    (slices_Index__string_string_b4 R I S)
def slices_Index__string_string_b2 (R : RT) (x0 : OA) (x0n x0c : Nat) (x1 : ByteArray) (x7 x8 : Int) (I : IMem) (S : SH) : Prop :=
  ∃ (Inv : Nat → slices_Index__string_string_t3) (m : Nat), Inv m x0 x0n x0c x1 x7 x8 I S ∧
    ∀ (m : Nat) (x0 : OA) (x0n x0c : Nat) (x1 : ByteArray) (x7 x8 : Int) (J : IMem) (T : SH), I.le J → Inv m x0 x0n x0c x1 x7 x8 J T →
      slices_Index__string_string_l3 (fun x0 x0n x0c x1 x7 x8 I S => ∃ m', m' < m ∧ Inv m' x0 x0n x0c x1 x7 x8 I S) R x0 x0n x0c x1 x7 x8 J T
def slices_Index__string_string_b1 (R : RT) (x0 : OA) (x0n x0c : Nat) (x1 : ByteArray) (I : IMem) (S : SH) : Prop :=
  slices_Index__string_string_b2 R x0 x0n x0c x1 (x0n : Int) 0 I S
def slices_Index__string_string (R : RT) (u0 : OA) (u0n u0c : Nat) (u1 : ByteArray) (I : IMem) (S : SH) : Prop :=
  slices_Index__string_string_b1 R u0 u0n u0c u1 I S
theorem slices_Index__string_string_fn (R : RT) (u0 : OA) (u0n u0c : Nat) (u1 : ByteArray) (I : IMem) (S : SH) (h : slices_Index__string_string R u0 u0n u0c u1 I S) : Runs Tryz.prog 75 #[.slice u0 u0n u0c, .string u1] I S R := by
  refine Runs.of_wp (c := cd Tryz.f75) Tryz.func75 (by kernel_rfl) (by kernel_rfl) ?_
  refine cO 1 [kL 0, kS 1] (slices_Index__string_string_b1 R) h fun _ _ _ _ _ _ _ _ h => ?_
  refine sO [] (slices_Index__string_string_b4 R) ?_ fun _ _ _ _ h => ?_
  · refine cO 1 [kL 0, kS 1, kI .i64 7, kI .i64 8] (slices_Index__string_string_b2 R) h fun _ _ _ _ _ _ _ _ _ _ h => ?_
    refine bK ?_
    obtain ⟨Vg3, mg3, h, hr⟩ := h
    refine lO [kL 0, kS 1, kI .i64 7, kI .i64 8] Vg3 mg3 h fun mg3 _ I S hle x0 x0n x0c x1 x7 x8 h => ?_
    have h := hr mg3 x0 x0n x0c x1 x7 x8 I S hle h
    exact pS h
  exact pS h
abbrev slices_Repeat__string_string_t6 := OA → Nat → Nat → Int → PR
def slices_Repeat__string_string_b7 (g6 : slices_Repeat__string_string_t6) (R : RT) (x7 : OA) (x7n x7c : Nat) (x8 : Int) (I : IMem) (S : SH) : Prop :=
  (0 : Int) ≤ x8 ∧ x8 ≤ ((x7n : Nat) : Int) ∧
  (0 : Int) ≤ x8 ∧ x8 ≤ ((x7c : Nat) : Int) ∧
  CpyP 1 I S (.slice (slA x7 x7c x8.toNat 1) (x7n - x8.toNat) (x7c - x8.toNat)) (.slice (slA x7 x7c 0 1) (x8.toNat - 0) (x7c - 0)) fun u0 S1 =>
  g6 x7 x7n x7c (IntKind.wrap .i64 (x8 + (u0 : Int))) I S1
def slices_Repeat__string_string_b8 (R : RT) (x7 : OA) (x7n x7c : Nat) (I : IMem) (S : SH) : Prop :=
  R (.slice x7 x7n x7c) I S
def slices_Repeat__string_string_l6 (g6 : slices_Repeat__string_string_t6) (R : RT) (x7 : OA) (x7n x7c : Nat) (x8 : Int) (I : IMem) (S : SH) : Prop :=
  bcase (decide (x8 < (x7n : Int)))
    (slices_Repeat__string_string_b7 g6 R x7 x7n x7c x8 I S)
    (slices_Repeat__string_string_b8 R x7 x7n x7c I S)
def slices_Repeat__string_string_b5 (R : RT) (x7 : OA) (x7n x7c : Nat) (x8 : Int) (I : IMem) (S : SH) : Prop :=
  ∃ (Inv : Nat → slices_Repeat__string_string_t6) (m : Nat), Inv m x7 x7n x7c x8 I S ∧
    ∀ (m : Nat) (x7 : OA) (x7n x7c : Nat) (x8 : Int) (J : IMem) (T : SH), I.le J → Inv m x7 x7n x7c x8 J T →
      slices_Repeat__string_string_l6 (fun x7 x7n x7c x8 I S => ∃ m', m' < m ∧ Inv m' x7 x7n x7c x8 I S) R x7 x7n x7c x8 J T
def slices_Repeat__string_string_b4 (R : RT) (x0 : OA) (x0n x0c : Nat) (x6 : Int) (I : IMem) (S : SH) : Prop :=
  (0 : Int) ≤ (IntKind.wrap .i64 x6) ∧ (IntKind.wrap .i64 x6) ≤ (IntKind.wrap .i64 x6) ∧ (IntKind.wrap .i64 x6) ≤ 9223372036854775807 ∧ (16 : Int) * (IntKind.wrap .i64 x6) ≤ 281474976710656 ∧ ∀ b30 : Nat,
  CpyP 1 I ((b30, .cells (repV (IntKind.wrap .i64 x6).toNat [.string ⟨#[]⟩]).toArray 9 (0, 0)) :: S) (.slice (some ⟨b30, 0, none⟩) ((IntKind.wrap .i64 x6).toNat) ((IntKind.wrap .i64 x6).toNat)) (.slice x0 x0n x0c) fun u0 S1 =>
  slices_Repeat__string_string_b5 R (some ⟨b30, 0, none⟩) ((IntKind.wrap .i64 x6).toNat) ((IntKind.wrap .i64 x6).toNat) (u0 : Int) I S1
def slices_Repeat__string_string_b3 (R : RT) (x0 : OA) (x0n x0c : Nat) (x6 : Int) (x26 : Bool) (I : IMem) (S : SH) : Prop :=
  bcase x26
    (False)
    (slices_Repeat__string_string_b4 R x0 x0n x0c x6 I S)
def slices_Repeat__string_string_b2 (R : RT) (x0 : OA) (x0n x0c : Nat) (x5 x6 : Int) (I : IMem) (S : SH) : Prop :=
  bcase (decide (x5 > (0 : Int)))
    (slices_Repeat__string_string_b3 R x0 x0n x0c x6 true I S)
    (slices_Repeat__string_string_b3 R x0 x0n x0c x6 (decide (x6 > (9223372036854775807 : Int))) I S)
def slices_Repeat__string_string_b1 (R : RT) (x0 : OA) (x0n x0c : Nat) (x1 : Int) (I : IMem) (S : SH) : Prop :=
  Runs Tryz.prog 85 #[.int .u64 (IntKind.wrap .u64 (x0n : Int)), .int .u64 (IntKind.wrap .u64 x1)] I S fun v I1 S1 => ∃ u0 u1, v = .tuple #[.int .u64 u0, .int .u64 u1] ∧
  slices_Repeat__string_string_b2 R x0 x0n x0c u0 u1 I1 S1
def slices_Repeat__string_string (R : RT) (u0 : OA) (u0n u0c : Nat) (u1 : Int) (I : IMem) (S : SH) : Prop :=
  bcase (decide (u1 < (0 : Int)))
    (False)
    (slices_Repeat__string_string_b1 R u0 u0n u0c u1 I S)
theorem slices_Repeat__string_string_fn (R : RT) (u0 : OA) (u0n u0c : Nat) (u1 : Int) (I : IMem) (S : SH) (h : slices_Repeat__string_string R u0 u0n u0c u1 I S) : Runs Tryz.prog 76 #[.slice u0 u0n u0c, .int .i64 u1] I S R := by
  refine Runs.of_wp (c := cd Tryz.f76) Tryz.func76 (by kernel_rfl) (by kernel_rfl) ?_
  refine cO 2 [kL 0, kI .i64 1] (slices_Repeat__string_string_b1 R) h fun _ _ _ _ _ _ _ _ h => ?_
  refine cO 1 [kL 0, kI .u64 5, kI .u64 6] (slices_Repeat__string_string_b2 R) h fun _ _ _ _ _ _ _ _ _ h => ?_
  refine sO [kL 0, kI .u64 6] (slices_Repeat__string_string_b4 R) ?_ fun _ _ _ _ _ _ _ _ h => ?_
  · refine cO 1 [kL 0, kI .u64 6, kB 26] (slices_Repeat__string_string_b3 R) h fun _ _ _ _ _ _ _ _ _ h => ?_
    exact pS h
  refine cO 2 [kL 7, kI .i64 8] (slices_Repeat__string_string_b5 R) h fun _ _ _ _ _ _ _ _ h => ?_
  refine sO [kL 7] (slices_Repeat__string_string_b8 R) ?_ fun _ _ _ _ _ _ _ h => ?_
  · refine bK ?_
    obtain ⟨Vg6, mg6, h, hr⟩ := h
    refine lO [kL 7, kI .i64 8] Vg6 mg6 h fun mg6 _ I S hle x7 x7n x7c x8 h => ?_
    have h := hr mg6 x7 x7n x7c x8 I S hle h
    refine cO 1 [kL 7, kI .i64 8] (slices_Repeat__string_string_b7 (fun x7 x7n x7c x8 I S => ∃ m', m' < mg6 ∧ Vg6 m' x7 x7n x7c x8 I S) R) h fun _ _ _ _ _ _ _ _ h => ?_
    exact bK (dR (tk 7 0 (.step 7 (.take 8 (.take 9 .done)))) [7] h)
  exact pS h
def slices_Replace__string_string_b3 (R : RT) (x9 : OA) (x9n x9c : Nat) (I : IMem) (S : SH) : Prop :=
  R (.slice x9 x9n x9c) I S
def slices_Replace__string_string_b8 (R : RT) (x11 : OA) (x11n x11c : Nat) (I : IMem) (S : SH) : Prop :=
  R (.slice x11 x11n x11c) I S
def slices_Replace__string_string_b7 (R : RT) (x0 : OA) (x0n x0c : Nat) (x1 x2 : Int) (x3 : OA) (x3n x3c : Nat) (x11 : OA) (x11n x11c : Nat) (I : IMem) (S : SH) : Prop :=
  (0 : Int) ≤ (IntKind.wrap .i64 (x1 + (x3n : Int))) ∧ (IntKind.wrap .i64 (x1 + (x3n : Int))) ≤ ((x11n : Nat) : Int) ∧
  (0 : Int) ≤ x2 ∧ x2 ≤ ((x0n : Nat) : Int) ∧
  CpyP 1 I S (.slice (slA x11 x11c ((IntKind.wrap .i64 (x1 + (x3n : Int))).toNat) 1) (x11n - (IntKind.wrap .i64 (x1 + (x3n : Int))).toNat) (x11c - (IntKind.wrap .i64 (x1 + (x3n : Int))).toNat)) (.slice (slA x0 x0c x2.toNat 1) (x0n - x2.toNat) (x0c - x2.toNat)) fun u0 S1 =>
  slices_Replace__string_string_b8 R x11 x11n x11c I S1
def slices_Replace__string_string_b13 (R : RT) (x0 : OA) (x0n x0c : Nat) (x10 : Int) (x12 : OA) (x12n x12c : Nat) (I : IMem) (S : SH) : Prop :=
  (0 : Int) ≤ x10 ∧ x10 ≤ ((x0n : Nat) : Int) ∧
  ClrP [.string ⟨#[]⟩] S (slA x0 x0c x10.toNat 1) (x0n - x10.toNat) fun S1 =>
  R (.slice x12 x12n x12c) I S1
def slices_Replace__string_string_b12 (R : RT) (x0 : OA) (x0n x0c : Nat) (x1 x2 : Int) (x3 : OA) (x3n x3c : Nat) (x10 : Int) (x12 : OA) (x12n x12c : Nat) (I : IMem) (S : SH) : Prop :=
  (0 : Int) ≤ (IntKind.wrap .i64 (x1 + (x3n : Int))) ∧ (IntKind.wrap .i64 (x1 + (x3n : Int))) ≤ ((x12n : Nat) : Int) ∧
  (0 : Int) ≤ x2 ∧ x2 ≤ ((x0n : Nat) : Int) ∧
  CpyP 1 I S (.slice (slA x12 x12c ((IntKind.wrap .i64 (x1 + (x3n : Int))).toNat) 1) (x12n - (IntKind.wrap .i64 (x1 + (x3n : Int))).toNat) (x12c - (IntKind.wrap .i64 (x1 + (x3n : Int))).toNat)) (.slice (slA x0 x0c x2.toNat 1) (x0n - x2.toNat) (x0c - x2.toNat)) fun u0 S1 =>
  slices_Replace__string_string_b13 R x0 x0n x0c x10 x12 x12n x12c I S1
def slices_Replace__string_string_b16 (R : RT) (x1 : Int) (x3 : OA) (x3n x3c : Nat) (x12 : OA) (x12n x12c : Nat) (I : IMem) (S : SH) : Prop :=
  (0 : Int) ≤ x1 ∧ x1 ≤ ((x12n : Nat) : Int) ∧
  CpyP 1 I S (.slice (slA x12 x12c x1.toNat 1) (x12n - x1.toNat) (x12c - x1.toNat)) (.slice x3 x3n x3c) fun u0 S1 =>
  R (.slice x12 x12n x12c) I S1
def slices_Replace__string_string_b21 (R : RT) (x1 : Int) (x12 : OA) (x12n x12c : Nat) (x13 : Int) (I : IMem) (S : SH) : Prop :=
  (0 : Int) ≤ x1 ∧ x1 ≤ ((x12n : Nat) : Int) ∧
  Runs Tryz.prog 88 #[.slice (slA x12 x12c x1.toNat 1) (x12n - x1.toNat) (x12c - x1.toNat), .int .i64 x13] I S fun v I1 S1 => v = .tuple #[] ∧
  R (.slice x12 x12n x12c) I1 S1
def slices_Replace__string_string_b20 (R : RT) (x0 : OA) (x0n x0c : Nat) (x1 : Int) (x3 : OA) (x3n x3c : Nat) (x12 : OA) (x12n x12c : Nat) (x13 : Int) (I : IMem) (S : SH) : Prop :=
  (0 : Int) ≤ (x0n : Int) ∧ (x0n : Int) ≤ ((x12n : Nat) : Int) ∧
  (0 : Int) ≤ x13 ∧ x13 ≤ ((x3c : Nat) : Int) ∧
  CpyP 1 I S (.slice (slA x12 x12c ((x0n : Int).toNat) 1) (x12n - (x0n : Int).toNat) (x12c - (x0n : Int).toNat)) (.slice (slA x3 x3c 0 1) (x13.toNat - 0) (x3c - 0)) fun u0 S1 =>
  slices_Replace__string_string_b21 R x1 x12 x12n x12c x13 I S1
def slices_Replace__string_string_b25 (R : RT) (x1 : Int) (x12 : OA) (x12n x12c : Nat) (x13 : Int) (I : IMem) (S : SH) : Prop :=
  (0 : Int) ≤ x1 ∧ x1 ≤ ((x12n : Nat) : Int) ∧
  Runs Tryz.prog 88 #[.slice (slA x12 x12c x1.toNat 1) (x12n - x1.toNat) (x12c - x1.toNat), .int .i64 x13] I S fun v I1 S1 => v = .tuple #[] ∧
  R (.slice x12 x12n x12c) I1 S1
def slices_Replace__string_string_b24 (R : RT) (x1 x2 : Int) (x3 : OA) (x3n x3c : Nat) (x12 : OA) (x12n x12c : Nat) (x13 : Int) (I : IMem) (S : SH) : Prop :=
  (0 : Int) ≤ x2 ∧ x2 ≤ ((x12c : Nat) : Int) ∧
  (0 : Int) ≤ x1 ∧ x1 ≤ ((x2.toNat : Nat) : Int) ∧
  (0 : Int) ≤ x13 ∧ x13 ≤ ((x3n : Nat) : Int) ∧
  CpyP 1 I S (.slice (slA x12 x12c x1.toNat 1) (x2.toNat - x1.toNat) (x12c - x1.toNat)) (.slice (slA x3 x3c x13.toNat 1) (x3n - x13.toNat) (x3c - x13.toNat)) fun u0 S1 =>
  slices_Replace__string_string_b25 R x1 x12 x12n x12c x13 I S1
def slices_Replace__string_string_b28 (R : RT) (x12 : OA) (x12n x12c : Nat) (I : IMem) (S : SH) : Prop :=
  R (.slice x12 x12n x12c) I S
def slices_Replace__string_string_b27 (R : RT) (x1 : Int) (x3 : OA) (x3n x3c : Nat) (x12 : OA) (x12n x12c : Nat) (x14 : Int) (I : IMem) (S : SH) : Prop :=
  (0 : Int) ≤ (IntKind.wrap .i64 (x1 + (x3n : Int))) ∧ (IntKind.wrap .i64 (x1 + (x3n : Int))) ≤ ((x12n : Nat) : Int) ∧
  (0 : Int) ≤ (IntKind.wrap .i64 (x1 + x14)) ∧ (IntKind.wrap .i64 (x1 + x14)) ≤ ((x12n : Nat) : Int) ∧
  CpyP 1 I S (.slice (slA x12 x12c ((IntKind.wrap .i64 (x1 + (x3n : Int))).toNat) 1) (x12n - (IntKind.wrap .i64 (x1 + (x3n : Int))).toNat) (x12c - (IntKind.wrap .i64 (x1 + (x3n : Int))).toNat)) (.slice (slA x12 x12c ((IntKind.wrap .i64 (x1 + x14)).toNat) 1) (x12n - (IntKind.wrap .i64 (x1 + x14)).toNat) (x12c - (IntKind.wrap .i64 (x1 + x14)).toNat)) fun u0 S1 =>
  slices_Replace__string_string_b28 R x12 x12n x12c I S1
def slices_Replace__string_string_b26 (R : RT) (x0 : OA) (x0n x0c : Nat) (x1 x2 : Int) (x3 : OA) (x3n x3c : Nat) (x12 : OA) (x12n x12c : Nat) (I : IMem) (S : SH) : Prop :=
  (0 : Int) ≤ x2 ∧ x2 ≤ ((x0n : Nat) : Int) ∧
  Runs Tryz.prog 89 #[.slice x3 x3n x3c, .slice (slA x0 x0c x2.toNat 1) (x0n - x2.toNat) (x0c - x2.toNat)] I S fun v I1 S1 => ∃ u0, v = .int .i64 u0 ∧
  (0 : Int) ≤ x1 ∧ x1 ≤ ((x12n : Nat) : Int) ∧
  CpyP 1 I1 S1 (.slice (slA x12 x12c x1.toNat 1) (x12n - x1.toNat) (x12c - x1.toNat)) (.slice x3 x3n x3c) fun u1 S1' =>
  slices_Replace__string_string_b27 R x1 x3 x3n x3c x12 x12n x12c u0 I1 S1'
def slices_Replace__string_string_b23 (R : RT) (x0 : OA) (x0n x0c : Nat) (x1 x2 : Int) (x3 : OA) (x3n x3c : Nat) (x12 : OA) (x12n x12c : Nat) (x13 : Int) (x178 : Bool) (I : IMem) (S : SH) : Prop :=
  bcase x178
    ((0 : Int) ≤ (x0n : Int) ∧ (x0n : Int) ≤ ((x12n : Nat) : Int) ∧
    (0 : Int) ≤ x13 ∧ x13 ≤ ((x3c : Nat) : Int) ∧
    CpyP 1 I S (.slice (slA x12 x12c ((x0n : Int).toNat) 1) (x12n - (x0n : Int).toNat) (x12c - (x0n : Int).toNat)) (.slice (slA x3 x3c 0 1) (x13.toNat - 0) (x3c - 0)) fun u0 S1 =>
    slices_Replace__string_string_b24 R x1 x2 x3 x3n x3c x12 x12n x12c x13 I S1)
    (slices_Replace__string_string_b26 R x0 x0n x0c x1 x2 x3 x3n x3c x12 x12n x12c I S)
def slices_Replace__string_string_b22 (R : RT) (x0 : OA) (x0n x0c : Nat) (x1 x2 : Int) (x3 : OA) (x3n x3c : Nat) (x12 : OA) (x12n x12c : Nat) (x13 : Int) (I : IMem) (S : SH) : Prop :=
  (0 : Int) ≤ (x0n : Int) ∧ (x0n : Int) ≤ ((x12n : Nat) : Int) ∧
  RunsX Tryz.prog 87 #[.slice (slA x12 x12c ((x0n : Int).toNat) 1) (x12n - (x0n : Int).toNat) (x12c - (x0n : Int).toNat), .slice x3 x3n x3c] I S fun v I1 S1 => ∃ u0, v = .bool u0 ∧
  slices_Replace__string_string_b23 R x0 x0n x0c x1 x2 x3 x3n x3c x12 x12n x12c x13 (!u0) I1 S1
def slices_Replace__string_string_b19 (R : RT) (x0 : OA) (x0n x0c : Nat) (x1 x2 : Int) (x3 : OA) (x3n x3c : Nat) (x12 : OA) (x12n x12c : Nat) (x13 : Int) (x149 : Bool) (I : IMem) (S : SH) : Prop :=
  bcase x149
    ((0 : Int) ≤ x2 ∧ x2 ≤ ((x12c : Nat) : Int) ∧
    (0 : Int) ≤ x1 ∧ x1 ≤ ((x2.toNat : Nat) : Int) ∧
    (0 : Int) ≤ x13 ∧ x13 ≤ ((x3n : Nat) : Int) ∧
    CpyP 1 I S (.slice (slA x12 x12c x1.toNat 1) (x2.toNat - x1.toNat) (x12c - x1.toNat)) (.slice (slA x3 x3c x13.toNat 1) (x3n - x13.toNat) (x3c - x13.toNat)) fun u0 S1 =>
    slices_Replace__string_string_b20 R x0 x0n x0c x1 x3 x3n x3c x12 x12n x12c x13 I S1)
    (slices_Replace__string_string_b22 R x0 x0n x0c x1 x2 x3 x3n x3c x12 x12n x12c x13 I S)
def slices_Replace__string_string_b18 (R : RT) (x0 : OA) (x0n x0c : Nat) (x1 x2 : Int) (x3 : OA) (x3n x3c : Nat) (x12 : OA) (x12n x12c : Nat) (x13 : Int) (I : IMem) (S : SH) : Prop :=
  (0 : Int) ≤ x2 ∧ x2 ≤ ((x12c : Nat) : Int) ∧
  (0 : Int) ≤ x1 ∧ x1 ≤ ((x2.toNat : Nat) : Int) ∧
  RunsX Tryz.prog 87 #[.slice (slA x12 x12c x1.toNat 1) (x2.toNat - x1.toNat) (x12c - x1.toNat), .slice x3 x3n x3c] I S fun v I1 S1 => ∃ u0, v = .bool u0 ∧
  slices_Replace__string_string_b19 R x0 x0n x0c x1 x2 x3 x3n x3c x12 x12n x12c x13 (!u0) I1 S1
def slices_Replace__string_string_b17 (R : RT) (x0 : OA) (x0n x0c : Nat) (x1 x2 : Int) (x3 : OA) (x3n x3c : Nat) (x12 : OA) (x12n x12c : Nat) (I : IMem) (S : SH) : Prop :=
  slices_Replace__string_string_b18 R x0 x0n x0c x1 x2 x3 x3n x3c x12 x12n x12c (IntKind.wrap .i64 ((x3n : Int) - (IntKind.wrap .i64 (x2 - x1)))) I S
def slices_Replace__string_string_b15 (R : RT) (x0 : OA) (x0n x0c : Nat) (x1 x2 : Int) (x3 : OA) (x3n x3c : Nat) (x12 : OA) (x12n x12c : Nat) (x120 : Bool) (I : IMem) (S : SH) : Prop :=
  bcase x120
    ((0 : Int) ≤ (IntKind.wrap .i64 (x1 + (x3n : Int))) ∧ (IntKind.wrap .i64 (x1 + (x3n : Int))) ≤ ((x12n : Nat) : Int) ∧
    (0 : Int) ≤ x2 ∧ x2 ≤ ((x0n : Nat) : Int) ∧
    CpyP 1 I S (.slice (slA x12 x12c ((IntKind.wrap .i64 (x1 + (x3n : Int))).toNat) 1) (x12n - (IntKind.wrap .i64 (x1 + (x3n : Int))).toNat) (x12c - (IntKind.wrap .i64 (x1 + (x3n : Int))).toNat)) (.slice (slA x0 x0c x2.toNat 1) (x0n - x2.toNat) (x0c - x2.toNat)) fun u0 S1 =>
    slices_Replace__string_string_b16 R x1 x3 x3n x3c x12 x12n x12c I S1)
    (slices_Replace__string_string_b17 R x0 x0n x0c x1 x2 x3 x3n x3c x12 x12n x12c I S)
def slices_Replace__string_string_b14 (R : RT) (x0 : OA) (x0n x0c : Nat) (x1 x2 : Int) (x3 : OA) (x3n x3c : Nat) (x12 : OA) (x12n x12c : Nat) (I : IMem) (S : SH) : Prop :=
  (0 : Int) ≤ (IntKind.wrap .i64 (x1 + (x3n : Int))) ∧ (IntKind.wrap .i64 (x1 + (x3n : Int))) ≤ ((x12n : Nat) : Int) ∧
  RunsX Tryz.prog 87 #[.slice (slA x12 x12c ((IntKind.wrap .i64 (x1 + (x3n : Int))).toNat) 1) (x12n - (IntKind.wrap .i64 (x1 + (x3n : Int))).toNat) (x12c - (IntKind.wrap .i64 (x1 + (x3n : Int))).toNat), .slice x3 x3n x3c] I S fun v I1 S1 => ∃ u0, v = .bool u0 ∧
  slices_Replace__string_string_b15 R x0 x0n x0c x1 x2 x3 x3n x3c x12 x12n x12c (!u0) I1 S1
def slices_Replace__string_string_b11 (R : RT) (x0 : OA) (x0n x0c : Nat) (x1 x2 : Int) (x3 : OA) (x3n x3c : Nat) (x10 : Int) (x12 : OA) (x12n x12c : Nat) (x92 : Bool) (I : IMem) (S : SH) : Prop :=
  bcase x92
    ((0 : Int) ≤ x1 ∧ x1 ≤ ((x12n : Nat) : Int) ∧
    CpyP 1 I S (.slice (slA x12 x12c x1.toNat 1) (x12n - x1.toNat) (x12c - x1.toNat)) (.slice x3 x3n x3c) fun u0 S1 =>
    slices_Replace__string_string_b12 R x0 x0n x0c x1 x2 x3 x3n x3c x10 x12 x12n x12c I S1)
    (slices_Replace__string_string_b14 R x0 x0n x0c x1 x2 x3 x3n x3c x12 x12n x12c I S)
def slices_Replace__string_string_b10 (R : RT) (x0 : OA) (x0n x0c : Nat) (x1 x2 : Int) (x3 : OA) (x3n x3c : Nat) (x10 : Int) (x12 : OA) (x12n x12c : Nat) (I : IMem) (S : SH) : Prop :=
  slices_Replace__string_string_b11 R x0 x0n x0c x1 x2 x3 x3n x3c x10 x12 x12n x12c (decide ((IntKind.wrap .i64 (x1 + (x3n : Int))) ≤ x2)) I S
def slices_Replace__string_string_b9 (R : RT) (x0 : OA) (x0n x0c : Nat) (x1 x2 : Int) (x3 : OA) (x3n x3c : Nat) (x10 : Int) (I : IMem) (S : SH) : Prop :=
  (0 : Int) ≤ x10 ∧ x10 ≤ ((x0c : Nat) : Int) ∧
  slices_Replace__string_string_b10 R x0 x0n x0c x1 x2 x3 x3n x3c x10 (slA x0 x0c 0 1) (x10.toNat - 0) (x0c - 0) I S
def slices_Replace__string_string_b6 (R : RT) (x0 : OA) (x0n x0c : Nat) (x1 x2 : Int) (x3 : OA) (x3n x3c : Nat) (x10 : Int) (x60 : Bool) (I : IMem) (S : SH) : Prop :=
  bcase x60
    ((0 : Int) ≤ x1 ∧ x1 ≤ ((x0c : Nat) : Int) ∧
    AppG 9 1 16 [.string ⟨#[]⟩] (some (.int .i64)) I S (.slice (slA x0 x0c 0 1) (x1.toNat - 0) (x0c - 0)) (.int .i64 (IntKind.wrap .i64 (x10 - x1))) fun u0 u0n u0c S1 =>
    (0 : Int) ≤ x1 ∧ x1 ≤ ((u0n : Nat) : Int) ∧
    CpyP 1 I S1 (.slice (slA u0 u0c x1.toNat 1) (u0n - x1.toNat) (u0c - x1.toNat)) (.slice x3 x3n x3c) fun u1 S1' =>
    slices_Replace__string_string_b7 R x0 x0n x0c x1 x2 x3 x3n x3c u0 u0n u0c I S1')
    (slices_Replace__string_string_b9 R x0 x0n x0c x1 x2 x3 x3n x3c x10 I S)
def slices_Replace__string_string_b5 (R : RT) (x0 : OA) (x0n x0c : Nat) (x1 x2 : Int) (x3 : OA) (x3n x3c : Nat) (x10 : Int) (I : IMem) (S : SH) : Prop :=
  slices_Replace__string_string_b6 R x0 x0n x0c x1 x2 x3 x3n x3c x10 (decide (x10 > (x0c : Int))) I S
def slices_Replace__string_string_b4 (R : RT) (x0 : OA) (x0n x0c : Nat) (x1 x2 : Int) (x3 : OA) (x3n x3c : Nat) (I : IMem) (S : SH) : Prop :=
  (0 : Int) ≤ x1 ∧ x1 ≤ ((x0c : Nat) : Int) ∧
  (0 : Int) ≤ x2 ∧ x2 ≤ ((x0n : Nat) : Int) ∧
  slices_Replace__string_string_b5 R x0 x0n x0c x1 x2 x3 x3n x3c (IntKind.wrap .i64 ((IntKind.wrap .i64 ((((x1.toNat - 0) : Nat) : Int) + (x3n : Int))) + (((x0n - x2.toNat) : Nat) : Int))) I S
def slices_Replace__string_string_b2 (R : RT) (x0 : OA) (x0n x0c : Nat) (x1 x2 : Int) (x3 : OA) (x3n x3c : Nat) (x29 : Bool) (I : IMem) (S : SH) : Prop :=
  bcase x29
    ((0 : Int) ≤ x1 ∧ x1 ≤ ((x0c : Nat) : Int) ∧
    AppG 9 1 16 [.string ⟨#[]⟩] (some (.slice 9)) I S (.slice (slA x0 x0c 0 1) (x1.toNat - 0) (x0c - 0)) (.slice x3 x3n x3c) fun u0 u0n u0c S1 =>
    bcase (decide ((u0n : Int) < (x0n : Int)))
      ((0 : Int) ≤ (u0n : Int) ∧ (u0n : Int) ≤ ((x0n : Nat) : Int) ∧
      ClrP [.string ⟨#[]⟩] S1 (slA x0 x0c ((u0n : Int).toNat) 1) (x0n - (u0n : Int).toNat) fun S1' =>
      slices_Replace__string_string_b3 R u0 u0n u0c I S1')
      (slices_Replace__string_string_b3 R u0 u0n u0c I S1))
    (slices_Replace__string_string_b4 R x0 x0n x0c x1 x2 x3 x3n x3c I S)
def slices_Replace__string_string_b1 (R : RT) (x0 : OA) (x0n x0c : Nat) (x1 x2 : Int) (x3 : OA) (x3n x3c : Nat) (I : IMem) (S : SH) : Prop :=
  slices_Replace__string_string_b2 R x0 x0n x0c x1 x2 x3 x3n x3c (x2 == (x0n : Int)) I S
def slices_Replace__string_string (R : RT) (u0 : OA) (u0n u0c : Nat) (u1 u2 : Int) (u3 : OA) (u3n u3c : Nat) (I : IMem) (S : SH) : Prop :=
  (0 : Int) ≤ u2 ∧ u2 ≤ ((u0c : Nat) : Int) ∧
  (0 : Int) ≤ u1 ∧ u1 ≤ ((u2.toNat : Nat) : Int) ∧
  bcase (u1 == u2)
    (Runs Tryz.prog 86 #[.slice u0 u0n u0c, .int .i64 u1, .slice u3 u3n u3c] I S fun v I1 S1 => ∃ u4 u4n u4c, v = .slice u4 u4n u4c ∧
    R (.slice u4 u4n u4c) I1 S1)
    (slices_Replace__string_string_b1 R u0 u0n u0c u1 u2 u3 u3n u3c I S)
theorem slices_Replace__string_string_fn (R : RT) (u0 : OA) (u0n u0c : Nat) (u1 u2 : Int) (u3 : OA) (u3n u3c : Nat) (I : IMem) (S : SH) (h : slices_Replace__string_string R u0 u0n u0c u1 u2 u3 u3n u3c I S) : Runs Tryz.prog 77 #[.slice u0 u0n u0c, .int .i64 u1, .int .i64 u2, .slice u3 u3n u3c] I S R := by
  refine Runs.of_wp (c := cd Tryz.f77) Tryz.func77 (by kernel_rfl) (by kernel_rfl) ?_
  refine cO 3 [kL 0, kI .i64 1, kI .i64 2, kL 3] (slices_Replace__string_string_b1 R) h fun _ _ _ _ _ _ _ _ _ _ _ _ h => ?_
  refine sO [kL 0, kI .i64 1, kI .i64 2, kL 3] (slices_Replace__string_string_b4 R) ?_ fun _ _ _ _ _ _ _ _ _ _ _ _ h => ?_
  · refine cO 1 [kL 0, kI .i64 1, kI .i64 2, kL 3, kB 29] (slices_Replace__string_string_b2 R) h fun _ _ _ _ _ _ _ _ _ _ _ _ _ h => ?_
    refine cD h (fun h => ?_) fun h => pS h
    refine cO 2 [kL 9] (slices_Replace__string_string_b3 R) h fun _ _ _ _ _ _ _ h => ?_
    exact pS h
  refine sO [kL 0, kI .i64 1, kI .i64 2, kL 3, kI .i64 10] (slices_Replace__string_string_b5 R) (qT h) fun _ _ _ _ _ _ _ _ _ _ _ _ _ h => ?_
  refine sO [kL 0, kI .i64 1, kI .i64 2, kL 3, kI .i64 10] (slices_Replace__string_string_b9 R) ?_ fun _ _ _ _ _ _ _ _ _ _ _ _ _ h => ?_
  · refine cO 1 [kL 0, kI .i64 1, kI .i64 2, kL 3, kI .i64 10, kB 60] (slices_Replace__string_string_b6 R) h fun _ _ _ _ _ _ _ _ _ _ _ _ _ _ h => ?_
    refine cD h (fun h => ?_) fun h => pS h
    refine cO 2 [kL 0, kI .i64 1, kI .i64 2, kL 3, kL 11] (slices_Replace__string_string_b7 R) h fun _ _ _ _ _ _ _ _ _ _ _ _ _ _ _ h => ?_
    refine sO [kL 11] (slices_Replace__string_string_b8 R) (dR (tk 9 0 (.step 9 .done)) [9] h) fun _ _ _ _ _ _ _ h => ?_
    exact pS h
  refine cO 1 [kL 0, kI .i64 1, kI .i64 2, kL 3, kI .i64 10, kL 12] (slices_Replace__string_string_b10 R) h fun _ _ _ _ _ _ _ _ _ _ _ _ _ _ _ _ h => ?_
  refine sO [kL 0, kI .i64 1, kI .i64 2, kL 3, kL 12] (slices_Replace__string_string_b14 R) ?_ fun _ _ _ _ _ _ _ _ _ _ _ _ _ _ _ h => ?_
  · refine cO 1 [kL 0, kI .i64 1, kI .i64 2, kL 3, kI .i64 10, kL 12, kB 92] (slices_Replace__string_string_b11 R) h fun _ _ _ _ _ _ _ _ _ _ _ _ _ _ _ _ _ h => ?_
    refine cD h (fun h => ?_) fun h => pS h
    refine cO 1 [kL 0, kI .i64 1, kI .i64 2, kL 3, kI .i64 10, kL 12] (slices_Replace__string_string_b12 R) h fun _ _ _ _ _ _ _ _ _ _ _ _ _ _ _ _ h => ?_
    refine sO [kL 0, kI .i64 10, kL 12] (slices_Replace__string_string_b13 R) (dR (tk 9 0 (.step 9 .done)) [9] h) fun _ _ _ _ _ _ _ _ _ _ _ h => ?_
    exact pS h
  refine sO [kL 0, kI .i64 1, kI .i64 2, kL 3, kL 12] (slices_Replace__string_string_b17 R) ?_ fun _ _ _ _ _ _ _ _ _ _ _ _ _ _ _ h => ?_
  · refine cO 1 [kL 0, kI .i64 1, kI .i64 2, kL 3, kL 12, kB 120] (slices_Replace__string_string_b15 R) h fun _ _ _ _ _ _ _ _ _ _ _ _ _ _ _ _ h => ?_
    refine cD h (fun h => ?_) fun h => pS h
    refine sO [kI .i64 1, kL 3, kL 12] (slices_Replace__string_string_b16 R) (dR (tk 9 0 (.step 9 .done)) [9] h) fun _ _ _ _ _ _ _ _ _ _ _ h => ?_
    exact pS h
  refine cO 1 [kL 0, kI .i64 1, kI .i64 2, kL 3, kL 12, kI .i64 13] (slices_Replace__string_string_b18 R) h fun _ _ _ _ _ _ _ _ _ _ _ _ _ _ _ _ h => ?_
  refine sO [kL 0, kI .i64 1, kI .i64 2, kL 3, kL 12, kI .i64 13] (slices_Replace__string_string_b22 R) ?_ fun _ _ _ _ _ _ _ _ _ _ _ _ _ _ _ _ h => ?_
  · refine cO 1 [kL 0, kI .i64 1, kI .i64 2, kL 3, kL 12, kI .i64 13, kB 149] (slices_Replace__string_string_b19 R) h fun _ _ _ _ _ _ _ _ _ _ _ _ _ _ _ _ _ h => ?_
    refine cD h (fun h => ?_) fun h => pS h
    refine sO [kL 0, kI .i64 1, kL 3, kL 12, kI .i64 13] (slices_Replace__string_string_b20 R) (dR (tk 7 0 (.step 7 .done)) [7] h) fun _ _ _ _ _ _ _ _ _ _ _ _ _ _ _ h => ?_
    refine sO [kI .i64 1, kL 12, kI .i64 13] (slices_Replace__string_string_b21 R) (dR (tk 7 0 (.step 7 .done)) [7] h) fun _ _ _ _ _ _ _ _ _ h => ?_
    exact pS h
  refine sO [kL 0, kI .i64 1, kI .i64 2, kL 3, kL 12] (slices_Replace__string_string_b26 R) ?_ fun _ _ _ _ _ _ _ _ _ _ _ _ _ _ _ h => ?_
  · refine cO 1 [kL 0, kI .i64 1, kI .i64 2, kL 3, kL 12, kI .i64 13, kB 178] (slices_Replace__string_string_b23 R) h fun _ _ _ _ _ _ _ _ _ _ _ _ _ _ _ _ _ h => ?_
    refine cD h (fun h => ?_) fun h => pS h
    refine sO [kI .i64 1, kI .i64 2, kL 3, kL 12, kI .i64 13] (slices_Replace__string_string_b24 R) (dR (tk 7 0 (.step 7 .done)) [7] h) fun _ _ _ _ _ _ _ _ _ _ _ _ _ h => ?_
    refine sO [kI .i64 1, kL 12, kI .i64 13] (slices_Replace__string_string_b25 R) (dR (tk 7 0 (.step 7 .done)) [7] h) fun _ _ _ _ _ _ _ _ _ h => ?_
    exact pS h
  refine cO 2 [kI .i64 1, kL 3, kL 12, kI .i64 14] (slices_Replace__string_string_b27 R) h fun _ _ _ _ _ _ _ _ _ _ _ _ h => ?_
  refine sO [kL 12] (slices_Replace__string_string_b28 R) (dR (tk 11 0 (.step 11 .done)) [11] h) fun _ _ _ _ _ _ _ h => ?_
  exact pS h
def owner_Encode_b12 (R : RT) (x7 : ByteArray) (I : IMem) (S : SH) : Prop :=
  R (.tuple #[.string x7, .bool true]) I S
def owner_Encode_b11 (R : RT) (x7 : ByteArray) (x69 : Bool) (I : IMem) (S : SH) : Prop :=
  bcase x69
    (R (.tuple #[.string ⟨#[]⟩, .bool false]) I S)
    (owner_Encode_b12 R x7 I S)
def owner_Encode_b10 (R : RT) (x1 : Addr) (x7 : ByteArray) (I : IMem) (S : SH) : Prop :=
  Runs Tryz.prog 45 #[.string x7] I S fun v I1 S1 => ∃ u0 u1 u2 u3 u4, v = .tuple #[.agg #[.int .i64 u0, .string u1, .string u2, .int .i64 u3], .bool u4] ∧
  ∀ b9 : Nat,
  StP ((b9, .cells #[.int .i64 0, .string ⟨#[]⟩, .string ⟨#[]⟩, .int .i64 0] 35 (0, 0)) :: S1) ⟨b9, 0, none⟩ [.int .i64 u0, .string u1, .string u2, .int .i64 u3] fun S1' =>
  bcase (!u4)
    (owner_Encode_b11 R x7 true I1 S1')
    (∃ u5, Cell I1 S1' ⟨b9, 0, none⟩ (.int .i64 u5) ∧
    ∃ u6, Cell I1 S1' ⟨b9, 1, none⟩ (.string u6) ∧
    ∃ u7, Cell I1 S1' ⟨b9, 2, none⟩ (.string u7) ∧
    ∃ u8, Cell I1 S1' ⟨b9, 3, none⟩ (.int .i64 u8) ∧
    ∃ u9, Cell I1 S1' x1 (.int .i64 u9) ∧
    ∃ ua, Cell I1 S1' (x1.add 1) (.string ua) ∧
    ∃ ub, Cell I1 S1' (x1.add 2) (.string ub) ∧
    ∃ uc, Cell I1 S1' (x1.add 3) (.int .i64 uc) ∧
    owner_Encode_b11 R x7 (!(((u5 : Int) == (u9 : Int)) && (((u6 : ByteArray) == (ua : ByteArray)) && ((((u7 : ByteArray) == (ub : ByteArray)) && (((u8 : Int) == (uc : Int)) && true)) && true)))) I1 S1')
def owner_Encode_b9 (R : RT) (x1 : Addr) (x7 : ByteArray) (x57 : Bool) (I : IMem) (S : SH) : Prop :=
  bcase x57
    (R (.tuple #[.string ⟨#[]⟩, .bool false]) I S)
    (owner_Encode_b10 R x1 x7 I S)
def owner_Encode_b8 (R : RT) (x1 : Addr) (x5 : Bool) (x7 : ByteArray) (x8 : Bool) (I : IMem) (S : SH) : Prop :=
  bcase (!x5)
    (owner_Encode_b9 R x1 x7 true I S)
    (owner_Encode_b9 R x1 x7 (!x8) I S)
def owner_Encode_b7 (R : RT) (x1 : Addr) (x4 : OA) (x4n x4c : Nat) (x5 : Bool) (I : IMem) (S : SH) : Prop :=
  Runs Tryz.prog 17 #[.slice x4 x4n x4c] I S fun v I1 S1 => ∃ u0 u1, v = .tuple #[.string u0, .bool u1] ∧
  owner_Encode_b8 R x1 x5 u0 u1 I1 S1
def owner_Encode_b6 (R : RT) (x1 : Addr) (x4 : OA) (x4n x4c : Nat) (x5 : Bool) (x6 : ByteArray) (I : IMem) (S : SH) : Prop :=
  bcase (!(x6.toList == (⟨#[]⟩ : ByteArray).toList))
    (∀ b45 : Nat,
    AppG 9 1 16 [.string ⟨#[]⟩] (some (.slice 9)) I ((b45, .cells #[.string x6] 9 (0, 0)) :: S) (.slice x4 x4n x4c) (.slice (some ⟨b45, 0, none⟩) 1 1) fun u0 u0n u0c S1 =>
    owner_Encode_b7 R x1 u0 u0n u0c x5 I S1)
    (owner_Encode_b7 R x1 x4 x4n x4c x5 I S)
def owner_Encode_b5 (R : RT) (x1 : Addr) (x4 : OA) (x4n x4c : Nat) (x5 : Bool) (x6 : ByteArray) (I : IMem) (S : SH) : Prop :=
  ∃ u0, Cell I S x1 (.int .i64 u0) ∧
  bcase (u0 == (5 : Int))
    (Runs Tryz.prog 43 #[] I S fun v I1 S1 => ∃ u1, v = .map u1 ∧
    ∃ u2, ∃ u3 : Bool, MapAt I1 S1 u1 (.int .i64) (.int .i64 4) (.string ⟨#[]⟩) (.string u2) u3 ∧
    owner_Encode_b6 R x1 x4 x4n x4c x5 u2 I1 S1)
    (owner_Encode_b6 R x1 x4 x4n x4c x5 x6 I S)
def owner_Encode_b13 (R : RT) (x1 : Addr) (x4 : OA) (x4n x4c : Nat) (x5 : Bool) (x6 : ByteArray) (x30 : Bool) (I : IMem) (S : SH) : Prop :=
  bcase x30
    (∀ b33 : Nat,
    AppG 9 1 16 [.string ⟨#[]⟩] (some (.slice 9)) I ((b33, .cells #[.string ⟨#[42]⟩] 9 (0, 0)) :: S) (.slice (some ⟨b33, 0, none⟩) 1 1) (.slice x4 x4n x4c) fun u0 u0n u0c S1 =>
    owner_Encode_b5 R x1 u0 u0n u0c x5 x6 I S1)
    (owner_Encode_b5 R x1 x4 x4n x4c x5 x6 I S)
def owner_Encode_b4 (R : RT) (x1 : Addr) (x4 : OA) (x4n x4c : Nat) (x5 : Bool) (x6 : ByteArray) (x22 : Int) (x23 : Bool) (I : IMem) (S : SH) : Prop :=
  bcase x23
    (∃ u0, Cell I S (x1.add 2) (.string u0) ∧
    ∃ u1, Cell I S ((x1.add 2).add 1) (.int .i64 u1) ∧
    Runs Tryz.prog 44 #[.agg #[.string u0, .int .i64 u1]] I S fun v I1 S1 => ∃ u2 u2n u2c, v = .slice u2 u2n u2c ∧
    owner_Encode_b5 R x1 u2 u2n u2c x5 x6 I1 S1)
    (bcase (x22 == (2 : Int))
      (owner_Encode_b13 R x1 x4 x4n x4c x5 x6 (x22 == (2 : Int)) I S)
      (owner_Encode_b13 R x1 x4 x4n x4c x5 x6 (x22 == (5 : Int)) I S))
def owner_Encode_b3 (R : RT) (x1 : Addr) (x4 : OA) (x4n x4c : Nat) (x5 : Bool) (x6 : ByteArray) (x22 : Int) (I : IMem) (S : SH) : Prop :=
  bcase (x22 == (0 : Int))
    (owner_Encode_b4 R x1 x4 x4n x4c x5 x6 x22 (x22 == (0 : Int)) I S)
    (bcase (x22 == (3 : Int))
      (owner_Encode_b4 R x1 x4 x4n x4c x5 x6 x22 (x22 == (3 : Int)) I S)
      (owner_Encode_b4 R x1 x4 x4n x4c x5 x6 x22 (x22 == (6 : Int)) I S))
def owner_Encode_b2 (R : RT) (x1 : Addr) (x4 : OA) (x4n x4c : Nat) (x5 : Bool) (x6 : ByteArray) (I : IMem) (S : SH) : Prop :=
  ∃ u0, Cell I S x1 (.int .i64 u0) ∧
  owner_Encode_b3 R x1 x4 x4n x4c x5 x6 u0 I S
def owner_Encode_b1 (R : RT) (x1 : Addr) (x4 : OA) (x4n x4c : Nat) (x5 : Bool) (I : IMem) (S : SH) : Prop :=
  ∃ u0, Cell I S x1 (.int .i64 u0) ∧
  Runs Tryz.prog 43 #[] I S fun v I1 S1 => ∃ u1, v = .map u1 ∧
  Keep I S I1 S1 ∧
  ∃ u2, ∃ u3 : Bool, MapAt I1 S1 u1 (.int .i64) (.int .i64 u0) (.string ⟨#[]⟩) (.string u2) u3 ∧
  owner_Encode_b2 R x1 x4 x4n x4c x5 u2 I1 S1
def owner_Encode (R : RT) (u0 : Int) (u1 u2 : ByteArray) (u3 : Int) (I : IMem) (S : SH) : Prop :=
  ∀ b1 : Nat,
  ∃ u4, Cell I ((b1, .cells #[.int .i64 u0, .string u1, .string u2, .int .i64 u3] 35 (0, 0)) :: S) ⟨b1, 1, none⟩ (.string u4) ∧
  Runs Tryz.prog 42 #[.string u4] I ((b1, .cells #[.int .i64 u0, .string u1, .string u2, .int .i64 u3] 35 (0, 0)) :: S) fun v I1 S1 => ∃ u5 u5n u5c u6, v = .tuple #[.slice u5 u5n u5c, .bool u6] ∧
  owner_Encode_b1 R ⟨b1, 0, none⟩ u5 u5n u5c u6 I1 S1
theorem owner_Encode_fn (R : RT) (u0 : Int) (u1 u2 : ByteArray) (u3 : Int) (I : IMem) (S : SH) (h : owner_Encode R u0 u1 u2 u3 I S) : Runs Tryz.prog 18 #[.agg #[.int .i64 u0, .string u1, .string u2, .int .i64 u3]] I S R := by
  refine Runs.of_wp (c := cd Tryz.f18) Tryz.func18 (by kernel_rfl) (by kernel_rfl) ?_
  refine cO 2 [kA 1, kL 4, kB 5] (owner_Encode_b1 R) h fun _ _ _ _ _ _ _ _ _ h => ?_
  refine sO [kA 1, kL 4, kB 5, kS 6] (owner_Encode_b2 R) (dR (.take 1 (.take 2 (.step 0 (.step 3 (.take 4 .done))))) [0, 3] h) fun _ _ _ _ _ _ _ _ _ _ h => ?_
  refine sO [kA 1, kL 4, kB 5, kS 6] (owner_Encode_b5 R) ?_ fun _ _ _ _ _ _ _ _ _ _ h => ?_
  · refine cO 1 [kA 1, kL 4, kB 5, kS 6, kI .i64 22] (owner_Encode_b3 R) h fun _ _ _ _ _ _ _ _ _ _ _ h => ?_
    refine bK ?_
    refine cO 1 [kA 1, kL 4, kB 5, kS 6, kI .i64 22, kB 23] (owner_Encode_b4 R) h fun _ _ _ _ _ _ _ _ _ _ _ _ h => ?_
    refine cD h (fun h => pS h) fun h => ?_
    refine cO 1 [kA 1, kL 4, kB 5, kS 6, kB 30] (owner_Encode_b13 R) h fun _ _ _ _ _ _ _ _ _ _ _ h => ?_
    exact pS h
  refine cO 1 [kA 1, kL 4, kB 5, kS 6] (owner_Encode_b6 R) h fun _ _ _ _ _ _ _ _ _ _ h => ?_
  refine cO 1 [kA 1, kL 4, kB 5] (owner_Encode_b7 R) h fun _ _ _ _ _ _ _ _ _ h => ?_
  refine cO 1 [kA 1, kB 5, kS 7, kB 8] (owner_Encode_b8 R) h fun _ _ _ _ _ _ _ _ h => ?_
  refine sO [kA 1, kS 7] (owner_Encode_b10 R) ?_ fun _ _ _ _ _ _ h => ?_
  · refine cO 1 [kA 1, kS 7, kB 57] (owner_Encode_b9 R) h fun _ _ _ _ _ _ _ h => ?_
    exact pS h
  refine sO [kS 7] (owner_Encode_b12 R) ?_ fun _ _ _ _ _ h => ?_
  · refine cO 2 [kS 7, kB 69] (owner_Encode_b11 R) h fun _ _ _ _ _ _ h => ?_
    exact pS h
  exact pS h
abbrev owner_Decode_t6 := Addr → OA → Nat → Nat → ByteArray → OA → Nat → Nat → Addr → PR
def owner_Decode_b7 (R : RT) (x2 : Addr) (x4 : OA) (x4n x4c : Nat) (I : IMem) (S : SH) : Prop :=
  Runs Tryz.prog 61 #[.slice x4 x4n x4c, .int .i64 1, .int .i64 2] I S fun v I1 S1 => ∃ u0 u1 u2 u3 u4, v = .tuple #[.agg #[.int .i64 u0, .string u1, .string u2, .int .i64 u3], .bool u4] ∧
  StP S1 x2 [.int .i64 u0, .string u1, .string u2, .int .i64 u3] fun S1' =>
  ∃ u5, Cell I1 S1' x2 (.int .i64 u5) ∧
  ∃ u6, Cell I1 S1' (x2.add 1) (.string u6) ∧
  ∃ u7, Cell I1 S1' (x2.add 2) (.string u7) ∧
  ∃ u8, Cell I1 S1' (x2.add 3) (.int .i64 u8) ∧
  R (.tuple #[.agg #[.int .i64 u5, .string u6, .string u7, .int .i64 u8], .bool u4]) I1 S1'
def owner_Decode_b9 (g6 : owner_Decode_t6) (R : RT) (x2 : Addr) (x4 : OA) (x4n x4c : Nat) (x6 : ByteArray) (x7 : OA) (x7n x7c : Nat) (x8 : Int) (x9 : ByteArray) (x37 : Addr) (I : IMem) (S : SH) : Prop :=
  bcase (!(x9.toList == x6.toList))
    (g6 x2 x4 x4n x4c x6 x7 x7n x7c x37 I S)
    (bcase (x8 == (4 : Int))
      (Runs Tryz.prog 61 #[.slice x7 x7n x7c, .int .i64 4, .int .i64 5] I S fun v I1 S1 => ∃ u0 u1 u2 u3 u4, v = .tuple #[.agg #[.int .i64 u0, .string u1, .string u2, .int .i64 u3], .bool u4] ∧
      StP S1 x2 [.int .i64 u0, .string u1, .string u2, .int .i64 u3] fun S1' =>
      ∃ u5, Cell I1 S1' x2 (.int .i64 u5) ∧
      ∃ u6, Cell I1 S1' (x2.add 1) (.string u6) ∧
      ∃ u7, Cell I1 S1' (x2.add 2) (.string u7) ∧
      ∃ u8, Cell I1 S1' (x2.add 3) (.int .i64 u8) ∧
      R (.tuple #[.agg #[.int .i64 u5, .string u6, .string u7, .int .i64 u8], .bool u4]) I1 S1')
      (Runs Tryz.prog 62 #[.slice x7 x7n x7c] I S fun v' I1' S1'' => ∃ u9 ua ub, v' = .tuple #[.agg #[.string u9, .int .i64 ua], .bool ub] ∧
      ∀ b10 : Nat,
      StP ((b10, .cells #[.string ⟨#[]⟩, .int .i64 0] 33 (0, 0)) :: S1'') ⟨b10, 0, none⟩ [.string u9, .int .i64 ua] fun S1_r3 =>
      bcase (!ub)
        (StP S1_r3 x2 [.int .i64 0, .string ⟨#[]⟩, .string ⟨#[]⟩, .int .i64 0] fun S1_r4 =>
        ∃ uc, Cell I1' S1_r4 x2 (.int .i64 uc) ∧
        ∃ ud, Cell I1' S1_r4 (x2.add 1) (.string ud) ∧
        ∃ ue, Cell I1' S1_r4 (x2.add 2) (.string ue) ∧
        ∃ uf, Cell I1' S1_r4 (x2.add 3) (.int .i64 uf) ∧
        R (.tuple #[.agg #[.int .i64 uc, .string ud, .string ue, .int .i64 uf], .bool false]) I1' S1_r4)
        (∃ ug, Cell I1' S1_r3 ⟨b10, 0, none⟩ (.string ug) ∧
        ∃ uh, Cell I1' S1_r3 ⟨b10, 1, none⟩ (.int .i64 uh) ∧
        StP S1_r3 x2 [.int .i64 x8, .string ⟨#[]⟩, .string ug, .int .i64 uh] fun S1_r5 =>
        ∃ ui, Cell I1' S1_r5 x2 (.int .i64 ui) ∧
        ∃ uj, Cell I1' S1_r5 (x2.add 1) (.string uj) ∧
        ∃ uk, Cell I1' S1_r5 (x2.add 2) (.string uk) ∧
        ∃ ul, Cell I1' S1_r5 (x2.add 3) (.int .i64 ul) ∧
        R (.tuple #[.agg #[.int .i64 ui, .string uj, .string uk, .int .i64 ul], .bool true]) I1' S1_r5)))
def owner_Decode_b8 (g6 : owner_Decode_t6) (R : RT) (x2 : Addr) (x4 : OA) (x4n x4c : Nat) (x6 : ByteArray) (x7 : OA) (x7n x7c : Nat) (x37 : Addr) (I : IMem) (S : SH) : Prop :=
  EnP I S x37 fun u0 u1 =>
  asI .i64 u0 fun u2 => asStr u1 fun u3 => owner_Decode_b9 g6 R x2 x4 x4n x4c x6 x7 x7n x7c u2 u3 x37 I S
def owner_Decode_l6 (g6 : owner_Decode_t6) (R : RT) (x2 : Addr) (x4 : OA) (x4n x4c : Nat) (x6 : ByteArray) (x7 : OA) (x7n x7c : Nat) (x37 : Addr) (I : IMem) (S : SH) : Prop :=
  NxP I S x37 (owner_Decode_b7 R x2 x4 x4n x4c I S) fun u0 u1 S1 =>
  owner_Decode_b8 g6 R x2 x4 x4n x4c x6 x7 x7n x7c x37 I S1
def owner_Decode_b5 (R : RT) (x2 : Addr) (x4 : OA) (x4n x4c : Nat) (x6 : ByteArray) (x7 : OA) (x7n x7c : Nat) (x37 : Addr) (I : IMem) (S : SH) : Prop :=
  ∃ (Inv : Nat → owner_Decode_t6) (m : Nat), Inv m x2 x4 x4n x4c x6 x7 x7n x7c x37 I S ∧
    ∀ (m : Nat) (x2 : Addr) (x4 : OA) (x4n x4c : Nat) (x6 : ByteArray) (x7 : OA) (x7n x7c : Nat) (x37 : Addr) (J : IMem) (T : SH), I.le J → Inv m x2 x4 x4n x4c x6 x7 x7n x7c x37 J T →
      owner_Decode_l6 (fun x2 x4 x4n x4c x6 x7 x7n x7c x37 I S => ∃ m', m' < m ∧ Inv m' x2 x4 x4n x4c x6 x7 x7n x7c x37 I S) R x2 x4 x4n x4c x6 x7 x7n x7c x37 J T
def owner_Decode_b4 (R : RT) (x2 : Addr) (x4 : OA) (x4n x4c : Nat) (x6 : ByteArray) (x7 : OA) (x7n x7c : Nat) (I : IMem) (S : SH) : Prop :=
  Runs Tryz.prog 43 #[] I S fun v I1 S1 => ∃ u0, v = .map u0 ∧
  mapP u0 fun m => ∃ es ck, MpC I1 S1 m es ck ∧ ∀ b37 : Nat,
  owner_Decode_b5 R x2 x4 x4n x4c x6 x7 x7n x7c ⟨b37, 0, none⟩ I1 ((b37, .mapIter (some m) ck #[] ck) :: S1)
def owner_Decode_b3 (R : RT) (x2 : Addr) (x4 : OA) (x4n x4c : Nat) (I : IMem) (S : SH) : Prop :=
  ptrP x4 fun u0 => (0 : Int) ≤ (IntKind.wrap .i64 ((x4n : Int) - (1 : Int))) ∧ (IntKind.wrap .i64 ((x4n : Int) - (1 : Int))) < (x4n : Int) ∧
  ∃ u1, Cell I S (u0.add ((IntKind.wrap .i64 ((x4n : Int) - (1 : Int))).toNat * 1)) (.string u1) ∧
  (0 : Int) ≤ (IntKind.wrap .i64 ((x4n : Int) - (1 : Int))) ∧ (IntKind.wrap .i64 ((x4n : Int) - (1 : Int))) ≤ ((x4c : Nat) : Int) ∧
  owner_Decode_b4 R x2 x4 x4n x4c u1 (slA x4 x4c 0 1) ((IntKind.wrap .i64 ((x4n : Int) - (1 : Int))).toNat - 0) (x4c - 0) I S
def owner_Decode_b2 (R : RT) (x2 : Addr) (x4 : OA) (x4n x4c : Nat) (x23 : Bool) (I : IMem) (S : SH) : Prop :=
  bcase x23
    (StP S x2 [.int .i64 0, .string ⟨#[]⟩, .string ⟨#[]⟩, .int .i64 0] fun S1 =>
    ∃ u0, Cell I S1 x2 (.int .i64 u0) ∧
    ∃ u1, Cell I S1 (x2.add 1) (.string u1) ∧
    ∃ u2, Cell I S1 (x2.add 2) (.string u2) ∧
    ∃ u3, Cell I S1 (x2.add 3) (.int .i64 u3) ∧
    R (.tuple #[.agg #[.int .i64 u0, .string u1, .string u2, .int .i64 u3], .bool false]) I S1)
    (owner_Decode_b3 R x2 x4 x4n x4c I S)
def owner_Decode_b1 (R : RT) (x2 : Addr) (x4 : OA) (x4n x4c : Nat) (x5 : Bool) (I : IMem) (S : SH) : Prop :=
  bcase (!x5)
    (owner_Decode_b2 R x2 x4 x4n x4c true I S)
    (owner_Decode_b2 R x2 x4 x4n x4c ((x4n : Int) == (0 : Int)) I S)
def owner_Decode (R : RT) (u0 : ByteArray) (I : IMem) (S : SH) : Prop :=
  ∀ b2 : Nat,
  Runs Tryz.prog 42 #[.string u0] I ((b2, .cells #[.int .i64 0, .string ⟨#[]⟩, .string ⟨#[]⟩, .int .i64 0] 35 (0, 0)) :: S) fun v I1 S1 => ∃ u1 u1n u1c u2, v = .tuple #[.slice u1 u1n u1c, .bool u2] ∧
  owner_Decode_b1 R ⟨b2, 0, none⟩ u1 u1n u1c u2 I1 S1
theorem owner_Decode_fn (R : RT) (u0 : ByteArray) (I : IMem) (S : SH) (h : owner_Decode R u0 I S) : Runs Tryz.prog 45 #[.string u0] I S R := by
  refine Runs.of_wp (c := cd Tryz.f45) Tryz.func45 (by kernel_rfl) (by kernel_rfl) ?_
  refine cO 2 [kA 2, kL 4, kB 5] (owner_Decode_b1 R) h fun _ _ _ _ _ _ _ _ _ h => ?_
  refine sO [kA 2, kL 4] (owner_Decode_b3 R) ?_ fun _ _ _ _ _ _ _ _ h => ?_
  · refine cO 1 [kA 2, kL 4, kB 23] (owner_Decode_b2 R) h fun _ _ _ _ _ _ _ _ _ h => ?_
    exact pS h
  refine cO 2 [kA 2, kL 4, kS 6, kL 7] (owner_Decode_b4 R) h fun _ _ _ _ _ _ _ _ _ _ _ _ h => ?_
  refine sO [kA 2, kL 4] (owner_Decode_b7 R) ?_ fun _ _ _ _ _ _ _ _ h => ?_
  · refine cO 1 [kA 2, kL 4, kS 6, kL 7, kA 37] (owner_Decode_b5 R) h fun _ _ _ _ _ _ _ _ _ _ _ _ _ h => ?_
    refine bK ?_
    obtain ⟨Vg6, mg6, h, hr⟩ := h
    refine lO [kA 2, kL 4, kS 6, kL 7, kA 37] Vg6 mg6 h fun mg6 _ I S hle x2 x4 x4n x4c x6 x7 x7n x7c x37 h => ?_
    have h := hr mg6 x2 x4 x4n x4c x6 x7 x7n x7c x37 I S hle h
    refine cO 2 [kA 2, kL 4, kS 6, kL 7, kA 37] (owner_Decode_b8 (fun x2 x4 x4n x4c x6 x7 x7n x7c x37 I S => ∃ m', m' < mg6 ∧ Vg6 m' x2 x4 x4n x4c x6 x7 x7n x7c x37 I S) R) h fun _ _ _ _ _ _ _ _ _ _ _ _ _ h => ?_
    refine bK ?_
    refine cO 1 [kA 2, kL 4, kS 6, kL 7, kI .i64 8, kS 9, kA 37] (owner_Decode_b9 (fun x2 x4 x4n x4c x6 x7 x7n x7c x37 I S => ∃ m', m' < mg6 ∧ Vg6 m' x2 x4 x4n x4c x6 x7 x7n x7c x37 I S) R) h fun _ _ _ _ _ _ _ _ _ _ _ _ _ _ _ h => ?_
    exact pS h
  exact pS h
end Go.Proofs.YtcdajekafnggkaaGreatDoor
set_option linter.unusedVariables false
set_option maxRecDepth 8000
set_option maxHeartbeats 2000000
namespace Go.Proofs.YtcdajekafnggkaaGreatDoor
open Go.Px
def bolterlaw13_Trigger_b4 (R : RT) (x8 x9 : Addr) (I : IMem) (S : SH) : Prop :=
  ∃ u0, Cell I S x9 (.int .i64 u0) ∧
  ∃ u1, Cell I S (x9.add 1) (.string u1) ∧
  ∃ u2, Cell I S (x9.add 2) (.string u2) ∧
  ∃ u3, Cell I S (x9.add 3) (.int .i64 u3) ∧
  StP S x8 [.int .i64 u0, .string u1, .string u2, .int .i64 u3] fun S1 =>
  ∃ u4, Cell I S1 x8 (.int .i64 u4) ∧
  ∃ u5, Cell I S1 (x8.add 1) (.string u5) ∧
  ∃ u6, Cell I S1 (x8.add 2) (.string u6) ∧
  ∃ u7, Cell I S1 (x8.add 3) (.int .i64 u7) ∧
  R (.agg #[.int .i64 u4, .string u5, .string u6, .int .i64 u7]) I S1
abbrev bolterlaw13_Trigger_t7 := Addr → Addr → OA → Nat → Nat → OA → Nat → Nat → Int → Int → PR
def bolterlaw13_Trigger_b8 (g7 : bolterlaw13_Trigger_t7) (R : RT) (x8 x9 : Addr) (x11 : OA) (x11n x11c : Nat) (x20 : OA) (x20n x20c : Nat) (x21 x22 : Int) (I : IMem) (S : SH) : Prop :=
  g7 x8 x9 x11 x11n x11c x20 x20n x20c x21 (IntKind.wrap .i64 (x22 + (1 : Int))) I S
def bolterlaw13_Trigger_b11 (R : RT) (x8 x9 : Addr) (x11 : OA) (x11n x11c : Nat) (I : IMem) (S : SH) : Prop :=
  Runs Tryz.prog 17 #[.slice x11 x11n x11c] I S fun v I1 S1 => ∃ u0 u1, v = .tuple #[.string u0, .bool u1] ∧
  StP S1 (x9.add 1) [.string u0] fun S1' =>
  bolterlaw13_Trigger_b4 R x8 x9 I1 S1'
def bolterlaw13_Trigger_b10 (R : RT) (x8 x9 : Addr) (x11 : OA) (x11n x11c : Nat) (x50 : Bool) (I : IMem) (S : SH) : Prop :=
  bcase x50
    (∀ b51 : Nat,
    bolterlaw13_Trigger_b11 R x8 x9 (some ⟨b51, 0, none⟩) 1 1 I ((b51, .cells #[.string ⟨#[97]⟩] 9 (0, 0)) :: S))
    (bolterlaw13_Trigger_b11 R x8 x9 x11 x11n x11c I S)
def bolterlaw13_Trigger_b9 (R : RT) (x8 x9 : Addr) (x11 : OA) (x11n x11c : Nat) (I : IMem) (S : SH) : Prop :=
  bcase ((x11n : Int) == (0 : Int))
    (∃ u0, Cell I S x9 (.int .i64 u0) ∧
    bcase (u0 == (1 : Int))
      (bolterlaw13_Trigger_b10 R x8 x9 x11 x11n x11c true I S)
      (∃ u1, Cell I S x9 (.int .i64 u1) ∧
      bolterlaw13_Trigger_b10 R x8 x9 x11 x11n x11c (u1 == (4 : Int)) I S))
    (bolterlaw13_Trigger_b10 R x8 x9 x11 x11n x11c false I S)
def bolterlaw13_Trigger_l7 (g7 : bolterlaw13_Trigger_t7) (R : RT) (x8 x9 : Addr) (x11 : OA) (x11n x11c : Nat) (x20 : OA) (x20n x20c : Nat) (x21 x22 : Int) (I : IMem) (S : SH) : Prop :=
  bcase (decide (x22 < x21))
    (ptrP x20 fun u0 => (0 : Int) ≤ x22 ∧ x22 < (x20n : Int) ∧
    ∃ u1, Cell I S (u0.add (x22.toNat * 1)) (.int .u8 u1) ∧
    bcase (decide ((x11n : Int) < (5 : Int)))
      (∀ b30 : Nat,
      ptrP (some ⟨b30, 0, none⟩) fun u2 => (0 : Int) ≤ (u1.tmod (5 : Int)) ∧ (u1.tmod (5 : Int)) < (5 : Int) ∧
      ∃ u3, Cell I ((b30, .cells #[.string ⟨#[97]⟩, .string ⟨#[98]⟩, .string ⟨#[119, 119, 119]⟩, .string ⟨#[101, 120]⟩, .string ⟨#[111, 114, 103]⟩] 9 (0, 0)) :: S) (u2.add ((u1.tmod (5 : Int)).toNat * 1)) (.string u3) ∧
      ∀ b35 : Nat,
      AppG 9 1 16 [.string ⟨#[]⟩] (some (.slice 9)) I ((b35, .cells #[.string u3] 9 (0, 0)) :: ((b30, .cells #[.string ⟨#[97]⟩, .string ⟨#[98]⟩, .string ⟨#[119, 119, 119]⟩, .string ⟨#[101, 120]⟩, .string ⟨#[111, 114, 103]⟩] 9 (0, 0)) :: S)) (.slice x11 x11n x11c) (.slice (some ⟨b35, 0, none⟩) 1 1) fun u4 u4n u4c S1 =>
      bolterlaw13_Trigger_b8 g7 R x8 x9 u4 u4n u4c x20 x20n x20c x21 x22 I S1)
      (bolterlaw13_Trigger_b8 g7 R x8 x9 x11 x11n x11c x20 x20n x20c x21 x22 I S))
    (bolterlaw13_Trigger_b9 R x8 x9 x11 x11n x11c I S)
def bolterlaw13_Trigger_b6 (R : RT) (x8 x9 : Addr) (x11 : OA) (x11n x11c : Nat) (x20 : OA) (x20n x20c : Nat) (x21 x22 : Int) (I : IMem) (S : SH) : Prop :=
  ∃ (Inv : Nat → bolterlaw13_Trigger_t7) (m : Nat), Inv m x8 x9 x11 x11n x11c x20 x20n x20c x21 x22 I S ∧
    ∀ (m : Nat) (x8 x9 : Addr) (x11 : OA) (x11n x11c : Nat) (x20 : OA) (x20n x20c : Nat) (x21 x22 : Int) (J : IMem) (T : SH), I.le J → Inv m x8 x9 x11 x11n x11c x20 x20n x20c x21 x22 J T →
      bolterlaw13_Trigger_l7 (fun x8 x9 x11 x11n x11c x20 x20n x20c x21 x22 I S => ∃ m', m' < m ∧ Inv m' x8 x9 x11 x11n x11c x20 x20n x20c x21 x22 I S) R x8 x9 x11 x11n x11c x20 x20n x20c x21 x22 J T
def bolterlaw13_Trigger_b5 (R : RT) (x1 : OA) (x1n x1c : Nat) (x8 x9 : Addr) (x11 : OA) (x11n x11c : Nat) (I : IMem) (S : SH) : Prop :=
  bolterlaw13_Trigger_b6 R x8 x9 x11 x11n x11c x1 x1n x1c (x1n : Int) 0 I S
def bolterlaw13_Trigger_b3 (R : RT) (x1 : OA) (x1n x1c : Nat) (x2 : Bool) (x3 : Int) (x8 x9 : Addr) (x58 : Bool) (I : IMem) (S : SH) : Prop :=
  bcase x58
    (Runs Tryz.prog 11 #[.bool x2, .slice x1 x1n x1c] I S fun v I1 S1 => ∃ u0, v = .string u0 ∧
    bcase (decide ((IntKind.wrap .i64 ((IntKind.wrap .i64 ((8 : Int) * (u0.size : Int))) + (1 : Int))) = 0)) False (Runs Tryz.prog 29 #[.string u0, .int .i64 ((IntKind.wrap .i64 x3).tmod (IntKind.wrap .i64 ((IntKind.wrap .i64 ((8 : Int) * (u0.size : Int))) + (1 : Int))))] I1 S1 fun v' I1' S1' => ∃ u1 u2 u3, v' = .tuple #[.agg #[.string u1, .int .i64 u2], .bool u3] ∧
    StP S1' (x9.add 2) [.string u1, .int .i64 u2] fun S1'' =>
    bolterlaw13_Trigger_b4 R x8 x9 I1' S1''))
    (bolterlaw13_Trigger_b5 R x1 x1n x1c x8 x9 none 0 0 I S)
def bolterlaw13_Trigger_b2 (R : RT) (x1 : OA) (x1n x1c : Nat) (x2 : Bool) (x3 : Int) (x8 x9 : Addr) (x19 : Int) (I : IMem) (S : SH) : Prop :=
  bcase (x19 == (0 : Int))
    (bolterlaw13_Trigger_b3 R x1 x1n x1c x2 x3 x8 x9 (x19 == (0 : Int)) I S)
    (bcase (x19 == (3 : Int))
      (bolterlaw13_Trigger_b3 R x1 x1n x1c x2 x3 x8 x9 (x19 == (3 : Int)) I S)
      (bolterlaw13_Trigger_b3 R x1 x1n x1c x2 x3 x8 x9 (x19 == (6 : Int)) I S))
def bolterlaw13_Trigger_b1 (R : RT) (x1 : OA) (x1n x1c : Nat) (x2 : Bool) (x3 : Int) (x8 x9 : Addr) (I : IMem) (S : SH) : Prop :=
  ∃ u0, Cell I S x9 (.int .i64 u0) ∧
  bolterlaw13_Trigger_b2 R x1 x1n x1c x2 x3 x8 x9 u0 I S
def bolterlaw13_Trigger (R : RT) (u0 : Int) (u1 : OA) (u1n u1c : Nat) (u2 : Bool) (u3 : Int) (I : IMem) (S : SH) : Prop :=
  ∀ b8 : Nat,
  ∀ b9 : Nat,
  StP ((b9, .cells #[.int .i64 0, .string ⟨#[]⟩, .string ⟨#[]⟩, .int .i64 0] 35 (0, 0)) :: ((b8, .cells #[.int .i64 0, .string ⟨#[]⟩, .string ⟨#[]⟩, .int .i64 0] 35 (0, 0)) :: S)) ⟨b9, 0, none⟩ [.int .i64 (IntKind.wrap .i64 (u0.tmod (7 : Int))), .string ⟨#[]⟩, .string ⟨#[]⟩, .int .i64 0] fun S1 =>
  bolterlaw13_Trigger_b1 R u1 u1n u1c u2 u3 ⟨b8, 0, none⟩ ⟨b9, 0, none⟩ I S1
theorem bolterlaw13_Trigger_fn (R : RT) (u0 : Int) (u1 : OA) (u1n u1c : Nat) (u2 : Bool) (u3 : Int) (I : IMem) (S : SH) (h : bolterlaw13_Trigger R u0 u1 u1n u1c u2 u3 I S) : Runs Tryz.prog 10 #[.int .u8 u0, .slice u1 u1n u1c, .bool u2, .int .u8 u3] I S R := by
  refine Runs.of_wp (c := cd Tryz.f10) Tryz.func10 (by kernel_rfl) (by kernel_rfl) ?_
  refine cO 2 [kL 1, kB 2, kI .u8 3, kA 8, kA 9] (bolterlaw13_Trigger_b1 R) h fun _ _ _ _ _ _ _ _ _ _ _ h => ?_
  refine sO [kA 8, kA 9] (bolterlaw13_Trigger_b4 R) ?_ fun _ _ _ _ _ _ h => ?_
  · refine cO 1 [kL 1, kB 2, kI .u8 3, kA 8, kA 9, kI .i64 19] (bolterlaw13_Trigger_b2 R) h fun _ _ _ _ _ _ _ _ _ _ _ _ h => ?_
    refine bK ?_
    refine cO 1 [kL 1, kB 2, kI .u8 3, kA 8, kA 9, kB 58] (bolterlaw13_Trigger_b3 R) h fun _ _ _ _ _ _ _ _ _ _ _ _ h => ?_
    refine cD h (fun h => pS h) fun h => ?_
    refine cO 1 [kL 1, kA 8, kA 9, kL 11] (bolterlaw13_Trigger_b5 R) h fun _ _ _ _ _ _ _ _ _ _ _ _ h => ?_
    refine sO [kA 8, kA 9, kL 11] (bolterlaw13_Trigger_b9 R) ?_ fun _ _ _ _ _ _ _ _ _ h => ?_
    · refine cO 1 [kA 8, kA 9, kL 11, kL 20, kI .i64 21, kI .i64 22] (bolterlaw13_Trigger_b6 R) h fun _ _ _ _ _ _ _ _ _ _ _ _ _ _ h => ?_
      refine bK ?_
      obtain ⟨Vg7, mg7, h, hr⟩ := h
      refine lO [kA 8, kA 9, kL 11, kL 20, kI .i64 21, kI .i64 22] Vg7 mg7 h fun mg7 _ I S hle x8 x9 x11 x11n x11c x20 x20n x20c x21 x22 h => ?_
      have h := hr mg7 x8 x9 x11 x11n x11c x20 x20n x20c x21 x22 I S hle h
      refine cO 3 [kA 8, kA 9, kL 11, kL 20, kI .i64 21, kI .i64 22] (bolterlaw13_Trigger_b8 (fun x8 x9 x11 x11n x11c x20 x20n x20c x21 x22 I S => ∃ m', m' < mg7 ∧ Vg7 m' x8 x9 x11 x11n x11c x20 x20n x20c x21 x22 I S) R) h fun _ _ _ _ _ _ _ _ _ _ _ _ _ _ h => ?_
      exact pS h
    refine sO [kA 8, kA 9, kL 11] (bolterlaw13_Trigger_b11 R) ?_ fun _ _ _ _ _ _ _ _ _ h => ?_
    · refine cO 1 [kA 8, kA 9, kL 11, kB 50] (bolterlaw13_Trigger_b10 R) h fun _ _ _ _ _ _ _ _ _ _ h => ?_
      exact pS h
    exact pS h
  exact pS h
abbrev bolterlaw12_Addr_t3 := OA → Nat → Nat → OA → Nat → Nat → Int → Int → PR
def bolterlaw12_Addr_b6 (g3 : bolterlaw12_Addr_t3) (R : RT) (x5 : OA) (x5n x5c : Nat) (x11 : OA) (x11n x11c : Nat) (x12 x13 : Int) (I : IMem) (S : SH) : Prop :=
  g3 x5 x5n x5c x11 x11n x11c x12 (IntKind.wrap .i64 (x13 + (1 : Int))) I S
def bolterlaw12_Addr_b5 (g3 : bolterlaw12_Addr_t3) (R : RT) (x5 : OA) (x5n x5c : Nat) (x6 x7 : Int) (x11 : OA) (x11n x11c : Nat) (x12 x13 : Int) (x21 : Bool) (I : IMem) (S : SH) : Prop :=
  bcase x21
    (bcase (decide ((x5n : Int) = 0)) False (∀ b29 : Nat,
    ptrP (some ⟨b29, 0, none⟩) fun u0 => (0 : Int) ≤ (x7.tmod (6 : Int)) ∧ (x7.tmod (6 : Int)) < (6 : Int) ∧
    ∃ u1, Cell I ((b29, .cells #[.int .u8 0, .int .u8 1, .int .u8 128, .int .u8 255, .int .u8 192, .int .u8 x7] 5 (0, 0)) :: S) (u0.add ((x7.tmod (6 : Int)).toNat * 1)) (.int .u8 u1) ∧
    ptrP x5 fun u2 => (0 : Int) ≤ ((IntKind.wrap .i64 (x6 * (7 : Int))).tmod (x5n : Int)) ∧ ((IntKind.wrap .i64 (x6 * (7 : Int))).tmod (x5n : Int)) < (x5n : Int) ∧
    StP ((b29, .cells #[.int .u8 0, .int .u8 1, .int .u8 128, .int .u8 255, .int .u8 192, .int .u8 x7] 5 (0, 0)) :: S) (u2.add (((IntKind.wrap .i64 (x6 * (7 : Int))).tmod (x5n : Int)).toNat * 1)) [.int .u8 u1] fun S1 =>
    bolterlaw12_Addr_b6 g3 R x5 x5n x5c x11 x11n x11c x12 x13 I S1))
    (bolterlaw12_Addr_b6 g3 R x5 x5n x5c x11 x11n x11c x12 x13 I S)
def bolterlaw12_Addr_b4 (g3 : bolterlaw12_Addr_t3) (R : RT) (x5 : OA) (x5n x5c : Nat) (x11 : OA) (x11n x11c : Nat) (x12 x13 : Int) (I : IMem) (S : SH) : Prop :=
  ptrP x11 fun u0 => (0 : Int) ≤ x13 ∧ x13 < (x11n : Int) ∧
  ∃ u1, Cell I S (u0.add (x13.toNat * 1)) (.int .u8 u1) ∧
  bolterlaw12_Addr_b5 g3 R x5 x5n x5c x13 u1 x11 x11n x11c x12 x13 (decide (x13 < (x5n : Int))) I S
def bolterlaw12_Addr_b7 (R : RT) (x5 : OA) (x5n x5c : Nat) (I : IMem) (S : SH) : Prop :=
  ∃ u0 : ByteArray, BytesAt I S x5 x5n u0 ∧
  R (.string u0) I S
def bolterlaw12_Addr_l3 (g3 : bolterlaw12_Addr_t3) (R : RT) (x5 : OA) (x5n x5c : Nat) (x11 : OA) (x11n x11c : Nat) (x12 x13 : Int) (I : IMem) (S : SH) : Prop :=
  bcase (decide (x13 < x12))
    (bolterlaw12_Addr_b4 g3 R x5 x5n x5c x11 x11n x11c x12 x13 I S)
    (bolterlaw12_Addr_b7 R x5 x5n x5c I S)
def bolterlaw12_Addr_b2 (R : RT) (x5 : OA) (x5n x5c : Nat) (x11 : OA) (x11n x11c : Nat) (x12 x13 : Int) (I : IMem) (S : SH) : Prop :=
  ∃ (Inv : Nat → bolterlaw12_Addr_t3) (m : Nat), Inv m x5 x5n x5c x11 x11n x11c x12 x13 I S ∧
    ∀ (m : Nat) (x5 : OA) (x5n x5c : Nat) (x11 : OA) (x11n x11c : Nat) (x12 x13 : Int) (J : IMem) (T : SH), I.le J → Inv m x5 x5n x5c x11 x11n x11c x12 x13 J T →
      bolterlaw12_Addr_l3 (fun x5 x5n x5c x11 x11n x11c x12 x13 I S => ∃ m', m' < m ∧ Inv m' x5 x5n x5c x11 x11n x11c x12 x13 I S) R x5 x5n x5c x11 x11n x11c x12 x13 J T
def bolterlaw12_Addr_b1 (R : RT) (x1 : OA) (x1n x1c : Nat) (x5 : OA) (x5n x5c : Nat) (I : IMem) (S : SH) : Prop :=
  bolterlaw12_Addr_b2 R x5 x5n x5c x1 x1n x1c (x1n : Int) 0 I S
def bolterlaw12_Addr (R : RT) (u0 : Bool) (u1 : OA) (u1n u1c : Nat) (I : IMem) (S : SH) : Prop :=
  (0 : Int) ≤ 4 ∧ (4 : Int) ≤ 4 ∧ (4 : Int) ≤ 9223372036854775807 ∧ (1 : Int) * 4 ≤ 281474976710656 ∧ ∀ b8 : Nat,
  bcase u0
    ((0 : Int) ≤ 16 ∧ (16 : Int) ≤ 16 ∧ (16 : Int) ≤ 9223372036854775807 ∧ (1 : Int) * 16 ≤ 281474976710656 ∧ ∀ b10 : Nat,
    bolterlaw12_Addr_b1 R u1 u1n u1c (some ⟨b10, 0, none⟩) 16 16 I ((b10, .cells #[.int .u8 0, .int .u8 0, .int .u8 0, .int .u8 0, .int .u8 0, .int .u8 0, .int .u8 0, .int .u8 0, .int .u8 0, .int .u8 0, .int .u8 0, .int .u8 0, .int .u8 0, .int .u8 0, .int .u8 0, .int .u8 0] 5 (0, 0)) :: ((b8, .cells #[.int .u8 0, .int .u8 0, .int .u8 0, .int .u8 0] 5 (0, 0)) :: S)))
    (bolterlaw12_Addr_b1 R u1 u1n u1c (some ⟨b8, 0, none⟩) 4 4 I ((b8, .cells #[.int .u8 0, .int .u8 0, .int .u8 0, .int .u8 0] 5 (0, 0)) :: S))
theorem bolterlaw12_Addr_fn (R : RT) (u0 : Bool) (u1 : OA) (u1n u1c : Nat) (I : IMem) (S : SH) (h : bolterlaw12_Addr R u0 u1 u1n u1c I S) : Runs Tryz.prog 11 #[.bool u0, .slice u1 u1n u1c] I S R := by
  refine Runs.of_wp (c := cd Tryz.f11) Tryz.func11 (by kernel_rfl) (by kernel_rfl) ?_
  refine cO 3 [kL 1, kL 5] (bolterlaw12_Addr_b1 R) h fun _ _ _ _ _ _ _ _ _ _ h => ?_
  refine sO [kL 5] (bolterlaw12_Addr_b7 R) ?_ fun _ _ _ _ _ _ _ h => ?_
  · refine cO 1 [kL 5, kL 11, kI .i64 12, kI .i64 13] (bolterlaw12_Addr_b2 R) h fun _ _ _ _ _ _ _ _ _ _ _ _ h => ?_
    refine bK ?_
    obtain ⟨Vg3, mg3, h, hr⟩ := h
    refine lO [kL 5, kL 11, kI .i64 12, kI .i64 13] Vg3 mg3 h fun mg3 _ I S hle x5 x5n x5c x11 x11n x11c x12 x13 h => ?_
    have h := hr mg3 x5 x5n x5c x11 x11n x11c x12 x13 I S hle h
    refine cO 2 [kL 5, kL 11, kI .i64 12, kI .i64 13] (bolterlaw12_Addr_b4 (fun x5 x5n x5c x11 x11n x11c x12 x13 I S => ∃ m', m' < mg3 ∧ Vg3 m' x5 x5n x5c x11 x11n x11c x12 x13 I S) R) h fun _ _ _ _ _ _ _ _ _ _ _ _ h => ?_
    refine sO [kL 5, kL 11, kI .i64 12, kI .i64 13] (bolterlaw12_Addr_b6 (fun x5 x5n x5c x11 x11n x11c x12 x13 I S => ∃ m', m' < mg3 ∧ Vg3 m' x5 x5n x5c x11 x11n x11c x12 x13 I S) R) ?_ fun _ _ _ _ _ _ _ _ _ _ _ _ h => ?_
    · refine bK ?_
      refine cO 2 [kL 5, kI .i64 6, kI .u8 7, kL 11, kI .i64 12, kI .i64 13, kB 21] (bolterlaw12_Addr_b5 (fun x5 x5n x5c x11 x11n x11c x12 x13 I S => ∃ m', m' < mg3 ∧ Vg3 m' x5 x5n x5c x11 x11n x11c x12 x13 I S) R) h fun _ _ _ _ _ _ _ _ _ _ _ _ _ _ _ h => ?_
      exact cD h (fun h => dR (tk 7 0 (.take 8 (.take 9 (.step 7 (.take 10 (.step 11 (.take 12 (.step 13 .done)))))))) [7, 11, 13] h) fun h => pS h
    exact pS h
  exact pS h
abbrev name_Labels_t4 := OA → Nat → Nat → ByteArray → PR
def name_Labels_b8 (g4 : name_Labels_t4) (R : RT) (x4 : OA) (x4n x4c : Nat) (x5 : ByteArray) (x6 : Int) (I : IMem) (S : SH) : Prop :=
  (0 : Int) ≤ (IntKind.wrap .i64 ((1 : Int) + x6)) ∧ (IntKind.wrap .i64 ((1 : Int) + x6)) ≤ ((x5.size : Nat) : Int) ∧
  (0 : Int) ≤ (1 : Int) ∧ (1 : Int) ≤ (((IntKind.wrap .i64 ((1 : Int) + x6)).toNat : Nat) : Int) ∧
  ∀ b40 : Nat,
  AppG 9 1 16 [.string ⟨#[]⟩] (some (.slice 9)) I ((b40, .cells #[.string (x5.extract ((1 : Int).toNat) ((IntKind.wrap .i64 ((1 : Int) + x6)).toNat))] 9 (0, 0)) :: S) (.slice x4 x4n x4c) (.slice (some ⟨b40, 0, none⟩) 1 1) fun u0 u0n u0c S1 =>
  (0 : Int) ≤ (IntKind.wrap .i64 ((1 : Int) + x6)) ∧ (IntKind.wrap .i64 ((1 : Int) + x6)) ≤ ((x5.size : Nat) : Int) ∧
  g4 u0 u0n u0c (x5.extract ((IntKind.wrap .i64 ((1 : Int) + x6)).toNat) x5.size) I S1
def name_Labels_b7 (g4 : name_Labels_t4) (R : RT) (x4 : OA) (x4n x4c : Nat) (x5 : ByteArray) (x6 : Int) (x34 : Bool) (I : IMem) (S : SH) : Prop :=
  bcase x34
    (R (.tuple #[.slice none 0 0, .bool false]) I S)
    (name_Labels_b8 g4 R x4 x4n x4c x5 x6 I S)
def name_Labels_b6 (g4 : name_Labels_t4) (R : RT) (x4 : OA) (x4n x4c : Nat) (x5 : ByteArray) (x6 : Int) (I : IMem) (S : SH) : Prop :=
  bcase (decide (x6 < (1 : Int)))
    (name_Labels_b7 g4 R x4 x4n x4c x5 x6 true I S)
    (bcase (decide (x6 > (63 : Int)))
      (name_Labels_b7 g4 R x4 x4n x4c x5 x6 true I S)
      (name_Labels_b7 g4 R x4 x4n x4c x5 x6 (decide (x6 ≥ (x5.size : Int))) I S))
def name_Labels_b5 (g4 : name_Labels_t4) (R : RT) (x4 : OA) (x4n x4c : Nat) (x5 : ByteArray) (I : IMem) (S : SH) : Prop :=
  ∃ u0 : UInt8, (0 : Int) ≤ (0 : Int) ∧ x5[(0 : Int).toNat]? = some u0 ∧
  name_Labels_b6 g4 R x4 x4n x4c x5 (IntKind.wrap .i64 (u0.toNat : Int)) I S
def name_Labels_b9 (R : RT) (x4 : OA) (x4n x4c : Nat) (I : IMem) (S : SH) : Prop :=
  R (.tuple #[.slice x4 x4n x4c, .bool true]) I S
def name_Labels_l4 (g4 : name_Labels_t4) (R : RT) (x4 : OA) (x4n x4c : Nat) (x5 : ByteArray) (I : IMem) (S : SH) : Prop :=
  bcase (decide ((x5.size : Int) > (0 : Int)))
    (name_Labels_b5 g4 R x4 x4n x4c x5 I S)
    (name_Labels_b9 R x4 x4n x4c I S)
def name_Labels_b3 (R : RT) (x4 : OA) (x4n x4c : Nat) (x5 : ByteArray) (I : IMem) (S : SH) : Prop :=
  ∃ (Inv : Nat → name_Labels_t4) (m : Nat), Inv m x4 x4n x4c x5 I S ∧
    ∀ (m : Nat) (x4 : OA) (x4n x4c : Nat) (x5 : ByteArray) (J : IMem) (T : SH), I.le J → Inv m x4 x4n x4c x5 J T →
      name_Labels_l4 (fun x4 x4n x4c x5 I S => ∃ m', m' < m ∧ Inv m' x4 x4n x4c x5 I S) R x4 x4n x4c x5 J T
def name_Labels_b2 (R : RT) (x4 : OA) (x4n x4c : Nat) (x5 : ByteArray) (x16 : Bool) (I : IMem) (S : SH) : Prop :=
  bcase x16
    (R (.tuple #[.slice none 0 0, .bool false]) I S)
    (name_Labels_b3 R x4 x4n x4c x5 I S)
def name_Labels_b1 (R : RT) (x4 : OA) (x4n x4c : Nat) (x5 : ByteArray) (I : IMem) (S : SH) : Prop :=
  bcase (decide ((x5.size : Int) > (254 : Int)))
    (name_Labels_b2 R x4 x4n x4c x5 true I S)
    (Runs Tryz.prog 40 #[.string x5] I S fun v I1 S1 => ∃ u0, v = .string u0 ∧
    name_Labels_b2 R x4 x4n x4c x5 (!(x5.toList == u0.toList)) I1 S1)
def name_Labels (R : RT) (u0 : ByteArray) (I : IMem) (S : SH) : Prop :=
  name_Labels_b1 R none 0 0 u0 I S
theorem name_Labels_fn (R : RT) (u0 : ByteArray) (I : IMem) (S : SH) (h : name_Labels R u0 I S) : Runs Tryz.prog 42 #[.string u0] I S R := by
  refine Runs.of_wp (c := cd Tryz.f42) Tryz.func42 (by kernel_rfl) (by kernel_rfl) ?_
  refine cO 3 [kL 4, kS 5] (name_Labels_b1 R) h fun _ _ _ _ _ _ _ _ h => ?_
  refine sO [kL 4, kS 5] (name_Labels_b3 R) ?_ fun _ _ _ _ _ _ _ _ h => ?_
  · refine cO 1 [kL 4, kS 5, kB 16] (name_Labels_b2 R) h fun _ _ _ _ _ _ _ _ _ h => ?_
    exact pS h
  refine sO [kL 4] (name_Labels_b9 R) ?_ fun _ _ _ _ _ _ _ h => ?_
  · refine bK ?_
    obtain ⟨Vg4, mg4, h, hr⟩ := h
    refine lO [kL 4, kS 5] Vg4 mg4 h fun mg4 _ I S hle x4 x4n x4c x5 h => ?_
    have h := hr mg4 x4 x4n x4c x5 I S hle h
    refine cO 1 [kL 4, kS 5] (name_Labels_b5 (fun x4 x4n x4c x5 I S => ∃ m', m' < mg4 ∧ Vg4 m' x4 x4n x4c x5 I S) R) h fun _ _ _ _ _ _ _ _ h => ?_
    refine bK ?_
    refine cO 1 [kL 4, kS 5, kI .i64 6] (name_Labels_b6 (fun x4 x4n x4c x5 I S => ∃ m', m' < mg4 ∧ Vg4 m' x4 x4n x4c x5 I S) R) h fun _ _ _ _ _ _ _ _ _ h => ?_
    refine sO [kL 4, kS 5, kI .i64 6] (name_Labels_b8 (fun x4 x4n x4c x5 I S => ∃ m', m' < mg4 ∧ Vg4 m' x4 x4n x4c x5 I S) R) ?_ fun _ _ _ _ _ _ _ _ _ h => ?_
    · refine cO 1 [kL 4, kS 5, kI .i64 6, kB 34] (name_Labels_b7 (fun x4 x4n x4c x5 I S => ∃ m', m' < mg4 ∧ Vg4 m' x4 x4n x4c x5 I S) R) h fun _ _ _ _ _ _ _ _ _ _ h => ?_
      exact pS h
    exact pS h
  exact pS h
abbrev name_Make_t3 := Addr → OA → Nat → Nat → Int → Int → PR
def name_Make_b8 (g3 : name_Make_t3) (R : RT) (x4 : Addr) (x7 : OA) (x7n x7c : Nat) (x8 x9 : Int) (I : IMem) (S : SH) : Prop :=
  g3 x4 x7 x7n x7c x8 (IntKind.wrap .i64 (x9 + (1 : Int))) I S
def name_Make_b7 (g3 : name_Make_t3) (R : RT) (x4 : Addr) (x6 : ByteArray) (x7 : OA) (x7n x7c : Nat) (x8 x9 : Int) (I : IMem) (S : SH) : Prop :=
  Runs Tryz.prog 38 #[.pointer (some x4), .int .u8 (IntKind.wrap .u8 (x6.size : Int))] I S fun v I1 S1 => ∃ u0, v = u0 ∧
  Runs Tryz.prog 40 #[.string x6] I1 S1 fun v' I1' S1' => ∃ u1, v' = .string u1 ∧
  Runs Tryz.prog 39 #[.pointer (some x4), .string u1] I1' S1' fun v'' I1'' S1'' => ∃ u2 u3, v'' = .tuple #[.int .i64 u2, u3] ∧
  name_Make_b8 g3 R x4 x7 x7n x7c x8 x9 I1'' S1''
def name_Make_b6 (g3 : name_Make_t3) (R : RT) (x4 : Addr) (x6 : ByteArray) (x7 : OA) (x7n x7c : Nat) (x8 x9 : Int) (x28 : Bool) (I : IMem) (S : SH) : Prop :=
  bcase x28
    (R (.tuple #[.string ⟨#[]⟩, .bool false]) I S)
    (name_Make_b7 g3 R x4 x6 x7 x7n x7c x8 x9 I S)
def name_Make_b5 (g3 : name_Make_t3) (R : RT) (x4 : Addr) (x6 : ByteArray) (x7 : OA) (x7n x7c : Nat) (x8 x9 : Int) (I : IMem) (S : SH) : Prop :=
  bcase (decide ((x6.size : Int) < (1 : Int)))
    (name_Make_b6 g3 R x4 x6 x7 x7n x7c x8 x9 true I S)
    (bcase (decide ((x6.size : Int) > (63 : Int)))
      (name_Make_b6 g3 R x4 x6 x7 x7n x7c x8 x9 true I S)
      (Runs Tryz.prog 37 #[.pointer (some x4)] I S fun v I1 S1 => ∃ u0, v = .int .i64 u0 ∧
      name_Make_b6 g3 R x4 x6 x7 x7n x7c x8 x9 (decide ((IntKind.wrap .i64 ((IntKind.wrap .i64 (u0 + (1 : Int))) + (x6.size : Int))) > (254 : Int))) I1 S1))
def name_Make_b4 (g3 : name_Make_t3) (R : RT) (x4 : Addr) (x7 : OA) (x7n x7c : Nat) (x8 x9 : Int) (I : IMem) (S : SH) : Prop :=
  ptrP x7 fun u0 => (0 : Int) ≤ x9 ∧ x9 < (x7n : Int) ∧
  ∃ u1, Cell I S (u0.add (x9.toNat * 1)) (.string u1) ∧
  name_Make_b5 g3 R x4 u1 x7 x7n x7c x8 x9 I S
def name_Make_b9 (R : RT) (x4 : Addr) (I : IMem) (S : SH) : Prop :=
  Runs Tryz.prog 41 #[.pointer (some x4)] I S fun v I1 S1 => ∃ u0, v = .string u0 ∧
  R (.tuple #[.string u0, .bool true]) I1 S1
def name_Make_l3 (g3 : name_Make_t3) (R : RT) (x4 : Addr) (x7 : OA) (x7n x7c : Nat) (x8 x9 : Int) (I : IMem) (S : SH) : Prop :=
  bcase (decide (x9 < x8))
    (name_Make_b4 g3 R x4 x7 x7n x7c x8 x9 I S)
    (name_Make_b9 R x4 I S)
def name_Make_b2 (R : RT) (x4 : Addr) (x7 : OA) (x7n x7c : Nat) (x8 x9 : Int) (I : IMem) (S : SH) : Prop :=
  ∃ (Inv : Nat → name_Make_t3) (m : Nat), Inv m x4 x7 x7n x7c x8 x9 I S ∧
    ∀ (m : Nat) (x4 : Addr) (x7 : OA) (x7n x7c : Nat) (x8 x9 : Int) (J : IMem) (T : SH), I.le J → Inv m x4 x7 x7n x7c x8 x9 J T →
      name_Make_l3 (fun x4 x7 x7n x7c x8 x9 I S => ∃ m', m' < m ∧ Inv m' x4 x7 x7n x7c x8 x9 I S) R x4 x7 x7n x7c x8 x9 J T
def name_Make_b1 (R : RT) (x0 : OA) (x0n x0c : Nat) (x4 : Addr) (I : IMem) (S : SH) : Prop :=
  name_Make_b2 R x4 x0 x0n x0c (x0n : Int) 0 I S
def name_Make (R : RT) (u0 : OA) (u0n u0c : Nat) (I : IMem) (S : SH) : Prop :=
  ∀ b4 : Nat,
  name_Make_b1 R u0 u0n u0c ⟨b4, 0, none⟩ I ((b4, .cells #[.pointer none, .slice none 0 0] 83 (0, 0)) :: S)
theorem name_Make_fn (R : RT) (u0 : OA) (u0n u0c : Nat) (I : IMem) (S : SH) (h : name_Make R u0 u0n u0c I S) : Runs Tryz.prog 17 #[.slice u0 u0n u0c] I S R := by
  refine Runs.of_wp (c := cd Tryz.f17) Tryz.func17 (by kernel_rfl) (by kernel_rfl) ?_
  refine cO 2 [kL 0, kA 4] (name_Make_b1 R) h fun _ _ _ _ _ _ _ _ h => ?_
  refine sO [kA 4] (name_Make_b9 R) ?_ fun _ _ _ _ _ h => ?_
  · refine cO 1 [kA 4, kL 7, kI .i64 8, kI .i64 9] (name_Make_b2 R) h fun _ _ _ _ _ _ _ _ _ _ h => ?_
    refine bK ?_
    obtain ⟨Vg3, mg3, h, hr⟩ := h
    refine lO [kA 4, kL 7, kI .i64 8, kI .i64 9] Vg3 mg3 h fun mg3 _ I S hle x4 x7 x7n x7c x8 x9 h => ?_
    have h := hr mg3 x4 x7 x7n x7c x8 x9 I S hle h
    refine cO 2 [kA 4, kL 7, kI .i64 8, kI .i64 9] (name_Make_b4 (fun x4 x7 x7n x7c x8 x9 I S => ∃ m', m' < mg3 ∧ Vg3 m' x4 x7 x7n x7c x8 x9 I S) R) h fun _ _ _ _ _ _ _ _ _ _ h => ?_
    refine sO [kA 4, kL 7, kI .i64 8, kI .i64 9] (name_Make_b8 (fun x4 x7 x7n x7c x8 x9 I S => ∃ m', m' < mg3 ∧ Vg3 m' x4 x7 x7n x7c x8 x9 I S) R) ?_ fun _ _ _ _ _ _ _ _ _ _ h => ?_
    · refine bK ?_
      refine cO 1 [kA 4, kS 6, kL 7, kI .i64 8, kI .i64 9] (name_Make_b5 (fun x4 x7 x7n x7c x8 x9 I S => ∃ m', m' < mg3 ∧ Vg3 m' x4 x7 x7n x7c x8 x9 I S) R) h fun _ _ _ _ _ _ _ _ _ _ _ h => ?_
      refine sO [kA 4, kS 6, kL 7, kI .i64 8, kI .i64 9] (name_Make_b7 (fun x4 x7 x7n x7c x8 x9 I S => ∃ m', m' < mg3 ∧ Vg3 m' x4 x7 x7n x7c x8 x9 I S) R) ?_ fun _ _ _ _ _ _ _ _ _ _ _ h => ?_
      · refine cO 1 [kA 4, kS 6, kL 7, kI .i64 8, kI .i64 9, kB 28] (name_Make_b6 (fun x4 x7 x7n x7c x8 x9 I S => ∃ m', m' < mg3 ∧ Vg3 m' x4 x7 x7n x7c x8 x9 I S) R) h fun _ _ _ _ _ _ _ _ _ _ _ _ h => ?_
        exact pS h
      exact pS h
    exact pS h
  exact pS h
def name_May (R : RT) (u0 : ByteArray) (I : IMem) (S : SH) : Prop :=
  Runs Tryz.prog 42 #[.string u0] I S fun v I1 S1 => ∃ u1 u1n u1c u2, v = .tuple #[.slice u1 u1n u1c, .bool u2] ∧
  R (.bool u2) I1 S1
theorem name_May_fn (R : RT) (u0 : ByteArray) (I : IMem) (S : SH) (h : name_May R u0 I S) : Runs Tryz.prog 55 #[.string u0] I S R := by
  refine Runs.of_wp (c := cd Tryz.f55) Tryz.func55 (by kernel_rfl) (by kernel_rfl) ?_
  exact pS h
abbrev name_folded_t3 := OA → Nat → Nat → OA → Nat → Nat → Int → Int → PR
def name_folded_b4 (R : RT) (x3 : OA) (x3n x3c : Nat) (I : IMem) (S : SH) : Prop :=
  ∃ u0 : ByteArray, BytesAt I S x3 x3n u0 ∧
  R (.string u0) I S
def name_folded_l3 (g3 : name_folded_t3) (R : RT) (x3 : OA) (x3n x3c : Nat) (x8 : OA) (x8n x8c : Nat) (x9 x10 : Int) (I : IMem) (S : SH) : Prop :=
  bcase (decide (x10 < x9))
    (ptrP x8 fun u0 => (0 : Int) ≤ x10 ∧ x10 < (x8n : Int) ∧
    ∃ u1, Cell I S (u0.add (x10.toNat * 1)) (.int .u8 u1) ∧
    Runs Tryz.prog 57 #[.int .u8 u1] I S fun v I1 S1 => ∃ u2, v = .int .u8 u2 ∧
    ptrP x3 fun u3 => (0 : Int) ≤ x10 ∧ x10 < (x3n : Int) ∧
    StP S1 (u3.add (x10.toNat * 1)) [.int .u8 u2] fun S1' =>
    g3 x3 x3n x3c x8 x8n x8c x9 (IntKind.wrap .i64 (x10 + (1 : Int))) I1 S1')
    (name_folded_b4 R x3 x3n x3c I S)
def name_folded_b2 (R : RT) (x3 : OA) (x3n x3c : Nat) (x8 : OA) (x8n x8c : Nat) (x9 x10 : Int) (I : IMem) (S : SH) : Prop :=
  ∃ (Inv : Nat → name_folded_t3) (m : Nat), Inv m x3 x3n x3c x8 x8n x8c x9 x10 I S ∧
    ∀ (m : Nat) (x3 : OA) (x3n x3c : Nat) (x8 : OA) (x8n x8c : Nat) (x9 x10 : Int) (J : IMem) (T : SH), I.le J → Inv m x3 x3n x3c x8 x8n x8c x9 x10 J T →
      name_folded_l3 (fun x3 x3n x3c x8 x8n x8c x9 x10 I S => ∃ m', m' < m ∧ Inv m' x3 x3n x3c x8 x8n x8c x9 x10 I S) R x3 x3n x3c x8 x8n x8c x9 x10 J T
def name_folded_b1 (R : RT) (x3 : OA) (x3n x3c : Nat) (I : IMem) (S : SH) : Prop :=
  name_folded_b2 R x3 x3n x3c x3 x3n x3c (x3n : Int) 0 I S
def name_folded (R : RT) (u0 : ByteArray) (I : IMem) (S : SH) : Prop :=
  u0.size ≤ maxLen ∧ ∀ b7 c7 : Nat, u0.size ≤ c7 → c7 ≤ maxLen →
  name_folded_b1 R (some ⟨b7, 0, none⟩) u0.size c7 I ((b7, .cells (byteCells u0 ++ repV (c7 - u0.size) [.int .u8 0]).toArray 5 (c7, c7 + 1)) :: S)
theorem name_folded_fn (R : RT) (u0 : ByteArray) (I : IMem) (S : SH) (h : name_folded R u0 I S) : Runs Tryz.prog 40 #[.string u0] I S R := by
  refine Runs.of_wp (c := cd Tryz.f40) Tryz.func40 (by kernel_rfl) (by kernel_rfl) ?_
  refine cO 2 [kL 3] (name_folded_b1 R) h fun _ _ _ _ _ _ _ h => ?_
  refine sO [kL 3] (name_folded_b4 R) ?_ fun _ _ _ _ _ _ _ h => ?_
  · refine cO 1 [kL 3, kL 8, kI .i64 9, kI .i64 10] (name_folded_b2 R) h fun _ _ _ _ _ _ _ _ _ _ _ _ h => ?_
    refine bK ?_
    obtain ⟨Vg3, mg3, h, hr⟩ := h
    refine lO [kL 3, kL 8, kI .i64 9, kI .i64 10] Vg3 mg3 h fun mg3 _ I S hle x3 x3n x3c x8 x8n x8c x9 x10 h => ?_
    have h := hr mg3 x3 x3n x3c x8 x8n x8c x9 x10 I S hle h
    exact pS h
  exact pS h
def strings_Builder_Len (R : RT) (u0 : OA) (I : IMem) (S : SH) : Prop :=
  ptrP u0 fun u1 =>
  ∃ u2 u2n u2c, Cell I S (u1.add 1) (.slice u2 u2n u2c) ∧
  R (.int .i64 (u2n : Int)) I S
theorem strings_Builder_Len_fn (R : RT) (u0 : OA) (I : IMem) (S : SH) (h : strings_Builder_Len R u0 I S) : Runs Tryz.prog 37 #[.pointer u0] I S R := by
  refine Runs.of_wp (c := cd Tryz.f37) Tryz.func37 (by kernel_rfl) (by kernel_rfl) ?_
  exact pS h
def strings_Builder_WriteByte (R : RT) (u0 : OA) (u1 : Int) (I : IMem) (S : SH) : Prop :=
  Runs Tryz.prog 56 #[.pointer u0] I S fun v I1 S1 => v = .tuple #[] ∧
  ptrP u0 fun u2 =>
  ∃ u3 u3n u3c, Cell I1 S1 (u2.add 1) (.slice u3 u3n u3c) ∧
  ∀ b13 : Nat,
  AppG 5 1 1 [.int .u8 0] (some (.slice 5)) I1 ((b13, .cells #[.int .u8 u1] 5 (0, 0)) :: S1) (.slice u3 u3n u3c) (.slice (some ⟨b13, 0, none⟩) 1 1) fun u4 u4n u4c S1' =>
  ptrP u0 fun u5 =>
  StP S1' (u5.add 1) [.slice u4 u4n u4c] fun S1'' =>
  R .nilIface I1 S1''
theorem strings_Builder_WriteByte_fn (R : RT) (u0 : OA) (u1 : Int) (I : IMem) (S : SH) (h : strings_Builder_WriteByte R u0 u1 I S) : Runs Tryz.prog 38 #[.pointer u0, .int .u8 u1] I S R := by
  refine Runs.of_wp (c := cd Tryz.f38) Tryz.func38 (by kernel_rfl) (by kernel_rfl) ?_
  exact pS h
def strings_Builder_WriteString (R : RT) (u0 : OA) (u1 : ByteArray) (I : IMem) (S : SH) : Prop :=
  Runs Tryz.prog 56 #[.pointer u0] I S fun v I1 S1 => v = .tuple #[] ∧
  ptrP u0 fun u2 =>
  ∃ u3 u3n u3c, Cell I1 S1 (u2.add 1) (.slice u3 u3n u3c) ∧
  AppG 5 1 1 [.int .u8 0] (some .string) I1 S1 (.slice u3 u3n u3c) (.string u1) fun u4 u4n u4c S1' =>
  ptrP u0 fun u5 =>
  StP S1' (u5.add 1) [.slice u4 u4n u4c] fun S1'' =>
  R (.tuple #[.int .i64 (u1.size : Int), .nilIface]) I1 S1''
theorem strings_Builder_WriteString_fn (R : RT) (u0 : OA) (u1 : ByteArray) (I : IMem) (S : SH) (h : strings_Builder_WriteString R u0 u1 I S) : Runs Tryz.prog 39 #[.pointer u0, .string u1] I S R := by
  refine Runs.of_wp (c := cd Tryz.f39) Tryz.func39 (by kernel_rfl) (by kernel_rfl) ?_
  exact pS h
def strings_Builder_String_b2 (R : RT) (x2 : ByteArray) (I : IMem) (S : SH) : Prop :=
  R (.string x2) I S
def strings_Builder_String_b1 (R : RT) (x0 : OA) (I : IMem) (S : SH) : Prop :=
  ptrP x0 fun u0 =>
  ∃ u1 u1n u1c, Cell I S (u0.add 1) (.slice u1 u1n u1c) ∧
  ((u1 : Option Addr).isSome = true → u1c ≠ 0) ∧
  ptrP x0 fun u2 =>
  ∃ u3 u3n u3c, Cell I S (u2.add 1) (.slice u3 u3n u3c) ∧
  UsP Tryz.prog 5 I S u1 (u3n : Int) fun u4 S1 =>
  strings_Builder_String_b2 R u4 I S1
def strings_Builder_String (R : RT) (u0 : OA) (I : IMem) (S : SH) : Prop :=
  strings_Builder_String_b1 R u0 I S
theorem strings_Builder_String_fn (R : RT) (u0 : OA) (I : IMem) (S : SH) (h : strings_Builder_String R u0 I S) : Runs Tryz.prog 41 #[.pointer u0] I S R := by
  refine Runs.of_wp (c := cd Tryz.f41) Tryz.func41 (by kernel_rfl) (by kernel_rfl) ?_
  refine cO 1 [kP 0] (strings_Builder_String_b1 R) h fun _ _ _ _ _ h => ?_
  refine sO [kS 2] (strings_Builder_String_b2 R) (dR (tk 10 0 (.step 10 (.take 11 .done))) [10] h) fun _ _ _ _ _ h => ?_
  exact pS h
def name_Fold_b3 (R : RT) (x0 : Int) (I : IMem) (S : SH) : Prop :=
  R (.int .u8 x0) I S
def name_Fold_b2 (R : RT) (x0 : Int) (x8 : Bool) (I : IMem) (S : SH) : Prop :=
  bcase x8
    (R (.int .u8 (IntKind.wrap .u8 ((IntKind.wrap .u8 (x0 + (97 : Int))) - (65 : Int)))) I S)
    (name_Fold_b3 R x0 I S)
def name_Fold_b1 (R : RT) (x0 : Int) (I : IMem) (S : SH) : Prop :=
  bcase (decide (x0 ≥ (65 : Int)))
    (name_Fold_b2 R x0 (decide (x0 ≤ (90 : Int))) I S)
    (name_Fold_b2 R x0 false I S)
def name_Fold (R : RT) (u0 : Int) (I : IMem) (S : SH) : Prop :=
  name_Fold_b1 R u0 I S
theorem name_Fold_fn (R : RT) (u0 : Int) (I : IMem) (S : SH) (h : name_Fold R u0 I S) : Runs Tryz.prog 57 #[.int .u8 u0] I S R := by
  refine Runs.of_wp (c := cd Tryz.f57) Tryz.func57 (by kernel_rfl) (by kernel_rfl) ?_
  refine cO 1 [kI .u8 0] (name_Fold_b1 R) h fun _ _ _ _ _ h => ?_
  refine sO [kI .u8 0] (name_Fold_b3 R) ?_ fun _ _ _ _ _ h => ?_
  · refine cO 1 [kI .u8 0, kB 8] (name_Fold_b2 R) h fun _ _ _ _ _ _ h => ?_
    exact pS h
  exact pS h
def strings_Builder_copyCheck (R : RT) (u0 : Addr) (I : IMem) (S : SH) : Prop :=
  ∃ u1, Cell I S u0 (.pointer u1) ∧
  bcase ((u1 : Option Addr).isNone)
    (∃ u2 u3, BlkAt I S u0.block u2 u3 ∧ u0.off < u2.size ∧
    RunsX Tryz.prog 64 #[.pointer (some u0)] I S fun v I1 S1 => ∃ u4, v = .pointer u4 ∧
    ptrP u4 fun u5 => ∃ u6 u7, BlkAt I1 S1 u5.block u6 u7 ∧ liesAt Tryz.prog (Program.depth Tryz.prog) u7 (u6.size / Program.cellsOf Tryz.prog u7) u5.off 83 1 = true ∧
    StP S1 u0 [.pointer (some u5)] fun S1' =>
    R (.tuple #[]) I1 S1')
    (∃ u8, Cell I S u0 (.pointer u8) ∧
    (u8 : Option Addr) = some u0 ∧
    R (.tuple #[]) I S)
theorem strings_Builder_copyCheck_fn (R : RT) (u0 : Addr) (I : IMem) (S : SH) (h : strings_Builder_copyCheck R u0 I S) : Runs Tryz.prog 56 #[.pointer (some u0)] I S R := by
  refine Runs.of_wp (c := cd Tryz.f56) Tryz.func56 (by kernel_rfl) (by kernel_rfl) ?_
  exact pS h
abbrev name_Below_t3 := ByteArray → ByteArray → Bool → PR
def name_Below_b4 (R : RT) (I : IMem) (S : SH) : Prop :=
  R (.bool false) I S
def name_Below_l3 (g3 : name_Below_t3) (R : RT) (x0 x1 : ByteArray) (x5 : Bool) (I : IMem) (S : SH) : Prop :=
  bcase x5
    (bcase (x0.toList == x1.toList)
      (R (.bool true) I S)
      (Runs Tryz.prog 31 #[.string x0] I S fun v I1 S1 => ∃ u0 u1, v = .tuple #[.string u0, .bool u1] ∧
      g3 u0 x1 u1 I1 S1))
    (name_Below_b4 R I S)
def name_Below_b2 (R : RT) (x0 x1 : ByteArray) (x5 : Bool) (I : IMem) (S : SH) : Prop :=
  ∃ (Inv : Nat → name_Below_t3) (m : Nat), Inv m x0 x1 x5 I S ∧
    ∀ (m : Nat) (x0 x1 : ByteArray) (x5 : Bool) (J : IMem) (T : SH), I.le J → Inv m x0 x1 x5 J T →
      name_Below_l3 (fun x0 x1 x5 I S => ∃ m', m' < m ∧ Inv m' x0 x1 x5 I S) R x0 x1 x5 J T
def name_Below_b1 (R : RT) (x0 x1 : ByteArray) (I : IMem) (S : SH) : Prop :=
  Runs Tryz.prog 55 #[.string x0] I S fun v I1 S1 => ∃ u0, v = .bool u0 ∧
  bcase u0
    (Runs Tryz.prog 55 #[.string x1] I1 S1 fun v' I1' S1' => ∃ u1, v' = .bool u1 ∧
    name_Below_b2 R x0 x1 u1 I1' S1')
    (name_Below_b2 R x0 x1 false I1 S1)
def name_Below (R : RT) (u0 u1 : ByteArray) (I : IMem) (S : SH) : Prop :=
  name_Below_b1 R u0 u1 I S
theorem name_Below_fn (R : RT) (u0 u1 : ByteArray) (I : IMem) (S : SH) (h : name_Below R u0 u1 I S) : Runs Tryz.prog 33 #[.string u0, .string u1] I S R := by
  refine Runs.of_wp (c := cd Tryz.f33) Tryz.func33 (by kernel_rfl) (by kernel_rfl) ?_
  refine cO 1 [kS 0, kS 1] (name_Below_b1 R) h fun _ _ _ _ _ _ h => ?_
  refine sO [] (name_Below_b4 R) ?_ fun _ _ _ _ h => ?_
  · refine cO 1 [kS 0, kS 1, kB 5] (name_Below_b2 R) h fun _ _ _ _ _ _ _ h => ?_
    refine bK ?_
    obtain ⟨Vg3, mg3, h, hr⟩ := h
    refine lO [kS 0, kS 1, kB 5] Vg3 mg3 h fun mg3 _ I S hle x0 x1 x5 h => ?_
    have h := hr mg3 x0 x1 x5 I S hle h
    exact pS h
  exact pS h
def name_Parent_b3 (R : RT) (x0 : ByteArray) (I : IMem) (S : SH) : Prop :=
  ∃ u0 : UInt8, (0 : Int) ≤ (0 : Int) ∧ x0[(0 : Int).toNat]? = some u0 ∧
  (0 : Int) ≤ (IntKind.wrap .i64 ((1 : Int) + (IntKind.wrap .i64 (u0.toNat : Int)))) ∧ (IntKind.wrap .i64 ((1 : Int) + (IntKind.wrap .i64 (u0.toNat : Int)))) ≤ ((x0.size : Nat) : Int) ∧
  R (.tuple #[.string (x0.extract ((IntKind.wrap .i64 ((1 : Int) + (IntKind.wrap .i64 (u0.toNat : Int)))).toNat) x0.size), .bool true]) I S
def name_Parent_b2 (R : RT) (x0 : ByteArray) (x11 : Bool) (I : IMem) (S : SH) : Prop :=
  bcase x11
    (R (.tuple #[.string ⟨#[]⟩, .bool false]) I S)
    (name_Parent_b3 R x0 I S)
def name_Parent_b1 (R : RT) (x0 : ByteArray) (I : IMem) (S : SH) : Prop :=
  bcase ((x0.size : Int) == (0 : Int))
    (name_Parent_b2 R x0 true I S)
    (Runs Tryz.prog 55 #[.string x0] I S fun v I1 S1 => ∃ u0, v = .bool u0 ∧
    name_Parent_b2 R x0 (!u0) I1 S1)
def name_Parent (R : RT) (u0 : ByteArray) (I : IMem) (S : SH) : Prop :=
  name_Parent_b1 R u0 I S
theorem name_Parent_fn (R : RT) (u0 : ByteArray) (I : IMem) (S : SH) (h : name_Parent R u0 I S) : Runs Tryz.prog 31 #[.string u0] I S R := by
  refine Runs.of_wp (c := cd Tryz.f31) Tryz.func31 (by kernel_rfl) (by kernel_rfl) ?_
  refine cO 1 [kS 0] (name_Parent_b1 R) h fun _ _ _ _ _ h => ?_
  refine sO [kS 0] (name_Parent_b3 R) ?_ fun _ _ _ _ _ h => ?_
  · refine cO 1 [kS 0, kB 11] (name_Parent_b2 R) h fun _ _ _ _ _ _ h => ?_
    exact pS h
  exact pS h
end Go.Proofs.YtcdajekafnggkaaGreatDoor
set_option linter.unusedVariables false
set_option maxRecDepth 8000
set_option maxHeartbeats 2000000
namespace Go.Proofs.YtcdajekafnggkaaGreatDoor
open Go.Px
end Go.Proofs.YtcdajekafnggkaaGreatDoor
