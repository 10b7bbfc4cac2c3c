/- Regions whose order is open, with operations that change the heap: the quiet ones may be taken first. -/
import Derived.Test.YtdajglfbbcbgpaaDoorPx5
namespace Go.Px
set_option linter.unusedVariables false
set_option linter.unusedSimpArgs false

def Keep (I0 : IMem) (S0 : SH) (J : IMem) (T : SH) : Prop := I0.le J ∧ ∃ T', T.Perm (T' ++ S0)
theorem Keep.refl (I : IMem) (S : SH) : Keep I S I S := ⟨IMem.le.refl I, [], List.Perm.refl _⟩
theorem Keep.cons {I0 J : IMem} {S0 T : SH} (h : Keep I0 S0 J T) (p : Nat × Obj) : Keep I0 S0 J (p :: T) := ⟨h.1, p :: h.2.choose, by simpa using h.2.choose_spec⟩
theorem Keep.of {I0 J : IMem} {S0 : SH} (h : I0.le J) (T' : SH) : Keep I0 S0 J (T' ++ S0) := ⟨h, T', List.Perm.refl _⟩

def classB (P : Program) (o : Oper) : Bool := match o.op with
  | .load .. => true
  | .call { callee := .value _, .. } => true
  | op => rdB P op
/-- is 'i' ahead of 'j', by edges? -/
def ancB (ops : Array Oper) : Nat → Nat → Nat → Bool
  | 0, _, _ => false
  | f + 1, j, i => match ops[j]? with
    | some o => o.after.toList.any fun e => Region.binds .any e && (Nat.beq e.on i || ancB ops f e.on i)
    | none => false
/-- all that reads is ahead of 'j' -/
def lateB (P : Program) (ops : Array Oper) (eff : List Nat) (j : Nat) : Bool := (List.range ops.size).all fun i => match ops[i]? with
  | some o => !classB P o || eff.contains i || ancB ops ops.size j i
  | none => true

section
variable {P : Program} {n : Nat} {ops : Array Oper} {eff : List Nat} {I0 : IMem} {S0 : SH} {Q : Exit → Act → World → Prop}

/-- one value, and a world that is as good -/
def YK (P : Program) (ops : Array Oper) (o : Oper) (v : Value) (a : Act) (J : IMem) (T : SH) : Prop :=
  (Region.wanted o (yielded ops a.tmps) = true ∧ ∀ w, Sat J T w → o.quietAt P a (Sat J T) w v) ∨ (Region.wanted o (yielded ops a.tmps) = false ∧ v = undef)
def QC (P : Program) (ops : Array Oper) (I0 : IMem) (S0 : SH) (o : Oper) (v : Value) (a : Act) : Prop :=
  (Region.wanted o (yielded ops a.tmps) = true ∧ ∀ J T, (classB P o = true → Keep I0 S0 J T) → ∀ w, Sat J T w → o.quietAt P a (Sat J T) w v) ∨ (Region.wanted o (yielded ops a.tmps) = false ∧ v = undef)
def AnyK (P : Program) (ops : Array Oper) (eff : List Nat) (I0 : IMem) (S0 : SH) (Q : Exit → Act → World → Prop) : Nat → Array Bool → Act → IMem → SH → Prop
  | 0, listed, a, J, T => Region.ready .any ops listed = [] ∧ ∀ w, Sat J T w → Q .normal a w
  | k + 1, listed, a, J, T => (Region.ready .any ops listed = [] → ∀ w, Sat J T w → Q .normal a w) ∧ ∀ j ∈ Region.ready .any ops listed, ∀ o, ops[j]? = some o →
    (eff.contains j = true → ∀ w, Sat J T w → wpOp P ops Q j (fun a' w' => ∃ J' T', Sat J' T' w' ∧ (lateB P ops eff j = true ∨ Keep I0 S0 J' T') ∧ AnyK P ops eff I0 S0 Q k (listed.setIfInBounds j true) a' J' T') a w) ∧
    (eff.contains j = false → ∃ v, YK P ops o v a J T ∧ AnyK P ops eff I0 S0 Q k (listed.setIfInBounds j true) (a.put o.dst v) J T)

theorem wpOp_of_YK {o : Oper} {j : Nat} (hj : ops[j]? = some o) {v : Value} {a : Act} {J : IMem} {T : SH} {w : World} (hw : Sat J T w) (h : YK P ops o v a J T) {K : Act → World → Prop} (hK : ∀ w', Sat J T w' → K (a.put o.dst v) w') :
    wpOp P ops Q j K a w := by
  unfold wpOp
  simp only [hj]
  rcases h with ⟨hwn, hv⟩ | ⟨hwn, rfl⟩
  · simp only [hwn, if_true]
    refine .inl ?_
    exact Oper.wp_of_quiet (C := Sat J T) (K := fun a' => a' = a.put o.dst v) hw (fun a' w' hw' e => by subst e; exact hK w' hw') ⟨v, hv, rfl⟩
  · simp only [hwn, Bool.false_eq_true, if_false]
    exact hK w hw

theorem AnyK.wp : ∀ (k : Nat) (listed : Array Bool) (a : Act) (J : IMem) (T : SH) (w : World), Sat J T w → AnyK P ops eff I0 S0 Q k listed a J T → wpAny P .any ops Q k listed a w
  | 0, listed, a, J, T, w, hw, h => ⟨h.1, h.2 w hw⟩
  | k + 1, listed, a, J, T, w, hw, h => by
    refine ⟨fun h0 => h.1 h0 w hw, fun j hj => ?_⟩
    obtain ⟨_, o, ho, _⟩ := mem_ready.1 hj
    obtain ⟨h1, h2⟩ := h.2 j hj o ho
    cases he : eff.contains j with
    | true => exact wpOp_mono (fun a' w' ⟨J', T', hs, _, hA⟩ => AnyK.wp k _ a' J' T' w' hs hA) (h1 he w hw)
    | false =>
      obtain ⟨v, hy, hA⟩ := h2 he
      exact wpOp_of_YK ho hw hy fun w' hw' => AnyK.wp k _ _ J T w' hw' hA

/-- a put of a slot that an operation neither reads nor writes -/
theorem wpOp_put_any {j : Nat} {oi oj : Oper} {v : Value} (hj : ops[j]? = some oj) (hap : oi.apart ops oj = true) (hsj : ∀ cs b, oj.op ≠ .select cs b)
    (hQ : ∀ c a w, Q (.panic c) (a.put oi.dst v) w → Q (.panic c) a w) {K : Act → World → Prop} {a : Act} {w : World} (R : Act → Prop) (hR : R a) (keep : ∀ a u, R a → R (a.put oj.dst u))
    (keepD : ∀ a d, R a → R { a with defers := d :: a.defers }) (h : wpOp P ops Q j K (a.put oi.dst v) w) : wpOp P ops Q j (fun a' w' => R a' ∧ K (a'.put oi.dst v) w') a w := by
  obtain ⟨h1, h2, h3⟩ := Oper.apart_spec hap
  unfold wpOp at *
  simp only [hj] at *
  rw [wanted_put oj a oi.dst v h1] at h
  split
  · rename_i hw
    simp only [hw, if_true] at h
    rcases h with h | ⟨hasks, hlets⟩
    case inr => exact .inr ⟨by unfold Oper.asks at *; rw [execOp_put oj hsj a oi.dst v h1] at hasks; exact hasks, hlets⟩
    refine .inl ?_
    unfold Oper.wp at *
    rw [execOp_put oj hsj a oi.dst v h1] at h
    generalize (execOp a.eval oj).run P w = r at *
    cases r with
    | ok nx w' =>
      cases nx <;> simp only [Oper.upon] at h ⊢
      case value u => exact ⟨keep a u hR, by rw [← Act.put_comm a v u h2]; exact h⟩
      case skip => exact ⟨keep a _ hR, by rw [← Act.put_comm a v undef h2]; exact h⟩
      case defer d =>
        refine ⟨keep _ _ (keepD _ d hR), ?_⟩
        rw [← Act.put_comm _ v undef h2, ← Act.put_defers]
        exact h
      case enter f args =>
        refine Calls.mono h fun e w'' he => ?_
        cases e with
        | returned u => exact ⟨keep a u hR, by rw [← Act.put_comm a v u h2]; exact he⟩
        | panicked c => exact hQ _ _ _ he
        | outgrown => exact he
      case row row args => exact Rows.mono h fun u w'' he => ⟨keep a u hR, by rw [← Act.put_comm a v u h2]; exact he⟩
    | halt x w' =>
      cases x <;> simp only [Oper.upon] at h ⊢
      case panic u => exact hQ _ _ _ h
  · rename_i hw
    simp only [hw] at h
    exact ⟨keep a _ hR, by rw [← Act.put_comm a v undef h2]; exact h⟩

def Closed (ops : Array Oper) (listed : Array Bool) : Prop := ∀ j o, ops[j]? = some o → listed.getD j false = true → ∀ e ∈ o.after, Region.binds .any e = true → listed.getD e.on false = true
theorem Closed.set {listed : Array Bool} (h : Closed ops listed) {i : Nat} (hi : i ∈ Region.ready .any ops listed) : Closed ops (listed.setIfInBounds i true) := by
  intro j o ho hl e he hb
  obtain ⟨_, oi, hoi, hall⟩ := mem_ready.1 hi
  by_cases hij : i = j
  · subst hij
    rw [ho] at hoi; injection hoi with hoi; subst hoi
    exact getD_set_true (hall e he hb)
  · rw [getD_set_ne false hij] at hl
    exact getD_set_true (h j o ho hl e he hb)
theorem anc_listed {listed : Array Bool} (h : Closed ops listed) {i : Nat} : ∀ (f j : Nat) (o : Oper), ops[j]? = some o → (∀ e ∈ o.after, Region.binds .any e = true → listed.getD e.on false = true) → ancB ops f j i = true → listed.getD i false = true
  | 0, _, _, _, _, hn => by simp [ancB] at hn
  | f + 1, j, o, ho, hall, hn => by
    simp only [ancB, ho, List.any_eq_true, Bool.and_eq_true, Bool.or_eq_true] at hn
    obtain ⟨e, he, hb, hn⟩ := hn
    have hl := hall e (by simpa using he) hb
    rcases hn with hn | hn
    · have := Nat.eq_of_beq_eq_true hn; rw [← this]; exact hl
    · cases ho' : ops[e.on]? with
      | none => cases f <;> simp [ancB, ho'] at hn
      | some o' => exact anc_listed h f e.on o' ho' (fun e' he' hb' => h e.on o' ho' hl e' he' hb') hn

theorem AnyK.take {i : Nat} {oi : Oper} {v : Value} (hi : ops[i]? = some oi) (hsel : ∀ (j : Nat) (o : Oper) cs b, ops[j]? = some o → o.op ≠ .select cs b) (hne : eff.contains i = false)
    (hQ : ∀ c a w, Q (.panic c) (a.put oi.dst v) w → Q (.panic c) a w) :
    ∀ (k : Nat) (listed : Array Bool) (a : Act) (J : IMem) (T : SH), Closed ops listed →
      (∀ j oj, ops[j]? = some oj → j ≠ i → listed.getD j true = false → (∀ e ∈ oj.after, Region.binds .any e = true → e.on ≠ i) → oi.apart ops oj = true) →
      i ∈ Region.ready .any ops listed → QC P ops I0 S0 oi v a → (classB P oi = true → Keep I0 S0 J T) →
      AnyK P ops eff I0 S0 Q k (listed.setIfInBounds i true) (a.put oi.dst v) J T → AnyK P ops eff I0 S0 Q (k + 1) listed a J T := by
  intro k
  have yk : ∀ {a J T}, QC P ops I0 S0 oi v a → (classB P oi = true → Keep I0 S0 J T) → YK P ops oi v a J T := fun hq hk => by
    rcases hq with ⟨h1, h2⟩ | h
    · exact .inl ⟨h1, h2 _ _ hk⟩
    · exact .inr h
  induction k with
  | zero =>
    intro listed a J T hcl hfree hr hq hk H
    refine ⟨fun h => (by rw [h] at hr; cases hr), fun j hj o ho => ?_⟩
    by_cases hji : j = i
    · subst hji
      rw [hi] at ho; injection ho with ho; subst ho
      exact ⟨fun h => (by rw [hne] at h; cases h), fun _ => ⟨v, yk hq hk, H⟩⟩
    · have := ready_mono hj hji
      rw [H.1] at this
      cases this
  | succ k ih =>
    intro listed a J T hcl hfree hr hq hk H
    refine ⟨fun h => (by rw [h] at hr; cases hr), fun j hj oj hoj => ?_⟩
    by_cases hji : j = i
    · subst hji
      rw [hi] at hoj; injection hoj with hoj; subst hoj
      exact ⟨fun h => (by rw [hne] at h; cases h), fun _ => ⟨v, yk hq hk, H⟩⟩
    · obtain ⟨hjun, oj', hoj', hall⟩ := mem_ready.1 hj
      rw [hoj] at hoj'; injection hoj' with hoj'; subst hoj'
      have h0 := (mem_ready.1 hr).1
      have hiun : listed.getD i false = false := by
        rcases Nat.lt_or_ge i listed.size with h' | h'
        · simp [h'] at h0 ⊢; exact h0
        · simp [Array.getElem?_eq_none h']
      have hnot : ∀ e ∈ oj.after, Region.binds .any e = true → e.on ≠ i := fun e he hb heq => by
        have h1 := hall e he hb
        rw [heq, hiun] at h1; cases h1
      have hap := hfree j oj hoj hji hjun hnot
      obtain ⟨p1, p2, p3⟩ := Oper.apart_spec hap
      have hcl' := hcl.set hj
      have hr' := ready_mono hr (Ne.symm hji)
      have hfree' : ∀ k ok, ops[k]? = some ok → k ≠ i → (listed.setIfInBounds j true).getD k true = false →
          (∀ e ∈ ok.after, Region.binds .any e = true → e.on ≠ i) → oi.apart ops ok = true := fun k ok hk hki hun hno => by
        refine hfree k ok hk hki ?_ hno
        by_cases hjk : j = k
        · subst hjk; exact hjun
        · rw [getD_set_ne true hjk] at hun; exact hun
      have qkeep : ∀ a u, QC P ops I0 S0 oi v a → QC P ops I0 S0 oi v (a.put oj.dst u) := fun a u hq => by
        unfold QC Oper.quietAt at *
        rw [execOp_put oi (fun cs b => hsel i oi cs b hi) a oj.dst u p3, wanted_put oi a oj.dst u p3]
        exact hq
      have H2 := H.2 j (ready_mono hj hji) oj hoj
      refine ⟨fun he w hw => ?_, fun he => ?_⟩
      · have h1 := wpOp_put_any hoj hap (fun cs b => hsel j oj cs b hoj) hQ (QC P ops I0 S0 oi v) hq qkeep (fun a d hq => hq) (H2.1 he w hw)
        refine wpOp_mono ?_ h1
        rintro a' w' ⟨hq', J', T', hs, hlate, hA⟩
        refine ⟨J', T', hs, hlate, ih _ a' J' T' hcl' hfree' hr' hq' (fun hc => ?_) (by rw [Array.setIfInBounds_comm _ _ hji]; exact hA)⟩
        rcases hlate with hl | hl
        · exfalso
          have hl' := List.all_eq_true.1 hl i (List.mem_range.2 (Array.getElem?_eq_some_iff.1 hi).1)
          simp only [hi, hc, hne, Bool.not_true, Bool.false_or] at hl'
          have := anc_listed hcl _ j oj hoj hall hl'
          rw [hiun] at this; cases this
        · exact hl
      · obtain ⟨u, hy, hA⟩ := H2.2 he
        refine ⟨u, ?_, ih _ _ J T hcl' hfree' hr' (qkeep a u hq) hk ?_⟩
        · unfold YK Oper.quietAt at *
          rw [execOp_put oj (fun cs b => hsel j oj cs b hoj) a oi.dst v p1, wanted_put oj a oi.dst v p1] at hy
          exact hy
        · rw [Array.setIfInBounds_comm _ _ hji, ← Act.put_comm a v u p2]
          exact hA

theorem getD_replicate_false' (m j : Nat) : (Array.replicate m false).getD j false = false := by
  rcases Nat.lt_or_ge j m with h | h
  · simp [h]
  · simp [h]
/-! ### a plan for such a region -/
inductive Mv where
  | done
  | take (i : Nat) (m : Mv)
  | step (j : Nat) (m : Mv)
  | fork (j : Nat) (m : Mv) (j' : Nat) (m' : Mv)
  | fork3 (j : Nat) (m : Mv) (j' : Nat) (m' : Mv) (k : Nat) (n : Mv)
def Mv.len : Mv → Nat
  | .done => 0
  | .take _ m => m.len + 1
  | .step _ m => m.len + 1
  | .fork _ m _ _ => m.len + 1
  | .fork3 _ m _ _ _ _ => m.len + 1
def mvOK (P : Program) (ops : Array Oper) (eff : List Nat) : Mv → Bool → Array Bool → Bool
  | .done, _, listed => (Region.ready .any ops listed).isEmpty
  | .take i m, op, listed => !eff.contains i && (Region.ready .any ops listed).contains i && Region.free .any ops listed i && (match ops[i]? with | some o => !classB P o || op | none => false) &&
    mvOK P ops eff m op (listed.setIfInBounds i true)
  | .step j m, op, listed => eff.contains j && (Region.ready .any ops listed == [j]) && mvOK P ops eff m (op && !lateB P ops eff j) (listed.setIfInBounds j true)
  | .fork j m j' m', op, listed => eff.contains j && eff.contains j' && (Region.ready .any ops listed == [j, j']) && Nat.beq m.len m'.len &&
    mvOK P ops eff m (op && !lateB P ops eff j) (listed.setIfInBounds j true) && mvOK P ops eff m' (op && !lateB P ops eff j') (listed.setIfInBounds j' true)
  | .fork3 j m j' m' k n, op, listed => eff.contains j && eff.contains j' && eff.contains k && (Region.ready .any ops listed == [j, j', k]) && Nat.beq m.len m'.len && Nat.beq m.len n.len &&
    mvOK P ops eff m (op && !lateB P ops eff j) (listed.setIfInBounds j true) && mvOK P ops eff m' (op && !lateB P ops eff j') (listed.setIfInBounds j' true) && mvOK P ops eff n (op && !lateB P ops eff k) (listed.setIfInBounds k true)
def QOpC (P : Program) (n : Nat) (o : Oper) (K : Fr → Prop) (l : Fr) (I : IMem) (S : SH) : Prop := match o.op with
  | .load t x => (match ev l x with | .pointer (some a) => LdX P x t I S a fun v => putP n o.dst v (fun l _ _ => K l) l I S | _ => False)
  | .call c => (match c.callee with
    | .value f => (match ev l f with
      | .func (.func fid) fs cs => (match callable P fid with
        | true => exV P o.type fun v => (∀ J T, I.le J → Runs P fid (fs.toList ++ c.args.toList.map (ev l) ++ cs.toList).toArray J (T ++ S) (fun v' _ T' => v' = v ∧ T' = T ++ S)) ∧ putP n o.dst v (fun l _ _ => K l) l I S
        | false => False)
      | _ => False)
    | _ => (match stillB P o.op with | true => PreOp P n o (fun l _ _ => K l) l I S | false => False))
  | _ => (match stillB P o.op with | true => PreOp P n o (fun l _ _ => K l) l I S | false => False)
def keepK (P : Program) (ops : Array Oper) (eff : List Nat) (I0 : IMem) (S0 : SH) (j : Nat) (K : Fr → IMem → SH → Prop) (l : Fr) (J' : IMem) (T' : SH) : Prop := match lateB P ops eff j with | true => K l J' T' | false => Keep I0 S0 J' T' ∧ K l J' T'
def stepP (P : Program) (n : Nat) (ops : Array Oper) (eff : List Nat) (I0 : IMem) (S0 : SH) (j : Nat) (K : Fr → IMem → SH → Prop) (l : Fr) (J : IMem) (T : SH) : Prop := match ops[j]? with
  | some o => (match o.guard with
    | none => PreOp P n o (keepK P ops eff I0 S0 j K) l J T
    | some (g, b) => match (ops[g]?).bind (·.dst) with
      | some d => (match l d with
        | .bool t => bcase t
            (match b with | true => PreOp P n o (keepK P ops eff I0 S0 j K) (upd l d (.bool true)) J T | false => putP n o.dst undef (keepK P ops eff I0 S0 j K) (upd l d (.bool true)) J T)
            (match b with | true => putP n o.dst undef (keepK P ops eff I0 S0 j K) (upd l d (.bool false)) J T | false => PreOp P n o (keepK P ops eff I0 S0 j K) (upd l d (.bool false)) J T)
        | .tuple _ => putP n o.dst undef (keepK P ops eff I0 S0 j K) l J T
        | _ => False)
      | none => False)
  | none => False
def DrP (P : Program) (n : Nat) (ops : Array Oper) (eff : List Nat) (I0 : IMem) (S0 : SH) (K : Fr → IMem → SH → Prop) : Mv → Fr → IMem → SH → Prop
  | .done, l, J, T => K l J T
  | .take i m, l, J, T => match ops[i]? with
    | some o => (match o.guard with
      | none => QOpC P n o (fun l => DrP P n ops eff I0 S0 K m l J T) l I0 S0
      | some (j, b) => match (ops[j]?).bind (·.dst) with
        | some d => (match l d with
          | .bool t => bcase t
              (match b with | true => QOpC P n o (fun l => DrP P n ops eff I0 S0 K m l J T) (upd l d (.bool true)) I0 S0 | false => putP n o.dst undef (fun l _ _ => DrP P n ops eff I0 S0 K m l J T) (upd l d (.bool true)) I0 S0)
              (match b with | true => putP n o.dst undef (fun l _ _ => DrP P n ops eff I0 S0 K m l J T) (upd l d (.bool false)) I0 S0 | false => QOpC P n o (fun l => DrP P n ops eff I0 S0 K m l J T) (upd l d (.bool false)) I0 S0)
          | .tuple _ => putP n o.dst undef (fun l _ _ => DrP P n ops eff I0 S0 K m l J T) l I0 S0
          | _ => False)
        | none => False)
    | none => False
  | .step j m, l, J, T => stepP P n ops eff I0 S0 j (DrP P n ops eff I0 S0 K m) l J T
  | .fork j m j' m', l, J, T => stepP P n ops eff I0 S0 j (DrP P n ops eff I0 S0 K m) l J T ∧ stepP P n ops eff I0 S0 j' (DrP P n ops eff I0 S0 K m') l J T
  | .fork3 j m j' m' k q, l, J, T => stepP P n ops eff I0 S0 j (DrP P n ops eff I0 S0 K m) l J T ∧ stepP P n ops eff I0 S0 j' (DrP P n ops eff I0 S0 K m') l J T ∧ stepP P n ops eff I0 S0 k (DrP P n ops eff I0 S0 K q) l J T

theorem Cell.mono {I J : IMem} {S T : SH} {a : Addr} {v : Value} (h : Cell I S a v) (hk : Keep I S J T) : Cell J T a v := by
  obtain ⟨hs, cs, e, fz, hb, hv⟩ := h
  refine ⟨hs, cs, e, fz, ?_, hv⟩
  rcases hb with hb | hb
  · exact .inl (hk.1.at_ _ _ hb)
  · obtain ⟨T', hp⟩ := hk.2
    exact .inr (hp.mem_iff.2 (List.mem_append_right _ hb))

theorem Sat.of_keep {I J : IMem} {S T : SH} {w : World} (hw : Sat J T w) (hk : Keep I S J T) : Sat I S w := by
  obtain ⟨T', hp⟩ := hk.2
  exact (hw.perm hp).drop.weaken hk.1

theorem QOpC.qc {o : Oper} {K : Fr → Prop} {l : Fr} {a : Act} (hwn : Region.wanted o (yielded ops a.tmps) = true) (h : QOpC P n o K l I0 S0) (ha : FrOK n l a) : ∃ v, QC P ops I0 S0 o v a ∧ ∃ l', FrOK n l' (a.put o.dst v) ∧ K l' := by
  have small : (match stillB P o.op with | true => PreOp P n o (fun l _ _ => K l) l I0 S0 | false => False) → ∃ v, QC P ops I0 S0 o v a ∧ ∃ l', FrOK n l' (a.put o.dst v) ∧ K l' := fun h => by
    split at h
    · rename_i hq
      cases hrd : rdB P o.op with
      | true =>
        obtain ⟨v, hr, hK⟩ := val_rd hrd h
        have hc : classB P o = true := by
          unfold classB
          split <;> first | rfl | exact hrd
        refine ⟨v, .inl ⟨hwn, fun J T hk w hw => ?_⟩, hK.act ha⟩
        simp only [Oper.quietAt, ha.eval, hr w (hw.of_keep (hk hc)), Oper.quietUpon, and_self]
      | false =>
        obtain ⟨v, hr, hK⟩ := h.val (by simpa [stillB, hrd] using hq)
        exact ⟨v, .inl ⟨hwn, fun J T _ w _ => by simp only [Oper.quietAt, ha.eval, hr w, Oper.quietUpon, and_self]⟩, hK.act ha⟩
    · exact h.elim
  unfold QOpC at h
  split at h
  · rename_i t x ho
    split at h
    · rename_i ad hx
      obtain ⟨v, hr, hp⟩ := LdX.run h
      have hc : classB P o = true := by simp [classB, ho]
      refine ⟨v, .inl ⟨hwn, fun J T hk w hw => ?_⟩, hp.act ha⟩
      simp [Oper.quietAt, ha.eval, execOp, ho, hx, hr w (hw.of_keep (hk hc)), Oper.quietUpon]
    · exact h.elim
  · rename_i c ho
    split at h
    · rename_i f hf
      split at h
      · rename_i fid fs cs hfv
        split at h
        · rename_i hc
          obtain ⟨v, hfn, hp⟩ := exV_elim h
          have hcl : classB P o = true := by
            obtain ⟨cal, ar, at'⟩ := c
            dsimp only at hf; subst hf
            simp [classB, ho]
          refine ⟨v, .inl ⟨hwn, fun J T hk w hw => ?_⟩, hp.act ha⟩
          unfold callable at hc
          split at hc
          · rename_i fn hfn'
            simp only [Bool.and_eq_true, Bool.not_eq_true'] at hc
            have hb : fn.body.isNone = false := by cases hbd : fn.body <;> simp [hbd] at hc ⊢
            have hr : (execOp a.eval o).run P w = .ok (.enter fid (fs.toList ++ c.args.toList.map (ev l) ++ cs.toList).toArray) w := by
              have hca : fs ++ (c.args.toList.map (ev l)).toArray ++ cs = (fs.toList ++ c.args.toList.map (ev l) ++ cs.toList).toArray := by
                apply Array.ext'; simp
              have hargs : c.args.map (ev l) = (c.args.toList.map (ev l)).toArray := by rw [← Array.toList_map]
              rw [ha.eval]
              simp only [execOp, ho, resolve, hf, hfv, Deferred.ofValue, Sem.run_bind, Sem.run_pure, Result.andThen_ok, invoke, hargs, hca]
              simp only [callFunc, program, Sem.run, Sem.run_bind, Result.andThen_ok, hfn', hc.1, hb, Bool.false_eq_true, if_false, Sem.run_pure]
            obtain ⟨hle, T', hpm⟩ := hk hcl
            simp only [Oper.quietAt, hr, Oper.quietUpon, true_and]
            refine (hfn J T' hle w (hw.perm hpm)).mono ?_
            rintro e w' ⟨v', J', T'', rfl, hle', hs, rfl, rfl⟩
            exact ⟨rfl, (hs.weaken hle').perm hpm.symm⟩
          · cases hc
        · exact h.elim
      · exact h.elim
    · exact small h
  · exact small h

theorem DrP.sound (hs : Region.noSelect ops = true) {K : Fr → IMem → SH → Prop} (hQ : ∀ l J T a w, FrOK n l a → I0.le J → Sat J T w → K l J T → Q .normal a w) (hQp : ∀ c a w, ¬ Q (.panic c) a w) :
    ∀ (m : Mv) (op : Bool) (listed : Array Bool) (l : Fr) (a : Act) (J : IMem) (T : SH), mvOK P ops eff m op listed = true → (op = true → Keep I0 S0 J T) → I0.le J → Closed ops listed → FrOK n l a →
      DrP P n ops eff I0 S0 K m l J T → AnyK P ops eff I0 S0 Q m.len listed a J T := by
  have step : ∀ (m : Mv) (j : Nat) (k : Nat) (op : Bool) (listed : Array Bool) (l : Fr) (a : Act) (J : IMem) (T : SH), k = m.len → eff.contains j = true → j ∈ Region.ready .any ops listed → I0.le J → Closed ops listed → FrOK n l a →
      (∀ l a J' T', (op && !lateB P ops eff j = true → Keep I0 S0 J' T') → I0.le J' → FrOK n l a → DrP P n ops eff I0 S0 K m l J' T' → AnyK P ops eff I0 S0 Q m.len (listed.setIfInBounds j true) a J' T') →
      stepP P n ops eff I0 S0 j (DrP P n ops eff I0 S0 K m) l J T → ∀ o, ops[j]? = some o →
      (eff.contains j = true → ∀ w, Sat J T w → wpOp P ops Q j (fun a' w' => ∃ J' T', Sat J' T' w' ∧ (lateB P ops eff j = true ∨ Keep I0 S0 J' T') ∧ AnyK P ops eff I0 S0 Q k (listed.setIfInBounds j true) a' J' T') a w) ∧
      (eff.contains j = false → ∃ v, YK P ops o v a J T ∧ AnyK P ops eff I0 S0 Q k (listed.setIfInBounds j true) (a.put o.dst v) J T) := by
    intro m j k op listed l a J T hk he hr hle hcl ha ih h o ho
    subst hk
    refine ⟨fun _ w hw => ?_, fun hf => by rw [he] at hf; cases hf⟩
    unfold stepP at h
    simp only [ho] at h
    have fin : ∀ a' w', NX n J (keepK P ops eff I0 S0 j (DrP P n ops eff I0 S0 K m)) a' w' → ∃ J' T', Sat J' T' w' ∧ (lateB P ops eff j = true ∨ Keep I0 S0 J' T') ∧ AnyK P ops eff I0 S0 Q m.len (listed.setIfInBounds j true) a' J' T' := by
      rintro a' w' ⟨l', J', T', h1, h2, h3, h4⟩
      unfold keepK at h4
      cases hl : lateB P ops eff j with
      | true =>
        rw [hl] at h4
        exact ⟨J', T', h3, .inl rfl, ih l' a' J' T' (fun hh => by simp [hl] at hh) (hle.trans h2) h1 h4⟩
      | false =>
        rw [hl] at h4
        exact ⟨J', T', h3, .inr h4.1, ih l' a' J' T' (fun _ => h4.1) (hle.trans h2) h1 h4.2⟩
    unfold wpOp
    simp only [ho]
    rcases guard_split (o := o) (ops := ops) (K1 := fun l => PreOp P n o (keepK P ops eff I0 S0 j (DrP P n ops eff I0 S0 K m)) l J T) (K2 := fun l => putP n o.dst undef (keepK P ops eff I0 S0 j (DrP P n ops eff I0 S0 K m)) l J T) ha h with ⟨hwn, h⟩ | ⟨hwn, h⟩
    · rw [if_pos hwn]
      exact .inl (Oper.wp_mono fin (PreOp.sound (Q := Q) h hw ha))
    · rw [if_neg (by rw [hwn]; simp)]
      exact fin _ _ (h.nx ha (IMem.le.refl J) hw)
  intro m
  induction m with
  | done =>
    intro op listed l a J T hok hk hle hcl ha h
    exact ⟨List.isEmpty_iff.1 hok, fun w hw => hQ l J T a w ha hle hw h⟩
  | take i m ih =>
    intro op listed l a J T hok hk hle hcl ha h
    simp only [mvOK, Bool.and_eq_true, Bool.not_eq_true', Mv.len] at hok ⊢
    obtain ⟨⟨⟨⟨he, hr⟩, hf⟩, hc⟩, hm⟩ := hok
    have hr' : i ∈ Region.ready .any ops listed := by simpa using hr
    cases ho : ops[i]? with
    | none => rw [ho] at hc; cases hc
    | some o =>
      rw [ho] at hc
      simp only [DrP, ho] at h
      have hcls : classB P o = true → Keep I0 S0 J T := fun hb => hk (by simpa [hb] using hc)
      have fin : ∀ v, QC P ops I0 S0 o v a → (∃ l', FrOK n l' (a.put o.dst v) ∧ DrP P n ops eff I0 S0 K m l' J T) → AnyK P ops eff I0 S0 Q (m.len + 1) listed a J T := fun v hqc ⟨l', hl', hd⟩ =>
        AnyK.take ho (Region.noSelect_spec hs) he (fun c a w hp => absurd hp (hQp c _ w)) m.len listed a J T hcl (Region.free_spec ho hf) hr' hqc hcls (ih op _ l' _ J T hm hk hle (hcl.set hr') hl' hd)
      rcases guard_split (o := o) (ops := ops) (K1 := fun l => QOpC P n o (fun l => DrP P n ops eff I0 S0 K m l J T) l I0 S0) (K2 := fun l => putP n o.dst undef (fun l _ _ => DrP P n ops eff I0 S0 K m l J T) l I0 S0) ha h with ⟨hwn, h⟩ | ⟨hwn, h⟩
      · obtain ⟨v, hqc, hd⟩ := h.qc hwn ha
        exact fin v hqc hd
      · exact fin undef (.inr ⟨hwn, rfl⟩) (h.act ha)
  | step j m ih =>
    intro op listed l a J T hok hk hle hcl ha h
    simp only [mvOK, Bool.and_eq_true, Mv.len, beq_iff_eq] at hok ⊢
    obtain ⟨⟨he, hr⟩, hm⟩ := hok
    have hr' : j ∈ Region.ready .any ops listed := by rw [hr]; simp
    refine ⟨fun h0 => (by rw [hr] at h0; cases h0), fun j' hj' o ho => ?_⟩
    rw [hr] at hj'
    simp at hj'; subst hj'
    exact step m j' m.len op listed l a J T rfl he hr' hle hcl ha (fun l a J' T' hk' hle' ha' hd => ih _ _ l a J' T' hm (by simpa using hk') hle' (hcl.set hr') ha' hd) h o ho
  | fork j m j' m' ih ih' =>
    intro op listed l a J T hok hk hle hcl ha h
    simp only [mvOK, Bool.and_eq_true, Mv.len, beq_iff_eq] at hok ⊢
    obtain ⟨⟨⟨⟨⟨he, he'⟩, hr⟩, hlen⟩, hm⟩, hm'⟩ := hok
    have hlen := Nat.eq_of_beq_eq_true hlen
    have hr1 : j ∈ Region.ready .any ops listed := by rw [hr]; simp
    have hr2 : j' ∈ Region.ready .any ops listed := by rw [hr]; simp
    refine ⟨fun h0 => (by rw [hr] at h0; cases h0), fun i hi o ho => ?_⟩
    rw [hr] at hi
    simp at hi
    rcases hi with rfl | rfl
    · exact step m i m.len op listed l a J T rfl he hr1 hle hcl ha (fun l a J' T' hk' hle' ha' hd => ih _ _ l a J' T' hm (by simpa using hk') hle' (hcl.set hr1) ha' hd) h.1 o ho
    · exact step m' i m.len op listed l a J T hlen he' hr2 hle hcl ha (fun l a J' T' hk' hle' ha' hd => ih' _ _ l a J' T' hm' (by simpa using hk') hle' (hcl.set hr2) ha' hd) h.2 o ho
  | fork3 j m j' m' k q ih ih' ih2 =>
    intro op listed l a J T hok hk hle hcl ha h
    simp only [mvOK, Bool.and_eq_true, Mv.len, beq_iff_eq] at hok ⊢
    obtain ⟨⟨⟨⟨⟨⟨⟨⟨he, he'⟩, he2⟩, hr⟩, hlen⟩, hlen2⟩, hm⟩, hm'⟩, hm2⟩ := hok
    have hlen := Nat.eq_of_beq_eq_true hlen
    have hlen2 := Nat.eq_of_beq_eq_true hlen2
    have hr1 : j ∈ Region.ready .any ops listed := by rw [hr]; simp
    have hr2 : j' ∈ Region.ready .any ops listed := by rw [hr]; simp
    have hr3 : k ∈ Region.ready .any ops listed := by rw [hr]; simp
    refine ⟨fun h0 => (by rw [hr] at h0; cases h0), fun i hi o ho => ?_⟩
    rw [hr] at hi
    simp at hi
    rcases hi with rfl | rfl | rfl
    · exact step m i m.len op listed l a J T rfl he hr1 hle hcl ha (fun l a J' T' hk' hle' ha' hd => ih _ _ l a J' T' hm (by simpa using hk') hle' (hcl.set hr1) ha' hd) h.1 o ho
    · exact step m' i m.len op listed l a J T hlen he' hr2 hle hcl ha (fun l a J' T' hk' hle' ha' hd => ih' _ _ l a J' T' hm' (by simpa using hk') hle' (hcl.set hr2) ha' hd) h.2.1 o ho
    · exact step q i m.len op listed l a J T hlen2 he2 hr3 hle hcl ha (fun l a J' T' hk' hle' ha' hd => ih2 _ _ l a J' T' hm2 (by simpa using hk') hle' (hcl.set hr3) ha' hd) h.2.2 o ho

theorem WP.draw' {Q : Exit → Fr → IMem → SH → Prop} {l : Fr} {I : IMem} {S : SH} {c : Code} (m : Mv) (eff : List Nat) (hc : c = .region (regId c) (regOps c) true) (hm : P.follows .mixedOrders = true) (hs : Region.noSelect (regOps c) = true)
    (hl : Nat.beq m.len (regOps c).size = true) (hok : mvOK P (regOps c) eff m true (Array.replicate (regOps c).size false) = true) (h : DrP P n (regOps c) eff I S (Q .normal) m l I S) : WP P n c Q l I S := by
  rw [hc]
  intro w a hw ha
  refine wp_mono (Q := fun e a' w' => e = .normal ∧ ∃ l' J T, FrOK n l' a' ∧ I.le J ∧ Sat J T w' ∧ Q e l' J T) (wp_region_any hm (AnyK.wp (eff := eff) (I0 := I) (S0 := S) _ _ a I S _ hw.drew ?_)) (fun e a w h => h.2)
  have := DrP.sound (P := P) (ops := regOps c) (eff := eff) (I0 := I) (S0 := S) (Q := fun e a' w' => e = .normal ∧ ∃ l' J T, FrOK n l' a' ∧ I.le J ∧ Sat J T w' ∧ Q e l' J T) hs (K := Q .normal)
    (fun l J T a w h1 h2 h3 h4 => ⟨rfl, l, J, T, h1, h2, h3, h4⟩) (fun c a w h => by cases h.1) m true _ l a I S hok (fun _ => Keep.refl I S) (IMem.le.refl I) ?_ ha h
  · rw [Nat.eq_of_beq_eq_true hl] at this
    exact this
  · intro j o _ hlj
    rw [getD_replicate_false'] at hlj
    cases hlj
/-- the same, where a part of the heap is kept -/
theorem WP.drawF {Q : Exit → Fr → IMem → SH → Prop} {l : Fr} {I : IMem} {S : SH} {c : Code} (m : Mv) (eff : List Nat) (hc : c = .region (regId c) (regOps c) true) (hm : P.follows .mixedOrders = true) (hs : Region.noSelect (regOps c) = true)
    (hl : Nat.beq m.len (regOps c).size = true) (hok : mvOK P (regOps c) eff m true (Array.replicate (regOps c).size false) = true) (h : ∃ F : SH, Keep I F I S ∧ DrP P n (regOps c) eff I F (Q .normal) m l I S) : WP P n c Q l I S := by
  obtain ⟨F, hF, h⟩ := h
  rw [hc]
  intro w a hw ha
  refine wp_mono (Q := fun e a' w' => e = .normal ∧ ∃ l' J T, FrOK n l' a' ∧ I.le J ∧ Sat J T w' ∧ Q e l' J T) (wp_region_any hm (AnyK.wp (eff := eff) (I0 := I) (S0 := F) _ _ a I S _ hw.drew ?_)) (fun e a w h => h.2)
  have := DrP.sound (P := P) (ops := regOps c) (eff := eff) (I0 := I) (S0 := F) (Q := fun e a' w' => e = .normal ∧ ∃ l' J T, FrOK n l' a' ∧ I.le J ∧ Sat J T w' ∧ Q e l' J T) hs (K := Q .normal)
    (fun l J T a w h1 h2 h3 h4 => ⟨rfl, l, J, T, h1, h2, h3, h4⟩) (fun c a w h => by cases h.1) m true _ l a I S hok (fun _ => hF) (IMem.le.refl I) ?_ ha h
  · rw [Nat.eq_of_beq_eq_true hl] at this
    exact this
  · intro j o _ hlj
    rw [getD_replicate_false'] at hlj
    cases hlj
end
end Go.Px
