/- Code: straight pieces as propositions; regions whose order is open; a function's call. -/
import Derived.Test.YtdajglfbbcbgpaaDoorPx4
import Derived.Orders
namespace Go.Px
set_option linter.unusedVariables false
set_option linter.unusedSimpArgs false

/-- guards: the case where the guard holds, and where not, each with the guard's slot written out -/
def PreOps (P : Program) (n : Nat) (ops : Array Oper) : List Oper → (Fr → IMem → SH → Prop) → Fr → IMem → SH → Prop
  | [], K, l, I, S => K l I S
  | o :: rest, K, l, I, S => match o.guard with
    | none => PreOp P n o (PreOps P n ops rest K) l I S
    | some (j, b) => match (ops[j]?).bind (·.dst) with
      | some d => (match l d with
        | .bool t => bcase t
            (match b with | true => PreOp P n o (PreOps P n ops rest K) (upd l d (.bool true)) I S | false => putP n o.dst undef (PreOps P n ops rest K) (upd l d (.bool true)) I S)
            (match b with | true => putP n o.dst undef (PreOps P n ops rest K) (upd l d (.bool false)) I S | false => PreOp P n o (PreOps P n ops rest K) (upd l d (.bool false)) I S)
        | .tuple _ => putP n o.dst undef (PreOps P n ops rest K) l I S
        | _ => False)
      | none => False

section
variable {P : Program} {n : Nat} {Q : Exit → Fr → IMem → SH → Prop} {l : Fr} {I : IMem} {S : SH} {a : Act} {w : World} {ops : Array Oper}

theorem yielded_fr (ha : FrOK n l a) {j d : Nat} (hd : (ops[j]?).bind (·.dst) = some d) : yielded ops a.tmps j = (match l d with | .bool b => some b | _ => none) := by
  unfold yielded
  rw [hd]
  simp only [Option.bind_some]
  have h := ha.at_ d
  by_cases hlt : d < a.tmps.size
  · have : a.tmps[d]? = some (l d) := by
      rw [Array.getElem?_eq_getElem hlt]
      simp only [Array.getD, hlt, dite_true] at h
      rw [← h]; rfl
    rw [this]
    cases l d <;> rfl
  · have h2 : a.tmps[d]? = none := Array.getElem?_eq_none (by omega)
    have h3 : l d = undef := by rw [← h]; simp [Array.getD, hlt]
    rw [h2, h3]; rfl

/-- what a guard comes to -/
theorem guard_split {o : Oper} {K1 K2 : Fr → Prop} (ha : FrOK n l a)
    (h : match o.guard with
      | none => K1 l
      | some (j, b) => match (ops[j]?).bind (·.dst) with
        | some d => (match l d with
          | .bool t => bcase t (match b with | true => K1 (upd l d (.bool true)) | false => K2 (upd l d (.bool true))) (match b with | true => K2 (upd l d (.bool false)) | false => K1 (upd l d (.bool false)))
          | .tuple _ => K2 l
          | _ => False)
        | none => False) : (Region.wanted o (yielded ops a.tmps) = true ∧ K1 l) ∨ (Region.wanted o (yielded ops a.tmps) = false ∧ K2 l) := by
  cases hg : o.guard with
  | none => simp only [hg] at h; exact .inl ⟨by simp [Region.wanted, hg], h⟩
  | some g =>
    obtain ⟨j, b⟩ := g
    simp only [hg] at h
    split at h
    · rename_i d hd
      have hy := yielded_fr (ops := ops) ha hd
      split at h
      · rename_i t ht
        rw [ht] at hy
        have e := upd_eta ht
        cases t <;> cases b <;> simp only [bcase] at h <;> rw [← e] at h
        · exact .inl ⟨by simp [Region.wanted, hg, hy], h⟩
        · exact .inr ⟨by simp [Region.wanted, hg, hy], h⟩
        · exact .inr ⟨by simp [Region.wanted, hg, hy], h⟩
        · exact .inl ⟨by simp [Region.wanted, hg, hy], h⟩
      · rename_i vs ht
        rw [ht] at hy
        exact .inr ⟨by simp [Region.wanted, hg, hy], h⟩
      · exact h.elim
    · exact h.elim

theorem PreOps.sound {Q' : Exit → Act → World → Prop} : ∀ (L : List Oper) (K : Fr → IMem → SH → Prop) (l : Fr) (I : IMem) (S : SH) (a : Act) (w : World), PreOps P n ops L K l I S → Sat I S w → FrOK n l a →
    (∀ a w, NX n I K a w → Q' .normal a w) → wpList P ops Q' L a w
  | [], K, l, I, S, a, w, h, hw, ha, hQ => hQ a w ⟨l, I, S, ha, IMem.le.refl I, hw, h⟩
  | o :: L, K, l, I, S, a, w, h, hw, ha, hQ => by
    have hk : ∀ (J : IMem), I.le J → ∀ a w, NX n J K a w → Q' .normal a w := fun J hJ a w ⟨l, J', T, h1, h2, h3, h4⟩ => hQ a w ⟨l, J', T, h1, hJ.trans h2, h3, h4⟩
    simp only [PreOps] at h
    rcases guard_split (o := o) (ops := ops) (K1 := fun l => PreOp P n o (PreOps P n ops L K) l I S) (K2 := fun l => putP n o.dst undef (PreOps P n ops L K) l I S) ha h with ⟨hwn, h⟩ | ⟨hwn, h⟩
    · unfold wpList
      rw [if_pos hwn]
      refine .inl (Oper.wp_mono ?_ (PreOp.sound (Q := Q') h hw ha))
      rintro a' w' ⟨l', J, T, h1, h2, h3, h4⟩
      exact PreOps.sound L K l' J T a' w' h4 h3 h1 (hk J h2)
    · unfold wpList
      rw [if_neg (by rw [hwn]; simp)]
      obtain ⟨l', J, T, h1, h2, h3, h4⟩ := putP.nx (w := w) h ha (IMem.le.refl I) hw
      exact PreOps.sound L K l' J T _ w h4 h3 h1 (hk J h2)

theorem WP.region {id : Nat} (h : PreOps P n ops ops.toList (Q .normal) l I S) : WP P n (.region id ops false) Q l I S :=
  fun w a hw ha => wp_region_list (PreOps.sound ops.toList _ l I S a w h hw ha fun _ _ h => h)

/-! ### straight code -/
def Pre (P : Program) (n : Nat) : Code → (Exit → Fr → IMem → SH → Prop) → Fr → IMem → SH → Prop
  | .skip, Q => Q .normal
  | .label _, Q => Q .normal
  | .region id ops d, Q => (match d with | false => PreOps P n ops ops.toList (Q .normal) | true => WP P n (.region id ops true) Q)
  | .seq x y, Q => Pre P n x (QThen (Pre P n y Q) Q)
  | .cond c x y, Q => fun l I S => (match ev l c with | .bool t => bcase t (Pre P n x Q l I S) (Pre P n y Q l I S) | _ => False)
  | .block id c, Q => Pre P n c (QBlock id Q)
  | .exit id, Q => Q (.exit id)
  | .goto t, Q => Q (.goto t)
  | .ret, Q => Q .ret
  | .loop c, Q => WP P n (.loop c) Q
  | .scope c, Q => WP P n (.scope c) Q
  | .rangeFunc f ps x y, Q => WP P n (.rangeFunc f ps x y) Q
  | .refuse _, _ => fun _ _ _ => False

theorem WP.of_q {c : Code} {e : Exit} (hc : ∀ (Q' : Exit → Act → World → Prop) a w, Q' e a w → c.wp P Q' a w) (h : Q e l I S) : WP P n c Q l I S :=
  fun w a hw ha => hc _ a w ⟨l, I, S, ha, IMem.le.refl I, hw, h⟩
theorem WP.cond {c : Operand} {x y : Code} {t : Bool} (hc : ev l c = .bool t) (h : bcase t (WP P n x Q l I S) (WP P n y Q l I S)) : WP P n (.cond c x y) Q l I S := by
  intro w a hw ha
  refine Go.wp_cond (t := t) (by rw [ha.eval]; exact hc) ?_
  cases t
  · exact h w a hw ha
  · exact h w a hw ha
theorem Pre.sound : ∀ (c : Code) (Q : Exit → Fr → IMem → SH → Prop) (l : Fr) (I : IMem) (S : SH), Pre P n c Q l I S → WP P n c Q l I S
  | .skip, Q, l, I, S, h => WP.of_q (fun _ _ _ h => wp_skip h) h
  | .label _, Q, l, I, S, h => WP.of_q (fun _ _ _ h => wp_label h) h
  | .region id ops d, Q, l, I, S, h => by
    cases d
    · exact WP.region h
    · exact h
  | .seq x y, Q, l, I, S, h => by
    refine WP.seq ((Pre.sound x _ l I S h).mono ?_)
    intro e l' J T hle hq
    cases e with
    | normal => exact Pre.sound y Q l' J T hq
    | _ => exact hq
  | .cond c x y, Q, l, I, S, h => by
    simp only [Pre] at h
    split at h
    · rename_i t ht
      refine WP.cond ht ?_
      cases t
      · exact Pre.sound y Q l I S h
      · exact Pre.sound x Q l I S h
    · exact h.elim
  | .block id c, Q, l, I, S, h => WP.block (Pre.sound c _ l I S h)
  | .exit id, Q, l, I, S, h => WP.of_q (fun _ _ _ h => wp_exit h) h
  | .goto t, Q, l, I, S, h => WP.of_q (fun _ _ _ h => wp_goto h) h
  | .ret, Q, l, I, S, h => WP.of_q (fun _ _ _ h => wp_ret h) h
  | .loop c, Q, l, I, S, h => h
  | .scope c, Q, l, I, S, h => h
  | .rangeFunc .., Q, l, I, S, h => h
  | .refuse _, Q, l, I, S, h => h.elim

def PreCut (P : Program) (n : Nat) (Y : Fr → IMem → SH → Prop) : Nat → Code → (Exit → Fr → IMem → SH → Prop) → Fr → IMem → SH → Prop
  | 0, _, _ => Y
  | k + 1, .seq x y, Q => Pre P n x (QThen (PreCut P n Y k y Q) Q)
  | _ + 1, c, Q => Pre P n c Q
def dropSeq : Nat → Code → Code
  | 0, c => c
  | k + 1, .seq _ y => dropSeq k y
  | _ + 1, _ => .skip
theorem WP.cut (k : Nat) {c : Code} (Y : Fr → IMem → SH → Prop) (h : PreCut P n Y k c Q l I S) (hY : ∀ l J T, I.le J → Y l J T → WP P n (dropSeq k c) Q l J T) : WP P n c Q l I S := by
  induction k generalizing c l I S with
  | zero => exact hY l I S (IMem.le.refl I) h
  | succ k ih =>
    have other : (∀ x y, c ≠ .seq x y) → WP P n c Q l I S := fun hne => by
      cases c <;> first | exact absurd rfl (hne _ _) | exact Pre.sound _ _ _ _ _ h
    cases c with
    | seq x y =>
      refine WP.seq ((Pre.sound x _ l I S h).mono ?_)
      intro e l' J T hle hq
      cases e with
      | normal => exact ih hq fun l'' J' T' hle' hy => hY l'' J' T' (hle.trans hle') hy
      | _ => exact hq
    | _ => exact other (fun _ _ h => by cases h)

/-! ### what a function hands back -/
def RetP (P : Program) : List ResultVar → Fr → IMem → SH → (List Value → Prop) → Prop
  | [], _, _, _, K => K []
  | .tmp t :: rs, l, I, S, K => RetP P rs l I S fun vs => K (l t :: vs)
  | .cell a t :: rs, l, I, S, K => (match l a with | .pointer (some ad) => LdP P t I S ad fun v => RetP P rs l I S fun vs => K (v :: vs) | _ => False)
def retV : List Value → Value
  | [v] => v
  | vs => .tuple vs.toArray
def QRet (P : Program) (rs : List ResultVar) (R : Value → IMem → SH → Prop) : Exit → Fr → IMem → SH → Prop
  | .normal => fun l I S => RetP P rs l I S fun vs => R (retV vs) I S
  | .ret => fun l I S => RetP P rs l I S fun vs => R (retV vs) I S
  | _ => fun _ _ _ => False
def resOne (tmps : Array Value) : ResultVar → Sem Value
  | .tmp t => pure (tmps.getD t undef)
  | .cell a t => do loadVar t (← asAddr (tmps.getD a undef))
theorem RetP.run (hw : Sat I S w) (ha : FrOK n l a) : ∀ (rs : List ResultVar) (K : List Value → Prop), RetP P rs l I S K → ∃ vs, (rs.mapM (resOne a.tmps)).run P w = .ok vs w ∧ K vs
  | [], K, h => ⟨[], by simp, h⟩
  | .tmp t :: rs, K, h => by
    obtain ⟨vs, hr, hK⟩ := RetP.run hw ha rs _ h
    refine ⟨l t :: vs, ?_, hK⟩
    simp only [List.mapM_cons, resOne, Sem.run_bind, Sem.run_pure, Result.andThen_ok, hr, ha.at_]
  | .cell ad t :: rs, K, h => by
    simp only [RetP] at h
    split at h
    · rename_i ad' hl
      obtain ⟨v, hr0, h⟩ := LdP.run h
      have hr0 := hr0 w hw
      obtain ⟨vs, hr, hK⟩ := RetP.run hw ha rs _ h
      refine ⟨v :: vs, ?_, hK⟩
      simp only [Instr.loadAt, Instr.sureAddr, Sem.run_bind, Sem.run_pure, Result.andThen_ok] at hr0
      simp only [List.mapM_cons, resOne, Sem.run_bind, Sem.run_pure, Result.andThen_ok, hr, ha.at_, hl, asAddr, hr0]
    · exact h.elim
theorem run_results {fn : Func} {tmps : Array Value} {vs : List Value} (h : (fn.results.toList.mapM (resOne tmps)).run P w = .ok vs w) : (results fn tmps).run P w = .ok (retV vs) w := by
  have e : results fn tmps = (do let vs ← fn.results.mapM (resOne tmps); pure (if h : vs.size = 1 then vs[0] else .tuple vs)) := by
    unfold results
    congr 1
  rw [e]
  generalize fn.results = rs at h
  obtain ⟨rs⟩ := rs
  simp only at h
  simp only [List.mapM_toArray, Sem.run_bind, Sem.run_map, h, Result.andThen_ok, Sem.run_pure]
  rcases vs with _ | ⟨v, _ | ⟨u, vs⟩⟩ <;> simp [retV]

def fr0 (args : List Value) : Fr := fun i => args.getD i undef
theorem Runs.of_wp {f : FuncId} {fn : Func} {c : Code} {args : List Value} {R : Value → IMem → SH → Prop} (hf : P.funcs[f]? = some fn) (hb : fn.body = some c) (hn : Nat.ble args.length fn.ntmps = true)
    (h : WP P fn.ntmps c (QRet P fn.results.toList R) (fr0 args) I S) : Runs P f args.toArray I S R := by
  intro w hw
  have hle := Nat.le_of_ble_eq_true hn
  refine calls_of_wp hf hb (wp_mono (h w _ hw ?_) ?_)
  · refine ⟨by simp; omega, rfl, fun i => ?_⟩
    simp only [fr0, Array.getD_eq_getD_getElem?, List.getD_eq_getElem?_getD, Array.getElem?_append, List.size_toArray, List.getElem?_toArray]
    split
    · rfl
    · rename_i hlt
      rw [List.getElem?_eq_none (by omega), Array.getElem?_replicate]
      split <;> rfl
  · rintro e a' w' ⟨l', J, T, h1, h2, h3, h4⟩
    have fin : RetP P fn.results.toList l' J T (fun vs => R (retV vs) J T) → bodyPost P fn (fun e w' => ∃ v J T, e = .returned v ∧ I.le J ∧ Sat J T w' ∧ R v J T) .ret a' w' := fun h4 => by
      obtain ⟨vs, hr, hR⟩ := RetP.run h3 h1 _ _ h4
      exact ⟨h1.defers, _, run_results hr, _, J, T, rfl, h2, h3, hR⟩
    cases e with
    | normal => exact fin h4
    | ret => exact fin h4
    | _ => exact h4.elim

/-! ### regions whose order is open, and whose operations leave the heap as it is -/
def exV (P : Program) (t : TypeId) (K : Value → Prop) : Prop := match P.underlying t with
  | some (.tuple ts) => exTs P ts.toList fun vs => K (.tuple vs.toArray)
  | _ => exTy P t K
theorem exV_elim {t : TypeId} {K : Value → Prop} (h : exV P t K) : ∃ v, K v := by
  unfold exV at h
  split at h
  · obtain ⟨vs, h⟩ := exTs_elim h; exact ⟨_, h⟩
  · exact exTy_elim h
def QOp (P : Program) (n : Nat) (o : Oper) (K : Fr → Prop) (l : Fr) (I : IMem) (S : SH) : Prop := match o.op with
  | .load t x => (match ev l x with | .pointer (some a) => LdX P x t I S a fun v => putP n o.dst v (fun l _ _ => K l) l I S | _ => False)
  | .call c => (match c.callee with
    | .value f => (match ev l f with
      | .func (.func fid) fs cs => (match callable P fid with
        | true => exV P o.type fun v => Runs P fid (fs.toList ++ c.args.toList.map (ev l) ++ cs.toList).toArray I S (fun v' _ T => v' = v ∧ T = S) ∧ putP n o.dst v (fun l _ _ => K l) l I S
        | false => False)
      | _ => False)
    | _ => (match stillB P o.op with | true => PreOp P n o (fun l _ _ => K l) l I S | false => False))
  | _ => (match stillB P o.op with | true => PreOp P n o (fun l _ _ => K l) l I S | false => False)
def PreQ (P : Program) (n : Nat) (ops : Array Oper) (I : IMem) (S : SH) : List Oper → (Fr → Prop) → Fr → Prop
  | [], K, l => K l
  | o :: rest, K, l => match o.guard with
    | none => QOp P n o (PreQ P n ops I S rest K) l I S
    | some (j, b) => match (ops[j]?).bind (·.dst) with
      | some d => (match l d with
        | .bool t => bcase t
            (match b with | true => QOp P n o (PreQ P n ops I S rest K) (upd l d (.bool true)) I S | false => putP n o.dst undef (fun l _ _ => PreQ P n ops I S rest K l) (upd l d (.bool true)) I S)
            (match b with | true => putP n o.dst undef (fun l _ _ => PreQ P n ops I S rest K l) (upd l d (.bool false)) I S | false => QOp P n o (PreQ P n ops I S rest K) (upd l d (.bool false)) I S)
        | .tuple _ => putP n o.dst undef (fun l _ _ => PreQ P n ops I S rest K l) l I S
        | _ => False)
      | none => False

theorem Sat.weaken {J : IMem} (h : Sat J S w) (hle : I.le J) : Sat I S w := by
  refine ⟨h.os.trans hle.os, h.tape.trans hle.tape, h.out.trans hle.out, by rw [← hle.dr]; exact h.dr, fun b o hb => h.im b o (hle.at_ b o hb), h.own, fun p hp => ?_, h.nodup⟩
  cases hn : I.at_ p.1 with
  | none => rfl
  | some o =>
    have := hle.at_ _ _ hn
    rw [h.apart p hp] at this
    cases this

theorem putP.act {d : Option Tmp} {v : Value} {K : Fr → IMem → SH → Prop} (h : putP n d v K l I S) (ha : FrOK n l a) : ∃ l', FrOK n l' (a.put d v) ∧ K l' I S := by
  cases d with
  | none => exact ⟨l, ha, h⟩
  | some d =>
    simp only [putP] at h
    split at h
    · rename_i hb
      exact ⟨_, ha.put (by simpa using hb) v, h⟩
    · exact h.elim

theorem QOp.quiet {o : Oper} {K : Fr → Prop} (h : QOp P n o K l I S) (ha : FrOK n l a) : o.quiet P a (Sat I S) (fun a' => ∃ l', FrOK n l' a' ∧ K l') := by
  have fin : ∀ v, putP n o.dst v (fun l _ _ => K l) l I S → ∃ l', FrOK n l' (a.put o.dst v) ∧ K l' := fun v hp => hp.act ha
  have small : (match stillB P o.op with | true => PreOp P n o (fun l _ _ => K l) l I S | false => False) → o.quiet P a (Sat I S) (fun a' => ∃ l', FrOK n l' a' ∧ K l') := fun h => by
    split at h
    · rename_i hq
      obtain ⟨v, hr, hK⟩ := h.still hq
      exact ⟨v, fun w hw => by simp only [Oper.quietAt, ha.eval, hr w hw, Oper.quietUpon, and_self], fin v hK⟩
    · exact h.elim
  unfold QOp at h
  split at h
  · rename_i t x ho
    split at h
    · rename_i ad hx
      obtain ⟨v, hr, hp⟩ := LdX.run h
      exact ⟨v, fun w hw => by simp [Oper.quietAt, ha.eval, execOp, ho, hx, hr w hw, Oper.quietUpon], fin v hp⟩
    · exact h.elim
  · rename_i c ho
    split at h
    · rename_i f hf
      split at h
      · rename_i fid fs cs hfv
        split at h
        · rename_i hc
          obtain ⟨v, hfn, hp⟩ := exV_elim h
          refine ⟨v, fun w hw => ?_, fin v hp⟩
          unfold callable at hc
          split at hc
          · rename_i fn hfn'
            simp only [Bool.and_eq_true, Bool.not_eq_true'] at hc
            have hb : fn.body.isNone = false := by cases hbd : fn.body <;> simp [hbd] at hc ⊢
            have hr : (execOp a.eval o).run P w = .ok (.enter fid (fs.toList ++ c.args.toList.map (ev l) ++ cs.toList).toArray) w := by
              have hca : fs ++ (c.args.toList.map (ev l)).toArray ++ cs = (fs.toList ++ c.args.toList.map (ev l) ++ cs.toList).toArray := by
                apply Array.ext'; simp
              have hargs : c.args.map (ev l) = (c.args.toList.map (ev l)).toArray := by rw [← Array.toList_map]
              rw [ha.eval]
              simp only [execOp, ho, resolve, hf, hfv, Deferred.ofValue, Sem.run_bind, Sem.run_pure, Result.andThen_ok, invoke, hargs, hca]
              simp only [callFunc, program, Sem.run, Sem.run_bind, Result.andThen_ok, hfn', hc.1, hb, Bool.false_eq_true, if_false, Sem.run_pure]
            simp only [Oper.quietAt, hr, Oper.quietUpon, true_and]
            refine (hfn w hw).mono ?_
            rintro e w' ⟨v', J, T, rfl, hle, hs, rfl, rfl⟩
            exact ⟨rfl, hs.weaken hle⟩
          · cases hc
        · exact h.elim
      · exact h.elim
    · exact small h
  · exact small h
theorem wpQuiet_mono' {C : World → Prop} {K K' : Act → Prop} (h : ∀ a, K a → K' a) : ∀ (L : List Oper) (a : Act), wpQuiet P ops C K L a → wpQuiet P ops C K' L a
  | [], a, hh => h a hh
  | o :: L, a, hh => by
    simp only [wpQuiet] at hh ⊢
    split
    · rename_i hw
      rw [if_pos hw] at hh
      exact Oper.quiet_mono (fun a' => wpQuiet_mono' h L a') hh
    · rename_i hw
      rw [if_neg hw] at hh
      exact wpQuiet_mono' h L _ hh
theorem PreQ.sound : ∀ (L : List Oper) (K : Fr → Prop) (l : Fr) (a : Act), PreQ P n ops I S L K l → FrOK n l a → wpQuiet P ops (Sat I S) (fun a' => ∃ l', FrOK n l' a' ∧ K l') L a
  | [], K, l, a, h, ha => ⟨l, ha, h⟩
  | o :: L, K, l, a, h, ha => by
    simp only [PreQ] at h
    simp only [wpQuiet]
    rcases guard_split (o := o) (ops := ops) (K1 := fun l => QOp P n o (PreQ P n ops I S L K) l I S) (K2 := fun l => putP n o.dst undef (fun l _ _ => PreQ P n ops I S L K l) l I S) ha h with ⟨hwn, h⟩ | ⟨hwn, h⟩
    · rw [if_pos hwn]
      obtain ⟨v, hv, l', hl', hK⟩ := h.quiet ha
      exact ⟨v, hv, PreQ.sound L K l' _ hK hl'⟩
    · rw [if_neg (by rw [hwn]; simp)]
      obtain ⟨l', hl', hK⟩ := h.act ha
      exact PreQ.sound L K l' _ hK hl'
theorem WP.quiet {id : Nat} (hm : P.follows .mixedOrders = true) (hB : Region.lexB .any ops = true) (h : PreQ P n ops I S ops.toList (fun l => Q .normal l I S) l) : WP P n (.region id ops true) Q l I S := by
  intro w a hw ha
  refine wp_region_quiet (C := Sat I S) hm hB hw.drew ?_
  have := PreQ.sound ops.toList (fun l => Q .normal l I S) l a h ha
  refine wpQuiet_mono' (fun a' ⟨l', hl', hq⟩ w' hw' => ?_) _ _ this
  exact ⟨l', I, S, hl', IMem.le.refl I, hw', hq⟩

/-! ### pieces of code, by their places -/
def seqL : Code → Code
  | .seq x _ => x
  | c => c
def seqR : Code → Code
  | .seq _ y => y
  | c => c
def loopB : Code → Code
  | .loop c => c
  | c => c
def scopeB : Code → Code
  | .scope c => c
  | c => c
def blockB : Code → Code
  | .block _ c => c
  | c => c
def blockId : Code → Nat
  | .block i _ => i
  | _ => 0
def condT : Code → Code
  | .cond _ x _ => x
  | c => c
def condF : Code → Code
  | .cond _ _ y => y
  | c => c
def condC : Code → Operand
  | .cond c _ _ => c
  | _ => .tmp 0
def regOps : Code → Array Oper
  | .region _ ops _ => ops
  | _ => #[]
def regId : Code → Nat
  | .region i _ _ => i
  | _ => 0
theorem WP.seqY {c : Code} (hc : c = .seq (seqL c) (seqR c)) (Y : Fr → IMem → SH → Prop) (h1 : WP P n (seqL c) (QThen Y Q) l I S) (h2 : ∀ l J T, I.le J → Y l J T → WP P n (seqR c) Q l J T) : WP P n c Q l I S := by
  rw [hc]
  refine WP.seq (h1.mono ?_)
  intro e l' J T hle hq
  cases e with
  | normal => exact h2 l' J T hle hq
  | _ => exact hq
theorem WP.block' {c : Code} (hc : c = .block (blockId c) (blockB c)) (h : WP P n (blockB c) (QBlock (blockId c) Q) l I S) : WP P n c Q l I S := by
  rw [hc]; exact WP.block h
theorem WP.loop' {c : Code} (hc : c = .loop (loopB c)) (Inv : Nat → Fr → IMem → SH → Prop) (m : Nat) (h0 : Inv m l I S)
    (round : ∀ m l J T, I.le J → Inv m l J T → WP P n (loopB c) (QThen (fun l' J' T' => ∃ m', m' < m ∧ Inv m' l' J' T') Q) l J T) : WP P n c Q l I S := by
  rw [hc]; exact WP.loop Inv m h0 round
theorem WP.cond' {c : Code} (hc : c = .cond (condC c) (condT c) (condF c)) {t : Bool} (ht : ev l (condC c) = .bool t) {A B : Prop} (h : bcase t A B) (hA : A → WP P n (condT c) Q l I S) (hB : B → WP P n (condF c) Q l I S) : WP P n c Q l I S := by
  rw [hc]
  refine WP.cond ht ?_
  cases t
  · exact hB h
  · exact hA h
theorem WP.quiet' {c : Code} (hc : c = .region (regId c) (regOps c) true) (hm : P.follows .mixedOrders = true) (hB : Region.lexB .any (regOps c) = true)
    (h : PreQ P n (regOps c) I S (regOps c).toList (fun l => Q .normal l I S) l) : WP P n c Q l I S := by
  rw [hc]; exact WP.quiet hm hB h
theorem WP.scope' {c : Code} (k : Nat) (t : Nat) (hc : c = .scope (scopeB c)) (hl : dropSeq k (scopeB c) = .seq (.label t) (seqR (dropSeq k (scopeB c))))
    (hf : findLabel (scopeB c) t = some (.seq .skip (seqR (dropSeq k (scopeB c))))) (Inv : Nat → Fr → IMem → SH → Prop)
    (first : PreCut P n (fun l J T => ∃ m, Inv m l J T) k (scopeB c) (QJump t (fun l J T => ∃ m, Inv m l J T) Q) l I S)
    (round : ∀ m l J T, I.le J → Inv m l J T → WP P n (seqR (dropSeq k (scopeB c))) (QJump t (fun l' J' T' => ∃ m', m' < m ∧ Inv m' l' J' T') Q) l J T) : WP P n c Q l I S := by
  rw [hc]
  refine WP.scope t hf Inv ?_ ?_
  · refine WP.cut k (fun l J T => ∃ m, Inv m l J T) first ?_
    · rintro l' J T hle ⟨m, hI⟩
      rw [hl]
      refine WP.seq (WP.of_q (e := .normal) (fun _ _ _ h => wp_label h) ?_)
      refine (round m l' J T hle hI).mono ?_
      intro e l'' J' T' _ h
      cases e with
      | goto t' => obtain ⟨ht, m', _, hI'⟩ := h; exact ⟨ht, m', hI'⟩
      | _ => exact h
  · intro m l' J T hle hI
    exact WP.seq (WP.of_q (e := .normal) (fun _ _ _ h => wp_skip h) (round m l' J T hle hI))
theorem WP.scopeS {c : Code} (hc : c = .scope (scopeB c)) (h : WP P n (scopeB c) (fun | .goto _ => fun _ _ _ => False | e => Q e) l I S) : WP P n c Q l I S := by
  rw [hc]; exact WP.scope_straight h
/-! ### values of a kind -/
def asI : IntKind → Value → (Int → Prop) → Prop
  | .i8, .int .i8 n, K => K n
  | .i16, .int .i16 n, K => K n
  | .i32, .int .i32 n, K => K n
  | .i64, .int .i64 n, K => K n
  | .u8, .int .u8 n, K => K n
  | .u16, .int .u16 n, K => K n
  | .u32, .int .u32 n, K => K n
  | .u64, .int .u64 n, K => K n
  | _, _, _ => False
theorem asI_e {k : IntKind} {v : Value} {K : Int → Prop} (h : asI k v K) : ∃ n, v = .int k n ∧ K n := by
  cases v with
  | int k' n => cases k <;> cases k' <;> first | exact ⟨n, rfl, h⟩ | exact h.elim
  | _ => cases k <;> exact h.elim
def asB (v : Value) (K : Bool → Prop) : Prop := match v with
  | .bool b => K b
  | _ => False
theorem asB_e {v : Value} {K : Bool → Prop} (h : asB v K) : ∃ b, v = .bool b ∧ K b := by cases v <;> first | exact ⟨_, rfl, h⟩ | exact h.elim
def asStr (v : Value) (K : ByteArray → Prop) : Prop := match v with
  | .string b => K b
  | _ => False
theorem asStr_e {v : Value} {K : ByteArray → Prop} (h : asStr v K) : ∃ b, v = .string b ∧ K b := by cases v <;> first | exact ⟨_, rfl, h⟩ | exact h.elim
def asPtr (v : Value) (K : Option Addr → Prop) : Prop := match v with
  | .pointer b => K b
  | _ => False
theorem asPtr_e {v : Value} {K : Option Addr → Prop} (h : asPtr v K) : ∃ b, v = .pointer b ∧ K b := by cases v <;> first | exact ⟨_, rfl, h⟩ | exact h.elim
def asAdr (v : Value) (K : Addr → Prop) : Prop := match v with
  | .pointer (some b) => K b
  | _ => False
theorem asAdr_e {v : Value} {K : Addr → Prop} (h : asAdr v K) : ∃ b, v = .pointer (some b) ∧ K b := by
  cases v with
  | pointer p => cases p with
    | none => exact h.elim
    | some a => exact ⟨_, rfl, h⟩
  | _ => exact h.elim
def asSl (v : Value) (K : Option Addr → Nat → Nat → Prop) : Prop := match v with
  | .slice p n c => K p n c
  | _ => False
theorem asSl_e {v : Value} {K : Option Addr → Nat → Nat → Prop} (h : asSl v K) : ∃ p n c, v = .slice p n c ∧ K p n c := by cases v <;> first | exact ⟨_, _, _, rfl, h⟩ | exact h.elim
def asMap (v : Value) (K : Option Nat → Prop) : Prop := match v with
  | .map b => K b
  | _ => False
theorem asMap_e {v : Value} {K : Option Nat → Prop} (h : asMap v K) : ∃ b, v = .map b ∧ K b := by cases v <;> first | exact ⟨_, rfl, h⟩ | exact h.elim
def asV (v : Value) (K : Value → Prop) : Prop := K v
theorem asV_e {v : Value} {K : Value → Prop} (h : asV v K) : ∃ b, v = b ∧ K b := ⟨v, rfl, h⟩
def asF (f : FuncId) (v : Value) (K : Prop) : Prop := match v with
  | .func (.func g) ⟨[]⟩ ⟨[]⟩ => (match Nat.beq g f with | true => K | false => False)
  | _ => False
theorem asF_e {f : FuncId} {v : Value} {K : Prop} (h : asF f v K) : v = .func (.func f) #[] #[] ∧ K := by
  unfold asF at h
  split at h
  · split at h
    · rename_i hb; have := Nat.eq_of_beq_eq_true hb; subst this; exact ⟨rfl, h⟩
    · exact h.elim
  · exact h.elim
end
end Go.Px
