/- The soundness of an operation's proposition. -/
import Derived.Test.YtdajglfbbcbgpaaDoorPx3
import Derived.Laws.MakeOwn
namespace Go.Px
set_option linter.unusedVariables false
set_option linter.unusedSimpArgs false

section
variable {P : Program} {n : Nat} {o : Oper} {K : Fr → IMem → SH → Prop} {l : Fr} {I : IMem} {S : SH} {a : Act} {w : World} {Q : Exit → Act → World → Prop}

theorem run_equal {t : TypeId} {x y : Value} {b : Bool} (h : ∀ d, (Op.equalIn (d + 1) t x y).run P w = .ok b w) : (Op.equal t x y).run P w = .ok b w := h 9999
theorem run_eqlB {t : TypeId} {xo yo : Operand} {x y : Value} {b : Bool} (hg : (eqGuard .eql t xo yo x y).run P w = .ok () w) (hb : binOp .eql t x y = (do pure (.bool (← Op.equal t x y))))
    (h : ∀ d, (Op.equalIn (d + 1) t x y).run P w = .ok b w) : (do eqGuard .eql t xo yo x y; binOp .eql t x y : Sem Value).run P w = .ok (.bool b) w := by
  simp only [Sem.run_bind, hg, Result.andThen_ok, hb, run_equal h, Sem.run_pure]
theorem run_neqB {t : TypeId} {xo yo : Operand} {x y : Value} {b : Bool} (hg : (eqGuard .neq t xo yo x y).run P w = .ok () w) (hb : binOp .neq t x y = (do pure (.bool (!(← Op.equal t x y)))))
    (h : ∀ d, (Op.equalIn (d + 1) t x y).run P w = .ok b w) : (do eqGuard .neq t xo yo x y; binOp .neq t x y : Sem Value).run P w = .ok (.bool !b) w := by
  simp only [Sem.run_bind, hg, Result.andThen_ok, hb, run_equal h, Sem.run_pure]
theorem eqIn_ptr {t e : TypeId} {p : Option Addr} (hu : P.underlying t = some (.pointer e)) (d : Nat) : (Op.equalIn (d + 1) t (.pointer p) (.pointer none)).run P w = .ok p.isNone w := by
  cases p <;> simp [Op.equalIn, run_underlying hu]
theorem eqIn_sl {t e : TypeId} {p : Option Addr} {a b c d' : Nat} (hu : P.underlying t = some (.slice e)) (d : Nat) : (Op.equalIn (d + 1) t (.slice p a b) (.slice none c d')).run P w = .ok p.isNone w := by
  cases p <;> simp [Op.equalIn, run_underlying hu]
theorem eqIn_map {t k e : TypeId} {p : Option Nat} (hu : P.underlying t = some (.map k e)) (d : Nat) : (Op.equalIn (d + 1) t (.map p) (.map none)).run P w = .ok p.isNone w := by
  cases p <;> simp [Op.equalIn, run_underlying hu]
theorem eqIn_if {t : TypeId} {ms : Array (String × TypeId)} {x : Value} {b : Bool} (hu : P.underlying t = some (.interface ms)) (hb : isNilI x = some b) (d : Nat) : (Op.equalIn (d + 1) t x .nilIface).run P w = .ok b w := by
  cases x <;> simp [isNilI] at hb <;> subst hb <;> simp [Op.equalIn, run_underlying hu]

theorem guard_if {op : BinOp} {t : TypeId} {xo : Operand} {c : Value} {x : Value} {b : Bool} (ho : op = .eql ∨ op = .neq) (hb : isNilI x = some b) : (eqGuard op t xo (.const c) x .nilIface).run P w = .ok () w := by
  rcases ho with rfl | rfl <;> cases x <;> first | (simp [isNilI] at hb; done) | (cases xo <;> simp [eqGuard])
theorem eql_if {t : TypeId} {x : Value} {b : Bool} (hb : isNilI x = some b) : binOp .eql t x .nilIface = (do pure (.bool (← Op.equal t x .nilIface))) := by
  cases x <;> first | (simp [isNilI] at hb; done) | rfl
theorem neq_if {t : TypeId} {x : Value} {b : Bool} (hb : isNilI x = some b) : binOp .neq t x .nilIface = (do pure (.bool (!(← Op.equal t x .nilIface)))) := by
  cases x <;> first | (simp [isNilI] at hb; done) | rfl

theorem eqIn_sc {P : Program} {w : World} {t : TypeId} {td : TypeDesc} {x y : Value} {b : Bool} (hu : P.underlying t = some td) (h : eqS td x y = some b) (d : Nat) : (Op.equalIn (d + 1) t x y).run P w = .ok b w := by
  unfold eqS at h
  split at h
  · injection h with h; subst h; simp [Op.equalIn, run_underlying hu]
  · split at h
    · rename_i hk; have hk := of_decide_eq_true hk; subst hk
      injection h with h; subst h; simp [Op.equalIn, run_underlying hu]
    · cases h
  · injection h with h; subst h; simp [Op.equalIn, run_underlying hu]
  · cases h
theorem part_sc {P : Program} {w : World} {t : TypeId} {td : TypeDesc} {xs : Array Value} {x y : Value} {b : Bool} {o : Nat} (hu : P.underlying t = some td) (h : eqS td x y = some b) (hx : xs[o]? = some x) : (part t xs o).run P w = .ok x w := by
  have hag : aggB td = false := by unfold eqS at h; split at h <;> first | rfl | cases h
  simp [part, run_isAgg hu, hag, hx]
theorem run_partV {P : Program} {w : World} {t : TypeId} {xs : Array Value} {off : Nat} {x : Value} (h : partV P t xs off = some x) : (part t xs off).run P w = .ok x w := by
  unfold partV at h
  split at h
  · cases h
  · rename_i d hu
    obtain ⟨i, hi, hsz⟩ := info_of_underlying hu
    split at h
    · rename_i ha
      injection h with h; subst h
      simp [part, run_isAgg hu, ha, run_sizeOf hi, hsz]
    · rename_i ha
      simp [part, run_isAgg hu, ha, h]
theorem eqIn_struct {P : Program} {w : World} {t : TypeId} {fs : Array Field} {xs ys : Array Value} {b : Bool} {r : TypeId → Value → Value → Option Bool} {d : Nat} (hr : ∀ t x y c, r t x y = some c → (Op.equalIn d t x y).run P w = .ok c w)
    (hu : P.underlying t = some (.struct fs)) (hs : P.stoodInHeld t = false) (h : eqFs P r xs ys fs.toList = some b) :
    (Op.equalIn (d + 1) t (.agg xs) (.agg ys)).run P w = .ok b w := by
  unfold Op.equalIn
  simp only [Sem.run_bind, run_underlying hu, Result.andThen_ok]
  rw [← Array.forIn_toList]
  have hp : (program).run P w = .ok P w := rfl
  simp only [hp, Result.andThen_ok, hs, Bool.false_eq_true, if_false]
  have loop : ∀ (body : Field → Option Bool × Unit → Sem (ForInStep (Option Bool × Unit))) (hbody : ∀ (f : Field) (s : Option Bool × Unit) (x y : Value) (c : Bool), f.name ≠ "_" → partV P f.type xs f.offset = some x → partV P f.type ys f.offset = some y → r f.type x y = some c →
      (body f s).run P w = .ok (if c then .yield (none, ()) else .done (some false, ())) w), ∀ (l : List Field) (b : Bool), eqFs P r xs ys l = some b → (forIn l (none, ()) body : Sem (Option Bool × Unit)).run P w = .ok (if b then none else some false, ()) w := by
    intro body hbody l
    induction l with
    | nil => intro b h; simp [eqFs] at h; subst h; simp
    | cons f l ih =>
      intro b h
      unfold eqFs at h
      split at h
      · rename_i x y hn hx hy
        split at h
        · rename_i c c' hc hc'
          injection h with h; subst h
          have hb := hbody f (none, ()) x y c (of_decide_eq_false hn) hx hy hc
          simp only [List.forIn_cons, Sem.run_bind, hb, Result.andThen_ok]
          cases c
          · simp
          · simp only [if_true, ih c' hc']; simp
        · cases h
      · cases h
  rw [Sem.run_bind, loop _ ?_ fs.toList b h]
  · cases b <;> simp
  · intro f s x y c hn hx hy hc
    simp only [if_pos hn, Sem.run_bind, run_partV hx, run_partV hy, Result.andThen_ok, hr _ _ _ _ hc]
    cases c <;> rfl
theorem eqIn_V {P : Program} {w : World} : ∀ (n : Nat) (t : TypeId) (x y : Value) (b : Bool) (d : Nat), eqV P n t x y = some b → (Op.equalIn (d + n) t x y).run P w = .ok b w
  | 0, _, _, _, _, _, h => by simp [eqV] at h
  | n + 1, t, x, y, b, d, h => by
    unfold eqV at h
    split at h
    · cases h
    · rename_i td hu
      split at h
      · rename_i fs xs ys
        split at h
        · rename_i hs
          exact eqIn_struct (d := d + n) (fun t x y c hc => eqIn_V n t x y c d hc) hu hs h
        · cases h
      · exact eqIn_sc hu h (d + n)
theorem run_eqSt {op : BinOp} {t : TypeId} {xo yo : Operand} {xs ys : Array Value} {b : Bool} (ho : op = .eql ∨ op = .neq) (hs : (!P.eqGuardType P.depth t) = true) (h : eqV P 4 t (.agg xs) (.agg ys) = some b) (w : World) :
    (do eqGuard op t xo yo (.agg xs) (.agg ys); binOp op t (.agg xs) (.agg ys) : Sem Value).run P w = .ok (.bool (match op with | .eql => b | _ => !b)) w := by
  simp only [Bool.not_eq_true'] at hs
  have he : (Op.equal t (.agg xs) (.agg ys)).run P w = .ok b w := eqIn_V 4 t _ _ b 9996 h
  have hg : (eqGuard op t xo yo (.agg xs) (.agg ys)).run P w = .ok () w := by
    have hp : (program).run P w = .ok P w := rfl
    rcases ho with rfl | rfl <;> simp [eqGuard, hp, hs]
  rcases ho with rfl | rfl
  · have : binOp .eql t (.agg xs) (.agg ys) = (do pure (.bool (← Op.equal t (.agg xs) (.agg ys)))) := rfl
    simp only [Sem.run_bind, hg, Result.andThen_ok, this, he, Sem.run_pure]
  · have : binOp .neq t (.agg xs) (.agg ys) = (do pure (.bool (!(← Op.equal t (.agg xs) (.agg ys))))) := rfl
    simp only [Sem.run_bind, hg, Result.andThen_ok, this, he, Sem.run_pure]
theorem eqIn_ptr2 {t e : TypeId} {a : Addr} (hu : P.underlying t = some (.pointer e)) (hz : P.cellsOf e ≠ 0) (d : Nat) : (Op.equalIn (d + 1) t (.pointer (some a)) (.pointer (some a))).run P w = .ok true w := by
  cases hi : P.info? e with
  | none => simp [Program.cellsOf, hi] at hz
  | some i =>
    have hz' : i.size ≠ 0 := by rwa [Program.cellsOf, hi] at hz
    simp [Op.equalIn, run_underlying hu, run_sizeOf hi, hz', sameAddr]
theorem BinM.run {op : BinOp} {t : TypeId} {xo yo : Operand} {x y : Value} {K : Value → Prop} (h : BinM P op t xo yo x y K) : ∃ v, (∀ w, (do eqGuard op t xo yo x y; binOp op t x y : Sem Value).run P w = .ok v w) ∧ K v := by
  unfold BinM at h
  split at h
  case h_1 k a k' b =>
    by_cases hb : b = 0
    · rw [decide_eq_true hb] at h; exact h.elim
    · rw [decide_eq_false hb] at h
      simp only [bcase] at h
      split at h
      · rename_i hk; have hk := of_decide_eq_true hk; subst hk
        exact ⟨_, fun w => by simp [eqGuard, binOp, Op.intDiv, hb], h⟩
      · exact h.elim
  case h_2 k a k' b =>
    by_cases hb : b = 0
    · rw [decide_eq_true hb] at h; exact h.elim
    · rw [decide_eq_false hb] at h
      simp only [bcase] at h
      split at h
      · rename_i hk; have hk := of_decide_eq_true hk; subst hk
        exact ⟨_, fun w => by simp [eqGuard, binOp, Op.intDiv, hb], h⟩
      · exact h.elim
  case h_3 k a k' b =>
    by_cases hb : b < 0
    · rw [decide_eq_true hb] at h; exact h.elim
    · rw [decide_eq_false hb] at h
      exact ⟨_, fun w => by simp [eqGuard, binOp, Op.shift, hb], h⟩
  case h_4 k a k' b =>
    by_cases hb : b < 0
    · rw [decide_eq_true hb] at h; exact h.elim
    · rw [decide_eq_false hb] at h
      exact ⟨_, fun w => by simp [eqGuard, binOp, Op.shift, hb], h⟩
  case h_5 a b =>
    obtain ⟨h1, h⟩ := h
    have hm : IntKind.i64.max = 9223372036854775807 := by decide
    have hc : ¬ (((a.size + b.size : Nat) : Int) > IntKind.i64.max) := by rw [hm]; omega
    refine ⟨_, fun w => ?_, h⟩
    simp only [eqGuard, binOp, Op.stringOp, hc, if_false]
    simp
  case h_6 =>
    split at h
    · rename_i hu
      exact ⟨_, fun w => run_eqlB rfl rfl (eqIn_ptr hu), h⟩
    · exact h.elim
  case h_7 =>
    split at h
    · rename_i hu
      exact ⟨_, fun w => run_neqB rfl rfl (eqIn_ptr hu), h⟩
    · exact h.elim
  case h_8 =>
    split at h
    · rename_i e hu
      split at h
      · rename_i hz
        obtain ⟨rfl, h⟩ := h
        exact ⟨_, fun w => run_eqlB rfl rfl (eqIn_ptr2 hu (Nat.ne_of_beq_eq_false hz)), h⟩
      · exact h.elim
    · exact h.elim
  case h_9 =>
    split at h
    · rename_i e hu
      split at h
      · rename_i hz
        obtain ⟨rfl, h⟩ := h
        exact ⟨_, fun w => run_neqB rfl rfl (eqIn_ptr2 hu (Nat.ne_of_beq_eq_false hz)), h⟩
      · exact h.elim
    · exact h.elim
  case h_10 =>
    split at h
    · rename_i hu
      exact ⟨_, fun w => run_eqlB rfl rfl (eqIn_sl hu), h⟩
    · exact h.elim
  case h_11 =>
    split at h
    · rename_i hu
      exact ⟨_, fun w => run_neqB rfl rfl (eqIn_sl hu), h⟩
    · exact h.elim
  case h_12 =>
    split at h
    · rename_i hu
      exact ⟨_, fun w => run_eqlB rfl rfl (eqIn_map hu), h⟩
    · exact h.elim
  case h_13 =>
    split at h
    · rename_i hu
      exact ⟨_, fun w => run_neqB rfl rfl (eqIn_map hu), h⟩
    · exact h.elim
  case h_14 =>
    split at h
    · rename_i fs hu
      split at h
      · rename_i b hs hb
        exact ⟨_, fun w => run_eqSt (.inl rfl) hs hb w, h⟩
      · exact h.elim
    · exact h.elim
  case h_15 =>
    split at h
    · rename_i fs hu
      split at h
      · rename_i b hs hb
        exact ⟨_, fun w => run_eqSt (.inr rfl) hs hb w, h⟩
      · exact h.elim
    · exact h.elim
  case h_16 =>
    split at h
    · rename_i v he
      exact ⟨v, fun w => run_of_eval0 he, h⟩
    · exact h.elim

theorem eqIn_I {t ty : TypeId} {ms : Array (String × TypeId)} {x vy : Value} {b : Bool} (hu : P.underlying t = some (.interface ms)) (hb : eqI P x ty vy = some b) (d : Nat) : (Op.equalIn (d + 2) t x (.iface ty vy)).run P w = .ok b w := by
  cases x <;> simp only [eqI] at hb <;> first | (cases hb; done) | skip
  case nilIface => injection hb with hb; subst hb; simp [Op.equalIn, run_underlying hu]
  case iface tx vx =>
    split at hb
    · rename_i hne
      injection hb with hb; subst hb
      have hne := Nat.ne_of_beq_eq_false hne
      simp [Op.equalIn, run_underlying hu, hne]
    · rename_i he
      have he := Nat.eq_of_beq_eq_true he; subst he
      split at hb
      · rename_i k a k' c hcm huy
        split at hb
        · rename_i hk
          have hk := of_decide_eq_true hk; subst hk
          injection hb with hb; subst hb
          obtain ⟨i, hi, hic⟩ := Option.map_eq_some_iff.1 hcm
          have hti : (typeInfo tx).run P w = .ok i w := by simp [typeInfo, program, Sem.run, hi]
          unfold Op.equalIn
          simp only [Sem.run_bind, run_underlying hu, Result.andThen_ok, ne_eq, not_true_eq_false, if_false, hti, hic, Bool.not_true, Bool.false_eq_true]
          simp [Op.equalIn, run_underlying huy]
        · cases hb
      · cases hb
theorem guard_I {op : BinOp} {t ty : TypeId} {xo yo : Operand} {x vy : Value} : (eqGuard op t xo yo x (.iface ty vy)).run P w = .ok () w := by
  cases op <;> cases x <;> simp [eqGuard]
theorem eql_I {t ty : TypeId} {x vy : Value} {b : Bool} (hb : eqI P x ty vy = some b) : binOp .eql t x (.iface ty vy) = (do pure (.bool (← Op.equal t x (.iface ty vy)))) := by
  cases x <;> first | (simp [eqI] at hb; done) | rfl
theorem neq_I {t ty : TypeId} {x vy : Value} {b : Bool} (hb : eqI P x ty vy = some b) : binOp .neq t x (.iface ty vy) = (do pure (.bool (!(← Op.equal t x (.iface ty vy))))) := by
  cases x <;> first | (simp [eqI] at hb; done) | rfl
theorem run_equal2 {t : TypeId} {x y : Value} {b : Bool} (h : ∀ d, (Op.equalIn (d + 2) t x y).run P w = .ok b w) : (Op.equal t x y).run P w = .ok b w := h 9998
theorem BinP.run {op : BinOp} {t : TypeId} {xo yo : Operand} {x y : Value} {K : Value → Prop} (h : BinP P op t xo yo x y K) : ∃ v, (∀ w, (do eqGuard op t xo yo x y; binOp op t x y : Sem Value).run P w = .ok v w) ∧ K v := by
  unfold BinP at h
  split at h
  · split at h
    · split at h
      · rename_i c ms _ hu
        obtain ⟨b, hb, h⟩ := h
        exact ⟨_, fun w => run_eqlB (guard_if (.inl rfl) hb) (eql_if hb) (eqIn_if hu hb), h⟩
      · exact h.elim
    · split at h
      · rename_i c ms _ hu
        obtain ⟨b, hb, h⟩ := h
        exact ⟨_, fun w => run_neqB (guard_if (.inr rfl) hb) (neq_if hb) (eqIn_if hu hb), h⟩
      · exact h.elim
    · exact h.elim
  · split at h
    · split at h
      · rename_i ms hu
        obtain ⟨b, hb, h⟩ := h
        refine ⟨_, fun w => ?_, h⟩
        simp only [Sem.run_bind, guard_I, Result.andThen_ok, eql_I hb, run_equal2 (eqIn_I (w := w) hu hb), Sem.run_pure]
      · exact h.elim
    · split at h
      · rename_i ms hu
        obtain ⟨b, hb, h⟩ := h
        refine ⟨_, fun w => ?_, h⟩
        simp only [Sem.run_bind, guard_I, Result.andThen_ok, neq_I hb, run_equal2 (eqIn_I (w := w) hu hb), Sem.run_pure]
      · exact h.elim
    · exact h.elim
  · exact BinM.run h

theorem maxL_run {k : IntKind} : ∀ (vs : List Value) (x m : Int), MaxL k x vs = some m → (vs.foldlM Builtin.max2 (.int k x)).run P w = .ok (.int k m) w
  | [], x, m, h => by simp [MaxL] at h; subst h; rfl
  | v :: vs, x, m, h => by
    cases v <;> first | (simp [MaxL] at h; done) | skip
    rename_i k' y
    simp only [MaxL] at h
    have ih := maxL_run vs _ m h
    simp only [List.foldlM_cons, Builtin.max2, Sem.run_bind, Sem.run_pure, Result.andThen_ok, ih]
theorem minL_run {k : IntKind} : ∀ (vs : List Value) (x m : Int), MinL k x vs = some m → (vs.foldlM Builtin.min2 (.int k x)).run P w = .ok (.int k m) w
  | [], x, m, h => by simp [MinL] at h; subst h; rfl
  | v :: vs, x, m, h => by
    cases v <;> first | (simp [MinL] at h; done) | skip
    rename_i k' y
    simp only [MinL] at h
    have ih := minL_run vs _ m h
    simp only [List.foldlM_cons, Builtin.min2, Sem.run_bind, Sem.run_pure, Result.andThen_ok, ih]

theorem run_places {fs : Array Field} : ∀ (l : List Field) (out : List (Nat × Nat)), (∀ f ∈ l, (P.info? f.type).isSome = true) →
    (l.mapM fun f => (do pure (f.offset, ← sizeOf f.type) : Sem (Nat × Nat))).run P w = .ok (l.map fun f => (f.offset, P.cellsOf f.type)) w
  | [], _, _ => by simp
  | f :: l, out, h => by
    have h0 := h f (List.mem_cons_self ..)
    obtain ⟨i, hi⟩ := Option.isSome_iff_exists.1 h0
    have ih := run_places (fs := fs) l out (fun f hf => h f (List.mem_cons_of_mem _ hf))
    have hc : P.cellsOf f.type = i.size := by simp [Program.cellsOf, hi]
    simp only [List.mapM_cons, Sem.run_bind, run_sizeOf hi, Result.andThen_ok, Sem.run_pure, ih, List.map_cons, hc]

theorem map_evs (l : Fr) (parts : Array (Nat × Operand)) : (parts.map fun (p : Nat × Operand) => match p with | (i, x) => (i, ev l x)) = (evs l parts).toArray := by
  rw [evs]; exact (Array.toArray_toList (xs := parts.map _)).symm.trans (by simp)


theorem run_placesA {fs : Array Field} (h : ∀ f ∈ fs.toList, (P.info? f.type).isSome = true) :
    (fs.mapM fun f => (do pure (f.offset, ← sizeOf f.type) : Sem (Nat × Nat))).run P w = .ok (fs.map fun f => (f.offset, P.cellsOf f.type)) w := by
  have := run_places (P := P) (w := w) (fs := fs) fs.toList [] h
  obtain ⟨l⟩ := fs
  dsimp only at this
  simp only [List.mapM_toArray, Sem.run_map, this, Result.andThen_ok, List.map_toArray]
theorem run_build {t : TypeId} {parts : Array (Nat × Operand)} {fs : Array Field} {i : TypeInfo} {z : Value} {cs : Array Value} (ho : o.op = .build t parts) (hu : P.underlying t = some (.struct fs)) (hi : P.info? t = some i)
    (hiz : i.zero = some z) (hall : ∀ f ∈ fs.toList, (P.info? f.type).isSome = true) (hf : fillS P fs.toList z.cells (evs l parts) = some cs) : (execOp (ev l) o).run P w = .ok (.value (.agg cs)) w := by
  have hfill : ∀ place : Nat → Option (Nat × Nat), (∀ i f, fs.toList[i]? = some f → place i = some (f.offset, P.cellsOf f.type)) → Instr.fill place z.cells (evs l parts) = some cs := fun place hp => fillS_ok hp _ _ _ hf
  have hp : (fs.mapM fun f => Prod.mk f.offset <$> sizeOf f.type).run P w = .ok (fs.map fun f => (f.offset, P.cellsOf f.type)) w := by simpa using run_placesA (P := P) (w := w) hall
  have h1 := hfill (fun x => Option.map (fun f => (f.offset, P.cellsOf f.type)) fs[x]?) (fun i f hf => by simp at hf; simp [hf])
  simp [execOp, ho, Instr.build, zeroValue, typeInfo, program, Sem.run, hi, hiz, run_underlying hu, hp, map_evs, h1]
theorem run_buildSlice {t e : TypeId} {len : Nat} {parts : Array (Nat × Operand)} {i : TypeInfo} {z : Value} {cs : Array Value} (ho : o.op = .buildSlice t len parts) (hu : P.underlying t = some (.slice e)) (hi : P.info? e = some i)
    (hz : i.zero = some z) (h1 : z.cells.size = i.size) (h2 : len * i.size ≤ 16777216) (hf : fillA i.size (repV len z.cells.toList).toArray (evs l parts) = some cs) :
    (execOp (ev l) o).run P w = .ok (.value (.slice (some ⟨w.heap.size, 0, none⟩) len len)) { w with heap := w.heap.push (.cells cs e (0, 0)) } := by
  have hfill := fillA_ok _ _ _ hf
  rw [← repV_eq, h1] at hfill
  have h2' : ¬ (len * i.size > 2 ^ 24) := by omega
  by_cases h0 : len * i.size = 0
  · have e0 : Array.range 0 = #[] := rfl
    rw [h0, e0] at hfill
    rw [Array.map_empty] at hfill
    simp [execOp, ho, Instr.buildSlice, run_underlying hu, run_sizeOf hi, h0, map_evs, newRow, newObj, Sem.run, hfill, e0]
  · simp [execOp, ho, Instr.buildSlice, run_underlying hu, run_sizeOf hi, h0, h2', map_evs, newRow, newObj, Sem.run, zeroValue, typeInfo, program, hi, hz, h1, hfill]
theorem run_makeSl {t e : TypeId} {x y : Operand} {k k' : IntKind} {len cap : Int} {i : TypeInfo} {z : Value} (ho : o.op = .makeSlice t x y) (hu : P.underlying t = some (.slice e)) (hx : ev l x = .int k len) (hy : ev l y = .int k' cap)
    (hi : P.info? e = some i) (hz : i.zero = some z) (hb : z.cells.size = i.size) (h0 : 0 ≤ len) (h1 : len ≤ cap) (h2 : cap ≤ 9223372036854775807) (h3 : i.bytes * cap ≤ 281474976710656) :
    (execOp (ev l) o).run P w = .ok (.value (.slice (some ⟨w.heap.size, 0, none⟩) len.toNat cap.toNat)) { w with heap := w.heap.push (.cells (repV cap.toNat z.cells.toList).toArray e (0, 0)) } := by
  have hr := run_make (P := P) w t e i z hu hi hz k k' len cap h0 h1 h3 h2
  have he : madeCells z.cells (cap.toNat * i.size) = (repV cap.toNat z.cells.toList).toArray := by
    have := repV_eq cap.toNat z.cells
    rw [hb] at this
    rw [← this, madeCells, hb]
  rw [he] at hr
  simp only [execOp, ho, hx, hy, Sem.run_bind, hr, Result.andThen_ok, Sem.run_pure]
  rfl
theorem run_bounds {isS : Bool} {len cap : Nat} {lo hi : Option Value} {n1 n2 : Nat}
    (hr1 : (match hi with | some v => Instr.sliceBound v cap (if isS then .sliceAcap else .sliceAlen) | none => pure len : Sem Nat).run P w = .ok n1 w)
    (hr2 : (match lo with | some v => Instr.sliceBound v n1 .sliceB | none => pure 0 : Sem Nat).run P w = .ok n2 w) :
    (Instr.sliceBounds isS len cap lo hi none).run P w = .ok (n2, n1, cap) w := by
  unfold Instr.sliceBounds
  cases hi with
  | none =>
    have : len = n1 := by simpa using hr1
    subst this
    cases lo with
    | none => have : 0 = n2 := by simpa using hr2
              subst this; simp
    | some v => simp only [Sem.run_bind, Sem.run_pure, Result.andThen_ok, Option.isSome_none, Bool.false_eq_true, if_false] at hr2 ⊢; rw [hr2]; simp
  | some u =>
    cases lo with
    | none => have : 0 = n2 := by simpa using hr2
              subst this
              simp only [Sem.run_bind, Sem.run_pure, Result.andThen_ok] at hr1 ⊢; rw [hr1]; simp
    | some v => simp only [Sem.run_bind, Sem.run_pure, Result.andThen_ok, Option.isSome_none, Bool.false_eq_true, if_false] at hr1 hr2 ⊢; rw [hr1]; simp only [Result.andThen_ok]; rw [hr2]; simp
theorem run_slStr {t : TypeId} {x : Operand} {lo hi : Option Operand} {s : ByteArray} {n1 n2 : Nat} (ho : o.op = .slice t x lo hi none) (hu : P.underlying t = some .string) (hx : ev l x = .string s)
    (hr1 : (match hi.map (ev l) with | some v => Instr.sliceBound v s.size .sliceAlen | none => pure s.size).run P w = .ok n1 w)
    (hr2 : (match lo.map (ev l) with | some v => Instr.sliceBound v n1 .sliceB | none => pure 0).run P w = .ok n2 w) : (execOp (ev l) o).run P w = .ok (.value (.string (s.extract n2 n1))) w := by
  have hb := run_bounds (P := P) (w := w) (isS := false) (by simpa using hr1) hr2
  simp [execOp, ho, Instr.sliceAt, run_underlying hu, Instr.slice, hx, hb]
theorem run_slSl {t e : TypeId} {x : Operand} {lo hi : Option Operand} {ad : Option Addr} {len cap : Nat} {inf : TypeInfo} {n1 n2 : Nat} (ho : o.op = .slice t x lo hi none) (hu : P.underlying t = some (.slice e)) (hx : ev l x = .slice ad len cap)
    (hinf : P.info? e = some inf)
    (hr1 : (match hi.map (ev l) with | some v => Instr.sliceBound v cap .sliceAcap | none => pure len).run P w = .ok n1 w)
    (hr2 : (match lo.map (ev l) with | some v => Instr.sliceBound v n1 .sliceB | none => pure 0).run P w = .ok n2 w) :
    (execOp (ev l) o).run P w = .ok (.value (.slice (slA ad cap n2 inf.size) (n1 - n2) (cap - n2))) w := by
  have hb := run_bounds (P := P) (w := w) (isS := true) (by simpa using hr1) hr2
  simp [execOp, ho, Instr.sliceAt, run_underlying hu, Instr.slice, hx, hb, run_sizeOf hinf, slA]

theorem run_slAr {t e : TypeId} {x : Operand} {lo hi : Option Operand} {ad : Addr} {len : Nat} {inf : TypeInfo} {n1 n2 : Nat} (ho : o.op = .slice t x lo hi none) (hu : P.underlying t = some (.array len e)) (hx : ev l x = .pointer (some ad))
    (hinf : P.info? e = some inf)
    (hr1 : (match hi.map (ev l) with | some v => Instr.sliceBound v len .sliceAlen | none => pure len).run P w = .ok n1 w)
    (hr2 : (match lo.map (ev l) with | some v => Instr.sliceBound v n1 .sliceB | none => pure 0).run P w = .ok n2 w) :
    (execOp (ev l) o).run P w = .ok (.value (.slice (slA (some ad) len n2 inf.size) (n1 - n2) (len - n2))) w := by
  have hb := run_bounds (P := P) (w := w) (isS := false) (by simpa using hr1) hr2
  simp [execOp, ho, Instr.sliceAt, run_underlying hu, Instr.sureAddr, hx, hb, run_sizeOf hinf, slA]
  split <;> rfl

theorem run_slMx {t e : TypeId} {x mx hi : Operand} {lo : Option Operand} {ad : Option Addr} {len cap : Nat} {inf : TypeInfo} {n0 n1 n2 : Nat} (ho : o.op = .slice t x lo (some hi) (some mx)) (hu : P.underlying t = some (.slice e)) (hx : ev l x = .slice ad len cap)
    (hinf : P.info? e = some inf) (hr0 : (Instr.sliceBound (ev l mx) cap .slice3Acap).run P w = .ok n0 w) (hr1 : (Instr.sliceBound (ev l hi) n0 .slice3B).run P w = .ok n1 w)
    (hr2 : (match lo.map (ev l) with | some v => Instr.sliceBound v n1 .slice3C | none => pure 0).run P w = .ok n2 w) :
    (execOp (ev l) o).run P w = .ok (.value (.slice (slA ad n0 n2 inf.size) (n1 - n2) (n0 - n2))) w := by
  have hb : (Instr.sliceBounds true len cap (lo.map (ev l)) (some (ev l hi)) (some (ev l mx))).run P w = .ok (n2, n1, n0) w := by
    unfold Instr.sliceBounds
    cases lo with
    | none =>
      have : 0 = n2 := by simpa using hr2
      subst this
      simp [hr0, hr1]
    | some v => simp at hr2; simp [hr0, hr1, hr2]
  simp [execOp, ho, Instr.sliceAt, run_underlying hu, Instr.slice, hx, hb, run_sizeOf hinf, slA]

/-- operations that read the heap (loads and calls apart) -/
def mapT (P : Program) (t : TypeId) : Bool := match P.underlying t with | some (.map _ _) => true | _ => false
def rdB (P : Program) : Op → Bool
  | .lookup .. => true
  | .convert s d _ => (match P.underlying s, P.underlying d with | some (.slice _), some .string => true | some (.pointer _), some .unsafePointer => true | some .unsafePointer, some (.pointer _) => true | _, _ => false)
  | .call { callee := .builtin .len, argTypes, .. } => argTypes.toList.any (mapT P)
  | _ => false
/-- operations that leave the world alone, and ask nothing of it -/
def quietB (P : Program) (op : Op) : Bool := match rdB P op with
  | true => false
  | false => match op with
    | .move _ | .assign _ | .nilCheck _ | .build .. | .indexAddr .. | .index .. | .slice .. | .binOp .. | .unOp .. | .extract .. | .field .. | .fieldAddr .. | .pick .. | .makeInterface .. => true
    | .convert s d _ => (match P.underlying s, P.underlying d with | some .string, some (.slice _) => false | _, _ => true)
    | .call { callee := .builtin b, .. } => match b with
      | .len | .cap | .max | .min | .unsafeSliceData => true
      | _ => false
    | _ => false
theorem BlkAt.run {b : Nat} {cs : Array Value} {e : TypeId} (h : BlkAt I S b cs e) (hw : Sat I S w) : w.shape? b = some (e, cs.size) := by
  obtain ⟨fz, h⟩ := h
  have : w.heap[b]? = some (.cells cs e fz) := by
    rcases h with h | h
    · exact hw.im _ _ h
    · exact hw.own _ h
  simp [World.shape?, this]
theorem run_view {b : Nat} {x : TypeId × Nat} (h : w.shape? b = some x) : (viewAt b).run P w = .ok none w := by
  simp [viewAt, shape, Sem.run, h]
theorem run_toUnsafe {s d t : TypeId} {ad : Addr} {cs : Array Value} {e : TypeId} (hs : P.underlying s = some (.pointer t)) (hd : P.underlying d = some .unsafePointer) (ht : P.cellsOf t ≠ 0) (hi : ∃ i, P.info? t = some i) (hb : BlkAt I S ad.block cs e) (ho : ad.off < cs.size) (hw : Sat I S w) :
    (convert s d (.pointer (some ad))).run P w = .ok (.pointer (some ad)) w := by
  have h1 := hb.run hw
  obtain ⟨i, hi⟩ := hi
  have hz : i.size ≠ 0 := by rwa [Program.cellsOf, hi] at ht
  have h2 : (Conv.seenAt ad).run P w = .ok ad w := by simp [Conv.seenAt, run_view h1]
  have h3 : (cellsIn ad.block).run P w = .ok (some cs.size) w := by simp [cellsIn, shape, Sem.run, h1]
  have h4 : ¬ (cs.size ≤ ad.off) := by omega
  simp [convert, run_underlying hs, run_underlying hd, Conv.unsafePointer, h2, h3, run_sizeOf hi, hz, h4]
theorem run_ofUnsafe {s d t : TypeId} {ad : Addr} {cs : Array Value} {e : TypeId} (hs : P.underlying s = some .unsafePointer) (hd : P.underlying d = some (.pointer t)) (ht : P.cellsOf t ≠ 0) (hi : ∃ i, P.info? t = some i) (hb : BlkAt I S ad.block cs e)
    (hl : liesAt P P.depth e (cs.size / P.cellsOf e) ad.off t 1 = true) (hw : Sat I S w) : (convert s d (.pointer (some ad))).run P w = .ok (.pointer (some ad)) w := by
  have h1 := hb.run hw
  obtain ⟨i, hi⟩ := hi
  have hz : i.size ≠ 0 := by rwa [Program.cellsOf, hi] at ht
  have h2 : (Conv.seenAt ad).run P w = .ok ad w := by simp [Conv.seenAt, run_view h1]
  have h3 : (variablesAt ad t 1).run P w = .ok true w := by simp [variablesAt, program, shape, Sem.run, h1, hl]
  simp [convert, run_underlying hs, run_underlying hd, Conv.unsafePointer, h2, h3, run_sizeOf hi, hz]
theorem info_of_cells {t : TypeId} (h : P.cellsOf t ≠ 0) : ∃ i, P.info? t = some i := by
  cases hi : P.info? t with
  | none => simp [Program.cellsOf, hi] at h
  | some i => exact ⟨i, rfl⟩
theorem MpC.run {r : Nat} {es : Array MapEntry} {clock : Nat} (h : MpC I S r es clock) (hw : Sat I S w) : w.heap[r]? = some (.map es clock) := by
  rcases h with h | h
  · exact hw.im _ _ h
  · exact hw.own _ h
theorem run_checkKey' {kt : TypeId} {kd : TypeDesc} {k : Value} {e : Bool} (hu : P.underlying kt = some kd) (hk : keyD kd = true) (n : Nat) : (Instr.checkKey e (n + 1) kt k).run P w = .ok () w := by
  simp only [Instr.checkKey, Sem.run_bind, run_underlying hu, Result.andThen_ok]
  cases kd <;> first | (simp [keyD] at hk; done) | simp
theorem run_checkKey {kt : TypeId} {kd : TypeDesc} {k : Value} {e : Bool} (hu : P.underlying kt = some kd) (hk : keyD kd = true) : (Instr.checkKey e 10000 kt k).run P w = .ok () w := run_checkKey' hu hk 9999
theorem run_findKey {kt : TypeId} {kd : TypeDesc} {k : Value} {es : List MapEntry} {r : Option (Nat × Value)} (hu : P.underlying kt = some kd) (h : Instr.findNow kd k es 0 = some r) : (Instr.findKey kt k es).run P w = .ok r w := by
  simp only [Instr.findKey, Sem.run_bind, run_underlying hu, Result.andThen_ok, h, Sem.run_pure]
theorem run_zero {t : TypeId} {z : Value} (h : (P.info? t).bind (·.zero) = some z) : (zeroValue t).run P w = .ok z w := by
  obtain ⟨i, hi, hz⟩ := Option.bind_eq_some_iff.1 h
  simp [zeroValue, typeInfo, program, Sem.run, hi, hz]
theorem run_lookup {t kt et : TypeId} {kd : TypeDesc} {m : Option Nat} {k z v : Value} {ok b : Bool} (hu : P.underlying t = some (.map kt et)) (hk : P.underlying kt = some kd) (hz : (P.info? et).bind (·.zero) = some z) (hkd : keyD kd = true)
    (h : MapAt I S m kd k z v b) (hw : Sat I S w) : (Instr.lookup t (.map m) k ok).run P w = .ok (lkV ok v b) w := by
  obtain ⟨es, hm, hf⟩ := h
  have tail : ∀ es' : Array MapEntry, es' = es → (do
      Instr.checkKey es'.isEmpty 10000 kt k
      let (v, ok') ← match ← Instr.findKey kt k es'.toList with
        | some (_, v) => pure (v, true)
        | none => pure (← zeroValue et, false)
      pure (if ok then .tuple #[v, .bool ok'] else v) : Sem Value).run P w = .ok (lkV ok v b) w := by
    rintro _ rfl
    rcases hf with ⟨i, hf, rfl⟩ | ⟨hf, rfl, rfl⟩
    · simp only [Sem.run_bind, run_checkKey hk hkd, Result.andThen_ok, run_findKey hk hf, Sem.run_pure]
      cases ok <;> rfl
    · simp only [Sem.run_bind, run_checkKey hk hkd, Result.andThen_ok, run_findKey hk hf, Sem.run_pure, run_zero hz]
      cases ok <;> rfl
  unfold Instr.lookup
  simp only [Sem.run_bind, run_underlying hu, Result.andThen_ok]
  cases m with
  | none =>
    subst hm
    have := tail #[] rfl
    simp only [Sem.run_bind, Sem.run_pure, Result.andThen_ok] at this ⊢
    exact this
  | some r =>
    obtain ⟨clock, hc⟩ := hm
    have hg : (getObj r).run P w = .ok (.map es clock) w := by simp [getObj, Sem.run, hc.run hw]
    have := tail es rfl
    simp only [Sem.run_bind, Sem.run_pure, Result.andThen_ok, hg] at this ⊢
    exact this
theorem run_bytes {p : Option Addr} {m c : Nat} {s : ByteArray} (h : BytesAt I S p m s) (hw : Sat I S w) : (Conv.bytesToString (.slice p m c)).run P w = .ok (.string s) w := by
  cases p with
  | none =>
    have : s = ByteArray.empty := h
    subst this; simp [Conv.bytesToString]
  | some a =>
    obtain ⟨rfl, hc⟩ := h
    have hcells : (loadCells a s.size).run P w = .ok (s.data.toList.map fun c => Value.int .u8 (c.toNat : Int)).toArray w := by
      have := run_loadCells (P := P) (w := w) (a := a) (s.data.toList.map fun c => Value.int .u8 (c.toNat : Int)) 0 #[] (fun j v hj => by
        rw [List.getElem?_map] at hj
        obtain ⟨c, hc', rfl⟩ := Option.map_eq_some_iff.1 hj
        rw [Nat.zero_add]
        refine (hc j c ?_).run hw
        by_cases hlt : j < s.size
        · rw [getElem?_pos s j hlt, ← hc', List.getElem?_eq_getElem (by simpa using hlt)]; rfl
        · rw [List.getElem?_eq_none (by simpa using hlt)] at hc'; cases hc')
      simpa [loadCells] using this
    have loop : ∀ (f : Value → ByteArray → Sem (ForInStep ByteArray)), (∀ (c : UInt8) s, f (.int .u8 (c.toNat : Int)) s = pure (ForInStep.yield (s.push (UInt8.ofNat (c.toNat : Int).toNat)))) →
        ∀ (l : List UInt8) (acc : ByteArray), (forIn (l.map fun c => Value.int .u8 (c.toNat : Int)) acc f : Sem ByteArray).run P w = .ok ⟨acc.data ++ l.toArray⟩ w := by
      intro f hf l
      induction l with
      | nil => intro acc; simp
      | cons c l ih =>
        intro acc
        simp only [List.map_cons, List.forIn_cons, Sem.run_bind, Sem.run_pure, Result.andThen_ok, hf]
        rw [ih]
        congr 1
        apply ByteArray.ext
        simp [ByteArray.push]
    simp only [Conv.bytesToString, Sem.run_bind, hcells, Result.andThen_ok]
    rw [List.forIn_toArray, loop _ (fun c s => rfl)]
    simp only [Result.andThen_ok, Sem.run_pure]
    congr 2
    apply ByteArray.ext
    simp
theorem val_rd (hq : rdB P o.op = true) (h : PreOp P n o K l I S) : ∃ v, (∀ w, Sat I S w → (execOp (ev l) o).run P w = .ok (.value v) w) ∧ putP n o.dst v K l I S := by
  unfold PreOp at h
  split at h
  all_goals first
    | (rename_i ho; rw [ho] at hq; cases hq; done)
    | skip
  · rename_i t x ix ok ho -- lookup
    split at h
    · rename_i kt et m hu hx
      split at h
      · rename_i kd z hk hz
        split at h
        · rename_i hkd
          obtain ⟨v, b, hm, hp⟩ := exTy_elim h
          exact ⟨_, fun w hw => by simp only [execOp, ho, hx, Sem.run_bind, run_lookup hu hk hz hkd hm hw, Result.andThen_ok, Sem.run_pure], hp⟩
        · exact h.elim
      · exact h.elim
    · exact h.elim
  · rename_i sr d x ho -- convert
    split at h
    · rename_i e hs hd
      split at h
      · rename_i p m c he hx
        obtain ⟨s, hb, hp⟩ := h
        exact ⟨_, fun w hw => by simp only [execOp, ho, hx, convert, Sem.run_bind, run_underlying hs, run_underlying hd, run_underlying he, run_bytes hb hw, Result.andThen_ok, Sem.run_pure], hp⟩
      · exact h.elim
    · rename_i t hs hd
      split at h
      · rename_i p hx
        split at h
        · rename_i hz
          obtain ⟨ad, rfl, cs, e, hb, hlt, hp⟩ := ptrP_elim h
          have hz := Nat.ne_of_beq_eq_false hz
          exact ⟨_, fun w hw => by simp only [execOp, ho, hx, Sem.run_bind, run_toUnsafe hs hd hz (info_of_cells hz) hb hlt hw, Result.andThen_ok, Sem.run_pure], hp⟩
        · exact h.elim
      · exact h.elim
    · rename_i t hs hd
      split at h
      · rename_i p hx
        split at h
        · rename_i hz
          obtain ⟨ad, rfl, cs, e, hb, hlt, hp⟩ := ptrP_elim h
          have hz := Nat.ne_of_beq_eq_false hz
          exact ⟨_, fun w hw => by simp only [execOp, ho, hx, Sem.run_bind, run_ofUnsafe hs hd hz (info_of_cells hz) hb hlt hw, Result.andThen_ok, Sem.run_pure], hp⟩
        · exact h.elim
      · exact h.elim
    · rename_i e hs hd
      rw [ho] at hq
      simp [rdB, hs, hd] at hq
    · rename_i hno hno2 hno3 hno4
      rw [ho] at hq
      unfold rdB at hq
      dsimp only at hq
      split at hq
      · rename_i e hs hd; exact absurd hd (hno _ hs)
      · rename_i e hs hd; exact absurd hd (hno2 _ hs)
      · rename_i e hs hd; exact absurd hd (hno3 _ hs)
      · cases hq
  · rename_i c ho -- call
    obtain ⟨callee, ⟨args⟩, ⟨argTypes⟩⟩ := c
    dsimp only at h
    rw [ho] at hq
    split at h
    · cases hq
    · rename_i t x
      split at h
      · rename_i s hu hx; simp [rdB, mapT, hu] at hq
      · rename_i e _ m _ hu hx; simp [rdB, mapT, hu] at hq
      · rename_i kt et m hu hx
        obtain ⟨c, hl, hp⟩ := h
        refine ⟨_, fun w hw => ?_, hp⟩
        cases m with
        | none =>
          have : c = 0 := hl
          subst this
          simp [execOp, ho, resolve, invoke, builtin, Builtin.len_, hx, run_underlying hu, goInt]
        | some r =>
          obtain ⟨es, clock, hc, rfl⟩ := hl
          simp [execOp, ho, resolve, invoke, builtin, Builtin.len_, hx, run_underlying hu, goInt, getObj, Sem.run, hc.run hw]
      · exact h.elim
    all_goals first | exact h.elim | (simp [rdB] at hq; done)
  · unfold rdB at hq
    split at hq
    · rename_i ho; exact absurd (‹∀ (t : TypeId) (x ix : Operand) (ok : Bool), o.op = Op.lookup t x ix ok → False› _ _ _ _ ho) id
    · rename_i ho; exact absurd (‹∀ (s d : TypeId) (x : Operand), o.op = Op.convert s d x → False› _ _ _ ho) id
    · rename_i ho; exact absurd (‹∀ (c : Call), o.op = Op.call c → False› _ ho) id
    · cases hq
/-! ### maps that change -/
theorem findNow_spec {kd : TypeDesc} {k : Value} : ∀ {es : List MapEntry} {j i : Nat} {v : Value}, Instr.findNow kd k es j = some (some (i, v)) → ∃ e, j ≤ i ∧ es[i - j]? = some e ∧ Instr.sameNow kd k e.key = some true ∧ e.val = v
  | [], j, i, v, h => by simp [Instr.findNow] at h
  | e :: es, j, i, v, h => by
    unfold Instr.findNow at h
    split at h
    · rename_i hs
      injection h with h; injection h with h; injection h with h1 h2
      subst h1
      exact ⟨e, Nat.le_refl _, by simp, hs, h2⟩
    · obtain ⟨e', h1, h2, h3⟩ := findNow_spec h
      exact ⟨e', by omega, by rw [show i - j = (i - (j + 1)) + 1 by omega]; simpa using h2, h3⟩
    · cases h
theorem ba_beq {a b : ByteArray} : (a == b) = true ↔ a = b := by
  constructor
  · intro h
    apply ByteArray.ext
    exact eq_of_beq (α := Array UInt8) h
  · rintro rfl
    exact beq_self_eq_true (α := Array UInt8) a.data
theorem sameNow_bits {kd : TypeDesc} {k k' : Value} (h : Instr.sameNow kd k k' = some true) (n : Nat) : Instr.sameBits n k' k = true := by
  unfold Instr.sameNow at h
  split at h
  · split at h
    · rename_i e; subst e
      injection h with h
      have := eq_of_beq h
      subst this
      simp [Instr.sameBits]
    · cases h
  · injection h with h
    have := ba_beq.1 h
    subst this
    simp only [Instr.sameBits]
    exact ba_beq.2 rfl
  · injection h with h
    have := eq_of_beq h
    subst this
    simp [Instr.sameBits]
  · cases h
theorem run_setMap {r i : Nat} {es es' : Array MapEntry} {clock clock' : Nat} (hi : S[i]? = some (r, .map es clock)) (hw : Sat I S w) : ∃ w', (setObj r (.map es' clock')).run P w = .ok () w' ∧ Sat I (S.set i (r, .map es' clock')) w' := by
  have hr := hw.own _ (List.mem_of_getElem? hi)
  dsimp only at hr
  refine ⟨{ w with heap := w.heap.setIfInBounds r (.map es' clock') }, by simp [setObj, Sem.run, hr], hw.set hi rfl rfl rfl ?_ ?_ rfl⟩
  · have : r < w.heap.size := by
      rcases Nat.lt_or_ge r w.heap.size with h | h
      · exact h
      · rw [Array.getElem?_eq_none h] at hr; cases hr
    simp [this]
  · intro b' hb
    show (w.heap.setIfInBounds r (.map es' clock'))[b']? = _
    rw [Array.getElem?_setIfInBounds, if_neg (fun e => hb e.symm)]
theorem run_getMap {r i : Nat} {es : Array MapEntry} {clock : Nat} (hi : S[i]? = some (r, .map es clock)) (hw : Sat I S w) : (getObj r).run P w = .ok (.map es clock) w := by
  have hr := hw.own _ (List.mem_of_getElem? hi)
  dsimp only at hr
  simp [getObj, Sem.run, hr]
theorem run_setIter {r i : Nat} {m : Option Nat} {a b : Nat} {sn : Array Nat} {o' : Obj} (hi : S[i]? = some (r, .mapIter m a sn b)) (hw : Sat I S w) : ∃ w', (setObj r o').run P w = .ok () w' ∧ Sat I (S.set i (r, o')) w' := by
  have hr := hw.own _ (List.mem_of_getElem? hi)
  dsimp only at hr
  refine ⟨{ w with heap := w.heap.setIfInBounds r o' }, by simp [setObj, Sem.run, hr], hw.set hi rfl rfl rfl ?_ ?_ rfl⟩
  · have : r < w.heap.size := by
      rcases Nat.lt_or_ge r w.heap.size with h | h
      · exact h
      · rw [Array.getElem?_eq_none h] at hr; cases hr
    simp [this]
  · intro b' hb
    show (w.heap.setIfInBounds r o')[b']? = _
    rw [Array.getElem?_setIfInBounds, if_neg (fun e => hb e.symm)]
theorem NxP.run {ad : Addr} {K0 : Prop} {K1 : Value → Value → SH → Prop} {ty : TypeId} (h : NxP I S ad K0 K1) (hw : Sat I S w) :
    ∃ v w' T, (Instr.next (.pointer (some ad)) false ty).run P w = .ok v w' ∧ Sat I T w' ∧ ((v = .tuple #[.bool false] ∧ T = S ∧ K0) ∨ ∃ k u, v = .tuple #[.bool true, k, u] ∧ K1 k u T) := by
  obtain ⟨i, m, since, seen, last, es, clock, h0, hi, hm, hl, hb, hK0, hK1⟩ := h
  obtain ⟨blk, off, sp⟩ := ad
  dsimp only at h0 hi; subst h0
  have hr := hw.own _ (List.mem_of_getElem? hi)
  dsimp only at hr
  have hg : (getObj blk).run P w = .ok (.mapIter (some m) since seen last) w := by simp [getObj, Sem.run, hr]
  have hgm : (getObj m).run P w = .ok (.map es clock) w := by simp [getObj, Sem.run, hm.run hw]
  have hold : (es.filter fun e => !seen.contains e.born).filter (·.born < since) = es.filter fun e => !seen.contains e.born := by
    apply Array.filter_eq_self.2
    intro e he
    simp only [Array.mem_filter] at he
    simpa using hb e he.1
  have hnew : (es.filter fun e => !seen.contains e.born).filter (·.born ≥ since) = #[] := by
    apply Array.eq_empty_of_size_eq_zero
    rw [Array.size_eq_zero_iff, Array.filter_eq_empty_iff]
    intro e he
    simp only [Array.mem_filter] at he
    have := hb e he.1
    simp; omega
  have hno : (!seen.isEmpty && !es.isEmpty && es.all (·.born ≥ last)) = false := by
    cases hes : es.isEmpty with
    | true => simp
    | false =>
      have hne : 0 < es.size := by
        rcases Nat.eq_zero_or_pos es.size with h | h
        · simp [Array.isEmpty, h] at hes
        · exact h
      have h1 : es.all (·.born ≥ last) = false := by
        rw [Array.all_eq_false]
        refine ⟨0, hne, ?_⟩
        have := hb es[0] (Array.getElem_mem hne)
        simp; omega
      simp [h1]
  cases hle : (es.filter fun e => !seen.contains e.born).isEmpty with
  | true =>
    have hall : ∀ e ∈ es, seen.contains e.born = true := by
      have := Array.isEmpty_iff.1 hle
      rw [Array.filter_eq_empty_iff] at this
      intro e he
      simpa using this e he
    refine ⟨.tuple #[.bool false], w, S, ?_, hw, .inl ⟨rfl, rfl, hK0 hall⟩⟩
    simp only [Instr.next, Sem.run_bind, hg, hgm, Result.andThen_ok, hno, hold, hnew, hle, Bool.false_eq_true, if_false, if_true, Sem.run_pure, Array.append_empty]
    have hem := Array.isEmpty_iff.1 hle
    rw [hem]
    simp [choose, Sem.run, Question.forced]
  | false =>
    have hpos : 0 < (es.filter fun e => !seen.contains e.born).size := by
      rcases Nat.eq_zero_or_pos (es.filter fun e => !seen.contains e.born).size with h | h
      · rw [Array.eq_empty_of_size_eq_zero h] at hle; cases hle
      · exact h
    have hch : ∀ c, 0 < c → ∃ j w', (choose (.mapNext c)).run P w = .ok j w' ∧ j < c ∧ (w' = w ∨ w' = { w with drawn := w.drawn + 1 }) := by
      intro c hc
      by_cases hf : c ≤ 1
      · exact ⟨0, w, by simp [choose, Sem.run, Question.forced, hf], hc, .inl rfl⟩
      · exact ⟨w.tape w.drawn (.mapNext c) % c, { w with drawn := w.drawn + 1 }, by simp [choose, Sem.run, Question.forced, hf, Question.cut], Nat.mod_lt _ hc, .inr rfl⟩
    obtain ⟨j, w1, hj, hjl, hw1⟩ := hch _ hpos
    have hs1 : Sat I S w1 := by rcases hw1 with rfl | rfl; exact hw; exact hw.drew
    have hmem := Array.getElem_mem hjl
    simp only [Array.mem_filter, Bool.not_eq_true'] at hmem
    obtain ⟨w', h1, h2⟩ := run_setIter (P := P) (o' := .mapIter (some m) since (seen.push ((es.filter fun e => !seen.contains e.born)[j]).born) clock) hi hs1
    refine ⟨_, w', _, ?_, h2, .inr ⟨_, _, rfl, hK1 _ hmem.1 hmem.2⟩⟩
    have hcs : (((es.filter fun e => !seen.contains e.born).map some).size) = (es.filter fun e => !seen.contains e.born).size := by simp
    simp only [Instr.next, Sem.run_bind, hg, hgm, Result.andThen_ok, hno, hold, hnew, hle, Bool.false_eq_true, if_false, Sem.run_pure, Array.append_empty, Array.empty_append, hcs, hj]
    have hget : ((es.filter fun e => !seen.contains e.born).map some)[j]? = some (some ((es.filter fun e => !seen.contains e.born)[j])) := by simp [hjl]
    rw [hget]
    simp only [Sem.run_bind, h1, Result.andThen_ok, Sem.run_pure]
theorem run_mapUpdate {t kt et : TypeId} {kd : TypeDesc} {m : Option Nat} {k v : Value} {K : SH → Prop} (hu : P.underlying t = some (.map kt et)) (hk : P.underlying kt = some kd) (hkd : keyD kd = true) (h : MapSt S m kd k v K) (hw : Sat I S w) :
    ∃ T w', (Instr.mapUpdate t (.map m) k v).run P w = .ok () w' ∧ Sat I T w' ∧ K T := by
  obtain ⟨r, i, es, clock, es', clock', rfl, hi, hs, hK⟩ := h
  obtain ⟨w', h1, h2⟩ := run_setMap (P := P) (es' := es') (clock' := clock') hi hw
  refine ⟨_, w', ?_, h2, hK⟩
  unfold mapSet at hs
  split at hs
  · rename_i j u hf
    injection hs with hs
    injection hs with e1 e2
    subst e1; subst e2
    obtain ⟨e, _, he, hsame, _⟩ := findNow_spec hf
    have hk' : (Instr.keyThatStays (((es[j]?).map (·.key)).getD k) k).run P w = .ok k w := by
      have hej : es[j]? = some e := by simpa using he
      rw [hej]
      unfold Instr.keyThatStays
      rw [if_pos (by simpa using sameNow_bits hsame _)]
      rfl
    simp only [Instr.mapUpdate, Sem.run_bind, run_underlying hu, Result.andThen_ok, run_getMap hi hw, run_checkKey hk hkd, run_findKey hk hf, hk']
    exact h1
  · rename_i hf
    injection hs with hs
    injection hs with e1 e2
    subst e1; subst e2
    simp only [Instr.mapUpdate, Sem.run_bind, run_underlying hu, Result.andThen_ok, run_getMap hi hw, run_checkKey hk hkd, run_findKey hk hf]
    exact h1
  · cases hs
theorem run_delete {t t2 ty kt et : TypeId} {kd : TypeDesc} {m : Option Nat} {k : Value} {K : SH → Prop} (hu : P.underlying t = some (.map kt et)) (hk : P.underlying kt = some kd) (hkd : keyD kd = true) (h : MapDl S m kd k K) (hw : Sat I S w) :
    ∃ T w', (Builtin.delete_ #[t, t2] ty #[.map m, k]).run P w = .ok (.tuple #[]) w' ∧ Sat I T w' ∧ K T := by
  cases m with
  | none => exact ⟨S, w, by simp [Builtin.delete_, run_underlying hu, run_checkKey hk hkd], hw, h⟩
  | some r =>
    obtain ⟨i, es, clock, es', hi, hd, hK⟩ := h
    obtain ⟨w', h1, h2⟩ := run_setMap (P := P) (es' := es') (clock' := clock) hi hw
    refine ⟨_, w', ?_, h2, hK⟩
    unfold mapDel at hd
    split at hd
    · rename_i j u hf
      injection hd with hd; subst hd
      simp [Builtin.delete_, run_underlying hu, run_checkKey hk hkd, run_getMap hi hw, run_findKey hk hf, h1]
    · rename_i hf
      injection hd with hd; subst hd
      simp [Builtin.delete_, run_underlying hu, run_checkKey hk hkd, run_getMap hi hw, run_findKey hk hf, h1]
    · cases hd
theorem run_sdNone {at' : Array TypeId} {ty : TypeId} {m c : Nat} : (Builtin.unsafeSliceData_ at' ty #[.slice none m c]).run P w = .ok (.pointer none) w := rfl
theorem run_sdSome {at' : Array TypeId} {ty : TypeId} {m c : Nat} {ad : Addr} (hc : c ≠ 0) : (Builtin.unsafeSliceData_ at' ty #[.slice (some ad) m c]).run P w = .ok (.pointer (some ad)) w := by
  show (if c ≠ 0 then (pure (Value.pointer (some ad)) : Sem Value) else _).run P w = _
  rw [if_pos hc]; rfl
theorem val_pure (h : match eval0 P (execOp (ev l) o) with | some (.value v) => putP n o.dst v K l I S | _ => False) :
    ∃ v, (∀ w, (execOp (ev l) o).run P w = .ok (.value v) w) ∧ putP n o.dst v K l I S := by
  split at h
  · rename_i v he
    exact ⟨v, fun w => run_of_eval0 he, h⟩
  · exact h.elim
theorem PreOp.val (hq : quietB P o.op = true) (h : PreOp P n o K l I S) : ∃ v, (∀ w, (execOp (ev l) o).run P w = .ok (.value v) w) ∧ putP n o.dst v K l I S := by
  unfold PreOp at h
  split at h
  · rename_i x ho -- move
    exact ⟨_, fun w => by simp [execOp, ho], h⟩
  · rename_i x ho
    exact ⟨_, fun w => by simp [execOp, ho], h⟩
  · rename_i ho; rw [ho] at hq; cases hq
  · rename_i ho; rw [ho] at hq; cases hq
  · rename_i ho; rw [ho] at hq; cases hq
  · rename_i ho; rw [ho] at hq; cases hq
  · rename_i x ho -- nilCheck
    split at h
    · rename_i p hx
      obtain ⟨ad, rfl, h⟩ := ptrP_elim h
      exact ⟨_, fun w => by simp [execOp, ho, hx], h⟩
    · rename_i f fs cs hx
      exact ⟨_, fun w => by simp [execOp, ho, hx], h⟩
    · exact h.elim
  · rename_i t parts ho -- build
    split at h
    · rename_i fs z hu hz
      split at h
      · rename_i cs hall hf
        obtain ⟨i, hi, hiz⟩ := Option.bind_eq_some_iff.1 hz
        exact ⟨_, fun w => run_build ho hu hi hiz (fun f hm => List.all_eq_true.1 hall f hm) hf, h⟩
      · exact h.elim
    · exact h.elim
  · rename_i ho; rw [ho] at hq; cases hq
  · rename_i ho; rw [ho] at hq; cases hq
  · rename_i t x ix ho -- indexAddr
    split at h
    · rename_i e base len _ k i hu hx hix
      split at h
      · rename_i inf hinf
        obtain ⟨ad, rfl, h0, h1, h⟩ := ptrP_elim h
        exact ⟨_, fun w => by simp [execOp, ho, Instr.indexAt, asIntOf, hx, hix, run_underlying hu, h0, h1, run_sizeOf hinf], h⟩
      · exact h.elim
    · rename_i len e ad k i hu hx hix
      split at h
      · rename_i inf hinf
        obtain ⟨h0, h1, h⟩ := h
        exact ⟨_, fun w => by simp [execOp, ho, Instr.indexAt, Instr.sureAddr, asIntOf, hx, hix, run_underlying hu, h0, h1, run_sizeOf hinf], h⟩
      · exact h.elim
    · exact h.elim
  · rename_i t x ix ho -- index
    split at h
    · rename_i s k i hu hx hix
      obtain ⟨c, h0, hc, h⟩ := h
      exact ⟨_, fun w => by simp [execOp, ho, Instr.index, asIntOf, hx, hix, run_underlying hu, h0, hc], h⟩
    · exact val_pure h
  · rename_i t x lo hi mx ho -- slice
    split at h
    · rename_i s hu hx
      obtain ⟨n1, hr1, h⟩ := BndP.run (P := P) (code := .sliceAlen) h
      obtain ⟨n2, hr2, h⟩ := BndP.run (P := P) (code := .sliceB) h
      exact ⟨_, fun w => run_slStr ho hu hx (hr1 w) (hr2 w), h⟩
    · rename_i e ad len cap hu hx
      split at h
      · rename_i inf hinf
        obtain ⟨n1, hr1, h⟩ := BndP.run (P := P) (code := .sliceAcap) h
        obtain ⟨n2, hr2, h⟩ := BndP.run (P := P) (code := .sliceB) h
        exact ⟨_, fun w => run_slSl ho hu hx hinf (hr1 w) (hr2 w), h⟩
      · exact h.elim
    · rename_i e ad len cap mx hu hx
      split at h
      · rename_i inf hi hinf
        obtain ⟨n0, hr0, h⟩ := BndP.run (P := P) (code := .slice3Acap) h
        obtain ⟨n1, hr1, h⟩ := BndP.run (P := P) (code := .slice3B) h
        obtain ⟨n2, hr2, h⟩ := BndP.run (P := P) (code := .slice3C) h
        exact ⟨_, fun w => run_slMx ho hu hx hinf (hr0 w) (hr1 w) (hr2 w), h⟩
      · exact h.elim
    · rename_i ln e ad hu hx
      split at h
      · rename_i inf hinf
        obtain ⟨n1, hr1, h⟩ := BndP.run (P := P) (code := .sliceAlen) h
        obtain ⟨n2, hr2, h⟩ := BndP.run (P := P) (code := .sliceB) h
        exact ⟨_, fun w => run_slAr ho hu hx hinf (hr1 w) (hr2 w), h⟩
      · exact h.elim
    · exact h.elim
  · rename_i ho; rw [ho] at hq; cases hq
  · rename_i ho; rw [ho] at hq; cases hq
  · rename_i ho; rw [ho] at hq; cases hq
  · rename_i ho; rw [ho] at hq; cases hq
  · rename_i ho; rw [ho] at hq; cases hq
  · rename_i ho; rw [ho] at hq; cases hq
  · rename_i ho; rw [ho] at hq; cases hq
  · rename_i ho; rw [ho] at hq; cases hq
  · rename_i sr d x ho -- convert
    rw [ho] at hq
    split at h
    · rename_i e hs hd
      simp [quietB, rdB, hs, hd] at hq
    · rename_i e hs hd
      simp [quietB, rdB, hs, hd] at hq
    · rename_i e hs hd
      simp [quietB, rdB, hs, hd] at hq
    · rename_i e hs hd
      simp [quietB, rdB, hs, hd] at hq
    · exact val_pure h
  · rename_i op t x y t' ho -- binOp
    obtain ⟨v, hr, hK⟩ := BinP.run (P := P) h
    exact ⟨v, fun w => by simp only [execOp, ho, Sem.run_bind, hr, Result.andThen_ok, Sem.run_pure], hK⟩
  · rename_i c ho -- call
    obtain ⟨callee, ⟨args⟩, ⟨argTypes⟩⟩ := c
    dsimp only at h
    split at h
    · rw [ho] at hq; cases hq
    · rename_i t x
      split at h
      · rename_i s hu hx
        exact ⟨_, fun w => by simp [execOp, ho, resolve, invoke, builtin, Builtin.len_, hx, run_underlying hu, goInt], h⟩
      · rename_i e _ m _ hu hx
        exact ⟨_, fun w => by simp [execOp, ho, resolve, invoke, builtin, Builtin.len_, hx, run_underlying hu, goInt], h⟩
      · rename_i hu hx
        rw [ho] at hq
        simp [quietB, rdB, mapT, hu] at hq
      · exact h.elim
    · rw [ho] at hq; cases hq
    · rename_i t x
      split at h
      · rename_i e _ _ m hu hx
        exact ⟨_, fun w => by simp [execOp, ho, resolve, invoke, builtin, Builtin.cap_, hx, run_underlying hu, goInt], h⟩
      · exact h.elim
    · rename_i x rest
      split at h
      · rename_i k b hx
        split at h
        · rename_i m hm
          refine ⟨_, fun w => ?_, h⟩
          have := maxL_run (P := P) (w := w) _ _ _ hm
          simp only [execOp, ho, resolve, invoke, builtin, Builtin.max_, Sem.run_bind, Sem.run_pure, Result.andThen_ok, List.map_toArray, List.map_cons, hx, this]
        · exact h.elim
      · exact h.elim
    · rename_i x rest
      split at h
      · rename_i k b hx
        split at h
        · rename_i m hm
          refine ⟨_, fun w => ?_, h⟩
          have := minL_run (P := P) (w := w) _ _ _ hm
          simp only [execOp, ho, resolve, invoke, builtin, Builtin.min_, Sem.run_bind, Sem.run_pure, Result.andThen_ok, List.map_toArray, List.map_cons, hx, this]
        · exact h.elim
      · exact h.elim
    · rw [ho] at hq; cases hq
    · rename_i t x
      split at h
      · rename_i e p _ c hu hx
        obtain ⟨hc, hp⟩ := h
        refine ⟨_, fun w => ?_, hp⟩
        cases p with
        | none => simp only [execOp, ho, resolve, invoke, builtin, Sem.run_bind, Sem.run_pure, Result.andThen_ok, List.map_toArray, List.map_cons, List.map_nil, hx, run_sdNone]
        | some ad => simp only [execOp, ho, resolve, invoke, builtin, Sem.run_bind, Sem.run_pure, Result.andThen_ok, List.map_toArray, List.map_cons, List.map_nil, hx, run_sdSome (hc rfl)]
      · exact h.elim
    · rw [ho] at hq; cases hq
    · rw [ho] at hq; cases hq
    · rw [ho] at hq; cases hq
    · exact h.elim
  · exact val_pure h

/-- operations that leave the world alone -/
def stillB (P : Program) (op : Op) : Bool := quietB P op || rdB P op
theorem PreOp.still (hq : stillB P o.op = true) (h : PreOp P n o K l I S) : ∃ v, (∀ w, Sat I S w → (execOp (ev l) o).run P w = .ok (.value v) w) ∧ putP n o.dst v K l I S := by
  cases hr : rdB P o.op with
  | true => exact val_rd hr h
  | false =>
    obtain ⟨v, hv, hp⟩ := h.val (by simpa [stillB, hr] using hq)
    exact ⟨v, fun w _ => hv w, hp⟩
theorem run_loadBytes {n : Nat} {ad : Addr} {s : ByteArray} {acc : ByteArray} (hsp : ad.spot = none) (hn : s.size = n) (h : ∀ (i : Nat) (c : UInt8), s[i]? = some c → w.cell? (ad.add i) = some (.int .u8 (c.toNat : Int))) :
    (loadBytes ad acc n).run P w = .ok (acc ++ s) w := by
  have key : ∀ (k : Nat) (acc : ByteArray) (j : Nat), j + k = n → (loadBytes (ad.add j) acc k).run P w = .ok (acc ++ s.extract j n) w := by
    intro k
    induction k with
    | zero =>
      intro acc j hj
      have : s.extract j n = ByteArray.empty := by
        apply ByteArray.ext
        simp [ByteArray.data_extract]
        omega
      rw [this]
      simp [loadBytes]
    | succ k ih =>
      intro acc j hj
      have hlt : j < s.size := by omega
      have hc := h j _ (getElem?_pos s j hlt)
      have hl : (load (ad.add j)).run P w = .ok (.int .u8 ((s[j]'hlt).toNat : Int)) w := by simp [load, Sem.run, hc]
      simp only [loadBytes, Sem.run_bind, hl, Result.andThen_ok]
      have hadd : (ad.add j).add 1 = ad.add (j + 1) := by
        obtain ⟨b, o, sp⟩ := ad
        dsimp only at hsp; subst hsp
        have e : ∀ k, (⟨b, o, none⟩ : Addr).add k = ⟨b, o + k, none⟩ := fun k => by
          unfold Addr.add; split
          · rename_i h; subst h; rfl
          · rfl
        rw [e, e]
        have e' : (⟨b, o + j, none⟩ : Addr).add 1 = ⟨b, o + j + 1, none⟩ := rfl
        rw [e', Nat.add_assoc]
      rw [hadd, ih _ (j + 1) (by omega)]
      congr 1
      have hx : s.extract j n = ByteArray.empty.push (s[j]'hlt) ++ s.extract (j + 1) n := by
        apply ByteArray.ext
        simp only [ByteArray.data_extract, ByteArray.data_append, ByteArray.data_push]
        apply Array.ext'
        simp only [Array.toList_extract, Array.toList_append, Array.toList_push, ByteArray.data_empty, List.extract_eq_take_drop, List.nil_append]
        have hd : s.data.toList.drop j = s[j]'hlt :: s.data.toList.drop (j + 1) := by
          rw [List.drop_eq_getElem_cons (by simpa using hlt)]; rfl
        rw [hd, show n - j = (n - (j + 1)) + 1 by omega, List.take_succ_cons]
        rfl
      rw [hx]
      have hb : (s[j]'hlt).toNat.toUInt8 = s[j]'hlt := by simp
      apply ByteArray.ext
      simp [ByteArray.data_append, ByteArray.data_push, hb]
  have := key n acc 0 (by omega)
  have e0 : ad.add 0 = ad := rfl
  rw [e0] at this
  rw [this]
  have : s.extract 0 n = s := by rw [← hn]; exact ByteArray.extract_zero_size
  rw [this]
theorem UsP.run {t t' ty u : TypeId} {k : IntKind} {p : Option Addr} {m : Int} {K : ByteArray → SH → Prop} (hu : P.underlying t = some (.pointer u)) (h : UsP P u I S p m K) (hw : Sat I S w) :
    ∃ s w' T, (Builtin.unsafeString_ #[t, t'] ty #[.pointer p, .int k m]).run P w = .ok (.string s) w' ∧ Sat I T w' ∧ K s T := by
  rcases h with ⟨rfl, hK⟩ | ⟨ad, i, cs, e, fz, s, rfl, h0, h1, hi, hl, hb, hK⟩
  · refine ⟨_, w, S, ?_, hw, hK⟩
    have e : Builtin.unsafeString_ #[t, t'] ty #[.pointer p, .int k 0] = (asInt (.int k 0) >>= fun n => _) := rfl
    rw [e, Sem.run_bind, asInt_int, Sem.run_pure, Result.andThen_ok]
    cases p <;> simp
  · have hown := hw.own _ (List.mem_of_getElem? hi)
    dsimp only at hown
    have hsh : w.shape? ad.block = some (e, cs.size) := by simp [World.shape?, hown]
    have hva : (variablesAt ad u m.toNat).run P w = .ok true w := by simp [variablesAt, program, shape, Sem.run, hsh, hl]
    have hel : (elemOf t).run P w = .ok u w := by simp [elemOf, run_underlying hu]
    obtain ⟨hbs, hbc⟩ := hb
    have hpos : 0 < s.size := by omega
    have hsp : ad.spot = none := by
      obtain ⟨h, _⟩ := hbc 0 _ (getElem?_pos s 0 hpos)
      exact h
    have hld := run_loadBytes (P := P) (w := w) (acc := ByteArray.empty) hsp hbs (fun i c hc => (hbc i c hc).run hw)
    have hn0 : ¬ (m = 0) := by omega
    have hn1 : ¬ (m < 0) := by omega
    have hn2 : ¬ (m > 9223372036854775807) := by omega
    refine ⟨s, w.freeze ad m.toNat, _, ?_, hw.set (w' := w.freeze ad m.toNat) hi ?_ ?_ ?_ ?_ ?_ (by simp only [World.freeze]; split <;> rfl), hK⟩
    · have e : Builtin.unsafeString_ #[t, t'] ty #[.pointer (some ad), .int k m] = (asInt (.int k m) >>= fun n => _) := rfl
      rw [e, Sem.run_bind, asInt_int, Sem.run_pure, Result.andThen_ok]
      simp [hn0, hn1, hn2, hva, hel, hld, freeze, Sem.run]
    all_goals (have hn3 : m.toNat ≠ 0 := by omega)
    · simp [World.freeze, hn3]
    · simp [World.freeze, hn3]
    · simp [World.freeze, hn3]
    · simp only [World.freeze, hn3, if_false]
      rw [Array.getElem?_modify, if_pos rfl, hown]
      rfl
    · intro b' hne
      simp only [World.freeze, hn3, if_false]
      rw [Array.getElem?_modify, if_neg (fun e => hne e.symm)]
theorem ClrP.run {t ty e : TypeId} {i : TypeInfo} {z : Value} {p : Option Addr} {m c : Nat} {K : SH → Prop} (hu : P.underlying t = some (.slice e)) (hi : P.info? e = some i) (hz : i.zero = some z) (h : ClrP z.cells.toList S p m K) (hw : Sat I S w) :
    ∃ w' T, (Builtin.clear_ #[t] ty #[.slice p m c]).run P w = .ok (.tuple #[]) w' ∧ Sat I T w' ∧ K T := by
  rcases h with ⟨rfl, hK⟩ | ⟨ad, rfl, hm, hst⟩
  · refine ⟨w, S, ?_, hw, hK⟩
    cases p <;> simp [Builtin.clear_, run_underlying hu]
  · obtain ⟨T, w', h1, h2, h3⟩ := hst.runC (P := P) hw
    refine ⟨w', T, ?_, h2, h3⟩
    obtain ⟨k, rfl⟩ : ∃ k, m = k + 1 := ⟨m - 1, by omega⟩
    have hzc := zeroCells_repV z.cells (k + 1)
    simp [Builtin.clear_, run_underlying hu, zeroValue, typeInfo, hi, hz, hzc, h1]
theorem call_sound {c : Call} (ho : o.op = .call c) (h : match c.callee, c.argTypes.toList, c.args.toList with
    | .value f, _, args => (match ev l f with
      | .func (.func fid) fs cs => (match callable P fid with
        | true => Runs P fid (fs.toList ++ args.map (ev l) ++ cs.toList).toArray I S fun v J T => asTy P o.type v fun v => putP n o.dst v K l J T
        | false => RunsX P fid (fs.toList ++ args.map (ev l) ++ cs.toList).toArray I S fun v J T => asTy P o.type v fun v => putP n o.dst v K l J T)
      | _ => False)
    | .builtin .len, [t], [x] => (match P.underlying t, ev l x with
      | some .string, .string s => putP n o.dst (.int .i64 (s.size : Int)) K l I S
      | some (.slice _), .slice _ m _ => putP n o.dst (.int .i64 (m : Int)) K l I S
      | some (.map _ _), .map m => ∃ c : Nat, MapLen I S m c ∧ putP n o.dst (.int .i64 (c : Int)) K l I S
      | _, _ => False)
    | .builtin .delete, [t, _], [x, k] => (match P.underlying t, ev l x with
      | some (.map kt _), .map m => (match P.underlying kt with
        | some kd => (match keyD kd with
          | true => MapDl S m kd (ev l k) fun T => putP n o.dst (.tuple #[]) K l I T
          | false => False)
        | none => False)
      | _, _ => False)
    | .builtin .cap, [t], [x] => (match P.underlying t, ev l x with
      | some (.slice _), .slice _ _ m => putP n o.dst (.int .i64 (m : Int)) K l I S
      | _, _ => False)
    | .builtin .max, _, x :: rest => (match ev l x with
      | .int k a => (match MaxL k a (rest.map (ev l)) with | some m => putP n o.dst (.int k m) K l I S | none => False)
      | _ => False)
    | .builtin .min, _, x :: rest => (match ev l x with
      | .int k a => (match MinL k a (rest.map (ev l)) with | some m => putP n o.dst (.int k m) K l I S | none => False)
      | _ => False)
    | .builtin .append, [t, t'], [s, x] => (match P.underlying t with
      | some (.slice e) => (match P.info? e with
        | some i => (match i.zero with
          | some z => (match Nat.beq z.cells.size i.size && Nat.blt 0 i.size with
            | true => AppG e i.size i.bytes z.cells.toList (P.underlying t') I S (ev l s) (ev l x) fun p m c T => putP n o.dst (.slice p m c) K l I T
            | false => False)
          | none => False)
        | none => False)
      | _ => False)
    | .builtin .unsafeSliceData, [t], [x] => (match P.underlying t, ev l x with
      | some (.slice _), .slice p _ c => (p.isSome = true → c ≠ 0) ∧ putP n o.dst (.pointer p) K l I S
      | _, _ => False)
    | .builtin .unsafeString, [t, _], [x, y] => (match P.underlying t, ev l x, ev l y with
      | some (.pointer u), .pointer p, .int _ m => UsP P u I S p m fun s T => putP n o.dst (.string s) K l I T
      | _, _, _ => False)
    | .builtin .clear, [t], [x] => (match P.underlying t, ev l x with
      | some (.slice e), .slice p m _ => (match (P.info? e).bind (·.zero) with
        | some z => ClrP z.cells.toList S p m fun T => putP n o.dst (.tuple #[]) K l I T
        | none => False)
      | _, _ => False)
    | .builtin .copy, [t, _], [d, x] => (match P.underlying t with
      | some (.slice e) => (match P.info? e with
        | some i => CpyP i.size I S (ev l d) (ev l x) fun m T => putP n o.dst (.int .i64 (m : Int)) K l I T
        | none => False)
      | _ => False)
    | _, _, _ => False) (hw : Sat I S w) (ha : FrOK n l a) : o.wp P a w (NX n I K) Q := by
  obtain ⟨callee, ⟨args⟩, ⟨argTypes⟩⟩ := c
  dsimp only at h
  split at h
  · rename_i f _ _
    split at h
    · rename_i fid fs cs hf
      split at h
      · rename_i hc
        refine wp_enter ?_ h hw ha
        unfold callable at hc
        split at hc
        · rename_i fn hfn
          simp only [Bool.and_eq_true, Bool.not_eq_true'] at hc
          have hb : fn.body.isNone = false := by cases hbd : fn.body <;> simp [hbd] at hc ⊢
          have hca : fs ++ (args.map (ev l)).toArray ++ cs = (fs.toList ++ args.map (ev l) ++ cs.toList).toArray := by simp
          simp only [execOp, ho, resolve, hf, Deferred.ofValue, Sem.run_bind, Sem.run_pure, Result.andThen_ok, invoke, List.map_toArray, hca]
          simp only [callFunc, program, Sem.run, Sem.run_bind, Result.andThen_ok, hfn, hc.1, hb, Bool.false_eq_true, if_false, Sem.run_pure]
        · cases hc
      · obtain ⟨v, w', J, T, hr, hle, hs, hv⟩ := h w hw
        have hca : fs ++ (args.map (ev l)).toArray ++ cs = (fs.toList ++ args.map (ev l) ++ cs.toList).toArray := by simp
        have hx : (execOp (ev l) o).run P w = .ok (.value v) w' := by
          simp only [execOp, ho, resolve, hf, Deferred.ofValue, Sem.run_bind, Sem.run_pure, Result.andThen_ok, invoke, List.map_toArray, hca, hr]
        simp only [Oper.wp, ha.eval, hx, Oper.upon]
        exact (asTy_elim hv).nx ha hle hs
    · exact h.elim
  · rename_i t x
    split at h
    · rename_i s hu hx
      refine wp_value ?_ h hw ha
      simp [execOp, ho, resolve, invoke, builtin, Builtin.len_, hx, run_underlying hu, goInt]
    · rename_i e _ m _ hu hx
      refine wp_value ?_ h hw ha
      simp [execOp, ho, resolve, invoke, builtin, Builtin.len_, hx, run_underlying hu, goInt]
    · rename_i kt et m hu hx
      obtain ⟨c, hl, hp⟩ := h
      refine wp_value ?_ hp hw ha
      cases m with
      | none =>
        have : c = 0 := hl
        subst this
        simp [execOp, ho, resolve, invoke, builtin, Builtin.len_, hx, run_underlying hu, goInt]
      | some r =>
        obtain ⟨es, clock, hc, rfl⟩ := hl
        simp [execOp, ho, resolve, invoke, builtin, Builtin.len_, hx, run_underlying hu, goInt, getObj, Sem.run, hc.run hw]
    · exact h.elim
  · rename_i t t2 x k
    split at h
    · rename_i kt et m hu hx
      split at h
      · rename_i kd hk
        split at h
        · rename_i hkd
          obtain ⟨T, w', hr, hs, hK⟩ := run_delete (t2 := t2) (ty := o.type) hu hk hkd h hw
          refine wp_value ?_ hK hs ha
          simp only [execOp, ho, resolve, invoke, builtin, Sem.run_bind, Sem.run_pure, Result.andThen_ok, List.map_toArray, List.map_cons, List.map_nil, hx, hr]
        · exact h.elim
      · exact h.elim
    · exact h.elim
  · rename_i t x
    split at h
    · rename_i e _ _ m hu hx
      refine wp_value ?_ h hw ha
      simp [execOp, ho, resolve, invoke, builtin, Builtin.cap_, hx, run_underlying hu, goInt]
    · exact h.elim
  · rename_i x rest
    split at h
    · rename_i k b hx
      split at h
      · rename_i m hm
        refine wp_value ?_ h hw ha
        have := maxL_run (P := P) (w := w) _ _ _ hm
        simp only [execOp, ho, resolve, invoke, builtin, Builtin.max_, Sem.run_bind, Sem.run_pure, Result.andThen_ok, List.map_toArray, List.map_cons, hx, this]
      · exact h.elim
    · exact h.elim
  · rename_i x rest
    split at h
    · rename_i k b hx
      split at h
      · rename_i m hm
        refine wp_value ?_ h hw ha
        have := minL_run (P := P) (w := w) _ _ _ hm
        simp only [execOp, ho, resolve, invoke, builtin, Builtin.min_, Sem.run_bind, Sem.run_pure, Result.andThen_ok, List.map_toArray, List.map_cons, hx, this]
      · exact h.elim
    · exact h.elim
  · rename_i t t' s x
    split at h
    · rename_i e hu
      split at h
      · rename_i i hi
        split at h
        · rename_i z hz
          split at h
          · rename_i hb
            simp only [Bool.and_eq_true] at hb
            obtain ⟨p, m, cc, w', T, hr, hs, hK⟩ := AppG.run (P := P) (ty := o.type) hu hi hz (Nat.eq_of_beq_eq_true hb.1) (by simpa using hb.2) h hw
            refine wp_value ?_ hK hs ha
            simp only [execOp, ho, resolve, invoke, builtin, Sem.run_bind, Sem.run_pure, Result.andThen_ok, List.map_toArray, List.map_cons, List.map_nil, hr]
          · exact h.elim
        · exact h.elim
      · exact h.elim
    · exact h.elim
  · rename_i t x
    split at h
    · rename_i e p _ c hu hx
      obtain ⟨hc, hp⟩ := h
      refine wp_value ?_ hp hw ha
      cases p with
      | none => simp only [execOp, ho, resolve, invoke, builtin, Sem.run_bind, Sem.run_pure, Result.andThen_ok, List.map_toArray, List.map_cons, List.map_nil, hx, run_sdNone]
      | some ad => simp only [execOp, ho, resolve, invoke, builtin, Sem.run_bind, Sem.run_pure, Result.andThen_ok, List.map_toArray, List.map_cons, List.map_nil, hx, run_sdSome (hc rfl)]
    · exact h.elim
  · rename_i t t' x y
    split at h
    · rename_i u p k m hu hx hy
      obtain ⟨s, w', T, hr, hs, hK⟩ := UsP.run (t' := t') (ty := o.type) (k := k) hu h hw
      refine wp_value ?_ hK hs ha
      simp only [execOp, ho, resolve, invoke, builtin, Sem.run_bind, Sem.run_pure, Result.andThen_ok, List.map_toArray, List.map_cons, List.map_nil, hx, hy, hr]
    · exact h.elim
  · rename_i t x
    split at h
    · rename_i e p m cc hu hx
      split at h
      · rename_i z hz
        obtain ⟨i, hi, hiz⟩ := Option.bind_eq_some_iff.1 hz
        obtain ⟨w', T, hr, hs, hK⟩ := ClrP.run (c := cc) (ty := o.type) hu hi hiz h hw
        refine wp_value ?_ hK hs ha
        simp only [execOp, ho, resolve, invoke, builtin, Sem.run_bind, Sem.run_pure, Result.andThen_ok, List.map_toArray, List.map_cons, List.map_nil, hx, hr]
      · exact h.elim
    · exact h.elim
  · rename_i t t' d x
    split at h
    · rename_i e hu
      split at h
      · rename_i i hi
        obtain ⟨m, w', T, hr, hs, hK⟩ := CpyP.run (P := P) (sT := t') (ty := o.type) hu hi h hw
        refine wp_value ?_ hK hs ha
        simp only [execOp, ho, resolve, invoke, builtin, Sem.run_bind, Sem.run_pure, Result.andThen_ok, List.map_toArray, List.map_cons, List.map_nil, hr]
      · exact h.elim
    · exact h.elim
  · exact h.elim

theorem PreOp.sound (h : PreOp P n o K l I S) (hw : Sat I S w) (ha : FrOK n l a) : o.wp P a w (NX n I K) Q := by
  by_cases hq : quietB P o.op = true
  · obtain ⟨v, hr, hK⟩ := h.val hq
    exact wp_value (hr w) hK hw ha
  by_cases hrd : rdB P o.op = true
  · obtain ⟨v, hr, hK⟩ := val_rd hrd h
    exact wp_value (hr w hw) hK hw ha
  unfold PreOp at h
  split at h
  · rename_i x ho; rw [ho] at hq; exact absurd rfl hq
  · rename_i x ho; rw [ho] at hq; exact absurd rfl hq
  · rename_i t x ho -- load
    split at h
    · rename_i ad hx
      obtain ⟨v, hr, hK⟩ := h.run
      exact wp_value (by simp [execOp, ho, hx, hr w hw]) hK hw ha
    · exact h.elim
  · rename_i t x y ho -- store
    split at h
    · rename_i ad d hx hd
      split at h
      · rename_i hb
        obtain ⟨T, w', hr, hs, hK⟩ := StP.run hd (Nat.eq_of_beq_eq_true hb) h hw
        exact wp_skip' (by simp [execOp, ho, hx, hr]) hK hs ha
      · exact h.elim
    · exact h.elim
  · rename_i t ho -- alloc
    split at h
    · rename_i z hz
      obtain ⟨i, hi, hiz⟩ := Option.bind_eq_some_iff.1 hz
      refine wp_value (T := (w.heap.size, .cells z.cells t (0, 0)) :: S) (w' := { w with heap := w.heap.push (.cells z.cells t (0, 0)) }) ?_ (h _) (hw.new _) ha
      simp [execOp, ho, Instr.alloc, zeroValue, typeInfo, program, Sem.run, hi, hiz, newVar, newRow, newObj]
    · exact h.elim
  · rename_i t x ho -- box
    refine wp_value (T := (w.heap.size, .cells (ev l x).cells t (0, 0)) :: S) (w' := { w with heap := w.heap.push (.cells (ev l x).cells t (0, 0)) }) ?_ (h _) (hw.new _) ha
    simp [execOp, ho, Instr.box, newVar, newRow, newObj, Sem.run]
  · rename_i ho; rw [ho] at hq; exact absurd rfl hq
  · rename_i ho; rw [ho] at hq; exact absurd rfl hq
  · rename_i t len parts ho -- buildSlice
    split at h
    · rename_i e hu
      split at h
      · rename_i i hi
        split at h
        · rename_i z hz
          split at h
          · rename_i hb
            split at h
            · rename_i cs hf
              simp only [Bool.and_eq_true] at hb
              have h1 := Nat.eq_of_beq_eq_true hb.1
              have h2 := Nat.le_of_ble_eq_true hb.2
              refine wp_value (T := (w.heap.size, .cells cs e (0, 0)) :: S) (w' := { w with heap := w.heap.push (.cells cs e (0, 0)) }) ?_ (h _) (hw.new _) ha
              exact run_buildSlice ho hu hi hz h1 h2 hf
            · exact h.elim
          · exact h.elim
        · exact h.elim
      · exact h.elim
    · exact h.elim
  · rename_i t x y ho -- makeSlice
    split at h
    · rename_i e _ len _ cap hu hx hy
      split at h
      · rename_i i hi
        split at h
        · rename_i z hz
          split at h
          · rename_i hb
            obtain ⟨h0, h1, h2, h3, h⟩ := h
            exact wp_value (run_makeSl ho hu hx hy hi hz (Nat.eq_of_beq_eq_true hb) h0 h1 h2 h3) (h w.heap.size) (hw.new _) ha
          · exact h.elim
        · exact h.elim
      · exact h.elim
    · exact h.elim
  · rename_i ho; rw [ho] at hq; exact absurd rfl hq
  · rename_i ho; rw [ho] at hq; exact absurd rfl hq
  · rename_i ho; rw [ho] at hq; exact absurd rfl hq
  · rename_i t ho -- makeMap
    refine wp_value (T := (w.heap.size, .map #[] 0) :: S) (w' := { w with heap := w.heap.push (.map #[] 0) }) ?_ (h _) (hw.new _) ha
    simp [execOp, ho, Instr.makeMap, newObj, Sem.run]
  · rename_i t x ho -- makeMap of a size
    split at h
    · rename_i hu hx
      refine wp_value (T := (w.heap.size, .map #[] 0) :: S) (w' := { w with heap := w.heap.push (.map #[] 0) }) ?_ (h _) (hw.new _) ha
      simp [execOp, ho, Instr.makeMap, newObj, Sem.run, hx, run_underlying hu, asInt_int]
    · exact h.elim
  · rename_i t x ho -- range
    split at h
    · rename_i mm hu hx
      obtain ⟨m, rfl, es, clock, hm, h⟩ := mapP_elim h
      refine wp_value (T := (w.heap.size, .mapIter (some m) clock #[] clock) :: S) (w' := { w with heap := w.heap.push (.mapIter (some m) clock #[] clock) }) ?_ (h _) (hw.new _) ha
      have hgm : (getObj m).run P w = .ok (.map es clock) w := by simp [getObj, Sem.run, hm.run hw]
      simp [execOp, ho, Instr.range, newObj, Sem.run, hx, run_underlying hu, hgm]
    · exact h.elim
  · rename_i it ho -- next
    split at h
    · rename_i ad hx
      obtain ⟨v, w', T, hr, hs, hv⟩ := NxP.run (P := P) (ty := o.type) h hw
      rcases hv with ⟨rfl, rfl, hK⟩ | ⟨k, u, rfl, hK⟩
      · exact wp_value (by simp [execOp, ho, hx, hr]) hK hs ha
      · exact wp_value (by simp [execOp, ho, hx, hr]) hK hs ha
    · exact h.elim
  · rename_i it ho -- entry
    split at h
    · rename_i ad hx
      obtain ⟨m, since, seen, stamp, es, clock, e, h0, hi, hb, hm, he, hK⟩ := h
      have hr : (Instr.entry (.pointer (some ad))).run P w = .ok (.tuple #[e.key, e.val]) w := by
        obtain ⟨blk, off, sp⟩ := ad
        dsimp only at h0 hi; subst h0
        have hg : (getObj blk).run P w = .ok (.mapIter (some m) since seen clock) w := by
          have := hw.own _ hi; dsimp only at this; simp [getObj, Sem.run, this]
        have hgm : (getObj m).run P w = .ok (.map es clock) w := by simp [getObj, Sem.run, hm.run hw]
        simp [Instr.entry, hg, hgm, hb, he]
      exact wp_value (by simp [execOp, ho, hx, hr]) hK hw ha
    · exact h.elim
  · rename_i t m k v ho -- insert
    split at h
    · rename_i kt et m hu hx
      split at h
      · rename_i kd hk
        split at h
        · rename_i hkd
          obtain ⟨T, w', hr, hs, hK⟩ := run_mapUpdate hu hk hkd h hw
          exact wp_skip' (by simp [execOp, ho, hx, hr]) hK hs ha
        · exact h.elim
      · exact h.elim
    · exact h.elim
  · rename_i ho; rw [ho] at hrd; exact absurd rfl hrd
  · rename_i t m k v ho -- mapUpdate
    split at h
    · rename_i kt et m hu hx
      split at h
      · rename_i kd hk
        split at h
        · rename_i hkd
          obtain ⟨T, w', hr, hs, hK⟩ := run_mapUpdate hu hk hkd h hw
          exact wp_skip' (by simp [execOp, ho, hx, hr]) hK hs ha
        · exact h.elim
      · exact h.elim
    · exact h.elim
  · rename_i sr d x ho -- convert
    rw [ho] at hq hrd
    split at h
    · rename_i e hs hd; simp [rdB, hs, hd] at hrd
    · rename_i e hs hd; simp [rdB, hs, hd] at hrd
    · rename_i e hs hd; simp [rdB, hs, hd] at hrd
    · rename_i e hs hd
      split at h
      · rename_i s he hx
        obtain ⟨hm, h⟩ := h
        have hr := Lib.run_convert_string_bytes w sr d e s hs hd he
        have hge := grownCap_ge w s.size 0 e
        have hcm := grownCap_le_maxLen w s.size 0 e hm
        have hcells : Lib.bytesCells w e s = (byteCells s ++ repV (grownCap w s.size 0 e - s.size) [.int .u8 0]).toArray := by
          have hrep : ∀ k, repV k [Value.int .u8 0] = List.replicate k (.int .u8 0) := by
            intro k; induction k with
            | zero => rfl
            | succ k ih => rw [repV, ih]; rfl
          apply Array.ext'
          simp [Lib.bytesCells, byteCells, hrep]
        have hsize : (Lib.bytesCells w e s).size = grownCap w s.size 0 e := by
          rw [hcells]; simp [byteCells_length, repV_length]; omega
        refine wp_value (T := (w.heap.size, .cells (byteCells s ++ repV (grownCap w s.size 0 e - s.size) [.int .u8 0]).toArray e (grownCap w s.size 0 e, grownCap w s.size 0 e + 1)) :: S) (w' := Lib.bytesWorld w e s) ?_ (h _ _ hge hcm) ?_ ha
        · simp only [execOp, ho, hx, Sem.run_bind, hr, Result.andThen_ok, Sem.run_pure]
        · have hnew := Lib.bytesWorld_at_new w e s
          rw [hsize, hcells] at hnew
          have lt : ∀ b o, w.heap[b]? = some o → b < w.heap.size := by
            intro b o hb
            rcases Nat.lt_or_ge b w.heap.size with h | h
            · exact h
            · rw [Array.getElem?_eq_none h] at hb; cases hb
          have old : ∀ b o, w.heap[b]? = some o → (Lib.bytesWorld w e s).heap[b]? = some o := fun b o hb => by rw [Lib.bytesWorld_at_old w e s b (lt b o hb)]; exact hb
          refine ⟨hw.os, hw.tape, hw.out, Nat.le_trans hw.dr (by show w.drawn ≤ ((w.drew.alloc _).freeze _ 1).drawn; rw [World.freeze, if_neg (by decide)]; exact Nat.le_succ _), fun b o hb => old _ _ (hw.im b o hb), fun p hp => ?_, fun p hp => ?_, ?_⟩
          · rcases List.mem_cons.1 hp with rfl | hp
            · exact hnew
            · exact old _ _ (hw.own p hp)
          · rcases List.mem_cons.1 hp with rfl | hp
            · cases hn : I.at_ w.heap.size with
              | none => rfl
              | some o => have := lt _ _ (hw.im _ _ hn); omega
            · exact hw.apart p hp
          · simp only [List.map_cons, List.nodup_cons]
            refine ⟨fun hm => ?_, hw.nodup⟩
            obtain ⟨p, hp, he⟩ := List.mem_map.1 hm
            have := lt _ _ (hw.own p hp); omega
      · exact h.elim
    · rename_i h1 h2 h3 h4
      exfalso
      simp only [quietB, hrd] at hq
      first | exact hq trivial | (split at hq <;> first | exact absurd ‹_› (h4 _ ‹_›) | exact absurd rfl hq)
  · rename_i ho; rw [ho] at hq; exact absurd rfl hq
  · rename_i c ho -- call
    exact call_sound ho h hw ha
  · exact wp_pure h hw ha
end
end Go.Px
