/- Regions whose order is open: what their effects made may be looked at. -/
import Derived.Test.YtkagfmlaolmdnaaDoorPx7
namespace Go.Px
set_option linter.unusedVariables false
set_option linter.unusedSimpArgs false
/-! ### a plan for a region whose order is open, that may take what its effects made -/
inductive Mw where
  | done
  | take (i : Nat) (m : Mw)
  | step (j : Nat) (m : Mw)
  | fork (j : Nat) (m : Mw) (j' : Nat) (m' : Mw)
  | fork3 (j : Nat) (m : Mw) (j' : Nat) (m' : Mw) (k : Nat) (n : Mw)
  | base (m : Mw)
def Mw.len : Mw → Nat
  | .done => 0
  | .take _ m => m.len + 1
  | .step _ m => m.len + 1
  | .fork _ m _ _ => m.len + 1
  | .fork3 _ m _ _ _ _ => m.len + 1
  | .base m => m.len
def mwOK (P : Program) (ops : Array Oper) (eff : List Nat) : Mw → Bool → Array Bool → Bool
  | .done, _, listed => (Region.ready .any ops listed).isEmpty
  | .take i m, op, listed => !eff.contains i && (Region.ready .any ops listed).contains i && Region.free .any ops listed i && (match ops[i]? with | some o => !classB P o || op | none => false) &&
    mwOK P ops eff m op (listed.setIfInBounds i true)
  | .step j m, op, listed => eff.contains j && (Region.ready .any ops listed == [j]) && mwOK P ops eff m (op && !lateB P ops eff j) (listed.setIfInBounds j true)
  | .fork j m j' m', op, listed => eff.contains j && eff.contains j' && (Region.ready .any ops listed == [j, j']) && Nat.beq m.len m'.len &&
    mwOK P ops eff m (op && !lateB P ops eff j) (listed.setIfInBounds j true) && mwOK P ops eff m' (op && !lateB P ops eff j') (listed.setIfInBounds j' true)
  | .fork3 j m j' m' k n, op, listed => eff.contains j && eff.contains j' && eff.contains k && (Region.ready .any ops listed == [j, j', k]) && Nat.beq m.len m'.len && Nat.beq m.len n.len &&
    mwOK P ops eff m (op && !lateB P ops eff j) (listed.setIfInBounds j true) && mwOK P ops eff m' (op && !lateB P ops eff j') (listed.setIfInBounds j' true) && mwOK P ops eff n (op && !lateB P ops eff k) (listed.setIfInBounds k true)
  | .base m, op, listed => op && mwOK P ops eff m true listed
section
variable {P : Program} {n : Nat} {ops : Array Oper} {eff : List Nat} {I0 : IMem} {S0 : SH} {Q : Exit → Act → World → Prop}
theorem Keep.trans {I J K : IMem} {S T U : SH} (h : Keep I S J T) (g : Keep J T K U) : Keep I S K U := by
  obtain ⟨h1, A, hA⟩ := h
  obtain ⟨g1, B, hB⟩ := g
  exact ⟨h1.trans g1, B ++ A, by rw [List.append_assoc]; exact hB.trans (List.Perm.append_left B hA)⟩
theorem AnyK.base {J0 : IMem} {T0 : SH} (hk : Keep I0 S0 J0 T0) : ∀ (k : Nat) (listed : Array Bool) (a : Act) (J : IMem) (T : SH), AnyK P ops eff J0 T0 Q k listed a J T → AnyK P ops eff I0 S0 Q k listed a J T
  | 0, _, _, _, _, h => h
  | k + 1, listed, a, J, T, h => by
    refine ⟨h.1, fun j hj o ho => ⟨fun he w hw => ?_, fun he => ?_⟩⟩
    · refine wpOp_mono ?_ ((h.2 j hj o ho).1 he w hw)
      rintro a' w' ⟨J', T', h1, h2, h3⟩
      exact ⟨J', T', h1, h2.imp_right hk.trans, AnyK.base hk k _ _ _ _ h3⟩
    · obtain ⟨v, h1, h2⟩ := (h.2 j hj o ho).2 he
      exact ⟨v, h1, AnyK.base hk k _ _ _ _ h2⟩
def DwP (P : Program) (n : Nat) (ops : Array Oper) (eff : List Nat) (I0 : IMem) (S0 : SH) (K : Fr → IMem → SH → Prop) : Mw → Fr → IMem → SH → Prop
  | .done, l, J, T => K l J T
  | .take i m, l, J, T => match ops[i]? with
    | some o => (match o.guard with
      | none => QOpC P n o (fun l => DwP P n ops eff I0 S0 K m l J T) l I0 S0
      | some (j, b) => match (ops[j]?).bind (·.dst) with
        | some d => (match l d with
          | .bool t => bcase t
              (match b with | true => QOpC P n o (fun l => DwP P n ops eff I0 S0 K m l J T) (upd l d (.bool true)) I0 S0 | false => putP n o.dst undef (fun l _ _ => DwP P n ops eff I0 S0 K m l J T) (upd l d (.bool true)) I0 S0)
              (match b with | true => putP n o.dst undef (fun l _ _ => DwP P n ops eff I0 S0 K m l J T) (upd l d (.bool false)) I0 S0 | false => QOpC P n o (fun l => DwP P n ops eff I0 S0 K m l J T) (upd l d (.bool false)) I0 S0)
          | .tuple _ => putP n o.dst undef (fun l _ _ => DwP P n ops eff I0 S0 K m l J T) l I0 S0
          | _ => False)
        | none => False)
    | none => False
  | .step j m, l, J, T => stepP P n ops eff I0 S0 j (DwP P n ops eff I0 S0 K m) l J T
  | .fork j m j' m', l, J, T => stepP P n ops eff I0 S0 j (DwP P n ops eff I0 S0 K m) l J T ∧ stepP P n ops eff I0 S0 j' (DwP P n ops eff I0 S0 K m') l J T
  | .fork3 j m j' m' k q, l, J, T => stepP P n ops eff I0 S0 j (DwP P n ops eff I0 S0 K m) l J T ∧ stepP P n ops eff I0 S0 j' (DwP P n ops eff I0 S0 K m') l J T ∧ stepP P n ops eff I0 S0 k (DwP P n ops eff I0 S0 K q) l J T
  | .base m, l, J, T => DwP P n ops eff J T K m l J T
theorem DwP.sound (hs : Region.noSelect ops = true) {K : Fr → IMem → SH → Prop} {I1 : IMem} (hQ : ∀ l J T a w, FrOK n l a → I1.le J → Sat J T w → K l J T → Q .normal a w) (hQp : ∀ c a w, ¬ Q (.panic c) a w) :
    ∀ (m : Mw) (I0 : IMem) (S0 : SH) (op : Bool) (listed : Array Bool) (l : Fr) (a : Act) (J : IMem) (T : SH), mwOK P ops eff m op listed = true → (op = true → Keep I0 S0 J T) → I1.le I0 → I0.le J → Closed ops listed → FrOK n l a →
      DwP P n ops eff I0 S0 K m l J T → AnyK P ops eff I0 S0 Q m.len listed a J T := by
  have step : ∀ (I0 : IMem) (S0 : SH) (m : Mw) (j : Nat) (k : Nat) (op : Bool) (listed : Array Bool) (l : Fr) (a : Act) (J : IMem) (T : SH), k = m.len → eff.contains j = true → j ∈ Region.ready .any ops listed → I0.le J → Closed ops listed → FrOK n l a →
      (∀ l a J' T', (op && !lateB P ops eff j = true → Keep I0 S0 J' T') → I0.le J' → FrOK n l a → DwP P n ops eff I0 S0 K m l J' T' → AnyK P ops eff I0 S0 Q m.len (listed.setIfInBounds j true) a J' T') →
      stepP P n ops eff I0 S0 j (DwP P n ops eff I0 S0 K m) l J T → ∀ o, ops[j]? = some o →
      (eff.contains j = true → ∀ w, Sat J T w → wpOp P ops Q j (fun a' w' => ∃ J' T', Sat J' T' w' ∧ (lateB P ops eff j = true ∨ Keep I0 S0 J' T') ∧ AnyK P ops eff I0 S0 Q k (listed.setIfInBounds j true) a' J' T') a w) ∧
      (eff.contains j = false → ∃ v, YK P ops o v a J T ∧ AnyK P ops eff I0 S0 Q k (listed.setIfInBounds j true) (a.put o.dst v) J T) := by
    intro I0 S0 m j k op listed l a J T hk he hr hle hcl ha ih h o ho
    subst hk
    refine ⟨fun _ w hw => ?_, fun hf => by rw [he] at hf; cases hf⟩
    unfold stepP at h
    simp only [ho] at h
    have fin : ∀ a' w', NX n J (keepK P ops eff I0 S0 j (DwP P n ops eff I0 S0 K m)) a' w' → ∃ J' T', Sat J' T' w' ∧ (lateB P ops eff j = true ∨ Keep I0 S0 J' T') ∧ AnyK P ops eff I0 S0 Q m.len (listed.setIfInBounds j true) a' J' T' := by
      rintro a' w' ⟨l', J', T', h1, h2, h3, h4⟩
      unfold keepK at h4
      cases hl : lateB P ops eff j with
      | true =>
        rw [hl] at h4
        exact ⟨J', T', h3, .inl rfl, ih l' a' J' T' (fun hh => by simp [hl] at hh) (hle.trans h2) h1 h4⟩
      | false =>
        rw [hl] at h4
        exact ⟨J', T', h3, .inr h4.1, ih l' a' J' T' (fun _ => h4.1) (hle.trans h2) h1 h4.2⟩
    unfold wpOp
    simp only [ho]
    rcases guard_split (o := o) (ops := ops) (K1 := fun l => PreOp P n o (keepK P ops eff I0 S0 j (DwP P n ops eff I0 S0 K m)) l J T) (K2 := fun l => putP n o.dst undef (keepK P ops eff I0 S0 j (DwP P n ops eff I0 S0 K m)) l J T) ha h with ⟨hwn, h⟩ | ⟨hwn, h⟩
    · rw [if_pos hwn]
      exact .inl (Oper.wp_mono fin (PreOp.sound (Q := Q) h hw ha))
    · rw [if_neg (by rw [hwn]; simp)]
      exact fin _ _ (h.nx ha (IMem.le.refl J) hw)
  intro m
  induction m with
  | done =>
    intro I0 S0 op listed l a J T hok hk h10 hle hcl ha h
    exact ⟨List.isEmpty_iff.1 hok, fun w hw => hQ l J T a w ha (h10.trans hle) hw h⟩
  | take i m ih =>
    intro I0 S0 op listed l a J T hok hk h10 hle hcl ha h
    simp only [mwOK, Bool.and_eq_true, Bool.not_eq_true', Mw.len] at hok ⊢
    obtain ⟨⟨⟨⟨he, hr⟩, hf⟩, hc⟩, hm⟩ := hok
    have hr' : i ∈ Region.ready .any ops listed := by simpa using hr
    cases ho : ops[i]? with
    | none => rw [ho] at hc; cases hc
    | some o =>
      rw [ho] at hc
      simp only [DwP, ho] at h
      have hcls : classB P o = true → Keep I0 S0 J T := fun hb => hk (by simpa [hb] using hc)
      have fin : ∀ v, QC P ops I0 S0 o v a → (∃ l', FrOK n l' (a.put o.dst v) ∧ DwP P n ops eff I0 S0 K m l' J T) → AnyK P ops eff I0 S0 Q (m.len + 1) listed a J T := fun v hqc ⟨l', hl', hd⟩ =>
        AnyK.take ho (Region.noSelect_spec hs) he (fun c a w hp => absurd hp (hQp c _ w)) m.len listed a J T hcl (Region.free_spec ho hf) hr' hqc hcls (ih I0 S0 op _ l' _ J T hm hk h10 hle (hcl.set hr') hl' hd)
      rcases guard_split (o := o) (ops := ops) (K1 := fun l => QOpC P n o (fun l => DwP P n ops eff I0 S0 K m l J T) l I0 S0) (K2 := fun l => putP n o.dst undef (fun l _ _ => DwP P n ops eff I0 S0 K m l J T) l I0 S0) ha h with ⟨hwn, h⟩ | ⟨hwn, h⟩
      · obtain ⟨v, hqc, hd⟩ := h.qc hwn ha
        exact fin v hqc hd
      · exact fin undef (.inr ⟨hwn, rfl⟩) (h.act ha)
  | step j m ih =>
    intro I0 S0 op listed l a J T hok hk h10 hle hcl ha h
    simp only [mwOK, Bool.and_eq_true, Mw.len, beq_iff_eq] at hok ⊢
    obtain ⟨⟨he, hr⟩, hm⟩ := hok
    have hr' : j ∈ Region.ready .any ops listed := by rw [hr]; simp
    refine ⟨fun h0 => (by rw [hr] at h0; cases h0), fun j' hj' o ho => ?_⟩
    rw [hr] at hj'
    simp at hj'; subst hj'
    exact step I0 S0 m j' m.len op listed l a J T rfl he hr' hle hcl ha (fun l a J' T' hk' hle' ha' hd => ih I0 S0 _ _ l a J' T' hm (by simpa using hk') h10 hle' (hcl.set hr') ha' hd) h o ho
  | fork j m j' m' ih ih' =>
    intro I0 S0 op listed l a J T hok hk h10 hle hcl ha h
    simp only [mwOK, Bool.and_eq_true, Mw.len, beq_iff_eq] at hok ⊢
    obtain ⟨⟨⟨⟨⟨he, he'⟩, hr⟩, hlen⟩, hm⟩, hm'⟩ := hok
    have hlen := Nat.eq_of_beq_eq_true hlen
    have hr1 : j ∈ Region.ready .any ops listed := by rw [hr]; simp
    have hr2 : j' ∈ Region.ready .any ops listed := by rw [hr]; simp
    refine ⟨fun h0 => (by rw [hr] at h0; cases h0), fun i hi o ho => ?_⟩
    rw [hr] at hi
    simp at hi
    rcases hi with rfl | rfl
    · exact step I0 S0 m i m.len op listed l a J T rfl he hr1 hle hcl ha (fun l a J' T' hk' hle' ha' hd => ih I0 S0 _ _ l a J' T' hm (by simpa using hk') h10 hle' (hcl.set hr1) ha' hd) h.1 o ho
    · exact step I0 S0 m' i m.len op listed l a J T hlen he' hr2 hle hcl ha (fun l a J' T' hk' hle' ha' hd => ih' I0 S0 _ _ l a J' T' hm' (by simpa using hk') h10 hle' (hcl.set hr2) ha' hd) h.2 o ho
  | fork3 j m j' m' k q ih ih' ih2 =>
    intro I0 S0 op listed l a J T hok hk h10 hle hcl ha h
    simp only [mwOK, Bool.and_eq_true, Mw.len, beq_iff_eq] at hok ⊢
    obtain ⟨⟨⟨⟨⟨⟨⟨⟨he, he'⟩, he2⟩, hr⟩, hlen⟩, hlen2⟩, hm⟩, hm'⟩, hm2⟩ := hok
    have hlen := Nat.eq_of_beq_eq_true hlen
    have hlen2 := Nat.eq_of_beq_eq_true hlen2
    have hr1 : j ∈ Region.ready .any ops listed := by rw [hr]; simp
    have hr2 : j' ∈ Region.ready .any ops listed := by rw [hr]; simp
    have hr3 : k ∈ Region.ready .any ops listed := by rw [hr]; simp
    refine ⟨fun h0 => (by rw [hr] at h0; cases h0), fun i hi o ho => ?_⟩
    rw [hr] at hi
    simp at hi
    rcases hi with rfl | rfl | rfl
    · exact step I0 S0 m i m.len op listed l a J T rfl he hr1 hle hcl ha (fun l a J' T' hk' hle' ha' hd => ih I0 S0 _ _ l a J' T' hm (by simpa using hk') h10 hle' (hcl.set hr1) ha' hd) h.1 o ho
    · exact step I0 S0 m' i m.len op listed l a J T hlen he' hr2 hle hcl ha (fun l a J' T' hk' hle' ha' hd => ih' I0 S0 _ _ l a J' T' hm' (by simpa using hk') h10 hle' (hcl.set hr2) ha' hd) h.2.1 o ho
    · exact step I0 S0 q i m.len op listed l a J T hlen2 he2 hr3 hle hcl ha (fun l a J' T' hk' hle' ha' hd => ih2 I0 S0 _ _ l a J' T' hm2 (by simpa using hk') h10 hle' (hcl.set hr3) ha' hd) h.2.2 o ho
  | base m ih =>
    intro I0 S0 op listed l a J T hok hk h10 hle hcl ha h
    simp only [mwOK, Bool.and_eq_true, Mw.len] at hok ⊢
    obtain ⟨rfl, hm⟩ := hok
    exact AnyK.base (hk rfl) _ _ _ _ _ (ih J T true listed l a J T hm (fun _ => Keep.refl J T) (h10.trans hle) (IMem.le.refl J) hcl ha h)
theorem WP.drawW {Q : Exit → Fr → IMem → SH → Prop} {l : Fr} {I : IMem} {S : SH} {c : Code} (m : Mw) (eff : List Nat) (hc : c = .region (regId c) (regOps c) true) (hm : P.follows .mixedOrders = true) (hs : Region.noSelect (regOps c) = true)
    (hl : Nat.beq m.len (regOps c).size = true) (hok : mwOK P (regOps c) eff m true (Array.replicate (regOps c).size false) = true) (h : DwP P n (regOps c) eff I S (Q .normal) m l I S) : WP P n c Q l I S := by
  rw [hc]
  intro w a hw ha
  refine wp_mono (Q := fun e a' w' => e = .normal ∧ ∃ l' J T, FrOK n l' a' ∧ I.le J ∧ Sat J T w' ∧ Q e l' J T) (wp_region_any hm (AnyK.wp (eff := eff) (I0 := I) (S0 := S) _ _ a I S _ hw.drew ?_)) (fun e a w h => h.2)
  have := DwP.sound (P := P) (ops := regOps c) (eff := eff) (I1 := I) (Q := fun e a' w' => e = .normal ∧ ∃ l' J T, FrOK n l' a' ∧ I.le J ∧ Sat J T w' ∧ Q e l' J T) hs (K := Q .normal)
    (fun l J T a w h1 h2 h3 h4 => ⟨rfl, l, J, T, h1, h2, h3, h4⟩) (fun c a w h => by cases h.1) m I S true _ l a I S hok (fun _ => Keep.refl I S) (IMem.le.refl I) (IMem.le.refl I) ?_ ha h
  · rw [Nat.eq_of_beq_eq_true hl] at this
    exact this
  · intro j o _ hlj
    rw [getD_replicate_false'] at hlj
    cases hlj
end
end Go.Px
