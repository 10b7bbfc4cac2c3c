/- Part 3 of the proof of FrontBad. -/
import Derived.Test.YtmnpjnbjgmeenaaProg
import Derived.Test.YtmnpjnbjgmeenaaM1FrontBad
import Derived.Test.YtmnpjnbjgmeenaaM2FrontBad
namespace Go.Px
set_option linter.unusedVariables false
set_option linter.unusedSimpArgs false
theorem Sub.left1 {x:Nat × Obj} {A T:SH} (h:Sub (x :: A) T):Sub [x] T:=Sub.left (L:=[x]) (M:=A) h
def MN (I0:A1) (S0:SH) (C:A1 -> SH -> Prop) (sm:List Nat) (i:Nat):A1 -> SH -> Prop:=if sm.contains i then C else fun J T=>Ap I0 S0 J T
def Tx (P:Program) (t:TypeId) (C:A1 -> SH -> Prop) (a:Addr) (K:Value -> Prop):Prop:=match P.underlying t with
 | some (.struct _)=>False
 | some (.array _ _)=>False
 | some d=>R7 (TF d) fun v=>(∀ J T,C J T -> A0 J T a v) /\ K v
 | none=>False
section
variable {P:Program} {n:Nat} {ops:Array Oper} {eff sm:List Nat} {I0:A1} {S0:SH} {C:A1 -> SH -> Prop} {Q:Exit -> Act -> World -> Prop}
theorem Tx.run {t:TypeId} {a:Addr} {K:Value -> Prop} (h:Tx P t C a K):∃ v,(∀ J T,C J T -> ∀ w,Ak J T w -> (Instr.loadAt t (.pointer (some a))).run P w = .ok v w) /\ K v:=by
 have hload:∀ v w,w.cell? a = some v -> (load a).run P w = .ok v w:=fun v w hv=>by simp [load,Sem.run,hv]
 unfold Tx at h
 split at h
 ·exact h.elim
 ·exact h.elim
 ·rename_i d h1 h2 hd
  obtain ⟨v,hc,hK⟩:=Cf h
  refine ⟨v,fun J T hC w hw=>?_,hK⟩
  have hag:HS d = false:=by
   cases d <;> first | rfl | exact absurd rfl (h1 _) | exact absurd rfl (h2 _ _)
  simp only [Instr.loadAt,Instr.sureAddr,loadVar,Sem.run_bind,Sem.run_pure,Result.andThen_ok,BL hd,hag,Bool.false_eq_true,if_false,hload v w ((hc J T hC).run hw)]
 ·exact h.elim
def Qz (P:Program) (ops:Array Oper) (C:A1 -> SH -> Prop) (o:Oper) (v:Value) (a:Act):Prop:=
 (Region.wanted o (yielded ops a.tmps) = true /\ ∀ J T,(AF P o = true -> C J T) -> ∀ w,Ak J T w -> o.quietAt P a (Ak J T) w v) \/ (Region.wanted o (yielded ops a.tmps) = false /\ v = undef)
def HK (P:Program) (n:Nat) (o:Oper) (b:Bool) (C:A1 -> SH -> Prop) (K:Fr -> Prop) (l:Fr) (I:A1) (S:SH):Prop:=match b with
 | false=>GV P n o K l I S
 | true=>match o.op with
  | .load t x=>(match ev l x with | .pointer (some a)=>Tx P t C a fun v=>Ab n o.dst v (fun l _ _=>K l) l I S | _=>False)
  | _=>False
theorem HK.qc {i:Nat} {o:Oper} {K:Fr -> Prop} {l:Fr} {a:Act} (hwn:Region.wanted o (yielded ops a.tmps) = true) (h:HK P n o (sm.contains i) C K l I0 S0) (ha:At n l a):∃ v,Qz P ops (MN I0 S0 C sm i) o v a /\ ∃ l',At n l' (a.put o.dst v) /\ K l':=by
 unfold HK at h
 unfold MN
 split at h
 ·rename_i hb
  rw [if_neg (by rw [hb]; exact Bool.false_ne_true)]
  exact h.qc hwn ha
 ·rename_i hb
  rw [if_pos hb]
  split at h
  ·rename_i t x ho
   split at h
   ·rename_i ad hx
    obtain ⟨v,hr,hp⟩:=h.run
    have hc:AF P o = true:=by simp [AF,ho]
    refine ⟨v,.inl ⟨hwn,fun J T hk w hw=>?_⟩,hp.act ha⟩
    simp [Oper.quietAt,ha.eval,execOp,ho,hx,hr J T (hk hc) w hw,Oper.quietUpon]
   ·exact h.elim
  ·exact h.elim
def E0 (P:Program) (ops:Array Oper) (eff sm:List Nat) (I0:A1) (S0:SH) (C:A1 -> SH -> Prop) (listed:Array Bool) (j:Nat) (J:A1) (T:SH):Prop:=(B5 P ops eff sm false listed j = true \/ Ap I0 S0 J T) /\ (B5 P ops eff sm true listed j = true \/ C J T)
def Ca (P:Program) (ops:Array Oper) (eff sm:List Nat) (I0:A1) (S0:SH) (C:A1 -> SH -> Prop) (Q:Exit -> Act -> World -> Prop):Nat -> Array Bool -> Act -> A1 -> SH -> Prop
 | 0,listed,a,J,T=>Region.ready .any ops listed = [] /\ ∀ w,Ak J T w -> Q .normal a w
 | k + 1,listed,a,J,T=>(Region.ready .any ops listed = [] -> ∀ w,Ak J T w -> Q .normal a w) /\ ∀ j ∈ Region.ready .any ops listed,∀ o,ops[j]? = some o ->
  (eff.contains j = true -> ∀ w,Ak J T w -> wpOp P ops Q j (fun a' w'=>∃ J' T',Ak J' T' w' /\ E0 P ops eff sm I0 S0 C listed j J' T' /\ Ca P ops eff sm I0 S0 C Q k (listed.setIfInBounds j true) a' J' T') a w) /\
  (eff.contains j = false -> ∃ v,YK P ops o v a J T /\ Ca P ops eff sm I0 S0 C Q k (listed.setIfInBounds j true) (a.put o.dst v) J T)
theorem Ca.wp:∀ (k:Nat) (listed:Array Bool) (a:Act) (J:A1) (T:SH) (w:World),Ak J T w -> Ca P ops eff sm I0 S0 C Q k listed a J T -> wpAny P .any ops Q k listed a w
 | 0,listed,a,J,T,w,hw,h=>⟨h.1,h.2 w hw⟩
 | k + 1,listed,a,J,T,w,hw,h=>by
  refine ⟨fun h0=>h.1 h0 w hw,fun j hj=>?_⟩
  obtain ⟨_,o,ho,_⟩:=mem_ready.1 hj
  obtain ⟨h1,h2⟩:=h.2 j hj o ho
  cases he:eff.contains j with
  | true=>exact wpOp_mono (fun a' w' ⟨J',T',hs,_,hA⟩=>Ca.wp k _ a' J' T' w' hs hA) (h1 he w hw)
  | false=>
   obtain ⟨v,hy,hA⟩:=h2 he
   exact ED ho hw hy fun w' hw'=>Ca.wp k _ _ J T w' hw' hA
theorem Ca.take {i:Nat} {oi:Oper} {v:Value} (hi:ops[i]? = some oi) (hsel:∀ (j:Nat) (o:Oper) cs b,ops[j]? = some o -> o.op ≠ .select cs b) (hne:eff.contains i = false)
  (hQ:∀ c a w,Q (.panic c) (a.put oi.dst v) w -> Q (.panic c) a w) :
  ∀ (k:Nat) (listed:Array Bool) (a:Act) (J:A1) (T:SH),BN ops listed ->
   (∀ j oj,ops[j]? = some oj -> j ≠ i -> listed.getD j true = false -> (∀ e ∈ oj.after,Region.binds .any e = true -> e.on ≠ i) -> oi.apart ops oj = true) ->
   i ∈ Region.ready .any ops listed -> Qz P ops (MN I0 S0 C sm i) oi v a -> (AF P oi = true -> MN I0 S0 C sm i J T) ->
   Ca P ops eff sm I0 S0 C Q k (listed.setIfInBounds i true) (a.put oi.dst v) J T -> Ca P ops eff sm I0 S0 C Q (k + 1) listed a J T:=by
 intro k
 have yk:∀ {a J T},Qz P ops (MN I0 S0 C sm i) oi v a -> (AF P oi = true -> MN I0 S0 C sm i J T) -> YK P ops oi v a J T:=fun hq hk=>by
  rcases hq with ⟨h1,h2⟩ | h
  ·exact .inl ⟨h1,h2 _ _ hk⟩
  ·exact .inr h
 induction k with
 | zero=>
  intro listed a J T hcl hfree hr hq hk H
  refine ⟨fun h=>(by rw [h] at hr; cases hr),fun j hj o ho=>?_⟩
  by_cases hji:j = i
  ·subst hji
   rw [hi] at ho; injection ho with ho; subst ho
   exact ⟨fun h=>(by rw [hne] at h; cases h),fun _=>⟨v,yk hq hk,H⟩⟩
  ·have:=ready_mono hj hji
   rw [H.1] at this
   cases this
 | succ k ih=>
  intro listed a J T hcl hfree hr hq hk H
  refine ⟨fun h=>(by rw [h] at hr; cases hr),fun j hj oj hoj=>?_⟩
  by_cases hji:j = i
  ·subst hji
   rw [hi] at hoj; injection hoj with hoj; subst hoj
   exact ⟨fun h=>(by rw [hne] at h; cases h),fun _=>⟨v,yk hq hk,H⟩⟩
  ·obtain ⟨hjun,oj',hoj',hall⟩:=mem_ready.1 hj
   rw [hoj] at hoj'; injection hoj' with hoj'; subst hoj'
   have h0:=(mem_ready.1 hr).1
   have hiun:listed.getD i false = false:=by
    rcases Nat.lt_or_ge i listed.size with h' | h'
    ·simp [h'] at h0 ⊢; exact h0
    ·simp [Array.getElem?_eq_none h']
   have hnot:∀ e ∈ oj.after,Region.binds .any e = true -> e.on ≠ i:=fun e he hb heq=>by
    have h1:=hall e he hb
    rw [heq,hiun] at h1; cases h1
   have hap:=hfree j oj hoj hji hjun hnot
   obtain ⟨p1,p2,p3⟩:=Oper.apart_spec hap
   have hcl':=hcl.set hj
   have hr':=ready_mono hr (Ne.symm hji)
   have hfree':∀ k ok,ops[k]? = some ok -> k ≠ i -> (listed.setIfInBounds j true).getD k true = false ->
     (∀ e ∈ ok.after,Region.binds .any e = true -> e.on ≠ i) -> oi.apart ops ok = true:=fun k ok hk hki hun hno=>by
    refine hfree k ok hk hki ?_ hno
    by_cases hjk:j = k
    ·subst hjk; exact hjun
    ·rw [getD_set_ne true hjk] at hun; exact hun
   have qkeep:∀ a u,Qz P ops (MN I0 S0 C sm i) oi v a -> Qz P ops (MN I0 S0 C sm i) oi v (a.put oj.dst u):=fun a u hq=>by
    unfold Qz Oper.quietAt at *
    rw [execOp_put oi (fun cs b=>hsel i oi cs b hi) a oj.dst u p3,wanted_put oi a oj.dst u p3]
    exact hq
   have H2:=H.2 j (ready_mono hj hji) oj hoj
   refine ⟨fun he w hw=>?_,fun he=>?_⟩
   ·have h1:=D5 hoj hap (fun cs b=>hsel j oj cs b hoj) hQ (Qz P ops (MN I0 S0 C sm i) oi v) hq qkeep (fun a d hq=>hq) (H2.1 he w hw)
    refine wpOp_mono ?_ h1
    rintro a' w' ⟨hq',J',T',hs,hlate,hA⟩
    refine ⟨J',T',hs,by unfold E0 at hlate ⊢; rw [Cq hne,Cq hne] at hlate; exact hlate,ih _ a' J' T' hcl' hfree' hr' hq' (fun hc=>?_) (by rw [Array.setIfInBounds_comm _ _ hji]; exact hA)⟩
    unfold E0 at hlate
    rw [Cq hne,Cq hne] at hlate
    have no:∀ b:Bool,sm.contains i = b -> B5 P ops eff sm b listed j = true -> False:=fun b hb hl=>by
     have hl':=List.all_eq_true.1 hl i (List.mem_range.2 (Array.getElem?_eq_some_iff.1 hi).1)
     simp only [hi,hc,hne,hb,bne_self_eq_false,Bool.not_true,Bool.false_or,Bool.or_eq_true] at hl'
     rcases hl' with hl' | hl'
     ·have:=BQ hcl _ j oj hoj hall hl'
      rw [hiun] at this; cases this
     ·obtain ⟨e,_,hl'⟩:=List.any_eq_true.1 hl'
      obtain ⟨hle,hae⟩:=Bool.and_eq_true_iff.1 hl'
      cases hoe:ops[e]? with
      | none=>cases hsz:ops.size <;> rw [hsz] at hae <;> simp [E6,hoe] at hae
      | some oe=>
       have:=BQ hcl _ e oe hoe (fun e' he' hb'=>hcl e oe hoe hle e' he' hb') hae
       rw [hiun] at this; cases this
    unfold MN
    cases hb:sm.contains i with
    | true=>
     rw [if_pos rfl]
     rcases hlate.2 with hl | hl
     ·exact (no true hb hl).elim
     ·exact hl
    | false=>
     rw [if_neg Bool.false_ne_true]
     rcases hlate.1 with hl | hl
     ·exact (no false hb hl).elim
     ·exact hl
   ·obtain ⟨u,hy,hA⟩:=H2.2 he
    refine ⟨u,?_,ih _ _ J T hcl' hfree' hr' (qkeep a u hq) hk ?_⟩
    ·unfold YK Oper.quietAt at *
     rw [execOp_put oj (fun cs b=>hsel j oj cs b hoj) a oi.dst v p1,wanted_put oj a oi.dst v p1] at hy
     exact hy
    ·rw [Array.setIfInBounds_comm _ _ hji,<- Act.put_comm a v u p2]
     exact hA
def C5 (P:Program) (ops:Array Oper) (eff sm:List Nat) (I0:A1) (S0:SH) (C:A1 -> SH -> Prop) (listed:Array Bool) (j:Nat) (K:Fr -> A1 -> SH -> Prop) (l:Fr) (J':A1) (T':SH):Prop:=match B5 P ops eff sm false listed j with
 | true=>(match B5 P ops eff sm true listed j with | true=>K l J' T' | false=>C J' T' /\ K l J' T')
 | false=>Ap I0 S0 J' T' /\ (match B5 P ops eff sm true listed j with | true=>K l J' T' | false=>C J' T' /\ K l J' T')
theorem C5.of {listed:Array Bool} {j:Nat} {K:Fr -> A1 -> SH -> Prop} {l:Fr} {J:A1} {T:SH} (h:C5 P ops eff sm I0 S0 C listed j K l J T):E0 P ops eff sm I0 S0 C listed j J T /\ K l J T:=by
 unfold C5 at h
 unfold E0
 cases h1:B5 P ops eff sm false listed j <;> cases h2:B5 P ops eff sm true listed j <;> rw [h1] at h <;> simp only [h2] at h
 ·exact ⟨⟨.inr h.1,.inr h.2.1⟩,h.2.2⟩
 ·exact ⟨⟨.inr h.1,.inl rfl⟩,h.2⟩
 ·exact ⟨⟨.inl rfl,.inr h.1⟩,h.2⟩
 ·exact ⟨⟨.inl rfl,.inl rfl⟩,h⟩
def Ht (P:Program) (n:Nat) (ops:Array Oper) (eff sm:List Nat) (I0:A1) (S0:SH) (C:A1 -> SH -> Prop) (listed:Array Bool) (j:Nat) (K:Fr -> A1 -> SH -> Prop) (l:Fr) (J:A1) (T:SH):Prop:=match ops[j]? with
 | some o=>(match o.guard with
  | none=>Ay P n o (C5 P ops eff sm I0 S0 C listed j K) l J T
  | some (g,b)=>match (ops[g]?).bind (·.dst) with
   | some d=>(match l d with
    | .bool t=>A2 t
      (match b with | true=>Ay P n o (C5 P ops eff sm I0 S0 C listed j K) (C9 l d (.bool true)) J T | false=>Ab n o.dst undef (C5 P ops eff sm I0 S0 C listed j K) (C9 l d (.bool true)) J T)
      (match b with | true=>Ab n o.dst undef (C5 P ops eff sm I0 S0 C listed j K) (C9 l d (.bool false)) J T | false=>Ay P n o (C5 P ops eff sm I0 S0 C listed j K) (C9 l d (.bool false)) J T)
    | .tuple _=>Ab n o.dst undef (C5 P ops eff sm I0 S0 C listed j K) l J T
    | _=>False)
   | none=>False)
 | none=>False
def EX (P:Program) (n:Nat) (ops:Array Oper) (eff sm:List Nat) (I0:A1) (S0:SH) (C:A1 -> SH -> Prop) (K:Fr -> A1 -> SH -> Prop):Mv -> Array Bool -> Fr -> A1 -> SH -> Prop
 | .done,_,l,J,T=>K l J T
 | .take i m,listed,l,J,T=>match ops[i]? with
  | some o=>(match o.guard with
   | none=>HK P n o (sm.contains i) C (fun l=>EX P n ops eff sm I0 S0 C K m (listed.setIfInBounds i true) l J T) l I0 S0
   | some (j,b)=>match (ops[j]?).bind (·.dst) with
    | some d=>(match l d with
     | .bool t=>A2 t
       (match b with | true=>HK P n o (sm.contains i) C (fun l=>EX P n ops eff sm I0 S0 C K m (listed.setIfInBounds i true) l J T) (C9 l d (.bool true)) I0 S0 | false=>Ab n o.dst undef (fun l _ _=>EX P n ops eff sm I0 S0 C K m (listed.setIfInBounds i true) l J T) (C9 l d (.bool true)) I0 S0)
       (match b with | true=>Ab n o.dst undef (fun l _ _=>EX P n ops eff sm I0 S0 C K m (listed.setIfInBounds i true) l J T) (C9 l d (.bool false)) I0 S0 | false=>HK P n o (sm.contains i) C (fun l=>EX P n ops eff sm I0 S0 C K m (listed.setIfInBounds i true) l J T) (C9 l d (.bool false)) I0 S0)
     | .tuple _=>Ab n o.dst undef (fun l _ _=>EX P n ops eff sm I0 S0 C K m (listed.setIfInBounds i true) l J T) l I0 S0
     | _=>False)
    | none=>False)
  | none=>False
 | .step j m,listed,l,J,T=>Ht P n ops eff sm I0 S0 C listed j (EX P n ops eff sm I0 S0 C K m (listed.setIfInBounds j true)) l J T
 | .fork j m j' m',listed,l,J,T=>Ht P n ops eff sm I0 S0 C listed j (EX P n ops eff sm I0 S0 C K m (listed.setIfInBounds j true)) l J T /\ Ht P n ops eff sm I0 S0 C listed j' (EX P n ops eff sm I0 S0 C K m' (listed.setIfInBounds j' true)) l J T
 | .fork3 ..,_,_,_,_=>False
theorem EX.sound (hs:Region.noSelect ops = true) {K:Fr -> A1 -> SH -> Prop} (hQ:∀ l J T a w,At n l a -> I0.le J -> Ak J T w -> K l J T -> Q .normal a w) (hQp:∀ c a w,¬ Q (.panic c) a w) :
  ∀ (m:Mv) (oS oF:Bool) (listed:Array Bool) (l:Fr) (a:Act) (J:A1) (T:SH),Qr P ops eff sm m oS oF listed = true -> (oS = true -> Ap I0 S0 J T) -> (oF = true -> C J T) -> I0.le J -> BN ops listed -> At n l a ->
   EX P n ops eff sm I0 S0 C K m listed l J T -> Ca P ops eff sm I0 S0 C Q m.len listed a J T:=by
 have step:∀ (m:Mv) (j:Nat) (k:Nat) (oS oF:Bool) (listed:Array Bool) (l:Fr) (a:Act) (J:A1) (T:SH),k = m.len -> eff.contains j = true -> I0.le J -> At n l a ->
   (∀ l a J' T',((oS && !B5 P ops eff sm false listed j) = true -> Ap I0 S0 J' T') -> ((oF && !B5 P ops eff sm true listed j) = true -> C J' T') -> I0.le J' -> At n l a -> EX P n ops eff sm I0 S0 C K m (listed.setIfInBounds j true) l J' T' -> Ca P ops eff sm I0 S0 C Q m.len (listed.setIfInBounds j true) a J' T') ->
   Ht P n ops eff sm I0 S0 C listed j (EX P n ops eff sm I0 S0 C K m (listed.setIfInBounds j true)) l J T -> ∀ o,ops[j]? = some o ->
   (eff.contains j = true -> ∀ w,Ak J T w -> wpOp P ops Q j (fun a' w'=>∃ J' T',Ak J' T' w' /\ E0 P ops eff sm I0 S0 C listed j J' T' /\ Ca P ops eff sm I0 S0 C Q k (listed.setIfInBounds j true) a' J' T') a w) /\
   (eff.contains j = false -> ∃ v,YK P ops o v a J T /\ Ca P ops eff sm I0 S0 C Q k (listed.setIfInBounds j true) (a.put o.dst v) J T):=by
  intro m j k oS oF listed l a J T hk he hle ha ih h o ho
  subst hk
  refine ⟨fun _ w hw=>?_,fun hf=>by rw [he] at hf; cases hf⟩
  unfold Ht at h
  simp only [ho] at h
  have fin:∀ a' w',NX n J (C5 P ops eff sm I0 S0 C listed j (EX P n ops eff sm I0 S0 C K m (listed.setIfInBounds j true))) a' w' -> ∃ J' T',Ak J' T' w' /\ E0 P ops eff sm I0 S0 C listed j J' T' /\ Ca P ops eff sm I0 S0 C Q m.len (listed.setIfInBounds j true) a' J' T':=by
   rintro a' w' ⟨l',J',T',h1,h2,h3,h4⟩
   obtain ⟨g1,g2⟩:=h4.of
   refine ⟨J',T',h3,g1,ih l' a' J' T' (fun hh=>?_) (fun hh=>?_) (hle.trans h2) h1 g2⟩
   ·rcases g1.1 with hl | hl
    ·simp [hl] at hh
    ·exact hl
   ·rcases g1.2 with hl | hl
    ·simp [hl] at hh
    ·exact hl
  unfold wpOp
  simp only [ho]
  rcases AZ (o:=o) (ops:=ops) (K1:=fun l=>Ay P n o (C5 P ops eff sm I0 S0 C listed j (EX P n ops eff sm I0 S0 C K m (listed.setIfInBounds j true))) l J T) (K2:=fun l=>Ab n o.dst undef (C5 P ops eff sm I0 S0 C listed j (EX P n ops eff sm I0 S0 C K m (listed.setIfInBounds j true))) l J T) ha h with ⟨hwn,h⟩ | ⟨hwn,h⟩
  ·rw [if_pos hwn]
   exact .inl (Oper.wp_mono fin (Ay.sound (Q:=Q) h hw ha))
  ·rw [if_neg (by rw [hwn]; simp)]
   exact fin _ _ (h.nx ha (A1.le.refl J) hw)
 intro m
 induction m with
 | done=>
  intro oS oF listed l a J T hok hk hkF hle hcl ha h
  exact ⟨List.isEmpty_iff.1 hok,fun w hw=>hQ l J T a w ha hle hw h⟩
 | take i m ih=>
  intro oS oF listed l a J T hok hk hkF hle hcl ha h
  simp only [Qr,Bool.and_eq_true,Bool.not_eq_true',Mv.len] at hok ⊢
  obtain ⟨⟨⟨⟨he,hr⟩,hf⟩,hc⟩,hm⟩:=hok
  have hr':i ∈ Region.ready .any ops listed:=by simpa using hr
  cases ho:ops[i]? with
  | none=>rw [ho] at hc; cases hc
  | some o=>
   rw [ho] at hc
   simp only [EX,ho] at h
   have hcls:AF P o = true -> MN I0 S0 C sm i J T:=fun hb=>by
    unfold MN
    cases hsm:sm.contains i with
    | true=>rw [if_pos rfl]; exact hkF (by simp only [hb,hsm,Bool.not_true,Bool.false_or] at hc; exact hc)
    | false=>rw [if_neg Bool.false_ne_true]; exact hk (by simp only [hb,hsm,Bool.not_true,Bool.false_or] at hc; exact hc)
   have fin:∀ v,Qz P ops (MN I0 S0 C sm i) o v a -> (∃ l',At n l' (a.put o.dst v) /\ EX P n ops eff sm I0 S0 C K m (listed.setIfInBounds i true) l' J T) -> Ca P ops eff sm I0 S0 C Q (m.len + 1) listed a J T:=fun v hqc ⟨l',hl',hd⟩=>
    Ca.take ho (Region.noSelect_spec hs) he (fun c a w hp=>absurd hp (hQp c _ w)) m.len listed a J T hcl (Region.free_spec ho hf) hr' hqc hcls (ih oS oF _ l' _ J T hm hk hkF hle (hcl.set hr') hl' hd)
   rcases AZ (o:=o) (ops:=ops) (K1:=fun l=>HK P n o (sm.contains i) C (fun l=>EX P n ops eff sm I0 S0 C K m (listed.setIfInBounds i true) l J T) l I0 S0) (K2:=fun l=>Ab n o.dst undef (fun l _ _=>EX P n ops eff sm I0 S0 C K m (listed.setIfInBounds i true) l J T) l I0 S0) ha h with ⟨hwn,h⟩ | ⟨hwn,h⟩
   ·obtain ⟨v,hqc,hd⟩:=h.qc hwn ha
    exact fin v hqc hd
   ·exact fin undef (.inr ⟨hwn,rfl⟩) (h.act ha)
 | step j m ih=>
  intro oS oF listed l a J T hok hk hkF hle hcl ha h
  simp only [Qr,Bool.and_eq_true,Mv.len,beq_iff_eq] at hok ⊢
  obtain ⟨⟨he,hr⟩,hm⟩:=hok
  have hr':j ∈ Region.ready .any ops listed:=by rw [hr]; simp
  refine ⟨fun h0=>(by rw [hr] at h0; cases h0),fun j' hj' o ho=>?_⟩
  rw [hr] at hj'
  simp at hj'; subst hj'
  exact step m j' m.len oS oF listed l a J T rfl he hle ha (fun l a J' T' hk' hkF' hle' ha' hd=>ih _ _ _ l a J' T' hm (by simpa using hk') (by simpa using hkF') hle' (hcl.set hr') ha' hd) h o ho
 | fork j m j' m' ih ih'=>
  intro oS oF listed l a J T hok hk hkF hle hcl ha h
  simp only [Qr,Bool.and_eq_true,Mv.len,beq_iff_eq] at hok ⊢
  obtain ⟨⟨⟨⟨⟨he,he'⟩,hr⟩,hlen⟩,hm⟩,hm'⟩:=hok
  have hlen:=Nat.eq_of_beq_eq_true hlen
  have hr1:j ∈ Region.ready .any ops listed:=by rw [hr]; simp
  have hr2:j' ∈ Region.ready .any ops listed:=by rw [hr]; simp
  refine ⟨fun h0=>(by rw [hr] at h0; cases h0),fun i hi o ho=>?_⟩
  rw [hr] at hi
  simp at hi
  rcases hi with rfl | rfl
  ·exact step m i m.len oS oF listed l a J T rfl he hle ha (fun l a J' T' hk' hkF' hle' ha' hd=>ih _ _ _ l a J' T' hm (by simpa using hk') (by simpa using hkF') hle' (hcl.set hr1) ha' hd) h.1 o ho
  ·exact step m' i m.len oS oF listed l a J T hlen he' hle ha (fun l a J' T' hk' hkF' hle' ha' hd=>ih' _ _ _ l a J' T' hm' (by simpa using hk') (by simpa using hkF') hle' (hcl.set hr2) ha' hd) h.2 o ho
 | fork3 j m j' m' k q ih ih' ih2=>
  intro oS oF listed l a J T hok
  cases hok
theorem WP.drawC {Q:Exit -> Fr -> A1 -> SH -> Prop} {l:Fr} {I:A1} {S:SH} {c:Code} (m:Mv) (eff sm:List Nat) (hc:c = .region (Et c) (Ag c) true) (hm:P.follows .mixedOrders = true) (hs:Region.noSelect (Ag c) = true)
  (hl:Nat.beq m.len (Ag c).size = true) (hok:Qr P (Ag c) eff sm m true true (Array.replicate (Ag c).size false) = true) (h:∃ C:A1 -> SH -> Prop,C I S /\ EX P n (Ag c) eff sm I S C (Q .normal) m (Array.replicate (Ag c).size false) l I S):WP P n c Q l I S:=by
 obtain ⟨C,hF,h⟩:=h
 rw [hc]
 intro w a hw ha
 refine wp_mono (Q:=fun e a' w'=>e = .normal /\ ∃ l' J T,At n l' a' /\ I.le J /\ Ak J T w' /\ Q e l' J T) (wp_region_any hm (Ca.wp (eff:=eff) (sm:=sm) (I0:=I) (S0:=S) (C:=C) _ _ a I S _ hw.drew ?_)) (fun e a w h=>h.2)
 have:=EX.sound (P:=P) (ops:=Ag c) (eff:=eff) (sm:=sm) (I0:=I) (S0:=S) (C:=C) (Q:=fun e a' w'=>e = .normal /\ ∃ l' J T,At n l' a' /\ I.le J /\ Ak J T w' /\ Q e l' J T) hs (K:=Q .normal)
  (fun l J T a w h1 h2 h3 h4=>⟨rfl,l,J,T,h1,h2,h3,h4⟩) (fun c a w h=>by cases h.1) m true true _ l a I S hok (fun _=>Ap.refl I S) (fun _=>hF) (A1.le.refl I) ?_ ha h
 ·rw [Nat.eq_of_beq_eq_true hl] at this
  exact this
 ·intro j o _ hlj
  rw [AM] at hlj
  cases hlj
end
end Go.Px
set_option linter.unusedVariables false
set_option maxRecDepth 8000
set_option maxHeartbeats 2000000
namespace Go.Proofs.Ytmnpjnbjgmeenaa
open Go.Px
abbrev EW:=Addr -> OA -> Int -> Int -> PR
def LW (g5:EW) (R:RT) (c:Addr) (d:OA) (a b:Int) (I:A1) (S:SH):Prop:=
 g5 c d a (IntKind.wrap .i64 (b + (1:Int))) I S
def LV (g5:EW) (R:RT) (t:Addr) (o:OA) (p m n:Int) (I:A1) (S:SH):Prop:=
 A6 o fun u=>
 ∃ q d c,A0 I S (u.add 6) (.slice q d c) /\
 ∃ r e i,A0 I S t (.slice r e i) /\
 A6 r fun w=>(0:Int) <= p /\ p < (e:Int) /\
 ∃ s,A0 I S (w.add (p.toNat * 1)) (.string s) /\
 Runs Try.prog 16 #[.string s] I S fun v f g=>∃ j,v = .pointer j /\
 Ap I S f g /\
 ∀ a:Nat,
 Ap I S f ((a,.cells #[.pointer j] 65 (0,0)) :: g) /\
 AB 65 1 8 [.pointer none] (some (.slice 65)) f ((a,.cells #[.pointer j] 65 (0,0)) :: g) (.slice q d c) (.slice (some ⟨a,0,none⟩) 1 1) fun x l k h=>
 A6 o fun y=>
 Ad h (y.add 6) [.slice x l k] fun b=>
 LW g5 R t o m n f b
def LU (g5:EW) (R:RT) (c:Addr) (d:OA) (b a:Int) (I:A1) (S:SH):Prop:=
 LV g5 R c d a b a I S
def LX (R:RT) (a:OA) (I:A1) (S:SH):Prop:=
 R (.pointer a) I S
def PU (g5:EW) (R:RT) (d:Addr) (c:OA) (a b:Int) (I:A1) (S:SH):Prop:=
 A2 (decide (b < a))
  (LU g5 R d c a b I S)
  (LX R c I S)
def LT (R:RT) (c:Addr) (d:OA) (a b:Int) (I:A1) (S:SH):Prop:=
 ∃ (Inv:Nat -> EW) (m:Nat),Inv m c d a b I S /\
  ∀ (m:Nat) (c:Addr) (d:OA) (a b:Int) (J:A1) (T:SH),I.le J -> Inv m c d a b J T ->
   PU (fun c d a b I S=>∃ m',m' < m /\ Inv m' c d a b I S) R c d a b J T
def LS (R:RT) (g:Addr) (c:OA) (I:A1) (S:SH):Prop:=
 A6 c fun f=>
 ∃ a,A0 I S (f.add 7) (.pointer a) /\
 Runs Try.prog 15 #[.pointer a] I S fun v d e=>∃ b,v = .int .i64 b /\
 LT R g c b 0 d e
def LR (R:RT) (g:Addr) (b:OA) (I:A1) (S:SH):Prop:=
 A6 b fun e=>
 ∃ a,A0 I S (e.add 8) (.pointer a) /\
 Runs Try.prog 14 #[.pointer a] I S fun v c d=>∃ f,v = .int .i64 f /\
 LS R g b c d
def LQ (R:RT) (x:Int) (y:OA) (a:Addr) (I:A1) (S:SH):Prop:=
 ∃ o f e,A0 I S a (.slice o f e) /\
 ∃ p h g,A0 I S (a.add 1) (.slice p h g) /\
 ∃ q,A0 I S (a.add 2) (.int .i64 q) /\
 ∃ r j i,A0 I S a (.slice r j i) /\
 ∃ s l k,A0 I S (a.add 1) (.slice s l k) /\
 Runs Try.prog 12 #[.slice r j i,.slice s l k] I S fun v m n=>∃ t,v = .pointer t /\
 Ap I S m n /\
 Runs Try.prog 13 #[.pointer y] m n fun w b c=>∃ u,w = .pointer u /\
 Ap I S b c /\
 ∀ d:Nat,
 LR R a (some ⟨d,0,none⟩) b ((d,.cells #[.slice o f e,.slice p h g,.int .i64 q,.int .i64 0,.int .u16 x,.slice none 0 0,.slice none 0 0,.pointer t,.pointer u] 64 (0,0)) :: c)
def V6 (R:RT) (f:OA) (b a:Nat) (g:OA) (d c:Nat) (h i:Int) (j:OA) (I:A1) (S:SH):Prop:=
 ∀ e:Nat,
 LQ R i j ⟨e,0,none⟩ I ((e,.cells #[.slice f b a,.slice g d c,.int .i64 h] 29 (0,0)) :: S)
theorem Sw (R:RT) (m:OA) (j i:Nat) (n:OA) (l k:Nat) (o p:Int) (q:OA) (I:A1) (S:SH) (h:V6 R m j i n l k o p q I S):Runs Try.prog 5 #[.agg #[.slice m j i,.slice n l k,.int .i64 o],.int .u16 p,.pointer q] I S R:=by
 refine Runs.of_wp (c:=cd Try.f5) Try.func5 (by kernel_rfl) (by kernel_rfl) ?_
 refine cO 1 [kI .u16 1,kP 2,kA 3] (LQ R) h fun _ _ _ _ _ _ _ h=>?_
 refine sO [kA 3,kP 7] (LR R) (dR (tk 6 0 (.take 7 (.step 6 (.step 8 (.take 9 (.step 10 (.take 11 .done))))))) [6,8,10] h) fun _ _ _ _ _ _ h=>?_
 refine cO 1 [kA 3,kP 7] (LS R) h fun _ _ _ _ _ _ h=>?_
 refine sO [kP 7] (LX R) ?_ fun _ _ _ _ _ h=>?_
 ·refine cO 1 [kA 3,kP 7,kI .i64 29,kI .i64 30] (LT R) h fun _ _ _ _ _ _ _ _ h=>?_
  refine bK ?_
  obtain ⟨e,d,h,hr⟩:=h
  refine lO [kA 3,kP 7,kI .i64 29,kI .i64 30] e d h fun d _ I S hle f g a b h=>?_
  have h:=hr d f g a b I S hle h
  refine cO 2 [kA 3,kP 7,kI .i64 29,kI .i64 30] (LU (fun f g a b I S=>∃ m',m' < d /\ e m' f g a b I S) R) h fun _ _ _ _ _ _ _ _ h=>?_
  refine sO [kA 3,kP 7,kI .i64 29,kI .i64 30] (LW (fun f g a b I S=>∃ m',m' < d /\ e m' f g a b I S) R) ?_ fun _ _ _ _ _ _ _ _ h=>?_
  ·refine bK ?_
   refine cO 1 [kA 3,kP 7,kI .i64 8,kI .i64 29,kI .i64 30] (LV (fun f g a b I S=>∃ m',m' < d /\ e m' f g a b I S) R) h fun _ _ _ _ _ _ _ _ _ h=>?_
   exact dR (tk 10 0 (.step 10 (.step 11 (.step 12 (.take 13 (.take 14 (.step 15 .done))))))) [10,11,12,15] h
  exact pS h
 exact pS h
def Gd (R:RT) (g:ByteArray) (h:Int) (i:Bool) (c:Int) (I:A1) (S:SH):Prop:=
 Runs Try.prog 18 #[.string g,.int .i64 h,.bool i,.agg #[.int .u16 c,.bool true,.int .i64 0,.bool false,.bool false,.bool false,.bool false,.int .i64 1,.string ⟨#[]⟩,.int .u16 0,.slice none 0 0,.slice none 0 0,.slice none 0 0,.int .i64 0],.int .i64 512] I S fun v e f=>∃ d b a,v = .slice d b a /\
 R (.slice d b a) e f
def Dj (R:RT) (c:ByteArray) (d:Int) (e:Bool) (a:Int) (b:Bool) (I:A1) (S:SH):Prop:=
 A2 b
  (R (.slice none 0 0) I S)
  (Gd R c d e a I S)
def JT (R:RT) (c:ByteArray) (e:Int) (f:Bool) (i:OA) (b j:Nat) (a:Int) (d:Bool) (I:A1) (S:SH):Prop:=
 A2 (!d)
  (Dj R c e f a true I S)
  (A2 (decide ((b:Int) > (2:Int)))
   (A6 i fun h=>(0:Int) <= (2:Int) /\ (2:Int) < (b:Int) /\
   ∃ g,A0 I S (h.add ((2:Int).toNat * 1)) (.int .u8 g) /\
   Dj R c e f a ((g.fdiv (2 ^ (min (7:Int).toNat (IntKind.bits .u8)))) == (1:Int)) I S)
   (Dj R c e f a false I S))
def JW (R:RT) (c:OA) (b a:Nat) (I:A1) (S:SH):Prop:=
 R (.slice c b a) I S
def G9 (R:RT) (c:OA) (b a:Nat) (I:A1) (S:SH):Prop:=
 R (.slice c b a) I S
def MA (R:RT) (c:OA) (b a:Nat) (I:A1) (S:SH):Prop:=
 R (.slice c b a) I S
def Gb (R:RT) (G:OA) (a:Addr) (I:A1) (S:SH):Prop:=
 ∃ j,A0 I S a (.int .u16 j) /\
 ∃ k,A0 I S (a.add 1) (.int .u16 k) /\
 ∃ l,A0 I S (a.add 2) (.bool l) /\
 ∃ m,A0 I S (a.add 3) (.int .i64 m) /\
 ∃ n,A0 I S (a.add 4) (.bool n) /\
 ∃ o,A0 I S (a.add 5) (.bool o) /\
 ∃ p,A0 I S (a.add 6) (.bool p) /\
 ∃ q,A0 I S (a.add 7) (.bool q) /\
 ∃ r,A0 I S (a.add 8) (.int .i64 r) /\
 ∃ s,A0 I S (a.add 9) (.string s) /\
 ∃ t,A0 I S (a.add 10) (.int .u16 t) /\
 ∃ u c b,A0 I S (a.add 11) (.slice u c b) /\
 ∃ w e d,A0 I S (a.add 12) (.slice w e d) /\
 ∃ x g f,A0 I S (a.add 13) (.slice x g f) /\
 ∃ y,A0 I S (a.add 14) (.int .i64 y) /\
 ∃ z,A0 I S (a.add 15) (.string z) /\
 ∃ A,A0 I S (a.add 16) (.int .i64 A) /\
 ∃ B,A0 I S (a.add 17) (.bool B) /\
 ∃ C,A0 I S (a.add 18) (.int .i64 C) /\
 Runs Try.prog 21 #[.pointer G,.agg #[.int .u16 j,.int .u16 k,.bool l,.int .i64 m,.bool n,.bool o,.bool p,.bool q,.int .i64 r,.string s,.int .u16 t,.slice u c b,.slice w e d,.slice x g f,.int .i64 y,.string z,.int .i64 A,.bool B,.int .i64 C]] I S fun v E F=>∃ D i h,v = .slice D i h /\
 R (.slice D i h) E F
def Ga (R:RT) (x0:OA) (b a:Addr) (M:Bool) (I:A1) (S:SH):Prop:=
 A2 M
  (∃ P,A0 I S a (.int .u16 P) /\
  ∃ Q,A0 I S (a.add 1) (.int .u16 Q) /\
  ∃ T,A0 I S (a.add 2) (.bool T) /\
  ∃ U,A0 I S (a.add 3) (.int .i64 U) /\
  ∃ V,A0 I S (a.add 4) (.bool V) /\
  ∃ W,A0 I S (a.add 5) (.bool W) /\
  ∃ X,A0 I S (a.add 6) (.bool X) /\
  ∃ Y,A0 I S (a.add 7) (.bool Y) /\
  ∃ Z,A0 I S (a.add 8) (.int .i64 Z) /\
  ∃ u9,A0 I S (a.add 9) (.string u9) /\
  ∃ ua,A0 I S (a.add 10) (.int .u16 ua) /\
  ∃ ub y x,A0 I S (a.add 11) (.slice ub y x) /\
  ∃ uc A z,A0 I S (a.add 12) (.slice uc A z) /\
  ∃ ud C B,A0 I S (a.add 13) (.slice ud C B) /\
  ∃ ue,A0 I S (a.add 14) (.int .i64 ue) /\
  ∃ uf,A0 I S (a.add 15) (.string uf) /\
  ∃ ug,A0 I S (a.add 16) (.int .i64 ug) /\
  ∃ uh,A0 I S (a.add 17) (.bool uh) /\
  ∃ ui,A0 I S (a.add 18) (.int .i64 ui) /\
  ∃ uj,A0 I S b (.int .u16 uj) /\
  ∃ uk,A0 I S (b.add 1) (.bool uk) /\
  ∃ ul,A0 I S (b.add 2) (.int .i64 ul) /\
  ∃ um,A0 I S (b.add 3) (.bool um) /\
  ∃ un,A0 I S (b.add 4) (.bool un) /\
  ∃ uo,A0 I S (b.add 5) (.bool uo) /\
  ∃ up,A0 I S (b.add 6) (.bool up) /\
  ∃ uq,A0 I S (b.add 7) (.int .i64 uq) /\
  ∃ ur,A0 I S (b.add 8) (.string ur) /\
  ∃ us,A0 I S (b.add 9) (.int .u16 us) /\
  ∃ ut E D,A0 I S (b.add 10) (.slice ut E D) /\
  ∃ uu G F,A0 I S (b.add 11) (.slice uu G F) /\
  ∃ uv J H,A0 I S (b.add 12) (.slice uv J H) /\
  ∃ uw,A0 I S (b.add 13) (.int .i64 uw) /\
  Runs Try.prog 20 #[.agg #[.int .u16 uj,.bool uk,.int .i64 ul,.bool um,.bool un,.bool uo,.bool up,.int .i64 uq,.string ur,.int .u16 us,.slice ut E D,.slice uu G F,.slice uv J H,.int .i64 uw],.int .i64 2] I S fun v N O=>∃ ux uy uz k l m n o p q r d c s f e t h g u,v = .agg #[.int .u16 ux,.bool uy,.int .i64 uz,.bool k,.bool l,.bool m,.bool n,.int .i64 o,.string p,.int .u16 q,.slice r d c,.slice s f e,.slice t h g,.int .i64 u] /\
  Ap I S N O /\
  Runs Try.prog 19 #[.agg #[.int .u16 P,.int .u16 Q,.bool T,.int .i64 U,.bool V,.bool W,.bool X,.bool Y,.int .i64 Z,.string u9,.int .u16 ua,.slice ub y x,.slice uc A z,.slice ud C B,.int .i64 ue,.string uf,.int .i64 ug,.bool uh,.int .i64 ui],.agg #[.int .u16 ux,.bool uy,.int .i64 uz,.bool k,.bool l,.bool m,.bool n,.int .i64 o,.string p,.int .u16 q,.slice r d c,.slice s f e,.slice t h g,.int .i64 u]] N O fun v' K L=>∃ w j i,v' = .slice w j i /\
  MA R w j i K L)
  (Gb R x0 a I S)
def Dk (R:RT) (x0:OA) (b a:Addr) (Q:Bool) (I:A1) (S:SH):Prop:=
 A2 Q
  (∃ V,A0 I S a (.int .u16 V) /\
  ∃ W,A0 I S (a.add 1) (.int .u16 W) /\
  ∃ X,A0 I S (a.add 2) (.bool X) /\
  ∃ Y,A0 I S (a.add 3) (.int .i64 Y) /\
  ∃ Z,A0 I S (a.add 4) (.bool Z) /\
  ∃ u5,A0 I S (a.add 5) (.bool u5) /\
  ∃ u6,A0 I S (a.add 6) (.bool u6) /\
  ∃ u7,A0 I S (a.add 7) (.bool u7) /\
  ∃ u8,A0 I S (a.add 8) (.int .i64 u8) /\
  ∃ u9,A0 I S (a.add 9) (.string u9) /\
  ∃ ua,A0 I S (a.add 10) (.int .u16 ua) /\
  ∃ ub B A,A0 I S (a.add 11) (.slice ub B A) /\
  ∃ uc D C,A0 I S (a.add 12) (.slice uc D C) /\
  ∃ ud F E,A0 I S (a.add 13) (.slice ud F E) /\
  ∃ ue,A0 I S (a.add 14) (.int .i64 ue) /\
  ∃ uf,A0 I S (a.add 15) (.string uf) /\
  ∃ ug,A0 I S (a.add 16) (.int .i64 ug) /\
  ∃ uh,A0 I S (a.add 17) (.bool uh) /\
  ∃ ui,A0 I S (a.add 18) (.int .i64 ui) /\
  ∃ uj,A0 I S b (.int .u16 uj) /\
  ∃ uk,A0 I S (b.add 1) (.bool uk) /\
  ∃ ul,A0 I S (b.add 2) (.int .i64 ul) /\
  ∃ um,A0 I S (b.add 3) (.bool um) /\
  ∃ un,A0 I S (b.add 4) (.bool un) /\
  ∃ uo,A0 I S (b.add 5) (.bool uo) /\
  ∃ up,A0 I S (b.add 6) (.bool up) /\
  ∃ uq,A0 I S (b.add 7) (.int .i64 uq) /\
  ∃ ur,A0 I S (b.add 8) (.string ur) /\
  ∃ us,A0 I S (b.add 9) (.int .u16 us) /\
  ∃ ut H G,A0 I S (b.add 10) (.slice ut H G) /\
  ∃ uu K J,A0 I S (b.add 11) (.slice uu K J) /\
  ∃ uv M L,A0 I S (b.add 12) (.slice uv M L) /\
  ∃ uw,A0 I S (b.add 13) (.int .i64 uw) /\
  Runs Try.prog 20 #[.agg #[.int .u16 uj,.bool uk,.int .i64 ul,.bool um,.bool un,.bool uo,.bool up,.int .i64 uq,.string ur,.int .u16 us,.slice ut H G,.slice uu K J,.slice uv M L,.int .i64 uw],.int .i64 5] I S fun v T U=>∃ ux uy uz m n o p q r s t d c u f e w h g x,v = .agg #[.int .u16 ux,.bool uy,.int .i64 uz,.bool m,.bool n,.bool o,.bool p,.int .i64 q,.string r,.int .u16 s,.slice t d c,.slice u f e,.slice w h g,.int .i64 x] /\
  Ap I S T U /\
  Runs Try.prog 19 #[.agg #[.int .u16 V,.int .u16 W,.bool X,.int .i64 Y,.bool Z,.bool u5,.bool u6,.bool u7,.int .i64 u8,.string u9,.int .u16 ua,.slice ub B A,.slice uc D C,.slice ud F E,.int .i64 ue,.string uf,.int .i64 ug,.bool uh,.int .i64 ui],.agg #[.int .u16 ux,.bool uy,.int .i64 uz,.bool m,.bool n,.bool o,.bool p,.int .i64 q,.string r,.int .u16 s,.slice t d c,.slice u f e,.slice w h g,.int .i64 x]] T U fun v' N O=>∃ y j i,v' = .slice y j i /\
  G9 R y j i N O)
  (Runs Try.prog 11 #[.pointer x0] I S fun P k l=>∃ z,P = .bool z /\
  Ga R x0 b a (!z) k l)
def JV (R:RT) (x0:OA) (b a:Addr) (O:Bool) (I:A1) (S:SH):Prop:=
 A2 O
  (∃ T,A0 I S a (.int .u16 T) /\
  ∃ U,A0 I S (a.add 1) (.int .u16 U) /\
  ∃ V,A0 I S (a.add 2) (.bool V) /\
  ∃ W,A0 I S (a.add 3) (.int .i64 W) /\
  ∃ X,A0 I S (a.add 4) (.bool X) /\
  ∃ Y,A0 I S (a.add 5) (.bool Y) /\
  ∃ Z,A0 I S (a.add 6) (.bool Z) /\
  ∃ u7,A0 I S (a.add 7) (.bool u7) /\
  ∃ u8,A0 I S (a.add 8) (.int .i64 u8) /\
  ∃ u9,A0 I S (a.add 9) (.string u9) /\
  ∃ ua,A0 I S (a.add 10) (.int .u16 ua) /\
  ∃ ub A z,A0 I S (a.add 11) (.slice ub A z) /\
  ∃ uc C B,A0 I S (a.add 12) (.slice uc C B) /\
  ∃ ud E D,A0 I S (a.add 13) (.slice ud E D) /\
  ∃ ue,A0 I S (a.add 14) (.int .i64 ue) /\
  ∃ uf,A0 I S (a.add 15) (.string uf) /\
  ∃ ug,A0 I S (a.add 16) (.int .i64 ug) /\
  ∃ uh,A0 I S (a.add 17) (.bool uh) /\
  ∃ ui,A0 I S (a.add 18) (.int .i64 ui) /\
  ∃ uj,A0 I S b (.int .u16 uj) /\
  ∃ uk,A0 I S (b.add 1) (.bool uk) /\
  ∃ ul,A0 I S (b.add 2) (.int .i64 ul) /\
  ∃ um,A0 I S (b.add 3) (.bool um) /\
  ∃ un,A0 I S (b.add 4) (.bool un) /\
  ∃ uo,A0 I S (b.add 5) (.bool uo) /\
  ∃ up,A0 I S (b.add 6) (.bool up) /\
  ∃ uq,A0 I S (b.add 7) (.int .i64 uq) /\
  ∃ ur,A0 I S (b.add 8) (.string ur) /\
  ∃ us,A0 I S (b.add 9) (.int .u16 us) /\
  ∃ ut G F,A0 I S (b.add 10) (.slice ut G F) /\
  ∃ uu J H,A0 I S (b.add 11) (.slice uu J H) /\
  ∃ uv L K,A0 I S (b.add 12) (.slice uv L K) /\
  ∃ uw,A0 I S (b.add 13) (.int .i64 uw) /\
  Runs Try.prog 20 #[.agg #[.int .u16 uj,.bool uk,.int .i64 ul,.bool um,.bool un,.bool uo,.bool up,.int .i64 uq,.string ur,.int .u16 us,.slice ut G F,.slice uu J H,.slice uv L K,.int .i64 uw],.int .i64 4] I S fun v P Q=>∃ ux uy uz k l m n o p q r d c s f e t h g u,v = .agg #[.int .u16 ux,.bool uy,.int .i64 uz,.bool k,.bool l,.bool m,.bool n,.int .i64 o,.string p,.int .u16 q,.slice r d c,.slice s f e,.slice t h g,.int .i64 u] /\
  Ap I S P Q /\
  Runs Try.prog 19 #[.agg #[.int .u16 T,.int .u16 U,.bool V,.int .i64 W,.bool X,.bool Y,.bool Z,.bool u7,.int .i64 u8,.string u9,.int .u16 ua,.slice ub A z,.slice uc C B,.slice ud E D,.int .i64 ue,.string uf,.int .i64 ug,.bool uh,.int .i64 ui],.agg #[.int .u16 ux,.bool uy,.int .i64 uz,.bool k,.bool l,.bool m,.bool n,.int .i64 o,.string p,.int .u16 q,.slice r d c,.slice s f e,.slice t h g,.int .i64 u]] P Q fun v' M N=>∃ w j i,v' = .slice w j i /\
  JW R w j i M N)
  (∃ x,A0 I S ((b.add 8).add 1) (.int .u16 x) /\
  A2 (x == (252:Int))
   (Dk R x0 b a true I S)
   (∃ y,A0 I S ((b.add 8).add 1) (.int .u16 y) /\
   Dk R x0 b a (y == (251:Int)) I S))
def JU (R:RT) (e:OA) (a b:Addr) (c:Bool) (I:A1) (S:SH):Prop:=
 A2 c
  (R (.slice none 0 0) I S)
  (∃ d,A0 I S (a.add 2) (.int .i64 d) /\
  JV R e a b (d != (0:Int)) I S)
def Gc (R:RT) (l:OA) (m:ByteArray) (n:Int) (o:Bool) (i:OA) (c b:Nat) (a d:Addr) (e:Bool) (I:A1) (S:SH):Prop:=
 A2 e
  (Runs Try.prog 17 #[.slice i c b] I S fun v j k=>∃ f g,v = .tuple #[.int .u16 f,.bool g] /\
  JT R m n o i c b f g j k)
  (∃ h,A0 I S (a.add 1) (.bool h) /\
  JU R l a d h I S)
def Di (R:RT) (f:OA) (g:ByteArray) (h:Int) (i:Bool) (j:OA) (e d:Nat) (a:Addr) (b:Value) (c:Addr) (I:A1) (S:SH):Prop:=
 ∃ nl,B4 b = some nl /\
 Gc R f g h i j e d a c (!nl) I S
def Us (R:RT) (u0:OA) (t:ByteArray) (u:Int) (w:Bool) (x:OA) (g f:Nat) (I:A1) (S:SH):Prop:=
 Runs Try.prog 7 #[.slice x g f] I S fun v c S1=>∃ y z A B C D E F G H J i h K k j L m l M N,v = .tuple #[.agg #[.int .u16 y,.bool z,.int .i64 A,.bool B,.bool C,.bool D,.bool E,.int .i64 F,.string G,.int .u16 H,.slice J i h,.slice K k j,.slice L m l,.int .i64 M],N] /\
 ∀ a:Nat,
 Ad ((a,.cells #[.int .u16 0,.bool false,.int .i64 0,.bool false,.bool false,.bool false,.bool false,.int .i64 0,.string ⟨#[]⟩,.int .u16 0,.slice none 0 0,.slice none 0 0,.slice none 0 0,.int .i64 0] 45 (0,0)) :: S1) ⟨a,0,none⟩ [.int .u16 y,.bool z,.int .i64 A,.bool B,.bool C,.bool D,.bool E,.int .i64 F,.string G,.int .u16 H,.slice J i h,.slice K k j,.slice L m l,.int .i64 M] fun b=>
 ∃ O,A0 c b ⟨a,0,none⟩ (.int .u16 O) /\
 ∃ P,A0 c b ⟨a,1,none⟩ (.bool P) /\
 ∃ Q,A0 c b ⟨a,2,none⟩ (.int .i64 Q) /\
 ∃ T,A0 c b ⟨a,3,none⟩ (.bool T) /\
 ∃ U,A0 c b ⟨a,4,none⟩ (.bool U) /\
 ∃ V,A0 c b ⟨a,5,none⟩ (.bool V) /\
 ∃ W,A0 c b ⟨a,6,none⟩ (.bool W) /\
 ∃ X,A0 c b ⟨a,7,none⟩ (.int .i64 X) /\
 ∃ Y,A0 c b ⟨a,8,none⟩ (.string Y) /\
 ∃ Z,A0 c b ⟨a,9,none⟩ (.int .u16 Z) /\
 ∃ uu o n,A0 c b ⟨a,10,none⟩ (.slice uu o n) /\
 ∃ uv q p,A0 c b ⟨a,11,none⟩ (.slice uv q p) /\
 ∃ uw s r,A0 c b ⟨a,12,none⟩ (.slice uw s r) /\
 ∃ ux,A0 c b ⟨a,13,none⟩ (.int .i64 ux) /\
 ∀ d:Nat,
 Ad ((d,.cells #[.int .u16 0,.int .u16 0,.bool false,.int .i64 0,.bool false,.bool false,.bool false,.bool false,.int .i64 0,.string ⟨#[]⟩,.int .u16 0,.slice none 0 0,.slice none 0 0,.slice none 0 0,.int .i64 0,.string ⟨#[]⟩,.int .i64 0,.bool false,.int .i64 0] 68 (0,0)) :: b) ⟨d,0,none⟩ [.int .u16 0,.int .u16 O,.bool P,.int .i64 Q,.bool T,.bool U,.bool V,.bool W,.int .i64 X,.string Y,.int .u16 Z,.slice uu o n,.slice uv q p,.slice uw s r,.int .i64 ux,.string t,.int .i64 u,.bool w,.int .i64 0] fun e=>
 Di R u0 t u w x g f ⟨a,0,none⟩ N ⟨d,0,none⟩ c e
theorem RM (R:RT) (d:OA) (e:ByteArray) (f:Int) (g:Bool) (i:OA) (b a:Nat) (I:A1) (S:SH) (h:Us R d e f g i b a I S):Runs Try.prog 6 #[.pointer d,.string e,.int .i64 f,.bool g,.slice i b a] I S R:=by
 refine Runs.of_wp (c:=cd Try.f6) Try.func6 (by kernel_rfl) (by kernel_rfl) ?_
 refine cO 3 [kP 0,kS 1,kI .i64 2,kB 3,kL 4,kA 11,kV 12,kA 13] (Di R) h fun _ _ _ _ _ _ _ _ _ _ _ _ _ _ h=>?_
 refine sO [kP 0,kA 13] (Gb R) ?_ fun _ _ _ _ _ _ h=>?_
 ·refine bK ?_
  refine cO 1 [kP 0,kS 1,kI .i64 2,kB 3,kL 4,kA 11,kA 13,kB 26] (Gc R) h fun _ _ _ _ _ _ _ _ _ _ _ _ _ _ h=>?_
  refine cD h (fun h=>?_) fun h=>?_
  ·refine cO 1 [kS 1,kI .i64 2,kB 3,kL 4,kI .u16 14,kB 15] (JT R) h fun _ _ _ _ _ _ _ _ _ _ _ _ h=>?_
   refine sO [kS 1,kI .i64 2,kB 3,kI .u16 14] (Gd R) ?_ fun _ _ _ _ _ _ _ _ h=>?_
   ·refine cO 1 [kS 1,kI .i64 2,kB 3,kI .u16 14,kB 47] (Dj R) h fun _ _ _ _ _ _ _ _ _ h=>?_
    exact pS h
   exact pS h
  refine cO 1 [kP 0,kA 11,kA 13,kB 55] (JU R) h fun _ _ _ _ _ _ _ _ h=>?_
  refine cD h (fun h=>pS h) fun h=>?_
  refine cO 1 [kP 0,kA 11,kA 13,kB 59] (JV R) h fun _ _ _ _ _ _ _ _ h=>?_
  refine cD h (fun h=>?_) fun h=>?_
  ·refine sO [kL 10] (JW R) (dR (.take 0 (.take 1 (.step 2 (.step 3 (.take 4 .done))))) [2,3] h) fun _ _ _ _ _ _ _ h=>?_
   exact pS h
  refine cO 1 [kP 0,kA 11,kA 13,kB 68] (Dk R) h fun _ _ _ _ _ _ _ _ h=>?_
  refine cD h (fun h=>?_) fun h=>?_
  ·refine sO [kL 10] (G9 R) (dR (.take 0 (.take 1 (.step 2 (.step 3 (.take 4 .done))))) [2,3] h) fun _ _ _ _ _ _ _ h=>?_
   exact pS h
  refine cO 1 [kP 0,kA 11,kA 13,kB 83] (Ga R) h fun _ _ _ _ _ _ _ _ h=>?_
  refine cD h (fun h=>?_) fun h=>pS h
  refine sO [kL 10] (MA R) (dR (.take 0 (.take 1 (.step 2 (.step 3 (.take 4 .done))))) [2,3] h) fun _ _ _ _ _ _ _ h=>?_
  exact pS h
 exact pS h
def Uh (R:RT) (c:OA) (I:A1) (S:SH):Prop:=
 A6 c fun d=>
 ∃ e a b,A0 I S (d.add 5) (.slice e a b) /\
 R (.int .i64 (a:Int)) I S
theorem RC (R:RT) (a:OA) (I:A1) (S:SH) (h:Uh R a I S):Runs Try.prog 8 #[.pointer a] I S R:=by
 refine Runs.of_wp (c:=cd Try.f8) Try.func8 (by kernel_rfl) (by kernel_rfl) ?_
 exact pS h
abbrev EL:=OA -> OA -> Nat -> Nat -> OA -> Nat -> Nat -> Int -> Int -> PR
def Ph (g5:EL) (R:RT) (h i:OA) (g f:Nat) (c:OA) (b a:Nat) (d e:Int) (I:A1) (S:SH):Prop:=
 g5 h i g f c b a d (IntKind.wrap .i64 (e + (1:Int))) I S
def Pg (g5:EL) (R:RT) (x0 x5:OA) (X W:Nat) (a:Addr) (T:OA) (O N:Nat) (U V:Int) (I:A1) (S:SH):Prop:=
 ∃ u0,A0 I S a (.int .u16 u0) /\
 ∃ u1,A0 I S (a.add 1) (.int .u16 u1) /\
 ∃ u2,A0 I S (a.add 2) (.bool u2) /\
 ∃ u3,A0 I S (a.add 3) (.int .i64 u3) /\
 ∃ u4,A0 I S (a.add 4) (.bool u4) /\
 ∃ u5,A0 I S (a.add 5) (.bool u5) /\
 ∃ u6,A0 I S (a.add 6) (.bool u6) /\
 ∃ u7,A0 I S (a.add 7) (.bool u7) /\
 ∃ u8,A0 I S (a.add 8) (.int .i64 u8) /\
 ∃ u9,A0 I S (a.add 9) (.string u9) /\
 ∃ ua,A0 I S (a.add 10) (.int .u16 ua) /\
 ∃ ub B A,A0 I S (a.add 11) (.slice ub B A) /\
 ∃ uc D C,A0 I S (a.add 12) (.slice uc D C) /\
 ∃ ud F E,A0 I S (a.add 13) (.slice ud F E) /\
 ∃ ue,A0 I S (a.add 14) (.int .i64 ue) /\
 ∃ uf,A0 I S (a.add 15) (.string uf) /\
 ∃ ug,A0 I S (a.add 16) (.int .i64 ug) /\
 ∃ uh,A0 I S (a.add 17) (.bool uh) /\
 ∃ ui,A0 I S (a.add 18) (.int .i64 ui) /\
 ∃ uj,A0 I S (a.add 1) (.int .u16 uj) /\
 ∃ uk,A0 I S ((a.add 1).add 1) (.bool uk) /\
 ∃ ul,A0 I S ((a.add 1).add 2) (.int .i64 ul) /\
 ∃ um,A0 I S ((a.add 1).add 3) (.bool um) /\
 ∃ un,A0 I S ((a.add 1).add 4) (.bool un) /\
 ∃ uo,A0 I S ((a.add 1).add 5) (.bool uo) /\
 ∃ up,A0 I S ((a.add 1).add 6) (.bool up) /\
 ∃ uq,A0 I S ((a.add 1).add 7) (.int .i64 uq) /\
 ∃ ur,A0 I S ((a.add 1).add 8) (.string ur) /\
 ∃ us,A0 I S ((a.add 1).add 9) (.int .u16 us) /\
 ∃ ut H G,A0 I S ((a.add 1).add 10) (.slice ut H G) /\
 ∃ uu K J,A0 I S ((a.add 1).add 11) (.slice uu K J) /\
 ∃ uv M L,A0 I S ((a.add 1).add 12) (.slice uv M L) /\
 ∃ uw,A0 I S ((a.add 1).add 13) (.int .i64 uw) /\
 Runs Try.prog 20 #[.agg #[.int .u16 uj,.bool uk,.int .i64 ul,.bool um,.bool un,.bool uo,.bool up,.int .i64 uq,.string ur,.int .u16 us,.slice ut H G,.slice uu K J,.slice uv M L,.int .i64 uw],.int .i64 2] I S fun v Y Z=>∃ ux uy uz l m n o p q r s c b t e d u g f w,v = .agg #[.int .u16 ux,.bool uy,.int .i64 uz,.bool l,.bool m,.bool n,.bool o,.int .i64 p,.string q,.int .u16 r,.slice s c b,.slice t e d,.slice u g f,.int .i64 w] /\
 Ap I S Y Z /\
 Runs Try.prog 19 #[.agg #[.int .u16 u0,.int .u16 u1,.bool u2,.int .i64 u3,.bool u4,.bool u5,.bool u6,.bool u7,.int .i64 u8,.string u9,.int .u16 ua,.slice ub B A,.slice uc D C,.slice ud F E,.int .i64 ue,.string uf,.int .i64 ug,.bool uh,.int .i64 ui],.agg #[.int .u16 ux,.bool uy,.int .i64 uz,.bool l,.bool m,.bool n,.bool o,.int .i64 p,.string q,.int .u16 r,.slice s c b,.slice t e d,.slice u g f,.int .i64 w]] Y Z fun v' j P=>∃ x i h,v' = .slice x i h /\
 AB 52 6 72 [.int .i64 0,.string ⟨#[]⟩,.int .i64 0,.bool false,.int .i64 0,.slice none 0 0] (some (.slice 52)) j P (.slice x5 X W) (.slice x i h) fun Q z y k=>
 Ph g5 R x0 Q z y T O N U V j k
def Pf (g5:EL) (R:RT) (K L:OA) (o n:Nat) (j:OA) (c k:Nat) (m a:Int) (I:A1) (S:SH):Prop:=
 A6 j fun b=>(0:Int) <= a /\ a < (c:Int) /\
 ∃ p,A0 I S (b.add (a.toNat * 19)) (.int .u16 p) /\
 ∃ q,A0 I S ((b.add (a.toNat * 19)).add 1) (.int .u16 q) /\
 ∃ r,A0 I S ((b.add (a.toNat * 19)).add 2) (.bool r) /\
 ∃ s,A0 I S ((b.add (a.toNat * 19)).add 3) (.int .i64 s) /\
 ∃ t,A0 I S ((b.add (a.toNat * 19)).add 4) (.bool t) /\
 ∃ u,A0 I S ((b.add (a.toNat * 19)).add 5) (.bool u) /\
 ∃ v,A0 I S ((b.add (a.toNat * 19)).add 6) (.bool v) /\
 ∃ w,A0 I S ((b.add (a.toNat * 19)).add 7) (.bool w) /\
 ∃ x,A0 I S ((b.add (a.toNat * 19)).add 8) (.int .i64 x) /\
 ∃ y,A0 I S ((b.add (a.toNat * 19)).add 9) (.string y) /\
 ∃ z,A0 I S ((b.add (a.toNat * 19)).add 10) (.int .u16 z) /\
 ∃ A e d,A0 I S ((b.add (a.toNat * 19)).add 11) (.slice A e d) /\
 ∃ B g f,A0 I S ((b.add (a.toNat * 19)).add 12) (.slice B g f) /\
 ∃ C i h,A0 I S ((b.add (a.toNat * 19)).add 13) (.slice C i h) /\
 ∃ D,A0 I S ((b.add (a.toNat * 19)).add 14) (.int .i64 D) /\
 ∃ E,A0 I S ((b.add (a.toNat * 19)).add 15) (.string E) /\
 ∃ F,A0 I S ((b.add (a.toNat * 19)).add 16) (.int .i64 F) /\
 ∃ G,A0 I S ((b.add (a.toNat * 19)).add 17) (.bool G) /\
 ∃ H,A0 I S ((b.add (a.toNat * 19)).add 18) (.int .i64 H) /\
 ∀ l:Nat,
 Ad ((l,.cells #[.int .u16 0,.int .u16 0,.bool false,.int .i64 0,.bool false,.bool false,.bool false,.bool false,.int .i64 0,.string ⟨#[]⟩,.int .u16 0,.slice none 0 0,.slice none 0 0,.slice none 0 0,.int .i64 0,.string ⟨#[]⟩,.int .i64 0,.bool false,.int .i64 0] 68 (0,0)) :: S) ⟨l,0,none⟩ [.int .u16 p,.int .u16 q,.bool r,.int .i64 s,.bool t,.bool u,.bool v,.bool w,.int .i64 x,.string y,.int .u16 z,.slice A e d,.slice B g f,.slice C i h,.int .i64 D,.string E,.int .i64 F,.bool G,.int .i64 H] fun J=>
 Pg g5 R K L o n ⟨l,0,none⟩ j c k m a I J
abbrev Bj:=OA -> OA -> Nat -> Nat -> OA -> Nat -> Nat -> Int -> Int -> PR
def Cu (g11:Bj) (R:RT) (h i:OA) (g f:Nat) (c:OA) (b a:Nat) (d e:Int) (I:A1) (S:SH):Prop:=
 g11 h i g f c b a d (IntKind.wrap .i64 (e + (1:Int))) I S
def Ct (g11:Bj) (R:RT) (o F:OA) (k j:Nat) (J:Int) (a:Addr) (p:Bool) (g:OA) (c b:Nat) (h i:Int) (I:A1) (S:SH):Prop:=
 A2 p
  (∃ r,A0 I S a (.int .u16 r) /\
  ∃ s,A0 I S (a.add 1) (.int .u16 s) /\
  ∃ t,A0 I S (a.add 2) (.bool t) /\
  ∃ u,A0 I S (a.add 3) (.string u) /\
  ∃ w,A0 I S (a.add 4) (.int .u16 w) /\
  ∃ x,A0 I S (a.add 5) (.int .u32 x) /\
  ∃ y,A0 I S (a.add 6) (.string y) /\
  Runs Try.prog 31 #[.pointer o,.int .i64 J,.agg #[.int .u16 r,.int .u16 s,.bool t,.string u,.int .u16 w,.int .u32 x,.string y]] I S fun v q G=>∃ z A B C D E f e,v = .agg #[.int .i64 z,.string A,.int .i64 B,.bool C,.int .i64 D,.slice E f e] /\
  ∀ d:Nat,
  AB 52 6 72 [.int .i64 0,.string ⟨#[]⟩,.int .i64 0,.bool false,.int .i64 0,.slice none 0 0] (some (.slice 52)) q ((d,.cells #[.int .i64 z,.string A,.int .i64 B,.bool C,.int .i64 D,.slice E f e] 52 (0,0)) :: G) (.slice F k j) (.slice (some ⟨d,0,none⟩) 1 1) fun H n m l=>
  Cu g11 R o H n m g c b h i q l)
  (Cu g11 R o F k j g c b h i I S)
def DX (g11:Bj) (R:RT) (r E:OA) (q p:Nat) (F:Int) (G m:OA) (f e:Nat) (n o:Int) (I:A1) (S:SH):Prop:=
 ∃ C1:A1 -> SH -> Prop,C1 I S /\
 A6 r fun u0=>
 ∃ z,(∀ (J:A1) (T:SH),C1 J T -> A0 J T (u0.add 3) (.int .i64 z)) /\
 (Runs Try.prog 30 #[.pointer r] I S fun v x y=>∃ C,v = .int .u16 C /\
 C1 x y /\
 (Runs Try.prog 29 #[.pointer G,.int .i64 z,.int .u16 C] x y fun v' A B=>∃ H K L M N O P Q,v' = .tuple #[.agg #[.int .u16 H,.int .u16 K,.bool L,.string M,.int .u16 N,.int .u32 O,.string P],.bool Q] /\
 ∀ l:Nat,
 Ad ((l,.cells #[.int .u16 0,.int .u16 0,.bool false,.string ⟨#[]⟩,.int .u16 0,.int .u32 0,.string ⟨#[]⟩] 93 (0,0)) :: B) ⟨l,0,none⟩ [.int .u16 H,.int .u16 K,.bool L,.string M,.int .u16 N,.int .u32 O,.string P] fun t=>
 Ct g11 R r E q p F ⟨l,0,none⟩ Q m f e n o A t) /\
 (∀ b:Nat,
 C1 x ((b,.cells #[.int .u16 0,.int .u16 0,.bool false,.string ⟨#[]⟩,.int .u16 0,.int .u32 0,.string ⟨#[]⟩] 93 (0,0)) :: y) /\
 Runs Try.prog 29 #[.pointer G,.int .i64 z,.int .u16 C] x ((b,.cells #[.int .u16 0,.int .u16 0,.bool false,.string ⟨#[]⟩,.int .u16 0,.int .u32 0,.string ⟨#[]⟩] 93 (0,0)) :: y) fun D s h=>∃ U V W X Y Z uh ui,D = .tuple #[.agg #[.int .u16 U,.int .u16 V,.bool W,.string X,.int .u16 Y,.int .u32 Z,.string uh],.bool ui] /\
 Ad h ⟨b,0,none⟩ [.int .u16 U,.int .u16 V,.bool W,.string X,.int .u16 Y,.int .u32 Z,.string uh] fun i=>
 Ct g11 R r E q p F ⟨b,0,none⟩ ui m f e n o s i)) /\
 (∀ a:Nat,
 C1 I ((a,.cells #[.int .u16 0,.int .u16 0,.bool false,.string ⟨#[]⟩,.int .u16 0,.int .u32 0,.string ⟨#[]⟩] 93 (0,0)) :: S) /\
 Runs Try.prog 30 #[.pointer r] I ((a,.cells #[.int .u16 0,.int .u16 0,.bool false,.string ⟨#[]⟩,.int .u16 0,.int .u32 0,.string ⟨#[]⟩] 93 (0,0)) :: S) fun u c d=>∃ uj,u = .int .u16 uj /\
 C1 c d /\
 Runs Try.prog 29 #[.pointer G,.int .i64 z,.int .u16 uj] c d fun w g j=>∃ uk ul um un uo up uq ur,w = .tuple #[.agg #[.int .u16 uk,.int .u16 ul,.bool um,.string un,.int .u16 uo,.int .u32 up,.string uq],.bool ur] /\
 Ad j ⟨a,0,none⟩ [.int .u16 uk,.int .u16 ul,.bool um,.string un,.int .u16 uo,.int .u32 up,.string uq] fun k=>
 Ct g11 R r E q p F ⟨a,0,none⟩ ur m f e n o g k)
def Gk (g11:Bj) (R:RT) (e w:OA) (j i:Nat) (p:Int) (q f:OA) (b a:Nat) (g h:Int) (I:A1) (S:SH):Prop:=
 ∃ C1:A1 -> SH -> Prop,C1 I S /\
 A6 e fun r=>
 ∃ m,(∀ (J:A1) (T:SH),C1 J T -> A0 J T (r.add 7) (.pointer m)) /\
 A6 e fun s=>
 ∃ n,A0 I S (s.add 3) (.int .i64 n) /\
 Runs Try.prog 28 #[.pointer q,.int .i64 n] I S fun v k l=>∃ o,v = .bool o /\
 C1 k l /\
 Runs Try.prog 27 #[.pointer m,.int .i64 p,.bool o] k l fun u c d=>∃ t,u = .bool t /\
 DX g11 R e w j i p q f b a g h c d
def Gj (g11:Bj) (R:RT) (j k:OA) (g f:Nat) (c:OA) (b d:Nat) (e a:Int) (I:A1) (S:SH):Prop:=
 A6 c fun i=>(0:Int) <= a /\ a < (b:Int) /\
 ∃ h,A0 I S (i.add (a.toNat * 1)) (.pointer h) /\
 Gk g11 R j k g f a h c b d e a I S
def Gm (R:RT) (c:OA) (b a:Nat) (I:A1) (S:SH):Prop:=
 R (.slice c b a) I S
def Gn (g11:Bj) (R:RT) (i h:OA) (f e:Nat) (g:OA) (b a:Nat) (c d:Int) (I:A1) (S:SH):Prop:=
 A2 (decide (d < c))
  (Gj g11 R i h f e g b a c d I S)
  (Gm R h f e I S)
def Gi (R:RT) (h i:OA) (g f:Nat) (c:OA) (b a:Nat) (d e:Int) (I:A1) (S:SH):Prop:=
 ∃ (Inv:Nat -> Bj) (m:Nat),Inv m h i g f c b a d e I S /\
  ∀ (m:Nat) (h i:OA) (g f:Nat) (c:OA) (b a:Nat) (d e:Int) (J:A1) (T:SH),I.le J -> Inv m h i g f c b a d e J T ->
   Gn (fun h i g f c b a d e I S=>∃ m',m' < m /\ Inv m' h i g f c b a d e I S) R h i g f c b a d e J T
def K9 (R:RT) (f h:OA) (d c:Nat) (I:A1) (S:SH):Prop:=
 A6 f fun g=>
 ∃ e a b,A0 I S (g.add 6) (.slice e a b) /\
 Gi R f h d c e a b (a:Int) 0 I S
def Pi (g5:EL) (R:RT) (h i:OA) (f e:Nat) (g:OA) (b a:Nat) (c d:Int) (I:A1) (S:SH):Prop:=
 A2 (decide (d < c))
  (Pf g5 R h i f e g b a c d I S)
  (K9 R h i f e I S)
def K8 (R:RT) (h i:OA) (g f:Nat) (c:OA) (b a:Nat) (d e:Int) (I:A1) (S:SH):Prop:=
 ∃ (Inv:Nat -> EL) (m:Nat),Inv m h i g f c b a d e I S /\
  ∀ (m:Nat) (h i:OA) (g f:Nat) (c:OA) (b a:Nat) (d e:Int) (J:A1) (T:SH),I.le J -> Inv m h i g f c b a d e J T ->
   Pi (fun h i g f c b a d e I S=>∃ m',m' < m /\ Inv m' h i g f c b a d e I S) R h i g f c b a d e J T
def K7 (R:RT) (e f:OA) (a b:Nat) (g:OA) (d c:Nat) (I:A1) (S:SH):Prop:=
 K8 R e g d c f a b (a:Int) 0 I S
def K6 (R:RT) (e h:OA) (b a:Nat) (i:OA) (d c:Nat) (I:A1) (S:SH):Prop:=
 A6 e fun g=>
 Ad S (g.add 5) [.slice i d c] fun f=>
 K7 R e h b a none 0 0 I f
def K5 (R:RT) (g:OA) (I:A1) (S:SH):Prop:=
 A6 g fun n=>
 ∃ h b a,A0 I S (n.add 5) (.slice h b a) /\
 A6 g fun o=>
 ∃ i,A0 I S (o.add 3) (.int .i64 i) /\
 Runs Try.prog 26 #[.slice h b a,.int .i64 i] I S fun v l m=>∃ j d c k f e,v = .tuple #[.slice j d c,.slice k f e] /\
 K6 R g j d c k f e l m
def Uu (R:RT) (a:OA) (I:A1) (S:SH):Prop:=
 A6 a fun d=>
 ∃ b,A0 I S (d.add 3) (.int .i64 b) /\
 A6 a fun e=>
 Ad S (e.add 3) [.int .i64 (IntKind.wrap .i64 (b + (1:Int)))] fun c=>
 K5 R a I c
theorem RP (R:RT) (u:OA) (I:A1) (S:SH) (h:Uu R u I S):Runs Try.prog 9 #[.pointer u] I S R:=by
 refine Runs.of_wp (c:=cd Try.f9) Try.func9 (by kernel_rfl) (by kernel_rfl) ?_
 refine cO 2 [kP 0] (K5 R) h fun _ _ _ _ _ h=>?_
 refine sO [kP 0,kL 3,kL 4] (K6 R) (dR (tk 8 0 (.step 8 (tk 5 9 .done))) [8] h) fun _ _ _ _ _ _ _ _ _ _ _ h=>?_
 refine cO 2 [kP 0,kL 3,kL 5] (K7 R) h fun _ _ _ _ _ _ _ _ _ _ _ h=>?_
 refine sO [kP 0,kL 5] (K9 R) ?_ fun _ _ _ _ _ _ _ _ h=>?_
 ·refine cO 1 [kP 0,kL 5,kL 35,kI .i64 36,kI .i64 37] (K8 R) h fun _ _ _ _ _ _ _ _ _ _ _ _ _ h=>?_
  refine bK ?_
  obtain ⟨t,s,h,hr⟩:=h
  refine lO [kP 0,kL 5,kL 35,kI .i64 36,kI .i64 37] t s h fun s _ I S hle n o b a p i g q r h=>?_
  have h:=hr s n o b a p i g q r I S hle h
  refine cO 2 [kP 0,kL 5,kL 35,kI .i64 36,kI .i64 37] (Pf (fun n o b a p i g q r I S=>∃ m',m' < s /\ t m' n o b a p i g q r I S) R) h fun _ _ _ _ _ _ _ _ _ _ _ _ _ h=>?_
  refine sO [kP 0,kL 5,kL 35,kI .i64 36,kI .i64 37] (Ph (fun n o b a p i g q r I S=>∃ m',m' < s /\ t m' n o b a p i g q r I S) R) ?_ fun _ _ _ _ _ _ _ _ _ _ _ _ _ h=>?_
  ·refine bK ?_
   refine cO 1 [kP 0,kL 5,kA 7,kL 35,kI .i64 36,kI .i64 37] (Pg (fun n o b a p i g q r I S=>∃ m',m' < s /\ t m' n o b a p i g q r I S) R) h fun _ _ _ _ _ _ _ _ _ _ _ _ _ _ h=>?_
   exact dR (tk 4 0 (.step 4 (.step 5 (.step 6 (.take 7 .done))))) [4,5,6] h
  exact pS h
 refine sO [kL 5] (Gm R) ?_ fun _ _ _ _ _ _ _ h=>?_
 ·refine cO 1 [kP 0,kL 5,kL 52,kI .i64 53,kI .i64 54] (Gi R) h fun _ _ _ _ _ _ _ _ _ _ _ _ _ h=>?_
  refine bK ?_
  obtain ⟨m,f,h,hr⟩:=h
  refine lO [kP 0,kL 5,kL 52,kI .i64 53,kI .i64 54] m f h fun f _ I S hle n o b a j e d k l h=>?_
  have h:=hr f n o b a j e d k l I S hle h
  refine cO 2 [kP 0,kL 5,kL 52,kI .i64 53,kI .i64 54] (Gj (fun n o b a j e d k l I S=>∃ m',m' < f /\ m m' n o b a j e d k l I S) R) h fun _ _ _ _ _ _ _ _ _ _ _ _ _ h=>?_
  refine sO [kP 0,kL 5,kL 52,kI .i64 53,kI .i64 54] (Cu (fun n o b a j e d k l I S=>∃ m',m' < f /\ m m' n o b a j e d k l I S) R) ?_ fun _ _ _ _ _ _ _ _ _ _ _ _ _ h=>?_
  ·refine bK ?_
   refine cO 1 [kP 0,kL 5,kI .i64 8,kP 9,kL 52,kI .i64 53,kI .i64 54] (Gk (fun n o b a j e d k l I S=>∃ m',m' < f /\ m m' n o b a j e d k l I S) R) h fun _ _ _ _ _ _ _ _ _ _ _ _ _ _ _ h=>?_
   refine sO [kP 0,kL 5,kI .i64 8,kP 9,kL 52,kI .i64 53,kI .i64 54] (DX (fun n o b a j e d k l I S=>∃ m',m' < f /\ m m' n o b a j e d k l I S) R) (WP.drawC (tk 10 0 (.step 10 (.step 11 .done))) [10,11] [3] (by kernel_rfl) (by kernel_rfl) (by kernel_rfl) (by kernel_rfl) (by kernel_rfl) (cast (by kernel_rfl) h)) fun _ _ _ _ _ _ _ _ _ _ _ _ _ _ _ h=>?_
   refine sO [kP 0,kL 5,kI .i64 8,kA 10,kB 11,kL 52,kI .i64 53,kI .i64 54] (Ct (fun n o b a j e d k l I S=>∃ m',m' < f /\ m m' n o b a j e d k l I S) R) (WP.drawC (tk 6 0 (.fork 6 (.fork 7 (tk 3 8 (.step 11 (.step 12 (.take 13 .done)))) 11 (.step 7 (tk 3 8 (.step 12 (.take 13 .done))))) 11 (.step 6 (.step 7 (tk 3 8 (.step 12 (.take 13 .done))))))) [6,7,11,12] [4] (by kernel_rfl) (by kernel_rfl) (by kernel_rfl) (by kernel_rfl) (by kernel_rfl) (cast (by kernel_rfl) h)) fun _ _ _ _ _ _ _ _ _ _ _ _ _ _ _ _ h=>?_
   exact pS h
  exact pS h
 exact pS h
def Uw (R:RT) (b:OA) (I:A1) (S:SH):Prop:=
 A6 b fun c=>
 ∃ a,A0 I S (c.add 3) (.int .i64 a) /\
 R (.int .i64 a) I S
theorem RR (R:RT) (a:OA) (I:A1) (S:SH) (h:Uw R a I S):Runs Try.prog 10 #[.pointer a] I S R:=by
 refine Runs.of_wp (c:=cd Try.f10) Try.func10 (by kernel_rfl) (by kernel_rfl) ?_
 exact pS h
abbrev Pd:=OA -> Nat -> Nat -> Int -> Int -> PR
def JX (R:RT) (I:A1) (S:SH):Prop:=
 R (.bool true) I S
def JY (g3:Pd) (R:RT) (f:OA) (b c:Nat) (g a:Int) (I:A1) (S:SH):Prop:=
 A2 (decide (a < g))
  (A6 f fun h=>(0:Int) <= a /\ a < (b:Int) /\
  ∃ d,A0 I S (h.add (a.toNat * 1)) (.pointer d) /\
  A6 d fun i=>
  ∃ e,A0 I S (i.add 2) (.bool e) /\
  A2 (!e)
   (R (.bool false) I S)
   (g3 f b c g (IntKind.wrap .i64 (a + (1:Int))) I S))
  (JX R I S)
def Gf (R:RT) (d:OA) (c b:Nat) (e a:Int) (I:A1) (S:SH):Prop:=
 ∃ (Inv:Nat -> Pd) (m:Nat),Inv m d c b e a I S /\
  ∀ (m:Nat) (d:OA) (c b:Nat) (e a:Int) (J:A1) (T:SH),I.le J -> Inv m d c b e a J T ->
   JY (fun d c b e a I S=>∃ m',m' < m /\ Inv m' d c b e a I S) R d c b e a J T
def Ge (R:RT) (e:OA) (I:A1) (S:SH):Prop:=
 A6 e fun d=>
 ∃ c a b,A0 I S (d.add 6) (.slice c a b) /\
 Gf R c a b (a:Int) 0 I S
def TR (R:RT) (a:OA) (I:A1) (S:SH):Prop:=
 Ge R a I S
theorem Pc (R:RT) (g:OA) (I:A1) (S:SH) (h:TR R g I S):Runs Try.prog 11 #[.pointer g] I S R:=by
 refine Runs.of_wp (c:=cd Try.f11) Try.func11 (by kernel_rfl) (by kernel_rfl) ?_
 refine cO 1 [kP 0] (Ge R) h fun _ _ _ _ _ h=>?_
 refine sO [] (JX R) ?_ fun _ _ _ _ h=>?_
 ·refine cO 1 [kL 8,kI .i64 9,kI .i64 10] (Gf R) h fun _ _ _ _ _ _ _ _ _ h=>?_
  refine bK ?_
  obtain ⟨b,a,h,hr⟩:=h
  refine lO [kL 8,kI .i64 9,kI .i64 10] b a h fun a _ I S hle i f e j d h=>?_
  have h:=hr a i f e j d I S hle h
  exact pS h
 exact pS h
def UD (R:RT) (u0:ByteArray) (u1:Int) (u2:Bool) (h:Int) (i:Bool) (j:Int) (k l m n:Bool) (o:Int) (p:ByteArray) (q:Int) (r:OA) (b a:Nat) (s:OA) (d c:Nat) (t:OA) (f e:Nat) (u uh:Int) (I:A1) (S:SH):Prop:=
 ∀ g:Nat,
 ∃ H,A0 I ((g,.cells #[.int .u16 h,.bool i,.int .i64 j,.bool k,.bool l,.bool m,.bool n,.int .i64 o,.string p,.int .u16 q,.slice r b a,.slice s d c,.slice t f e,.int .i64 u] 45 (0,0)) :: S) ⟨g,0,none⟩ (.int .u16 H) /\
 ∃ J,A0 I ((g,.cells #[.int .u16 h,.bool i,.int .i64 j,.bool k,.bool l,.bool m,.bool n,.int .i64 o,.string p,.int .u16 q,.slice r b a,.slice s d c,.slice t f e,.int .i64 u] 45 (0,0)) :: S) ⟨g,1,none⟩ (.bool J) /\
 ∃ K,A0 I ((g,.cells #[.int .u16 h,.bool i,.int .i64 j,.bool k,.bool l,.bool m,.bool n,.int .i64 o,.string p,.int .u16 q,.slice r b a,.slice s d c,.slice t f e,.int .i64 u] 45 (0,0)) :: S) ⟨g,2,none⟩ (.int .i64 K) /\
 ∃ L,A0 I ((g,.cells #[.int .u16 h,.bool i,.int .i64 j,.bool k,.bool l,.bool m,.bool n,.int .i64 o,.string p,.int .u16 q,.slice r b a,.slice s d c,.slice t f e,.int .i64 u] 45 (0,0)) :: S) ⟨g,3,none⟩ (.bool L) /\
 ∃ M,A0 I ((g,.cells #[.int .u16 h,.bool i,.int .i64 j,.bool k,.bool l,.bool m,.bool n,.int .i64 o,.string p,.int .u16 q,.slice r b a,.slice s d c,.slice t f e,.int .i64 u] 45 (0,0)) :: S) ⟨g,4,none⟩ (.bool M) /\
 ∃ N,A0 I ((g,.cells #[.int .u16 h,.bool i,.int .i64 j,.bool k,.bool l,.bool m,.bool n,.int .i64 o,.string p,.int .u16 q,.slice r b a,.slice s d c,.slice t f e,.int .i64 u] 45 (0,0)) :: S) ⟨g,5,none⟩ (.bool N) /\
 ∃ O,A0 I ((g,.cells #[.int .u16 h,.bool i,.int .i64 j,.bool k,.bool l,.bool m,.bool n,.int .i64 o,.string p,.int .u16 q,.slice r b a,.slice s d c,.slice t f e,.int .i64 u] 45 (0,0)) :: S) ⟨g,6,none⟩ (.bool O) /\
 ∃ P,A0 I ((g,.cells #[.int .u16 h,.bool i,.int .i64 j,.bool k,.bool l,.bool m,.bool n,.int .i64 o,.string p,.int .u16 q,.slice r b a,.slice s d c,.slice t f e,.int .i64 u] 45 (0,0)) :: S) ⟨g,7,none⟩ (.int .i64 P) /\
 ∃ Q,A0 I ((g,.cells #[.int .u16 h,.bool i,.int .i64 j,.bool k,.bool l,.bool m,.bool n,.int .i64 o,.string p,.int .u16 q,.slice r b a,.slice s d c,.slice t f e,.int .i64 u] 45 (0,0)) :: S) ⟨g,8,none⟩ (.string Q) /\
 ∃ T,A0 I ((g,.cells #[.int .u16 h,.bool i,.int .i64 j,.bool k,.bool l,.bool m,.bool n,.int .i64 o,.string p,.int .u16 q,.slice r b a,.slice s d c,.slice t f e,.int .i64 u] 45 (0,0)) :: S) ⟨g,9,none⟩ (.int .u16 T) /\
 ∃ U y x,A0 I ((g,.cells #[.int .u16 h,.bool i,.int .i64 j,.bool k,.bool l,.bool m,.bool n,.int .i64 o,.string p,.int .u16 q,.slice r b a,.slice s d c,.slice t f e,.int .i64 u] 45 (0,0)) :: S) ⟨g,10,none⟩ (.slice U y x) /\
 ∃ V A z,A0 I ((g,.cells #[.int .u16 h,.bool i,.int .i64 j,.bool k,.bool l,.bool m,.bool n,.int .i64 o,.string p,.int .u16 q,.slice r b a,.slice s d c,.slice t f e,.int .i64 u] 45 (0,0)) :: S) ⟨g,11,none⟩ (.slice V A z) /\
 ∃ W C B,A0 I ((g,.cells #[.int .u16 h,.bool i,.int .i64 j,.bool k,.bool l,.bool m,.bool n,.int .i64 o,.string p,.int .u16 q,.slice r b a,.slice s d c,.slice t f e,.int .i64 u] 45 (0,0)) :: S) ⟨g,12,none⟩ (.slice W C B) /\
 ∃ X,A0 I ((g,.cells #[.int .u16 h,.bool i,.int .i64 j,.bool k,.bool l,.bool m,.bool n,.int .i64 o,.string p,.int .u16 q,.slice r b a,.slice s d c,.slice t f e,.int .i64 u] 45 (0,0)) :: S) ⟨g,13,none⟩ (.int .i64 X) /\
 Runs Try.prog 38 #[.agg #[.int .u16 H,.bool J,.int .i64 K,.bool L,.bool M,.bool N,.bool O,.int .i64 P,.string Q,.int .u16 T,.slice U y x,.slice V A z,.slice W C B,.int .i64 X],.int .i64 uh] I ((g,.cells #[.int .u16 h,.bool i,.int .i64 j,.bool k,.bool l,.bool m,.bool n,.int .i64 o,.string p,.int .u16 q,.slice r b a,.slice s d c,.slice t f e,.int .i64 u] 45 (0,0)) :: S) fun v F G=>∃ Y E D Z,v = .tuple #[.slice Y E D,.bool Z] /\
 A2 (!Z)
  (R (.slice none 0 0) F G)
  (∀ w:Nat,
  R (.slice (some ⟨w,0,none⟩) 1 1) F ((w,.cells #[.int .i64 0,.string u0,.int .i64 u1,.bool u2,.int .i64 0,.slice Y E D] 52 (0,0)) :: G))
theorem RZ (R:RT) (i:ByteArray) (j:Int) (k:Bool) (l:Int) (m:Bool) (n:Int) (o p q r:Bool) (s:Int) (t:ByteArray) (u:Int) (v:OA) (b a:Nat) (w:OA) (e d:Nat) (x:OA) (g f:Nat) (y z:Int) (I:A1) (S:SH) (h:UD R i j k l m n o p q r s t u v b a w e d x g f y z I S):Runs Try.prog 18 #[.string i,.int .i64 j,.bool k,.agg #[.int .u16 l,.bool m,.int .i64 n,.bool o,.bool p,.bool q,.bool r,.int .i64 s,.string t,.int .u16 u,.slice v b a,.slice w e d,.slice x g f,.int .i64 y],.int .i64 z] I S R:=by
 refine Runs.of_wp (c:=cd Try.f18) Try.func18 (by kernel_rfl) (by kernel_rfl) ?_
 exact pS h
def Ku (R:RT) (c:OA) (b a:Nat) (I:A1) (S:SH):Prop:=
 R (.slice c b a) I S
def Kt (R:RT) (a b:Addr) (I:A1) (S:SH):Prop:=
 ∃ u,A0 I S (a.add 15) (.string u) /\
 ∃ w,A0 I S (a.add 16) (.int .i64 w) /\
 ∃ x,A0 I S (a.add 17) (.bool x) /\
 ∃ y,A0 I S b (.int .u16 y) /\
 ∃ z,A0 I S (b.add 1) (.bool z) /\
 ∃ A,A0 I S (b.add 2) (.int .i64 A) /\
 ∃ B,A0 I S (b.add 3) (.bool B) /\
 ∃ C,A0 I S (b.add 4) (.bool C) /\
 ∃ D,A0 I S (b.add 5) (.bool D) /\
 ∃ E,A0 I S (b.add 6) (.bool E) /\
 ∃ F,A0 I S (b.add 7) (.int .i64 F) /\
 ∃ G,A0 I S (b.add 8) (.string G) /\
 ∃ H,A0 I S (b.add 9) (.int .u16 H) /\
 ∃ J d c,A0 I S (b.add 10) (.slice J d c) /\
 ∃ K f e,A0 I S (b.add 11) (.slice K f e) /\
 ∃ L h g,A0 I S (b.add 12) (.slice L h g) /\
 ∃ M,A0 I S (b.add 13) (.int .i64 M) /\
 ∃ N,A0 I S (a.add 1) (.int .u16 N) /\
 ∃ O,A0 I S ((a.add 1).add 1) (.bool O) /\
 ∃ P,A0 I S ((a.add 1).add 2) (.int .i64 P) /\
 ∃ Q,A0 I S ((a.add 1).add 3) (.bool Q) /\
 ∃ T,A0 I S ((a.add 1).add 4) (.bool T) /\
 ∃ U,A0 I S ((a.add 1).add 5) (.bool U) /\
 ∃ V,A0 I S ((a.add 1).add 6) (.bool V) /\
 ∃ W,A0 I S ((a.add 1).add 7) (.int .i64 W) /\
 ∃ X,A0 I S ((a.add 1).add 8) (.string X) /\
 ∃ Y,A0 I S ((a.add 1).add 9) (.int .u16 Y) /\
 ∃ Z j i,A0 I S ((a.add 1).add 10) (.slice Z j i) /\
 ∃ us l k,A0 I S ((a.add 1).add 11) (.slice us l k) /\
 ∃ ut n m,A0 I S ((a.add 1).add 12) (.slice ut n m) /\
 ∃ uu,A0 I S ((a.add 1).add 13) (.int .i64 uu) /\
 ∃ uv,A0 I S (a.add 17) (.bool uv) /\
 Runs Try.prog 39 #[.agg #[.int .u16 N,.bool O,.int .i64 P,.bool Q,.bool T,.bool U,.bool V,.int .i64 W,.string X,.int .u16 Y,.slice Z j i,.slice us l k,.slice ut n m,.int .i64 uu],.bool uv] I S fun v s t=>∃ uw,v = .int .i64 uw /\
 Ap I S s t /\
 Runs Try.prog 18 #[.string u,.int .i64 w,.bool x,.agg #[.int .u16 y,.bool z,.int .i64 A,.bool B,.bool C,.bool D,.bool E,.int .i64 F,.string G,.int .u16 H,.slice J d c,.slice K f e,.slice L h g,.int .i64 M],.int .i64 uw] s t fun v' q r=>∃ ux p o,v' = .slice ux p o /\
 Ku R ux p o q r
def UC (R:RT) (o p:Int) (q:Bool) (r:Int) (s t u v:Bool) (w:Int) (x:ByteArray) (y:Int) (z:OA) (b a:Nat) (A:OA) (d c:Nat) (B:OA) (f e:Nat) (C:Int) (D:ByteArray) (E:Int) (F:Bool) (G H:Int) (J:Bool) (K:Int) (L M N O:Bool) (P:Int) (Q:ByteArray) (T:Int) (U:OA) (h g:Nat) (V:OA) (j i:Nat) (W:OA) (l k:Nat) (X:Int) (I:A1) (S:SH):Prop:=
 ∀ m:Nat,
 ∀ n:Nat,
 Kt R ⟨m,0,none⟩ ⟨n,0,none⟩ I ((n,.cells #[.int .u16 H,.bool J,.int .i64 K,.bool L,.bool M,.bool N,.bool O,.int .i64 P,.string Q,.int .u16 T,.slice U h g,.slice V j i,.slice W l k,.int .i64 X] 45 (0,0)) :: ((m,.cells #[.int .u16 o,.int .u16 p,.bool q,.int .i64 r,.bool s,.bool t,.bool u,.bool v,.int .i64 w,.string x,.int .u16 y,.slice z b a,.slice A d c,.slice B f e,.int .i64 C,.string D,.int .i64 E,.bool F,.int .i64 G] 68 (0,0)) :: S))
theorem RY (R:RT) (o p:Int) (q:Bool) (r:Int) (s t u v:Bool) (w:Int) (x:ByteArray) (y:Int) (z:OA) (b a:Nat) (A:OA) (e d:Nat) (B:OA) (g f:Nat) (C:Int) (D:ByteArray) (E:Int) (F:Bool) (G H:Int) (J:Bool) (K:Int) (L M N O:Bool) (P:Int) (Q:ByteArray) (T:Int) (U:OA) (j i:Nat) (V:OA) (l k:Nat) (W:OA) (n m:Nat) (X:Int) (I:A1) (S:SH) (h:UC R o p q r s t u v w x y z b a A e d B g f C D E F G H J K L M N O P Q T U j i V l k W n m X I S):Runs Try.prog 19 #[.agg #[.int .u16 o,.int .u16 p,.bool q,.int .i64 r,.bool s,.bool t,.bool u,.bool v,.int .i64 w,.string x,.int .u16 y,.slice z b a,.slice A e d,.slice B g f,.int .i64 C,.string D,.int .i64 E,.bool F,.int .i64 G],.agg #[.int .u16 H,.bool J,.int .i64 K,.bool L,.bool M,.bool N,.bool O,.int .i64 P,.string Q,.int .u16 T,.slice U j i,.slice V l k,.slice W n m,.int .i64 X]] I S R:=by
 refine Runs.of_wp (c:=cd Try.f19) Try.func19 (by kernel_rfl) (by kernel_rfl) ?_
 refine cO 1 [kA 2,kA 3] (Kt R) h fun _ _ _ _ _ _ h=>?_
 refine sO [kL 4] (Ku R) (dR (tk 11 0 (.step 11 (.step 12 (.take 13 .done)))) [11,12] h) fun _ _ _ _ _ _ _ h=>?_
 exact pS h
def Pa (R:RT) (c:OA) (b a:Nat) (I:A1) (S:SH):Prop:=
 R (.slice c b a) I S
def JH (R:RT) (N:OA) (n:Addr) (O:OA) (p o:Nat) (I:A1) (S:SH):Prop:=
 A6 N fun L=>
 Ad S (L.add 5) [.slice O p o] fun m=>
 ∃ q,A0 I m n (.int .u16 q) /\
 ∃ r,A0 I m ((n.add 1).add 8) (.string r) /\
 ∃ s,A0 I m (((n.add 1).add 8).add 1) (.int .u16 s) /\
 ∀ b:Nat,
 Ad ((b,.cells #[.int .u16 0,.bool false,.int .i64 0,.bool false,.bool false,.bool false,.bool false,.int .i64 0,.string ⟨#[]⟩,.int .u16 0,.slice none 0 0,.slice none 0 0,.slice none 0 0,.int .i64 0] 45 (0,0)) :: m) ⟨b,0,none⟩ [.int .u16 q,.bool false,.int .i64 0,.bool false,.bool false,.bool true,.bool false,.int .i64 0,.string r,.int .u16 s,.slice none 0 0,.slice none 0 0,.slice none 0 0,.int .i64 4096] fun a=>
 ∃ t,A0 I a ⟨b,0,none⟩ (.int .u16 t) /\
 ∃ u,A0 I a ⟨b,1,none⟩ (.bool u) /\
 ∃ w,A0 I a ⟨b,2,none⟩ (.int .i64 w) /\
 ∃ x,A0 I a ⟨b,3,none⟩ (.bool x) /\
 ∃ y,A0 I a ⟨b,4,none⟩ (.bool y) /\
 ∃ z,A0 I a ⟨b,5,none⟩ (.bool z) /\
 ∃ A,A0 I a ⟨b,6,none⟩ (.bool A) /\
 ∃ B,A0 I a ⟨b,7,none⟩ (.int .i64 B) /\
 ∃ C,A0 I a ⟨b,8,none⟩ (.string C) /\
 ∃ D,A0 I a ⟨b,9,none⟩ (.int .u16 D) /\
 ∃ E f e,A0 I a ⟨b,10,none⟩ (.slice E f e) /\
 ∃ F h g,A0 I a ⟨b,11,none⟩ (.slice F h g) /\
 ∃ G j i,A0 I a ⟨b,12,none⟩ (.slice G j i) /\
 ∃ H,A0 I a ⟨b,13,none⟩ (.int .i64 H) /\
 Runs Try.prog 38 #[.agg #[.int .u16 t,.bool u,.int .i64 w,.bool x,.bool y,.bool z,.bool A,.int .i64 B,.string C,.int .u16 D,.slice E f e,.slice F h g,.slice G j i,.int .i64 H],.int .i64 4096] I a fun v K c=>∃ J l k M,v = .tuple #[.slice J l k,.bool M] /\
 ∀ d:Nat,
 R (.slice (some ⟨d,0,none⟩) 1 1) K ((d,.cells #[.int .i64 1,.string ⟨#[]⟩,.int .i64 0,.bool false,.int .i64 0,.slice J l k] 52 (0,0)) :: c)
def JG (R:RT) (x0:OA) (a:Addr) (x5:OA) (N M:Nat) (L:Bool) (I:A1) (S:SH):Prop:=
 A2 L
  (∃ Q,A0 I S a (.int .u16 Q) /\
  ∃ T,A0 I S (a.add 1) (.int .u16 T) /\
  ∃ U,A0 I S (a.add 2) (.bool U) /\
  ∃ V,A0 I S (a.add 3) (.int .i64 V) /\
  ∃ W,A0 I S (a.add 4) (.bool W) /\
  ∃ X,A0 I S (a.add 5) (.bool X) /\
  ∃ Y,A0 I S (a.add 6) (.bool Y) /\
  ∃ Z,A0 I S (a.add 7) (.bool Z) /\
  ∃ u8,A0 I S (a.add 8) (.int .i64 u8) /\
  ∃ u9,A0 I S (a.add 9) (.string u9) /\
  ∃ ua,A0 I S (a.add 10) (.int .u16 ua) /\
  ∃ ub x w,A0 I S (a.add 11) (.slice ub x w) /\
  ∃ uc z y,A0 I S (a.add 12) (.slice uc z y) /\
  ∃ ud B A,A0 I S (a.add 13) (.slice ud B A) /\
  ∃ ue,A0 I S (a.add 14) (.int .i64 ue) /\
  ∃ uf,A0 I S (a.add 15) (.string uf) /\
  ∃ ug,A0 I S (a.add 16) (.int .i64 ug) /\
  ∃ uh,A0 I S (a.add 17) (.bool uh) /\
  ∃ ui,A0 I S (a.add 18) (.int .i64 ui) /\
  ∃ uj,A0 I S (a.add 1) (.int .u16 uj) /\
  ∃ uk,A0 I S ((a.add 1).add 1) (.bool uk) /\
  ∃ ul,A0 I S ((a.add 1).add 2) (.int .i64 ul) /\
  ∃ um,A0 I S ((a.add 1).add 3) (.bool um) /\
  ∃ un,A0 I S ((a.add 1).add 4) (.bool un) /\
  ∃ uo,A0 I S ((a.add 1).add 5) (.bool uo) /\
  ∃ up,A0 I S ((a.add 1).add 6) (.bool up) /\
  ∃ uq,A0 I S ((a.add 1).add 7) (.int .i64 uq) /\
  ∃ ur,A0 I S ((a.add 1).add 8) (.string ur) /\
  ∃ us,A0 I S ((a.add 1).add 9) (.int .u16 us) /\
  ∃ ut D C,A0 I S ((a.add 1).add 10) (.slice ut D C) /\
  ∃ uu F E,A0 I S ((a.add 1).add 11) (.slice uu F E) /\
  ∃ uv H G,A0 I S ((a.add 1).add 12) (.slice uv H G) /\
  ∃ uw,A0 I S ((a.add 1).add 13) (.int .i64 uw) /\
  Runs Try.prog 20 #[.agg #[.int .u16 uj,.bool uk,.int .i64 ul,.bool um,.bool un,.bool uo,.bool up,.int .i64 uq,.string ur,.int .u16 us,.slice ut D C,.slice uu F E,.slice uv H G,.int .i64 uw],.int .i64 2] I S fun v O P=>∃ ux uy uz j k l m n o p q c b r e d s g f t,v = .agg #[.int .u16 ux,.bool uy,.int .i64 uz,.bool j,.bool k,.bool l,.bool m,.int .i64 n,.string o,.int .u16 p,.slice q c b,.slice r e d,.slice s g f,.int .i64 t] /\
  Ap I S O P /\
  Runs Try.prog 19 #[.agg #[.int .u16 Q,.int .u16 T,.bool U,.int .i64 V,.bool W,.bool X,.bool Y,.bool Z,.int .i64 u8,.string u9,.int .u16 ua,.slice ub x w,.slice uc z y,.slice ud B A,.int .i64 ue,.string uf,.int .i64 ug,.bool uh,.int .i64 ui],.agg #[.int .u16 ux,.bool uy,.int .i64 uz,.bool j,.bool k,.bool l,.bool m,.int .i64 n,.string o,.int .u16 p,.slice q c b,.slice r e d,.slice s g f,.int .i64 t]] O P fun v' J K=>∃ u i h,v' = .slice u i h /\
  Pa R u i h J K)
  (JH R x0 a x5 N M I S)
def JF (R:RT) (c:OA) (d:Addr) (e:OA) (b a:Nat) (f:Value) (I:A1) (S:SH):Prop:=
 ∃ nl,B4 f = some nl /\
 JG R c d e b a (!nl) I S
def JE (R:RT) (J:OA) (a:Addr) (I:A1) (S:SH):Prop:=
 A6 J fun M=>
 ∃ l c b,A0 I S (M.add 5) (.slice l c b) /\
 ∃ m,A0 I S a (.int .u16 m) /\
 ∃ n,A0 I S (a.add 1) (.int .u16 n) /\
 ∃ o,A0 I S (a.add 2) (.bool o) /\
 ∃ p,A0 I S (a.add 3) (.int .i64 p) /\
 ∃ q,A0 I S (a.add 4) (.bool q) /\
 ∃ r,A0 I S (a.add 5) (.bool r) /\
 ∃ s,A0 I S (a.add 6) (.bool s) /\
 ∃ t,A0 I S (a.add 7) (.bool t) /\
 ∃ u,A0 I S (a.add 8) (.int .i64 u) /\
 ∃ w,A0 I S (a.add 9) (.string w) /\
 ∃ x,A0 I S (a.add 10) (.int .u16 x) /\
 ∃ y e d,A0 I S (a.add 11) (.slice y e d) /\
 ∃ z g f,A0 I S (a.add 12) (.slice z g f) /\
 ∃ A i h,A0 I S (a.add 13) (.slice A i h) /\
 ∃ B,A0 I S (a.add 14) (.int .i64 B) /\
 ∃ C,A0 I S (a.add 15) (.string C) /\
 ∃ D,A0 I S (a.add 16) (.int .i64 D) /\
 ∃ E,A0 I S (a.add 17) (.bool E) /\
 ∃ F,A0 I S (a.add 18) (.int .i64 F) /\
 Runs Try.prog 41 #[.slice l c b,.agg #[.int .u16 m,.int .u16 n,.bool o,.int .i64 p,.bool q,.bool r,.bool s,.bool t,.int .i64 u,.string w,.int .u16 x,.slice y e d,.slice z g f,.slice A i h,.int .i64 B,.string C,.int .i64 D,.bool E,.int .i64 F]] I S fun v K L=>∃ G k j H,v = .tuple #[.slice G k j,H] /\
 JF R J a G k j H K L
def JD (R:RT) (g:OA) (i:Addr) (I:A1) (S:SH):Prop:=
 ∃ C1:A1 -> SH -> Prop,C1 I S /\
 A6 g fun p=>
 ∃ l f e,(∀ (J:A1) (T:SH),C1 J T -> A0 J T (p.add 5) (.slice l f e)) /\
 A6 g fun q=>
 ∃ m,(∀ (J:A1) (T:SH),C1 J T -> A0 J T (q.add 3) (.int .i64 m)) /\
 A6 g fun r=>
 ∃ h,(∀ (J:A1) (T:SH),C1 J T -> A0 J T (r.add 2) (.int .i64 h)) /\
 Runs Try.prog 30 #[.pointer g] I S fun v j k=>∃ n,v = .int .u16 n /\
 C1 j k /\
 Runs Try.prog 40 #[.slice l f e,.int .u16 n] j k fun s b d=>∃ o,s = .int .u16 o /\
 C1 b d /\
 Ad d i [.int .u16 o] fun a=>
 C1 b a /\
 Ad a (i.add 18) [.int .i64 (IntKind.wrap .i64 (m + (if h > (1:Int) then h else (1:Int))))] fun c=>
 JE R g i b c
def Ui (R:RT) (h:OA) (i j:Int) (k:Bool) (l:Int) (m n o p:Bool) (q:Int) (r:ByteArray) (s:Int) (t:OA) (b a:Nat) (u:OA) (d c:Nat) (v:OA) (f e:Nat) (w:Int) (x:ByteArray) (y:Int) (z:Bool) (A:Int) (I:A1) (S:SH):Prop:=
 ∀ g:Nat,
 JD R h ⟨g,0,none⟩ I ((g,.cells #[.int .u16 i,.int .u16 j,.bool k,.int .i64 l,.bool m,.bool n,.bool o,.bool p,.int .i64 q,.string r,.int .u16 s,.slice t b a,.slice u d c,.slice v f e,.int .i64 w,.string x,.int .i64 y,.bool z,.int .i64 A] 68 (0,0)) :: S)
theorem RD (R:RT) (i:OA) (j k:Int) (l:Bool) (m:Int) (n o p q:Bool) (r:Int) (s:ByteArray) (t:Int) (u:OA) (b a:Nat) (v:OA) (e d:Nat) (w:OA) (g f:Nat) (x:Int) (y:ByteArray) (z:Int) (A:Bool) (B:Int) (I:A1) (S:SH) (h:Ui R i j k l m n o p q r s t u b a v e d w g f x y z A B I S):Runs Try.prog 21 #[.pointer i,.agg #[.int .u16 j,.int .u16 k,.bool l,.int .i64 m,.bool n,.bool o,.bool p,.bool q,.int .i64 r,.string s,.int .u16 t,.slice u b a,.slice v e d,.slice w g f,.int .i64 x,.string y,.int .i64 z,.bool A,.int .i64 B]] I S R:=by
 refine Runs.of_wp (c:=cd Try.f21) Try.func21 (by kernel_rfl) (by kernel_rfl) ?_
 refine cO 1 [kP 0,kA 3] (JD R) h fun _ _ _ _ _ _ h=>?_
 refine sO [kP 0,kA 3] (JE R) (WP.drawC (tk 5 0 (tk 11 7 (.step 5 (.step 6 (.take 18 (.step 19 (.take 20 (.step 21 .done)))))))) [5,6,19,21] [3,10,15] (by kernel_rfl) (by kernel_rfl) (by kernel_rfl) (by kernel_rfl) (by kernel_rfl) (cast (by kernel_rfl) h)) fun _ _ _ _ _ _ h=>?_
 refine sO [kP 0,kA 3,kL 5,kV 6] (JF R) (dR (tk 5 0 (.step 5 (tk 5 6 .done))) [5] h) fun _ _ _ _ _ _ _ _ _ _ h=>?_
 refine sO [kP 0,kA 3,kL 5] (JH R) ?_ fun _ _ _ _ _ _ _ _ _ h=>?_
 ·refine cO 1 [kP 0,kA 3,kL 5,kB 40] (JG R) h fun _ _ _ _ _ _ _ _ _ _ h=>?_
  refine cD h (fun h=>?_) fun h=>pS h
  refine sO [kL 4] (Pa R) (dR (tk 3 0 (.step 3 (.step 4 (.take 5 .done)))) [3,4] h) fun _ _ _ _ _ _ _ h=>?_
  exact pS h
 exact pS h
def Uv (R:RT) (a:OA) (I:A1) (S:SH):Prop:=
 A6 a fun e=>
 ∃ c,A0 I S (e.add 4) (.int .u16 c) /\
 A6 a fun f=>
 Ad S (f.add 4) [.int .u16 (IntKind.wrap .u16 ((IntKind.wrap .u16 (c * (25173:Int))) + (13849:Int)))] fun b=>
 A6 a fun g=>
 ∃ d,A0 I b (g.add 4) (.int .u16 d) /\
 R (.int .u16 d) I b
theorem RQ (R:RT) (a:OA) (I:A1) (S:SH) (h:Uv R a I S):Runs Try.prog 30 #[.pointer a] I S R:=by
 refine Runs.of_wp (c:=cd Try.f30) Try.func30 (by kernel_rfl) (by kernel_rfl) ?_
 exact pS h
def G8 (R:RT) (O:Int) (P d b:Addr) (I:A1) (S:SH):Prop:=
 ∃ p,A0 I S b (.int .u16 p) /\
 ∃ q,A0 I S (b.add 1) (.bool q) /\
 ∃ r,A0 I S (b.add 2) (.int .i64 r) /\
 ∃ s,A0 I S (b.add 3) (.bool s) /\
 ∃ t,A0 I S (b.add 4) (.bool t) /\
 ∃ u,A0 I S (b.add 5) (.bool u) /\
 ∃ w,A0 I S (b.add 6) (.bool w) /\
 ∃ x,A0 I S (b.add 7) (.int .i64 x) /\
 ∃ y,A0 I S (b.add 8) (.string y) /\
 ∃ z,A0 I S (b.add 9) (.int .u16 z) /\
 ∃ A f e,A0 I S (b.add 10) (.slice A f e) /\
 ∃ B h g,A0 I S (b.add 11) (.slice B h g) /\
 ∃ C j i,A0 I S (b.add 12) (.slice C j i) /\
 ∃ D,A0 I S (b.add 13) (.int .i64 D) /\
 Runs Try.prog 38 #[.agg #[.int .u16 p,.bool q,.int .i64 r,.bool s,.bool t,.bool u,.bool w,.int .i64 x,.string y,.int .u16 z,.slice A f e,.slice B h g,.slice C j i,.int .i64 D],.int .i64 4096] I S fun v c o=>∃ E l k N,v = .tuple #[.slice E l k,.bool N] /\
 ∃ F,A0 c o (P.add 1) (.int .u16 F) /\
 Ad o d [.int .i64 2,.string ⟨#[]⟩,.int .i64 0,.bool (F != (6:Int)),.int .i64 O,.slice E l k] fun a=>
 ∃ G,A0 c a d (.int .i64 G) /\
 ∃ H,A0 c a (d.add 1) (.string H) /\
 ∃ J,A0 c a (d.add 2) (.int .i64 J) /\
 ∃ K,A0 c a (d.add 3) (.bool K) /\
 ∃ L,A0 c a (d.add 4) (.int .i64 L) /\
 ∃ M n m,A0 c a (d.add 5) (.slice M n m) /\
 R (.agg #[.int .i64 G,.string H,.int .i64 J,.bool K,.int .i64 L,.slice M n m]) c a
def JS (R:RT) (i:Int) (a j c:Addr) (I:A1) (S:SH):Prop:=
 ∃ d,A0 I S (a.add 2) (.bool d) /\
 A2 d
  (∃ e,A0 I S (a.add 3) (.string e) /\
  ∃ f,A0 I S ((a.add 3).add 1) (.int .u16 f) /\
  ∃ g,A0 I S ((a.add 3).add 2) (.int .u32 g) /\
  ∃ h,A0 I S ((a.add 3).add 3) (.string h) /\
  ∀ b:Nat,
  Ad ((b,.cells #[.string e,.int .u16 f,.int .u32 g,.string h] 91 (0,0)) :: S) (c.add 11) [.slice (some ⟨b,0,none⟩) 1 1] fun k=>
  G8 R i a j c I k)
  (G8 R i a j c I S)
def JR (R:RT) (o:OA) (c:Int) (e p:Addr) (I:A1) (S:SH):Prop:=
 ∃ f,A0 I S e (.int .u16 f) /\
 A6 o fun l=>
 ∃ g a d,A0 I S (l.add 6) (.slice g a d) /\
 A6 g fun m=>(0:Int) <= c /\ c < (a:Int) /\
 ∃ h,A0 I S (m.add (c.toNat * 1)) (.pointer h) /\
 A6 h fun n=>
 ∃ i,A0 I S n (.string i) /\
 ∃ j,A0 I S (e.add 1) (.int .u16 j) /\
 ∀ b:Nat,
 Ap I S I ((b,.cells #[.int .u16 0,.bool false,.int .i64 0,.bool false,.bool false,.bool false,.bool false,.int .i64 0,.string ⟨#[]⟩,.int .u16 0,.slice none 0 0,.slice none 0 0,.slice none 0 0,.int .i64 0] 45 (0,0)) :: S) /\
 Ad ((b,.cells #[.int .u16 0,.bool false,.int .i64 0,.bool false,.bool false,.bool false,.bool false,.int .i64 0,.string ⟨#[]⟩,.int .u16 0,.slice none 0 0,.slice none 0 0,.slice none 0 0,.int .i64 0] 45 (0,0)) :: S) ⟨b,0,none⟩ [.int .u16 f,.bool false,.int .i64 0,.bool false,.bool false,.bool false,.bool false,.int .i64 0,.string i,.int .u16 j,.slice none 0 0,.slice none 0 0,.slice none 0 0,.int .i64 0] fun k=>
 JS R c e p ⟨b,0,none⟩ I k
def Up (R:RT) (c:OA) (d e f:Int) (g:Bool) (h:ByteArray) (i j:Int) (k:ByteArray) (I:A1) (S:SH):Prop:=
 ∀ a:Nat,
 ∀ b:Nat,
 JR R c d ⟨a,0,none⟩ ⟨b,0,none⟩ I ((b,.cells #[.int .i64 0,.string ⟨#[]⟩,.int .i64 0,.bool false,.int .i64 0,.slice none 0 0] 52 (0,0)) :: ((a,.cells #[.int .u16 e,.int .u16 f,.bool g,.string h,.int .u16 i,.int .u32 j,.string k] 93 (0,0)) :: S))
theorem RJ (R:RT) (a:OA) (b d e:Int) (f:Bool) (g:ByteArray) (i j:Int) (k:ByteArray) (I:A1) (S:SH) (h:Up R a b d e f g i j k I S):Runs Try.prog 31 #[.pointer a,.int .i64 b,.agg #[.int .u16 d,.int .u16 e,.bool f,.string g,.int .u16 i,.int .u32 j,.string k]] I S R:=by
 refine Runs.of_wp (c:=cd Try.f31) Try.func31 (by kernel_rfl) (by kernel_rfl) ?_
 refine cO 1 [kP 0,kI .i64 1,kA 5,kA 6] (JR R) h fun _ _ _ _ _ _ _ _ h=>?_
 refine sO [kI .i64 1,kA 5,kA 6,kA 7] (JS R) (dR (tk 17 0 (.step 17 (.step 18 .done))) [17,18] h) fun _ _ _ _ _ _ _ _ h=>?_
 refine cO 1 [kI .i64 1,kA 5,kA 6,kA 7] (G8 R) h fun _ _ _ _ _ _ _ _ h=>?_
 exact pS h
def CP (R:RT) (a:Bool) (I:A1) (S:SH):Prop:=
 R (.bool a) I S
def Uq (R:RT) (I:A1) (S:SH):Prop:=
 ∀ o:Nat,
 ∀ p:Nat,
 Runs Try.prog 5 #[.agg #[.slice (some ⟨o,0,none⟩) 1 1,.slice none 0 0,.int .i64 3],.int .u16 7,.pointer (some ⟨p,0,none⟩)] I ((p,.cells #[.slice none 0 0,.int .i64 0] 34 (0,0)) :: ((o,.cells #[.string ⟨#[1,122]⟩] 39 (0,0)) :: S)) fun v m n=>∃ h,v = .pointer h /\
 A2 ((h:Option Addr).isNone)
  (R (.bool false) m n)
  (Runs Try.prog 9 #[.pointer h] m n fun x a b=>∃ j c k,x = .slice j c k /\
  A2 ((c:Int) == (1:Int))
   (A6 j fun u=>(0:Int) <= (0:Int) /\ (0:Int) < (c:Int) /\
   ∃ q,A0 a b (u.add ((0:Int).toNat * 6)) (.int .i64 q) /\
   A2 (q == (2:Int))
    (A6 j fun w=>(0:Int) <= (0:Int) /\ (0:Int) < (c:Int) /\
    ∃ r,A0 a b ((w.add ((0:Int).toNat * 6)).add 3) (.bool r) /\
    A2 r
     (Runs Try.prog 10 #[.pointer h] a b fun l d e=>∃ s,l = .int .i64 s /\
     A2 (s == (1:Int))
      (Runs Try.prog 11 #[.pointer h] d e fun i f g=>∃ t,i = .bool t /\
      CP R (!t) f g)
      (CP R false d e))
     (CP R false a b))
    (CP R false a b))
   (CP R false a b))
theorem RK (R:RT) (I:A1) (S:SH) (h:Uq R I S):Runs Try.prog 4 #[] I S R:=by
 refine Runs.of_wp (c:=cd Try.f4) Try.func4 (by kernel_rfl) (by kernel_rfl) ?_
 refine cO 5 [kB 0] (CP R) h fun _ _ _ _ _ h=>?_
 exact pS h
def EE (R:RT) (a:Bool) (I:A1) (S:SH):Prop:=
 R (.bool a) I S
abbrev EF:=ByteArray -> Int -> Bool -> OA -> OA -> Nat -> Nat -> OA -> Nat -> Nat -> Int -> Int -> PR
def JA (g6:EF) (R:RT) (i:ByteArray) (j:Int) (k:Bool) (l e:OA) (b a:Nat) (f:OA) (d c:Nat) (g h:Int) (I:A1) (S:SH):Prop:=
 g6 i j k l e b a f d c g (IntKind.wrap .i64 (h + (1:Int))) I S
def BC (g6:EF) (R:RT) (j:ByteArray) (k:Int) (l:Bool) (m f:OA) (b a:Nat) (g:OA) (e d:Nat) (h i:Int) (c:Bool) (I:A1) (S:SH):Prop:=
 A2 c
  (R (.bool false) I S)
  (JA g6 R j k l m f b a g e d h i I S)
def Jz (g6:EF) (R:RT) (m:ByteArray) (n:Int) (o:Bool) (p i:OA) (e d:Nat) (g:OA) (c f:Nat) (j b:Int) (I:A1) (S:SH):Prop:=
 A6 g fun q=>(0:Int) <= b /\ b < (c:Int) /\
 ∃ L,A0 I S (q.add (b.toNat * 6)) (.int .i64 L) /\
 ∃ M,A0 I S ((q.add (b.toNat * 6)).add 1) (.string M) /\
 ∃ N,A0 I S ((q.add (b.toNat * 6)).add 2) (.int .i64 N) /\
 ∃ O,A0 I S ((q.add (b.toNat * 6)).add 3) (.bool O) /\
 ∃ P,A0 I S ((q.add (b.toNat * 6)).add 4) (.int .i64 P) /\
 ∃ Q s r,A0 I S ((q.add (b.toNat * 6)).add 5) (.slice Q s r) /\
 ∀ k:Nat,
 Ad ((k,.cells #[.int .i64 0,.string ⟨#[]⟩,.int .i64 0,.bool false,.int .i64 0,.slice none 0 0] 52 (0,0)) :: S) ⟨k,0,none⟩ [.int .i64 L,.string M,.int .i64 N,.bool O,.int .i64 P,.slice Q s r] fun K=>
 ∃ T u t,A0 I K ⟨k,5,none⟩ (.slice T u t) /\
 Runs Try.prog 7 #[.slice T u t] I K fun v h F=>∃ U V W X Y Z ue uf ug uh ui x w uj z y uk B A ul um,v = .tuple #[.agg #[.int .u16 U,.bool V,.int .i64 W,.bool X,.bool Y,.bool Z,.bool ue,.int .i64 uf,.string ug,.int .u16 uh,.slice ui x w,.slice uj z y,.slice uk B A,.int .i64 ul],um] /\
 ∀ l:Nat,
 Ad ((l,.cells #[.int .u16 0,.bool false,.int .i64 0,.bool false,.bool false,.bool false,.bool false,.int .i64 0,.string ⟨#[]⟩,.int .u16 0,.slice none 0 0,.slice none 0 0,.slice none 0 0,.int .i64 0] 45 (0,0)) :: F) ⟨l,0,none⟩ [.int .u16 U,.bool V,.int .i64 W,.bool X,.bool Y,.bool Z,.bool ue,.int .i64 uf,.string ug,.int .u16 uh,.slice ui x w,.slice uj z y,.slice uk B A,.int .i64 ul] fun a=>
 ∃ un,A0 h a ⟨k,0,none⟩ (.int .i64 un) /\
 A2 (un != (0:Int))
  (BC g6 R m n o p i e d g c f j b true h a)
  (∃ uo,A0 h a ⟨k,1,none⟩ (.string uo) /\
  A2 (!(uo.toList == m.toList))
   (BC g6 R m n o p i e d g c f j b true h a)
   (∃ up,A0 h a ⟨k,2,none⟩ (.int .i64 up) /\
   A2 (up != n)
    (BC g6 R m n o p i e d g c f j b true h a)
    (∃ uq,A0 h a ⟨k,3,none⟩ (.bool uq) /\
    A2 (!(uq == o))
     (BC g6 R m n o p i e d g c f j b true h a)
     (∃ nl,B4 um = some nl /\
     A2 (!nl)
      (BC g6 R m n o p i e d g c f j b true h a)
      (∃ ur,A0 h a ⟨l,1,none⟩ (.bool ur) /\
      A2 (!ur)
       (BC g6 R m n o p i e d g c f j b true h a)
       (∃ us C G,A0 h a ⟨l,10,none⟩ (.slice us C G) /\
       ∃ ut D H,A0 h a ⟨l,11,none⟩ (.slice ut D H) /\
       ∃ uu E J,A0 h a ⟨l,12,none⟩ (.slice uu E J) /\
       A2 (decide ((IntKind.wrap .i64 ((IntKind.wrap .i64 ((C:Int) + (D:Int))) + (E:Int))) > (0:Int)))
        (BC g6 R m n o p i e d g c f j b true h a)
        (∃ uv,A0 h a ⟨l,7,none⟩ (.int .i64 uv) /\
        BC g6 R m n o p i e d g c f j b (uv == (0:Int)) h a)))))))
def DU (R:RT) (a:Bool) (I:A1) (S:SH):Prop:=
 R (.bool a) I S
def DT (R:RT) (g f:OA) (a c:Nat) (I:A1) (S:SH):Prop:=
 A2 (decide ((a:Int) <= (1:Int)))
  (Runs Try.prog 8 #[.pointer g] I S fun v d e=>∃ b,v = .int .i64 b /\
  DU R (b == (0:Int)) d e)
  (DU R false I S)
def G2 (g6:EF) (R:RT) (j:ByteArray) (k:Int) (l:Bool) (i c:OA) (b a:Nat) (h:OA) (e d:Nat) (f g:Int) (I:A1) (S:SH):Prop:=
 A2 (decide (g < f))
  (Jz g6 R j k l i c b a h e d f g I S)
  (DT R i c b a I S)
def Jy (R:RT) (i:ByteArray) (j:Int) (k:Bool) (l e:OA) (b a:Nat) (f:OA) (d c:Nat) (g h:Int) (I:A1) (S:SH):Prop:=
 ∃ (Inv:Nat -> EF) (m:Nat),Inv m i j k l e b a f d c g h I S /\
  ∀ (m:Nat) (i:ByteArray) (j:Int) (k:Bool) (l e:OA) (b a:Nat) (f:OA) (d c:Nat) (g h:Int) (J:A1) (T:SH),I.le J -> Inv m i j k l e b a f d c g h J T ->
   G2 (fun i j k l e b a f d c g h I S=>∃ m',m' < m /\ Inv m' i j k l e b a f d c g h I S) R i j k l e b a f d c g h J T
def G1 (R:RT) (d:ByteArray) (e:Int) (f:Bool) (g c:OA) (a b:Nat) (I:A1) (S:SH):Prop:=
 Jy R d e f g c a b c a b (a:Int) 0 I S
def C2 (R:RT) (k:ByteArray) (l:Int) (m:Bool) (g b:OA) (a c:Nat) (d:Bool) (I:A1) (S:SH):Prop:=
 A2 d
  (A2 ((a:Int) == (1:Int))
   (A6 b fun j=>(0:Int) <= (0:Int) /\ (0:Int) < (a:Int) /\
   ∃ e,A0 I S (j.add ((0:Int).toNat * 6)) (.int .i64 e) /\
   A2 (e == (1:Int))
    (Runs Try.prog 8 #[.pointer g] I S fun v h i=>∃ f,v = .int .i64 f /\
    EE R (f == (1:Int)) h i)
    (EE R false I S))
   (EE R false I S))
  (G1 R k l m g b a c I S)
def FZ (R:RT) (e:ByteArray) (f:Int) (g:Bool) (h c:OA) (b a:Nat) (d:Addr) (i:Value) (I:A1) (S:SH):Prop:=
 ∃ nl,B4 i = some nl /\
 A2 nl
  (∃ j,A0 I S (d.add 1) (.bool j) /\
  A2 (!j)
   (∃ k,A0 I S (d.add 2) (.int .i64 k) /\
   A2 (k == (0:Int))
    (∃ l,A0 I S ((d.add 8).add 1) (.int .u16 l) /\
    A2 (l != (252:Int))
     (∃ m,A0 I S ((d.add 8).add 1) (.int .u16 m) /\
     C2 R e f g h c b a (m != (251:Int)) I S)
     (C2 R e f g h c b a false I S))
    (C2 R e f g h c b a false I S))
   (C2 R e f g h c b a false I S))
  (C2 R e f g h c b a false I S)
def Ue (R:RT) (z:OA) (k j:Nat) (A:ByteArray) (B:Int) (C:Bool) (I:A1) (S:SH):Prop:=
 Runs Try.prog 4 #[] I S fun v x y=>∃ D,v = .bool D /\
 A2 (!D)
  (R (.bool false) x y)
  (∀ i:Nat,
  Runs Try.prog 5 #[.agg #[.slice none 0 0,.slice none 0 0,.int .i64 3],.int .u16 7,.pointer (some ⟨i,0,none⟩)] x ((i,.cells #[.slice none 0 0,.int .i64 0] 34 (0,0)) :: y) fun X e g=>∃ u,X = .pointer u /\
  A2 ((u:Option Addr).isNone)
   (R (.bool false) e g)
   (Runs Try.prog 6 #[.pointer u,.string A,.int .i64 B,.bool C,.slice z k j] e g fun w f h=>∃ E m l,w = .slice E m l /\
   Runs Try.prog 7 #[.slice z k j] f h fun t a b=>∃ F G H J K L M N O P Q o n T q p U s r V W,t = .tuple #[.agg #[.int .u16 F,.bool G,.int .i64 H,.bool J,.bool K,.bool L,.bool M,.int .i64 N,.string O,.int .u16 P,.slice Q o n,.slice T q p,.slice U s r,.int .i64 V],W] /\
   ∀ d:Nat,
   Ad ((d,.cells #[.int .u16 0,.bool false,.int .i64 0,.bool false,.bool false,.bool false,.bool false,.int .i64 0,.string ⟨#[]⟩,.int .u16 0,.slice none 0 0,.slice none 0 0,.slice none 0 0,.int .i64 0] 45 (0,0)) :: b) ⟨d,0,none⟩ [.int .u16 F,.bool G,.int .i64 H,.bool J,.bool K,.bool L,.bool M,.int .i64 N,.string O,.int .u16 P,.slice Q o n,.slice T q p,.slice U s r,.int .i64 V] fun c=>
   FZ R A B C u E m l ⟨d,0,none⟩ W a c))
theorem Rz (R:RT) (s:OA) (r q:Nat) (t:ByteArray) (u:Int) (v:Bool) (I:A1) (S:SH) (h:Ue R s r q t u v I S):Runs Try.prog 3 #[.slice s r q,.string t,.int .i64 u,.bool v] I S R:=by
 refine Runs.of_wp (c:=cd Try.f3) Try.func3 (by kernel_rfl) (by kernel_rfl) ?_
 refine cO 6 [kS 1,kI .i64 2,kB 3,kP 9,kL 10,kA 11,kV 12] (FZ R) h fun _ _ _ _ _ _ _ _ _ _ _ _ _ h=>?_
 refine sO [kS 1,kI .i64 2,kB 3,kP 9,kL 10] (G1 R) ?_ fun _ _ _ _ _ _ _ _ _ _ _ h=>?_
 ·refine cO 1 [kS 1,kI .i64 2,kB 3,kP 9,kL 10,kB 61] (C2 R) h fun _ _ _ _ _ _ _ _ _ _ _ _ h=>?_
  refine cD h (fun h=>?_) fun h=>pS h
  refine cO 1 [kB 8] (EE R) h fun _ _ _ _ _ h=>?_
  exact pS h
 refine sO [kP 9,kL 10] (DT R) ?_ fun _ _ _ _ _ _ _ _ h=>?_
 ·refine cO 1 [kS 1,kI .i64 2,kB 3,kP 9,kL 10,kL 77,kI .i64 78,kI .i64 79] (Jy R) h fun _ _ _ _ _ _ _ _ _ _ _ _ _ _ _ _ h=>?_
  refine bK ?_
  obtain ⟨l,k,h,hr⟩:=h
  refine lO [kS 1,kI .i64 2,kB 3,kP 9,kL 10,kL 77,kI .i64 78,kI .i64 79] l k h fun k _ I S hle m n o p f b a g e d i j h=>?_
  have h:=hr k m n o p f b a g e d i j I S hle h
  refine cO 2 [kS 1,kI .i64 2,kB 3,kP 9,kL 10,kL 77,kI .i64 78,kI .i64 79] (Jz (fun m n o p f b a g e d i j I S=>∃ m',m' < k /\ l m' m n o p f b a g e d i j I S) R) h fun _ _ _ _ _ _ _ _ _ _ _ _ _ _ _ _ h=>?_
  refine sO [kS 1,kI .i64 2,kB 3,kP 9,kL 10,kL 77,kI .i64 78,kI .i64 79] (JA (fun m n o p f b a g e d i j I S=>∃ m',m' < k /\ l m' m n o p f b a g e d i j I S) R) ?_ fun _ _ _ _ _ _ _ _ _ _ _ _ _ _ _ _ h=>?_
  ·refine bK ?_
   refine cO 3 [kS 1,kI .i64 2,kB 3,kP 9,kL 10,kL 77,kI .i64 78,kI .i64 79,kB 139] (BC (fun m n o p f b a g e d i j I S=>∃ m',m' < k /\ l m' m n o p f b a g e d i j I S) R) h fun _ _ _ _ _ _ _ _ _ _ _ _ _ _ _ _ _ h=>?_
   exact pS h
  exact pS h
 refine cO 1 [kB 8] (DU R) h fun _ _ _ _ _ h=>?_
 exact pS h
set_option linter.unusedVariables false
set_option linter.unusedSimpArgs false
set_option maxRecDepth 8000
abbrev Tc (b:Nat):List Value:=[.pointer (some ⟨b,0,none⟩)]
abbrev HH (v:Value) (xs:List Nat) (own:SH):Prop:=Ar 65 1 Tc v xs own
abbrev Az (o:Sl) (w now id:Int) (p z:Sl) (eg jr:Nat):List Value:=[.slice o.1 o.2.1 o.2.2,.slice none 0 0,.int .i64 w,.int .i64 now,.int .u16 id,.slice p.1 p.2.1 p.2.2,.slice z.1 z.2.1 z.2.2,.pointer (some ⟨eg,0,none⟩),.pointer (some ⟨jr,0,none⟩)]
abbrev AV (f:Nat) (o:Sl) (w now id:Int) (p z:Sl) (eg jr:Nat):Nat × Obj:=(f,.cells (Az o w now id p z eg jr).toArray 64 (0,0))
def N4 (ts:List Nat) (os:List ByteArray):SH:=List.zipWith (fun b o=>Bv b o 0 0 false 0) ts os
theorem Qu (os:List ByteArray):N4 [] os = []:=by unfold N4; simp
theorem Qe {ts:List Nat} {os:List ByteArray} {t:Nat} {o:ByteArray} (h:ts.length = os.length) (a:Nat × Obj):cnt a (N4 (ts ++ [t]) (os ++ [o])) = cnt a (N4 ts os) + cnt a [Bv t o 0 0 false 0]:=by
 unfold N4
 rw [List.zipWith_append h,A8]; rfl
abbrev R1 (b:Nat) (o:Sl) (w:Int):Nat × Obj:=(b,.cells #[.slice o.1 o.2.1 o.2.2,.slice none 0 0,.int .i64 w] 29 (0,0))
theorem GR {os:List ByteArray} {a:Option Addr} {c0 dv:Nat} {w id:Int} {I:A1} {S F:SH} (hx:AK I S a os.length 1 EZ os) (hl:os.length <= 32) (hd:Sub (Qf dv :: F) S) :
  Runs Try.prog 5 #[.agg #[.slice a os.length c0,.slice none 0 0,.int .i64 w],.int .u16 id,.pointer (some ⟨dv,0,none⟩)] I S fun v _ T=>∃ f zp zc eg jr ts oz oe,v = .pointer (some ⟨f,0,none⟩) /\ ts.length = os.length /\ HH (.slice zp os.length zc) ts oz /\ SB os eg oe /\ Sub (AV f (a,os.length,c0) w 0 id (none,0,0) (zp,os.length,zc) eg jr :: (oz ++ (N4 ts os ++ (oe ++ S)))) T:=by
 refine Sw _ _ _ _ _ _ _ _ _ _ _ _ ?_
 unfold V6
 intro b3
 have h0:Sub (R1 b3 (a,os.length,c0) w :: S) ((b3,.cells #[.slice a os.length c0,.slice none 0 0,.int .i64 w] 29 (0,0)) :: S):=Sub.refl _
 unfold LQ
 have d0:=AG (I:=I) h0
 refine ⟨_,_,_,Cx h0 _ rfl,_,_,_,d0 1 _ rfl,_,d0 2 _ rfl,_,_,_,Cx h0 _ rfl,_,_,_,d0 1 _ rfl,(Nc (hx.sub ((Sub.refl S).skip _)) hl).mono ?_⟩
 rintro v J T hle ⟨eg,oe,rfl,he,hs⟩
 refine ⟨_,rfl,hs.right.keep hle,(Ng _ _ _).mono ?_⟩
 rintro v J2 T2 hle2 ⟨jr,rfl,hs2⟩
 refine ⟨_,rfl,((hs.right).trans hs2.drop).keep (hle.trans hle2),fun f=>?_⟩
 have hs3:Sub (AV f (a,os.length,c0) w 0 id (none,0,0) (none,0,0) eg jr :: ((jr,.cells #[.pointer (some ⟨dv,0,none⟩)] 110 (0,0)) :: (oe ++ (R1 b3 (a,os.length,c0) w :: S)))) (AV f (a,os.length,c0) w 0 id (none,0,0) (none,0,0) eg jr :: T2):=((hs.cons _).trans hs2).cons _
 unfold LR
 refine ⟨_,AG (L:=Az (a,os.length,c0) w 0 id (none,0,0) (none,0,0) eg jr) hs3 8 _ rfl,?_⟩
 have hS:Sub S T2:=(hs.right.drop).trans hs2.drop
 have hjd:Sub ((jr,.cells #[.pointer (some ⟨dv,0,none⟩)] 110 (0,0)) :: (Qf dv :: F)) (AV f (a,os.length,c0) w 0 id (none,0,0) (none,0,0) eg jr :: T2):=(((hd.trans hs.right.drop).cons _).trans hs2).skip _
 refine (MK hjd).mono ?_
 rintro v J3 T3 hle3 ⟨rfl,rfl⟩
 refine ⟨_,rfl,?_⟩
 unfold LS
 have hle123:=(hle.trans hle2).trans hle3
 refine ⟨_,AG (L:=Az (a,os.length,c0) w 0 id (none,0,0) (none,0,0) eg jr) hs3 7 _ rfl,(MD (F:=AV f (a,os.length,c0) w 0 id (none,0,0) (none,0,0) eg jr :: ((jr,.cells #[.pointer (some ⟨dv,0,none⟩)] 110 (0,0)) :: (R1 b3 (a,os.length,c0) w :: S))) he (hs3.re (by intro a; simp only [AV,A3,A8]; omega))).mono ?_⟩
 rintro v J4 T4 hle4 ⟨rfl,rfl⟩
 refine ⟨_,rfl,?_⟩
 unfold LT
 refine ⟨fun m x3 x7 x29 x30 J T=>x3 = ⟨b3,0,none⟩ /\ x7 = some ⟨f,0,none⟩ /\ x29 = (os.length:Int) /\ I.le J /\ ∃ (k:Nat) (ts:List Nat) (zp:Option Addr) (zc:Nat) (oz:SH),x30 = (k:Int) /\ k <= os.length /\ m = os.length - k /\ ts.length = k /\ HH (.slice zp k zc) ts oz /\ Sub (AV f (a,os.length,c0) w 0 id (none,0,0) (zp,k,zc) eg jr :: (oz ++ (N4 ts (os.take k) ++ (oe ++ (R1 b3 (a,os.length,c0) w :: S))))) T,
  os.length,⟨rfl,rfl,rfl,(hle123.trans hle4),0,[],none,0,[],rfl,Nat.zero_le _,rfl,rfl,Ar.nil,hs3.re (by intro y; rw [Qu]; simp only [List.nil_append,AV,A3,A8]; omega)⟩,?_⟩
 rintro m x3 x7 x29 x30 J5 T5 - ⟨rfl,rfl,rfl,hle5,k,ts,zp,zc,oz,rfl,hk,rfl,hts,hz,hs5⟩
 unfold PU
 refine Aa (fun hg=>?_) (fun hg=>?_)
 ·unfold LU LV
  have hlt:k < os.length:=by omega
  obtain ⟨ok,ho⟩:∃ ok,os[k]? = some ok:=⟨_,List.getElem?_eq_getElem hlt⟩
  have htk:os.take (k + 1) = os.take k ++ [ok]:=by rw [List.take_add_one,ho]; rfl
  have hlk:(os.take k).length = k:=List.length_take_of_le (by omega)
  have hS5:Sub S T5:=(((hs5.drop.right).right).right).drop
  have hcf:Sub (R1 b3 (a,os.length,c0) w :: S) T5:=((hs5.drop.right).right).right
  obtain ⟨a',ea,hc⟩:=((hx.sub hS5).le hle5).cell ho
  subst ea
  refine ⟨_,_,_,AG (L:=Az (some a',os.length,c0) w 0 id (none,0,0) (zp,k,zc) eg jr) hs5 6 _ rfl,_,_,_,Cx hcf _ rfl,by omega,by omega,_,(by simpa [Addr.add] using hc 0 _ rfl),(Ns _ _ _).mono ?_⟩
  rintro v J6 T6 hle6 ⟨t,rfl,hs6⟩
  refine ⟨_,rfl,hs6.drop.keep hle6,fun b44=>⟨(hs6.drop.skip _).keep hle6,?_⟩⟩
  refine Hx (sz:=1) (bytes:=8) (el:=Tc) (x:=t) (own:=oz) (F:=Bv t ok 0 0 false 0 :: (AV f (some a',os.length,c0) w 0 id (none,0,0) (zp,k,zc) eg jr :: (N4 ts (os.take k) ++ (oe ++ (R1 b3 (some a',os.length,c0) w :: S))))) (fun _=>rfl) (fun _=>rfl) rfl (((hs5.cons (Bv t ok 0 0 false 0)).trans hs6).re (by intro a; simp only [AV,A3,A8]; omega)) hz (by omega) (by decide) fun q7 n7 c7 oz' T7 ho7 hs7=>?_
  have hn:=ho7.len
  rw [List.length_append,hts,List.length_singleton] at hn
  subst hn
  refine Bf (e:=64) (L:=Az (some a',os.length,c0) w 0 id (none,0,0) (zp,k,zc) eg jr) (L':=Az (some a',os.length,c0) w 0 id (none,0,0) (q7,k + 1,c7) eg jr) (F:=oz' ++ (Bv t ok 0 0 false 0 :: (N4 ts (os.take k) ++ (oe ++ (R1 b3 (some a',os.length,c0) w :: S))))) (hs7.re (by intro a; simp only [AV,A3,A8]; omega)) (Nat.le_of_ble_eq_true rfl) rfl rfl fun T8 hs8=>?_
  unfold LW
  refine ⟨os.length - (k + 1),by omega,rfl,rfl,rfl,hle5.trans hle6,k + 1,ts ++ [t],q7,c7,oz',by rw [A9 (by omega) (by omega)]; rfl,by omega,rfl,by rw [List.length_append,hts]; rfl,ho7,hs8.re ?_⟩
  intro y
  rw [htk]
  have:=Qe (t:=t) (o:=ok) (hts.trans hlk.symm) y
  simp only [AV,A3,A8,Bg] at this ⊢
  omega
 ·obtain rfl:k = os.length:=by omega
  rw [List.take_length] at hs5
  unfold LX
  exact ⟨f,zp,zc,eg,jr,ts,oz,oe,rfl,hts,hz,he,hs5.re (by intro y; simp only [AV,A3,A8]; omega)⟩
section
variable {f eg jr:Nat} {o p z:Sl} {w now id:Int} {F S:SH} {I:A1}
theorem D9 (hs:Sub (AV f o w now id p z eg jr :: F) S):Runs Try.prog 30 #[.pointer (some ⟨f,0,none⟩)] I S fun v _ T=>∃ n:Nat,n < 65536 /\ v = .int .u16 (n:Int) /\ Sub (AV f o w now (n:Int) p z eg jr :: F) T:=by
 refine RQ _ _ _ _ ?_
 unfold Uv
 refine ⟨_,AG (L:=Az o w now id p z eg jr) hs 4 _ rfl,?_⟩
 obtain ⟨n,hn,e⟩:∃ n:Nat,n < 65536 /\ IntKind.wrap .u16 ((IntKind.wrap .u16 (id * (25173:Int))) + (13849:Int)) = (n:Int):=by
  have h1:0 <= IntKind.wrap .u16 ((IntKind.wrap .u16 (id * (25173:Int))) + (13849:Int)) /\ IntKind.wrap .u16 ((IntKind.wrap .u16 (id * (25173:Int))) + (13849:Int)) < 65536:=by
   generalize (IntKind.wrap .u16 (id * (25173:Int))) + (13849:Int) = x
   simp only [IntKind.wrap,IntKind.bits,IntKind.signed,Bool.false_and,Bool.false_eq_true,if_false]; omega
  exact ⟨(IntKind.wrap .u16 ((IntKind.wrap .u16 (id * (25173:Int))) + (13849:Int))).toNat,by omega,by omega⟩
 rw [e]
 exact Bf (e:=64) (L:=Az o w now id p z eg jr) (L':=Az o w now (n:Int) p z eg jr) hs (Nat.le_of_ble_eq_true rfl) rfl rfl fun T hT=>⟨_,AG (L:=Az o w now (n:Int) p z eg jr) hT 4 _ rfl,n,hn,rfl,hT⟩
theorem Np (hs:Sub (AV f o w now id p z eg jr :: F) S):Runs Try.prog 10 #[.pointer (some ⟨f,0,none⟩)] I S fun v _ T=>v = .int .i64 now /\ T = S:=by
 refine RR _ _ _ _ ?_
 unfold Uw
 exact ⟨_,AG (L:=Az o w now id p z eg jr) hs 3 _ rfl,rfl,rfl⟩
theorem Fa (hs:Sub (AV f o w now id p z eg jr :: F) S):Runs Try.prog 8 #[.pointer (some ⟨f,0,none⟩)] I S fun v _ T=>v = .int .i64 (p.2.1:Int) /\ T = S:=by
 refine RC _ _ _ _ ?_
 unfold Uh
 exact ⟨_,_,_,AG (L:=Az o w now id p z eg jr) hs 5 _ rfl,rfl,rfl⟩
theorem Q5 {zp:Option Addr} {c:Nat} (hs:Sub (AV f o w now id p (zp,0,c) eg jr :: F) S):Runs Try.prog 11 #[.pointer (some ⟨f,0,none⟩)] I S fun v _ T=>v = .bool true /\ T = S:=by
 refine Pc _ _ _ _ ?_
 unfold TR Ge
 refine ⟨_,_,_,AG (L:=Az o w now id p (zp,0,c) eg jr) hs 6 _ rfl,?_⟩
 unfold Gf
 refine ⟨fun m x8 x8n x8c x9 x10 J T=>x9 = 0 /\ x10 = 0 /\ T = S,0,⟨rfl,rfl,rfl⟩,?_⟩
 rintro m x8 x8n x8c x9 x10 J T - ⟨rfl,rfl,rfl⟩
 unfold JY
 refine A4 (by decide) ?_
 unfold JX
 exact ⟨rfl,rfl⟩
theorem Q6 {t:Nat} {zp:Option Addr} {zc:Nat} {oz G:SH} {nm:ByteArray} {i2 ty un:Int} {op:Bool} (hz:HH (.slice zp 1 zc) [t] oz) (hs:Sub (AV f o w now id p (zp,1,zc) eg jr :: (oz ++ (Bv t nm i2 ty op un :: G))) S):Runs Try.prog 11 #[.pointer (some ⟨f,0,none⟩)] I S fun v _ T=>v = .bool false /\ T = S:=by
 refine Pc _ _ _ _ ?_
 unfold TR Ge
 refine ⟨_,_,_,AG (L:=Az o w now id p (zp,1,zc) eg jr) hs 6 _ rfl,?_⟩
 unfold Gf
 refine ⟨fun m x8 x8n x8c x9 x10 J T=>x8 = zp /\ x8n = 1 /\ x9 = 1 /\ x10 = 0 /\ T = S,0,⟨rfl,rfl,rfl,rfl,rfl⟩,?_⟩
 rintro m x8 x8n x8c x9 x10 J T - ⟨rfl,rfl,rfl,rfl,rfl⟩
 unfold JY
 obtain ⟨a',ea,hc⟩:=((Ar.row (el:=Tc) (sz:=1) (fun _=>rfl) hz (I:=J)).sub hs.drop.left).cell (i:=0) (x:=t) rfl
 subst ea
 refine A7 (by decide) ⟨by decide,by decide,some ⟨t,0,none⟩,(by simpa [Addr.add] using hc 0 _ rfl),_,AG hs.drop.right 2 _ rfl,A7 rfl ⟨rfl,rfl⟩⟩
end
abbrev Pk:=Int × ByteArray × Int × Bool × Int × Sl
abbrev Ea (x:Pk):List Value:=[.int .i64 x.1,.string x.2.1,.int .i64 x.2.2.1,.bool x.2.2.2.1,.int .i64 x.2.2.2.2.1,.slice x.2.2.2.2.2.1 x.2.2.2.2.2.2.1 x.2.2.2.2.2.2.2]
abbrev Vg (x:Pk):Value:=.agg #[.int .i64 x.1,.string x.2.1,.int .i64 x.2.2.1,.bool x.2.2.2.1,.int .i64 x.2.2.2.2.1,.slice x.2.2.2.2.2.1 x.2.2.2.2.2.2.1 x.2.2.2.2.2.2.2]
abbrev SP (v:Value) (xs:List Pk) (own:SH):Prop:=Ar 52 6 Ea v xs own
abbrev QH (b:Nat) (x:Pk):Nat × Obj:=(b,.cells (Ea x).toArray 52 (0,0))
abbrev MW (b:Nat) (id ty:Int):Nat × Obj:=(b,.cells (Bh id ty).toArray 93 (0,0))
section
variable {f t eg jr:Nat} {oo:Sl} {o:ByteArray} {w now id i2 ty un:Int} {op:Bool} {p:Sl} {zp:Option Addr} {zc:Nat} {oz oe G S T:SH} {I J:A1}
theorem GU {n:Nat} (ho:B3 o) (hn:n < 65536) (hz:HH (.slice zp 1 zc) [t] oz) (hs:Sub (AV f oo w now id p (zp,1,zc) eg jr :: (oz ++ (Bv t o i2 ty op un :: G))) S) :
  Runs Try.prog 31 #[.pointer (some ⟨f,0,none⟩),.int .i64 0,TQ (n:Int) 252] I S fun v _ T=>∃ q:Sl,v = Vg (2,e0,0,true,0,q) /\ Sub S T:=by
 refine RJ _ _ _ _ _ _ _ _ _ _ _ _ ?_
 unfold Up
 intro b5 b6
 have h0:Sub (QH b6 (0,e0,0,false,0,(none,0,0)) :: (MW b5 (n:Int) 252 :: S)) (QH b6 (0,e0,0,false,0,(none,0,0)) :: (MW b5 (n:Int) 252 :: S)):=Sub.refl _
 have hf:=(h0.drop.drop)
 have hS:=hs.trans hf
 unfold JR
 obtain ⟨a',ea,hc⟩:=((Ar.row (el:=Tc) (sz:=1) (fun _=>rfl) hz (I:=I)).sub hS.drop.left).cell (i:=0) (x:=t) rfl
 subst ea
 have dq:=AG (I:=I) h0.drop
 refine ⟨_,Cx h0.drop _ rfl,_,_,_,AG (L:=Az oo w now id p (some a',1,zc) eg jr) hS 6 _ rfl,by decide,(by show (0:Int) < ((1:Nat):Int); decide),some ⟨t,0,none⟩,(by simpa [Addr.add] using hc 0 _ rfl),_,Cx hS.drop.right _ rfl,_,dq 1 _ rfl,fun b7=>⟨((Sub.refl _).skip _).keep (A1.le.refl I),?_⟩⟩
 generalize he:(⟨n,false,0,false,false,false,false,0,o,252,0⟩:Em) = e
 have hok:e.OK:=by rw [<- he]; exact ⟨hn,Nat.zero_le _,Nat.zero_le _,(by show 252 < 65536; decide),Nat.zero_le _,ho⟩
 refine Ad.among (e:=45) (L:=AC Ch) (L':=AC e.mg) (Sub.refl _) (Nat.le_of_ble_eq_true rfl) rfl (by rw [<- he]; rfl) fun T1 hT1=>?_
 unfold JS
 have dq:=AG (I:=I) hT1.drop.drop
 refine ⟨_,dq 2 _ rfl,A4 rfl ?_⟩
 unfold G8
 have c:=NN (J:=I) (M:=e.mg) hT1
 refine ⟨_,FH (M:=e.mg) hT1 0 _ rfl,_,c 1 _ rfl,_,c 2 _ rfl,_,c 3 _ rfl,_,c 4 _ rfl,_,c 5 _ rfl,_,c 6 _ rfl,_,c 7 _ rfl,_,c 8 _ rfl,_,c 9 _ rfl,_,_,_,c 10 _ rfl,_,_,_,c 11 _ rfl,_,_,_,c 12 _ rfl,_,c 13 _ rfl,(Cb hok (by decide) I T1).mono ?_⟩
 rintro v J2 T2 hle2 ⟨q,qc,own,rfl,_,hs2⟩
 have hb:=(hT1.trans hs2.right)
 refine ⟨_,_,_,_,rfl,_,AG hb.drop.drop 1 _ rfl,?_⟩
 refine Ad.among (e:=52) (L:=Ea (0,e0,0,false,0,(none,0,0))) (L':=Ea (2,e0,0,true,0,(q,e.wire.length,qc))) hb.drop (Nat.le_of_ble_eq_true rfl) rfl rfl fun T3 hT3=>?_
 have d:=AG (I:=J2) hT3
 exact ⟨_,Cx hT3 _ rfl,_,d 1 _ rfl,_,d 2 _ rfl,_,d 3 _ rfl,_,d 4 _ rfl,_,_,_,d 5 _ rfl,(q,e.wire.length,qc),rfl,hT3.drop.drop⟩
def Tz (f t eg jr:Nat) (oo:Sl) (o:ByteArray) (w:Int) (zp:Option Addr) (zc:Nat) (oz G:SH) (q:Option Addr) (qn qc:Nat) (T:SH):Prop:=
 ∃ (r:Sl) (own:SH) (id un:Int) (i2:Nat),SP (.slice q qn qc) [(2,e0,0,true,0,r)] own /\ Sub (own ++ (AV f oo w 1 id (none,0,0) (zp,1,zc) eg jr :: (oz ++ (Bv t o (i2:Int) 252 true un :: G)))) T
theorem EC {g:Bj} {R:RT} {b10 n:Nat} (ho:B3 o) (hn:n < 65536) (hz:HH (.slice zp 1 zc) [t] oz)
  (hs:Sub (MW b10 (n:Int) 252 :: (AV f oo w 1 id (none,0,0) (zp,1,zc) eg jr :: (oz ++ (Bv t o (n:Int) 252 true un :: G)))) T)
  (hg:∀ q qn qc J T',Tz f t eg jr oo o w zp zc oz G q qn qc T' -> Cu g R (some ⟨f,0,none⟩) q qn qc zp 1 zc 1 0 J T') :
  Ct g R (some ⟨f,0,none⟩) none 0 0 0 ⟨b10,0,none⟩ true zp 1 zc 1 0 J T:=by
 unfold Ct
 have d:=AG (I:=J) hs
 refine A7 rfl ⟨_,Cx hs _ rfl,_,d 1 _ rfl,_,d 2 _ rfl,_,d 3 _ rfl,_,d 4 _ rfl,_,d 5 _ rfl,_,d 6 _ rfl,(GU ho hn hz hs.drop).mono ?_⟩
 rintro v J2 T2 hle2 ⟨q,rfl,hs2⟩
 refine ⟨_,_,_,_,_,_,_,_,rfl,fun b88=>?_⟩
 refine Hx (sz:=6) (bytes:=72) (el:=Ea) (x:=(2,e0,0,true,0,q)) (own:=[]) (F:=AV f oo w 1 id (none,0,0) (zp,1,zc) eg jr :: (oz ++ (Bv t o (n:Int) 252 true un :: G))) (fun _=>rfl) (fun _=>rfl) rfl (hs.drop.trans hs2) Ar.nil (Nat.zero_le _) (by decide) fun q3 n3 c3 own3 T3 ho3 hs3=>?_
 exact hg q3 n3 c3 J2 T3 ⟨q,own3,id,un,n,ho3,hs3⟩
theorem P4 {g:Bj} {R:RT} (ho:B3 o) (hz:HH (.slice zp 1 zc) [t] oz)
  (hs:Sub (AV f oo w 1 id (none,0,0) (zp,1,zc) eg jr :: (oz ++ (Bv t o i2 ty false un :: G))) T)
  (hg:∀ q qn qc J T',Tz f t eg jr oo o w zp zc oz G q qn qc T' -> Cu g R (some ⟨f,0,none⟩) q qn qc zp 1 zc 1 0 J T') :
  DX g R (some ⟨f,0,none⟩) none 0 0 0 (some ⟨t,0,none⟩) zp 1 zc 1 0 J T:=by
 unfold DX
 have tr:∀ {id:Int} {A:SH},Sub (AV f oo w 1 id (none,0,0) (zp,1,zc) eg jr :: (oz ++ (Bv t o i2 ty false un :: G))) A -> Sub (Bv t o i2 ty false un :: (AV f oo w 1 id (none,0,0) (zp,1,zc) eg jr :: (oz ++ G))) A:=fun h=>h.re (by intro a; simp only [AV,Bv,A3,A8]; omega)
 have rt:∀ {id:Int} {n:Nat} {un':Int} {A:SH},Sub (Bv t o (n:Int) 252 true un' :: (AV f oo w 1 id (none,0,0) (zp,1,zc) eg jr :: (oz ++ G))) A -> Sub (AV f oo w 1 id (none,0,0) (zp,1,zc) eg jr :: (oz ++ (Bv t o (n:Int) 252 true un' :: G))) A:=fun h=>h.re (by intro a; simp only [AV,Bv,A3,A8]; omega)
 refine ⟨fun _ T=>∃ i,Sub [AV f oo w 1 i (none,0,0) (zp,1,zc) eg jr] T,⟨id,hs.left1⟩,_,(fun J' T' ⟨i,h⟩=>AG (L:=Az oo w 1 i (none,0,0) (zp,1,zc) eg jr) h 3 (.int .i64 1) rfl),(D9 hs).mono ?_,fun b10=>⟨⟨id,hs.left1.skip _⟩,?_⟩⟩
 ·rintro v J2 T2 hle2 ⟨n,hn,rfl,hs2⟩
  refine ⟨_,rfl,⟨_,hs2.left1⟩,(CF (by decide) (tr hs2)).mono ?_,fun b10=>⟨⟨_,hs2.left1.skip _⟩,(CF (o:=o) (id:=i2) (ty:=ty) (un:=un) (F:=MW b10 0 0 :: (AV f oo w 1 (n:Int) (none,0,0) (zp,1,zc) eg jr :: (oz ++ G))) (by decide) (((tr hs2).cons (MW b10 0 0)).re (by intro a; simp only [Bv,MW,A3]; omega))).mono ?_⟩⟩
  ·rintro v J3 T3 hle3 ⟨rfl,un',hs3⟩
   refine ⟨_,_,_,_,_,_,_,_,rfl,fun b10=>?_⟩
   refine Ad.among (e:=93) (L:=Bh 0 0) (L':=Bh (n:Int) 252) ((rt hs3).cons _) (Nat.le_of_ble_eq_true rfl) rfl rfl fun T4 hT4=>?_
   exact EC ho hn hz hT4 hg
  ·rintro v J3 T3 hle3 ⟨rfl,un',hs3⟩
   refine ⟨_,_,_,_,_,_,_,_,rfl,?_⟩
   refine Ad.among (e:=93) (L:=Bh 0 0) (L':=Bh (n:Int) 252) (F:=AV f oo w 1 (n:Int) (none,0,0) (zp,1,zc) eg jr :: (oz ++ (Bv t o (n:Int) 252 true un' :: G))) (hs3.re (by intro a; simp only [AV,Bv,MW,A3,A8]; omega)) (Nat.le_of_ble_eq_true rfl) rfl rfl fun T4 hT4=>?_
   exact EC ho hn hz hT4 hg
 ·refine (D9 (o:=oo) (w:=w) (now:=1) (id:=id) (p:=(none,0,0)) (z:=(zp,1,zc)) (eg:=eg) (jr:=jr) (F:=MW b10 0 0 :: (oz ++ (Bv t o i2 ty false un :: G))) ((hs.cons (MW b10 0 0)).re (by intro a; simp only [AV,MW,A3]; omega))).mono ?_
  rintro v J2 T2 hle2 ⟨n,hn,rfl,hs2⟩
  refine ⟨_,rfl,⟨_,hs2.left1⟩,(CF (o:=o) (id:=i2) (ty:=ty) (un:=un) (F:=MW b10 0 0 :: (AV f oo w 1 (n:Int) (none,0,0) (zp,1,zc) eg jr :: (oz ++ G))) (by decide) (hs2.re (by intro a; simp only [AV,Bv,MW,A3,A8]; omega))).mono ?_⟩
  rintro v J3 T3 hle3 ⟨rfl,un',hs3⟩
  refine ⟨_,_,_,_,_,_,_,_,rfl,?_⟩
  refine Ad.among (e:=93) (L:=Bh 0 0) (L':=Bh (n:Int) 252) (F:=AV f oo w 1 (n:Int) (none,0,0) (zp,1,zc) eg jr :: (oz ++ (Bv t o (n:Int) 252 true un' :: G))) (hs3.re (by intro a; simp only [AV,Bv,MW,A3,A8]; omega)) (Nat.le_of_ble_eq_true rfl) rfl rfl fun T4 hT4=>?_
  exact EC ho hn hz hT4 hg
end
section
variable {f t eg jr:Nat} {oo:Sl} {o:ByteArray} {w id i2 ty un:Int} {zp:Option Addr} {zc:Nat} {oz oe G S T:SH} {I J:A1}
theorem Q2 (ho:B3 o) (hz:HH (.slice zp 1 zc) [t] oz) (he:SB [o] eg oe) (hs:Sub (AV f oo w 0 id (none,0,0) (zp,1,zc) eg jr :: (oz ++ (Bv t o i2 ty false un :: (oe ++ G)))) S) :
  Runs Try.prog 9 #[.pointer (some ⟨f,0,none⟩)] I S fun v _ T=>∃ q n c,v = .slice q n c /\ Tz f t eg jr oo o w zp zc oz G q n c T:=by
 refine RP _ _ _ _ ?_
 unfold Uu
 refine ⟨_,AG (L:=Az oo w 0 id (none,0,0) (zp,1,zc) eg jr) hs 3 _ rfl,?_⟩
 refine Bf (e:=64) (L:=Az oo w 0 id (none,0,0) (zp,1,zc) eg jr) (L':=Az oo w 1 id (none,0,0) (zp,1,zc) eg jr) hs (Nat.le_of_ble_eq_true rfl) rfl rfl fun T1 hT1=>?_
 unfold K5
 refine ⟨_,_,_,AG (L:=Az oo w 1 id (none,0,0) (zp,1,zc) eg jr) hT1 5 _ rfl,_,AG (L:=Az oo w 1 id (none,0,0) (zp,1,zc) eg jr) hT1 3 _ rfl,(Nd _ _).mono ?_⟩
 rintro v J2 T2 hle2 ⟨rfl,rfl⟩
 refine ⟨_,_,_,_,_,_,rfl,?_⟩
 unfold K6
 refine Bf (e:=64) (L:=Az oo w 1 id (none,0,0) (zp,1,zc) eg jr) (L':=Az oo w 1 id (none,0,0) (zp,1,zc) eg jr) hT1 (Nat.le_of_ble_eq_true rfl) rfl rfl fun T3 hT3=>?_
 unfold K7 K8
 refine ⟨fun m x0 x5 x5n x5c x35 x35n x35c x36 x37 J T=>x0 = some ⟨f,0,none⟩ /\ x5 = none /\ x5n = 0 /\ x5c = 0 /\ x36 = 0 /\ x37 = 0 /\ T = T3,0,⟨rfl,rfl,rfl,rfl,rfl,rfl,rfl⟩,?_⟩
 rintro m x0 x5 x5n x5c x35 x35n x35c x36 x37 J4 T4 - ⟨rfl,rfl,rfl,rfl,rfl,rfl,rfl⟩
 unfold Pi
 refine A4 (by decide) ?_
 unfold K9
 refine ⟨_,_,_,AG (L:=Az oo w 1 id (none,0,0) (zp,1,zc) eg jr) hT3 6 _ rfl,?_⟩
 unfold Gi
 refine ⟨fun m x0 x5 x5n x5c x52 x52n x52c x53 x54 J T=>x0 = some ⟨f,0,none⟩ /\ x52 = zp /\ x52n = 1 /\ x52c = zc /\ x53 = 1 /\ ((m = 1 /\ x54 = 0 /\ x5 = none /\ x5n = 0 /\ x5c = 0 /\ Sub (AV f oo w 1 id (none,0,0) (zp,1,zc) eg jr :: (oz ++ (Bv t o i2 ty false un :: (oe ++ G)))) T) \/ (m = 0 /\ x54 = 1 /\ Tz f t eg jr oo o w zp zc oz G x5 x5n x5c T)),
  1,⟨rfl,rfl,rfl,rfl,rfl,.inl ⟨rfl,rfl,rfl,rfl,rfl,hT3⟩⟩,?_⟩
 rintro m x0 x5 x5n x5c x52 x52n x52c x53 x54 J5 T5 - ⟨rfl,rfl,rfl,rfl,rfl,(⟨rfl,rfl,rfl,rfl,rfl,hs5⟩ | ⟨rfl,rfl,hk⟩)⟩
 ·unfold Gn
  refine A7 (by decide) ?_
  unfold Gj
  obtain ⟨a',ea,hc⟩:=((Ar.row (el:=Tc) (sz:=1) (fun _=>rfl) hz (I:=J5)).sub hs5.drop.left).cell (i:=0) (x:=t) rfl
  subst ea
  refine ⟨by decide,by decide,some ⟨t,0,none⟩,(by simpa [Addr.add] using hc 0 _ rfl),?_⟩
  unfold Gk
  refine ⟨fun _ T=>T = T5,rfl,_,(fun J' T' h=>by rw [h]; exact AG (L:=Az oo w 1 id (none,0,0) (some a',1,x52c) eg jr) hs5 7 (.pointer (some ⟨eg,0,none⟩)) rfl),_,AG (L:=Az oo w 1 id (none,0,0) (some a',1,x52c) eg jr) hs5 3 _ rfl,(HN (b:=t) (o:=o) (id:=i2) (ty:=ty) (un:=un) (op:=false) (F:=AV f oo w 1 id (none,0,0) (some a',1,x52c) eg jr :: (oz ++ (oe ++ G))) (hs5.re (by intro a; simp only [AV,Bv,A3,A8]; omega))).mono ?_⟩
  rintro v J6 T6 hle6 ⟨rfl,rfl⟩
  refine ⟨_,rfl,rfl,(Q1 (own:=oe) (F:=AV f oo w 1 id (none,0,0) (some a',1,x52c) eg jr :: (oz ++ (Bv t o i2 ty false un :: G))) he (hs5.re (by intro a; simp only [AV,Bv,A3,A8]; omega))).mono ?_⟩
  rintro v J7 T7 hle7 ⟨rfl,hs7⟩
  refine ⟨_,rfl,?_⟩
  refine P4 (zp:=some a') (G:=G) ho hz hs7 fun q qn qc J8 T8 hk=>?_
  unfold Cu
  exact ⟨0,Nat.zero_lt_one,rfl,rfl,rfl,rfl,rfl,.inr ⟨rfl,rfl,hk⟩⟩
 ·unfold Gn
  refine A4 (by decide) ?_
  unfold Gm
  exact ⟨x5,x5n,x5c,rfl,hk⟩
end
def zN:ByteArray:=⟨#[1,122]⟩
theorem Qx:B3 zN:=⟨[⟨#[122]⟩],Aq rfl,fun l h=>by rcases List.mem_singleton.1 h with rfl; exact ⟨by decide,by decide,Aq rfl⟩,by decide⟩
theorem HU (I:A1) (S:SH):Runs Try.prog 4 #[] I S fun v _ T=>v = .bool true /\ Sub S T:=by
 refine RK _ _ _ ?_
 unfold Uq
 intro b3 b6
 have hown:Ar 39 1 EZ (.slice (some ⟨b3,0,none⟩) 1 1) [zN] [(b3,.cells #[.string ⟨#[1,122]⟩] 39 (0,0))]:=.inr ⟨b3,1,[],rfl,rfl,rfl,by decide⟩
 have h0:Sub ((b3,.cells #[.string ⟨#[1,122]⟩] 39 (0,0)) :: S) (Qf b6 :: ((b3,.cells #[.string ⟨#[1,122]⟩] 39 (0,0)) :: S)):=(Sub.refl _).skip _
 have hrow:=(Ar.row (el:=EZ) (sz:=1) (fun _=>rfl) hown (I:=I)).sub h0.left1
 refine (GR (os:=[zN]) (a:=some ⟨b3,0,none⟩) (c0:=1) (dv:=b6) (w:=3) (id:=7) (F:=(b3,.cells #[.string ⟨#[1,122]⟩] 39 (0,0)) :: S) hrow (by decide) (Sub.refl _)).mono ?_
 rintro v J T hle ⟨f,zp,zc,eg,jr,ts,oz,oe,rfl,hts,hz,he,hs⟩
 obtain ⟨t,rfl⟩:∃ t,ts = [t]:=by
  match ts,hts with
  | [t],_=>exact ⟨t,rfl⟩
 refine ⟨_,rfl,A4 rfl ?_⟩
 have hs1:Sub (AV f (some ⟨b3,0,none⟩,1,1) 3 0 7 (none,0,0) (zp,1,zc) eg jr :: (oz ++ (Bv t zN 0 0 false 0 :: (oe ++ (Qf b6 :: ((b3,.cells #[.string ⟨#[1,122]⟩] 39 (0,0)) :: S)))))) T:=hs
 refine (Q2 Qx hz he hs1).mono ?_
 rintro v J2 T2 hle2 ⟨q,n,c,rfl,r,own,id,un,i2,hp,hs2⟩
 have hn:n = 1:=hp.len
 subst hn
 obtain ⟨a',ea,hc⟩:=((Ar.row (el:=Ea) (sz:=6) (fun _=>rfl) hp (I:=J2)).sub hs2.left).cell (i:=0) (x:=(2,e0,0,true,0,r)) rfl
 subst ea
 refine ⟨_,_,_,rfl,A7 (by decide) ⟨by decide,by decide,2,(by simpa [Addr.add] using hc 0 _ rfl),A7 (by decide) ⟨by decide,by decide,true,(by simpa [Addr.add] using hc 3 _ rfl),A7 rfl ((Np hs2.right).mono ?_)⟩⟩⟩
 rintro v J3 T3 hle3 ⟨rfl,rfl⟩
 refine ⟨_,rfl,A7 (by decide) ((Q6 hz hs2.right).mono ?_)⟩
 rintro v J4 T4 hle4 ⟨rfl,rfl⟩
 refine ⟨_,rfl,?_⟩
 unfold CP
 exact ⟨rfl,(((hs2.right.drop).right).drop).drop.drop⟩
theorem Dx {e:Em} (he:e.OK) {lim port:Int} {addr:ByteArray} {tcp:Bool} (hlim:512 <= lim) (I:A1) (S:SH):Runs Try.prog 18 #[.string addr,.int .i64 port,.bool tcp,N0 e.mg,.int .i64 lim] I S fun v _ T=>∃ g q c own,v = .slice (some ⟨g,0,none⟩) 1 1 /\ B6 (.slice q e.wire.length c) e.wire own /\ Sub (QH g (0,addr,port,tcp,0,(q,e.wire.length,c)) :: (own ++ S)) T:=by
 refine RZ _ _ _ _ _ _ _ _ _ _ _ _ _ _ _ _ _ _ _ _ _ _ _ _ _ _ _ ?_
 unfold UD
 intro b8
 have c:=FH (J:=I) (Sub.refl (AH b8 e.mg :: S))
 refine ⟨_,c 0 _ rfl,_,c 1 _ rfl,_,c 2 _ rfl,_,c 3 _ rfl,_,c 4 _ rfl,_,c 5 _ rfl,_,c 6 _ rfl,_,c 7 _ rfl,_,c 8 _ rfl,_,c 9 _ rfl,_,_,_,c 10 _ rfl,_,_,_,c 11 _ rfl,_,_,_,c 12 _ rfl,_,c 13 _ rfl,(Cb he hlim I _).mono ?_⟩
 rintro v J T hle ⟨q,qc,own,rfl,ho,hs⟩
 refine ⟨_,_,_,_,rfl,A4 rfl fun b26=>⟨b26,q,qc,own,rfl,ho,(((Sub.refl own).both ((Sub.refl S).skip _)).trans hs).cons _⟩⟩
theorem U3 {b:Nat} {x:En} {G T:SH} {J:A1} (hs:Sub (GP b x :: G) T) (j:Nat) (u:Value) (h:(Bw x).toArray[1 + j]? = some u):A0 J T (((⟨b,0,none⟩:Addr).add 1).add j) u:=
 A0.at_ (show (((⟨b,0,none⟩:Addr).add 1).add j) = ⟨b,1 + j,none⟩ by rw [A5,A5,Nat.zero_add]) (A0.among hs h)
theorem N7 {x:En} {e:Em} (he:e.OK) (I:A1) (S:SH):Runs Try.prog 19 #[TG x,N0 e.mg] I S fun v _ T=>∃ g q c own,v = .slice (some ⟨g,0,none⟩) 1 1 /\ B6 (.slice q e.wire.length c) e.wire own /\ Sub (QH g (0,x.cl,x.po,x.tcp,0,(q,e.wire.length,c)) :: (own ++ S)) T:=by
 refine RY _ _ _ _ _ _ _ _ _ _ _ _ _ _ _ _ _ _ _ _ _ _ _ _ _ _ _ _ _ _ _ _ _ _ _ _ _ _ _ _ _ _ _ _ _ _ _ _ ?_
 unfold UC
 intro b2 b3
 have h0:Sub (AH b3 e.mg :: (GP b2 x :: S)) (AH b3 e.mg :: (GP b2 x :: S)):=Sub.refl _
 unfold Kt
 have d:=Tn (J:=I) h0.drop
 have y:=U3 (J:=I) h0.drop
 have c:=NN (J:=I) h0
 refine ⟨_,d 15 _ rfl,_,d 16 _ rfl,_,d 17 _ rfl,_,FH h0 0 _ rfl,_,c 1 _ rfl,_,c 2 _ rfl,_,c 3 _ rfl,_,c 4 _ rfl,_,c 5 _ rfl,_,c 6 _ rfl,_,c 7 _ rfl,_,c 8 _ rfl,_,c 9 _ rfl,_,_,_,c 10 _ rfl,_,_,_,c 11 _ rfl,_,_,_,c 12 _ rfl,_,c 13 _ rfl,
  _,d 1 _ rfl,_,y 1 _ rfl,_,y 2 _ rfl,_,y 3 _ rfl,_,y 4 _ rfl,_,y 5 _ rfl,_,y 6 _ rfl,_,y 7 _ rfl,_,y 8 _ rfl,_,y 9 _ rfl,_,_,_,y 10 _ rfl,_,_,_,y 11 _ rfl,_,_,_,y 12 _ rfl,_,y 13 _ rfl,_,d 17 _ rfl,(HC (M:=x.m) (tcp:=x.tcp) I _).mono ?_⟩
 rintro v J T hle ⟨lim,rfl,hlim,hs⟩
 refine ⟨_,rfl,hs.keep hle,(Dx he hlim J T).mono ?_⟩
 rintro v J2 T2 hle2 ⟨g,q,qc,own,rfl,ho,hs2⟩
 refine ⟨_,_,_,rfl,?_⟩
 unfold Ku
 exact ⟨g,q,qc,own,rfl,ho,(((Sub.refl own).both (hs.drop.drop)).cons _).trans hs2⟩
section
variable {f eg jr:Nat} {oo z:Sl} {w now id:Int} {F S:SH} {I:A1}
theorem Fs {e:Em} {a b c:Sl} {x:En} (he:e.OK) (hx:x.m = e.wi a b c) (hs:Sub (AV f oo w now id (none,0,0) z eg jr :: F) S) :
  Runs Try.prog 21 #[.pointer (some ⟨f,0,none⟩),TG x] I S fun v _ T=>∃ g q id' p pc,v = .slice (some ⟨g,0,none⟩) 1 1 /\ Sub (QH g (1,e0,0,false,0,q) :: (AV f oo w now id' (p,1,pc) z eg jr :: F)) T:=by
 refine RD _ _ _ _ _ _ _ _ _ _ _ _ _ _ _ _ _ _ _ _ _ _ _ _ _ _ _ _ _ ?_
 unfold Ui
 intro b3
 have h0:Sub (AV f oo w now id (none,0,0) z eg jr :: (GP b3 x :: F)) (GP b3 x :: S):=(hs.cons _).re (by intro a; simp only [AV,GP,A3]; omega)
 unfold JD
 have c1:∀ {J:A1} {T:SH},(∃ i,Sub [AV f oo w now i (none,0,0) z eg jr] T) -> ∀ (j:Nat) (u:Value),(∀ i,(Az oo w now i (none,0,0) z eg jr).toArray[j]? = some u) -> A0 J T ((⟨f,0,none⟩:Addr).add j) u:=fun ⟨i,h⟩ j u hu=>AG (L:=Az oo w now i (none,0,0) z eg jr) h j u (hu i)
 refine ⟨fun _ T=>∃ i,Sub [AV f oo w now i (none,0,0) z eg jr] T,⟨id,h0.left1⟩,none,0,0,(fun J T h=>c1 h 5 _ fun _=>rfl),now,(fun J T h=>c1 h 3 _ fun _=>rfl),w,(fun J T h=>c1 h 2 _ fun _=>rfl),(D9 h0).mono ?_⟩
 rintro v J T hle ⟨n,hn,rfl,hs1⟩
 refine ⟨_,rfl,⟨_,hs1.left1⟩,(QT J T).mono ?_⟩
 rintro v J2 T2 hle2 ⟨rfl,hs2⟩
 refine ⟨_,rfl,⟨_,(hs1.trans hs2).left1⟩,?_⟩
 refine Ad.among (e:=68) (L:=Bw x) (L':=Bw { x with id:=(n:Int) }) (F:=AV f oo w now (n:Int) (none,0,0) z eg jr :: F) ((hs1.trans hs2).re (by intro a; simp only [AV,GP,A3]; omega)) (by show 0 + 1 <= 19; decide) rfl rfl fun T3 hT3=>⟨⟨_,hT3.drop.left1⟩,?_⟩
 generalize hun:IntKind.wrap .i64 (now + (if w > (1:Int) then w else (1:Int))) = un
 refine Ad.at_ (A5 _ _ _) (Ad.among (e:=68) (L:=Bw { x with id:=(n:Int) }) (L':=Bw { x with id:=(n:Int),un:=un }) hT3 (by show 0 + 18 + 1 <= 19; decide) rfl rfl fun T4 hT4=>?_)
 unfold JE
 have d:=Tn (J:=J2) hT4
 refine ⟨_,_,_,AG (L:=Az oo w now (n:Int) (none,0,0) z eg jr) hT4.drop 5 _ rfl,_,A0.among hT4 rfl,_,d 1 _ rfl,_,d 2 _ rfl,_,d 3 _ rfl,_,d 4 _ rfl,_,d 5 _ rfl,_,d 6 _ rfl,_,d 7 _ rfl,_,d 8 _ rfl,_,d 9 _ rfl,_,d 10 _ rfl,_,_,_,d 11 _ rfl,_,_,_,d 12 _ rfl,_,_,_,d 13 _ rfl,_,d 14 _ rfl,_,d 15 _ rfl,_,d 16 _ rfl,_,d 17 _ rfl,_,d 18 _ rfl,(SM (x:={ x with id:=(n:Int),un:=un }) J2 T4).mono ?_⟩
 rintro v J5 T5 hle5 ⟨p,pc,rfl,hs5⟩
 refine ⟨_,_,_,_,rfl,?_⟩
 unfold JF
 refine ⟨_,rfl,?_⟩
 unfold JG
 refine A4 rfl ?_
 unfold JH
 refine Bf (e:=64) (L:=Az oo w now (n:Int) (none,0,0) z eg jr) (L':=Az oo w now (n:Int) (p,1,pc) z eg jr) (F:=GP b3 { x with id:=(n:Int),un:=un } :: F) ((hT4.trans hs5).re (by intro a; simp only [AV,GP,A3]; omega)) (Nat.le_of_ble_eq_true rfl) rfl rfl fun T6 hT6=>?_
 have hx8:(Bw { x with id:=(n:Int),un:=un }).toArray[9]? = some (.string e.qn):=by show some (Value.string x.m.qn) = _; rw [hx]; rfl
 have hx9:(Bw { x with id:=(n:Int),un:=un }).toArray[10]? = some (.int .u16 (e.qt:Int)):=by show some (Value.int .u16 x.m.qt) = _; rw [hx]; rfl
 refine ⟨_,A0.among hT6.drop rfl,_,U3 hT6.drop 8 _ hx8,_,A0.at_ (show ((((⟨b3,0,none⟩:Addr).add 1).add 8).add 1) = ⟨b3,10,none⟩ by rw [A5,A5,A5]) (A0.among hT6.drop hx9),fun b7=>?_⟩
 generalize he2:(⟨n,false,0,false,false,true,false,0,e.qn,e.qt,4096⟩:Em) = e2
 have hok:e2.OK:=by rw [<- he2]; exact ⟨hn,Nat.zero_le _,Nat.zero_le _,he.2.2.2.1,(by show 4096 <= 65535; decide),he.2.2.2.2.2⟩
 refine Ad.among (e:=45) (L:=AC Ch) (L':=AC e2.mg) (Sub.refl _) (Nat.le_of_ble_eq_true rfl) rfl (by rw [<- he2]; rfl) fun T7 hT7=>?_
 have c:=FH (J:=J5) (M:=e2.mg) hT7
 refine ⟨_,c 0 _ rfl,_,c 1 _ rfl,_,c 2 _ rfl,_,c 3 _ rfl,_,c 4 _ rfl,_,c 5 _ rfl,_,c 6 _ rfl,_,c 7 _ rfl,_,c 8 _ rfl,_,c 9 _ rfl,_,_,_,c 10 _ rfl,_,_,_,c 11 _ rfl,_,_,_,c 12 _ rfl,_,c 13 _ rfl,(Cb hok (by decide) J5 T7).mono ?_⟩
 rintro v J8 T8 hle8 ⟨q,qc,own,rfl,_,hs8⟩
 refine ⟨_,_,_,_,rfl,fun b64=>⟨b64,(q,e2.wire.length,qc),(n:Int),p,pc,rfl,Sub.cons ?_ _⟩⟩
 have h9:=hT7.trans hs8.right
 exact ((hT6.trans h9.drop)).re (by intro a; simp only [AV,GP,A3]; omega)
end
theorem BS {I J:A1} {S T:SH} {p:Option Addr} {n:Nat} {s:ByteArray} (h:Aj I S p n s) (hk:Ap I S J T):Aj J T p n s:=by
 cases p with
 | none=>exact h
 | some a=>exact ⟨h.1,fun i c hc=>A0.mono (h.2 i c hc) hk⟩
def Q0 (addr:ByteArray) (port:Int) (tcp:Bool) (F:SH) (v:Value) (T:SH):Prop:=
 (v = .slice none 0 0 /\ Sub F T) \/ ∃ g q c e own,v = .slice (some ⟨g,0,none⟩) 1 1 /\ Em.OK e /\ e.rep = true /\ e.code ≠ 0 /\ B6 (.slice q e.wire.length c) e.wire own /\ Sub (QH g (0,addr,port,tcp,0,(q,e.wire.length,c)) :: (own ++ F)) T
def N2 (e:Em):Prop:=e.rep = false /\ e.op = 0 /\ e.qt ≠ 252 /\ e.qt ≠ 251
section
variable {zp:Option Addr} {f eg jr zc:Nat} {oo:Sl} {w now id port:Int} {F S:SH} {I:A1} {addr m:ByteArray} {tcp:Bool} {p:Option Addr} {c:Nat}
def EY (m addr:ByteArray) (port:Int) (tcp:Bool) (f:Nat) (oo:Sl) (w now:Int) (z:Sl) (eg jr:Nat) (F:SH) (v:Value) (T:SH):Prop:=
 (∃ e an au ex,Bu m = some (Em.mg e,an,au,ex) /\ N2 e /\ ∃ g q id' pp pc,v = .slice (some ⟨g,0,none⟩) 1 1 /\ Sub (QH g (1,e0,0,false,0,q) :: (AV f oo w now id' (pp,1,pc) z eg jr :: F)) T) \/
 ((∀ e an au ex,Bu m = some (Em.mg e,an,au,ex) -> ¬ N2 e) /\ ∃ id',Q0 addr port tcp (AV f oo w now id' (none,0,0) z eg jr :: F) v T)
theorem GW {e:Em} {x y z:Sl} {b11 b13:Nat} {G T:SH} {J:A1} {code:Nat} (he:e.OK) (hc:BH .i64 (code:Int) 15 = (code:Int)) (h15:code <= 15) (h0:code ≠ 0) (hs:Sub (GP b13 ⟨0,e.wi x y z,addr,port,tcp,0⟩ :: (AH b11 (e.wi x y z) :: G)) T) {K:Value -> A1 -> SH -> Prop}
  (hK:∀ v J T',Q0 addr port tcp G v T' -> ∀ p n c,v = .slice p n c -> K v J T') :
  Runs Try.prog 20 #[N0 (e.wi x y z),.int .i64 (code:Int)] J T fun v I1 S1=>∃ ux uy uz u10 u11 u12 u13 u14 u15 u16 u17 u17n u17c u18 u18n u18c u19 u19n u19c u1a,v = .agg #[.int .u16 ux,.bool uy,.int .i64 uz,.bool u10,.bool u11,.bool u12,.bool u13,.int .i64 u14,.string u15,.int .u16 u16,.slice u17 u17n u17c,.slice u18 u18n u18c,.slice u19 u19n u19c,.int .i64 u1a] /\
  Ap J T I1 S1 /\
  Runs Try.prog 19 #[TG ⟨0,e.wi x y z,addr,port,tcp,0⟩,.agg #[.int .u16 ux,.bool uy,.int .i64 uz,.bool u10,.bool u11,.bool u12,.bool u13,.int .i64 u14,.string u15,.int .u16 u16,.slice u17 u17n u17c,.slice u18 u18n u18c,.slice u19 u19n u19c,.int .i64 u1a]] I1 S1 fun v' I1' S1'=>∃ u1b u1bn u1bc,v' = .slice u1b u1bn u1bc /\ K (.slice u1b u1bn u1bc) I1' S1':=by
 refine (MB hc J T).mono ?_
 rintro v J2 T2 hle ⟨rfl,hs2⟩
 refine ⟨_,_,_,_,_,_,_,_,_,_,_,_,_,_,_,_,_,_,_,_,rfl,hs2.keep hle,(N7 (e:=E9 e code) (x:=⟨0,e.wi x y z,addr,port,tcp,0⟩) (GX he h15) J2 T2).mono ?_⟩
 rintro v J3 T3 hle3 ⟨g,q,qc,own,rfl,ho,hs3⟩
 refine ⟨_,_,_,rfl,hK _ _ _ (.inr ⟨g,q,qc,E9 e code,own,rfl,GX he h15,rfl,h0,ho,(((Sub.refl own).both ((hs.drop.drop).trans hs2)).cons _).trans hs3⟩) _ _ _ rfl⟩
theorem HL (hmz:m.size <= 9223372036854775807) (hb:Aj I S p m.size m) (hs:Sub (AV f oo w now id (none,0,0) (zp,0,zc) eg jr :: F) S) :
  Runs Try.prog 6 #[.pointer (some ⟨f,0,none⟩),.string addr,.int .i64 port,.bool tcp,.slice p m.size c] I S fun v _ T=>(∃ a n d,v = .slice a n d) /\ EY m addr port tcp f oo w now (zp,0,zc) eg jr F v T:=by
 refine RM _ _ _ _ _ _ _ _ _ _ ?_
 unfold Us
 refine (DZ hb).mono ?_
 rintro v J T hle hdec
 unfold CW at hdec
 have run:∀ (M:Mg) (er:Value) (X:SH),X = S -> Sub S T -> (∀ b11 b13 T',Sub (GP b13 ⟨0,M,addr,port,tcp,0⟩ :: (AH b11 M :: S)) T' -> Di (fun v _ T=>(∃ a n d,v = .slice a n d) /\ EY m addr port tcp f oo w now (zp,0,zc) eg jr F v T) (some ⟨f,0,none⟩) addr port tcp p m.size c ⟨b11,0,none⟩ er ⟨b13,0,none⟩ J T') ->
   ∃ u5 u6 u7 u8 u9 ua ub uc ud ue uf ufn ufc ug ugn ugc uh uhn uhc ui uj,(Value.tuple #[N0 M,er]) = .tuple #[.agg #[.int .u16 u5,.bool u6,.int .i64 u7,.bool u8,.bool u9,.bool ua,.bool ub,.int .i64 uc,.string ud,.int .u16 ue,.slice uf ufn ufc,.slice ug ugn ugc,.slice uh uhn uhc,.int .i64 ui],uj] /\
   ∀ b11:Nat,
   Ad ((b11,.cells #[.int .u16 0,.bool false,.int .i64 0,.bool false,.bool false,.bool false,.bool false,.int .i64 0,.string ⟨#[]⟩,.int .u16 0,.slice none 0 0,.slice none 0 0,.slice none 0 0,.int .i64 0] 45 (0,0)) :: T) ⟨b11,0,none⟩ [.int .u16 u5,.bool u6,.int .i64 u7,.bool u8,.bool u9,.bool ua,.bool ub,.int .i64 uc,.string ud,.int .u16 ue,.slice uf ufn ufc,.slice ug ugn ugc,.slice uh uhn uhc,.int .i64 ui] fun S1'=>
   ∃ uk,A0 J S1' ⟨b11,0,none⟩ (.int .u16 uk) /\ ∃ ul,A0 J S1' ⟨b11,1,none⟩ (.bool ul) /\ ∃ um,A0 J S1' ⟨b11,2,none⟩ (.int .i64 um) /\ ∃ un,A0 J S1' ⟨b11,3,none⟩ (.bool un) /\ ∃ uo,A0 J S1' ⟨b11,4,none⟩ (.bool uo) /\ ∃ up,A0 J S1' ⟨b11,5,none⟩ (.bool up) /\ ∃ uq,A0 J S1' ⟨b11,6,none⟩ (.bool uq) /\ ∃ ur,A0 J S1' ⟨b11,7,none⟩ (.int .i64 ur) /\ ∃ us,A0 J S1' ⟨b11,8,none⟩ (.string us) /\ ∃ ut,A0 J S1' ⟨b11,9,none⟩ (.int .u16 ut) /\
   ∃ uu uun uuc,A0 J S1' ⟨b11,10,none⟩ (.slice uu uun uuc) /\ ∃ uv uvn uvc,A0 J S1' ⟨b11,11,none⟩ (.slice uv uvn uvc) /\ ∃ uw uwn uwc,A0 J S1' ⟨b11,12,none⟩ (.slice uw uwn uwc) /\ ∃ ux,A0 J S1' ⟨b11,13,none⟩ (.int .i64 ux) /\
   ∀ b13:Nat,
   Ad ((b13,.cells #[.int .u16 0,.int .u16 0,.bool false,.int .i64 0,.bool false,.bool false,.bool false,.bool false,.int .i64 0,.string ⟨#[]⟩,.int .u16 0,.slice none 0 0,.slice none 0 0,.slice none 0 0,.int .i64 0,.string ⟨#[]⟩,.int .i64 0,.bool false,.int .i64 0] 68 (0,0)) :: S1') ⟨b13,0,none⟩ [.int .u16 0,.int .u16 uk,.bool ul,.int .i64 um,.bool un,.bool uo,.bool up,.bool uq,.int .i64 ur,.string us,.int .u16 ut,.slice uu uun uuc,.slice uv uvn uvc,.slice uw uwn uwc,.int .i64 ux,.string addr,.int .i64 port,.bool tcp,.int .i64 0] fun S1''=>
   Di (fun v _ T=>(∃ a n d,v = .slice a n d) /\ EY m addr port tcp f oo w now (zp,0,zc) eg jr F v T) (some ⟨f,0,none⟩) addr port tcp p m.size c ⟨b11,0,none⟩ uj ⟨b13,0,none⟩ J S1'':=by
  intro M er X _ hST hgo
  refine ⟨_,_,_,_,_,_,_,_,_,_,_,_,_,_,_,_,_,_,_,_,_,rfl,fun b11=>?_⟩
  refine Ad.among (e:=45) (L:=AC Ch) (L':=AC M) (Sub.refl _) (Nat.le_of_ble_eq_true rfl) rfl rfl fun T1 hT1=>?_
  have d:=FH (J:=J) (M:=M) hT1
  refine ⟨_,d 0 _ rfl,_,d 1 _ rfl,_,d 2 _ rfl,_,d 3 _ rfl,_,d 4 _ rfl,_,d 5 _ rfl,_,d 6 _ rfl,_,d 7 _ rfl,_,d 8 _ rfl,_,d 9 _ rfl,_,_,_,d 10 _ rfl,_,_,_,d 11 _ rfl,_,_,_,d 12 _ rfl,_,d 13 _ rfl,fun b13=>?_⟩
  refine Ad.among (e:=68) (L:=Bw ⟨0,Ch,⟨#[]⟩,0,false,0⟩) (L':=Bw ⟨0,M,addr,port,tcp,0⟩) (Sub.refl _) (Nat.le_of_ble_eq_true rfl) rfl rfl fun T2 hT2=>?_
  exact hgo b11 b13 T2 (((hST.cons _).trans hT1).cons _ |>.trans hT2)
 have hbJ:∀ {T':SH},Sub S T' -> Aj J T' p m.size m:=fun h=>BS hb (h.keep hle)
 cases hd:Bu m with
 | none=>
  rw [hd] at hdec
  obtain ⟨rfl,hST⟩:=hdec
  refine run Ch _ S rfl hST fun b11 b13 T1 hT1=>?_
  have nof:∀ e an au ex,Bu m = some (Em.mg e,an,au,ex) -> ¬ N2 e:=fun e an au ex h=>by rw [hd] at h; cases h
  have hS1:Sub S T1:=hT1.drop.drop
  unfold Di
  refine ⟨_,rfl,?_⟩
  unfold Gc
  refine A7 rfl ((Runs.mono (Se (fun v _ T=>∃ (x:Nat) (ok:Bool),x < 65536 /\ v = .tuple #[.int .u16 (x:Int),.bool ok] /\ T = T1) _ _ _ _ _ ?_) ?_))
  ·unfold UR
   refine ⟨m,hbJ hS1,(B7 m 0 (by decide) hmz J T1).mono ?_⟩
   rintro v J2 T2 hle2 ⟨rfl,rfl⟩
   split
   ·exact ⟨_,_,rfl,CV m 0,true,Ee _ _,rfl,rfl⟩
   ·exact ⟨_,_,rfl,0,false,by decide,rfl,rfl⟩
  ·rintro v J2 T2 hle2 ⟨x,ok,hx,rfl,rfl⟩
   refine ⟨_,_,rfl,?_⟩
   have nil:∀ {J3:A1},(∃ a n d,(Value.slice none 0 0) = .slice a n d) /\ EY m addr port tcp f oo w now (zp,0,zc) eg jr F (.slice none 0 0) T2:=⟨⟨_,_,_,rfl⟩,.inr ⟨hd ▸ nof,id,.inl ⟨rfl,hs.trans hS1⟩⟩⟩
   have cl:Gd (fun v _ T=>(∃ a n d,v = .slice a n d) /\ EY m addr port tcp f oo w now (zp,0,zc) eg jr F v T) addr port tcp (x:Int) J2 T2:=by
    unfold Gd
    have hok:(⟨x,true,0,false,false,false,false,1,e0,0,0⟩:Em).OK:=⟨hx,Nat.zero_le _,(by show 1 <= 15; decide),(by show 0 < 65536; decide),Nat.zero_le _,CH⟩
    refine (Dx hok (by decide) J2 T2).mono ?_
    rintro v J3 T3 hle3 ⟨g,q,qc,own,rfl,ho,hs3⟩
    refine ⟨_,_,_,rfl,⟨_,_,_,rfl⟩,.inr ⟨hd ▸ nof,id,.inr ⟨g,q,qc,_,own,rfl,hok,rfl,(by show 1 ≠ 0; decide),ho,(((Sub.refl own).both (hs.trans hS1)).cons _).trans hs3⟩⟩⟩
   have b4:∀ y:Bool,Dj (fun v _ T=>(∃ a n d,v = .slice a n d) /\ EY m addr port tcp f oo w now (zp,0,zc) eg jr F v T) addr port tcp (x:Int) y J2 T2:=fun y=>by
    unfold Dj
    exact Ae (fun _=>nil (J3:=J2)) (fun _=>cl)
   unfold JT
   refine Ae (fun _=>b4 true) (fun _=>Aa (fun h2=>?_) (fun _=>b4 false))
   have hb2:=BS (hbJ hS1) ((Sub.refl T2).keep hle2)
   cases p with
   | none=>
    have:m = ByteArray.empty:=hb2
    rw [this] at h2
    exact absurd h2 (by decide)
   | some a=>
    obtain ⟨y,hy⟩:=Fc (s:=m) (k:=2) (by omega)
    exact ⟨by decide,by omega,_,hb2.2 2 y hy,b4 _⟩
 | some d=>
  obtain ⟨M,an,au,ex⟩:=d
  rw [hd] at hdec
  obtain ⟨e,rfl,he⟩:=Mh hd
  obtain ⟨pa,ca,pb,cb,pe,ce,o1,o2,o3,rfl,_,_,_,hST⟩:=hdec
  have hST:Sub S T:=hST.right.right.right
  refine run (e.wi (pa,an.length,ca) (pb,au.length,cb) (pe,ex.length,ce)) _ S rfl hST fun b11 b13 T1 hT1=>?_
  generalize (pa,an.length,ca) = X at *
  generalize (pb,au.length,cb) = Y at *
  generalize (pe,ex.length,ce) = Z at *
  have dec1:∀ {e' an' au' ex'},Bu m = some (Em.mg e',an',au',ex') -> Em.mg e' = Em.mg e:=fun h=>by rw [hd] at h; injection h with h; injection h with h _; exact h.symm
  have hx:=NN (J:=J) hT1.drop
  have G0:Sub (GP b13 ⟨0,e.wi X Y Z,addr,port,tcp,0⟩ :: (AH b11 (e.wi X Y Z) :: (AV f oo w now id (none,0,0) (zp,0,zc) eg jr :: F))) T1:=((hs.cons _).cons _).trans hT1
  have notF : ¬ N2 e -> ∀ e' an' au' ex',Bu m = some (Em.mg e',an',au',ex') -> ¬ N2 e':=fun hn e' an' au' ex' h hf=>by
   have h1:=dec1 h
   refine hn ⟨?_,?_,?_,?_⟩
   ·have:=congrArg Mg.rep h1; exact this.symm.trans hf.1
   ·have:(e'.op:Int) = (e.op:Int):=congrArg Mg.op h1; have:=hf.2.1; omega
   ·have:(e'.qt:Int) = (e.qt:Int):=congrArg Mg.qt h1; have:=hf.2.2.1; omega
   ·have:(e'.qt:Int) = (e.qt:Int):=congrArg Mg.qt h1; have:=hf.2.2.2; omega
  unfold Di
  refine ⟨_,rfl,?_⟩
  unfold Gc
  refine A4 rfl ⟨_,hx 1 _ rfl,?_⟩
  unfold JU
  refine Ae (fun hr=>⟨⟨_,_,_,rfl⟩,.inr ⟨notF fun h=>(by have h1:=h.1; have:e.rep = true:=hr; rw [h1] at this; cases this),id,.inl ⟨rfl,G0.drop.drop⟩⟩⟩) (fun hr=>⟨_,hx 2 _ rfl,?_⟩)
  have hr:e.rep = false:=hr
  have x2:∀ {J:A1} {T:SH},Sub (GP b13 ⟨0,e.wi X Y Z,addr,port,tcp,0⟩ :: (AH b11 (e.wi X Y Z) :: (AV f oo w now id (none,0,0) (zp,0,zc) eg jr :: F))) T -> A0 J T (((⟨b11,0,none⟩:Addr).add 8).add 1) (.int .u16 (e.qt:Int)):=fun h=>A0.at_ (show (((⟨b11,0,none⟩:Addr).add 8).add 1) = ⟨b11,9,none⟩ by rw [A5,A5]) (A0.among h.drop rfl)
  have d13:=Tn (J:=J) G0
  have d11:=NN (J:=J) G0.drop
  have hK : ¬ N2 e -> ∀ v (J':A1) T',Q0 addr port tcp (AV f oo w now id (none,0,0) (zp,0,zc) eg jr :: F) v T' -> ∀ p n c,v = .slice p n c -> (∃ a n d,v = .slice a n d) /\ EY m addr port tcp f oo w now (zp,0,zc) eg jr F v T':=fun hn v J' T' h p n c ev=>⟨⟨p,n,c,ev⟩,.inr ⟨notF hn,id,h⟩⟩
  unfold JV JW
  refine Ae (fun ho=>⟨_,A0.among G0 rfl,_,d13 1 _ rfl,_,d13 2 _ rfl,_,d13 3 _ rfl,_,d13 4 _ rfl,_,d13 5 _ rfl,_,d13 6 _ rfl,_,d13 7 _ rfl,_,d13 8 _ rfl,_,d13 9 _ rfl,_,d13 10 _ rfl,_,_,_,d13 11 _ rfl,_,_,_,d13 12 _ rfl,_,_,_,d13 13 _ rfl,_,d13 14 _ rfl,_,d13 15 _ rfl,_,d13 16 _ rfl,_,d13 17 _ rfl,_,d13 18 _ rfl,_,A0.among G0.drop rfl,_,d11 1 _ rfl,_,d11 2 _ rfl,_,d11 3 _ rfl,_,d11 4 _ rfl,_,d11 5 _ rfl,_,d11 6 _ rfl,_,d11 7 _ rfl,_,d11 8 _ rfl,_,d11 9 _ rfl,_,_,_,d11 10 _ rfl,_,_,_,d11 11 _ rfl,_,_,_,d11 12 _ rfl,_,d11 13 _ rfl,GW (K:=fun v _ T=>(∃ a n d,v = .slice a n d) /\ EY m addr port tcp f oo w now (zp,0,zc) eg jr F v T) (code:=4) he (by decide) (by decide) (by decide) G0 (hK fun h=>?_)⟩) (fun ho=>⟨_,x2 G0,?_⟩)
  ·have h2:=h.2.1
   have ho:((e.op:Int) != 0) = true:=ho
   rw [h2] at ho
   exact absurd ho (by decide)
  have hop:e.op = 0:=by
   have ho:((e.op:Int) != 0) = false:=ho
   have:=bne_eq_false_iff_eq.1 ho
   omega
  have ans9 : ¬ N2 e -> Dk (fun v _ T=>(∃ a n d,v = .slice a n d) /\ EY m addr port tcp f oo w now (zp,0,zc) eg jr F v T) (some ⟨f,0,none⟩) ⟨b11,0,none⟩ ⟨b13,0,none⟩ true J T1:=fun hn=>by
   unfold Dk G9
   exact A7 rfl ⟨_,A0.among G0 rfl,_,d13 1 _ rfl,_,d13 2 _ rfl,_,d13 3 _ rfl,_,d13 4 _ rfl,_,d13 5 _ rfl,_,d13 6 _ rfl,_,d13 7 _ rfl,_,d13 8 _ rfl,_,d13 9 _ rfl,_,d13 10 _ rfl,_,_,_,d13 11 _ rfl,_,_,_,d13 12 _ rfl,_,_,_,d13 13 _ rfl,_,d13 14 _ rfl,_,d13 15 _ rfl,_,d13 16 _ rfl,_,d13 17 _ rfl,_,d13 18 _ rfl,_,A0.among G0.drop rfl,_,d11 1 _ rfl,_,d11 2 _ rfl,_,d11 3 _ rfl,_,d11 4 _ rfl,_,d11 5 _ rfl,_,d11 6 _ rfl,_,d11 7 _ rfl,_,d11 8 _ rfl,_,d11 9 _ rfl,_,_,_,d11 10 _ rfl,_,_,_,d11 11 _ rfl,_,_,_,d11 12 _ rfl,_,d11 13 _ rfl,GW (K:=fun v _ T=>(∃ a n d,v = .slice a n d) /\ EY m addr port tcp f oo w now (zp,0,zc) eg jr F v T) (code:=5) he (by decide) (by decide) (by decide) G0 (hK hn)⟩
  refine Aw (fun h=>ans9 fun hf=>hf.2.2.1 (by omega)) (fun h252=>⟨_,x2 G0,?_⟩)
  by_cases h251:e.qt = 251
  ·rw [show ((e.qt:Int) == 251) = true by rw [h251]; rfl]
   exact ans9 fun hf=>hf.2.2.2 h251
  ·rw [show ((e.qt:Int) == 251) = false from beq_eq_false_iff_ne.2 (by omega)]
   unfold Dk
   refine A4 rfl ((Q5 (G0.drop.drop)).mono ?_)
   rintro v J2 T2 hle2 ⟨rfl,rfl⟩
   refine ⟨_,rfl,?_⟩
   unfold Ga
   refine A4 rfl ?_
   unfold Gb
   have d13:=Tn (J:=J2) G0
   refine ⟨_,A0.among G0 rfl,_,d13 1 _ rfl,_,d13 2 _ rfl,_,d13 3 _ rfl,_,d13 4 _ rfl,_,d13 5 _ rfl,_,d13 6 _ rfl,_,d13 7 _ rfl,_,d13 8 _ rfl,_,d13 9 _ rfl,_,d13 10 _ rfl,_,_,_,d13 11 _ rfl,_,_,_,d13 12 _ rfl,_,_,_,d13 13 _ rfl,_,d13 14 _ rfl,_,d13 15 _ rfl,_,d13 16 _ rfl,_,d13 17 _ rfl,_,d13 18 _ rfl,(Fs (x:=⟨0,e.wi X Y Z,addr,port,tcp,0⟩) (e:=e) (a:=X) (b:=Y) (c:=Z) he rfl (G0.drop.drop)).mono ?_⟩
   rintro v J3 T3 hle3 ⟨g,q,id',pp,pc,rfl,hs3⟩
   refine ⟨_,_,_,rfl,⟨_,_,_,rfl⟩,.inl ⟨e,an,au,ex,hd,⟨hr,hop,fun h=>h252 (by omega),h251⟩,g,q,id',pp,pc,rfl,hs3⟩⟩
end
section
variable {zp:Option Addr} {f eg jr zc:Nat} {oo:Sl} {w id port:Int} {F S T:SH} {I J:A1} {addr m:ByteArray} {tcp:Bool} {p:Option Addr} {c:Nat}
abbrev Tg:RT:=fun v _ _=>v = .bool true
theorem NF {x:Option Addr} {n d:Nat} (hn:n <= 1) (hs:Sub (AV f oo w 0 id (none,0,0) (zp,0,zc) eg jr :: F) T):DT Tg (some ⟨f,0,none⟩) x n d J T:=by
 unfold DT
 refine Aa (fun _=>(Fa hs).mono ?_) (fun h=>absurd (by omega:(n:Int) <= 1) h)
 rintro v J2 T2 hle ⟨rfl,rfl⟩
 refine ⟨_,rfl,?_⟩
 unfold DU
 show Value.bool (((0:Nat):Int) == 0) = .bool true
 rfl
theorem Qj {x:Option Addr} {n d:Nat} (h:Q0 addr port tcp (AV f oo w 0 id (none,0,0) (zp,0,zc) eg jr :: F) (.slice x n d) S) (hs:Sub S T):G1 Tg addr port tcp (some ⟨f,0,none⟩) x n d J T:=by
 unfold G1 Jy
 rcases h with ⟨hv,h⟩ | ⟨g,q,qc,e,own,hv,he,hrep,hcode,ho,h⟩
 ·injection hv with e1 e2 e3
  subst e1 e2 e3
  refine ⟨fun mm x1 x2 x3 x9 x10 x10n x10c x77 x77n x77c x78 x79 J T'=>x9 = some ⟨f,0,none⟩ /\ x10n = 0 /\ x78 = 0 /\ x79 = 0 /\ T' = T,0,⟨rfl,rfl,rfl,rfl,rfl⟩,?_⟩
  rintro mm x1 x2 x3 x9 x10 x10n x10c x77 x77n x77c x78 x79 J2 T2 - ⟨rfl,rfl,rfl,rfl,rfl⟩
  unfold G2
  exact A4 (by decide) (NF (by decide) (h.trans hs))
 ·injection hv with e1 e2 e3
  subst e1 e2 e3
  refine ⟨fun mm x1 x2 x3 x9 x10 x10n x10c x77 x77n x77c x78 x79 J T'=>x1 = addr /\ x2 = port /\ x3 = tcp /\ x9 = some ⟨f,0,none⟩ /\ x10n = 1 /\ x77 = some ⟨g,0,none⟩ /\ x77n = 1 /\ x78 = 1 /\ ((mm = 1 /\ x79 = 0) \/ (mm = 0 /\ x79 = 1)) /\ Sub (QH g (0,addr,port,tcp,0,(q,e.wire.length,qc)) :: (own ++ (AV f oo w 0 id (none,0,0) (zp,0,zc) eg jr :: F))) T',
   1,⟨rfl,rfl,rfl,rfl,rfl,rfl,rfl,rfl,.inl ⟨rfl,rfl⟩,h.trans hs⟩,?_⟩
  rintro mm x1 x2 x3 x9 x10 x10n x10c x77 x77n x77c x78 x79 J2 T2 - ⟨rfl,rfl,rfl,rfl,rfl,rfl,rfl,rfl,(⟨rfl,rfl⟩ | ⟨rfl,rfl⟩),hs2⟩
  ·unfold G2
   refine A7 (by decide) ?_
   unfold Jz
   have d:∀ (j:Nat) (u:Value),(Ea (0,x1,x2,x3,0,(q,e.wire.length,qc))).toArray[j]? = some u -> A0 J2 T2 (((⟨g,0,none⟩:Addr).add ((0:Int).toNat * 6)).add j) u:=fun j u hu=>A0.at_ (show (((⟨g,0,none⟩:Addr).add ((0:Int).toNat * 6)).add j) = ⟨g,j,none⟩ by rw [A5,A5]; simp) (A0.among hs2 hu)
   refine ⟨by decide,by decide,_,A0.at_ (show ((⟨g,0,none⟩:Addr).add ((0:Int).toNat * 6)) = ⟨g,0,none⟩ by rw [A5]; rfl) (A0.among hs2 rfl),_,d 1 _ rfl,_,d 2 _ rfl,_,d 3 _ rfl,_,d 4 _ rfl,_,_,_,d 5 _ rfl,fun b14=>?_⟩
   refine Ad.among (e:=52) (L:=Ea (0,e0,0,false,0,(none,0,0))) (L':=Ea (0,x1,x2,x3,0,(q,e.wire.length,qc))) (F:=T2) (Sub.refl _) (Nat.le_of_ble_eq_true rfl) rfl rfl fun T3 hT3=>?_
   have hown:Sub own T3:=(hs2.drop.left).trans hT3.drop
   obtain ⟨M,hdec,hMr,hMc⟩:=NB he
   refine ⟨_,_,_,AG (L:=Ea (0,x1,x2,x3,0,(q,e.wire.length,qc))) hT3 5 _ rfl,(DZ (m:=⟨e.wire.toArray⟩) (ho.bytes hown)).mono ?_⟩
   rintro v J4 T4 hle4 hd
   unfold CW at hd
   rw [hdec] at hd
   obtain ⟨pa,ca,pb,cb,pe,ce,o1,o2,o3,rfl,_,_,_,hs4⟩:=hd
   have hs4:Sub T3 T4:=hs4.right.right.right
   refine ⟨_,_,_,_,_,_,_,_,_,_,_,_,_,_,_,_,_,_,_,_,_,rfl,fun b15=>?_⟩
   generalize hM2:({ M with an:=(pa,([]:List Rc).length,ca),au:=(pb,([]:List Rc).length,cb),ex:=(pe,([]:List Rc).length,ce) }:Mg) = M2
   have r1:M2.rep = true:=by rw [<- hM2]; exact hMr.trans hrep
   have r2:M2.code = (e.code:Int):=by rw [<- hM2]; exact hMc
   have r3:M2.an.2.1 = 0:=by rw [<- hM2]; rfl
   have r4:M2.au.2.1 = 0:=by rw [<- hM2]; rfl
   have r5:M2.ex.2.1 = 0:=by rw [<- hM2]; rfl
   refine Ad.among (e:=45) (L:=AC Ch) (L':=AC M2) (F:=T4) (Sub.refl _) (Nat.le_of_ble_eq_true rfl) rfl (by rw [<- hM2]; rfl) fun T5 hT5=>?_
   have hp:=hT3.trans (hs4.trans hT5.drop)
   have dp:=AG (L:=Ea (0,x1,x2,x3,0,(q,e.wire.length,qc))) (I:=J4) hp
   have dm:=FH (J:=J4) (M:=M2) hT5
   refine ⟨_,A0.among hp rfl,A4 rfl ⟨_,dp 1 _ rfl,A4 (by simp) ⟨_,dp 2 _ rfl,A4 (by simp) ⟨_,dp 3 _ rfl,A4 (by simp) ⟨_,rfl,A4 rfl ⟨_,dm 1 _ rfl,A4 (by rw [r1]; rfl) ⟨_,_,_,dm 10 _ rfl,_,_,_,dm 11 _ rfl,_,_,_,dm 12 _ rfl,?_⟩⟩⟩⟩⟩⟩⟩
   rw [r3,r4,r5]
   refine A4 (by decide) ⟨_,dm 7 _ rfl,?_⟩
   rw [r2,show ((e.code:Int) == 0) = false from beq_eq_false_iff_ne.2 (by omega)]
   unfold BC
   refine A4 rfl ?_
   unfold JA
   exact ⟨0,Nat.zero_lt_one,rfl,rfl,rfl,rfl,rfl,rfl,rfl,rfl,.inr ⟨rfl,rfl⟩,hs2.trans (hT3.drop.trans (hs4.trans hT5.drop))⟩
  ·unfold G2
   exact A4 (by decide) (NF (by decide) hs2.drop.right)
theorem HA (hmz:m.size <= 9223372036854775807) (hb:Aj I S p m.size m):Runs Try.prog 3 #[.slice p m.size c,.string addr,.int .i64 port,.bool tcp] I S Tg:=by
 refine Rz _ _ _ _ _ _ _ _ _ ?_
 unfold Ue
 refine (HU I S).mono ?_
 rintro v J T hle ⟨rfl,hs⟩
 refine ⟨_,rfl,A4 rfl fun b21=>?_⟩
 have hrow:AK J (Qf b21 :: T) none ([]:List ByteArray).length 1 EZ []:=(Ar.row (e:=39) (el:=EZ) (sz:=1) (fun _=>rfl) Ar.nil (I:=J)).sub (Mz _)
 refine (GR (os:=[]) (a:=none) (c0:=0) (dv:=b21) (w:=3) (id:=7) (F:=T) hrow (by decide) (Sub.refl _)).mono ?_
 rintro v J2 T2 hle2 ⟨f,zp,zc,eg,jr,ts,oz,oe,rfl,hts,hz,he,hs2⟩
 have hts:ts = []:=List.eq_nil_of_length_eq_zero hts
 subst hts
 have hST:Sub S T2:=hs.trans ((((hs2.drop.right).right).right).drop)
 refine ⟨_,rfl,A4 rfl ?_⟩
 refine (HL (p:=p) (c:=c) (addr:=addr) (port:=port) (tcp:=tcp) hmz (BS hb (hST.keep (hle.trans hle2))) (zp:=zp) (zc:=zc) (F:=oz ++ (N4 [] [] ++ (oe ++ (Qf b21 :: T)))) hs2).mono ?_
 rintro v J3 T3 hle3 ⟨⟨xa,xn,xd,rfl⟩,hq⟩
 refine ⟨_,_,_,rfl,?_⟩
 have hS3:Sub S T3:=by
  have hF:Sub S (oz ++ (N4 [] [] ++ (oe ++ (Qf b21 :: T)))):=hs.trans ((Sub.refl (oz ++ (N4 [] [] ++ (oe ++ (Qf b21 :: T))))).right.right.right.drop)
  rcases hq with ⟨_,_,_,_,_,_,_,_,_,_,_,_,h⟩ | ⟨_,_,(⟨_,h⟩ | ⟨_,_,_,_,_,_,_,_,_,_,h⟩)⟩
  ·exact hF.trans h.drop.drop
  ·exact hF.trans h.drop
  ·exact hF.trans (h.drop.right).drop
 refine (DZ (BS hb (hS3.keep ((hle.trans hle2).trans hle3)))).mono ?_
 rintro v J4 T4 hle4 hd
 unfold CW at hd
 have b2f:∀ (y:Bool) (J5:A1) (T5:SH),(y = true -> ∃ e an au ex,Bu m = some (Em.mg e,an,au,ex) /\ N2 e) -> (y = false -> ∀ e an au ex,Bu m = some (Em.mg e,an,au,ex) -> ¬ N2 e) -> Sub T3 T5 -> C2 Tg addr port tcp (some ⟨f,0,none⟩) xa xn xd y J5 T5:=by
  intro y J5 T5 h1 h2 hT5
  unfold C2
  cases y with
  | false=>
   refine A4 rfl ?_
   rcases hq with ⟨e,an,au,ex,hde,hf,_⟩ | ⟨_,id',h⟩
   ·exact absurd hf (h2 rfl e an au ex hde)
   ·exact Qj h hT5
  | true=>
   refine A7 rfl ?_
   rcases hq with ⟨_,_,_,_,_,_,g,q,id',pp,pc,hv,h⟩ | ⟨hn,_⟩
   ·injection hv with e1 e2 e3
    subst e1 e2 e3
    have h:=h.trans hT5
    refine A7 (by decide) ⟨by decide,by decide,_,A0.at_ (show ((⟨g,0,none⟩:Addr).add ((0:Int).toNat * 6)) = ⟨g,0,none⟩ by rw [A5]; rfl) (A0.among h rfl),A7 rfl ((Fa h.drop).mono ?_)⟩
    rintro v J6 T6 hle6 ⟨rfl,rfl⟩
    refine ⟨_,rfl,?_⟩
    unfold EE
    show Value.bool (((1:Nat):Int) == 1) = .bool true
    rfl
   ·obtain ⟨e,an,au,ex,hde,hf⟩:=h1 rfl
    exact absurd hf (hn e an au ex hde)
 cases hdm:Bu m with
 | none=>
  rw [hdm] at hd
  obtain ⟨rfl,h4⟩:=hd
  refine ⟨_,_,_,_,_,_,_,_,_,_,_,_,_,_,_,_,_,_,_,_,_,rfl,fun b11=>?_⟩
  refine Ad.among (e:=45) (L:=AC Ch) (L':=AC Ch) (F:=T4) (Sub.refl _) (Nat.le_of_ble_eq_true rfl) rfl rfl fun T5 hT5=>?_
  unfold FZ
  refine ⟨_,rfl,A4 rfl (b2f false _ _ (fun h=>by cases h) (fun _ e an au ex h=>by rw [hdm] at h; cases h) (h4.trans hT5.drop))⟩
 | some d=>
  obtain ⟨M,an,au,ex⟩:=d
  rw [hdm] at hd
  obtain ⟨e,rfl,hok⟩:=Mh hdm
  obtain ⟨pa,ca,pb,cb,pe,ce,o1,o2,o3,rfl,_,_,_,h4⟩:=hd
  have h4:Sub T3 T4:=h4.right.right.right
  refine ⟨_,_,_,_,_,_,_,_,_,_,_,_,_,_,_,_,_,_,_,_,_,rfl,fun b11=>?_⟩
  refine Ad.among (e:=45) (L:=AC Ch) (L':=AC (e.wi (pa,an.length,ca) (pb,au.length,cb) (pe,ex.length,ce))) (F:=T4) (Sub.refl _) (Nat.le_of_ble_eq_true rfl) rfl rfl fun T5 hT5=>?_
  generalize (pa,an.length,ca) = X at *
  generalize (pb,au.length,cb) = Y at *
  generalize (pe,ex.length,ce) = Z at *
  have hT35:=h4.trans hT5.drop
  have hx:=NN (J:=J4) hT5
  have x2:A0 J4 T5 (((⟨b11,0,none⟩:Addr).add 8).add 1) (.int .u16 (e.qt:Int)):=A0.at_ (show (((⟨b11,0,none⟩:Addr).add 8).add 1) = ⟨b11,9,none⟩ by rw [A5,A5]) (A0.among hT5 rfl)
  have same:∀ {e' an' au' ex'},Bu m = some (Em.mg e',an',au',ex') -> N2 e' -> N2 e:=fun h hf=>by
   rw [hdm] at h; injection h with h; injection h with h1 _
   refine ⟨(congrArg Mg.rep h1).trans hf.1,?_,?_,?_⟩
   ·have:(e.op:Int) = _:=congrArg Mg.op h1; have:=hf.2.1; show e.op = 0; simp only [Em.mg] at *; omega
   ·have:(e.qt:Int) = _:=congrArg Mg.qt h1; have:=hf.2.2.1; simp only [Em.mg] at *; omega
   ·have:(e.qt:Int) = _:=congrArg Mg.qt h1; have:=hf.2.2.2; simp only [Em.mg] at *; omega
  have bad : ¬ N2 e -> C2 Tg addr port tcp (some ⟨f,0,none⟩) xa xn xd false J4 T5:=fun hn=>b2f false _ _ (fun h=>by cases h) (fun _ e' an' au' ex' h hf=>hn (same h hf)) hT35
  unfold FZ
  refine ⟨_,rfl,A7 rfl ⟨_,hx 1 _ rfl,?_⟩⟩
  refine Ae (fun hr=>⟨_,hx 2 _ rfl,?_⟩) (fun hr=>bad fun hf=>?_)
  ·have hr:e.rep = false:=by have:(!e.rep) = true:=hr; simpa using this
   by_cases hop:e.op = 0
   ·refine A7 (show ((e.op:Int) == 0) = true by rw [hop]; rfl) ⟨_,x2,?_⟩
    by_cases h252:e.qt = 252
    ·refine A4 (show ((e.qt:Int) != 252) = false by rw [h252]; rfl) (bad fun hf=>hf.2.2.1 h252)
    ·refine A7 (bne_iff_ne.2 (by omega)) ⟨_,x2,?_⟩
     by_cases h251:e.qt = 251
     ·rw [show ((e.qt:Int) != 251) = false by rw [h251]; rfl]
      exact bad fun hf=>hf.2.2.2 h251
     ·rw [show ((e.qt:Int) != 251) = true from bne_iff_ne.2 (by omega)]
      exact b2f true _ _ (fun _=>⟨e,an,au,ex,hdm,hr,hop,h252,h251⟩) (fun h=>by cases h) hT35
   ·refine A4 (show ((e.op:Int) == 0) = false from beq_eq_false_iff_ne.2 (by omega)) (bad fun hf=>hop hf.2.1)
  ·have:(!e.rep) = false:=hr
   rw [hf.1] at this; cases this
end
def TT (W:World) (s:Option Addr × Nat × Nat):Prop:=s.2.1 <= s.2.2 /\ s.2.2 <= maxLen /\ ∃ ys:List Int,QV (Qk W) s.1 s.2.1 1 (fun x=>[.int .u8 x]) ys /\ ∀ y ∈ ys,(Lit.int .u8 y).wf = true
theorem Tq {x:Int} (h:(Lit.int .u8 x).wf = true):0 <= x /\ x <= 255:=by
 simp only [Lit.wf,Bool.and_eq_true,decide_eq_true_eq] at h
 exact h
theorem Qw {W:World} {a:Option Addr} {len cap:Nat} (h:TT W (a,len,cap)):∃ ns:List Int,ns.length = len /\ AK (Qk W) [] a ns.length 1 Qg ns /\ ∀ x ∈ ns,0 <= x /\ x <= 255:=by
 obtain ⟨_,_,ns,hs,hw⟩:=h
 exact ⟨ns,hs.1,AK.of_slin (el:=Qg) (fun _=>Nat.one_pos) hs,fun x hx=>Tq (hw x hx)⟩
theorem Nz {I:A1} {a:Option Addr} {ns:List Int} (hx:AK I [] a ns.length 1 Qg ns) (hp:∀ x ∈ ns,0 <= x /\ x <= 255):∃ s:ByteArray,s.size = ns.length /\ Aj I [] a ns.length s:=by
 have hsz:(⟨(ns.map fun x=>UInt8.ofNat x.toNat).toArray⟩:ByteArray).size = ns.length:=by simp [ByteArray.size]
 refine ⟨⟨(ns.map fun x=>UInt8.ofNat x.toNat).toArray⟩,hsz,?_⟩
 cases a with
 | none=>
  cases ns with
  | nil=>rfl
  | cons x xs=>obtain ⟨a',h,_⟩:=hx.2 0 x rfl; cases h
 | some a'=>
  refine ⟨hsz,fun i c hc=>?_⟩
  rw [la] at hc
  simp only [List.getElem?_map,Option.map_eq_some_iff] at hc
  obtain ⟨x,hxi,rfl⟩:=hc
  obtain ⟨a2,h1,_,h2⟩:=hx.2 i x hxi
  injection h1 with h1; subst h1
  have:=h2 0 (.int .u8 x) rfl
  have hb:=hp x (List.mem_of_getElem? hxi)
  have e:((UInt8.ofNat x.toNat).toNat:Int) = x:=by rw [UInt8.toNat_ofNat']; omega
  rw [e]
  simpa [Addr.add] using this
theorem Ft (W:World) (a:Option Addr) (len cap:Nat) (addr:ByteArray) (port:Int) (tcp:Bool) (w0:TT W (a,len,cap)) (z0:len <= 140737488355328) (w1:addr.size <= 140737488351232) (w2:(Lit.int .i64 port).wf = true) :
  Runs Try.prog 3 #[.slice a len cap,.string addr,.int .i64 port,.bool tcp] (Qk W) [] fun v _ _=>v = .bool true:=by
 obtain ⟨ns,rfl,hx,hp⟩:=Qw w0
 obtain ⟨m,hm,hb⟩:=Nz hx hp
 rw [<- hm] at hb z0 ⊢
 exact HA (by omega) hb
end Go.Proofs.Ytmnpjnbjgmeenaa
