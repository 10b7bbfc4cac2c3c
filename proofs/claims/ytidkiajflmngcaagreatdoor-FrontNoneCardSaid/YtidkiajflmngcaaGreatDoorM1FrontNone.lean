/- Part 1 of the proof of FrontNone. -/
import Derived.Calls
import Derived.Tactics
import Derived.Deep.Quiet
import Derived.Deep.LoopGhost
import Derived.ScopeJumps
import Derived.KernelRfl
import Derived.Maps.AppendAt
import Derived.Deep.AppendSrc
import Derived.Lib.ConvBytes
import Derived.Laws.MakeOwn
import Derived.Orders
import Derived.Test.YtidkiajflmngcaaGreatDoorProg
import Derived.Below
import Derived.ChangeArms
import Derived.SizedLaws
import Derived.Laws.Externs
import Derived.Laws.Strings
import Derived.Lib.Overlaps
namespace Go.Px
set_option linter.unusedVariables false
abbrev Fr:=Nat -> Value
def Bv (l:Fr) (d:Nat) (v:Value):Fr:=fun i=>bif Nat.beq i d then v else l i
theorem MF {i d:Nat} (h:i ≠ d):Nat.beq i d = false:=by
 cases hb:Nat.beq i d
 ·rfl
 ·exact absurd (Nat.eq_of_beq_eq_true hb) h
theorem FB {l:Fr} {d:Nat} {v:Value} (h:l d = v):l = Bv l d v:=by
 funext i
 simp only [Bv]
 cases hb:Nat.beq i d
 ·rfl
 ·have:=Nat.eq_of_beq_eq_true hb; subst this; exact h
theorem Qg (l:Fr) (d:Nat) (v:Value) (i:Nat):Bv l d v i = if i = d then v else l i:=by
 simp only [Bv]
 by_cases h:i = d
 ·subst h; simp
 ·rw [if_neg h,MF h]; rfl
def ev (l:Fr):Operand -> Value
 | .tmp t=>l t
 | .const v=>v
 | .global g=>.pointer (some ⟨g,0,none⟩)
 | .func f=>.func (.func f) #[] #[]
structure Ap (n:Nat) (l:Fr) (a:Act):Prop where
 size:a.tmps.size = n
 defers:a.defers = []
 at_:∀ i,a.tmps.getD i undef = l i
theorem Ap.eval {n:Nat} {l:Fr} {a:Act} (h:Ap n l a):a.eval = ev l:=by
 funext x
 cases x <;> simp [Act.eval,ev,h.at_]
theorem Ap.put {n:Nat} {l:Fr} {a:Act} (h:Ap n l a) {d:Nat} (hd:d < n) (v:Value):Ap n (Bv l d v) (a.put (some d) v):=by
 refine ⟨by simp [Act.put,h.size],by simp [Act.put,h.defers],fun i=>?_⟩
 rw [Qg]
 have:=h.at_ i
 have hs:=h.size
 simp only [Act.put]
 by_cases hi:i = d
 ·subst hi
  rw [if_pos rfl]
  simp [Array.getD,hs,hd]
 ·rw [if_neg hi,<- this]
  simp only [Array.getD,Array.size_setIfInBounds]
  split
  ·rename_i hlt
   rw [Array.getInternal_eq_getElem,Array.getInternal_eq_getElem,Array.getElem_setIfInBounds]
   rw [if_neg (fun e=>hi e.symm)]
  ·rfl
structure A1 where
 at_:Nat -> Option Obj
 os:Os
 tape:Nat -> Question -> Nat
 out:Array (Nat × ByteArray)
 dr:Nat
structure A1.le (I J:A1):Prop where
 at_:∀ b o,I.at_ b = some o -> J.at_ b = some o
 os:J.os = I.os
 tape:J.tape = I.tape
 out:J.out = I.out
 dr:J.dr = I.dr
theorem A1.le.refl (I:A1):I.le I:=⟨fun _ _ h=>h,rfl,rfl,rfl,rfl⟩
theorem A1.le.trans {I J K:A1} (h:I.le J) (g:J.le K):I.le K:=⟨fun b o e=>g.at_ b o (h.at_ b o e),g.os.trans h.os,g.tape.trans h.tape,g.out.trans h.out,g.dr.trans h.dr⟩
abbrev SH:=List (Nat × Obj)
structure Am (I:A1) (S:SH) (w:World):Prop where
 os:w.os = I.os
 tape:w.tape = I.tape
 out:w.output = I.out
 dr:I.dr <= w.drawn
 im:∀ b o,I.at_ b = some o -> w.heap[b]? = some o
 own:∀ p ∈ S,w.heap[p.1]? = some p.2
 apart:∀ p ∈ S,I.at_ p.1 = none
 nodup:(S.map (·.1)).Nodup
theorem Am.drew {I:A1} {S:SH} {w:World} (h:Am I S w):Am I S { w with drawn:=w.drawn + 1 }:=⟨h.os,h.tape,h.out,Nat.le_succ_of_le h.dr,h.im,h.own,h.apart,h.nodup⟩
theorem Am.new {I:A1} {S:SH} {w:World} (h:Am I S w) (o:Obj):Am I ((w.heap.size,o) :: S) { w with heap:=w.heap.push o }:=by
 have hlt:∀ b o',w.heap[b]? = some o' -> b ≠ w.heap.size /\ (w.heap.push o)[b]? = some o':=by
  intro b o' hb
  have:b < w.heap.size:=by
   rcases Nat.lt_or_ge b w.heap.size with h | h
   ·exact h
   ·rw [Array.getElem?_eq_none h] at hb; cases hb
  exact ⟨by omega,by rw [Array.getElem?_push,if_neg (by omega)]; exact hb⟩
 refine ⟨h.os,h.tape,h.out,h.dr,fun b o' hb=>(hlt b o' (h.im b o' hb)).2,fun p hp=>?_,fun p hp=>?_,?_⟩
 ·rcases List.mem_cons.1 hp with rfl | hp
  ·simp
  ·exact (hlt _ _ (h.own p hp)).2
 ·rcases List.mem_cons.1 hp with rfl | hp
  ·cases hn:I.at_ w.heap.size with
   | none=>rfl
   | some o'=>exact absurd rfl (hlt _ _ (h.im _ _ hn)).1
  ·exact h.apart p hp
 ·simp only [List.map_cons,List.nodup_cons]
  refine ⟨fun hm=>?_,h.nodup⟩
  obtain ⟨p,hp,he⟩:=List.mem_map.1 hm
  exact (hlt _ _ (h.own p hp)).1 he
theorem Am.perm {I:A1} {S T:SH} {w:World} (h:Am I S w) (hp:S.Perm T):Am I T w:=
 ⟨h.os,h.tape,h.out,h.dr,h.im,fun p hm=>h.own p (hp.mem_iff.2 hm),fun p hm=>h.apart p (hp.mem_iff.2 hm),(hp.map _).nodup_iff.1 h.nodup⟩
theorem Am.drop {I:A1} {S T:SH} {w:World} (h:Am I (S ++ T) w):Am I T w:=
 ⟨h.os,h.tape,h.out,h.dr,h.im,fun p hm=>h.own p (List.mem_append_right _ hm),fun p hm=>h.apart p (List.mem_append_right _ hm),by
  have:=h.nodup; rw [List.map_append] at this; exact (List.nodup_append.1 this).2.1⟩
theorem Am.tail {I:A1} {p:Nat × Obj} {T:SH} {w:World} (h:Am I (p :: T) w):Am I T w:=Am.drop (S:=[p]) h
def A1.add (I:A1) (b:Nat) (o:Obj):A1:={ I with at_:=fun i=>if i = b then some o else I.at_ i }
def Runs (P:Program) (f:FuncId) (args:Array Value) (I:A1) (S:SH) (R:Value -> A1 -> SH -> Prop):Prop:=
 ∀ w,Am I S w -> Calls P f args w (fun e w'=>∃ v J T,e = .returned v /\ I.le J /\ Am J T w' /\ R v J T)
theorem Runs.mono {P:Program} {f:FuncId} {args:Array Value} {I:A1} {S:SH} {R R':Value -> A1 -> SH -> Prop} (h:Runs P f args I S R)
  (hr:∀ v J T,I.le J -> R v J T -> R' v J T):Runs P f args I S R':=
 fun w hw=>(h w hw).mono fun _ _ ⟨v,J,T,he,hl,hs,hR⟩=>⟨v,J,T,he,hl,hs,hr v J T hl hR⟩
theorem Runs.perm {P:Program} {f:FuncId} {args:Array Value} {I:A1} {S S':SH} {R:Value -> A1 -> SH -> Prop} (hp:S.Perm S') (h:Runs P f args I S' R):Runs P f args I S R:=
 fun w hw=>h w (hw.perm hp)
theorem Runs.weaken {P:Program} {f:FuncId} {args:Array Value} {I:A1} {S S':SH} {R:Value -> A1 -> SH -> Prop} (hp:∀ w,Am I S w -> Am I S' w) (h:Runs P f args I S' R):Runs P f args I S R:=
 fun w hw=>h w (hp w hw)
def WP (P:Program) (n:Nat) (c:Code) (Q:Exit -> Fr -> A1 -> SH -> Prop) (l:Fr) (I:A1) (S:SH):Prop:=
 ∀ w a,Am I S w -> Ap n l a -> c.wp P (fun e a' w'=>∃ l' J T,Ap n l' a' /\ I.le J /\ Am J T w' /\ Q e l' J T) a w
section
variable {P:Program} {n:Nat} {Q Q':Exit -> Fr -> A1 -> SH -> Prop} {l:Fr} {I:A1} {S:SH}
theorem WP.mono {c:Code} (h:WP P n c Q l I S) (hq:∀ e l' J T,I.le J -> Q e l' J T -> Q' e l' J T):WP P n c Q' l I S:=
 fun w a hw ha=>wp_mono (h w a hw ha) fun _ _ _ ⟨l',J,T,h1,h2,h3,h4⟩=>⟨l',J,T,h1,h2,h3,hq _ _ _ _ h2 h4⟩
def Dn (K:Fr -> A1 -> SH -> Prop) (Q:Exit -> Fr -> A1 -> SH -> Prop):Exit -> Fr -> A1 -> SH -> Prop
 | .normal=>K
 | e=>Q e
theorem WP.seq {x y:Code} (h:WP P n x (Dn (fun l J T=>WP P n y Q l J T) Q) l I S):WP P n (.seq x y) Q l I S:=by
 intro w a hw ha
 refine wp_seq (wp_mono (h w a hw ha) ?_)
 rintro e a' w' ⟨l',J,T,h1,h2,h3,h4⟩
 cases e with
 | normal=>exact wp_mono (h4 w' a' h3 h1) fun _ _ _ ⟨l'',J',T',g1,g2,g3,g4⟩=>⟨l'',J',T',g1,h2.trans g2,g3,g4⟩
 | _=>exact ⟨l',J,T,h1,h2,h3,h4⟩
def DU (id:Nat) (Q:Exit -> Fr -> A1 -> SH -> Prop):Exit -> Fr -> A1 -> SH -> Prop
 | .exit id'=>match Nat.beq id' id with
  | true=>Q .normal
  | false=>Q (.exit id')
 | e=>Q e
theorem WP.block {id:Nat} {c:Code} (h:WP P n c (DU id Q) l I S):WP P n (.block id c) Q l I S:=by
 intro w a hw ha
 refine wp_block (wp_mono (h w a hw ha) ?_)
 rintro e a' w' ⟨l',J,T,h1,h2,h3,h4⟩
 cases e with
 | exit id'=>
  simp only [DU] at h4
  simp only [Exit.inBlock]
  split
  ·rename_i e; subst e; rw [show Nat.beq id' id' = true by simp] at h4; exact ⟨l',J,T,h1,h2,h3,h4⟩
  ·rename_i e; rw [MF e] at h4; exact ⟨l',J,T,h1,h2,h3,h4⟩
 | _=>exact ⟨l',J,T,h1,h2,h3,h4⟩
theorem WP.loop {c:Code} (Inv:Nat -> Fr -> A1 -> SH -> Prop) (m:Nat) (h0:Inv m l I S)
  (round:∀ m l J T,I.le J -> Inv m l J T -> WP P n c (Dn (fun l' J' T'=>∃ m',m' < m /\ Inv m' l' J' T') Q) l J T):WP P n (.loop c) Q l I S:=by
 intro w a hw ha
 refine wp_loop_ghost (fun m a w=>∃ l J T,Ap n l a /\ I.le J /\ Am J T w /\ Inv m l J T) m ⟨l,I,S,ha,A1.le.refl I,hw,h0⟩ ?_
 rintro m a w ⟨l,J,T,h1,h2,h3,h4⟩
 refine wp_mono (round m l J T h2 h4 w a h3 h1) ?_
 rintro e a' w' ⟨l',J',T',g1,g2,g3,g4⟩
 cases e with
 | normal=>
  obtain ⟨m',hlt,hI⟩:=g4
  exact ⟨m',hlt,l',J',T',g1,h2.trans g2,g3,hI⟩
 | _=>exact ⟨l',J',T',g1,h2.trans g2,g3,g4⟩
def Lp (t:Nat) (K:Fr -> A1 -> SH -> Prop) (Q:Exit -> Fr -> A1 -> SH -> Prop):Exit -> Fr -> A1 -> SH -> Prop
 | .goto t'=>fun l J T=>t' = t /\ K l J T
 | e=>Q e
theorem WP.scope {c rest:Code} (t:Nat) (hf:findLabel c t = some rest) (Inv:Nat -> Fr -> A1 -> SH -> Prop)
  (first:WP P n c (Lp t (fun l J T=>∃ m,Inv m l J T) Q) l I S)
  (round:∀ m l J T,I.le J -> Inv m l J T -> WP P n rest (Lp t (fun l' J' T'=>∃ m',m' < m /\ Inv m' l' J' T') Q) l J T):WP P n (.scope c) Q l I S:=by
 intro w a hw ha
 let G:Nat -> Act -> World -> Prop:=fun m a w=>∃ l J T,Ap n l a /\ I.le J /\ Am J T w /\ Inv m l J T
 refine wp_scope_jumps t (fun a w=>∃ m,G m a w) (fun a w=>leastOf (fun m=>G m a w)) hf ?_ ?_
 ·refine wp_mono (first w a hw ha) ?_
  rintro e a' w' ⟨l',J',T',g1,g2,g3,g4⟩
  cases e with
  | goto t'=>
   obtain ⟨ht,m,hI⟩:=g4
   exact ⟨ht,m,l',J',T',g1,g2,g3,hI⟩
  | _=>exact ⟨l',J',T',g1,g2,g3,g4⟩
 ·rintro a w hG
  have hs:=(leastOf_spec (p:=fun m=>G m a w) hG)
  obtain ⟨l,J,T,h1,h2,h3,h4⟩:=hs.1
  refine wp_mono (round _ l J T h2 h4 w a h3 h1) ?_
  rintro e a' w' ⟨l',J',T',g1,g2,g3,g4⟩
  cases e with
  | goto t'=>
   obtain ⟨ht,m',hlt,hI⟩:=g4
   have hG':G m' a' w':=⟨l',J',T',g1,h2.trans g2,g3,hI⟩
   exact ⟨ht,⟨m',hG'⟩,Nat.lt_of_le_of_lt ((leastOf_spec (p:=fun m=>G m a' w') ⟨m',hG'⟩).2 m' hG') hlt⟩
  | _=>exact ⟨l',J',T',g1,h2.trans g2,g3,g4⟩
end
set_option linter.unusedSimpArgs false
def A2 (t:Bool) (A B:Prop):Prop:=match t with
 | true=>A
 | false=>B
theorem Ae {t:Bool} {A B:Prop} (h1:t = true -> A) (h2:t = false -> B):A2 t A B:=by cases t <;> simp_all [A2]
theorem A7 {t:Bool} {A B:Prop} (h:t = true) (h1:A):A2 t A B:=by subst h; exact h1
theorem A4 {t:Bool} {A B:Prop} (h:t = false) (h1:B):A2 t A B:=by subst h; exact h1
theorem Ab {p:Prop} [Decidable p] {A B:Prop} (h1:p -> A) (h2 : ¬ p -> B):A2 (decide p) A B:=
 Ae (fun h=>h1 (of_decide_eq_true h)) (fun h=>h2 (of_decide_eq_false h))
theorem Ax {α:Type} [BEq α] [LawfulBEq α] {x y:α} {A B:Prop} (h1:x = y -> A) (h2:x ≠ y -> B):A2 (x == y) A B:=
 Ae (fun h=>h1 (eq_of_beq h)) (fun h=>h2 (fun e=>by subst e; simp at h))
theorem LV {α:Type} [BEq α] [LawfulBEq α] {x y:α} {A B:Prop} (h1:x ≠ y -> A) (h2:x = y -> B):A2 (x != y) A B:=
 Ae (fun h=>h1 (by simpa using h)) (fun h=>h2 (by simpa using h))
theorem Bh {t:Bool} {A B:Prop} (h:A2 t B A):A2 (!t) A B:=by cases t <;> exact h
def Aa (n:Nat) (d:Option Tmp) (v:Value) (K:Fr -> A1 -> SH -> Prop) (l:Fr) (I:A1) (S:SH):Prop:=match d with
 | none=>K l I S
 | some d=>match Nat.blt d n with
  | true=>K (Bv l d v) I S
  | false=>False
def AB {α:Type} (P:Program):Sem α -> Option α
 | .pure a=>some a
 | .program k=>AB P (k P)
 | _=>none
theorem Bf {α:Type} {P:Program} {w:World}:∀ {s:Sem α} {a:α},AB P s = some a -> s.run P w = .ok a w
 | .pure b,a,h=>by simp [AB] at h; subst h; rfl
 | .program k,a,h=>by simp only [AB] at h; simp only [Sem.run]; exact Bf h
 | .load ..,_,h=>by simp [AB] at h
 | .store ..,_,h=>by simp [AB] at h
 | .new ..,_,h=>by simp [AB] at h
 | .shape ..,_,h=>by simp [AB] at h
 | .freeze ..,_,h=>by simp [AB] at h
 | .frozen ..,_,h=>by simp [AB] at h
 | .getObj ..,_,h=>by simp [AB] at h
 | .setObj ..,_,h=>by simp [AB] at h
 | .choose ..,_,h=>by simp [AB] at h
 | .sys ..,_,h=>by simp [AB] at h
 | .mark ..,_,h=>by simp [AB] at h
 | .halt ..,_,h=>by simp [AB] at h
inductive Sc where
 | bool | int (k:IntKind) | str | ptr | slice | map | flt | cpx | other
def S9:TypeDesc -> Sc
 | .bool=>.bool
 | .int k=>.int k
 | .string=>.str
 | .pointer _=>.ptr
 | .unsafePointer=>.ptr
 | .slice _=>.slice
 | .map ..=>.map
 | .float .f64=>.flt
 | .complex .f64=>.cpx
 | _=>.other
def Q7:Sc -> (Value -> Prop) -> Prop
 | .bool,K=>∃ b,K (.bool b)
 | .int k,K=>∃ n,K (.int k n)
 | .str,K=>∃ s,K (.string s)
 | .ptr,K=>∃ p,K (.pointer p)
 | .slice,K=>∃ p n c,K (.slice p n c)
 | .map,K=>∃ r,K (.map r)
 | .flt,K=>∃ n,K (.float .f64 n)
 | .cpx,K=>∃ a b,K (.complex .f64 a b)
 | .other,K=>∃ v,K v
theorem C4 {s:Sc} {K:Value -> Prop} (h:Q7 s K):∃ v,K v:=by
 cases s <;> simp only [Q7] at h
 case slice=>obtain ⟨p,n,c,h⟩:=h; exact ⟨_,h⟩
 case cpx=>obtain ⟨a,b,h⟩:=h; exact ⟨_,h⟩
 all_goals (obtain ⟨x,h⟩:=h; exact ⟨_,h⟩)
def S5:List Sc -> (List Value -> Prop) -> Prop
 | [],K=>K []
 | s :: ss,K=>Q7 s fun v=>S5 ss fun vs=>K (v :: vs)
theorem DZ:∀ {ss:List Sc} {K:List Value -> Prop},S5 ss K -> ∃ vs,K vs
 | [],_,h=>⟨[],h⟩
 | s :: ss,K,h=>by
  obtain ⟨v,h⟩:=C4 h
  obtain ⟨vs,h⟩:=DZ h
  exact ⟨_,h⟩
def EK (P:Program):Nat -> TypeId -> List Sc
 | 0,_=>[]
 | d + 1,t=>match P.underlying t with
  | some (.struct fs)=>fs.toList.flatMap fun f=>EK P d f.type
  | some (.array n e)=>(List.replicate n (EK P d e)).flatten
  | some u=>[S9 u]
  | none=>[]
def Hy (P:Program) (t:TypeId) (K:Value -> Prop):Prop:=match P.underlying t with
 | some (.struct _)=>S5 (EK P 6 t) fun vs=>K (.agg vs.toArray)
 | some (.array _ _)=>S5 (EK P 6 t) fun vs=>K (.agg vs.toArray)
 | some d=>Q7 (S9 d) K
 | none=>∃ v,K v
theorem BA {P:Program} {t:TypeId} {K:Value -> Prop} (h:Hy P t K):∃ v,K v:=by
 unfold Hy at h
 split at h
 ·obtain ⟨vs,h⟩:=DZ h; exact ⟨_,h⟩
 ·obtain ⟨vs,h⟩:=DZ h; exact ⟨_,h⟩
 ·exact C4 h
 ·exact h
def Pi (P:Program):List TypeId -> (List Value -> Prop) -> Prop
 | [],K=>K []
 | t :: ts,K=>Hy P t fun v=>Pi P ts fun vs=>K (v :: vs)
theorem D0 {P:Program}:∀ {ts:List TypeId} {K:List Value -> Prop},Pi P ts K -> ∃ vs,K vs
 | [],_,h=>⟨[],h⟩
 | t :: ts,K,h=>by
  obtain ⟨v,h⟩:=BA h
  obtain ⟨vs,h⟩:=D0 h
  exact ⟨_,h⟩
def Ht (P:Program) (t:TypeId) (v:Value) (K:Value -> Prop):Prop:=match P.underlying t with
 | some (.tuple ts)=>Pi P ts.toList fun vs=>v = .tuple vs.toArray /\ K (.tuple vs.toArray)
 | _=>Hy P t fun u=>v = u /\ K u
theorem EW {P:Program} {t:TypeId} {v:Value} {K:Value -> Prop} (h:Ht P t v K):K v:=by
 unfold Ht at h
 split at h
 ·obtain ⟨vs,hv,h⟩:=D0 h; rw [hv]; exact h
 ·obtain ⟨u,hv,h⟩:=BA h; rw [hv]; exact h
def A0 (I:A1) (S:SH) (a:Addr) (v:Value):Prop:=
 a.spot = none /\ ∃ cs e fz,(I.at_ a.block = some (.cells cs e fz) \/ (a.block,Obj.cells cs e fz) ∈ S) /\ cs[a.off]? = some v
theorem A0.run {I:A1} {S:SH} {a:Addr} {v:Value} {w:World} (h:A0 I S a v) (hw:Am I S w):w.cell? a = some v:=by
 obtain ⟨hs,cs,e,fz,hb,hv⟩:=h
 have:w.heap[a.block]? = some (.cells cs e fz):=by
  rcases hb with hb | hb
  ·exact hw.im _ _ hb
  ·exact hw.own _ hb
 simp [World.cell?,this,hs,hv]
def Rt (I:A1) (S:SH) (a:Addr):Nat -> List Sc -> (List Value -> Prop) -> Prop
 | _,[],K=>K []
 | i,s :: ss,K=>Q7 s fun v=>A0 I S (a.add i) v /\ Rt I S a (i + 1) ss fun vs=>K (v :: vs)
def P4 (P:Program) (t:TypeId) (I:A1) (S:SH) (a:Addr) (K:Value -> Prop):Prop:=match P.underlying t with
 | some (.struct _)=>(match Nat.beq (EK P 6 t).length (P.cellsOf t) with | true=>Rt I S a 0 (EK P 6 t) fun vs=>K (.agg vs.toArray) | false=>False)
 | some (.array _ _)=>(match Nat.beq (EK P 6 t).length (P.cellsOf t) with | true=>Rt I S a 0 (EK P 6 t) fun vs=>K (.agg vs.toArray) | false=>False)
 | some d=>Q7 (S9 d) fun v=>A0 I S a v /\ K v
 | none=>False
theorem Gy {I:A1} {S:SH} {a:Addr}:∀ {ss:List Sc} {i:Nat} {K:List Value -> Prop},Rt I S a i ss K -> ∃ vs,vs.length = ss.length /\ (∀ j v,vs[j]? = some v -> A0 I S (a.add (i + j)) v) /\ K vs
 | [],i,K,h=>⟨[],rfl,fun j v h=>by simp at h,h⟩
 | s :: ss,i,K,h=>by
  obtain ⟨v,hc,h⟩:=C4 h
  obtain ⟨vs,hl,hcs,h⟩:=Gy h
  refine ⟨v :: vs,by simp [hl],fun j u hj=>?_,h⟩
  cases j with
  | zero=>simp at hj; subst hj; exact hc
  | succ j=>simp at hj; rw [show i + (j + 1) = i + 1 + j by omega]; exact hcs j u hj
theorem Bx {P:Program} {w:World} {a:Addr}:∀ (vs:List Value) (i:Nat) (acc:Array Value),(∀ j v,vs[j]? = some v -> w.cell? (a.add (i + j)) = some v) ->
  (loadCellsFrom a i vs.length acc).run P w = .ok (acc ++ vs.toArray) w
 | [],i,acc,h=>by simp [loadCellsFrom]
 | v :: vs,i,acc,h=>by
  have h0:=h 0 v rfl
  have ih:=Bx (P:=P) vs (i + 1) (acc.push v) (fun j u hj=>by rw [show i + 1 + j = i + (j + 1) by omega]; exact h (j + 1) u (by simpa using hj))
  simp only [Nat.add_zero] at h0
  simp [loadCellsFrom,load,Sem.run,h0,ih]
def Hs:TypeDesc -> Bool
 | .struct _=>true
 | .array _ _=>true
 | _=>false
theorem BD {P:Program} {w:World} {t:TypeId} {d:TypeDesc} (h:P.underlying t = some d):(isAgg t).run P w = .ok (Hs d) w:=by
 have:(underlying t).run P w = .ok d w:=by simp [underlying,program,Sem.run,h]
 simp only [isAgg,Sem.run_bind,this,Result.andThen_ok]
 cases d <;> rfl
theorem AR {P:Program} {t:TypeId} {d:TypeDesc} (h:P.underlying t = some d):∃ i,P.info? t = some i /\ P.cellsOf t = i.size:=by
 unfold Program.underlying at h
 cases hi:P.info? t with
 | none=>rw [hi] at h; cases h
 | some i=>exact ⟨i,rfl,by simp [Program.cellsOf,hi]⟩
theorem Ai {P:Program} {w:World} {t:TypeId} {i:TypeInfo} (h:P.info? t = some i):(sizeOf t).run P w = .ok i.size w:=by
 simp [sizeOf,typeInfo,program,Sem.run,h]
theorem P4.run {P:Program} {t:TypeId} {I:A1} {S:SH} {a:Addr} {K:Value -> Prop} (h:P4 P t I S a K) :
  ∃ v,(∀ w,Am I S w -> (Instr.loadAt t (.pointer (some a))).run P w = .ok v w) /\ K v:=by
 have hload:∀ v w,w.cell? a = some v -> (load a).run P w = .ok v w:=fun v w hv=>by simp [load,Sem.run,hv]
 have big:∀ d,P.underlying t = some d -> Hs d = true -> (EK P 6 t).length = P.cellsOf t ->
   Rt I S a 0 (EK P 6 t) (fun vs=>K (.agg vs.toArray)) -> ∃ v,(∀ w,Am I S w -> (Instr.loadAt t (.pointer (some a))).run P w = .ok v w) /\ K v:=by
  intro d hd hag hlen hl
  obtain ⟨vs,hvl,hc,hK⟩:=Gy hl
  obtain ⟨i,hi,hsz⟩:=AR hd
  refine ⟨.agg vs.toArray,fun w hw=>?_,hK⟩
  have hr:=Bx (P:=P) (w:=w) (a:=a) vs 0 #[] (fun j v hj=>(hc j v hj).run hw)
  simp only [Instr.loadAt,Instr.sureAddr,loadVar,Sem.run_bind,Sem.run_pure,Result.andThen_ok,BD hd,hag,if_true,Ai hi,loadCells]
  rw [<- hsz,<- hlen,<- hvl,hr]
  simp
 unfold P4 at h
 split at h
 ·rename_i fs hd
  split at h
  ·rename_i hb; exact big _ hd rfl (Nat.eq_of_beq_eq_true hb) h
  ·exact h.elim
 ·rename_i n e hd
  split at h
  ·rename_i hb; exact big _ hd rfl (Nat.eq_of_beq_eq_true hb) h
  ·exact h.elim
 ·rename_i d h1 h2 hd
  obtain ⟨v,hc,hK⟩:=C4 h
  refine ⟨v,fun w hw=>?_,hK⟩
  have hag:Hs d = false:=by
   cases d <;> first | rfl | exact absurd rfl (h1 _) | exact absurd rfl (h2 _ _)
  simp only [Instr.loadAt,Instr.sureAddr,loadVar,Sem.run_bind,Sem.run_pure,Result.andThen_ok,BD hd,hag,Bool.false_eq_true,if_false,hload v w (hc.run hw)]
 ·exact h.elim
def NV (P:Program) (x:Operand) (t:TypeId) (I:A1) (S:SH) (a:Addr) (K:Value -> Prop):Prop:=match x with
 | .global _=>(match P.underlying t with
  | some (.interface _)=>∃ ti v,A0 I S a (.iface ti v) /\ K (.iface ti v)
  | _=>P4 P t I S a K)
 | _=>P4 P t I S a K
theorem NV.ld {P:Program} {x:Operand} {t:TypeId} {I:A1} {S:SH} {a:Addr} {K:Value -> Prop} (h:NV P x t I S a K):P4 P t I S a K:=by
 unfold NV at h
 split at h
 ·split at h
  ·rename_i ms hu
   obtain ⟨ti,v,hc,hK⟩:=h
   unfold P4
   rw [hu]
   exact ⟨_,hc,hK⟩
  ·exact h
 ·exact h
theorem NV.run {P:Program} {x:Operand} {t:TypeId} {I:A1} {S:SH} {a:Addr} {K:Value -> Prop} (h:NV P x t I S a K) :
  ∃ v,(∀ w,Am I S w -> (Instr.loadAt t (.pointer (some a))).run P w = .ok v w) /\ K v:=h.ld.run
def DH:Value -> Bool
 | .agg _ | .tuple _=>false
 | _=>true
def BN (cs:Array Value) (o:Nat):List Value -> Array Value
 | []=>cs
 | v :: vs=>BN (cs.setIfInBounds o v) (o + 1) vs
def Ad (S:SH) (a:Addr) (vs:List Value) (K:SH -> Prop):Prop:=
 ∃ i cs e fz,a.spot = none /\ S[i]? = some (a.block,.cells cs e fz) /\ a.off + vs.length <= cs.size /\ (fz.2 <= fz.1 \/ a.off + vs.length <= fz.1 \/ fz.2 <= a.off) /\ vs.all DH = true /\
  K (S.set i (a.block,.cells (BN cs a.off vs) e fz))
theorem Am.set {I:A1} {S:SH} {w:World} (h:Am I S w) {i:Nat} {b:Nat} {o o':Obj} (hi:S[i]? = some (b,o)) {w':World} (hos:w'.os = w.os) (ht:w'.tape = w.tape) (hout:w'.output = w.output)
  (hb:w'.heap[b]? = some o') (hrest:∀ b',b' ≠ b -> w'.heap[b']? = w.heap[b']?) (hdr:w'.drawn = w.drawn):Am I (S.set i (b,o')) w':=by
 have hil:i < S.length:=by
  rcases Nat.lt_or_ge i S.length with h | h
  ·exact h
  ·rw [List.getElem?_eq_none h] at hi; cases hi
 have hSi:S[i] = (b,o):=by rw [List.getElem?_eq_getElem hil] at hi; injection hi
 have hmap:(S.set i (b,o')).map (·.1) = S.map (·.1):=by
  rw [List.map_set]
  have:(S.map (·.1))[i]? = some b:=by simp [hi]
  apply List.ext_getElem?
  intro j
  rw [List.getElem?_set]
  split
  ·rename_i e; subst e; simp [hil,hSi]
  ·rfl
 have hIb:I.at_ b = none:=h.apart (b,o) (hSi ▸ List.getElem_mem hil)
 refine ⟨hos.trans h.os,ht.trans h.tape,hout.trans h.out,by rw [hdr]; exact h.dr,fun b' o'' hb'=>?_,fun p hp=>?_,fun p hp=>?_,by rw [hmap]; exact h.nodup⟩
 ·rw [hrest b' (fun e=>by subst e; rw [hIb] at hb'; cases hb')]; exact h.im _ _ hb'
 ·obtain ⟨j,hj,hjp⟩:=List.mem_iff_getElem.1 hp
  simp only [List.length_set] at hj
  rw [List.getElem_set] at hjp
  split at hjp
  ·subst hjp; exact hb
  ·rename_i hne
   have hpm:p ∈ S:=hjp ▸ List.getElem_mem hj
   have:p.1 ≠ b:=by
    intro e
    have h1:(S.map (·.1))[j]'(by simpa using hj) = p.1:=by simp [hjp]
    have h2:(S.map (·.1))[i]'(by simpa using hil) = b:=by simp [hSi]
    exact hne ((List.getElem_inj h.nodup).1 (h2.trans (e.symm.trans h1.symm)))
   rw [hrest _ this]; exact h.own p hpm
 ·have:p.1 ∈ (S.set i (b,o')).map (·.1):=List.mem_map_of_mem hp
  rw [hmap] at this
  obtain ⟨q,hq,he⟩:=List.mem_map.1 this
  rw [<- he]; exact h.apart q hq
theorem Br {P:Program} {b:Nat} {e:TypeId} {fz:Nat × Nat} {o:Nat}:∀ (vs:List Value) (i:Nat) (cs:Array Value) (w:World),w.heap[b]? = some (.cells cs e fz) -> o + i + vs.length <= cs.size ->
  (fz.2 <= fz.1 \/ o + i + vs.length <= fz.1 \/ fz.2 <= o + i) -> vs.all DH = true ->
  ∃ w',(storeCells ⟨b,o,none⟩ vs i).run P w = .ok () w' /\ w'.os = w.os /\ w'.tape = w.tape /\ w'.output = w.output /\ w'.heap[b]? = some (.cells (BN cs (o + i) vs) e fz) /\ (∀ b',b' ≠ b -> w'.heap[b']? = w.heap[b']?) /\ w'.drawn = w.drawn
 | [],i,cs,w,hb,_,_,_=>⟨w,by simp [storeCells],rfl,rfl,rfl,by simpa [BN] using hb,fun _ _=>rfl,rfl⟩
 | v :: vs,i,cs,w,hb,hlen,hfz,hone=>by
  simp only [List.length_cons] at hlen hfz
  simp only [List.all_cons,Bool.and_eq_true] at hone
  have ha:(⟨b,o,none⟩:Addr).add i = ⟨b,o + i,none⟩:=by
   unfold Addr.add; split
   ·rename_i h; subst h; rfl
   ·rfl
  have hc:w.cell? ⟨b,o + i,none⟩ = some (cs[o + i]'(by omega)):=by simp [World.cell?,hb]
  have hf:w.frozen? ⟨b,o + i,none⟩ = false:=by
   simp only [World.frozen?,hb,Bool.and_eq_false_iff,decide_eq_false_iff_not]; omega
  have hst:(store (⟨b,o + i,none⟩:Addr) v).run P w = .ok () (w.setCell ⟨b,o + i,none⟩ v):=by
   cases v <;> first | (simp [DH] at hone; done) | simp [store,Sem.run,hc,hf]
  have hlt:b < w.heap.size:=by
   rcases Nat.lt_or_ge b w.heap.size with h | h
   ·exact h
   ·rw [Array.getElem?_eq_none h] at hb; cases hb
  have hb':(w.setCell ⟨b,o + i,none⟩ v).heap[b]? = some (.cells (cs.setIfInBounds (o + i) v) e fz):=by
   simp only [World.setCell]
   rw [Array.getElem?_modify]
   simp [hb]
  have hr':∀ b',b' ≠ b -> (w.setCell ⟨b,o + i,none⟩ v).heap[b']? = w.heap[b']?:=by
   intro b' hne
   simp only [World.setCell]
   rw [Array.getElem?_modify,if_neg (fun e=>hne e.symm)]
  obtain ⟨w',h1,h2,h3,h4,h5,h6,h7⟩:=Br (P:=P) (o:=o) vs (i + 1) (cs.setIfInBounds (o + i) v) (w.setCell ⟨b,o + i,none⟩ v) hb' (by simp; omega) (by omega) hone.2
  refine ⟨w',?_,h2,h3,h4,?_,fun b' hne=>(h6 b' hne).trans (hr' b' hne),h7⟩
  ·simp only [storeCells,ha,Sem.run_bind,hst,Result.andThen_ok,h1]
  ·rw [h5]; rfl
theorem Ad.run {P:Program} {t:TypeId} {d:TypeDesc} {I:A1} {S:SH} {a:Addr} {v:Value} {K:SH -> Prop} {w:World} (hd:P.underlying t = some d) (hsz:v.cells.size = P.cellsOf t)
  (h:Ad S a v.cells.toList K) (hw:Am I S w):∃ T w',(Instr.storeAt t (.pointer (some a)) v).run P w = .ok () w' /\ Am I T w' /\ K T:=by
 obtain ⟨i,cs,e,fz,hs,hi,hlen,hfz,hone,hK⟩:=h
 obtain ⟨b,o,sp⟩:=a
 dsimp only at hs; subst hs
 have hb:=hw.own (b,.cells cs e fz) (List.mem_of_getElem? hi)
 obtain ⟨w',h1,h2,h3,h4,h5,h6,h7⟩:=Br (P:=P) (o:=o) v.cells.toList 0 cs w hb (by simpa using hlen) (by simpa using hfz) hone
 obtain ⟨inf,hinf,hcs⟩:=AR hd
 refine ⟨_,w',?_,hw.set hi h2 h3 h4 h5 h6 h7,hK⟩
 simp only [Instr.storeAt,Instr.sureAddr,storeVar,Sem.run_bind,Sem.run_pure,Result.andThen_ok,Ai hinf]
 rw [if_neg (by rw [hsz,hcs]; simp)]
 simpa using h1
def Rd (I:A1) (S:SH) (sz:Nat) (x:Value) (m:Nat) (vs:List Value):Prop:=
 ∃ A c,x = .slice A m c /\ vs.length = m * sz /\ ∀ j u,vs[j]? = some u -> ∃ a,A = some a /\ A0 I S (a.add j) u
theorem GX {v:Value} (h:DH v = true):v.oneCell' = true:=by cases v <;> first | rfl | simp [DH] at h
def F2 (P:Program) (fs:List Field):Array Value -> List (Nat × Value) -> Option (Array Value)
 | cs,[]=>some cs
 | cs,(i,v) :: r=>match fs[i]? with
  | none=>none
  | some f=>match Nat.beq v.cells.size (P.cellsOf f.type) && Nat.ble (f.offset + v.cells.size) cs.size with
   | true=>F2 P fs (BN cs f.offset v.cells.toList) r
   | false=>none
def EZ (sz:Nat):Array Value -> List (Nat × Value) -> Option (Array Value)
 | cs,[]=>some cs
 | cs,(i,v) :: r=>match Nat.beq v.cells.size sz && Nat.ble (i * sz + v.cells.size) cs.size with
  | true=>EZ sz (BN cs (i * sz) v.cells.toList) r
  | false=>none
def Q6 (l:Fr) (parts:Array (Nat × Operand)):List (Nat × Value):=parts.toList.map fun p=>(p.1,ev l p.2)
def AX (n:Nat) (z:List Value):List Value:=match n with
 | 0=>[]
 | n + 1=>z ++ AX n z
theorem E1:∀ (vs:List Value) (k off:Nat) (cs:Array Value),(vs.zipIdx k).foldl (fun cs (p:Value × Nat)=>cs.setIfInBounds (off + p.2) p.1) cs = BN cs (off + k) vs
 | [],_,_,_=>rfl
 | v :: vs,k,off,cs=>by
  simp only [List.zipIdx_cons,List.foldl_cons,BN]
  rw [E1 vs (k + 1) off]; rfl
theorem F3 (v:Value) (off:Nat) (cs:Array Value):v.cells.zipIdx.foldl (fun cs (x:Value × Nat)=>match x with | (c,j)=>cs.setIfInBounds (off + j) c) cs = BN cs off v.cells.toList:=by
 rw [<- Array.foldl_toList]
 simp only [Array.toList_zipIdx]
 exact E1 _ 0 off cs
theorem GS {P:Program} {fs:List Field} {place:Nat -> Option (Nat × Nat)} (hp:∀ i f,fs[i]? = some f -> place i = some (f.offset,P.cellsOf f.type)) :
  ∀ (parts:List (Nat × Value)) (cs out:Array Value),F2 P fs cs parts = some out -> Instr.fill place cs parts = some out
 | [],cs,out,h=>by simpa [F2,Instr.fill] using h
 | (i,v) :: r,cs,out,h=>by
  simp only [F2] at h
  split at h
  ·cases h
  ·rename_i f hf
   split at h
   ·rename_i hb
    simp only [Bool.and_eq_true] at hb
    have h1:=Nat.eq_of_beq_eq_true hb.1
    have h2:=Nat.le_of_ble_eq_true hb.2
    simp only [Instr.fill,hp i f hf]
    have hc:(v.cells.size ≠ P.cellsOf f.type || decide (f.offset + v.cells.size > cs.size)) = false:=by simp [h1]; omega
    rw [if_neg (by rw [hc]; simp)]
    rw [F3]
    exact GS hp r _ out h
   ·cases h
theorem GR {sz:Nat}:∀ (parts:List (Nat × Value)) (cs out:Array Value),EZ sz cs parts = some out -> Instr.fill (fun i=>some (i * sz,sz)) cs parts = some out
 | [],cs,out,h=>by simpa [EZ,Instr.fill] using h
 | (i,v) :: r,cs,out,h=>by
  simp only [EZ] at h
  split at h
  ·rename_i hb
   simp only [Bool.and_eq_true] at hb
   have h1:=Nat.eq_of_beq_eq_true hb.1
   have h2:=Nat.le_of_ble_eq_true hb.2
   simp only [Instr.fill]
   have hc:(v.cells.size ≠ sz || decide (i * sz + v.cells.size > cs.size)) = false:=by simp [h1]; omega
   rw [if_neg (by rw [hc]; simp)]
   rw [F3]
   exact GR r _ out h
  ·cases h
theorem GZ:∀ (n:Nat) (z:List Value) (i:Nat),i < n * z.length -> (AX n z)[i]? = some (z[i % z.length]!)
 | 0,z,i,h=>by simp at h
 | n + 1,z,i,h=>by
  rw [Nat.succ_mul] at h
  simp only [AX]
  have hz:0 < z.length:=by
   rcases Nat.eq_zero_or_pos z.length with e | e
   ·rw [e] at h; simp at h
   ·exact e
  rw [List.getElem?_append]
  split
  ·rename_i hlt; rw [Nat.mod_eq_of_lt hlt]; simp [hlt]
  ·rename_i hge
   rw [GZ n z (i - z.length) (by omega)]
   rw [Nat.mod_eq_sub_mod (by omega:z.length <= i)]
theorem AU:∀ (n:Nat) (z:List Value),(AX n z).length = n * z.length
 | 0,z=>by simp [AX]
 | n + 1,z=>by rw [Nat.succ_mul]; simp only [AX,List.length_append,AU n z]; omega
theorem Fw (n:Nat) (z:Array Value):((Array.range (n * z.size)).map fun i=>z[i % z.size]!) = (AX n z.toList).toArray:=by
 apply Array.ext_getElem?
 intro i
 simp only [Array.getElem?_map,List.getElem?_toArray]
 rcases Nat.lt_or_ge i (n * z.size) with h | h
 ·have h0:0 < z.size:=by
   rcases Nat.eq_zero_or_pos z.size with e | e
   ·rw [e] at h; simp at h
   ·exact e
  have h1:=Nat.mod_lt i h0
  rw [GZ n z.toList i (by simpa using h),Array.getElem?_range,if_pos h,Option.map_some]
  rw [getElem!_pos z _ h1,getElem!_pos z.toList _ (by simpa using h1)]
  simp
 ·rw [List.getElem?_eq_none (by rw [AU]; simpa using h)]
  simp [h]
def P6 (td:Option TypeDesc) (sz:Nat) (z:List Value) (I:A1) (S:SH) (x:Value) (m:Nat) (vs:List Value):Prop:=match td with
 | some .string=>∃ s,x = .string s /\ m = s.size /\ vs = byteCells s /\ sz = 1
 | some (.int _)=>∃ k,x = .int k (m:Int) /\ vs = AX m z
 | some (.slice _)=>Rd I S sz x m vs /\ vs.all DH = true
 | _=>False
def AA (e:TypeId) (sz bytes:Nat) (z:List Value) (td:Option TypeDesc) (I:A1) (S:SH) (s x:Value) (K:Option Addr -> Nat -> Nat -> SH -> Prop):Prop:=
 ∃ S' G S'' A n cap m xs vs,S.Perm S' /\ S'.Perm (G ++ S'') /\ s = .slice A n cap /\ P6 td sz z I S x m vs /\ n + m <= maxLen /\ (n + m) * bytes <= 140737488355328 /\
  (n + m <= cap -> (vs = [] /\ K A (n + m) cap S') \/ ∃ a,A = some a /\ Ad S' (a.add (n * sz)) vs fun T=>K A (n + m) cap T) /\
  (cap < n + m -> Rd I S sz s n xs /\ ∀ g c,n + m <= c -> c <= maxLen -> K (some ⟨g,0,none⟩) (n + m) c ((g,.cells (xs ++ vs ++ AX (c - (n + m)) z).toArray e (0,0)) :: S''))
def LL (sz:Nat) (I:A1) (S:SH) (d x:Value) (K:Nat -> SH -> Prop):Prop:=match d,x with
 | .slice A dl _,.slice B sl c=>∃ vs,Rd I S sz (.slice B (min sl dl) c) (min sl dl) vs /\ vs.all DH = true /\ ((vs = [] /\ K (min sl dl) S) \/ ∃ a,A = some a /\ Ad S a vs fun T=>K (min sl dl) T)
 | .slice A dl _,.string s=>(min s.size dl = 0 /\ K 0 S) \/ ∃ a,A = some a /\ Ad S a (byteCells (s.extract 0 (min s.size dl))) fun T=>K (min s.size dl) T
 | _,_=>False
theorem CN {P:Program} {w w':World} {t tx ty e:TypeId} {i:TypeInfo} {A:Option Addr} {n cap m:Nat} {x:Value} {vs:List Value} (ht:P.underlying t = some (.slice e)) (hi:P.info? e = some i)
  (hs:Src P i.size tx x m vs w) (hroom:n + m <= cap) (hst:∀ a,A = some a -> (storeCells (a.add (n * i.size)) vs).run P w = .ok () w') (hno:A = none -> w' = w) :
  (Builtin.append_ #[t,tx] ty #[.slice A n cap,x]).run P w = .ok (.slice A (n + m) cap) w':=by
 rcases hs.kind with ⟨e',hk⟩ | hk
 all_goals
  cases A with
  | none=>rw [hno rfl]; simp [Builtin.append_,run_underlying ht,run_underlying hk,sizeOf,typeInfo,hi,hs.len,hroom,hs.cells]
  | some a=>
   have:=hst a rfl
   simp [Builtin.append_,run_underlying ht,run_underlying hk,sizeOf,typeInfo,hi,hs.len,hroom,hs.cells,this]
theorem AL (z:Array Value) (m:Nat):Builtin.zeroCells z m = (AX m z.toList).toArray:=Fw m z
theorem AM (k:IntKind) (j:Int):asInt (.int k j) = pure j:=rfl
theorem N8 {x:Int} (h1 : -9223372036854775808 <= x) (h2:x <= 9223372036854775807):IntKind.wrap .i64 x = x:=by
 simp only [IntKind.wrap,IntKind.bits,IntKind.signed]; simp; omega
theorem Fe {P:Program} {w w':World} {t tx ty e:TypeId} {i:TypeInfo} {z:Value} {k k':IntKind} {A:Option Addr} {n cap m:Nat} (ht:P.underlying t = some (.slice e)) (hi:P.info? e = some i) (hz:i.zero = some z) (hzs:z.cells.size = i.size)
  (hk:P.underlying tx = some (.int k')) (h63:m <= 9223372036854775807) (hby:m * i.bytes <= 281474976710656) (hroom:n + m <= cap)
  (hst:∀ a,A = some a -> (storeCells (a.add (n * i.size)) (AX m z.cells.toList)).run P w = .ok () w') (hno:A = none -> w' = w) :
  (Builtin.append_ #[t,tx] ty #[.slice A n cap,.int k (m:Int)]).run P w = .ok (.slice A (n + m) cap) w':=by
 have hw:IntKind.wrap .i64 (m:Int) = (m:Int):=N8 (by omega) (by omega)
 have h1 : ¬ ((m:Int) < 0):=by omega
 have h2 : ¬ (281474976710656 < (m:Int) * (i.bytes:Int)):=by
  have:((m * i.bytes:Nat):Int) <= ((281474976710656:Nat):Int):=Int.ofNat_le.2 hby
  rw [Int.natCast_mul] at this; omega
 have hz0:m * i.size = 0 -> AX m z.cells.toList = []:=fun h=>List.eq_nil_of_length_eq_zero (by rw [AU]; simpa [hzs] using h)
 by_cases h0:m * i.size = 0
 ·have hn:=hz0 h0
  rw [hn] at hst
  have h0':(m = 0 \/ i.size = 0):=Nat.mul_eq_zero.1 h0
  cases A with
  | none=>rw [hno rfl]; simp [Builtin.append_,run_underlying ht,run_underlying hk,sizeOf,typeInfo,hi,AM,hw,h1,h2,hroom,h0',h0,zeroValue,hz]
  | some a=>
   have:=hst a rfl
   have hw':w' = w:=by simpa [storeCells] using this.symm
   subst hw'
   simp [Builtin.append_,run_underlying ht,run_underlying hk,sizeOf,typeInfo,hi,AM,hw,h1,h2,hroom,h0',h0,zeroValue,hz,storeCells]
 ·have h0' : ¬ (m = 0 \/ i.size = 0):=fun h=>h0 (Nat.mul_eq_zero.2 h)
  cases A with
  | none=>rw [hno rfl]; simp [Builtin.append_,run_underlying ht,run_underlying hk,sizeOf,typeInfo,hi,AM,hw,h1,h2,hroom,h0',h0,zeroValue,hz]
  | some a=>
   have:=hst a rfl
   simp [Builtin.append_,run_underlying ht,run_underlying hk,sizeOf,typeInfo,hi,AM,hw,h1,h2,hroom,h0',h0,zeroValue,hz,AL,this]
theorem Fd {P:Program} {w:World} {t tx ty e:TypeId} {i:TypeInfo} {z:Value} {k k':IntKind} {A:Option Addr} {n cap m:Nat} {olds:List Value} (ht:P.underlying t = some (.slice e)) (hi:P.info? e = some i) (hz:i.zero = some z) (hzs:z.cells.size = i.size)
  (hk:P.underlying tx = some (.int k')) (hold:(Builtin.firstCells i.size n (.slice A n cap)).run P w.drew = .ok olds.toArray w.drew) (hg:cap < n + m) (h63:((n + m:Nat):Int) <= 9223372036854775807) (hby:m * i.bytes <= 281474976710656)
  (hfit:Builtin.nextslicecap (n + m) cap * i.bytes <= 281474976710656) :
  (Builtin.append_ #[t,tx] ty #[.slice A n cap,.int k (m:Int)]).run P w =
   .ok (.slice (some ⟨w.heap.size,0,none⟩) (n + m) (grownCap w (n + m) cap e)) (w.drew.alloc (.cells ((olds ++ AX m z.cells.toList).toArray ++ Builtin.zeroCells z.cells (grownCap w (n + m) cap e - (n + m))) e)):=by
 have hw:IntKind.wrap .i64 (m:Int) = (m:Int):=N8 (by omega) (by omega)
 have h1 : ¬ ((m:Int) < 0):=by omega
 have h2 : ¬ (281474976710656 < (m:Int) * (i.bytes:Int)):=by
  have:((m * i.bytes:Nat):Int) <= ((281474976710656:Nat):Int):=Int.ofNat_le.2 hby
  rw [Int.natCast_mul] at this; omega
 have hn : ¬ (n + m <= cap):=by omega
 have h63' : ¬ (9223372036854775807 < ((n:Int) + (m:Int))):=by omega
 have h48' : ¬ (281474976710656 < Builtin.nextslicecap (n + m) cap * i.bytes):=by omega
 have hz0:m * i.size = 0 -> AX m z.cells.toList = []:=fun h=>List.eq_nil_of_length_eq_zero (by rw [AU]; simpa [hzs] using h)
 by_cases h0:m * i.size = 0
 ·have hr:=hz0 h0
  rw [hr]
  have h0':(m = 0 \/ i.size = 0):=Nat.mul_eq_zero.1 h0
  (simp [Builtin.append_,run_underlying ht,run_underlying hk,sizeOf,typeInfo,zeroValue,hi,hz,AM,hw,h1,h2,hn,h63',h48',Question.forced,hold,newRow,grownCap,h0',h0,AL])
 ·have h0' : ¬ (m = 0 \/ i.size = 0):=fun h=>h0 (Nat.mul_eq_zero.2 h)
  simp [Builtin.append_,run_underlying ht,run_underlying hk,sizeOf,typeInfo,zeroValue,hi,hz,AM,hw,h1,h2,hn,h63',h48',Question.forced,hold,newRow,grownCap,h0',h0,AL]
theorem Rd.first {P:Program} {I:A1} {S:SH} {sz:Nat} {A:Option Addr} {n c:Nat} {xs:List Value} (h:Rd I S sz (.slice A n c) n xs) {w:World} (hw:Am I S w):(Builtin.firstCells sz n (.slice A n c)).run P w = .ok xs.toArray w:=by
 obtain ⟨A',c',he,hl,hrd⟩:=h
 injection he with h1 h2 h3; subst h1; subst h3
 cases A with
 | none=>
  have hm:xs = []:=by
   rcases Nat.eq_zero_or_pos xs.length with h0 | h0
   ·exact List.eq_nil_of_length_eq_zero h0
   ·obtain ⟨a,ha,_⟩:=hrd 0 xs[0] (List.getElem?_eq_getElem h0); cases ha
  subst hm; rfl
 | some a=>
  exact run_firstCells_some w sz n a n c xs hl fun j u hj=>by
   obtain ⟨a',ha,hc⟩:=hrd j u hj
   injection ha with ha; subst ha
   exact hc.run hw
theorem Rd.src {P:Program} {I:A1} {S:SH} {sz:Nat} {x:Value} {m:Nat} {vs:List Value} {tx e':TypeId} (hk:P.underlying tx = some (.slice e')) (h:Rd I S sz x m vs) (h1:vs.all DH = true) {w:World} (hw:Am I S w) (hp:0 < sz):Src P sz tx x m vs w:=by
 obtain ⟨A,c,rfl,hl,hrd⟩:=h
 cases A with
 | none=>
  have hm:vs = []:=by
   rcases Nat.eq_zero_or_pos vs.length with h0 | h0
   ·exact List.eq_nil_of_length_eq_zero h0
   ·obtain ⟨a,ha,_⟩:=hrd 0 vs[0] (List.getElem?_eq_getElem h0); cases ha
  subst hm
  have:m = 0:=by
   rcases Nat.mul_eq_zero.1 hl.symm with h | h
   ·exact h
   ·omega
  subst this
  exact Src.ofNil w hk c
 | some a=>
  exact Src.ofSlice w hk a m c vs hl (fun j u hj=>by
   obtain ⟨a',ha,hc⟩:=hrd j u hj
   injection ha with ha; subst ha
   exact hc.run hw) (fun u hu=>GX (List.all_eq_true.1 h1 u hu))
theorem Ad.runC {P:Program} {I:A1} {S:SH} {a:Addr} {vs:List Value} {K:SH -> Prop} {w:World} (h:Ad S a vs K) (hw:Am I S w):∃ T w',(storeCells a vs).run P w = .ok () w' /\ Am I T w' /\ K T:=by
 obtain ⟨i,cs,e,fz,hs,hi,hlen,hfz,hone,hK⟩:=h
 obtain ⟨b,o,sp⟩:=a
 dsimp only at hs; subst hs
 have hb:=hw.own (b,.cells cs e fz) (List.mem_of_getElem? hi)
 obtain ⟨w',h1,h2,h3,h4,h5,h6,h7⟩:=Br (P:=P) (o:=o) vs 0 cs w hb (by simpa using hlen) (by simpa using hfz) hone
 exact ⟨_,w',h1,hw.set hi h2 h3 h4 h5 h6 h7,hK⟩
theorem AA.run {P:Program} {t tx ty e:TypeId} {i:TypeInfo} {z:Value} {I:A1} {S:SH} {s x:Value} {K:Option Addr -> Nat -> Nat -> SH -> Prop} {w:World} (ht:P.underlying t = some (.slice e)) (hi:P.info? e = some i)
  (hz:i.zero = some z) (hzs:z.cells.size = i.size) (hsz:0 < i.size) (h:AA e i.size i.bytes z.cells.toList (P.underlying tx) I S s x K) (hw:Am I S w) :
  ∃ p n c w' T,(Builtin.append_ #[t,tx] ty #[s,x]).run P w = .ok (.slice p n c) w' /\ Am I T w' /\ K p n c T:=by
 obtain ⟨S',G,S'',A,n,cap,m,xs,vs,hp,hp2,rfl,hsrc,hmx,hby,hroom,hgrow⟩:=h
 have hw1:=hw.perm hp
 have hm63:n + m <= 9223372036854775807:=by simp only [maxLen] at hmx; omega
 have room:∀ (w':World),n + m <= cap -> (∀ a,A = some a -> (storeCells (a.add (n * i.size)) vs).run P w = .ok () w') -> (A = none -> w' = w) -> (Builtin.append_ #[t,tx] ty #[.slice A n cap,x]).run P w = .ok (.slice A (n + m) cap) w':=by
  intro w' hr hst hno
  unfold P6 at hsrc
  split at hsrc
  ·rename_i hk
   obtain ⟨b,rfl,rfl,rfl,h1⟩:=hsrc
   exact CN ht hi (by rw [h1]; exact Src.ofString w hk b) hr hst hno
  ·rename_i k' hk
   obtain ⟨k,rfl,rfl⟩:=hsrc
   refine Fe ht hi hz hzs hk (by omega) ?_ hr hst hno
   have:=Nat.mul_le_mul_right i.bytes (show m <= n + m by omega); omega
  ·rename_i e' hk
   exact CN ht hi (hsrc.1.src hk hsrc.2 hw hsz) hr hst hno
  ·exact hsrc.elim
 by_cases hr:n + m <= cap
 ·rcases hroom hr with ⟨hv,hK⟩ | ⟨a,rfl,hst⟩
  ·subst hv
   exact ⟨_,_,_,w,S',room w hr (fun a _=>by simp [storeCells]) (fun _=>rfl),hw1,hK⟩
  ·obtain ⟨T,w',h1,h2,h3⟩:=hst.runC (P:=P) hw1
   exact ⟨_,_,_,w',T,room w' hr (fun a' ha=>by injection ha with ha; subst ha; exact h1) (fun h=>by cases h),h2,h3⟩
 ·obtain ⟨hold,hK⟩:=hgrow (by omega)
  have hfit:Builtin.nextslicecap (n + m) cap * i.bytes <= 281474976710656:=growslice_fits (by omega) hby
  have ho:=hold.first (P:=P) (w:=w.drew) hw.drew
  have hge:=grownCap_ge w (n + m) cap e
  have hcm:grownCap w (n + m) cap e <= maxLen:=grownCap_le_maxLen w (n + m) cap e hmx
  have hres:(Builtin.append_ #[t,tx] ty #[.slice A n cap,x]).run P w = .ok (.slice (some ⟨w.heap.size,0,none⟩) (n + m) (grownCap w (n + m) cap e)) (w.drew.alloc (.cells ((xs ++ vs).toArray ++ Builtin.zeroCells z.cells (grownCap w (n + m) cap e - (n + m))) e)):=by
   unfold P6 at hsrc
   split at hsrc
   ·rename_i hk
    obtain ⟨b,rfl,rfl,rfl,h1⟩:=hsrc
    exact run_append_grow_src w t tx ty e i z ht hi hz A n cap xs ho (.string b) _ _ (by rw [h1]; exact Src.ofString w hk b) (by omega) (by omega) hfit
   ·rename_i k' hk
    obtain ⟨k,rfl,rfl⟩:=hsrc
    refine Fd ht hi hz hzs hk ho (by omega) (by omega) ?_ hfit
    have:=Nat.mul_le_mul_right i.bytes (show m <= n + m by omega); omega
   ·rename_i e' hk
    exact run_append_grow_src w t tx ty e i z ht hi hz A n cap xs ho x m vs (hsrc.1.src hk hsrc.2 hw hsz) (by omega) (by omega) hfit
   ·exact hsrc.elim
  refine ⟨_,_,_,_,_,hres,(hw1.perm hp2).drop.drew.new _,?_⟩
  have:=hK w.heap.size (grownCap w (n + m) cap e) hge hcm
  rw [AL,List.append_toArray]
  exact this
theorem LL.run {P:Program} {dT sT ty e:TypeId} {i:TypeInfo} {I:A1} {S:SH} {d x:Value} {K:Nat -> SH -> Prop} {w:World} (hu:P.underlying dT = some (.slice e)) (hi:P.info? e = some i) (h:LL i.size I S d x K) (hw:Am I S w) :
  ∃ (m:Nat) (w':World) (T:SH),(Builtin.copy_ #[dT,sT] ty #[d,x]).run P w = .ok (.int .i64 (m:Int)) w' /\ Am I T w' /\ K m T:=by
 unfold LL at h
 split at h
 ·rename_i A dl dc B sl c
  obtain ⟨vs,hrd,h1,hK⟩:=h
  have hf:(Builtin.firstCells i.size (min sl dl) (.slice B sl c)).run P w = .ok vs.toArray w:=by
   have:=hrd.first (P:=P) hw
   cases B <;> exact this
  rcases hK with ⟨rfl,hK⟩ | ⟨a,rfl,hst⟩
  ·refine ⟨_,w,S,?_,hw,hK⟩
   cases A <;> simp [Builtin.copy_,run_underlying hu,Builtin.lenOf,Ai hi,hf,storeCells,goInt]
  ·obtain ⟨T,w',h1,h2,h3⟩:=hst.runC (P:=P) hw
   refine ⟨_,w',T,?_,h2,h3⟩
   simp [Builtin.copy_,run_underlying hu,Builtin.lenOf,Ai hi,hf,h1,goInt]
 ·rename_i A dl dc s
  have hf:∀ n w,(Builtin.firstCells i.size n (.string s)).run P w = .ok (byteCells (s.extract 0 n)).toArray w:=by
   intro n w
   simp only [Builtin.firstCells,Sem.run_pure,byteCells]
   congr 1
   apply Array.ext'
   simp
  rcases h with ⟨h0,hK⟩ | ⟨a,rfl,hst⟩
  ·refine ⟨0,w,S,?_,hw,hK⟩
   have he:byteCells (s.extract 0 0) = []:=by simp [byteCells]
   have he2:byteCells ByteArray.empty = []:=rfl
   have h0':Nat.min s.size dl = 0:=h0
   cases A <;> simp [Builtin.copy_,run_underlying hu,Builtin.lenOf,Ai hi,h0',hf,he,he2,storeCells,goInt]
  ·obtain ⟨T,w',h1,h2,h3⟩:=hst.runC (P:=P) hw
   refine ⟨_,w',T,?_,h2,h3⟩
   have hf':=hf (min s.size dl) w
   simp [Builtin.copy_,run_underlying hu,Builtin.lenOf,Ai hi,hf',h1,goInt]
 ·exact h.elim
def Bw (o:Option Value) (dflt ub:Nat) (K:Nat -> Prop):Prop:=match o with
 | none=>K dflt
 | some (.int _ i)=>0 <= i /\ i <= (ub:Int) /\ K i.toNat
 | _=>False
def N2 (a:Option Addr) (m l size:Nat):Option Addr:=if m = l then a else a.map (·.add (l * size))
theorem Bw.run {P:Program} {o:Option Value} {d ub:Nat} {K:Nat -> Prop} {code:BoundsCode} (h:Bw o d ub K) :
  ∃ n,(∀ w,(match o with | some v=>Instr.sliceBound v ub code | none=>pure d).run P w = .ok n w) /\ K n:=by
 unfold Bw at h
 split at h
 ·exact ⟨d,fun _=>rfl,h⟩
 ·rename_i k i
  exact ⟨i.toNat,fun w=>by simp [Instr.sliceBound,asIntOf,h.1,h.2.1],h.2.2⟩
 ·exact h.elim
abbrev A6 (p:Option Addr) (K:Addr -> Prop):Prop:=match p with
 | some a=>K a
 | none=>False
theorem Ch {p:Option Addr} {K:Addr -> Prop} (h:A6 p K):∃ a,p = some a /\ K a:=by
 cases p with
 | none=>exact h.elim
 | some a=>exact ⟨a,rfl,h⟩
abbrev RM (p:Option Nat) (K:Nat -> Prop):Prop:=match p with
 | some m=>K m
 | none=>False
theorem M5 {p:Option Nat} {K:Nat -> Prop} (h:RM p K):∃ a,p = some a /\ K a:=by
 cases p with
 | none=>exact h.elim
 | some a=>exact ⟨a,rfl,h⟩
def C6 (k:IntKind) (x y:Int):Int:=k.wrap ((BitVec.ofInt k.bits x &&& BitVec.ofInt k.bits y).toNat:Int)
def LB (k:IntKind) (x y:Int):Int:=k.wrap ((BitVec.ofInt k.bits x ||| BitVec.ofInt k.bits y).toNat:Int)
def Bq (P:Program) (f:FuncId):Bool:=match P.funcs[f]? with
 | some fn => !(fn.name == "runtime.NumGoroutine") && fn.body.isSome
 | none=>false
def DW (P:Program) (f:FuncId) (args:Array Value) (I:A1) (S:SH) (R:Value -> A1 -> SH -> Prop):Prop:=
 ∀ w,Am I S w -> ∃ v w' J T,(callFunc f args).run P w = .ok (.value v) w' /\ I.le J /\ Am J T w' /\ R v J T
def B9:Value -> Option Bool
 | .nilIface=>some true
 | .iface _ _=>some false
 | _=>none
def Hh (k:IntKind):Int -> List Value -> Option Int
 | x,[]=>some x
 | x,.int _ y :: r=>Hh k (if y > x then y else x) r
 | _,_=>none
def Hi (k:IntKind):Int -> List Value -> Option Int
 | x,[]=>some x
 | x,.int _ y :: r=>Hi k (if y < x then y else x) r
 | _,_=>none
def Sh:TypeDesc -> Value -> Value -> Option Bool
 | .bool,.bool a,.bool b=>some (a == b)
 | .int _,.int k a,.int k' b=>(match decide (k = k') with | true=>some (a == b) | false=>none)
 | .string,.string a,.string b=>some (a == b)
 | _,_,_=>none
def Ea (P:Program) (t:TypeId) (xs:Array Value) (off:Nat):Option Value:=match P.underlying t with
 | none=>none
 | some d=>(match Hs d with
  | true=>some (.agg (xs.extract off (off + P.cellsOf t)))
  | false=>xs[off]?)
def M1 (P:Program) (r:TypeId -> Value -> Value -> Option Bool) (xs ys:Array Value):List Field -> Option Bool
 | []=>some true
 | f :: fs => match decide (f.name = "_"), Ea P f.type xs f.offset, Ea P f.type ys f.offset with
  | false,some x,some y=>(match r f.type x y,M1 P r xs ys fs with | some b,some c=>some (b && c) | _,_=>none)
  | _,_,_=>none
def PJ (P:Program):Nat -> TypeId -> Value -> Value -> Option Bool
 | 0,_,_,_=>none
 | n + 1,t,x,y=>match P.underlying t with
  | none=>none
  | some d=>(match d,x,y with
   | .struct fs,.agg xs,.agg ys=>(match P.stoodInHeld t with
    | false=>M1 P (PJ P n) xs ys fs.toList
    | true=>none)
   | d,x,y=>Sh d x y)
def Mi (P:Program) (op:BinOp) (t:TypeId) (xo yo:Operand) (x y:Value) (K:Value -> Prop):Prop:=
 match op,x,y with
 | .quo,.int k a,.int k' b=>A2 (decide (b = 0)) False (match decide (k = k') with | true=>K (.int k (k.wrap (a.tdiv b))) | false=>False)
 | .rem,.int k a,.int k' b=>A2 (decide (b = 0)) False (match decide (k = k') with | true=>K (.int k (a.tmod b)) | false=>False)
 | .shl,.int k a,.int _ b=>A2 (decide (b < 0)) False (K (.int k (k.wrap (a * 2 ^ (min b.toNat k.bits)))))
 | .shr,.int k a,.int _ b=>A2 (decide (b < 0)) False (K (.int k (a.fdiv (2 ^ (min b.toNat k.bits)))))
 | .add,.string a,.string b=>((a.size + b.size:Nat):Int) <= 9223372036854775807 /\ K (.string (a ++ b))
 | .eql,.pointer p,.pointer none=>(match P.underlying t with | some (.pointer _)=>K (.bool p.isNone) | _=>False)
 | .neq,.pointer p,.pointer none=>(match P.underlying t with | some (.pointer _)=>K (.bool (!p.isNone)) | _=>False)
 | .eql,.pointer p,.pointer (some b)=>(match P.underlying t with | some (.pointer e)=>(match Nat.beq (P.cellsOf e) 0 with | false=>p = some b /\ K (.bool true) | true=>False) | _=>False)
 | .neq,.pointer p,.pointer (some b)=>(match P.underlying t with | some (.pointer e)=>(match Nat.beq (P.cellsOf e) 0 with | false=>p = some b /\ K (.bool false) | true=>False) | _=>False)
 | .eql,.slice p _ _,.slice none _ _=>(match P.underlying t with | some (.slice _)=>K (.bool p.isNone) | _=>False)
 | .neq,.slice p _ _,.slice none _ _=>(match P.underlying t with | some (.slice _)=>K (.bool (!p.isNone)) | _=>False)
 | .eql,.map p,.map none=>(match P.underlying t with | some (.map _ _)=>K (.bool p.isNone) | _=>False)
 | .neq,.map p,.map none=>(match P.underlying t with | some (.map _ _)=>K (.bool (!p.isNone)) | _=>False)
 | .eql,.agg xs,.agg ys=>(match P.underlying t with
  | some (.struct fs)=>(match !P.eqGuardType P.depth t,PJ P 4 t (.agg xs) (.agg ys) with | true,some b=>K (.bool b) | _,_=>False)
  | _=>False)
 | .neq,.agg xs,.agg ys=>(match P.underlying t with
  | some (.struct fs)=>(match !P.eqGuardType P.depth t,PJ P 4 t (.agg xs) (.agg ys) with | true,some b=>K (.bool (!b)) | _,_=>False)
  | _=>False)
 | op,x,y=>(match AB P (do eqGuard op t xo yo x y; binOp op t x y) with | some v=>K v | none=>False)
def PH (P:Program) (x:Value) (ty:TypeId) (vy:Value):Option Bool:=match x with
 | .nilIface=>some false
 | .iface tx vx=>(match Nat.beq tx ty with
  | false=>some false
  | true=>(match (P.info? ty).map (·.comparable),P.underlying ty,vx,vy with
   | some true,some (.int _),.int k a,.int k' b=>(match decide (k = k') with | true=>some (a == b) | false=>none)
   | _,_,_,_=>none))
 | _=>none
def Mj (P:Program) (op:BinOp) (t:TypeId) (xo yo:Operand) (x y:Value) (K:Value -> Prop):Prop:=
 match y with
 | .nilIface=>(match op with
  | .eql=>(match yo,P.underlying t with | .const _,some (.interface _)=>∃ b,B9 x = some b /\ K (.bool b) | _,_=>False)
  | .neq=>(match yo,P.underlying t with | .const _,some (.interface _)=>∃ b,B9 x = some b /\ K (.bool !b) | _,_=>False)
  | _=>False)
 | .iface ty vy=>(match op with
  | .eql=>(match P.underlying t with | some (.interface _)=>∃ b,PH P x ty vy = some b /\ K (.bool b) | _=>False)
  | .neq=>(match P.underlying t with | some (.interface _)=>∃ b,PH P x ty vy = some b /\ K (.bool !b) | _=>False)
  | _=>False)
 | y=>Mi P op t xo yo x y K
def E4:TypeDesc -> Bool
 | .int _ | .string | .bool=>true
 | _=>false
def Rp (ok:Bool) (v:Value) (b:Bool):Value:=match ok with | true=>.tuple #[v,.bool b] | false=>v
def LS (I:A1) (S:SH) (r:Nat) (es:Array MapEntry) (clock:Nat):Prop:=I.at_ r = some (.map es clock) \/ (r,Obj.map es clock) ∈ S
def EV (I:A1) (S:SH) (m:Option Nat) (kd:TypeDesc) (key z v:Value) (b:Bool):Prop:=∃ es:Array MapEntry,(match m with | none=>es = #[] | some r=>∃ clock,LS I S r es clock) /\
 ((∃ i,Instr.findNow kd key es.toList 0 = some (some (i,v)) /\ b = true) \/ (Instr.findNow kd key es.toList 0 = some none /\ v = z /\ b = false))
def Fa (I:A1) (S:SH) (m:Option Nat) (c:Nat):Prop:=match m with | none=>c = 0 | some r=>∃ es clock,LS I S r es clock /\ c = es.size
def Fs (kd:TypeDesc) (key val:Value) (es:Array MapEntry) (clock:Nat):Option (Array MapEntry × Nat):=match Instr.findNow kd key es.toList 0 with
 | some (some (i,_))=>some (es.modify i fun e=>{ e with key,val },clock)
 | some none=>some (es.push { key,val,born:=clock },clock + 1)
 | none=>none
def Fq (kd:TypeDesc) (key:Value) (es:Array MapEntry):Option (Array MapEntry):=match Instr.findNow kd key es.toList 0 with
 | some (some (i,_))=>some (es.eraseIdxIfInBounds i)
 | some none=>some es
 | none=>none
def DS (S:SH) (m:Option Nat) (kd:TypeDesc) (key val:Value) (K:SH -> Prop):Prop:=∃ r i es clock es' clock',m = some r /\ S[i]? = some (r,.map es clock) /\ Fs kd key val es clock = some (es',clock') /\ K (S.set i (r,.map es' clock'))
def Gz (S:SH) (m:Option Nat) (kd:TypeDesc) (key:Value) (K:SH -> Prop):Prop:=match m with
 | none=>K S
 | some r=>∃ i es clock es',S[i]? = some (r,.map es clock) /\ Fq kd key es = some es' /\ K (S.set i (r,.map es' clock))
def Lr (P:Program) (r:TypeId -> Value -> Bool) (xs:Array Value):List Field -> Bool
 | []=>true
 | f :: fs => match decide (f.name = "_"), Ea P f.type xs f.offset with
  | false,some x=>r f.type x && Lr P r xs fs
  | _,_=>false
def Dz (P:Program):Nat -> TypeId -> Value -> Bool
 | 0,_,_=>false
 | n + 1,t,v=>match P.underlying t with
  | none=>false
  | some d=>(match d,v with
   | .struct fs,.agg xs=>Lr P (Dz P n) xs fs.toList
   | .int _,_=>true
   | .string,_=>true
   | .bool,_=>true
   | _,_=>false)
def GW:TypeDesc -> Bool
 | .struct _=>true
 | _=>false
def Cu (P:Program) (t:TypeId) (k:Value):List MapEntry -> Nat -> Option (Option (Nat × Value))
 | [],_=>some none
 | e :: es,i=>match PJ P 4 t k e.key with
  | some true=>some (some (i,e.val))
  | some false=>Cu P t k es (i + 1)
  | none=>none
def Mu (P:Program) (t:TypeId) (I:A1) (S:SH) (m:Option Nat) (key z v:Value) (b:Bool):Prop:=∃ es:Array MapEntry,(match m with | none=>es = #[] | some r=>∃ clock,LS I S r es clock) /\
 ((∃ i,Cu P t key es.toList 0 = some (some (i,v)) /\ b = true) \/ (Cu P t key es.toList 0 = some none /\ v = z /\ b = false))
def Mw (P:Program) (t:TypeId) (S:SH) (m:Option Nat) (key val:Value) (K:SH -> Prop):Prop:=∃ r i es clock es' clock',m = some r /\ S[i]? = some (r,.map es clock) /\
 ((∃ j u,Cu P t key es.toList 0 = some (some (j,u)) /\ (es[j]?).map (·.key) = some key /\ Instr.sameBits 10000 key key = true /\ es' = es.modify j (fun e=>{ e with key,val }) /\ clock' = clock) \/
  (Cu P t key es.toList 0 = some none /\ es' = es.push { key,val,born:=clock } /\ clock' = clock + 1)) /\ K (S.set i (r,.map es' clock'))
def Hg (P:Program) (t:TypeId) (S:SH) (m:Option Nat) (key:Value) (K:SH -> Prop):Prop:=match m with
 | none=>K S
 | some r=>∃ i es clock es',S[i]? = some (r,.map es clock) /\ ((∃ j u,Cu P t key es.toList 0 = some (some (j,u)) /\ es' = es.eraseIdxIfInBounds j) \/ (Cu P t key es.toList 0 = some none /\ es' = es)) /\ K (S.set i (r,.map es' clock))
def S2 (I:A1) (S:SH) (a:Addr) (K0:Prop) (K1:Value -> Value -> SH -> Prop):Prop:=
 ∃ i m since seen last es clock,a.off = 0 /\ S[i]? = some (a.block,.mapIter (some m) since seen last) /\ LS I S m es clock /\ since <= last /\ (∀ e ∈ es,e.born < since) /\
  ((∀ e ∈ es,seen.contains e.born = true) -> K0) /\ ∀ e ∈ es,seen.contains e.born = false -> K1 e.key e.val (S.set i (a.block,.mapIter (some m) since (seen.push e.born) clock))
def TJ (I:A1) (S:SH) (a:Addr) (K:Value -> Value -> Prop):Prop:=
 ∃ m since seen stamp es clock e,a.off = 0 /\ (a.block,Obj.mapIter (some m) since seen clock) ∈ S /\ seen.back? = some stamp /\ LS I S m es clock /\ es.find? (·.born == stamp) = some e /\ K e.key e.val
def Ah (I:A1) (S:SH) (p:Option Addr) (n:Nat) (s:ByteArray):Prop:=match p with
 | none=>s = ByteArray.empty
 | some a=>s.size = n /\ ∀ (i:Nat) (c:UInt8),s[i]? = some c -> A0 I S (a.add i) (.int .u8 (c.toNat:Int))
def Dj (I:A1) (S:SH) (b:Nat) (cs:Array Value) (e:TypeId):Prop:=∃ fz,I.at_ b = some (.cells cs e fz) \/ (b,Obj.cells cs e fz) ∈ S
def TM (fz:Nat × Nat) (o n:Nat):Nat × Nat:=if fz.1 == fz.2 then (o,o + n) else (min fz.1 o,max fz.2 (o + n))
def Rj (P:Program) (u:TypeId) (I:A1) (S:SH) (p:Option Addr) (m:Int) (K:ByteArray -> SH -> Prop):Prop:=
 (m = 0 /\ K ByteArray.empty S) \/ ∃ a i cs e fz s,p = some a /\ 0 < m /\ m <= 9223372036854775807 /\ S[i]? = some (a.block,.cells cs e fz) /\ liesAt P P.depth e (cs.size / P.cellsOf e) a.off u m.toNat = true /\
  Ah I S (some a) m.toNat s /\ K s (S.set i (a.block,.cells cs e (TM fz a.off m.toNat)))
def Mk (z:List Value) (S:SH) (p:Option Addr) (n:Nat) (K:SH -> Prop):Prop:=(n = 0 /\ K S) \/ ∃ a,p = some a /\ n ≠ 0 /\ Ad S a (AX n z) K
def Ar (P:Program) (n:Nat) (o:Oper) (K:Fr -> A1 -> SH -> Prop) (l:Fr) (I:A1) (S:SH):Prop:=
 match o.op with
 | .move x=>Aa n o.dst (ev l x) K l I S
 | .assign x=>Aa n o.dst (ev l x) K l I S
 | .load t x=>(match ev l x with | .pointer (some a)=>NV P x t I S a fun v=>Aa n o.dst v K l I S | _=>False)
 | .store t x y=>(match ev l x,P.underlying t with
  | .pointer (some a),some _=>(match Nat.beq (ev l y).cells.size (P.cellsOf t) with | true=>Ad S a (ev l y).cells.toList fun T=>Aa n o.dst undef K l I T | false=>False)
  | _,_=>False)
 | .alloc t=>(match (P.info? t).bind (·.zero) with | some z=>∀ b,Aa n o.dst (.pointer (some ⟨b,0,none⟩)) K l I ((b,.cells z.cells t (0,0)) :: S) | none=>False)
 | .box t x=>∀ b,Aa n o.dst (.pointer (some ⟨b,0,none⟩)) K l I ((b,.cells (ev l x).cells t (0,0)) :: S)
 | .nilCheck x=>(match ev l x with
  | .pointer p=>A6 p fun a=>Aa n o.dst (.pointer (some a)) K l I S
  | .func (.func f) fs cs=>Aa n o.dst (.func (.func f) fs cs) K l I S
  | _=>False)
 | .build t parts=>(match P.underlying t,(P.info? t).bind (·.zero) with
  | some (.struct fs),some z=>(match fs.toList.all (fun f=>(P.info? f.type).isSome),F2 P fs.toList z.cells (Q6 l parts) with | true,some cs=>Aa n o.dst (.agg cs) K l I S | _,_=>False)
  | _,_=>False)
 | .buildSlice t len parts=>(match P.underlying t with
  | some (.slice e)=>(match P.info? e with
   | some i=>(match i.zero with
    | some z=>(match Nat.beq z.cells.size i.size && Nat.ble (len * i.size) 16777216 with
     | true=>(match EZ i.size (AX len z.cells.toList).toArray (Q6 l parts) with
      | some cs=>∀ b,Aa n o.dst (.slice (some ⟨b,0,none⟩) len len) K l I ((b,.cells cs e (0,0)) :: S)
      | none=>False)
     | false=>False)
    | none=>False)
   | none=>False)
  | _=>False)
 | .makeSlice t x y=>(match P.underlying t,ev l x,ev l y with
  | some (.slice e),.int _ len,.int _ cap=>(match P.info? e with
   | some i=>(match i.zero with
    | some z=>(match Nat.beq z.cells.size i.size with
     | true=>0 <= len /\ len <= cap /\ cap <= 9223372036854775807 /\ i.bytes * cap <= 281474976710656 /\
      ∀ b,Aa n o.dst (.slice (some ⟨b,0,none⟩) len.toNat cap.toNat) K l I ((b,.cells (AX cap.toNat z.cells.toList).toArray e (0,0)) :: S)
     | false=>False)
    | none=>False)
   | none=>False)
  | _,_,_=>False)
 | .indexAddr t x ix=>(match P.underlying t,ev l x,ev l ix with
  | some (.slice e),.slice base len _,.int _ i=>(match P.info? e with
   | some inf=>A6 base fun a=>0 <= i /\ i < (len:Int) /\ Aa n o.dst (.pointer (some (a.add (i.toNat * inf.size)))) K l I S
   | none=>False)
  | some (.array len e),.pointer (some a),.int _ i=>(match P.info? e with
   | some inf=>0 <= i /\ i < (len:Int) /\ Aa n o.dst (.pointer (some (a.add (i.toNat * inf.size)))) K l I S
   | none=>False)
  | _,_,_=>False)
 | .index t x ix=>(match P.underlying t,ev l x,ev l ix with
  | some .string,.string s,.int _ i=>∃ c:UInt8,0 <= i /\ s[i.toNat]? = some c /\ Aa n o.dst (.int .u8 (c.toNat:Int)) K l I S
  | _,_,_=>(match AB P (execOp (ev l) o) with | some (.value v)=>Aa n o.dst v K l I S | _=>False))
 | .slice t x lo hi mx=>(match P.underlying t,ev l x,mx with
  | some .string,.string s,none=>Bw (hi.map (ev l)) s.size s.size fun h=>Bw (lo.map (ev l)) 0 h fun j=>Aa n o.dst (.string (s.extract j h)) K l I S
  | some (.slice e),.slice a len cap,none=>(match P.info? e with
   | some inf=>Bw (hi.map (ev l)) len cap fun h=>Bw (lo.map (ev l)) 0 h fun j=>Aa n o.dst (.slice (N2 a cap j inf.size) (h - j) (cap - j)) K l I S
   | none=>False)
  | some (.slice e),.slice a len cap,some mx=>(match P.info? e,hi with
   | some inf,some hi=>Bw (some (ev l mx)) 0 cap fun m=>Bw (some (ev l hi)) 0 m fun h=>Bw (lo.map (ev l)) 0 h fun j=>Aa n o.dst (.slice (N2 a m j inf.size) (h - j) (m - j)) K l I S
   | _,_=>False)
  | some (.array ln e),.pointer (some a),none=>(match P.info? e with
   | some inf=>Bw (hi.map (ev l)) ln ln fun h=>Bw (lo.map (ev l)) 0 h fun j=>Aa n o.dst (.slice (N2 (some a) ln j inf.size) (h - j) (ln - j)) K l I S
   | none=>False)
  | _,_,_=>False)
 | .makeMap t none=>∀ r,Aa n o.dst (.map (some r)) K l I ((r,.map #[] 0) :: S)
 | .makeMap t (some x)=>(match P.underlying t,ev l x with
  | some (.map _ _),.int _ _=>∀ r,Aa n o.dst (.map (some r)) K l I ((r,.map #[] 0) :: S)
  | _,_=>False)
 | .range t x=>(match P.underlying t,ev l x with
  | some (.map _ _),.map mm=>RM mm fun m=>∃ es clock,LS I S m es clock /\ ∀ b,Aa n o.dst (.pointer (some ⟨b,0,none⟩)) K l I ((b,.mapIter (some m) clock #[] clock) :: S)
  | _,_=>False)
 | .next it false=>(match ev l it with
  | .pointer (some a)=>S2 I S a (Aa n o.dst (.tuple #[.bool false]) K l I S) fun k v T=>Aa n o.dst (.tuple #[.bool true,k,v]) K l I T
  | _=>False)
 | .entry it=>(match ev l it with
  | .pointer (some a)=>TJ I S a fun k v=>Aa n o.dst (.tuple #[k,v]) K l I S
  | _=>False)
 | .insert t m k v=>(match P.underlying t,ev l m with
  | some (.map kt _),.map m=>(match P.underlying kt with
   | some kd=>(match E4 kd with
    | true=>DS S m kd (ev l k) (ev l v) fun T=>Aa n o.dst undef K l I T
    | false=>False)
   | none=>False)
  | _,_=>False)
 | .lookup t x ix ok=>(match P.underlying t,ev l x with
  | some (.map kt et),.map m=>(match P.underlying kt,(P.info? et).bind (·.zero) with
   | some kd,some z=>(match E4 kd with
    | true=>Hy P et fun v=>∃ b:Bool,EV I S m kd (ev l ix) z v b /\ Aa n o.dst (Rp ok v b) K l I S
    | false=>(match GW kd && Dz P 4 kt (ev l ix) with
     | true=>Hy P et fun v=>∃ b:Bool,Mu P kt I S m (ev l ix) z v b /\ Aa n o.dst (Rp ok v b) K l I S
     | false=>False))
   | _,_=>False)
  | _,_=>False)
 | .mapUpdate t m k v=>(match P.underlying t,ev l m with
  | some (.map kt _),.map m=>(match P.underlying kt with
   | some kd=>(match E4 kd with
    | true=>DS S m kd (ev l k) (ev l v) fun T=>Aa n o.dst undef K l I T
    | false=>(match GW kd && Dz P 4 kt (ev l k) with
     | true=>Mw P kt S m (ev l k) (ev l v) fun T=>Aa n o.dst undef K l I T
     | false=>False))
   | none=>False)
  | _,_=>False)
 | .convert s d x=>(match P.underlying s,P.underlying d with
  | some (.slice e),some .string=>(match P.underlying e,ev l x with
   | some (.int .u8),.slice p m _=>∃ s:ByteArray,Ah I S p m s /\ Aa n o.dst (.string s) K l I S
   | _,_=>False)
  | some (.pointer t),some .unsafePointer=>(match ev l x with
   | .pointer p=>(match Nat.beq (P.cellsOf t) 0 with
    | false=>A6 p fun a=>∃ cs e,Dj I S a.block cs e /\ a.off < cs.size /\ Aa n o.dst (.pointer (some a)) K l I S
    | true=>False)
   | _=>False)
  | some .unsafePointer,some (.pointer t)=>(match ev l x with
   | .pointer p=>(match Nat.beq (P.cellsOf t) 0 with
    | false=>A6 p fun a=>∃ cs e,Dj I S a.block cs e /\ liesAt P P.depth e (cs.size / P.cellsOf e) a.off t 1 = true /\ Aa n o.dst (.pointer (some a)) K l I S
    | true=>False)
   | _=>False)
  | some .string,some (.slice e)=>(match P.underlying e,ev l x with
   | some (.int .u8),.string s=>s.size <= maxLen /\ ∀ g c:Nat,s.size <= c -> c <= maxLen -> Aa n o.dst (.slice (some ⟨g,0,none⟩) s.size c) K l I ((g,.cells (byteCells s ++ AX (c - s.size) [.int .u8 0]).toArray e (c,c + 1)) :: S)
   | _,_=>False)
  | _,_=>(match AB P (execOp (ev l) o) with | some (.value v)=>Aa n o.dst v K l I S | _=>False))
 | .binOp op t x y _=>Mj P op t x y (ev l x) (ev l y) fun v=>Aa n o.dst v K l I S
 | .call c=>(match c.callee,c.argTypes.toList,c.args.toList with
  | .value f,_,args=>(match ev l f with
   | .func (.func fid) fs cs=>(match Bq P fid with
    | true=>Runs P fid (fs.toList ++ args.map (ev l) ++ cs.toList).toArray I S fun v J T=>Ht P o.type v fun v=>Aa n o.dst v K l J T
    | false=>DW P fid (fs.toList ++ args.map (ev l) ++ cs.toList).toArray I S fun v J T=>Ht P o.type v fun v=>Aa n o.dst v K l J T)
   | _=>False)
  | .builtin .len,[t],[x]=>(match P.underlying t,ev l x with
   | some .string,.string s=>Aa n o.dst (.int .i64 (s.size:Int)) K l I S
   | some (.slice _),.slice _ m _=>Aa n o.dst (.int .i64 (m:Int)) K l I S
   | some (.map _ _),.map m=>∃ c:Nat,Fa I S m c /\ Aa n o.dst (.int .i64 (c:Int)) K l I S
   | _,_=>False)
  | .builtin .delete,[t,_],[x,k]=>(match P.underlying t,ev l x with
   | some (.map kt _),.map m=>(match P.underlying kt with
    | some kd=>(match E4 kd with
     | true=>Gz S m kd (ev l k) fun T=>Aa n o.dst (.tuple #[]) K l I T
     | false=>(match GW kd && Dz P 4 kt (ev l k) with
      | true=>Hg P kt S m (ev l k) fun T=>Aa n o.dst (.tuple #[]) K l I T
      | false=>False))
    | none=>False)
   | _,_=>False)
  | .builtin .cap,[t],[x]=>(match P.underlying t,ev l x with
   | some (.slice _),.slice _ _ m=>Aa n o.dst (.int .i64 (m:Int)) K l I S
   | _,_=>False)
  | .builtin .max,_,x :: rest=>(match ev l x with
   | .int k a=>(match Hh k a (rest.map (ev l)) with | some m=>Aa n o.dst (.int k m) K l I S | none=>False)
   | _=>False)
  | .builtin .min,_,x :: rest=>(match ev l x with
   | .int k a=>(match Hi k a (rest.map (ev l)) with | some m=>Aa n o.dst (.int k m) K l I S | none=>False)
   | _=>False)
  | .builtin .append,[t,t'],[s,x]=>(match P.underlying t with
   | some (.slice e)=>(match P.info? e with
    | some i=>(match i.zero with
     | some z=>(match Nat.beq z.cells.size i.size && Nat.blt 0 i.size with
      | true=>AA e i.size i.bytes z.cells.toList (P.underlying t') I S (ev l s) (ev l x) fun p m c T=>Aa n o.dst (.slice p m c) K l I T
      | false=>False)
     | none=>False)
    | none=>False)
   | _=>False)
  | .builtin .unsafeSliceData,[t],[x]=>(match P.underlying t,ev l x with
   | some (.slice _),.slice p _ c=>(p.isSome = true -> c ≠ 0) /\ Aa n o.dst (.pointer p) K l I S
   | _,_=>False)
  | .builtin .unsafeString,[t,_],[x,y]=>(match P.underlying t,ev l x,ev l y with
   | some (.pointer u),.pointer p,.int _ m=>Rj P u I S p m fun s T=>Aa n o.dst (.string s) K l I T
   | _,_,_=>False)
  | .builtin .clear,[t],[x]=>(match P.underlying t,ev l x with
   | some (.slice e),.slice p m _=>(match (P.info? e).bind (·.zero) with
    | some z=>Mk z.cells.toList S p m fun T=>Aa n o.dst (.tuple #[]) K l I T
    | none=>False)
   | _,_=>False)
  | .builtin .copy,[t,_],[d,x]=>(match P.underlying t with
   | some (.slice e)=>(match P.info? e with
    | some i=>LL i.size I S (ev l d) (ev l x) fun m T=>Aa n o.dst (.int .i64 (m:Int)) K l I T
    | none=>False)
   | _=>False)
  | .builtin .complex,_,_=>(match AB P (execOp (ev l) o) with | some (.value v)=>Aa n o.dst v K l I S | _=>False)
  | .builtin .real,_,_=>(match AB P (execOp (ev l) o) with | some (.value v)=>Aa n o.dst v K l I S | _=>False)
  | .builtin .imag,_,_=>(match AB P (execOp (ev l) o) with | some (.value v)=>Aa n o.dst v K l I S | _=>False)
  | _,_,_=>False)
 | _=>(match AB P (execOp (ev l) o) with | some (.value v)=>Aa n o.dst v K l I S | _=>False)
def NX (n:Nat) (I:A1) (K:Fr -> A1 -> SH -> Prop) (a:Act) (w:World):Prop:=∃ l J T,Ap n l a /\ I.le J /\ Am J T w /\ K l J T
theorem Aa.nx {n:Nat} {d:Option Tmp} {v:Value} {K:Fr -> A1 -> SH -> Prop} {l:Fr} {I J:A1} {T:SH} {a:Act} {w:World} (h:Aa n d v K l J T) (ha:Ap n l a) (hle:I.le J) (hw:Am J T w) :
  NX n I K (a.put d v) w:=by
 cases d with
 | none=>exact ⟨l,J,T,ha,hle,hw,h⟩
 | some d=>
  simp only [Aa] at h
  split at h
  ·rename_i hb
   exact ⟨_,J,T,ha.put (by simpa using hb) v,hle,hw,h⟩
  ·exact h.elim
section
variable {P:Program} {n:Nat} {o:Oper} {K:Fr -> A1 -> SH -> Prop} {l:Fr} {I:A1} {S:SH} {a:Act} {w:World} {Q:Exit -> Act -> World -> Prop}
theorem Af {v:Value} {w':World} {T:SH} (hr:(execOp (ev l) o).run P w = .ok (.value v) w') (h:Aa n o.dst v K l I T) (hw:Am I T w') (ha:Ap n l a):o.wp P a w (NX n I K) Q:=by
 simp only [Oper.wp,ha.eval,hr,Oper.upon]
 exact h.nx ha (A1.le.refl I) hw
theorem CW {w':World} {T:SH} (hr:(execOp (ev l) o).run P w = .ok .skip w') (h:Aa n o.dst undef K l I T) (hw:Am I T w') (ha:Ap n l a):o.wp P a w (NX n I K) Q:=by
 simp only [Oper.wp,ha.eval,hr,Oper.upon]
 exact h.nx ha (A1.le.refl I) hw
theorem DJ (h:match AB P (execOp (ev l) o) with | some (.value v)=>Aa n o.dst v K l I S | _=>False) (hw:Am I S w) (ha:Ap n l a):o.wp P a w (NX n I K) Q:=by
 split at h
 ·rename_i v he
  exact Af (Bf he) h hw ha
 ·exact h.elim
theorem N7 {f:FuncId} {args:Array Value} (hr:(execOp (ev l) o).run P w = .ok (.enter f args) w) (h:Runs P f args I S fun v J T=>Ht P o.type v fun v=>Aa n o.dst v K l J T) (hw:Am I S w) (ha:Ap n l a) :
  o.wp P a w (NX n I K) Q:=by
 simp only [Oper.wp,ha.eval,hr,Oper.upon]
 refine (h w hw).mono ?_
 rintro e w' ⟨v,J,T,rfl,hle,hs,hv⟩
 exact (EW hv).nx ha hle hs
end
section
variable {P:Program} {n:Nat} {o:Oper} {K:Fr -> A1 -> SH -> Prop} {l:Fr} {I:A1} {S:SH} {a:Act} {w:World} {Q:Exit -> Act -> World -> Prop}
theorem F4 {t:TypeId} {x y:Value} {b:Bool} (h:∀ d,(Op.equalIn (d + 1) t x y).run P w = .ok b w):(Op.equal t x y).run P w = .ok b w:=h 9999
theorem C9 {t:TypeId} {xo yo:Operand} {x y:Value} {b:Bool} (hg:(eqGuard .eql t xo yo x y).run P w = .ok () w) (hb:binOp .eql t x y = (do pure (.bool (<- Op.equal t x y))))
  (h:∀ d,(Op.equalIn (d + 1) t x y).run P w = .ok b w):(do eqGuard .eql t xo yo x y; binOp .eql t x y:Sem Value).run P w = .ok (.bool b) w:=by
 simp only [Sem.run_bind,hg,Result.andThen_ok,hb,F4 h,Sem.run_pure]
theorem Ca {t:TypeId} {xo yo:Operand} {x y:Value} {b:Bool} (hg:(eqGuard .neq t xo yo x y).run P w = .ok () w) (hb:binOp .neq t x y = (do pure (.bool (!(<- Op.equal t x y)))))
  (h:∀ d,(Op.equalIn (d + 1) t x y).run P w = .ok b w):(do eqGuard .neq t xo yo x y; binOp .neq t x y:Sem Value).run P w = .ok (.bool !b) w:=by
 simp only [Sem.run_bind,hg,Result.andThen_ok,hb,F4 h,Sem.run_pure]
theorem GN {t e:TypeId} {p:Option Addr} (hu:P.underlying t = some (.pointer e)) (d:Nat):(Op.equalIn (d + 1) t (.pointer p) (.pointer none)).run P w = .ok p.isNone w:=by
 cases p <;> simp [Op.equalIn,run_underlying hu]
theorem Ly {t e:TypeId} {p:Option Addr} {a b c d':Nat} (hu:P.underlying t = some (.slice e)) (d:Nat):(Op.equalIn (d + 1) t (.slice p a b) (.slice none c d')).run P w = .ok p.isNone w:=by
 cases p <;> simp [Op.equalIn,run_underlying hu]
theorem GM {t k e:TypeId} {p:Option Nat} (hu:P.underlying t = some (.map k e)) (d:Nat):(Op.equalIn (d + 1) t (.map p) (.map none)).run P w = .ok p.isNone w:=by
 cases p <;> simp [Op.equalIn,run_underlying hu]
theorem Lx {t:TypeId} {ms:Array (String × TypeId)} {x:Value} {b:Bool} (hu:P.underlying t = some (.interface ms)) (hb:B9 x = some b) (d:Nat):(Op.equalIn (d + 1) t x .nilIface).run P w = .ok b w:=by
 cases x <;> simp [B9] at hb <;> subst hb <;> simp [Op.equalIn,run_underlying hu]
theorem GV {op:BinOp} {t:TypeId} {xo:Operand} {c:Value} {x:Value} {b:Bool} (ho:op = .eql \/ op = .neq) (hb:B9 x = some b):(eqGuard op t xo (.const c) x .nilIface).run P w = .ok () w:=by
 rcases ho with rfl | rfl <;> cases x <;> first | (simp [B9] at hb; done) | (cases xo <;> simp [eqGuard])
theorem Q5 {t:TypeId} {x:Value} {b:Bool} (hb:B9 x = some b):binOp .eql t x .nilIface = (do pure (.bool (<- Op.equal t x .nilIface))):=by
 cases x <;> first | (simp [B9] at hb; done) | rfl
theorem Qc {t:TypeId} {x:Value} {b:Bool} (hb:B9 x = some b):binOp .neq t x .nilIface = (do pure (.bool (!(<- Op.equal t x .nilIface)))):=by
 cases x <;> first | (simp [B9] at hb; done) | rfl
theorem Ph {P:Program} {w:World} {t:TypeId} {td:TypeDesc} {x y:Value} {b:Bool} (hu:P.underlying t = some td) (h:Sh td x y = some b) (d:Nat):(Op.equalIn (d + 1) t x y).run P w = .ok b w:=by
 unfold Sh at h
 split at h
 ·injection h with h; subst h; simp [Op.equalIn,run_underlying hu]
 ·split at h
  ·rename_i hk; have hk:=of_decide_eq_true hk; subst hk
   injection h with h; subst h; simp [Op.equalIn,run_underlying hu]
  ·cases h
 ·injection h with h; subst h; simp [Op.equalIn,run_underlying hu]
 ·cases h
theorem D5 {P:Program} {w:World} {t:TypeId} {xs:Array Value} {off:Nat} {x:Value} (h:Ea P t xs off = some x):(part t xs off).run P w = .ok x w:=by
 unfold Ea at h
 split at h
 ·cases h
 ·rename_i d hu
  obtain ⟨i,hi,hsz⟩:=AR hu
  split at h
  ·rename_i ha
   injection h with h; subst h
   simp [part,BD hu,ha,Ai hi,hsz]
  ·rename_i ha
   simp [part,BD hu,ha,h]
theorem GP {P:Program} {w:World} {t:TypeId} {fs:Array Field} {xs ys:Array Value} {b:Bool} {r:TypeId -> Value -> Value -> Option Bool} {d:Nat} (hr:∀ t x y c,r t x y = some c -> (Op.equalIn d t x y).run P w = .ok c w)
  (hu:P.underlying t = some (.struct fs)) (hs:P.stoodInHeld t = false) (h:M1 P r xs ys fs.toList = some b) :
  (Op.equalIn (d + 1) t (.agg xs) (.agg ys)).run P w = .ok b w:=by
 unfold Op.equalIn
 simp only [Sem.run_bind,run_underlying hu,Result.andThen_ok]
 rw [<- Array.forIn_toList]
 have hp:(program).run P w = .ok P w:=rfl
 simp only [hp,Result.andThen_ok,hs,Bool.false_eq_true,if_false]
 have loop : ∀ (body : Field -> Option Bool × Unit -> Sem (ForInStep (Option Bool × Unit))) (hbody : ∀ (f : Field) (s : Option Bool × Unit) (x y : Value) (c : Bool), f.name ≠ "_" -> Ea P f.type xs f.offset = some x -> Ea P f.type ys f.offset = some y -> r f.type x y = some c ->
   (body f s).run P w = .ok (if c then .yield (none,()) else .done (some false,())) w),∀ (l:List Field) (b:Bool),M1 P r xs ys l = some b -> (forIn l (none,()) body:Sem (Option Bool × Unit)).run P w = .ok (if b then none else some false,()) w:=by
  intro body hbody l
  induction l with
  | nil=>intro b h; simp [M1] at h; subst h; simp
  | cons f l ih=>
   intro b h
   unfold M1 at h
   split at h
   ·rename_i x y hn hx hy
    split at h
    ·rename_i c c' hc hc'
     injection h with h; subst h
     have hb:=hbody f (none,()) x y c (of_decide_eq_false hn) hx hy hc
     simp only [List.forIn_cons,Sem.run_bind,hb,Result.andThen_ok]
     cases c
     ·simp
     ·simp only [if_true,ih c' hc']; simp
    ·cases h
   ·cases h
 rw [Sem.run_bind,loop _ ?_ fs.toList b h]
 ·cases b <;> simp
 ·intro f s x y c hn hx hy hc
  simp only [if_pos hn,Sem.run_bind,D5 hx,D5 hy,Result.andThen_ok,hr _ _ _ _ hc]
  cases c <;> rfl
theorem Fk {P:Program} {w:World}:∀ (n:Nat) (t:TypeId) (x y:Value) (b:Bool) (d:Nat),PJ P n t x y = some b -> (Op.equalIn (d + n) t x y).run P w = .ok b w
 | 0,_,_,_,_,_,h=>by simp [PJ] at h
 | n + 1,t,x,y,b,d,h=>by
  unfold PJ at h
  split at h
  ·cases h
  ·rename_i td hu
   split at h
   ·rename_i fs xs ys
    split at h
    ·rename_i hs
     exact GP (d:=d + n) (fun t x y c hc=>Fk n t x y c d hc) hu hs h
    ·cases h
   ·exact Ph hu h (d + n)
theorem H1 {op:BinOp} {t:TypeId} {xo yo:Operand} {xs ys:Array Value} {b:Bool} (ho:op = .eql \/ op = .neq) (hs:(!P.eqGuardType P.depth t) = true) (h:PJ P 4 t (.agg xs) (.agg ys) = some b) (w:World) :
  (do eqGuard op t xo yo (.agg xs) (.agg ys); binOp op t (.agg xs) (.agg ys):Sem Value).run P w = .ok (.bool (match op with | .eql=>b | _=>!b)) w:=by
 simp only [Bool.not_eq_true'] at hs
 have he:(Op.equal t (.agg xs) (.agg ys)).run P w = .ok b w:=Fk 4 t _ _ b 9996 h
 have hg:(eqGuard op t xo yo (.agg xs) (.agg ys)).run P w = .ok () w:=by
  have hp:(program).run P w = .ok P w:=rfl
  rcases ho with rfl | rfl <;> simp [eqGuard,hp,hs]
 rcases ho with rfl | rfl
 ·have:binOp .eql t (.agg xs) (.agg ys) = (do pure (.bool (<- Op.equal t (.agg xs) (.agg ys)))):=rfl
  simp only [Sem.run_bind,hg,Result.andThen_ok,this,he,Sem.run_pure]
 ·have:binOp .neq t (.agg xs) (.agg ys) = (do pure (.bool (!(<- Op.equal t (.agg xs) (.agg ys))))):=rfl
  simp only [Sem.run_bind,hg,Result.andThen_ok,this,he,Sem.run_pure]
theorem EY {t e:TypeId} {a:Addr} (hu:P.underlying t = some (.pointer e)) (hz:P.cellsOf e ≠ 0) (d:Nat):(Op.equalIn (d + 1) t (.pointer (some a)) (.pointer (some a))).run P w = .ok true w:=by
 cases hi:P.info? e with
 | none=>simp [Program.cellsOf,hi] at hz
 | some i=>
  have hz':i.size ≠ 0:=by rwa [Program.cellsOf,hi] at hz
  simp [Op.equalIn,run_underlying hu,Ai hi,hz',sameAddr]
theorem Mi.run {op:BinOp} {t:TypeId} {xo yo:Operand} {x y:Value} {K:Value -> Prop} (h:Mi P op t xo yo x y K):∃ v,(∀ w,(do eqGuard op t xo yo x y; binOp op t x y:Sem Value).run P w = .ok v w) /\ K v:=by
 unfold Mi at h
 split at h
 case h_1 k a k' b=>
  by_cases hb:b = 0
  ·rw [decide_eq_true hb] at h; exact h.elim
  ·rw [decide_eq_false hb] at h
   simp only [A2] at h
   split at h
   ·rename_i hk; have hk:=of_decide_eq_true hk; subst hk
    exact ⟨_,fun w=>by simp [eqGuard,binOp,Op.intDiv,hb],h⟩
   ·exact h.elim
 case h_2 k a k' b=>
  by_cases hb:b = 0
  ·rw [decide_eq_true hb] at h; exact h.elim
  ·rw [decide_eq_false hb] at h
   simp only [A2] at h
   split at h
   ·rename_i hk; have hk:=of_decide_eq_true hk; subst hk
    exact ⟨_,fun w=>by simp [eqGuard,binOp,Op.intDiv,hb],h⟩
   ·exact h.elim
 case h_3 k a k' b=>
  by_cases hb:b < 0
  ·rw [decide_eq_true hb] at h; exact h.elim
  ·rw [decide_eq_false hb] at h
   exact ⟨_,fun w=>by simp [eqGuard,binOp,Op.shift,hb],h⟩
 case h_4 k a k' b=>
  by_cases hb:b < 0
  ·rw [decide_eq_true hb] at h; exact h.elim
  ·rw [decide_eq_false hb] at h
   exact ⟨_,fun w=>by simp [eqGuard,binOp,Op.shift,hb],h⟩
 case h_5 a b=>
  obtain ⟨h1,h⟩:=h
  have hm:IntKind.i64.max = 9223372036854775807:=by decide
  have hc : ¬ (((a.size + b.size:Nat):Int) > IntKind.i64.max):=by rw [hm]; omega
  refine ⟨_,fun w=>?_,h⟩
  simp only [eqGuard,binOp,Op.stringOp,hc,if_false]
  simp
 case h_6=>
  split at h
  ·rename_i hu
   exact ⟨_,fun w=>C9 rfl rfl (GN hu),h⟩
  ·exact h.elim
 case h_7=>
  split at h
  ·rename_i hu
   exact ⟨_,fun w=>Ca rfl rfl (GN hu),h⟩
  ·exact h.elim
 case h_8=>
  split at h
  ·rename_i e hu
   split at h
   ·rename_i hz
    obtain ⟨rfl,h⟩:=h
    exact ⟨_,fun w=>C9 rfl rfl (EY hu (Nat.ne_of_beq_eq_false hz)),h⟩
   ·exact h.elim
  ·exact h.elim
 case h_9=>
  split at h
  ·rename_i e hu
   split at h
   ·rename_i hz
    obtain ⟨rfl,h⟩:=h
    exact ⟨_,fun w=>Ca rfl rfl (EY hu (Nat.ne_of_beq_eq_false hz)),h⟩
   ·exact h.elim
  ·exact h.elim
 case h_10=>
  split at h
  ·rename_i hu
   exact ⟨_,fun w=>C9 rfl rfl (Ly hu),h⟩
  ·exact h.elim
 case h_11=>
  split at h
  ·rename_i hu
   exact ⟨_,fun w=>Ca rfl rfl (Ly hu),h⟩
  ·exact h.elim
 case h_12=>
  split at h
  ·rename_i hu
   exact ⟨_,fun w=>C9 rfl rfl (GM hu),h⟩
  ·exact h.elim
 case h_13=>
  split at h
  ·rename_i hu
   exact ⟨_,fun w=>Ca rfl rfl (GM hu),h⟩
  ·exact h.elim
 case h_14=>
  split at h
  ·rename_i fs hu
   split at h
   ·rename_i b hs hb
    exact ⟨_,fun w=>H1 (.inl rfl) hs hb w,h⟩
   ·exact h.elim
  ·exact h.elim
 case h_15=>
  split at h
  ·rename_i fs hu
   split at h
   ·rename_i b hs hb
    exact ⟨_,fun w=>H1 (.inr rfl) hs hb w,h⟩
   ·exact h.elim
  ·exact h.elim
 case h_16=>
  split at h
  ·rename_i v he
   exact ⟨v,fun w=>Bf he,h⟩
  ·exact h.elim
theorem MM {t ty:TypeId} {ms:Array (String × TypeId)} {x vy:Value} {b:Bool} (hu:P.underlying t = some (.interface ms)) (hb:PH P x ty vy = some b) (d:Nat):(Op.equalIn (d + 2) t x (.iface ty vy)).run P w = .ok b w:=by
 cases x <;> simp only [PH] at hb <;> first | (cases hb; done) | skip
 case nilIface=>injection hb with hb; subst hb; simp [Op.equalIn,run_underlying hu]
 case iface tx vx=>
  split at hb
  ·rename_i hne
   injection hb with hb; subst hb
   have hne:=Nat.ne_of_beq_eq_false hne
   simp [Op.equalIn,run_underlying hu,hne]
  ·rename_i he
   have he:=Nat.eq_of_beq_eq_true he; subst he
   split at hb
   ·rename_i k a k' c hcm huy
    split at hb
    ·rename_i hk
     have hk:=of_decide_eq_true hk; subst hk
     injection hb with hb; subst hb
     obtain ⟨i,hi,hic⟩:=Option.map_eq_some_iff.1 hcm
     have hti:(typeInfo tx).run P w = .ok i w:=by simp [typeInfo,program,Sem.run,hi]
     unfold Op.equalIn
     simp only [Sem.run_bind,run_underlying hu,Result.andThen_ok,ne_eq,not_true_eq_false,if_false,hti,hic,Bool.not_true,Bool.false_eq_true]
     simp [Op.equalIn,run_underlying huy]
    ·cases hb
   ·cases hb
theorem LA {op:BinOp} {t ty:TypeId} {xo yo:Operand} {x vy:Value}:(eqGuard op t xo yo x (.iface ty vy)).run P w = .ok () w:=by
 cases op <;> cases x <;> simp [eqGuard]
theorem RJ {t ty:TypeId} {x vy:Value} {b:Bool} (hb:PH P x ty vy = some b):binOp .eql t x (.iface ty vy) = (do pure (.bool (<- Op.equal t x (.iface ty vy)))):=by
 cases x <;> first | (simp [PH] at hb; done) | rfl
theorem RP {t ty:TypeId} {x vy:Value} {b:Bool} (hb:PH P x ty vy = some b):binOp .neq t x (.iface ty vy) = (do pure (.bool (!(<- Op.equal t x (.iface ty vy))))):=by
 cases x <;> first | (simp [PH] at hb; done) | rfl
theorem Ef {t:TypeId} {x y:Value} {b:Bool} (h:∀ d,(Op.equalIn (d + 2) t x y).run P w = .ok b w):(Op.equal t x y).run P w = .ok b w:=h 9998
theorem Mj.run {op:BinOp} {t:TypeId} {xo yo:Operand} {x y:Value} {K:Value -> Prop} (h:Mj P op t xo yo x y K):∃ v,(∀ w,(do eqGuard op t xo yo x y; binOp op t x y:Sem Value).run P w = .ok v w) /\ K v:=by
 unfold Mj at h
 split at h
 ·split at h
  ·split at h
   ·rename_i c ms _ hu
    obtain ⟨b,hb,h⟩:=h
    exact ⟨_,fun w=>C9 (GV (.inl rfl) hb) (Q5 hb) (Lx hu hb),h⟩
   ·exact h.elim
  ·split at h
   ·rename_i c ms _ hu
    obtain ⟨b,hb,h⟩:=h
    exact ⟨_,fun w=>Ca (GV (.inr rfl) hb) (Qc hb) (Lx hu hb),h⟩
   ·exact h.elim
  ·exact h.elim
 ·split at h
  ·split at h
   ·rename_i ms hu
    obtain ⟨b,hb,h⟩:=h
    refine ⟨_,fun w=>?_,h⟩
    simp only [Sem.run_bind,LA,Result.andThen_ok,RJ hb,Ef (MM (w:=w) hu hb),Sem.run_pure]
   ·exact h.elim
  ·split at h
   ·rename_i ms hu
    obtain ⟨b,hb,h⟩:=h
    refine ⟨_,fun w=>?_,h⟩
    simp only [Sem.run_bind,LA,Result.andThen_ok,RP hb,Ef (MM (w:=w) hu hb),Sem.run_pure]
   ·exact h.elim
  ·exact h.elim
 ·exact Mi.run h
theorem E6 {k:IntKind}:∀ (vs:List Value) (x m:Int),Hh k x vs = some m -> (vs.foldlM Builtin.max2 (.int k x)).run P w = .ok (.int k m) w
 | [],x,m,h=>by simp [Hh] at h; subst h; rfl
 | v :: vs,x,m,h=>by
  cases v <;> first | (simp [Hh] at h; done) | skip
  rename_i k' y
  simp only [Hh] at h
  have ih:=E6 vs _ m h
  simp only [List.foldlM_cons,Builtin.max2,Sem.run_bind,Sem.run_pure,Result.andThen_ok,ih]
theorem E8 {k:IntKind}:∀ (vs:List Value) (x m:Int),Hi k x vs = some m -> (vs.foldlM Builtin.min2 (.int k x)).run P w = .ok (.int k m) w
 | [],x,m,h=>by simp [Hi] at h; subst h; rfl
 | v :: vs,x,m,h=>by
  cases v <;> first | (simp [Hi] at h; done) | skip
  rename_i k' y
  simp only [Hi] at h
  have ih:=E8 vs _ m h
  simp only [List.foldlM_cons,Builtin.min2,Sem.run_bind,Sem.run_pure,Result.andThen_ok,ih]
theorem Eh {fs:Array Field}:∀ (l:List Field) (out:List (Nat × Nat)),(∀ f ∈ l,(P.info? f.type).isSome = true) ->
  (l.mapM fun f=>(do pure (f.offset,<- sizeOf f.type):Sem (Nat × Nat))).run P w = .ok (l.map fun f=>(f.offset,P.cellsOf f.type)) w
 | [],_,_=>by simp
 | f :: l,out,h=>by
  have h0:=h f (List.mem_cons_self ..)
  obtain ⟨i,hi⟩:=Option.isSome_iff_exists.1 h0
  have ih:=Eh (fs:=fs) l out (fun f hf=>h f (List.mem_cons_of_mem _ hf))
  have hc:P.cellsOf f.type = i.size:=by simp [Program.cellsOf,hi]
  simp only [List.mapM_cons,Sem.run_bind,Ai hi,Result.andThen_ok,Sem.run_pure,ih,List.map_cons,hc]
theorem Ft (l:Fr) (parts:Array (Nat × Operand)):(parts.map fun (p:Nat × Operand)=>match p with | (i,x)=>(i,ev l x)) = (Q6 l parts).toArray:=by
 rw [Q6]; exact (Array.toArray_toList (xs:=parts.map _)).symm.trans (by simp)
theorem H4 {fs:Array Field} (h:∀ f ∈ fs.toList,(P.info? f.type).isSome = true) :
  (fs.mapM fun f=>(do pure (f.offset,<- sizeOf f.type):Sem (Nat × Nat))).run P w = .ok (fs.map fun f=>(f.offset,P.cellsOf f.type)) w:=by
 have:=Eh (P:=P) (w:=w) (fs:=fs) fs.toList [] h
 obtain ⟨l⟩:=fs
 dsimp only at this
 simp only [List.mapM_toArray,Sem.run_map,this,Result.andThen_ok,List.map_toArray]
theorem Mb {t:TypeId} {parts:Array (Nat × Operand)} {fs:Array Field} {i:TypeInfo} {z:Value} {cs:Array Value} (ho:o.op = .build t parts) (hu:P.underlying t = some (.struct fs)) (hi:P.info? t = some i)
  (hiz:i.zero = some z) (hall:∀ f ∈ fs.toList,(P.info? f.type).isSome = true) (hf:F2 P fs.toList z.cells (Q6 l parts) = some cs):(execOp (ev l) o).run P w = .ok (.value (.agg cs)) w:=by
 have hfill:∀ place:Nat -> Option (Nat × Nat),(∀ i f,fs.toList[i]? = some f -> place i = some (f.offset,P.cellsOf f.type)) -> Instr.fill place z.cells (Q6 l parts) = some cs:=fun place hp=>GS hp _ _ _ hf
 have hp:(fs.mapM fun f=>Prod.mk f.offset <$> sizeOf f.type).run P w = .ok (fs.map fun f=>(f.offset,P.cellsOf f.type)) w:=by simpa using H4 (P:=P) (w:=w) hall
 have h1:=hfill (fun x=>Option.map (fun f=>(f.offset,P.cellsOf f.type)) fs[x]?) (fun i f hf=>by simp at hf; simp [hf])
 simp [execOp,ho,Instr.build,zeroValue,typeInfo,program,Sem.run,hi,hiz,run_underlying hu,hp,Ft,h1]
theorem Ee {t e:TypeId} {len:Nat} {parts:Array (Nat × Operand)} {i:TypeInfo} {z:Value} {cs:Array Value} (ho:o.op = .buildSlice t len parts) (hu:P.underlying t = some (.slice e)) (hi:P.info? e = some i)
  (hz:i.zero = some z) (h1:z.cells.size = i.size) (h2:len * i.size <= 16777216) (hf:EZ i.size (AX len z.cells.toList).toArray (Q6 l parts) = some cs) :
  (execOp (ev l) o).run P w = .ok (.value (.slice (some ⟨w.heap.size,0,none⟩) len len)) { w with heap:=w.heap.push (.cells cs e (0,0)) }:=by
 have hfill:=GR _ _ _ hf
 rw [<- Fw,h1] at hfill
 have h2' : ¬ (len * i.size > 2 ^ 24):=by omega
 by_cases h0:len * i.size = 0
 ·have e0:Array.range 0 = #[]:=rfl
  rw [h0,e0] at hfill
  rw [Array.map_empty] at hfill
  simp [execOp,ho,Instr.buildSlice,run_underlying hu,Ai hi,h0,Ft,newRow,newObj,Sem.run,hfill,e0]
 ·simp [execOp,ho,Instr.buildSlice,run_underlying hu,Ai hi,h0,h2',Ft,newRow,newObj,Sem.run,zeroValue,typeInfo,program,hi,hz,h1,hfill]
theorem HF {t e:TypeId} {x y:Operand} {k k':IntKind} {len cap:Int} {i:TypeInfo} {z:Value} (ho:o.op = .makeSlice t x y) (hu:P.underlying t = some (.slice e)) (hx:ev l x = .int k len) (hy:ev l y = .int k' cap)
  (hi:P.info? e = some i) (hz:i.zero = some z) (hb:z.cells.size = i.size) (h0:0 <= len) (h1:len <= cap) (h2:cap <= 9223372036854775807) (h3:i.bytes * cap <= 281474976710656) :
  (execOp (ev l) o).run P w = .ok (.value (.slice (some ⟨w.heap.size,0,none⟩) len.toNat cap.toNat)) { w with heap:=w.heap.push (.cells (AX cap.toNat z.cells.toList).toArray e (0,0)) }:=by
 have hr:=run_make (P:=P) w t e i z hu hi hz k k' len cap h0 h1 h3 h2
 have he:madeCells z.cells (cap.toNat * i.size) = (AX cap.toNat z.cells.toList).toArray:=by
  have:=Fw cap.toNat z.cells
  rw [hb] at this
  rw [<- this,madeCells,hb]
 rw [he] at hr
 simp only [execOp,ho,hx,hy,Sem.run_bind,hr,Result.andThen_ok,Sem.run_pure]
 rfl
theorem CC {isS:Bool} {len cap:Nat} {lo hi:Option Value} {n1 n2:Nat}
  (hr1:(match hi with | some v=>Instr.sliceBound v cap (if isS then .sliceAcap else .sliceAlen) | none=>pure len:Sem Nat).run P w = .ok n1 w)
  (hr2:(match lo with | some v=>Instr.sliceBound v n1 .sliceB | none=>pure 0:Sem Nat).run P w = .ok n2 w) :
  (Instr.sliceBounds isS len cap lo hi none).run P w = .ok (n2,n1,cap) w:=by
 unfold Instr.sliceBounds
 cases hi with
 | none=>
  have:len = n1:=by simpa using hr1
  subst this
  cases lo with
  | none=>
       have:0 = n2:=by simpa using hr2
       subst this; simp
  | some v=>simp only [Sem.run_bind,Sem.run_pure,Result.andThen_ok,Option.isSome_none,Bool.false_eq_true,if_false] at hr2 ⊢; rw [hr2]; simp
 | some u=>
  cases lo with
  | none=>
       have:0 = n2:=by simpa using hr2
       subst this
       simp only [Sem.run_bind,Sem.run_pure,Result.andThen_ok] at hr1 ⊢; rw [hr1]; simp
  | some v=>simp only [Sem.run_bind,Sem.run_pure,Result.andThen_ok,Option.isSome_none,Bool.false_eq_true,if_false] at hr1 hr2 ⊢; rw [hr1]; simp only [Result.andThen_ok]; rw [hr2]; simp
theorem Md {t:TypeId} {x:Operand} {lo hi:Option Operand} {s:ByteArray} {n1 n2:Nat} (ho:o.op = .slice t x lo hi none) (hu:P.underlying t = some .string) (hx:ev l x = .string s)
  (hr1:(match hi.map (ev l) with | some v=>Instr.sliceBound v s.size .sliceAlen | none=>pure s.size).run P w = .ok n1 w)
  (hr2:(match lo.map (ev l) with | some v=>Instr.sliceBound v n1 .sliceB | none=>pure 0).run P w = .ok n2 w):(execOp (ev l) o).run P w = .ok (.value (.string (s.extract n2 n1))) w:=by
 have hb:=CC (P:=P) (w:=w) (isS:=false) (by simpa using hr1) hr2
 simp [execOp,ho,Instr.sliceAt,run_underlying hu,Instr.slice,hx,hb]
theorem N1 {t e:TypeId} {x:Operand} {lo hi:Option Operand} {ad:Option Addr} {len cap:Nat} {inf:TypeInfo} {n1 n2:Nat} (ho:o.op = .slice t x lo hi none) (hu:P.underlying t = some (.slice e)) (hx:ev l x = .slice ad len cap)
  (hinf:P.info? e = some inf)
  (hr1:(match hi.map (ev l) with | some v=>Instr.sliceBound v cap .sliceAcap | none=>pure len).run P w = .ok n1 w)
  (hr2:(match lo.map (ev l) with | some v=>Instr.sliceBound v n1 .sliceB | none=>pure 0).run P w = .ok n2 w) :
  (execOp (ev l) o).run P w = .ok (.value (.slice (N2 ad cap n2 inf.size) (n1 - n2) (cap - n2))) w:=by
 have hb:=CC (P:=P) (w:=w) (isS:=true) (by simpa using hr1) hr2
 simp [execOp,ho,Instr.sliceAt,run_underlying hu,Instr.slice,hx,hb,Ai hinf,N2]
theorem MZ {t e:TypeId} {x:Operand} {lo hi:Option Operand} {ad:Addr} {len:Nat} {inf:TypeInfo} {n1 n2:Nat} (ho:o.op = .slice t x lo hi none) (hu:P.underlying t = some (.array len e)) (hx:ev l x = .pointer (some ad))
  (hinf:P.info? e = some inf)
  (hr1:(match hi.map (ev l) with | some v=>Instr.sliceBound v len .sliceAlen | none=>pure len).run P w = .ok n1 w)
  (hr2:(match lo.map (ev l) with | some v=>Instr.sliceBound v n1 .sliceB | none=>pure 0).run P w = .ok n2 w) :
  (execOp (ev l) o).run P w = .ok (.value (.slice (N2 (some ad) len n2 inf.size) (n1 - n2) (len - n2))) w:=by
 have hb:=CC (P:=P) (w:=w) (isS:=false) (by simpa using hr1) hr2
 simp [execOp,ho,Instr.sliceAt,run_underlying hu,Instr.sureAddr,hx,hb,Ai hinf,N2]
 split <;> rfl
theorem N0 {t e:TypeId} {x mx hi:Operand} {lo:Option Operand} {ad:Option Addr} {len cap:Nat} {inf:TypeInfo} {n0 n1 n2:Nat} (ho:o.op = .slice t x lo (some hi) (some mx)) (hu:P.underlying t = some (.slice e)) (hx:ev l x = .slice ad len cap)
  (hinf:P.info? e = some inf) (hr0:(Instr.sliceBound (ev l mx) cap .slice3Acap).run P w = .ok n0 w) (hr1:(Instr.sliceBound (ev l hi) n0 .slice3B).run P w = .ok n1 w)
  (hr2:(match lo.map (ev l) with | some v=>Instr.sliceBound v n1 .slice3C | none=>pure 0).run P w = .ok n2 w) :
  (execOp (ev l) o).run P w = .ok (.value (.slice (N2 ad n0 n2 inf.size) (n1 - n2) (n0 - n2))) w:=by
 have hb:(Instr.sliceBounds true len cap (lo.map (ev l)) (some (ev l hi)) (some (ev l mx))).run P w = .ok (n2,n1,n0) w:=by
  unfold Instr.sliceBounds
  cases lo with
  | none=>
   have:0 = n2:=by simpa using hr2
   subst this
   simp [hr0,hr1]
  | some v=>simp at hr2; simp [hr0,hr1,hr2]
 simp [execOp,ho,Instr.sliceAt,run_underlying hu,Instr.slice,hx,hb,Ai hinf,N2]
def Pq (P:Program) (t:TypeId):Bool:=match P.underlying t with | some (.map _ _)=>true | _=>false
def AF (P:Program):Op -> Bool
 | .lookup ..=>true
 | .convert s d _=>(match P.underlying s,P.underlying d with | some (.slice _),some .string=>true | some (.pointer _),some .unsafePointer=>true | some .unsafePointer,some (.pointer _)=>true | _,_=>false)
 | .call { callee:=.builtin .len,argTypes,.. }=>argTypes.toList.any (Pq P)
 | _=>false
def BL (P:Program) (op:Op):Bool:=match AF P op with
 | true=>false
 | false=>match op with
  | .move _ | .assign _ | .nilCheck _ | .build .. | .indexAddr .. | .index .. | .slice .. | .binOp .. | .unOp .. | .extract .. | .field .. | .fieldAddr .. | .pick .. | .makeInterface ..=>true
  | .convert s d _=>(match P.underlying s,P.underlying d with | some .string,some (.slice _)=>false | _,_=>true)
  | .call { callee:=.builtin b,.. }=>match b with
   | .len | .cap | .max | .min | .unsafeSliceData | .complex | .real | .imag=>true
   | _=>false
  | _=>false
theorem Dj.run {b:Nat} {cs:Array Value} {e:TypeId} (h:Dj I S b cs e) (hw:Am I S w):w.shape? b = some (e,cs.size):=by
 obtain ⟨fz,h⟩:=h
 have:w.heap[b]? = some (.cells cs e fz):=by
  rcases h with h | h
  ·exact hw.im _ _ h
  ·exact hw.own _ h
 simp [World.shape?,this]
theorem H7 {b:Nat} {x:TypeId × Nat} (h:w.shape? b = some x):(viewAt b).run P w = .ok none w:=by
 simp [viewAt,shape,Sem.run,h]
theorem Fz {s d t:TypeId} {ad:Addr} {cs:Array Value} {e:TypeId} (hs:P.underlying s = some (.pointer t)) (hd:P.underlying d = some .unsafePointer) (ht:P.cellsOf t ≠ 0) (hi:∃ i,P.info? t = some i) (hb:Dj I S ad.block cs e) (ho:ad.off < cs.size) (hw:Am I S w) :
  (convert s d (.pointer (some ad))).run P w = .ok (.pointer (some ad)) w:=by
 have h1:=hb.run hw
 obtain ⟨i,hi⟩:=hi
 have hz:i.size ≠ 0:=by rwa [Program.cellsOf,hi] at ht
 have h2:(Conv.seenAt ad).run P w = .ok ad w:=by simp [Conv.seenAt,H7 h1]
 have h3:(cellsIn ad.block).run P w = .ok (some cs.size) w:=by simp [cellsIn,shape,Sem.run,h1]
 have h4 : ¬ (cs.size <= ad.off):=by omega
 simp [convert,run_underlying hs,run_underlying hd,Conv.unsafePointer,h2,h3,Ai hi,hz,h4]
theorem Fy {s d t:TypeId} {ad:Addr} {cs:Array Value} {e:TypeId} (hs:P.underlying s = some .unsafePointer) (hd:P.underlying d = some (.pointer t)) (ht:P.cellsOf t ≠ 0) (hi:∃ i,P.info? t = some i) (hb:Dj I S ad.block cs e)
  (hl:liesAt P P.depth e (cs.size / P.cellsOf e) ad.off t 1 = true) (hw:Am I S w):(convert s d (.pointer (some ad))).run P w = .ok (.pointer (some ad)) w:=by
 have h1:=hb.run hw
 obtain ⟨i,hi⟩:=hi
 have hz:i.size ≠ 0:=by rwa [Program.cellsOf,hi] at ht
 have h2:(Conv.seenAt ad).run P w = .ok ad w:=by simp [Conv.seenAt,H7 h1]
 have h3:(variablesAt ad t 1).run P w = .ok true w:=by simp [variablesAt,program,shape,Sem.run,h1,hl]
 simp [convert,run_underlying hs,run_underlying hd,Conv.unsafePointer,h2,h3,Ai hi,hz]
theorem Cv {t:TypeId} (h:P.cellsOf t ≠ 0):∃ i,P.info? t = some i:=by
 cases hi:P.info? t with
 | none=>simp [Program.cellsOf,hi] at h
 | some i=>exact ⟨i,rfl⟩
theorem LS.run {r:Nat} {es:Array MapEntry} {clock:Nat} (h:LS I S r es clock) (hw:Am I S w):w.heap[r]? = some (.map es clock):=by
 rcases h with h | h
 ·exact hw.im _ _ h
 ·exact hw.own _ h
theorem EN {kt:TypeId} {kd:TypeDesc} {k:Value} {e:Bool} (hu:P.underlying kt = some kd) (hk:E4 kd = true) (n:Nat):(Instr.checkKey e (n + 1) kt k).run P w = .ok () w:=by
 simp only [Instr.checkKey,Sem.run_bind,run_underlying hu,Result.andThen_ok]
 cases kd <;> first | (simp [E4] at hk; done) | simp
theorem AE {kt:TypeId} {kd:TypeDesc} {k:Value} {e:Bool} (hu:P.underlying kt = some kd) (hk:E4 kd = true):(Instr.checkKey e 10000 kt k).run P w = .ok () w:=EN hu hk 9999
theorem AV {kt:TypeId} {kd:TypeDesc} {k:Value} {es:List MapEntry} {r:Option (Nat × Value)} (hu:P.underlying kt = some kd) (h:Instr.findNow kd k es 0 = some r):(Instr.findKey kt k es).run P w = .ok r w:=by
 simp only [Instr.findKey,Sem.run_bind,run_underlying hu,Result.andThen_ok,h,Sem.run_pure]
theorem H8 {t:TypeId} {z:Value} (h:(P.info? t).bind (·.zero) = some z):(zeroValue t).run P w = .ok z w:=by
 obtain ⟨i,hi,hz⟩:=Option.bind_eq_some_iff.1 h
 simp [zeroValue,typeInfo,program,Sem.run,hi,hz]
theorem HE {t kt et:TypeId} {kd:TypeDesc} {m:Option Nat} {k z v:Value} {ok b:Bool} (hu:P.underlying t = some (.map kt et)) (hk:P.underlying kt = some kd) (hz:(P.info? et).bind (·.zero) = some z) (hkd:E4 kd = true)
  (h:EV I S m kd k z v b) (hw:Am I S w):(Instr.lookup t (.map m) k ok).run P w = .ok (Rp ok v b) w:=by
 obtain ⟨es,hm,hf⟩:=h
 have tail:∀ es':Array MapEntry,es' = es -> (do
   Instr.checkKey es'.isEmpty 10000 kt k
   let (v,ok') <- match <- Instr.findKey kt k es'.toList with
    | some (_,v)=>pure (v,true)
    | none=>pure (<- zeroValue et,false)
   pure (if ok then .tuple #[v,.bool ok'] else v):Sem Value).run P w = .ok (Rp ok v b) w:=by
  rintro _ rfl
  rcases hf with ⟨i,hf,rfl⟩ | ⟨hf,rfl,rfl⟩
  ·simp only [Sem.run_bind,AE hk hkd,Result.andThen_ok,AV hk hf,Sem.run_pure]
   cases ok <;> rfl
  ·simp only [Sem.run_bind,AE hk hkd,Result.andThen_ok,AV hk hf,Sem.run_pure,H8 hz]
   cases ok <;> rfl
 unfold Instr.lookup
 simp only [Sem.run_bind,run_underlying hu,Result.andThen_ok]
 cases m with
 | none=>
  subst hm
  have:=tail #[] rfl
  simp only [Sem.run_bind,Sem.run_pure,Result.andThen_ok] at this ⊢
  exact this
 | some r=>
  obtain ⟨clock,hc⟩:=hm
  have hg:(getObj r).run P w = .ok (.map es clock) w:=by simp [getObj,Sem.run,hc.run hw]
  have:=tail es rfl
  simp only [Sem.run_bind,Sem.run_pure,Result.andThen_ok,hg] at this ⊢
  exact this
theorem EX {r:TypeId -> Value -> Bool} {e:Bool} {d:Nat} {xs:Array Value} (hr:∀ t x,r t x = true -> (Instr.checkKey e d t x).run P w = .ok () w):∀ {fs:List Field},Lr P r xs fs = true ->
  (forIn fs PUnit.unit (fun f _=>(do
                     if f.name ≠ "_" then Instr.checkKey e d f.type (<- part f.type xs f.offset)
                     pure (ForInStep.yield PUnit.unit):Sem (ForInStep PUnit)))).run P w = .ok PUnit.unit w
 | [],_=>by simp
 | f :: fs,h=>by
  unfold Lr at h
  split at h
  ·rename_i x hn hx
   simp only [Bool.and_eq_true] at h
   have hn' : f.name ≠ "_" := of_decide_eq_false hn
   rw [List.forIn_cons]
   simp only [if_pos hn',Sem.run_bind,D5 hx,Result.andThen_ok,hr _ _ h.1,Sem.run_pure]
   exact EX hr h.2
  ·cases h
theorem GF {e:Bool}:∀ (n:Nat) {t:TypeId} {v:Value} (d:Nat),Dz P n t v = true -> (Instr.checkKey e (d + n) t v).run P w = .ok () w
 | 0,_,_,_,h=>by simp [Dz] at h
 | n + 1,t,v,d,h=>by
  unfold Dz at h
  split at h
  ·cases h
  ·rename_i td hu
   rw [show d + (n + 1) = (d + n) + 1 by omega]
   unfold Instr.checkKey
   simp only [Sem.run_bind,run_underlying hu,Result.andThen_ok]
   split at h
   ·rename_i fs xs
    have:=EX (P:=P) (w:=w) (e:=e) (d:=d + n) (fun t x hx=>GF n d hx) h
    simp only [<- Array.forIn_toList] at this ⊢
    simpa using this
   all_goals first | rfl | (cases h; done) | (simp; done)
theorem AS {kt:TypeId} {k:Value} {e:Bool} (h:Dz P 4 kt k = true):(Instr.checkKey e 10000 kt k).run P w = .ok () w:=GF 4 9996 h
theorem Ed {t:TypeId} {k:Value}:∀ {es:List MapEntry} {i:Nat} {r:Option (Nat × Value)},Cu P t k es i = some r -> (Instr.findAsking t k es i).run P w = .ok r w
 | [],i,r,h=>by injection h with h; subst h; rfl
 | e :: es,i,r,h=>by
  unfold Cu at h
  unfold Instr.findAsking
  split at h
  ·rename_i hq
   injection h with h; subst h
   have he:(Op.equal t k e.key).run P w = .ok true w:=Fk 4 t _ _ true 9996 hq
   simp only [Sem.run_bind,he,Result.andThen_ok,if_true,Sem.run_pure]
  ·rename_i hq
   have he:(Op.equal t k e.key).run P w = .ok false w:=Fk 4 t _ _ false 9996 hq
   simp only [Sem.run_bind,he,Result.andThen_ok,Bool.false_eq_true,if_false]
   exact Ed h
  ·cases h
theorem Bj {kt:TypeId} {kd:TypeDesc} {k:Value} {es:List MapEntry} {r:Option (Nat × Value)} (hu:P.underlying kt = some kd) (hs:GW kd = true) (h:Cu P kt k es 0 = some r):(Instr.findKey kt k es).run P w = .ok r w:=by
 simp only [Instr.findKey,Sem.run_bind,run_underlying hu,Result.andThen_ok]
 cases es with
 | nil=>injection h with h; subst h; rfl
 | cons e es=>
  have:Instr.findNow kd k (e :: es) 0 = none:=by
   cases kd <;> first | (cases hs; done) | rfl
  rw [this]
  exact Ed h
theorem H3 {t kt et:TypeId} {kd:TypeDesc} {m:Option Nat} {k z v:Value} {ok b:Bool} (hu:P.underlying t = some (.map kt et)) (hk:P.underlying kt = some kd) (hz:(P.info? et).bind (·.zero) = some z) (hs:GW kd = true) (hc:Dz P 4 kt k = true)
  (h:Mu P kt I S m k z v b) (hw:Am I S w):(Instr.lookup t (.map m) k ok).run P w = .ok (Rp ok v b) w:=by
 obtain ⟨es,hm,hf⟩:=h
 have tail:∀ es':Array MapEntry,es' = es -> (do
   Instr.checkKey es'.isEmpty 10000 kt k
   let (v,ok') <- match <- Instr.findKey kt k es'.toList with
    | some (_,v)=>pure (v,true)
    | none=>pure (<- zeroValue et,false)
   pure (if ok then .tuple #[v,.bool ok'] else v):Sem Value).run P w = .ok (Rp ok v b) w:=by
  rintro _ rfl
  rcases hf with ⟨i,hf,rfl⟩ | ⟨hf,rfl,rfl⟩
  ·simp only [Sem.run_bind,AS hc,Result.andThen_ok,Bj hk hs hf,Sem.run_pure]
   cases ok <;> rfl
  ·simp only [Sem.run_bind,AS hc,Result.andThen_ok,Bj hk hs hf,Sem.run_pure,H8 hz]
   cases ok <;> rfl
 unfold Instr.lookup
 simp only [Sem.run_bind,run_underlying hu,Result.andThen_ok]
 cases m with
 | none=>
  subst hm
  have:=tail #[] rfl
  simp only [Sem.run_bind,Sem.run_pure,Result.andThen_ok] at this ⊢
  exact this
 | some r=>
  obtain ⟨clock,hc⟩:=hm
  have hg:(getObj r).run P w = .ok (.map es clock) w:=by simp [getObj,Sem.run,hc.run hw]
  have:=tail es rfl
  simp only [Sem.run_bind,Sem.run_pure,Result.andThen_ok,hg] at this ⊢
  exact this
theorem Mc {p:Option Addr} {m c:Nat} {s:ByteArray} (h:Ah I S p m s) (hw:Am I S w):(Conv.bytesToString (.slice p m c)).run P w = .ok (.string s) w:=by
 cases p with
 | none=>
  have:s = ByteArray.empty:=h
  subst this; simp [Conv.bytesToString]
 | some a=>
  obtain ⟨rfl,hc⟩:=h
  have hcells:(loadCells a s.size).run P w = .ok (s.data.toList.map fun c=>Value.int .u8 (c.toNat:Int)).toArray w:=by
   have:=Bx (P:=P) (w:=w) (a:=a) (s.data.toList.map fun c=>Value.int .u8 (c.toNat:Int)) 0 #[] (fun j v hj=>by
    rw [List.getElem?_map] at hj
    obtain ⟨c,hc',rfl⟩:=Option.map_eq_some_iff.1 hj
    rw [Nat.zero_add]
    refine (hc j c ?_).run hw
    by_cases hlt:j < s.size
    ·rw [getElem?_pos s j hlt,<- hc',List.getElem?_eq_getElem (by simpa using hlt)]; rfl
    ·rw [List.getElem?_eq_none (by simpa using hlt)] at hc'; cases hc')
   simpa [loadCells] using this
  have loop:∀ (f:Value -> ByteArray -> Sem (ForInStep ByteArray)),(∀ (c:UInt8) s,f (.int .u8 (c.toNat:Int)) s = pure (ForInStep.yield (s.push (UInt8.ofNat (c.toNat:Int).toNat)))) ->
    ∀ (l:List UInt8) (acc:ByteArray),(forIn (l.map fun c=>Value.int .u8 (c.toNat:Int)) acc f:Sem ByteArray).run P w = .ok ⟨acc.data ++ l.toArray⟩ w:=by
   intro f hf l
   induction l with
   | nil=>intro acc; simp
   | cons c l ih=>
    intro acc
    simp only [List.map_cons,List.forIn_cons,Sem.run_bind,Sem.run_pure,Result.andThen_ok,hf]
    rw [ih]
    congr 1
    apply ByteArray.ext
    simp [ByteArray.push]
  simp only [Conv.bytesToString,Sem.run_bind,hcells,Result.andThen_ok]
  rw [List.forIn_toArray,loop _ (fun c s=>rfl)]
  simp only [Result.andThen_ok,Sem.run_pure]
  congr 2
  apply ByteArray.ext
  simp
theorem HL (hq:AF P o.op = true) (h:Ar P n o K l I S):∃ v,(∀ w,Am I S w -> (execOp (ev l) o).run P w = .ok (.value v) w) /\ Aa n o.dst v K l I S:=by
 unfold Ar at h
 split at h
 all_goals first
  | (rename_i ho; rw [ho] at hq; cases hq; done)
  | skip
 ·rename_i t x ix ok ho
  split at h
  ·rename_i kt et m hu hx
   split at h
   ·rename_i kd z hk hz
    split at h
    ·rename_i hkd
     obtain ⟨v,b,hm,hp⟩:=BA h
     exact ⟨_,fun w hw=>by simp only [execOp,ho,hx,Sem.run_bind,HE hu hk hz hkd hm hw,Result.andThen_ok,Sem.run_pure],hp⟩
    ·split at h
     ·rename_i hb
      simp only [Bool.and_eq_true] at hb
      obtain ⟨v,b,hm,hp⟩:=BA h
      exact ⟨_,fun w hw=>by simp only [execOp,ho,hx,Sem.run_bind,H3 hu hk hz hb.1 hb.2 hm hw,Result.andThen_ok,Sem.run_pure],hp⟩
     ·exact h.elim
   ·exact h.elim
  ·exact h.elim
 ·rename_i sr d x ho
  split at h
  ·rename_i e hs hd
   split at h
   ·rename_i p m c he hx
    obtain ⟨s,hb,hp⟩:=h
    exact ⟨_,fun w hw=>by simp only [execOp,ho,hx,convert,Sem.run_bind,run_underlying hs,run_underlying hd,run_underlying he,Mc hb hw,Result.andThen_ok,Sem.run_pure],hp⟩
   ·exact h.elim
  ·rename_i t hs hd
   split at h
   ·rename_i p hx
    split at h
    ·rename_i hz
     obtain ⟨ad,rfl,cs,e,hb,hlt,hp⟩:=Ch h
     have hz:=Nat.ne_of_beq_eq_false hz
     exact ⟨_,fun w hw=>by simp only [execOp,ho,hx,Sem.run_bind,Fz hs hd hz (Cv hz) hb hlt hw,Result.andThen_ok,Sem.run_pure],hp⟩
    ·exact h.elim
   ·exact h.elim
  ·rename_i t hs hd
   split at h
   ·rename_i p hx
    split at h
    ·rename_i hz
     obtain ⟨ad,rfl,cs,e,hb,hlt,hp⟩:=Ch h
     have hz:=Nat.ne_of_beq_eq_false hz
     exact ⟨_,fun w hw=>by simp only [execOp,ho,hx,Sem.run_bind,Fy hs hd hz (Cv hz) hb hlt hw,Result.andThen_ok,Sem.run_pure],hp⟩
    ·exact h.elim
   ·exact h.elim
  ·rename_i e hs hd
   rw [ho] at hq
   simp [AF,hs,hd] at hq
  ·rename_i hno hno2 hno3 hno4
   rw [ho] at hq
   unfold AF at hq
   dsimp only at hq
   split at hq
   ·rename_i e hs hd; exact absurd hd (hno _ hs)
   ·rename_i e hs hd; exact absurd hd (hno2 _ hs)
   ·rename_i e hs hd; exact absurd hd (hno3 _ hs)
   ·cases hq
 ·rename_i c ho
  obtain ⟨callee,⟨args⟩,⟨argTypes⟩⟩:=c
  dsimp only at h
  rw [ho] at hq
  split at h
  ·cases hq
  ·rename_i t x
   split at h
   ·rename_i s hu hx; simp [AF,Pq,hu] at hq
   ·rename_i e _ m _ hu hx; simp [AF,Pq,hu] at hq
   ·rename_i kt et m hu hx
    obtain ⟨c,hl,hp⟩:=h
    refine ⟨_,fun w hw=>?_,hp⟩
    cases m with
    | none=>
     have:c = 0:=hl
     subst this
     simp [execOp,ho,resolve,invoke,builtin,Builtin.len_,hx,run_underlying hu,goInt]
    | some r=>
     obtain ⟨es,clock,hc,rfl⟩:=hl
     simp [execOp,ho,resolve,invoke,builtin,Builtin.len_,hx,run_underlying hu,goInt,getObj,Sem.run,hc.run hw]
   ·exact h.elim
  all_goals first | exact h.elim | (simp [AF] at hq; done)
 ·unfold AF at hq
  split at hq
  ·rename_i ho; exact absurd (‹∀ (t:TypeId) (x ix:Operand) (ok:Bool),o.op = Op.lookup t x ix ok -> False› _ _ _ _ ho) id
  ·rename_i ho; exact absurd (‹∀ (s d:TypeId) (x:Operand),o.op = Op.convert s d x -> False› _ _ _ ho) id
  ·rename_i ho; exact absurd (‹∀ (c:Call),o.op = Op.call c -> False› _ ho) id
  ·cases hq
theorem CS {kd:TypeDesc} {k:Value}:∀ {es:List MapEntry} {j i:Nat} {v:Value},Instr.findNow kd k es j = some (some (i,v)) -> ∃ e,j <= i /\ es[i - j]? = some e /\ Instr.sameNow kd k e.key = some true /\ e.val = v
 | [],j,i,v,h=>by simp [Instr.findNow] at h
 | e :: es,j,i,v,h=>by
  unfold Instr.findNow at h
  split at h
  ·rename_i hs
   injection h with h; injection h with h; injection h with h1 h2
   subst h1
   exact ⟨e,Nat.le_refl _,by simp,hs,h2⟩
  ·obtain ⟨e',h1,h2,h3⟩:=CS h
   exact ⟨e',by omega,by rw [show i - j = (i - (j + 1)) + 1 by omega]; simpa using h2,h3⟩
  ·cases h
theorem Ff {a b:ByteArray}:(a == b) = true ↔ a = b:=by
 constructor
 ·intro h
  apply ByteArray.ext
  exact eq_of_beq (α:=Array UInt8) h
 ·rintro rfl
  exact beq_self_eq_true (α:=Array UInt8) a.data
theorem FA {kd:TypeDesc} {k k':Value} (h:Instr.sameNow kd k k' = some true) (n:Nat):Instr.sameBits n k' k = true:=by
 unfold Instr.sameNow at h
 split at h
 ·split at h
  ·rename_i e; subst e
   injection h with h
   have:=eq_of_beq h
   subst this
   simp [Instr.sameBits]
  ·cases h
 ·injection h with h
  have:=Ff.1 h
  subst this
  simp only [Instr.sameBits]
  exact Ff.2 rfl
 ·injection h with h
  have:=eq_of_beq h
  subst this
  simp [Instr.sameBits]
 ·cases h
theorem BM {r i:Nat} {es es':Array MapEntry} {clock clock':Nat} (hi:S[i]? = some (r,.map es clock)) (hw:Am I S w):∃ w',(setObj r (.map es' clock')).run P w = .ok () w' /\ Am I (S.set i (r,.map es' clock')) w':=by
 have hr:=hw.own _ (List.mem_of_getElem? hi)
 dsimp only at hr
 refine ⟨{ w with heap:=w.heap.setIfInBounds r (.map es' clock') },by simp [setObj,Sem.run,hr],hw.set hi rfl rfl rfl ?_ ?_ rfl⟩
 ·have:r < w.heap.size:=by
   rcases Nat.lt_or_ge r w.heap.size with h | h
   ·exact h
   ·rw [Array.getElem?_eq_none h] at hr; cases hr
  simp [this]
 ·intro b' hb
  show (w.heap.setIfInBounds r (.map es' clock'))[b']? = _
  rw [Array.getElem?_setIfInBounds,if_neg (fun e=>hb e.symm)]
theorem AK {r i:Nat} {es:Array MapEntry} {clock:Nat} (hi:S[i]? = some (r,.map es clock)) (hw:Am I S w):(getObj r).run P w = .ok (.map es clock) w:=by
 have hr:=hw.own _ (List.mem_of_getElem? hi)
 dsimp only at hr
 simp [getObj,Sem.run,hr]
theorem H6 {r i:Nat} {m:Option Nat} {a b:Nat} {sn:Array Nat} {o':Obj} (hi:S[i]? = some (r,.mapIter m a sn b)) (hw:Am I S w):∃ w',(setObj r o').run P w = .ok () w' /\ Am I (S.set i (r,o')) w':=by
 have hr:=hw.own _ (List.mem_of_getElem? hi)
 dsimp only at hr
 refine ⟨{ w with heap:=w.heap.setIfInBounds r o' },by simp [setObj,Sem.run,hr],hw.set hi rfl rfl rfl ?_ ?_ rfl⟩
 ·have:r < w.heap.size:=by
   rcases Nat.lt_or_ge r w.heap.size with h | h
   ·exact h
   ·rw [Array.getElem?_eq_none h] at hr; cases hr
  simp [this]
 ·intro b' hb
  show (w.heap.setIfInBounds r o')[b']? = _
  rw [Array.getElem?_setIfInBounds,if_neg (fun e=>hb e.symm)]
theorem S2.run {ad:Addr} {K0:Prop} {K1:Value -> Value -> SH -> Prop} {ty:TypeId} (h:S2 I S ad K0 K1) (hw:Am I S w) :
  ∃ v w' T,(Instr.next (.pointer (some ad)) false ty).run P w = .ok v w' /\ Am I T w' /\ ((v = .tuple #[.bool false] /\ T = S /\ K0) \/ ∃ k u,v = .tuple #[.bool true,k,u] /\ K1 k u T):=by
 obtain ⟨i,m,since,seen,last,es,clock,h0,hi,hm,hl,hb,hK0,hK1⟩:=h
 obtain ⟨blk,off,sp⟩:=ad
 dsimp only at h0 hi; subst h0
 have hr:=hw.own _ (List.mem_of_getElem? hi)
 dsimp only at hr
 have hg:(getObj blk).run P w = .ok (.mapIter (some m) since seen last) w:=by simp [getObj,Sem.run,hr]
 have hgm:(getObj m).run P w = .ok (.map es clock) w:=by simp [getObj,Sem.run,hm.run hw]
 have hold:(es.filter fun e=>!seen.contains e.born).filter (·.born < since) = es.filter fun e=>!seen.contains e.born:=by
  apply Array.filter_eq_self.2
  intro e he
  simp only [Array.mem_filter] at he
  simpa using hb e he.1
 have hnew:(es.filter fun e=>!seen.contains e.born).filter (·.born >= since) = #[]:=by
  apply Array.eq_empty_of_size_eq_zero
  rw [Array.size_eq_zero_iff,Array.filter_eq_empty_iff]
  intro e he
  simp only [Array.mem_filter] at he
  have:=hb e he.1
  simp; omega
 have hno:(!seen.isEmpty && !es.isEmpty && es.all (·.born >= last)) = false:=by
  cases hes:es.isEmpty with
  | true=>simp
  | false=>
   have hne:0 < es.size:=by
    rcases Nat.eq_zero_or_pos es.size with h | h
    ·simp [Array.isEmpty,h] at hes
    ·exact h
   have h1:es.all (·.born >= last) = false:=by
    rw [Array.all_eq_false]
    refine ⟨0,hne,?_⟩
    have:=hb es[0] (Array.getElem_mem hne)
    simp; omega
   simp [h1]
 cases hle:(es.filter fun e=>!seen.contains e.born).isEmpty with
 | true=>
  have hall:∀ e ∈ es,seen.contains e.born = true:=by
   have:=Array.isEmpty_iff.1 hle
   rw [Array.filter_eq_empty_iff] at this
   intro e he
   simpa using this e he
  refine ⟨.tuple #[.bool false],w,S,?_,hw,.inl ⟨rfl,rfl,hK0 hall⟩⟩
  simp only [Instr.next,Sem.run_bind,hg,hgm,Result.andThen_ok,hno,hold,hnew,hle,Bool.false_eq_true,if_false,if_true,Sem.run_pure,Array.append_empty]
  have hem:=Array.isEmpty_iff.1 hle
  rw [hem]
  simp [choose,Sem.run,Question.forced]
 | false=>
  have hpos:0 < (es.filter fun e=>!seen.contains e.born).size:=by
   rcases Nat.eq_zero_or_pos (es.filter fun e=>!seen.contains e.born).size with h | h
   ·rw [Array.eq_empty_of_size_eq_zero h] at hle; cases hle
   ·exact h
  have hch:∀ c,0 < c -> ∃ j w',(choose (.mapNext c)).run P w = .ok j w' /\ j < c /\ (w' = w \/ w' = { w with drawn:=w.drawn + 1 }):=by
   intro c hc
   by_cases hf:c <= 1
   ·exact ⟨0,w,by simp [choose,Sem.run,Question.forced,hf],hc,.inl rfl⟩
   ·exact ⟨w.tape w.drawn (.mapNext c) % c,{ w with drawn:=w.drawn + 1 },by simp [choose,Sem.run,Question.forced,hf,Question.cut],Nat.mod_lt _ hc,.inr rfl⟩
  obtain ⟨j,w1,hj,hjl,hw1⟩:=hch _ hpos
  have hs1:Am I S w1:=by rcases hw1 with rfl | rfl; exact hw; exact hw.drew
  have hmem:=Array.getElem_mem hjl
  simp only [Array.mem_filter,Bool.not_eq_true'] at hmem
  obtain ⟨w',h1,h2⟩:=H6 (P:=P) (o':=.mapIter (some m) since (seen.push ((es.filter fun e=>!seen.contains e.born)[j]).born) clock) hi hs1
  refine ⟨_,w',_,?_,h2,.inr ⟨_,_,rfl,hK1 _ hmem.1 hmem.2⟩⟩
  have hcs:(((es.filter fun e=>!seen.contains e.born).map some).size) = (es.filter fun e=>!seen.contains e.born).size:=by simp
  simp only [Instr.next,Sem.run_bind,hg,hgm,Result.andThen_ok,hno,hold,hnew,hle,Bool.false_eq_true,if_false,Sem.run_pure,Array.append_empty,Array.empty_append,hcs,hj]
  have hget:((es.filter fun e=>!seen.contains e.born).map some)[j]? = some (some ((es.filter fun e=>!seen.contains e.born)[j])):=by simp [hjl]
  rw [hget]
  simp only [Sem.run_bind,h1,Result.andThen_ok,Sem.run_pure]
theorem Cx {t kt et:TypeId} {kd:TypeDesc} {m:Option Nat} {k v:Value} {K:SH -> Prop} (hu:P.underlying t = some (.map kt et)) (hk:P.underlying kt = some kd) (hkd:E4 kd = true) (h:DS S m kd k v K) (hw:Am I S w) :
  ∃ T w',(Instr.mapUpdate t (.map m) k v).run P w = .ok () w' /\ Am I T w' /\ K T:=by
 obtain ⟨r,i,es,clock,es',clock',rfl,hi,hs,hK⟩:=h
 obtain ⟨w',h1,h2⟩:=BM (P:=P) (es':=es') (clock':=clock') hi hw
 refine ⟨_,w',?_,h2,hK⟩
 unfold Fs at hs
 split at hs
 ·rename_i j u hf
  injection hs with hs
  injection hs with e1 e2
  subst e1; subst e2
  obtain ⟨e,_,he,hsame,_⟩:=CS hf
  have hk':(Instr.keyThatStays (((es[j]?).map (·.key)).getD k) k).run P w = .ok k w:=by
   have hej:es[j]? = some e:=by simpa using he
   rw [hej]
   unfold Instr.keyThatStays
   rw [if_pos (by simpa using FA hsame _)]
   rfl
  simp only [Instr.mapUpdate,Sem.run_bind,run_underlying hu,Result.andThen_ok,AK hi hw,AE hk hkd,AV hk hf,hk']
  exact h1
 ·rename_i hf
  injection hs with hs
  injection hs with e1 e2
  subst e1; subst e2
  simp only [Instr.mapUpdate,Sem.run_bind,run_underlying hu,Result.andThen_ok,AK hi hw,AE hk hkd,AV hk hf]
  exact h1
 ·cases hs
theorem HD {t t2 ty kt et:TypeId} {kd:TypeDesc} {m:Option Nat} {k:Value} {K:SH -> Prop} (hu:P.underlying t = some (.map kt et)) (hk:P.underlying kt = some kd) (hkd:E4 kd = true) (h:Gz S m kd k K) (hw:Am I S w) :
  ∃ T w',(Builtin.delete_ #[t,t2] ty #[.map m,k]).run P w = .ok (.tuple #[]) w' /\ Am I T w' /\ K T:=by
 cases m with
 | none=>exact ⟨S,w,by simp [Builtin.delete_,run_underlying hu,AE hk hkd],hw,h⟩
 | some r=>
  obtain ⟨i,es,clock,es',hi,hd,hK⟩:=h
  obtain ⟨w',h1,h2⟩:=BM (P:=P) (es':=es') (clock':=clock) hi hw
  refine ⟨_,w',?_,h2,hK⟩
  unfold Fq at hd
  split at hd
  ·rename_i j u hf
   injection hd with hd; subst hd
   simp [Builtin.delete_,run_underlying hu,AE hk hkd,AK hi hw,AV hk hf,h1]
  ·rename_i hf
   injection hd with hd; subst hd
   simp [Builtin.delete_,run_underlying hu,AE hk hkd,AK hi hw,AV hk hf,h1]
  ·cases hd
theorem Eg {t kt et:TypeId} {kd:TypeDesc} {m:Option Nat} {k v:Value} {K:SH -> Prop} (hu:P.underlying t = some (.map kt et)) (hk:P.underlying kt = some kd) (hs:GW kd = true) (hc:Dz P 4 kt k = true) (h:Mw P kt S m k v K) (hw:Am I S w) :
  ∃ T w',(Instr.mapUpdate t (.map m) k v).run P w = .ok () w' /\ Am I T w' /\ K T:=by
 obtain ⟨r,i,es,clock,es',clock',rfl,hi,hq,hK⟩:=h
 obtain ⟨w',h1,h2⟩:=BM (P:=P) (es':=es') (clock':=clock') hi hw
 refine ⟨_,w',?_,h2,hK⟩
 rcases hq with ⟨j,u,hf,hkey,hsb,rfl,rfl⟩ | ⟨hf,rfl,rfl⟩
 ·have hk':(Instr.keyThatStays (((es[j]?).map (·.key)).getD k) k).run P w = .ok k w:=by
   rw [hkey]
   unfold Instr.keyThatStays
   rw [if_pos (by simpa using hsb)]
   rfl
  simp only [Instr.mapUpdate,Sem.run_bind,run_underlying hu,Result.andThen_ok,AK hi hw,AS hc,Bj hk hs hf,hk']
  exact h1
 ·simp only [Instr.mapUpdate,Sem.run_bind,run_underlying hu,Result.andThen_ok,AK hi hw,AS hc,Bj hk hs hf]
  exact h1
theorem H0 {t t2 ty kt et:TypeId} {kd:TypeDesc} {m:Option Nat} {k:Value} {K:SH -> Prop} (hu:P.underlying t = some (.map kt et)) (hk:P.underlying kt = some kd) (hs:GW kd = true) (hc:Dz P 4 kt k = true) (h:Hg P kt S m k K) (hw:Am I S w) :
  ∃ T w',(Builtin.delete_ #[t,t2] ty #[.map m,k]).run P w = .ok (.tuple #[]) w' /\ Am I T w' /\ K T:=by
 cases m with
 | none=>exact ⟨S,w,by simp [Builtin.delete_,run_underlying hu,AS hc],hw,h⟩
 | some r=>
  obtain ⟨i,es,clock,es',hi,hq,hK⟩:=h
  obtain ⟨w',h1,h2⟩:=BM (P:=P) (es':=es') (clock':=clock) hi hw
  refine ⟨_,w',?_,h2,hK⟩
  rcases hq with ⟨j,u,hf,rfl⟩ | ⟨hf,rfl⟩
  ·simp [Builtin.delete_,run_underlying hu,AS hc,AK hi hw,Bj hk hs hf,h1]
  ·simp [Builtin.delete_,run_underlying hu,AS hc,AK hi hw,Bj hk hs hf,h1]
theorem Ei {at':Array TypeId} {ty:TypeId} {m c:Nat}:(Builtin.unsafeSliceData_ at' ty #[.slice none m c]).run P w = .ok (.pointer none) w:=rfl
theorem Ej {at':Array TypeId} {ty:TypeId} {m c:Nat} {ad:Addr} (hc:c ≠ 0):(Builtin.unsafeSliceData_ at' ty #[.slice (some ad) m c]).run P w = .ok (.pointer (some ad)) w:=by
 show (if c ≠ 0 then (pure (Value.pointer (some ad)):Sem Value) else _).run P w = _
 rw [if_pos hc]; rfl
theorem BE (h:match AB P (execOp (ev l) o) with | some (.value v)=>Aa n o.dst v K l I S | _=>False) :
  ∃ v,(∀ w,(execOp (ev l) o).run P w = .ok (.value v) w) /\ Aa n o.dst v K l I S:=by
 split at h
 ·rename_i v he
  exact ⟨v,fun w=>Bf he,h⟩
 ·exact h.elim
theorem Ar.val (hq:BL P o.op = true) (h:Ar P n o K l I S):∃ v,(∀ w,(execOp (ev l) o).run P w = .ok (.value v) w) /\ Aa n o.dst v K l I S:=by
 unfold Ar at h
 split at h
 ·rename_i x ho
  exact ⟨_,fun w=>by simp [execOp,ho],h⟩
 ·rename_i x ho
  exact ⟨_,fun w=>by simp [execOp,ho],h⟩
 ·rename_i ho; rw [ho] at hq; cases hq
 ·rename_i ho; rw [ho] at hq; cases hq
 ·rename_i ho; rw [ho] at hq; cases hq
 ·rename_i ho; rw [ho] at hq; cases hq
 ·rename_i x ho
  split at h
  ·rename_i p hx
   obtain ⟨ad,rfl,h⟩:=Ch h
   exact ⟨_,fun w=>by simp [execOp,ho,hx],h⟩
  ·rename_i f fs cs hx
   exact ⟨_,fun w=>by simp [execOp,ho,hx],h⟩
  ·exact h.elim
 ·rename_i t parts ho
  split at h
  ·rename_i fs z hu hz
   split at h
   ·rename_i cs hall hf
    obtain ⟨i,hi,hiz⟩:=Option.bind_eq_some_iff.1 hz
    exact ⟨_,fun w=>Mb ho hu hi hiz (fun f hm=>List.all_eq_true.1 hall f hm) hf,h⟩
   ·exact h.elim
  ·exact h.elim
 ·rename_i ho; rw [ho] at hq; cases hq
 ·rename_i ho; rw [ho] at hq; cases hq
 ·rename_i t x ix ho
  split at h
  ·rename_i e base len _ k i hu hx hix
   split at h
   ·rename_i inf hinf
    obtain ⟨ad,rfl,h0,h1,h⟩:=Ch h
    exact ⟨_,fun w=>by simp [execOp,ho,Instr.indexAt,asIntOf,hx,hix,run_underlying hu,h0,h1,Ai hinf],h⟩
   ·exact h.elim
  ·rename_i len e ad k i hu hx hix
   split at h
   ·rename_i inf hinf
    obtain ⟨h0,h1,h⟩:=h
    exact ⟨_,fun w=>by simp [execOp,ho,Instr.indexAt,Instr.sureAddr,asIntOf,hx,hix,run_underlying hu,h0,h1,Ai hinf],h⟩
   ·exact h.elim
  ·exact h.elim
 ·rename_i t x ix ho
  split at h
  ·rename_i s k i hu hx hix
   obtain ⟨c,h0,hc,h⟩:=h
   exact ⟨_,fun w=>by simp [execOp,ho,Instr.index,asIntOf,hx,hix,run_underlying hu,h0,hc],h⟩
  ·exact BE h
 ·rename_i t x lo hi mx ho
  split at h
  ·rename_i s hu hx
   obtain ⟨n1,hr1,h⟩:=Bw.run (P:=P) (code:=.sliceAlen) h
   obtain ⟨n2,hr2,h⟩:=Bw.run (P:=P) (code:=.sliceB) h
   exact ⟨_,fun w=>Md ho hu hx (hr1 w) (hr2 w),h⟩
  ·rename_i e ad len cap hu hx
   split at h
   ·rename_i inf hinf
    obtain ⟨n1,hr1,h⟩:=Bw.run (P:=P) (code:=.sliceAcap) h
    obtain ⟨n2,hr2,h⟩:=Bw.run (P:=P) (code:=.sliceB) h
    exact ⟨_,fun w=>N1 ho hu hx hinf (hr1 w) (hr2 w),h⟩
   ·exact h.elim
  ·rename_i e ad len cap mx hu hx
   split at h
   ·rename_i inf hi hinf
    obtain ⟨n0,hr0,h⟩:=Bw.run (P:=P) (code:=.slice3Acap) h
    obtain ⟨n1,hr1,h⟩:=Bw.run (P:=P) (code:=.slice3B) h
    obtain ⟨n2,hr2,h⟩:=Bw.run (P:=P) (code:=.slice3C) h
    exact ⟨_,fun w=>N0 ho hu hx hinf (hr0 w) (hr1 w) (hr2 w),h⟩
   ·exact h.elim
  ·rename_i ln e ad hu hx
   split at h
   ·rename_i inf hinf
    obtain ⟨n1,hr1,h⟩:=Bw.run (P:=P) (code:=.sliceAlen) h
    obtain ⟨n2,hr2,h⟩:=Bw.run (P:=P) (code:=.sliceB) h
    exact ⟨_,fun w=>MZ ho hu hx hinf (hr1 w) (hr2 w),h⟩
   ·exact h.elim
  ·exact h.elim
 ·rename_i ho; rw [ho] at hq; cases hq
 ·rename_i ho; rw [ho] at hq; cases hq
 ·rename_i ho; rw [ho] at hq; cases hq
 ·rename_i ho; rw [ho] at hq; cases hq
 ·rename_i ho; rw [ho] at hq; cases hq
 ·rename_i ho; rw [ho] at hq; cases hq
 ·rename_i ho; rw [ho] at hq; cases hq
 ·rename_i ho; rw [ho] at hq; cases hq
 ·rename_i sr d x ho
  rw [ho] at hq
  split at h
  ·rename_i e hs hd
   simp [BL,AF,hs,hd] at hq
  ·rename_i e hs hd
   simp [BL,AF,hs,hd] at hq
  ·rename_i e hs hd
   simp [BL,AF,hs,hd] at hq
  ·rename_i e hs hd
   simp [BL,AF,hs,hd] at hq
  ·exact BE h
 ·rename_i op t x y t' ho
  obtain ⟨v,hr,hK⟩:=Mj.run (P:=P) h
  exact ⟨v,fun w=>by simp only [execOp,ho,Sem.run_bind,hr,Result.andThen_ok,Sem.run_pure],hK⟩
 ·rename_i c ho
  obtain ⟨callee,⟨args⟩,⟨argTypes⟩⟩:=c
  dsimp only at h
  split at h
  ·rw [ho] at hq; cases hq
  ·rename_i t x
   split at h
   ·rename_i s hu hx
    exact ⟨_,fun w=>by simp [execOp,ho,resolve,invoke,builtin,Builtin.len_,hx,run_underlying hu,goInt],h⟩
   ·rename_i e _ m _ hu hx
    exact ⟨_,fun w=>by simp [execOp,ho,resolve,invoke,builtin,Builtin.len_,hx,run_underlying hu,goInt],h⟩
   ·rename_i hu hx
    rw [ho] at hq
    simp [BL,AF,Pq,hu] at hq
   ·exact h.elim
  ·rw [ho] at hq; cases hq
  ·rename_i t x
   split at h
   ·rename_i e _ _ m hu hx
    exact ⟨_,fun w=>by simp [execOp,ho,resolve,invoke,builtin,Builtin.cap_,hx,run_underlying hu,goInt],h⟩
   ·exact h.elim
  ·rename_i x rest
   split at h
   ·rename_i k b hx
    split at h
    ·rename_i m hm
     refine ⟨_,fun w=>?_,h⟩
     have:=E6 (P:=P) (w:=w) _ _ _ hm
     simp only [execOp,ho,resolve,invoke,builtin,Builtin.max_,Sem.run_bind,Sem.run_pure,Result.andThen_ok,List.map_toArray,List.map_cons,hx,this]
    ·exact h.elim
   ·exact h.elim
  ·rename_i x rest
   split at h
   ·rename_i k b hx
    split at h
    ·rename_i m hm
     refine ⟨_,fun w=>?_,h⟩
     have:=E8 (P:=P) (w:=w) _ _ _ hm
     simp only [execOp,ho,resolve,invoke,builtin,Builtin.min_,Sem.run_bind,Sem.run_pure,Result.andThen_ok,List.map_toArray,List.map_cons,hx,this]
    ·exact h.elim
   ·exact h.elim
  ·rw [ho] at hq; cases hq
  ·rename_i t x
   split at h
   ·rename_i e p _ c hu hx
    obtain ⟨hc,hp⟩:=h
    refine ⟨_,fun w=>?_,hp⟩
    cases p with
    | none=>simp only [execOp,ho,resolve,invoke,builtin,Sem.run_bind,Sem.run_pure,Result.andThen_ok,List.map_toArray,List.map_cons,List.map_nil,hx,Ei]
    | some ad=>simp only [execOp,ho,resolve,invoke,builtin,Sem.run_bind,Sem.run_pure,Result.andThen_ok,List.map_toArray,List.map_cons,List.map_nil,hx,Ej (hc rfl)]
   ·exact h.elim
  ·rw [ho] at hq; cases hq
  ·rw [ho] at hq; cases hq
  ·rw [ho] at hq; cases hq
  ·exact BE h
  ·exact BE h
  ·exact BE h
  ·exact h.elim
 ·exact BE h
def BP (P:Program) (op:Op):Bool:=BL P op || AF P op
theorem Ar.still (hq:BP P o.op = true) (h:Ar P n o K l I S):∃ v,(∀ w,Am I S w -> (execOp (ev l) o).run P w = .ok (.value v) w) /\ Aa n o.dst v K l I S:=by
 cases hr:AF P o.op with
 | true=>exact HL hr h
 | false=>
  obtain ⟨v,hv,hp⟩:=h.val (by simpa [BP,hr] using hq)
  exact ⟨v,fun w _=>hv w,hp⟩
theorem EP {n:Nat} {ad:Addr} {s:ByteArray} {acc:ByteArray} (hsp:ad.spot = none) (hn:s.size = n) (h:∀ (i:Nat) (c:UInt8),s[i]? = some c -> w.cell? (ad.add i) = some (.int .u8 (c.toNat:Int))) :
  (loadBytes ad acc n).run P w = .ok (acc ++ s) w:=by
 have key:∀ (k:Nat) (acc:ByteArray) (j:Nat),j + k = n -> (loadBytes (ad.add j) acc k).run P w = .ok (acc ++ s.extract j n) w:=by
  intro k
  induction k with
  | zero=>
   intro acc j hj
   have:s.extract j n = ByteArray.empty:=by
    apply ByteArray.ext
    simp [ByteArray.data_extract]
    omega
   rw [this]
   simp [loadBytes]
  | succ k ih=>
   intro acc j hj
   have hlt:j < s.size:=by omega
   have hc:=h j _ (getElem?_pos s j hlt)
   have hl:(load (ad.add j)).run P w = .ok (.int .u8 ((s[j]'hlt).toNat:Int)) w:=by simp [load,Sem.run,hc]
   simp only [loadBytes,Sem.run_bind,hl,Result.andThen_ok]
   have hadd:(ad.add j).add 1 = ad.add (j + 1):=by
    obtain ⟨b,o,sp⟩:=ad
    dsimp only at hsp; subst hsp
    have e:∀ k,(⟨b,o,none⟩:Addr).add k = ⟨b,o + k,none⟩:=fun k=>by
     unfold Addr.add; split
     ·rename_i h; subst h; rfl
     ·rfl
    rw [e,e]
    have e':(⟨b,o + j,none⟩:Addr).add 1 = ⟨b,o + j + 1,none⟩:=rfl
    rw [e',Nat.add_assoc]
   rw [hadd,ih _ (j + 1) (by omega)]
   congr 1
   have hx:s.extract j n = ByteArray.empty.push (s[j]'hlt) ++ s.extract (j + 1) n:=by
    apply ByteArray.ext
    simp only [ByteArray.data_extract,ByteArray.data_append,ByteArray.data_push]
    apply Array.ext'
    simp only [Array.toList_extract,Array.toList_append,Array.toList_push,ByteArray.data_empty,List.extract_eq_take_drop,List.nil_append]
    have hd:s.data.toList.drop j = s[j]'hlt :: s.data.toList.drop (j + 1):=by
     rw [List.drop_eq_getElem_cons (by simpa using hlt)]; rfl
    rw [hd,show n - j = (n - (j + 1)) + 1 by omega,List.take_succ_cons]
    rfl
   rw [hx]
   have hb:(s[j]'hlt).toNat.toUInt8 = s[j]'hlt:=by simp
   apply ByteArray.ext
   simp [ByteArray.data_append,ByteArray.data_push,hb]
 have:=key n acc 0 (by omega)
 have e0:ad.add 0 = ad:=rfl
 rw [e0] at this
 rw [this]
 have:s.extract 0 n = s:=by rw [<- hn]; exact ByteArray.extract_zero_size
 rw [this]
theorem Rj.run {t t' ty u:TypeId} {k:IntKind} {p:Option Addr} {m:Int} {K:ByteArray -> SH -> Prop} (hu:P.underlying t = some (.pointer u)) (h:Rj P u I S p m K) (hw:Am I S w) :
  ∃ s w' T,(Builtin.unsafeString_ #[t,t'] ty #[.pointer p,.int k m]).run P w = .ok (.string s) w' /\ Am I T w' /\ K s T:=by
 rcases h with ⟨rfl,hK⟩ | ⟨ad,i,cs,e,fz,s,rfl,h0,h1,hi,hl,hb,hK⟩
 ·refine ⟨_,w,S,?_,hw,hK⟩
  have e:Builtin.unsafeString_ #[t,t'] ty #[.pointer p,.int k 0] = (asInt (.int k 0) >>= fun n=>_):=rfl
  rw [e,Sem.run_bind,AM,Sem.run_pure,Result.andThen_ok]
  cases p <;> simp
 ·have hown:=hw.own _ (List.mem_of_getElem? hi)
  dsimp only at hown
  have hsh:w.shape? ad.block = some (e,cs.size):=by simp [World.shape?,hown]
  have hva:(variablesAt ad u m.toNat).run P w = .ok true w:=by simp [variablesAt,program,shape,Sem.run,hsh,hl]
  have hel:(elemOf t).run P w = .ok u w:=by simp [elemOf,run_underlying hu]
  obtain ⟨hbs,hbc⟩:=hb
  have hpos:0 < s.size:=by omega
  have hsp:ad.spot = none:=by
   obtain ⟨h,_⟩:=hbc 0 _ (getElem?_pos s 0 hpos)
   exact h
  have hld:=EP (P:=P) (w:=w) (acc:=ByteArray.empty) hsp hbs (fun i c hc=>(hbc i c hc).run hw)
  have hn0 : ¬ (m = 0):=by omega
  have hn1 : ¬ (m < 0):=by omega
  have hn2 : ¬ (m > 9223372036854775807):=by omega
  refine ⟨s,w.freeze ad m.toNat,_,?_,hw.set (w':=w.freeze ad m.toNat) hi ?_ ?_ ?_ ?_ ?_ (by simp only [World.freeze]; split <;> rfl),hK⟩
  ·have e:Builtin.unsafeString_ #[t,t'] ty #[.pointer (some ad),.int k m] = (asInt (.int k m) >>= fun n=>_):=rfl
   rw [e,Sem.run_bind,AM,Sem.run_pure,Result.andThen_ok]
   simp [hn0,hn1,hn2,hva,hel,hld,freeze,Sem.run]
  all_goals (have hn3:m.toNat ≠ 0:=by omega)
  ·simp [World.freeze,hn3]
  ·simp [World.freeze,hn3]
  ·simp [World.freeze,hn3]
  ·simp only [World.freeze,hn3,if_false]
   rw [Array.getElem?_modify,if_pos rfl,hown]
   rfl
  ·intro b' hne
   simp only [World.freeze,hn3,if_false]
   rw [Array.getElem?_modify,if_neg (fun e=>hne e.symm)]
theorem Mk.run {t ty e:TypeId} {i:TypeInfo} {z:Value} {p:Option Addr} {m c:Nat} {K:SH -> Prop} (hu:P.underlying t = some (.slice e)) (hi:P.info? e = some i) (hz:i.zero = some z) (h:Mk z.cells.toList S p m K) (hw:Am I S w) :
  ∃ w' T,(Builtin.clear_ #[t] ty #[.slice p m c]).run P w = .ok (.tuple #[]) w' /\ Am I T w' /\ K T:=by
 rcases h with ⟨rfl,hK⟩ | ⟨ad,rfl,hm,hst⟩
 ·refine ⟨w,S,?_,hw,hK⟩
  cases p <;> simp [Builtin.clear_,run_underlying hu]
 ·obtain ⟨T,w',h1,h2,h3⟩:=hst.runC (P:=P) hw
  refine ⟨w',T,?_,h2,h3⟩
  obtain ⟨k,rfl⟩:∃ k,m = k + 1:=⟨m - 1,by omega⟩
  have hzc:=AL z.cells (k + 1)
  simp [Builtin.clear_,run_underlying hu,zeroValue,typeInfo,hi,hz,hzc,h1]
theorem Hx {c:Call} (ho:o.op = .call c) (h:match c.callee,c.argTypes.toList,c.args.toList with
  | .value f,_,args=>(match ev l f with
   | .func (.func fid) fs cs=>(match Bq P fid with
    | true=>Runs P fid (fs.toList ++ args.map (ev l) ++ cs.toList).toArray I S fun v J T=>Ht P o.type v fun v=>Aa n o.dst v K l J T
    | false=>DW P fid (fs.toList ++ args.map (ev l) ++ cs.toList).toArray I S fun v J T=>Ht P o.type v fun v=>Aa n o.dst v K l J T)
   | _=>False)
  | .builtin .len,[t],[x]=>(match P.underlying t,ev l x with
   | some .string,.string s=>Aa n o.dst (.int .i64 (s.size:Int)) K l I S
   | some (.slice _),.slice _ m _=>Aa n o.dst (.int .i64 (m:Int)) K l I S
   | some (.map _ _),.map m=>∃ c:Nat,Fa I S m c /\ Aa n o.dst (.int .i64 (c:Int)) K l I S
   | _,_=>False)
  | .builtin .delete,[t,_],[x,k]=>(match P.underlying t,ev l x with
   | some (.map kt _),.map m=>(match P.underlying kt with
    | some kd=>(match E4 kd with
     | true=>Gz S m kd (ev l k) fun T=>Aa n o.dst (.tuple #[]) K l I T
     | false=>(match GW kd && Dz P 4 kt (ev l k) with
      | true=>Hg P kt S m (ev l k) fun T=>Aa n o.dst (.tuple #[]) K l I T
      | false=>False))
    | none=>False)
   | _,_=>False)
  | .builtin .cap,[t],[x]=>(match P.underlying t,ev l x with
   | some (.slice _),.slice _ _ m=>Aa n o.dst (.int .i64 (m:Int)) K l I S
   | _,_=>False)
  | .builtin .max,_,x :: rest=>(match ev l x with
   | .int k a=>(match Hh k a (rest.map (ev l)) with | some m=>Aa n o.dst (.int k m) K l I S | none=>False)
   | _=>False)
  | .builtin .min,_,x :: rest=>(match ev l x with
   | .int k a=>(match Hi k a (rest.map (ev l)) with | some m=>Aa n o.dst (.int k m) K l I S | none=>False)
   | _=>False)
  | .builtin .append,[t,t'],[s,x]=>(match P.underlying t with
   | some (.slice e)=>(match P.info? e with
    | some i=>(match i.zero with
     | some z=>(match Nat.beq z.cells.size i.size && Nat.blt 0 i.size with
      | true=>AA e i.size i.bytes z.cells.toList (P.underlying t') I S (ev l s) (ev l x) fun p m c T=>Aa n o.dst (.slice p m c) K l I T
      | false=>False)
     | none=>False)
    | none=>False)
   | _=>False)
  | .builtin .unsafeSliceData,[t],[x]=>(match P.underlying t,ev l x with
   | some (.slice _),.slice p _ c=>(p.isSome = true -> c ≠ 0) /\ Aa n o.dst (.pointer p) K l I S
   | _,_=>False)
  | .builtin .unsafeString,[t,_],[x,y]=>(match P.underlying t,ev l x,ev l y with
   | some (.pointer u),.pointer p,.int _ m=>Rj P u I S p m fun s T=>Aa n o.dst (.string s) K l I T
   | _,_,_=>False)
  | .builtin .clear,[t],[x]=>(match P.underlying t,ev l x with
   | some (.slice e),.slice p m _=>(match (P.info? e).bind (·.zero) with
    | some z=>Mk z.cells.toList S p m fun T=>Aa n o.dst (.tuple #[]) K l I T
    | none=>False)
   | _,_=>False)
  | .builtin .copy,[t,_],[d,x]=>(match P.underlying t with
   | some (.slice e)=>(match P.info? e with
    | some i=>LL i.size I S (ev l d) (ev l x) fun m T=>Aa n o.dst (.int .i64 (m:Int)) K l I T
    | none=>False)
   | _=>False)
  | .builtin .complex,_,_=>(match AB P (execOp (ev l) o) with | some (.value v)=>Aa n o.dst v K l I S | _=>False)
  | .builtin .real,_,_=>(match AB P (execOp (ev l) o) with | some (.value v)=>Aa n o.dst v K l I S | _=>False)
  | .builtin .imag,_,_=>(match AB P (execOp (ev l) o) with | some (.value v)=>Aa n o.dst v K l I S | _=>False)
  | _,_,_=>False) (hw:Am I S w) (ha:Ap n l a):o.wp P a w (NX n I K) Q:=by
 obtain ⟨callee,⟨args⟩,⟨argTypes⟩⟩:=c
 dsimp only at h
 split at h
 ·rename_i f _ _
  split at h
  ·rename_i fid fs cs hf
   split at h
   ·rename_i hc
    refine N7 ?_ h hw ha
    unfold Bq at hc
    split at hc
    ·rename_i fn hfn
     simp only [Bool.and_eq_true,Bool.not_eq_true'] at hc
     have hb:fn.body.isNone = false:=by cases hbd:fn.body <;> simp [hbd] at hc ⊢
     have hca:fs ++ (args.map (ev l)).toArray ++ cs = (fs.toList ++ args.map (ev l) ++ cs.toList).toArray:=by simp
     simp only [execOp,ho,resolve,hf,Deferred.ofValue,Sem.run_bind,Sem.run_pure,Result.andThen_ok,invoke,List.map_toArray,hca]
     simp only [callFunc,program,Sem.run,Sem.run_bind,Result.andThen_ok,hfn,hc.1,hb,Bool.false_eq_true,if_false,Sem.run_pure]
    ·cases hc
   ·obtain ⟨v,w',J,T,hr,hle,hs,hv⟩:=h w hw
    have hca:fs ++ (args.map (ev l)).toArray ++ cs = (fs.toList ++ args.map (ev l) ++ cs.toList).toArray:=by simp
    have hx:(execOp (ev l) o).run P w = .ok (.value v) w':=by
     simp only [execOp,ho,resolve,hf,Deferred.ofValue,Sem.run_bind,Sem.run_pure,Result.andThen_ok,invoke,List.map_toArray,hca,hr]
    simp only [Oper.wp,ha.eval,hx,Oper.upon]
    exact (EW hv).nx ha hle hs
  ·exact h.elim
 ·rename_i t x
  split at h
  ·rename_i s hu hx
   refine Af ?_ h hw ha
   simp [execOp,ho,resolve,invoke,builtin,Builtin.len_,hx,run_underlying hu,goInt]
  ·rename_i e _ m _ hu hx
   refine Af ?_ h hw ha
   simp [execOp,ho,resolve,invoke,builtin,Builtin.len_,hx,run_underlying hu,goInt]
  ·rename_i kt et m hu hx
   obtain ⟨c,hl,hp⟩:=h
   refine Af ?_ hp hw ha
   cases m with
   | none=>
    have:c = 0:=hl
    subst this
    simp [execOp,ho,resolve,invoke,builtin,Builtin.len_,hx,run_underlying hu,goInt]
   | some r=>
    obtain ⟨es,clock,hc,rfl⟩:=hl
    simp [execOp,ho,resolve,invoke,builtin,Builtin.len_,hx,run_underlying hu,goInt,getObj,Sem.run,hc.run hw]
  ·exact h.elim
 ·rename_i t t2 x k
  split at h
  ·rename_i kt et m hu hx
   split at h
   ·rename_i kd hk
    split at h
    ·rename_i hkd
     obtain ⟨T,w',hr,hs,hK⟩:=HD (t2:=t2) (ty:=o.type) hu hk hkd h hw
     refine Af ?_ hK hs ha
     simp only [execOp,ho,resolve,invoke,builtin,Sem.run_bind,Sem.run_pure,Result.andThen_ok,List.map_toArray,List.map_cons,List.map_nil,hx,hr]
    ·split at h
     ·rename_i hb
      simp only [Bool.and_eq_true] at hb
      obtain ⟨T,w',hr,hs,hK⟩:=H0 (t2:=t2) (ty:=o.type) hu hk hb.1 hb.2 h hw
      refine Af ?_ hK hs ha
      simp only [execOp,ho,resolve,invoke,builtin,Sem.run_bind,Sem.run_pure,Result.andThen_ok,List.map_toArray,List.map_cons,List.map_nil,hx,hr]
     ·exact h.elim
   ·exact h.elim
  ·exact h.elim
 ·rename_i t x
  split at h
  ·rename_i e _ _ m hu hx
   refine Af ?_ h hw ha
   simp [execOp,ho,resolve,invoke,builtin,Builtin.cap_,hx,run_underlying hu,goInt]
  ·exact h.elim
 ·rename_i x rest
  split at h
  ·rename_i k b hx
   split at h
   ·rename_i m hm
    refine Af ?_ h hw ha
    have:=E6 (P:=P) (w:=w) _ _ _ hm
    simp only [execOp,ho,resolve,invoke,builtin,Builtin.max_,Sem.run_bind,Sem.run_pure,Result.andThen_ok,List.map_toArray,List.map_cons,hx,this]
   ·exact h.elim
  ·exact h.elim
 ·rename_i x rest
  split at h
  ·rename_i k b hx
   split at h
   ·rename_i m hm
    refine Af ?_ h hw ha
    have:=E8 (P:=P) (w:=w) _ _ _ hm
    simp only [execOp,ho,resolve,invoke,builtin,Builtin.min_,Sem.run_bind,Sem.run_pure,Result.andThen_ok,List.map_toArray,List.map_cons,hx,this]
   ·exact h.elim
  ·exact h.elim
 ·rename_i t t' s x
  split at h
  ·rename_i e hu
   split at h
   ·rename_i i hi
    split at h
    ·rename_i z hz
     split at h
     ·rename_i hb
      simp only [Bool.and_eq_true] at hb
      obtain ⟨p,m,cc,w',T,hr,hs,hK⟩:=AA.run (P:=P) (ty:=o.type) hu hi hz (Nat.eq_of_beq_eq_true hb.1) (by simpa using hb.2) h hw
      refine Af ?_ hK hs ha
      simp only [execOp,ho,resolve,invoke,builtin,Sem.run_bind,Sem.run_pure,Result.andThen_ok,List.map_toArray,List.map_cons,List.map_nil,hr]
     ·exact h.elim
    ·exact h.elim
   ·exact h.elim
  ·exact h.elim
 ·rename_i t x
  split at h
  ·rename_i e p _ c hu hx
   obtain ⟨hc,hp⟩:=h
   refine Af ?_ hp hw ha
   cases p with
   | none=>simp only [execOp,ho,resolve,invoke,builtin,Sem.run_bind,Sem.run_pure,Result.andThen_ok,List.map_toArray,List.map_cons,List.map_nil,hx,Ei]
   | some ad=>simp only [execOp,ho,resolve,invoke,builtin,Sem.run_bind,Sem.run_pure,Result.andThen_ok,List.map_toArray,List.map_cons,List.map_nil,hx,Ej (hc rfl)]
  ·exact h.elim
 ·rename_i t t' x y
  split at h
  ·rename_i u p k m hu hx hy
   obtain ⟨s,w',T,hr,hs,hK⟩:=Rj.run (t':=t') (ty:=o.type) (k:=k) hu h hw
   refine Af ?_ hK hs ha
   simp only [execOp,ho,resolve,invoke,builtin,Sem.run_bind,Sem.run_pure,Result.andThen_ok,List.map_toArray,List.map_cons,List.map_nil,hx,hy,hr]
  ·exact h.elim
 ·rename_i t x
  split at h
  ·rename_i e p m cc hu hx
   split at h
   ·rename_i z hz
    obtain ⟨i,hi,hiz⟩:=Option.bind_eq_some_iff.1 hz
    obtain ⟨w',T,hr,hs,hK⟩:=Mk.run (c:=cc) (ty:=o.type) hu hi hiz h hw
    refine Af ?_ hK hs ha
    simp only [execOp,ho,resolve,invoke,builtin,Sem.run_bind,Sem.run_pure,Result.andThen_ok,List.map_toArray,List.map_cons,List.map_nil,hx,hr]
   ·exact h.elim
  ·exact h.elim
 ·rename_i t t' d x
  split at h
  ·rename_i e hu
   split at h
   ·rename_i i hi
    obtain ⟨m,w',T,hr,hs,hK⟩:=LL.run (P:=P) (sT:=t') (ty:=o.type) hu hi h hw
    refine Af ?_ hK hs ha
    simp only [execOp,ho,resolve,invoke,builtin,Sem.run_bind,Sem.run_pure,Result.andThen_ok,List.map_toArray,List.map_cons,List.map_nil,hr]
   ·exact h.elim
  ·exact h.elim
 ·exact DJ h hw ha
 ·exact DJ h hw ha
 ·exact DJ h hw ha
 ·exact h.elim
theorem Ar.sound (h:Ar P n o K l I S) (hw:Am I S w) (ha:Ap n l a):o.wp P a w (NX n I K) Q:=by
 by_cases hq:BL P o.op = true
 ·obtain ⟨v,hr,hK⟩:=h.val hq
  exact Af (hr w) hK hw ha
 by_cases hrd:AF P o.op = true
 ·obtain ⟨v,hr,hK⟩:=HL hrd h
  exact Af (hr w hw) hK hw ha
 unfold Ar at h
 split at h
 ·rename_i x ho; rw [ho] at hq; exact absurd rfl hq
 ·rename_i x ho; rw [ho] at hq; exact absurd rfl hq
 ·rename_i t x ho
  split at h
  ·rename_i ad hx
   obtain ⟨v,hr,hK⟩:=h.run
   exact Af (by simp [execOp,ho,hx,hr w hw]) hK hw ha
  ·exact h.elim
 ·rename_i t x y ho
  split at h
  ·rename_i ad d hx hd
   split at h
   ·rename_i hb
    obtain ⟨T,w',hr,hs,hK⟩:=Ad.run hd (Nat.eq_of_beq_eq_true hb) h hw
    exact CW (by simp [execOp,ho,hx,hr]) hK hs ha
   ·exact h.elim
  ·exact h.elim
 ·rename_i t ho
  split at h
  ·rename_i z hz
   obtain ⟨i,hi,hiz⟩:=Option.bind_eq_some_iff.1 hz
   refine Af (T:=(w.heap.size,.cells z.cells t (0,0)) :: S) (w':={ w with heap:=w.heap.push (.cells z.cells t (0,0)) }) ?_ (h _) (hw.new _) ha
   simp [execOp,ho,Instr.alloc,zeroValue,typeInfo,program,Sem.run,hi,hiz,newVar,newRow,newObj]
  ·exact h.elim
 ·rename_i t x ho
  refine Af (T:=(w.heap.size,.cells (ev l x).cells t (0,0)) :: S) (w':={ w with heap:=w.heap.push (.cells (ev l x).cells t (0,0)) }) ?_ (h _) (hw.new _) ha
  simp [execOp,ho,Instr.box,newVar,newRow,newObj,Sem.run]
 ·rename_i ho; rw [ho] at hq; exact absurd rfl hq
 ·rename_i ho; rw [ho] at hq; exact absurd rfl hq
 ·rename_i t len parts ho
  split at h
  ·rename_i e hu
   split at h
   ·rename_i i hi
    split at h
    ·rename_i z hz
     split at h
     ·rename_i hb
      split at h
      ·rename_i cs hf
       simp only [Bool.and_eq_true] at hb
       have h1:=Nat.eq_of_beq_eq_true hb.1
       have h2:=Nat.le_of_ble_eq_true hb.2
       refine Af (T:=(w.heap.size,.cells cs e (0,0)) :: S) (w':={ w with heap:=w.heap.push (.cells cs e (0,0)) }) ?_ (h _) (hw.new _) ha
       exact Ee ho hu hi hz h1 h2 hf
      ·exact h.elim
     ·exact h.elim
    ·exact h.elim
   ·exact h.elim
  ·exact h.elim
 ·rename_i t x y ho
  split at h
  ·rename_i e _ len _ cap hu hx hy
   split at h
   ·rename_i i hi
    split at h
    ·rename_i z hz
     split at h
     ·rename_i hb
      obtain ⟨h0,h1,h2,h3,h⟩:=h
      exact Af (HF ho hu hx hy hi hz (Nat.eq_of_beq_eq_true hb) h0 h1 h2 h3) (h w.heap.size) (hw.new _) ha
     ·exact h.elim
    ·exact h.elim
   ·exact h.elim
  ·exact h.elim
 ·rename_i ho; rw [ho] at hq; exact absurd rfl hq
 ·rename_i ho; rw [ho] at hq; exact absurd rfl hq
 ·rename_i ho; rw [ho] at hq; exact absurd rfl hq
 ·rename_i t ho
  refine Af (T:=(w.heap.size,.map #[] 0) :: S) (w':={ w with heap:=w.heap.push (.map #[] 0) }) ?_ (h _) (hw.new _) ha
  simp [execOp,ho,Instr.makeMap,newObj,Sem.run]
 ·rename_i t x ho
  split at h
  ·rename_i hu hx
   refine Af (T:=(w.heap.size,.map #[] 0) :: S) (w':={ w with heap:=w.heap.push (.map #[] 0) }) ?_ (h _) (hw.new _) ha
   simp [execOp,ho,Instr.makeMap,newObj,Sem.run,hx,run_underlying hu,AM]
  ·exact h.elim
 ·rename_i t x ho
  split at h
  ·rename_i mm hu hx
   obtain ⟨m,rfl,es,clock,hm,h⟩:=M5 h
   refine Af (T:=(w.heap.size,.mapIter (some m) clock #[] clock) :: S) (w':={ w with heap:=w.heap.push (.mapIter (some m) clock #[] clock) }) ?_ (h _) (hw.new _) ha
   have hgm:(getObj m).run P w = .ok (.map es clock) w:=by simp [getObj,Sem.run,hm.run hw]
   simp [execOp,ho,Instr.range,newObj,Sem.run,hx,run_underlying hu,hgm]
  ·exact h.elim
 ·rename_i it ho
  split at h
  ·rename_i ad hx
   obtain ⟨v,w',T,hr,hs,hv⟩:=S2.run (P:=P) (ty:=o.type) h hw
   rcases hv with ⟨rfl,rfl,hK⟩ | ⟨k,u,rfl,hK⟩
   ·exact Af (by simp [execOp,ho,hx,hr]) hK hs ha
   ·exact Af (by simp [execOp,ho,hx,hr]) hK hs ha
  ·exact h.elim
 ·rename_i it ho
  split at h
  ·rename_i ad hx
   obtain ⟨m,since,seen,stamp,es,clock,e,h0,hi,hb,hm,he,hK⟩:=h
   have hr:(Instr.entry (.pointer (some ad))).run P w = .ok (.tuple #[e.key,e.val]) w:=by
    obtain ⟨blk,off,sp⟩:=ad
    dsimp only at h0 hi; subst h0
    have hg:(getObj blk).run P w = .ok (.mapIter (some m) since seen clock) w:=by
     have:=hw.own _ hi; dsimp only at this; simp [getObj,Sem.run,this]
    have hgm:(getObj m).run P w = .ok (.map es clock) w:=by simp [getObj,Sem.run,hm.run hw]
    simp [Instr.entry,hg,hgm,hb,he]
   exact Af (by simp [execOp,ho,hx,hr]) hK hw ha
  ·exact h.elim
 ·rename_i t m k v ho
  split at h
  ·rename_i kt et m hu hx
   split at h
   ·rename_i kd hk
    split at h
    ·rename_i hkd
     obtain ⟨T,w',hr,hs,hK⟩:=Cx hu hk hkd h hw
     exact CW (by simp [execOp,ho,hx,hr]) hK hs ha
    ·exact h.elim
   ·exact h.elim
  ·exact h.elim
 ·rename_i ho; rw [ho] at hrd; exact absurd rfl hrd
 ·rename_i t m k v ho
  split at h
  ·rename_i kt et m hu hx
   split at h
   ·rename_i kd hk
    split at h
    ·rename_i hkd
     obtain ⟨T,w',hr,hs,hK⟩:=Cx hu hk hkd h hw
     exact CW (by simp [execOp,ho,hx,hr]) hK hs ha
    ·split at h
     ·rename_i hb
      simp only [Bool.and_eq_true] at hb
      obtain ⟨T,w',hr,hs,hK⟩:=Eg hu hk hb.1 hb.2 h hw
      exact CW (by simp [execOp,ho,hx,hr]) hK hs ha
     ·exact h.elim
   ·exact h.elim
  ·exact h.elim
 ·rename_i sr d x ho
  rw [ho] at hq hrd
  split at h
  ·rename_i e hs hd; simp [AF,hs,hd] at hrd
  ·rename_i e hs hd; simp [AF,hs,hd] at hrd
  ·rename_i e hs hd; simp [AF,hs,hd] at hrd
  ·rename_i e hs hd
   split at h
   ·rename_i s he hx
    obtain ⟨hm,h⟩:=h
    have hr:=Lib.run_convert_string_bytes w sr d e s hs hd he
    have hge:=grownCap_ge w s.size 0 e
    have hcm:=grownCap_le_maxLen w s.size 0 e hm
    have hcells:Lib.bytesCells w e s = (byteCells s ++ AX (grownCap w s.size 0 e - s.size) [.int .u8 0]).toArray:=by
     have hrep:∀ k,AX k [Value.int .u8 0] = List.replicate k (.int .u8 0):=by
      intro k; induction k with
      | zero=>rfl
      | succ k ih=>rw [AX,ih]; rfl
     apply Array.ext'
     simp [Lib.bytesCells,byteCells,hrep]
    have hsize:(Lib.bytesCells w e s).size = grownCap w s.size 0 e:=by
     rw [hcells]; simp [byteCells_length,AU]; omega
    refine Af (T:=(w.heap.size,.cells (byteCells s ++ AX (grownCap w s.size 0 e - s.size) [.int .u8 0]).toArray e (grownCap w s.size 0 e,grownCap w s.size 0 e + 1)) :: S) (w':=Lib.bytesWorld w e s) ?_ (h _ _ hge hcm) ?_ ha
    ·simp only [execOp,ho,hx,Sem.run_bind,hr,Result.andThen_ok,Sem.run_pure]
    ·have hnew:=Lib.bytesWorld_at_new w e s
     rw [hsize,hcells] at hnew
     have lt:∀ b o,w.heap[b]? = some o -> b < w.heap.size:=by
      intro b o hb
      rcases Nat.lt_or_ge b w.heap.size with h | h
      ·exact h
      ·rw [Array.getElem?_eq_none h] at hb; cases hb
     have old:∀ b o,w.heap[b]? = some o -> (Lib.bytesWorld w e s).heap[b]? = some o:=fun b o hb=>by rw [Lib.bytesWorld_at_old w e s b (lt b o hb)]; exact hb
     refine ⟨hw.os,hw.tape,hw.out,Nat.le_trans hw.dr (by show w.drawn <= ((w.drew.alloc _).freeze _ 1).drawn; rw [World.freeze,if_neg (by decide)]; exact Nat.le_succ _),fun b o hb=>old _ _ (hw.im b o hb),fun p hp=>?_,fun p hp=>?_,?_⟩
     ·rcases List.mem_cons.1 hp with rfl | hp
      ·exact hnew
      ·exact old _ _ (hw.own p hp)
     ·rcases List.mem_cons.1 hp with rfl | hp
      ·cases hn:I.at_ w.heap.size with
       | none=>rfl
       | some o=>have:=lt _ _ (hw.im _ _ hn); omega
      ·exact hw.apart p hp
     ·simp only [List.map_cons,List.nodup_cons]
      refine ⟨fun hm=>?_,hw.nodup⟩
      obtain ⟨p,hp,he⟩:=List.mem_map.1 hm
      have:=lt _ _ (hw.own p hp); omega
   ·exact h.elim
  ·rename_i h1 h2 h3 h4
   exfalso
   simp only [BL,hrd] at hq
   first | exact hq trivial | (split at hq <;> first | exact absurd ‹_› (h4 _ ‹_›) | exact absurd rfl hq)
 ·rename_i ho; rw [ho] at hq; exact absurd rfl hq
 ·rename_i c ho
  exact Hx ho h hw ha
 ·exact DJ h hw ha
end
def AP (P:Program) (n:Nat) (ops:Array Oper):List Oper -> (Fr -> A1 -> SH -> Prop) -> Fr -> A1 -> SH -> Prop
 | [],K,l,I,S=>K l I S
 | o :: rest,K,l,I,S=>match o.guard with
  | none=>Ar P n o (AP P n ops rest K) l I S
  | some (j,b)=>match (ops[j]?).bind (·.dst) with
   | some d=>(match l d with
    | .bool t=>A2 t
      (match b with | true=>Ar P n o (AP P n ops rest K) (Bv l d (.bool true)) I S | false=>Aa n o.dst undef (AP P n ops rest K) (Bv l d (.bool true)) I S)
      (match b with | true=>Aa n o.dst undef (AP P n ops rest K) (Bv l d (.bool false)) I S | false=>Ar P n o (AP P n ops rest K) (Bv l d (.bool false)) I S)
    | .tuple _=>Aa n o.dst undef (AP P n ops rest K) l I S
    | _=>False)
   | none=>False
section
variable {P:Program} {n:Nat} {Q:Exit -> Fr -> A1 -> SH -> Prop} {l:Fr} {I:A1} {S:SH} {a:Act} {w:World} {ops:Array Oper}
theorem HM (ha:Ap n l a) {j d:Nat} (hd:(ops[j]?).bind (·.dst) = some d):yielded ops a.tmps j = (match l d with | .bool b=>some b | _=>none):=by
 unfold yielded
 rw [hd]
 simp only [Option.bind_some]
 have h:=ha.at_ d
 by_cases hlt:d < a.tmps.size
 ·have:a.tmps[d]? = some (l d):=by
   rw [Array.getElem?_eq_getElem hlt]
   simp only [Array.getD,hlt,dite_true] at h
   rw [<- h]; rfl
  rw [this]
  cases l d <;> rfl
 ·have h2:a.tmps[d]? = none:=Array.getElem?_eq_none (by omega)
  have h3:l d = undef:=by rw [<- h]; simp [Array.getD,hlt]
  rw [h2,h3]; rfl
theorem AC {o:Oper} {K1 K2:Fr -> Prop} (ha:Ap n l a)
  (h:match o.guard with
   | none=>K1 l
   | some (j,b)=>match (ops[j]?).bind (·.dst) with
    | some d=>(match l d with
     | .bool t=>A2 t (match b with | true=>K1 (Bv l d (.bool true)) | false=>K2 (Bv l d (.bool true))) (match b with | true=>K2 (Bv l d (.bool false)) | false=>K1 (Bv l d (.bool false)))
     | .tuple _=>K2 l
     | _=>False)
    | none=>False):(Region.wanted o (yielded ops a.tmps) = true /\ K1 l) \/ (Region.wanted o (yielded ops a.tmps) = false /\ K2 l):=by
 cases hg:o.guard with
 | none=>simp only [hg] at h; exact .inl ⟨by simp [Region.wanted,hg],h⟩
 | some g=>
  obtain ⟨j,b⟩:=g
  simp only [hg] at h
  split at h
  ·rename_i d hd
   have hy:=HM (ops:=ops) ha hd
   split at h
   ·rename_i t ht
    rw [ht] at hy
    have e:=FB ht
    cases t <;> cases b <;> simp only [A2] at h <;> rw [<- e] at h
    ·exact .inl ⟨by simp [Region.wanted,hg,hy],h⟩
    ·exact .inr ⟨by simp [Region.wanted,hg,hy],h⟩
    ·exact .inr ⟨by simp [Region.wanted,hg,hy],h⟩
    ·exact .inl ⟨by simp [Region.wanted,hg,hy],h⟩
   ·rename_i vs ht
    rw [ht] at hy
    exact .inr ⟨by simp [Region.wanted,hg,hy],h⟩
   ·exact h.elim
  ·exact h.elim
theorem AP.sound {Q':Exit -> Act -> World -> Prop}:∀ (L:List Oper) (K:Fr -> A1 -> SH -> Prop) (l:Fr) (I:A1) (S:SH) (a:Act) (w:World),AP P n ops L K l I S -> Am I S w -> Ap n l a ->
  (∀ a w,NX n I K a w -> Q' .normal a w) -> wpList P ops Q' L a w
 | [],K,l,I,S,a,w,h,hw,ha,hQ=>hQ a w ⟨l,I,S,ha,A1.le.refl I,hw,h⟩
 | o :: L,K,l,I,S,a,w,h,hw,ha,hQ=>by
  have hk:∀ (J:A1),I.le J -> ∀ a w,NX n J K a w -> Q' .normal a w:=fun J hJ a w ⟨l,J',T,h1,h2,h3,h4⟩=>hQ a w ⟨l,J',T,h1,hJ.trans h2,h3,h4⟩
  simp only [AP] at h
  rcases AC (o:=o) (ops:=ops) (K1:=fun l=>Ar P n o (AP P n ops L K) l I S) (K2:=fun l=>Aa n o.dst undef (AP P n ops L K) l I S) ha h with ⟨hwn,h⟩ | ⟨hwn,h⟩
  ·unfold wpList
   rw [if_pos hwn]
   refine .inl (Oper.wp_mono ?_ (Ar.sound (Q:=Q') h hw ha))
   rintro a' w' ⟨l',J,T,h1,h2,h3,h4⟩
   exact AP.sound L K l' J T a' w' h4 h3 h1 (hk J h2)
  ·unfold wpList
   rw [if_neg (by rw [hwn]; simp)]
   obtain ⟨l',J,T,h1,h2,h3,h4⟩:=Aa.nx (w:=w) h ha (A1.le.refl I) hw
   exact AP.sound L K l' J T _ w h4 h3 h1 (hk J h2)
theorem WP.region {id:Nat} (h:AP P n ops ops.toList (Q .normal) l I S):WP P n (.region id ops false) Q l I S:=
 fun w a hw ha=>wp_region_list (AP.sound ops.toList _ l I S a w h hw ha fun _ _ h=>h)
def Fb (P:Program) (n:Nat):Code -> (Exit -> Fr -> A1 -> SH -> Prop) -> Fr -> A1 -> SH -> Prop
 | .skip,Q=>Q .normal
 | .label _,Q=>Q .normal
 | .region id ops d,Q=>(match d with | false=>AP P n ops ops.toList (Q .normal) | true=>WP P n (.region id ops true) Q)
 | .seq x y,Q=>Fb P n x (Dn (Fb P n y Q) Q)
 | .cond c x y,Q=>fun l I S=>(match ev l c with | .bool t=>A2 t (Fb P n x Q l I S) (Fb P n y Q l I S) | _=>False)
 | .block id c,Q=>Fb P n c (DU id Q)
 | .exit id,Q=>Q (.exit id)
 | .goto t,Q=>Q (.goto t)
 | .ret,Q=>Q .ret
 | .loop c,Q=>WP P n (.loop c) Q
 | .scope c,Q=>WP P n (.scope c) Q
 | .rangeFunc f ps x y,Q=>WP P n (.rangeFunc f ps x y) Q
 | .refuse _,_=>fun _ _ _=>False
theorem WP.of_q {c:Code} {e:Exit} (hc:∀ (Q':Exit -> Act -> World -> Prop) a w,Q' e a w -> c.wp P Q' a w) (h:Q e l I S):WP P n c Q l I S:=
 fun w a hw ha=>hc _ a w ⟨l,I,S,ha,A1.le.refl I,hw,h⟩
theorem WP.cond {c:Operand} {x y:Code} {t:Bool} (hc:ev l c = .bool t) (h:A2 t (WP P n x Q l I S) (WP P n y Q l I S)):WP P n (.cond c x y) Q l I S:=by
 intro w a hw ha
 refine Go.wp_cond (t:=t) (by rw [ha.eval]; exact hc) ?_
 cases t
 ·exact h w a hw ha
 ·exact h w a hw ha
theorem Fb.sound:∀ (c:Code) (Q:Exit -> Fr -> A1 -> SH -> Prop) (l:Fr) (I:A1) (S:SH),Fb P n c Q l I S -> WP P n c Q l I S
 | .skip,Q,l,I,S,h=>WP.of_q (fun _ _ _ h=>wp_skip h) h
 | .label _,Q,l,I,S,h=>WP.of_q (fun _ _ _ h=>wp_label h) h
 | .region id ops d,Q,l,I,S,h=>by
  cases d
  ·exact WP.region h
  ·exact h
 | .seq x y,Q,l,I,S,h=>by
  refine WP.seq ((Fb.sound x _ l I S h).mono ?_)
  intro e l' J T hle hq
  cases e with
  | normal=>exact Fb.sound y Q l' J T hq
  | _=>exact hq
 | .cond c x y,Q,l,I,S,h=>by
  simp only [Fb] at h
  split at h
  ·rename_i t ht
   refine WP.cond ht ?_
   cases t
   ·exact Fb.sound y Q l I S h
   ·exact Fb.sound x Q l I S h
  ·exact h.elim
 | .block id c,Q,l,I,S,h=>WP.block (Fb.sound c _ l I S h)
 | .exit id,Q,l,I,S,h=>WP.of_q (fun _ _ _ h=>wp_exit h) h
 | .goto t,Q,l,I,S,h=>WP.of_q (fun _ _ _ h=>wp_goto h) h
 | .ret,Q,l,I,S,h=>WP.of_q (fun _ _ _ h=>wp_ret h) h
 | .loop c,Q,l,I,S,h=>h
 | .scope c,Q,l,I,S,h=>h
 | .rangeFunc ..,Q,l,I,S,h=>h
 | .refuse _,Q,l,I,S,h=>h.elim
def Fc (P:Program) (n:Nat) (Y:Fr -> A1 -> SH -> Prop):Nat -> Code -> (Exit -> Fr -> A1 -> SH -> Prop) -> Fr -> A1 -> SH -> Prop
 | 0,_,_=>Y
 | k + 1,.seq x y,Q=>Fb P n x (Dn (Fc P n Y k y Q) Q)
 | _ + 1,c,Q=>Fb P n c Q
def BJ:Nat -> Code -> Code
 | 0,c=>c
 | k + 1,.seq _ y=>BJ k y
 | _ + 1,_=>.skip
theorem WP.cut (k:Nat) {c:Code} (Y:Fr -> A1 -> SH -> Prop) (h:Fc P n Y k c Q l I S) (hY:∀ l J T,I.le J -> Y l J T -> WP P n (BJ k c) Q l J T):WP P n c Q l I S:=by
 induction k generalizing c l I S with
 | zero=>exact hY l I S (A1.le.refl I) h
 | succ k ih=>
  have other:(∀ x y,c ≠ .seq x y) -> WP P n c Q l I S:=fun hne=>by
   cases c <;> first | exact absurd rfl (hne _ _) | exact Fb.sound _ _ _ _ _ h
  cases c with
  | seq x y=>
   refine WP.seq ((Fb.sound x _ l I S h).mono ?_)
   intro e l' J T hle hq
   cases e with
   | normal=>exact ih hq fun l'' J' T' hle' hy=>hY l'' J' T' (hle.trans hle') hy
   | _=>exact hq
  | _=>exact other (fun _ _ h=>by cases h)
def DV (P:Program):List ResultVar -> Fr -> A1 -> SH -> (List Value -> Prop) -> Prop
 | [],_,_,_,K=>K []
 | .tmp t :: rs,l,I,S,K=>DV P rs l I S fun vs=>K (l t :: vs)
 | .cell a t :: rs,l,I,S,K=>(match l a with | .pointer (some ad)=>P4 P t I S ad fun v=>DV P rs l I S fun vs=>K (v :: vs) | _=>False)
def MW:List Value -> Value
 | [v]=>v
 | vs=>.tuple vs.toArray
def Sb (P:Program) (rs:List ResultVar) (R:Value -> A1 -> SH -> Prop):Exit -> Fr -> A1 -> SH -> Prop
 | .normal=>fun l I S=>DV P rs l I S fun vs=>R (MW vs) I S
 | .ret=>fun l I S=>DV P rs l I S fun vs=>R (MW vs) I S
 | _=>fun _ _ _=>False
def Ec (tmps:Array Value):ResultVar -> Sem Value
 | .tmp t=>pure (tmps.getD t undef)
 | .cell a t=>do loadVar t (<- asAddr (tmps.getD a undef))
theorem DV.run (hw:Am I S w) (ha:Ap n l a):∀ (rs:List ResultVar) (K:List Value -> Prop),DV P rs l I S K -> ∃ vs,(rs.mapM (Ec a.tmps)).run P w = .ok vs w /\ K vs
 | [],K,h=>⟨[],by simp,h⟩
 | .tmp t :: rs,K,h=>by
  obtain ⟨vs,hr,hK⟩:=DV.run hw ha rs _ h
  refine ⟨l t :: vs,?_,hK⟩
  simp only [List.mapM_cons,Ec,Sem.run_bind,Sem.run_pure,Result.andThen_ok,hr,ha.at_]
 | .cell ad t :: rs,K,h=>by
  simp only [DV] at h
  split at h
  ·rename_i ad' hl
   obtain ⟨v,hr0,h⟩:=P4.run h
   have hr0:=hr0 w hw
   obtain ⟨vs,hr,hK⟩:=DV.run hw ha rs _ h
   refine ⟨v :: vs,?_,hK⟩
   simp only [Instr.loadAt,Instr.sureAddr,Sem.run_bind,Sem.run_pure,Result.andThen_ok] at hr0
   simp only [List.mapM_cons,Ec,Sem.run_bind,Sem.run_pure,Result.andThen_ok,hr,ha.at_,hl,asAddr,hr0]
  ·exact h.elim
theorem H5 {fn:Func} {tmps:Array Value} {vs:List Value} (h:(fn.results.toList.mapM (Ec tmps)).run P w = .ok vs w):(results fn tmps).run P w = .ok (MW vs) w:=by
 have e:results fn tmps = (do let vs <- fn.results.mapM (Ec tmps); pure (if h:vs.size = 1 then vs[0] else .tuple vs)):=by
  unfold results
  congr 1
 rw [e]
 generalize fn.results = rs at h
 obtain ⟨rs⟩:=rs
 simp only at h
 simp only [List.mapM_toArray,Sem.run_bind,Sem.run_map,h,Result.andThen_ok,Sem.run_pure]
 rcases vs with _ | ⟨v,_ | ⟨u,vs⟩⟩ <;> simp [MW]
def St (args:List Value):Fr:=fun i=>args.getD i undef
theorem Runs.of_wp {f:FuncId} {fn:Func} {c:Code} {args:List Value} {R:Value -> A1 -> SH -> Prop} (hf:P.funcs[f]? = some fn) (hb:fn.body = some c) (hn:Nat.ble args.length fn.ntmps = true)
  (h:WP P fn.ntmps c (Sb P fn.results.toList R) (St args) I S):Runs P f args.toArray I S R:=by
 intro w hw
 have hle:=Nat.le_of_ble_eq_true hn
 refine calls_of_wp hf hb (wp_mono (h w _ hw ?_) ?_)
 ·refine ⟨by simp; omega,rfl,fun i=>?_⟩
  simp only [St,Array.getD_eq_getD_getElem?,List.getD_eq_getElem?_getD,Array.getElem?_append,List.size_toArray,List.getElem?_toArray]
  split
  ·rfl
  ·rename_i hlt
   rw [List.getElem?_eq_none (by omega),Array.getElem?_replicate]
   split <;> rfl
 ·rintro e a' w' ⟨l',J,T,h1,h2,h3,h4⟩
  have fin:DV P fn.results.toList l' J T (fun vs=>R (MW vs) J T) -> bodyPost P fn (fun e w'=>∃ v J T,e = .returned v /\ I.le J /\ Am J T w' /\ R v J T) .ret a' w':=fun h4=>by
   obtain ⟨vs,hr,hR⟩:=DV.run h3 h1 _ _ h4
   exact ⟨h1.defers,_,H5 hr,_,J,T,rfl,h2,h3,hR⟩
  cases e with
  | normal=>exact fin h4
  | ret=>exact fin h4
  | _=>exact h4.elim
def S6 (P:Program) (t:TypeId) (K:Value -> Prop):Prop:=match P.underlying t with
 | some (.tuple ts)=>Pi P ts.toList fun vs=>K (.tuple vs.toArray)
 | _=>Hy P t K
theorem GQ {t:TypeId} {K:Value -> Prop} (h:S6 P t K):∃ v,K v:=by
 unfold S6 at h
 split at h
 ·obtain ⟨vs,h⟩:=D0 h; exact ⟨_,h⟩
 ·exact BA h
def PT (P:Program) (n:Nat) (o:Oper) (K:Fr -> Prop) (l:Fr) (I:A1) (S:SH):Prop:=match o.op with
 | .load t x=>(match ev l x with | .pointer (some a)=>NV P x t I S a fun v=>Aa n o.dst v (fun l _ _=>K l) l I S | _=>False)
 | .call c=>(match c.callee with
  | .value f=>(match ev l f with
   | .func (.func fid) fs cs=>(match Bq P fid with
    | true=>S6 P o.type fun v=>Runs P fid (fs.toList ++ c.args.toList.map (ev l) ++ cs.toList).toArray I S (fun v' _ T=>v' = v /\ T = S) /\ Aa n o.dst v (fun l _ _=>K l) l I S
    | false=>False)
   | _=>False)
  | _=>(match BP P o.op with | true=>Ar P n o (fun l _ _=>K l) l I S | false=>False))
 | _=>(match BP P o.op with | true=>Ar P n o (fun l _ _=>K l) l I S | false=>False)
def C0 (P:Program) (n:Nat) (ops:Array Oper) (I:A1) (S:SH):List Oper -> (Fr -> Prop) -> Fr -> Prop
 | [],K,l=>K l
 | o :: rest,K,l=>match o.guard with
  | none=>PT P n o (C0 P n ops I S rest K) l I S
  | some (j,b)=>match (ops[j]?).bind (·.dst) with
   | some d=>(match l d with
    | .bool t=>A2 t
      (match b with | true=>PT P n o (C0 P n ops I S rest K) (Bv l d (.bool true)) I S | false=>Aa n o.dst undef (fun l _ _=>C0 P n ops I S rest K l) (Bv l d (.bool true)) I S)
      (match b with | true=>Aa n o.dst undef (fun l _ _=>C0 P n ops I S rest K l) (Bv l d (.bool false)) I S | false=>PT P n o (C0 P n ops I S rest K) (Bv l d (.bool false)) I S)
    | .tuple _=>Aa n o.dst undef (fun l _ _=>C0 P n ops I S rest K l) l I S
    | _=>False)
   | none=>False
theorem Am.weaken {J:A1} (h:Am J S w) (hle:I.le J):Am I S w:=by
 refine ⟨h.os.trans hle.os,h.tape.trans hle.tape,h.out.trans hle.out,by rw [<- hle.dr]; exact h.dr,fun b o hb=>h.im b o (hle.at_ b o hb),h.own,fun p hp=>?_,h.nodup⟩
 cases hn:I.at_ p.1 with
 | none=>rfl
 | some o=>
  have:=hle.at_ _ _ hn
  rw [h.apart p hp] at this
  cases this
theorem Aa.act {d:Option Tmp} {v:Value} {K:Fr -> A1 -> SH -> Prop} (h:Aa n d v K l I S) (ha:Ap n l a):∃ l',Ap n l' (a.put d v) /\ K l' I S:=by
 cases d with
 | none=>exact ⟨l,ha,h⟩
 | some d=>
  simp only [Aa] at h
  split at h
  ·rename_i hb
   exact ⟨_,ha.put (by simpa using hb) v,h⟩
  ·exact h.elim
theorem PT.quiet {o:Oper} {K:Fr -> Prop} (h:PT P n o K l I S) (ha:Ap n l a):o.quiet P a (Am I S) (fun a'=>∃ l',Ap n l' a' /\ K l'):=by
 have fin:∀ v,Aa n o.dst v (fun l _ _=>K l) l I S -> ∃ l',Ap n l' (a.put o.dst v) /\ K l':=fun v hp=>hp.act ha
 have small:(match BP P o.op with | true=>Ar P n o (fun l _ _=>K l) l I S | false=>False) -> o.quiet P a (Am I S) (fun a'=>∃ l',Ap n l' a' /\ K l'):=fun h=>by
  split at h
  ·rename_i hq
   obtain ⟨v,hr,hK⟩:=h.still hq
   exact ⟨v,fun w hw=>by simp only [Oper.quietAt,ha.eval,hr w hw,Oper.quietUpon,and_self],fin v hK⟩
  ·exact h.elim
 unfold PT at h
 split at h
 ·rename_i t x ho
  split at h
  ·rename_i ad hx
   obtain ⟨v,hr,hp⟩:=NV.run h
   exact ⟨v,fun w hw=>by simp [Oper.quietAt,ha.eval,execOp,ho,hx,hr w hw,Oper.quietUpon],fin v hp⟩
  ·exact h.elim
 ·rename_i c ho
  split at h
  ·rename_i f hf
   split at h
   ·rename_i fid fs cs hfv
    split at h
    ·rename_i hc
     obtain ⟨v,hfn,hp⟩:=GQ h
     refine ⟨v,fun w hw=>?_,fin v hp⟩
     unfold Bq at hc
     split at hc
     ·rename_i fn hfn'
      simp only [Bool.and_eq_true,Bool.not_eq_true'] at hc
      have hb:fn.body.isNone = false:=by cases hbd:fn.body <;> simp [hbd] at hc ⊢
      have hr:(execOp a.eval o).run P w = .ok (.enter fid (fs.toList ++ c.args.toList.map (ev l) ++ cs.toList).toArray) w:=by
       have hca:fs ++ (c.args.toList.map (ev l)).toArray ++ cs = (fs.toList ++ c.args.toList.map (ev l) ++ cs.toList).toArray:=by
        apply Array.ext'; simp
       have hargs:c.args.map (ev l) = (c.args.toList.map (ev l)).toArray:=by rw [<- Array.toList_map]
       rw [ha.eval]
       simp only [execOp,ho,resolve,hf,hfv,Deferred.ofValue,Sem.run_bind,Sem.run_pure,Result.andThen_ok,invoke,hargs,hca]
       simp only [callFunc,program,Sem.run,Sem.run_bind,Result.andThen_ok,hfn',hc.1,hb,Bool.false_eq_true,if_false,Sem.run_pure]
      simp only [Oper.quietAt,hr,Oper.quietUpon,true_and]
      refine (hfn w hw).mono ?_
      rintro e w' ⟨v',J,T,rfl,hle,hs,rfl,rfl⟩
      exact ⟨rfl,hs.weaken hle⟩
     ·cases hc
    ·exact h.elim
   ·exact h.elim
  ·exact small h
 ·exact small h
theorem By {C:World -> Prop} {K K':Act -> Prop} (h:∀ a,K a -> K' a):∀ (L:List Oper) (a:Act),wpQuiet P ops C K L a -> wpQuiet P ops C K' L a
 | [],a,hh=>h a hh
 | o :: L,a,hh=>by
  simp only [wpQuiet] at hh ⊢
  split
  ·rename_i hw
   rw [if_pos hw] at hh
   exact Oper.quiet_mono (fun a'=>By h L a') hh
  ·rename_i hw
   rw [if_neg hw] at hh
   exact By h L _ hh
theorem C0.sound:∀ (L:List Oper) (K:Fr -> Prop) (l:Fr) (a:Act),C0 P n ops I S L K l -> Ap n l a -> wpQuiet P ops (Am I S) (fun a'=>∃ l',Ap n l' a' /\ K l') L a
 | [],K,l,a,h,ha=>⟨l,ha,h⟩
 | o :: L,K,l,a,h,ha=>by
  simp only [C0] at h
  simp only [wpQuiet]
  rcases AC (o:=o) (ops:=ops) (K1:=fun l=>PT P n o (C0 P n ops I S L K) l I S) (K2:=fun l=>Aa n o.dst undef (fun l _ _=>C0 P n ops I S L K l) l I S) ha h with ⟨hwn,h⟩ | ⟨hwn,h⟩
  ·rw [if_pos hwn]
   obtain ⟨v,hv,l',hl',hK⟩:=h.quiet ha
   exact ⟨v,hv,C0.sound L K l' _ hK hl'⟩
  ·rw [if_neg (by rw [hwn]; simp)]
   obtain ⟨l',hl',hK⟩:=h.act ha
   exact C0.sound L K l' _ hK hl'
theorem WP.quiet {id:Nat} (hm:P.follows .mixedOrders = true) (hB:Region.lexB .any ops = true) (h:C0 P n ops I S ops.toList (fun l=>Q .normal l I S) l):WP P n (.region id ops true) Q l I S:=by
 intro w a hw ha
 refine wp_region_quiet (C:=Am I S) hm hB hw.drew ?_
 have:=C0.sound ops.toList (fun l=>Q .normal l I S) l a h ha
 refine By (fun a' ⟨l',hl',hq⟩ w' hw'=>?_) _ _ this
 exact ⟨l',I,S,hl',A1.le.refl I,hw',hq⟩
def Pu:Code -> Code
 | .seq x _=>x
 | c=>c
def HG:Code -> Code
 | .seq _ y=>y
 | c=>c
def LC:Code -> Code
 | .loop c=>c
 | c=>c
def CD:Code -> Code
 | .scope c=>c
 | c=>c
def Fh:Code -> Code
 | .block _ c=>c
 | c=>c
def DD:Code -> Nat
 | .block i _=>i
 | _=>0
def Lv:Code -> Code
 | .cond _ x _=>x
 | c=>c
def Lu:Code -> Code
 | .cond _ _ y=>y
 | c=>c
def Lt:Code -> Operand
 | .cond c _ _=>c
 | _=>.tmp 0
def Ag:Code -> Array Oper
 | .region _ ops _=>ops
 | _=>#[]
def Eb:Code -> Nat
 | .region i _ _=>i
 | _=>0
theorem WP.seqY {c:Code} (hc:c = .seq (Pu c) (HG c)) (Y:Fr -> A1 -> SH -> Prop) (h1:WP P n (Pu c) (Dn Y Q) l I S) (h2:∀ l J T,I.le J -> Y l J T -> WP P n (HG c) Q l J T):WP P n c Q l I S:=by
 rw [hc]
 refine WP.seq (h1.mono ?_)
 intro e l' J T hle hq
 cases e with
 | normal=>exact h2 l' J T hle hq
 | _=>exact hq
theorem WP.block' {c:Code} (hc:c = .block (DD c) (Fh c)) (h:WP P n (Fh c) (DU (DD c) Q) l I S):WP P n c Q l I S:=by
 rw [hc]; exact WP.block h
theorem WP.loop' {c:Code} (hc:c = .loop (LC c)) (Inv:Nat -> Fr -> A1 -> SH -> Prop) (m:Nat) (h0:Inv m l I S)
  (round:∀ m l J T,I.le J -> Inv m l J T -> WP P n (LC c) (Dn (fun l' J' T'=>∃ m',m' < m /\ Inv m' l' J' T') Q) l J T):WP P n c Q l I S:=by
 rw [hc]; exact WP.loop Inv m h0 round
theorem WP.cond' {c:Code} (hc:c = .cond (Lt c) (Lv c) (Lu c)) {t:Bool} (ht:ev l (Lt c) = .bool t) {A B:Prop} (h:A2 t A B) (hA:A -> WP P n (Lv c) Q l I S) (hB:B -> WP P n (Lu c) Q l I S):WP P n c Q l I S:=by
 rw [hc]
 refine WP.cond ht ?_
 cases t
 ·exact hB h
 ·exact hA h
theorem WP.quiet' {c:Code} (hc:c = .region (Eb c) (Ag c) true) (hm:P.follows .mixedOrders = true) (hB:Region.lexB .any (Ag c) = true)
  (h:C0 P n (Ag c) I S (Ag c).toList (fun l=>Q .normal l I S) l):WP P n c Q l I S:=by
 rw [hc]; exact WP.quiet hm hB h
theorem WP.scope' {c:Code} (k:Nat) (t:Nat) (hc:c = .scope (CD c)) (hl:BJ k (CD c) = .seq (.label t) (HG (BJ k (CD c))))
  (hf:findLabel (CD c) t = some (.seq .skip (HG (BJ k (CD c))))) (Inv:Nat -> Fr -> A1 -> SH -> Prop)
  (first:Fc P n (fun l J T=>∃ m,Inv m l J T) k (CD c) (Lp t (fun l J T=>∃ m,Inv m l J T) Q) l I S)
  (round:∀ m l J T,I.le J -> Inv m l J T -> WP P n (HG (BJ k (CD c))) (Lp t (fun l' J' T'=>∃ m',m' < m /\ Inv m' l' J' T') Q) l J T):WP P n c Q l I S:=by
 rw [hc]
 refine WP.scope t hf Inv ?_ ?_
 ·refine WP.cut k (fun l J T=>∃ m,Inv m l J T) first ?_
  ·rintro l' J T hle ⟨m,hI⟩
   rw [hl]
   refine WP.seq (WP.of_q (e:=.normal) (fun _ _ _ h=>wp_label h) ?_)
   refine (round m l' J T hle hI).mono ?_
   intro e l'' J' T' _ h
   cases e with
   | goto t'=>obtain ⟨ht,m',_,hI'⟩:=h; exact ⟨ht,m',hI'⟩
   | _=>exact h
 ·intro m l' J T hle hI
  exact WP.seq (WP.of_q (e:=.normal) (fun _ _ _ h=>wp_skip h) (round m l' J T hle hI))
def Sp:IntKind -> Value -> (Int -> Prop) -> Prop
 | .i8,.int .i8 n,K=>K n
 | .i16,.int .i16 n,K=>K n
 | .i32,.int .i32 n,K=>K n
 | .i64,.int .i64 n,K=>K n
 | .u8,.int .u8 n,K=>K n
 | .u16,.int .u16 n,K=>K n
 | .u32,.int .u32 n,K=>K n
 | .u64,.int .u64 n,K=>K n
 | _,_,_=>False
theorem RB {k:IntKind} {v:Value} {K:Int -> Prop} (h:Sp k v K):∃ n,v = .int k n /\ K n:=by
 cases v with
 | int k' n=>cases k <;> cases k' <;> first | exact ⟨n,rfl,h⟩ | exact h.elim
 | _=>cases k <;> exact h.elim
def Sn (v:Value) (K:Bool -> Prop):Prop:=match v with
 | .bool b=>K b
 | _=>False
theorem Rz {v:Value} {K:Bool -> Prop} (h:Sn v K):∃ b,v = .bool b /\ K b:=by cases v <;> first | exact ⟨_,rfl,h⟩ | exact h.elim
def PG (v:Value) (K:ByteArray -> Prop):Prop:=match v with
 | .string b=>K b
 | _=>False
theorem Pa {v:Value} {K:ByteArray -> Prop} (h:PG v K):∃ b,v = .string b /\ K b:=by cases v <;> first | exact ⟨_,rfl,h⟩ | exact h.elim
def PF (v:Value) (K:Option Addr -> Prop):Prop:=match v with
 | .pointer b=>K b
 | _=>False
theorem P9 {v:Value} {K:Option Addr -> Prop} (h:PF v K):∃ b,v = .pointer b /\ K b:=by cases v <;> first | exact ⟨_,rfl,h⟩ | exact h.elim
def PD (v:Value) (K:Addr -> Prop):Prop:=match v with
 | .pointer (some b)=>K b
 | _=>False
theorem P7 {v:Value} {K:Addr -> Prop} (h:PD v K):∃ b,v = .pointer (some b) /\ K b:=by
 cases v with
 | pointer p=>cases p with
  | none=>exact h.elim
  | some a=>exact ⟨_,rfl,h⟩
 | _=>exact h.elim
def RC (v:Value) (K:Option Addr -> Nat -> Nat -> Prop):Prop:=match v with
 | .slice p n c=>K p n c
 | _=>False
theorem PY {v:Value} {K:Option Addr -> Nat -> Nat -> Prop} (h:RC v K):∃ p n c,v = .slice p n c /\ K p n c:=by cases v <;> first | exact ⟨_,_,_,rfl,h⟩ | exact h.elim
def PE (v:Value) (K:Option Nat -> Prop):Prop:=match v with
 | .map b=>K b
 | _=>False
theorem P8 {v:Value} {K:Option Nat -> Prop} (h:PE v K):∃ b,v = .map b /\ K b:=by cases v <;> first | exact ⟨_,rfl,h⟩ | exact h.elim
def TK (v:Value) (K:Value -> Prop):Prop:=K v
def Se (f:FuncId) (v:Value) (K:Prop):Prop:=match v with
 | .func (.func g) ⟨[]⟩ ⟨[]⟩=>(match Nat.beq g f with | true=>K | false=>False)
 | _=>False
theorem RA {f:FuncId} {v:Value} {K:Prop} (h:Se f v K):v = .func (.func f) #[] #[] /\ K:=by
 unfold Se at h
 split at h
 ·split at h
  ·rename_i hb; have:=Nat.eq_of_beq_eq_true hb; subst this; exact ⟨rfl,h⟩
  ·exact h.elim
 ·exact h.elim
end
def Ak (I0:A1) (S0:SH) (J:A1) (T:SH):Prop:=I0.le J /\ ∃ T',T.Perm (T' ++ S0)
theorem Ak.refl (I:A1) (S:SH):Ak I S I S:=⟨A1.le.refl I,[],List.Perm.refl _⟩
theorem Ak.cons {I0 J:A1} {S0 T:SH} (h:Ak I0 S0 J T) (p:Nat × Obj):Ak I0 S0 J (p :: T):=⟨h.1,p :: h.2.choose,by simpa using h.2.choose_spec⟩
theorem Ak.of {I0 J:A1} {S0:SH} (h:I0.le J) (T':SH):Ak I0 S0 J (T' ++ S0):=⟨h,T',List.Perm.refl _⟩
def Aw (P:Program) (o:Oper):Bool:=match o.op with
 | .load ..=>true
 | .call { callee:=.value _,.. }=>true
 | op=>AF P op
def Dy (ops:Array Oper):Nat -> Nat -> Nat -> Bool
 | 0,_,_=>false
 | f + 1,j,i=>match ops[j]? with
  | some o=>o.after.toList.any fun e=>Region.binds .any e && (Nat.beq e.on i || Dy ops f e.on i)
  | none=>false
def BV (P:Program) (ops:Array Oper) (eff:List Nat) (j:Nat):Bool:=(List.range ops.size).all fun i=>match ops[i]? with
 | some o=>!Aw P o || eff.contains i || Dy ops ops.size j i
 | none=>true
section
variable {P:Program} {n:Nat} {ops:Array Oper} {eff:List Nat} {I0:A1} {S0:SH} {Q:Exit -> Act -> World -> Prop}
def YK (P:Program) (ops:Array Oper) (o:Oper) (v:Value) (a:Act) (J:A1) (T:SH):Prop:=
 (Region.wanted o (yielded ops a.tmps) = true /\ ∀ w,Am J T w -> o.quietAt P a (Am J T) w v) \/ (Region.wanted o (yielded ops a.tmps) = false /\ v = undef)
def QC (P:Program) (ops:Array Oper) (I0:A1) (S0:SH) (o:Oper) (v:Value) (a:Act):Prop:=
 (Region.wanted o (yielded ops a.tmps) = true /\ ∀ J T,(Aw P o = true -> Ak I0 S0 J T) -> ∀ w,Am J T w -> o.quietAt P a (Am J T) w v) \/ (Region.wanted o (yielded ops a.tmps) = false /\ v = undef)
def BW (P:Program) (ops:Array Oper) (eff:List Nat) (I0:A1) (S0:SH) (Q:Exit -> Act -> World -> Prop):Nat -> Array Bool -> Act -> A1 -> SH -> Prop
 | 0,listed,a,J,T=>Region.ready .any ops listed = [] /\ ∀ w,Am J T w -> Q .normal a w
 | k + 1,listed,a,J,T=>(Region.ready .any ops listed = [] -> ∀ w,Am J T w -> Q .normal a w) /\ ∀ j ∈ Region.ready .any ops listed,∀ o,ops[j]? = some o ->
  (eff.contains j = true -> ∀ w,Am J T w -> wpOp P ops Q j (fun a' w'=>∃ J' T',Am J' T' w' /\ (BV P ops eff j = true \/ Ak I0 S0 J' T') /\ BW P ops eff I0 S0 Q k (listed.setIfInBounds j true) a' J' T') a w) /\
  (eff.contains j = false -> ∃ v,YK P ops o v a J T /\ BW P ops eff I0 S0 Q k (listed.setIfInBounds j true) (a.put o.dst v) J T)
theorem CE {o:Oper} {j:Nat} (hj:ops[j]? = some o) {v:Value} {a:Act} {J:A1} {T:SH} {w:World} (hw:Am J T w) (h:YK P ops o v a J T) {K:Act -> World -> Prop} (hK:∀ w',Am J T w' -> K (a.put o.dst v) w') :
  wpOp P ops Q j K a w:=by
 unfold wpOp
 simp only [hj]
 rcases h with ⟨hwn,hv⟩ | ⟨hwn,rfl⟩
 ·simp only [hwn,if_true]
  refine .inl ?_
  exact Oper.wp_of_quiet (C:=Am J T) (K:=fun a'=>a' = a.put o.dst v) hw (fun a' w' hw' e=>by subst e; exact hK w' hw') ⟨v,hv,rfl⟩
 ·simp only [hwn,Bool.false_eq_true,if_false]
  exact hK w hw
theorem BW.wp:∀ (k:Nat) (listed:Array Bool) (a:Act) (J:A1) (T:SH) (w:World),Am J T w -> BW P ops eff I0 S0 Q k listed a J T -> wpAny P .any ops Q k listed a w
 | 0,listed,a,J,T,w,hw,h=>⟨h.1,h.2 w hw⟩
 | k + 1,listed,a,J,T,w,hw,h=>by
  refine ⟨fun h0=>h.1 h0 w hw,fun j hj=>?_⟩
  obtain ⟨_,o,ho,_⟩:=mem_ready.1 hj
  obtain ⟨h1,h2⟩:=h.2 j hj o ho
  cases he:eff.contains j with
  | true=>exact wpOp_mono (fun a' w' ⟨J',T',hs,_,hA⟩=>BW.wp k _ a' J' T' w' hs hA) (h1 he w hw)
  | false=>
   obtain ⟨v,hy,hA⟩:=h2 he
   exact CE ho hw hy fun w' hw'=>BW.wp k _ _ J T w' hw' hA
theorem BQ {j:Nat} {oi oj:Oper} {v:Value} (hj:ops[j]? = some oj) (hap:oi.apart ops oj = true) (hsj:∀ cs b,oj.op ≠ .select cs b)
  (hQ:∀ c a w,Q (.panic c) (a.put oi.dst v) w -> Q (.panic c) a w) {K:Act -> World -> Prop} {a:Act} {w:World} (R:Act -> Prop) (hR:R a) (keep:∀ a u,R a -> R (a.put oj.dst u))
  (keepD:∀ a d,R a -> R { a with defers:=d :: a.defers }) (h:wpOp P ops Q j K (a.put oi.dst v) w):wpOp P ops Q j (fun a' w'=>R a' /\ K (a'.put oi.dst v) w') a w:=by
 obtain ⟨h1,h2,h3⟩:=Oper.apart_spec hap
 unfold wpOp at *
 simp only [hj] at *
 rw [wanted_put oj a oi.dst v h1] at h
 split
 ·rename_i hw
  simp only [hw,if_true] at h
  rcases h with h | ⟨hasks,hlets⟩
  case inr=>exact .inr ⟨by unfold Oper.asks at *; rw [execOp_put oj hsj a oi.dst v h1] at hasks; exact hasks,hlets⟩
  refine .inl ?_
  unfold Oper.wp at *
  rw [execOp_put oj hsj a oi.dst v h1] at h
  generalize (execOp a.eval oj).run P w = r at *
  cases r with
  | ok nx w'=>
   cases nx <;> simp only [Oper.upon] at h ⊢
   case value u=>exact ⟨keep a u hR,by rw [<- Act.put_comm a v u h2]; exact h⟩
   case skip=>exact ⟨keep a _ hR,by rw [<- Act.put_comm a v undef h2]; exact h⟩
   case defer d=>
    refine ⟨keep _ _ (keepD _ d hR),?_⟩
    rw [<- Act.put_comm _ v undef h2,<- Act.put_defers]
    exact h
   case enter f args=>
    refine Calls.mono h fun e w'' he=>?_
    cases e with
    | returned u=>exact ⟨keep a u hR,by rw [<- Act.put_comm a v u h2]; exact he⟩
    | panicked c=>exact hQ _ _ _ he
    | outgrown=>exact he
   case row row args=>exact Rows.mono h fun u w'' he=>⟨keep a u hR,by rw [<- Act.put_comm a v u h2]; exact he⟩
  | halt x w'=>
   cases x <;> simp only [Oper.upon] at h ⊢
   case panic u=>exact hQ _ _ _ h
 ·rename_i hw
  simp only [hw] at h
  exact ⟨keep a _ hR,by rw [<- Act.put_comm a v undef h2]; exact h⟩
def Bm (ops:Array Oper) (listed:Array Bool):Prop:=∀ j o,ops[j]? = some o -> listed.getD j false = true -> ∀ e ∈ o.after,Region.binds .any e = true -> listed.getD e.on false = true
theorem Bm.set {listed:Array Bool} (h:Bm ops listed) {i:Nat} (hi:i ∈ Region.ready .any ops listed):Bm ops (listed.setIfInBounds i true):=by
 intro j o ho hl e he hb
 obtain ⟨_,oi,hoi,hall⟩:=mem_ready.1 hi
 by_cases hij:i = j
 ·subst hij
  rw [ho] at hoi; injection hoi with hoi; subst hoi
  exact getD_set_true (hall e he hb)
 ·rw [getD_set_ne false hij] at hl
  exact getD_set_true (h j o ho hl e he hb)
theorem AZ {listed:Array Bool} (h:Bm ops listed) {i:Nat}:∀ (f j:Nat) (o:Oper),ops[j]? = some o -> (∀ e ∈ o.after,Region.binds .any e = true -> listed.getD e.on false = true) -> Dy ops f j i = true -> listed.getD i false = true
 | 0,_,_,_,_,hn=>by simp [Dy] at hn
 | f + 1,j,o,ho,hall,hn=>by
  simp only [Dy,ho,List.any_eq_true,Bool.and_eq_true,Bool.or_eq_true] at hn
  obtain ⟨e,he,hb,hn⟩:=hn
  have hl:=hall e (by simpa using he) hb
  rcases hn with hn | hn
  ·have:=Nat.eq_of_beq_eq_true hn; rw [<- this]; exact hl
  ·cases ho':ops[e.on]? with
   | none=>cases f <;> simp [Dy,ho'] at hn
   | some o'=>exact AZ h f e.on o' ho' (fun e' he' hb'=>h e.on o' ho' hl e' he' hb') hn
theorem BW.take {i:Nat} {oi:Oper} {v:Value} (hi:ops[i]? = some oi) (hsel:∀ (j:Nat) (o:Oper) cs b,ops[j]? = some o -> o.op ≠ .select cs b) (hne:eff.contains i = false)
  (hQ:∀ c a w,Q (.panic c) (a.put oi.dst v) w -> Q (.panic c) a w) :
  ∀ (k:Nat) (listed:Array Bool) (a:Act) (J:A1) (T:SH),Bm ops listed ->
   (∀ j oj,ops[j]? = some oj -> j ≠ i -> listed.getD j true = false -> (∀ e ∈ oj.after,Region.binds .any e = true -> e.on ≠ i) -> oi.apart ops oj = true) ->
   i ∈ Region.ready .any ops listed -> QC P ops I0 S0 oi v a -> (Aw P oi = true -> Ak I0 S0 J T) ->
   BW P ops eff I0 S0 Q k (listed.setIfInBounds i true) (a.put oi.dst v) J T -> BW P ops eff I0 S0 Q (k + 1) listed a J T:=by
 intro k
 have yk:∀ {a J T},QC P ops I0 S0 oi v a -> (Aw P oi = true -> Ak I0 S0 J T) -> YK P ops oi v a J T:=fun hq hk=>by
  rcases hq with ⟨h1,h2⟩ | h
  ·exact .inl ⟨h1,h2 _ _ hk⟩
  ·exact .inr h
 induction k with
 | zero=>
  intro listed a J T hcl hfree hr hq hk H
  refine ⟨fun h=>(by rw [h] at hr; cases hr),fun j hj o ho=>?_⟩
  by_cases hji:j = i
  ·subst hji
   rw [hi] at ho; injection ho with ho; subst ho
   exact ⟨fun h=>(by rw [hne] at h; cases h),fun _=>⟨v,yk hq hk,H⟩⟩
  ·have:=ready_mono hj hji
   rw [H.1] at this
   cases this
 | succ k ih=>
  intro listed a J T hcl hfree hr hq hk H
  refine ⟨fun h=>(by rw [h] at hr; cases hr),fun j hj oj hoj=>?_⟩
  by_cases hji:j = i
  ·subst hji
   rw [hi] at hoj; injection hoj with hoj; subst hoj
   exact ⟨fun h=>(by rw [hne] at h; cases h),fun _=>⟨v,yk hq hk,H⟩⟩
  ·obtain ⟨hjun,oj',hoj',hall⟩:=mem_ready.1 hj
   rw [hoj] at hoj'; injection hoj' with hoj'; subst hoj'
   have h0:=(mem_ready.1 hr).1
   have hiun:listed.getD i false = false:=by
    rcases Nat.lt_or_ge i listed.size with h' | h'
    ·simp [h'] at h0 ⊢; exact h0
    ·simp [Array.getElem?_eq_none h']
   have hnot:∀ e ∈ oj.after,Region.binds .any e = true -> e.on ≠ i:=fun e he hb heq=>by
    have h1:=hall e he hb
    rw [heq,hiun] at h1; cases h1
   have hap:=hfree j oj hoj hji hjun hnot
   obtain ⟨p1,p2,p3⟩:=Oper.apart_spec hap
   have hcl':=hcl.set hj
   have hr':=ready_mono hr (Ne.symm hji)
   have hfree':∀ k ok,ops[k]? = some ok -> k ≠ i -> (listed.setIfInBounds j true).getD k true = false ->
     (∀ e ∈ ok.after,Region.binds .any e = true -> e.on ≠ i) -> oi.apart ops ok = true:=fun k ok hk hki hun hno=>by
    refine hfree k ok hk hki ?_ hno
    by_cases hjk:j = k
    ·subst hjk; exact hjun
    ·rw [getD_set_ne true hjk] at hun; exact hun
   have qkeep:∀ a u,QC P ops I0 S0 oi v a -> QC P ops I0 S0 oi v (a.put oj.dst u):=fun a u hq=>by
    unfold QC Oper.quietAt at *
    rw [execOp_put oi (fun cs b=>hsel i oi cs b hi) a oj.dst u p3,wanted_put oi a oj.dst u p3]
    exact hq
   have H2:=H.2 j (ready_mono hj hji) oj hoj
   refine ⟨fun he w hw=>?_,fun he=>?_⟩
   ·have h1:=BQ hoj hap (fun cs b=>hsel j oj cs b hoj) hQ (QC P ops I0 S0 oi v) hq qkeep (fun a d hq=>hq) (H2.1 he w hw)
    refine wpOp_mono ?_ h1
    rintro a' w' ⟨hq',J',T',hs,hlate,hA⟩
    refine ⟨J',T',hs,hlate,ih _ a' J' T' hcl' hfree' hr' hq' (fun hc=>?_) (by rw [Array.setIfInBounds_comm _ _ hji]; exact hA)⟩
    rcases hlate with hl | hl
    ·exfalso
     have hl':=List.all_eq_true.1 hl i (List.mem_range.2 (Array.getElem?_eq_some_iff.1 hi).1)
     simp only [hi,hc,hne,Bool.not_true,Bool.false_or] at hl'
     have:=AZ hcl _ j oj hoj hall hl'
     rw [hiun] at this; cases this
    ·exact hl
   ·obtain ⟨u,hy,hA⟩:=H2.2 he
    refine ⟨u,?_,ih _ _ J T hcl' hfree' hr' (qkeep a u hq) hk ?_⟩
    ·unfold YK Oper.quietAt at *
     rw [execOp_put oj (fun cs b=>hsel j oj cs b hoj) a oi.dst v p1,wanted_put oj a oi.dst v p1] at hy
     exact hy
    ·rw [Array.setIfInBounds_comm _ _ hji,<- Act.put_comm a v u p2]
     exact hA
theorem AG (m j:Nat):(Array.replicate m false).getD j false = false:=by
 rcases Nat.lt_or_ge j m with h | h
 ·simp [h]
 ·simp [h]
inductive Mv where
 | done
 | take (i:Nat) (m:Mv)
 | step (j:Nat) (m:Mv)
 | fork (j:Nat) (m:Mv) (j':Nat) (m':Mv)
 | fork3 (j:Nat) (m:Mv) (j':Nat) (m':Mv) (k:Nat) (n:Mv)
def Mv.len:Mv -> Nat
 | .done=>0
 | .take _ m=>m.len + 1
 | .step _ m=>m.len + 1
 | .fork _ m _ _=>m.len + 1
 | .fork3 _ m _ _ _ _=>m.len + 1
def Cs (P:Program) (ops:Array Oper) (eff:List Nat):Mv -> Bool -> Array Bool -> Bool
 | .done,_,listed=>(Region.ready .any ops listed).isEmpty
 | .take i m,op,listed=>!eff.contains i && (Region.ready .any ops listed).contains i && Region.free .any ops listed i && (match ops[i]? with | some o=>!Aw P o || op | none=>false) &&
  Cs P ops eff m op (listed.setIfInBounds i true)
 | .step j m,op,listed=>eff.contains j && (Region.ready .any ops listed == [j]) && Cs P ops eff m (op && !BV P ops eff j) (listed.setIfInBounds j true)
 | .fork j m j' m',op,listed=>eff.contains j && eff.contains j' && (Region.ready .any ops listed == [j,j']) && Nat.beq m.len m'.len &&
  Cs P ops eff m (op && !BV P ops eff j) (listed.setIfInBounds j true) && Cs P ops eff m' (op && !BV P ops eff j') (listed.setIfInBounds j' true)
 | .fork3 j m j' m' k n,op,listed=>eff.contains j && eff.contains j' && eff.contains k && (Region.ready .any ops listed == [j,j',k]) && Nat.beq m.len m'.len && Nat.beq m.len n.len &&
  Cs P ops eff m (op && !BV P ops eff j) (listed.setIfInBounds j true) && Cs P ops eff m' (op && !BV P ops eff j') (listed.setIfInBounds j' true) && Cs P ops eff n (op && !BV P ops eff k) (listed.setIfInBounds k true)
def Dx (P:Program) (n:Nat) (o:Oper) (K:Fr -> Prop) (l:Fr) (I:A1) (S:SH):Prop:=match o.op with
 | .load t x=>(match ev l x with | .pointer (some a)=>NV P x t I S a fun v=>Aa n o.dst v (fun l _ _=>K l) l I S | _=>False)
 | .call c=>(match c.callee with
  | .value f=>(match ev l f with
   | .func (.func fid) fs cs=>(match Bq P fid with
    | true=>S6 P o.type fun v=>(∀ J T,I.le J -> Runs P fid (fs.toList ++ c.args.toList.map (ev l) ++ cs.toList).toArray J (T ++ S) (fun v' _ T'=>v' = v /\ T' = T ++ S)) /\ Aa n o.dst v (fun l _ _=>K l) l I S
    | false=>False)
   | _=>False)
  | _=>(match BP P o.op with | true=>Ar P n o (fun l _ _=>K l) l I S | false=>False))
 | _=>(match BP P o.op with | true=>Ar P n o (fun l _ _=>K l) l I S | false=>False)
def Cw (P:Program) (ops:Array Oper) (eff:List Nat) (I0:A1) (S0:SH) (j:Nat) (K:Fr -> A1 -> SH -> Prop) (l:Fr) (J':A1) (T':SH):Prop:=match BV P ops eff j with | true=>K l J' T' | false=>Ak I0 S0 J' T' /\ K l J' T'
def Dv (P:Program) (n:Nat) (ops:Array Oper) (eff:List Nat) (I0:A1) (S0:SH) (j:Nat) (K:Fr -> A1 -> SH -> Prop) (l:Fr) (J:A1) (T:SH):Prop:=match ops[j]? with
 | some o=>(match o.guard with
  | none=>Ar P n o (Cw P ops eff I0 S0 j K) l J T
  | some (g,b)=>match (ops[g]?).bind (·.dst) with
   | some d=>(match l d with
    | .bool t=>A2 t
      (match b with | true=>Ar P n o (Cw P ops eff I0 S0 j K) (Bv l d (.bool true)) J T | false=>Aa n o.dst undef (Cw P ops eff I0 S0 j K) (Bv l d (.bool true)) J T)
      (match b with | true=>Aa n o.dst undef (Cw P ops eff I0 S0 j K) (Bv l d (.bool false)) J T | false=>Ar P n o (Cw P ops eff I0 S0 j K) (Bv l d (.bool false)) J T)
    | .tuple _=>Aa n o.dst undef (Cw P ops eff I0 S0 j K) l J T
    | _=>False)
   | none=>False)
 | none=>False
def CL (P:Program) (n:Nat) (ops:Array Oper) (eff:List Nat) (I0:A1) (S0:SH) (K:Fr -> A1 -> SH -> Prop):Mv -> Fr -> A1 -> SH -> Prop
 | .done,l,J,T=>K l J T
 | .take i m,l,J,T=>match ops[i]? with
  | some o=>(match o.guard with
   | none=>Dx P n o (fun l=>CL P n ops eff I0 S0 K m l J T) l I0 S0
   | some (j,b)=>match (ops[j]?).bind (·.dst) with
    | some d=>(match l d with
     | .bool t=>A2 t
       (match b with | true=>Dx P n o (fun l=>CL P n ops eff I0 S0 K m l J T) (Bv l d (.bool true)) I0 S0 | false=>Aa n o.dst undef (fun l _ _=>CL P n ops eff I0 S0 K m l J T) (Bv l d (.bool true)) I0 S0)
       (match b with | true=>Aa n o.dst undef (fun l _ _=>CL P n ops eff I0 S0 K m l J T) (Bv l d (.bool false)) I0 S0 | false=>Dx P n o (fun l=>CL P n ops eff I0 S0 K m l J T) (Bv l d (.bool false)) I0 S0)
     | .tuple _=>Aa n o.dst undef (fun l _ _=>CL P n ops eff I0 S0 K m l J T) l I0 S0
     | _=>False)
    | none=>False)
  | none=>False
 | .step j m,l,J,T=>Dv P n ops eff I0 S0 j (CL P n ops eff I0 S0 K m) l J T
 | .fork j m j' m',l,J,T=>Dv P n ops eff I0 S0 j (CL P n ops eff I0 S0 K m) l J T /\ Dv P n ops eff I0 S0 j' (CL P n ops eff I0 S0 K m') l J T
 | .fork3 j m j' m' k q,l,J,T=>Dv P n ops eff I0 S0 j (CL P n ops eff I0 S0 K m) l J T /\ Dv P n ops eff I0 S0 j' (CL P n ops eff I0 S0 K m') l J T /\ Dv P n ops eff I0 S0 k (CL P n ops eff I0 S0 K q) l J T
theorem A0.mono {I J:A1} {S T:SH} {a:Addr} {v:Value} (h:A0 I S a v) (hk:Ak I S J T):A0 J T a v:=by
 obtain ⟨hs,cs,e,fz,hb,hv⟩:=h
 refine ⟨hs,cs,e,fz,?_,hv⟩
 rcases hb with hb | hb
 ·exact .inl (hk.1.at_ _ _ hb)
 ·obtain ⟨T',hp⟩:=hk.2
  exact .inr (hp.mem_iff.2 (List.mem_append_right _ hb))
theorem Am.of_keep {I J:A1} {S T:SH} {w:World} (hw:Am J T w) (hk:Ak I S J T):Am I S w:=by
 obtain ⟨T',hp⟩:=hk.2
 exact (hw.perm hp).drop.weaken hk.1
theorem Dx.qc {o:Oper} {K:Fr -> Prop} {l:Fr} {a:Act} (hwn:Region.wanted o (yielded ops a.tmps) = true) (h:Dx P n o K l I0 S0) (ha:Ap n l a):∃ v,QC P ops I0 S0 o v a /\ ∃ l',Ap n l' (a.put o.dst v) /\ K l':=by
 have small:(match BP P o.op with | true=>Ar P n o (fun l _ _=>K l) l I0 S0 | false=>False) -> ∃ v,QC P ops I0 S0 o v a /\ ∃ l',Ap n l' (a.put o.dst v) /\ K l':=fun h=>by
  split at h
  ·rename_i hq
   cases hrd:AF P o.op with
   | true=>
    obtain ⟨v,hr,hK⟩:=HL hrd h
    have hc:Aw P o = true:=by
     unfold Aw
     split <;> first | rfl | exact hrd
    refine ⟨v,.inl ⟨hwn,fun J T hk w hw=>?_⟩,hK.act ha⟩
    simp only [Oper.quietAt,ha.eval,hr w (hw.of_keep (hk hc)),Oper.quietUpon,and_self]
   | false=>
    obtain ⟨v,hr,hK⟩:=h.val (by simpa [BP,hrd] using hq)
    exact ⟨v,.inl ⟨hwn,fun J T _ w _=>by simp only [Oper.quietAt,ha.eval,hr w,Oper.quietUpon,and_self]⟩,hK.act ha⟩
  ·exact h.elim
 unfold Dx at h
 split at h
 ·rename_i t x ho
  split at h
  ·rename_i ad hx
   obtain ⟨v,hr,hp⟩:=NV.run h
   have hc:Aw P o = true:=by simp [Aw,ho]
   refine ⟨v,.inl ⟨hwn,fun J T hk w hw=>?_⟩,hp.act ha⟩
   simp [Oper.quietAt,ha.eval,execOp,ho,hx,hr w (hw.of_keep (hk hc)),Oper.quietUpon]
  ·exact h.elim
 ·rename_i c ho
  split at h
  ·rename_i f hf
   split at h
   ·rename_i fid fs cs hfv
    split at h
    ·rename_i hc
     obtain ⟨v,hfn,hp⟩:=GQ h
     have hcl:Aw P o = true:=by
      obtain ⟨cal,ar,at'⟩:=c
      dsimp only at hf; subst hf
      simp [Aw,ho]
     refine ⟨v,.inl ⟨hwn,fun J T hk w hw=>?_⟩,hp.act ha⟩
     unfold Bq at hc
     split at hc
     ·rename_i fn hfn'
      simp only [Bool.and_eq_true,Bool.not_eq_true'] at hc
      have hb:fn.body.isNone = false:=by cases hbd:fn.body <;> simp [hbd] at hc ⊢
      have hr:(execOp a.eval o).run P w = .ok (.enter fid (fs.toList ++ c.args.toList.map (ev l) ++ cs.toList).toArray) w:=by
       have hca:fs ++ (c.args.toList.map (ev l)).toArray ++ cs = (fs.toList ++ c.args.toList.map (ev l) ++ cs.toList).toArray:=by
        apply Array.ext'; simp
       have hargs:c.args.map (ev l) = (c.args.toList.map (ev l)).toArray:=by rw [<- Array.toList_map]
       rw [ha.eval]
       simp only [execOp,ho,resolve,hf,hfv,Deferred.ofValue,Sem.run_bind,Sem.run_pure,Result.andThen_ok,invoke,hargs,hca]
       simp only [callFunc,program,Sem.run,Sem.run_bind,Result.andThen_ok,hfn',hc.1,hb,Bool.false_eq_true,if_false,Sem.run_pure]
      obtain ⟨hle,T',hpm⟩:=hk hcl
      simp only [Oper.quietAt,hr,Oper.quietUpon,true_and]
      refine (hfn J T' hle w (hw.perm hpm)).mono ?_
      rintro e w' ⟨v',J',T'',rfl,hle',hs,rfl,rfl⟩
      exact ⟨rfl,(hs.weaken hle').perm hpm.symm⟩
     ·cases hc
    ·exact h.elim
   ·exact h.elim
  ·exact small h
 ·exact small h
theorem CL.sound (hs:Region.noSelect ops = true) {K:Fr -> A1 -> SH -> Prop} (hQ:∀ l J T a w,Ap n l a -> I0.le J -> Am J T w -> K l J T -> Q .normal a w) (hQp:∀ c a w,¬ Q (.panic c) a w) :
  ∀ (m:Mv) (op:Bool) (listed:Array Bool) (l:Fr) (a:Act) (J:A1) (T:SH),Cs P ops eff m op listed = true -> (op = true -> Ak I0 S0 J T) -> I0.le J -> Bm ops listed -> Ap n l a ->
   CL P n ops eff I0 S0 K m l J T -> BW P ops eff I0 S0 Q m.len listed a J T:=by
 have step:∀ (m:Mv) (j:Nat) (k:Nat) (op:Bool) (listed:Array Bool) (l:Fr) (a:Act) (J:A1) (T:SH),k = m.len -> eff.contains j = true -> j ∈ Region.ready .any ops listed -> I0.le J -> Bm ops listed -> Ap n l a ->
   (∀ l a J' T',(op && !BV P ops eff j = true -> Ak I0 S0 J' T') -> I0.le J' -> Ap n l a -> CL P n ops eff I0 S0 K m l J' T' -> BW P ops eff I0 S0 Q m.len (listed.setIfInBounds j true) a J' T') ->
   Dv P n ops eff I0 S0 j (CL P n ops eff I0 S0 K m) l J T -> ∀ o,ops[j]? = some o ->
   (eff.contains j = true -> ∀ w,Am J T w -> wpOp P ops Q j (fun a' w'=>∃ J' T',Am J' T' w' /\ (BV P ops eff j = true \/ Ak I0 S0 J' T') /\ BW P ops eff I0 S0 Q k (listed.setIfInBounds j true) a' J' T') a w) /\
   (eff.contains j = false -> ∃ v,YK P ops o v a J T /\ BW P ops eff I0 S0 Q k (listed.setIfInBounds j true) (a.put o.dst v) J T):=by
  intro m j k op listed l a J T hk he hr hle hcl ha ih h o ho
  subst hk
  refine ⟨fun _ w hw=>?_,fun hf=>by rw [he] at hf; cases hf⟩
  unfold Dv at h
  simp only [ho] at h
  have fin:∀ a' w',NX n J (Cw P ops eff I0 S0 j (CL P n ops eff I0 S0 K m)) a' w' -> ∃ J' T',Am J' T' w' /\ (BV P ops eff j = true \/ Ak I0 S0 J' T') /\ BW P ops eff I0 S0 Q m.len (listed.setIfInBounds j true) a' J' T':=by
   rintro a' w' ⟨l',J',T',h1,h2,h3,h4⟩
   unfold Cw at h4
   cases hl:BV P ops eff j with
   | true=>
    rw [hl] at h4
    exact ⟨J',T',h3,.inl rfl,ih l' a' J' T' (fun hh=>by simp [hl] at hh) (hle.trans h2) h1 h4⟩
   | false=>
    rw [hl] at h4
    exact ⟨J',T',h3,.inr h4.1,ih l' a' J' T' (fun _=>h4.1) (hle.trans h2) h1 h4.2⟩
  unfold wpOp
  simp only [ho]
  rcases AC (o:=o) (ops:=ops) (K1:=fun l=>Ar P n o (Cw P ops eff I0 S0 j (CL P n ops eff I0 S0 K m)) l J T) (K2:=fun l=>Aa n o.dst undef (Cw P ops eff I0 S0 j (CL P n ops eff I0 S0 K m)) l J T) ha h with ⟨hwn,h⟩ | ⟨hwn,h⟩
  ·rw [if_pos hwn]
   exact .inl (Oper.wp_mono fin (Ar.sound (Q:=Q) h hw ha))
  ·rw [if_neg (by rw [hwn]; simp)]
   exact fin _ _ (h.nx ha (A1.le.refl J) hw)
 intro m
 induction m with
 | done=>
  intro op listed l a J T hok hk hle hcl ha h
  exact ⟨List.isEmpty_iff.1 hok,fun w hw=>hQ l J T a w ha hle hw h⟩
 | take i m ih=>
  intro op listed l a J T hok hk hle hcl ha h
  simp only [Cs,Bool.and_eq_true,Bool.not_eq_true',Mv.len] at hok ⊢
  obtain ⟨⟨⟨⟨he,hr⟩,hf⟩,hc⟩,hm⟩:=hok
  have hr':i ∈ Region.ready .any ops listed:=by simpa using hr
  cases ho:ops[i]? with
  | none=>rw [ho] at hc; cases hc
  | some o=>
   rw [ho] at hc
   simp only [CL,ho] at h
   have hcls:Aw P o = true -> Ak I0 S0 J T:=fun hb=>hk (by simpa [hb] using hc)
   have fin:∀ v,QC P ops I0 S0 o v a -> (∃ l',Ap n l' (a.put o.dst v) /\ CL P n ops eff I0 S0 K m l' J T) -> BW P ops eff I0 S0 Q (m.len + 1) listed a J T:=fun v hqc ⟨l',hl',hd⟩=>
    BW.take ho (Region.noSelect_spec hs) he (fun c a w hp=>absurd hp (hQp c _ w)) m.len listed a J T hcl (Region.free_spec ho hf) hr' hqc hcls (ih op _ l' _ J T hm hk hle (hcl.set hr') hl' hd)
   rcases AC (o:=o) (ops:=ops) (K1:=fun l=>Dx P n o (fun l=>CL P n ops eff I0 S0 K m l J T) l I0 S0) (K2:=fun l=>Aa n o.dst undef (fun l _ _=>CL P n ops eff I0 S0 K m l J T) l I0 S0) ha h with ⟨hwn,h⟩ | ⟨hwn,h⟩
   ·obtain ⟨v,hqc,hd⟩:=h.qc hwn ha
    exact fin v hqc hd
   ·exact fin undef (.inr ⟨hwn,rfl⟩) (h.act ha)
 | step j m ih=>
  intro op listed l a J T hok hk hle hcl ha h
  simp only [Cs,Bool.and_eq_true,Mv.len,beq_iff_eq] at hok ⊢
  obtain ⟨⟨he,hr⟩,hm⟩:=hok
  have hr':j ∈ Region.ready .any ops listed:=by rw [hr]; simp
  refine ⟨fun h0=>(by rw [hr] at h0; cases h0),fun j' hj' o ho=>?_⟩
  rw [hr] at hj'
  simp at hj'; subst hj'
  exact step m j' m.len op listed l a J T rfl he hr' hle hcl ha (fun l a J' T' hk' hle' ha' hd=>ih _ _ l a J' T' hm (by simpa using hk') hle' (hcl.set hr') ha' hd) h o ho
 | fork j m j' m' ih ih'=>
  intro op listed l a J T hok hk hle hcl ha h
  simp only [Cs,Bool.and_eq_true,Mv.len,beq_iff_eq] at hok ⊢
  obtain ⟨⟨⟨⟨⟨he,he'⟩,hr⟩,hlen⟩,hm⟩,hm'⟩:=hok
  have hlen:=Nat.eq_of_beq_eq_true hlen
  have hr1:j ∈ Region.ready .any ops listed:=by rw [hr]; simp
  have hr2:j' ∈ Region.ready .any ops listed:=by rw [hr]; simp
  refine ⟨fun h0=>(by rw [hr] at h0; cases h0),fun i hi o ho=>?_⟩
  rw [hr] at hi
  simp at hi
  rcases hi with rfl | rfl
  ·exact step m i m.len op listed l a J T rfl he hr1 hle hcl ha (fun l a J' T' hk' hle' ha' hd=>ih _ _ l a J' T' hm (by simpa using hk') hle' (hcl.set hr1) ha' hd) h.1 o ho
  ·exact step m' i m.len op listed l a J T hlen he' hr2 hle hcl ha (fun l a J' T' hk' hle' ha' hd=>ih' _ _ l a J' T' hm' (by simpa using hk') hle' (hcl.set hr2) ha' hd) h.2 o ho
 | fork3 j m j' m' k q ih ih' ih2=>
  intro op listed l a J T hok hk hle hcl ha h
  simp only [Cs,Bool.and_eq_true,Mv.len,beq_iff_eq] at hok ⊢
  obtain ⟨⟨⟨⟨⟨⟨⟨⟨he,he'⟩,he2⟩,hr⟩,hlen⟩,hlen2⟩,hm⟩,hm'⟩,hm2⟩:=hok
  have hlen:=Nat.eq_of_beq_eq_true hlen
  have hlen2:=Nat.eq_of_beq_eq_true hlen2
  have hr1:j ∈ Region.ready .any ops listed:=by rw [hr]; simp
  have hr2:j' ∈ Region.ready .any ops listed:=by rw [hr]; simp
  have hr3:k ∈ Region.ready .any ops listed:=by rw [hr]; simp
  refine ⟨fun h0=>(by rw [hr] at h0; cases h0),fun i hi o ho=>?_⟩
  rw [hr] at hi
  simp at hi
  rcases hi with rfl | rfl | rfl
  ·exact step m i m.len op listed l a J T rfl he hr1 hle hcl ha (fun l a J' T' hk' hle' ha' hd=>ih _ _ l a J' T' hm (by simpa using hk') hle' (hcl.set hr1) ha' hd) h.1 o ho
  ·exact step m' i m.len op listed l a J T hlen he' hr2 hle hcl ha (fun l a J' T' hk' hle' ha' hd=>ih' _ _ l a J' T' hm' (by simpa using hk') hle' (hcl.set hr2) ha' hd) h.2.1 o ho
  ·exact step q i m.len op listed l a J T hlen2 he2 hr3 hle hcl ha (fun l a J' T' hk' hle' ha' hd=>ih2 _ _ l a J' T' hm2 (by simpa using hk') hle' (hcl.set hr3) ha' hd) h.2.2 o ho
theorem WP.draw' {Q:Exit -> Fr -> A1 -> SH -> Prop} {l:Fr} {I:A1} {S:SH} {c:Code} (m:Mv) (eff:List Nat) (hc:c = .region (Eb c) (Ag c) true) (hm:P.follows .mixedOrders = true) (hs:Region.noSelect (Ag c) = true)
  (hl:Nat.beq m.len (Ag c).size = true) (hok:Cs P (Ag c) eff m true (Array.replicate (Ag c).size false) = true) (h:CL P n (Ag c) eff I S (Q .normal) m l I S):WP P n c Q l I S:=by
 rw [hc]
 intro w a hw ha
 refine wp_mono (Q:=fun e a' w'=>e = .normal /\ ∃ l' J T,Ap n l' a' /\ I.le J /\ Am J T w' /\ Q e l' J T) (wp_region_any hm (BW.wp (eff:=eff) (I0:=I) (S0:=S) _ _ a I S _ hw.drew ?_)) (fun e a w h=>h.2)
 have:=CL.sound (P:=P) (ops:=Ag c) (eff:=eff) (I0:=I) (S0:=S) (Q:=fun e a' w'=>e = .normal /\ ∃ l' J T,Ap n l' a' /\ I.le J /\ Am J T w' /\ Q e l' J T) hs (K:=Q .normal)
  (fun l J T a w h1 h2 h3 h4=>⟨rfl,l,J,T,h1,h2,h3,h4⟩) (fun c a w h=>by cases h.1) m true _ l a I S hok (fun _=>Ak.refl I S) (A1.le.refl I) ?_ ha h
 ·rw [Nat.eq_of_beq_eq_true hl] at this
  exact this
 ·intro j o _ hlj
  rw [AG] at hlj
  cases hlj
theorem WP.drawF {Q:Exit -> Fr -> A1 -> SH -> Prop} {l:Fr} {I:A1} {S:SH} {c:Code} (m:Mv) (eff:List Nat) (hc:c = .region (Eb c) (Ag c) true) (hm:P.follows .mixedOrders = true) (hs:Region.noSelect (Ag c) = true)
  (hl:Nat.beq m.len (Ag c).size = true) (hok:Cs P (Ag c) eff m true (Array.replicate (Ag c).size false) = true) (h:∃ F:SH,Ak I F I S /\ CL P n (Ag c) eff I F (Q .normal) m l I S):WP P n c Q l I S:=by
 obtain ⟨F,hF,h⟩:=h
 rw [hc]
 intro w a hw ha
 refine wp_mono (Q:=fun e a' w'=>e = .normal /\ ∃ l' J T,Ap n l' a' /\ I.le J /\ Am J T w' /\ Q e l' J T) (wp_region_any hm (BW.wp (eff:=eff) (I0:=I) (S0:=F) _ _ a I S _ hw.drew ?_)) (fun e a w h=>h.2)
 have:=CL.sound (P:=P) (ops:=Ag c) (eff:=eff) (I0:=I) (S0:=F) (Q:=fun e a' w'=>e = .normal /\ ∃ l' J T,Ap n l' a' /\ I.le J /\ Am J T w' /\ Q e l' J T) hs (K:=Q .normal)
  (fun l J T a w h1 h2 h3 h4=>⟨rfl,l,J,T,h1,h2,h3,h4⟩) (fun c a w h=>by cases h.1) m true _ l a I S hok (fun _=>hF) (A1.le.refl I) ?_ ha h
 ·rw [Nat.eq_of_beq_eq_true hl] at this
  exact this
 ·intro j o _ hlj
  rw [AG] at hlj
  cases hlj
end
def PW (f:FuncId) (v:Value) (K:Addr -> Prop):Prop:=match v with
 | .func (.func g) ⟨[]⟩ ⟨[.pointer (some a)]⟩=>(match Nat.beq g f with | true=>K a | false=>False)
 | _=>False
theorem PX {f:FuncId} {v:Value} {K:Addr -> Prop} (h:PW f v K):∃ a,v = .func (.func f) #[] #[.pointer (some a)] /\ K a:=by
 unfold PW at h
 split at h
 ·split at h
  ·rename_i hb; have:=Nat.eq_of_beq_eq_true hb; subst this; exact ⟨_,rfl,h⟩
  ·exact h.elim
 ·exact h.elim
abbrev OA:=Option Addr
abbrev RT:=Value -> A1 -> SH -> Prop
abbrev PR:=A1 -> SH -> Prop
def tk:Nat -> Nat -> Mv -> Mv
 | 0,_,m=>m
 | k + 1,i,m=>.take i (tk k (i + 1) m)
inductive Sk where
 | i (k:IntKind)
 | b
 | s
 | p
 | a
 | m
 | v
 | l
 | f (q:FuncId)
 | fa (q:FuncId)
 | x
 | z
inductive Kd where
 | c (k:Sk)
 | g (es:List Sk)
abbrev kI (k:IntKind) (i:Nat):Nat × Kd:=(i,.c (.i k))
abbrev kB (i:Nat):Nat × Kd:=(i,.c .b)
abbrev kS (i:Nat):Nat × Kd:=(i,.c .s)
abbrev kP (i:Nat):Nat × Kd:=(i,.c .p)
abbrev kA (i:Nat):Nat × Kd:=(i,.c .a)
abbrev kV (i:Nat):Nat × Kd:=(i,.c .v)
abbrev kL (i:Nat):Nat × Kd:=(i,.c .l)
noncomputable def cd (f:Func):Code:=f.body.getD .skip
@[reducible] def ST:Sk -> Type -> Type
 | .i _,X=>Int -> X
 | .b,X=>Bool -> X
 | .s,X=>ByteArray -> X
 | .p,X=>Option Addr -> X
 | .a,X=>Addr -> X
 | .m,X=>Option Nat -> X
 | .v,X=>Value -> X
 | .l,X=>Option Addr -> Nat -> Nat -> X
 | .f _,X=>X
 | .fa _,X=>Addr -> X
 | .x,X=>Nat -> X
 | .z,X=>Nat -> Nat -> X
@[reducible] def SG:List Sk -> Type -> Type
 | [],X=>X
 | k :: r,X=>ST k (SG r X)
@[reducible] def CT:List (Nat × Kd) -> Type
 | []=>A1 -> SH -> Prop
 | (_,.c k) :: r=>ST k (CT r)
 | (_,.g es) :: r=>SG es (CT r)
def Sq (v:Value) (K:Nat -> Prop):Prop:=match v with
 | .float .f64 b=>K b
 | _=>False
theorem RD {v:Value} {K:Nat -> Prop} (h:Sq v K):∃ b,v = .float .f64 b /\ K b:=by
 cases v with
 | float k b=>cases k <;> first | exact ⟨_,rfl,h⟩ | exact h.elim
 | _=>exact h.elim
def Sr (v:Value) (K:Nat -> Nat -> Prop):Prop:=match v with
 | .complex .f64 a b=>K a b
 | _=>False
theorem RE {v:Value} {K:Nat -> Nat -> Prop} (h:Sr v K):∃ a b,v = .complex .f64 a b /\ K a b:=by
 cases v with
 | complex k a b=>cases k <;> first | exact ⟨_,_,rfl,h⟩ | exact h.elim
 | _=>exact h.elim
def rS {X:Type}:(k:Sk) -> Value -> ST k X -> (X -> Prop) -> Prop
 | .i k,v,K,G=>Sp k v fun n=>G (K n)
 | .b,v,K,G=>Sn v fun n=>G (K n)
 | .s,v,K,G=>PG v fun n=>G (K n)
 | .p,v,K,G=>PF v fun n=>G (K n)
 | .a,v,K,G=>PD v fun n=>G (K n)
 | .m,v,K,G=>PE v fun n=>G (K n)
 | .v,v,K,G=>TK v fun n=>G (K n)
 | .l,v,K,G=>RC v fun p n c=>G (K p n c)
 | .f q,v,K,G=>Se q v (G K)
 | .fa q,v,K,G=>PW q v fun n=>G (K n)
 | .x,v,K,G=>Sq v fun n=>G (K n)
 | .z,v,K,G=>Sr v fun a b=>G (K a b)
def Ry (v:Value) (K:List Value -> Prop):Prop:=match v with
 | .agg cs=>K cs.toList
 | _=>False
theorem PV {v:Value} {K:List Value -> Prop} (h:Ry v K):∃ cs,v = .agg cs /\ K cs.toList:=by cases v <;> first | exact ⟨_,rfl,h⟩ | exact h.elim
def rG {X:Type}:(es:List Sk) -> List Value -> SG es X -> (X -> Prop) -> Prop
 | [],[],K,G=>G K
 | k :: r,v :: vs,K,G=>rS k v K fun K'=>rG r vs K' G
 | _,_,_,_=>False
def rd:(ks:List (Nat × Kd)) -> CT ks -> Fr -> A1 -> SH -> Prop
 | [],K,_,I,S=>K I S
 | (i,.c k) :: r,K,l,I,S=>rS k (l i) K fun K'=>rd r K' l I S
 | (i,.g es) :: r,K,l,I,S=>Ry (l i) fun cs=>rG es cs K fun K'=>rd r K' l I S
def OS {X:Type}:(k:Sk) -> ST k X -> (X -> Value -> Prop) -> Prop
 | .i k,K,G=>∀ n,G (K n) (.int k n)
 | .b,K,G=>∀ n,G (K n) (.bool n)
 | .s,K,G=>∀ n,G (K n) (.string n)
 | .p,K,G=>∀ n,G (K n) (.pointer n)
 | .a,K,G=>∀ n,G (K n) (.pointer (some n))
 | .m,K,G=>∀ n,G (K n) (.map n)
 | .v,K,G=>∀ n,G (K n) n
 | .l,K,G=>∀ p n c,G (K p n c) (.slice p n c)
 | .f q,K,G=>G K (.func (.func q) #[] #[])
 | .fa q,K,G=>∀ n,G (K n) (.func (.func q) #[] #[.pointer (some n)])
 | .x,K,G=>∀ n,G (K n) (.float .f64 n)
 | .z,K,G=>∀ a b,G (K a b) (.complex .f64 a b)
def OG {X:Type}:(es:List Sk) -> SG es X -> (X -> List Value -> Prop) -> Prop
 | [],K,G=>G K []
 | k :: r,K,G=>OS k K fun K' v=>OG r K' fun K'' vs=>G K'' (v :: vs)
def OT:(ks:List (Nat × Kd)) -> CT ks -> Fr -> (Fr -> Prop) -> A1 -> SH -> Prop
 | [],K,l,G,I,S=>K I S -> G l
 | (i,.c k) :: r,K,l,G,I,S=>OS k K fun K' v=>OT r K' (Bv l i v) G I S
 | (i,.g es) :: r,K,l,G,I,S=>OG es K fun K' vs=>OT r K' (Bv l i (.agg vs.toArray)) G I S
theorem rS.op {X:Type} {G:Prop} {H:X -> Prop} {M:X -> Value -> Prop}:∀ {k:Sk} {v:Value} {K:ST k X},rS k v K H -> OS k K M -> (∀ K',H K' -> M K' v -> G) -> G
 | .i _,v,K,h,g,o=>by obtain ⟨n,e,h'⟩:=RB h; subst e; exact o _ h' (g n)
 | .b,v,K,h,g,o=>by obtain ⟨n,e,h'⟩:=Rz h; subst e; exact o _ h' (g n)
 | .s,v,K,h,g,o=>by obtain ⟨n,e,h'⟩:=Pa h; subst e; exact o _ h' (g n)
 | .p,v,K,h,g,o=>by obtain ⟨n,e,h'⟩:=P9 h; subst e; exact o _ h' (g n)
 | .a,v,K,h,g,o=>by obtain ⟨n,e,h'⟩:=P7 h; subst e; exact o _ h' (g n)
 | .m,v,K,h,g,o=>by obtain ⟨n,e,h'⟩:=P8 h; subst e; exact o _ h' (g n)
 | .v,v,K,h,g,o=>o _ h (g v)
 | .l,v,K,h,g,o=>by obtain ⟨p,n,c,e,h'⟩:=PY h; subst e; exact o _ h' (g p n c)
 | .f _,v,K,h,g,o=>by obtain ⟨e,h'⟩:=RA h; subst e; exact o _ h' g
 | .fa _,v,K,h,g,o=>by obtain ⟨n,e,h'⟩:=PX h; subst e; exact o _ h' (g n)
 | .x,v,K,h,g,o=>by obtain ⟨n,e,h'⟩:=RD h; subst e; exact o _ h' (g n)
 | .z,v,K,h,g,o=>by obtain ⟨a,b,e,h'⟩:=RE h; subst e; exact o _ h' (g a b)
theorem rG.op {X:Type} {G:Prop} {H:X -> Prop}:∀ {es:List Sk} {vs:List Value} {K:SG es X} {M:X -> List Value -> Prop},rG es vs K H -> OG es K M -> (∀ K',H K' -> M K' vs -> G) -> G
 | [],[],K,M,h,g,o=>o _ h g
 | [],_ :: _,K,M,h,g,o=>h.elim
 | _ :: _,[],K,M,h,g,o=>h.elim
 | k :: r,v :: vs,K,M,h,g,o=>rS.op h g fun K' h' g'=>rG.op h' g' o
theorem OT.op:∀ {ks:List (Nat × Kd)} {K:CT ks} {l:Fr} {G:Fr -> Prop} {I:A1} {S:SH},rd ks K l I S -> OT ks K l G I S -> G l
 | [],K,l,G,I,S,h,g=>g h
 | (i,.c k) :: r,K,l,G,I,S,h,g=>rS.op h g fun K' h' g'=>by
  rw [<- FB (l:=l) (d:=i) rfl] at g'
  exact OT.op h' g'
 | (i,.g es) :: r,K,l,G,I,S,h,g=>by
  obtain ⟨cs,e,h⟩:=PV h
  refine rG.op h g fun K' h' g'=>?_
  rw [show cs.toList.toArray = cs from rfl,<- FB (l:=l) (d:=i) e] at g'
  exact OT.op h' g'
section
variable {P:Program} {n:Nat} {c:Code} {Q:Exit -> Fr -> A1 -> SH -> Prop} {l:Fr} {I:A1} {S:SH} {A B:Prop}
theorem op {ks:List (Nat × Kd)} {K:CT ks} (h:rd ks K l I S) (g:OT ks K l (fun l=>WP P n c Q l I S) I S):WP P n c Q l I S:=OT.op h g
theorem pS (h:A) (e:A = Fb P n c Q l I S:=by kernel_rfl):WP P n c Q l I S:=Fb.sound _ _ _ _ _ (cast e h)
theorem bK (h:WP P n (Fh c) (DU (DD c) Q) l I S) (hc:c = .block (DD c) (Fh c):=by kernel_rfl):WP P n c Q l I S:=WP.block' hc h
theorem cD {t:Bool} (h:A2 t A B) (hA:A -> WP P n (Lv c) Q l I S) (hB:B -> WP P n (Lu c) Q l I S) (hc:c = .cond (Lt c) (Lv c) (Lu c):=by kernel_rfl) (ht:ev l (Lt c) = .bool t:=by kernel_rfl):WP P n c Q l I S:=WP.cond' hc ht h hA hB
theorem qT (h:A) (hc:c = .region (Eb c) (Ag c) true:=by kernel_rfl) (hm:P.follows .mixedOrders = true:=by kernel_rfl) (hB:Region.lexB .any (Ag c) = true:=by kernel_rfl)
  (e:A = C0 P n (Ag c) I S (Ag c).toList (fun l=>Q .normal l I S) l:=by kernel_rfl):WP P n c Q l I S:=WP.quiet' hc hm hB (cast e h)
theorem dR (m:Mv) (eff:List Nat) (h:A) (hc:c = .region (Eb c) (Ag c) true:=by kernel_rfl) (hm:P.follows .mixedOrders = true:=by kernel_rfl) (hs:Region.noSelect (Ag c) = true:=by kernel_rfl)
  (hl:Nat.beq m.len (Ag c).size = true:=by kernel_rfl) (hok:Cs P (Ag c) eff m true (Array.replicate (Ag c).size false) = true:=by kernel_rfl) (e:A = CL P n (Ag c) eff I S (Q .normal) m l I S:=by kernel_rfl):WP P n c Q l I S:=WP.draw' m eff hc hm hs hl hok (cast e h)
theorem dF (m:Mv) (eff:List Nat) (h:A) (hc:c = .region (Eb c) (Ag c) true:=by kernel_rfl) (hm:P.follows .mixedOrders = true:=by kernel_rfl) (hs:Region.noSelect (Ag c) = true:=by kernel_rfl)
  (hl:Nat.beq m.len (Ag c).size = true:=by kernel_rfl) (hok:Cs P (Ag c) eff m true (Array.replicate (Ag c).size false) = true:=by kernel_rfl) (e:A = (∃ F:SH,Ak I F I S /\ CL P n (Ag c) eff I F (Q .normal) m l I S):=by kernel_rfl):WP P n c Q l I S:=WP.drawF m eff hc hm hs hl hok (cast e h)
theorem cO (k:Nat) (ks:List (Nat × Kd)) (K:CT ks) (h:A) (g:∀ l J T,I.le J -> OT ks K l (fun l=>WP P n (BJ k c) Q l J T) J T) (e:A = Fc P n (rd ks K) k c Q l I S:=by kernel_rfl):WP P n c Q l I S:=WP.cut k (rd ks K) (cast e h) fun l J T hle h=>OT.op h (g l J T hle)
theorem sO (ks:List (Nat × Kd)) (K:CT ks) (h1:WP P n (Pu c) (Dn (rd ks K) Q) l I S) (g:∀ l J T,I.le J -> OT ks K l (fun l=>WP P n (HG c) Q l J T) J T) (hc:c = .seq (Pu c) (HG c):=by kernel_rfl):WP P n c Q l I S:=WP.seqY hc (rd ks K) h1 fun l J T hle h=>OT.op h (g l J T hle)
theorem lO (ks:List (Nat × Kd)) (V:Nat -> CT ks) (m:Nat) (h0:A) (g:∀ m l J T,I.le J -> OT ks (V m) l (fun l=>WP P n (LC c) (Dn (fun l' J' T'=>∃ m',m' < m /\ rd ks (V m') l' J' T') Q) l J T) J T) (hc:c = .loop (LC c):=by kernel_rfl) (e:A = rd ks (V m) l I S:=by kernel_rfl):WP P n c Q l I S:=
 WP.loop' hc (fun m=>rd ks (V m)) m (cast e h0) fun m l J T hle h=>OT.op h (g m l J T hle)
end
end Go.Px
set_option linter.unusedVariables false
set_option maxRecDepth 8000
set_option maxHeartbeats 2000000
namespace Go.Proofs.YtidkiajflmngcaaGreatDoor
open Go.Px
abbrev De:=OA -> Nat -> Nat -> ByteArray -> PR
def JY (g4:De) (R:RT) (j:OA) (g f:Nat) (c:ByteArray) (a:Int) (I:A1) (S:SH):Prop:=
 (0:Int) <= (IntKind.wrap .i64 ((1:Int) + a)) /\ (IntKind.wrap .i64 ((1:Int) + a)) <= ((c.size:Nat):Int) /\
 (0:Int) <= (1:Int) /\ (1:Int) <= (((IntKind.wrap .i64 ((1:Int) + a)).toNat:Nat):Int) /\
 ∀ b:Nat,
 AA 9 1 16 [.string ⟨#[]⟩] (some (.slice 9)) I ((b,.cells #[.string (c.extract ((1:Int).toNat) ((IntKind.wrap .i64 ((1:Int) + a)).toNat))] 9 (0,0)) :: S) (.slice j g f) (.slice (some ⟨b,0,none⟩) 1 1) fun i e d h=>
 (0:Int) <= (IntKind.wrap .i64 ((1:Int) + a)) /\ (IntKind.wrap .i64 ((1:Int) + a)) <= ((c.size:Nat):Int) /\
 g4 i e d (c.extract ((IntKind.wrap .i64 ((1:Int) + a)).toNat) c.size) I h
def Ex (g4:De) (R:RT) (d:OA) (c b:Nat) (e:ByteArray) (f:Int) (a:Bool) (I:A1) (S:SH):Prop:=
 A2 a
  (R (.tuple #[.slice none 0 0,.bool false]) I S)
  (JY g4 R d c b e f I S)
def JX (g4:De) (R:RT) (e:OA) (b a:Nat) (d:ByteArray) (c:Int) (I:A1) (S:SH):Prop:=
 A2 (decide (c < (1:Int)))
  (Ex g4 R e b a d c true I S)
  (A2 (decide (c > (63:Int)))
   (Ex g4 R e b a d c true I S)
   (Ex g4 R e b a d c (decide (c >= (d.size:Int))) I S))
def JW (g4:De) (R:RT) (e:OA) (b a:Nat) (d:ByteArray) (I:A1) (S:SH):Prop:=
 ∃ c:UInt8,(0:Int) <= (0:Int) /\ d[(0:Int).toNat]? = some c /\
 JX g4 R e b a d (IntKind.wrap .i64 (c.toNat:Int)) I S
def JZ (R:RT) (c:OA) (b a:Nat) (I:A1) (S:SH):Prop:=
 R (.tuple #[.slice c b a,.bool true]) I S
def Nw (g4:De) (R:RT) (c:OA) (b a:Nat) (d:ByteArray) (I:A1) (S:SH):Prop:=
 A2 (decide ((d.size:Int) > (0:Int)))
  (JW g4 R c b a d I S)
  (JZ R c b a I S)
def JV (R:RT) (c:OA) (b a:Nat) (d:ByteArray) (I:A1) (S:SH):Prop:=
 ∃ (Inv:Nat -> De) (m:Nat),Inv m c b a d I S /\
  ∀ (m:Nat) (c:OA) (b a:Nat) (d:ByteArray) (J:A1) (T:SH),I.le J -> Inv m c b a d J T ->
   Nw (fun c b a d I S=>∃ m',m' < m /\ Inv m' c b a d I S) R c b a d J T
def Ga (R:RT) (d:OA) (c b:Nat) (e:ByteArray) (a:Bool) (I:A1) (S:SH):Prop:=
 A2 a
  (R (.tuple #[.slice none 0 0,.bool false]) I S)
  (JV R d c b e I S)
def JU (R:RT) (e:OA) (b a:Nat) (c:ByteArray) (I:A1) (S:SH):Prop:=
 A2 (decide ((c.size:Int) > (254:Int)))
  (Ga R e b a c true I S)
  (Runs Tryz.prog 38 #[.string c] I S fun v f g=>∃ d,v = .string d /\
  Ga R e b a c (!(c.toList == d.toList)) f g)
def Th (R:RT) (a:ByteArray) (I:A1) (S:SH):Prop:=
 JU R none 0 0 a I S
theorem QS (R:RT) (i:ByteArray) (I:A1) (S:SH) (h:Th R i I S):Runs Tryz.prog 114 #[.string i] I S R:=by
 refine Runs.of_wp (c:=cd Tryz.f114) Tryz.func114 (by kernel_rfl) (by kernel_rfl) ?_
 refine cO 3 [kL 4,kS 5] (JU R) h fun _ _ _ _ _ _ _ _ h=>?_
 refine sO [kL 4,kS 5] (JV R) ?_ fun _ _ _ _ _ _ _ _ h=>?_
 ·refine cO 1 [kL 4,kS 5,kB 16] (Ga R) h fun _ _ _ _ _ _ _ _ _ h=>?_
  exact pS h
 refine sO [kL 4] (JZ R) ?_ fun _ _ _ _ _ _ _ h=>?_
 ·refine bK ?_
  obtain ⟨e,d,h,hr⟩:=h
  refine lO [kL 4,kS 5] e d h fun d _ I S hle f b a g h=>?_
  have h:=hr d f b a g I S hle h
  refine cO 1 [kL 4,kS 5] (JW (fun f b a g I S=>∃ m',m' < d /\ e m' f b a g I S) R) h fun _ _ _ _ _ _ _ _ h=>?_
  refine bK ?_
  refine cO 1 [kL 4,kS 5,kI .i64 6] (JX (fun f b a g I S=>∃ m',m' < d /\ e m' f b a g I S) R) h fun _ _ _ _ _ _ _ _ _ h=>?_
  refine sO [kL 4,kS 5,kI .i64 6] (JY (fun f b a g I S=>∃ m',m' < d /\ e m' f b a g I S) R) ?_ fun _ _ _ _ _ _ _ _ _ h=>?_
  ·refine cO 1 [kL 4,kS 5,kI .i64 6,kB 34] (Ex (fun f b a g I S=>∃ m',m' < d /\ e m' f b a g I S) R) h fun _ _ _ _ _ _ _ _ _ _ h=>?_
   exact pS h
  exact pS h
 exact pS h
abbrev CJ:=Addr -> OA -> Nat -> Nat -> Int -> Int -> PR
def Ky (g3:CJ) (R:RT) (c:Addr) (d:OA) (b a:Nat) (e f:Int) (I:A1) (S:SH):Prop:=
 g3 c d b a e (IntKind.wrap .i64 (f + (1:Int))) I S
def Kx (g3:CJ) (R:RT) (f:Addr) (j:ByteArray) (q:OA) (h g:Nat) (r s:Int) (I:A1) (S:SH):Prop:=
 Runs Tryz.prog 36 #[.pointer (some f),.int .u8 (IntKind.wrap .u8 (j.size:Int))] I S fun v k l=>∃ m,v = m /\
 Runs Tryz.prog 38 #[.string j] k l fun p c d=>∃ i,p = .string i /\
 Runs Tryz.prog 37 #[.pointer (some f),.string i] c d fun e a b=>∃ n o,e = .tuple #[.int .i64 n,o] /\
 Ky g3 R f q h g r s a b
def EC (g3:CJ) (R:RT) (d:Addr) (e:ByteArray) (f:OA) (c b:Nat) (g h:Int) (a:Bool) (I:A1) (S:SH):Prop:=
 A2 a
  (R (.tuple #[.string ⟨#[]⟩,.bool false]) I S)
  (Kx g3 R d e f c b g h I S)
def Kw (g3:CJ) (R:RT) (d:Addr) (c:ByteArray) (e:OA) (b a:Nat) (f g:Int) (I:A1) (S:SH):Prop:=
 A2 (decide ((c.size:Int) < (1:Int)))
  (EC g3 R d c e b a f g true I S)
  (A2 (decide ((c.size:Int) > (63:Int)))
   (EC g3 R d c e b a f g true I S)
   (Runs Tryz.prog 35 #[.pointer (some d)] I S fun v i j=>∃ h,v = .int .i64 h /\
   EC g3 R d c e b a f g (decide ((IntKind.wrap .i64 ((IntKind.wrap .i64 (h + (1:Int))) + (c.size:Int))) > (254:Int))) i j))
def Kv (g3:CJ) (R:RT) (g:Addr) (e:OA) (a c:Nat) (h b:Int) (I:A1) (S:SH):Prop:=
 A6 e fun f=>(0:Int) <= b /\ b < (a:Int) /\
 ∃ d,A0 I S (f.add (b.toNat * 1)) (.string d) /\
 Kw g3 R g d e a c h b I S
def Kz (R:RT) (d:Addr) (I:A1) (S:SH):Prop:=
 Runs Tryz.prog 39 #[.pointer (some d)] I S fun v b c=>∃ a,v = .string a /\
 R (.tuple #[.string a,.bool true]) b c
def NC (g3:CJ) (R:RT) (c:Addr) (f:OA) (b a:Nat) (d e:Int) (I:A1) (S:SH):Prop:=
 A2 (decide (e < d))
  (Kv g3 R c f b a d e I S)
  (Kz R c I S)
def Ku (R:RT) (c:Addr) (d:OA) (b a:Nat) (e f:Int) (I:A1) (S:SH):Prop:=
 ∃ (Inv:Nat -> CJ) (m:Nat),Inv m c d b a e f I S /\
  ∀ (m:Nat) (c:Addr) (d:OA) (b a:Nat) (e f:Int) (J:A1) (T:SH),I.le J -> Inv m c d b a e f J T ->
   NC (fun c d b a e f I S=>∃ m',m' < m /\ Inv m' c d b a e f I S) R c d b a e f J T
def Kt (R:RT) (c:OA) (a b:Nat) (d:Addr) (I:A1) (S:SH):Prop:=
 Ku R d c a b (a:Int) 0 I S
def Tu (R:RT) (d:OA) (b a:Nat) (I:A1) (S:SH):Prop:=
 ∀ c:Nat,
 Kt R d b a ⟨c,0,none⟩ I ((c,.cells #[.pointer none,.slice none 0 0] 115 (0,0)) :: S)
theorem R2 (R:RT) (m:OA) (l k:Nat) (I:A1) (S:SH) (h:Tu R m l k I S):Runs Tryz.prog 17 #[.slice m l k] I S R:=by
 refine Runs.of_wp (c:=cd Tryz.f17) Tryz.func17 (by kernel_rfl) (by kernel_rfl) ?_
 refine cO 2 [kL 0,kA 4] (Kt R) h fun _ _ _ _ _ _ _ _ h=>?_
 refine sO [kA 4] (Kz R) ?_ fun _ _ _ _ _ h=>?_
 ·refine cO 1 [kA 4,kL 7,kI .i64 8,kI .i64 9] (Ku R) h fun _ _ _ _ _ _ _ _ _ _ h=>?_
  refine bK ?_
  obtain ⟨e,d,h,hr⟩:=h
  refine lO [kA 4,kL 7,kI .i64 8,kI .i64 9] e d h fun d _ I S hle f g b a i j h=>?_
  have h:=hr d f g b a i j I S hle h
  refine cO 2 [kA 4,kL 7,kI .i64 8,kI .i64 9] (Kv (fun f g b a i j I S=>∃ m',m' < d /\ e m' f g b a i j I S) R) h fun _ _ _ _ _ _ _ _ _ _ h=>?_
  refine sO [kA 4,kL 7,kI .i64 8,kI .i64 9] (Ky (fun f g b a i j I S=>∃ m',m' < d /\ e m' f g b a i j I S) R) ?_ fun _ _ _ _ _ _ _ _ _ _ h=>?_
  ·refine bK ?_
   refine cO 1 [kA 4,kS 6,kL 7,kI .i64 8,kI .i64 9] (Kw (fun f g b a i j I S=>∃ m',m' < d /\ e m' f g b a i j I S) R) h fun _ _ _ _ _ _ _ _ _ _ _ h=>?_
   refine sO [kA 4,kS 6,kL 7,kI .i64 8,kI .i64 9] (Kx (fun f g b a i j I S=>∃ m',m' < d /\ e m' f g b a i j I S) R) ?_ fun _ _ _ _ _ _ _ _ _ _ _ h=>?_
   ·refine cO 1 [kA 4,kS 6,kL 7,kI .i64 8,kI .i64 9,kB 28] (EC (fun f g b a i j I S=>∃ m',m' < d /\ e m' f g b a i j I S) R) h fun _ _ _ _ _ _ _ _ _ _ _ _ h=>?_
    exact pS h
   exact pS h
  exact pS h
 exact pS h
def TF (R:RT) (f:ByteArray) (I:A1) (S:SH):Prop:=
 Runs Tryz.prog 114 #[.string f] I S fun v d e=>∃ g b a c,v = .tuple #[.slice g b a,.bool c] /\
 R (.bool c) d e
theorem Rf (R:RT) (a:ByteArray) (I:A1) (S:SH) (h:TF R a I S):Runs Tryz.prog 86 #[.string a] I S R:=by
 refine Runs.of_wp (c:=cd Tryz.f86) Tryz.func86 (by kernel_rfl) (by kernel_rfl) ?_
 exact pS h
abbrev Ny:=OA -> Nat -> Nat -> OA -> Nat -> Nat -> Int -> Int -> PR
def K5 (R:RT) (c:OA) (a d:Nat) (I:A1) (S:SH):Prop:=
 ∃ b:ByteArray,Ah I S c a b /\
 R (.string b) I S
def Nx (g3:Ny) (R:RT) (f:OA) (b c:Nat) (j:OA) (d g:Nat) (k a:Int) (I:A1) (S:SH):Prop:=
 A2 (decide (a < k))
  (A6 j fun n=>(0:Int) <= a /\ a < (d:Int) /\
  ∃ h,A0 I S (n.add (a.toNat * 1)) (.int .u8 h) /\
  Runs Tryz.prog 60 #[.int .u8 h] I S fun v l m=>∃ i,v = .int .u8 i /\
  A6 f fun o=>(0:Int) <= a /\ a < (b:Int) /\
  Ad m (o.add (a.toNat * 1)) [.int .u8 i] fun e=>
  g3 f b c j d g k (IntKind.wrap .i64 (a + (1:Int))) l e)
  (K5 R f b c I S)
def K4 (R:RT) (f:OA) (c b:Nat) (g:OA) (e d:Nat) (h a:Int) (I:A1) (S:SH):Prop:=
 ∃ (Inv:Nat -> Ny) (m:Nat),Inv m f c b g e d h a I S /\
  ∀ (m:Nat) (f:OA) (c b:Nat) (g:OA) (e d:Nat) (h a:Int) (J:A1) (T:SH),I.le J -> Inv m f c b g e d h a J T ->
   Nx (fun f c b g e d h a I S=>∃ m',m' < m /\ Inv m' f c b g e d h a I S) R f c b g e d h a J T
def K3 (R:RT) (c:OA) (a b:Nat) (I:A1) (S:SH):Prop:=
 K4 R c a b c a b (a:Int) 0 I S
def Ti (R:RT) (a:ByteArray) (I:A1) (S:SH):Prop:=
 a.size <= maxLen /\ ∀ b c7:Nat,a.size <= c7 -> c7 <= maxLen ->
 K3 R (some ⟨b,0,none⟩) a.size c7 I ((b,.cells (byteCells a ++ AX (c7 - a.size) [.int .u8 0]).toArray 5 (c7,c7 + 1)) :: S)
theorem QT (R:RT) (j:ByteArray) (I:A1) (S:SH) (h:Ti R j I S):Runs Tryz.prog 38 #[.string j] I S R:=by
 refine Runs.of_wp (c:=cd Tryz.f38) Tryz.func38 (by kernel_rfl) (by kernel_rfl) ?_
 refine cO 2 [kL 3] (K3 R) h fun _ _ _ _ _ _ _ h=>?_
 refine sO [kL 3] (K5 R) ?_ fun _ _ _ _ _ _ _ h=>?_
 ·refine cO 1 [kL 3,kL 8,kI .i64 9,kI .i64 10] (K4 R) h fun _ _ _ _ _ _ _ _ _ _ _ _ h=>?_
  refine bK ?_
  obtain ⟨b,a,h,hr⟩:=h
  refine lO [kL 3,kL 8,kI .i64 9,kI .i64 10] b a h fun a _ I S hle k f e l i g m d h=>?_
  have h:=hr a k f e l i g m d I S hle h
  exact pS h
 exact pS h
def SM (R:RT) (c:OA) (I:A1) (S:SH):Prop:=
 A6 c fun d=>
 ∃ e a b,A0 I S (d.add 1) (.slice e a b) /\
 R (.int .i64 (a:Int)) I S
theorem Qw (R:RT) (a:OA) (I:A1) (S:SH) (h:SM R a I S):Runs Tryz.prog 35 #[.pointer a] I S R:=by
 refine Runs.of_wp (c:=cd Tryz.f35) Tryz.func35 (by kernel_rfl) (by kernel_rfl) ?_
 exact pS h
def z5 (R:RT) (g:OA) (l:Int) (I:A1) (S:SH):Prop:=
 Runs Tryz.prog 59 #[.pointer g] I S fun v e j=>v = .tuple #[] /\
 A6 g fun m=>
 ∃ k d c,A0 e j (m.add 1) (.slice k d c) /\
 ∀ b:Nat,
 AA 5 1 1 [.int .u8 0] (some (.slice 5)) e ((b,.cells #[.int .u8 l] 5 (0,0)) :: j) (.slice k d c) (.slice (some ⟨b,0,none⟩) 1 1) fun n i h f=>
 A6 g fun o=>
 Ad f (o.add 1) [.slice n i h] fun a=>
 R .nilIface e a
theorem RU (R:RT) (a:OA) (b:Int) (I:A1) (S:SH) (h:z5 R a b I S):Runs Tryz.prog 36 #[.pointer a,.int .u8 b] I S R:=by
 refine Runs.of_wp (c:=cd Tryz.f36) Tryz.func36 (by kernel_rfl) (by kernel_rfl) ?_
 exact pS h
def z4 (R:RT) (f:OA) (j:ByteArray) (I:A1) (S:SH):Prop:=
 Runs Tryz.prog 59 #[.pointer f] I S fun v d i=>v = .tuple #[] /\
 A6 f fun l=>
 ∃ k c b,A0 d i (l.add 1) (.slice k c b) /\
 AA 5 1 1 [.int .u8 0] (some .string) d i (.slice k c b) (.string j) fun m h g e=>
 A6 f fun n=>
 Ad e (n.add 1) [.slice m h g] fun a=>
 R (.tuple #[.int .i64 (j.size:Int),.nilIface]) d a
theorem RS (R:RT) (a:OA) (b:ByteArray) (I:A1) (S:SH) (h:z4 R a b I S):Runs Tryz.prog 37 #[.pointer a,.string b] I S R:=by
 refine Runs.of_wp (c:=cd Tryz.f37) Tryz.func37 (by kernel_rfl) (by kernel_rfl) ?_
 exact pS h
def NU (R:RT) (a:ByteArray) (I:A1) (S:SH):Prop:=
 R (.string a) I S
def NT (R:RT) (f:OA) (I:A1) (S:SH):Prop:=
 A6 f fun h=>
 ∃ c d a,A0 I S (h.add 1) (.slice c d a) /\
 ((c:Option Addr).isSome = true -> a ≠ 0) /\
 A6 f fun i=>
 ∃ j b e,A0 I S (i.add 1) (.slice j b e) /\
 Rj Tryz.prog 5 I S c (b:Int) fun k g=>
 NU R k I g
def z9 (R:RT) (a:OA) (I:A1) (S:SH):Prop:=
 NT R a I S
theorem RY (R:RT) (a:OA) (I:A1) (S:SH) (h:z9 R a I S):Runs Tryz.prog 39 #[.pointer a] I S R:=by
 refine Runs.of_wp (c:=cd Tryz.f39) Tryz.func39 (by kernel_rfl) (by kernel_rfl) ?_
 refine cO 1 [kP 0] (NT R) h fun _ _ _ _ _ h=>?_
 refine sO [kS 2] (NU R) (dR (tk 10 0 (.step 10 (.take 11 .done))) [10] h) fun _ _ _ _ _ h=>?_
 exact pS h
def Ks (R:RT) (a:Int) (I:A1) (S:SH):Prop:=
 R (.int .u8 a) I S
def Gn (R:RT) (a:Int) (b:Bool) (I:A1) (S:SH):Prop:=
 A2 b
  (R (.int .u8 (IntKind.wrap .u8 ((IntKind.wrap .u8 (a + (97:Int))) - (65:Int)))) I S)
  (Ks R a I S)
def Kr (R:RT) (a:Int) (I:A1) (S:SH):Prop:=
 A2 (decide (a >= (65:Int)))
  (Gn R a (decide (a <= (90:Int))) I S)
  (Gn R a false I S)
def Tt (R:RT) (a:Int) (I:A1) (S:SH):Prop:=
 Kr R a I S
theorem R1 (R:RT) (a:Int) (I:A1) (S:SH) (h:Tt R a I S):Runs Tryz.prog 60 #[.int .u8 a] I S R:=by
 refine Runs.of_wp (c:=cd Tryz.f60) Tryz.func60 (by kernel_rfl) (by kernel_rfl) ?_
 refine cO 1 [kI .u8 0] (Kr R) h fun _ _ _ _ _ h=>?_
 refine sO [kI .u8 0] (Ks R) ?_ fun _ _ _ _ _ h=>?_
 ·refine cO 1 [kI .u8 0,kB 8] (Gn R) h fun _ _ _ _ _ _ h=>?_
  exact pS h
 exact pS h
def z6 (R:RT) (a:Addr) (I:A1) (S:SH):Prop:=
 ∃ g,A0 I S a (.pointer g) /\
 A2 ((g:Option Addr).isNone)
  (∃ h l,Dj I S a.block h l /\ a.off < h.size /\
  DW Tryz.prog 81 #[.pointer (some a)] I S fun v e f=>∃ i,v = .pointer i /\
  A6 i fun c=>∃ j d,Dj e f c.block j d /\ liesAt Tryz.prog (Program.depth Tryz.prog) d (j.size / Program.cellsOf Tryz.prog d) c.off 115 1 = true /\
  Ad f a [.pointer (some c)] fun b=>
  R (.tuple #[]) e b)
  (∃ k,A0 I S a (.pointer k) /\
  (k:Option Addr) = some a /\
  R (.tuple #[]) I S)
theorem RV (R:RT) (a:Addr) (I:A1) (S:SH) (h:z6 R a I S):Runs Tryz.prog 59 #[.pointer (some a)] I S R:=by
 refine Runs.of_wp (c:=cd Tryz.f59) Tryz.func59 (by kernel_rfl) (by kernel_rfl) ?_
 exact pS h
def Gq (R:RT) (a:Bool) (I:A1) (S:SH):Prop:=
 R (.bool a) I S
def L3 (R:RT) (a:ByteArray) (I:A1) (S:SH):Prop:=
 R (.bool (decide ((a.size:Int) <= (512:Int)))) I S
def L2 (R:RT) (a:ByteArray) (b:Bool) (I:A1) (S:SH):Prop:=
 A2 b
  (Runs Tryz.prog 151 #[.string a] I S fun v c d=>∃ e,v = .bool e /\
  A2 e
   (Gq R (decide ((a.size:Int) <= (512:Int))) c d)
   (Gq R false c d))
  (L3 R a I S)
def L1 (R:RT) (c:ByteArray) (i:Int) (a:Bool) (I:A1) (S:SH):Prop:=
 A2 a
  (Runs Tryz.prog 150 #[.string c] I S fun v d e=>∃ f g h b,v = .tuple #[.string f,.string g,.string h,.bool b] /\
  R (.bool b) d e)
  (L2 R c (i == (16:Int)) I S)
def ED (R:RT) (c:ByteArray) (d:Int) (a:Bool) (I:A1) (S:SH):Prop:=
 A2 a
  (Runs Tryz.prog 86 #[.string c] I S fun v e f=>∃ b,v = .bool b /\
  R (.bool b) e f)
  (L1 R c d (d == (6:Int)) I S)
def L0 (R:RT) (b:ByteArray) (a:Int) (c:Bool) (I:A1) (S:SH):Prop:=
 A2 c
  (R (.bool ((b.size:Int) == (16:Int))) I S)
  (A2 (a == (2:Int))
   (ED R b a (a == (2:Int)) I S)
   (ED R b a (a == (5:Int)) I S))
def KZ (R:RT) (b:ByteArray) (c:Int) (a:Bool) (I:A1) (S:SH):Prop:=
 A2 a
  (R (.bool ((b.size:Int) == (4:Int))) I S)
  (L0 R b c (c == (28:Int)) I S)
def KY (R:RT) (b:ByteArray) (a:Int) (I:A1) (S:SH):Prop:=
 KZ R b a (a == (1:Int)) I S
def KX (R:RT) (a:Int) (b:ByteArray) (I:A1) (S:SH):Prop:=
 KY R b a I S
def TB (R:RT) (a:Int) (b:ByteArray) (I:A1) (S:SH):Prop:=
 KX R a b I S
theorem R9 (R:RT) (a:Int) (b:ByteArray) (I:A1) (S:SH) (h:TB R a b I S):Runs Tryz.prog 121 #[.int .u16 a,.string b] I S R:=by
 refine Runs.of_wp (c:=cd Tryz.f121) Tryz.func121 (by kernel_rfl) (by kernel_rfl) ?_
 refine cO 1 [kI .u16 0,kS 1] (KX R) h fun _ _ _ _ _ _ h=>?_
 refine sO [kS 1] (L3 R) ?_ fun _ _ _ _ _ h=>?_
 ·refine cO 1 [kS 1,kI .u16 9] (KY R) h fun _ _ _ _ _ _ h=>?_
  refine bK ?_
  refine cO 1 [kS 1,kI .u16 9,kB 10] (KZ R) h fun _ _ _ _ _ _ _ h=>?_
  refine cD h (fun h=>pS h) fun h=>?_
  refine cO 1 [kS 1,kI .u16 9,kB 15] (L0 R) h fun _ _ _ _ _ _ _ h=>?_
  refine cD h (fun h=>pS h) fun h=>?_
  refine cO 1 [kS 1,kI .u16 9,kB 20] (ED R) h fun _ _ _ _ _ _ _ h=>?_
  refine cD h (fun h=>pS h) fun h=>?_
  refine cO 1 [kS 1,kI .u16 9,kB 25] (L1 R) h fun _ _ _ _ _ _ _ h=>?_
  refine cD h (fun h=>pS h) fun h=>?_
  refine cO 1 [kS 1,kB 35] (L2 R) h fun _ _ _ _ _ _ h=>?_
  refine cD h (fun h=>?_) fun h=>pS h
  refine cO 1 [kB 4] (Gq R) h fun _ _ _ _ _ h=>?_
  exact pS h
 exact pS h
def L5 (R:RT) (b c a:ByteArray) (I:A1) (S:SH):Prop:=
 R (.tuple #[.string b,.string c,.string a,.bool true]) I S
def EE (R:RT) (c d a:ByteArray) (b:Bool) (I:A1) (S:SH):Prop:=
 A2 b
  (R (.tuple #[.string ⟨#[]⟩,.string ⟨#[]⟩,.string ⟨#[]⟩,.bool false]) I S)
  (L5 R c d a I S)
def L4 (R:RT) (c:ByteArray) (e:Bool) (d a:ByteArray) (b:Bool) (I:A1) (S:SH):Prop:=
 A2 (!e)
  (EE R c d a true I S)
  (A2 (!b)
   (EE R c d a true I S)
   (EE R c d a ((a.size:Int) != (20:Int)) I S))
def TC (R:RT) (k:ByteArray) (I:A1) (S:SH):Prop:=
 Runs Tryz.prog 84 #[.string k] I S fun v i j=>∃ c d e,v = .tuple #[.string c,.string d,.bool e] /\
 Runs Tryz.prog 84 #[.string d] i j fun l a b=>∃ f g h,l = .tuple #[.string f,.string g,.bool h] /\
 L4 R c e f g h a b
theorem Ra (R:RT) (a:ByteArray) (I:A1) (S:SH) (h:TC R a I S):Runs Tryz.prog 150 #[.string a] I S R:=by
 refine Runs.of_wp (c:=cd Tryz.f150) Tryz.func150 (by kernel_rfl) (by kernel_rfl) ?_
 refine cO 3 [kS 6,kB 8,kS 9,kS 10,kB 11] (L4 R) h fun _ _ _ _ _ _ _ _ _ h=>?_
 refine sO [kS 6,kS 9,kS 10] (L5 R) ?_ fun _ _ _ _ _ _ _ h=>?_
 ·refine cO 1 [kS 6,kS 9,kS 10,kB 34] (EE R) h fun _ _ _ _ _ _ _ _ h=>?_
  exact pS h
 exact pS h
abbrev Ey:=ByteArray -> Int -> PR
def Gb (g2:Ey) (R:RT) (a:Bool) (I:A1) (S:SH):Prop:=
 R (.bool a) I S
def K8 (g2:Ey) (R:RT) (c:ByteArray) (a:Int) (I:A1) (S:SH):Prop:=
 ∃ b:UInt8,(0:Int) <= a /\ c[a.toNat]? = some b /\
 g2 c (IntKind.wrap .i64 (a + (IntKind.wrap .i64 ((1:Int) + (IntKind.wrap .i64 (b.toNat:Int)))))) I S
def K7 (g2:Ey) (R:RT) (b:ByteArray) (a:Int) (c:Bool) (I:A1) (S:SH):Prop:=
 A2 c
  (A2 (a == (b.size:Int))
   (Gb g2 R (decide (a > (0:Int))) I S)
   (Gb g2 R false I S))
  (K8 g2 R b a I S)
def Nz (g2:Ey) (R:RT) (a:ByteArray) (b:Int) (I:A1) (S:SH):Prop:=
 K7 g2 R a b (decide (b >= (a.size:Int))) I S
def K6 (R:RT) (a:ByteArray) (b:Int) (I:A1) (S:SH):Prop:=
 ∃ (Inv:Nat -> Ey) (m:Nat),Inv m a b I S /\
  ∀ (m:Nat) (a:ByteArray) (b:Int) (J:A1) (T:SH),I.le J -> Inv m a b J T ->
   Nz (fun a b I S=>∃ m',m' < m /\ Inv m' a b I S) R a b J T
def Tk (R:RT) (a:ByteArray) (I:A1) (S:SH):Prop:=
 K6 R a 0 I S
theorem QV (R:RT) (f:ByteArray) (I:A1) (S:SH) (h:Tk R f I S):Runs Tryz.prog 151 #[.string f] I S R:=by
 refine Runs.of_wp (c:=cd Tryz.f151) Tryz.func151 (by kernel_rfl) (by kernel_rfl) ?_
 refine cO 2 [kS 0,kI .i64 3] (K6 R) h fun _ _ _ _ _ _ h=>?_
 refine bK ?_
 obtain ⟨b,a,h,hr⟩:=h
 refine lO [kS 0,kI .i64 3] b a h fun a _ I S hle d e h=>?_
 have h:=hr a d e I S hle h
 refine bK ?_
 refine sO [kS 0,kI .i64 3] (K8 (fun d e I S=>∃ m',m' < a /\ b m' d e I S) R) ?_ fun _ _ _ _ _ _ h=>?_
 ·refine cO 1 [kS 0,kI .i64 3,kB 7] (K7 (fun d e I S=>∃ m',m' < a /\ b m' d e I S) R) h fun _ _ _ _ _ _ _ h=>?_
  refine cD h (fun h=>?_) fun h=>pS h
  refine cO 1 [kB 2] (Gb (fun d e I S=>∃ m',m' < a /\ b m' d e I S) R) h fun _ _ _ _ _ h=>?_
  exact pS h
 exact pS h
abbrev CK:=ByteArray -> Int -> PR
def KU (g3:CK) (R:RT) (a b:ByteArray) (c:Bool) (I:A1) (S:SH):Prop:=
 R (.tuple #[.string a,.string b,.bool c]) I S
def KT (g3:CK) (R:RT) (a:ByteArray) (b:Int) (c:ByteArray) (I:A1) (S:SH):Prop:=
 (0:Int) <= (IntKind.wrap .i64 (b + (1:Int))) /\ (IntKind.wrap .i64 (b + (1:Int))) <= ((a.size:Nat):Int) /\
 KU g3 R c (a.extract ((IntKind.wrap .i64 (b + (1:Int))).toNat) a.size) true I S
def KV (g3:CK) (R:RT) (c:ByteArray) (a:Int) (I:A1) (S:SH):Prop:=
 ∃ b:UInt8,(0:Int) <= a /\ c[a.toNat]? = some b /\
 g3 c (IntKind.wrap .i64 (a + (IntKind.wrap .i64 ((1:Int) + (IntKind.wrap .i64 (b.toNat:Int)))))) I S
def KS (g3:CK) (R:RT) (b:ByteArray) (a:Int) (c:Bool) (I:A1) (S:SH):Prop:=
 A2 c
  ((0:Int) <= a /\ a <= ((b.size:Nat):Int) /\
  Runs Tryz.prog 86 #[.string (b.extract 0 a.toNat)] I S fun v d e=>∃ f,v = .bool f /\
  A2 (!f)
   (R (.tuple #[.string ⟨#[]⟩,.string ⟨#[]⟩,.bool false]) d e)
   (KT g3 R b a (b.extract 0 a.toNat) d e))
  (KV g3 R b a I S)
def KR (g3:CK) (R:RT) (c:ByteArray) (a:Int) (I:A1) (S:SH):Prop:=
 ∃ b:UInt8,(0:Int) <= a /\ c[a.toNat]? = some b /\
 KS g3 R c a ((b.toNat:Int) == (0:Int)) I S
def KW (R:RT) (I:A1) (S:SH):Prop:=
 R (.tuple #[.string ⟨#[]⟩,.string ⟨#[]⟩,.bool false]) I S
def NK (g3:CK) (R:RT) (a:ByteArray) (b:Int) (I:A1) (S:SH):Prop:=
 A2 (decide (b < (a.size:Int)))
  (KR g3 R a b I S)
  (KW R I S)
def KQ (R:RT) (a:ByteArray) (b:Int) (I:A1) (S:SH):Prop:=
 ∃ (Inv:Nat -> CK) (m:Nat),Inv m a b I S /\
  ∀ (m:Nat) (a:ByteArray) (b:Int) (J:A1) (T:SH),I.le J -> Inv m a b J T ->
   NK (fun a b I S=>∃ m',m' < m /\ Inv m' a b I S) R a b J T
def KP (R:RT) (a:ByteArray) (I:A1) (S:SH):Prop:=
 KQ R a 0 I S
def TA (R:RT) (a:ByteArray) (I:A1) (S:SH):Prop:=
 KP R a I S
theorem R8 (R:RT) (f:ByteArray) (I:A1) (S:SH) (h:TA R f I S):Runs Tryz.prog 84 #[.string f] I S R:=by
 refine Runs.of_wp (c:=cd Tryz.f84) Tryz.func84 (by kernel_rfl) (by kernel_rfl) ?_
 refine cO 1 [kS 0] (KP R) h fun _ _ _ _ _ h=>?_
 refine sO [] (KW R) ?_ fun _ _ _ _ h=>?_
 ·refine cO 1 [kS 0,kI .i64 5] (KQ R) h fun _ _ _ _ _ _ h=>?_
  refine bK ?_
  obtain ⟨b,a,h,hr⟩:=h
  refine lO [kS 0,kI .i64 5] b a h fun a _ I S hle d e h=>?_
  have h:=hr a d e I S hle h
  refine cO 1 [kS 0,kI .i64 5] (KR (fun d e I S=>∃ m',m' < a /\ b m' d e I S) R) h fun _ _ _ _ _ _ h=>?_
  refine sO [kS 0,kI .i64 5] (KV (fun d e I S=>∃ m',m' < a /\ b m' d e I S) R) ?_ fun _ _ _ _ _ _ h=>?_
  ·refine bK ?_
   refine cO 1 [kS 0,kI .i64 5,kB 21] (KS (fun d e I S=>∃ m',m' < a /\ b m' d e I S) R) h fun _ _ _ _ _ _ _ h=>?_
   refine cD h (fun h=>?_) fun h=>pS h
   refine cO 2 [kS 0,kI .i64 5,kS 6] (KT (fun d e I S=>∃ m',m' < a /\ b m' d e I S) R) h fun _ _ _ _ _ _ _ h=>?_
   refine sO [kS 2,kS 3,kB 4] (KU (fun d e I S=>∃ m',m' < a /\ b m' d e I S) R) (qT h) fun _ _ _ _ _ _ _ h=>?_
   exact pS h
  exact pS h
 exact pS h
end Go.Proofs.YtidkiajflmngcaaGreatDoor
namespace Go.Px
set_option linter.unusedVariables false
def Sub (L T:SH):Prop:=∃ G,T.Perm (L ++ G)
theorem Sub.refl (L:SH):Sub L L:=⟨[],by simp⟩
theorem Sub.cons {L T:SH} (h:Sub L T) (p:Nat × Obj):Sub (p :: L) (p :: T):=let ⟨G,hp⟩:=h; ⟨G,hp.cons p⟩
theorem Sub.skip {L T:SH} (h:Sub L T) (p:Nat × Obj):Sub L (p :: T):=let ⟨G,hp⟩:=h; ⟨p :: G,(hp.cons p).trans List.perm_middle.symm⟩
theorem Sub.perm {L L' T:SH} (h:Sub L T) (hp:L.Perm L'):Sub L' T:=let ⟨G,hg⟩:=h; ⟨G,hg.trans (hp.append_right G)⟩
theorem Sub.trans {L M T:SH} (h:Sub L M) (g:Sub M T):Sub L T:=by
 obtain ⟨G,hp⟩:=h
 obtain ⟨G',hp'⟩:=g
 exact ⟨G ++ G',by rw [<- List.append_assoc]; exact hp'.trans (hp.append_right G')⟩
theorem Sub.drop {p:Nat × Obj} {L T:SH} (h:Sub (p :: L) T):Sub L T:=let ⟨G,hp⟩:=h; ⟨p :: G,hp.trans List.perm_middle.symm⟩
theorem Sub.left {L M T:SH} (h:Sub (L ++ M) T):Sub L T:=let ⟨G,hp⟩:=h; ⟨M ++ G,by rw [<- List.append_assoc]; exact hp⟩
theorem Sub.right {L M T:SH} (h:Sub (L ++ M) T):Sub M T:=Sub.left (h.perm List.perm_append_comm)
theorem Sub.keep {I J:A1} {L T:SH} (hle:I.le J) (h:Sub L T):Ak I L J T:=let ⟨G,hp⟩:=h; ⟨hle,G,hp.trans List.perm_append_comm⟩
theorem Ak.sub {I J:A1} {L T:SH} (h:Ak I L J T):Sub L T:=let ⟨_,G,hp⟩:=h; ⟨G,hp.trans List.perm_append_comm⟩
theorem Sub.sat {I:A1} {L T:SH} {w:World} (h:Sub L T) (hw:Am I T w):Am I L w:=let ⟨G,hp⟩:=h; (hw.perm (hp.trans List.perm_append_comm)).drop
theorem Sub.cell {I J:A1} {L T:SH} {a:Addr} {v:Value} (h:Sub L T) (hle:I.le J) (hc:A0 I L a v):A0 J T a v:=hc.mono (h.keep hle)
theorem Sub.cell' {I:A1} {L T:SH} {a:Addr} {v:Value} (h:Sub L T) (hc:A0 I L a v):A0 I T a v:=h.cell (A1.le.refl I) hc
theorem Runs.sub {P:Program} {f:FuncId} {args:Array Value} {I:A1} {L T:SH} {R:Value -> A1 -> SH -> Prop} (h:Sub L T) (hr:Runs P f args I L R):Runs P f args I T R:=fun w hw=>hr w (h.sat hw)
theorem Runs.use {P:Program} {f:FuncId} {args:Array Value} {I:A1} {L T:SH} {R R':Value -> A1 -> SH -> Prop} (hs:Sub L T) (h:Runs P f args I L R) (hr:∀ v J T,I.le J -> R v J T -> R' v J T):Runs P f args I T R':=
 (h.mono hr).sub hs
theorem Runs.drop {P:Program} {f:FuncId} {args:Array Value} {I:A1} {S:SH} {R:Value -> A1 -> SH -> Prop} (h:Runs P f args I S fun v J T=>∃ L,Sub L T /\ R v J L):Runs P f args I S R:=
 fun w hw=>(h w hw).mono fun _ _ ⟨v,J,T,he,hle,hs,L,hsub,hR⟩=>⟨v,J,L,he,hle,hsub.sat hs,hR⟩
theorem A5 (b o k:Nat):(⟨b,o,none⟩:Addr).add k = ⟨b,o + k,none⟩:=by
 unfold Addr.add; split
 ·rename_i h; subst h; rfl
 ·rfl
theorem Lq (a:Addr) (h:a.spot = none) (i j:Nat):(a.add i).add j = a.add (i + j):=by
 obtain ⟨b,o,s⟩:=a
 dsimp only at h; subst h
 rw [A5,A5,A5,Nat.add_assoc]
theorem A0.at0 {I:A1} {S:SH} {b o:Nat} {cs:Array Value} {e:TypeId} {fz:Nat × Nat} {v:Value} (h:cs[o]? = some v):A0 I ((b,.cells cs e fz) :: S) ⟨b,o,none⟩ v:=
 ⟨rfl,cs,e,fz,.inr (List.mem_cons_self ..),h⟩
theorem A0.tl {I:A1} {S:SH} {a:Addr} {v:Value} {p:Nat × Obj} (h:A0 I S a v):A0 I (p :: S) a v:=by
 obtain ⟨hs,cs,e,fz,hb,hv⟩:=h
 exact ⟨hs,cs,e,fz,hb.imp id (List.mem_cons_of_mem p),hv⟩
theorem A0.im {I:A1} {S:SH} {b o:Nat} {cs:Array Value} {e:TypeId} {fz:Nat × Nat} {v:Value} (hb:I.at_ b = some (.cells cs e fz)) (h:cs[o]? = some v):A0 I S ⟨b,o,none⟩ v:=
 ⟨rfl,cs,e,fz,.inl hb,h⟩
theorem A0.le {I J:A1} {S:SH} {a:Addr} {v:Value} (hle:I.le J) (h:A0 I S a v):A0 J S a v:=h.mono ⟨hle,[],List.Perm.refl _⟩
theorem Ad.at0 {S:SH} {b o:Nat} {cs:Array Value} {e:TypeId} {vs:List Value} {K:SH -> Prop} (hl:o + vs.length <= cs.size) (ho:vs.all DH = true) (h:K ((b,.cells (BN cs o vs) e (0,0)) :: S)) :
  Ad ((b,.cells cs e (0,0)) :: S) ⟨b,o,none⟩ vs K:=⟨0,cs,e,(0,0),rfl,rfl,hl,.inl (Nat.le_refl _),ho,h⟩
theorem Ad.tl {S:SH} {a:Addr} {vs:List Value} {K:SH -> Prop} {p:Nat × Obj} (h:Ad S a vs fun T=>K (p :: T)):Ad (p :: S) a vs K:=
 let ⟨i,cs,e,fz,h1,h2,h3,h4,h5,h6⟩:=h; ⟨i + 1,cs,e,fz,h1,by simpa using h2,h3,h4,h5,by simpa using h6⟩
theorem Ad.of_sub {L T:SH} {a:Addr} {vs:List Value} {K:SH -> Prop} (hs:Sub L T) (h:Ad L a vs fun L'=>∀ T',Sub L' T' -> K T'):Ad T a vs K:=by
 obtain ⟨i,cs,e,fz,h1,h2,h3,h4,h5,h6⟩:=h
 obtain ⟨G,hp⟩:=hs
 have hm:(a.block,Obj.cells cs e fz) ∈ T:=hp.mem_iff.2 (List.mem_append_left _ (List.mem_of_getElem? h2))
 obtain ⟨k,hk⟩:=List.getElem?_of_mem hm
 refine ⟨k,cs,e,fz,h1,hk,h3,h4,h5,h6 _ ⟨G,?_⟩⟩
 have key:∀ (A:SH) (i:Nat) (x y:Nat × Obj),A[i]? = some x -> (y :: A).Perm (x :: A.set i y):=by
  intro A
  induction A with
  | nil=>intro i x y h; simp at h
  | cons z A ih=>
   intro i x y h
   cases i with
   | zero=>simp at h; subst h; exact List.Perm.swap ..
   | succ i=>
    simp at h
    have:=ih i x y h
    exact (List.Perm.swap z y A).trans ((this.cons z).trans (List.Perm.swap x z _))
 have k1:=key T k _ (a.block,Obj.cells (BN cs a.off vs) e fz) hk
 have k2:=key L i _ (a.block,Obj.cells (BN cs a.off vs) e fz) h2
 have k3:((a.block,Obj.cells cs e fz) :: T.set k (a.block,Obj.cells (BN cs a.off vs) e fz)).Perm ((a.block,Obj.cells cs e fz) :: (L.set i (a.block,Obj.cells (BN cs a.off vs) e fz) ++ G)):=
  k1.symm.trans ((hp.cons _).trans (k2.append_right G))
 exact List.Perm.cons_inv k3
theorem A9 {x:Int} (h1 : -9223372036854775808 <= x) (h2:x <= 9223372036854775807):IntKind.wrap .i64 x = x:=by
 simp only [IntKind.wrap,IntKind.bits,IntKind.signed]; simp; omega
theorem DL {x:Int} (h1:0 <= x) (h2:x <= 255):IntKind.wrap .u8 x = x:=by
 simp only [IntKind.wrap,IntKind.bits,IntKind.signed]; simp; omega
section
variable {α:Type} {enc:α -> List Value} {sz:Nat}
def Fx (enc:α -> List Value) (xs:List α):Array Value:=(xs.flatMap enc).toArray
theorem As (he:∀ x,(enc x).length = sz):∀ xs:List α,(xs.flatMap enc).length = xs.length * sz
 | []=>by simp
 | x :: xs=>by simp only [List.flatMap_cons,List.length_append,he,As he xs,List.length_cons,Nat.succ_mul]; omega
theorem M9 (he:∀ x,(enc x).length = sz) (xs:List α):(Fx enc xs).size = xs.length * sz:=by simp [Fx,As he]
theorem C5 (he:∀ x,(enc x).length = sz):∀ (xs:List α) (i j:Nat) (x:α),xs[i]? = some x -> j < sz -> (xs.flatMap enc)[i * sz + j]? = (enc x)[j]?
 | [],i,j,x,h,_=>by simp at h
 | y :: xs,0,j,x,h,hj=>by
  simp at h; subst h
  simp only [List.flatMap_cons,Nat.zero_mul,Nat.zero_add]
  rw [List.getElem?_append_left (by rw [he]; exact hj)]
 | y :: xs,i + 1,j,x,h,hj=>by
  simp at h
  simp only [List.flatMap_cons]
  rw [List.getElem?_append_right (by rw [he,Nat.succ_mul]; omega),he,show (i + 1) * sz + j - sz = i * sz + j by rw [Nat.succ_mul]; omega]
  exact C5 he xs i j x h hj
theorem MX (he:∀ x,(enc x).length = sz) {xs:List α} {i j:Nat} {x:α} (h:xs[i]? = some x) (hj:j < sz):(Fx enc xs)[i * sz + j]? = (enc x)[j]?:=by
 rw [Fx,List.getElem?_toArray]; exact C5 he xs i j x h hj
theorem A0.row (he:∀ x,(enc x).length = sz) {I:A1} {S:SH} {b:Nat} {e:TypeId} {fz:Nat × Nat} {xs:List α} {i j:Nat} {x:α} {v:Value} (hx:xs[i]? = some x) (hj:j < sz) (hv:(enc x)[j]? = some v) :
  A0 I ((b,.cells (Fx enc xs) e fz) :: S) (((⟨b,0,none⟩:Addr).add (i * sz)).add j) v:=by
 rw [A5,A5,Nat.zero_add]
 exact A0.at0 ((MX he hx hj).trans hv)
theorem Ad.row (he:∀ x,(enc x).length = sz) (h1:∀ x,(enc x).all DH = true) {S:SH} {b:Nat} {e:TypeId} {xs:List α} {i:Nat} {x:α} {K:SH -> Prop} (hi:i < xs.length)
  (hset:BN (Fx enc xs) (i * sz) (enc x) = Fx enc (xs.set i x)) (h:K ((b,.cells (Fx enc (xs.set i x)) e (0,0)) :: S)) :
  Ad ((b,.cells (Fx enc xs) e (0,0)) :: S) ((⟨b,0,none⟩:Addr).add (i * sz)) (enc x) K:=by
 rw [A5,Nat.zero_add]
 refine Ad.at0 ?_ (h1 x) ?_
 ·rw [he,M9 he,<- Nat.succ_mul]; exact Nat.mul_le_mul_right _ hi
 ·rw [hset]; exact h
theorem D6:∀ (vs cs:List Value) (o:Nat),o + vs.length <= cs.length -> BN cs.toArray o vs = (cs.take o ++ vs ++ cs.drop (o + vs.length)).toArray
 | [],cs,o,_=>by simp [BN]
 | v :: vs,cs,o,h=>by
  simp only [List.length_cons] at h
  have:cs.toArray.setIfInBounds o v = (cs.set o v).toArray:=by simp
  rw [BN,this,D6 vs (cs.set o v) (o + 1) (by simp; omega)]
  congr 1
  rw [List.take_set,List.drop_set_of_lt (by omega)]
  rw [List.take_succ_eq_append_getElem (by omega:o < cs.length)]
  rw [List.set_append_right _ _ (by simp; omega)]
  have h1:o - (List.take o cs).length = 0:=by simp; omega
  rw [h1]
  simp only [List.set_cons_zero,List.append_assoc,List.cons_append,List.nil_append,List.length_cons]
  rw [show o + 1 + vs.length = o + (vs.length + 1) by omega]
end
open Go.RowKit
def MR (W:World):A1:=⟨fun b=>W.heap[b]?,W.os,W.tape,W.output,W.drawn⟩
theorem Pm (W:World):Am (MR W) [] W:=⟨rfl,rfl,rfl,Nat.le_refl _,fun _ _ h=>h,(fun _ h=>by cases h),(fun _ h=>by cases h),List.nodup_nil⟩
theorem Runs.below {P:Program} {f:FuncId} {args:Array Value} {W:World} {u:Value} (h:Runs P f args (MR W) [] fun v _ _=>v = u):Calls P f args W fun e W'=>e = .returned u /\ Below W.heap.size W W':=by
 refine (h W (Pm W)).mono ?_
 rintro e W' ⟨v,J,T,rfl,hle,hs,rfl⟩
 have hb:∀ i,i < W.heap.size -> W'.heap[i]? = W.heap[i]?:=fun i hi=>by
  have h1:(MR W).at_ i = some W.heap[i]:=Array.getElem?_eq_getElem hi
  rw [hs.im i _ (hle.at_ i _ h1),Array.getElem?_eq_getElem hi]
 refine ⟨rfl,hs.os.trans hle.os,hs.tape.trans hle.tape,hs.out.trans hle.out,?_,fun i hi=>hb i hi⟩
 rcases Nat.lt_or_ge W'.heap.size W.heap.size with hlt | hge
 ·have:=hb W'.heap.size hlt
  rw [Array.getElem?_eq_none (Nat.le_refl _),Array.getElem?_eq_getElem hlt] at this
  cases this
 ·exact hge
section
variable {H:Type} {enc:TypeId × Value -> H} {P:Program} {W:World} {sp:Nat -> Bool} {held:Bool} {n:Nat} {t:TypeId} {c:Value} {x:DataW H × List MemPlace}
theorem trod_int {k:IntKind} (hu:P.underlying t = some (.int k)) (h:DataW.trod enc P W 0 sp held n t [c] = some x):∃ m,c = .int k m /\ (Lit.int k m).wf = true:=by
 cases n with
 | zero=>simp [DataW.trod] at h
 | succ n=>
  unfold DataW.trod at h
  rw [hu] at h
  split at h <;> simp_all
theorem trod_len {d:TypeDesc} {cs:List Value} (hu:P.underlying t = some d) (hd:Hs d = false) (h:DataW.trod enc P W 0 sp held n t cs = some x):∃ c,cs = [c]:=by
 cases n with
 | zero=>simp [DataW.trod] at h
 | succ n=>
  unfold DataW.trod at h
  rw [hu] at h
  split at h <;> first | exact ⟨_,rfl⟩ | (simp_all [Hs]; done)
theorem Dq {α:Type} {Q:Nat -> α -> Prop}:∀ {n:Nat},(∀ i,i < n -> ∃ x,Q i x) -> ∃ xs:List α,xs.length = n /\ ∀ i x,xs[i]? = some x -> Q i x
 | 0,_=>⟨[],rfl,fun i x h=>by simp at h⟩
 | n + 1,h=>by
  obtain ⟨xs,hl,hx⟩:=Dq (n:=n) (fun i hi=>h i (by omega))
  obtain ⟨y,hy⟩:=h n (by omega)
  refine ⟨xs ++ [y],by simp [hl],fun i x hi=>?_⟩
  rcases Nat.lt_trichotomy i xs.length with g | g | g
  ·rw [List.getElem?_append_left g] at hi; exact hx i x hi
  ·rw [List.getElem?_append_right (by omega),g,Nat.sub_self] at hi
   simp at hi; subst hi; rw [g,hl]; exact hy
  ·rw [List.getElem?_eq_none (by simp; omega)] at hi; cases hi
def Mz {α:Type} (I:A1) (a:Option Addr) (len sz:Nat) (el:α -> List Value) (xs:List α):Prop:=
 xs.length = len /\ ∀ i x,xs[i]? = some x -> ∃ a',a = some a' /\ ∀ j v,(el x)[j]? = some v -> A0 I [] ((a'.add (i * sz)).add j) v
theorem Mz.cell {α:Type} {I:A1} {a:Option Addr} {len sz:Nat} {el:α -> List Value} {xs:List α} (h:Mz I a len sz el xs) {i:Nat} {x:α} (hx:xs[i]? = some x):∃ a',a = some a' /\ ∀ J T,I.le J -> ∀ j v,(el x)[j]? = some v -> A0 J T ((a'.add (i * sz)).add j) v:=by
 obtain ⟨a',ha,hc⟩:=h.2 i x hx
 exact ⟨a',ha,fun J T hle j v hj=>Sub.cell ⟨T,List.Perm.refl _⟩ hle (hc j v hj)⟩
theorem Pc {a:Addr} {v:Value} (h:W.cell? a = some v):A0 (MR W) [] a v:=by
 unfold World.cell? at h
 split at h
 ·rename_i cs e fz hb
  split at h
  ·cases h
  ·rename_i hs
   exact ⟨by cases hsp:a.spot with | none=>rfl | some s=>rw [hsp] at hs; exact absurd rfl hs,cs,e,fz,.inl hb,h⟩
 ·cases h
theorem rowOf_trod {α:Type} (el:α -> List Value) (ok:α -> Prop) {T E:TypeId} {a:Option Addr} {len cap:Nat} {d:DataW H} {p:List MemPlace} (hT:P.underlying T = some (.slice E))
  (hel:∀ (n:Nat) (cs:List Value) (x:DataW H × List MemPlace),DataW.trod enc P W 0 (fun _=>true) true n E cs = some x -> cs.length = P.cellsOf E -> ∃ y,cs = el y /\ ok y)
  (h:DataW.Trod enc P W 0 (fun _=>true) true T (.slice a len cap) d p):len <= cap /\ cap <= maxLen /\ ∃ xs:List α,Mz (MR W) a len (P.cellsOf E) el xs /\ ∀ x ∈ xs,ok x:=by
 obtain ⟨m,h⟩:=h
 rcases DataW.trod_slice hT h with ⟨hc,_⟩ | ⟨a',len',cap',elems,rest,n,_,hc,_,_,hlc,hcm,hel',hget,_,_⟩
 ·have hc':a = none /\ len = 0 /\ cap = 0:=by simpa [Value.cells] using hc
  obtain ⟨rfl,rfl,rfl⟩:=hc'
  exact ⟨Nat.le_refl _,Nat.zero_le _,[],⟨rfl,fun i x hi=>by simp at hi⟩,fun x hx=>by simp at hx⟩
 ·have hc':a = some a' /\ len = len' /\ cap = cap':=by simpa [Value.cells] using hc
  obtain ⟨rfl,rfl,rfl⟩:=hc'
  have key:∀ i,i < len -> ∃ y:α,ok y /\ ∀ j v,(el y)[j]? = some v -> A0 (MR W) [] ((a'.add (i * P.cellsOf E)).add j) v:=fun i hi=>by
   have hg:=hget i hi
   rw [List.getElem?_eq_getElem (by omega)] at hg
   obtain ⟨cs,h1,h2⟩:=Option.bind_eq_some_iff.1 hg
   unfold World.cells? at h1
   rw [if_pos (Nat.zero_le _)] at h1
   have hl:=mapM_some_length h1
   rw [List.length_range] at hl
   obtain ⟨y,rfl,hy⟩:=hel n cs _ h2 hl
   refine ⟨y,hy,fun j v hj=>Pc ?_⟩
   have hjl:j < P.cellsOf E:=by
    rcases Nat.lt_or_ge j (el y).length with g | g
    ·omega
    ·rw [List.getElem?_eq_none g] at hj; cases hj
   have:=mapM_some_get h1 j j (by simp [hjl])
   rw [this,hj]
  obtain ⟨xs,hxl,hxs⟩:=Dq key
  refine ⟨hlc,hcm,xs,⟨hxl,fun i x hi=>⟨a',rfl,(hxs i x hi).2⟩⟩,fun x hx=>?_⟩
  obtain ⟨i,hi⟩:=List.getElem?_of_mem hx
  exact (hxs i x hi).1
end
theorem weight_of {H:Type} {P:Program} {enc:TypeId × Value -> H} {W:World} {ts:List TypeId} {ds:List (DataW H)} (j:Nat) {T E:TypeId} {a:Option Addr} {len cap:Nat} {d:DataW H} {p:List MemPlace}
  (hsz:(DataW.weightsEach P ts ds).all (· <= reachBytes) = true) (ht:ts[j]? = some T) (hd:ds[j]? = some d) (hT:P.underlying T = some (.slice E)) (hb:1 <= P.bytesOf E)
  (h:DataW.Trod enc P W 0 (fun _=>true) true T (.slice a len cap) d p):len <= 140737488355328:=by
 obtain ⟨m,h⟩:=h
 rcases DataW.trod_slice hT h with ⟨hc,_⟩ | ⟨a',len',cap',elems,rest,n,_,hc,hx,_,hlc,hcm,hel',hget,_,_⟩
 ·have hc':a = none /\ len = 0 /\ cap = 0:=by simpa [Value.cells] using hc
  omega
 ·have hc':a = some a' /\ len = len' /\ cap = cap':=by simpa [Value.cells] using hc
  obtain ⟨rfl,rfl,rfl⟩:=hc'
  injection hx with hx _
  subst hx
  have:=sized_slice hsz ht hd hT
  have hr:=reachBytes_lt
  simp only [List.length_map] at this
  have:elems.length + rest.length <= (elems.length + rest.length) * P.bytesOf E:=Nat.le_mul_of_pos_right _ hb
  omega
set_option linter.unusedSectionVars false
set_option linter.unusedSimpArgs false
def Sf (s:ByteArray):Array Value:=(s.data.toList.map fun c=>Value.int .u8 (c.toNat:Int)).toArray
theorem Pb (s:ByteArray) (i:Nat):(Sf s)[i]? = (s[i]?).map fun c=>Value.int .u8 (c.toNat:Int):=by
 unfold Sf
 rw [List.getElem?_toArray,List.getElem?_map]
 congr 1
 by_cases h:i < s.size
 ·rw [getElem?_pos s i h,List.getElem?_eq_getElem (by simpa using h)]; rfl
 ·rw [getElem?_neg s i h,List.getElem?_eq_none (by simpa using h)]
theorem Ah.at0 {I:A1} {S:SH} {b n:Nat} {e:TypeId} {fz:Nat × Nat} {cs:Array Value} (s:ByteArray) (hn:n = s.size) (h:cs = Sf s):Ah I ((b,.cells cs e fz) :: S) (some ⟨b,0,none⟩) n s:=by
 subst hn h
 refine ⟨rfl,fun i c hc=>?_⟩
 rw [A5,Nat.zero_add]
 exact A0.at0 (by rw [Pb,hc]; rfl)
theorem Ah.tl {I:A1} {S:SH} {p:Option Addr} {n:Nat} {s:ByteArray} {q:Nat × Obj} (h:Ah I S p n s):Ah I (q :: S) p n s:=by
 cases p with
 | none=>exact h
 | some a=>exact ⟨h.1,fun i c hc=>A0.tl (h.2 i c hc)⟩
section
variable {κ υ:Type} [DecidableEq κ]
def DA:List (κ × υ) -> κ -> Nat -> Option (Nat × υ)
 | [],_,_=>none
 | (a,v) :: l,k,j=>if k = a then some (j,v) else DA l k (j + 1)
theorem Cf {k:κ} {v:υ}:∀ {l:List (κ × υ)} {j i:Nat},DA l k j = some (i,v) -> j <= i /\ l[i - j]? = some (k,v)
 | [],j,i,h=>by simp [DA] at h
 | (a,u) :: l,j,i,h=>by
  simp only [DA] at h
  split at h
  ·rename_i e; subst e
   injection h with h; injection h with h1 h2; subst h1; subst h2
   exact ⟨Nat.le_refl _,by simp⟩
  ·obtain ⟨h1,h2⟩:=Cf h
   exact ⟨by omega,by rw [show i - j = (i - (j + 1)) + 1 by omega]; simpa using h2⟩
theorem B2 {k:κ}:∀ {l:List (κ × υ)} {j:Nat},DA l k j = none -> ∀ v,(k,v) ∉ l
 | [],j,h,v=>by simp
 | (a,u) :: l,j,h,v=>by
  simp only [DA] at h
  split at h
  ·cases h
  ·rename_i e
   intro hm
   rcases List.mem_cons.1 hm with hm | hm
   ·injection hm with h1 _; exact e h1
   ·exact B2 h v hm
variable (kd:TypeDesc) (ek:κ -> Value) (ew:υ -> Value)
def Dk:Prop:=∀ a b:κ,Instr.sameNow kd (ek a) (ek b) = some (decide (a = b))
variable {kd ek ew}
theorem Bd (hk:Dk kd ek) (k:κ):∀ (l:List (κ × υ)) (es:List MapEntry) (j:Nat),es.map (fun e=>(e.key,e.val)) = l.map (fun p=>(ek p.1,ew p.2)) ->
  Instr.findNow kd (ek k) es j = some ((DA l k j).map fun p=>(p.1,ew p.2))
 | [],[],j,_=>rfl
 | [],e :: es,j,h=>by simp at h
 | p :: l,[],j,h=>by simp at h
 | (a,v) :: l,e :: es,j,h=>by
  simp only [List.map_cons,List.cons.injEq,Prod.mk.injEq] at h
  obtain ⟨⟨h1,h2⟩,h3⟩:=h
  unfold Instr.findNow
  rw [h1,hk]
  by_cases he:k = a
  ·simp [DA,he,h2]
  ·simp only [DA,he,decide_false,if_false]
   exact Bd hk k l es (j + 1) h3
def Gs (ek:κ -> Value) (ew:υ -> Value) (es:Array MapEntry) (M:κ -> Option υ) (n:Nat):Prop:=
 ∃ l:List (κ × υ),es.toList.map (fun e=>(e.key,e.val)) = l.map (fun p=>(ek p.1,ew p.2)) /\ (l.map (·.1)).Nodup /\ (∀ k v,M k = some v ↔ (k,v) ∈ l) /\ l.length = n
def MN (M:κ -> Option υ) (k:κ) (v:υ):κ -> Option υ:=fun x=>if x = k then some v else M x
def Pj (M:κ -> Option υ) (k:κ):κ -> Option υ:=fun x=>if x = k then none else M x
theorem Gs.nil:Gs ek ew #[] (fun _=>none) 0:=⟨[],rfl,List.nodup_nil,fun k v=>by simp,rfl⟩
theorem Gs.size {es:Array MapEntry} {M:κ -> Option υ} {n:Nat} (h:Gs ek ew es M n):es.size = n:=by
 obtain ⟨l,h1,_,_,h4⟩:=h
 have:=congrArg List.length h1
 simpa [h4] using this
theorem Gs.find (hk:Dk kd ek) {es:Array MapEntry} {M:κ -> Option υ} {n:Nat} (h:Gs ek ew es M n) (k:κ) :
  (∃ i v,M k = some v /\ Instr.findNow kd (ek k) es.toList 0 = some (some (i,ew v))) \/ (M k = none /\ Instr.findNow kd (ek k) es.toList 0 = some none):=by
 obtain ⟨l,h1,h2,h3,h4⟩:=h
 rw [Bd hk k l es.toList 0 h1]
 cases hl:DA l k 0 with
 | none=>exact .inr ⟨by cases hM:M k with
   | none=>rfl
   | some v=>exact absurd ((h3 k v).1 hM) (B2 hl v),rfl⟩
 | some p=>
  obtain ⟨i,v⟩:=p
  obtain ⟨_,hi⟩:=Cf hl
  exact .inl ⟨i,v,(h3 k v).2 (List.mem_of_getElem? hi),rfl⟩
theorem EV.of (hk:Dk kd ek) {I:A1} {S:SH} {r clock:Nat} {es:Array MapEntry} {M:κ -> Option υ} {n:Nat} (hc:LS I S r es clock) (h:Gs ek ew es M n) (k:κ) (z:Value) :
  EV I S (some r) kd (ek k) z (match M k with | some v=>ew v | none=>z) (M k).isSome:=by
 refine ⟨es,⟨clock,hc⟩,?_⟩
 rcases h.find hk k with ⟨i,v,hM,hf⟩ | ⟨hM,hf⟩
 ·rw [hM]; exact .inl ⟨i,hf,rfl⟩
 ·rw [hM]; exact .inr ⟨hf,rfl,rfl⟩
theorem M6 (hk:Dk kd ek) {clock:Nat} {es:Array MapEntry} {M:κ -> Option υ} {n:Nat} (h:Gs ek ew es M n) (k:κ) (v:υ) :
  ∃ es' clock',Fs kd (ek k) (ew v) es clock = some (es',clock') /\ Gs ek ew es' (MN M k v) (n + if (M k).isSome then 0 else 1):=by
 obtain ⟨l,h1,h2,h3,h4⟩:=h
 unfold Fs
 rw [Bd hk k l es.toList 0 h1]
 cases hl:DA l k 0 with
 | none=>
  have hnone:M k = none:=by
   cases hM:M k with
   | none=>rfl
   | some u=>exact absurd ((h3 k u).1 hM) (B2 hl u)
  refine ⟨_,_,rfl,l ++ [(k,v)],by simp [h1],?_,fun x u=>?_,by simp [h4,hnone]⟩
  ·rw [List.map_append,List.nodup_append]
   refine ⟨h2,by simp,?_⟩
   intro a ha b hb
   simp at hb
   subst hb
   obtain ⟨p,hp,rfl⟩:=List.mem_map.1 ha
   intro e
   exact B2 hl p.2 (by rw [<- e]; exact hp)
  ·simp only [MN,List.mem_append,List.mem_singleton,Prod.mk.injEq]
   by_cases hx:x = k
   ·subst hx
    simp only [if_true,true_and,Option.some.injEq]
    exact ⟨fun e=>.inr e.symm,fun e=>e.elim (fun hm=>absurd hm (B2 hl u)) Eq.symm⟩
   ·simp [hx,h3]
 | some p=>
  obtain ⟨i,u⟩:=p
  obtain ⟨_,hi⟩:=Cf hl
  simp only [Nat.sub_zero] at hi
  have hil:i < l.length:=by
   rcases Nat.lt_or_ge i l.length with g | g
   ·exact g
   ·rw [List.getElem?_eq_none g] at hi; cases hi
  have hsome:M k = some u:=(h3 k u).2 (List.mem_of_getElem? hi)
  refine ⟨_,_,rfl,l.set i (k,v),?_,?_,fun x w=>?_,by simp [h4,hsome]⟩
  ·apply List.ext_getElem?
   intro j
   have hj:=congrArg (fun z:List (Value × Value)=>z[j]?) h1
   simp only [List.getElem?_map,Array.getElem?_toList] at hj
   simp only [List.getElem?_map,Array.getElem?_toList,Array.getElem?_modify,List.getElem?_set]
   by_cases hij:i = j
   ·subst hij
    rw [List.getElem?_eq_getElem hil] at hj
    cases he:es[i]? with
    | none=>rw [he] at hj; cases hj
    | some e=>simp [hil]
   ·simp [hij,hj]
  ·have:(l.set i (k,v)).map (·.1) = l.map (·.1):=by
    rw [List.map_set]
    apply List.ext_getElem?
    intro j
    rw [List.getElem?_set]
    split
    ·rename_i e; subst e
     split
     ·rw [List.getElem?_map,hi]; rfl
     ·rename_i hlt; rw [List.getElem?_eq_none (by simpa using hlt)]
    ·rfl
   rw [this]; exact h2
  ·have huniq:∀ (j:Nat) (w:υ),l[j]? = some (k,w) -> j = i:=fun j w hj=>by
    have e1:(l.map (·.1))[j]? = some k:=by simp [hj]
    have e2:(l.map (·.1))[i]? = some k:=by simp [hi]
    have hj':j < (l.map (·.1)).length:=(List.getElem?_eq_some_iff.1 e1).1
    have hi':i < (l.map (·.1)).length:=(List.getElem?_eq_some_iff.1 e2).1
    exact (List.getElem_inj h2).1 ((List.getElem?_eq_some_iff.1 e1).2.trans (List.getElem?_eq_some_iff.1 e2).2.symm)
   simp only [MN]
   by_cases hx:x = k
   ·subst hx
    simp only [if_true,Option.some.injEq]
    constructor
    ·rintro rfl; exact List.mem_of_getElem? (i:=i) (by simp [hil])
    ·intro hm
     obtain ⟨j,hj⟩:=List.getElem?_of_mem hm
     rw [List.getElem?_set] at hj
     split at hj
     ·simp [hil] at hj; exact hj
     ·rename_i hne; exact absurd (huniq j w hj).symm hne
   ·simp only [hx,if_false,h3]
    constructor
    ·intro hm
     obtain ⟨j,hj⟩:=List.getElem?_of_mem hm
     refine List.mem_of_getElem? (i:=j) ?_
     rw [List.getElem?_set,if_neg (fun e=>by subst e; rw [hi] at hj; injection hj with hj; injection hj with e1 _; exact hx e1.symm)]
     exact hj
    ·intro hm
     obtain ⟨j,hj⟩:=List.getElem?_of_mem hm
     rw [List.getElem?_set] at hj
     split at hj
     ·simp [hil] at hj; exact absurd hj.1.symm hx
     ·exact List.mem_of_getElem? hj
theorem M4 (hk:Dk kd ek) {es:Array MapEntry} {M:κ -> Option υ} {n:Nat} (h:Gs ek ew es M n) (k:κ) :
  ∃ es',Fq kd (ek k) es = some es' /\ Gs ek ew es' (Pj M k) (n - if (M k).isSome then 1 else 0):=by
 obtain ⟨l,h1,h2,h3,h4⟩:=h
 unfold Fq
 rw [Bd hk k l es.toList 0 h1]
 cases hl:DA l k 0 with
 | none=>
  have hnone:M k = none:=by
   cases hM:M k with
   | none=>rfl
   | some u=>exact absurd ((h3 k u).1 hM) (B2 hl u)
  refine ⟨_,rfl,l,h1,h2,fun x u=>?_,by simp [h4,hnone]⟩
  simp only [Pj]
  by_cases hx:x = k
  ·subst hx; simp only [if_true]; exact ⟨(fun e=>by cases e),fun hm=>absurd hm (B2 hl u)⟩
  ·simp [hx,h3]
 | some p=>
  obtain ⟨i,u⟩:=p
  obtain ⟨_,hi⟩:=Cf hl
  simp only [Nat.sub_zero] at hi
  have hil:i < l.length:=by
   rcases Nat.lt_or_ge i l.length with g | g
   ·exact g
   ·rw [List.getElem?_eq_none g] at hi; cases hi
  have hsome:M k = some u:=(h3 k u).2 (List.mem_of_getElem? hi)
  have hes:i < es.size:=by have:=congrArg List.length h1; simp at this; omega
  refine ⟨_,rfl,l.eraseIdx i,?_,?_,fun x w=>?_,by rw [List.length_eraseIdx,if_pos hil,h4,hsome]; rfl⟩
  ·have:(es.eraseIdxIfInBounds i).toList = es.toList.eraseIdx i:=by simp [Array.eraseIdxIfInBounds,hes,Array.toList_eraseIdx]
   rw [this]
   have key:∀ {α β:Type} (f:α -> β) (xs:List α) (i:Nat),(xs.eraseIdx i).map f = (xs.map f).eraseIdx i:=by
    intro α β f xs
    induction xs with
    | nil=>intro i; simp
    | cons x xs ih=>intro i; cases i with
     | zero=>simp
     | succ i=>simp [ih]
   rw [key,key,h1]
  ·have key:((l.eraseIdx i).map (·.1)).Sublist (l.map (·.1)):=(List.eraseIdx_sublist l i).map _
   exact key.nodup h2
  ·have huniq:∀ (j:Nat) (w:υ),l[j]? = some (k,w) -> j = i:=fun j w hj=>by
    have e1:(l.map (·.1))[j]? = some k:=by simp [hj]
    have e2:(l.map (·.1))[i]? = some k:=by simp [hi]
    exact (List.getElem_inj h2).1 ((List.getElem?_eq_some_iff.1 e1).2.trans (List.getElem?_eq_some_iff.1 e2).2.symm)
   simp only [Pj]
   have hmem:(x,w) ∈ l.eraseIdx i ↔ ∃ j,j ≠ i /\ l[j]? = some (x,w):=by rw [List.mem_eraseIdx_iff_getElem?]
   rw [hmem]
   by_cases hx:x = k
   ·subst hx; simp only [if_true]; exact ⟨(fun e=>by cases e),fun ⟨j,hj,he⟩=>absurd (huniq j w he) hj⟩
   ·simp only [hx,if_false,h3]
    constructor
    ·intro hm
     obtain ⟨j,hj⟩:=List.getElem?_of_mem hm
     exact ⟨j,fun e=>by subst e; rw [hi] at hj; injection hj with hj; injection hj with e1 _; exact hx e1.symm,hj⟩
    ·rintro ⟨j,_,hj⟩; exact List.mem_of_getElem? hj
theorem Sub.put {p:Nat × Obj} {L T:SH} (h:Sub (p :: L) T) (q:Nat × Obj):∃ i,T[i]? = some p /\ Sub (q :: L) (T.set i q):=by
 obtain ⟨G,hp⟩:=h
 have hm:p ∈ T:=hp.mem_iff.2 (by simp)
 obtain ⟨i,hi⟩:=List.getElem?_of_mem hm
 refine ⟨i,hi,G,?_⟩
 have key:∀ (A:SH) (i:Nat) (x y:Nat × Obj),A[i]? = some x -> (y :: A).Perm (x :: A.set i y):=by
  intro A
  induction A with
  | nil=>intro i x y h; simp at h
  | cons z A ih=>
   intro i x y h
   cases i with
   | zero=>simp at h; subst h; exact List.Perm.swap ..
   | succ i=>
    simp at h
    have:=ih i x y h
    exact (List.Perm.swap z y A).trans ((this.cons z).trans (List.Perm.swap x z _))
 have k1:=key T i p q hi
 have k2:(p :: T.set i q).Perm (p :: (q :: (L ++ G))):=k1.symm.trans ((hp.cons q).trans (List.Perm.swap ..))
 exact List.Perm.cons_inv k2
theorem LS.of_sub {I:A1} {L T:SH} {r clock:Nat} {es:Array MapEntry} (h:Sub ((r,.map es clock) :: L) T):LS I T r es clock:=by
 obtain ⟨G,hp⟩:=h
 exact .inr (hp.mem_iff.2 (by simp))
theorem DS.of (hk:Dk kd ek) {L T:SH} {r clock:Nat} {es:Array MapEntry} {M:κ -> Option υ} {n:Nat} (hs:Sub ((r,.map es clock) :: L) T) (h:Gs ek ew es M n) (k:κ) (v:υ) {K:SH -> Prop}
  (hK:∀ es' clock' T',Gs ek ew es' (MN M k v) (n + if (M k).isSome then 0 else 1) -> Sub ((r,.map es' clock') :: L) T' -> K T'):DS T (some r) kd (ek k) (ew v) K:=by
 obtain ⟨es',clock',h1,h2⟩:=M6 (clock:=clock) hk h k v
 obtain ⟨i,hi,hs'⟩:=hs.put (r,.map es' clock')
 exact ⟨r,i,es,clock,es',clock',rfl,hi,h1,hK es' clock' _ h2 hs'⟩
theorem Gz.of (hk:Dk kd ek) {L T:SH} {r clock:Nat} {es:Array MapEntry} {M:κ -> Option υ} {n:Nat} (hs:Sub ((r,.map es clock) :: L) T) (h:Gs ek ew es M n) (k:κ) {K:SH -> Prop}
  (hK:∀ es' T',Gs ek ew es' (Pj M k) (n - if (M k).isSome then 1 else 0) -> Sub ((r,.map es' clock) :: L) T' -> K T'):Gz T (some r) kd (ek k) K:=by
 obtain ⟨es',h1,h2⟩:=M4 hk h k
 obtain ⟨i,hi,hs'⟩:=hs.put (r,.map es' clock)
 exact ⟨i,es,clock,es',hi,h1,hK es' _ h2 hs'⟩
theorem Fa.of {I:A1} {L T:SH} {r clock:Nat} {es:Array MapEntry} {M:κ -> Option υ} {n:Nat} (hs:Sub ((r,.map es clock) :: L) T) (h:Gs ek ew es M n):Fa I T (some r) n:=⟨es,clock,LS.of_sub hs,h.size.symm⟩
end
theorem LH:Dk .string Value.string:=fun a b=>by
 show some (a == b) = _
 congr 1
 by_cases h:a = b
 ·rw [Ff.2 h,decide_eq_true h]
 ·rw [decide_eq_false h]
  cases hb:(a == b)
  ·rfl
  ·exact absurd (Ff.1 hb) h
section
variable {α:Type} {el:α -> List Value} {sz:Nat}
def Au (I:A1) (S:SH) (a:Option Addr) (len sz:Nat) (el:α -> List Value) (xs:List α):Prop:=
 xs.length = len /\ ∀ i x,xs[i]? = some x -> ∃ a',a = some a' /\ a'.spot = none /\ ∀ j v,(el x)[j]? = some v -> A0 I S ((a'.add (i * sz)).add j) v
theorem Au.of_slin {I:A1} {a:Option Addr} {len:Nat} {xs:List α} (hne:∀ x,0 < (el x).length) (h:Mz I a len sz el xs):Au I [] a xs.length sz el xs:=by
 refine ⟨rfl,fun i x hx=>?_⟩
 obtain ⟨a',ha,hc⟩:=h.2 i x hx
 refine ⟨a',ha,?_,hc⟩
 have hi:i < xs.length:=by
  rcases Nat.lt_or_ge i xs.length with g | g
  ·exact g
  ·rw [List.getElem?_eq_none g] at hx; cases hx
 obtain ⟨a2,ha2,hc2⟩:=h.2 0 _ (List.getElem?_eq_getElem (by omega))
 rw [ha] at ha2; injection ha2 with ha2; subst ha2
 have h0:=hc2 0 _ (List.getElem?_eq_getElem (hne _))
 rw [Nat.zero_mul] at h0
 exact h0.1
theorem Au.keep {I J:A1} {S T:SH} {a:Option Addr} {len:Nat} {xs:List α} (hk:Ak I S J T) (h:Au I S a len sz el xs):Au J T a len sz el xs:=
 ⟨h.1,fun i x hx=>let ⟨a',h1,h2,h3⟩:=h.2 i x hx; ⟨a',h1,h2,fun j v hj=>(h3 j v hj).mono hk⟩⟩
theorem Au.sub {I:A1} {S T:SH} {a:Option Addr} {len:Nat} {xs:List α} (hs:Sub S T) (h:Au I S a len sz el xs):Au I T a len sz el xs:=h.keep (hs.keep (A1.le.refl I))
theorem Au.le {I J:A1} {S:SH} {a:Option Addr} {len:Nat} {xs:List α} (hle:I.le J) (h:Au I S a len sz el xs):Au J S a len sz el xs:=h.keep ((Sub.refl S).keep hle)
theorem Au.cell {I:A1} {S:SH} {a:Option Addr} {len:Nat} {xs:List α} (h:Au I S a len sz el xs) {i:Nat} {x:α} (hx:xs[i]? = some x):∃ a',a = some a' /\ ∀ j v,(el x)[j]? = some v -> A0 I S ((a'.add (i * sz)).add j) v:=
 let ⟨a',h1,_,h3⟩:=h.2 i x hx; ⟨a',h1,h3⟩
theorem Au.take {I:A1} {S:SH} {a:Option Addr} {len j:Nat} {xs:List α} (h:Au I S a len sz el xs) (hj:j <= len):Au I S a j sz el (xs.take j):=by
 refine ⟨by rw [List.length_take,h.1]; omega,fun i x hx=>?_⟩
 rw [List.getElem?_take] at hx
 split at hx
 ·exact h.2 i x hx
 ·cases hx
theorem Au.drop {I:A1} {S:SH} {a:Option Addr} {len j c:Nat} {xs:List α} (h:Au I S a len sz el xs) (hj:j <= len) (hc:len <= c):Au I S (N2 a c j sz) (len - j) sz el (xs.drop j):=by
 refine ⟨by rw [List.length_drop,h.1],fun i x hx=>?_⟩
 rw [List.getElem?_drop] at hx
 obtain ⟨a',rfl,hs,hcl⟩:=h.2 _ x hx
 have hlt:j + i < xs.length:=by
  rcases Nat.lt_or_ge (j + i) xs.length with g | g
  ·exact g
  ·rw [List.getElem?_eq_none g] at hx; cases hx
 rw [h.1] at hlt
 unfold N2
 rw [if_neg (by omega)]
 refine ⟨a'.add (j * sz),rfl,?_,fun k v hk=>?_⟩
 ·obtain ⟨b,o,sp⟩:=a'
  dsimp only at hs; subst hs
  rw [A5]
 ·rw [Lq _ hs,<- Nat.add_mul]; exact hcl k v hk
theorem E0 (he:∀ x,(el x).length = sz) (hsz:0 < sz):∀ {xs:List α} {j:Nat} {u:Value},(xs.flatMap el)[j]? = some u -> ∃ x,xs[j / sz]? = some x /\ (el x)[j % sz]? = some u
 | [],j,u,h=>by simp at h
 | x :: xs,j,u,h=>by
  simp only [List.flatMap_cons] at h
  by_cases hj:j < sz
  ·rw [List.getElem?_append_left (by rw [he]; exact hj)] at h
   exact ⟨x,by rw [Nat.div_eq_of_lt hj]; rfl,by rw [Nat.mod_eq_of_lt hj]; exact h⟩
  ·rw [List.getElem?_append_right (by rw [he]; omega),he] at h
   obtain ⟨y,h1,h2⟩:=E0 he hsz h
   refine ⟨y,?_,?_⟩
   ·rw [show j / sz = (j - sz) / sz + 1 by rw [Nat.div_eq_sub_div hsz (by omega)]]
    simpa using h1
   ·rw [Nat.mod_eq_sub_mod (by omega)]; exact h2
theorem Au.rd (he:∀ x,(el x).length = sz) (hsz:0 < sz) {I:A1} {S:SH} {a:Option Addr} {len c:Nat} {xs:List α} (h:Au I S a len sz el xs):Rd I S sz (.slice a len c) len (xs.flatMap el):=by
 refine ⟨a,c,rfl,by rw [As he,h.1],fun j u hj=>?_⟩
 obtain ⟨x,h1,h2⟩:=E0 he hsz hj
 obtain ⟨a',ha,hs,hc⟩:=h.2 _ x h1
 refine ⟨a',ha,?_⟩
 have:=hc _ u h2
 rw [Lq _ hs,Nat.mul_comm,Nat.div_add_mod] at this
 exact this
theorem Bt (ho:∀ x,(el x).all DH = true):∀ xs:List α,(xs.flatMap el).all DH = true
 | []=>rfl
 | x :: xs=>by simp only [List.flatMap_cons,List.all_append,ho,Bt ho xs,Bool.and_self]
theorem Ad.list {S:SH} {g o:Nat} {L:List Value} {e:TypeId} {vs:List Value} {K:SH -> Prop} (hl:o + vs.length <= L.length) (ho:vs.all DH = true) (h:K ((g,.cells (L.take o ++ vs ++ L.drop (o + vs.length)).toArray e (0,0)) :: S)) :
  Ad ((g,.cells L.toArray e (0,0)) :: S) ⟨g,o,none⟩ vs K:=by
 refine Ad.at0 (by simpa using hl) ho ?_
 rw [D6 _ _ _ hl]; exact h
theorem Rd.list {I:A1} {S:SH} {g o m c:Nat} {L vs:List Value} {e:TypeId} {fz:Nat × Nat} (hv:vs = (L.drop o).take (m * sz)) (hl:o + m * sz <= L.length):Rd I ((g,.cells L.toArray e fz) :: S) sz (.slice (some ⟨g,o,none⟩) m c) m vs:=by
 subst hv
 refine ⟨_,c,rfl,by simp; omega,fun j u hj=>⟨_,rfl,?_⟩⟩
 rw [A5]
 refine A0.at0 ?_
 rw [List.getElem?_toArray]
 rw [List.getElem?_take] at hj
 split at hj
 ·rw [List.getElem?_drop] at hj; exact hj
 ·cases hj
theorem Rd.none {I:A1} {S:SH} {a:Option Addr} {c:Nat}:Rd I S sz (.slice a 0 c) 0 []:=⟨a,c,rfl,by simp,fun j u h=>by simp at h⟩
theorem Rd.keep {I J:A1} {S T:SH} {x:Value} {m:Nat} {vs:List Value} (hk:Ak I S J T) (h:Rd I S sz x m vs):Rd J T sz x m vs:=
 let ⟨A,c,h1,h2,h3⟩:=h; ⟨A,c,h1,h2,fun j u hj=>let ⟨a,ha,hc⟩:=h3 j u hj; ⟨a,ha,hc.mono hk⟩⟩
def Aq (e:TypeId) (sz:Nat) (el:α -> List Value) (v:Value) (xs:List α) (own:SH):Prop:=
 (v = .slice none 0 0 /\ xs = [] /\ own = []) \/
  ∃ g cap rest,v = .slice (some ⟨g,0,none⟩) xs.length cap /\ own = [(g,.cells (xs.flatMap el ++ rest).toArray e (0,0))] /\ xs.length * sz + rest.length = cap * sz /\ cap <= maxLen
theorem Aq.nil {e:TypeId}:Aq e sz el (.slice none 0 0) [] []:=.inl ⟨rfl,rfl,rfl⟩
theorem Aq.slice {e:TypeId} {v:Value} {xs:List α} {own:SH} (h:Aq e sz el v xs own):∃ a c,v = .slice a xs.length c:=by
 rcases h with ⟨rfl,rfl,_⟩ | ⟨g,cap,rest,rfl,_⟩
 ·exact ⟨_,_,rfl⟩
 ·exact ⟨_,_,rfl⟩
theorem Aq.len {e:TypeId} {a:Option Addr} {n c:Nat} {xs:List α} {own:SH} (h:Aq e sz el (.slice a n c) xs own):n = xs.length:=by
 obtain ⟨a',c',he⟩:=h.slice
 injection he
theorem Aq.row (he:∀ x,(el x).length = sz) {e:TypeId} {I:A1} {a:Option Addr} {n c:Nat} {xs:List α} {own:SH} (h:Aq e sz el (.slice a n c) xs own):Au I own a n sz el xs:=by
 refine ⟨h.len.symm,fun i x hx=>?_⟩
 rcases h with ⟨_,rfl,_⟩ | ⟨g,cap,rest,hv,rfl,_⟩
 ·simp at hx
 ·injection hv with ha
  refine ⟨_,ha,rfl,fun j v hj=>?_⟩
  rw [A5,A5,Nat.zero_add]
  refine A0.at0 ?_
  have hil:i < xs.length:=by
   rcases Nat.lt_or_ge i xs.length with h | h
   ·exact h
   ·rw [List.getElem?_eq_none h] at hx; cases hx
  have hjl:j < sz:=by
   rcases Nat.lt_or_ge j (el x).length with h | h
   ·rw [he] at h; exact h
   ·rw [List.getElem?_eq_none h] at hj; cases hj
  rw [List.getElem?_toArray,List.getElem?_append_left,C5 he xs i j x hx hjl]
  ·exact hj
  ·rw [As he]
   have:=Nat.mul_le_mul_right sz (Nat.succ_le_of_lt hil)
   rw [Nat.succ_mul] at this; omega
theorem F6 (he:∀ x,(el x).length = sz) (xs:List α) (rest:List Value):(xs.flatMap el ++ rest).take (xs.length * sz) = xs.flatMap el:=by
 rw [<- As he xs]; exact List.take_left
theorem LY (he:∀ x,(el x).length = sz) (xs:List α) (rest:List Value):(xs.flatMap el ++ rest).drop (xs.length * sz) = rest:=by
 rw [<- As he xs]; exact List.drop_left
theorem AA.own (he:∀ x,(el x).length = sz) (ho:∀ x,(el x).all DH = true) {e:TypeId} {bytes:Nat} {z:List Value} {td:Option TypeDesc} {I:A1} {S own F:SH} {v x:Value} {xs ys:List α} {K:Option Addr -> Nat -> Nat -> SH -> Prop}
  (hz:z.length = sz) (hp:S.Perm (own ++ F)) (hv:Aq e sz el v xs own) (hx:P6 td sz z I S x ys.length (ys.flatMap el)) (hm:xs.length + ys.length <= maxLen) (hb:(xs.length + ys.length) * bytes <= 140737488355328)
  (hK:∀ p n c own',Aq e sz el (.slice p n c) (xs ++ ys) own' -> K p n c (own' ++ F)):AA e sz bytes z td I S v x K:=by
 have hlen:(xs ++ ys).length = xs.length + ys.length:=List.length_append
 have grow:∀ g c,xs.length + ys.length <= c -> c <= maxLen -> Aq e sz el (.slice (some ⟨g,0,none⟩) (xs.length + ys.length) c) (xs ++ ys) [(g,.cells (xs.flatMap el ++ ys.flatMap el ++ AX (c - (xs.length + ys.length)) z).toArray e (0,0))]:=by
  intro g c h1 h2
  refine .inr ⟨g,c,AX (c - (xs.length + ys.length)) z,by rw [hlen],by rw [List.flatMap_append],?_,h2⟩
  rw [AU,hz,hlen,<- Nat.add_mul]; congr 1; omega
 rcases hv with ⟨rfl,rfl,rfl⟩ | ⟨g,cap,rest,rfl,rfl,hr,hc⟩
 ·refine ⟨[] ++ F,[],F,none,0,0,ys.length,[],ys.flatMap el,hp,List.Perm.refl _,rfl,hx,by simpa using hm,by simpa using hb,fun h=>.inl ?_,fun h=>⟨Rd.none,fun g c h1 h2=>?_⟩⟩
  ·have hy:ys = []:=List.eq_nil_of_length_eq_zero (by omega)
   subst hy
   exact ⟨rfl,hK none 0 0 [] Aq.nil⟩
  ·have:=hK (some ⟨g,0,none⟩) _ c _ (by simpa using grow g c (by simpa using h1) h2)
   simpa using this
 ·refine ⟨_,[_],F,some ⟨g,0,none⟩,xs.length,cap,ys.length,xs.flatMap el,ys.flatMap el,hp,List.Perm.refl _,rfl,hx,hm,hb,fun h=>.inr ⟨_,rfl,?_⟩,fun h=>⟨?_,fun g' c h1 h2=>?_⟩⟩
  ·rw [A5,Nat.zero_add]
   have hfit:xs.length * sz + ys.length * sz <= cap * sz:=by rw [<- Nat.add_mul]; exact Nat.mul_le_mul_right _ h
   refine Ad.list ?_ (Bt ho ys) ?_
   ·rw [List.length_append,As he,As he]; omega
   ·rw [F6 he,As he,<- List.drop_drop,LY he]
    refine hK _ _ _ [_] (.inr ⟨g,cap,rest.drop (ys.length * sz),by rw [hlen],?_,?_,hc⟩)
    ·rw [List.flatMap_append]
    ·rw [List.length_drop,hlen,Nat.add_mul]; omega
  ·refine Rd.keep (Sub.keep (A1.le.refl I) (T:=S) ⟨F,hp⟩) (Rd.list ?_ ?_)
   ·rw [List.drop_zero,F6 he]
   ·rw [List.length_append,As he]; omega
  ·exact hK (some ⟨g',0,none⟩) _ c _ (grow g' c h1 h2)
end
theorem DW.mono {P:Program} {f:FuncId} {args:Array Value} {I:A1} {S:SH} {R R':Value -> A1 -> SH -> Prop} (h:DW P f args I S R) (hr:∀ v J T,I.le J -> R v J T -> R' v J T):DW P f args I S R':=
 fun w hw=>let ⟨v,w',J,T,h1,h2,h3,h4⟩:=h w hw; ⟨v,w',J,T,h1,h2,h3,hr v J T h2 h4⟩
theorem Ad.mid {B:SH} {b o:Nat} {cs:Array Value} {e:TypeId} {vs:List Value}:∀ {A:SH} {K:SH -> Prop},o + vs.length <= cs.size -> vs.all DH = true -> K (A ++ (b,.cells (BN cs o vs) e (0,0)) :: B) -> Ad (A ++ (b,.cells cs e (0,0)) :: B) ⟨b,o,none⟩ vs K
 | [],K,hl,ho,h=>Ad.at0 hl ho h
 | x :: A,K,hl,ho,h=>Ad.tl (Ad.mid (A:=A) (K:=fun T=>K (x :: T)) hl ho h)
theorem Ad.listF {S:SH} {g o:Nat} {L:List Value} {e:TypeId} {vs:List Value} {K:SH -> Prop} {fz:Nat × Nat} (hl:o + vs.length <= L.length) (hf:o + vs.length <= fz.1) (ho:vs.all DH = true) (h:K ((g,.cells (L.take o ++ vs ++ L.drop (o + vs.length)).toArray e fz) :: S)) :
  Ad ((g,.cells L.toArray e fz) :: S) ⟨g,o,none⟩ vs K:=by
 refine ⟨0,L.toArray,e,fz,rfl,rfl,by simpa using hl,.inr (.inl hf),ho,?_⟩
 rw [D6 _ _ _ hl]; exact h
theorem A0.mid {I:A1} {A B:SH} {b o:Nat} {cs:Array Value} {e:TypeId} {fz:Nat × Nat} {v:Value} (h:cs[o]? = some v):A0 I (A ++ (b,.cells cs e fz) :: B) ⟨b,o,none⟩ v:=
 ⟨rfl,cs,e,fz,.inr (by simp),h⟩
theorem N5 {A B:SH} {x y:Nat × Obj}:Sub ((y :: A) ++ B) (A ++ x :: y :: B):=
 ⟨[x],(List.perm_middle.trans ((List.perm_middle).cons _)).trans (List.perm_append_comm (l₁:=[x]))⟩
theorem M8 {A B:SH} {x y:Nat × Obj}:(x :: y :: (A ++ B)).Perm (A ++ x :: y :: B):=(List.perm_middle.trans ((List.perm_middle).cons _)).symm
theorem Bi {A B:SH} {x:Nat × Obj}:(x :: (A ++ B)).Perm (A ++ x :: B):=List.perm_middle.symm
def GH (b:UInt8):List Value:=[.int .u8 (b.toNat:Int)]
theorem DF (b:UInt8):(GH b).length = 1:=rfl
theorem Lw (b:UInt8):(GH b).all DH = true:=rfl
def B1 (l:List UInt8):List Value:=l.map fun b=>.int .u8 (b.toNat:Int)
theorem BB:∀ l:List UInt8,l.flatMap GH = B1 l
 | []=>rfl
 | b :: l=>by rw [List.flatMap_cons,BB l]; rfl
theorem C2 (l:List UInt8):(B1 l).length = l.length:=List.length_map ..
theorem Ah.list {I:A1} {S:SH} {g n:Nat} {l:List UInt8} {rest:List Value} {e:TypeId} {fz:Nat × Nat} (hn:n = l.length):Ah I ((g,.cells (B1 l ++ rest).toArray e fz) :: S) (some ⟨g,0,none⟩) n ⟨l.toArray⟩:=by
 subst hn
 refine ⟨by simp [ByteArray.size],fun i c hc=>?_⟩
 rw [A5,Nat.zero_add]
 refine A0.at0 ?_
 have hi:i < l.length:=by
  rcases Nat.lt_or_ge i l.length with h | h
  ·exact h
  ·rw [getElem?_neg (⟨l.toArray⟩:ByteArray) i (by simp [ByteArray.size]; omega)] at hc; cases hc
 have hli:l[i]? = some c:=by
  rw [getElem?_pos (⟨l.toArray⟩:ByteArray) i (by simp [ByteArray.size]; omega)] at hc
  injection hc with hc
  rw [List.getElem?_eq_getElem hi,<- hc]; rfl
 rw [List.getElem?_toArray,List.getElem?_append_left (by rw [C2]; exact hi),B1,List.getElem?_map,hli]
 rfl
end Go.Px
namespace Go.Proofs.YtidkiajflmngcaaGreatDoor
open Go.Px
set_option linter.unusedVariables false
theorem HA {I:A1} {S:SH} (x:Value):DW Tryz.prog 81 #[x] I S fun v _ T=>v = x /\ T = S:=by
 intro w hw
 refine ⟨x,w,I,S,?_,A1.le.refl I,hw,rfl,rfl⟩
 rw [run_callFunc_extern Tryz.func81 (by kernel_rfl) (by kernel_rfl) (by kernel_rfl) (e:=Extern.AbiNoEscape.same) (by kernel_rfl)]
 rfl
abbrev Fg (p:Option Addr) (A:Option Addr) (n c:Nat):Obj:=.cells #[.pointer p,.slice A n c] 115 (0,0)
theorem GG {b:Nat} {p A:Option Addr} {n c:Nat} {I:A1} {F:SH} (hp:p = none \/ p = some ⟨b,0,none⟩) :
  Runs Tryz.prog 59 #[.pointer (some ⟨b,0,none⟩)] I ((b,Fg p A n c) :: F) fun v _ T=>v = .tuple #[] /\ T = (b,Fg (some ⟨b,0,none⟩) A n c) :: F:=by
 refine RV _ _ _ _ ?_
 unfold z6
 refine ⟨p,A0.at0 rfl,?_⟩
 rcases hp with rfl | rfl
 ·refine A7 rfl ⟨_,_,⟨(0,0),.inr (List.mem_cons_self ..)⟩,by simp,(HA _).mono ?_⟩
  rintro v J T hle ⟨rfl,rfl⟩
  refine ⟨_,rfl,_,_,⟨(0,0),.inr (List.mem_cons_self ..)⟩,?_,Ad.at0 (o:=0) (vs:=[.pointer (some ⟨b,0,none⟩)]) (by simp) rfl ⟨rfl,rfl⟩⟩
  show liesAt Tryz.prog (Program.depth Tryz.prog) 115 (2 / Program.cellsOf Tryz.prog 115) 0 115 1 = true
  kernel_rfl
 ·exact A4 rfl ⟨_,A0.at0 rfl,rfl,rfl,rfl⟩
def PS (b:Nat) (s:ByteArray) (own:SH):Prop:=∃ p A n c own',own = (b,Fg p A n c) :: own' /\ (p = none \/ p = some ⟨b,0,none⟩) /\ (A.isSome = true -> c ≠ 0) /\ Aq 5 1 GH (.slice A n c) s.data.toList own'
theorem LG {α:Type} {el:α -> List Value} {e:TypeId} {A:Option Addr} {n c:Nat} {xs:List α} {own:SH} (h:Aq e 1 el (.slice A n c) xs own) (hx:0 < xs.length):A.isSome = true -> c ≠ 0:=by
 intro ha
 rcases h with ⟨hv,_⟩ | ⟨g,cap,rest,hv,_,hcap,_⟩
 ·injection hv with h1; subst h1; cases ha
 ·injection hv with h1 h2 h3; omega
theorem MY {P:Program} {d:Nat} {fits:TypeId -> Bool} {e:TypeId} {count n:Nat} (h1:P.cellsOf e = 1) (h2:fits e = true) (h3:n <= count):rowAt P fits (d + 1) e count 0 n = true:=by
 unfold rowAt
 simp [h1,h2,h3]
theorem Mt {b:Nat} {s:ByteArray} {own:SH} (h:PS b s own) (I:A1) (F:SH):Runs Tryz.prog 35 #[.pointer (some ⟨b,0,none⟩)] I (own ++ F) fun v _ T=>v = .int .i64 (s.size:Int) /\ T = own ++ F:=by
 obtain ⟨p,A,n,c,own',rfl,hp,hc0,ho⟩:=h
 refine Qw _ _ _ _ ?_
 unfold SM
 refine ⟨_,_,_,A0.at0 rfl,?_,rfl⟩
 rw [ho.len]; rfl
theorem Hp {b:Nat} {s:ByteArray} {own:SH} (h:PS b s own) (u:UInt8) (hs:s.size + 1 <= 140737488355328) (I:A1) (F:SH) :
  Runs Tryz.prog 36 #[.pointer (some ⟨b,0,none⟩),.int .u8 (u.toNat:Int)] I (own ++ F) fun v _ T=>v = .nilIface /\ ∃ own',PS b (s.push u) own' /\ Sub (own' ++ F) T:=by
 obtain ⟨p,A,n,c,own',rfl,hp,hc0,ho⟩:=h
 refine RU _ _ _ _ _ ?_
 unfold z5
 refine (GG hp).mono ?_
 rintro v J T hle ⟨rfl,rfl⟩
 refine ⟨rfl,_,_,_,A0.at0 rfl,fun b13=>?_⟩
 have hsz:s.data.toList.length = s.size:=Array.length_toList
 refine AA.own (xs:=s.data.toList) (ys:=[u]) (el:=GH) (own:=own') (F:=(b13,.cells #[.int .u8 (u.toNat:Int)] 5 (0,0)) :: (b,Fg (some ⟨b,0,none⟩) A n c) :: F) DF Lw rfl M8 ho ⟨?_,rfl⟩ ?_ ?_ ?_
 ·exact Rd.list (L:=GH u) rfl (by simp [DF])
 ·rw [hsz]; simp only [List.length_singleton,maxLen]; omega
 ·rw [hsz]; simp only [List.length_singleton]; omega
 ·intro q m d own2 ho2
  have e:own2 ++ (b13,Obj.cells #[.int .u8 (u.toNat:Int)] 5 (0,0)) :: (b,Fg (some ⟨b,0,none⟩) A n c) :: F = (own2 ++ [(b13,Obj.cells #[.int .u8 (u.toNat:Int)] 5 (0,0))]) ++ (b,Fg (some ⟨b,0,none⟩) A n c) :: F:=by simp
  rw [e]
  refine Ad.mid (o:=1) (vs:=[.slice q m d]) (by simp) rfl ⟨rfl,(b,Fg (some ⟨b,0,none⟩) q m d) :: own2,⟨_,q,m,d,own2,rfl,.inr rfl,LG ho2 (by simp),?_⟩,?_⟩
  ·have:(s.push u).data.toList = s.data.toList ++ [u]:=by simp [ByteArray.push]
   rw [this]; exact ho2
  ·rw [List.append_assoc]
   exact N5
theorem LU {b:Nat} {s t:ByteArray} {own:SH} (h:PS b s own) (h0:0 < s.size + t.size) (hs:s.size + t.size <= 140737488355328) (I:A1) (F:SH) :
  Runs Tryz.prog 37 #[.pointer (some ⟨b,0,none⟩),.string t] I (own ++ F) fun v _ T=>v = .tuple #[.int .i64 (t.size:Int),.nilIface] /\ ∃ own',PS b (s ++ t) own' /\ Sub (own' ++ F) T:=by
 obtain ⟨p,A,n,c,own',rfl,hp,hc0,ho⟩:=h
 refine RS _ _ _ _ _ ?_
 unfold z4
 refine (GG hp).mono ?_
 rintro v J T hle ⟨rfl,rfl⟩
 refine ⟨rfl,_,_,_,A0.at0 rfl,?_⟩
 have hsz:s.data.toList.length = s.size:=Array.length_toList
 have htz:t.data.toList.length = t.size:=Array.length_toList
 refine AA.own (xs:=s.data.toList) (ys:=t.data.toList) (el:=GH) (own:=own') (F:=(b,Fg (some ⟨b,0,none⟩) A n c) :: F) DF Lw rfl Bi ho ⟨t,rfl,htz,BB _,rfl⟩ ?_ ?_ ?_
 ·rw [hsz,htz]; simp only [maxLen]; omega
 ·rw [hsz,htz]; omega
 ·intro q m d own2 ho2
  refine Ad.mid (o:=1) (vs:=[.slice q m d]) (by simp) rfl ⟨rfl,(b,Fg (some ⟨b,0,none⟩) q m d) :: own2,⟨_,q,m,d,own2,rfl,.inr rfl,LG ho2 (by rw [List.length_append,hsz,htz]; exact h0),?_⟩,?_⟩
  ·have:(s ++ t).data.toList = s.data.toList ++ t.data.toList:=by simp
   rw [this]; exact ho2
  ·exact ⟨[],by rw [List.append_nil]; exact List.perm_middle⟩
theorem MA {b:Nat} {s:ByteArray} {own:SH} (h:PS b s own) (hs:s.size <= 140737488355328) (I:A1) (F:SH) :
  Runs Tryz.prog 39 #[.pointer (some ⟨b,0,none⟩)] I (own ++ F) fun v _ T=>v = .string s /\ Sub F T:=by
 obtain ⟨p,A,n,c,own',rfl,hp,hc0,ho⟩:=h
 refine RY _ _ _ _ ?_
 unfold z9 NT NU
 have hln:=ho.len
 have hsz:s.data.toList.length = s.size:=Array.length_toList
 rw [hsz] at hln
 subst hln
 have hs0:s.size = 0 -> s = ByteArray.empty:=fun h=>by
  apply ByteArray.ext
  have:s.data.size = 0:=h
  simp [Array.eq_empty_of_size_eq_zero this]
 rcases ho with ⟨hv,hx,rfl⟩ | ⟨g,cap,rest,hv,rfl,hcap,hcm⟩
 ·injection hv with h1 h2 h3
  subst h1
  refine ⟨_,_,_,A0.at0 rfl,fun h=>(by simp at h),_,_,_,A0.at0 rfl,.inl ⟨by omega,?_,⟨[_],List.perm_append_comm (l₁:=[_])⟩⟩⟩
  rw [hs0 h2]
 ·injection hv with h1 h2 h3
  subst h1; subst h3
  by_cases h0:s.size = 0
  ·refine ⟨_,_,_,A0.at0 rfl,fun _=>hc0 rfl,_,_,_,A0.at0 rfl,.inl ⟨by omega,?_,⟨[_,_],List.perm_append_comm (l₁:=[_,_])⟩⟩⟩
   rw [hs0 h0]
  ·have hsc:s.size <= c:=by rw [hsz] at hcap; omega
   refine ⟨_,_,_,A0.at0 rfl,fun _=>by omega,_,_,_,A0.at0 rfl,.inr ⟨⟨g,0,none⟩,1,_,_,(0,0),s,rfl,by omega,by omega,rfl,?_,?_,rfl,⟨[_,_],List.perm_append_comm (l₁:=[_,_])⟩⟩⟩
   ·have hcs:((s.data.toList.flatMap GH ++ rest).toArray).size = c:=by
     rw [List.size_toArray,List.length_append,As DF]; omega
    rw [hcs]
    have h1:Program.cellsOf Tryz.prog 5 = 1:=by kernel_rfl
    rw [h1,Nat.div_one]
    have hd:∃ d,Program.depth Tryz.prog = d + 1 + 1:=⟨Program.depth Tryz.prog - 2,by kernel_rfl⟩
    obtain ⟨d,hd⟩:=hd
    rw [hd]
    have hsl:sameLayout Tryz.prog (Program.depth Tryz.prog) 5 5 = true:=by kernel_rfl
    unfold liesAt
    have key:∀ D,D = d + 1 + 1 -> rowAt Tryz.prog (fun x=>sameLayout Tryz.prog (Program.depth Tryz.prog) x 5) D 5 c 0 s.size = true:=fun D hD=>by subst hD; exact MY h1 hsl hsc
    rw [Int.toNat_natCast]
    show (rowAt Tryz.prog (fun x=>sameLayout Tryz.prog (Program.depth Tryz.prog) x 5) (Program.depth Tryz.prog) 5 c 0 s.size || _) = true
    rw [key _ hd]
    rfl
   ·rw [BB,Int.toNat_natCast]
    refine Ah.tl ?_
    have:s = ⟨s.data.toList.toArray⟩:=by apply ByteArray.ext; simp
    have hb:=Ah.list (I:=I) (S:=F) (g:=g) (n:=s.size) (l:=s.data.toList) (rest:=rest) (e:=5) (fz:=(0,0)) hsz.symm
    rw [<- this] at hb
    exact hb
def AH (u:UInt8):UInt8:=if 65 <= u.toNat /\ u.toNat <= 90 then UInt8.ofNat (u.toNat + 32) else u
def Bb (s:ByteArray):ByteArray:=⟨(s.data.toList.map AH).toArray⟩
theorem BK (s:ByteArray):(Bb s).size = s.size:=by
 show ((s.data.toList.map AH).toArray).size = s.data.size
 simp
theorem D3 {n:Nat} (h:n < 256):(UInt8.ofNat n).toNat = n:=by
 show n % 256 = n
 exact Nat.mod_eq_of_lt h
theorem LP (u:UInt8) (I:A1) (S:SH):Runs Tryz.prog 60 #[.int .u8 (u.toNat:Int)] I S fun v _ T=>v = .int .u8 ((AH u).toNat:Int) /\ T = S:=by
 refine R1 _ _ _ _ ?_
 unfold Tt Kr Gn Ks
 have hu:=u.toNat_lt
 refine Ab (fun h=>Ab (fun g=>⟨?_,rfl⟩) (fun g=>⟨?_,rfl⟩)) (fun h=>A4 rfl ⟨?_,rfl⟩)
 ·rw [AH,if_pos ⟨by omega,by omega⟩,DL (x:=(u.toNat:Int) + 97) (by omega) (by omega),DL (by omega) (by omega)]
  have:(UInt8.ofNat (u.toNat + 32)).toNat = u.toNat + 32:=by
   exact D3 (by omega)
  rw [this]; congr 1; omega
 ·rw [AH,if_neg (by omega)]
 ·rw [AH,if_neg (by omega)]
theorem Dr (s:ByteArray) (hs:s.size <= 140737488355328) (I:A1) (S:SH):Runs Tryz.prog 38 #[.string s] I S fun v _ T=>v = .string (Bb s) /\ T = S:=by
 refine Runs.drop (QT _ _ _ _ ?_)
 unfold Ti K3 K4
 refine ⟨by simp only [maxLen]; omega,fun g c hc hcm=>?_⟩
 have hln:s.data.toList.length = s.size:=Array.length_toList
 generalize hl:s.data.toList = l at hln
 have hbc:byteCells s = B1 l:=by rw [<- hl]; rfl
 rw [hbc]
 generalize hrest:AX (c - s.size) [Value.int .u8 0] = rest
 have hK:∀ k,(B1 ((l.take k).map AH)).length = min k l.length:=fun k=>by rw [C2,List.length_map,List.length_take]
 refine ⟨fun m b bn bc x xn xc q i J T=>b = some ⟨g,0,none⟩ /\ bn = s.size /\ x = some ⟨g,0,none⟩ /\ xn = s.size /\ q = (s.size:Int) /\ ∃ k:Nat,i = (k:Int) /\ k <= s.size /\ m = s.size - k /\
  T = (g,.cells (B1 ((l.take k).map AH) ++ (B1 (l.drop k) ++ rest)).toArray 5 (c,c + 1)) :: S,s.size,⟨rfl,rfl,rfl,rfl,rfl,0,rfl,Nat.zero_le _,rfl,by simp [B1]⟩,?_⟩
 rintro m b bn bc x xn xc q i J T - ⟨rfl,rfl,rfl,rfl,rfl,k,rfl,hk,rfl,rfl⟩
 unfold Nx K5
 refine Ab (fun h=>?_) (fun h=>?_)
 ·have hkl:k < l.length:=by omega
  have hd:l.drop k = l[k] :: l.drop (k + 1):=List.drop_eq_getElem_cons hkl
  have hkk:(B1 ((l.take k).map AH)).length = k:=by rw [hK]; omega
  refine ⟨by omega,by omega,(l[k].toNat:Int),?_,(LP l[k] _ _).mono ?_⟩
  ·rw [A5]
   refine A0.at0 ?_
   rw [List.getElem?_toArray,List.getElem?_append_right (by rw [hkk]; omega),hkk,hd]
   have:0 + ((k:Int)).toNat * 1 - k = 0:=by omega
   rw [this]; rfl
  ·rintro v J' T' hle ⟨rfl,rfl⟩
   refine ⟨_,rfl,by omega,by omega,?_⟩
   rw [A5]
   have e:0 + ((k:Int)).toNat * 1 = k:=by omega
   rw [e]
   refine Ad.listF ?_ ?_ rfl ⟨s.size - (k + 1),by omega,rfl,rfl,rfl,rfl,rfl,k + 1,?_,by omega,rfl,?_⟩
   ·rw [List.length_append,List.length_append,hkk,C2,List.length_drop]; simp only [List.length_singleton]; omega
   ·simp only [List.length_singleton]; omega
   ·rw [A9 (by omega) (by omega)]; rfl
   ·have t1:(B1 ((l.take k).map AH) ++ (B1 (l.drop k) ++ rest)).take k = B1 ((l.take k).map AH):=by
     conv=>lhs; rw [<- hkk]
     rw [hkk]; conv=>lhs; arg 1; rw [<- hkk]
     exact List.take_left
    have t2:(B1 ((l.take k).map AH) ++ (B1 (l.drop k) ++ rest)).drop (k + [Value.int .u8 ((AH l[k]).toNat:Int)].length) = B1 (l.drop (k + 1)) ++ rest:=by
     rw [List.length_singleton,<- List.drop_drop]
     have:(B1 ((l.take k).map AH) ++ (B1 (l.drop k) ++ rest)).drop k = B1 (l.drop k) ++ rest:=by
      conv=>lhs; arg 1; rw [<- hkk]
      exact List.drop_left
     rw [this,hd]; rfl
    rw [t1,t2]
    have t3:l.take (k + 1) = l.take k ++ [l[k]]:=by rw [List.take_add_one,List.getElem?_eq_getElem hkl]; rfl
    have t4:B1 ((l.take (k + 1)).map AH) = B1 ((l.take k).map AH) ++ [Value.int .u8 ((AH l[k]).toNat:Int)]:=by
     rw [t3,List.map_append,B1,List.map_append]; rfl
    rw [t4]
 ·have:k = s.size:=by omega
  subst this
  refine ⟨Bb s,?_,S,(Sub.refl S).skip _,rfl,rfl⟩
  have t1:l.take s.size = l:=by rw [<- hln]; exact List.take_length
  have t2:l.drop s.size = []:=by rw [<- hln]; exact List.drop_length
  rw [t1,t2]
  have hb:=Ah.list (I:=J) (S:=S) (g:=g) (n:=s.size) (l:=l.map AH) (rest:=B1 [] ++ rest) (e:=5) (fz:=(c,c + 1)) (by rw [List.length_map,hln])
  have hf:Bb s = ⟨(l.map AH).toArray⟩:=by rw [Bb,hl]
  rw [hf]; exact hb
def Bu:List ByteArray -> ByteArray -> Option ByteArray
 | [],acc=>some acc
 | l :: ls,acc=>if l.size < 1 \/ l.size > 63 \/ acc.size + 1 + l.size > 254 then none else Bu ls (acc.push (UInt8.ofNat l.size) ++ Bb l)
theorem GD (a b:ByteArray):(a ++ b).size = a.size + b.size:=ByteArray.size_append
theorem E5:∀ {ls:List ByteArray} {acc n:ByteArray},acc.size <= 254 -> Bu ls acc = some n -> n.size <= 254
 | [],acc,n,h,e=>by simp [Bu] at e; subst e; exact h
 | l :: ls,acc,n,h,e=>by
  unfold Bu at e
  split at e
  ·cases e
  ·refine E5 ?_ e
   rw [GD,BK,ByteArray.size_push]; omega
def Dp (s:ByteArray):List Value:=[.string s]
def Sv:Option ByteArray -> Value
 | some n=>.tuple #[.string n,.bool true]
 | none=>.tuple #[.string ⟨#[]⟩,.bool false]
theorem EU {ls:List ByteArray} {a:Option Addr} {c:Nat} {I:A1} {S:SH} (hx:Au I S a ls.length 1 Dp ls) (hl:ls.length <= 140737488355328) :
  Runs Tryz.prog 17 #[.slice a ls.length c] I S fun v _ T=>v = Sv (Bu ls ByteArray.empty) /\ T = S:=by
 refine Runs.drop (R2 _ _ _ _ _ _ ?_)
 unfold Tu Kt Ku
 intro b4
 refine ⟨fun m o x xn xc q i J T=>o = ⟨b4,0,none⟩ /\ x = a /\ xn = ls.length /\ q = (ls.length:Int) /\ I.le J /\ ∃ (k:Nat) (acc:ByteArray) (own:SH),i = (k:Int) /\ k <= ls.length /\ m = ls.length - k /\ PS b4 acc own /\ Sub (own ++ S) T /\ acc.size <= 254 /\ Bu ls ByteArray.empty = Bu (ls.drop k) acc,
  ls.length,⟨rfl,rfl,rfl,rfl,A1.le.refl I,0,ByteArray.empty,_,rfl,Nat.zero_le _,rfl,⟨none,none,0,0,[],rfl,.inl rfl,fun h=>(by cases h),Aq.nil⟩,Sub.refl _,Nat.zero_le _,rfl⟩,?_⟩
 rintro m o x xn xc q i J T - ⟨rfl,rfl,rfl,rfl,hle,k,acc,own,rfl,hk,rfl,hb,hs,hacc,hm⟩
 unfold NC Kv Kw EC Kx Ky Kz
 have bad:∀ (J:A1) (T:SH),Sub S T -> Bu ls ByteArray.empty = none -> ∃ L,Sub L T /\ Value.tuple #[.string ⟨#[]⟩,.bool false] = Sv (Bu ls ByteArray.empty) /\ L = S:=fun J T h e=>⟨S,h,by rw [e]; rfl,rfl⟩
 refine Ab (fun h=>?_) (fun h=>?_)
 ·have hkl:k < ls.length:=by omega
  obtain ⟨a',rfl,hc⟩:=((hx.sub hs.right).le hle).cell (List.getElem?_eq_getElem hkl)
  have hd:ls.drop k = ls[k] :: ls.drop (k + 1):=List.drop_eq_getElem_cons hkl
  generalize ls[k] = l at hc hd
  rw [hd,Bu] at hm
  refine ⟨by omega,by omega,l,?_,?_⟩
  ·have:=hc 0 (.string l) rfl
   simpa [Addr.add] using this
  ·refine Ab (fun h1=>A7 rfl (bad J T hs.right (by rw [hm,if_pos (.inl (by omega))]))) (fun h1=>Ab (fun h2=>A7 rfl (bad J T hs.right (by rw [hm,if_pos (.inr (.inl (by omega)))]))) (fun h2=>?_))
   refine Runs.use hs (Mt hb J S) ?_
   rintro v J1 T1 hle1 ⟨rfl,rfl⟩
   refine ⟨_,rfl,?_⟩
   rw [A9 (x:=(acc.size:Int) + 1) (by omega) (by omega),A9 (by omega) (by omega)]
   refine Ab (fun h3=>bad J1 _ (Sub.right (Sub.refl _)) (by rw [hm,if_pos (.inr (.inr (by omega)))])) (fun h3=>?_)
   rw [if_neg (by omega)] at hm
   have hu:IntKind.wrap .u8 (l.size:Int) = ((UInt8.ofNat l.size).toNat:Int):=by
    rw [DL (by omega) (by omega),D3 (by omega)]
   rw [hu]
   refine (Hp hb (UInt8.ofNat l.size) (by omega) J1 S).mono ?_
   rintro v J2 T2 hle2 ⟨rfl,own2,hb2,hs2⟩
   refine ⟨_,rfl,(Dr l (by omega) J2 T2).mono ?_⟩
   rintro v J3 T3 hle3 ⟨rfl,rfl⟩
   have hsz:(acc.push (UInt8.ofNat l.size)).size = acc.size + 1:=ByteArray.size_push
   refine ⟨_,rfl,Runs.use hs2 (LU hb2 (t:=Bb l) (by omega) (by rw [hsz,BK]; omega) J3 S) ?_⟩
   rintro v J4 T4 hle4 ⟨rfl,own4,hb4,hs4⟩
   refine ⟨_,_,rfl,ls.length - (k + 1),by omega,rfl,rfl,rfl,rfl,(((hle.trans hle1).trans hle2).trans hle3).trans hle4,k + 1,_,own4,?_,by omega,rfl,hb4,hs4,?_,hm⟩
   ·rw [A9 (by omega) (by omega)]; rfl
   ·rw [GD,hsz,BK]; omega
 ·have:k = ls.length:=by omega
  subst this
  rw [List.drop_length,Bu] at hm
  refine Runs.use hs (MA hb (by omega) J S) ?_
  rintro v J1 T1 hle1 ⟨rfl,hsub⟩
  exact ⟨_,rfl,S,hsub,by rw [hm]; rfl,rfl⟩
def Pg (x:Int):List Value:=[.int .u8 x]
end Go.Proofs.YtidkiajflmngcaaGreatDoor
namespace Go.Px
set_option linter.unusedVariables false
structure Cm {α:Type} (c:α -> α -> Int):Prop where
 vals:∀ a b,c a b = -1 \/ c a b = 0 \/ c a b = 1
 refl:∀ a,c a a = 0
 anti:∀ a b,c b a = -(c a b)
 eq:∀ a b,c a b = 0 -> a = b
 trans:∀ a b d,c a b < 0 -> c b d < 0 -> c a d < 0
def Qa {α β:Type} (c:α -> α -> Int) (d:β -> β -> Int) (p q:α × β):Int:=if c p.1 q.1 = 0 then d p.2 q.2 else c p.1 q.1
theorem Cm.le_trans {α:Type} {c:α -> α -> Int} (hc:Cm c) {a b d:α} (h:c a b <= 0) (g:c b d <= 0):c a d <= 0:=by
 by_cases h1:c a b = 0
 ·rw [hc.eq _ _ h1]; exact g
 ·by_cases h2:c b d = 0
  ·rw [<- hc.eq _ _ h2]; exact h
  ·have:=hc.trans a b d (by omega) (by omega); omega
def Su (a b:ByteArray):Bool:=Op.bytesLess a.toList b.toList
def RG (a b:ByteArray):Int:=if Su a b then -1 else if Su b a then 1 else 0
def RH (a b:Int):Int:=if a < b then -1 else if b < a then 1 else 0
theorem toList_inj {a b:ByteArray} (h:a.toList = b.toList):a = b:=by
 rw [ByteArray.toList_eq,ByteArray.toList_eq] at h
 exact ByteArray.ext (Array.toList_inj.1 h)
theorem S8 {a b:ByteArray}:(a.toList == b.toList) = true ↔ a = b:=by
 rw [beq_iff_eq]; exact ⟨toList_inj,fun h=>by rw [h]⟩
abbrev Rc:=ByteArray × Int × Int × ByteArray
def C3 (r:Rc):List Value:=[.string r.1,.int .u16 r.2.1,.int .u32 r.2.2.1,.string r.2.2.2]
theorem GK (r:Rc):(C3 r).length = 4:=rfl
theorem ML (r:Rc):(C3 r).all DH = true:=rfl
def RL (r:Rc):ByteArray × Int × ByteArray × Int:=(r.1,r.2.1,r.2.2.2,r.2.2.1)
def Sg (a b:Rc):Int:=Qa RG (Qa RH (Qa RG RH)) (RL a) (RL b)
end Go.Px
namespace Go.Proofs.YtidkiajflmngcaaGreatDoor
open Go.Px
set_option linter.unusedVariables false
abbrev vR (r:Rc):Value:=.agg #[.string r.1,.int .u16 r.2.1,.int .u32 r.2.2.1,.string r.2.2.2]
abbrev Below (xs:List Rc) (r:Rc) (k:Nat):Prop:=k <= xs.length /\ ∀ (i:Nat) (x:Rc),xs[i]? = some x -> (i < k ↔ Sg x r < 0)
abbrev BZ (v:Value) (xs:List Rc) (own:SH):Prop:=Aq 65 4 C3 v xs own
theorem LK {α:Type} {A B:List α} {o:Nat} (h:A.length = o):(A ++ B).take o = A:=by subst h; exact List.take_left
theorem Pf {α:Type} {A B:List α} {o:Nat} (h:A.length = o):(A ++ B).drop o = B:=by subst h; exact List.drop_left
theorem Ad.rec {S:SH} {b:Nat} {x:Rc} {K:SH -> Prop} (h:K ((b,.cells (C3 x).toArray 65 (0,0)) :: S)) :
  Ad ((b,.cells #[.string ⟨#[]⟩,.int .u16 0,.int .u32 0,.string ⟨#[]⟩] 65 (0,0)) :: S) ⟨b,0,none⟩ [.string x.1,.int .u16 x.2.1,.int .u32 x.2.2.1,.string x.2.2.2] K:=
 Ad.at0 (o:=0) (vs:=C3 x) (Nat.le_refl 4) rfl h
def d0:ByteArray:=⟨#[0]⟩
theorem Cd (s:ByteArray) (a b:Nat):(s.extract a b).size = min b s.size - a:=ByteArray.size_extract
abbrev Sl:=Option Addr × Nat × Nat
abbrev Ac:=Sl × Int × Int × Sl × ByteArray
structure Rw (I:A1) (S:SH) (x:Sl) (xs:List Int):Prop where
 row:Au I S x.1 xs.length 1 Pg xs
 len:x.2.1 = xs.length
 small:xs.length <= 9223372036854775807
 pos:∀ y ∈ xs,0 <= y
theorem Rw.keep {I J:A1} {S T:SH} {x:Sl} {xs:List Int} (hk:Ak I S J T) (h:Rw I S x xs):Rw J T x xs:=⟨h.row.keep hk,h.len,h.small,h.pos⟩
structure Sd (r:Rc):Prop where
 nm:r.1.size <= 254
 dt:r.2.2.2.size <= 600
 ty:0 <= r.2.1 /\ r.2.1 <= 99
structure PP (I:A1) (S:SH) (x:Ac):Prop where
 nm:∃ nm,Rw I S x.1 nm
 dt:∃ dt,Rw I S x.2.2.2.1 dt
 tx:x.2.2.2.2.size <= 9223372036854775807
theorem PP.keep {I J:A1} {S T:SH} {x:Ac} (hk:Ak I S J T) (h:PP I S x):PP J T x:=
 ⟨let ⟨nm,h⟩:=h.nm; ⟨nm,h.keep hk⟩,let ⟨nm,h⟩:=h.dt; ⟨nm,h.keep hk⟩,h.tx⟩
theorem at0 {s:ByteArray} (h:0 < s.size):∃ c:UInt8,s[0]? = some c:=⟨_,getElem?_pos s 0 h⟩
theorem GE {s:ByteArray} {k:Nat} (h:k < s.size):∃ c:UInt8,s[k]? = some c:=⟨_,getElem?_pos s k h⟩
theorem BH {s:ByteArray} {k:Nat} (h:s.size <= k):s[k]? = none:=getElem?_neg s k (by omega)
theorem F7 (c:UInt8):c.toNat < 256:=c.toNat_lt
theorem FC (c:UInt8):IntKind.wrap .i64 (c.toNat:Int) = (c.toNat:Int):=by have:=F7 c; exact A9 (by omega) (by omega)
theorem DK (c:UInt8):IntKind.wrap .i64 ((1:Int) + (c.toNat:Int)) = ((1 + c.toNat:Nat):Int):=by have:=F7 c; rw [A9 (by omega) (by omega)]; omega
def An:Nat -> ByteArray -> Option (List ByteArray)
 | 0,s=>if s.size = 0 then some [] else none
 | n + 1,s=>match s[0]? with
  | none=>some []
  | some c=>if c.toNat < 1 \/ c.toNat > 63 \/ s.size <= c.toNat then none else (An n (s.extract (1 + c.toNat) s.size)).map (s.extract 1 (1 + c.toNat) :: ·)
theorem Dt:∀ (n m:Nat) (s:ByteArray),s.size <= n -> s.size <= m -> An n s = An m s
 | 0,0,s,_,_=>rfl
 | 0,m + 1,s,h,_=>by
  have h0:s.size = 0:=by omega
  rw [An,if_pos h0,An,BH (by omega)]
 | n + 1,0,s,_,h=>by
  have h0:s.size = 0:=by omega
  show An (n + 1) s = An 0 s
  rw [show An 0 s = some [] from by rw [An,if_pos h0],An,BH (by omega)]
 | n + 1,m + 1,s,h,g=>by
  rw [An,An]
  cases hc:s[0]? with
  | none=>rfl
  | some c=>
   dsimp only
   split
   ·rfl
   ·rw [Dt n m _ (by rw [Cd]; omega) (by rw [Cd]; omega)]
def C7 (s:ByteArray):Option (List ByteArray):=if s.size > 254 \/ s.toList ≠ (Bb s).toList then none else An s.size s
theorem Gx (n:ByteArray) (I:A1) (S:SH):Runs Tryz.prog 114 #[.string n] I S fun v _ T=>
  ∃ own,((C7 n = none /\ v = .tuple #[.slice none 0 0,.bool false] /\ own = []) \/ ∃ ls p m c,C7 n = some ls /\ v = .tuple #[.slice p m c,.bool true] /\ Aq 9 1 Dp (.slice p m c) ls own) /\ Sub (own ++ S) T:=by
 refine QS _ _ _ _ ?_
 unfold Th JU Ga
 refine Ab (fun h=>A7 rfl ⟨[],.inl ⟨by rw [C7,if_pos (.inl (by omega))],rfl,rfl⟩,Sub.refl _⟩) (fun h=>?_)
 refine (Dr n (by omega) I S).mono ?_
 rintro v J T hle ⟨rfl,rfl⟩
 refine ⟨_,rfl,Bh (Ae (fun g=>?_) (fun g=>⟨[],.inl ⟨by rw [C7,if_pos (.inr (fun e=>by rw [e] at g; simp at g))],rfl,rfl⟩,Sub.refl _⟩))⟩
 have hlab:C7 n = An n.size n:=by
                       rw [C7,if_neg]; rintro (h' | h'); · omega
                       ·exact h' (eq_of_beq g)
 unfold JV
 refine ⟨fun m o on oc s J' T'=>J.le J' /\ ∃ (ls:List ByteArray) (own:SH),m = s.size /\ s.size + ls.length <= n.size /\ Aq 9 1 Dp (.slice o on oc) ls own /\ Sub (own ++ T) T' /\ C7 n = (An s.size s).map (ls ++ ·),n.size,
  ⟨A1.le.refl J,[],[],rfl,by simp,Aq.nil,Sub.refl _,by rw [hlab]; simp⟩,?_⟩
 rintro m o on oc s J' T' - ⟨hle',ls,own,rfl,hsl,ho,hs,hl⟩
 unfold Nw JW JX Ex JY JZ
 have bad:An s.size s = none -> ∃ own,((C7 n = none /\ Value.tuple #[.slice none 0 0,.bool false] = .tuple #[.slice none 0 0,.bool false] /\ own = []) \/ ∃ ls p m c,C7 n = some ls /\ Value.tuple #[.slice none 0 0,.bool false] = .tuple #[.slice p m c,.bool true] /\ Aq 9 1 Dp (.slice p m c) ls own) /\ Sub (own ++ T) T':=fun e=>
  ⟨[],.inl ⟨by rw [hl,e]; rfl,rfl,rfl⟩,hs.right⟩
 refine Ab (fun hpos=>?_) (fun hpos=>?_)
 ·obtain ⟨c,hc⟩:=at0 (s:=s) (by omega)
  obtain ⟨sz,hsz⟩:∃ k,s.size = k + 1:=⟨s.size - 1,by omega⟩
  have hsp:An s.size s = if c.toNat < 1 \/ c.toNat > 63 \/ s.size <= c.toNat then none else (An sz (s.extract (1 + c.toNat) s.size)).map (s.extract 1 (1 + c.toNat) :: ·):=by
   conv=>lhs; rw [hsz]
   rw [An,hc]
  refine ⟨c,by omega,hc,?_⟩
  rw [FC,DK]
  refine Ab (fun h1=>A7 rfl (bad (by rw [hsp,if_pos (.inl (by omega))]))) (fun h1=>Ab (fun h2=>A7 rfl (bad (by rw [hsp,if_pos (.inr (.inl (by omega)))]))) (fun h2=>Ab (fun h3=>bad (by rw [hsp,if_pos (.inr (.inr (by omega)))])) (fun h3=>?_)))
  rw [if_neg (by omega)] at hsp
  have e1:((1:Int)).toNat = 1:=rfl
  rw [e1,Int.toNat_natCast]
  refine ⟨by omega,by omega,by omega,by omega,fun b40=>?_⟩
  obtain ⟨G,hG⟩:=hs
  refine AA.own (xs:=ls) (ys:=[s.extract 1 (1 + c.toNat)]) (el:=Dp) (own:=own) (F:=(b40,.cells #[.string (s.extract 1 (1 + c.toNat))] 9 (0,0)) :: (T ++ G)) (fun _=>rfl) (fun _=>rfl) rfl ((hG.cons _).trans (by rw [List.append_assoc]; exact Bi)) ho ⟨?_,rfl⟩ ?_ ?_ ?_
  ·exact Rd.list (L:=Dp (s.extract 1 (1 + c.toNat))) rfl (by simp [Dp])
  ·simp only [List.length_singleton,maxLen]; omega
  ·simp only [List.length_singleton]; omega
  ·intro p m d own2 ho2
   have hes:(s.extract (1 + c.toNat) s.size).size = s.size - (1 + c.toNat):=by rw [Cd]; omega
   refine ⟨by omega,by omega,s.size - (1 + c.toNat),by omega,hle',ls ++ [s.extract 1 (1 + c.toNat)],own2,hes.symm,?_,ho2,?_,?_⟩
   ·rw [hes,List.length_append,List.length_singleton]; omega
   ·exact ⟨(b40,_) :: G,by rw [List.append_assoc]; exact List.Perm.append_left own2 Bi⟩
   ·rw [hl,hsp,Dt sz (s.extract (1 + c.toNat) s.size).size _ (by omega) (Nat.le_refl _)]
    cases An (s.extract (1 + c.toNat) s.size).size (s.extract (1 + c.toNat) s.size) <;> simp
 ·have h0:s.size = 0:=by omega
  refine ⟨own,.inr ⟨ls,o,on,oc,?_,rfl,ho⟩,hs⟩
  rw [hl,h0,An,if_pos h0]; simp
theorem CM (n:ByteArray) (I:A1) (S:SH):Runs Tryz.prog 86 #[.string n] I S fun v _ T=>v = .bool (C7 n).isSome /\ T = S:=by
 refine Runs.drop (Rf _ _ _ _ ?_)
 unfold TF
 refine (Gx n I S).mono ?_
 rintro v J T hle ⟨own,(⟨h,rfl,rfl⟩ | ⟨ls,p,m,c,h,rfl,ho⟩),hs⟩
 ·exact ⟨_,_,_,_,rfl,S,hs.right,by rw [h]; rfl,rfl⟩
 ·exact ⟨_,_,_,_,rfl,S,hs.right,by rw [h]; rfl,rfl⟩
def Rn:Nat -> ByteArray -> Nat -> ByteArray × ByteArray × Bool
 | 0,_,_=>(⟨#[]⟩,⟨#[]⟩,false)
 | f + 1,s,p=>match s[p]? with
  | none=>(⟨#[]⟩,⟨#[]⟩,false)
  | some c=>if c.toNat = 0 then (if (C7 (s.extract 0 p)).isSome then (s.extract 0 p,s.extract (p + 1) s.size,true) else (⟨#[]⟩,⟨#[]⟩,false)) else Rn f s (p + (1 + c.toNat))
def CQ (s:ByteArray):ByteArray × ByteArray × Bool:=Rn (s.size + 1) s 0
theorem Gt (s:ByteArray) (hs:s.size <= 4611686018427387904) (I:A1) (S:SH):Runs Tryz.prog 84 #[.string s] I S fun v _ T=>v = .tuple #[.string (CQ s).1,.string (CQ s).2.1,.bool (CQ s).2.2] /\ T = S:=by
 refine R8 _ _ _ _ ?_
 unfold TA KP KQ
 refine ⟨fun m s' i J T=>s' = s /\ T = S /\ ∃ p:Nat,i = (p:Int) /\ 1 <= m /\ (p < s.size -> s.size + 1 <= m + p) /\ p <= s.size + 300 /\ CQ s = Rn m s p,s.size + 1,⟨rfl,rfl,0,rfl,by omega,fun _=>by omega,by omega,rfl⟩,?_⟩
 rintro m s' i J T - ⟨rfl,rfl,p,rfl,hm,hmp,hp,hg⟩
 unfold NK KR KS KT KU KV KW
 obtain ⟨f,rfl⟩:∃ f,m = f + 1:=⟨m - 1,by omega⟩
 rw [Rn] at hg
 refine Ab (fun h=>?_) (fun h=>⟨?_,rfl⟩)
 ·have hlt:p < s'.size:=by omega
  obtain ⟨c,hc⟩:=GE hlt
  have hmp:=hmp hlt
  rw [hc] at hg
  dsimp only at hg
  refine ⟨c,by omega,by rw [Int.toNat_natCast]; exact hc,Ax (fun h0=>?_) (fun h0=>?_)⟩
  ·rw [if_pos (by omega)] at hg
   rw [Int.toNat_natCast]
   refine ⟨by omega,by omega,(CM _ J T).mono ?_⟩
   rintro v J' T' hle ⟨rfl,rfl⟩
   refine ⟨_,rfl,Bh (Ae (fun g=>?_) (fun g=>⟨?_,rfl⟩))⟩
   ·rw [if_pos g] at hg
    have:IntKind.wrap .i64 ((p:Int) + 1) = ((p + 1:Nat):Int):=by rw [A9 (by omega) (by omega)]; rfl
    rw [this,Int.toNat_natCast]
    exact ⟨by omega,by omega,by rw [hg],rfl⟩
   ·rw [hg,g]; rfl
  ·rw [if_neg (by omega)] at hg
   have hcl:=F7 c
   refine ⟨c,by omega,by rw [Int.toNat_natCast]; exact hc,?_⟩
   rw [FC,DK]
   refine ⟨f,by omega,rfl,rfl,p + (1 + c.toNat),?_,by omega,fun _=>by omega,by omega,hg⟩
   rw [A9 (by omega) (by omega)]; omega
 ·rw [BH (by omega)] at hg
  rw [hg]
def H9 (d:ByteArray):Bool:=(CQ d).2.2 && ((CQ (CQ d).2.1).2.2 && (CQ (CQ d).2.1).2.1.size == 20)
theorem GU:∀ (f:Nat) (s:ByteArray) (p:Nat),(Rn f s p).2.1.size <= s.size
 | 0,s,p=>Nat.zero_le _
 | f + 1,s,p=>by
  rw [Rn]
  split
  ·exact Nat.zero_le _
  ·split
   ·split
    ·dsimp only; rw [Cd]; omega
    ·exact Nat.zero_le _
   ·exact GU f s _
theorem N3 (d:ByteArray) (hs:d.size <= 4611686018427387904) (I:A1) (S:SH):Runs Tryz.prog 150 #[.string d] I S fun v _ T=>(∃ a b l,v = .tuple #[.string a,.string b,.string l,.bool (H9 d)]) /\ T = S:=by
 refine Ra _ _ _ _ ?_
 unfold TC L4 EE L5
 refine (Gt d hs I S).mono ?_
 rintro v J T hle ⟨rfl,rfl⟩
 refine ⟨_,_,_,rfl,(Gt (CQ d).2.1 (Nat.le_trans (GU _ _ _) hs) J T).mono ?_⟩
 rintro v J' T' hle' ⟨rfl,rfl⟩
 have fin:∀ (x y z:ByteArray) (b:Bool),H9 d = b -> (∃ a b' l,Value.tuple #[.string x,.string y,.string z,.bool b] = .tuple #[.string a,.string b',.string l,.bool (H9 d)]):=fun x y z b h=>⟨x,y,z,by rw [h]⟩
 refine ⟨_,_,_,rfl,Bh (Ae (fun h1=>Bh (Ae (fun h2=>LV (fun h3=>⟨fin _ _ _ _ ?_,rfl⟩) (fun h3=>⟨fin _ _ _ _ ?_,rfl⟩)) (fun h2=>A7 rfl ⟨fin _ _ _ _ ?_,rfl⟩))) (fun h1=>A7 rfl ⟨fin _ _ _ _ ?_,rfl⟩))⟩
 ·have:((CQ (CQ d).2.1).2.1.size == 20) = false:=by rw [beq_eq_false_iff_ne]; omega
  rw [H9,h1,h2,this]; rfl
 ·have:((CQ (CQ d).2.1).2.1.size == 20) = true:=by rw [beq_iff_eq]; omega
  rw [H9,h1,h2,this]; rfl
 ·rw [H9,h1,h2]; rfl
 ·rw [H9,h1]; rfl
def S7:Nat -> ByteArray -> Nat -> Bool
 | 0,_,_=>false
 | f + 1,d,p=>match d[p]? with
  | none=>decide (p = d.size /\ 0 < p)
  | some c=>S7 f d (p + (1 + c.toNat))
def HJ (d:ByteArray):Bool:=S7 (d.size + 1) d 0
theorem HK (d:ByteArray) (hs:d.size <= 4611686018427387904) (I:A1) (S:SH):Runs Tryz.prog 151 #[.string d] I S fun v _ T=>v = .bool (HJ d) /\ T = S:=by
 refine QV _ _ _ _ ?_
 unfold Tk K6
 refine ⟨fun m s' i J T=>s' = d /\ T = S /\ ∃ p:Nat,i = (p:Int) /\ 1 <= m /\ (p < d.size -> d.size + 1 <= m + p) /\ p <= d.size + 300 /\ HJ d = S7 m d p,d.size + 1,⟨rfl,rfl,0,rfl,by omega,fun _=>by omega,by omega,rfl⟩,?_⟩
 rintro m s' i J T - ⟨rfl,rfl,p,rfl,hm,hmp,hp,hg⟩
 unfold Nz K7 Gb K8
 obtain ⟨f,rfl⟩:∃ f,m = f + 1:=⟨m - 1,by omega⟩
 rw [S7] at hg
 refine Ab (fun h=>?_) (fun h=>?_)
 ·rw [BH (by omega)] at hg
  refine Ax (fun h1=>⟨?_,rfl⟩) (fun h1=>⟨?_,rfl⟩)
  ·rw [hg]; congr 1
   exact decide_eq_decide.2 ⟨fun _=>⟨by omega,by omega⟩,fun _=>by omega⟩
  ·rw [hg]
   exact congrArg Value.bool (decide_eq_false (by omega)).symm
 ·have hlt:p < s'.size:=by omega
  obtain ⟨c,hc⟩:=GE hlt
  have hmp:=hmp hlt
  rw [hc] at hg
  dsimp only at hg
  have hcl:=F7 c
  refine ⟨c,by omega,by rw [Int.toNat_natCast]; exact hc,?_⟩
  rw [FC,DK]
  refine ⟨f,by omega,rfl,rfl,p + (1 + c.toNat),?_,by omega,fun _=>by omega,by omega,hg⟩
  rw [A9 (by omega) (by omega)]; omega
def DB (t:Int) (d:ByteArray):Bool:=
 if t = 1 then decide (d.size = 4) else if t = 28 then decide (d.size = 16) else if t = 2 \/ t = 5 then (C7 d).isSome else if t = 6 then H9 d else if t = 16 then HJ d && decide (d.size <= 512) else decide (d.size <= 512)
theorem LR (t:Int) (d:ByteArray) (hs:d.size <= 4611686018427387904) (I:A1) (S:SH):Runs Tryz.prog 121 #[.int .u16 t,.string d] I S fun v _ T=>v = .bool (DB t d) /\ T = S:=by
 refine R9 _ _ _ _ _ ?_
 unfold TB KX KY KZ L0
 have dd:∀ {p q:Prop} [Decidable p] [Decidable q],(p ↔ q) -> (decide p = decide q):=fun h=>decide_eq_decide.2 h
 have bd:∀ (a:Int) (k:Nat),(((a:Int) == (k:Int)) = decide (a = (k:Int))):=fun a k=>by
  by_cases h:a = (k:Int)
  ·rw [h]; simp
  ·rw [decide_eq_false h]; exact beq_eq_false_iff_ne.2 h
 refine Ax (fun h1=>⟨?_,rfl⟩) (fun h1=>Ax (fun h2=>⟨?_,rfl⟩) (fun h2=>?_))
 ·rw [DB,if_pos h1]; congr 1; exact (bd _ 4).trans (dd ⟨fun h=>by omega,fun h=>by omega⟩)
 ·rw [DB,if_neg h1,if_pos h2]; congr 1; exact (bd _ 16).trans (dd ⟨fun h=>by omega,fun h=>by omega⟩)
 ·have main:∀ b:Bool,(b = true ↔ (t = 2 \/ t = 5)) -> ED (fun v _ T=>v = .bool (DB t d) /\ T = S) d t b I S:=by
   intro b hb
   unfold ED L1 L2 Gq L3
   refine Ae (fun h=>(CM d I S).mono ?_) (fun h=>?_)
   ·rintro v J T hle ⟨rfl,rfl⟩
    refine ⟨_,rfl,?_,rfl⟩
    rw [DB,if_neg h1,if_neg h2,if_pos (hb.1 h)]
   ·have hn : ¬ (t = 2 \/ t = 5):=fun h'=>by rw [hb.2 h'] at h; cases h
    refine Ax (fun h6=>(N3 d hs I S).mono ?_) (fun h6=>Ax (fun h16=>(HK d hs I S).mono ?_) (fun h16=>⟨?_,rfl⟩))
    ·rintro v J T hle ⟨⟨a,b',l,rfl⟩,rfl⟩
     refine ⟨_,_,_,_,rfl,?_,rfl⟩
     rw [DB,if_neg h1,if_neg h2,if_neg hn,if_pos h6]
    ·rintro v J T hle ⟨rfl,rfl⟩
     refine ⟨_,rfl,Ae (fun g=>⟨?_,rfl⟩) (fun g=>⟨?_,rfl⟩)⟩
     ·rw [DB,if_neg h1,if_neg h2,if_neg hn,if_neg h6,if_pos h16,g,Bool.true_and]
      exact congrArg Value.bool (dd ⟨fun h=>by omega,fun h=>by omega⟩)
     ·rw [DB,if_neg h1,if_neg h2,if_neg hn,if_neg h6,if_pos h16,g]; rfl
    ·rw [DB,if_neg h1,if_neg h2,if_neg hn,if_neg h6,if_neg h16]
     exact congrArg Value.bool (dd ⟨fun h=>by omega,fun h=>by omega⟩)
  refine Ax (fun h=>main _ ⟨fun _=>.inl h,fun _=>by rw [h]; rfl⟩) (fun h=>main _ ⟨fun g=>.inr (eq_of_beq g),fun g=>?_⟩)
  rcases g with g | g
  ·exact absurd g h
  ·rw [g]; rfl
end Go.Proofs.YtidkiajflmngcaaGreatDoor
