/- Part 1 of the proof of EngineScript. -/
import Derived.Calls
import Derived.Tactics
import Derived.Deep.Quiet
import Derived.Deep.LoopGhost
import Derived.ScopeJumps
import Derived.KernelRfl
import Derived.Maps.AppendAt
import Derived.Deep.AppendSrc
import Derived.Lib.ConvBytes
import Derived.Laws.MakeOwn
import Derived.Orders
import Derived.Test.YtoiilcdaldnjfaaGreatDoorProg
namespace Go.Px
set_option linter.unusedVariables false
abbrev Fr:=Nat -> Value
def upd (l:Fr) (d:Nat) (v:Value):Fr:=fun i=>bif Nat.beq i d then v else l i
theorem beq_ne {i d:Nat} (h:i ≠ d):Nat.beq i d = false:=by
 cases hb:Nat.beq i d
 ·rfl
 ·exact absurd (Nat.eq_of_beq_eq_true hb) h
theorem PH {l:Fr} {d:Nat} {v:Value} (h:l d = v):l = upd l d v:=by
 funext i
 simp only [upd]
 cases hb:Nat.beq i d
 ·rfl
 ·have:=Nat.eq_of_beq_eq_true hb; subst this; exact h
theorem upd_at (l:Fr) (d:Nat) (v:Value) (i:Nat):upd l d v i = if i = d then v else l i:=by
 simp only [upd]
 by_cases h:i = d
 ·subst h; simp
 ·rw [if_neg h,beq_ne h]; rfl
def ev (l:Fr):Operand -> Value
 | .tmp t=>l t
 | .const v=>v
 | .global g=>.pointer (some ⟨g,0,none⟩)
 | .func f=>.func (.func f) #[] #[]
structure Bg (n:Nat) (l:Fr) (a:Act):Prop where
 size:a.tmps.size = n
 defers:a.defers = []
 at_:∀ i,a.tmps.getD i undef = l i
theorem Bg.eval {n:Nat} {l:Fr} {a:Act} (h:Bg n l a):a.eval = ev l:=by
 funext x
 cases x <;> simp [Act.eval,ev,h.at_]
theorem Bg.put {n:Nat} {l:Fr} {a:Act} (h:Bg n l a) {d:Nat} (hd:d < n) (v:Value):Bg n (upd l d v) (a.put (some d) v):=by
 refine ⟨by simp [Act.put,h.size],by simp [Act.put,h.defers],fun i=>?_⟩
 rw [upd_at]
 have:=h.at_ i
 have hs:=h.size
 simp only [Act.put]
 by_cases hi:i = d
 ·subst hi
  rw [if_pos rfl]
  simp [Array.getD,hs,hd]
 ·rw [if_neg hi,<- this]
  simp only [Array.getD,Array.size_setIfInBounds]
  split
  ·rename_i hlt
   rw [Array.getInternal_eq_getElem,Array.getInternal_eq_getElem,Array.getElem_setIfInBounds]
   rw [if_neg (fun e=>hi e.symm)]
  ·rfl
structure A0 where
 at_:Nat -> Option Obj
 os:Os
 tape:Nat -> Question -> Nat
 out:Array (Nat × ByteArray)
 dr:Nat
structure A0.le (I J:A0):Prop where
 at_:∀ b o,I.at_ b = some o -> J.at_ b = some o
 os:J.os = I.os
 tape:J.tape = I.tape
 out:J.out = I.out
 dr:J.dr = I.dr
theorem A0.le.refl (I:A0):I.le I:=⟨fun _ _ h=>h,rfl,rfl,rfl,rfl⟩
theorem A0.le.trans {I J K:A0} (h:I.le J) (g:J.le K):I.le K:=⟨fun b o e=>g.at_ b o (h.at_ b o e),g.os.trans h.os,g.tape.trans h.tape,g.out.trans h.out,g.dr.trans h.dr⟩
abbrev SH:=List (Nat × Obj)
structure AT (I:A0) (S:SH) (w:World):Prop where
 os:w.os = I.os
 tape:w.tape = I.tape
 out:w.output = I.out
 dr:I.dr <= w.drawn
 im:∀ b o,I.at_ b = some o -> w.heap[b]? = some o
 own:∀ p ∈ S,w.heap[p.1]? = some p.2
 apart:∀ p ∈ S,I.at_ p.1 = none
 nodup:(S.map (·.1)).Nodup
theorem AT.drew {I:A0} {S:SH} {w:World} (h:AT I S w):AT I S { w with drawn:=w.drawn + 1 }:=⟨h.os,h.tape,h.out,Nat.le_succ_of_le h.dr,h.im,h.own,h.apart,h.nodup⟩
theorem AT.new {I:A0} {S:SH} {w:World} (h:AT I S w) (o:Obj):AT I ((w.heap.size,o) :: S) { w with heap:=w.heap.push o }:=by
 have hlt:∀ b o',w.heap[b]? = some o' -> b ≠ w.heap.size /\ (w.heap.push o)[b]? = some o':=by
  intro b o' hb
  have:b < w.heap.size:=by
   rcases Nat.lt_or_ge b w.heap.size with h | h
   ·exact h
   ·rw [Array.getElem?_eq_none h] at hb; cases hb
  exact ⟨by omega,by rw [Array.getElem?_push,if_neg (by omega)]; exact hb⟩
 refine ⟨h.os,h.tape,h.out,h.dr,fun b o' hb=>(hlt b o' (h.im b o' hb)).2,fun p hp=>?_,fun p hp=>?_,?_⟩
 ·rcases List.mem_cons.1 hp with rfl | hp
  ·simp
  ·exact (hlt _ _ (h.own p hp)).2
 ·rcases List.mem_cons.1 hp with rfl | hp
  ·cases hn:I.at_ w.heap.size with
   | none=>rfl
   | some o'=>exact absurd rfl (hlt _ _ (h.im _ _ hn)).1
  ·exact h.apart p hp
 ·simp only [List.map_cons,List.nodup_cons]
  refine ⟨fun hm=>?_,h.nodup⟩
  obtain ⟨p,hp,he⟩:=List.mem_map.1 hm
  exact (hlt _ _ (h.own p hp)).1 he
theorem AT.perm {I:A0} {S T:SH} {w:World} (h:AT I S w) (hp:S.Perm T):AT I T w:=
 ⟨h.os,h.tape,h.out,h.dr,h.im,fun p hm=>h.own p (hp.mem_iff.2 hm),fun p hm=>h.apart p (hp.mem_iff.2 hm),(hp.map _).nodup_iff.1 h.nodup⟩
theorem AT.drop {I:A0} {S T:SH} {w:World} (h:AT I (S ++ T) w):AT I T w:=
 ⟨h.os,h.tape,h.out,h.dr,h.im,fun p hm=>h.own p (List.mem_append_right _ hm),fun p hm=>h.apart p (List.mem_append_right _ hm),by
  have:=h.nodup; rw [List.map_append] at this; exact (List.nodup_append.1 this).2.1⟩
def A0.add (I:A0) (b:Nat) (o:Obj):A0:={ I with at_:=fun i=>if i = b then some o else I.at_ i }
def Runs (P:Program) (f:FuncId) (args:Array Value) (I:A0) (S:SH) (R:Value -> A0 -> SH -> Prop):Prop:=
 ∀ w,AT I S w -> Calls P f args w (fun e w'=>∃ v J T,e = .returned v /\ I.le J /\ AT J T w' /\ R v J T)
theorem Runs.mono {P:Program} {f:FuncId} {args:Array Value} {I:A0} {S:SH} {R R':Value -> A0 -> SH -> Prop} (h:Runs P f args I S R)
  (hr:∀ v J T,I.le J -> R v J T -> R' v J T):Runs P f args I S R':=
 fun w hw=>(h w hw).mono fun _ _ ⟨v,J,T,he,hl,hs,hR⟩=>⟨v,J,T,he,hl,hs,hr v J T hl hR⟩
theorem Runs.perm {P:Program} {f:FuncId} {args:Array Value} {I:A0} {S S':SH} {R:Value -> A0 -> SH -> Prop} (hp:S.Perm S') (h:Runs P f args I S' R):Runs P f args I S R:=
 fun w hw=>h w (hw.perm hp)
def WP (P:Program) (n:Nat) (c:Code) (Q:Exit -> Fr -> A0 -> SH -> Prop) (l:Fr) (I:A0) (S:SH):Prop:=
 ∀ w a,AT I S w -> Bg n l a -> c.wp P (fun e a' w'=>∃ l' J T,Bg n l' a' /\ I.le J /\ AT J T w' /\ Q e l' J T) a w
section
variable {P:Program} {n:Nat} {Q Q':Exit -> Fr -> A0 -> SH -> Prop} {l:Fr} {I:A0} {S:SH}
theorem WP.mono {c:Code} (h:WP P n c Q l I S) (hq:∀ e l' J T,I.le J -> Q e l' J T -> Q' e l' J T):WP P n c Q' l I S:=
 fun w a hw ha=>wp_mono (h w a hw ha) fun _ _ _ ⟨l',J,T,h1,h2,h3,h4⟩=>⟨l',J,T,h1,h2,h3,hq _ _ _ _ h2 h4⟩
def Jm (K:Fr -> A0 -> SH -> Prop) (Q:Exit -> Fr -> A0 -> SH -> Prop):Exit -> Fr -> A0 -> SH -> Prop
 | .normal=>K
 | e=>Q e
theorem WP.seq {x y:Code} (h:WP P n x (Jm (fun l J T=>WP P n y Q l J T) Q) l I S):WP P n (.seq x y) Q l I S:=by
 intro w a hw ha
 refine wp_seq (wp_mono (h w a hw ha) ?_)
 rintro e a' w' ⟨l',J,T,h1,h2,h3,h4⟩
 cases e with
 | normal=>exact wp_mono (h4 w' a' h3 h1) fun _ _ _ ⟨l'',J',T',g1,g2,g3,g4⟩=>⟨l'',J',T',g1,h2.trans g2,g3,g4⟩
 | _=>exact ⟨l',J,T,h1,h2,h3,h4⟩
def KQ (id:Nat) (Q:Exit -> Fr -> A0 -> SH -> Prop):Exit -> Fr -> A0 -> SH -> Prop
 | .exit id'=>match Nat.beq id' id with
  | true=>Q .normal
  | false=>Q (.exit id')
 | e=>Q e
theorem WP.block {id:Nat} {c:Code} (h:WP P n c (KQ id Q) l I S):WP P n (.block id c) Q l I S:=by
 intro w a hw ha
 refine wp_block (wp_mono (h w a hw ha) ?_)
 rintro e a' w' ⟨l',J,T,h1,h2,h3,h4⟩
 cases e with
 | exit id'=>
  simp only [KQ] at h4
  simp only [Exit.inBlock]
  split
  ·rename_i e; subst e; rw [show Nat.beq id' id' = true by simp] at h4; exact ⟨l',J,T,h1,h2,h3,h4⟩
  ·rename_i e; rw [beq_ne e] at h4; exact ⟨l',J,T,h1,h2,h3,h4⟩
 | _=>exact ⟨l',J,T,h1,h2,h3,h4⟩
theorem WP.loop {c:Code} (Inv:Nat -> Fr -> A0 -> SH -> Prop) (m:Nat) (h0:Inv m l I S)
  (round:∀ m l J T,I.le J -> Inv m l J T -> WP P n c (Jm (fun l' J' T'=>∃ m',m' < m /\ Inv m' l' J' T') Q) l J T):WP P n (.loop c) Q l I S:=by
 intro w a hw ha
 refine wp_loop_ghost (fun m a w=>∃ l J T,Bg n l a /\ I.le J /\ AT J T w /\ Inv m l J T) m ⟨l,I,S,ha,A0.le.refl I,hw,h0⟩ ?_
 rintro m a w ⟨l,J,T,h1,h2,h3,h4⟩
 refine wp_mono (round m l J T h2 h4 w a h3 h1) ?_
 rintro e a' w' ⟨l',J',T',g1,g2,g3,g4⟩
 cases e with
 | normal=>
  obtain ⟨m',hlt,hI⟩:=g4
  exact ⟨m',hlt,l',J',T',g1,h2.trans g2,g3,hI⟩
 | _=>exact ⟨l',J',T',g1,h2.trans g2,g3,g4⟩
def ZQ (t:Nat) (K:Fr -> A0 -> SH -> Prop) (Q:Exit -> Fr -> A0 -> SH -> Prop):Exit -> Fr -> A0 -> SH -> Prop
 | .goto t'=>fun l J T=>t' = t /\ K l J T
 | e=>Q e
theorem WP.scope {c rest:Code} (t:Nat) (hf:findLabel c t = some rest) (Inv:Nat -> Fr -> A0 -> SH -> Prop)
  (first:WP P n c (ZQ t (fun l J T=>∃ m,Inv m l J T) Q) l I S)
  (round:∀ m l J T,I.le J -> Inv m l J T -> WP P n rest (ZQ t (fun l' J' T'=>∃ m',m' < m /\ Inv m' l' J' T') Q) l J T):WP P n (.scope c) Q l I S:=by
 intro w a hw ha
 let G:Nat -> Act -> World -> Prop:=fun m a w=>∃ l J T,Bg n l a /\ I.le J /\ AT J T w /\ Inv m l J T
 refine wp_scope_jumps t (fun a w=>∃ m,G m a w) (fun a w=>leastOf (fun m=>G m a w)) hf ?_ ?_
 ·refine wp_mono (first w a hw ha) ?_
  rintro e a' w' ⟨l',J',T',g1,g2,g3,g4⟩
  cases e with
  | goto t'=>
   obtain ⟨ht,m,hI⟩:=g4
   exact ⟨ht,m,l',J',T',g1,g2,g3,hI⟩
  | _=>exact ⟨l',J',T',g1,g2,g3,g4⟩
 ·rintro a w hG
  have hs:=(leastOf_spec (p:=fun m=>G m a w) hG)
  obtain ⟨l,J,T,h1,h2,h3,h4⟩:=hs.1
  refine wp_mono (round _ l J T h2 h4 w a h3 h1) ?_
  rintro e a' w' ⟨l',J',T',g1,g2,g3,g4⟩
  cases e with
  | goto t'=>
   obtain ⟨ht,m',hlt,hI⟩:=g4
   have hG':G m' a' w':=⟨l',J',T',g1,h2.trans g2,g3,hI⟩
   exact ⟨ht,⟨m',hG'⟩,Nat.lt_of_le_of_lt ((leastOf_spec (p:=fun m=>G m a' w') ⟨m',hG'⟩).2 m' hG') hlt⟩
  | _=>exact ⟨l',J',T',g1,h2.trans g2,g3,g4⟩
end
set_option linter.unusedSimpArgs false
def A2 (t:Bool) (A B:Prop):Prop:=match t with
 | true=>A
 | false=>B
theorem A9 {t:Bool} {A B:Prop} (h1:t = true -> A) (h2:t = false -> B):A2 t A B:=by cases t <;> simp_all [A2]
theorem Aa {t:Bool} {A B:Prop} (h:t = true) (h1:A):A2 t A B:=by subst h; exact h1
theorem A7 {t:Bool} {A B:Prop} (h:t = false) (h1:B):A2 t A B:=by subst h; exact h1
theorem A3 {p:Prop} [Decidable p] {A B:Prop} (h1:p -> A) (h2 : ¬ p -> B):A2 (decide p) A B:=
 A9 (fun h=>h1 (of_decide_eq_true h)) (fun h=>h2 (of_decide_eq_false h))
theorem Af {α:Type} [BEq α] [LawfulBEq α] {x y:α} {A B:Prop} (h1:x = y -> A) (h2:x ≠ y -> B):A2 (x == y) A B:=
 A9 (fun h=>h1 (eq_of_beq h)) (fun h=>h2 (fun e=>by subst e; simp at h))
theorem Cr {α:Type} [BEq α] [LawfulBEq α] {x y:α} {A B:Prop} (h1:x ≠ y -> A) (h2:x = y -> B):A2 (x != y) A B:=
 A9 (fun h=>h1 (by simpa using h)) (fun h=>h2 (by simpa using h))
theorem Ag {t:Bool} {A B:Prop} (h:A2 t B A):A2 (!t) A B:=by cases t <;> exact h
def Ai (n:Nat) (d:Option Tmp) (v:Value) (K:Fr -> A0 -> SH -> Prop) (l:Fr) (I:A0) (S:SH):Prop:=match d with
 | none=>K l I S
 | some d=>match Nat.blt d n with
  | true=>K (upd l d v) I S
  | false=>False
def Be {α:Type} (P:Program):Sem α -> Option α
 | .pure a=>some a
 | .program k=>Be P (k P)
 | _=>none
theorem CP {α:Type} {P:Program} {w:World}:∀ {s:Sem α} {a:α},Be P s = some a -> s.run P w = .ok a w
 | .pure b,a,h=>by simp [Be] at h; subst h; rfl
 | .program k,a,h=>by simp only [Be] at h; simp only [Sem.run]; exact CP h
 | .load ..,_,h=>by simp [Be] at h
 | .store ..,_,h=>by simp [Be] at h
 | .new ..,_,h=>by simp [Be] at h
 | .shape ..,_,h=>by simp [Be] at h
 | .freeze ..,_,h=>by simp [Be] at h
 | .frozen ..,_,h=>by simp [Be] at h
 | .getObj ..,_,h=>by simp [Be] at h
 | .setObj ..,_,h=>by simp [Be] at h
 | .choose ..,_,h=>by simp [Be] at h
 | .sys ..,_,h=>by simp [Be] at h
 | .mark ..,_,h=>by simp [Be] at h
 | .halt ..,_,h=>by simp [Be] at h
inductive Sc where
 | bool | int (k:IntKind) | str | ptr | slice | map | flt | cpx | other
def scD:TypeDesc -> Sc
 | .bool=>.bool
 | .int k=>.int k
 | .string=>.str
 | .pointer _=>.ptr
 | .unsafePointer=>.ptr
 | .slice _=>.slice
 | .map ..=>.map
 | .float .f64=>.flt
 | .complex .f64=>.cpx
 | _=>.other
def exS:Sc -> (Value -> Prop) -> Prop
 | .bool,K=>∃ b,K (.bool b)
 | .int k,K=>∃ n,K (.int k n)
 | .str,K=>∃ s,K (.string s)
 | .ptr,K=>∃ p,K (.pointer p)
 | .slice,K=>∃ p n c,K (.slice p n c)
 | .map,K=>∃ r,K (.map r)
 | .flt,K=>∃ n,K (.float .f64 n)
 | .cpx,K=>∃ a b,K (.complex .f64 a b)
 | .other,K=>∃ v,K v
theorem Gj {s:Sc} {K:Value -> Prop} (h:exS s K):∃ v,K v:=by
 cases s <;> simp only [exS] at h
 case slice=>obtain ⟨p,n,c,h⟩:=h; exact ⟨_,h⟩
 case cpx=>obtain ⟨a,b,h⟩:=h; exact ⟨_,h⟩
 all_goals (obtain ⟨x,h⟩:=h; exact ⟨_,h⟩)
def Ti:List Sc -> (List Value -> Prop) -> Prop
 | [],K=>K []
 | s :: ss,K=>exS s fun v=>Ti ss fun vs=>K (v :: vs)
theorem Le:∀ {ss:List Sc} {K:List Value -> Prop},Ti ss K -> ∃ vs,K vs
 | [],_,h=>⟨[],h⟩
 | s :: ss,K,h=>by
  obtain ⟨v,h⟩:=Gj h
  obtain ⟨vs,h⟩:=Le h
  exact ⟨_,h⟩
def MW (P:Program):Nat -> TypeId -> List Sc
 | 0,_=>[]
 | d + 1,t=>match P.underlying t with
  | some (.struct fs)=>fs.toList.flatMap fun f=>MW P d f.type
  | some (.array n e)=>(List.replicate n (MW P d e)).flatten
  | some u=>[scD u]
  | none=>[]
def VL (P:Program) (t:TypeId) (K:Value -> Prop):Prop:=match P.underlying t with
 | some (.struct _)=>Ti (MW P 6 t) fun vs=>K (.agg vs.toArray)
 | some (.array _ _)=>Ti (MW P 6 t) fun vs=>K (.agg vs.toArray)
 | some d=>exS (scD d) K
 | none=>∃ v,K v
theorem DL {P:Program} {t:TypeId} {K:Value -> Prop} (h:VL P t K):∃ v,K v:=by
 unfold VL at h
 split at h
 ·obtain ⟨vs,h⟩:=Le h; exact ⟨_,h⟩
 ·obtain ⟨vs,h⟩:=Le h; exact ⟨_,h⟩
 ·exact Gj h
 ·exact h
def exTs (P:Program):List TypeId -> (List Value -> Prop) -> Prop
 | [],K=>K []
 | t :: ts,K=>VL P t fun v=>exTs P ts fun vs=>K (v :: vs)
theorem Ht {P:Program}:∀ {ts:List TypeId} {K:List Value -> Prop},exTs P ts K -> ∃ vs,K vs
 | [],_,h=>⟨[],h⟩
 | t :: ts,K,h=>by
  obtain ⟨v,h⟩:=DL h
  obtain ⟨vs,h⟩:=Ht h
  exact ⟨_,h⟩
def VC (P:Program) (t:TypeId) (v:Value) (K:Value -> Prop):Prop:=match P.underlying t with
 | some (.tuple ts)=>exTs P ts.toList fun vs=>v = .tuple vs.toArray /\ K (.tuple vs.toArray)
 | _=>VL P t fun u=>v = u /\ K u
theorem Nf {P:Program} {t:TypeId} {v:Value} {K:Value -> Prop} (h:VC P t v K):K v:=by
 unfold VC at h
 split at h
 ·obtain ⟨vs,hv,h⟩:=Ht h; rw [hv]; exact h
 ·obtain ⟨u,hv,h⟩:=DL h; rw [hv]; exact h
def A1 (I:A0) (S:SH) (a:Addr) (v:Value):Prop:=
 a.spot = none /\ ∃ cs e fz,(I.at_ a.block = some (.cells cs e fz) \/ (a.block,Obj.cells cs e fz) ∈ S) /\ cs[a.off]? = some v
theorem A1.run {I:A0} {S:SH} {a:Addr} {v:Value} {w:World} (h:A1 I S a v) (hw:AT I S w):w.cell? a = some v:=by
 obtain ⟨hs,cs,e,fz,hb,hv⟩:=h
 have:w.heap[a.block]? = some (.cells cs e fz):=by
  rcases hb with hb | hb
  ·exact hw.im _ _ hb
  ·exact hw.own _ hb
 simp [World.cell?,this,hs,hv]
def LdL (I:A0) (S:SH) (a:Addr):Nat -> List Sc -> (List Value -> Prop) -> Prop
 | _,[],K=>K []
 | i,s :: ss,K=>exS s fun v=>A1 I S (a.add i) v /\ LdL I S a (i + 1) ss fun vs=>K (v :: vs)
def LdP (P:Program) (t:TypeId) (I:A0) (S:SH) (a:Addr) (K:Value -> Prop):Prop:=match P.underlying t with
 | some (.struct _)=>(match Nat.beq (MW P 6 t).length (P.cellsOf t) with | true=>LdL I S a 0 (MW P 6 t) fun vs=>K (.agg vs.toArray) | false=>False)
 | some (.array _ _)=>(match Nat.beq (MW P 6 t).length (P.cellsOf t) with | true=>LdL I S a 0 (MW P 6 t) fun vs=>K (.agg vs.toArray) | false=>False)
 | some d=>exS (scD d) fun v=>A1 I S a v /\ K v
 | none=>False
theorem Tx {I:A0} {S:SH} {a:Addr}:∀ {ss:List Sc} {i:Nat} {K:List Value -> Prop},LdL I S a i ss K -> ∃ vs,vs.length = ss.length /\ (∀ j v,vs[j]? = some v -> A1 I S (a.add (i + j)) v) /\ K vs
 | [],i,K,h=>⟨[],rfl,fun j v h=>by simp at h,h⟩
 | s :: ss,i,K,h=>by
  obtain ⟨v,hc,h⟩:=Gj h
  obtain ⟨vs,hl,hcs,h⟩:=Tx h
  refine ⟨v :: vs,by simp [hl],fun j u hj=>?_,h⟩
  cases j with
  | zero=>simp at hj; subst hj; exact hc
  | succ j=>simp at hj; rw [show i + (j + 1) = i + 1 + j by omega]; exact hcs j u hj
theorem Dx {P:Program} {w:World} {a:Addr}:∀ (vs:List Value) (i:Nat) (acc:Array Value),(∀ j v,vs[j]? = some v -> w.cell? (a.add (i + j)) = some v) ->
  (loadCellsFrom a i vs.length acc).run P w = .ok (acc ++ vs.toArray) w
 | [],i,acc,h=>by simp [loadCellsFrom]
 | v :: vs,i,acc,h=>by
  have h0:=h 0 v rfl
  have ih:=Dx (P:=P) vs (i + 1) (acc.push v) (fun j u hj=>by rw [show i + 1 + j = i + (j + 1) by omega]; exact h (j + 1) u (by simpa using hj))
  simp only [Nat.add_zero] at h0
  simp [loadCellsFrom,load,Sem.run,h0,ih]
def aggB:TypeDesc -> Bool
 | .struct _=>true
 | .array _ _=>true
 | _=>false
theorem Fh {P:Program} {w:World} {t:TypeId} {d:TypeDesc} (h:P.underlying t = some d):(isAgg t).run P w = .ok (aggB d) w:=by
 have:(underlying t).run P w = .ok d w:=by simp [underlying,program,Sem.run,h]
 simp only [isAgg,Sem.run_bind,this,Result.andThen_ok]
 cases d <;> rfl
theorem B7 {P:Program} {t:TypeId} {d:TypeDesc} (h:P.underlying t = some d):∃ i,P.info? t = some i /\ P.cellsOf t = i.size:=by
 unfold Program.underlying at h
 cases hi:P.info? t with
 | none=>rw [hi] at h; cases h
 | some i=>exact ⟨i,rfl,by simp [Program.cellsOf,hi]⟩
theorem At {P:Program} {w:World} {t:TypeId} {i:TypeInfo} (h:P.info? t = some i):(sizeOf t).run P w = .ok i.size w:=by
 simp [sizeOf,typeInfo,program,Sem.run,h]
theorem LdP.run {P:Program} {t:TypeId} {I:A0} {S:SH} {a:Addr} {K:Value -> Prop} (h:LdP P t I S a K) :
  ∃ v,(∀ w,AT I S w -> (Instr.loadAt t (.pointer (some a))).run P w = .ok v w) /\ K v:=by
 have hload:∀ v w,w.cell? a = some v -> (load a).run P w = .ok v w:=fun v w hv=>by simp [load,Sem.run,hv]
 have big:∀ d,P.underlying t = some d -> aggB d = true -> (MW P 6 t).length = P.cellsOf t ->
   LdL I S a 0 (MW P 6 t) (fun vs=>K (.agg vs.toArray)) -> ∃ v,(∀ w,AT I S w -> (Instr.loadAt t (.pointer (some a))).run P w = .ok v w) /\ K v:=by
  intro d hd hag hlen hl
  obtain ⟨vs,hvl,hc,hK⟩:=Tx hl
  obtain ⟨i,hi,hsz⟩:=B7 hd
  refine ⟨.agg vs.toArray,fun w hw=>?_,hK⟩
  have hr:=Dx (P:=P) (w:=w) (a:=a) vs 0 #[] (fun j v hj=>(hc j v hj).run hw)
  simp only [Instr.loadAt,Instr.sureAddr,loadVar,Sem.run_bind,Sem.run_pure,Result.andThen_ok,Fh hd,hag,if_true,At hi,loadCells]
  rw [<- hsz,<- hlen,<- hvl,hr]
  simp
 unfold LdP at h
 split at h
 ·rename_i fs hd
  split at h
  ·rename_i hb; exact big _ hd rfl (Nat.eq_of_beq_eq_true hb) h
  ·exact h.elim
 ·rename_i n e hd
  split at h
  ·rename_i hb; exact big _ hd rfl (Nat.eq_of_beq_eq_true hb) h
  ·exact h.elim
 ·rename_i d h1 h2 hd
  obtain ⟨v,hc,hK⟩:=Gj h
  refine ⟨v,fun w hw=>?_,hK⟩
  have hag:aggB d = false:=by
   cases d <;> first | rfl | exact absurd rfl (h1 _) | exact absurd rfl (h2 _ _)
  simp only [Instr.loadAt,Instr.sureAddr,loadVar,Sem.run_bind,Sem.run_pure,Result.andThen_ok,Fh hd,hag,Bool.false_eq_true,if_false,hload v w (hc.run hw)]
 ·exact h.elim
def LdX (P:Program) (x:Operand) (t:TypeId) (I:A0) (S:SH) (a:Addr) (K:Value -> Prop):Prop:=match x with
 | .global _=>(match P.underlying t with
  | some (.interface _)=>∃ ti v,A1 I S a (.iface ti v) /\ K (.iface ti v)
  | _=>LdP P t I S a K)
 | _=>LdP P t I S a K
theorem LdX.ld {P:Program} {x:Operand} {t:TypeId} {I:A0} {S:SH} {a:Addr} {K:Value -> Prop} (h:LdX P x t I S a K):LdP P t I S a K:=by
 unfold LdX at h
 split at h
 ·split at h
  ·rename_i ms hu
   obtain ⟨ti,v,hc,hK⟩:=h
   unfold LdP
   rw [hu]
   exact ⟨_,hc,hK⟩
  ·exact h
 ·exact h
theorem LdX.run {P:Program} {x:Operand} {t:TypeId} {I:A0} {S:SH} {a:Addr} {K:Value -> Prop} (h:LdX P x t I S a K) :
  ∃ v,(∀ w,AT I S w -> (Instr.loadAt t (.pointer (some a))).run P w = .ok v w) /\ K v:=h.ld.run
def Er:Value -> Bool
 | .agg _ | .tuple _=>false
 | _=>true
def Br (cs:Array Value) (o:Nat):List Value -> Array Value
 | []=>cs
 | v :: vs=>Br (cs.setIfInBounds o v) (o + 1) vs
theorem HG:∀ (vs:List Value) (cs:Array Value) (o:Nat),(Br cs o vs).size = cs.size
 | [],_,_=>rfl
 | v :: vs,cs,o=>by simp [Br,HG vs]
def Ae (S:SH) (a:Addr) (vs:List Value) (K:SH -> Prop):Prop:=
 ∃ i cs e fz,a.spot = none /\ S[i]? = some (a.block,.cells cs e fz) /\ a.off + vs.length <= cs.size /\ (fz.2 <= fz.1 \/ a.off + vs.length <= fz.1 \/ fz.2 <= a.off) /\ vs.all Er = true /\
  K (S.set i (a.block,.cells (Br cs a.off vs) e fz))
theorem AT.set {I:A0} {S:SH} {w:World} (h:AT I S w) {i:Nat} {b:Nat} {o o':Obj} (hi:S[i]? = some (b,o)) {w':World} (hos:w'.os = w.os) (ht:w'.tape = w.tape) (hout:w'.output = w.output)
  (hb:w'.heap[b]? = some o') (hrest:∀ b',b' ≠ b -> w'.heap[b']? = w.heap[b']?) (hdr:w'.drawn = w.drawn):AT I (S.set i (b,o')) w':=by
 have hil:i < S.length:=by
  rcases Nat.lt_or_ge i S.length with h | h
  ·exact h
  ·rw [List.getElem?_eq_none h] at hi; cases hi
 have hSi:S[i] = (b,o):=by rw [List.getElem?_eq_getElem hil] at hi; injection hi
 have hmap:(S.set i (b,o')).map (·.1) = S.map (·.1):=by
  rw [List.map_set]
  have:(S.map (·.1))[i]? = some b:=by simp [hi]
  apply List.ext_getElem?
  intro j
  rw [List.getElem?_set]
  split
  ·rename_i e; subst e; simp [hil,hSi]
  ·rfl
 have hIb:I.at_ b = none:=h.apart (b,o) (hSi ▸ List.getElem_mem hil)
 refine ⟨hos.trans h.os,ht.trans h.tape,hout.trans h.out,by rw [hdr]; exact h.dr,fun b' o'' hb'=>?_,fun p hp=>?_,fun p hp=>?_,by rw [hmap]; exact h.nodup⟩
 ·rw [hrest b' (fun e=>by subst e; rw [hIb] at hb'; cases hb')]; exact h.im _ _ hb'
 ·obtain ⟨j,hj,hjp⟩:=List.mem_iff_getElem.1 hp
  simp only [List.length_set] at hj
  rw [List.getElem_set] at hjp
  split at hjp
  ·subst hjp; exact hb
  ·rename_i hne
   have hpm:p ∈ S:=hjp ▸ List.getElem_mem hj
   have:p.1 ≠ b:=by
    intro e
    have h1:(S.map (·.1))[j]'(by simpa using hj) = p.1:=by simp [hjp]
    have h2:(S.map (·.1))[i]'(by simpa using hil) = b:=by simp [hSi]
    exact hne ((List.getElem_inj h.nodup).1 (h2.trans (e.symm.trans h1.symm)))
   rw [hrest _ this]; exact h.own p hpm
 ·have:p.1 ∈ (S.set i (b,o')).map (·.1):=List.mem_map_of_mem hp
  rw [hmap] at this
  obtain ⟨q,hq,he⟩:=List.mem_map.1 this
  rw [<- he]; exact h.apart q hq
theorem D8 {P:Program} {b:Nat} {e:TypeId} {fz:Nat × Nat} {o:Nat}:∀ (vs:List Value) (i:Nat) (cs:Array Value) (w:World),w.heap[b]? = some (.cells cs e fz) -> o + i + vs.length <= cs.size ->
  (fz.2 <= fz.1 \/ o + i + vs.length <= fz.1 \/ fz.2 <= o + i) -> vs.all Er = true ->
  ∃ w',(storeCells ⟨b,o,none⟩ vs i).run P w = .ok () w' /\ w'.os = w.os /\ w'.tape = w.tape /\ w'.output = w.output /\ w'.heap[b]? = some (.cells (Br cs (o + i) vs) e fz) /\ (∀ b',b' ≠ b -> w'.heap[b']? = w.heap[b']?) /\ w'.drawn = w.drawn
 | [],i,cs,w,hb,_,_,_=>⟨w,by simp [storeCells],rfl,rfl,rfl,by simpa [Br] using hb,fun _ _=>rfl,rfl⟩
 | v :: vs,i,cs,w,hb,hlen,hfz,hone=>by
  simp only [List.length_cons] at hlen hfz
  simp only [List.all_cons,Bool.and_eq_true] at hone
  have ha:(⟨b,o,none⟩:Addr).add i = ⟨b,o + i,none⟩:=by
   unfold Addr.add; split
   ·rename_i h; subst h; rfl
   ·rfl
  have hc:w.cell? ⟨b,o + i,none⟩ = some (cs[o + i]'(by omega)):=by simp [World.cell?,hb]
  have hf:w.frozen? ⟨b,o + i,none⟩ = false:=by
   simp only [World.frozen?,hb,Bool.and_eq_false_iff,decide_eq_false_iff_not]; omega
  have hst:(store (⟨b,o + i,none⟩:Addr) v).run P w = .ok () (w.setCell ⟨b,o + i,none⟩ v):=by
   cases v <;> first | (simp [Er] at hone; done) | simp [store,Sem.run,hc,hf]
  have hlt:b < w.heap.size:=by
   rcases Nat.lt_or_ge b w.heap.size with h | h
   ·exact h
   ·rw [Array.getElem?_eq_none h] at hb; cases hb
  have hb':(w.setCell ⟨b,o + i,none⟩ v).heap[b]? = some (.cells (cs.setIfInBounds (o + i) v) e fz):=by
   simp only [World.setCell]
   rw [Array.getElem?_modify]
   simp [hb]
  have hr':∀ b',b' ≠ b -> (w.setCell ⟨b,o + i,none⟩ v).heap[b']? = w.heap[b']?:=by
   intro b' hne
   simp only [World.setCell]
   rw [Array.getElem?_modify,if_neg (fun e=>hne e.symm)]
  obtain ⟨w',h1,h2,h3,h4,h5,h6,h7⟩:=D8 (P:=P) (o:=o) vs (i + 1) (cs.setIfInBounds (o + i) v) (w.setCell ⟨b,o + i,none⟩ v) hb' (by simp; omega) (by omega) hone.2
  refine ⟨w',?_,h2,h3,h4,?_,fun b' hne=>(h6 b' hne).trans (hr' b' hne),h7⟩
  ·simp only [storeCells,ha,Sem.run_bind,hst,Result.andThen_ok,h1]
  ·rw [h5]; rfl
theorem Ae.run {P:Program} {t:TypeId} {d:TypeDesc} {I:A0} {S:SH} {a:Addr} {v:Value} {K:SH -> Prop} {w:World} (hd:P.underlying t = some d) (hsz:v.cells.size = P.cellsOf t)
  (h:Ae S a v.cells.toList K) (hw:AT I S w):∃ T w',(Instr.storeAt t (.pointer (some a)) v).run P w = .ok () w' /\ AT I T w' /\ K T:=by
 obtain ⟨i,cs,e,fz,hs,hi,hlen,hfz,hone,hK⟩:=h
 obtain ⟨b,o,sp⟩:=a
 dsimp only at hs; subst hs
 have hb:=hw.own (b,.cells cs e fz) (List.mem_of_getElem? hi)
 obtain ⟨w',h1,h2,h3,h4,h5,h6,h7⟩:=D8 (P:=P) (o:=o) v.cells.toList 0 cs w hb (by simpa using hlen) (by simpa using hfz) hone
 obtain ⟨inf,hinf,hcs⟩:=B7 hd
 refine ⟨_,w',?_,hw.set hi h2 h3 h4 h5 h6 h7,hK⟩
 simp only [Instr.storeAt,Instr.sureAddr,storeVar,Sem.run_bind,Sem.run_pure,Result.andThen_ok,At hinf]
 rw [if_neg (by rw [hsz,hcs]; simp)]
 simpa using h1
def Rd (I:A0) (S:SH) (sz:Nat) (x:Value) (m:Nat) (vs:List Value):Prop:=
 ∃ A c,x = .slice A m c /\ vs.length = m * sz /\ ∀ j u,vs[j]? = some u -> ∃ a,A = some a /\ A1 I S (a.add j) u
theorem Ux {v:Value} (h:Er v = true):v.oneCell' = true:=by cases v <;> first | rfl | simp [Er] at h
def Nu (P:Program) (fs:List Field):Array Value -> List (Nat × Value) -> Option (Array Value)
 | cs,[]=>some cs
 | cs,(i,v) :: r=>match fs[i]? with
  | none=>none
  | some f=>match Nat.beq v.cells.size (P.cellsOf f.type) && Nat.ble (f.offset + v.cells.size) cs.size with
   | true=>Nu P fs (Br cs f.offset v.cells.toList) r
   | false=>none
def Nt (sz:Nat):Array Value -> List (Nat × Value) -> Option (Array Value)
 | cs,[]=>some cs
 | cs,(i,v) :: r=>match Nat.beq v.cells.size sz && Nat.ble (i * sz + v.cells.size) cs.size with
  | true=>Nt sz (Br cs (i * sz) v.cells.toList) r
  | false=>none
def evs (l:Fr) (parts:Array (Nat × Operand)):List (Nat × Value):=parts.toList.map fun p=>(p.1,ev l p.2)
def AG (n:Nat) (z:List Value):List Value:=match n with
 | 0=>[]
 | n + 1=>z ++ AG n z
theorem Lh:∀ (vs:List Value) (k off:Nat) (cs:Array Value),(vs.zipIdx k).foldl (fun cs (p:Value × Nat)=>cs.setIfInBounds (off + p.2) p.1) cs = Br cs (off + k) vs
 | [],_,_,_=>rfl
 | v :: vs,k,off,cs=>by
  simp only [List.zipIdx_cons,List.foldl_cons,Br]
  rw [Lh vs (k + 1) off]; rfl
theorem Nv (v:Value) (off:Nat) (cs:Array Value):v.cells.zipIdx.foldl (fun cs (x:Value × Nat)=>match x with | (c,j)=>cs.setIfInBounds (off + j) c) cs = Br cs off v.cells.toList:=by
 rw [<- Array.foldl_toList]
 simp only [Array.toList_zipIdx]
 exact Lh _ 0 off cs
theorem U8 {P:Program} {fs:List Field} {place:Nat -> Option (Nat × Nat)} (hp:∀ i f,fs[i]? = some f -> place i = some (f.offset,P.cellsOf f.type)) :
  ∀ (parts:List (Nat × Value)) (cs out:Array Value),Nu P fs cs parts = some out -> Instr.fill place cs parts = some out
 | [],cs,out,h=>by simpa [Nu,Instr.fill] using h
 | (i,v) :: r,cs,out,h=>by
  simp only [Nu] at h
  split at h
  ·cases h
  ·rename_i f hf
   split at h
   ·rename_i hb
    simp only [Bool.and_eq_true] at hb
    have h1:=Nat.eq_of_beq_eq_true hb.1
    have h2:=Nat.le_of_ble_eq_true hb.2
    simp only [Instr.fill,hp i f hf]
    have hc:(v.cells.size ≠ P.cellsOf f.type || decide (f.offset + v.cells.size > cs.size)) = false:=by simp [h1]; omega
    rw [if_neg (by rw [hc]; simp)]
    rw [Nv]
    exact U8 hp r _ out h
   ·cases h
theorem U7 {sz:Nat}:∀ (parts:List (Nat × Value)) (cs out:Array Value),Nt sz cs parts = some out -> Instr.fill (fun i=>some (i * sz,sz)) cs parts = some out
 | [],cs,out,h=>by simpa [Nt,Instr.fill] using h
 | (i,v) :: r,cs,out,h=>by
  simp only [Nt] at h
  split at h
  ·rename_i hb
   simp only [Bool.and_eq_true] at hb
   have h1:=Nat.eq_of_beq_eq_true hb.1
   have h2:=Nat.le_of_ble_eq_true hb.2
   simp only [Instr.fill]
   have hc:(v.cells.size ≠ sz || decide (i * sz + v.cells.size > cs.size)) = false:=by simp [h1]; omega
   rw [if_neg (by rw [hc]; simp)]
   rw [Nv]
   exact U7 r _ out h
  ·cases h
theorem UC:∀ (n:Nat) (z:List Value) (i:Nat),i < n * z.length -> (AG n z)[i]? = some (z[i % z.length]!)
 | 0,z,i,h=>by simp at h
 | n + 1,z,i,h=>by
  rw [Nat.succ_mul] at h
  simp only [AG]
  have hz:0 < z.length:=by
   rcases Nat.eq_zero_or_pos z.length with e | e
   ·rw [e] at h; simp at h
   ·exact e
  rw [List.getElem?_append]
  split
  ·rename_i hlt; rw [Nat.mod_eq_of_lt hlt]; simp [hlt]
  ·rename_i hge
   rw [UC n z (i - z.length) (by omega)]
   rw [Nat.mod_eq_sub_mod (by omega:z.length <= i)]
theorem AW:∀ (n:Nat) (z:List Value),(AG n z).length = n * z.length
 | 0,z=>by simp [AG]
 | n + 1,z=>by rw [Nat.succ_mul]; simp only [AG,List.length_append,AW n z]; omega
theorem Pz (n:Nat) (z:Array Value):((Array.range (n * z.size)).map fun i=>z[i % z.size]!) = (AG n z.toList).toArray:=by
 apply Array.ext_getElem?
 intro i
 simp only [Array.getElem?_map,List.getElem?_toArray]
 rcases Nat.lt_or_ge i (n * z.size) with h | h
 ·have h0:0 < z.size:=by
   rcases Nat.eq_zero_or_pos z.size with e | e
   ·rw [e] at h; simp at h
   ·exact e
  have h1:=Nat.mod_lt i h0
  rw [UC n z.toList i (by simpa using h),Array.getElem?_range,if_pos h,Option.map_some]
  rw [getElem!_pos z _ h1,getElem!_pos z.toList _ (by simpa using h1)]
  simp
 ·rw [List.getElem?_eq_none (by rw [AW]; simpa using h)]
  simp [h]
def SrcP (td:Option TypeDesc) (sz:Nat) (z:List Value) (I:A0) (S:SH) (x:Value) (m:Nat) (vs:List Value):Prop:=match td with
 | some .string=>∃ s,x = .string s /\ m = s.size /\ vs = byteCells s /\ sz = 1
 | some (.int _)=>∃ k,x = .int k (m:Int) /\ vs = AG m z
 | some (.slice _)=>Rd I S sz x m vs /\ vs.all Er = true
 | _=>False
def Ay (e:TypeId) (sz bytes:Nat) (z:List Value) (td:Option TypeDesc) (I:A0) (S:SH) (s x:Value) (K:Option Addr -> Nat -> Nat -> SH -> Prop):Prop:=
 ∃ S' G S'' A n cap m xs vs,S.Perm S' /\ S'.Perm (G ++ S'') /\ s = .slice A n cap /\ SrcP td sz z I S x m vs /\ n + m <= maxLen /\ (n + m) * bytes <= 140737488355328 /\
  (n + m <= cap -> (vs = [] /\ K A (n + m) cap S') \/ ∃ a,A = some a /\ Ae S' (a.add (n * sz)) vs fun T=>K A (n + m) cap T) /\
  (cap < n + m -> Rd I S sz s n xs /\ ∀ g c,n + m <= c -> c <= maxLen -> K (some ⟨g,0,none⟩) (n + m) c ((g,.cells (xs ++ vs ++ AG (c - (n + m)) z).toArray e (0,0)) :: S''))
def Ct (sz:Nat) (I:A0) (S:SH) (d x:Value) (K:Nat -> SH -> Prop):Prop:=match d,x with
 | .slice A dl _,.slice B sl c=>∃ vs,Rd I S sz (.slice B (min sl dl) c) (min sl dl) vs /\ vs.all Er = true /\ ((vs = [] /\ K (min sl dl) S) \/ ∃ a,A = some a /\ Ae S a vs fun T=>K (min sl dl) T)
 | .slice A dl _,.string s=>(min s.size dl = 0 /\ K 0 S) \/ ∃ a,A = some a /\ Ae S a (byteCells (s.extract 0 (min s.size dl))) fun T=>K (min s.size dl) T
 | _,_=>False
theorem Gb {P:Program} {w w':World} {t tx ty e:TypeId} {i:TypeInfo} {A:Option Addr} {n cap m:Nat} {x:Value} {vs:List Value} (ht:P.underlying t = some (.slice e)) (hi:P.info? e = some i)
  (hs:Src P i.size tx x m vs w) (hroom:n + m <= cap) (hst:∀ a,A = some a -> (storeCells (a.add (n * i.size)) vs).run P w = .ok () w') (hno:A = none -> w' = w) :
  (Builtin.append_ #[t,tx] ty #[.slice A n cap,x]).run P w = .ok (.slice A (n + m) cap) w':=by
 rcases hs.kind with ⟨e',hk⟩ | hk
 all_goals
  cases A with
  | none=>rw [hno rfl]; simp [Builtin.append_,run_underlying ht,run_underlying hk,sizeOf,typeInfo,hi,hs.len,hroom,hs.cells]
  | some a=>
   have:=hst a rfl
   simp [Builtin.append_,run_underlying ht,run_underlying hk,sizeOf,typeInfo,hi,hs.len,hroom,hs.cells,this]
theorem BJ (z:Array Value) (m:Nat):Builtin.zeroCells z m = (AG m z.toList).toArray:=Pz m z
theorem BN (k:IntKind) (j:Int):asInt (.int k j) = pure j:=rfl
theorem wrap64 {x:Int} (h1 : -9223372036854775808 <= x) (h2:x <= 9223372036854775807):IntKind.wrap .i64 x = x:=by
 simp only [IntKind.wrap,IntKind.bits,IntKind.signed]; simp; omega
theorem P4 {P:Program} {w w':World} {t tx ty e:TypeId} {i:TypeInfo} {z:Value} {k k':IntKind} {A:Option Addr} {n cap m:Nat} (ht:P.underlying t = some (.slice e)) (hi:P.info? e = some i) (hz:i.zero = some z) (hzs:z.cells.size = i.size)
  (hk:P.underlying tx = some (.int k')) (h63:m <= 9223372036854775807) (hby:m * i.bytes <= 281474976710656) (hroom:n + m <= cap)
  (hst:∀ a,A = some a -> (storeCells (a.add (n * i.size)) (AG m z.cells.toList)).run P w = .ok () w') (hno:A = none -> w' = w) :
  (Builtin.append_ #[t,tx] ty #[.slice A n cap,.int k (m:Int)]).run P w = .ok (.slice A (n + m) cap) w':=by
 have hw:IntKind.wrap .i64 (m:Int) = (m:Int):=wrap64 (by omega) (by omega)
 have h1 : ¬ ((m:Int) < 0):=by omega
 have h2 : ¬ (281474976710656 < (m:Int) * (i.bytes:Int)):=by
  have:((m * i.bytes:Nat):Int) <= ((281474976710656:Nat):Int):=Int.ofNat_le.2 hby
  rw [Int.natCast_mul] at this; omega
 have hz0:m * i.size = 0 -> AG m z.cells.toList = []:=fun h=>List.eq_nil_of_length_eq_zero (by rw [AW]; simpa [hzs] using h)
 by_cases h0:m * i.size = 0
 ·have hn:=hz0 h0
  rw [hn] at hst
  have h0':(m = 0 \/ i.size = 0):=Nat.mul_eq_zero.1 h0
  cases A with
  | none=>rw [hno rfl]; simp [Builtin.append_,run_underlying ht,run_underlying hk,sizeOf,typeInfo,hi,BN,hw,h1,h2,hroom,h0',h0,zeroValue,hz]
  | some a=>
   have:=hst a rfl
   have hw':w' = w:=by simpa [storeCells] using this.symm
   subst hw'
   simp [Builtin.append_,run_underlying ht,run_underlying hk,sizeOf,typeInfo,hi,BN,hw,h1,h2,hroom,h0',h0,zeroValue,hz,storeCells]
 ·have h0' : ¬ (m = 0 \/ i.size = 0):=fun h=>h0 (Nat.mul_eq_zero.2 h)
  cases A with
  | none=>rw [hno rfl]; simp [Builtin.append_,run_underlying ht,run_underlying hk,sizeOf,typeInfo,hi,BN,hw,h1,h2,hroom,h0',h0,zeroValue,hz]
  | some a=>
   have:=hst a rfl
   simp [Builtin.append_,run_underlying ht,run_underlying hk,sizeOf,typeInfo,hi,BN,hw,h1,h2,hroom,h0',h0,zeroValue,hz,BJ,this]
theorem P3 {P:Program} {w:World} {t tx ty e:TypeId} {i:TypeInfo} {z:Value} {k k':IntKind} {A:Option Addr} {n cap m:Nat} {olds:List Value} (ht:P.underlying t = some (.slice e)) (hi:P.info? e = some i) (hz:i.zero = some z) (hzs:z.cells.size = i.size)
  (hk:P.underlying tx = some (.int k')) (hold:(Builtin.firstCells i.size n (.slice A n cap)).run P w.drew = .ok olds.toArray w.drew) (hg:cap < n + m) (h63:((n + m:Nat):Int) <= 9223372036854775807) (hby:m * i.bytes <= 281474976710656)
  (hfit:Builtin.nextslicecap (n + m) cap * i.bytes <= 281474976710656) :
  (Builtin.append_ #[t,tx] ty #[.slice A n cap,.int k (m:Int)]).run P w =
   .ok (.slice (some ⟨w.heap.size,0,none⟩) (n + m) (grownCap w (n + m) cap e)) (w.drew.alloc (.cells ((olds ++ AG m z.cells.toList).toArray ++ Builtin.zeroCells z.cells (grownCap w (n + m) cap e - (n + m))) e)):=by
 have hw:IntKind.wrap .i64 (m:Int) = (m:Int):=wrap64 (by omega) (by omega)
 have h1 : ¬ ((m:Int) < 0):=by omega
 have h2 : ¬ (281474976710656 < (m:Int) * (i.bytes:Int)):=by
  have:((m * i.bytes:Nat):Int) <= ((281474976710656:Nat):Int):=Int.ofNat_le.2 hby
  rw [Int.natCast_mul] at this; omega
 have hn : ¬ (n + m <= cap):=by omega
 have h63' : ¬ (9223372036854775807 < ((n:Int) + (m:Int))):=by omega
 have h48' : ¬ (281474976710656 < Builtin.nextslicecap (n + m) cap * i.bytes):=by omega
 have hz0:m * i.size = 0 -> AG m z.cells.toList = []:=fun h=>List.eq_nil_of_length_eq_zero (by rw [AW]; simpa [hzs] using h)
 by_cases h0:m * i.size = 0
 ·have hr:=hz0 h0
  rw [hr]
  have h0':(m = 0 \/ i.size = 0):=Nat.mul_eq_zero.1 h0
  (simp [Builtin.append_,run_underlying ht,run_underlying hk,sizeOf,typeInfo,zeroValue,hi,hz,BN,hw,h1,h2,hn,h63',h48',Question.forced,hold,newRow,grownCap,h0',h0,BJ])
 ·have h0' : ¬ (m = 0 \/ i.size = 0):=fun h=>h0 (Nat.mul_eq_zero.2 h)
  simp [Builtin.append_,run_underlying ht,run_underlying hk,sizeOf,typeInfo,zeroValue,hi,hz,BN,hw,h1,h2,hn,h63',h48',Question.forced,hold,newRow,grownCap,h0',h0,BJ]
theorem Rd.first {P:Program} {I:A0} {S:SH} {sz:Nat} {A:Option Addr} {n c:Nat} {xs:List Value} (h:Rd I S sz (.slice A n c) n xs) {w:World} (hw:AT I S w):(Builtin.firstCells sz n (.slice A n c)).run P w = .ok xs.toArray w:=by
 obtain ⟨A',c',he,hl,hrd⟩:=h
 injection he with h1 h2 h3; subst h1; subst h3
 cases A with
 | none=>
  have hm:xs = []:=by
   rcases Nat.eq_zero_or_pos xs.length with h0 | h0
   ·exact List.eq_nil_of_length_eq_zero h0
   ·obtain ⟨a,ha,_⟩:=hrd 0 xs[0] (List.getElem?_eq_getElem h0); cases ha
  subst hm; rfl
 | some a=>
  exact run_firstCells_some w sz n a n c xs hl fun j u hj=>by
   obtain ⟨a',ha,hc⟩:=hrd j u hj
   injection ha with ha; subst ha
   exact hc.run hw
theorem Rd.src {P:Program} {I:A0} {S:SH} {sz:Nat} {x:Value} {m:Nat} {vs:List Value} {tx e':TypeId} (hk:P.underlying tx = some (.slice e')) (h:Rd I S sz x m vs) (h1:vs.all Er = true) {w:World} (hw:AT I S w) (hp:0 < sz):Src P sz tx x m vs w:=by
 obtain ⟨A,c,rfl,hl,hrd⟩:=h
 cases A with
 | none=>
  have hm:vs = []:=by
   rcases Nat.eq_zero_or_pos vs.length with h0 | h0
   ·exact List.eq_nil_of_length_eq_zero h0
   ·obtain ⟨a,ha,_⟩:=hrd 0 vs[0] (List.getElem?_eq_getElem h0); cases ha
  subst hm
  have:m = 0:=by
   rcases Nat.mul_eq_zero.1 hl.symm with h | h
   ·exact h
   ·omega
  subst this
  exact Src.ofNil w hk c
 | some a=>
  exact Src.ofSlice w hk a m c vs hl (fun j u hj=>by
   obtain ⟨a',ha,hc⟩:=hrd j u hj
   injection ha with ha; subst ha
   exact hc.run hw) (fun u hu=>Ux (List.all_eq_true.1 h1 u hu))
theorem Ae.runC {P:Program} {I:A0} {S:SH} {a:Addr} {vs:List Value} {K:SH -> Prop} {w:World} (h:Ae S a vs K) (hw:AT I S w):∃ T w',(storeCells a vs).run P w = .ok () w' /\ AT I T w' /\ K T:=by
 obtain ⟨i,cs,e,fz,hs,hi,hlen,hfz,hone,hK⟩:=h
 obtain ⟨b,o,sp⟩:=a
 dsimp only at hs; subst hs
 have hb:=hw.own (b,.cells cs e fz) (List.mem_of_getElem? hi)
 obtain ⟨w',h1,h2,h3,h4,h5,h6,h7⟩:=D8 (P:=P) (o:=o) vs 0 cs w hb (by simpa using hlen) (by simpa using hfz) hone
 exact ⟨_,w',h1,hw.set hi h2 h3 h4 h5 h6 h7,hK⟩
theorem Ay.run {P:Program} {t tx ty e:TypeId} {i:TypeInfo} {z:Value} {I:A0} {S:SH} {s x:Value} {K:Option Addr -> Nat -> Nat -> SH -> Prop} {w:World} (ht:P.underlying t = some (.slice e)) (hi:P.info? e = some i)
  (hz:i.zero = some z) (hzs:z.cells.size = i.size) (hsz:0 < i.size) (h:Ay e i.size i.bytes z.cells.toList (P.underlying tx) I S s x K) (hw:AT I S w) :
  ∃ p n c w' T,(Builtin.append_ #[t,tx] ty #[s,x]).run P w = .ok (.slice p n c) w' /\ AT I T w' /\ K p n c T:=by
 obtain ⟨S',G,S'',A,n,cap,m,xs,vs,hp,hp2,rfl,hsrc,hmx,hby,hroom,hgrow⟩:=h
 have hw1:=hw.perm hp
 have hm63:n + m <= 9223372036854775807:=by simp only [maxLen] at hmx; omega
 have room:∀ (w':World),n + m <= cap -> (∀ a,A = some a -> (storeCells (a.add (n * i.size)) vs).run P w = .ok () w') -> (A = none -> w' = w) -> (Builtin.append_ #[t,tx] ty #[.slice A n cap,x]).run P w = .ok (.slice A (n + m) cap) w':=by
  intro w' hr hst hno
  unfold SrcP at hsrc
  split at hsrc
  ·rename_i hk
   obtain ⟨b,rfl,rfl,rfl,h1⟩:=hsrc
   exact Gb ht hi (by rw [h1]; exact Src.ofString w hk b) hr hst hno
  ·rename_i k' hk
   obtain ⟨k,rfl,rfl⟩:=hsrc
   refine P4 ht hi hz hzs hk (by omega) ?_ hr hst hno
   have:=Nat.mul_le_mul_right i.bytes (show m <= n + m by omega); omega
  ·rename_i e' hk
   exact Gb ht hi (hsrc.1.src hk hsrc.2 hw hsz) hr hst hno
  ·exact hsrc.elim
 by_cases hr:n + m <= cap
 ·rcases hroom hr with ⟨hv,hK⟩ | ⟨a,rfl,hst⟩
  ·subst hv
   exact ⟨_,_,_,w,S',room w hr (fun a _=>by simp [storeCells]) (fun _=>rfl),hw1,hK⟩
  ·obtain ⟨T,w',h1,h2,h3⟩:=hst.runC (P:=P) hw1
   exact ⟨_,_,_,w',T,room w' hr (fun a' ha=>by injection ha with ha; subst ha; exact h1) (fun h=>by cases h),h2,h3⟩
 ·obtain ⟨hold,hK⟩:=hgrow (by omega)
  have hfit:Builtin.nextslicecap (n + m) cap * i.bytes <= 281474976710656:=growslice_fits (by omega) hby
  have ho:=hold.first (P:=P) (w:=w.drew) hw.drew
  have hge:=grownCap_ge w (n + m) cap e
  have hcm:grownCap w (n + m) cap e <= maxLen:=grownCap_le_maxLen w (n + m) cap e hmx
  have hres:(Builtin.append_ #[t,tx] ty #[.slice A n cap,x]).run P w = .ok (.slice (some ⟨w.heap.size,0,none⟩) (n + m) (grownCap w (n + m) cap e)) (w.drew.alloc (.cells ((xs ++ vs).toArray ++ Builtin.zeroCells z.cells (grownCap w (n + m) cap e - (n + m))) e)):=by
   unfold SrcP at hsrc
   split at hsrc
   ·rename_i hk
    obtain ⟨b,rfl,rfl,rfl,h1⟩:=hsrc
    exact run_append_grow_src w t tx ty e i z ht hi hz A n cap xs ho (.string b) _ _ (by rw [h1]; exact Src.ofString w hk b) (by omega) (by omega) hfit
   ·rename_i k' hk
    obtain ⟨k,rfl,rfl⟩:=hsrc
    refine P3 ht hi hz hzs hk ho (by omega) (by omega) ?_ hfit
    have:=Nat.mul_le_mul_right i.bytes (show m <= n + m by omega); omega
   ·rename_i e' hk
    exact run_append_grow_src w t tx ty e i z ht hi hz A n cap xs ho x m vs (hsrc.1.src hk hsrc.2 hw hsz) (by omega) (by omega) hfit
   ·exact hsrc.elim
  refine ⟨_,_,_,_,_,hres,(hw1.perm hp2).drop.drew.new _,?_⟩
  have:=hK w.heap.size (grownCap w (n + m) cap e) hge hcm
  rw [BJ,List.append_toArray]
  exact this
theorem Ct.run {P:Program} {dT sT ty e:TypeId} {i:TypeInfo} {I:A0} {S:SH} {d x:Value} {K:Nat -> SH -> Prop} {w:World} (hu:P.underlying dT = some (.slice e)) (hi:P.info? e = some i) (h:Ct i.size I S d x K) (hw:AT I S w) :
  ∃ (m:Nat) (w':World) (T:SH),(Builtin.copy_ #[dT,sT] ty #[d,x]).run P w = .ok (.int .i64 (m:Int)) w' /\ AT I T w' /\ K m T:=by
 unfold Ct at h
 split at h
 ·rename_i A dl dc B sl c
  obtain ⟨vs,hrd,h1,hK⟩:=h
  have hf:(Builtin.firstCells i.size (min sl dl) (.slice B sl c)).run P w = .ok vs.toArray w:=by
   have:=hrd.first (P:=P) hw
   cases B <;> exact this
  rcases hK with ⟨rfl,hK⟩ | ⟨a,rfl,hst⟩
  ·refine ⟨_,w,S,?_,hw,hK⟩
   cases A <;> simp [Builtin.copy_,run_underlying hu,Builtin.lenOf,At hi,hf,storeCells,goInt]
  ·obtain ⟨T,w',h1,h2,h3⟩:=hst.runC (P:=P) hw
   refine ⟨_,w',T,?_,h2,h3⟩
   simp [Builtin.copy_,run_underlying hu,Builtin.lenOf,At hi,hf,h1,goInt]
 ·rename_i A dl dc s
  have hf:∀ n w,(Builtin.firstCells i.size n (.string s)).run P w = .ok (byteCells (s.extract 0 n)).toArray w:=by
   intro n w
   simp only [Builtin.firstCells,Sem.run_pure,byteCells]
   congr 1
   apply Array.ext'
   simp
  rcases h with ⟨h0,hK⟩ | ⟨a,rfl,hst⟩
  ·refine ⟨0,w,S,?_,hw,hK⟩
   have he:byteCells (s.extract 0 0) = []:=by simp [byteCells]
   have he2:byteCells ByteArray.empty = []:=rfl
   have h0':Nat.min s.size dl = 0:=h0
   cases A <;> simp [Builtin.copy_,run_underlying hu,Builtin.lenOf,At hi,h0',hf,he,he2,storeCells,goInt]
  ·obtain ⟨T,w',h1,h2,h3⟩:=hst.runC (P:=P) hw
   refine ⟨_,w',T,?_,h2,h3⟩
   have hf':=hf (min s.size dl) w
   simp [Builtin.copy_,run_underlying hu,Builtin.lenOf,At hi,hf',h1,goInt]
 ·exact h.elim
def Ds (o:Option Value) (dflt ub:Nat) (K:Nat -> Prop):Prop:=match o with
 | none=>K dflt
 | some (.int _ i)=>0 <= i /\ i <= (ub:Int) /\ K i.toNat
 | _=>False
def Bk (a:Option Addr) (m l size:Nat):Option Addr:=if m = l then a else a.map (·.add (l * size))
theorem Cv (a:Option Addr) (m size:Nat):Bk a m 0 size = a:=by
 unfold Bk; split
 ·rfl
 ·cases a <;> simp [Addr.add]
theorem Ds.run {P:Program} {o:Option Value} {d ub:Nat} {K:Nat -> Prop} {code:BoundsCode} (h:Ds o d ub K) :
  ∃ n,(∀ w,(match o with | some v=>Instr.sliceBound v ub code | none=>pure d).run P w = .ok n w) /\ K n:=by
 unfold Ds at h
 split at h
 ·exact ⟨d,fun _=>rfl,h⟩
 ·rename_i k i
  exact ⟨i.toNat,fun w=>by simp [Instr.sliceBound,asIntOf,h.1,h.2.1],h.2.2⟩
 ·exact h.elim
abbrev Ab (p:Option Addr) (K:Addr -> Prop):Prop:=match p with
 | some a=>K a
 | none=>False
theorem Ff {p:Option Addr} {K:Addr -> Prop} (h:Ab p K):∃ a,p = some a /\ K a:=by
 cases p with
 | none=>exact h.elim
 | some a=>exact ⟨a,rfl,h⟩
abbrev mapP (p:Option Nat) (K:Nat -> Prop):Prop:=match p with
 | some m=>K m
 | none=>False
theorem mapP_elim {p:Option Nat} {K:Nat -> Prop} (h:mapP p K):∃ a,p = some a /\ K a:=by
 cases p with
 | none=>exact h.elim
 | some a=>exact ⟨a,rfl,h⟩
def Hv (k:IntKind) (x y:Int):Int:=k.wrap ((BitVec.ofInt k.bits x &&& BitVec.ofInt k.bits y).toNat:Int)
def ior (k:IntKind) (x y:Int):Int:=k.wrap ((BitVec.ofInt k.bits x ||| BitVec.ofInt k.bits y).toNat:Int)
def ibic (k:IntKind) (x y:Int):Int:=k.wrap ((BitVec.ofInt k.bits x &&& ~~~BitVec.ofInt k.bits y).toNat:Int)
def CZ (P:Program) (f:FuncId):Bool:=match P.funcs[f]? with
 | some fn => !(fn.name == "runtime.NumGoroutine") && fn.body.isSome
 | none=>false
def DC (P:Program) (f:FuncId) (args:Array Value) (I:A0) (S:SH) (R:Value -> A0 -> SH -> Prop):Prop:=
 ∀ w,AT I S w -> ∃ v w' J T,(callFunc f args).run P w = .ok (.value v) w' /\ I.le J /\ AT J T w' /\ R v J T
def BX:Value -> Option Bool
 | .nilIface=>some true
 | .iface _ _=>some false
 | _=>none
def Vu (k:IntKind):Int -> List Value -> Option Int
 | x,[]=>some x
 | x,.int _ y :: r=>Vu k (if y > x then y else x) r
 | _,_=>none
def Vv (k:IntKind):Int -> List Value -> Option Int
 | x,[]=>some x
 | x,.int _ y :: r=>Vv k (if y < x then y else x) r
 | _,_=>none
def eqS:TypeDesc -> Value -> Value -> Option Bool
 | .bool,.bool a,.bool b=>some (a == b)
 | .int _,.int k a,.int k' b=>(match decide (k = k') with | true=>some (a == b) | false=>none)
 | .string,.string a,.string b=>some (a == b)
 | _,_,_=>none
def LK (P:Program) (t:TypeId) (xs:Array Value) (off:Nat):Option Value:=match P.underlying t with
 | none=>none
 | some d=>(match aggB d with
  | true=>some (.agg (xs.extract off (off + P.cellsOf t)))
  | false=>xs[off]?)
def eqFs (P:Program) (r:TypeId -> Value -> Value -> Option Bool) (xs ys:Array Value):List Field -> Option Bool
 | []=>some true
 | f :: fs => match decide (f.name = "_"), LK P f.type xs f.offset, LK P f.type ys f.offset with
  | false,some x,some y=>(match r f.type x y,eqFs P r xs ys fs with | some b,some c=>some (b && c) | _,_=>none)
  | _,_,_=>none
def eqV (P:Program):Nat -> TypeId -> Value -> Value -> Option Bool
 | 0,_,_,_=>none
 | n + 1,t,x,y=>match P.underlying t with
  | none=>none
  | some d=>(match d,x,y with
   | .struct fs,.agg xs,.agg ys=>(match P.stoodInHeld t with
    | false=>eqFs P (eqV P n) xs ys fs.toList
    | true=>none)
   | d,x,y=>eqS d x y)
def BinM (P:Program) (op:BinOp) (t:TypeId) (xo yo:Operand) (x y:Value) (K:Value -> Prop):Prop:=
 match op,x,y with
 | .quo,.int k a,.int k' b=>A2 (decide (b = 0)) False (match decide (k = k') with | true=>K (.int k (k.wrap (a.tdiv b))) | false=>False)
 | .rem,.int k a,.int k' b=>A2 (decide (b = 0)) False (match decide (k = k') with | true=>K (.int k (a.tmod b)) | false=>False)
 | .shl,.int k a,.int _ b=>A2 (decide (b < 0)) False (K (.int k (k.wrap (a * 2 ^ (min b.toNat k.bits)))))
 | .shr,.int k a,.int _ b=>A2 (decide (b < 0)) False (K (.int k (a.fdiv (2 ^ (min b.toNat k.bits)))))
 | .add,.string a,.string b=>((a.size + b.size:Nat):Int) <= 9223372036854775807 /\ K (.string (a ++ b))
 | .eql,.pointer p,.pointer none=>(match P.underlying t with | some (.pointer _)=>K (.bool p.isNone) | _=>False)
 | .neq,.pointer p,.pointer none=>(match P.underlying t with | some (.pointer _)=>K (.bool (!p.isNone)) | _=>False)
 | .eql,.pointer p,.pointer (some b)=>(match P.underlying t with | some (.pointer e)=>(match Nat.beq (P.cellsOf e) 0 with | false=>p = some b /\ K (.bool true) | true=>False) | _=>False)
 | .neq,.pointer p,.pointer (some b)=>(match P.underlying t with | some (.pointer e)=>(match Nat.beq (P.cellsOf e) 0 with | false=>p = some b /\ K (.bool false) | true=>False) | _=>False)
 | .eql,.slice p _ _,.slice none _ _=>(match P.underlying t with | some (.slice _)=>K (.bool p.isNone) | _=>False)
 | .neq,.slice p _ _,.slice none _ _=>(match P.underlying t with | some (.slice _)=>K (.bool (!p.isNone)) | _=>False)
 | .eql,.map p,.map none=>(match P.underlying t with | some (.map _ _)=>K (.bool p.isNone) | _=>False)
 | .neq,.map p,.map none=>(match P.underlying t with | some (.map _ _)=>K (.bool (!p.isNone)) | _=>False)
 | .eql,.agg xs,.agg ys=>(match P.underlying t with
  | some (.struct fs)=>(match !P.eqGuardType P.depth t,eqV P 4 t (.agg xs) (.agg ys) with | true,some b=>K (.bool b) | _,_=>False)
  | _=>False)
 | .neq,.agg xs,.agg ys=>(match P.underlying t with
  | some (.struct fs)=>(match !P.eqGuardType P.depth t,eqV P 4 t (.agg xs) (.agg ys) with | true,some b=>K (.bool (!b)) | _,_=>False)
  | _=>False)
 | op,x,y=>(match Be P (do eqGuard op t xo yo x y; binOp op t x y) with | some v=>K v | none=>False)
def eqI (P:Program) (x:Value) (ty:TypeId) (vy:Value):Option Bool:=match x with
 | .nilIface=>some false
 | .iface tx vx=>(match Nat.beq tx ty with
  | false=>some false
  | true=>(match (P.info? ty).map (·.comparable),P.underlying ty,vx,vy with
   | some true,some (.int _),.int k a,.int k' b=>(match decide (k = k') with | true=>some (a == b) | false=>none)
   | _,_,_,_=>none))
 | _=>none
def BinP (P:Program) (op:BinOp) (t:TypeId) (xo yo:Operand) (x y:Value) (K:Value -> Prop):Prop:=
 match y with
 | .nilIface=>(match op with
  | .eql=>(match yo,P.underlying t with | .const _,some (.interface _)=>∃ b,BX x = some b /\ K (.bool b) | _,_=>False)
  | .neq=>(match yo,P.underlying t with | .const _,some (.interface _)=>∃ b,BX x = some b /\ K (.bool !b) | _,_=>False)
  | _=>False)
 | .iface ty vy=>(match op with
  | .eql=>(match P.underlying t with | some (.interface _)=>∃ b,eqI P x ty vy = some b /\ K (.bool b) | _=>False)
  | .neq=>(match P.underlying t with | some (.interface _)=>∃ b,eqI P x ty vy = some b /\ K (.bool !b) | _=>False)
  | _=>False)
 | y=>BinM P op t xo yo x y K
def Lq:TypeDesc -> Bool
 | .int _ | .string | .bool=>true
 | _=>false
def lkV (ok:Bool) (v:Value) (b:Bool):Value:=match ok with | true=>.tuple #[v,.bool b] | false=>v
def Ji (I:A0) (S:SH) (r:Nat) (es:Array MapEntry) (clock:Nat):Prop:=I.at_ r = some (.map es clock) \/ (r,Obj.map es clock) ∈ S
def N8 (I:A0) (S:SH) (m:Option Nat) (kd:TypeDesc) (key z v:Value) (b:Bool):Prop:=∃ es:Array MapEntry,(match m with | none=>es = #[] | some r=>∃ clock,Ji I S r es clock) /\
 ((∃ i,Instr.findNow kd key es.toList 0 = some (some (i,v)) /\ b = true) \/ (Instr.findNow kd key es.toList 0 = some none /\ v = z /\ b = false))
def Hh (I:A0) (S:SH) (m:Option Nat) (c:Nat):Prop:=match m with | none=>c = 0 | some r=>∃ es clock,Ji I S r es clock /\ c = es.size
def Ps (kd:TypeDesc) (key val:Value) (es:Array MapEntry) (clock:Nat):Option (Array MapEntry × Nat):=match Instr.findNow kd key es.toList 0 with
 | some (some (i,_))=>some (es.modify i fun e=>{ e with key,val },clock)
 | some none=>some (es.push { key,val,born:=clock },clock + 1)
 | none=>none
def mapDel (kd:TypeDesc) (key:Value) (es:Array MapEntry):Option (Array MapEntry):=match Instr.findNow kd key es.toList 0 with
 | some (some (i,_))=>some (es.eraseIdxIfInBounds i)
 | some none=>some es
 | none=>none
def CE (S:SH) (m:Option Nat) (kd:TypeDesc) (key val:Value) (K:SH -> Prop):Prop:=∃ r i es clock es' clock',m = some r /\ S[i]? = some (r,.map es clock) /\ Ps kd key val es clock = some (es',clock') /\ K (S.set i (r,.map es' clock'))
def MapDl (S:SH) (m:Option Nat) (kd:TypeDesc) (key:Value) (K:SH -> Prop):Prop:=match m with
 | none=>K S
 | some r=>∃ i es clock es',S[i]? = some (r,.map es clock) /\ mapDel kd key es = some es' /\ K (S.set i (r,.map es' clock))
def ZU (P:Program) (r:TypeId -> Value -> Bool) (xs:Array Value):List Field -> Bool
 | []=>true
 | f :: fs => match decide (f.name = "_"), LK P f.type xs f.offset with
  | false,some x=>r f.type x && ZU P r xs fs
  | _,_=>false
def JH (P:Program):Nat -> TypeId -> Value -> Bool
 | 0,_,_=>false
 | n + 1,t,v=>match P.underlying t with
  | none=>false
  | some d=>(match d,v with
   | .struct fs,.agg xs=>ZU P (JH P n) xs fs.toList
   | .int _,_=>true
   | .string,_=>true
   | .bool,_=>true
   | _,_=>false)
def Uh:TypeDesc -> Bool
 | .struct _=>true
 | _=>false
def DM (P:Program) (t:TypeId) (k:Value):List MapEntry -> Nat -> Option (Option (Nat × Value))
 | [],_=>some none
 | e :: es,i=>match eqV P 4 t k e.key with
  | some true=>some (some (i,e.val))
  | some false=>DM P t k es (i + 1)
  | none=>none
def FH (P:Program) (t:TypeId) (I:A0) (S:SH) (m:Option Nat) (key z v:Value) (b:Bool):Prop:=∃ es:Array MapEntry,(match m with | none=>es = #[] | some r=>∃ clock,Ji I S r es clock) /\
 ((∃ i,DM P t key es.toList 0 = some (some (i,v)) /\ b = true) \/ (DM P t key es.toList 0 = some none /\ v = z /\ b = false))
def Vt (P:Program) (t:TypeId) (S:SH) (m:Option Nat) (key val:Value) (K:SH -> Prop):Prop:=∃ r i es clock es' clock',m = some r /\ S[i]? = some (r,.map es clock) /\
 ((∃ j u,DM P t key es.toList 0 = some (some (j,u)) /\ (es[j]?).map (·.key) = some key /\ Instr.sameBits 10000 key key = true /\ es' = es.modify j (fun e=>{ e with key,val }) /\ clock' = clock) \/
  (DM P t key es.toList 0 = some none /\ es' = es.push { key,val,born:=clock } /\ clock' = clock + 1)) /\ K (S.set i (r,.map es' clock'))
def Vs (P:Program) (t:TypeId) (S:SH) (m:Option Nat) (key:Value) (K:SH -> Prop):Prop:=match m with
 | none=>K S
 | some r=>∃ i es clock es',S[i]? = some (r,.map es clock) /\ ((∃ j u,DM P t key es.toList 0 = some (some (j,u)) /\ es' = es.eraseIdxIfInBounds j) \/ (DM P t key es.toList 0 = some none /\ es' = es)) /\ K (S.set i (r,.map es' clock))
def NxP (I:A0) (S:SH) (a:Addr) (K0:Prop) (K1:Value -> Value -> SH -> Prop):Prop:=
 ∃ i m since seen last es clock,a.off = 0 /\ S[i]? = some (a.block,.mapIter (some m) since seen last) /\ Ji I S m es clock /\ since <= last /\ (∀ e ∈ es,e.born < since) /\
  ((∀ e ∈ es,seen.contains e.born = true) -> K0) /\ ∀ e ∈ es,seen.contains e.born = false -> K1 e.key e.val (S.set i (a.block,.mapIter (some m) since (seen.push e.born) clock))
def EnP (I:A0) (S:SH) (a:Addr) (K:Value -> Value -> Prop):Prop:=
 ∃ m since seen stamp es clock e,a.off = 0 /\ (a.block,Obj.mapIter (some m) since seen clock) ∈ S /\ seen.back? = some stamp /\ Ji I S m es clock /\ es.find? (·.born == stamp) = some e /\ K e.key e.val
def Aw (I:A0) (S:SH) (p:Option Addr) (n:Nat) (s:ByteArray):Prop:=match p with
 | none=>s = ByteArray.empty
 | some a=>s.size = n /\ ∀ (i:Nat) (c:UInt8),s[i]? = some c -> A1 I S (a.add i) (.int .u8 (c.toNat:Int))
def Jd (I:A0) (S:SH) (b:Nat) (cs:Array Value) (e:TypeId):Prop:=∃ fz,I.at_ b = some (.cells cs e fz) \/ (b,Obj.cells cs e fz) ∈ S
def frz (fz:Nat × Nat) (o n:Nat):Nat × Nat:=if fz.1 == fz.2 then (o,o + n) else (min fz.1 o,max fz.2 (o + n))
def UsP (P:Program) (u:TypeId) (I:A0) (S:SH) (p:Option Addr) (m:Int) (K:ByteArray -> SH -> Prop):Prop:=
 (m = 0 /\ K ByteArray.empty S) \/ ∃ a i cs e fz s,p = some a /\ 0 < m /\ m <= 9223372036854775807 /\ S[i]? = some (a.block,.cells cs e fz) /\ liesAt P P.depth e (cs.size / P.cellsOf e) a.off u m.toNat = true /\
  Aw I S (some a) m.toNat s /\ K s (S.set i (a.block,.cells cs e (frz fz a.off m.toNat)))
def Vg (z:List Value) (S:SH) (p:Option Addr) (n:Nat) (K:SH -> Prop):Prop:=(n = 0 /\ K S) \/ ∃ a,p = some a /\ n ≠ 0 /\ Ae S a (AG n z) K
def Bn (P:Program) (n:Nat) (o:Oper) (K:Fr -> A0 -> SH -> Prop) (l:Fr) (I:A0) (S:SH):Prop:=
 match o.op with
 | .move x=>Ai n o.dst (ev l x) K l I S
 | .assign x=>Ai n o.dst (ev l x) K l I S
 | .load t x=>(match ev l x with | .pointer (some a)=>LdX P x t I S a fun v=>Ai n o.dst v K l I S | _=>False)
 | .store t x y=>(match ev l x,P.underlying t with
  | .pointer (some a),some _=>(match Nat.beq (ev l y).cells.size (P.cellsOf t) with | true=>Ae S a (ev l y).cells.toList fun T=>Ai n o.dst undef K l I T | false=>False)
  | _,_=>False)
 | .alloc t=>(match (P.info? t).bind (·.zero) with | some z=>∀ b,Ai n o.dst (.pointer (some ⟨b,0,none⟩)) K l I ((b,.cells z.cells t (0,0)) :: S) | none=>False)
 | .box t x=>∀ b,Ai n o.dst (.pointer (some ⟨b,0,none⟩)) K l I ((b,.cells (ev l x).cells t (0,0)) :: S)
 | .nilCheck x=>(match ev l x with
  | .pointer p=>Ab p fun a=>Ai n o.dst (.pointer (some a)) K l I S
  | .func (.func f) fs cs=>Ai n o.dst (.func (.func f) fs cs) K l I S
  | _=>False)
 | .build t parts=>(match P.underlying t,(P.info? t).bind (·.zero) with
  | some (.struct fs),some z=>(match fs.toList.all (fun f=>(P.info? f.type).isSome),Nu P fs.toList z.cells (evs l parts) with | true,some cs=>Ai n o.dst (.agg cs) K l I S | _,_=>False)
  | _,_=>False)
 | .buildSlice t len parts=>(match P.underlying t with
  | some (.slice e)=>(match P.info? e with
   | some i=>(match i.zero with
    | some z=>(match Nat.beq z.cells.size i.size && Nat.ble (len * i.size) 16777216 with
     | true=>(match Nt i.size (AG len z.cells.toList).toArray (evs l parts) with
      | some cs=>∀ b,Ai n o.dst (.slice (some ⟨b,0,none⟩) len len) K l I ((b,.cells cs e (0,0)) :: S)
      | none=>False)
     | false=>False)
    | none=>False)
   | none=>False)
  | _=>False)
 | .makeSlice t x y=>(match P.underlying t,ev l x,ev l y with
  | some (.slice e),.int _ len,.int _ cap=>(match P.info? e with
   | some i=>(match i.zero with
    | some z=>(match Nat.beq z.cells.size i.size with
     | true=>0 <= len /\ len <= cap /\ cap <= 9223372036854775807 /\ i.bytes * cap <= 281474976710656 /\
      ∀ b,Ai n o.dst (.slice (some ⟨b,0,none⟩) len.toNat cap.toNat) K l I ((b,.cells (AG cap.toNat z.cells.toList).toArray e (0,0)) :: S)
     | false=>False)
    | none=>False)
   | none=>False)
  | _,_,_=>False)
 | .indexAddr t x ix=>(match P.underlying t,ev l x,ev l ix with
  | some (.slice e),.slice base len _,.int _ i=>(match P.info? e with
   | some inf=>Ab base fun a=>0 <= i /\ i < (len:Int) /\ Ai n o.dst (.pointer (some (a.add (i.toNat * inf.size)))) K l I S
   | none=>False)
  | some (.array len e),.pointer (some a),.int _ i=>(match P.info? e with
   | some inf=>0 <= i /\ i < (len:Int) /\ Ai n o.dst (.pointer (some (a.add (i.toNat * inf.size)))) K l I S
   | none=>False)
  | _,_,_=>False)
 | .index t x ix=>(match P.underlying t,ev l x,ev l ix with
  | some .string,.string s,.int _ i=>∃ c:UInt8,0 <= i /\ s[i.toNat]? = some c /\ Ai n o.dst (.int .u8 (c.toNat:Int)) K l I S
  | _,_,_=>(match Be P (execOp (ev l) o) with | some (.value v)=>Ai n o.dst v K l I S | _=>False))
 | .slice t x lo hi mx=>(match P.underlying t,ev l x,mx with
  | some .string,.string s,none=>Ds (hi.map (ev l)) s.size s.size fun h=>Ds (lo.map (ev l)) 0 h fun j=>Ai n o.dst (.string (s.extract j h)) K l I S
  | some (.slice e),.slice a len cap,none=>(match P.info? e with
   | some inf=>Ds (hi.map (ev l)) len cap fun h=>Ds (lo.map (ev l)) 0 h fun j=>Ai n o.dst (.slice (Bk a cap j inf.size) (h - j) (cap - j)) K l I S
   | none=>False)
  | some (.slice e),.slice a len cap,some mx=>(match P.info? e,hi with
   | some inf,some hi=>Ds (some (ev l mx)) 0 cap fun m=>Ds (some (ev l hi)) 0 m fun h=>Ds (lo.map (ev l)) 0 h fun j=>Ai n o.dst (.slice (Bk a m j inf.size) (h - j) (m - j)) K l I S
   | _,_=>False)
  | some (.array ln e),.pointer (some a),none=>(match P.info? e with
   | some inf=>Ds (hi.map (ev l)) ln ln fun h=>Ds (lo.map (ev l)) 0 h fun j=>Ai n o.dst (.slice (Bk (some a) ln j inf.size) (h - j) (ln - j)) K l I S
   | none=>False)
  | _,_,_=>False)
 | .makeMap t none=>∀ r,Ai n o.dst (.map (some r)) K l I ((r,.map #[] 0) :: S)
 | .makeMap t (some x)=>(match P.underlying t,ev l x with
  | some (.map _ _),.int _ _=>∀ r,Ai n o.dst (.map (some r)) K l I ((r,.map #[] 0) :: S)
  | _,_=>False)
 | .range t x=>(match P.underlying t,ev l x with
  | some (.map _ _),.map mm=>mapP mm fun m=>∃ es clock,Ji I S m es clock /\ ∀ b,Ai n o.dst (.pointer (some ⟨b,0,none⟩)) K l I ((b,.mapIter (some m) clock #[] clock) :: S)
  | _,_=>False)
 | .next it false=>(match ev l it with
  | .pointer (some a)=>NxP I S a (Ai n o.dst (.tuple #[.bool false]) K l I S) fun k v T=>Ai n o.dst (.tuple #[.bool true,k,v]) K l I T
  | _=>False)
 | .entry it=>(match ev l it with
  | .pointer (some a)=>EnP I S a fun k v=>Ai n o.dst (.tuple #[k,v]) K l I S
  | _=>False)
 | .insert t m k v=>(match P.underlying t,ev l m with
  | some (.map kt _),.map m=>(match P.underlying kt with
   | some kd=>(match Lq kd with
    | true=>CE S m kd (ev l k) (ev l v) fun T=>Ai n o.dst undef K l I T
    | false=>False)
   | none=>False)
  | _,_=>False)
 | .lookup t x ix ok=>(match P.underlying t,ev l x with
  | some (.map kt et),.map m=>(match P.underlying kt,(P.info? et).bind (·.zero) with
   | some kd,some z=>(match Lq kd with
    | true=>VL P et fun v=>∃ b:Bool,N8 I S m kd (ev l ix) z v b /\ Ai n o.dst (lkV ok v b) K l I S
    | false=>(match Uh kd && JH P 4 kt (ev l ix) with
     | true=>VL P et fun v=>∃ b:Bool,FH P kt I S m (ev l ix) z v b /\ Ai n o.dst (lkV ok v b) K l I S
     | false=>False))
   | _,_=>False)
  | _,_=>False)
 | .mapUpdate t m k v=>(match P.underlying t,ev l m with
  | some (.map kt _),.map m=>(match P.underlying kt with
   | some kd=>(match Lq kd with
    | true=>CE S m kd (ev l k) (ev l v) fun T=>Ai n o.dst undef K l I T
    | false=>(match Uh kd && JH P 4 kt (ev l k) with
     | true=>Vt P kt S m (ev l k) (ev l v) fun T=>Ai n o.dst undef K l I T
     | false=>False))
   | none=>False)
  | _,_=>False)
 | .convert s d x=>(match P.underlying s,P.underlying d with
  | some (.slice e),some .string=>(match P.underlying e,ev l x with
   | some (.int .u8),.slice p m _=>∃ s:ByteArray,Aw I S p m s /\ Ai n o.dst (.string s) K l I S
   | _,_=>False)
  | some (.pointer t),some .unsafePointer=>(match ev l x with
   | .pointer p=>(match Nat.beq (P.cellsOf t) 0 with
    | false=>Ab p fun a=>∃ cs e,Jd I S a.block cs e /\ a.off < cs.size /\ Ai n o.dst (.pointer (some a)) K l I S
    | true=>False)
   | _=>False)
  | some .unsafePointer,some (.pointer t)=>(match ev l x with
   | .pointer p=>(match Nat.beq (P.cellsOf t) 0 with
    | false=>Ab p fun a=>∃ cs e,Jd I S a.block cs e /\ liesAt P P.depth e (cs.size / P.cellsOf e) a.off t 1 = true /\ Ai n o.dst (.pointer (some a)) K l I S
    | true=>False)
   | _=>False)
  | some .string,some (.slice e)=>(match P.underlying e,ev l x with
   | some (.int .u8),.string s=>s.size <= maxLen /\ ∀ g c:Nat,s.size <= c -> c <= maxLen -> Ai n o.dst (.slice (some ⟨g,0,none⟩) s.size c) K l I ((g,.cells (byteCells s ++ AG (c - s.size) [.int .u8 0]).toArray e (c,c + 1)) :: S)
   | _,_=>False)
  | _,_=>(match Be P (execOp (ev l) o) with | some (.value v)=>Ai n o.dst v K l I S | _=>False))
 | .binOp op t x y _=>BinP P op t x y (ev l x) (ev l y) fun v=>Ai n o.dst v K l I S
 | .call c=>(match c.callee,c.argTypes.toList,c.args.toList with
  | .value f,_,args=>(match ev l f with
   | .func (.func fid) fs cs=>(match CZ P fid with
    | true=>Runs P fid (fs.toList ++ args.map (ev l) ++ cs.toList).toArray I S fun v J T=>VC P o.type v fun v=>Ai n o.dst v K l J T
    | false=>DC P fid (fs.toList ++ args.map (ev l) ++ cs.toList).toArray I S fun v J T=>VC P o.type v fun v=>Ai n o.dst v K l J T)
   | _=>False)
  | .builtin .len,[t],[x]=>(match P.underlying t,ev l x with
   | some .string,.string s=>Ai n o.dst (.int .i64 (s.size:Int)) K l I S
   | some (.slice _),.slice _ m _=>Ai n o.dst (.int .i64 (m:Int)) K l I S
   | some (.map _ _),.map m=>∃ c:Nat,Hh I S m c /\ Ai n o.dst (.int .i64 (c:Int)) K l I S
   | _,_=>False)
  | .builtin .delete,[t,_],[x,k]=>(match P.underlying t,ev l x with
   | some (.map kt _),.map m=>(match P.underlying kt with
    | some kd=>(match Lq kd with
     | true=>MapDl S m kd (ev l k) fun T=>Ai n o.dst (.tuple #[]) K l I T
     | false=>(match Uh kd && JH P 4 kt (ev l k) with
      | true=>Vs P kt S m (ev l k) fun T=>Ai n o.dst (.tuple #[]) K l I T
      | false=>False))
    | none=>False)
   | _,_=>False)
  | .builtin .cap,[t],[x]=>(match P.underlying t,ev l x with
   | some (.slice _),.slice _ _ m=>Ai n o.dst (.int .i64 (m:Int)) K l I S
   | _,_=>False)
  | .builtin .max,_,x :: rest=>(match ev l x with
   | .int k a=>(match Vu k a (rest.map (ev l)) with | some m=>Ai n o.dst (.int k m) K l I S | none=>False)
   | _=>False)
  | .builtin .min,_,x :: rest=>(match ev l x with
   | .int k a=>(match Vv k a (rest.map (ev l)) with | some m=>Ai n o.dst (.int k m) K l I S | none=>False)
   | _=>False)
  | .builtin .append,[t,t'],[s,x]=>(match P.underlying t with
   | some (.slice e)=>(match P.info? e with
    | some i=>(match i.zero with
     | some z=>(match Nat.beq z.cells.size i.size && Nat.blt 0 i.size with
      | true=>Ay e i.size i.bytes z.cells.toList (P.underlying t') I S (ev l s) (ev l x) fun p m c T=>Ai n o.dst (.slice p m c) K l I T
      | false=>False)
     | none=>False)
    | none=>False)
   | _=>False)
  | .builtin .unsafeSliceData,[t],[x]=>(match P.underlying t,ev l x with
   | some (.slice _),.slice p _ c=>(p.isSome = true -> c ≠ 0) /\ Ai n o.dst (.pointer p) K l I S
   | _,_=>False)
  | .builtin .unsafeString,[t,_],[x,y]=>(match P.underlying t,ev l x,ev l y with
   | some (.pointer u),.pointer p,.int _ m=>UsP P u I S p m fun s T=>Ai n o.dst (.string s) K l I T
   | _,_,_=>False)
  | .builtin .clear,[t],[x]=>(match P.underlying t,ev l x with
   | some (.slice e),.slice p m _=>(match (P.info? e).bind (·.zero) with
    | some z=>Vg z.cells.toList S p m fun T=>Ai n o.dst (.tuple #[]) K l I T
    | none=>False)
   | _,_=>False)
  | .builtin .copy,[t,_],[d,x]=>(match P.underlying t with
   | some (.slice e)=>(match P.info? e with
    | some i=>Ct i.size I S (ev l d) (ev l x) fun m T=>Ai n o.dst (.int .i64 (m:Int)) K l I T
    | none=>False)
   | _=>False)
  | .builtin .complex,_,_=>(match Be P (execOp (ev l) o) with | some (.value v)=>Ai n o.dst v K l I S | _=>False)
  | .builtin .real,_,_=>(match Be P (execOp (ev l) o) with | some (.value v)=>Ai n o.dst v K l I S | _=>False)
  | .builtin .imag,_,_=>(match Be P (execOp (ev l) o) with | some (.value v)=>Ai n o.dst v K l I S | _=>False)
  | _,_,_=>False)
 | _=>(match Be P (execOp (ev l) o) with | some (.value v)=>Ai n o.dst v K l I S | _=>False)
def NX (n:Nat) (I:A0) (K:Fr -> A0 -> SH -> Prop) (a:Act) (w:World):Prop:=∃ l J T,Bg n l a /\ I.le J /\ AT J T w /\ K l J T
theorem Ai.nx {n:Nat} {d:Option Tmp} {v:Value} {K:Fr -> A0 -> SH -> Prop} {l:Fr} {I J:A0} {T:SH} {a:Act} {w:World} (h:Ai n d v K l J T) (ha:Bg n l a) (hle:I.le J) (hw:AT J T w) :
  NX n I K (a.put d v) w:=by
 cases d with
 | none=>exact ⟨l,J,T,ha,hle,hw,h⟩
 | some d=>
  simp only [Ai] at h
  split at h
  ·rename_i hb
   exact ⟨_,J,T,ha.put (by simpa using hb) v,hle,hw,h⟩
  ·exact h.elim
section
variable {P:Program} {n:Nat} {o:Oper} {K:Fr -> A0 -> SH -> Prop} {l:Fr} {I:A0} {S:SH} {a:Act} {w:World} {Q:Exit -> Act -> World -> Prop}
theorem Ar {v:Value} {w':World} {T:SH} (hr:(execOp (ev l) o).run P w = .ok (.value v) w') (h:Ai n o.dst v K l I T) (hw:AT I T w') (ha:Bg n l a):o.wp P a w (NX n I K) Q:=by
 simp only [Oper.wp,ha.eval,hr,Oper.upon]
 exact h.nx ha (A0.le.refl I) hw
theorem GE {w':World} {T:SH} (hr:(execOp (ev l) o).run P w = .ok .skip w') (h:Ai n o.dst undef K l I T) (hw:AT I T w') (ha:Bg n l a):o.wp P a w (NX n I K) Q:=by
 simp only [Oper.wp,ha.eval,hr,Oper.upon]
 exact h.nx ha (A0.le.refl I) hw
theorem JV (h:match Be P (execOp (ev l) o) with | some (.value v)=>Ai n o.dst v K l I S | _=>False) (hw:AT I S w) (ha:Bg n l a):o.wp P a w (NX n I K) Q:=by
 split at h
 ·rename_i v he
  exact Ar (CP he) h hw ha
 ·exact h.elim
theorem wp_enter {f:FuncId} {args:Array Value} (hr:(execOp (ev l) o).run P w = .ok (.enter f args) w) (h:Runs P f args I S fun v J T=>VC P o.type v fun v=>Ai n o.dst v K l J T) (hw:AT I S w) (ha:Bg n l a) :
  o.wp P a w (NX n I K) Q:=by
 simp only [Oper.wp,ha.eval,hr,Oper.upon]
 refine (h w hw).mono ?_
 rintro e w' ⟨v,J,T,rfl,hle,hs,hv⟩
 exact (Nf hv).nx ha hle hs
end
section
variable {P:Program} {n:Nat} {o:Oper} {K:Fr -> A0 -> SH -> Prop} {l:Fr} {I:A0} {S:SH} {a:Act} {w:World} {Q:Exit -> Act -> World -> Prop}
theorem NJ {t:TypeId} {x y:Value} {b:Bool} (h:∀ d,(Op.equalIn (d + 1) t x y).run P w = .ok b w):(Op.equal t x y).run P w = .ok b w:=h 9999
theorem EN {t:TypeId} {xo yo:Operand} {x y:Value} {b:Bool} (hg:(eqGuard .eql t xo yo x y).run P w = .ok () w) (hb:binOp .eql t x y = (do pure (.bool (<- Op.equal t x y))))
  (h:∀ d,(Op.equalIn (d + 1) t x y).run P w = .ok b w):(do eqGuard .eql t xo yo x y; binOp .eql t x y:Sem Value).run P w = .ok (.bool b) w:=by
 simp only [Sem.run_bind,hg,Result.andThen_ok,hb,NJ h,Sem.run_pure]
theorem EP {t:TypeId} {xo yo:Operand} {x y:Value} {b:Bool} (hg:(eqGuard .neq t xo yo x y).run P w = .ok () w) (hb:binOp .neq t x y = (do pure (.bool (!(<- Op.equal t x y)))))
  (h:∀ d,(Op.equalIn (d + 1) t x y).run P w = .ok b w):(do eqGuard .neq t xo yo x y; binOp .neq t x y:Sem Value).run P w = .ok (.bool !b) w:=by
 simp only [Sem.run_bind,hg,Result.andThen_ok,hb,NJ h,Sem.run_pure]
theorem U3 {t e:TypeId} {p:Option Addr} (hu:P.underlying t = some (.pointer e)) (d:Nat):(Op.equalIn (d + 1) t (.pointer p) (.pointer none)).run P w = .ok p.isNone w:=by
 cases p <;> simp [Op.equalIn,run_underlying hu]
theorem eqIn_sl {t e:TypeId} {p:Option Addr} {a b c d':Nat} (hu:P.underlying t = some (.slice e)) (d:Nat):(Op.equalIn (d + 1) t (.slice p a b) (.slice none c d')).run P w = .ok p.isNone w:=by
 cases p <;> simp [Op.equalIn,run_underlying hu]
theorem U2 {t k e:TypeId} {p:Option Nat} (hu:P.underlying t = some (.map k e)) (d:Nat):(Op.equalIn (d + 1) t (.map p) (.map none)).run P w = .ok p.isNone w:=by
 cases p <;> simp [Op.equalIn,run_underlying hu]
theorem eqIn_if {t:TypeId} {ms:Array (String × TypeId)} {x:Value} {b:Bool} (hu:P.underlying t = some (.interface ms)) (hb:BX x = some b) (d:Nat):(Op.equalIn (d + 1) t x .nilIface).run P w = .ok b w:=by
 cases x <;> simp [BX] at hb <;> subst hb <;> simp [Op.equalIn,run_underlying hu]
theorem Uf {op:BinOp} {t:TypeId} {xo:Operand} {c:Value} {x:Value} {b:Bool} (ho:op = .eql \/ op = .neq) (hb:BX x = some b):(eqGuard op t xo (.const c) x .nilIface).run P w = .ok () w:=by
 rcases ho with rfl | rfl <;> cases x <;> first | (simp [BX] at hb; done) | (cases xo <;> simp [eqGuard])
theorem eql_if {t:TypeId} {x:Value} {b:Bool} (hb:BX x = some b):binOp .eql t x .nilIface = (do pure (.bool (<- Op.equal t x .nilIface))):=by
 cases x <;> first | (simp [BX] at hb; done) | rfl
theorem neq_if {t:TypeId} {x:Value} {b:Bool} (hb:BX x = some b):binOp .neq t x .nilIface = (do pure (.bool (!(<- Op.equal t x .nilIface)))):=by
 cases x <;> first | (simp [BX] at hb; done) | rfl
theorem eqIn_sc {P:Program} {w:World} {t:TypeId} {td:TypeDesc} {x y:Value} {b:Bool} (hu:P.underlying t = some td) (h:eqS td x y = some b) (d:Nat):(Op.equalIn (d + 1) t x y).run P w = .ok b w:=by
 unfold eqS at h
 split at h
 ·injection h with h; subst h; simp [Op.equalIn,run_underlying hu]
 ·split at h
  ·rename_i hk; have hk:=of_decide_eq_true hk; subst hk
   injection h with h; subst h; simp [Op.equalIn,run_underlying hu]
  ·cases h
 ·injection h with h; subst h; simp [Op.equalIn,run_underlying hu]
 ·cases h
theorem HF {P:Program} {w:World} {t:TypeId} {xs:Array Value} {off:Nat} {x:Value} (h:LK P t xs off = some x):(part t xs off).run P w = .ok x w:=by
 unfold LK at h
 split at h
 ·cases h
 ·rename_i d hu
  obtain ⟨i,hi,hsz⟩:=B7 hu
  split at h
  ·rename_i ha
   injection h with h; subst h
   simp [part,Fh hu,ha,At hi,hsz]
  ·rename_i ha
   simp [part,Fh hu,ha,h]
theorem U4 {P:Program} {w:World} {t:TypeId} {fs:Array Field} {xs ys:Array Value} {b:Bool} {r:TypeId -> Value -> Value -> Option Bool} {d:Nat} (hr:∀ t x y c,r t x y = some c -> (Op.equalIn d t x y).run P w = .ok c w)
  (hu:P.underlying t = some (.struct fs)) (hs:P.stoodInHeld t = false) (h:eqFs P r xs ys fs.toList = some b) :
  (Op.equalIn (d + 1) t (.agg xs) (.agg ys)).run P w = .ok b w:=by
 unfold Op.equalIn
 simp only [Sem.run_bind,run_underlying hu,Result.andThen_ok]
 rw [<- Array.forIn_toList]
 have hp:(program).run P w = .ok P w:=rfl
 simp only [hp,Result.andThen_ok,hs,Bool.false_eq_true,if_false]
 have loop : ∀ (body : Field -> Option Bool × Unit -> Sem (ForInStep (Option Bool × Unit))) (hbody : ∀ (f : Field) (s : Option Bool × Unit) (x y : Value) (c : Bool), f.name ≠ "_" -> LK P f.type xs f.offset = some x -> LK P f.type ys f.offset = some y -> r f.type x y = some c ->
   (body f s).run P w = .ok (if c then .yield (none,()) else .done (some false,())) w),∀ (l:List Field) (b:Bool),eqFs P r xs ys l = some b -> (forIn l (none,()) body:Sem (Option Bool × Unit)).run P w = .ok (if b then none else some false,()) w:=by
  intro body hbody l
  induction l with
  | nil=>intro b h; simp [eqFs] at h; subst h; simp
  | cons f l ih=>
   intro b h
   unfold eqFs at h
   split at h
   ·rename_i x y hn hx hy
    split at h
    ·rename_i c c' hc hc'
     injection h with h; subst h
     have hb:=hbody f (none,()) x y c (of_decide_eq_false hn) hx hy hc
     simp only [List.forIn_cons,Sem.run_bind,hb,Result.andThen_ok]
     cases c
     ·simp
     ·simp only [if_true,ih c' hc']; simp
    ·cases h
   ·cases h
 rw [Sem.run_bind,loop _ ?_ fs.toList b h]
 ·cases b <;> simp
 ·intro f s x y c hn hx hy hc
  simp only [if_pos hn,Sem.run_bind,HF hx,HF hy,Result.andThen_ok,hr _ _ _ _ hc]
  cases c <;> rfl
theorem Pe {P:Program} {w:World}:∀ (n:Nat) (t:TypeId) (x y:Value) (b:Bool) (d:Nat),eqV P n t x y = some b -> (Op.equalIn (d + n) t x y).run P w = .ok b w
 | 0,_,_,_,_,_,h=>by simp [eqV] at h
 | n + 1,t,x,y,b,d,h=>by
  unfold eqV at h
  split at h
  ·cases h
  ·rename_i td hu
   split at h
   ·rename_i fs xs ys
    split at h
    ·rename_i hs
     exact U4 (d:=d + n) (fun t x y c hc=>Pe n t x y c d hc) hu hs h
    ·cases h
   ·exact eqIn_sc hu h (d + n)
theorem UE {op:BinOp} {t:TypeId} {xo yo:Operand} {xs ys:Array Value} {b:Bool} (ho:op = .eql \/ op = .neq) (hs:(!P.eqGuardType P.depth t) = true) (h:eqV P 4 t (.agg xs) (.agg ys) = some b) (w:World) :
  (do eqGuard op t xo yo (.agg xs) (.agg ys); binOp op t (.agg xs) (.agg ys):Sem Value).run P w = .ok (.bool (match op with | .eql=>b | _=>!b)) w:=by
 simp only [Bool.not_eq_true'] at hs
 have he:(Op.equal t (.agg xs) (.agg ys)).run P w = .ok b w:=Pe 4 t _ _ b 9996 h
 have hg:(eqGuard op t xo yo (.agg xs) (.agg ys)).run P w = .ok () w:=by
  have hp:(program).run P w = .ok P w:=rfl
  rcases ho with rfl | rfl <;> simp [eqGuard,hp,hs]
 rcases ho with rfl | rfl
 ·have:binOp .eql t (.agg xs) (.agg ys) = (do pure (.bool (<- Op.equal t (.agg xs) (.agg ys)))):=rfl
  simp only [Sem.run_bind,hg,Result.andThen_ok,this,he,Sem.run_pure]
 ·have:binOp .neq t (.agg xs) (.agg ys) = (do pure (.bool (!(<- Op.equal t (.agg xs) (.agg ys))))):=rfl
  simp only [Sem.run_bind,hg,Result.andThen_ok,this,he,Sem.run_pure]
theorem Ns {t e:TypeId} {a:Addr} (hu:P.underlying t = some (.pointer e)) (hz:P.cellsOf e ≠ 0) (d:Nat):(Op.equalIn (d + 1) t (.pointer (some a)) (.pointer (some a))).run P w = .ok true w:=by
 cases hi:P.info? e with
 | none=>simp [Program.cellsOf,hi] at hz
 | some i=>
  have hz':i.size ≠ 0:=by rwa [Program.cellsOf,hi] at hz
  simp [Op.equalIn,run_underlying hu,At hi,hz',sameAddr]
theorem BinM.run {op:BinOp} {t:TypeId} {xo yo:Operand} {x y:Value} {K:Value -> Prop} (h:BinM P op t xo yo x y K):∃ v,(∀ w,(do eqGuard op t xo yo x y; binOp op t x y:Sem Value).run P w = .ok v w) /\ K v:=by
 unfold BinM at h
 split at h
 case h_1 k a k' b=>
  by_cases hb:b = 0
  ·rw [decide_eq_true hb] at h; exact h.elim
  ·rw [decide_eq_false hb] at h
   simp only [A2] at h
   split at h
   ·rename_i hk; have hk:=of_decide_eq_true hk; subst hk
    exact ⟨_,fun w=>by simp [eqGuard,binOp,Op.intDiv,hb],h⟩
   ·exact h.elim
 case h_2 k a k' b=>
  by_cases hb:b = 0
  ·rw [decide_eq_true hb] at h; exact h.elim
  ·rw [decide_eq_false hb] at h
   simp only [A2] at h
   split at h
   ·rename_i hk; have hk:=of_decide_eq_true hk; subst hk
    exact ⟨_,fun w=>by simp [eqGuard,binOp,Op.intDiv,hb],h⟩
   ·exact h.elim
 case h_3 k a k' b=>
  by_cases hb:b < 0
  ·rw [decide_eq_true hb] at h; exact h.elim
  ·rw [decide_eq_false hb] at h
   exact ⟨_,fun w=>by simp [eqGuard,binOp,Op.shift,hb],h⟩
 case h_4 k a k' b=>
  by_cases hb:b < 0
  ·rw [decide_eq_true hb] at h; exact h.elim
  ·rw [decide_eq_false hb] at h
   exact ⟨_,fun w=>by simp [eqGuard,binOp,Op.shift,hb],h⟩
 case h_5 a b=>
  obtain ⟨h1,h⟩:=h
  have hm:IntKind.i64.max = 9223372036854775807:=by decide
  have hc : ¬ (((a.size + b.size:Nat):Int) > IntKind.i64.max):=by rw [hm]; omega
  refine ⟨_,fun w=>?_,h⟩
  simp only [eqGuard,binOp,Op.stringOp,hc,if_false]
  simp
 case h_6=>
  split at h
  ·rename_i hu
   exact ⟨_,fun w=>EN rfl rfl (U3 hu),h⟩
  ·exact h.elim
 case h_7=>
  split at h
  ·rename_i hu
   exact ⟨_,fun w=>EP rfl rfl (U3 hu),h⟩
  ·exact h.elim
 case h_8=>
  split at h
  ·rename_i e hu
   split at h
   ·rename_i hz
    obtain ⟨rfl,h⟩:=h
    exact ⟨_,fun w=>EN rfl rfl (Ns hu (Nat.ne_of_beq_eq_false hz)),h⟩
   ·exact h.elim
  ·exact h.elim
 case h_9=>
  split at h
  ·rename_i e hu
   split at h
   ·rename_i hz
    obtain ⟨rfl,h⟩:=h
    exact ⟨_,fun w=>EP rfl rfl (Ns hu (Nat.ne_of_beq_eq_false hz)),h⟩
   ·exact h.elim
  ·exact h.elim
 case h_10=>
  split at h
  ·rename_i hu
   exact ⟨_,fun w=>EN rfl rfl (eqIn_sl hu),h⟩
  ·exact h.elim
 case h_11=>
  split at h
  ·rename_i hu
   exact ⟨_,fun w=>EP rfl rfl (eqIn_sl hu),h⟩
  ·exact h.elim
 case h_12=>
  split at h
  ·rename_i hu
   exact ⟨_,fun w=>EN rfl rfl (U2 hu),h⟩
  ·exact h.elim
 case h_13=>
  split at h
  ·rename_i hu
   exact ⟨_,fun w=>EP rfl rfl (U2 hu),h⟩
  ·exact h.elim
 case h_14=>
  split at h
  ·rename_i fs hu
   split at h
   ·rename_i b hs hb
    exact ⟨_,fun w=>UE (.inl rfl) hs hb w,h⟩
   ·exact h.elim
  ·exact h.elim
 case h_15=>
  split at h
  ·rename_i fs hu
   split at h
   ·rename_i b hs hb
    exact ⟨_,fun w=>UE (.inr rfl) hs hb w,h⟩
   ·exact h.elim
  ·exact h.elim
 case h_16=>
  split at h
  ·rename_i v he
   exact ⟨v,fun w=>CP he,h⟩
  ·exact h.elim
theorem eqIn_I {t ty:TypeId} {ms:Array (String × TypeId)} {x vy:Value} {b:Bool} (hu:P.underlying t = some (.interface ms)) (hb:eqI P x ty vy = some b) (d:Nat):(Op.equalIn (d + 2) t x (.iface ty vy)).run P w = .ok b w:=by
 cases x <;> simp only [eqI] at hb <;> first | (cases hb; done) | skip
 case nilIface=>injection hb with hb; subst hb; simp [Op.equalIn,run_underlying hu]
 case iface tx vx=>
  split at hb
  ·rename_i hne
   injection hb with hb; subst hb
   have hne:=Nat.ne_of_beq_eq_false hne
   simp [Op.equalIn,run_underlying hu,hne]
  ·rename_i he
   have he:=Nat.eq_of_beq_eq_true he; subst he
   split at hb
   ·rename_i k a k' c hcm huy
    split at hb
    ·rename_i hk
     have hk:=of_decide_eq_true hk; subst hk
     injection hb with hb; subst hb
     obtain ⟨i,hi,hic⟩:=Option.map_eq_some_iff.1 hcm
     have hti:(typeInfo tx).run P w = .ok i w:=by simp [typeInfo,program,Sem.run,hi]
     unfold Op.equalIn
     simp only [Sem.run_bind,run_underlying hu,Result.andThen_ok,ne_eq,not_true_eq_false,if_false,hti,hic,Bool.not_true,Bool.false_eq_true]
     simp [Op.equalIn,run_underlying huy]
    ·cases hb
   ·cases hb
theorem guard_I {op:BinOp} {t ty:TypeId} {xo yo:Operand} {x vy:Value}:(eqGuard op t xo yo x (.iface ty vy)).run P w = .ok () w:=by
 cases op <;> cases x <;> simp [eqGuard]
theorem eql_I {t ty:TypeId} {x vy:Value} {b:Bool} (hb:eqI P x ty vy = some b):binOp .eql t x (.iface ty vy) = (do pure (.bool (<- Op.equal t x (.iface ty vy)))):=by
 cases x <;> first | (simp [eqI] at hb; done) | rfl
theorem neq_I {t ty:TypeId} {x vy:Value} {b:Bool} (hb:eqI P x ty vy = some b):binOp .neq t x (.iface ty vy) = (do pure (.bool (!(<- Op.equal t x (.iface ty vy))))):=by
 cases x <;> first | (simp [eqI] at hb; done) | rfl
theorem LW {t:TypeId} {x y:Value} {b:Bool} (h:∀ d,(Op.equalIn (d + 2) t x y).run P w = .ok b w):(Op.equal t x y).run P w = .ok b w:=h 9998
theorem BinP.run {op:BinOp} {t:TypeId} {xo yo:Operand} {x y:Value} {K:Value -> Prop} (h:BinP P op t xo yo x y K):∃ v,(∀ w,(do eqGuard op t xo yo x y; binOp op t x y:Sem Value).run P w = .ok v w) /\ K v:=by
 unfold BinP at h
 split at h
 ·split at h
  ·split at h
   ·rename_i c ms _ hu
    obtain ⟨b,hb,h⟩:=h
    exact ⟨_,fun w=>EN (Uf (.inl rfl) hb) (eql_if hb) (eqIn_if hu hb),h⟩
   ·exact h.elim
  ·split at h
   ·rename_i c ms _ hu
    obtain ⟨b,hb,h⟩:=h
    exact ⟨_,fun w=>EP (Uf (.inr rfl) hb) (neq_if hb) (eqIn_if hu hb),h⟩
   ·exact h.elim
  ·exact h.elim
 ·split at h
  ·split at h
   ·rename_i ms hu
    obtain ⟨b,hb,h⟩:=h
    refine ⟨_,fun w=>?_,h⟩
    simp only [Sem.run_bind,guard_I,Result.andThen_ok,eql_I hb,LW (eqIn_I (w:=w) hu hb),Sem.run_pure]
   ·exact h.elim
  ·split at h
   ·rename_i ms hu
    obtain ⟨b,hb,h⟩:=h
    refine ⟨_,fun w=>?_,h⟩
    simp only [Sem.run_bind,guard_I,Result.andThen_ok,neq_I hb,LW (eqIn_I (w:=w) hu hb),Sem.run_pure]
   ·exact h.elim
  ·exact h.elim
 ·exact BinM.run h
theorem LA {k:IntKind}:∀ (vs:List Value) (x m:Int),Vu k x vs = some m -> (vs.foldlM Builtin.max2 (.int k x)).run P w = .ok (.int k m) w
 | [],x,m,h=>by simp [Vu] at h; subst h; rfl
 | v :: vs,x,m,h=>by
  cases v <;> first | (simp [Vu] at h; done) | skip
  rename_i k' y
  simp only [Vu] at h
  have ih:=LA vs _ m h
  simp only [List.foldlM_cons,Builtin.max2,Sem.run_bind,Sem.run_pure,Result.andThen_ok,ih]
theorem LC {k:IntKind}:∀ (vs:List Value) (x m:Int),Vv k x vs = some m -> (vs.foldlM Builtin.min2 (.int k x)).run P w = .ok (.int k m) w
 | [],x,m,h=>by simp [Vv] at h; subst h; rfl
 | v :: vs,x,m,h=>by
  cases v <;> first | (simp [Vv] at h; done) | skip
  rename_i k' y
  simp only [Vv] at h
  have ih:=LC vs _ m h
  simp only [List.foldlM_cons,Builtin.min2,Sem.run_bind,Sem.run_pure,Result.andThen_ok,ih]
theorem LY {fs:Array Field}:∀ (l:List Field) (out:List (Nat × Nat)),(∀ f ∈ l,(P.info? f.type).isSome = true) ->
  (l.mapM fun f=>(do pure (f.offset,<- sizeOf f.type):Sem (Nat × Nat))).run P w = .ok (l.map fun f=>(f.offset,P.cellsOf f.type)) w
 | [],_,_=>by simp
 | f :: l,out,h=>by
  have h0:=h f (List.mem_cons_self ..)
  obtain ⟨i,hi⟩:=Option.isSome_iff_exists.1 h0
  have ih:=LY (fs:=fs) l out (fun f hf=>h f (List.mem_cons_of_mem _ hf))
  have hc:P.cellsOf f.type = i.size:=by simp [Program.cellsOf,hi]
  simp only [List.mapM_cons,Sem.run_bind,At hi,Result.andThen_ok,Sem.run_pure,ih,List.map_cons,hc]
theorem Pt (l:Fr) (parts:Array (Nat × Operand)):(parts.map fun (p:Nat × Operand)=>match p with | (i,x)=>(i,ev l x)) = (evs l parts).toArray:=by
 rw [evs]; exact (Array.toArray_toList (xs:=parts.map _)).symm.trans (by simp)
theorem UG {fs:Array Field} (h:∀ f ∈ fs.toList,(P.info? f.type).isSome = true) :
  (fs.mapM fun f=>(do pure (f.offset,<- sizeOf f.type):Sem (Nat × Nat))).run P w = .ok (fs.map fun f=>(f.offset,P.cellsOf f.type)) w:=by
 have:=LY (P:=P) (w:=w) (fs:=fs) fs.toList [] h
 obtain ⟨l⟩:=fs
 dsimp only at this
 simp only [List.mapM_toArray,Sem.run_map,this,Result.andThen_ok,List.map_toArray]
theorem run_build {t:TypeId} {parts:Array (Nat × Operand)} {fs:Array Field} {i:TypeInfo} {z:Value} {cs:Array Value} (ho:o.op = .build t parts) (hu:P.underlying t = some (.struct fs)) (hi:P.info? t = some i)
  (hiz:i.zero = some z) (hall:∀ f ∈ fs.toList,(P.info? f.type).isSome = true) (hf:Nu P fs.toList z.cells (evs l parts) = some cs):(execOp (ev l) o).run P w = .ok (.value (.agg cs)) w:=by
 have hfill:∀ place:Nat -> Option (Nat × Nat),(∀ i f,fs.toList[i]? = some f -> place i = some (f.offset,P.cellsOf f.type)) -> Instr.fill place z.cells (evs l parts) = some cs:=fun place hp=>U8 hp _ _ _ hf
 have hp:(fs.mapM fun f=>Prod.mk f.offset <$> sizeOf f.type).run P w = .ok (fs.map fun f=>(f.offset,P.cellsOf f.type)) w:=by simpa using UG (P:=P) (w:=w) hall
 have h1:=hfill (fun x=>Option.map (fun f=>(f.offset,P.cellsOf f.type)) fs[x]?) (fun i f hf=>by simp at hf; simp [hf])
 simp [execOp,ho,Instr.build,zeroValue,typeInfo,program,Sem.run,hi,hiz,run_underlying hu,hp,Pt,h1]
theorem LV {t e:TypeId} {len:Nat} {parts:Array (Nat × Operand)} {i:TypeInfo} {z:Value} {cs:Array Value} (ho:o.op = .buildSlice t len parts) (hu:P.underlying t = some (.slice e)) (hi:P.info? e = some i)
  (hz:i.zero = some z) (h1:z.cells.size = i.size) (h2:len * i.size <= 16777216) (hf:Nt i.size (AG len z.cells.toList).toArray (evs l parts) = some cs) :
  (execOp (ev l) o).run P w = .ok (.value (.slice (some ⟨w.heap.size,0,none⟩) len len)) { w with heap:=w.heap.push (.cells cs e (0,0)) }:=by
 have hfill:=U7 _ _ _ hf
 rw [<- Pz,h1] at hfill
 have h2' : ¬ (len * i.size > 2 ^ 24):=by omega
 by_cases h0:len * i.size = 0
 ·have e0:Array.range 0 = #[]:=rfl
  rw [h0,e0] at hfill
  rw [Array.map_empty] at hfill
  simp [execOp,ho,Instr.buildSlice,run_underlying hu,At hi,h0,Pt,newRow,newObj,Sem.run,hfill,e0]
 ·simp [execOp,ho,Instr.buildSlice,run_underlying hu,At hi,h0,h2',Pt,newRow,newObj,Sem.run,zeroValue,typeInfo,program,hi,hz,h1,hfill]
theorem W9 {t e:TypeId} {x y:Operand} {k k':IntKind} {len cap:Int} {i:TypeInfo} {z:Value} (ho:o.op = .makeSlice t x y) (hu:P.underlying t = some (.slice e)) (hx:ev l x = .int k len) (hy:ev l y = .int k' cap)
  (hi:P.info? e = some i) (hz:i.zero = some z) (hb:z.cells.size = i.size) (h0:0 <= len) (h1:len <= cap) (h2:cap <= 9223372036854775807) (h3:i.bytes * cap <= 281474976710656) :
  (execOp (ev l) o).run P w = .ok (.value (.slice (some ⟨w.heap.size,0,none⟩) len.toNat cap.toNat)) { w with heap:=w.heap.push (.cells (AG cap.toNat z.cells.toList).toArray e (0,0)) }:=by
 have hr:=run_make (P:=P) w t e i z hu hi hz k k' len cap h0 h1 h3 h2
 have he:madeCells z.cells (cap.toNat * i.size) = (AG cap.toNat z.cells.toList).toArray:=by
  have:=Pz cap.toNat z.cells
  rw [hb] at this
  rw [<- this,madeCells,hb]
 rw [he] at hr
 simp only [execOp,ho,hx,hy,Sem.run_bind,hr,Result.andThen_ok,Sem.run_pure]
 rfl
theorem FX {isS:Bool} {len cap:Nat} {lo hi:Option Value} {n1 n2:Nat}
  (hr1:(match hi with | some v=>Instr.sliceBound v cap (if isS then .sliceAcap else .sliceAlen) | none=>pure len:Sem Nat).run P w = .ok n1 w)
  (hr2:(match lo with | some v=>Instr.sliceBound v n1 .sliceB | none=>pure 0:Sem Nat).run P w = .ok n2 w) :
  (Instr.sliceBounds isS len cap lo hi none).run P w = .ok (n2,n1,cap) w:=by
 unfold Instr.sliceBounds
 cases hi with
 | none=>
  have:len = n1:=by simpa using hr1
  subst this
  cases lo with
  | none=>
       have:0 = n2:=by simpa using hr2
       subst this; simp
  | some v=>simp only [Sem.run_bind,Sem.run_pure,Result.andThen_ok,Option.isSome_none,Bool.false_eq_true,if_false] at hr2 ⊢; rw [hr2]; simp
 | some u=>
  cases lo with
  | none=>
       have:0 = n2:=by simpa using hr2
       subst this
       simp only [Sem.run_bind,Sem.run_pure,Result.andThen_ok] at hr1 ⊢; rw [hr1]; simp
  | some v=>simp only [Sem.run_bind,Sem.run_pure,Result.andThen_ok,Option.isSome_none,Bool.false_eq_true,if_false] at hr1 hr2 ⊢; rw [hr1]; simp only [Result.andThen_ok]; rw [hr2]; simp
theorem run_slStr {t:TypeId} {x:Operand} {lo hi:Option Operand} {s:ByteArray} {n1 n2:Nat} (ho:o.op = .slice t x lo hi none) (hu:P.underlying t = some .string) (hx:ev l x = .string s)
  (hr1:(match hi.map (ev l) with | some v=>Instr.sliceBound v s.size .sliceAlen | none=>pure s.size).run P w = .ok n1 w)
  (hr2:(match lo.map (ev l) with | some v=>Instr.sliceBound v n1 .sliceB | none=>pure 0).run P w = .ok n2 w):(execOp (ev l) o).run P w = .ok (.value (.string (s.extract n2 n1))) w:=by
 have hb:=FX (P:=P) (w:=w) (isS:=false) (by simpa using hr1) hr2
 simp [execOp,ho,Instr.sliceAt,run_underlying hu,Instr.slice,hx,hb]
theorem run_slSl {t e:TypeId} {x:Operand} {lo hi:Option Operand} {ad:Option Addr} {len cap:Nat} {inf:TypeInfo} {n1 n2:Nat} (ho:o.op = .slice t x lo hi none) (hu:P.underlying t = some (.slice e)) (hx:ev l x = .slice ad len cap)
  (hinf:P.info? e = some inf)
  (hr1:(match hi.map (ev l) with | some v=>Instr.sliceBound v cap .sliceAcap | none=>pure len).run P w = .ok n1 w)
  (hr2:(match lo.map (ev l) with | some v=>Instr.sliceBound v n1 .sliceB | none=>pure 0).run P w = .ok n2 w) :
  (execOp (ev l) o).run P w = .ok (.value (.slice (Bk ad cap n2 inf.size) (n1 - n2) (cap - n2))) w:=by
 have hb:=FX (P:=P) (w:=w) (isS:=true) (by simpa using hr1) hr2
 simp [execOp,ho,Instr.sliceAt,run_underlying hu,Instr.slice,hx,hb,At hinf,Bk]
theorem run_slAr {t e:TypeId} {x:Operand} {lo hi:Option Operand} {ad:Addr} {len:Nat} {inf:TypeInfo} {n1 n2:Nat} (ho:o.op = .slice t x lo hi none) (hu:P.underlying t = some (.array len e)) (hx:ev l x = .pointer (some ad))
  (hinf:P.info? e = some inf)
  (hr1:(match hi.map (ev l) with | some v=>Instr.sliceBound v len .sliceAlen | none=>pure len).run P w = .ok n1 w)
  (hr2:(match lo.map (ev l) with | some v=>Instr.sliceBound v n1 .sliceB | none=>pure 0).run P w = .ok n2 w) :
  (execOp (ev l) o).run P w = .ok (.value (.slice (Bk (some ad) len n2 inf.size) (n1 - n2) (len - n2))) w:=by
 have hb:=FX (P:=P) (w:=w) (isS:=false) (by simpa using hr1) hr2
 simp [execOp,ho,Instr.sliceAt,run_underlying hu,Instr.sureAddr,hx,hb,At hinf,Bk]
 split <;> rfl
theorem run_slMx {t e:TypeId} {x mx hi:Operand} {lo:Option Operand} {ad:Option Addr} {len cap:Nat} {inf:TypeInfo} {n0 n1 n2:Nat} (ho:o.op = .slice t x lo (some hi) (some mx)) (hu:P.underlying t = some (.slice e)) (hx:ev l x = .slice ad len cap)
  (hinf:P.info? e = some inf) (hr0:(Instr.sliceBound (ev l mx) cap .slice3Acap).run P w = .ok n0 w) (hr1:(Instr.sliceBound (ev l hi) n0 .slice3B).run P w = .ok n1 w)
  (hr2:(match lo.map (ev l) with | some v=>Instr.sliceBound v n1 .slice3C | none=>pure 0).run P w = .ok n2 w) :
  (execOp (ev l) o).run P w = .ok (.value (.slice (Bk ad n0 n2 inf.size) (n1 - n2) (n0 - n2))) w:=by
 have hb:(Instr.sliceBounds true len cap (lo.map (ev l)) (some (ev l hi)) (some (ev l mx))).run P w = .ok (n2,n1,n0) w:=by
  unfold Instr.sliceBounds
  cases lo with
  | none=>
   have:0 = n2:=by simpa using hr2
   subst this
   simp [hr0,hr1]
  | some v=>simp at hr2; simp [hr0,hr1,hr2]
 simp [execOp,ho,Instr.sliceAt,run_underlying hu,Instr.slice,hx,hb,At hinf,Bk]
def mapT (P:Program) (t:TypeId):Bool:=match P.underlying t with | some (.map _ _)=>true | _=>false
def MZ (P:Program):Op -> Bool
 | .lookup ..=>true
 | .convert s d _=>(match P.underlying s,P.underlying d with | some (.slice _),some .string=>true | some (.pointer _),some .unsafePointer=>true | some .unsafePointer,some (.pointer _)=>true | _,_=>false)
 | .call { callee:=.builtin .len,argTypes,.. }=>argTypes.toList.any (mapT P)
 | _=>false
def E7 (P:Program) (op:Op):Bool:=match MZ P op with
 | true=>false
 | false=>match op with
  | .move _ | .assign _ | .nilCheck _ | .build .. | .indexAddr .. | .index .. | .slice .. | .binOp .. | .unOp .. | .extract .. | .field .. | .fieldAddr .. | .pick .. | .makeInterface ..=>true
  | .convert s d _=>(match P.underlying s,P.underlying d with | some .string,some (.slice _)=>false | _,_=>true)
  | .call { callee:=.builtin b,.. }=>match b with
   | .len | .cap | .max | .min | .unsafeSliceData | .complex | .real | .imag=>true
   | _=>false
  | _=>false
theorem Jd.run {b:Nat} {cs:Array Value} {e:TypeId} (h:Jd I S b cs e) (hw:AT I S w):w.shape? b = some (e,cs.size):=by
 obtain ⟨fz,h⟩:=h
 have:w.heap[b]? = some (.cells cs e fz):=by
  rcases h with h | h
  ·exact hw.im _ _ h
  ·exact hw.own _ h
 simp [World.shape?,this]
theorem UK {b:Nat} {x:TypeId × Nat} (h:w.shape? b = some x):(viewAt b).run P w = .ok none w:=by
 simp [viewAt,shape,Sem.run,h]
theorem PD {s d t:TypeId} {ad:Addr} {cs:Array Value} {e:TypeId} (hs:P.underlying s = some (.pointer t)) (hd:P.underlying d = some .unsafePointer) (ht:P.cellsOf t ≠ 0) (hi:∃ i,P.info? t = some i) (hb:Jd I S ad.block cs e) (ho:ad.off < cs.size) (hw:AT I S w) :
  (convert s d (.pointer (some ad))).run P w = .ok (.pointer (some ad)) w:=by
 have h1:=hb.run hw
 obtain ⟨i,hi⟩:=hi
 have hz:i.size ≠ 0:=by rwa [Program.cellsOf,hi] at ht
 have h2:(Conv.seenAt ad).run P w = .ok ad w:=by simp [Conv.seenAt,UK h1]
 have h3:(cellsIn ad.block).run P w = .ok (some cs.size) w:=by simp [cellsIn,shape,Sem.run,h1]
 have h4 : ¬ (cs.size <= ad.off):=by omega
 simp [convert,run_underlying hs,run_underlying hd,Conv.unsafePointer,h2,h3,At hi,hz,h4]
theorem PC {s d t:TypeId} {ad:Addr} {cs:Array Value} {e:TypeId} (hs:P.underlying s = some .unsafePointer) (hd:P.underlying d = some (.pointer t)) (ht:P.cellsOf t ≠ 0) (hi:∃ i,P.info? t = some i) (hb:Jd I S ad.block cs e)
  (hl:liesAt P P.depth e (cs.size / P.cellsOf e) ad.off t 1 = true) (hw:AT I S w):(convert s d (.pointer (some ad))).run P w = .ok (.pointer (some ad)) w:=by
 have h1:=hb.run hw
 obtain ⟨i,hi⟩:=hi
 have hz:i.size ≠ 0:=by rwa [Program.cellsOf,hi] at ht
 have h2:(Conv.seenAt ad).run P w = .ok ad w:=by simp [Conv.seenAt,UK h1]
 have h3:(variablesAt ad t 1).run P w = .ok true w:=by simp [variablesAt,program,shape,Sem.run,h1,hl]
 simp [convert,run_underlying hs,run_underlying hd,Conv.unsafePointer,h2,h3,At hi,hz]
theorem FB {t:TypeId} (h:P.cellsOf t ≠ 0):∃ i,P.info? t = some i:=by
 cases hi:P.info? t with
 | none=>simp [Program.cellsOf,hi] at h
 | some i=>exact ⟨i,rfl⟩
theorem Ji.run {r:Nat} {es:Array MapEntry} {clock:Nat} (h:Ji I S r es clock) (hw:AT I S w):w.heap[r]? = some (.map es clock):=by
 rcases h with h | h
 ·exact hw.im _ _ h
 ·exact hw.own _ h
theorem N2 {kt:TypeId} {kd:TypeDesc} {k:Value} {e:Bool} (hu:P.underlying kt = some kd) (hk:Lq kd = true) (n:Nat):(Instr.checkKey e (n + 1) kt k).run P w = .ok () w:=by
 simp only [Instr.checkKey,Sem.run_bind,run_underlying hu,Result.andThen_ok]
 cases kd <;> first | (simp [Lq] at hk; done) | simp
theorem Bq {kt:TypeId} {kd:TypeDesc} {k:Value} {e:Bool} (hu:P.underlying kt = some kd) (hk:Lq kd = true):(Instr.checkKey e 10000 kt k).run P w = .ok () w:=N2 hu hk 9999
theorem Cb {kt:TypeId} {kd:TypeDesc} {k:Value} {es:List MapEntry} {r:Option (Nat × Value)} (hu:P.underlying kt = some kd) (h:Instr.findNow kd k es 0 = some r):(Instr.findKey kt k es).run P w = .ok r w:=by
 simp only [Instr.findKey,Sem.run_bind,run_underlying hu,Result.andThen_ok,h,Sem.run_pure]
theorem UL {t:TypeId} {z:Value} (h:(P.info? t).bind (·.zero) = some z):(zeroValue t).run P w = .ok z w:=by
 obtain ⟨i,hi,hz⟩:=Option.bind_eq_some_iff.1 h
 simp [zeroValue,typeInfo,program,Sem.run,hi,hz]
theorem W8 {t kt et:TypeId} {kd:TypeDesc} {m:Option Nat} {k z v:Value} {ok b:Bool} (hu:P.underlying t = some (.map kt et)) (hk:P.underlying kt = some kd) (hz:(P.info? et).bind (·.zero) = some z) (hkd:Lq kd = true)
  (h:N8 I S m kd k z v b) (hw:AT I S w):(Instr.lookup t (.map m) k ok).run P w = .ok (lkV ok v b) w:=by
 obtain ⟨es,hm,hf⟩:=h
 have tail:∀ es':Array MapEntry,es' = es -> (do
   Instr.checkKey es'.isEmpty 10000 kt k
   let (v,ok') <- match <- Instr.findKey kt k es'.toList with
    | some (_,v)=>pure (v,true)
    | none=>pure (<- zeroValue et,false)
   pure (if ok then .tuple #[v,.bool ok'] else v):Sem Value).run P w = .ok (lkV ok v b) w:=by
  rintro _ rfl
  rcases hf with ⟨i,hf,rfl⟩ | ⟨hf,rfl,rfl⟩
  ·simp only [Sem.run_bind,Bq hk hkd,Result.andThen_ok,Cb hk hf,Sem.run_pure]
   cases ok <;> rfl
  ·simp only [Sem.run_bind,Bq hk hkd,Result.andThen_ok,Cb hk hf,Sem.run_pure,UL hz]
   cases ok <;> rfl
 unfold Instr.lookup
 simp only [Sem.run_bind,run_underlying hu,Result.andThen_ok]
 cases m with
 | none=>
  subst hm
  have:=tail #[] rfl
  simp only [Sem.run_bind,Sem.run_pure,Result.andThen_ok] at this ⊢
  exact this
 | some r=>
  obtain ⟨clock,hc⟩:=hm
  have hg:(getObj r).run P w = .ok (.map es clock) w:=by simp [getObj,Sem.run,hc.run hw]
  have:=tail es rfl
  simp only [Sem.run_bind,Sem.run_pure,Result.andThen_ok,hg] at this ⊢
  exact this
theorem Nn {r:TypeId -> Value -> Bool} {e:Bool} {d:Nat} {xs:Array Value} (hr:∀ t x,r t x = true -> (Instr.checkKey e d t x).run P w = .ok () w):∀ {fs:List Field},ZU P r xs fs = true ->
  (forIn fs PUnit.unit (fun f _=>(do
                     if f.name ≠ "_" then Instr.checkKey e d f.type (<- part f.type xs f.offset)
                     pure (ForInStep.yield PUnit.unit):Sem (ForInStep PUnit)))).run P w = .ok PUnit.unit w
 | [],_=>by simp
 | f :: fs,h=>by
  unfold ZU at h
  split at h
  ·rename_i x hn hx
   simp only [Bool.and_eq_true] at h
   have hn' : f.name ≠ "_" := of_decide_eq_false hn
   rw [List.forIn_cons]
   simp only [if_pos hn',Sem.run_bind,HF hx,Result.andThen_ok,hr _ _ h.1,Sem.run_pure]
   exact Nn hr h.2
  ·cases h
theorem TN {e:Bool}:∀ (n:Nat) {t:TypeId} {v:Value} (d:Nat),JH P n t v = true -> (Instr.checkKey e (d + n) t v).run P w = .ok () w
 | 0,_,_,_,h=>by simp [JH] at h
 | n + 1,t,v,d,h=>by
  unfold JH at h
  split at h
  ·cases h
  ·rename_i td hu
   rw [show d + (n + 1) = (d + n) + 1 by omega]
   unfold Instr.checkKey
   simp only [Sem.run_bind,run_underlying hu,Result.andThen_ok]
   split at h
   ·rename_i fs xs
    have:=Nn (P:=P) (w:=w) (e:=e) (d:=d + n) (fun t x hx=>TN n d hx) h
    simp only [<- Array.forIn_toList] at this ⊢
    simpa using this
   all_goals first | rfl | (cases h; done) | (simp; done)
theorem C8 {kt:TypeId} {k:Value} {e:Bool} (h:JH P 4 kt k = true):(Instr.checkKey e 10000 kt k).run P w = .ok () w:=TN 4 9996 h
theorem LU {t:TypeId} {k:Value}:∀ {es:List MapEntry} {i:Nat} {r:Option (Nat × Value)},DM P t k es i = some r -> (Instr.findAsking t k es i).run P w = .ok r w
 | [],i,r,h=>by injection h with h; subst h; rfl
 | e :: es,i,r,h=>by
  unfold DM at h
  unfold Instr.findAsking
  split at h
  ·rename_i hq
   injection h with h; subst h
   have he:(Op.equal t k e.key).run P w = .ok true w:=Pe 4 t _ _ true 9996 hq
   simp only [Sem.run_bind,he,Result.andThen_ok,if_true,Sem.run_pure]
  ·rename_i hq
   have he:(Op.equal t k e.key).run P w = .ok false w:=Pe 4 t _ _ false 9996 hq
   simp only [Sem.run_bind,he,Result.andThen_ok,Bool.false_eq_true,if_false]
   exact LU h
  ·cases h
theorem CR {kt:TypeId} {kd:TypeDesc} {k:Value} {es:List MapEntry} {r:Option (Nat × Value)} (hu:P.underlying kt = some kd) (hs:Uh kd = true) (h:DM P kt k es 0 = some r):(Instr.findKey kt k es).run P w = .ok r w:=by
 simp only [Instr.findKey,Sem.run_bind,run_underlying hu,Result.andThen_ok]
 cases es with
 | nil=>injection h with h; subst h; rfl
 | cons e es=>
  have:Instr.findNow kd k (e :: es) 0 = none:=by
   cases kd <;> first | (cases hs; done) | rfl
  rw [this]
  exact LU h
theorem UF {t kt et:TypeId} {kd:TypeDesc} {m:Option Nat} {k z v:Value} {ok b:Bool} (hu:P.underlying t = some (.map kt et)) (hk:P.underlying kt = some kd) (hz:(P.info? et).bind (·.zero) = some z) (hs:Uh kd = true) (hc:JH P 4 kt k = true)
  (h:FH P kt I S m k z v b) (hw:AT I S w):(Instr.lookup t (.map m) k ok).run P w = .ok (lkV ok v b) w:=by
 obtain ⟨es,hm,hf⟩:=h
 have tail:∀ es':Array MapEntry,es' = es -> (do
   Instr.checkKey es'.isEmpty 10000 kt k
   let (v,ok') <- match <- Instr.findKey kt k es'.toList with
    | some (_,v)=>pure (v,true)
    | none=>pure (<- zeroValue et,false)
   pure (if ok then .tuple #[v,.bool ok'] else v):Sem Value).run P w = .ok (lkV ok v b) w:=by
  rintro _ rfl
  rcases hf with ⟨i,hf,rfl⟩ | ⟨hf,rfl,rfl⟩
  ·simp only [Sem.run_bind,C8 hc,Result.andThen_ok,CR hk hs hf,Sem.run_pure]
   cases ok <;> rfl
  ·simp only [Sem.run_bind,C8 hc,Result.andThen_ok,CR hk hs hf,Sem.run_pure,UL hz]
   cases ok <;> rfl
 unfold Instr.lookup
 simp only [Sem.run_bind,run_underlying hu,Result.andThen_ok]
 cases m with
 | none=>
  subst hm
  have:=tail #[] rfl
  simp only [Sem.run_bind,Sem.run_pure,Result.andThen_ok] at this ⊢
  exact this
 | some r=>
  obtain ⟨clock,hc⟩:=hm
  have hg:(getObj r).run P w = .ok (.map es clock) w:=by simp [getObj,Sem.run,hc.run hw]
  have:=tail es rfl
  simp only [Sem.run_bind,Sem.run_pure,Result.andThen_ok,hg] at this ⊢
  exact this
theorem run_bytes {p:Option Addr} {m c:Nat} {s:ByteArray} (h:Aw I S p m s) (hw:AT I S w):(Conv.bytesToString (.slice p m c)).run P w = .ok (.string s) w:=by
 cases p with
 | none=>
  have:s = ByteArray.empty:=h
  subst this; simp [Conv.bytesToString]
 | some a=>
  obtain ⟨rfl,hc⟩:=h
  have hcells:(loadCells a s.size).run P w = .ok (s.data.toList.map fun c=>Value.int .u8 (c.toNat:Int)).toArray w:=by
   have:=Dx (P:=P) (w:=w) (a:=a) (s.data.toList.map fun c=>Value.int .u8 (c.toNat:Int)) 0 #[] (fun j v hj=>by
    rw [List.getElem?_map] at hj
    obtain ⟨c,hc',rfl⟩:=Option.map_eq_some_iff.1 hj
    rw [Nat.zero_add]
    refine (hc j c ?_).run hw
    by_cases hlt:j < s.size
    ·rw [getElem?_pos s j hlt,<- hc',List.getElem?_eq_getElem (by simpa using hlt)]; rfl
    ·rw [List.getElem?_eq_none (by simpa using hlt)] at hc'; cases hc')
   simpa [loadCells] using this
  have loop:∀ (f:Value -> ByteArray -> Sem (ForInStep ByteArray)),(∀ (c:UInt8) s,f (.int .u8 (c.toNat:Int)) s = pure (ForInStep.yield (s.push (UInt8.ofNat (c.toNat:Int).toNat)))) ->
    ∀ (l:List UInt8) (acc:ByteArray),(forIn (l.map fun c=>Value.int .u8 (c.toNat:Int)) acc f:Sem ByteArray).run P w = .ok ⟨acc.data ++ l.toArray⟩ w:=by
   intro f hf l
   induction l with
   | nil=>intro acc; simp
   | cons c l ih=>
    intro acc
    simp only [List.map_cons,List.forIn_cons,Sem.run_bind,Sem.run_pure,Result.andThen_ok,hf]
    rw [ih]
    congr 1
    apply ByteArray.ext
    simp [ByteArray.push]
  simp only [Conv.bytesToString,Sem.run_bind,hcells,Result.andThen_ok]
  rw [List.forIn_toArray,loop _ (fun c s=>rfl)]
  simp only [Result.andThen_ok,Sem.run_pure]
  congr 2
  apply ByteArray.ext
  simp
theorem Wp (hq:MZ P o.op = true) (h:Bn P n o K l I S):∃ v,(∀ w,AT I S w -> (execOp (ev l) o).run P w = .ok (.value v) w) /\ Ai n o.dst v K l I S:=by
 unfold Bn at h
 split at h
 all_goals first
  | (rename_i ho; rw [ho] at hq; cases hq; done)
  | skip
 ·rename_i t x ix ok ho
  split at h
  ·rename_i kt et m hu hx
   split at h
   ·rename_i kd z hk hz
    split at h
    ·rename_i hkd
     obtain ⟨v,b,hm,hp⟩:=DL h
     exact ⟨_,fun w hw=>by simp only [execOp,ho,hx,Sem.run_bind,W8 hu hk hz hkd hm hw,Result.andThen_ok,Sem.run_pure],hp⟩
    ·split at h
     ·rename_i hb
      simp only [Bool.and_eq_true] at hb
      obtain ⟨v,b,hm,hp⟩:=DL h
      exact ⟨_,fun w hw=>by simp only [execOp,ho,hx,Sem.run_bind,UF hu hk hz hb.1 hb.2 hm hw,Result.andThen_ok,Sem.run_pure],hp⟩
     ·exact h.elim
   ·exact h.elim
  ·exact h.elim
 ·rename_i sr d x ho
  split at h
  ·rename_i e hs hd
   split at h
   ·rename_i p m c he hx
    obtain ⟨s,hb,hp⟩:=h
    exact ⟨_,fun w hw=>by simp only [execOp,ho,hx,convert,Sem.run_bind,run_underlying hs,run_underlying hd,run_underlying he,run_bytes hb hw,Result.andThen_ok,Sem.run_pure],hp⟩
   ·exact h.elim
  ·rename_i t hs hd
   split at h
   ·rename_i p hx
    split at h
    ·rename_i hz
     obtain ⟨ad,rfl,cs,e,hb,hlt,hp⟩:=Ff h
     have hz:=Nat.ne_of_beq_eq_false hz
     exact ⟨_,fun w hw=>by simp only [execOp,ho,hx,Sem.run_bind,PD hs hd hz (FB hz) hb hlt hw,Result.andThen_ok,Sem.run_pure],hp⟩
    ·exact h.elim
   ·exact h.elim
  ·rename_i t hs hd
   split at h
   ·rename_i p hx
    split at h
    ·rename_i hz
     obtain ⟨ad,rfl,cs,e,hb,hlt,hp⟩:=Ff h
     have hz:=Nat.ne_of_beq_eq_false hz
     exact ⟨_,fun w hw=>by simp only [execOp,ho,hx,Sem.run_bind,PC hs hd hz (FB hz) hb hlt hw,Result.andThen_ok,Sem.run_pure],hp⟩
    ·exact h.elim
   ·exact h.elim
  ·rename_i e hs hd
   rw [ho] at hq
   simp [MZ,hs,hd] at hq
  ·rename_i hno hno2 hno3 hno4
   rw [ho] at hq
   unfold MZ at hq
   dsimp only at hq
   split at hq
   ·rename_i e hs hd; exact absurd hd (hno _ hs)
   ·rename_i e hs hd; exact absurd hd (hno2 _ hs)
   ·rename_i e hs hd; exact absurd hd (hno3 _ hs)
   ·cases hq
 ·rename_i c ho
  obtain ⟨callee,⟨args⟩,⟨argTypes⟩⟩:=c
  dsimp only at h
  rw [ho] at hq
  split at h
  ·cases hq
  ·rename_i t x
   split at h
   ·rename_i s hu hx; simp [MZ,mapT,hu] at hq
   ·rename_i e _ m _ hu hx; simp [MZ,mapT,hu] at hq
   ·rename_i kt et m hu hx
    obtain ⟨c,hl,hp⟩:=h
    refine ⟨_,fun w hw=>?_,hp⟩
    cases m with
    | none=>
     have:c = 0:=hl
     subst this
     simp [execOp,ho,resolve,invoke,builtin,Builtin.len_,hx,run_underlying hu,goInt]
    | some r=>
     obtain ⟨es,clock,hc,rfl⟩:=hl
     simp [execOp,ho,resolve,invoke,builtin,Builtin.len_,hx,run_underlying hu,goInt,getObj,Sem.run,hc.run hw]
   ·exact h.elim
  all_goals first | exact h.elim | (simp [MZ] at hq; done)
 ·unfold MZ at hq
  split at hq
  ·rename_i ho; exact absurd (‹∀ (t:TypeId) (x ix:Operand) (ok:Bool),o.op = Op.lookup t x ix ok -> False› _ _ _ _ ho) id
  ·rename_i ho; exact absurd (‹∀ (s d:TypeId) (x:Operand),o.op = Op.convert s d x -> False› _ _ _ ho) id
  ·rename_i ho; exact absurd (‹∀ (c:Call),o.op = Op.call c -> False› _ ho) id
  ·cases hq
theorem Gn {kd:TypeDesc} {k:Value}:∀ {es:List MapEntry} {j i:Nat} {v:Value},Instr.findNow kd k es j = some (some (i,v)) -> ∃ e,j <= i /\ es[i - j]? = some e /\ Instr.sameNow kd k e.key = some true /\ e.val = v
 | [],j,i,v,h=>by simp [Instr.findNow] at h
 | e :: es,j,i,v,h=>by
  unfold Instr.findNow at h
  split at h
  ·rename_i hs
   injection h with h; injection h with h; injection h with h1 h2
   subst h1
   exact ⟨e,Nat.le_refl _,by simp,hs,h2⟩
  ·obtain ⟨e',h1,h2,h3⟩:=Gn h
   exact ⟨e',by omega,by rw [show i - j = (i - (j + 1)) + 1 by omega]; simpa using h2,h3⟩
  ·cases h
theorem Cz {a b:ByteArray}:(a == b) = true ↔ a = b:=by
 constructor
 ·intro h
  apply ByteArray.ext
  exact eq_of_beq (α:=Array UInt8) h
 ·rintro rfl
  exact beq_self_eq_true (α:=Array UInt8) a.data
theorem PE {kd:TypeDesc} {k k':Value} (h:Instr.sameNow kd k k' = some true) (n:Nat):Instr.sameBits n k' k = true:=by
 unfold Instr.sameNow at h
 split at h
 ·split at h
  ·rename_i e; subst e
   injection h with h
   have:=eq_of_beq h
   subst this
   simp [Instr.sameBits]
  ·cases h
 ·injection h with h
  have:=Cz.1 h
  subst this
  simp only [Instr.sameBits]
  exact Cz.2 rfl
 ·injection h with h
  have:=eq_of_beq h
  subst this
  simp [Instr.sameBits]
 ·cases h
theorem E8 {r i:Nat} {es es':Array MapEntry} {clock clock':Nat} (hi:S[i]? = some (r,.map es clock)) (hw:AT I S w):∃ w',(setObj r (.map es' clock')).run P w = .ok () w' /\ AT I (S.set i (r,.map es' clock')) w':=by
 have hr:=hw.own _ (List.mem_of_getElem? hi)
 dsimp only at hr
 refine ⟨{ w with heap:=w.heap.setIfInBounds r (.map es' clock') },by simp [setObj,Sem.run,hr],hw.set hi rfl rfl rfl ?_ ?_ rfl⟩
 ·have:r < w.heap.size:=by
   rcases Nat.lt_or_ge r w.heap.size with h | h
   ·exact h
   ·rw [Array.getElem?_eq_none h] at hr; cases hr
  simp [this]
 ·intro b' hb
  show (w.heap.setIfInBounds r (.map es' clock'))[b']? = _
  rw [Array.getElem?_setIfInBounds,if_neg (fun e=>hb e.symm)]
theorem BH {r i:Nat} {es:Array MapEntry} {clock:Nat} (hi:S[i]? = some (r,.map es clock)) (hw:AT I S w):(getObj r).run P w = .ok (.map es clock) w:=by
 have hr:=hw.own _ (List.mem_of_getElem? hi)
 dsimp only at hr
 simp [getObj,Sem.run,hr]
theorem UJ {r i:Nat} {m:Option Nat} {a b:Nat} {sn:Array Nat} {o':Obj} (hi:S[i]? = some (r,.mapIter m a sn b)) (hw:AT I S w):∃ w',(setObj r o').run P w = .ok () w' /\ AT I (S.set i (r,o')) w':=by
 have hr:=hw.own _ (List.mem_of_getElem? hi)
 dsimp only at hr
 refine ⟨{ w with heap:=w.heap.setIfInBounds r o' },by simp [setObj,Sem.run,hr],hw.set hi rfl rfl rfl ?_ ?_ rfl⟩
 ·have:r < w.heap.size:=by
   rcases Nat.lt_or_ge r w.heap.size with h | h
   ·exact h
   ·rw [Array.getElem?_eq_none h] at hr; cases hr
  simp [this]
 ·intro b' hb
  show (w.heap.setIfInBounds r o')[b']? = _
  rw [Array.getElem?_setIfInBounds,if_neg (fun e=>hb e.symm)]
theorem NxP.run {ad:Addr} {K0:Prop} {K1:Value -> Value -> SH -> Prop} {ty:TypeId} (h:NxP I S ad K0 K1) (hw:AT I S w) :
  ∃ v w' T,(Instr.next (.pointer (some ad)) false ty).run P w = .ok v w' /\ AT I T w' /\ ((v = .tuple #[.bool false] /\ T = S /\ K0) \/ ∃ k u,v = .tuple #[.bool true,k,u] /\ K1 k u T):=by
 obtain ⟨i,m,since,seen,last,es,clock,h0,hi,hm,hl,hb,hK0,hK1⟩:=h
 obtain ⟨blk,off,sp⟩:=ad
 dsimp only at h0 hi; subst h0
 have hr:=hw.own _ (List.mem_of_getElem? hi)
 dsimp only at hr
 have hg:(getObj blk).run P w = .ok (.mapIter (some m) since seen last) w:=by simp [getObj,Sem.run,hr]
 have hgm:(getObj m).run P w = .ok (.map es clock) w:=by simp [getObj,Sem.run,hm.run hw]
 have hold:(es.filter fun e=>!seen.contains e.born).filter (·.born < since) = es.filter fun e=>!seen.contains e.born:=by
  apply Array.filter_eq_self.2
  intro e he
  simp only [Array.mem_filter] at he
  simpa using hb e he.1
 have hnew:(es.filter fun e=>!seen.contains e.born).filter (·.born >= since) = #[]:=by
  apply Array.eq_empty_of_size_eq_zero
  rw [Array.size_eq_zero_iff,Array.filter_eq_empty_iff]
  intro e he
  simp only [Array.mem_filter] at he
  have:=hb e he.1
  simp; omega
 have hno:(!seen.isEmpty && !es.isEmpty && es.all (·.born >= last)) = false:=by
  cases hes:es.isEmpty with
  | true=>simp
  | false=>
   have hne:0 < es.size:=by
    rcases Nat.eq_zero_or_pos es.size with h | h
    ·simp [Array.isEmpty,h] at hes
    ·exact h
   have h1:es.all (·.born >= last) = false:=by
    rw [Array.all_eq_false]
    refine ⟨0,hne,?_⟩
    have:=hb es[0] (Array.getElem_mem hne)
    simp; omega
   simp [h1]
 cases hle:(es.filter fun e=>!seen.contains e.born).isEmpty with
 | true=>
  have hall:∀ e ∈ es,seen.contains e.born = true:=by
   have:=Array.isEmpty_iff.1 hle
   rw [Array.filter_eq_empty_iff] at this
   intro e he
   simpa using this e he
  refine ⟨.tuple #[.bool false],w,S,?_,hw,.inl ⟨rfl,rfl,hK0 hall⟩⟩
  simp only [Instr.next,Sem.run_bind,hg,hgm,Result.andThen_ok,hno,hold,hnew,hle,Bool.false_eq_true,if_false,if_true,Sem.run_pure,Array.append_empty]
  have hem:=Array.isEmpty_iff.1 hle
  rw [hem]
  simp [choose,Sem.run,Question.forced]
 | false=>
  have hpos:0 < (es.filter fun e=>!seen.contains e.born).size:=by
   rcases Nat.eq_zero_or_pos (es.filter fun e=>!seen.contains e.born).size with h | h
   ·rw [Array.eq_empty_of_size_eq_zero h] at hle; cases hle
   ·exact h
  have hch:∀ c,0 < c -> ∃ j w',(choose (.mapNext c)).run P w = .ok j w' /\ j < c /\ (w' = w \/ w' = { w with drawn:=w.drawn + 1 }):=by
   intro c hc
   by_cases hf:c <= 1
   ·exact ⟨0,w,by simp [choose,Sem.run,Question.forced,hf],hc,.inl rfl⟩
   ·exact ⟨w.tape w.drawn (.mapNext c) % c,{ w with drawn:=w.drawn + 1 },by simp [choose,Sem.run,Question.forced,hf,Question.cut],Nat.mod_lt _ hc,.inr rfl⟩
  obtain ⟨j,w1,hj,hjl,hw1⟩:=hch _ hpos
  have hs1:AT I S w1:=by rcases hw1 with rfl | rfl; exact hw; exact hw.drew
  have hmem:=Array.getElem_mem hjl
  simp only [Array.mem_filter,Bool.not_eq_true'] at hmem
  obtain ⟨w',h1,h2⟩:=UJ (P:=P) (o':=.mapIter (some m) since (seen.push ((es.filter fun e=>!seen.contains e.born)[j]).born) clock) hi hs1
  refine ⟨_,w',_,?_,h2,.inr ⟨_,_,rfl,hK1 _ hmem.1 hmem.2⟩⟩
  have hcs:(((es.filter fun e=>!seen.contains e.born).map some).size) = (es.filter fun e=>!seen.contains e.born).size:=by simp
  simp only [Instr.next,Sem.run_bind,hg,hgm,Result.andThen_ok,hno,hold,hnew,hle,Bool.false_eq_true,if_false,Sem.run_pure,Array.append_empty,Array.empty_append,hcs,hj]
  have hget:((es.filter fun e=>!seen.contains e.born).map some)[j]? = some (some ((es.filter fun e=>!seen.contains e.born)[j])):=by simp [hjl]
  rw [hget]
  simp only [Sem.run_bind,h1,Result.andThen_ok,Sem.run_pure]
theorem FD {t kt et:TypeId} {kd:TypeDesc} {m:Option Nat} {k v:Value} {K:SH -> Prop} (hu:P.underlying t = some (.map kt et)) (hk:P.underlying kt = some kd) (hkd:Lq kd = true) (h:CE S m kd k v K) (hw:AT I S w) :
  ∃ T w',(Instr.mapUpdate t (.map m) k v).run P w = .ok () w' /\ AT I T w' /\ K T:=by
 obtain ⟨r,i,es,clock,es',clock',rfl,hi,hs,hK⟩:=h
 obtain ⟨w',h1,h2⟩:=E8 (P:=P) (es':=es') (clock':=clock') hi hw
 refine ⟨_,w',?_,h2,hK⟩
 unfold Ps at hs
 split at hs
 ·rename_i j u hf
  injection hs with hs
  injection hs with e1 e2
  subst e1; subst e2
  obtain ⟨e,_,he,hsame,_⟩:=Gn hf
  have hk':(Instr.keyThatStays (((es[j]?).map (·.key)).getD k) k).run P w = .ok k w:=by
   have hej:es[j]? = some e:=by simpa using he
   rw [hej]
   unfold Instr.keyThatStays
   rw [if_pos (by simpa using PE hsame _)]
   rfl
  simp only [Instr.mapUpdate,Sem.run_bind,run_underlying hu,Result.andThen_ok,BH hi hw,Bq hk hkd,Cb hk hf,hk']
  exact h1
 ·rename_i hf
  injection hs with hs
  injection hs with e1 e2
  subst e1; subst e2
  simp only [Instr.mapUpdate,Sem.run_bind,run_underlying hu,Result.andThen_ok,BH hi hw,Bq hk hkd,Cb hk hf]
  exact h1
 ·cases hs
theorem W7 {t t2 ty kt et:TypeId} {kd:TypeDesc} {m:Option Nat} {k:Value} {K:SH -> Prop} (hu:P.underlying t = some (.map kt et)) (hk:P.underlying kt = some kd) (hkd:Lq kd = true) (h:MapDl S m kd k K) (hw:AT I S w) :
  ∃ T w',(Builtin.delete_ #[t,t2] ty #[.map m,k]).run P w = .ok (.tuple #[]) w' /\ AT I T w' /\ K T:=by
 cases m with
 | none=>exact ⟨S,w,by simp [Builtin.delete_,run_underlying hu,Bq hk hkd],hw,h⟩
 | some r=>
  obtain ⟨i,es,clock,es',hi,hd,hK⟩:=h
  obtain ⟨w',h1,h2⟩:=E8 (P:=P) (es':=es') (clock':=clock) hi hw
  refine ⟨_,w',?_,h2,hK⟩
  unfold mapDel at hd
  split at hd
  ·rename_i j u hf
   injection hd with hd; subst hd
   simp [Builtin.delete_,run_underlying hu,Bq hk hkd,BH hi hw,Cb hk hf,h1]
  ·rename_i hf
   injection hd with hd; subst hd
   simp [Builtin.delete_,run_underlying hu,Bq hk hkd,BH hi hw,Cb hk hf,h1]
  ·cases hd
theorem LX {t kt et:TypeId} {kd:TypeDesc} {m:Option Nat} {k v:Value} {K:SH -> Prop} (hu:P.underlying t = some (.map kt et)) (hk:P.underlying kt = some kd) (hs:Uh kd = true) (hc:JH P 4 kt k = true) (h:Vt P kt S m k v K) (hw:AT I S w) :
  ∃ T w',(Instr.mapUpdate t (.map m) k v).run P w = .ok () w' /\ AT I T w' /\ K T:=by
 obtain ⟨r,i,es,clock,es',clock',rfl,hi,hq,hK⟩:=h
 obtain ⟨w',h1,h2⟩:=E8 (P:=P) (es':=es') (clock':=clock') hi hw
 refine ⟨_,w',?_,h2,hK⟩
 rcases hq with ⟨j,u,hf,hkey,hsb,rfl,rfl⟩ | ⟨hf,rfl,rfl⟩
 ·have hk':(Instr.keyThatStays (((es[j]?).map (·.key)).getD k) k).run P w = .ok k w:=by
   rw [hkey]
   unfold Instr.keyThatStays
   rw [if_pos (by simpa using hsb)]
   rfl
  simp only [Instr.mapUpdate,Sem.run_bind,run_underlying hu,Result.andThen_ok,BH hi hw,C8 hc,CR hk hs hf,hk']
  exact h1
 ·simp only [Instr.mapUpdate,Sem.run_bind,run_underlying hu,Result.andThen_ok,BH hi hw,C8 hc,CR hk hs hf]
  exact h1
theorem UD {t t2 ty kt et:TypeId} {kd:TypeDesc} {m:Option Nat} {k:Value} {K:SH -> Prop} (hu:P.underlying t = some (.map kt et)) (hk:P.underlying kt = some kd) (hs:Uh kd = true) (hc:JH P 4 kt k = true) (h:Vs P kt S m k K) (hw:AT I S w) :
  ∃ T w',(Builtin.delete_ #[t,t2] ty #[.map m,k]).run P w = .ok (.tuple #[]) w' /\ AT I T w' /\ K T:=by
 cases m with
 | none=>exact ⟨S,w,by simp [Builtin.delete_,run_underlying hu,C8 hc],hw,h⟩
 | some r=>
  obtain ⟨i,es,clock,es',hi,hq,hK⟩:=h
  obtain ⟨w',h1,h2⟩:=E8 (P:=P) (es':=es') (clock':=clock) hi hw
  refine ⟨_,w',?_,h2,hK⟩
  rcases hq with ⟨j,u,hf,rfl⟩ | ⟨hf,rfl⟩
  ·simp [Builtin.delete_,run_underlying hu,C8 hc,BH hi hw,CR hk hs hf,h1]
  ·simp [Builtin.delete_,run_underlying hu,C8 hc,BH hi hw,CR hk hs hf,h1]
theorem LZ {at':Array TypeId} {ty:TypeId} {m c:Nat}:(Builtin.unsafeSliceData_ at' ty #[.slice none m c]).run P w = .ok (.pointer none) w:=rfl
theorem M0 {at':Array TypeId} {ty:TypeId} {m c:Nat} {ad:Addr} (hc:c ≠ 0):(Builtin.unsafeSliceData_ at' ty #[.slice (some ad) m c]).run P w = .ok (.pointer (some ad)) w:=by
 show (if c ≠ 0 then (pure (Value.pointer (some ad)):Sem Value) else _).run P w = _
 rw [if_pos hc]; rfl
theorem DT (h:match Be P (execOp (ev l) o) with | some (.value v)=>Ai n o.dst v K l I S | _=>False) :
  ∃ v,(∀ w,(execOp (ev l) o).run P w = .ok (.value v) w) /\ Ai n o.dst v K l I S:=by
 split at h
 ·rename_i v he
  exact ⟨v,fun w=>CP he,h⟩
 ·exact h.elim
theorem Bn.val (hq:E7 P o.op = true) (h:Bn P n o K l I S):∃ v,(∀ w,(execOp (ev l) o).run P w = .ok (.value v) w) /\ Ai n o.dst v K l I S:=by
 unfold Bn at h
 split at h
 ·rename_i x ho
  exact ⟨_,fun w=>by simp [execOp,ho],h⟩
 ·rename_i x ho
  exact ⟨_,fun w=>by simp [execOp,ho],h⟩
 ·rename_i ho; rw [ho] at hq; cases hq
 ·rename_i ho; rw [ho] at hq; cases hq
 ·rename_i ho; rw [ho] at hq; cases hq
 ·rename_i ho; rw [ho] at hq; cases hq
 ·rename_i x ho
  split at h
  ·rename_i p hx
   obtain ⟨ad,rfl,h⟩:=Ff h
   exact ⟨_,fun w=>by simp [execOp,ho,hx],h⟩
  ·rename_i f fs cs hx
   exact ⟨_,fun w=>by simp [execOp,ho,hx],h⟩
  ·exact h.elim
 ·rename_i t parts ho
  split at h
  ·rename_i fs z hu hz
   split at h
   ·rename_i cs hall hf
    obtain ⟨i,hi,hiz⟩:=Option.bind_eq_some_iff.1 hz
    exact ⟨_,fun w=>run_build ho hu hi hiz (fun f hm=>List.all_eq_true.1 hall f hm) hf,h⟩
   ·exact h.elim
  ·exact h.elim
 ·rename_i ho; rw [ho] at hq; cases hq
 ·rename_i ho; rw [ho] at hq; cases hq
 ·rename_i t x ix ho
  split at h
  ·rename_i e base len _ k i hu hx hix
   split at h
   ·rename_i inf hinf
    obtain ⟨ad,rfl,h0,h1,h⟩:=Ff h
    exact ⟨_,fun w=>by simp [execOp,ho,Instr.indexAt,asIntOf,hx,hix,run_underlying hu,h0,h1,At hinf],h⟩
   ·exact h.elim
  ·rename_i len e ad k i hu hx hix
   split at h
   ·rename_i inf hinf
    obtain ⟨h0,h1,h⟩:=h
    exact ⟨_,fun w=>by simp [execOp,ho,Instr.indexAt,Instr.sureAddr,asIntOf,hx,hix,run_underlying hu,h0,h1,At hinf],h⟩
   ·exact h.elim
  ·exact h.elim
 ·rename_i t x ix ho
  split at h
  ·rename_i s k i hu hx hix
   obtain ⟨c,h0,hc,h⟩:=h
   exact ⟨_,fun w=>by simp [execOp,ho,Instr.index,asIntOf,hx,hix,run_underlying hu,h0,hc],h⟩
  ·exact DT h
 ·rename_i t x lo hi mx ho
  split at h
  ·rename_i s hu hx
   obtain ⟨n1,hr1,h⟩:=Ds.run (P:=P) (code:=.sliceAlen) h
   obtain ⟨n2,hr2,h⟩:=Ds.run (P:=P) (code:=.sliceB) h
   exact ⟨_,fun w=>run_slStr ho hu hx (hr1 w) (hr2 w),h⟩
  ·rename_i e ad len cap hu hx
   split at h
   ·rename_i inf hinf
    obtain ⟨n1,hr1,h⟩:=Ds.run (P:=P) (code:=.sliceAcap) h
    obtain ⟨n2,hr2,h⟩:=Ds.run (P:=P) (code:=.sliceB) h
    exact ⟨_,fun w=>run_slSl ho hu hx hinf (hr1 w) (hr2 w),h⟩
   ·exact h.elim
  ·rename_i e ad len cap mx hu hx
   split at h
   ·rename_i inf hi hinf
    obtain ⟨n0,hr0,h⟩:=Ds.run (P:=P) (code:=.slice3Acap) h
    obtain ⟨n1,hr1,h⟩:=Ds.run (P:=P) (code:=.slice3B) h
    obtain ⟨n2,hr2,h⟩:=Ds.run (P:=P) (code:=.slice3C) h
    exact ⟨_,fun w=>run_slMx ho hu hx hinf (hr0 w) (hr1 w) (hr2 w),h⟩
   ·exact h.elim
  ·rename_i ln e ad hu hx
   split at h
   ·rename_i inf hinf
    obtain ⟨n1,hr1,h⟩:=Ds.run (P:=P) (code:=.sliceAlen) h
    obtain ⟨n2,hr2,h⟩:=Ds.run (P:=P) (code:=.sliceB) h
    exact ⟨_,fun w=>run_slAr ho hu hx hinf (hr1 w) (hr2 w),h⟩
   ·exact h.elim
  ·exact h.elim
 ·rename_i ho; rw [ho] at hq; cases hq
 ·rename_i ho; rw [ho] at hq; cases hq
 ·rename_i ho; rw [ho] at hq; cases hq
 ·rename_i ho; rw [ho] at hq; cases hq
 ·rename_i ho; rw [ho] at hq; cases hq
 ·rename_i ho; rw [ho] at hq; cases hq
 ·rename_i ho; rw [ho] at hq; cases hq
 ·rename_i ho; rw [ho] at hq; cases hq
 ·rename_i sr d x ho
  rw [ho] at hq
  split at h
  ·rename_i e hs hd
   simp [E7,MZ,hs,hd] at hq
  ·rename_i e hs hd
   simp [E7,MZ,hs,hd] at hq
  ·rename_i e hs hd
   simp [E7,MZ,hs,hd] at hq
  ·rename_i e hs hd
   simp [E7,MZ,hs,hd] at hq
  ·exact DT h
 ·rename_i op t x y t' ho
  obtain ⟨v,hr,hK⟩:=BinP.run (P:=P) h
  exact ⟨v,fun w=>by simp only [execOp,ho,Sem.run_bind,hr,Result.andThen_ok,Sem.run_pure],hK⟩
 ·rename_i c ho
  obtain ⟨callee,⟨args⟩,⟨argTypes⟩⟩:=c
  dsimp only at h
  split at h
  ·rw [ho] at hq; cases hq
  ·rename_i t x
   split at h
   ·rename_i s hu hx
    exact ⟨_,fun w=>by simp [execOp,ho,resolve,invoke,builtin,Builtin.len_,hx,run_underlying hu,goInt],h⟩
   ·rename_i e _ m _ hu hx
    exact ⟨_,fun w=>by simp [execOp,ho,resolve,invoke,builtin,Builtin.len_,hx,run_underlying hu,goInt],h⟩
   ·rename_i hu hx
    rw [ho] at hq
    simp [E7,MZ,mapT,hu] at hq
   ·exact h.elim
  ·rw [ho] at hq; cases hq
  ·rename_i t x
   split at h
   ·rename_i e _ _ m hu hx
    exact ⟨_,fun w=>by simp [execOp,ho,resolve,invoke,builtin,Builtin.cap_,hx,run_underlying hu,goInt],h⟩
   ·exact h.elim
  ·rename_i x rest
   split at h
   ·rename_i k b hx
    split at h
    ·rename_i m hm
     refine ⟨_,fun w=>?_,h⟩
     have:=LA (P:=P) (w:=w) _ _ _ hm
     simp only [execOp,ho,resolve,invoke,builtin,Builtin.max_,Sem.run_bind,Sem.run_pure,Result.andThen_ok,List.map_toArray,List.map_cons,hx,this]
    ·exact h.elim
   ·exact h.elim
  ·rename_i x rest
   split at h
   ·rename_i k b hx
    split at h
    ·rename_i m hm
     refine ⟨_,fun w=>?_,h⟩
     have:=LC (P:=P) (w:=w) _ _ _ hm
     simp only [execOp,ho,resolve,invoke,builtin,Builtin.min_,Sem.run_bind,Sem.run_pure,Result.andThen_ok,List.map_toArray,List.map_cons,hx,this]
    ·exact h.elim
   ·exact h.elim
  ·rw [ho] at hq; cases hq
  ·rename_i t x
   split at h
   ·rename_i e p _ c hu hx
    obtain ⟨hc,hp⟩:=h
    refine ⟨_,fun w=>?_,hp⟩
    cases p with
    | none=>simp only [execOp,ho,resolve,invoke,builtin,Sem.run_bind,Sem.run_pure,Result.andThen_ok,List.map_toArray,List.map_cons,List.map_nil,hx,LZ]
    | some ad=>simp only [execOp,ho,resolve,invoke,builtin,Sem.run_bind,Sem.run_pure,Result.andThen_ok,List.map_toArray,List.map_cons,List.map_nil,hx,M0 (hc rfl)]
   ·exact h.elim
  ·rw [ho] at hq; cases hq
  ·rw [ho] at hq; cases hq
  ·rw [ho] at hq; cases hq
  ·exact DT h
  ·exact DT h
  ·exact DT h
  ·exact h.elim
 ·exact DT h
def E9 (P:Program) (op:Op):Bool:=E7 P op || MZ P op
theorem Bn.still (hq:E9 P o.op = true) (h:Bn P n o K l I S):∃ v,(∀ w,AT I S w -> (execOp (ev l) o).run P w = .ok (.value v) w) /\ Ai n o.dst v K l I S:=by
 cases hr:MZ P o.op with
 | true=>exact Wp hr h
 | false=>
  obtain ⟨v,hv,hp⟩:=h.val (by simpa [E9,hr] using hq)
  exact ⟨v,fun w _=>hv w,hp⟩
theorem N3 {n:Nat} {ad:Addr} {s:ByteArray} {acc:ByteArray} (hsp:ad.spot = none) (hn:s.size = n) (h:∀ (i:Nat) (c:UInt8),s[i]? = some c -> w.cell? (ad.add i) = some (.int .u8 (c.toNat:Int))) :
  (loadBytes ad acc n).run P w = .ok (acc ++ s) w:=by
 have key:∀ (k:Nat) (acc:ByteArray) (j:Nat),j + k = n -> (loadBytes (ad.add j) acc k).run P w = .ok (acc ++ s.extract j n) w:=by
  intro k
  induction k with
  | zero=>
   intro acc j hj
   have:s.extract j n = ByteArray.empty:=by
    apply ByteArray.ext
    simp [ByteArray.data_extract]
    omega
   rw [this]
   simp [loadBytes]
  | succ k ih=>
   intro acc j hj
   have hlt:j < s.size:=by omega
   have hc:=h j _ (getElem?_pos s j hlt)
   have hl:(load (ad.add j)).run P w = .ok (.int .u8 ((s[j]'hlt).toNat:Int)) w:=by simp [load,Sem.run,hc]
   simp only [loadBytes,Sem.run_bind,hl,Result.andThen_ok]
   have hadd:(ad.add j).add 1 = ad.add (j + 1):=by
    obtain ⟨b,o,sp⟩:=ad
    dsimp only at hsp; subst hsp
    have e:∀ k,(⟨b,o,none⟩:Addr).add k = ⟨b,o + k,none⟩:=fun k=>by
     unfold Addr.add; split
     ·rename_i h; subst h; rfl
     ·rfl
    rw [e,e]
    have e':(⟨b,o + j,none⟩:Addr).add 1 = ⟨b,o + j + 1,none⟩:=rfl
    rw [e',Nat.add_assoc]
   rw [hadd,ih _ (j + 1) (by omega)]
   congr 1
   have hx:s.extract j n = ByteArray.empty.push (s[j]'hlt) ++ s.extract (j + 1) n:=by
    apply ByteArray.ext
    simp only [ByteArray.data_extract,ByteArray.data_append,ByteArray.data_push]
    apply Array.ext'
    simp only [Array.toList_extract,Array.toList_append,Array.toList_push,ByteArray.data_empty,List.extract_eq_take_drop,List.nil_append]
    have hd:s.data.toList.drop j = s[j]'hlt :: s.data.toList.drop (j + 1):=by
     rw [List.drop_eq_getElem_cons (by simpa using hlt)]; rfl
    rw [hd,show n - j = (n - (j + 1)) + 1 by omega,List.take_succ_cons]
    rfl
   rw [hx]
   have hb:(s[j]'hlt).toNat.toUInt8 = s[j]'hlt:=by simp
   apply ByteArray.ext
   simp [ByteArray.data_append,ByteArray.data_push,hb]
 have:=key n acc 0 (by omega)
 have e0:ad.add 0 = ad:=rfl
 rw [e0] at this
 rw [this]
 have:s.extract 0 n = s:=by rw [<- hn]; exact ByteArray.extract_zero_size
 rw [this]
theorem UsP.run {t t' ty u:TypeId} {k:IntKind} {p:Option Addr} {m:Int} {K:ByteArray -> SH -> Prop} (hu:P.underlying t = some (.pointer u)) (h:UsP P u I S p m K) (hw:AT I S w) :
  ∃ s w' T,(Builtin.unsafeString_ #[t,t'] ty #[.pointer p,.int k m]).run P w = .ok (.string s) w' /\ AT I T w' /\ K s T:=by
 rcases h with ⟨rfl,hK⟩ | ⟨ad,i,cs,e,fz,s,rfl,h0,h1,hi,hl,hb,hK⟩
 ·refine ⟨_,w,S,?_,hw,hK⟩
  have e:Builtin.unsafeString_ #[t,t'] ty #[.pointer p,.int k 0] = (asInt (.int k 0) >>= fun n=>_):=rfl
  rw [e,Sem.run_bind,BN,Sem.run_pure,Result.andThen_ok]
  cases p <;> simp
 ·have hown:=hw.own _ (List.mem_of_getElem? hi)
  dsimp only at hown
  have hsh:w.shape? ad.block = some (e,cs.size):=by simp [World.shape?,hown]
  have hva:(variablesAt ad u m.toNat).run P w = .ok true w:=by simp [variablesAt,program,shape,Sem.run,hsh,hl]
  have hel:(elemOf t).run P w = .ok u w:=by simp [elemOf,run_underlying hu]
  obtain ⟨hbs,hbc⟩:=hb
  have hpos:0 < s.size:=by omega
  have hsp:ad.spot = none:=by
   obtain ⟨h,_⟩:=hbc 0 _ (getElem?_pos s 0 hpos)
   exact h
  have hld:=N3 (P:=P) (w:=w) (acc:=ByteArray.empty) hsp hbs (fun i c hc=>(hbc i c hc).run hw)
  have hn0 : ¬ (m = 0):=by omega
  have hn1 : ¬ (m < 0):=by omega
  have hn2 : ¬ (m > 9223372036854775807):=by omega
  refine ⟨s,w.freeze ad m.toNat,_,?_,hw.set (w':=w.freeze ad m.toNat) hi ?_ ?_ ?_ ?_ ?_ (by simp only [World.freeze]; split <;> rfl),hK⟩
  ·have e:Builtin.unsafeString_ #[t,t'] ty #[.pointer (some ad),.int k m] = (asInt (.int k m) >>= fun n=>_):=rfl
   rw [e,Sem.run_bind,BN,Sem.run_pure,Result.andThen_ok]
   simp [hn0,hn1,hn2,hva,hel,hld,freeze,Sem.run]
  all_goals (have hn3:m.toNat ≠ 0:=by omega)
  ·simp [World.freeze,hn3]
  ·simp [World.freeze,hn3]
  ·simp [World.freeze,hn3]
  ·simp only [World.freeze,hn3,if_false]
   rw [Array.getElem?_modify,if_pos rfl,hown]
   rfl
  ·intro b' hne
   simp only [World.freeze,hn3,if_false]
   rw [Array.getElem?_modify,if_neg (fun e=>hne e.symm)]
theorem Vg.run {t ty e:TypeId} {i:TypeInfo} {z:Value} {p:Option Addr} {m c:Nat} {K:SH -> Prop} (hu:P.underlying t = some (.slice e)) (hi:P.info? e = some i) (hz:i.zero = some z) (h:Vg z.cells.toList S p m K) (hw:AT I S w) :
  ∃ w' T,(Builtin.clear_ #[t] ty #[.slice p m c]).run P w = .ok (.tuple #[]) w' /\ AT I T w' /\ K T:=by
 rcases h with ⟨rfl,hK⟩ | ⟨ad,rfl,hm,hst⟩
 ·refine ⟨w,S,?_,hw,hK⟩
  cases p <;> simp [Builtin.clear_,run_underlying hu]
 ·obtain ⟨T,w',h1,h2,h3⟩:=hst.runC (P:=P) hw
  refine ⟨w',T,?_,h2,h3⟩
  obtain ⟨k,rfl⟩:∃ k,m = k + 1:=⟨m - 1,by omega⟩
  have hzc:=BJ z.cells (k + 1)
  simp [Builtin.clear_,run_underlying hu,zeroValue,typeInfo,hi,hz,hzc,h1]
theorem VH {c:Call} (ho:o.op = .call c) (h:match c.callee,c.argTypes.toList,c.args.toList with
  | .value f,_,args=>(match ev l f with
   | .func (.func fid) fs cs=>(match CZ P fid with
    | true=>Runs P fid (fs.toList ++ args.map (ev l) ++ cs.toList).toArray I S fun v J T=>VC P o.type v fun v=>Ai n o.dst v K l J T
    | false=>DC P fid (fs.toList ++ args.map (ev l) ++ cs.toList).toArray I S fun v J T=>VC P o.type v fun v=>Ai n o.dst v K l J T)
   | _=>False)
  | .builtin .len,[t],[x]=>(match P.underlying t,ev l x with
   | some .string,.string s=>Ai n o.dst (.int .i64 (s.size:Int)) K l I S
   | some (.slice _),.slice _ m _=>Ai n o.dst (.int .i64 (m:Int)) K l I S
   | some (.map _ _),.map m=>∃ c:Nat,Hh I S m c /\ Ai n o.dst (.int .i64 (c:Int)) K l I S
   | _,_=>False)
  | .builtin .delete,[t,_],[x,k]=>(match P.underlying t,ev l x with
   | some (.map kt _),.map m=>(match P.underlying kt with
    | some kd=>(match Lq kd with
     | true=>MapDl S m kd (ev l k) fun T=>Ai n o.dst (.tuple #[]) K l I T
     | false=>(match Uh kd && JH P 4 kt (ev l k) with
      | true=>Vs P kt S m (ev l k) fun T=>Ai n o.dst (.tuple #[]) K l I T
      | false=>False))
    | none=>False)
   | _,_=>False)
  | .builtin .cap,[t],[x]=>(match P.underlying t,ev l x with
   | some (.slice _),.slice _ _ m=>Ai n o.dst (.int .i64 (m:Int)) K l I S
   | _,_=>False)
  | .builtin .max,_,x :: rest=>(match ev l x with
   | .int k a=>(match Vu k a (rest.map (ev l)) with | some m=>Ai n o.dst (.int k m) K l I S | none=>False)
   | _=>False)
  | .builtin .min,_,x :: rest=>(match ev l x with
   | .int k a=>(match Vv k a (rest.map (ev l)) with | some m=>Ai n o.dst (.int k m) K l I S | none=>False)
   | _=>False)
  | .builtin .append,[t,t'],[s,x]=>(match P.underlying t with
   | some (.slice e)=>(match P.info? e with
    | some i=>(match i.zero with
     | some z=>(match Nat.beq z.cells.size i.size && Nat.blt 0 i.size with
      | true=>Ay e i.size i.bytes z.cells.toList (P.underlying t') I S (ev l s) (ev l x) fun p m c T=>Ai n o.dst (.slice p m c) K l I T
      | false=>False)
     | none=>False)
    | none=>False)
   | _=>False)
  | .builtin .unsafeSliceData,[t],[x]=>(match P.underlying t,ev l x with
   | some (.slice _),.slice p _ c=>(p.isSome = true -> c ≠ 0) /\ Ai n o.dst (.pointer p) K l I S
   | _,_=>False)
  | .builtin .unsafeString,[t,_],[x,y]=>(match P.underlying t,ev l x,ev l y with
   | some (.pointer u),.pointer p,.int _ m=>UsP P u I S p m fun s T=>Ai n o.dst (.string s) K l I T
   | _,_,_=>False)
  | .builtin .clear,[t],[x]=>(match P.underlying t,ev l x with
   | some (.slice e),.slice p m _=>(match (P.info? e).bind (·.zero) with
    | some z=>Vg z.cells.toList S p m fun T=>Ai n o.dst (.tuple #[]) K l I T
    | none=>False)
   | _,_=>False)
  | .builtin .copy,[t,_],[d,x]=>(match P.underlying t with
   | some (.slice e)=>(match P.info? e with
    | some i=>Ct i.size I S (ev l d) (ev l x) fun m T=>Ai n o.dst (.int .i64 (m:Int)) K l I T
    | none=>False)
   | _=>False)
  | .builtin .complex,_,_=>(match Be P (execOp (ev l) o) with | some (.value v)=>Ai n o.dst v K l I S | _=>False)
  | .builtin .real,_,_=>(match Be P (execOp (ev l) o) with | some (.value v)=>Ai n o.dst v K l I S | _=>False)
  | .builtin .imag,_,_=>(match Be P (execOp (ev l) o) with | some (.value v)=>Ai n o.dst v K l I S | _=>False)
  | _,_,_=>False) (hw:AT I S w) (ha:Bg n l a):o.wp P a w (NX n I K) Q:=by
 obtain ⟨callee,⟨args⟩,⟨argTypes⟩⟩:=c
 dsimp only at h
 split at h
 ·rename_i f _ _
  split at h
  ·rename_i fid fs cs hf
   split at h
   ·rename_i hc
    refine wp_enter ?_ h hw ha
    unfold CZ at hc
    split at hc
    ·rename_i fn hfn
     simp only [Bool.and_eq_true,Bool.not_eq_true'] at hc
     have hb:fn.body.isNone = false:=by cases hbd:fn.body <;> simp [hbd] at hc ⊢
     have hca:fs ++ (args.map (ev l)).toArray ++ cs = (fs.toList ++ args.map (ev l) ++ cs.toList).toArray:=by simp
     simp only [execOp,ho,resolve,hf,Deferred.ofValue,Sem.run_bind,Sem.run_pure,Result.andThen_ok,invoke,List.map_toArray,hca]
     simp only [callFunc,program,Sem.run,Sem.run_bind,Result.andThen_ok,hfn,hc.1,hb,Bool.false_eq_true,if_false,Sem.run_pure]
    ·cases hc
   ·obtain ⟨v,w',J,T,hr,hle,hs,hv⟩:=h w hw
    have hca:fs ++ (args.map (ev l)).toArray ++ cs = (fs.toList ++ args.map (ev l) ++ cs.toList).toArray:=by simp
    have hx:(execOp (ev l) o).run P w = .ok (.value v) w':=by
     simp only [execOp,ho,resolve,hf,Deferred.ofValue,Sem.run_bind,Sem.run_pure,Result.andThen_ok,invoke,List.map_toArray,hca,hr]
    simp only [Oper.wp,ha.eval,hx,Oper.upon]
    exact (Nf hv).nx ha hle hs
  ·exact h.elim
 ·rename_i t x
  split at h
  ·rename_i s hu hx
   refine Ar ?_ h hw ha
   simp [execOp,ho,resolve,invoke,builtin,Builtin.len_,hx,run_underlying hu,goInt]
  ·rename_i e _ m _ hu hx
   refine Ar ?_ h hw ha
   simp [execOp,ho,resolve,invoke,builtin,Builtin.len_,hx,run_underlying hu,goInt]
  ·rename_i kt et m hu hx
   obtain ⟨c,hl,hp⟩:=h
   refine Ar ?_ hp hw ha
   cases m with
   | none=>
    have:c = 0:=hl
    subst this
    simp [execOp,ho,resolve,invoke,builtin,Builtin.len_,hx,run_underlying hu,goInt]
   | some r=>
    obtain ⟨es,clock,hc,rfl⟩:=hl
    simp [execOp,ho,resolve,invoke,builtin,Builtin.len_,hx,run_underlying hu,goInt,getObj,Sem.run,hc.run hw]
  ·exact h.elim
 ·rename_i t t2 x k
  split at h
  ·rename_i kt et m hu hx
   split at h
   ·rename_i kd hk
    split at h
    ·rename_i hkd
     obtain ⟨T,w',hr,hs,hK⟩:=W7 (t2:=t2) (ty:=o.type) hu hk hkd h hw
     refine Ar ?_ hK hs ha
     simp only [execOp,ho,resolve,invoke,builtin,Sem.run_bind,Sem.run_pure,Result.andThen_ok,List.map_toArray,List.map_cons,List.map_nil,hx,hr]
    ·split at h
     ·rename_i hb
      simp only [Bool.and_eq_true] at hb
      obtain ⟨T,w',hr,hs,hK⟩:=UD (t2:=t2) (ty:=o.type) hu hk hb.1 hb.2 h hw
      refine Ar ?_ hK hs ha
      simp only [execOp,ho,resolve,invoke,builtin,Sem.run_bind,Sem.run_pure,Result.andThen_ok,List.map_toArray,List.map_cons,List.map_nil,hx,hr]
     ·exact h.elim
   ·exact h.elim
  ·exact h.elim
 ·rename_i t x
  split at h
  ·rename_i e _ _ m hu hx
   refine Ar ?_ h hw ha
   simp [execOp,ho,resolve,invoke,builtin,Builtin.cap_,hx,run_underlying hu,goInt]
  ·exact h.elim
 ·rename_i x rest
  split at h
  ·rename_i k b hx
   split at h
   ·rename_i m hm
    refine Ar ?_ h hw ha
    have:=LA (P:=P) (w:=w) _ _ _ hm
    simp only [execOp,ho,resolve,invoke,builtin,Builtin.max_,Sem.run_bind,Sem.run_pure,Result.andThen_ok,List.map_toArray,List.map_cons,hx,this]
   ·exact h.elim
  ·exact h.elim
 ·rename_i x rest
  split at h
  ·rename_i k b hx
   split at h
   ·rename_i m hm
    refine Ar ?_ h hw ha
    have:=LC (P:=P) (w:=w) _ _ _ hm
    simp only [execOp,ho,resolve,invoke,builtin,Builtin.min_,Sem.run_bind,Sem.run_pure,Result.andThen_ok,List.map_toArray,List.map_cons,hx,this]
   ·exact h.elim
  ·exact h.elim
 ·rename_i t t' s x
  split at h
  ·rename_i e hu
   split at h
   ·rename_i i hi
    split at h
    ·rename_i z hz
     split at h
     ·rename_i hb
      simp only [Bool.and_eq_true] at hb
      obtain ⟨p,m,cc,w',T,hr,hs,hK⟩:=Ay.run (P:=P) (ty:=o.type) hu hi hz (Nat.eq_of_beq_eq_true hb.1) (by simpa using hb.2) h hw
      refine Ar ?_ hK hs ha
      simp only [execOp,ho,resolve,invoke,builtin,Sem.run_bind,Sem.run_pure,Result.andThen_ok,List.map_toArray,List.map_cons,List.map_nil,hr]
     ·exact h.elim
    ·exact h.elim
   ·exact h.elim
  ·exact h.elim
 ·rename_i t x
  split at h
  ·rename_i e p _ c hu hx
   obtain ⟨hc,hp⟩:=h
   refine Ar ?_ hp hw ha
   cases p with
   | none=>simp only [execOp,ho,resolve,invoke,builtin,Sem.run_bind,Sem.run_pure,Result.andThen_ok,List.map_toArray,List.map_cons,List.map_nil,hx,LZ]
   | some ad=>simp only [execOp,ho,resolve,invoke,builtin,Sem.run_bind,Sem.run_pure,Result.andThen_ok,List.map_toArray,List.map_cons,List.map_nil,hx,M0 (hc rfl)]
  ·exact h.elim
 ·rename_i t t' x y
  split at h
  ·rename_i u p k m hu hx hy
   obtain ⟨s,w',T,hr,hs,hK⟩:=UsP.run (t':=t') (ty:=o.type) (k:=k) hu h hw
   refine Ar ?_ hK hs ha
   simp only [execOp,ho,resolve,invoke,builtin,Sem.run_bind,Sem.run_pure,Result.andThen_ok,List.map_toArray,List.map_cons,List.map_nil,hx,hy,hr]
  ·exact h.elim
 ·rename_i t x
  split at h
  ·rename_i e p m cc hu hx
   split at h
   ·rename_i z hz
    obtain ⟨i,hi,hiz⟩:=Option.bind_eq_some_iff.1 hz
    obtain ⟨w',T,hr,hs,hK⟩:=Vg.run (c:=cc) (ty:=o.type) hu hi hiz h hw
    refine Ar ?_ hK hs ha
    simp only [execOp,ho,resolve,invoke,builtin,Sem.run_bind,Sem.run_pure,Result.andThen_ok,List.map_toArray,List.map_cons,List.map_nil,hx,hr]
   ·exact h.elim
  ·exact h.elim
 ·rename_i t t' d x
  split at h
  ·rename_i e hu
   split at h
   ·rename_i i hi
    obtain ⟨m,w',T,hr,hs,hK⟩:=Ct.run (P:=P) (sT:=t') (ty:=o.type) hu hi h hw
    refine Ar ?_ hK hs ha
    simp only [execOp,ho,resolve,invoke,builtin,Sem.run_bind,Sem.run_pure,Result.andThen_ok,List.map_toArray,List.map_cons,List.map_nil,hr]
   ·exact h.elim
  ·exact h.elim
 ·exact JV h hw ha
 ·exact JV h hw ha
 ·exact JV h hw ha
 ·exact h.elim
theorem Bn.sound (h:Bn P n o K l I S) (hw:AT I S w) (ha:Bg n l a):o.wp P a w (NX n I K) Q:=by
 by_cases hq:E7 P o.op = true
 ·obtain ⟨v,hr,hK⟩:=h.val hq
  exact Ar (hr w) hK hw ha
 by_cases hrd:MZ P o.op = true
 ·obtain ⟨v,hr,hK⟩:=Wp hrd h
  exact Ar (hr w hw) hK hw ha
 unfold Bn at h
 split at h
 ·rename_i x ho; rw [ho] at hq; exact absurd rfl hq
 ·rename_i x ho; rw [ho] at hq; exact absurd rfl hq
 ·rename_i t x ho
  split at h
  ·rename_i ad hx
   obtain ⟨v,hr,hK⟩:=h.run
   exact Ar (by simp [execOp,ho,hx,hr w hw]) hK hw ha
  ·exact h.elim
 ·rename_i t x y ho
  split at h
  ·rename_i ad d hx hd
   split at h
   ·rename_i hb
    obtain ⟨T,w',hr,hs,hK⟩:=Ae.run hd (Nat.eq_of_beq_eq_true hb) h hw
    exact GE (by simp [execOp,ho,hx,hr]) hK hs ha
   ·exact h.elim
  ·exact h.elim
 ·rename_i t ho
  split at h
  ·rename_i z hz
   obtain ⟨i,hi,hiz⟩:=Option.bind_eq_some_iff.1 hz
   refine Ar (T:=(w.heap.size,.cells z.cells t (0,0)) :: S) (w':={ w with heap:=w.heap.push (.cells z.cells t (0,0)) }) ?_ (h _) (hw.new _) ha
   simp [execOp,ho,Instr.alloc,zeroValue,typeInfo,program,Sem.run,hi,hiz,newVar,newRow,newObj]
  ·exact h.elim
 ·rename_i t x ho
  refine Ar (T:=(w.heap.size,.cells (ev l x).cells t (0,0)) :: S) (w':={ w with heap:=w.heap.push (.cells (ev l x).cells t (0,0)) }) ?_ (h _) (hw.new _) ha
  simp [execOp,ho,Instr.box,newVar,newRow,newObj,Sem.run]
 ·rename_i ho; rw [ho] at hq; exact absurd rfl hq
 ·rename_i ho; rw [ho] at hq; exact absurd rfl hq
 ·rename_i t len parts ho
  split at h
  ·rename_i e hu
   split at h
   ·rename_i i hi
    split at h
    ·rename_i z hz
     split at h
     ·rename_i hb
      split at h
      ·rename_i cs hf
       simp only [Bool.and_eq_true] at hb
       have h1:=Nat.eq_of_beq_eq_true hb.1
       have h2:=Nat.le_of_ble_eq_true hb.2
       refine Ar (T:=(w.heap.size,.cells cs e (0,0)) :: S) (w':={ w with heap:=w.heap.push (.cells cs e (0,0)) }) ?_ (h _) (hw.new _) ha
       exact LV ho hu hi hz h1 h2 hf
      ·exact h.elim
     ·exact h.elim
    ·exact h.elim
   ·exact h.elim
  ·exact h.elim
 ·rename_i t x y ho
  split at h
  ·rename_i e _ len _ cap hu hx hy
   split at h
   ·rename_i i hi
    split at h
    ·rename_i z hz
     split at h
     ·rename_i hb
      obtain ⟨h0,h1,h2,h3,h⟩:=h
      exact Ar (W9 ho hu hx hy hi hz (Nat.eq_of_beq_eq_true hb) h0 h1 h2 h3) (h w.heap.size) (hw.new _) ha
     ·exact h.elim
    ·exact h.elim
   ·exact h.elim
  ·exact h.elim
 ·rename_i ho; rw [ho] at hq; exact absurd rfl hq
 ·rename_i ho; rw [ho] at hq; exact absurd rfl hq
 ·rename_i ho; rw [ho] at hq; exact absurd rfl hq
 ·rename_i t ho
  refine Ar (T:=(w.heap.size,.map #[] 0) :: S) (w':={ w with heap:=w.heap.push (.map #[] 0) }) ?_ (h _) (hw.new _) ha
  simp [execOp,ho,Instr.makeMap,newObj,Sem.run]
 ·rename_i t x ho
  split at h
  ·rename_i hu hx
   refine Ar (T:=(w.heap.size,.map #[] 0) :: S) (w':={ w with heap:=w.heap.push (.map #[] 0) }) ?_ (h _) (hw.new _) ha
   simp [execOp,ho,Instr.makeMap,newObj,Sem.run,hx,run_underlying hu,BN]
  ·exact h.elim
 ·rename_i t x ho
  split at h
  ·rename_i mm hu hx
   obtain ⟨m,rfl,es,clock,hm,h⟩:=mapP_elim h
   refine Ar (T:=(w.heap.size,.mapIter (some m) clock #[] clock) :: S) (w':={ w with heap:=w.heap.push (.mapIter (some m) clock #[] clock) }) ?_ (h _) (hw.new _) ha
   have hgm:(getObj m).run P w = .ok (.map es clock) w:=by simp [getObj,Sem.run,hm.run hw]
   simp [execOp,ho,Instr.range,newObj,Sem.run,hx,run_underlying hu,hgm]
  ·exact h.elim
 ·rename_i it ho
  split at h
  ·rename_i ad hx
   obtain ⟨v,w',T,hr,hs,hv⟩:=NxP.run (P:=P) (ty:=o.type) h hw
   rcases hv with ⟨rfl,rfl,hK⟩ | ⟨k,u,rfl,hK⟩
   ·exact Ar (by simp [execOp,ho,hx,hr]) hK hs ha
   ·exact Ar (by simp [execOp,ho,hx,hr]) hK hs ha
  ·exact h.elim
 ·rename_i it ho
  split at h
  ·rename_i ad hx
   obtain ⟨m,since,seen,stamp,es,clock,e,h0,hi,hb,hm,he,hK⟩:=h
   have hr:(Instr.entry (.pointer (some ad))).run P w = .ok (.tuple #[e.key,e.val]) w:=by
    obtain ⟨blk,off,sp⟩:=ad
    dsimp only at h0 hi; subst h0
    have hg:(getObj blk).run P w = .ok (.mapIter (some m) since seen clock) w:=by
     have:=hw.own _ hi; dsimp only at this; simp [getObj,Sem.run,this]
    have hgm:(getObj m).run P w = .ok (.map es clock) w:=by simp [getObj,Sem.run,hm.run hw]
    simp [Instr.entry,hg,hgm,hb,he]
   exact Ar (by simp [execOp,ho,hx,hr]) hK hw ha
  ·exact h.elim
 ·rename_i t m k v ho
  split at h
  ·rename_i kt et m hu hx
   split at h
   ·rename_i kd hk
    split at h
    ·rename_i hkd
     obtain ⟨T,w',hr,hs,hK⟩:=FD hu hk hkd h hw
     exact GE (by simp [execOp,ho,hx,hr]) hK hs ha
    ·exact h.elim
   ·exact h.elim
  ·exact h.elim
 ·rename_i ho; rw [ho] at hrd; exact absurd rfl hrd
 ·rename_i t m k v ho
  split at h
  ·rename_i kt et m hu hx
   split at h
   ·rename_i kd hk
    split at h
    ·rename_i hkd
     obtain ⟨T,w',hr,hs,hK⟩:=FD hu hk hkd h hw
     exact GE (by simp [execOp,ho,hx,hr]) hK hs ha
    ·split at h
     ·rename_i hb
      simp only [Bool.and_eq_true] at hb
      obtain ⟨T,w',hr,hs,hK⟩:=LX hu hk hb.1 hb.2 h hw
      exact GE (by simp [execOp,ho,hx,hr]) hK hs ha
     ·exact h.elim
   ·exact h.elim
  ·exact h.elim
 ·rename_i sr d x ho
  rw [ho] at hq hrd
  split at h
  ·rename_i e hs hd; simp [MZ,hs,hd] at hrd
  ·rename_i e hs hd; simp [MZ,hs,hd] at hrd
  ·rename_i e hs hd; simp [MZ,hs,hd] at hrd
  ·rename_i e hs hd
   split at h
   ·rename_i s he hx
    obtain ⟨hm,h⟩:=h
    have hr:=Lib.run_convert_string_bytes w sr d e s hs hd he
    have hge:=grownCap_ge w s.size 0 e
    have hcm:=grownCap_le_maxLen w s.size 0 e hm
    have hcells:Lib.bytesCells w e s = (byteCells s ++ AG (grownCap w s.size 0 e - s.size) [.int .u8 0]).toArray:=by
     have hrep:∀ k,AG k [Value.int .u8 0] = List.replicate k (.int .u8 0):=by
      intro k; induction k with
      | zero=>rfl
      | succ k ih=>rw [AG,ih]; rfl
     apply Array.ext'
     simp [Lib.bytesCells,byteCells,hrep]
    have hsize:(Lib.bytesCells w e s).size = grownCap w s.size 0 e:=by
     rw [hcells]; simp [byteCells_length,AW]; omega
    refine Ar (T:=(w.heap.size,.cells (byteCells s ++ AG (grownCap w s.size 0 e - s.size) [.int .u8 0]).toArray e (grownCap w s.size 0 e,grownCap w s.size 0 e + 1)) :: S) (w':=Lib.bytesWorld w e s) ?_ (h _ _ hge hcm) ?_ ha
    ·simp only [execOp,ho,hx,Sem.run_bind,hr,Result.andThen_ok,Sem.run_pure]
    ·have hnew:=Lib.bytesWorld_at_new w e s
     rw [hsize,hcells] at hnew
     have lt:∀ b o,w.heap[b]? = some o -> b < w.heap.size:=by
      intro b o hb
      rcases Nat.lt_or_ge b w.heap.size with h | h
      ·exact h
      ·rw [Array.getElem?_eq_none h] at hb; cases hb
     have old:∀ b o,w.heap[b]? = some o -> (Lib.bytesWorld w e s).heap[b]? = some o:=fun b o hb=>by rw [Lib.bytesWorld_at_old w e s b (lt b o hb)]; exact hb
     refine ⟨hw.os,hw.tape,hw.out,Nat.le_trans hw.dr (by show w.drawn <= ((w.drew.alloc _).freeze _ 1).drawn; rw [World.freeze,if_neg (by decide)]; exact Nat.le_succ _),fun b o hb=>old _ _ (hw.im b o hb),fun p hp=>?_,fun p hp=>?_,?_⟩
     ·rcases List.mem_cons.1 hp with rfl | hp
      ·exact hnew
      ·exact old _ _ (hw.own p hp)
     ·rcases List.mem_cons.1 hp with rfl | hp
      ·cases hn:I.at_ w.heap.size with
       | none=>rfl
       | some o=>have:=lt _ _ (hw.im _ _ hn); omega
      ·exact hw.apart p hp
     ·simp only [List.map_cons,List.nodup_cons]
      refine ⟨fun hm=>?_,hw.nodup⟩
      obtain ⟨p,hp,he⟩:=List.mem_map.1 hm
      have:=lt _ _ (hw.own p hp); omega
   ·exact h.elim
  ·rename_i h1 h2 h3 h4
   exfalso
   simp only [E7,hrd] at hq
   first | exact hq trivial | (split at hq <;> first | exact absurd ‹_› (h4 _ ‹_›) | exact absurd rfl hq)
 ·rename_i ho; rw [ho] at hq; exact absurd rfl hq
 ·rename_i c ho
  exact VH ho h hw ha
 ·exact JV h hw ha
end
def BW (P:Program) (n:Nat) (ops:Array Oper):List Oper -> (Fr -> A0 -> SH -> Prop) -> Fr -> A0 -> SH -> Prop
 | [],K,l,I,S=>K l I S
 | o :: rest,K,l,I,S=>match o.guard with
  | none=>Bn P n o (BW P n ops rest K) l I S
  | some (j,b)=>match (ops[j]?).bind (·.dst) with
   | some d=>(match l d with
    | .bool t=>A2 t
      (match b with | true=>Bn P n o (BW P n ops rest K) (upd l d (.bool true)) I S | false=>Ai n o.dst undef (BW P n ops rest K) (upd l d (.bool true)) I S)
      (match b with | true=>Ai n o.dst undef (BW P n ops rest K) (upd l d (.bool false)) I S | false=>Bn P n o (BW P n ops rest K) (upd l d (.bool false)) I S)
    | .tuple _=>Ai n o.dst undef (BW P n ops rest K) l I S
    | _=>False)
   | none=>False
section
variable {P:Program} {n:Nat} {Q:Exit -> Fr -> A0 -> SH -> Prop} {l:Fr} {I:A0} {S:SH} {a:Act} {w:World} {ops:Array Oper}
theorem Wu (ha:Bg n l a) {j d:Nat} (hd:(ops[j]?).bind (·.dst) = some d):yielded ops a.tmps j = (match l d with | .bool b=>some b | _=>none):=by
 unfold yielded
 rw [hd]
 simp only [Option.bind_some]
 have h:=ha.at_ d
 by_cases hlt:d < a.tmps.size
 ·have:a.tmps[d]? = some (l d):=by
   rw [Array.getElem?_eq_getElem hlt]
   simp only [Array.getD,hlt,dite_true] at h
   rw [<- h]; rfl
  rw [this]
  cases l d <;> rfl
 ·have h2:a.tmps[d]? = none:=Array.getElem?_eq_none (by omega)
  have h3:l d = undef:=by rw [<- h]; simp [Array.getD,hlt]
  rw [h2,h3]; rfl
theorem Dg {o:Oper} {K1 K2:Fr -> Prop} (ha:Bg n l a)
  (h:match o.guard with
   | none=>K1 l
   | some (j,b)=>match (ops[j]?).bind (·.dst) with
    | some d=>(match l d with
     | .bool t=>A2 t (match b with | true=>K1 (upd l d (.bool true)) | false=>K2 (upd l d (.bool true))) (match b with | true=>K2 (upd l d (.bool false)) | false=>K1 (upd l d (.bool false)))
     | .tuple _=>K2 l
     | _=>False)
    | none=>False):(Region.wanted o (yielded ops a.tmps) = true /\ K1 l) \/ (Region.wanted o (yielded ops a.tmps) = false /\ K2 l):=by
 cases hg:o.guard with
 | none=>simp only [hg] at h; exact .inl ⟨by simp [Region.wanted,hg],h⟩
 | some g=>
  obtain ⟨j,b⟩:=g
  simp only [hg] at h
  split at h
  ·rename_i d hd
   have hy:=Wu (ops:=ops) ha hd
   split at h
   ·rename_i t ht
    rw [ht] at hy
    have e:=PH ht
    cases t <;> cases b <;> simp only [A2] at h <;> rw [<- e] at h
    ·exact .inl ⟨by simp [Region.wanted,hg,hy],h⟩
    ·exact .inr ⟨by simp [Region.wanted,hg,hy],h⟩
    ·exact .inr ⟨by simp [Region.wanted,hg,hy],h⟩
    ·exact .inl ⟨by simp [Region.wanted,hg,hy],h⟩
   ·rename_i vs ht
    rw [ht] at hy
    exact .inr ⟨by simp [Region.wanted,hg,hy],h⟩
   ·exact h.elim
  ·exact h.elim
theorem BW.sound {Q':Exit -> Act -> World -> Prop}:∀ (L:List Oper) (K:Fr -> A0 -> SH -> Prop) (l:Fr) (I:A0) (S:SH) (a:Act) (w:World),BW P n ops L K l I S -> AT I S w -> Bg n l a ->
  (∀ a w,NX n I K a w -> Q' .normal a w) -> wpList P ops Q' L a w
 | [],K,l,I,S,a,w,h,hw,ha,hQ=>hQ a w ⟨l,I,S,ha,A0.le.refl I,hw,h⟩
 | o :: L,K,l,I,S,a,w,h,hw,ha,hQ=>by
  have hk:∀ (J:A0),I.le J -> ∀ a w,NX n J K a w -> Q' .normal a w:=fun J hJ a w ⟨l,J',T,h1,h2,h3,h4⟩=>hQ a w ⟨l,J',T,h1,hJ.trans h2,h3,h4⟩
  simp only [BW] at h
  rcases Dg (o:=o) (ops:=ops) (K1:=fun l=>Bn P n o (BW P n ops L K) l I S) (K2:=fun l=>Ai n o.dst undef (BW P n ops L K) l I S) ha h with ⟨hwn,h⟩ | ⟨hwn,h⟩
  ·unfold wpList
   rw [if_pos hwn]
   refine .inl (Oper.wp_mono ?_ (Bn.sound (Q:=Q') h hw ha))
   rintro a' w' ⟨l',J,T,h1,h2,h3,h4⟩
   exact BW.sound L K l' J T a' w' h4 h3 h1 (hk J h2)
  ·unfold wpList
   rw [if_neg (by rw [hwn]; simp)]
   obtain ⟨l',J,T,h1,h2,h3,h4⟩:=Ai.nx (w:=w) h ha (A0.le.refl I) hw
   exact BW.sound L K l' J T _ w h4 h3 h1 (hk J h2)
theorem WP.region {id:Nat} (h:BW P n ops ops.toList (Q .normal) l I S):WP P n (.region id ops false) Q l I S:=
 fun w a hw ha=>wp_region_list (BW.sound ops.toList _ l I S a w h hw ha fun _ _ h=>h)
def Ep (P:Program) (n:Nat):Code -> (Exit -> Fr -> A0 -> SH -> Prop) -> Fr -> A0 -> SH -> Prop
 | .skip,Q=>Q .normal
 | .label _,Q=>Q .normal
 | .region id ops d,Q=>(match d with | false=>BW P n ops ops.toList (Q .normal) | true=>WP P n (.region id ops true) Q)
 | .seq x y,Q=>Ep P n x (Jm (Ep P n y Q) Q)
 | .cond c x y,Q=>fun l I S=>(match ev l c with | .bool t=>A2 t (Ep P n x Q l I S) (Ep P n y Q l I S) | _=>False)
 | .block id c,Q=>Ep P n c (KQ id Q)
 | .exit id,Q=>Q (.exit id)
 | .goto t,Q=>Q (.goto t)
 | .ret,Q=>Q .ret
 | .loop c,Q=>WP P n (.loop c) Q
 | .scope c,Q=>WP P n (.scope c) Q
 | .rangeFunc f ps x y,Q=>WP P n (.rangeFunc f ps x y) Q
 | .refuse _,_=>fun _ _ _=>False
theorem WP.of_q {c:Code} {e:Exit} (hc:∀ (Q':Exit -> Act -> World -> Prop) a w,Q' e a w -> c.wp P Q' a w) (h:Q e l I S):WP P n c Q l I S:=
 fun w a hw ha=>hc _ a w ⟨l,I,S,ha,A0.le.refl I,hw,h⟩
theorem WP.cond {c:Operand} {x y:Code} {t:Bool} (hc:ev l c = .bool t) (h:A2 t (WP P n x Q l I S) (WP P n y Q l I S)):WP P n (.cond c x y) Q l I S:=by
 intro w a hw ha
 refine Go.wp_cond (t:=t) (by rw [ha.eval]; exact hc) ?_
 cases t
 ·exact h w a hw ha
 ·exact h w a hw ha
theorem Ep.sound:∀ (c:Code) (Q:Exit -> Fr -> A0 -> SH -> Prop) (l:Fr) (I:A0) (S:SH),Ep P n c Q l I S -> WP P n c Q l I S
 | .skip,Q,l,I,S,h=>WP.of_q (fun _ _ _ h=>wp_skip h) h
 | .label _,Q,l,I,S,h=>WP.of_q (fun _ _ _ h=>wp_label h) h
 | .region id ops d,Q,l,I,S,h=>by
  cases d
  ·exact WP.region h
  ·exact h
 | .seq x y,Q,l,I,S,h=>by
  refine WP.seq ((Ep.sound x _ l I S h).mono ?_)
  intro e l' J T hle hq
  cases e with
  | normal=>exact Ep.sound y Q l' J T hq
  | _=>exact hq
 | .cond c x y,Q,l,I,S,h=>by
  simp only [Ep] at h
  split at h
  ·rename_i t ht
   refine WP.cond ht ?_
   cases t
   ·exact Ep.sound y Q l I S h
   ·exact Ep.sound x Q l I S h
  ·exact h.elim
 | .block id c,Q,l,I,S,h=>WP.block (Ep.sound c _ l I S h)
 | .exit id,Q,l,I,S,h=>WP.of_q (fun _ _ _ h=>wp_exit h) h
 | .goto t,Q,l,I,S,h=>WP.of_q (fun _ _ _ h=>wp_goto h) h
 | .ret,Q,l,I,S,h=>WP.of_q (fun _ _ _ h=>wp_ret h) h
 | .loop c,Q,l,I,S,h=>h
 | .scope c,Q,l,I,S,h=>h
 | .rangeFunc ..,Q,l,I,S,h=>h
 | .refuse _,Q,l,I,S,h=>h.elim
def NW (P:Program) (n:Nat) (Y:Fr -> A0 -> SH -> Prop):Nat -> Code -> (Exit -> Fr -> A0 -> SH -> Prop) -> Fr -> A0 -> SH -> Prop
 | 0,_,_=>Y
 | k + 1,.seq x y,Q=>Ep P n x (Jm (NW P n Y k y Q) Q)
 | _ + 1,c,Q=>Ep P n c Q
def E1:Nat -> Code -> Code
 | 0,c=>c
 | k + 1,.seq _ y=>E1 k y
 | _ + 1,_=>.skip
theorem WP.cut (k:Nat) {c:Code} (Y:Fr -> A0 -> SH -> Prop) (h:NW P n Y k c Q l I S) (hY:∀ l J T,I.le J -> Y l J T -> WP P n (E1 k c) Q l J T):WP P n c Q l I S:=by
 induction k generalizing c l I S with
 | zero=>exact hY l I S (A0.le.refl I) h
 | succ k ih=>
  have other:(∀ x y,c ≠ .seq x y) -> WP P n c Q l I S:=fun hne=>by
   cases c <;> first | exact absurd rfl (hne _ _) | exact Ep.sound _ _ _ _ _ h
  cases c with
  | seq x y=>
   refine WP.seq ((Ep.sound x _ l I S h).mono ?_)
   intro e l' J T hle hq
   cases e with
   | normal=>exact ih hq fun l'' J' T' hle' hy=>hY l'' J' T' (hle.trans hle') hy
   | _=>exact hq
  | _=>exact other (fun _ _ h=>by cases h)
def KR (P:Program):List ResultVar -> Fr -> A0 -> SH -> (List Value -> Prop) -> Prop
 | [],_,_,_,K=>K []
 | .tmp t :: rs,l,I,S,K=>KR P rs l I S fun vs=>K (l t :: vs)
 | .cell a t :: rs,l,I,S,K=>(match l a with | .pointer (some ad)=>LdP P t I S ad fun v=>KR P rs l I S fun vs=>K (v :: vs) | _=>False)
def retV:List Value -> Value
 | [v]=>v
 | vs=>.tuple vs.toArray
def TB (P:Program) (rs:List ResultVar) (R:Value -> A0 -> SH -> Prop):Exit -> Fr -> A0 -> SH -> Prop
 | .normal=>fun l I S=>KR P rs l I S fun vs=>R (retV vs) I S
 | .ret=>fun l I S=>KR P rs l I S fun vs=>R (retV vs) I S
 | _=>fun _ _ _=>False
def LR (tmps:Array Value):ResultVar -> Sem Value
 | .tmp t=>pure (tmps.getD t undef)
 | .cell a t=>do loadVar t (<- asAddr (tmps.getD a undef))
theorem KR.run (hw:AT I S w) (ha:Bg n l a):∀ (rs:List ResultVar) (K:List Value -> Prop),KR P rs l I S K -> ∃ vs,(rs.mapM (LR a.tmps)).run P w = .ok vs w /\ K vs
 | [],K,h=>⟨[],by simp,h⟩
 | .tmp t :: rs,K,h=>by
  obtain ⟨vs,hr,hK⟩:=KR.run hw ha rs _ h
  refine ⟨l t :: vs,?_,hK⟩
  simp only [List.mapM_cons,LR,Sem.run_bind,Sem.run_pure,Result.andThen_ok,hr,ha.at_]
 | .cell ad t :: rs,K,h=>by
  simp only [KR] at h
  split at h
  ·rename_i ad' hl
   obtain ⟨v,hr0,h⟩:=LdP.run h
   have hr0:=hr0 w hw
   obtain ⟨vs,hr,hK⟩:=KR.run hw ha rs _ h
   refine ⟨v :: vs,?_,hK⟩
   simp only [Instr.loadAt,Instr.sureAddr,Sem.run_bind,Sem.run_pure,Result.andThen_ok] at hr0
   simp only [List.mapM_cons,LR,Sem.run_bind,Sem.run_pure,Result.andThen_ok,hr,ha.at_,hl,asAddr,hr0]
  ·exact h.elim
theorem UH {fn:Func} {tmps:Array Value} {vs:List Value} (h:(fn.results.toList.mapM (LR tmps)).run P w = .ok vs w):(results fn tmps).run P w = .ok (retV vs) w:=by
 have e:results fn tmps = (do let vs <- fn.results.mapM (LR tmps); pure (if h:vs.size = 1 then vs[0] else .tuple vs)):=by
  unfold results
  congr 1
 rw [e]
 generalize fn.results = rs at h
 obtain ⟨rs⟩:=rs
 simp only at h
 simp only [List.mapM_toArray,Sem.run_bind,Sem.run_map,h,Result.andThen_ok,Sem.run_pure]
 rcases vs with _ | ⟨v,_ | ⟨u,vs⟩⟩ <;> simp [retV]
def fr0 (args:List Value):Fr:=fun i=>args.getD i undef
theorem Runs.of_wp {f:FuncId} {fn:Func} {c:Code} {args:List Value} {R:Value -> A0 -> SH -> Prop} (hf:P.funcs[f]? = some fn) (hb:fn.body = some c) (hn:Nat.ble args.length fn.ntmps = true)
  (h:WP P fn.ntmps c (TB P fn.results.toList R) (fr0 args) I S):Runs P f args.toArray I S R:=by
 intro w hw
 have hle:=Nat.le_of_ble_eq_true hn
 refine calls_of_wp hf hb (wp_mono (h w _ hw ?_) ?_)
 ·refine ⟨by simp; omega,rfl,fun i=>?_⟩
  simp only [fr0,Array.getD_eq_getD_getElem?,List.getD_eq_getElem?_getD,Array.getElem?_append,List.size_toArray,List.getElem?_toArray]
  split
  ·rfl
  ·rename_i hlt
   rw [List.getElem?_eq_none (by omega),Array.getElem?_replicate]
   split <;> rfl
 ·rintro e a' w' ⟨l',J,T,h1,h2,h3,h4⟩
  have fin:KR P fn.results.toList l' J T (fun vs=>R (retV vs) J T) -> bodyPost P fn (fun e w'=>∃ v J T,e = .returned v /\ I.le J /\ AT J T w' /\ R v J T) .ret a' w':=fun h4=>by
   obtain ⟨vs,hr,hR⟩:=KR.run h3 h1 _ _ h4
   exact ⟨h1.defers,_,UH hr,_,J,T,rfl,h2,h3,hR⟩
  cases e with
  | normal=>exact fin h4
  | ret=>exact fin h4
  | _=>exact h4.elim
def exV (P:Program) (t:TypeId) (K:Value -> Prop):Prop:=match P.underlying t with
 | some (.tuple ts)=>exTs P ts.toList fun vs=>K (.tuple vs.toArray)
 | _=>VL P t K
theorem U6 {t:TypeId} {K:Value -> Prop} (h:exV P t K):∃ v,K v:=by
 unfold exV at h
 split at h
 ·obtain ⟨vs,h⟩:=Ht h; exact ⟨_,h⟩
 ·exact DL h
def QOp (P:Program) (n:Nat) (o:Oper) (K:Fr -> Prop) (l:Fr) (I:A0) (S:SH):Prop:=match o.op with
 | .load t x=>(match ev l x with | .pointer (some a)=>LdX P x t I S a fun v=>Ai n o.dst v (fun l _ _=>K l) l I S | _=>False)
 | .call c=>(match c.callee with
  | .value f=>(match ev l f with
   | .func (.func fid) fs cs=>(match CZ P fid with
    | true=>exV P o.type fun v=>Runs P fid (fs.toList ++ c.args.toList.map (ev l) ++ cs.toList).toArray I S (fun v' _ T=>v' = v /\ T = S) /\ Ai n o.dst v (fun l _ _=>K l) l I S
    | false=>False)
   | _=>False)
  | _=>(match E9 P o.op with | true=>Bn P n o (fun l _ _=>K l) l I S | false=>False))
 | _=>(match E9 P o.op with | true=>Bn P n o (fun l _ _=>K l) l I S | false=>False)
def Ew (P:Program) (n:Nat) (ops:Array Oper) (I:A0) (S:SH):List Oper -> (Fr -> Prop) -> Fr -> Prop
 | [],K,l=>K l
 | o :: rest,K,l=>match o.guard with
  | none=>QOp P n o (Ew P n ops I S rest K) l I S
  | some (j,b)=>match (ops[j]?).bind (·.dst) with
   | some d=>(match l d with
    | .bool t=>A2 t
      (match b with | true=>QOp P n o (Ew P n ops I S rest K) (upd l d (.bool true)) I S | false=>Ai n o.dst undef (fun l _ _=>Ew P n ops I S rest K l) (upd l d (.bool true)) I S)
      (match b with | true=>Ai n o.dst undef (fun l _ _=>Ew P n ops I S rest K l) (upd l d (.bool false)) I S | false=>QOp P n o (Ew P n ops I S rest K) (upd l d (.bool false)) I S)
    | .tuple _=>Ai n o.dst undef (fun l _ _=>Ew P n ops I S rest K l) l I S
    | _=>False)
   | none=>False
theorem AT.weaken {J:A0} (h:AT J S w) (hle:I.le J):AT I S w:=by
 refine ⟨h.os.trans hle.os,h.tape.trans hle.tape,h.out.trans hle.out,by rw [<- hle.dr]; exact h.dr,fun b o hb=>h.im b o (hle.at_ b o hb),h.own,fun p hp=>?_,h.nodup⟩
 cases hn:I.at_ p.1 with
 | none=>rfl
 | some o=>
  have:=hle.at_ _ _ hn
  rw [h.apart p hp] at this
  cases this
theorem Ai.act {d:Option Tmp} {v:Value} {K:Fr -> A0 -> SH -> Prop} (h:Ai n d v K l I S) (ha:Bg n l a):∃ l',Bg n l' (a.put d v) /\ K l' I S:=by
 cases d with
 | none=>exact ⟨l,ha,h⟩
 | some d=>
  simp only [Ai] at h
  split at h
  ·rename_i hb
   exact ⟨_,ha.put (by simpa using hb) v,h⟩
  ·exact h.elim
theorem QOp.quiet {o:Oper} {K:Fr -> Prop} (h:QOp P n o K l I S) (ha:Bg n l a):o.quiet P a (AT I S) (fun a'=>∃ l',Bg n l' a' /\ K l'):=by
 have fin:∀ v,Ai n o.dst v (fun l _ _=>K l) l I S -> ∃ l',Bg n l' (a.put o.dst v) /\ K l':=fun v hp=>hp.act ha
 have small:(match E9 P o.op with | true=>Bn P n o (fun l _ _=>K l) l I S | false=>False) -> o.quiet P a (AT I S) (fun a'=>∃ l',Bg n l' a' /\ K l'):=fun h=>by
  split at h
  ·rename_i hq
   obtain ⟨v,hr,hK⟩:=h.still hq
   exact ⟨v,fun w hw=>by simp only [Oper.quietAt,ha.eval,hr w hw,Oper.quietUpon,and_self],fin v hK⟩
  ·exact h.elim
 unfold QOp at h
 split at h
 ·rename_i t x ho
  split at h
  ·rename_i ad hx
   obtain ⟨v,hr,hp⟩:=LdX.run h
   exact ⟨v,fun w hw=>by simp [Oper.quietAt,ha.eval,execOp,ho,hx,hr w hw,Oper.quietUpon],fin v hp⟩
  ·exact h.elim
 ·rename_i c ho
  split at h
  ·rename_i f hf
   split at h
   ·rename_i fid fs cs hfv
    split at h
    ·rename_i hc
     obtain ⟨v,hfn,hp⟩:=U6 h
     refine ⟨v,fun w hw=>?_,fin v hp⟩
     unfold CZ at hc
     split at hc
     ·rename_i fn hfn'
      simp only [Bool.and_eq_true,Bool.not_eq_true'] at hc
      have hb:fn.body.isNone = false:=by cases hbd:fn.body <;> simp [hbd] at hc ⊢
      have hr:(execOp a.eval o).run P w = .ok (.enter fid (fs.toList ++ c.args.toList.map (ev l) ++ cs.toList).toArray) w:=by
       have hca:fs ++ (c.args.toList.map (ev l)).toArray ++ cs = (fs.toList ++ c.args.toList.map (ev l) ++ cs.toList).toArray:=by
        apply Array.ext'; simp
       have hargs:c.args.map (ev l) = (c.args.toList.map (ev l)).toArray:=by rw [<- Array.toList_map]
       rw [ha.eval]
       simp only [execOp,ho,resolve,hf,hfv,Deferred.ofValue,Sem.run_bind,Sem.run_pure,Result.andThen_ok,invoke,hargs,hca]
       simp only [callFunc,program,Sem.run,Sem.run_bind,Result.andThen_ok,hfn',hc.1,hb,Bool.false_eq_true,if_false,Sem.run_pure]
      simp only [Oper.quietAt,hr,Oper.quietUpon,true_and]
      refine (hfn w hw).mono ?_
      rintro e w' ⟨v',J,T,rfl,hle,hs,rfl,rfl⟩
      exact ⟨rfl,hs.weaken hle⟩
     ·cases hc
    ·exact h.elim
   ·exact h.elim
  ·exact small h
 ·exact small h
theorem Dy {C:World -> Prop} {K K':Act -> Prop} (h:∀ a,K a -> K' a):∀ (L:List Oper) (a:Act),wpQuiet P ops C K L a -> wpQuiet P ops C K' L a
 | [],a,hh=>h a hh
 | o :: L,a,hh=>by
  simp only [wpQuiet] at hh ⊢
  split
  ·rename_i hw
   rw [if_pos hw] at hh
   exact Oper.quiet_mono (fun a'=>Dy h L a') hh
  ·rename_i hw
   rw [if_neg hw] at hh
   exact Dy h L _ hh
theorem Ew.sound:∀ (L:List Oper) (K:Fr -> Prop) (l:Fr) (a:Act),Ew P n ops I S L K l -> Bg n l a -> wpQuiet P ops (AT I S) (fun a'=>∃ l',Bg n l' a' /\ K l') L a
 | [],K,l,a,h,ha=>⟨l,ha,h⟩
 | o :: L,K,l,a,h,ha=>by
  simp only [Ew] at h
  simp only [wpQuiet]
  rcases Dg (o:=o) (ops:=ops) (K1:=fun l=>QOp P n o (Ew P n ops I S L K) l I S) (K2:=fun l=>Ai n o.dst undef (fun l _ _=>Ew P n ops I S L K l) l I S) ha h with ⟨hwn,h⟩ | ⟨hwn,h⟩
  ·rw [if_pos hwn]
   obtain ⟨v,hv,l',hl',hK⟩:=h.quiet ha
   exact ⟨v,hv,Ew.sound L K l' _ hK hl'⟩
  ·rw [if_neg (by rw [hwn]; simp)]
   obtain ⟨l',hl',hK⟩:=h.act ha
   exact Ew.sound L K l' _ hK hl'
theorem WP.quiet {id:Nat} (hm:P.follows .mixedOrders = true) (hB:Region.lexB .any ops = true) (h:Ew P n ops I S ops.toList (fun l=>Q .normal l I S) l):WP P n (.region id ops true) Q l I S:=by
 intro w a hw ha
 refine wp_region_quiet (C:=AT I S) hm hB hw.drew ?_
 have:=Ew.sound ops.toList (fun l=>Q .normal l I S) l a h ha
 refine Dy (fun a' ⟨l',hl',hq⟩ w' hw'=>?_) _ _ this
 exact ⟨l',I,S,hl',A0.le.refl I,hw',hq⟩
def seqL:Code -> Code
 | .seq x _=>x
 | c=>c
def Wb:Code -> Code
 | .seq _ y=>y
 | c=>c
def loopB:Code -> Code
 | .loop c=>c
 | c=>c
def FY:Code -> Code
 | .scope c=>c
 | c=>c
def P7:Code -> Code
 | .block _ c=>c
 | c=>c
def JL:Code -> Nat
 | .block i _=>i
 | _=>0
def ZZ:Code -> Code
 | .cond _ x _=>x
 | c=>c
def ZY:Code -> Code
 | .cond _ _ y=>y
 | c=>c
def ZX:Code -> Operand
 | .cond c _ _=>c
 | _=>.tmp 0
def AD:Code -> Array Oper
 | .region _ ops _=>ops
 | _=>#[]
def NF:Code -> Nat
 | .region i _ _=>i
 | _=>0
theorem WP.seqY {c:Code} (hc:c = .seq (seqL c) (Wb c)) (Y:Fr -> A0 -> SH -> Prop) (h1:WP P n (seqL c) (Jm Y Q) l I S) (h2:∀ l J T,I.le J -> Y l J T -> WP P n (Wb c) Q l J T):WP P n c Q l I S:=by
 rw [hc]
 refine WP.seq (h1.mono ?_)
 intro e l' J T hle hq
 cases e with
 | normal=>exact h2 l' J T hle hq
 | _=>exact hq
theorem WP.block' {c:Code} (hc:c = .block (JL c) (P7 c)) (h:WP P n (P7 c) (KQ (JL c) Q) l I S):WP P n c Q l I S:=by
 rw [hc]; exact WP.block h
theorem WP.loop' {c:Code} (hc:c = .loop (loopB c)) (Inv:Nat -> Fr -> A0 -> SH -> Prop) (m:Nat) (h0:Inv m l I S)
  (round:∀ m l J T,I.le J -> Inv m l J T -> WP P n (loopB c) (Jm (fun l' J' T'=>∃ m',m' < m /\ Inv m' l' J' T') Q) l J T):WP P n c Q l I S:=by
 rw [hc]; exact WP.loop Inv m h0 round
theorem WP.cond' {c:Code} (hc:c = .cond (ZX c) (ZZ c) (ZY c)) {t:Bool} (ht:ev l (ZX c) = .bool t) {A B:Prop} (h:A2 t A B) (hA:A -> WP P n (ZZ c) Q l I S) (hB:B -> WP P n (ZY c) Q l I S):WP P n c Q l I S:=by
 rw [hc]
 refine WP.cond ht ?_
 cases t
 ·exact hB h
 ·exact hA h
theorem WP.quiet' {c:Code} (hc:c = .region (NF c) (AD c) true) (hm:P.follows .mixedOrders = true) (hB:Region.lexB .any (AD c) = true)
  (h:Ew P n (AD c) I S (AD c).toList (fun l=>Q .normal l I S) l):WP P n c Q l I S:=by
 rw [hc]; exact WP.quiet hm hB h
theorem WP.scope' {c:Code} (k:Nat) (t:Nat) (hc:c = .scope (FY c)) (hl:E1 k (FY c) = .seq (.label t) (Wb (E1 k (FY c))))
  (hf:findLabel (FY c) t = some (.seq .skip (Wb (E1 k (FY c))))) (Inv:Nat -> Fr -> A0 -> SH -> Prop)
  (first:NW P n (fun l J T=>∃ m,Inv m l J T) k (FY c) (ZQ t (fun l J T=>∃ m,Inv m l J T) Q) l I S)
  (round:∀ m l J T,I.le J -> Inv m l J T -> WP P n (Wb (E1 k (FY c))) (ZQ t (fun l' J' T'=>∃ m',m' < m /\ Inv m' l' J' T') Q) l J T):WP P n c Q l I S:=by
 rw [hc]
 refine WP.scope t hf Inv ?_ ?_
 ·refine WP.cut k (fun l J T=>∃ m,Inv m l J T) first ?_
  ·rintro l' J T hle ⟨m,hI⟩
   rw [hl]
   refine WP.seq (WP.of_q (e:=.normal) (fun _ _ _ h=>wp_label h) ?_)
   refine (round m l' J T hle hI).mono ?_
   intro e l'' J' T' _ h
   cases e with
   | goto t'=>obtain ⟨ht,m',_,hI'⟩:=h; exact ⟨ht,m',hI'⟩
   | _=>exact h
 ·intro m l' J T hle hI
  exact WP.seq (WP.of_q (e:=.normal) (fun _ _ _ h=>wp_skip h) (round m l' J T hle hI))
def asI:IntKind -> Value -> (Int -> Prop) -> Prop
 | .i8,.int .i8 n,K=>K n
 | .i16,.int .i16 n,K=>K n
 | .i32,.int .i32 n,K=>K n
 | .i64,.int .i64 n,K=>K n
 | .u8,.int .u8 n,K=>K n
 | .u16,.int .u16 n,K=>K n
 | .u32,.int .u32 n,K=>K n
 | .u64,.int .u64 n,K=>K n
 | _,_,_=>False
theorem asI_e {k:IntKind} {v:Value} {K:Int -> Prop} (h:asI k v K):∃ n,v = .int k n /\ K n:=by
 cases v with
 | int k' n=>cases k <;> cases k' <;> first | exact ⟨n,rfl,h⟩ | exact h.elim
 | _=>cases k <;> exact h.elim
def asB (v:Value) (K:Bool -> Prop):Prop:=match v with
 | .bool b=>K b
 | _=>False
theorem asB_e {v:Value} {K:Bool -> Prop} (h:asB v K):∃ b,v = .bool b /\ K b:=by cases v <;> first | exact ⟨_,rfl,h⟩ | exact h.elim
def asStr (v:Value) (K:ByteArray -> Prop):Prop:=match v with
 | .string b=>K b
 | _=>False
theorem asStr_e {v:Value} {K:ByteArray -> Prop} (h:asStr v K):∃ b,v = .string b /\ K b:=by cases v <;> first | exact ⟨_,rfl,h⟩ | exact h.elim
def asPtr (v:Value) (K:Option Addr -> Prop):Prop:=match v with
 | .pointer b=>K b
 | _=>False
theorem asPtr_e {v:Value} {K:Option Addr -> Prop} (h:asPtr v K):∃ b,v = .pointer b /\ K b:=by cases v <;> first | exact ⟨_,rfl,h⟩ | exact h.elim
def asAdr (v:Value) (K:Addr -> Prop):Prop:=match v with
 | .pointer (some b)=>K b
 | _=>False
theorem asAdr_e {v:Value} {K:Addr -> Prop} (h:asAdr v K):∃ b,v = .pointer (some b) /\ K b:=by
 cases v with
 | pointer p=>cases p with
  | none=>exact h.elim
  | some a=>exact ⟨_,rfl,h⟩
 | _=>exact h.elim
def asSl (v:Value) (K:Option Addr -> Nat -> Nat -> Prop):Prop:=match v with
 | .slice p n c=>K p n c
 | _=>False
theorem asSl_e {v:Value} {K:Option Addr -> Nat -> Nat -> Prop} (h:asSl v K):∃ p n c,v = .slice p n c /\ K p n c:=by cases v <;> first | exact ⟨_,_,_,rfl,h⟩ | exact h.elim
def asMap (v:Value) (K:Option Nat -> Prop):Prop:=match v with
 | .map b=>K b
 | _=>False
theorem asMap_e {v:Value} {K:Option Nat -> Prop} (h:asMap v K):∃ b,v = .map b /\ K b:=by cases v <;> first | exact ⟨_,rfl,h⟩ | exact h.elim
def asV (v:Value) (K:Value -> Prop):Prop:=K v
def asF (f:FuncId) (v:Value) (K:Prop):Prop:=match v with
 | .func (.func g) ⟨[]⟩ ⟨[]⟩=>(match Nat.beq g f with | true=>K | false=>False)
 | _=>False
theorem asF_e {f:FuncId} {v:Value} {K:Prop} (h:asF f v K):v = .func (.func f) #[] #[] /\ K:=by
 unfold asF at h
 split at h
 ·split at h
  ·rename_i hb; have:=Nat.eq_of_beq_eq_true hb; subst this; exact ⟨rfl,h⟩
  ·exact h.elim
 ·exact h.elim
end
def AN (I0:A0) (S0:SH) (J:A0) (T:SH):Prop:=I0.le J /\ ∃ T',T.Perm (T' ++ S0)
theorem AN.refl (I:A0) (S:SH):AN I S I S:=⟨A0.le.refl I,[],List.Perm.refl _⟩
def CA (P:Program) (o:Oper):Bool:=match o.op with
 | .load ..=>true
 | .call { callee:=.value _,.. }=>true
 | op=>MZ P op
def ancB (ops:Array Oper):Nat -> Nat -> Nat -> Bool
 | 0,_,_=>false
 | f + 1,j,i=>match ops[j]? with
  | some o=>o.after.toList.any fun e=>Region.binds .any e && (Nat.beq e.on i || ancB ops f e.on i)
  | none=>false
def Ej (P:Program) (ops:Array Oper) (eff:List Nat) (j:Nat):Bool:=(List.range ops.size).all fun i=>match ops[i]? with
 | some o=>!CA P o || eff.contains i || ancB ops ops.size j i
 | none=>true
section
variable {P:Program} {n:Nat} {ops:Array Oper} {eff:List Nat} {I0:A0} {S0:SH} {Q:Exit -> Act -> World -> Prop}
def YK (P:Program) (ops:Array Oper) (o:Oper) (v:Value) (a:Act) (J:A0) (T:SH):Prop:=
 (Region.wanted o (yielded ops a.tmps) = true /\ ∀ w,AT J T w -> o.quietAt P a (AT J T) w v) \/ (Region.wanted o (yielded ops a.tmps) = false /\ v = undef)
def QC (P:Program) (ops:Array Oper) (I0:A0) (S0:SH) (o:Oper) (v:Value) (a:Act):Prop:=
 (Region.wanted o (yielded ops a.tmps) = true /\ ∀ J T,(CA P o = true -> AN I0 S0 J T) -> ∀ w,AT J T w -> o.quietAt P a (AT J T) w v) \/ (Region.wanted o (yielded ops a.tmps) = false /\ v = undef)
def Ek (P:Program) (ops:Array Oper) (eff:List Nat) (I0:A0) (S0:SH) (Q:Exit -> Act -> World -> Prop):Nat -> Array Bool -> Act -> A0 -> SH -> Prop
 | 0,listed,a,J,T=>Region.ready .any ops listed = [] /\ ∀ w,AT J T w -> Q .normal a w
 | k + 1,listed,a,J,T=>(Region.ready .any ops listed = [] -> ∀ w,AT J T w -> Q .normal a w) /\ ∀ j ∈ Region.ready .any ops listed,∀ o,ops[j]? = some o ->
  (eff.contains j = true -> ∀ w,AT J T w -> wpOp P ops Q j (fun a' w'=>∃ J' T',AT J' T' w' /\ (Ej P ops eff j = true \/ AN I0 S0 J' T') /\ Ek P ops eff I0 S0 Q k (listed.setIfInBounds j true) a' J' T') a w) /\
  (eff.contains j = false -> ∃ v,YK P ops o v a J T /\ Ek P ops eff I0 S0 Q k (listed.setIfInBounds j true) (a.put o.dst v) J T)
theorem Wt {o:Oper} {j:Nat} (hj:ops[j]? = some o) {v:Value} {a:Act} {J:A0} {T:SH} {w:World} (hw:AT J T w) (h:YK P ops o v a J T) {K:Act -> World -> Prop} (hK:∀ w',AT J T w' -> K (a.put o.dst v) w') :
  wpOp P ops Q j K a w:=by
 unfold wpOp
 simp only [hj]
 rcases h with ⟨hwn,hv⟩ | ⟨hwn,rfl⟩
 ·simp only [hwn,if_true]
  refine .inl ?_
  exact Oper.wp_of_quiet (C:=AT J T) (K:=fun a'=>a' = a.put o.dst v) hw (fun a' w' hw' e=>by subst e; exact hK w' hw') ⟨v,hv,rfl⟩
 ·simp only [hwn,Bool.false_eq_true,if_false]
  exact hK w hw
theorem Ek.wp:∀ (k:Nat) (listed:Array Bool) (a:Act) (J:A0) (T:SH) (w:World),AT J T w -> Ek P ops eff I0 S0 Q k listed a J T -> wpAny P .any ops Q k listed a w
 | 0,listed,a,J,T,w,hw,h=>⟨h.1,h.2 w hw⟩
 | k + 1,listed,a,J,T,w,hw,h=>by
  refine ⟨fun h0=>h.1 h0 w hw,fun j hj=>?_⟩
  obtain ⟨_,o,ho,_⟩:=mem_ready.1 hj
  obtain ⟨h1,h2⟩:=h.2 j hj o ho
  cases he:eff.contains j with
  | true=>exact wpOp_mono (fun a' w' ⟨J',T',hs,_,hA⟩=>Ek.wp k _ a' J' T' w' hs hA) (h1 he w hw)
  | false=>
   obtain ⟨v,hy,hA⟩:=h2 he
   exact Wt ho hw hy fun w' hw'=>Ek.wp k _ _ J T w' hw' hA
theorem PK {j:Nat} {oi oj:Oper} {v:Value} (hj:ops[j]? = some oj) (hap:oi.apart ops oj = true) (hsj:∀ cs b,oj.op ≠ .select cs b)
  (hQ:∀ c a w,Q (.panic c) (a.put oi.dst v) w -> Q (.panic c) a w) {K:Act -> World -> Prop} {a:Act} {w:World} (R:Act -> Prop) (hR:R a) (keep:∀ a u,R a -> R (a.put oj.dst u))
  (keepD:∀ a d,R a -> R { a with defers:=d :: a.defers }) (h:wpOp P ops Q j K (a.put oi.dst v) w):wpOp P ops Q j (fun a' w'=>R a' /\ K (a'.put oi.dst v) w') a w:=by
 obtain ⟨h1,h2,h3⟩:=Oper.apart_spec hap
 unfold wpOp at *
 simp only [hj] at *
 rw [wanted_put oj a oi.dst v h1] at h
 split
 ·rename_i hw
  simp only [hw,if_true] at h
  rcases h with h | ⟨hasks,hlets⟩
  case inr=>exact .inr ⟨by unfold Oper.asks at *; rw [execOp_put oj hsj a oi.dst v h1] at hasks; exact hasks,hlets⟩
  refine .inl ?_
  unfold Oper.wp at *
  rw [execOp_put oj hsj a oi.dst v h1] at h
  generalize (execOp a.eval oj).run P w = r at *
  cases r with
  | ok nx w'=>
   cases nx <;> simp only [Oper.upon] at h ⊢
   case value u=>exact ⟨keep a u hR,by rw [<- Act.put_comm a v u h2]; exact h⟩
   case skip=>exact ⟨keep a _ hR,by rw [<- Act.put_comm a v undef h2]; exact h⟩
   case defer d=>
    refine ⟨keep _ _ (keepD _ d hR),?_⟩
    rw [<- Act.put_comm _ v undef h2,<- Act.put_defers]
    exact h
   case enter f args=>
    refine Calls.mono h fun e w'' he=>?_
    cases e with
    | returned u=>exact ⟨keep a u hR,by rw [<- Act.put_comm a v u h2]; exact he⟩
    | panicked c=>exact hQ _ _ _ he
    | outgrown=>exact he
   case row row args=>exact Rows.mono h fun u w'' he=>⟨keep a u hR,by rw [<- Act.put_comm a v u h2]; exact he⟩
  | halt x w'=>
   cases x <;> simp only [Oper.upon] at h ⊢
   case panic u=>exact hQ _ _ _ h
 ·rename_i hw
  simp only [hw] at h
  exact ⟨keep a _ hR,by rw [<- Act.put_comm a v undef h2]; exact h⟩
def FG (ops:Array Oper) (listed:Array Bool):Prop:=∀ j o,ops[j]? = some o -> listed.getD j false = true -> ∀ e ∈ o.after,Region.binds .any e = true -> listed.getD e.on false = true
theorem FG.set {listed:Array Bool} (h:FG ops listed) {i:Nat} (hi:i ∈ Region.ready .any ops listed):FG ops (listed.setIfInBounds i true):=by
 intro j o ho hl e he hb
 obtain ⟨_,oi,hoi,hall⟩:=mem_ready.1 hi
 by_cases hij:i = j
 ·subst hij
  rw [ho] at hoi; injection hoi with hoi; subst hoi
  exact getD_set_true (hall e he hb)
 ·rw [getD_set_ne false hij] at hl
  exact getD_set_true (h j o ho hl e he hb)
theorem L0 {listed:Array Bool} (h:FG ops listed) {i:Nat}:∀ (f j:Nat) (o:Oper),ops[j]? = some o -> (∀ e ∈ o.after,Region.binds .any e = true -> listed.getD e.on false = true) -> ancB ops f j i = true -> listed.getD i false = true
 | 0,_,_,_,_,hn=>by simp [ancB] at hn
 | f + 1,j,o,ho,hall,hn=>by
  simp only [ancB,ho,List.any_eq_true,Bool.and_eq_true,Bool.or_eq_true] at hn
  obtain ⟨e,he,hb,hn⟩:=hn
  have hl:=hall e (by simpa using he) hb
  rcases hn with hn | hn
  ·have:=Nat.eq_of_beq_eq_true hn; rw [<- this]; exact hl
  ·cases ho':ops[e.on]? with
   | none=>cases f <;> simp [ancB,ho'] at hn
   | some o'=>exact L0 h f e.on o' ho' (fun e' he' hb'=>h e.on o' ho' hl e' he' hb') hn
theorem Ek.take {i:Nat} {oi:Oper} {v:Value} (hi:ops[i]? = some oi) (hsel:∀ (j:Nat) (o:Oper) cs b,ops[j]? = some o -> o.op ≠ .select cs b) (hne:eff.contains i = false)
  (hQ:∀ c a w,Q (.panic c) (a.put oi.dst v) w -> Q (.panic c) a w) :
  ∀ (k:Nat) (listed:Array Bool) (a:Act) (J:A0) (T:SH),FG ops listed ->
   (∀ j oj,ops[j]? = some oj -> j ≠ i -> listed.getD j true = false -> (∀ e ∈ oj.after,Region.binds .any e = true -> e.on ≠ i) -> oi.apart ops oj = true) ->
   i ∈ Region.ready .any ops listed -> QC P ops I0 S0 oi v a -> (CA P oi = true -> AN I0 S0 J T) ->
   Ek P ops eff I0 S0 Q k (listed.setIfInBounds i true) (a.put oi.dst v) J T -> Ek P ops eff I0 S0 Q (k + 1) listed a J T:=by
 intro k
 have yk:∀ {a J T},QC P ops I0 S0 oi v a -> (CA P oi = true -> AN I0 S0 J T) -> YK P ops oi v a J T:=fun hq hk=>by
  rcases hq with ⟨h1,h2⟩ | h
  ·exact .inl ⟨h1,h2 _ _ hk⟩
  ·exact .inr h
 induction k with
 | zero=>
  intro listed a J T hcl hfree hr hq hk H
  refine ⟨fun h=>(by rw [h] at hr; cases hr),fun j hj o ho=>?_⟩
  by_cases hji:j = i
  ·subst hji
   rw [hi] at ho; injection ho with ho; subst ho
   exact ⟨fun h=>(by rw [hne] at h; cases h),fun _=>⟨v,yk hq hk,H⟩⟩
  ·have:=ready_mono hj hji
   rw [H.1] at this
   cases this
 | succ k ih=>
  intro listed a J T hcl hfree hr hq hk H
  refine ⟨fun h=>(by rw [h] at hr; cases hr),fun j hj oj hoj=>?_⟩
  by_cases hji:j = i
  ·subst hji
   rw [hi] at hoj; injection hoj with hoj; subst hoj
   exact ⟨fun h=>(by rw [hne] at h; cases h),fun _=>⟨v,yk hq hk,H⟩⟩
  ·obtain ⟨hjun,oj',hoj',hall⟩:=mem_ready.1 hj
   rw [hoj] at hoj'; injection hoj' with hoj'; subst hoj'
   have h0:=(mem_ready.1 hr).1
   have hiun:listed.getD i false = false:=by
    rcases Nat.lt_or_ge i listed.size with h' | h'
    ·simp [h'] at h0 ⊢; exact h0
    ·simp [Array.getElem?_eq_none h']
   have hnot:∀ e ∈ oj.after,Region.binds .any e = true -> e.on ≠ i:=fun e he hb heq=>by
    have h1:=hall e he hb
    rw [heq,hiun] at h1; cases h1
   have hap:=hfree j oj hoj hji hjun hnot
   obtain ⟨p1,p2,p3⟩:=Oper.apart_spec hap
   have hcl':=hcl.set hj
   have hr':=ready_mono hr (Ne.symm hji)
   have hfree':∀ k ok,ops[k]? = some ok -> k ≠ i -> (listed.setIfInBounds j true).getD k true = false ->
     (∀ e ∈ ok.after,Region.binds .any e = true -> e.on ≠ i) -> oi.apart ops ok = true:=fun k ok hk hki hun hno=>by
    refine hfree k ok hk hki ?_ hno
    by_cases hjk:j = k
    ·subst hjk; exact hjun
    ·rw [getD_set_ne true hjk] at hun; exact hun
   have qkeep:∀ a u,QC P ops I0 S0 oi v a -> QC P ops I0 S0 oi v (a.put oj.dst u):=fun a u hq=>by
    unfold QC Oper.quietAt at *
    rw [execOp_put oi (fun cs b=>hsel i oi cs b hi) a oj.dst u p3,wanted_put oi a oj.dst u p3]
    exact hq
   have H2:=H.2 j (ready_mono hj hji) oj hoj
   refine ⟨fun he w hw=>?_,fun he=>?_⟩
   ·have h1:=PK hoj hap (fun cs b=>hsel j oj cs b hoj) hQ (QC P ops I0 S0 oi v) hq qkeep (fun a d hq=>hq) (H2.1 he w hw)
    refine wpOp_mono ?_ h1
    rintro a' w' ⟨hq',J',T',hs,hlate,hA⟩
    refine ⟨J',T',hs,hlate,ih _ a' J' T' hcl' hfree' hr' hq' (fun hc=>?_) (by rw [Array.setIfInBounds_comm _ _ hji]; exact hA)⟩
    rcases hlate with hl | hl
    ·exfalso
     have hl':=List.all_eq_true.1 hl i (List.mem_range.2 (Array.getElem?_eq_some_iff.1 hi).1)
     simp only [hi,hc,hne,Bool.not_true,Bool.false_or] at hl'
     have:=L0 hcl _ j oj hoj hall hl'
     rw [hiun] at this; cases this
    ·exact hl
   ·obtain ⟨u,hy,hA⟩:=H2.2 he
    refine ⟨u,?_,ih _ _ J T hcl' hfree' hr' (qkeep a u hq) hk ?_⟩
    ·unfold YK Oper.quietAt at *
     rw [execOp_put oj (fun cs b=>hsel j oj cs b hoj) a oi.dst v p1,wanted_put oj a oi.dst v p1] at hy
     exact hy
    ·rw [Array.setIfInBounds_comm _ _ hji,<- Act.put_comm a v u p2]
     exact hA
theorem Cn (m j:Nat):(Array.replicate m false).getD j false = false:=by
 rcases Nat.lt_or_ge j m with h | h
 ·simp [h]
 ·simp [h]
inductive Mv where
 | done
 | take (i:Nat) (m:Mv)
 | step (j:Nat) (m:Mv)
 | fork (j:Nat) (m:Mv) (j':Nat) (m':Mv)
 | fork3 (j:Nat) (m:Mv) (j':Nat) (m':Mv) (k:Nat) (n:Mv)
def Mv.len:Mv -> Nat
 | .done=>0
 | .take _ m=>m.len + 1
 | .step _ m=>m.len + 1
 | .fork _ m _ _=>m.len + 1
 | .fork3 _ m _ _ _ _=>m.len + 1
def Fw (P:Program) (ops:Array Oper) (eff:List Nat):Mv -> Bool -> Array Bool -> Bool
 | .done,_,listed=>(Region.ready .any ops listed).isEmpty
 | .take i m,op,listed=>!eff.contains i && (Region.ready .any ops listed).contains i && Region.free .any ops listed i && (match ops[i]? with | some o=>!CA P o || op | none=>false) &&
  Fw P ops eff m op (listed.setIfInBounds i true)
 | .step j m,op,listed=>eff.contains j && (Region.ready .any ops listed == [j]) && Fw P ops eff m (op && !Ej P ops eff j) (listed.setIfInBounds j true)
 | .fork j m j' m',op,listed=>eff.contains j && eff.contains j' && (Region.ready .any ops listed == [j,j']) && Nat.beq m.len m'.len &&
  Fw P ops eff m (op && !Ej P ops eff j) (listed.setIfInBounds j true) && Fw P ops eff m' (op && !Ej P ops eff j') (listed.setIfInBounds j' true)
 | .fork3 j m j' m' k n,op,listed=>eff.contains j && eff.contains j' && eff.contains k && (Region.ready .any ops listed == [j,j',k]) && Nat.beq m.len m'.len && Nat.beq m.len n.len &&
  Fw P ops eff m (op && !Ej P ops eff j) (listed.setIfInBounds j true) && Fw P ops eff m' (op && !Ej P ops eff j') (listed.setIfInBounds j' true) && Fw P ops eff n (op && !Ej P ops eff k) (listed.setIfInBounds k true)
def Vx (P:Program) (n:Nat) (o:Oper) (K:Fr -> Prop) (l:Fr) (I:A0) (S:SH):Prop:=match o.op with
 | .load t x=>(match ev l x with | .pointer (some a)=>LdX P x t I S a fun v=>Ai n o.dst v (fun l _ _=>K l) l I S | _=>False)
 | .call c=>(match c.callee with
  | .value f=>(match ev l f with
   | .func (.func fid) fs cs=>(match CZ P fid with
    | true=>exV P o.type fun v=>(∀ J T,I.le J -> Runs P fid (fs.toList ++ c.args.toList.map (ev l) ++ cs.toList).toArray J (T ++ S) (fun v' _ T'=>v' = v /\ T' = T ++ S)) /\ Ai n o.dst v (fun l _ _=>K l) l I S
    | false=>False)
   | _=>False)
  | _=>(match E9 P o.op with | true=>Bn P n o (fun l _ _=>K l) l I S | false=>False))
 | _=>(match E9 P o.op with | true=>Bn P n o (fun l _ _=>K l) l I S | false=>False)
def FC (P:Program) (ops:Array Oper) (eff:List Nat) (I0:A0) (S0:SH) (j:Nat) (K:Fr -> A0 -> SH -> Prop) (l:Fr) (J':A0) (T':SH):Prop:=match Ej P ops eff j with | true=>K l J' T' | false=>AN I0 S0 J' T' /\ K l J' T'
def JC (P:Program) (n:Nat) (ops:Array Oper) (eff:List Nat) (I0:A0) (S0:SH) (j:Nat) (K:Fr -> A0 -> SH -> Prop) (l:Fr) (J:A0) (T:SH):Prop:=match ops[j]? with
 | some o=>(match o.guard with
  | none=>Bn P n o (FC P ops eff I0 S0 j K) l J T
  | some (g,b)=>match (ops[g]?).bind (·.dst) with
   | some d=>(match l d with
    | .bool t=>A2 t
      (match b with | true=>Bn P n o (FC P ops eff I0 S0 j K) (upd l d (.bool true)) J T | false=>Ai n o.dst undef (FC P ops eff I0 S0 j K) (upd l d (.bool true)) J T)
      (match b with | true=>Ai n o.dst undef (FC P ops eff I0 S0 j K) (upd l d (.bool false)) J T | false=>Bn P n o (FC P ops eff I0 S0 j K) (upd l d (.bool false)) J T)
    | .tuple _=>Ai n o.dst undef (FC P ops eff I0 S0 j K) l J T
    | _=>False)
   | none=>False)
 | none=>False
def G8 (P:Program) (n:Nat) (ops:Array Oper) (eff:List Nat) (I0:A0) (S0:SH) (K:Fr -> A0 -> SH -> Prop):Mv -> Fr -> A0 -> SH -> Prop
 | .done,l,J,T=>K l J T
 | .take i m,l,J,T=>match ops[i]? with
  | some o=>(match o.guard with
   | none=>Vx P n o (fun l=>G8 P n ops eff I0 S0 K m l J T) l I0 S0
   | some (j,b)=>match (ops[j]?).bind (·.dst) with
    | some d=>(match l d with
     | .bool t=>A2 t
       (match b with | true=>Vx P n o (fun l=>G8 P n ops eff I0 S0 K m l J T) (upd l d (.bool true)) I0 S0 | false=>Ai n o.dst undef (fun l _ _=>G8 P n ops eff I0 S0 K m l J T) (upd l d (.bool true)) I0 S0)
       (match b with | true=>Ai n o.dst undef (fun l _ _=>G8 P n ops eff I0 S0 K m l J T) (upd l d (.bool false)) I0 S0 | false=>Vx P n o (fun l=>G8 P n ops eff I0 S0 K m l J T) (upd l d (.bool false)) I0 S0)
     | .tuple _=>Ai n o.dst undef (fun l _ _=>G8 P n ops eff I0 S0 K m l J T) l I0 S0
     | _=>False)
    | none=>False)
  | none=>False
 | .step j m,l,J,T=>JC P n ops eff I0 S0 j (G8 P n ops eff I0 S0 K m) l J T
 | .fork j m j' m',l,J,T=>JC P n ops eff I0 S0 j (G8 P n ops eff I0 S0 K m) l J T /\ JC P n ops eff I0 S0 j' (G8 P n ops eff I0 S0 K m') l J T
 | .fork3 j m j' m' k q,l,J,T=>JC P n ops eff I0 S0 j (G8 P n ops eff I0 S0 K m) l J T /\ JC P n ops eff I0 S0 j' (G8 P n ops eff I0 S0 K m') l J T /\ JC P n ops eff I0 S0 k (G8 P n ops eff I0 S0 K q) l J T
theorem A1.mono {I J:A0} {S T:SH} {a:Addr} {v:Value} (h:A1 I S a v) (hk:AN I S J T):A1 J T a v:=by
 obtain ⟨hs,cs,e,fz,hb,hv⟩:=h
 refine ⟨hs,cs,e,fz,?_,hv⟩
 rcases hb with hb | hb
 ·exact .inl (hk.1.at_ _ _ hb)
 ·obtain ⟨T',hp⟩:=hk.2
  exact .inr (hp.mem_iff.2 (List.mem_append_right _ hb))
theorem AT.of_keep {I J:A0} {S T:SH} {w:World} (hw:AT J T w) (hk:AN I S J T):AT I S w:=by
 obtain ⟨T',hp⟩:=hk.2
 exact (hw.perm hp).drop.weaken hk.1
theorem Vx.qc {o:Oper} {K:Fr -> Prop} {l:Fr} {a:Act} (hwn:Region.wanted o (yielded ops a.tmps) = true) (h:Vx P n o K l I0 S0) (ha:Bg n l a):∃ v,QC P ops I0 S0 o v a /\ ∃ l',Bg n l' (a.put o.dst v) /\ K l':=by
 have small:(match E9 P o.op with | true=>Bn P n o (fun l _ _=>K l) l I0 S0 | false=>False) -> ∃ v,QC P ops I0 S0 o v a /\ ∃ l',Bg n l' (a.put o.dst v) /\ K l':=fun h=>by
  split at h
  ·rename_i hq
   cases hrd:MZ P o.op with
   | true=>
    obtain ⟨v,hr,hK⟩:=Wp hrd h
    have hc:CA P o = true:=by
     unfold CA
     split <;> first | rfl | exact hrd
    refine ⟨v,.inl ⟨hwn,fun J T hk w hw=>?_⟩,hK.act ha⟩
    simp only [Oper.quietAt,ha.eval,hr w (hw.of_keep (hk hc)),Oper.quietUpon,and_self]
   | false=>
    obtain ⟨v,hr,hK⟩:=h.val (by simpa [E9,hrd] using hq)
    exact ⟨v,.inl ⟨hwn,fun J T _ w _=>by simp only [Oper.quietAt,ha.eval,hr w,Oper.quietUpon,and_self]⟩,hK.act ha⟩
  ·exact h.elim
 unfold Vx at h
 split at h
 ·rename_i t x ho
  split at h
  ·rename_i ad hx
   obtain ⟨v,hr,hp⟩:=LdX.run h
   have hc:CA P o = true:=by simp [CA,ho]
   refine ⟨v,.inl ⟨hwn,fun J T hk w hw=>?_⟩,hp.act ha⟩
   simp [Oper.quietAt,ha.eval,execOp,ho,hx,hr w (hw.of_keep (hk hc)),Oper.quietUpon]
  ·exact h.elim
 ·rename_i c ho
  split at h
  ·rename_i f hf
   split at h
   ·rename_i fid fs cs hfv
    split at h
    ·rename_i hc
     obtain ⟨v,hfn,hp⟩:=U6 h
     have hcl:CA P o = true:=by
      obtain ⟨cal,ar,at'⟩:=c
      dsimp only at hf; subst hf
      simp [CA,ho]
     refine ⟨v,.inl ⟨hwn,fun J T hk w hw=>?_⟩,hp.act ha⟩
     unfold CZ at hc
     split at hc
     ·rename_i fn hfn'
      simp only [Bool.and_eq_true,Bool.not_eq_true'] at hc
      have hb:fn.body.isNone = false:=by cases hbd:fn.body <;> simp [hbd] at hc ⊢
      have hr:(execOp a.eval o).run P w = .ok (.enter fid (fs.toList ++ c.args.toList.map (ev l) ++ cs.toList).toArray) w:=by
       have hca:fs ++ (c.args.toList.map (ev l)).toArray ++ cs = (fs.toList ++ c.args.toList.map (ev l) ++ cs.toList).toArray:=by
        apply Array.ext'; simp
       have hargs:c.args.map (ev l) = (c.args.toList.map (ev l)).toArray:=by rw [<- Array.toList_map]
       rw [ha.eval]
       simp only [execOp,ho,resolve,hf,hfv,Deferred.ofValue,Sem.run_bind,Sem.run_pure,Result.andThen_ok,invoke,hargs,hca]
       simp only [callFunc,program,Sem.run,Sem.run_bind,Result.andThen_ok,hfn',hc.1,hb,Bool.false_eq_true,if_false,Sem.run_pure]
      obtain ⟨hle,T',hpm⟩:=hk hcl
      simp only [Oper.quietAt,hr,Oper.quietUpon,true_and]
      refine (hfn J T' hle w (hw.perm hpm)).mono ?_
      rintro e w' ⟨v',J',T'',rfl,hle',hs,rfl,rfl⟩
      exact ⟨rfl,(hs.weaken hle').perm hpm.symm⟩
     ·cases hc
    ·exact h.elim
   ·exact h.elim
  ·exact small h
 ·exact small h
theorem G8.sound (hs:Region.noSelect ops = true) {K:Fr -> A0 -> SH -> Prop} (hQ:∀ l J T a w,Bg n l a -> I0.le J -> AT J T w -> K l J T -> Q .normal a w) (hQp:∀ c a w,¬ Q (.panic c) a w) :
  ∀ (m:Mv) (op:Bool) (listed:Array Bool) (l:Fr) (a:Act) (J:A0) (T:SH),Fw P ops eff m op listed = true -> (op = true -> AN I0 S0 J T) -> I0.le J -> FG ops listed -> Bg n l a ->
   G8 P n ops eff I0 S0 K m l J T -> Ek P ops eff I0 S0 Q m.len listed a J T:=by
 have step:∀ (m:Mv) (j:Nat) (k:Nat) (op:Bool) (listed:Array Bool) (l:Fr) (a:Act) (J:A0) (T:SH),k = m.len -> eff.contains j = true -> j ∈ Region.ready .any ops listed -> I0.le J -> FG ops listed -> Bg n l a ->
   (∀ l a J' T',(op && !Ej P ops eff j = true -> AN I0 S0 J' T') -> I0.le J' -> Bg n l a -> G8 P n ops eff I0 S0 K m l J' T' -> Ek P ops eff I0 S0 Q m.len (listed.setIfInBounds j true) a J' T') ->
   JC P n ops eff I0 S0 j (G8 P n ops eff I0 S0 K m) l J T -> ∀ o,ops[j]? = some o ->
   (eff.contains j = true -> ∀ w,AT J T w -> wpOp P ops Q j (fun a' w'=>∃ J' T',AT J' T' w' /\ (Ej P ops eff j = true \/ AN I0 S0 J' T') /\ Ek P ops eff I0 S0 Q k (listed.setIfInBounds j true) a' J' T') a w) /\
   (eff.contains j = false -> ∃ v,YK P ops o v a J T /\ Ek P ops eff I0 S0 Q k (listed.setIfInBounds j true) (a.put o.dst v) J T):=by
  intro m j k op listed l a J T hk he hr hle hcl ha ih h o ho
  subst hk
  refine ⟨fun _ w hw=>?_,fun hf=>by rw [he] at hf; cases hf⟩
  unfold JC at h
  simp only [ho] at h
  have fin:∀ a' w',NX n J (FC P ops eff I0 S0 j (G8 P n ops eff I0 S0 K m)) a' w' -> ∃ J' T',AT J' T' w' /\ (Ej P ops eff j = true \/ AN I0 S0 J' T') /\ Ek P ops eff I0 S0 Q m.len (listed.setIfInBounds j true) a' J' T':=by
   rintro a' w' ⟨l',J',T',h1,h2,h3,h4⟩
   unfold FC at h4
   cases hl:Ej P ops eff j with
   | true=>
    rw [hl] at h4
    exact ⟨J',T',h3,.inl rfl,ih l' a' J' T' (fun hh=>by simp [hl] at hh) (hle.trans h2) h1 h4⟩
   | false=>
    rw [hl] at h4
    exact ⟨J',T',h3,.inr h4.1,ih l' a' J' T' (fun _=>h4.1) (hle.trans h2) h1 h4.2⟩
  unfold wpOp
  simp only [ho]
  rcases Dg (o:=o) (ops:=ops) (K1:=fun l=>Bn P n o (FC P ops eff I0 S0 j (G8 P n ops eff I0 S0 K m)) l J T) (K2:=fun l=>Ai n o.dst undef (FC P ops eff I0 S0 j (G8 P n ops eff I0 S0 K m)) l J T) ha h with ⟨hwn,h⟩ | ⟨hwn,h⟩
  ·rw [if_pos hwn]
   exact .inl (Oper.wp_mono fin (Bn.sound (Q:=Q) h hw ha))
  ·rw [if_neg (by rw [hwn]; simp)]
   exact fin _ _ (h.nx ha (A0.le.refl J) hw)
 intro m
 induction m with
 | done=>
  intro op listed l a J T hok hk hle hcl ha h
  exact ⟨List.isEmpty_iff.1 hok,fun w hw=>hQ l J T a w ha hle hw h⟩
 | take i m ih=>
  intro op listed l a J T hok hk hle hcl ha h
  simp only [Fw,Bool.and_eq_true,Bool.not_eq_true',Mv.len] at hok ⊢
  obtain ⟨⟨⟨⟨he,hr⟩,hf⟩,hc⟩,hm⟩:=hok
  have hr':i ∈ Region.ready .any ops listed:=by simpa using hr
  cases ho:ops[i]? with
  | none=>rw [ho] at hc; cases hc
  | some o=>
   rw [ho] at hc
   simp only [G8,ho] at h
   have hcls:CA P o = true -> AN I0 S0 J T:=fun hb=>hk (by simpa [hb] using hc)
   have fin:∀ v,QC P ops I0 S0 o v a -> (∃ l',Bg n l' (a.put o.dst v) /\ G8 P n ops eff I0 S0 K m l' J T) -> Ek P ops eff I0 S0 Q (m.len + 1) listed a J T:=fun v hqc ⟨l',hl',hd⟩=>
    Ek.take ho (Region.noSelect_spec hs) he (fun c a w hp=>absurd hp (hQp c _ w)) m.len listed a J T hcl (Region.free_spec ho hf) hr' hqc hcls (ih op _ l' _ J T hm hk hle (hcl.set hr') hl' hd)
   rcases Dg (o:=o) (ops:=ops) (K1:=fun l=>Vx P n o (fun l=>G8 P n ops eff I0 S0 K m l J T) l I0 S0) (K2:=fun l=>Ai n o.dst undef (fun l _ _=>G8 P n ops eff I0 S0 K m l J T) l I0 S0) ha h with ⟨hwn,h⟩ | ⟨hwn,h⟩
   ·obtain ⟨v,hqc,hd⟩:=h.qc hwn ha
    exact fin v hqc hd
   ·exact fin undef (.inr ⟨hwn,rfl⟩) (h.act ha)
 | step j m ih=>
  intro op listed l a J T hok hk hle hcl ha h
  simp only [Fw,Bool.and_eq_true,Mv.len,beq_iff_eq] at hok ⊢
  obtain ⟨⟨he,hr⟩,hm⟩:=hok
  have hr':j ∈ Region.ready .any ops listed:=by rw [hr]; simp
  refine ⟨fun h0=>(by rw [hr] at h0; cases h0),fun j' hj' o ho=>?_⟩
  rw [hr] at hj'
  simp at hj'; subst hj'
  exact step m j' m.len op listed l a J T rfl he hr' hle hcl ha (fun l a J' T' hk' hle' ha' hd=>ih _ _ l a J' T' hm (by simpa using hk') hle' (hcl.set hr') ha' hd) h o ho
 | fork j m j' m' ih ih'=>
  intro op listed l a J T hok hk hle hcl ha h
  simp only [Fw,Bool.and_eq_true,Mv.len,beq_iff_eq] at hok ⊢
  obtain ⟨⟨⟨⟨⟨he,he'⟩,hr⟩,hlen⟩,hm⟩,hm'⟩:=hok
  have hlen:=Nat.eq_of_beq_eq_true hlen
  have hr1:j ∈ Region.ready .any ops listed:=by rw [hr]; simp
  have hr2:j' ∈ Region.ready .any ops listed:=by rw [hr]; simp
  refine ⟨fun h0=>(by rw [hr] at h0; cases h0),fun i hi o ho=>?_⟩
  rw [hr] at hi
  simp at hi
  rcases hi with rfl | rfl
  ·exact step m i m.len op listed l a J T rfl he hr1 hle hcl ha (fun l a J' T' hk' hle' ha' hd=>ih _ _ l a J' T' hm (by simpa using hk') hle' (hcl.set hr1) ha' hd) h.1 o ho
  ·exact step m' i m.len op listed l a J T hlen he' hr2 hle hcl ha (fun l a J' T' hk' hle' ha' hd=>ih' _ _ l a J' T' hm' (by simpa using hk') hle' (hcl.set hr2) ha' hd) h.2 o ho
 | fork3 j m j' m' k q ih ih' ih2=>
  intro op listed l a J T hok hk hle hcl ha h
  simp only [Fw,Bool.and_eq_true,Mv.len,beq_iff_eq] at hok ⊢
  obtain ⟨⟨⟨⟨⟨⟨⟨⟨he,he'⟩,he2⟩,hr⟩,hlen⟩,hlen2⟩,hm⟩,hm'⟩,hm2⟩:=hok
  have hlen:=Nat.eq_of_beq_eq_true hlen
  have hlen2:=Nat.eq_of_beq_eq_true hlen2
  have hr1:j ∈ Region.ready .any ops listed:=by rw [hr]; simp
  have hr2:j' ∈ Region.ready .any ops listed:=by rw [hr]; simp
  have hr3:k ∈ Region.ready .any ops listed:=by rw [hr]; simp
  refine ⟨fun h0=>(by rw [hr] at h0; cases h0),fun i hi o ho=>?_⟩
  rw [hr] at hi
  simp at hi
  rcases hi with rfl | rfl | rfl
  ·exact step m i m.len op listed l a J T rfl he hr1 hle hcl ha (fun l a J' T' hk' hle' ha' hd=>ih _ _ l a J' T' hm (by simpa using hk') hle' (hcl.set hr1) ha' hd) h.1 o ho
  ·exact step m' i m.len op listed l a J T hlen he' hr2 hle hcl ha (fun l a J' T' hk' hle' ha' hd=>ih' _ _ l a J' T' hm' (by simpa using hk') hle' (hcl.set hr2) ha' hd) h.2.1 o ho
  ·exact step q i m.len op listed l a J T hlen2 he2 hr3 hle hcl ha (fun l a J' T' hk' hle' ha' hd=>ih2 _ _ l a J' T' hm2 (by simpa using hk') hle' (hcl.set hr3) ha' hd) h.2.2 o ho
theorem WP.draw' {Q:Exit -> Fr -> A0 -> SH -> Prop} {l:Fr} {I:A0} {S:SH} {c:Code} (m:Mv) (eff:List Nat) (hc:c = .region (NF c) (AD c) true) (hm:P.follows .mixedOrders = true) (hs:Region.noSelect (AD c) = true)
  (hl:Nat.beq m.len (AD c).size = true) (hok:Fw P (AD c) eff m true (Array.replicate (AD c).size false) = true) (h:G8 P n (AD c) eff I S (Q .normal) m l I S):WP P n c Q l I S:=by
 rw [hc]
 intro w a hw ha
 refine wp_mono (Q:=fun e a' w'=>e = .normal /\ ∃ l' J T,Bg n l' a' /\ I.le J /\ AT J T w' /\ Q e l' J T) (wp_region_any hm (Ek.wp (eff:=eff) (I0:=I) (S0:=S) _ _ a I S _ hw.drew ?_)) (fun e a w h=>h.2)
 have:=G8.sound (P:=P) (ops:=AD c) (eff:=eff) (I0:=I) (S0:=S) (Q:=fun e a' w'=>e = .normal /\ ∃ l' J T,Bg n l' a' /\ I.le J /\ AT J T w' /\ Q e l' J T) hs (K:=Q .normal)
  (fun l J T a w h1 h2 h3 h4=>⟨rfl,l,J,T,h1,h2,h3,h4⟩) (fun c a w h=>by cases h.1) m true _ l a I S hok (fun _=>AN.refl I S) (A0.le.refl I) ?_ ha h
 ·rw [Nat.eq_of_beq_eq_true hl] at this
  exact this
 ·intro j o _ hlj
  rw [Cn] at hlj
  cases hlj
theorem WP.drawF {Q:Exit -> Fr -> A0 -> SH -> Prop} {l:Fr} {I:A0} {S:SH} {c:Code} (m:Mv) (eff:List Nat) (hc:c = .region (NF c) (AD c) true) (hm:P.follows .mixedOrders = true) (hs:Region.noSelect (AD c) = true)
  (hl:Nat.beq m.len (AD c).size = true) (hok:Fw P (AD c) eff m true (Array.replicate (AD c).size false) = true) (h:∃ F:SH,AN I F I S /\ G8 P n (AD c) eff I F (Q .normal) m l I S):WP P n c Q l I S:=by
 obtain ⟨F,hF,h⟩:=h
 rw [hc]
 intro w a hw ha
 refine wp_mono (Q:=fun e a' w'=>e = .normal /\ ∃ l' J T,Bg n l' a' /\ I.le J /\ AT J T w' /\ Q e l' J T) (wp_region_any hm (Ek.wp (eff:=eff) (I0:=I) (S0:=F) _ _ a I S _ hw.drew ?_)) (fun e a w h=>h.2)
 have:=G8.sound (P:=P) (ops:=AD c) (eff:=eff) (I0:=I) (S0:=F) (Q:=fun e a' w'=>e = .normal /\ ∃ l' J T,Bg n l' a' /\ I.le J /\ AT J T w' /\ Q e l' J T) hs (K:=Q .normal)
  (fun l J T a w h1 h2 h3 h4=>⟨rfl,l,J,T,h1,h2,h3,h4⟩) (fun c a w h=>by cases h.1) m true _ l a I S hok (fun _=>hF) (A0.le.refl I) ?_ ha h
 ·rw [Nat.eq_of_beq_eq_true hl] at this
  exact this
 ·intro j o _ hlj
  rw [Cn] at hlj
  cases hlj
end
def asFA (f:FuncId) (v:Value) (K:Addr -> Prop):Prop:=match v with
 | .func (.func g) ⟨[]⟩ ⟨[.pointer (some a)]⟩=>(match Nat.beq g f with | true=>K a | false=>False)
 | _=>False
theorem asFA_e {f:FuncId} {v:Value} {K:Addr -> Prop} (h:asFA f v K):∃ a,v = .func (.func f) #[] #[.pointer (some a)] /\ K a:=by
 unfold asFA at h
 split at h
 ·split at h
  ·rename_i hb; have:=Nat.eq_of_beq_eq_true hb; subst this; exact ⟨_,rfl,h⟩
  ·exact h.elim
 ·exact h.elim
abbrev OA:=Option Addr
abbrev RT:=Value -> A0 -> SH -> Prop
abbrev PR:=A0 -> SH -> Prop
def tk:Nat -> Nat -> Mv -> Mv
 | 0,_,m=>m
 | k + 1,i,m=>.take i (tk k (i + 1) m)
inductive Sk where
 | i (k:IntKind)
 | b
 | s
 | p
 | a
 | m
 | v
 | l
 | f (q:FuncId)
 | fa (q:FuncId)
 | x
 | z
inductive Kd where
 | c (k:Sk)
 | g (es:List Sk)
abbrev kI (k:IntKind) (i:Nat):Nat × Kd:=(i,.c (.i k))
abbrev kB (i:Nat):Nat × Kd:=(i,.c .b)
abbrev kS (i:Nat):Nat × Kd:=(i,.c .s)
abbrev kP (i:Nat):Nat × Kd:=(i,.c .p)
abbrev kA (i:Nat):Nat × Kd:=(i,.c .a)
abbrev kM (i:Nat):Nat × Kd:=(i,.c .m)
abbrev kV (i:Nat):Nat × Kd:=(i,.c .v)
abbrev kL (i:Nat):Nat × Kd:=(i,.c .l)
abbrev kF (q:FuncId) (i:Nat):Nat × Kd:=(i,.c (.f q))
abbrev JP (q:FuncId) (i:Nat):Nat × Kd:=(i,.c (.fa q))
abbrev kZ (i:Nat):Nat × Kd:=(i,.c .z)
noncomputable def cd (f:Func):Code:=f.body.getD .skip
@[reducible] def ST:Sk -> Type -> Type
 | .i _,X=>Int -> X
 | .b,X=>Bool -> X
 | .s,X=>ByteArray -> X
 | .p,X=>Option Addr -> X
 | .a,X=>Addr -> X
 | .m,X=>Option Nat -> X
 | .v,X=>Value -> X
 | .l,X=>Option Addr -> Nat -> Nat -> X
 | .f _,X=>X
 | .fa _,X=>Addr -> X
 | .x,X=>Nat -> X
 | .z,X=>Nat -> Nat -> X
@[reducible] def SG:List Sk -> Type -> Type
 | [],X=>X
 | k :: r,X=>ST k (SG r X)
@[reducible] def CT:List (Nat × Kd) -> Type
 | []=>A0 -> SH -> Prop
 | (_,.c k) :: r=>ST k (CT r)
 | (_,.g es) :: r=>SG es (CT r)
def asX (v:Value) (K:Nat -> Prop):Prop:=match v with
 | .float .f64 b=>K b
 | _=>False
theorem asX_e {v:Value} {K:Nat -> Prop} (h:asX v K):∃ b,v = .float .f64 b /\ K b:=by
 cases v with
 | float k b=>cases k <;> first | exact ⟨_,rfl,h⟩ | exact h.elim
 | _=>exact h.elim
def asZ (v:Value) (K:Nat -> Nat -> Prop):Prop:=match v with
 | .complex .f64 a b=>K a b
 | _=>False
theorem asZ_e {v:Value} {K:Nat -> Nat -> Prop} (h:asZ v K):∃ a b,v = .complex .f64 a b /\ K a b:=by
 cases v with
 | complex k a b=>cases k <;> first | exact ⟨_,_,rfl,h⟩ | exact h.elim
 | _=>exact h.elim
def rS {X:Type}:(k:Sk) -> Value -> ST k X -> (X -> Prop) -> Prop
 | .i k,v,K,G=>asI k v fun n=>G (K n)
 | .b,v,K,G=>asB v fun n=>G (K n)
 | .s,v,K,G=>asStr v fun n=>G (K n)
 | .p,v,K,G=>asPtr v fun n=>G (K n)
 | .a,v,K,G=>asAdr v fun n=>G (K n)
 | .m,v,K,G=>asMap v fun n=>G (K n)
 | .v,v,K,G=>asV v fun n=>G (K n)
 | .l,v,K,G=>asSl v fun p n c=>G (K p n c)
 | .f q,v,K,G=>asF q v (G K)
 | .fa q,v,K,G=>asFA q v fun n=>G (K n)
 | .x,v,K,G=>asX v fun n=>G (K n)
 | .z,v,K,G=>asZ v fun a b=>G (K a b)
def asAg (v:Value) (K:List Value -> Prop):Prop:=match v with
 | .agg cs=>K cs.toList
 | _=>False
theorem asAg_e {v:Value} {K:List Value -> Prop} (h:asAg v K):∃ cs,v = .agg cs /\ K cs.toList:=by cases v <;> first | exact ⟨_,rfl,h⟩ | exact h.elim
def rG {X:Type}:(es:List Sk) -> List Value -> SG es X -> (X -> Prop) -> Prop
 | [],[],K,G=>G K
 | k :: r,v :: vs,K,G=>rS k v K fun K'=>rG r vs K' G
 | _,_,_,_=>False
def rd:(ks:List (Nat × Kd)) -> CT ks -> Fr -> A0 -> SH -> Prop
 | [],K,_,I,S=>K I S
 | (i,.c k) :: r,K,l,I,S=>rS k (l i) K fun K'=>rd r K' l I S
 | (i,.g es) :: r,K,l,I,S=>asAg (l i) fun cs=>rG es cs K fun K'=>rd r K' l I S
def OS {X:Type}:(k:Sk) -> ST k X -> (X -> Value -> Prop) -> Prop
 | .i k,K,G=>∀ n,G (K n) (.int k n)
 | .b,K,G=>∀ n,G (K n) (.bool n)
 | .s,K,G=>∀ n,G (K n) (.string n)
 | .p,K,G=>∀ n,G (K n) (.pointer n)
 | .a,K,G=>∀ n,G (K n) (.pointer (some n))
 | .m,K,G=>∀ n,G (K n) (.map n)
 | .v,K,G=>∀ n,G (K n) n
 | .l,K,G=>∀ p n c,G (K p n c) (.slice p n c)
 | .f q,K,G=>G K (.func (.func q) #[] #[])
 | .fa q,K,G=>∀ n,G (K n) (.func (.func q) #[] #[.pointer (some n)])
 | .x,K,G=>∀ n,G (K n) (.float .f64 n)
 | .z,K,G=>∀ a b,G (K a b) (.complex .f64 a b)
def OG {X:Type}:(es:List Sk) -> SG es X -> (X -> List Value -> Prop) -> Prop
 | [],K,G=>G K []
 | k :: r,K,G=>OS k K fun K' v=>OG r K' fun K'' vs=>G K'' (v :: vs)
def OT:(ks:List (Nat × Kd)) -> CT ks -> Fr -> (Fr -> Prop) -> A0 -> SH -> Prop
 | [],K,l,G,I,S=>K I S -> G l
 | (i,.c k) :: r,K,l,G,I,S=>OS k K fun K' v=>OT r K' (upd l i v) G I S
 | (i,.g es) :: r,K,l,G,I,S=>OG es K fun K' vs=>OT r K' (upd l i (.agg vs.toArray)) G I S
theorem rS.op {X:Type} {G:Prop} {H:X -> Prop} {M:X -> Value -> Prop}:∀ {k:Sk} {v:Value} {K:ST k X},rS k v K H -> OS k K M -> (∀ K',H K' -> M K' v -> G) -> G
 | .i _,v,K,h,g,o=>by obtain ⟨n,e,h'⟩:=asI_e h; subst e; exact o _ h' (g n)
 | .b,v,K,h,g,o=>by obtain ⟨n,e,h'⟩:=asB_e h; subst e; exact o _ h' (g n)
 | .s,v,K,h,g,o=>by obtain ⟨n,e,h'⟩:=asStr_e h; subst e; exact o _ h' (g n)
 | .p,v,K,h,g,o=>by obtain ⟨n,e,h'⟩:=asPtr_e h; subst e; exact o _ h' (g n)
 | .a,v,K,h,g,o=>by obtain ⟨n,e,h'⟩:=asAdr_e h; subst e; exact o _ h' (g n)
 | .m,v,K,h,g,o=>by obtain ⟨n,e,h'⟩:=asMap_e h; subst e; exact o _ h' (g n)
 | .v,v,K,h,g,o=>o _ h (g v)
 | .l,v,K,h,g,o=>by obtain ⟨p,n,c,e,h'⟩:=asSl_e h; subst e; exact o _ h' (g p n c)
 | .f _,v,K,h,g,o=>by obtain ⟨e,h'⟩:=asF_e h; subst e; exact o _ h' g
 | .fa _,v,K,h,g,o=>by obtain ⟨n,e,h'⟩:=asFA_e h; subst e; exact o _ h' (g n)
 | .x,v,K,h,g,o=>by obtain ⟨n,e,h'⟩:=asX_e h; subst e; exact o _ h' (g n)
 | .z,v,K,h,g,o=>by obtain ⟨a,b,e,h'⟩:=asZ_e h; subst e; exact o _ h' (g a b)
theorem rG.op {X:Type} {G:Prop} {H:X -> Prop}:∀ {es:List Sk} {vs:List Value} {K:SG es X} {M:X -> List Value -> Prop},rG es vs K H -> OG es K M -> (∀ K',H K' -> M K' vs -> G) -> G
 | [],[],K,M,h,g,o=>o _ h g
 | [],_ :: _,K,M,h,g,o=>h.elim
 | _ :: _,[],K,M,h,g,o=>h.elim
 | k :: r,v :: vs,K,M,h,g,o=>rS.op h g fun K' h' g'=>rG.op h' g' o
theorem OT.op:∀ {ks:List (Nat × Kd)} {K:CT ks} {l:Fr} {G:Fr -> Prop} {I:A0} {S:SH},rd ks K l I S -> OT ks K l G I S -> G l
 | [],K,l,G,I,S,h,g=>g h
 | (i,.c k) :: r,K,l,G,I,S,h,g=>rS.op h g fun K' h' g'=>by
  rw [<- PH (l:=l) (d:=i) rfl] at g'
  exact OT.op h' g'
 | (i,.g es) :: r,K,l,G,I,S,h,g=>by
  obtain ⟨cs,e,h⟩:=asAg_e h
  refine rG.op h g fun K' h' g'=>?_
  rw [show cs.toList.toArray = cs from rfl,<- PH (l:=l) (d:=i) e] at g'
  exact OT.op h' g'
section
variable {P:Program} {n:Nat} {c:Code} {Q:Exit -> Fr -> A0 -> SH -> Prop} {l:Fr} {I:A0} {S:SH} {A B:Prop}
theorem op {ks:List (Nat × Kd)} {K:CT ks} (h:rd ks K l I S) (g:OT ks K l (fun l=>WP P n c Q l I S) I S):WP P n c Q l I S:=OT.op h g
theorem pS (h:A) (e:A = Ep P n c Q l I S:=by kernel_rfl):WP P n c Q l I S:=Ep.sound _ _ _ _ _ (cast e h)
theorem bK (h:WP P n (P7 c) (KQ (JL c) Q) l I S) (hc:c = .block (JL c) (P7 c):=by kernel_rfl):WP P n c Q l I S:=WP.block' hc h
theorem cD {t:Bool} (h:A2 t A B) (hA:A -> WP P n (ZZ c) Q l I S) (hB:B -> WP P n (ZY c) Q l I S) (hc:c = .cond (ZX c) (ZZ c) (ZY c):=by kernel_rfl) (ht:ev l (ZX c) = .bool t:=by kernel_rfl):WP P n c Q l I S:=WP.cond' hc ht h hA hB
theorem qT (h:A) (hc:c = .region (NF c) (AD c) true:=by kernel_rfl) (hm:P.follows .mixedOrders = true:=by kernel_rfl) (hB:Region.lexB .any (AD c) = true:=by kernel_rfl)
  (e:A = Ew P n (AD c) I S (AD c).toList (fun l=>Q .normal l I S) l:=by kernel_rfl):WP P n c Q l I S:=WP.quiet' hc hm hB (cast e h)
theorem dR (m:Mv) (eff:List Nat) (h:A) (hc:c = .region (NF c) (AD c) true:=by kernel_rfl) (hm:P.follows .mixedOrders = true:=by kernel_rfl) (hs:Region.noSelect (AD c) = true:=by kernel_rfl)
  (hl:Nat.beq m.len (AD c).size = true:=by kernel_rfl) (hok:Fw P (AD c) eff m true (Array.replicate (AD c).size false) = true:=by kernel_rfl) (e:A = G8 P n (AD c) eff I S (Q .normal) m l I S:=by kernel_rfl):WP P n c Q l I S:=WP.draw' m eff hc hm hs hl hok (cast e h)
theorem dF (m:Mv) (eff:List Nat) (h:A) (hc:c = .region (NF c) (AD c) true:=by kernel_rfl) (hm:P.follows .mixedOrders = true:=by kernel_rfl) (hs:Region.noSelect (AD c) = true:=by kernel_rfl)
  (hl:Nat.beq m.len (AD c).size = true:=by kernel_rfl) (hok:Fw P (AD c) eff m true (Array.replicate (AD c).size false) = true:=by kernel_rfl) (e:A = (∃ F:SH,AN I F I S /\ G8 P n (AD c) eff I F (Q .normal) m l I S):=by kernel_rfl):WP P n c Q l I S:=WP.drawF m eff hc hm hs hl hok (cast e h)
theorem cO (k:Nat) (ks:List (Nat × Kd)) (K:CT ks) (h:A) (g:∀ l J T,I.le J -> OT ks K l (fun l=>WP P n (E1 k c) Q l J T) J T) (e:A = NW P n (rd ks K) k c Q l I S:=by kernel_rfl):WP P n c Q l I S:=WP.cut k (rd ks K) (cast e h) fun l J T hle h=>OT.op h (g l J T hle)
theorem sO (ks:List (Nat × Kd)) (K:CT ks) (h1:WP P n (seqL c) (Jm (rd ks K) Q) l I S) (g:∀ l J T,I.le J -> OT ks K l (fun l=>WP P n (Wb c) Q l J T) J T) (hc:c = .seq (seqL c) (Wb c):=by kernel_rfl):WP P n c Q l I S:=WP.seqY hc (rd ks K) h1 fun l J T hle h=>OT.op h (g l J T hle)
theorem lO (ks:List (Nat × Kd)) (V:Nat -> CT ks) (m:Nat) (h0:A) (g:∀ m l J T,I.le J -> OT ks (V m) l (fun l=>WP P n (loopB c) (Jm (fun l' J' T'=>∃ m',m' < m /\ rd ks (V m') l' J' T') Q) l J T) J T) (hc:c = .loop (loopB c):=by kernel_rfl) (e:A = rd ks (V m) l I S:=by kernel_rfl):WP P n c Q l I S:=
 WP.loop' hc (fun m=>rd ks (V m)) m (cast e h0) fun m l J T hle h=>OT.op h (g m l J T hle)
end
end Go.Px
set_option linter.unusedVariables false
set_option maxRecDepth 8000
set_option maxHeartbeats 2000000
namespace Go.Proofs.YtoiilcdaldnjfaaGreatDoor
open Go.Px
def Bc:ByteArray:=⟨#[48,49,50,51,52,53,54,55,56,57,97,98,99,100,101,102,103,104,105,106,107,108,109,110,111,112,113,114,115,116,117,118,119,120,121,122]⟩
def Am:ByteArray:=⟨#[48,48,48,49,48,50,48,51,48,52,48,53,48,54,48,55,48,56,48,57,49,48,49,49,49,50,49,51,49,52,49,53,49,54,49,55,49,56,49,57,50,48,50,49,50,50,50,51,50,52,50,53,50,54,50,55,50,56,50,57,51,48,51,49,51,50,51,51,51,52,51,53,51,54,51,55,51,56,51,57,52,48,52,49,52,50,52,51,52,52,52,53,52,54,52,55,52,56,52,57,53,48,53,49,53,50,53,51,53,52,53,53,53,54,53,55,53,56,53,57,54,48,54,49,54,50,54,51,54,52,54,53,54,54,54,55,54,56,54,57,55,48,55,49,55,50,55,51,55,52,55,53,55,54,55,55,55,56,55,57,56,48,56,49,56,50,56,51,56,52,56,53,56,54,56,55,56,56,56,57,57,48,57,49,57,50,57,51,57,52,57,53,57,54,57,55,57,56,57,57]⟩
def FZ:ByteArray:=⟨#[0,1,2,2,3,3,3,3,4,4,4,4,4,4,4,4,5,5,5,5,5,5,5,5,5,5,5,5,5,5,5,5,6,6,6,6,6,6,6,6,6,6,6,6,6,6,6,6,6,6,6,6,6,6,6,6,6,6,6,6,6,6,6,6,7,7,7,7,7,7,7,7,7,7,7,7,7,7,7,7,7,7,7,7,7,7,7,7,7,7,7,7,7,7,7,7,7,7,7,7,7,7,7,7,7,7,7,7,7,7,7,7,7,7,7,7,7,7,7,7,7,7,7,7,7,7,7,7,8,8,8,8,8,8,8,8,8,8,8,8,8,8,8,8,8,8,8,8,8,8,8,8,8,8,8,8,8,8,8,8,8,8,8,8,8,8,8,8,8,8,8,8,8,8,8,8,8,8,8,8,8,8,8,8,8,8,8,8,8,8,8,8,8,8,8,8,8,8,8,8,8,8,8,8,8,8,8,8,8,8,8,8,8,8,8,8,8,8,8,8,8,8,8,8,8,8,8,8,8,8,8,8,8,8,8,8,8,8,8,8,8,8,8,8,8,8,8,8,8,8,8,8,8,8,8,8]⟩
def z102 (R:RT) (d:Int) (I:A0) (S:SH):Prop:=
 Runs Tryz.prog 123 #[.int .i64 d] I S fun v b c=>∃ a,v = .string a /\
 R (.string a) b c
theorem z102_fn (R:RT) (a:Int) (I:A0) (S:SH) (h:z102 R a I S):Runs Tryz.prog 102 #[.int .i64 a] I S R:=by
 refine Runs.of_wp (c:=cd Tryz.f102) Tryz.func102 (by kernel_rfl) (by kernel_rfl) ?_
 exact pS h
def z83 (R:RT) (d:Int) (I:A0) (S:SH):Prop:=
 Runs Tryz.prog 136 #[.int .i64 d,.int .i64 10] I S fun v b c=>∃ a,v = .string a /\
 R (.string a) b c
theorem z83_fn (R:RT) (a:Int) (I:A0) (S:SH) (h:z83 R a I S):Runs Tryz.prog 123 #[.int .i64 a] I S R:=by
 refine Runs.of_wp (c:=cd Tryz.f123) Tryz.func123 (by kernel_rfl) (by kernel_rfl) ?_
 exact pS h
def z52 (R:RT) (d e:Int) (I:A0) (S:SH):Prop:=
 Runs Tryz.prog 136 #[.int .i64 d,.int .i64 e] I S fun v b c=>∃ a,v = .string a /\
 R (.string a) b c
theorem z52_fn (R:RT) (a b:Int) (I:A0) (S:SH) (h:z52 R a b I S):Runs Tryz.prog 124 #[.int .i64 a,.int .i64 b] I S R:=by
 refine Runs.of_wp (c:=cd Tryz.f124) Tryz.func124 (by kernel_rfl) (by kernel_rfl) ?_
 exact pS h
def S3 (R:RT) (l:Int) (e:Addr) (h:Int) (I:A0) (S:SH):Prop:=
 Runs Tryz.prog 147 #[.int .u64 h] I S fun v i j=>∃ a,v = .int .i64 a /\
 (0:Int) <= (IntKind.wrap .i64 ((1:Int) + a)) /\ (IntKind.wrap .i64 ((1:Int) + a)) <= ((24:Nat):Int) /\
 (0:Int) <= (1:Int) /\ (1:Int) <= (((IntKind.wrap .i64 ((1:Int) + a)).toNat:Nat):Int) /\
 Runs Tryz.prog 148 #[.slice (Bk (some e) 24 ((1:Int).toNat) 1) ((IntKind.wrap .i64 ((1:Int) + a)).toNat - (1:Int).toNat) (24 - (1:Int).toNat),.int .u64 h] i j fun k b d=>k = .tuple #[] /\
 A2 (decide (l < (0:Int)))
  ((0:Int) <= (0:Int) /\ (0:Int) < ((24:Nat):Int) /\
  Ae d (e.add ((0:Int).toNat * 1)) [.int .u8 45] fun c=>
  (0:Int) <= (IntKind.wrap .i64 ((1:Int) + a)) /\ (IntKind.wrap .i64 ((1:Int) + a)) <= ((24:Nat):Int) /\
  ∃ f:ByteArray,Aw b c (Bk (some e) 24 0 1) ((IntKind.wrap .i64 ((1:Int) + a)).toNat - 0) f /\
  R (.string f) b c)
  ((0:Int) <= (IntKind.wrap .i64 ((1:Int) + a)) /\ (IntKind.wrap .i64 ((1:Int) + a)) <= ((24:Nat):Int) /\
  (0:Int) <= (1:Int) /\ (1:Int) <= (((IntKind.wrap .i64 ((1:Int) + a)).toNat:Nat):Int) /\
  ∃ g:ByteArray,Aw b d (Bk (some e) 24 ((1:Int).toNat) 1) ((IntKind.wrap .i64 ((1:Int) + a)).toNat - (1:Int).toNat) g /\
  R (.string g) b d)
def Xv (R:RT) (a:Int) (I:A0) (S:SH):Prop:=
 ∀ b:Nat,
 A2 (decide (a < (0:Int)))
  (S3 R a ⟨b,0,none⟩ (IntKind.wrap .u64 (0 - (IntKind.wrap .u64 a))) I ((b,.cells #[.int .u8 0,.int .u8 0,.int .u8 0,.int .u8 0,.int .u8 0,.int .u8 0,.int .u8 0,.int .u8 0,.int .u8 0,.int .u8 0,.int .u8 0,.int .u8 0,.int .u8 0,.int .u8 0,.int .u8 0,.int .u8 0,.int .u8 0,.int .u8 0,.int .u8 0,.int .u8 0,.int .u8 0,.int .u8 0,.int .u8 0,.int .u8 0] 235 (0,0)) :: S))
  (S3 R a ⟨b,0,none⟩ (IntKind.wrap .u64 a) I ((b,.cells #[.int .u8 0,.int .u8 0,.int .u8 0,.int .u8 0,.int .u8 0,.int .u8 0,.int .u8 0,.int .u8 0,.int .u8 0,.int .u8 0,.int .u8 0,.int .u8 0,.int .u8 0,.int .u8 0,.int .u8 0,.int .u8 0,.int .u8 0,.int .u8 0,.int .u8 0,.int .u8 0,.int .u8 0,.int .u8 0,.int .u8 0,.int .u8 0] 235 (0,0)) :: S))
def RZ (R:RT) (c:Int) (a:Bool) (I:A0) (S:SH):Prop:=
 A2 a
  (Runs Tryz.prog 146 #[.int .i64 c] I S fun v d e=>∃ b,v = .string b /\
  R (.string b) d e)
  (Xv R c I S)
def Xw (R:RT) (d h:Int) (I:A0) (S:SH):Prop:=
 Runs Tryz.prog 149 #[.slice none 0 0,.int .u64 (IntKind.wrap .u64 d),.int .i64 h,.bool (decide (d < (0:Int))),.bool false] I S fun v e f=>∃ g b a c,v = .tuple #[.slice g b a,.string c] /\
 R (.string c) e f
def RY (R:RT) (a c:Int) (b:Bool) (I:A0) (S:SH):Prop:=
 A2 b
  (A2 (decide ((0:Int) <= a))
   (RZ R a (decide (a < (100:Int))) I S)
   (RZ R a false I S))
  (Xw R a c I S)
def RX (R:RT) (b a:Int) (I:A0) (S:SH):Prop:=
 RY R b a (a == (10:Int)) I S
def z33 (R:RT) (a b:Int) (I:A0) (S:SH):Prop:=
 RX R a b I S
theorem z33_fn (R:RT) (a b:Int) (I:A0) (S:SH) (h:z33 R a b I S):Runs Tryz.prog 136 #[.int .i64 a,.int .i64 b] I S R:=by
 refine Runs.of_wp (c:=cd Tryz.f136) Tryz.func136 (by kernel_rfl) (by kernel_rfl) ?_
 refine cO 1 [kI .i64 0,kI .i64 1] (RX R) h fun _ _ _ _ _ _ h=>?_
 refine sO [kI .i64 0,kI .i64 1] (Xw R) ?_ fun _ _ _ _ _ _ h=>?_
 ·refine cO 1 [kI .i64 0,kI .i64 1,kB 11] (RY R) h fun _ _ _ _ _ _ _ h=>?_
  refine cD h (fun h=>?_) fun h=>pS h
  refine sO [kI .i64 0] (Xv R) ?_ fun _ _ _ _ _ h=>?_
  ·refine cO 1 [kI .i64 0,kB 17] (RZ R) h fun _ _ _ _ _ _ h=>?_
   exact pS h
  refine cO 3 [kI .i64 0,kA 5,kI .u64 6] (S3 R) h fun _ _ _ _ _ _ _ h=>?_
  exact pS h
 exact pS h
def z91 (R:RT) (a:Int) (I:A0) (S:SH):Prop:=
 A2 (decide (a < (10:Int)))
  ((0:Int) <= (IntKind.wrap .i64 (a + (1:Int))) /\ (IntKind.wrap .i64 (a + (1:Int))) <= ((Bc.size:Nat):Int) /\
  (0:Int) <= a /\ a <= (((IntKind.wrap .i64 (a + (1:Int))).toNat:Nat):Int) /\
  R (.string (Bc.extract a.toNat ((IntKind.wrap .i64 (a + (1:Int))).toNat))) I S)
  ((0:Int) <= (IntKind.wrap .i64 ((IntKind.wrap .i64 (a * (2:Int))) + (2:Int))) /\ (IntKind.wrap .i64 ((IntKind.wrap .i64 (a * (2:Int))) + (2:Int))) <= ((Am.size:Nat):Int) /\
  (0:Int) <= (IntKind.wrap .i64 (a * (2:Int))) /\ (IntKind.wrap .i64 (a * (2:Int))) <= (((IntKind.wrap .i64 ((IntKind.wrap .i64 (a * (2:Int))) + (2:Int))).toNat:Nat):Int) /\
  R (.string (Am.extract ((IntKind.wrap .i64 (a * (2:Int))).toNat) ((IntKind.wrap .i64 ((IntKind.wrap .i64 (a * (2:Int))) + (2:Int))).toNat))) I S)
theorem z91_fn (R:RT) (a:Int) (I:A0) (S:SH) (h:z91 R a I S):Runs Tryz.prog 146 #[.int .i64 a] I S R:=by
 refine Runs.of_wp (c:=cd Tryz.f146) Tryz.func146 (by kernel_rfl) (by kernel_rfl) ?_
 exact pS h
def z56 (R:RT) (g:Int) (I:A0) (S:SH):Prop:=
 Runs Tryz.prog 161 #[.int .u64 g] I S fun v k l=>∃ h,v = .int .i64 h /\
 Runs Tryz.prog 160 #[.int .i64 h] k l fun m a c=>∃ e,m = .int .i64 e /\
 (0:Int) <= e /\ e < ((20:Nat):Int) /\
 ∃ i,A1 a c ((⟨0,0,none⟩:Addr).add (e.toNat * 1)) (.int .u64 i) /\
 Runs Tryz.prog 162 #[.bool (decide (g >= i))] a c fun f b d=>∃ j,f = .int .i64 j /\
 R (.int .i64 (IntKind.wrap .i64 (e + j))) b d
theorem z56_fn (R:RT) (a:Int) (I:A0) (S:SH) (h:z56 R a I S):Runs Tryz.prog 147 #[.int .u64 a] I S R:=by
 refine Runs.of_wp (c:=cd Tryz.f147) Tryz.func147 (by kernel_rfl) (by kernel_rfl) ?_
 exact pS h
abbrev F2:=OA -> Nat -> Nat -> Int -> Int -> PR
def z28_b8 (g2:F2) (R:RT) (c:OA) (b a:Nat) (d e:Int) (I:A0) (S:SH):Prop:=
 g2 c b a d (IntKind.wrap .i64 (e - (8:Int))) I S
def z28_b7 (g2:F2) (R:RT) (e:OA) (b f:Nat) (l c a:Int) (I:A0) (S:SH):Prop:=
 ∃ g:UInt8,(0:Int) <= (IntKind.wrap .u32 (a + (1:Int))) /\ Am[(IntKind.wrap .u32 (a + (1:Int))).toNat]? = some g /\
 ∃ h:UInt8,(0:Int) <= a /\ Am[a.toNat]? = some h /\
 Ab e fun j=>(0:Int) <= (IntKind.wrap .i64 (c - (7:Int))) /\ (IntKind.wrap .i64 (c - (7:Int))) < (b:Int) /\
 Ae S (j.add ((IntKind.wrap .i64 (c - (7:Int))).toNat * 1)) [.int .u8 (g.toNat:Int)] fun i=>
 Ab e fun k=>(0:Int) <= (IntKind.wrap .i64 (c - (8:Int))) /\ (IntKind.wrap .i64 (c - (8:Int))) < (b:Int) /\
 Ae i (k.add ((IntKind.wrap .i64 (c - (8:Int))).toNat * 1)) [.int .u8 (h.toNat:Int)] fun d=>
 z28_b8 g2 R e b f l c I d
def z28_b6 (g2:F2) (R:RT) (e:OA) (b f:Nat) (m c g a:Int) (I:A0) (S:SH):Prop:=
 ∃ h:UInt8,(0:Int) <= (IntKind.wrap .u32 (a + (1:Int))) /\ Am[(IntKind.wrap .u32 (a + (1:Int))).toNat]? = some h /\
 ∃ i:UInt8,(0:Int) <= a /\ Am[a.toNat]? = some i /\
 Ab e fun k=>(0:Int) <= (IntKind.wrap .i64 (c - (5:Int))) /\ (IntKind.wrap .i64 (c - (5:Int))) < (b:Int) /\
 Ae S (k.add ((IntKind.wrap .i64 (c - (5:Int))).toNat * 1)) [.int .u8 (h.toNat:Int)] fun j=>
 Ab e fun l=>(0:Int) <= (IntKind.wrap .i64 (c - (6:Int))) /\ (IntKind.wrap .i64 (c - (6:Int))) < (b:Int) /\
 Ae j (l.add ((IntKind.wrap .i64 (c - (6:Int))).toNat * 1)) [.int .u8 (i.toNat:Int)] fun d=>
 z28_b7 g2 R e b f m c g I d
def z28_b5 (g2:F2) (R:RT) (e:OA) (a f:Nat) (n b c g h:Int) (I:A0) (S:SH):Prop:=
 ∃ i:UInt8,(0:Int) <= (IntKind.wrap .u32 (c + (1:Int))) /\ Am[(IntKind.wrap .u32 (c + (1:Int))).toNat]? = some i /\
 ∃ j:UInt8,(0:Int) <= c /\ Am[c.toNat]? = some j /\
 Ab e fun l=>(0:Int) <= (IntKind.wrap .i64 (b - (3:Int))) /\ (IntKind.wrap .i64 (b - (3:Int))) < (a:Int) /\
 Ae S (l.add ((IntKind.wrap .i64 (b - (3:Int))).toNat * 1)) [.int .u8 (i.toNat:Int)] fun k=>
 Ab e fun m=>(0:Int) <= (IntKind.wrap .i64 (b - (4:Int))) /\ (IntKind.wrap .i64 (b - (4:Int))) < (a:Int) /\
 Ae k (m.add ((IntKind.wrap .i64 (b - (4:Int))).toNat * 1)) [.int .u8 (j.toNat:Int)] fun d=>
 z28_b6 g2 R e a f n b g h I d
def z28_b4 (g2:F2) (R:RT) (e:OA) (a f:Nat) (n b o c g h:Int) (I:A0) (S:SH):Prop:=
 ∃ i:UInt8,(0:Int) <= (IntKind.wrap .u32 (c + (1:Int))) /\ Am[(IntKind.wrap .u32 (c + (1:Int))).toNat]? = some i /\
 ∃ j:UInt8,(0:Int) <= c /\ Am[c.toNat]? = some j /\
 Ab e fun l=>(0:Int) <= (IntKind.wrap .i64 (b - (1:Int))) /\ (IntKind.wrap .i64 (b - (1:Int))) < (a:Int) /\
 Ae S (l.add ((IntKind.wrap .i64 (b - (1:Int))).toNat * 1)) [.int .u8 (i.toNat:Int)] fun k=>
 Ab e fun m=>(0:Int) <= (IntKind.wrap .i64 (b - (2:Int))) /\ (IntKind.wrap .i64 (b - (2:Int))) < (a:Int) /\
 Ae k (m.add ((IntKind.wrap .i64 (b - (2:Int))).toNat * 1)) [.int .u8 (j.toNat:Int)] fun d=>
 z28_b5 g2 R e a f n b o g h I d
def z28_b3 (g2:F2) (R:RT) (d:OA) (c b:Nat) (a e:Int) (I:A0) (S:SH):Prop:=
 z28_b4 g2 R d c b (IntKind.wrap .u64 (a.tdiv (100000000:Int))) e (IntKind.wrap .u32 ((IntKind.wrap .u32 (((IntKind.wrap .u32 (a.tmod (100000000:Int))).tmod (10000:Int)).tdiv (100:Int))) * (2:Int))) (IntKind.wrap .u32 ((((IntKind.wrap .u32 (a.tmod (100000000:Int))).tmod (10000:Int)).tmod (100:Int)) * (2:Int))) (IntKind.wrap .u32 ((IntKind.wrap .u32 ((IntKind.wrap .u32 ((IntKind.wrap .u32 (a.tmod (100000000:Int))).tdiv (10000:Int))).tdiv (100:Int))) * (2:Int))) (IntKind.wrap .u32 (((IntKind.wrap .u32 ((IntKind.wrap .u32 (a.tmod (100000000:Int))).tdiv (10000:Int))).tmod (100:Int)) * (2:Int))) I S
def Kt (R:RT) (e:OA) (a f:Nat) (g b:Int) (I:A0) (S:SH):Prop:=
 A2 (decide (g > (0:Int)))
  (Ab e fun d=>(0:Int) <= (0:Int) /\ (0:Int) < (a:Int) /\
  Ae S (d.add ((0:Int).toNat * 1)) [.int .u8 (IntKind.wrap .u8 (IntKind.wrap .u32 ((48:Int) + b)))] fun c=>
  R (.tuple #[]) I c)
  (R (.tuple #[]) I S)
def RW (R:RT) (d:OA) (b a:Nat) (e c:Int) (I:A0) (S:SH):Prop:=
 Kt R d b a (IntKind.wrap .i64 (e - (2:Int))) c I S
def RV (R:RT) (e:OA) (b f:Nat) (c g a:Int) (I:A0) (S:SH):Prop:=
 ∃ h:UInt8,(0:Int) <= (IntKind.wrap .u32 (a + (1:Int))) /\ Am[(IntKind.wrap .u32 (a + (1:Int))).toNat]? = some h /\
 ∃ i:UInt8,(0:Int) <= a /\ Am[a.toNat]? = some i /\
 Ab e fun k=>(0:Int) <= (IntKind.wrap .i64 (c - (1:Int))) /\ (IntKind.wrap .i64 (c - (1:Int))) < (b:Int) /\
 Ae S (k.add ((IntKind.wrap .i64 (c - (1:Int))).toNat * 1)) [.int .u8 (h.toNat:Int)] fun j=>
 Ab e fun l=>(0:Int) <= (IntKind.wrap .i64 (c - (2:Int))) /\ (IntKind.wrap .i64 (c - (2:Int))) < (b:Int) /\
 Ae j (l.add ((IntKind.wrap .i64 (c - (2:Int))).toNat * 1)) [.int .u8 (i.toNat:Int)] fun d=>
 RW R e b f c g I d
def RU (R:RT) (e:OA) (c b:Nat) (f a:Int) (d:Bool) (I:A0) (S:SH):Prop:=
 A2 d
  (RV R e c b f (IntKind.wrap .u32 (a.tdiv (100:Int))) (IntKind.wrap .u32 ((a.tmod (100:Int)) * (2:Int))) I S)
  (Kt R e c b f a I S)
def Ks (R:RT) (e:OA) (b a:Nat) (d c:Int) (I:A0) (S:SH):Prop:=
 RU R e b a d c (decide (d >= (2:Int))) I S
def z28_b14 (R:RT) (d:OA) (b a:Nat) (e c:Int) (I:A0) (S:SH):Prop:=
 Ks R d b a (IntKind.wrap .i64 (e - (4:Int))) c I S
def z28_b13 (R:RT) (e:OA) (b f:Nat) (c g a:Int) (I:A0) (S:SH):Prop:=
 ∃ h:UInt8,(0:Int) <= (IntKind.wrap .u32 (a + (1:Int))) /\ Am[(IntKind.wrap .u32 (a + (1:Int))).toNat]? = some h /\
 ∃ i:UInt8,(0:Int) <= a /\ Am[a.toNat]? = some i /\
 Ab e fun k=>(0:Int) <= (IntKind.wrap .i64 (c - (3:Int))) /\ (IntKind.wrap .i64 (c - (3:Int))) < (b:Int) /\
 Ae S (k.add ((IntKind.wrap .i64 (c - (3:Int))).toNat * 1)) [.int .u8 (h.toNat:Int)] fun j=>
 Ab e fun l=>(0:Int) <= (IntKind.wrap .i64 (c - (4:Int))) /\ (IntKind.wrap .i64 (c - (4:Int))) < (b:Int) /\
 Ae j (l.add ((IntKind.wrap .i64 (c - (4:Int))).toNat * 1)) [.int .u8 (i.toNat:Int)] fun d=>
 z28_b14 R e b f c g I d
def z28_b12 (R:RT) (e:OA) (b f:Nat) (c g h a:Int) (I:A0) (S:SH):Prop:=
 ∃ i:UInt8,(0:Int) <= (IntKind.wrap .u32 (a + (1:Int))) /\ Am[(IntKind.wrap .u32 (a + (1:Int))).toNat]? = some i /\
 ∃ j:UInt8,(0:Int) <= a /\ Am[a.toNat]? = some j /\
 Ab e fun l=>(0:Int) <= (IntKind.wrap .i64 (c - (1:Int))) /\ (IntKind.wrap .i64 (c - (1:Int))) < (b:Int) /\
 Ae S (l.add ((IntKind.wrap .i64 (c - (1:Int))).toNat * 1)) [.int .u8 (i.toNat:Int)] fun k=>
 Ab e fun m=>(0:Int) <= (IntKind.wrap .i64 (c - (2:Int))) /\ (IntKind.wrap .i64 (c - (2:Int))) < (b:Int) /\
 Ae k (m.add ((IntKind.wrap .i64 (c - (2:Int))).toNat * 1)) [.int .u8 (j.toNat:Int)] fun d=>
 z28_b13 R e b f c g h I d
def RS (R:RT) (e:OA) (c b:Nat) (f a:Int) (d:Bool) (I:A0) (S:SH):Prop:=
 A2 d
  (z28_b12 R e c b f (IntKind.wrap .u32 (a.tdiv (10000:Int))) (IntKind.wrap .u32 ((IntKind.wrap .u32 ((a.tmod (10000:Int)).tdiv (100:Int))) * (2:Int))) (IntKind.wrap .u32 (((a.tmod (10000:Int)).tmod (100:Int)) * (2:Int))) I S)
  (Ks R e c b f a I S)
def RR (R:RT) (e:OA) (b a:Nat) (d c:Int) (I:A0) (S:SH):Prop:=
 RS R e b a d c (decide (d >= (4:Int))) I S
def Xg (R:RT) (c:OA) (b a:Nat) (d e:Int) (I:A0) (S:SH):Prop:=
 RR R c b a e (IntKind.wrap .u32 d) I S
def z28_l2 (g2:F2) (R:RT) (d:OA) (b a:Nat) (e c:Int) (I:A0) (S:SH):Prop:=
 A2 (decide (c >= (8:Int)))
  (z28_b3 g2 R d b a e c I S)
  (Xg R d b a e c I S)
def Xf (R:RT) (c:OA) (b a:Nat) (d e:Int) (I:A0) (S:SH):Prop:=
 ∃ (Inv:Nat -> F2) (m:Nat),Inv m c b a d e I S /\
  ∀ (m:Nat) (c:OA) (b a:Nat) (d e:Int) (J:A0) (T:SH),I.le J -> Inv m c b a d e J T ->
   z28_l2 (fun c b a d e I S=>∃ m',m' < m /\ Inv m' c b a d e I S) R c b a d e J T
def z28 (R:RT) (c:OA) (a b:Nat) (d:Int) (I:A0) (S:SH):Prop:=
 Xf R c a b d (a:Int) I S
theorem z28_fn (R:RT) (l:OA) (k j:Nat) (m:Int) (I:A0) (S:SH) (h:z28 R l k j m I S):Runs Tryz.prog 148 #[.slice l k j,.int .u64 m] I S R:=by
 refine Runs.of_wp (c:=cd Tryz.f148) Tryz.func148 (by kernel_rfl) (by kernel_rfl) ?_
 refine cO 1 [kL 0,kI .u64 1,kI .i64 4] (Xf R) h fun _ _ _ _ _ _ _ _ _ h=>?_
 refine sO [kL 0,kI .u64 1,kI .i64 4] (Xg R) ?_ fun _ _ _ _ _ _ _ _ _ h=>?_
 ·refine bK ?_
  obtain ⟨e,d,h,hr⟩:=h
  refine lO [kL 0,kI .u64 1,kI .i64 4] e d h fun d _ I S hle f b a g i h=>?_
  have h:=hr d f b a g i I S hle h
  refine cO 1 [kL 0,kI .u64 1,kI .i64 4] (z28_b3 (fun f b a g i I S=>∃ m',m' < d /\ e m' f b a g i I S) R) h fun _ _ _ _ _ _ _ _ _ h=>?_
  refine bK ?_
  refine cO 5 [kL 0,kI .u64 1,kI .i64 4,kI .u32 8,kI .u32 9,kI .u32 10,kI .u32 11] (z28_b4 (fun f b a g i I S=>∃ m',m' < d /\ e m' f b a g i I S) R) h fun _ _ _ _ _ _ _ _ _ _ _ _ _ h=>?_
  refine sO [kL 0,kI .u64 1,kI .i64 4,kI .u32 8,kI .u32 10,kI .u32 11] (z28_b5 (fun f b a g i I S=>∃ m',m' < d /\ e m' f b a g i I S) R) (dR (tk 12 0 (.step 12 (.take 13 (.step 14 .done)))) [12,14] h) fun _ _ _ _ _ _ _ _ _ _ _ _ h=>?_
  refine sO [kL 0,kI .u64 1,kI .i64 4,kI .u32 10,kI .u32 11] (z28_b6 (fun f b a g i I S=>∃ m',m' < d /\ e m' f b a g i I S) R) (dR (tk 12 0 (.step 12 (.take 13 (.step 14 .done)))) [12,14] h) fun _ _ _ _ _ _ _ _ _ _ _ h=>?_
  refine sO [kL 0,kI .u64 1,kI .i64 4,kI .u32 10] (z28_b7 (fun f b a g i I S=>∃ m',m' < d /\ e m' f b a g i I S) R) (dR (tk 12 0 (.step 12 (.take 13 (.step 14 .done)))) [12,14] h) fun _ _ _ _ _ _ _ _ _ _ h=>?_
  refine sO [kL 0,kI .u64 1,kI .i64 4] (z28_b8 (fun f b a g i I S=>∃ m',m' < d /\ e m' f b a g i I S) R) (dR (tk 12 0 (.step 12 (.take 13 (.step 14 .done)))) [12,14] h) fun _ _ _ _ _ _ _ _ _ h=>?_
  exact pS h
 refine cO 1 [kL 0,kI .i64 4,kI .u32 12] (RR R) h fun _ _ _ _ _ _ _ _ _ h=>?_
 refine sO [kL 0,kI .i64 4,kI .u32 12] (Ks R) ?_ fun _ _ _ _ _ _ _ _ _ h=>?_
 ·refine cO 1 [kL 0,kI .i64 4,kI .u32 12,kB 99] (RS R) h fun _ _ _ _ _ _ _ _ _ _ h=>?_
  refine cD h (fun h=>?_) fun h=>pS h
  refine cO 3 [kL 0,kI .i64 4,kI .u32 12,kI .u32 14,kI .u32 15] (z28_b12 R) h fun _ _ _ _ _ _ _ _ _ _ _ h=>?_
  refine sO [kL 0,kI .i64 4,kI .u32 12,kI .u32 14] (z28_b13 R) (dR (tk 12 0 (.step 12 (.take 13 (.step 14 .done)))) [12,14] h) fun _ _ _ _ _ _ _ _ _ _ h=>?_
  refine sO [kL 0,kI .i64 4,kI .u32 12] (z28_b14 R) (dR (tk 12 0 (.step 12 (.take 13 (.step 14 .done)))) [12,14] h) fun _ _ _ _ _ _ _ _ _ h=>?_
  exact pS h
 refine sO [kL 0,kI .i64 4,kI .u32 12] (Kt R) ?_ fun _ _ _ _ _ _ _ _ _ h=>?_
 ·refine cO 1 [kL 0,kI .i64 4,kI .u32 12,kB 139] (RU R) h fun _ _ _ _ _ _ _ _ _ _ h=>?_
  refine cD h (fun h=>?_) fun h=>pS h
  refine cO 2 [kL 0,kI .i64 4,kI .u32 12,kI .u32 16] (RV R) h fun _ _ _ _ _ _ _ _ _ _ h=>?_
  refine sO [kL 0,kI .i64 4,kI .u32 12] (RW R) (dR (tk 12 0 (.step 12 (.take 13 (.step 14 .done)))) [12,14] h) fun _ _ _ _ _ _ _ _ _ h=>?_
  exact pS h
 exact pS h
abbrev z45_t7:=OA -> Nat -> Nat -> Int -> Bool -> Bool -> OA -> Nat -> Nat -> ByteArray -> Addr -> Int -> Int -> Int -> Int -> PR
def KA (R:RT) (n:OA) (h g:Nat) (o:Bool) (i:OA) (c b:Nat) (j:ByteArray) (d:Addr) (a:Int) (I:A0) (S:SH):Prop:=
 A2 o
  ((0:Int) <= a /\ a <= ((65:Nat):Int) /\
  Ay 5 1 1 [.int .u8 0] (some (.slice 5)) I S (.slice n h g) (.slice (Bk (some d) 65 a.toNat 1) (65 - a.toNat) (65 - a.toNat)) fun m f e l=>
  R (.tuple #[.slice m f e,.string j]) I l)
  ((0:Int) <= a /\ a <= ((65:Nat):Int) /\
  ∃ k:ByteArray,Aw I S (Bk (some d) 65 a.toNat 1) (65 - a.toNat) k /\
  R (.tuple #[.slice i c b,.string k]) I S)
def Sn (R:RT) (i:OA) (f e:Nat) (l j:Bool) (g:OA) (c b:Nat) (h:ByteArray) (d:Addr) (a:Int) (I:A0) (S:SH):Prop:=
 A2 l
  ((0:Int) <= (IntKind.wrap .i64 (a - (1:Int))) /\ (IntKind.wrap .i64 (a - (1:Int))) < ((65:Nat):Int) /\
  Ae S (d.add ((IntKind.wrap .i64 (a - (1:Int))).toNat * 1)) [.int .u8 45] fun k=>
  KA R i f e j g c b h d (IntKind.wrap .i64 (a - (1:Int))) I k)
  (KA R i f e j g c b h d a I S)
def XH (R:RT) (l:OA) (f e:Nat) (j:Int) (m n:Bool) (g:OA) (c b:Nat) (h:ByteArray) (d:Addr) (a:Int) (I:A0) (S:SH):Prop:=
 ∃ i:UInt8,(0:Int) <= j /\ Bc[j.toNat]? = some i /\
 (0:Int) <= (IntKind.wrap .i64 (a - (1:Int))) /\ (IntKind.wrap .i64 (a - (1:Int))) < ((65:Nat):Int) /\
 Ae S (d.add ((IntKind.wrap .i64 (a - (1:Int))).toNat * 1)) [.int .u8 (i.toNat:Int)] fun k=>
 Sn R l f e m n g c b h d (IntKind.wrap .i64 (a - (1:Int))) I k
def z45_l7 (g7:z45_t7) (R:RT) (n:OA) (h g:Nat) (i:Int) (o p:Bool) (j:OA) (c b:Nat) (k:ByteArray) (d:Addr) (a e l f:Int) (I:A0) (S:SH):Prop:=
 A2 (decide (i >= l))
  (∃ m:UInt8,(0:Int) <= (Hv .u64 i f) /\ Bc[(Hv .u64 i f).toNat]? = some m /\
  (0:Int) <= (IntKind.wrap .i64 (a - (1:Int))) /\ (IntKind.wrap .i64 (a - (1:Int))) < ((65:Nat):Int) /\
  Ae S (d.add ((IntKind.wrap .i64 (a - (1:Int))).toNat * 1)) [.int .u8 (m.toNat:Int)] fun q=>
  A2 (decide (e < 0)) False (g7 n h g (i.fdiv (2 ^ (min e.toNat (IntKind.bits .u64)))) o p j c b k d (IntKind.wrap .i64 (a - (1:Int))) e l f I q))
  (XH R n h g i o p j c b k d a I S)
def XG (R:RT) (l:OA) (d c:Nat) (n:Int) (o p:Bool) (e:OA) (b a:Nat) (f:ByteArray) (g:Addr) (h i j k:Int) (I:A0) (S:SH):Prop:=
 ∃ (Inv:Nat -> z45_t7) (m:Nat),Inv m l d c n o p e b a f g h i j k I S /\
  ∀ (m:Nat) (l:OA) (d c:Nat) (n:Int) (o p:Bool) (e:OA) (b a:Nat) (f:ByteArray) (g:Addr) (h i j k:Int) (J:A0) (T:SH),I.le J -> Inv m l d c n o p e b a f g h i j k J T ->
   z45_l7 (fun l d c n o p e b a f g h i j k I S=>∃ m',m' < m /\ Inv m' l d c n o p e b a f g h i j k I S) R l d c n o p e b a f g h i j k J T
abbrev z45_t12:=OA -> Nat -> Nat -> Int -> Bool -> Bool -> OA -> Nat -> Nat -> ByteArray -> Addr -> Int -> Int -> PR
def z45_b13 (R:RT) (l:OA) (f e:Nat) (j:Int) (m n:Bool) (g:OA) (c b:Nat) (h:ByteArray) (d:Addr) (a:Int) (I:A0) (S:SH):Prop:=
 ∃ i:UInt8,(0:Int) <= j /\ Bc[j.toNat]? = some i /\
 (0:Int) <= (IntKind.wrap .i64 (a - (1:Int))) /\ (IntKind.wrap .i64 (a - (1:Int))) < ((65:Nat):Int) /\
 Ae S (d.add ((IntKind.wrap .i64 (a - (1:Int))).toNat * 1)) [.int .u8 (i.toNat:Int)] fun k=>
 Sn R l f e m n g c b h d (IntKind.wrap .i64 (a - (1:Int))) I k
def z45_l12 (g12:z45_t12) (R:RT) (l:OA) (h g:Nat) (e:Int) (m n:Bool) (i:OA) (d c:Nat) (j:ByteArray) (f:Addr) (b a:Int) (I:A0) (S:SH):Prop:=
 A2 (decide (e >= a))
  (A2 (decide (a = 0)) False (∃ k:UInt8,(0:Int) <= (IntKind.wrap .u64 (e - (IntKind.wrap .u64 ((IntKind.wrap .u64 (e.tdiv a)) * a)))) /\ Bc[(IntKind.wrap .u64 (e - (IntKind.wrap .u64 ((IntKind.wrap .u64 (e.tdiv a)) * a)))).toNat]? = some k /\
  (0:Int) <= (IntKind.wrap .i64 (b - (1:Int))) /\ (IntKind.wrap .i64 (b - (1:Int))) < ((65:Nat):Int) /\
  Ae S (f.add ((IntKind.wrap .i64 (b - (1:Int))).toNat * 1)) [.int .u8 (k.toNat:Int)] fun o=>
  g12 l h g (IntKind.wrap .u64 (e.tdiv a)) m n i d c j f (IntKind.wrap .i64 (b - (1:Int))) a I o))
  (z45_b13 R l h g e m n i d c j f b I S)
def z45_b11 (R:RT) (j:OA) (d c:Nat) (k:Int) (l n:Bool) (e:OA) (b a:Nat) (f:ByteArray) (g:Addr) (h i:Int) (I:A0) (S:SH):Prop:=
 ∃ (Inv:Nat -> z45_t12) (m:Nat),Inv m j d c k l n e b a f g h i I S /\
  ∀ (m:Nat) (j:OA) (d c:Nat) (k:Int) (l n:Bool) (e:OA) (b a:Nat) (f:ByteArray) (g:Addr) (h i:Int) (J:A0) (T:SH),I.le J -> Inv m j d c k l n e b a f g h i J T ->
   z45_l12 (fun j d c k l n e b a f g h i I S=>∃ m',m' < m /\ Inv m' j d c k l n e b a f g h i I S) R j d c k l n e b a f g h i J T
def XF (R:RT) (l:OA) (d c:Nat) (m i:Int) (n o:Bool) (e:OA) (b a:Nat) (f:ByteArray) (g:Addr) (h:Int) (j:Bool) (I:A0) (S:SH):Prop:=
 A2 j
  (Runs Tryz.prog 164 #[.int .u64 (IntKind.wrap .u64 i)] I S fun v p q=>∃ k,v = .int .i64 k /\
  XG R l d c m n o e b a f g h (IntKind.wrap .u64 k) (IntKind.wrap .u64 i) (IntKind.wrap .u64 ((IntKind.wrap .u64 i) - (1:Int))) p q)
  (z45_b11 R l d c m n o e b a f g h (IntKind.wrap .u64 i) I S)
def Sm (R:RT) (m:OA) (d c:Nat) (n j:Int) (o p:Bool) (e:OA) (b a:Nat) (f:ByteArray) (g:Addr) (h:Int) (I:A0) (S:SH):Prop:=
 Runs Tryz.prog 163 #[.int .i64 j] I S fun v k l=>∃ i,v = .bool i /\
 XF R m d c n j o p e b a f g h i k l
def XE (R:RT) (i:OA) (e d:Nat) (j k:Int) (h l:Bool) (f:OA) (c b:Nat) (g:ByteArray) (I:A0) (S:SH):Prop:=
 ∀ a:Nat,
 A2 h
  (Sm R i e d (IntKind.wrap .u64 (0 - j)) k h l f c b g ⟨a,0,none⟩ 65 I ((a,.cells #[.int .u8 0,.int .u8 0,.int .u8 0,.int .u8 0,.int .u8 0,.int .u8 0,.int .u8 0,.int .u8 0,.int .u8 0,.int .u8 0,.int .u8 0,.int .u8 0,.int .u8 0,.int .u8 0,.int .u8 0,.int .u8 0,.int .u8 0,.int .u8 0,.int .u8 0,.int .u8 0,.int .u8 0,.int .u8 0,.int .u8 0,.int .u8 0,.int .u8 0,.int .u8 0,.int .u8 0,.int .u8 0,.int .u8 0,.int .u8 0,.int .u8 0,.int .u8 0,.int .u8 0,.int .u8 0,.int .u8 0,.int .u8 0,.int .u8 0,.int .u8 0,.int .u8 0,.int .u8 0,.int .u8 0,.int .u8 0,.int .u8 0,.int .u8 0,.int .u8 0,.int .u8 0,.int .u8 0,.int .u8 0,.int .u8 0,.int .u8 0,.int .u8 0,.int .u8 0,.int .u8 0,.int .u8 0,.int .u8 0,.int .u8 0,.int .u8 0,.int .u8 0,.int .u8 0,.int .u8 0,.int .u8 0,.int .u8 0,.int .u8 0,.int .u8 0,.int .u8 0] 254 (0,0)) :: S))
  (Sm R i e d j k h l f c b g ⟨a,0,none⟩ 65 I ((a,.cells #[.int .u8 0,.int .u8 0,.int .u8 0,.int .u8 0,.int .u8 0,.int .u8 0,.int .u8 0,.int .u8 0,.int .u8 0,.int .u8 0,.int .u8 0,.int .u8 0,.int .u8 0,.int .u8 0,.int .u8 0,.int .u8 0,.int .u8 0,.int .u8 0,.int .u8 0,.int .u8 0,.int .u8 0,.int .u8 0,.int .u8 0,.int .u8 0,.int .u8 0,.int .u8 0,.int .u8 0,.int .u8 0,.int .u8 0,.int .u8 0,.int .u8 0,.int .u8 0,.int .u8 0,.int .u8 0,.int .u8 0,.int .u8 0,.int .u8 0,.int .u8 0,.int .u8 0,.int .u8 0,.int .u8 0,.int .u8 0,.int .u8 0,.int .u8 0,.int .u8 0,.int .u8 0,.int .u8 0,.int .u8 0,.int .u8 0,.int .u8 0,.int .u8 0,.int .u8 0,.int .u8 0,.int .u8 0,.int .u8 0,.int .u8 0,.int .u8 0,.int .u8 0,.int .u8 0,.int .u8 0,.int .u8 0,.int .u8 0,.int .u8 0,.int .u8 0,.int .u8 0] 254 (0,0)) :: S))
def Mt (R:RT) (h:OA) (d c:Nat) (i j:Int) (k l:Bool) (e:OA) (b a:Nat) (f:ByteArray) (g:Bool) (I:A0) (S:SH):Prop:=
 A2 g
  (False)
  (XE R h d c i j k l e b a f I S)
def XD (R:RT) (h:OA) (d c:Nat) (i g:Int) (j k:Bool) (e:OA) (b a:Nat) (f:ByteArray) (I:A0) (S:SH):Prop:=
 A2 (decide (g < (2:Int)))
  (Mt R h d c i g j k e b a f true I S)
  (A2 (g == (10:Int))
   (Mt R h d c i g j k e b a f true I S)
   (Mt R h d c i g j k e b a f (decide (g > (36:Int))) I S))
def z45 (R:RT) (c:OA) (b a:Nat) (d e:Int) (f g:Bool) (I:A0) (S:SH):Prop:=
 XD R c b a d e f g none 0 0 ⟨#[]⟩ I S
theorem z45_fn (R:RT) (y:OA) (o n:Nat) (z A:Int) (B C:Bool) (I:A0) (S:SH) (h:z45 R y o n z A B C I S):Runs Tryz.prog 149 #[.slice y o n,.int .u64 z,.int .i64 A,.bool B,.bool C] I S R:=by
 refine Runs.of_wp (c:=cd Tryz.f149) Tryz.func149 (by kernel_rfl) (by kernel_rfl) ?_
 refine cO 1 [kL 0,kI .u64 1,kI .i64 2,kB 3,kB 4,kL 10,kS 11] (XD R) h fun _ _ _ _ _ _ _ _ _ _ _ _ _ _ _ h=>?_
 refine sO [kL 0,kI .u64 1,kI .i64 2,kB 3,kB 4,kL 10,kS 11] (XE R) ?_ fun _ _ _ _ _ _ _ _ _ _ _ _ _ _ _ h=>?_
 ·refine cO 1 [kL 0,kI .u64 1,kI .i64 2,kB 3,kB 4,kL 10,kS 11,kB 28] (Mt R) h fun _ _ _ _ _ _ _ _ _ _ _ _ _ _ _ _ h=>?_
  exact pS h
 refine cO 3 [kL 0,kI .u64 1,kI .i64 2,kB 3,kB 4,kL 10,kS 11,kA 12,kI .i64 13] (Sm R) h fun _ _ _ _ _ _ _ _ _ _ _ _ _ _ _ _ _ h=>?_
 refine sO [kL 0,kB 3,kB 4,kL 10,kS 11,kA 12,kI .i64 13] (Sn R) ?_ fun _ _ _ _ _ _ _ _ _ _ _ _ _ _ _ h=>?_
 ·refine cO 1 [kL 0,kI .u64 1,kI .i64 2,kB 3,kB 4,kL 10,kS 11,kA 12,kI .i64 13,kB 34] (XF R) h fun _ _ _ _ _ _ _ _ _ _ _ _ _ _ _ _ _ _ h=>?_
  refine cD h (fun h=>?_) fun h=>?_
  ·refine cO 3 [kL 0,kI .u64 1,kB 3,kB 4,kL 10,kS 11,kA 12,kI .i64 13,kI .u64 14,kI .u64 15,kI .u64 16] (XG R) h fun _ _ _ _ _ _ _ _ _ _ _ _ _ _ _ _ _ _ _ h=>?_
   refine sO [kL 0,kI .u64 1,kB 3,kB 4,kL 10,kS 11,kA 12,kI .i64 13] (XH R) ?_ fun _ _ _ _ _ _ _ _ _ _ _ _ _ _ _ _ h=>?_
   ·refine bK ?_
    obtain ⟨p,e,h,hr⟩:=h
    refine lO [kL 0,kI .u64 1,kB 3,kB 4,kL 10,kS 11,kA 12,kI .i64 13,kI .u64 14,kI .u64 15,kI .u64 16] p e h fun e _ I S hle q g f r w x i d b j k l s t u h=>?_
    have h:=hr e q g f r w x i d b j k l s t u I S hle h
    exact pS h
   exact pS h
  refine cO 1 [kL 0,kI .u64 1,kB 3,kB 4,kL 10,kS 11,kA 12,kI .i64 13,kI .u64 17] (z45_b11 R) h fun _ _ _ _ _ _ _ _ _ _ _ _ _ _ _ _ _ h=>?_
  refine sO [kL 0,kI .u64 1,kB 3,kB 4,kL 10,kS 11,kA 12,kI .i64 13] (z45_b13 R) ?_ fun _ _ _ _ _ _ _ _ _ _ _ _ _ _ _ _ h=>?_
  ·refine bK ?_
   obtain ⟨m,a,h,hr⟩:=h
   refine lO [kL 0,kI .u64 1,kB 3,kB 4,kL 10,kS 11,kA 12,kI .i64 13,kI .u64 17] m a h fun a _ I S hle q g f r w x i d b j k l v h=>?_
   have h:=hr a q g f r w x i d b j k l v I S hle h
   exact pS h
  exact pS h
 refine cO 1 [kL 0,kB 4,kL 10,kS 11,kA 12,kI .i64 13] (KA R) h fun _ _ _ _ _ _ _ _ _ _ _ _ _ _ h=>?_
 exact pS h
def z29 (R:RT) (a:Int) (I:A0) (S:SH):Prop:=
 R (.bool ((Hv .i64 a (IntKind.wrap .i64 (a - (1:Int)))) == (0:Int))) I S
theorem z29_fn (R:RT) (a:Int) (I:A0) (S:SH) (h:z29 R a I S):Runs Tryz.prog 163 #[.int .i64 a] I S R:=by
 refine Runs.of_wp (c:=cd Tryz.f163) Tryz.func163 (by kernel_rfl) (by kernel_rfl) ?_
 exact pS h
def z37 (R:RT) (d:Int) (I:A0) (S:SH):Prop:=
 Runs Tryz.prog 170 #[.int .u64 d] I S fun v b c=>∃ a,v = .int .i64 a /\
 R (.int .i64 a) b c
theorem z37_fn (R:RT) (a:Int) (I:A0) (S:SH) (h:z37 R a I S):Runs Tryz.prog 164 #[.int .u64 a] I S R:=by
 refine Runs.of_wp (c:=cd Tryz.f164) Tryz.func164 (by kernel_rfl) (by kernel_rfl) ?_
 exact pS h
def z23 (R:RT) (a:Int) (I:A0) (S:SH):Prop:=
 A2 (a == (0:Int))
  (R (.int .i64 64) I S)
  ((0:Int) <= ((IntKind.wrap .u64 ((Hv .u64 a (IntKind.wrap .u64 (0 - a))) * (285870213051353865:Int))).fdiv (2 ^ (min (58:Int).toNat (IntKind.bits .u64)))) /\ ((IntKind.wrap .u64 ((Hv .u64 a (IntKind.wrap .u64 (0 - a))) * (285870213051353865:Int))).fdiv (2 ^ (min (58:Int).toNat (IntKind.bits .u64)))) < ((64:Nat):Int) /\
  ∃ b,A1 I S ((⟨4,0,none⟩:Addr).add (((IntKind.wrap .u64 ((Hv .u64 a (IntKind.wrap .u64 (0 - a))) * (285870213051353865:Int))).fdiv (2 ^ (min (58:Int).toNat (IntKind.bits .u64)))).toNat * 1)) (.int .u8 b) /\
  R (.int .i64 (IntKind.wrap .i64 b)) I S)
theorem z23_fn (R:RT) (a:Int) (I:A0) (S:SH) (h:z23 R a I S):Runs Tryz.prog 170 #[.int .u64 a] I S R:=by
 refine Runs.of_wp (c:=cd Tryz.f170) Tryz.func170 (by kernel_rfl) (by kernel_rfl) ?_
 exact pS h
def z55 (R:RT) (a:Int) (I:A0) (S:SH):Prop:=
 R (.int .i64 ((IntKind.wrap .i64 (a * (78913:Int))).fdiv (2 ^ (min (18:Int).toNat (IntKind.bits .i64))))) I S
theorem z55_fn (R:RT) (a:Int) (I:A0) (S:SH) (h:z55 R a I S):Runs Tryz.prog 160 #[.int .i64 a] I S R:=by
 refine Runs.of_wp (c:=cd Tryz.f160) Tryz.func160 (by kernel_rfl) (by kernel_rfl) ?_
 exact pS h
def K8 (R:RT) (b c:Int) (I:A0) (S:SH):Prop:=
 ∃ a:UInt8,(0:Int) <= (IntKind.wrap .u8 b) /\ FZ[(IntKind.wrap .u8 b).toNat]? = some a /\
 R (.int .i64 (IntKind.wrap .i64 (c + (IntKind.wrap .i64 (a.toNat:Int))))) I S
def K7 (R:RT) (a b:Int) (I:A0) (S:SH):Prop:=
 A2 (decide (a >= (256:Int)))
  (K8 R (a.fdiv (2 ^ (min (8:Int).toNat (IntKind.bits .u64)))) (IntKind.wrap .i64 (b + (8:Int))) I S)
  (K8 R a b I S)
def K6 (R:RT) (a b:Int) (I:A0) (S:SH):Prop:=
 A2 (decide (a >= (65536:Int)))
  (K7 R (a.fdiv (2 ^ (min (16:Int).toNat (IntKind.bits .u64)))) (IntKind.wrap .i64 (b + (16:Int))) I S)
  (K7 R a b I S)
def z117 (R:RT) (a:Int) (I:A0) (S:SH):Prop:=
 A2 (decide (a >= (4294967296:Int)))
  (K6 R (a.fdiv (2 ^ (min (32:Int).toNat (IntKind.bits .u64)))) 32 I S)
  (K6 R a 0 I S)
theorem z117_fn (R:RT) (a:Int) (I:A0) (S:SH) (h:z117 R a I S):Runs Tryz.prog 161 #[.int .u64 a] I S R:=by
 refine Runs.of_wp (c:=cd Tryz.f161) Tryz.func161 (by kernel_rfl) (by kernel_rfl) ?_
 refine cO 2 [kI .u64 0,kI .i64 2] (K6 R) h fun _ _ _ _ _ _ h=>?_
 refine cO 1 [kI .u64 0,kI .i64 2] (K7 R) h fun _ _ _ _ _ _ h=>?_
 refine cO 1 [kI .u64 0,kI .i64 2] (K8 R) h fun _ _ _ _ _ _ h=>?_
 exact pS h
def z54 (R:RT) (a:Bool) (I:A0) (S:SH):Prop:=
 A2 a
  (R (.int .i64 1) I S)
  (R (.int .i64 0) I S)
theorem z54_fn (R:RT) (a:Bool) (I:A0) (S:SH) (h:z54 R a I S):Runs Tryz.prog 162 #[.bool a] I S R:=by
 refine Runs.of_wp (c:=cd Tryz.f162) Tryz.func162 (by kernel_rfl) (by kernel_rfl) ?_
 exact pS h
def z101 (R:RT) (g:ByteArray) (I:A0) (S:SH):Prop:=
 Runs Tryz.prog 137 #[.string g] I S fun v e f=>∃ c d,v = .tuple #[.int .i64 c,d] /\
 ∃ nl,BX d = some nl /\
 A2 (!nl)
  (Runs Tryz.prog 138 #[.string ⟨#[65,116,111,105]⟩,.string g,.int .i64 0,.int .i64 0,d] e f fun i a b=>∃ h,i = h /\
  R (.tuple #[.int .i64 c,h]) a b)
  (R (.tuple #[.int .i64 c,.nilIface]) e f)
theorem z101_fn (R:RT) (a:ByteArray) (I:A0) (S:SH) (h:z101 R a I S):Runs Tryz.prog 128 #[.string a] I S R:=by
 refine Runs.of_wp (c:=cd Tryz.f128) Tryz.func128 (by kernel_rfl) (by kernel_rfl) ?_
 exact pS h
abbrev z82_t8:=ByteArray -> Int -> OA -> Nat -> Nat -> Int -> Int -> PR
def KD (R:RT) (a:Int) (I:A0) (S:SH):Prop:=
 R (.tuple #[.int .i64 a,.nilIface]) I S
def Z5 (R:RT) (c:ByteArray) (b:Int) (I:A0) (S:SH):Prop:=
 ∃ a:UInt8,(0:Int) <= (0:Int) /\ c[(0:Int).toNat]? = some a /\
 A2 ((a.toNat:Int) == (45:Int))
  (KD R (IntKind.wrap .i64 (0 - b)) I S)
  (KD R b I S)
def z82_l8 (g8:z82_t8) (R:RT) (g:ByteArray) (h:Int) (c:OA) (b d:Nat) (e a:Int) (I:A0) (S:SH):Prop:=
 A2 (decide (a < e))
  (Ab c fun i=>(0:Int) <= a /\ a < (b:Int) /\
  ∃ f,A1 I S (i.add (a.toNat * 1)) (.int .u8 f) /\
  A2 (decide ((IntKind.wrap .u8 (f - (48:Int))) > (9:Int)))
   (R (.tuple #[.int .i64 0,(.iface 240 (.int .i64 2))]) I S)
   (g8 g (IntKind.wrap .i64 ((IntKind.wrap .i64 (h * (10:Int))) + (IntKind.wrap .i64 (IntKind.wrap .u8 (f - (48:Int)))))) c b d e (IntKind.wrap .i64 (a + (1:Int))) I S))
  (Z5 R g h I S)
def Z4 (R:RT) (f:ByteArray) (g:Int) (c:OA) (b a:Nat) (d e:Int) (I:A0) (S:SH):Prop:=
 ∃ (Inv:Nat -> z82_t8) (m:Nat),Inv m f g c b a d e I S /\
  ∀ (m:Nat) (f:ByteArray) (g:Int) (c:OA) (b a:Nat) (d e:Int) (J:A0) (T:SH),I.le J -> Inv m f g c b a d e J T ->
   z82_l8 (fun f g c b a d e I S=>∃ m',m' < m /\ Inv m' f g c b a d e I S) R f g c b a d e J T
def Z3 (R:RT) (a c:ByteArray) (d:Int) (I:A0) (S:SH):Prop:=
 a.size <= maxLen /\ ∀ b c47:Nat,a.size <= c47 -> c47 <= maxLen ->
 Z4 R c d (some ⟨b,0,none⟩) a.size c47 ((a.size:Nat):Int) 0 I ((b,.cells (byteCells a ++ AG (c47 - a.size) [.int .u8 0]).toArray 5 (c47,c47 + 1)) :: S)
def MM (R:RT) (a b:ByteArray) (I:A0) (S:SH):Prop:=
 Z3 R a b 0 I S
def HW (R:RT) (a c:ByteArray) (b:Bool) (I:A0) (S:SH):Prop:=
 A2 b
  ((0:Int) <= (1:Int) /\ (1:Int) <= ((a.size:Nat):Int) /\
  A2 (decide (((a.extract ((1:Int).toNat) a.size).size:Int) < (1:Int)))
   (R (.tuple #[.int .i64 0,(.iface 240 (.int .i64 2))]) I S)
   (MM R (a.extract ((1:Int).toNat) a.size) c I S))
  (MM R a c I S)
def Z2 (R:RT) (a d:ByteArray) (I:A0) (S:SH):Prop:=
 ∃ b:UInt8,(0:Int) <= (0:Int) /\ a[(0:Int).toNat]? = some b /\
 A2 ((b.toNat:Int) == (45:Int))
  (HW R a d true I S)
  (∃ c:UInt8,(0:Int) <= (0:Int) /\ a[(0:Int).toNat]? = some c /\
  HW R a d ((c.toNat:Int) == (43:Int)) I S)
def KE (R:RT) (e:ByteArray) (I:A0) (S:SH):Prop:=
 Runs Tryz.prog 150 #[.string e,.int .i64 10,.int .i64 0] I S fun v c d=>∃ a b,v = .tuple #[.int .i64 a,b] /\
 R (.tuple #[.int .i64 a,b]) c d
def SM (R:RT) (a:ByteArray) (b:Bool) (I:A0) (S:SH):Prop:=
 A2 b
  (Z2 R a a I S)
  (KE R a I S)
def Z1 (R:RT) (a:ByteArray) (b:Int) (I:A0) (S:SH):Prop:=
 A2 (decide ((0:Int) < b))
  (SM R a (decide (b < (19:Int))) I S)
  (SM R a false I S)
def z82 (R:RT) (a:ByteArray) (I:A0) (S:SH):Prop:=
 Z1 R a (a.size:Int) I S
theorem z82_fn (R:RT) (j:ByteArray) (I:A0) (S:SH) (h:z82 R j I S):Runs Tryz.prog 137 #[.string j] I S R:=by
 refine Runs.of_wp (c:=cd Tryz.f137) Tryz.func137 (by kernel_rfl) (by kernel_rfl) ?_
 refine cO 2 [kS 0,kI .i64 4] (Z1 R) h fun _ _ _ _ _ _ h=>?_
 refine sO [kS 0] (KE R) ?_ fun _ _ _ _ _ h=>?_
 ·refine cO 1 [kS 0,kB 30] (SM R) h fun _ _ _ _ _ _ h=>?_
  refine cD h (fun h=>?_) fun h=>pS h
  refine cO 1 [kS 0,kS 5] (Z2 R) h fun _ _ _ _ _ _ h=>?_
  refine sO [kS 0,kS 5] (MM R) ?_ fun _ _ _ _ _ _ h=>?_
  ·refine cO 1 [kS 0,kS 5,kB 39] (HW R) h fun _ _ _ _ _ _ _ h=>?_
   exact pS h
  refine cO 1 [kS 0,kS 5,kI .i64 6] (Z3 R) h fun _ _ _ _ _ _ _ h=>?_
  refine sO [kS 5,kI .i64 6] (Z5 R) ?_ fun _ _ _ _ _ _ h=>?_
  ·refine cO 1 [kS 5,kI .i64 6,kL 47,kI .i64 48,kI .i64 49] (Z4 R) h fun _ _ _ _ _ _ _ _ _ _ _ h=>?_
   refine bK ?_
   obtain ⟨e,a,h,hr⟩:=h
   refine lO [kS 5,kI .i64 6,kL 47,kI .i64 48,kI .i64 49] e a h fun a _ I S hle k l f d b g i h=>?_
   have h:=hr a k l f d b g i I S hle h
   exact pS h
  refine cO 1 [kI .i64 6] (KD R) h fun _ _ _ _ _ h=>?_
  exact pS h
 exact pS h
def z75 (R:RT) (g h:ByteArray) (r s:Int) (e:Value) (I:A0) (S:SH):Prop:=
 ∃ ei,eqI Tryz.prog e 240 (.int .i64 2) = some ei /\
 A2 ei
  (Runs Tryz.prog 151 #[.string g,.string h] I S fun v p q=>∃ l,v = .pointer l /\
  R (.iface 243 (.pointer l)) p q)
  (∃ ei',eqI Tryz.prog e 240 (.int .i64 1) = some ei' /\
  A2 ei'
   (Runs Tryz.prog 152 #[.string g,.string h] I S fun t i j=>∃ m,t = .pointer m /\
   R (.iface 243 (.pointer m)) i j)
   (∃ ei'',eqI Tryz.prog e 240 (.int .i64 3) = some ei'' /\
   A2 ei''
    (Runs Tryz.prog 153 #[.string g,.string h,.int .i64 r] I S fun k c d=>∃ n,k = .pointer n /\
    R (.iface 243 (.pointer n)) c d)
    (∃ ei_r3,eqI Tryz.prog e 240 (.int .i64 4) = some ei_r3 /\
    A2 ei_r3
     (Runs Tryz.prog 154 #[.string g,.string h,.int .i64 s] I S fun f a b=>∃ o,f = .pointer o /\
     R (.iface 243 (.pointer o)) a b)
     (R e I S))))
theorem z75_fn (R:RT) (a b:ByteArray) (d e:Int) (f:Value) (I:A0) (S:SH) (h:z75 R a b d e f I S):Runs Tryz.prog 138 #[.string a,.string b,.int .i64 d,.int .i64 e,f] I S R:=by
 refine Runs.of_wp (c:=cd Tryz.f138) Tryz.func138 (by kernel_rfl) (by kernel_rfl) ?_
 exact pS h
def z53 (R:RT) (g:ByteArray) (h i:Int) (I:A0) (S:SH):Prop:=
 Runs Tryz.prog 158 #[.string g,.int .i64 h,.int .i64 i] I S fun v e f=>∃ c d,v = .tuple #[.int .u64 c,d] /\
 ∃ nl,BX d = some nl /\
 A2 (!nl)
  (Runs Tryz.prog 138 #[.string ⟨#[80,97,114,115,101,85,105,110,116]⟩,.string g,.int .i64 h,.int .i64 i,d] e f fun k a b=>∃ j,k = j /\
  R (.tuple #[.int .u64 c,j]) a b)
  (R (.tuple #[.int .u64 c,.nilIface]) e f)
theorem z53_fn (R:RT) (a:ByteArray) (b d:Int) (I:A0) (S:SH) (h:z53 R a b d I S):Runs Tryz.prog 144 #[.string a,.int .i64 b,.int .i64 d] I S R:=by
 refine Runs.of_wp (c:=cd Tryz.f144) Tryz.func144 (by kernel_rfl) (by kernel_rfl) ?_
 exact pS h
abbrev CD:=Int -> Bool -> ByteArray -> Int -> Int -> Bool -> Int -> OA -> Nat -> Nat -> Int -> Int -> PR
def Kv (g9:CD) (R:RT) (j:Int) (k:Bool) (l:ByteArray) (e f:Int) (g:Bool) (h:Int) (i:OA) (d c:Nat) (a b:Int) (I:A0) (S:SH):Prop:=
 g9 j k l e f g h i d c a (IntKind.wrap .i64 (b + (1:Int))) I S
def S7 (g9:CD) (R:RT) (j:Int) (k:Bool) (l:ByteArray) (e f:Int) (g:Bool) (h:Int) (i:OA) (d c:Nat) (a b:Int) (I:A0) (S:SH):Prop:=
 Kv g9 R j k l e f g h i d c a b I S
def Kw (g9:CD) (R:RT) (k:Int) (l:Bool) (m:ByteArray) (g c:Int) (h:Bool) (i:Int) (j:OA) (f e:Nat) (a b:Int) (d:Bool) (I:A0) (S:SH):Prop:=
 A2 d
  (R (.tuple #[.int .u64 c,(.iface 240 (.int .i64 1))]) I S)
  (S7 g9 R k l m g c h i j f e a b I S)
def S6 (g9:CD) (R:RT) (k:Int) (l:Bool) (m:ByteArray) (g f:Int) (h:Bool) (j a:Int) (i:OA) (e d:Nat) (b c:Int) (I:A0) (S:SH):Prop:=
 A2 (decide (a < j))
  (Kw g9 R k l m g f h a i e d b c true I S)
  (Kw g9 R k l m g f h a i e d b c (decide (a > f)) I S)
def Hb (g9:CD) (R:RT) (i:Int) (l:Bool) (m:ByteArray) (b e:Int) (j:Bool) (a f:Int) (k:OA) (h g:Nat) (c d:Int) (I:A0) (S:SH):Prop:=
 A2 (decide (f >= (IntKind.wrap .u8 i)))
  (R (.tuple #[.int .u64 0,(.iface 240 (.int .i64 2))]) I S)
  (A2 (decide (a >= b))
   (R (.tuple #[.int .u64 e,(.iface 240 (.int .i64 1))]) I S)
   (S6 g9 R i l m b e j (IntKind.wrap .u64 (a * (IntKind.wrap .u64 i))) (IntKind.wrap .u64 ((IntKind.wrap .u64 (a * (IntKind.wrap .u64 i))) + (IntKind.wrap .u64 f))) k h g c d I S))
def Kx (g9:CD) (R:RT) (o:Int) (p:Bool) (q:ByteArray) (f g:Int) (h:Bool) (i j:Int) (k:OA) (e d:Nat) (a b:Int) (c:Bool) (I:A0) (S:SH):Prop:=
 A2 c
  (Runs Tryz.prog 167 #[.int .u8 j] I S fun v m n=>∃ l,v = .int .u8 l /\
  Hb g9 R o p q f g h i (IntKind.wrap .u8 ((IntKind.wrap .u8 (l - (97:Int))) + (10:Int))) k e d a b m n)
  (R (.tuple #[.int .u64 0,(.iface 240 (.int .i64 2))]) I S)
def Fu (g9:CD) (R:RT) (n:Int) (o:Bool) (p:ByteArray) (f g:Int) (h:Bool) (i c:Int) (j:OA) (e d:Nat) (a b:Int) (k:Bool) (I:A0) (S:SH):Prop:=
 A2 k
  (Hb g9 R n o p f g h i (IntKind.wrap .u8 (c - (48:Int))) j e d a b I S)
  (Runs Tryz.prog 167 #[.int .u8 c] I S fun v q r=>∃ s,v = .int .u8 s /\
  A2 (decide ((97:Int) <= s))
   (Runs Tryz.prog 167 #[.int .u8 c] q r fun u l m=>∃ t,u = .int .u8 t /\
   Kx g9 R n o p f g h i c j e d a b (decide (t <= (122:Int))) l m)
   (Kx g9 R n o p f g h i c j e d a b false q r))
def Ku (g9:CD) (R:RT) (l:Int) (m:Bool) (n:ByteArray) (f g:Int) (k:Bool) (h e:Int) (i:OA) (d c:Nat) (a b:Int) (j:Bool) (I:A0) (S:SH):Prop:=
 A2 j
  (Kv g9 R l m n f g true h i d c a b I S)
  (A2 (decide ((48:Int) <= e))
   (Fu g9 R l m n f g k h e i d c a b (decide (e <= (57:Int))) I S)
   (Fu g9 R l m n f g k h e i d c a b false I S))
def S5 (g9:CD) (R:RT) (l:Int) (k:Bool) (m:ByteArray) (f g:Int) (h:Bool) (i e:Int) (j:OA) (d c:Nat) (a b:Int) (I:A0) (S:SH):Prop:=
 A2 (e == (95:Int))
  (Ku g9 R l k m f g h i e j d c a b k I S)
  (Ku g9 R l k m f g h i e j d c a b false I S)
def S4 (g9:CD) (R:RT) (l:Int) (m:Bool) (n:ByteArray) (f g:Int) (h:Bool) (i:Int) (d:OA) (b e:Nat) (c a:Int) (I:A0) (S:SH):Prop:=
 Ab d fun k=>(0:Int) <= a /\ a < (b:Int) /\
 ∃ j,A1 I S (k.add (a.toNat * 1)) (.int .u8 j) /\
 S5 g9 R l m n f g h i j d b e c a I S
def Sa (R:RT) (a:Int) (I:A0) (S:SH):Prop:=
 R (.tuple #[.int .u64 a,.nilIface]) I S
def Ky (R:RT) (b:Int) (a:Bool) (I:A0) (S:SH):Prop:=
 A2 a
  (R (.tuple #[.int .u64 0,(.iface 240 (.int .i64 2))]) I S)
  (Sa R b I S)
def S9 (R:RT) (f:ByteArray) (b:Bool) (a:Int) (I:A0) (S:SH):Prop:=
 A2 b
  (Runs Tryz.prog 168 #[.string f] I S fun v d e=>∃ c,v = .bool c /\
  Ky R a (!c) d e)
  (Ky R a false I S)
def z34_l9 (g9:CD) (R:RT) (k:Int) (l:Bool) (j:ByteArray) (g h:Int) (c:Bool) (d:Int) (i:OA) (f e:Nat) (a b:Int) (I:A0) (S:SH):Prop:=
 A2 (decide (b < a))
  (S4 g9 R k l j g h c d i f e a b I S)
  (S9 R j c d I S)
def Xz (R:RT) (j:Int) (k:Bool) (l:ByteArray) (e f:Int) (g:Bool) (h:Int) (i:OA) (d c:Nat) (a b:Int) (I:A0) (S:SH):Prop:=
 ∃ (Inv:Nat -> CD) (m:Nat),Inv m j k l e f g h i d c a b I S /\
  ∀ (m:Nat) (j:Int) (k:Bool) (l:ByteArray) (e f:Int) (g:Bool) (h:Int) (i:OA) (d c:Nat) (a b:Int) (J:A0) (T:SH),I.le J -> Inv m j k l e f g h i d c a b J T ->
   z34_l9 (fun j k l e f g h i d c a b I S=>∃ m',m' < m /\ Inv m' j k l e f g h i d c a b I S) R j k l e f g h i d c a b J T
def Si (R:RT) (a:ByteArray) (g:Int) (h:Bool) (i:ByteArray) (c d:Int) (e:Bool) (f:Int) (I:A0) (S:SH):Prop:=
 a.size <= maxLen /\ ∀ b c99:Nat,a.size <= c99 -> c99 <= maxLen ->
 Xz R g h i c d e f (some ⟨b,0,none⟩) a.size c99 ((a.size:Nat):Int) 0 I ((b,.cells (byteCells a ++ AG (c99 - a.size) [.int .u8 0]).toArray 5 (c99,c99 + 1)) :: S)
def Mr (R:RT) (c:ByteArray) (d b:Int) (e:Bool) (f:ByteArray) (a:Int) (I:A0) (S:SH):Prop:=
 A2 (decide ((IntKind.wrap .u64 b) < 0)) False (Si R c d e f a (IntKind.wrap .u64 ((IntKind.wrap .u64 ((1:Int) * 2 ^ (min (IntKind.wrap .u64 b).toNat (IntKind.bits .u64)))) - (1:Int))) false 0 I S)
def Sg (R:RT) (b:ByteArray) (a c:Int) (d:Bool) (e:ByteArray) (I:A0) (S:SH):Prop:=
 A2 (a == (10:Int))
  (Mr R b a c d e 1844674407370955162 I S)
  (A2 (a == (16:Int))
   (Mr R b a c d e 1152921504606846976 I S)
   (A2 (decide ((IntKind.wrap .u64 a) = 0)) False (Mr R b a c d e (IntKind.wrap .u64 ((IntKind.wrap .u64 ((18446744073709551615:Int).tdiv (IntKind.wrap .u64 a))) + (1:Int))) I S)))
def Kz (R:RT) (b:ByteArray) (c d:Int) (e:Bool) (f:ByteArray) (a:Bool) (I:A0) (S:SH):Prop:=
 A2 a
  (R (.tuple #[.int .u64 0,(.iface 240 (.int .i64 4))]) I S)
  (Sg R b c d e f I S)
def Xy (R:RT) (b:ByteArray) (c a:Int) (e:Bool) (f:ByteArray) (d:Bool) (I:A0) (S:SH):Prop:=
 A2 d
  (Sg R b c 64 e f I S)
  (A2 (decide (a < (0:Int)))
   (Kz R b c a e f true I S)
   (Kz R b c a e f (decide (a > (64:Int))) I S))
def F4 (R:RT) (b:ByteArray) (c a:Int) (d:Bool) (e:ByteArray) (I:A0) (S:SH):Prop:=
 Xy R b c a d e (a == (0:Int)) I S
def Sf (R:RT) (a:ByteArray) (c:Int) (d:Bool) (e:ByteArray) (b:Bool) (I:A0) (S:SH):Prop:=
 A2 b
  ((0:Int) <= (2:Int) /\ (2:Int) <= ((a.size:Nat):Int) /\
  F4 R (a.extract ((2:Int).toNat) a.size) 16 c d e I S)
  ((0:Int) <= (1:Int) /\ (1:Int) <= ((a.size:Nat):Int) /\
  F4 R (a.extract ((1:Int).toNat) a.size) 8 c d e I S)
def Se (R:RT) (a:ByteArray) (b:Int) (d:Bool) (e:ByteArray) (c:Bool) (I:A0) (S:SH):Prop:=
 A2 c
  ((0:Int) <= (2:Int) /\ (2:Int) <= ((a.size:Nat):Int) /\
  F4 R (a.extract ((2:Int).toNat) a.size) 8 b d e I S)
  (A2 (decide ((a.size:Int) >= (3:Int)))
   (∃ f:UInt8,(0:Int) <= (1:Int) /\ a[(1:Int).toNat]? = some f /\
   Runs Tryz.prog 167 #[.int .u8 (f.toNat:Int)] I S fun v h i=>∃ g,v = .int .u8 g /\
   Sf R a b d e (g == (120:Int)) h i)
   (Sf R a b d e false I S))
def Sd (R:RT) (a:ByteArray) (b:Int) (d:Bool) (e:ByteArray) (c:Bool) (I:A0) (S:SH):Prop:=
 A2 c
  ((0:Int) <= (2:Int) /\ (2:Int) <= ((a.size:Nat):Int) /\
  F4 R (a.extract ((2:Int).toNat) a.size) 2 b d e I S)
  (A2 (decide ((a.size:Int) >= (3:Int)))
   (∃ f:UInt8,(0:Int) <= (1:Int) /\ a[(1:Int).toNat]? = some f /\
   Runs Tryz.prog 167 #[.int .u8 (f.toNat:Int)] I S fun v h i=>∃ g,v = .int .u8 g /\
   Se R a b d e (g == (111:Int)) h i)
   (Se R a b d e false I S))
def z34_b25 (R:RT) (a:ByteArray) (j b:Int) (d:Bool) (e:ByteArray) (c:Bool) (I:A0) (S:SH):Prop:=
 A2 c
  (A2 (decide ((a.size:Int) >= (3:Int)))
   (∃ f:UInt8,(0:Int) <= (1:Int) /\ a[(1:Int).toNat]? = some f /\
   Runs Tryz.prog 167 #[.int .u8 (f.toNat:Int)] I S fun v h i=>∃ g,v = .int .u8 g /\
   Sd R a b d e (g == (98:Int)) h i)
   (Sd R a b d e false I S))
  (F4 R a j b d e I S)
def z34_b24 (R:RT) (c:ByteArray) (d:Int) (e:Bool) (f:ByteArray) (a:Bool) (I:A0) (S:SH):Prop:=
 A2 a
  (∃ b:UInt8,(0:Int) <= (0:Int) /\ c[(0:Int).toNat]? = some b /\
  z34_b25 R c 10 d e f ((b.toNat:Int) == (48:Int)) I S)
  (R (.tuple #[.int .u64 0,(.iface 240 (.int .i64 3))]) I S)
def S8 (R:RT) (b:ByteArray) (c d:Int) (e:Bool) (f:ByteArray) (a:Bool) (I:A0) (S:SH):Prop:=
 A2 a
  (F4 R b c d e f I S)
  (z34_b24 R b d e f (c == (0:Int)) I S)
def Xx (R:RT) (b:ByteArray) (a c:Int) (d:Bool) (e:ByteArray) (I:A0) (S:SH):Prop:=
 A2 (decide ((2:Int) <= a))
  (S8 R b a c d e (decide (a <= (36:Int))) I S)
  (S8 R b a c d e false I S)
def z34 (R:RT) (a:ByteArray) (b c:Int) (I:A0) (S:SH):Prop:=
 A2 (a.toList == (⟨#[]⟩:ByteArray).toList)
  (R (.tuple #[.int .u64 0,(.iface 240 (.int .i64 2))]) I S)
  (Xx R a b c (b == (0:Int)) a I S)
theorem z34_fn (R:RT) (q:ByteArray) (r s:Int) (I:A0) (S:SH) (h:z34 R q r s I S):Runs Tryz.prog 158 #[.string q,.int .i64 r,.int .i64 s] I S R:=by
 refine Runs.of_wp (c:=cd Tryz.f158) Tryz.func158 (by kernel_rfl) (by kernel_rfl) ?_
 refine cO 4 [kS 0,kI .i64 1,kI .i64 2,kB 8,kS 9] (Xx R) h fun _ _ _ _ _ _ _ _ _ h=>?_
 refine sO [kS 0,kI .i64 1,kI .i64 2,kB 8,kS 9] (F4 R) ?_ fun _ _ _ _ _ _ _ _ _ h=>?_
 ·refine bK ?_
  refine cO 1 [kS 0,kI .i64 1,kI .i64 2,kB 8,kS 9,kB 25] (S8 R) h fun _ _ _ _ _ _ _ _ _ _ h=>?_
  refine cD h (fun h=>pS h) fun h=>?_
  refine cO 1 [kS 0,kI .i64 2,kB 8,kS 9,kB 32] (z34_b24 R) h fun _ _ _ _ _ _ _ _ _ h=>?_
  refine cD h (fun h=>?_) fun h=>pS h
  refine cO 2 [kS 0,kI .i64 1,kI .i64 2,kB 8,kS 9,kB 37] (z34_b25 R) h fun _ _ _ _ _ _ _ _ _ _ h=>?_
  refine cD h (fun h=>?_) fun h=>pS h
  refine bK ?_
  refine cO 1 [kS 0,kI .i64 2,kB 8,kS 9,kB 40] (Sd R) h fun _ _ _ _ _ _ _ _ _ h=>?_
  refine cD h (fun h=>pS h) fun h=>?_
  refine cO 1 [kS 0,kI .i64 2,kB 8,kS 9,kB 52] (Se R) h fun _ _ _ _ _ _ _ _ _ h=>?_
  refine cD h (fun h=>pS h) fun h=>?_
  refine cO 1 [kS 0,kI .i64 2,kB 8,kS 9,kB 64] (Sf R) h fun _ _ _ _ _ _ _ _ _ h=>?_
  exact pS h
 refine sO [kS 0,kI .i64 1,kI .i64 2,kB 8,kS 9] (Sg R) ?_ fun _ _ _ _ _ _ _ _ _ h=>?_
 ·refine cO 1 [kS 0,kI .i64 1,kI .i64 2,kB 8,kS 9,kB 77] (Xy R) h fun _ _ _ _ _ _ _ _ _ _ h=>?_
  refine cD h (fun h=>pS h) fun h=>?_
  refine cO 1 [kS 0,kI .i64 1,kI .i64 2,kB 8,kS 9,kB 83] (Kz R) h fun _ _ _ _ _ _ _ _ _ _ h=>?_
  exact pS h
 refine cO 2 [kS 0,kI .i64 1,kI .i64 2,kB 8,kS 9,kI .u64 10] (Mr R) h fun _ _ _ _ _ _ _ _ _ _ h=>?_
 refine cO 3 [kS 0,kI .i64 1,kB 8,kS 9,kI .u64 10,kI .u64 11,kB 12,kI .u64 13] (Si R) h fun _ _ _ _ _ _ _ _ _ _ _ _ h=>?_
 refine sO [kS 9,kB 12,kI .u64 13] (S9 R) ?_ fun _ _ _ _ _ _ _ h=>?_
 ·refine cO 1 [kI .i64 1,kB 8,kS 9,kI .u64 10,kI .u64 11,kB 12,kI .u64 13,kL 99,kI .i64 100,kI .i64 101] (Xz R) h fun _ _ _ _ _ _ _ _ _ _ _ _ _ _ _ _ h=>?_
  refine bK ?_
  obtain ⟨m,l,h,hr⟩:=h
  refine lO [kI .i64 1,kB 8,kS 9,kI .u64 10,kI .u64 11,kB 12,kI .u64 13,kL 99,kI .i64 100,kI .i64 101] m l h fun l _ I S hle n o p f g i j k e d a b h=>?_
  have h:=hr l n o p f g i j k e d a b I S hle h
  refine cO 2 [kI .i64 1,kB 8,kS 9,kI .u64 10,kI .u64 11,kB 12,kI .u64 13,kL 99,kI .i64 100,kI .i64 101] (S4 (fun n o p f g i j k e d a b I S=>∃ m',m' < l /\ m m' n o p f g i j k e d a b I S) R) h fun _ _ _ _ _ _ _ _ _ _ _ _ _ _ _ _ h=>?_
  refine sO [kI .i64 1,kB 8,kS 9,kI .u64 10,kI .u64 11,kB 12,kI .u64 13,kL 99,kI .i64 100,kI .i64 101] (Kv (fun n o p f g i j k e d a b I S=>∃ m',m' < l /\ m m' n o p f g i j k e d a b I S) R) ?_ fun _ _ _ _ _ _ _ _ _ _ _ _ _ _ _ _ h=>?_
  ·refine bK ?_
   refine cO 2 [kI .i64 1,kB 8,kS 9,kI .u64 10,kI .u64 11,kB 12,kI .u64 13,kI .u8 15,kL 99,kI .i64 100,kI .i64 101] (S5 (fun n o p f g i j k e d a b I S=>∃ m',m' < l /\ m m' n o p f g i j k e d a b I S) R) h fun _ _ _ _ _ _ _ _ _ _ _ _ _ _ _ _ _ h=>?_
   refine sO [kI .i64 1,kB 8,kS 9,kI .u64 10,kI .u64 11,kB 12,kI .u64 13,kI .u8 16,kL 99,kI .i64 100,kI .i64 101] (Hb (fun n o p f g i j k e d a b I S=>∃ m',m' < l /\ m m' n o p f g i j k e d a b I S) R) ?_ fun _ _ _ _ _ _ _ _ _ _ _ _ _ _ _ _ _ h=>?_
   ·refine bK ?_
    refine cO 1 [kI .i64 1,kB 8,kS 9,kI .u64 10,kI .u64 11,kB 12,kI .u64 13,kI .u8 15,kL 99,kI .i64 100,kI .i64 101,kB 106] (Ku (fun n o p f g i j k e d a b I S=>∃ m',m' < l /\ m m' n o p f g i j k e d a b I S) R) h fun _ _ _ _ _ _ _ _ _ _ _ _ _ _ _ _ _ _ h=>?_
    refine cD h (fun h=>pS h) fun h=>?_
    refine cO 1 [kI .i64 1,kB 8,kS 9,kI .u64 10,kI .u64 11,kB 12,kI .u64 13,kI .u8 15,kL 99,kI .i64 100,kI .i64 101,kB 112] (Fu (fun n o p f g i j k e d a b I S=>∃ m',m' < l /\ m m' n o p f g i j k e d a b I S) R) h fun _ _ _ _ _ _ _ _ _ _ _ _ _ _ _ _ _ _ h=>?_
    refine cD h (fun h=>pS h) fun h=>?_
    refine cO 1 [kI .i64 1,kB 8,kS 9,kI .u64 10,kI .u64 11,kB 12,kI .u64 13,kI .u8 15,kL 99,kI .i64 100,kI .i64 101,kB 121] (Kx (fun n o p f g i j k e d a b I S=>∃ m',m' < l /\ m m' n o p f g i j k e d a b I S) R) h fun _ _ _ _ _ _ _ _ _ _ _ _ _ _ _ _ _ _ h=>?_
    exact pS h
   refine cO 4 [kI .i64 1,kB 8,kS 9,kI .u64 10,kI .u64 11,kB 12,kI .u64 13,kI .u64 17,kL 99,kI .i64 100,kI .i64 101] (S6 (fun n o p f g i j k e d a b I S=>∃ m',m' < l /\ m m' n o p f g i j k e d a b I S) R) h fun _ _ _ _ _ _ _ _ _ _ _ _ _ _ _ _ _ h=>?_
   refine sO [kI .i64 1,kB 8,kS 9,kI .u64 10,kI .u64 11,kB 12,kI .u64 17,kL 99,kI .i64 100,kI .i64 101] (S7 (fun n o p f g i j k e d a b I S=>∃ m',m' < l /\ m m' n o p f g i j k e d a b I S) R) ?_ fun _ _ _ _ _ _ _ _ _ _ _ _ _ _ _ _ h=>?_
   ·refine cO 1 [kI .i64 1,kB 8,kS 9,kI .u64 10,kI .u64 11,kB 12,kI .u64 17,kL 99,kI .i64 100,kI .i64 101,kB 159] (Kw (fun n o p f g i j k e d a b I S=>∃ m',m' < l /\ m m' n o p f g i j k e d a b I S) R) h fun _ _ _ _ _ _ _ _ _ _ _ _ _ _ _ _ _ h=>?_
    exact pS h
   exact pS h
  exact pS h
 refine sO [kI .u64 13] (Sa R) ?_ fun _ _ _ _ _ h=>?_
 ·refine cO 1 [kI .u64 13,kB 169] (Ky R) h fun _ _ _ _ _ _ h=>?_
  exact pS h
 exact pS h
def z44 (R:RT) (d e:Int) (I:A0) (S:SH):Prop:=
 Runs Tryz.prog 159 #[.int .u64 d,.int .i64 e] I S fun v b c=>∃ a,v = .string a /\
 R (.string a) b c
theorem z44_fn (R:RT) (a b:Int) (I:A0) (S:SH) (h:z44 R a b I S):Runs Tryz.prog 145 #[.int .u64 a,.int .i64 b] I S R:=by
 refine Runs.of_wp (c:=cd Tryz.f145) Tryz.func145 (by kernel_rfl) (by kernel_rfl) ?_
 exact pS h
def z27 (R:RT) (f n:Int) (I:A0) (S:SH):Prop:=
 A2 (n == (10:Int))
  (A2 (decide (f < (100:Int)))
   (Runs Tryz.prog 146 #[.int .i64 (IntKind.wrap .i64 f)] I S fun v r s=>∃ o,v = .string o /\
   R (.string o) r s)
   (∀ j:Nat,
   Runs Tryz.prog 147 #[.int .u64 f] I ((j,.cells #[.int .u8 0,.int .u8 0,.int .u8 0,.int .u8 0,.int .u8 0,.int .u8 0,.int .u8 0,.int .u8 0,.int .u8 0,.int .u8 0,.int .u8 0,.int .u8 0,.int .u8 0,.int .u8 0,.int .u8 0,.int .u8 0,.int .u8 0,.int .u8 0,.int .u8 0,.int .u8 0,.int .u8 0,.int .u8 0,.int .u8 0,.int .u8 0] 235 (0,0)) :: S) fun u h i=>∃ e,u = .int .i64 e /\
   (0:Int) <= e /\ e <= ((24:Nat):Int) /\
   Runs Tryz.prog 148 #[.slice (Bk (some ⟨j,0,none⟩) 24 0 1) (e.toNat - 0) (24 - 0),.int .u64 f] h i fun m a b=>m = .tuple #[] /\
   (0:Int) <= e /\ e <= ((24:Nat):Int) /\
   ∃ p:ByteArray,Aw a b (Bk (some ⟨j,0,none⟩) 24 0 1) (e.toNat - 0) p /\
   R (.string p) a b))
  (Runs Tryz.prog 149 #[.slice none 0 0,.int .u64 f,.int .i64 n,.bool false,.bool false] I S fun g c d=>∃ t l k q,g = .tuple #[.slice t l k,.string q] /\
  R (.string q) c d)
theorem z27_fn (R:RT) (a b:Int) (I:A0) (S:SH) (h:z27 R a b I S):Runs Tryz.prog 159 #[.int .u64 a,.int .i64 b] I S R:=by
 refine Runs.of_wp (c:=cd Tryz.f159) Tryz.func159 (by kernel_rfl) (by kernel_rfl) ?_
 exact pS h
def KB (R:RT) (a:Int) (I:A0) (S:SH):Prop:=
 R (.tuple #[.int .i64 a,.nilIface]) I S
def Su (R:RT) (b:Bool) (a:Int) (I:A0) (S:SH):Prop:=
 A2 b
  (KB R (IntKind.wrap .i64 (0 - (IntKind.wrap .i64 a))) I S)
  (KB R (IntKind.wrap .i64 a) I S)
def Sz (R:RT) (c:Bool) (d a:Int) (b:Bool) (I:A0) (S:SH):Prop:=
 A2 b
  (R (.tuple #[.int .i64 (IntKind.wrap .i64 (0 - (IntKind.wrap .i64 a))),(.iface 240 (.int .i64 1))]) I S)
  (Su R c d I S)
def Yt (R:RT) (b:Bool) (c a:Int) (I:A0) (S:SH):Prop:=
 A2 b
  (Sz R b c a (decide (c > a)) I S)
  (Sz R b c a false I S)
def Sy (R:RT) (c:Bool) (d a:Int) (b:Bool) (I:A0) (S:SH):Prop:=
 A2 b
  (R (.tuple #[.int .i64 (IntKind.wrap .i64 (IntKind.wrap .u64 (a - (1:Int)))),(.iface 240 (.int .i64 1))]) I S)
  (Yt R c d a I S)
def Sx (R:RT) (b:Bool) (c a:Int) (I:A0) (S:SH):Prop:=
 A2 (!b)
  (Sy R b c a (decide (c >= a)) I S)
  (Sy R b c a false I S)
def Sw (R:RT) (a:Int) (b:Bool) (c:Int) (I:A0) (S:SH):Prop:=
 A2 (decide ((IntKind.wrap .u64 (IntKind.wrap .i64 (a - (1:Int)))) < 0)) False (Sx R b c (IntKind.wrap .u64 ((1:Int) * 2 ^ (min (IntKind.wrap .u64 (IntKind.wrap .i64 (a - (1:Int)))).toNat (IntKind.bits .u64)))) I S)
def Ys (R:RT) (a:Int) (b:Bool) (c:Int) (I:A0) (S:SH):Prop:=
 A2 (a == (0:Int))
  (Sw R 64 b c I S)
  (Sw R a b c I S)
def Sv (R:RT) (b:Int) (c:Value) (d:Bool) (e:Int) (a:Bool) (I:A0) (S:SH):Prop:=
 A2 a
  (R (.tuple #[.int .i64 0,c]) I S)
  (Ys R b d e I S)
def Yr (R:RT) (b:Int) (a:Value) (c:Bool) (d:Int) (I:A0) (S:SH):Prop:=
 ∃ nl,BX a = some nl /\
 A2 (!nl)
  (∃ ei,eqI Tryz.prog a 240 (.int .i64 1) = some ei /\
  Sv R b a c d (!ei) I S)
  (Sv R b a c d false I S)
def HU (R:RT) (f:ByteArray) (g c:Int) (h:Bool) (I:A0) (S:SH):Prop:=
 Runs Tryz.prog 158 #[.string f,.int .i64 g,.int .i64 c] I S fun v d e=>∃ a b,v = .tuple #[.int .u64 a,b] /\
 Yr R c b h a d e
def z68 (R:RT) (a:ByteArray) (b c:Int) (I:A0) (S:SH):Prop:=
 A2 (a.toList == (⟨#[]⟩:ByteArray).toList)
  (R (.tuple #[.int .i64 0,(.iface 240 (.int .i64 2))]) I S)
  (∃ d:UInt8,(0:Int) <= (0:Int) /\ a[(0:Int).toNat]? = some d /\
  A2 ((d.toNat:Int) == (43:Int))
   ((0:Int) <= (1:Int) /\ (1:Int) <= ((a.size:Nat):Int) /\
   HU R (a.extract ((1:Int).toNat) a.size) b c false I S)
   (A2 ((d.toNat:Int) == (45:Int))
    ((0:Int) <= (1:Int) /\ (1:Int) <= ((a.size:Nat):Int) /\
    HU R (a.extract ((1:Int).toNat) a.size) b c true I S)
    (HU R a b c false I S)))
theorem z68_fn (R:RT) (a:ByteArray) (b d:Int) (I:A0) (S:SH) (h:z68 R a b d I S):Runs Tryz.prog 150 #[.string a,.int .i64 b,.int .i64 d] I S R:=by
 refine Runs.of_wp (c:=cd Tryz.f150) Tryz.func150 (by kernel_rfl) (by kernel_rfl) ?_
 refine cO 4 [kS 0,kI .i64 1,kI .i64 2,kB 8] (HU R) h fun _ _ _ _ _ _ _ _ h=>?_
 refine cO 2 [kI .i64 2,kV 7,kB 8,kI .u64 9] (Yr R) h fun _ _ _ _ _ _ _ _ h=>?_
 refine sO [kI .i64 2,kB 8,kI .u64 9] (Ys R) ?_ fun _ _ _ _ _ _ _ h=>?_
 ·refine cO 1 [kI .i64 2,kV 7,kB 8,kI .u64 9,kB 38] (Sv R) h fun _ _ _ _ _ _ _ _ _ h=>?_
  exact pS h
 refine cO 1 [kI .i64 2,kB 8,kI .u64 9] (Sw R) h fun _ _ _ _ _ _ _ h=>?_
 refine cO 1 [kB 8,kI .u64 9,kI .u64 10] (Sx R) h fun _ _ _ _ _ _ _ h=>?_
 refine sO [kB 8,kI .u64 9,kI .u64 10] (Yt R) ?_ fun _ _ _ _ _ _ _ h=>?_
 ·refine cO 1 [kB 8,kI .u64 9,kI .u64 10,kB 52] (Sy R) h fun _ _ _ _ _ _ _ _ h=>?_
  exact pS h
 refine sO [kB 8,kI .u64 9] (Su R) ?_ fun _ _ _ _ _ _ h=>?_
 ·refine cO 1 [kB 8,kI .u64 9,kI .u64 10,kB 62] (Sz R) h fun _ _ _ _ _ _ _ _ h=>?_
  exact pS h
 refine cO 2 [kI .i64 11] (KB R) h fun _ _ _ _ _ h=>?_
 exact pS h
def XB (R:RT) (a:OA) (I:A0) (S:SH):Prop:=
 R (.pointer a) I S
def XA (R:RT) (g h:ByteArray) (I:A0) (S:SH):Prop:=
 ∃ d e,A1 I S ⟨1,0,none⟩ (.iface d e) /\
 Runs Tryz.prog 165 #[.string h] I S fun v b c=>∃ f,v = .string f /\
 AN I S b c /\
 ∀ a:Nat,
 XB R (some ⟨a,0,none⟩) b ((a,.cells #[.string g,.string f,(.iface d e)] 258 (0,0)) :: c)
def z35 (R:RT) (a b:ByteArray) (I:A0) (S:SH):Prop:=
 XA R a b I S
theorem z35_fn (R:RT) (a b:ByteArray) (I:A0) (S:SH) (h:z35 R a b I S):Runs Tryz.prog 151 #[.string a,.string b] I S R:=by
 refine Runs.of_wp (c:=cd Tryz.f151) Tryz.func151 (by kernel_rfl) (by kernel_rfl) ?_
 refine cO 1 [kS 0,kS 1] (XA R) h fun _ _ _ _ _ _ h=>?_
 refine sO [kP 4] (XB R) (dR (.take 0 (.take 1 (.take 3 (.step 2 (.take 4 (.step 5 (.take 6 .done))))))) [2,5] h) fun _ _ _ _ _ h=>?_
 exact pS h
def XK (R:RT) (a:OA) (I:A0) (S:SH):Prop:=
 R (.pointer a) I S
def XJ (R:RT) (g h:ByteArray) (I:A0) (S:SH):Prop:=
 ∃ d e,A1 I S ⟨2,0,none⟩ (.iface d e) /\
 Runs Tryz.prog 165 #[.string h] I S fun v b c=>∃ f,v = .string f /\
 AN I S b c /\
 ∀ a:Nat,
 XK R (some ⟨a,0,none⟩) b ((a,.cells #[.string g,.string f,(.iface d e)] 258 (0,0)) :: c)
def z46 (R:RT) (a b:ByteArray) (I:A0) (S:SH):Prop:=
 XJ R a b I S
theorem z46_fn (R:RT) (a b:ByteArray) (I:A0) (S:SH) (h:z46 R a b I S):Runs Tryz.prog 152 #[.string a,.string b] I S R:=by
 refine Runs.of_wp (c:=cd Tryz.f152) Tryz.func152 (by kernel_rfl) (by kernel_rfl) ?_
 refine cO 1 [kS 0,kS 1] (XJ R) h fun _ _ _ _ _ _ h=>?_
 refine sO [kP 4] (XK R) (dR (.take 0 (.take 1 (.take 3 (.step 2 (.take 4 (.step 5 (.take 6 .done))))))) [2,5] h) fun _ _ _ _ _ h=>?_
 exact pS h
def z57 (R:RT) (a:ByteArray) (I:A0) (S:SH):Prop:=
 A2 ((a.size:Int) == (0:Int))
  (R (.string ⟨#[]⟩) I S)
  ((0:Int) <= (a.size:Int) /\ (a.size:Int) <= (a.size:Int) /\ (a.size:Int) <= 9223372036854775807 /\ (1:Int) * (a.size:Int) <= 281474976710656 /\ ∀ c:Nat,
  Ct 1 I ((c,.cells (AG (a.size:Int).toNat [.int .u8 0]).toArray 5 (0,0)) :: S) (.slice (some ⟨c,0,none⟩) ((a.size:Int).toNat) ((a.size:Int).toNat)) (.string a) fun g d=>
  Ab (some ⟨c,0,none⟩) fun e=>(0:Int) <= (0:Int) /\ (0:Int) < ((a.size:Int).toNat:Int) /\
  UsP Tryz.prog 5 I d (some (e.add ((0:Int).toNat * 1))) (((a.size:Int).toNat:Nat):Int) fun f b=>
  R (.string f) I b)
theorem z57_fn (R:RT) (a:ByteArray) (I:A0) (S:SH) (h:z57 R a I S):Runs Tryz.prog 165 #[.string a] I S R:=by
 refine Runs.of_wp (c:=cd Tryz.f165) Tryz.func165 (by kernel_rfl) (by kernel_rfl) ?_
 exact pS h
def z90 (R:RT) (a:Int) (I:A0) (S:SH):Prop:=
 R (.int .u8 (ior .u8 a (32:Int))) I S
theorem z90_fn (R:RT) (a:Int) (I:A0) (S:SH) (h:z90 R a I S):Runs Tryz.prog 167 #[.int .u8 a] I S R:=by
 refine Runs.of_wp (c:=cd Tryz.f167) Tryz.func167 (by kernel_rfl) (by kernel_rfl) ?_
 exact pS h
def z139 (R:RT) (e f:Int) (I:A0) (S:SH):Prop:=
 Runs Tryz.prog 156 #[.int .u64 e,.int .u64 f] I S fun v c d=>∃ a b,v = .tuple #[.int .u64 a,.int .u64 b] /\
 R (.tuple #[.int .u64 a,.int .u64 b]) c d
theorem z139_fn (R:RT) (a b:Int) (I:A0) (S:SH) (h:z139 R a b I S):Runs Tryz.prog 139 #[.int .u64 a,.int .u64 b] I S R:=by
 refine Runs.of_wp (c:=cd Tryz.f139) Tryz.func139 (by kernel_rfl) (by kernel_rfl) ?_
 exact pS h
end Go.Proofs.YtoiilcdaldnjfaaGreatDoor
